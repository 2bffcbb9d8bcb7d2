/-
  What r05.Make's modules are good for: plain lemmas. No statement of its own.
-/
import Derived.Test.YtjgijbaboekghaaMakeQ
import Derived.Test.YtjgijbaboekghaaSame
set_option linter.unusedSimpArgs false
set_option linter.unusedVariables false
namespace Go.Proofs.Ytjgijbaboekghaa
open Go.RowKit
mutual
theorem sameSt_refl : (s : St) → sameSt s s = true
  | .mk k ak ai bk bi args body => by
    rw [sameSt, sameAll_refl body]
    simp
theorem sameAll_refl : (l : List St) → sameSt.sameAll l l = true
  | [] => by rw [sameSt.sameAll]
  | s :: r => by rw [sameSt.sameAll, sameSt_refl s, sameAll_refl r]; rfl
end
theorem sameB_refl (l : List St) : sameB l l = true := sameAll_refl l
theorem stmt1_flat (G F L S : Nat) (params : Nat → Nat) (k a b c : Nat) (hk : k % 10 ≠ 7) : (stmt1 G F L S params k a b c).kind ≠ 7 := by
  unfold stmt1
  dsimp only
  split
  · split
    · show (1 : Int) ≠ 7; decide
    · split <;> (show (1 : Int) ≠ 7; decide)
  · split
    · show (3 : Int) ≠ 7; decide
    · split
      · show (4 : Int) ≠ 7; decide
      · split
        · show (5 : Int) ≠ 7; decide
        · split
          · show (6 : Int) ≠ 7; decide
          · show (2 : Int) ≠ 7; decide
theorem mv_flat (p q r s : Int) : (St.mk 2 p q r s [] []).kind ≠ 7 := by show (2 : Int) ≠ 7; decide
theorem kids_no {m d : Nat} {s : St} (h : s.kind ≠ 7) : kidsT m d s = [] := by
  cases m with
  | zero => rfl
  | succ m => rw [kidsT, if_neg h]
theorem stmtS_kids (G F L S : Nat) (params : Nat → Nat) (k a b c m d : Nat) : (kidsT m d (stmtS G F L S params k a b c)).length ≤ 2 := by
  unfold stmtS
  split
  · rename_i h
    split
    · cases m with
      | zero => exact Nat.zero_le _
      | succ m => rw [kidsT, if_pos (show (St.mk 7 0 0 0 0 [] []).kind = 7 from rfl)]; rw [show (St.mk 7 0 0 0 0 [] []).body = [] from rfl, flatT_nil]; exact Nat.zero_le _
    · rename_i h8
      cases m with
      | zero => exact Nat.zero_le _
      | succ m =>
        rw [kidsT, if_pos (show (St.mk 7 0 0 0 0 [] _).kind = 7 from rfl)]
        show (flatT m (d + 1) [_, _]).length ≤ 2
        rw [show ∀ x y : St, [x, y] = [x] ++ [y] from fun _ _ => rfl, flatT_append, flatT_cons, flatT_cons, kids_no (stmt1_flat _ _ _ _ _ _ _ _ _ (by omega)), kids_no (mv_flat _ _ _ _)]
        exact Nat.le_refl _
  · rename_i h
    rw [kids_no (stmt1_flat _ _ _ _ _ _ _ _ _ h)]
    exact Nat.zero_le _
theorem addTo_body {fs : List Fn} {j q : Nat} {s : St} {x : Fn} (h : (addTo fs j s)[q]? = some x) : ∃ y, fs[q]? = some y ∧ (x.body = y.body ∨ x.body = y.body ++ [s]) := by
  unfold addTo at h
  rw [List.getElem?_modify] at h
  cases hy : fs[q]? with
  | none => rw [hy] at h; simp at h
  | some y =>
    rw [hy] at h
    refine ⟨y, rfl, ?_⟩
    simp at h
    subst h
    split
    · exact .inr rfl
    · exact .inl rfl
theorem bodD_flat (d : Dr) (i : Nat) : ∀ (q : Nat) x, (bodD d i)[q]? = some x → (flatT 1000 0 x.body).length ≤ 3 * i ∧ x.body.length ≤ i := by
  induction i with
  | zero =>
    intro q x hx
    have := mk2_body d.g d.f (nD d.f) x (List.mem_of_getElem? hx)
    rw [this]; exact ⟨by rw [flatT_nil]; exact Nat.zero_le _, Nat.zero_le _⟩
  | succ i ih =>
    intro q x hx
    rw [bodD] at hx
    obtain ⟨y, hy, h | h⟩ := addTo_body hx
    · have := ih q y hy; rw [h]; omega
    · have h1 := ih q y hy
      rw [h, flatT_append, flatT_cons, List.length_append, List.length_cons, List.length_append]
      have := stmtS_kids (d.g % 4) (nD d.f) (nlD d.f (jD (nD d.f) d.acts.length i)) (nsD (jD (nD d.f) d.acts.length i)) (parD d.f) (actAt d.acts i).1 (actAt d.acts i).2.1 (actAt d.acts i).2.2.1 (actAt d.acts i).2.2.2 1000 0
      unfold stOf
      simp only [List.length_cons, List.length_nil]
      omega
theorem makeM_flat (d : Dr) (hA : d.acts.length ≤ 60) : ∀ f ∈ (makeM d).funcs, (flatT 1000 0 f.body).length ≤ 180 ∧ f.body.length ≤ 60 := by
  intro f hf
  obtain ⟨x, hx, rfl⟩ := List.mem_map.1 hf
  obtain ⟨q, hq⟩ := List.mem_iff_getElem?.1 hx
  have := bodD_flat d d.acts.length q x hq
  show (flatT 1000 0 x.body).length ≤ 180 ∧ x.body.length ≤ 60
  omega
theorem makeM_len (d : Dr) : (makeM d).funcs.length = nD d.f := by
  show ((rawM d).funcs.map _).length = _
  rw [List.length_map]
  exact bodD_length d _
end Go.Proofs.Ytjgijbaboekghaa

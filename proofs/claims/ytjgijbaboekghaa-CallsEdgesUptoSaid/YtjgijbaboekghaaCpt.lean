/-
  slices.Compact of edges (function 53), where no two neighbours are one. No statement of its own.
-/
import Derived.Test.YtjgijbaboekghaaCmpE
import Derived.Test.YtjgijbaboekghaaVfn
set_option linter.unusedSimpArgs false
set_option linter.unusedVariables false
namespace Go.Proofs.Ytjgijbaboekghaa
open Go.RowKit
/-- The cells of edges. -/
def encE (l : List Ed) : List Value := l.flatMap edV
theorem encE_len (l : List Ed) : (encE l).length = l.length * 3 := by
  unfold encE
  induction l with
  | nil => rfl
  | cons x l ih => simp [edV, ih]; omega
theorem encE_append (l r : List Ed) : encE (l ++ r) = encE l ++ encE r := by unfold encE; rw [List.flatMap_append]
theorem encE_at {l : List Ed} {i : Nat} {x : Ed} (h : l[i]? = some x) : (encE l)[i * 3]? = some (.int .i64 x.1) ∧ (encE l)[i * 3 + 1]? = some (.int .i64 x.2.1) ∧ (encE l)[i * 3 + 2]? = some (.int .i64 x.2.2) := by
  induction l generalizing i with
  | nil => simp at h
  | cons y l ih =>
    have hc : encE (y :: l) = .int .i64 y.1 :: .int .i64 y.2.1 :: .int .i64 y.2.2 :: encE l := rfl
    cases i with
    | zero => simp at h; subst h; rw [hc]; exact ⟨rfl, rfl, rfl⟩
    | succ i =>
      obtain ⟨h1, h2, h3⟩ := ih (i := i) (by simpa using h)
      rw [hc, show (i + 1) * 3 = i * 3 + 1 + 1 + 1 by omega]
      refine ⟨?_, ?_, ?_⟩
      · simpa using h1
      · rw [show i * 3 + 1 + 1 + 1 + 1 = (i * 3 + 1) + 1 + 1 + 1 by omega]; simpa using h2
      · rw [show i * 3 + 1 + 1 + 1 + 2 = (i * 3 + 2) + 1 + 1 + 1 by omega]; simpa using h3
/-- Edges in a row of the call's own. -/
theorem edge_cells {w : World} {B n c g i : Nat} {l : List Ed} {x : Ed} (h : w.ownsRow B 68 3 (.slice (some ⟨g, 0, none⟩) n c) n (encE l)) (hx : l[i]? = some x) :
    w.cell? ⟨g, i * 3, none⟩ = some (.int .i64 x.1) ∧ w.cell? ⟨g, i * 3 + 1, none⟩ = some (.int .i64 x.2.1) ∧ w.cell? ⟨g, i * 3 + 2, none⟩ = some (.int .i64 x.2.2) :=
  ⟨(row_cell h (encE_at hx).1).1, (row_cell h (encE_at hx).2.1).1, (row_cell h (encE_at hx).2.2).1⟩
theorem edge_if {α : Type} {a b : α} {x1 x2 x3 y1 y2 y3 : Int} (h : (y1, y2, y3) ≠ (x1, x2, x3)) : (if y1 = x1 then if y2 = x2 then if y3 = x3 then a else b else b else b) = b := by
  by_cases h1 : y1 = x1
  · by_cases h2 : y2 = x2
    · rw [if_pos h1, if_pos h2, if_neg (fun h3 => h (by rw [h1, h2, h3]))]
    · rw [if_pos h1, if_neg h2]
  · rw [if_neg h1]
set_option maxRecDepth 20000 in
set_option maxHeartbeats 4000000 in
theorem compact_none (w : World) (B : Nat) (A : Option Addr) (n c : Nat) (l : List Ed) (hn : l.length = n) (hN : n ≤ 9007199254740992) (h : w.ownsRow B 68 3 (.slice A n c) n (encE l)) (hne : ∀ (j : Nat) x y, l[j]? = some x → l[j + 1]? = some y → y ≠ x) :
    Calls Try.prog 53 #[.slice A n c] w fun e w' => e = .returned (.slice A n c) ∧ ∃ m, w' = w.drewN m := by
  have HN := Lib.hid hn
  have HO := Lib.hid h
  have HNE := Lib.hid hne
  clear hn h hne
  by_cases h2 : n < 2
  · have h2I : (n : Int) < 2 := by omega
    go_enter Try.func53, Try.ntmps53
    go_wp2_with fail
    go_ret
    exact ⟨rfl, 0, rfl⟩
  · have h2I : ¬ (n : Int) < 2 := by omega
    obtain ⟨g, rfl, _, _⟩ := own_addr HO.out (by omega)
    go_enter Try.func53, Try.ntmps53
    go_wp2_with fail
    clear h2I
    go_loopw [3] (fun v3 wr => ∃ k : Nat, 1 ≤ k ∧ k ≤ n ∧ v3 = .int .i64 (k : Nat) ∧ ∃ m, wr = w.drewN m) (fun v3 _ => n - (intOf v3).toNat)
    case atStart => exact ⟨1, Nat.le_refl _, by omega, rfl, 0, rfl⟩
    case round =>
      obtain ⟨k, hk1, hkn, rfl, m, rfl⟩ := hrel
      by_cases hlt : k < n
      · have hltI : (k : Int) < (n : Int) := by omega
        have hk0 : (0 : Int) ≤ (k : Int) := by omega
        obtain ⟨j, hj⟩ : ∃ j, k = j + 1 := ⟨k - 1, by omega⟩
        obtain ⟨⟨x1, x2, x3⟩, hx⟩ : ∃ x, l[j]? = some x := ⟨_, List.getElem?_eq_getElem (by rw [HN.out]; omega)⟩
        obtain ⟨⟨y1, y2, y3⟩, hy⟩ : ∃ x, l[k]? = some x := ⟨_, List.getElem?_eq_getElem (by rw [HN.out]; omega)⟩
        obtain ⟨a1, a2, a3⟩ := edge_cells HO.out hx
        obtain ⟨b1, b2, b3⟩ := edge_cells HO.out hy
        have HD := Lib.hid (HNE.out j _ _ hx (by rw [← hj]; exact hy))
        have hj1 : (k : Int) - 1 = (j : Int) := by omega
        have hj0 : (0 : Int) ≤ (j : Int) := by omega
        have hjn : (j : Int) < (n : Int) := by omega
        have hwj : IntKind.i64.wrap (j : Int) = (j : Int) := IntWalk.i64_in _ (by omega)
        clear hx hy hj
        go_upto_region 6 with (fail)
        go_quiet ((rw [edge_if HD.out]; exact ⟨rfl, rfl⟩))
        go_wp2_with fail
        refine ⟨⟨k + 1, by omega, by omega, by go_num, m + nq, rfl⟩, by simp [intOf]; omega⟩
      · obtain rfl : n = k := by omega
        have hnn : ¬ (n : Int) < (n : Int) := by omega
        go_wp2_with fail
        go_ret
        exact ⟨rfl, m, rfl⟩
end Go.Proofs.Ytjgijbaboekghaa

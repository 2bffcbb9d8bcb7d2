/-
  slices.EqualFunc over functions (function 39).
-/
import Derived.Test.YtjgijbaboekghaaEqF
import Derived.StillTactics
set_option linter.unusedSimpArgs false
set_option linter.unusedVariables false
namespace Go.Proofs.Ytjgijbaboekghaa
open Go.RowKit
/-- Are the functions of two lists one, each by each? -/
def sameFns : List Fn → List Fn → Bool
  | [], [] => true
  | f :: r, g :: s => sameFn f g && sameFns r s
  | _, _ => false
theorem sameFns_true {l r : List Fn} : sameFns l r = true ↔ l.length = r.length ∧ ∀ (i : Nat) (x y : Fn), l[i]? = some x → r[i]? = some y → sameFn x y = true := by
  induction l generalizing r with
  | nil => cases r <;> simp [sameFns]
  | cons f l ih =>
    cases r with
    | nil => simp [sameFns]
    | cons g r =>
      rw [sameFns, Bool.and_eq_true, ih]
      constructor
      · rintro ⟨h1, h2, h3⟩
        refine ⟨by simp [h2], fun i x y hx hy => ?_⟩
        cases i with
        | zero =>
          simp at hx hy
          rw [← hx, ← hy]
          exact h1
        | succ i => exact h3 i x y (by simpa using hx) (by simpa using hy)
      · rintro ⟨h1, h2⟩
        exact ⟨h2 0 f g rfl rfl, by simpa using h1, fun i x y hx hy => h2 (i + 1) x y (by simpa using hx) (by simpa using hy)⟩
theorem sameFns_len {l r : List Fn} (h : l.length ≠ r.length) : sameFns l r = false := by
  cases e : sameFns l r with
  | false => rfl
  | true => exact absurd (sameFns_true.1 e).1 h
theorem sameFns_at {l r : List Fn} {i : Nat} {x y : Fn} (h1 : l[i]? = some x) (h2 : r[i]? = some y) (h : sameFn x y = false) : sameFns l r = false := by
  cases e : sameFns l r with
  | false => rfl
  | true => exact absurd ((sameFns_true.1 e).2 i x y h1 h2) (by rw [h]; decide)
set_option maxRecDepth 20000 in
set_option maxHeartbeats 4000000 in
theorem equalFns_calls (w : World) (v1 v2 : Value) (l1 l2 : List Fn) (h1 : ReadsF w v1 l1) (h2 : ReadsF w v2 l2) :
    Calls Try.prog 39 #[v1, v2, .func (.func 40) #[] #[]] w fun e w' => e = .returned (.bool (sameFns l1 l2)) ∧ Below w.heap.size w w' := by
  obtain ⟨a1, c1, rfl, hn1⟩ := h1.shape
  obtain ⟨a2, c2, rfl, hn2⟩ := h2.shape
  obtain ⟨n1, hl1⟩ : ∃ n, n = l1.length := ⟨_, rfl⟩
  obtain ⟨n2, hl2⟩ : ∃ n, n = l2.length := ⟨_, rfl⟩
  rw [← hl1] at h1 hn1 ⊢
  rw [← hl2] at h2 hn2 ⊢
  have H1 := Lib.hid h1
  have H2 := Lib.hid h2
  have L1 := Lib.hid hl1
  have L2 := Lib.hid hl2
  clear h1 h2 hl1 hl2
  by_cases hn : n1 = n2
  · subst hn
    go_enter Try.func39, Try.ntmps39
    go_wp2
    go_loopw [17] (fun iv wr => ∃ i : Nat, i ≤ n1 ∧ iv = .int .i64 i ∧ Hid (∀ (j : Nat) (x y : Fn), j < i → l1[j]? = some x → l2[j]? = some y → sameFn x y = true) ∧ Hid (Below w.heap.size w wr)) (fun iv _ => n1 - (intOf iv).toNat)
    case atStart => exact ⟨0, Nat.zero_le _, rfl, fun j x y hj => by omega, Below.refl _ _⟩
    case round =>
      obtain ⟨i, hi, rfl, HE, HB⟩ := hrel
      by_cases hlt : i < n1
      · obtain ⟨b1, o1, f, lv, sv, bv, rfl, e1, ⟨x0, x1, x2, x3, x4⟩, k1, k2, ⟨ba, bl, bc, rfl, kn, k3⟩⟩ := (H1.out.sub (sub_below HB.out)).at hlt
        obtain ⟨b2, o2, g, lv', sv', bv', rfl, e2, ⟨y0, y1, y2, y3, y4⟩, j1, j2, ⟨ba', bl', bc', rfl, jn, j3⟩⟩ := (H2.out.sub (sub_below HB.out)).at hlt
        obtain ⟨la, lc, rfl, ln⟩ := k1.shape
        obtain ⟨sa, sc, rfl, sn⟩ := k2.shape
        obtain ⟨la', lc', rfl, ln'⟩ := j1.shape
        obtain ⟨sa', sc', rfl, sn'⟩ := j2.shape
        have A1 : ∀ o, Sub wr (wr.alloc o) := fun o => sub_below ((Below.refl _ _).alloc (Nat.le_refl _) o)
        have z0 := fun o => A1 o _ _ y0
        have z1 := fun o => A1 o _ _ y1
        have z2 := fun o => A1 o _ _ y2
        have z3 := fun o => A1 o _ _ y3
        have z4 := fun o => A1 o _ _ y4
        clear A1
        have K := Lib.hid (And.intro (And.intro k1 (And.intro k2 k3)) (And.intro j1 (And.intro j2 j3)))
        have E := Lib.hid (And.intro e1 e2)
        have b2 : ∀ o1 o2, Below w.heap.size w ((wr.alloc o1).alloc o2) := fun o1 o2 => HB.out.trans (((Below.refl _ _).alloc HB.out.size _).alloc (by simp; exact Nat.le_succ_of_le HB.out.size) _)
        have B2 := Lib.hid b2
        have b3 : ∀ o1 o2, Below wr.heap.size wr ((wr.alloc o1).alloc o2) := fun o1 o2 => ((Below.refl _ _).alloc (Nat.le_refl _) _).alloc (by simp) _
        have B3 := Lib.hid b3
        clear b2 b3 k1 k2 k3 j1 j2 j3 e1 e2
        go_wp2_with fail
        refine (sameFn_calls _ f g _ _ _ _ _ _ _ _ _ _ ?_ ?_ ?_ ?_ ?_ ?_).mono ?_
        · exact K.out.1.1.sub (sub_below (B3.out _ _))
        · exact K.out.2.1.sub (sub_below (B3.out _ _))
        · exact K.out.1.2.1.sub (sub_below (B3.out _ _))
        · exact K.out.2.2.1.sub (sub_below (B3.out _ _))
        · exact K.out.1.2.2.below (B3.out _ _)
        · exact K.out.2.2.2.below (B3.out _ _)
        rintro e w2 ⟨rfl, hb⟩
        have HB2 := Lib.hid ((B2.out _ _).trans (hb.mono (B2.out _ _).size))
        clear hb z0 z1 z2 z3 z4
        cases hS : sameFn f g with
        | true =>
          have HSS := Lib.hid hS
          clear hS
          go_wp2
          refine ⟨⟨i + 1, by omega, by go_num, ?_, HB2⟩, by simp [intOf]; omega⟩
          show ∀ (j : Nat) (x y : Fn), _
          intro j x y hj hx hy
          by_cases e : j = i
          · subst e
            rw [E.out.1] at hx
            rw [E.out.2] at hy
            injection hx with hx
            injection hy with hy
            rw [← hx, ← hy]
            exact HSS.out
          · exact HE.out j x y (by omega) hx hy
        | false =>
          have HLL := Lib.hid (sameFns_at E.out.1 E.out.2 hS)
          clear hS
          go_wp2
          go_ret
          exact ⟨by rw [HLL.out]; rfl, HB2.out⟩
      · obtain rfl : n1 = i := by omega
        have hl : sameFns l1 l2 = true := sameFns_true.2 ⟨by rw [← L1.out, ← L2.out], fun j x y hx hy => HE.out j x y (by rw [L1.out]; exact (List.getElem?_eq_some_iff.1 hx).1) hx hy⟩
        have HLL := Lib.hid hl
        clear hl
        go_wp2
        go_ret
        exact ⟨by rw [HLL.out]; rfl, HB.out⟩
  · have hl : sameFns l1 l2 = false := sameFns_len (by rw [← L1.out, ← L2.out]; exact hn)
    have HLL := Lib.hid hl
    clear hl
    go_enter Try.func39, Try.ntmps39
    have hne : ¬ (n1 : Int) = (n2 : Int) := by omega
    go_wp2
    go_ret
    exact ⟨by rw [HLL.out]; rfl, Below.refl _ _⟩
end Go.Proofs.Ytjgijbaboekghaa

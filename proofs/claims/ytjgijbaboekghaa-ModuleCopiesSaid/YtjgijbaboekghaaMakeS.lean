/-
  What r05.Make's modules always have: a function, of at least one local, a string. No statement of its own.
-/
import Derived.Test.YtjgijbaboekghaaMakeR
set_option linter.unusedSimpArgs false
set_option linter.unusedVariables false
namespace Go.Proofs.Ytjgijbaboekghaa
open Go.RowKit
theorem numberOf_bd (l : List ByteArray) (s : ByteArray) : -1 ≤ numberOf l s ∧ numberOf l s ≤ (l.length : Int) := by
  unfold numberOf
  split
  · rename_i i h
    have := (List.findIdx?_eq_some_iff_findIdx_eq.1 h).1
    omega
  · omega
theorem canonL_grow (m : Mod) (i : Nat) : (canonL m i).length ≤ (canonL m (i + 1)).length := by
  by_cases h : usedIn m i = true ∧ numberOf (canonL m i) (strAt m.strings i) < 0
  · rw [canonL_yes h.1 h.2, bub_length, List.length_append]; omega
  · rw [canonL_no h]; exact Nat.le_refl _
theorem canonL_le (m : Mod) {i j : Nat} (h : i ≤ j) : (canonL m i).length ≤ (canonL m j).length := by
  induction j with
  | zero => obtain rfl : i = 0 := by omega
            exact Nat.le_refl _
  | succ j ih =>
    by_cases e : i = j + 1
    · subst e; exact Nat.le_refl _
    · exact Nat.le_trans (ih (by omega)) (canonL_grow m j)
theorem canonL_used {m : Mod} {i : Nat} (h : usedIn m i = true) : 0 < (canonL m (i + 1)).length := by
  by_cases hn : numberOf (canonL m i) (strAt m.strings i) < 0
  · rw [canonL_yes h hn, bub_length, List.length_append]; simp
  · rw [canonL_no (fun h => hn h.2)]
    cases hc : canonL m i with
    | nil => rw [hc] at hn; exact absurd (show (-1 : Int) < 0 by decide) hn
    | cons x r => simp
theorem makeM_zero (d : Dr) : ∃ f r, (makeM d).funcs = f :: r ∧ 0 < f.locals.length ∧ -1 ≤ f.name ∧ f.name ≤ ((makeM d).strings.length : Int) ∧ f.params ≤ 3 ∧ 0 < (makeM d).strings.length := by
  have hl := bodD_length d d.acts.length
  have hn : 0 < nD d.f := by unfold nD; omega
  cases hb : bodD d d.acts.length with
  | nil => rw [hb] at hl; simp at hl; omega
  | cons x r =>
    have hp := bodD_placed d d.acts.length 0 x (by rw [hb]; rfl)
    have hx : x ∈ (rawM d).funcs := by show x ∈ bodD d d.acts.length; rw [hb]; exact List.mem_cons_self
    have hu : usedIn (rawM d) (x.name.toNat : Nat) = true := by
      unfold usedIn
      rw [Bool.or_eq_true]
      refine Or.inr (List.any_eq_true.2 ⟨x, hx, ?_⟩)
      have : x.name = ((x.name.toNat : Nat) : Int) := by have := hp.name.1; omega
      rw [Bool.or_eq_true, Bool.or_eq_true]
      exact .inl (.inl (by rw [beq_iff_eq]; exact this))
    refine ⟨canonF (canonL (rawM d) (rawM d).strings.length) (rawM d).strings x, r.map (canonF (canonL (rawM d) (rawM d).strings.length) (rawM d).strings), ?_, ?_, ?_, ?_, ?_, ?_⟩
    · show (rawM d).funcs.map _ = _
      rw [show (rawM d).funcs = x :: r from hb]; rfl
    · show 0 < (numbersOf _ _ x.locals).length
      rw [numbersOf_length, hp.locals]
      unfold nlD; omega
    · exact (numberOf_bd _ _).1
    · exact (numberOf_bd _ _).2
    · show x.params ≤ 3
      rw [hp.params]
      have := par_lt d.f 0
      omega
    · show 0 < (canonL (rawM d) (rawM d).strings.length).length
      have h1 := canonL_used hu
      have h2 := canonL_le (rawM d) (show x.name.toNat + 1 ≤ (rawM d).strings.length from hp.name.2)
      omega
end Go.Proofs.Ytjgijbaboekghaa

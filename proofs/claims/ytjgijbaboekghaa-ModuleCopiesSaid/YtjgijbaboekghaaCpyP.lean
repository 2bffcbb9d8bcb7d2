/-
  ModuleCopies, as plain lemmas: statements whose lists are short. No statement of its own.
-/
import Derived.Test.YtjgijbaboekghaaMakeR
set_option linter.unusedSimpArgs false
set_option linter.unusedVariables false
namespace Go.Proofs.Ytjgijbaboekghaa
open Go.RowKit
mutual
/-- Every list in it is short. -/
def smallSt : St → Prop
  | .mk _ _ _ _ _ args body => args.length ≤ 1000 ∧ body.length ≤ 1000 ∧ smallAll body
def smallAll : List St → Prop
  | [] => True
  | s :: r => smallSt s ∧ smallAll r
end
theorem smallSt_def (k ak ai bk bi : Int) (args : List (Int × Int)) (body : List St) : smallSt (.mk k ak ai bk bi args body) ↔ args.length ≤ 1000 ∧ body.length ≤ 1000 ∧ smallAll body := by rw [smallSt]
theorem smallAll_append {l r : List St} (h1 : smallAll l) (h2 : smallAll r) : smallAll (l ++ r) := by
  induction l with
  | nil => exact h2
  | cons s l ih => rw [smallAll] at h1; rw [List.cons_append, smallAll]; exact ⟨h1.1, ih h1.2⟩
theorem smallAll_at {l : List St} (h : smallAll l) {i : Nat} {s : St} (hs : l[i]? = some s) : smallSt s := by
  induction l generalizing i with
  | nil => simp at hs
  | cons x r ih =>
    rw [smallAll] at h
    cases i with
    | zero => simp at hs; subst hs; exact h.1
    | succ i => exact ih h.2 (by simpa using hs)
theorem small_leaf (k ak ai bk bi : Int) (args : List (Int × Int)) (h : args.length ≤ 1000) : smallSt (.mk k ak ai bk bi args []) := by
  rw [smallSt_def, smallAll]
  exact ⟨h, Nat.zero_le _, trivial⟩
theorem stmt1_small (G F L S : Nat) (params : Nat → Nat) (hp : ∀ i, params i ≤ 100) (k a b c : Nat) : smallSt (stmt1 G F L S params k a b c) := by
  unfold stmt1
  dsimp only
  split
  · split
    · exact small_leaf _ _ _ _ _ _ (Nat.zero_le _)
    · split <;> exact small_leaf _ _ _ _ _ _ (Nat.zero_le _)
  · split
    · exact small_leaf _ _ _ _ _ _ (Nat.zero_le _)
    · split
      · exact small_leaf _ _ _ _ _ _ (Nat.zero_le _)
      · split
        · refine small_leaf _ _ _ _ _ _ ?_
          rw [List.length_map, List.length_range]
          have := hp (b % F)
          split <;> omega
        · split
          · exact small_leaf _ _ _ _ _ _ (Nat.zero_le _)
          · exact small_leaf _ _ _ _ _ _ (Nat.zero_le _)
theorem stmtS_small (G F L S : Nat) (params : Nat → Nat) (hp : ∀ i, params i ≤ 100) (k a b c : Nat) : smallSt (stmtS G F L S params k a b c) := by
  unfold stmtS
  split
  · split
    · exact small_leaf _ _ _ _ _ _ (Nat.zero_le _)
    · rw [smallSt_def, smallAll, smallAll, smallAll]
      exact ⟨Nat.zero_le _, (show 2 ≤ 1000 by decide), stmt1_small G F L S params hp _ _ _ _, small_leaf _ _ _ _ _ _ (Nat.zero_le _), trivial⟩
  · exact stmt1_small G F L S params hp _ _ _ _
theorem bodD_small (d : Dr) (i : Nat) : ∀ (q : Nat) x, (bodD d i)[q]? = some x → smallAll x.body := by
  induction i with
  | zero =>
    intro q x hx
    have := mk2_body d.g d.f (nD d.f) x (List.mem_of_getElem? hx)
    rw [this, smallAll]; trivial
  | succ i ih =>
    intro q x hx
    rw [bodD] at hx
    obtain ⟨y, hy, h | h⟩ := addTo_body hx
    · rw [h]; exact ih q y hy
    · rw [h]
      refine smallAll_append (ih q y hy) ?_
      rw [smallAll, smallAll]
      exact ⟨stmtS_small _ _ _ _ _ (fun i => by have := par_lt d.f i; omega) _ _ _ _, trivial⟩
theorem makeM_small (d : Dr) : ∀ f ∈ (makeM d).funcs, smallAll f.body := by
  intro f hf
  obtain ⟨x, hx, rfl⟩ := List.mem_map.1 hf
  obtain ⟨q, hq⟩ := List.mem_iff_getElem?.1 hx
  exact bodD_small d d.acts.length q x hq
end Go.Proofs.Ytjgijbaboekghaa

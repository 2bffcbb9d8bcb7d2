/-
  What LexEnds' texts come to: blanks and comments alone: nothing stands in them. No program in sight.
-/
import Derived.Test.YtjebanfmnfofnaaAwake
set_option linter.unusedSimpArgs false
set_option linter.unusedVariables false
namespace Go.Proofs.Ytjebanfmnfofnaa
/-- The seven parts. -/
def part : Nat → List Nat
  | 0 => [32]
  | 1 => [9]
  | 2 => [13, 10]
  | 3 => [10]
  | 4 => [47, 47, 32, 97, 10]
  | 5 => [47, 42, 32, 98, 32, 42, 47]
  | _ => [47, 42, 42, 47]
/-- A stretch that is passed, wherever it stands. -/
def Gone (l : List Nat) : Prop := ∀ A R : List Nat, skip (A ++ l ++ R) A.length = skip (A ++ l ++ R) (A.length + l.length)
theorem gone_nil : Gone [] := fun A R => rfl
theorem gone_app {l r : List Nat} (hl : Gone l) (hr : Gone r) : Gone (l ++ r) := fun A R => by
  have h1 := hl A (r ++ R)
  have h2 := hr (A ++ l) R
  rw [show A ++ l ++ (r ++ R) = A ++ (l ++ r) ++ R by simp] at h1
  rw [show A ++ l ++ r ++ R = A ++ (l ++ r) ++ R by simp, List.length_append] at h2
  rw [h1, h2, List.length_append, Nat.add_assoc]
theorem get_in (A l R : List Nat) (i : Nat) (h : i < l.length) : (A ++ l ++ R)[A.length + i]? = l[i]? := by
  rw [List.append_assoc, List.getElem?_append_right (by omega), show A.length + i - A.length = i by omega, List.getElem?_append_left h]
theorem gone_part (k : Nat) : Gone (part k) := fun A R => by
  have hl : (A ++ part k ++ R).length = A.length + (part k).length + R.length := by rw [List.length_append, List.length_append]
  have g := get_in A (part k) R
  have g0 := fun h => g 0 h
  rw [Nat.add_zero] at g0
  obtain ⟨P, hP⟩ : ∃ P, P = A ++ part k ++ R := ⟨_, rfl⟩
  rw [← hP] at hl g g0 ⊢
  clear hP
  match k with
  | 0 => exact skip_blank (g0 (by decide)) rfl
  | 1 => exact skip_blank (g0 (by decide)) rfl
  | 2 => rw [skip_blank (g0 (by decide)) rfl, skip_blank (g 1 (by decide)) rfl]; rfl
  | 3 => exact skip_blank (g0 (by decide)) rfl
  | 4 =>
    rw [skip_line (g0 (by decide)) (g 1 (by decide)), run_step (g 2 (by decide)) (by rfl), run_step (g 3 (by decide)) (by rfl), run_no (g 4 (by decide)) (by rfl), skip_blank (g 4 (by decide)) rfl]
    rfl
  | 5 =>
    have hf : findEnd P (A.length + 2) = A.length + 5 := by
      rw [findEnd_no (g 2 (by decide)) (by rintro ⟨e, _⟩; exact absurd e (by decide)), findEnd_no (g 3 (by decide)) (by rintro ⟨e, _⟩; exact absurd e (by decide)), findEnd_no (g 4 (by decide)) (by rintro ⟨e, _⟩; exact absurd e (by decide)), findEnd_yes (g 5 (by decide)) (g 6 (by decide))]
    rw [skip_long (g0 (by decide)) (g 1 (by decide)) (by rw [hf, hl]; show A.length + 5 + 1 < A.length + 7 + R.length; omega), hf]
    rfl
  | k + 6 =>
    have hf : findEnd P (A.length + 2) = A.length + 2 := findEnd_yes (g 2 (by show 2 < 4; decide)) (g 3 (by show 3 < 4; decide))
    rw [skip_long (g0 (by show 0 < 4; decide)) (g 1 (by show 1 < 4; decide)) (by rw [hf, hl]; show A.length + 2 + 1 < A.length + 4 + R.length; omega), hf]
    rfl
theorem gone_next {l : List Nat} (h : Gone l) : nextM l 0 = .ok (⟨0, 0, [], l.length⟩, l.length) ∧ nextM l l.length = .ok (⟨0, 0, [], l.length⟩, l.length) := by
  have h1 := h [] []
  rw [List.nil_append, List.append_nil, List.length_nil, Nat.zero_add, skip_end (Nat.le_refl _)] at h1
  exact ⟨nextM_end h1 (Nat.le_refl _), nextM_end (skip_end (Nat.le_refl _)) (Nat.le_refl _)⟩
theorem part_small (k : Nat) : (part k).length ≤ 7 ∧ (∀ u ∈ part k, u < 256) ∧ 0 < (part k).length := by
  match k with
  | 0 => decide
  | 1 => decide
  | 2 => decide
  | 3 => decide
  | 4 => decide
  | 5 => decide
  | k + 6 => exact ⟨by show 4 ≤ 7; decide, fun u hu => by simp [part] at hu; omega, by show 0 < 4; decide⟩
end Go.Proofs.Ytjebanfmnfofnaa

/-
  What LexEscapes' texts come to. No program in sight.
-/
import Derived.Test.YtjebanfmnfofnaaAwake
set_option linter.unusedSimpArgs false
set_option linter.unusedVariables false
namespace Go.Proofs.Ytjebanfmnfofnaa
/-- The byte of a digit of base 16. -/
def hexd (k : Nat) : Nat := if k < 10 then 48 + k else 87 + k
theorem hexd_ok : ∀ k : Fin 16, isHex (hexd k.val) = true ∧ hexV (hexd k.val) = k.val ∧ hexd k.val < 256 := by decide
def escQ (c : Nat) : List Nat := [36, 34, 92, 120, hexd (c / 16), hexd (c % 16), 34]
theorem escQ_next (c : Nat) (hc : c < 256) : nextM (escQ c) 0 = .ok (⟨2, 36, [c], 0⟩, 7) := by
  obtain ⟨h1, h2, _⟩ := hexd_ok ⟨c / 16, by omega⟩
  obtain ⟨h3, h4, _⟩ := hexd_ok ⟨c % 16, by omega⟩
  dsimp only at h1 h2 h3 h4
  have he : esc (escQ c) 3 = (c, 3) := by
    show (if 120 = 34 ∨ 120 = 92 then (120, 1) else if 120 = 120 ∧ isHex (hexd (c / 16)) = true ∧ isHex (hexd (c % 16)) = true then (16 * hexV (hexd (c / 16)) + hexV (hexd (c % 16)), 3) else (0, 0)) = _
    rw [if_neg (by decide), if_pos ⟨rfl, h1, h3⟩, h2, h4]
    congr 1
    omega
  have hq : quoted (escQ c) 2 [] = .ok ([c], 7) := by
    rw [quoted_esc (show (escQ c)[2]? = some 92 from rfl) (by rw [he]; exact Nat.succ_ne_zero 2), he]
    exact quoted_close rfl
  have hs : skip (escQ c) 0 = .ok 0 := skip_no (x := 36) rfl (by decide) (by rintro ⟨e, _⟩; exact absurd e (by decide))
  rw [nextM_ok hs (by show 0 < 7; decide), tokAt_mark (x := 36) rfl (by decide) (by decide) (show nameAt (escQ c) 1 = .ok ([c], 7) from hq)]
def badQ (a b : Nat) : List Nat := [36, 34, 122, 92, a, b, 49, 34]
def right (a b : Nat) : Bool := a == 34 || a == 92 || (a == 120 && isHex b)
theorem badQ_next (a b : Nat) (h : right a b = false) : nextM (badQ a b) 0 = .error 3 := by
  unfold right at h
  simp only [Bool.or_eq_false_iff, beq_eq_false_iff_ne, Bool.and_eq_false_iff] at h
  obtain ⟨⟨h1, h2⟩, h3⟩ := h
  have he : esc (badQ a b) 4 = (0, 0) := by
    show (if a = 34 ∨ a = 92 then (a, 1) else if a = 120 ∧ isHex b = true ∧ isHex 49 = true then _ else (0, 0)) = _
    rw [if_neg (by omega), if_neg (by rintro ⟨e, e2, _⟩; rcases h3 with h3 | h3; exact h3 e; rw [h3] at e2; cases e2)]
  have hq : quoted (badQ a b) 2 [] = .error 3 := by
    rw [quoted_in (x := 122) rfl (by decide) (by decide) (by decide)]
    exact quoted_bad rfl (by rw [he])
  have hs : skip (badQ a b) 0 = .ok 0 := skip_no (x := 36) rfl (by decide) (by rintro ⟨e, _⟩; exact absurd e (by decide))
  rw [nextM_ok hs (by show 0 < 8; decide), tokAt_mark_bad (x := 36) rfl (by decide) (by decide) (show nameAt (badQ a b) 1 = .error 3 from hq)]
theorem hexd_at (k : Nat) (h : k < 16) : (#[48, 49, 50, 51, 52, 53, 54, 55, 56, 57, 97, 98, 99, 100, 101, 102] : Array UInt8)[k]? = some (UInt8.ofNat (hexd k)) := by
  have : ∀ k : Fin 16, (#[48, 49, 50, 51, 52, 53, 54, 55, 56, 57, 97, 98, 99, 100, 101, 102] : Array UInt8)[k.val]? = some (UInt8.ofNat (hexd k.val)) := by decide
  exact this ⟨k, h⟩
end Go.Proofs.Ytjebanfmnfofnaa

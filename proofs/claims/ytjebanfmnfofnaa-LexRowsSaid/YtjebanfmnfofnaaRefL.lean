/-
  The document's letter (function 30), digit (31), nibble (32). No statement of its own.
-/
import Derived.Test.YtjebanfmnfofnaaName
set_option linter.unusedSimpArgs false
set_option linter.unusedVariables false
namespace Go.Proofs.Ytjebanfmnfofnaa
open Go.RowKit
set_option maxRecDepth 20000 in
theorem rletter_calls (w : World) (c : Nat) (hc : c < 256) : Calls Try.prog 30 #[.int .u8 c] w fun e w' => e = .returned (.bool (isLetter c)) ∧ w = w' := by
  by_cases h1 : 97 ≤ c ∧ c ≤ 122
  · obtain ⟨h1, h2⟩ := h1
    have HL := Lib.hid (show isLetter c = true by unfold isLetter; simp [h1, h2])
    have k1 : (97 : Int) ≤ (c : Int) := by omega
    have k2 : (c : Int) ≤ 122 := by omega
    have k9 : ((c : Int) == 95) = false := by rw [beq_eq_false_iff_ne]; omega
    go_enter Try.func30, Try.ntmps30
    go_wp2
    go_ret
    exact ⟨by rw [HL.out]; rfl, rfl⟩
  · by_cases h2 : 65 ≤ c ∧ c ≤ 90
    · have HL := Lib.hid (show isLetter c = true by unfold isLetter; simp [h2])
      have k1 : (65 : Int) ≤ (c : Int) := by omega
      have k2 : (c : Int) ≤ 90 := by omega
      have k3 : ¬ (97 : Int) ≤ (c : Int) := by omega
      have k9 : ((c : Int) == 95) = false := by rw [beq_eq_false_iff_ne]; omega
      clear h1 h2
      go_enter Try.func30, Try.ntmps30
      go_wp2
      go_ret
      exact ⟨by rw [HL.out]; rfl, rfl⟩
    · by_cases h3 : c = 95
      · subst h3
        go_enter Try.func30, Try.ntmps30
        go_wp2
        go_ret
        exact ⟨rfl, rfl⟩
      · have HL := Lib.hid (show isLetter c = false by unfold isLetter; simp [h1, h2, h3])
        have k3 : ((c : Int) == 95) = false := by rw [beq_eq_false_iff_ne]; omega
        by_cases a1 : 97 ≤ c
        · have k1 : (97 : Int) ≤ (c : Int) := by omega
          have k2 : ¬ (c : Int) ≤ 122 := by omega
          have k4 : ¬ (c : Int) ≤ 90 := by omega
          have k5 : (65 : Int) ≤ (c : Int) := by omega
          clear h1 h2 h3
          go_enter Try.func30, Try.ntmps30
          go_wp2
          go_ret
          exact ⟨by rw [HL.out]; rfl, rfl⟩
        · have k1 : ¬ (97 : Int) ≤ (c : Int) := by omega
          by_cases a2 : 65 ≤ c
          · have k4 : ¬ (c : Int) ≤ 90 := by omega
            have k5 : (65 : Int) ≤ (c : Int) := by omega
            clear h1 h2 h3
            go_enter Try.func30, Try.ntmps30
            go_wp2
            go_ret
            exact ⟨by rw [HL.out]; rfl, rfl⟩
          · have k5 : ¬ (65 : Int) ≤ (c : Int) := by omega
            clear h1 h2 h3
            go_enter Try.func30, Try.ntmps30
            go_wp2
            go_ret
            exact ⟨by rw [HL.out]; rfl, rfl⟩
set_option maxRecDepth 20000 in
theorem rdigit_calls (w : World) (c : Nat) (hc : c < 256) : Calls Try.prog 31 #[.int .u8 c] w fun e w' => e = .returned (.bool (isDigit c)) ∧ w = w' := by
  by_cases h1 : 48 ≤ c
  · have k1 : (48 : Int) ≤ (c : Int) := by omega
    by_cases h2 : c ≤ 57
    · have HL := Lib.hid (show isDigit c = true by unfold isDigit; simp [h1, h2])
      have k2 : (c : Int) ≤ 57 := by omega
      go_enter Try.func31, Try.ntmps31
      go_wp2
      go_ret
      exact ⟨by rw [HL.out]; rfl, rfl⟩
    · have HL := Lib.hid (show isDigit c = false by unfold isDigit; simp [h1, h2])
      have k2 : ¬ (c : Int) ≤ 57 := by omega
      go_enter Try.func31, Try.ntmps31
      go_wp2
      go_ret
      exact ⟨by rw [HL.out]; rfl, rfl⟩
  · have HL := Lib.hid (show isDigit c = false by unfold isDigit; simp [h1])
    have k2 : ¬ (48 : Int) ≤ (c : Int) := by omega
    go_enter Try.func31, Try.ntmps31
    go_wp2
    go_ret
    exact ⟨by rw [HL.out]; rfl, rfl⟩
theorem rdigit_yes (w : World) (c : Nat) (hc : c < 256) (h : isDigit c = true) : Calls Try.prog 31 #[.int .u8 c] w fun e w' => e = .returned (.bool true) ∧ w = w' := by have := rdigit_calls w c hc; rwa [h] at this
theorem rdigit_no (w : World) (c : Nat) (hc : c < 256) (h : isDigit c = false) : Calls Try.prog 31 #[.int .u8 c] w fun e w' => e = .returned (.bool false) ∧ w = w' := by have := rdigit_calls w c hc; rwa [h] at this
theorem rletter_yes (w : World) (c : Nat) (hc : c < 256) (h : isLetter c = true) : Calls Try.prog 30 #[.int .u8 c] w fun e w' => e = .returned (.bool true) ∧ w = w' := by have := rletter_calls w c hc; rwa [h] at this
theorem rletter_no (w : World) (c : Nat) (hc : c < 256) (h : isLetter c = false) : Calls Try.prog 30 #[.int .u8 c] w fun e w' => e = .returned (.bool false) ∧ w = w' := by have := rletter_calls w c hc; rwa [h] at this
/-- A digit of base 16; none: 16. -/
def nib (c : Nat) : Nat := if isHex c = true then hexV c else 16
set_option maxRecDepth 20000 in
theorem nibble_calls (w : World) (c : Nat) (hc : c < 256) : Calls Try.prog 32 #[.int .u8 c] w fun e w' => e = .returned (.int .u8 (nib c : Nat)) ∧ w = w' := by
  cases hd : isDigit c with
  | true =>
    have hr : 48 ≤ c ∧ c ≤ 57 := by simpa [isDigit] using hd
    have HD := Lib.hid hd
    have HN : Hid (nib c = c - 48) := Lib.hid (by unfold nib hexV isHex; rw [hd]; simp; omega)
    have hw : IntKind.u8.wrap ((c : Int) - 48) = ((c - 48 : Nat) : Int) := by unfold IntKind.wrap; simp [IntKind.signed, IntKind.bits]; omega
    have HW := Lib.hid hw
    obtain ⟨hr1, hr2⟩ := hr
    clear hd hw
    go_enter Try.func32, Try.ntmps32
    go_wp2_with fail
    refine (rdigit_yes w c hc HD.out).mono ?_
    rintro e w1 ⟨rfl, rfl⟩
    go_wp2_with fail
    go_ret
    exact ⟨by rw [HN.out, show ((c - 48 : Nat) : Int) = (c : Int) - 48 by omega]; rfl, rfl⟩
  | false =>
    have HD := Lib.hid hd
    by_cases h97 : 97 ≤ c
    · have k97 : (97 : Int) ≤ (c : Int) := by omega
      by_cases h102 : c ≤ 102
      · have k102 : (c : Int) ≤ 102 := by omega
        have HN : Hid (nib c = c - 87) := Lib.hid (by unfold nib hexV isHex; rw [hd]; simp [h97, h102]; omega)
        have hw : IntKind.u8.wrap (IntKind.u8.wrap ((c : Int) - 97) + 10) = ((c - 87 : Nat) : Int) := by unfold IntKind.wrap; simp [IntKind.signed, IntKind.bits]; omega
        have HW := Lib.hid hw
        clear hd hw
        go_enter Try.func32, Try.ntmps32
        go_wp2_with fail
        refine (rdigit_no w c hc HD.out).mono ?_
        rintro e w1 ⟨rfl, rfl⟩
        go_wp2_with fail
        go_ret
        exact ⟨by rw [HN.out, show ((c - 87 : Nat) : Int) = (c : Int) - 97 + 10 by omega]; rfl, rfl⟩
      · have k102 : ¬ (c : Int) ≤ 102 := by omega
        have HN : Hid (nib c = 16) := Lib.hid (by unfold nib isHex; rw [hd]; simp [h97, h102])
        clear hd
        go_enter Try.func32, Try.ntmps32
        go_wp2_with fail
        refine (rdigit_no w c hc HD.out).mono ?_
        rintro e w1 ⟨rfl, rfl⟩
        go_wp2_with fail
        go_ret
        exact ⟨by rw [HN.out]; rfl, rfl⟩
    · have k97 : ¬ (97 : Int) ≤ (c : Int) := by omega
      have HN : Hid (nib c = 16) := Lib.hid (by unfold nib isHex; rw [hd]; simp [h97])
      clear hd
      go_enter Try.func32, Try.ntmps32
      go_wp2_with fail
      refine (rdigit_no w c hc HD.out).mono ?_
      rintro e w1 ⟨rfl, rfl⟩
      go_wp2_with fail
      go_ret
      exact ⟨by rw [HN.out]; rfl, rfl⟩
end Go.Proofs.Ytjebanfmnfofnaa

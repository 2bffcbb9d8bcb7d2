/-
  short (function 10): whatever it tells.
-/
import Derived.Test.YtjgijbaboekghaaCameL
import Derived.Outline
set_option linter.unusedSimpArgs false
set_option linter.unusedVariables false
namespace Go.Proofs.Ytjgijbaboekghaa
open Go.RowKit
/-- Yes or no, and nothing has turned. -/
def SomeB (w : World) (e : Ending) (w' : World) : Prop := ∃ b : Bool, e = .returned (.bool b) ∧ w = w'
set_option maxRecDepth 20000 in
theorem short_calls (w : World) : ∀ (k d : Nat), d + k = 13 → ∀ (T : List St) (a : Option Addr) (n c : Nat), ReadsBody w a n T → Calls Try.prog 10 #[.slice a n c, .int .i64 d] w (SomeB w)
  | 0, d, hd, T, a, n, c, h => by
    have h12 : (12 : Int) < (d : Int) := by omega
    have hn := h.2.1
    unfold maxLen at hn
    clear h hd
    go_enter Try.func10, Try.ntmps10
    go_wp2
    go_ret
    exact ⟨false, rfl, rfl⟩
  | k + 1, d, hd, T, a, n, c, h => by
    have ih := short_calls w k (d + 1) (by omega)
    have IH := Lib.hid ih
    have hn := h.2.1
    unfold maxLen at hn
    have h12 : ¬ (12 : Int) < (d : Int) := by omega
    have hd12 : d ≤ 12 := by omega
    have H := Lib.hid h
    clear h hd ih
    by_cases h30 : n ≤ 30
    · have h30' : ¬ (30 : Int) < (n : Int) := by omega
      go_enter Try.func10, Try.ntmps10
      go_wp2
      go_loop [5] (fun iv => ∃ i : Nat, i ≤ n ∧ iv = .int .i64 i) (fun iv => n - (intOf iv).toNat)
      case atStart => exact ⟨0, Nat.zero_le _, rfl⟩
      case round =>
        obtain ⟨i, hi, rfl⟩ := hrel
        by_cases hlt : i < n
        · obtain ⟨b, off, k', ak, ai, bk, bi, args, body, aa, al, ac, ba, bl, bc, rfl, hs, ⟨x0, x1, x2, x3, x4, x5, x6⟩, hra, hrb⟩ := H.out.at hlt
          have HY := Lib.hid hrb
          have hal := hra.2.1
          unfold maxLen at hal
          clear hs hra hrb
          by_cases h20 : al ≤ 20
          · have h20' : ¬ (20 : Int) < (al : Int) := by omega
            go_wp2_with fail
            refine (IH.out body ba bl bc HY.out).mono ?_
            rintro e w2 ⟨bb, rfl, rfl⟩
            cases bb with
            | true =>
              go_wp2
              go_round
              case rel => exact ⟨i + 1, by omega, by go_num⟩
              case measure => simp [intOf]; omega
            | false =>
              go_wp2
              go_ret
              exact ⟨false, rfl, rfl⟩
          · have h20' : (20 : Int) < (al : Int) := by omega
            go_wp2
            go_ret
            exact ⟨false, rfl, rfl⟩
        · obtain rfl : n = i := by omega
          go_wp2
          go_ret
          exact ⟨true, rfl, rfl⟩
    · have h30' : (30 : Int) < (n : Int) := by omega
      go_enter Try.func10, Try.ntmps10
      go_wp2
      go_ret
      exact ⟨false, rfl, rfl⟩
end Go.Proofs.Ytjgijbaboekghaa

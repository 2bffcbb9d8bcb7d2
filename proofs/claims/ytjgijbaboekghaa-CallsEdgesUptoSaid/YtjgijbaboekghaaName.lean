/-
  r05.name (function 27): a name by a number.
-/
import Derived.Test.YtjgijbaboekghaaBase
import Derived.Laws.BytesArg
import Derived.Outline
set_option linter.unusedVariables false
set_option linter.unusedSimpArgs false
namespace Go.Proofs.Ytjgijbaboekghaa
open Go.RowKit
def nameS (n : Nat) : ByteArray :=
  if n % 6 = 1 then (⟨#[110]⟩ : ByteArray) ++ strOfNums [97 + (n : Int) / 6 % 26] ++ (⟨#[46, 120]⟩ : ByteArray)
  else if n % 6 = 3 then (⟨#[97, 32, 34]⟩ : ByteArray) ++ strOfNums [48 + (n : Int) / 6 % 10, 92]
  else if n % 6 = 5 then strOfNums [128 + (n : Int) % 100, 10, 65 + (n : Int) / 6 % 26]
  else (⟨#[118]⟩ : ByteArray) ++ strOfNums [97 + (n : Int) / 2 % 26, 48 + (n : Int) % 10]
theorem conv_new (w : World) (xs : List Int) (n : Nat) (hn : xs.length = n) (cs : Array Value) (hc : cs = (xs.map (Value.int .u8)).toArray) : (convert 70 9 (.slice (some ⟨w.heap.size, 0, none⟩) n n)).run Try.prog (w.alloc (.cells cs 5)) = .ok (.string (strOfNums xs)) (w.alloc (.cells cs 5)) := by
  subst hc
  refine run_convert_bytes_arg (P := Try.prog) _ 70 5 Try.underlying70 Try.underlying5 w.heap.size 0 n n xs hn (fun i hi => ?_) 9 Try.underlying9
  rw [blk_cell (heap_alloc_new w _), Nat.zero_add]
  simp [List.getD_eq_getElem?_getD, List.getElem?_eq_getElem (show i < xs.length by omega)]
theorem size_app (a : ByteArray) (xs : List Int) : (a ++ strOfNums xs).size = a.size + xs.length := by rw [ByteArray.size_append, strOfNums_size]
set_option maxRecDepth 20000 in
theorem name_calls (w : World) (n : Nat) (hn : n < 1000) :
    Calls Try.prog 27 #[.int .i64 n] w fun e w' => e = .returned (.string (nameS n)) ∧ Below w.heap.size w w' := by
  by_cases h1 : n % 6 = 1
  · have h1' : ((n : Int) % 6 == 1) = true := by rw [beq_iff_eq]; omega
    have hc := conv_new w [97 + (n : Int) / 6 % 26] 1 rfl #[.int .u8 (97 + (n : Int) / 6 % 26)] rfl
    have hs := strOfNums_size [97 + (n : Int) / 6 % 26]
    have hs2 := size_app ⟨#[110]⟩ [97 + (n : Int) / 6 % 26]
    have HN := Lib.hid (show nameS n = _ from if_pos h1)
    clear h1
    go_enter Try.func27, Try.ntmps27
    go_wp2
    go_ret
    exact ⟨by rw [HN.out]; rfl, (Below.refl _ _).alloc (Nat.le_refl _) _⟩
  · have h1' : ((n : Int) % 6 == 1) = false := by rw [beq_eq_false_iff_ne]; omega
    by_cases h3 : n % 6 = 3
    · have h3' : ((n : Int) % 6 == 3) = true := by rw [beq_iff_eq]; omega
      have hc := conv_new w [48 + (n : Int) / 6 % 10, 92] 2 rfl #[.int .u8 (48 + (n : Int) / 6 % 10), .int .u8 (92)] rfl
      have hs := strOfNums_size [48 + (n : Int) / 6 % 10, 92]
      have hs2 := size_app ⟨#[97, 32, 34]⟩ [48 + (n : Int) / 6 % 10, 92]
      have HN := Lib.hid (show nameS n = _ from by unfold nameS; rw [if_neg h1, if_pos h3])
      clear h1 h3
      go_enter Try.func27, Try.ntmps27
      go_wp2
      go_ret
      exact ⟨by rw [HN.out]; rfl, (Below.refl _ _).alloc (Nat.le_refl _) _⟩
    · have h3' : ((n : Int) % 6 == 3) = false := by rw [beq_eq_false_iff_ne]; omega
      by_cases h5 : n % 6 = 5
      · have h5' : ((n : Int) % 6 == 5) = true := by rw [beq_iff_eq]; omega
        have hc := conv_new w [128 + (n : Int) % 100, 10, 65 + (n : Int) / 6 % 26] 3 rfl #[.int .u8 (128 + (n : Int) % 100), .int .u8 (10), .int .u8 (65 + (n : Int) / 6 % 26)] rfl
        have hs := strOfNums_size [128 + (n : Int) % 100, 10, 65 + (n : Int) / 6 % 26]
        have HN := Lib.hid (show nameS n = _ from by unfold nameS; rw [if_neg h1, if_neg h3, if_pos h5])
        clear h1 h3 h5
        go_enter Try.func27, Try.ntmps27
        go_wp2
        go_ret
        exact ⟨by rw [HN.out]; rfl, (Below.refl _ _).alloc (Nat.le_refl _) _⟩
      · have h5' : ((n : Int) % 6 == 5) = false := by rw [beq_eq_false_iff_ne]; omega
        have hc := conv_new w [97 + (n : Int) / 2 % 26, 48 + (n : Int) % 10] 2 rfl #[.int .u8 (97 + (n : Int) / 2 % 26), .int .u8 (48 + (n : Int) % 10)] rfl
        have hs := strOfNums_size [97 + (n : Int) / 2 % 26, 48 + (n : Int) % 10]
        have hs2 := size_app ⟨#[118]⟩ [97 + (n : Int) / 2 % 26, 48 + (n : Int) % 10]
        have HN := Lib.hid (show nameS n = _ from by unfold nameS; rw [if_neg h1, if_neg h3, if_neg h5])
        clear h1 h3 h5
        go_enter Try.func27, Try.ntmps27
        go_wp2
        go_ret
        exact ⟨by rw [HN.out]; rfl, (Below.refl _ _).alloc (Nat.le_refl _) _⟩
end Go.Proofs.Ytjgijbaboekghaa

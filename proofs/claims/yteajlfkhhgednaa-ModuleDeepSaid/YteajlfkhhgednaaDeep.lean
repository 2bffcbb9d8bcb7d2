/-
  The law ModuleDeep (function 4), walked: it is true whatever came in.
-/
import Derived.Test.YteajlfkhhgednaaCount
set_option linter.unusedSimpArgs false
namespace Go.Proofs.Yteajlfkhhgednaa
open Go.RowKit
/-- Blocks in one another. -/
def nest : Nat → St
  | 0 => .mk 2 0 0 0 0 [] []
  | i + 1 => .mk 7 0 0 0 0 [] [nest i]
theorem nest_count (i : Nat) : ∀ m d, (flatT m d [nest i]).length = min (i + 1) (m + 1) := by
  induction i with
  | zero =>
    intro m d
    rw [flatT_cons]
    cases m with
    | zero => rfl
    | succ m => simp only [kidsT, nest, St.kind]; simp
  | succ i ih =>
    intro m d
    rw [flatT_cons]
    cases m with
    | zero => simp [kidsT]
    | succ m =>
      have : kidsT (m + 1) d (nest (i + 1)) = flatT m (d + 1) [nest i] := rfl
      rw [this, List.length_cons, ih]
      omega
theorem min2_i (k k' : IntKind) (x y : Int) : Builtin.min2 (.int k x) (.int k' y) = pure (.int k (if y < x then y else x)) := by simp only [Builtin.min2, gt_iff_lt]
theorem min_pair (ats : Array TypeId) (ty : TypeId) (a b : Value) : Builtin.min_ ats ty #[a, b] = (Builtin.min2 a b >>= fun s => pure s) := by simp only [Builtin.min_, List.foldlM_cons, List.foldlM_nil]
attribute [local go_sem] min2_i min_pair
set_option maxRecDepth 20000 in
theorem moduleDeep_walk (w : World) (n : Nat) (hn : n < 65536) :
    Calls Try.prog 4 #[.int .u16 n] w fun e w' => e = .returned (.bool true) ∧ Below w.heap.size w w' := by
  go_enter Try.func4, Try.ntmps4
  go_wp2_with fail
  refine (awake_calls _).mono ?_
  rintro e w2 ⟨rfl, hb⟩
  have HB := Lib.hid hb
  clear hb
  go_wp2_with fail
  obtain ⟨k, hk⟩ : ∃ k : Nat, k = n % 1200 := ⟨_, rfl⟩
  rw [show ((n : Int) % 1200) = (k : Int) by omega]
  have hk1200 : k < 1200 := by omega
  clear hk
  go_loopw [4, 5] (fun v4 iv wr => ∃ (i g : Nat), i ≤ k ∧ iv = .int .i64 i ∧ v4 = .slice (some ⟨g, 0, none⟩) 1 1 ∧ Hid (ReadsBody wr (some ⟨g, 0, none⟩) 1 [nest i]) ∧ Hid (Below w.heap.size w wr)) (fun _ iv _ => k - (intOf iv).toNat)
  case atStart => exact ⟨0, w2.heap.size, Nat.zero_le _, rfl, rfl, readsBody_one (cells7_plain w2 2), HB.out.alloc HB.out.size _⟩
  case round =>
    clear HB
    obtain ⟨i, g, hi, rfl, rfl, HR, HB⟩ := hrel
    by_cases hlt : i < k
    · go_wp2
      refine ⟨⟨i + 1, wr.heap.size, by omega, by go_num, rfl, ?_, HB.out.alloc HB.out.size _⟩, by simp [intOf]; omega⟩
      exact readsBody_one (cells7_block wr (cap := 1) HR.out)
    · obtain rfl : i = k := by omega
      have hmin : (if (1001 : Int) < (i : Int) + 1 then (1001 : Int) else (i : Int) + 1) = ((min (i + 1) 1001 : Nat) : Int) := by split <;> omega
      go_wp2_with fail
      refine (count_calls wr [nest i] _ 1 1 (min (i + 1) 1001) HR.out (nest_count i 1000 0) (by omega)).mono ?_
      rintro e w3 ⟨rfl, hb⟩
      have HB3 := Lib.hid (HB.out.trans (hb.mono HB.out.size))
      clear hb
      go_wp2
      go_ret
      exact ⟨rfl, HB3.out⟩
end Go.Proofs.Yteajlfkhhgednaa

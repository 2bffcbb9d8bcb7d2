/-
  sum.Of (function 10): the sum of the bytes that it is handed, by the table. Conditions: the slice reads as bytes; the table lies as start-up lays it.
-/
import Derived.Test.YtfkagmngblkbbaaDoorBase
namespace Go.Proofs.YtfkagmngblkbbaaDoor
open Go.RowKit Crc
set_option maxHeartbeats 400000 in
theorem of_calls (w : World) (a : Option Addr) (len cap : Nat) (xs : List Nat) (hx : Reads w a len xs) (ht : Table w) :
    Calls Tryd.prog 10 #[.slice a len cap] w fun e w' => e = .returned (.int .u32 (sumOf xs : Nat)) ∧ w = w' := by
  obtain ⟨hl, hb, hm, hc⟩ := hx
  have HB := Lib.hid hb
  have HL := Lib.hid hl
  have HT := Lib.hid ht
  have HC := Lib.hid hc
  clear hb hl ht hc
  go_enter Tryd.func10, Tryd.ntmps10
  go_wp2
  go_loop [3, 8] (fun r i => ∃ k : Nat, k ≤ len ∧ i = .int .i64 k ∧ r = .int .u32 ((sumOf (xs.take k) : Nat) : Int)) (fun _ i => len - (intOf i).toNat)
  case atStart => exact ⟨0, Nat.zero_le _, rfl, rfl⟩
  case round =>
    obtain ⟨k, hk, rfl, rfl⟩ := hrel
    by_cases hlt : k < len
    · obtain ⟨b, off, rfl, hall⟩ := HC.out (by omega)
      have hr := sumOf_lt (xs.take k)
      obtain ⟨x, hx, hcell, hs⟩ : ∃ x, x < 256 ∧ w.cell? ⟨b, off + k, none⟩ = some (.int .u8 ((x : Nat) : Int)) ∧ sumOf (xs.take (k + 1)) = half (half (sumOf (xs.take k)) (x / 16)) (x % 16) :=
        ⟨xs.getD k 0, getD_lt xs HB.out k, hall k hlt, sumOf_take xs HB.out k (by have := HL.out; omega)⟩
      have HS := Lib.hid hs
      clear hs
      generalize sumOf (xs.take k) = r at *
      clear HC hall
      obtain ⟨j0, t0, r1, d1, l0, i0, e0, f0, g0⟩ := half_step HT.out r (x / 16) hr (by omega)
      obtain ⟨j1, t1, r2, d2, l1, i1, e1, f1, g1⟩ := half_step HT.out r1 (x % 16) g0 (by omega)
      have D1 := Lib.hid d1
      have D2 := Lib.hid d2
      clear d1 d2
      rw [show ((x / 16 : Nat) : Int) = (x : Int) / 16 by omega] at i0
      rw [show ((x % 16 : Nat) : Int) = (x : Int) % 16 by omega] at i1
      clear HT HB HL
      go_wp2
      refine ⟨⟨k + 1, by omega, by go_num, ?_⟩, by simp [intOf]; omega⟩
      rw [HS.out, ← D1.out, ← D2.out]
    · have hlt' : len ≤ k := by omega
      go_wp2
      go_ret
      exact ⟨by rw [List.take_of_length_le (by have := HL.out; omega)]; rfl, rfl⟩

/-- The document's example. -/
def nine : List Nat := [49, 50, 51, 52, 53, 54, 55, 56, 57]
theorem sumOf_nine : sumOf nine = 58124007 := by decide +kernel
end Go.Proofs.YtfkagmngblkbbaaDoor

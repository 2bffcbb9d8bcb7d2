/-
  weathervaneref01.Sum (function 11): the sum of the bytes that it is handed, bit by bit. Conditions: the slice reads as bytes; it has at most a thousand million.
-/
import Derived.Test.YtfkagmngblkbbaaDoorBase
namespace Go.Proofs.YtfkagmngblkbbaaDoor
open Go.RowKit Crc

theorem bits8_at (x i : Nat) (hi : i < 8) : (bits8 x)[i]? = some (x.testBit (7 - i)) := by
  have h4 : ∀ j, (x / 16).testBit j = x.testBit (j + 4) := fun j => by
    rw [show (16 : Nat) = 2 ^ 4 from rfl, Nat.testBit_div_two_pow]
  have h0 : ∀ j, j < 4 → (x % 16).testBit j = x.testBit j := fun j hj => by
    rw [show (16 : Nat) = 2 ^ 4 from rfl, Nat.testBit_mod_two_pow]; simp [hj]
  unfold bits8 nib
  rw [h4, h4, h4, h4, h0 3 (by omega), h0 2 (by omega), h0 1 (by omega), h0 0 (by omega)]
  match i, hi with
  | 0, _ => rfl
  | 1, _ => rfl
  | 2, _ => rfl
  | 3, _ => rfl
  | 4, _ => rfl
  | 5, _ => rfl
  | 6, _ => rfl
  | 7, _ => rfl
theorem bitsOf_at : ∀ (xs : List Nat) (i : Nat), i < 8 * xs.length → (bitsOf xs)[i]? = some ((xs.getD (i / 8) 0).testBit (7 - i % 8))
  | [], i, h => by simp at h
  | x :: xs, i, h => by
    rw [bitsOf, List.flatMap_cons]
    by_cases hi : i < 8
    · rw [List.getElem?_append_left (by rw [bits8_length]; exact hi), bits8_at x i hi, show i / 8 = 0 by omega, show i % 8 = i by omega]
      rfl
    · rw [List.getElem?_append_right (by rw [bits8_length]; omega), bits8_length]
      have := bitsOf_at xs (i - 8) (by rw [List.length_cons] at h; omega)
      rw [bitsOf] at this
      rw [this, show i / 8 = (i - 8) / 8 + 1 by omega, show (i - 8) % 8 = i % 8 by omega]
      rfl
theorem bitsOf_take (xs : List Nat) (i : Nat) (h : i < 8 * xs.length) : (bitsOf xs).take (i + 1) = (bitsOf xs).take i ++ [(xs.getD (i / 8) 0).testBit (7 - i % 8)] := by
  have hl : i < (bitsOf xs).length := by rw [bitsOf_length]; exact h
  rw [List.take_succ_eq_append_getElem hl]
  have := bitsOf_at xs i h
  rw [List.getElem?_eq_getElem hl] at this
  rw [Option.some.inj this]
/-- The rest behind i bits. -/
def restAt (xs : List Nat) (i : Nat) : Nat := (crcB (BitVec.allOnes 32) ((bitsOf xs).take i)).toNat
theorem restAt_lt (xs : List Nat) (i : Nat) : restAt xs i < 4294967296 := (crcB _ _).isLt
theorem restAt_all (xs : List Nat) (i : Nat) (h : 8 * xs.length ≤ i) : restAt xs i = sumOf xs := by
  rw [restAt, List.take_of_length_le (by rw [bitsOf_length]; exact h)]; rfl
def bitAt (xs : List Nat) (i : Nat) : Nat := (xs.getD (i / 8) 0) / 2 ^ (7 - i % 8) % 2
theorem restAt_succ (xs : List Nat) (i : Nat) (h : i < 8 * xs.length) :
    restAt xs (i + 1) = if restAt xs i / 2147483648 = bitAt xs i then restAt xs i * 2 % 4294967296 else (restAt xs i * 2 % 4294967296) ^^^ 79764919 := by
  rw [restAt, bitsOf_take xs i h, crcB_append, crcB_cons, crcB_nil]
  generalize hr : crcB (BitVec.allOnes 32) ((bitsOf xs).take i) = r
  have hR : restAt xs i = r.toNat := by rw [restAt, hr]
  rw [hR]
  have hlt : r.toNat < 4294967296 := r.isLt
  have hb : ((xs.getD (i / 8) 0).testBit (7 - i % 8)) = decide (bitAt xs i = 1) := by rw [Nat.testBit_eq_decide_div_mod_eq]; rfl
  have hm : r.msb = decide (r.toNat / 2147483648 = 1) := by
    rw [BitVec.msb_eq_decide]
    congr 1
    simp
    omega
  have hb2 : bitAt xs i < 2 := Nat.mod_lt _ (by decide)
  have ht2 : r.toNat / 2147483648 < 2 := by omega
  have hs : (r <<< 1).toNat = r.toNat * 2 % 4294967296 := by rw [BitVec.toNat_shiftLeft, Nat.shiftLeft_eq]
  unfold stepB
  rw [hb, hm]
  by_cases he : r.toNat / 2147483648 = bitAt xs i
  · rw [if_pos he, he, Bool.xor_self]
    simpa using hs
  · rw [if_neg he]
    have : (decide (r.toNat / 2147483648 = 1) ^^ decide (bitAt xs i = 1)) = true := by
      by_cases h1 : bitAt xs i = 1
      · have : ¬ r.toNat / 2147483648 = 1 := by omega
        simp [h1, this]
      · have : r.toNat / 2147483648 = 1 := by omega
        simp [h1, this]
    rw [if_pos this, BitVec.toNat_xor, hs]
    rfl
theorem cast_dbl (r : Nat) : ((r * 2 % 4294967296 : Nat) : Int) = (r : Int) * 2 % 4294967296 := by omega
set_option maxHeartbeats 400000 in
theorem refsum_calls (w : World) (a : Option Addr) (len cap : Nat) (xs : List Nat) (hx : Reads w a len xs) (hlen : len ≤ 1000000000) :
    Calls Tryd.prog 11 #[.slice a len cap] w fun e w' => e = .returned (.int .u32 (sumOf xs : Nat)) ∧ w = w' := by
  obtain ⟨hl, hb, _, hc⟩ := hx
  have HB := Lib.hid hb
  have HL := Lib.hid hl
  have HC := Lib.hid hc
  clear hb hl hc
  go_enter Tryd.func11, Tryd.ntmps11
  go_wp2
  go_loop [3, 4] (fun r i => ∃ k : Nat, k ≤ 8 * len ∧ i = .int .i64 k ∧ r = .int .u32 ((restAt xs k : Nat) : Int)) (fun _ i => 8 * len - (intOf i).toNat)
  case atStart => exact ⟨0, Nat.zero_le _, rfl, rfl⟩
  case round =>
    obtain ⟨k, hk, rfl, rfl⟩ := hrel
    by_cases hlt : k < 8 * len
    · obtain ⟨b, off, rfl, hall⟩ := HC.out (by omega)
      have hr := restAt_lt xs k
      obtain ⟨x, o, hx, hcell, ho, hs⟩ : ∃ x o, x < 256 ∧ w.cell? ⟨b, off + k / 8, none⟩ = some (.int .u8 ((x : Nat) : Int)) ∧ x / 2 ^ (7 - k % 8) % 2 = o ∧
          restAt xs (k + 1) = if restAt xs k / 2147483648 = o then restAt xs k * 2 % 4294967296 else (restAt xs k * 2 % 4294967296) ^^^ 79764919 :=
        ⟨xs.getD (k / 8) 0, bitAt xs k, getD_lt xs HB.out _, hall (k / 8) (by omega), rfl, restAt_succ xs k (by have := HL.out; omega)⟩
      have HS := Lib.hid hs
      have HO := Lib.hid ho
      clear hs ho
      generalize restAt xs k = r at *
      clear HC hall
      go_wp2
      all_goals
        have ho : (x : Int) / 2 ^ (7 - k % 8) % 2 = ((o : Nat) : Int) := by rw [← HO.out]; push_cast; rfl
        refine ⟨⟨k + 1, by omega, by go_num, ?_⟩, by simp [intOf]; omega⟩
      · have ht : (((r : Nat) : Int) / 2147483648 != (x : Int) / 2 ^ (7 - k % 8) % 2) = true := by assumption
        rw [ho] at ht
        have : ¬ r / 2147483648 = o := by have := WalkArith.int_ne' ht; omega
        rw [HS.out, if_neg this, ← xor_u32 _ _ (Nat.mod_lt _ (by decide)) (by decide), cast_dbl]
        rfl
      · have ht : (((r : Nat) : Int) / 2147483648 != (x : Int) / 2 ^ (7 - k % 8) % 2) = false := by assumption
        rw [ho] at ht
        have : r / 2147483648 = o := by have := WalkArith.int_eq' ht; omega
        rw [HS.out, if_pos this, cast_dbl]
    · have hlt' : 8 * len ≤ k := by omega
      go_wp2
      go_ret
      exact ⟨by rw [restAt_all xs k (by have := HL.out; omega)]; rfl, rfl⟩
end Go.Proofs.YtfkagmngblkbbaaDoor

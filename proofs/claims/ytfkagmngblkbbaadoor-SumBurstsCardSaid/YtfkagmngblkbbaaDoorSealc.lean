/-
  PLAIN MATHEMATICS: the sum of bytes with their sum behind is 0; and only theirs. No program in sight.
-/
import Derived.Test.YtfkagmngblkbbaaDoorSeal
namespace Go.Proofs.YtfkagmngblkbbaaDoor
open Crc
theorem nib_self (r : B32) : crcB r (nib (r.toNat / 268435456)) = r <<< 4 := by
  have h := r.isLt
  rw [nib_step r _ (by omega), Nat.xor_self, show tabB 0 = 0#32 by decide, BitVec.xor_zero]
theorem shl_nat (r : B32) : (r <<< 4).toNat = r.toNat * 16 % 4294967296 := by rw [BitVec.toNat_shiftLeft, Nat.shiftLeft_eq]
theorem crc_self (r : B32) : crc r (be4 r.toNat) = 0#32 := by
  have hr : r.toNat < 4294967296 := r.isLt
  have e : bitsOf (be4 r.toNat) = nib (r.toNat / 268435456) ++ (nib (r.toNat / 16777216 % 16) ++ (nib (r.toNat / 1048576 % 16) ++ (nib (r.toNat / 65536 % 16) ++ (nib (r.toNat / 4096 % 16) ++ (nib (r.toNat / 256 % 16) ++ (nib (r.toNat / 16 % 16) ++ nib (r.toNat % 16))))))) := by
    simp only [be4, bitsOf, List.flatMap_cons, List.flatMap_nil, bits8, List.append_nil, List.append_assoc]
    rw [show r.toNat / 16777216 % 256 / 16 = r.toNat / 268435456 by omega, show r.toNat / 16777216 % 256 % 16 = r.toNat / 16777216 % 16 by omega, show r.toNat / 65536 % 256 / 16 = r.toNat / 1048576 % 16 by omega,
      show r.toNat / 65536 % 256 % 16 = r.toNat / 65536 % 16 by omega, show r.toNat / 256 % 256 / 16 = r.toNat / 4096 % 16 by omega, show r.toNat / 256 % 256 % 16 = r.toNat / 256 % 16 by omega,
      show r.toNat % 256 / 16 = r.toNat / 16 % 16 by omega, show r.toNat % 256 % 16 = r.toNat % 16 by omega]
  have step : ∀ (q : B32) (n : Nat) (l : List Bool), n = q.toNat / 268435456 → crcB q (nib n ++ l) = crcB (q <<< 4) l := by
    intro q n l hn
    rw [crcB_append, hn, nib_self]
  rw [crc, e]
  have s1 := shl_nat r
  have s2 := shl_nat (r <<< 4)
  have s3 := shl_nat (r <<< 4 <<< 4)
  have s4 := shl_nat (r <<< 4 <<< 4 <<< 4)
  have s5 := shl_nat (r <<< 4 <<< 4 <<< 4 <<< 4)
  have s6 := shl_nat (r <<< 4 <<< 4 <<< 4 <<< 4 <<< 4)
  have s7 := shl_nat (r <<< 4 <<< 4 <<< 4 <<< 4 <<< 4 <<< 4)
  have s8 := shl_nat (r <<< 4 <<< 4 <<< 4 <<< 4 <<< 4 <<< 4 <<< 4)
  rw [step _ _ _ rfl, step _ _ _ (by omega), step _ _ _ (by omega), step _ _ _ (by omega), step _ _ _ (by omega), step _ _ _ (by omega), step _ _ _ (by omega)]
  have last := nib_self (r <<< 4 <<< 4 <<< 4 <<< 4 <<< 4 <<< 4 <<< 4)
  rw [show (r <<< 4 <<< 4 <<< 4 <<< 4 <<< 4 <<< 4 <<< 4).toNat / 268435456 = r.toNat % 16 by omega] at last
  rw [last]
  apply BitVec.eq_of_toNat_eq
  rw [s8]
  show _ = 0
  omega
theorem sumOf_seal (xs : List Nat) : sumOf (xs ++ be4 (sumOf xs)) = 0 := by
  rw [sumOf, crc_append]
  have := crc_self (crc (BitVec.allOnes 32) xs)
  rw [show sumOf xs = (crc (BitVec.allOnes 32) xs).toNat from rfl, this]
  rfl
theorem sumOf_nil : sumOf [] = 4294967295 := by decide
theorem be4_length (n : Nat) : (be4 n).length = 4 := rfl
theorem sealed_lt (xs : List Nat) (h : ∀ x ∈ xs, x < 256) (n : Nat) : ∀ x ∈ xs ++ be4 n, x < 256 := by
  intro x hx
  rcases List.mem_append.1 hx with h1 | h1
  · exact h x h1
  · exact be4_lt n x h1
/-- What is owned reads as bytes; its length under a name of its own. -/
theorem OwnB.slice {B : Nat} {w : World} {v : Value} {xs : List Nat} (h : OwnB B w v xs) (hx : ∀ x ∈ xs, x < 256) : ∃ A n c, v = .slice A n c ∧ (A = none → c = 0) ∧ n ≤ c ∧ Reads w A n xs := by
  obtain ⟨A, c, e, h1, h2⟩ := h.reads hx
  refine ⟨A, xs.length, c, e, h1, ?_, h2⟩
  rcases Nat.eq_zero_or_pos xs.length with h0 | h0
  · omega
  · obtain ⟨g, cap, cur, e2, _, _, hle, _⟩ := h.at_ h0
    rw [e] at e2
    injection e2 with _ _ e3
    omega
end Go.Proofs.YtfkagmngblkbbaaDoor

/-
  MORE ON WHAT IS OWNED, ON OPENING, AND ON SINGLE BITS TURNED. No statement of its own.
-/
import Derived.Test.YtfkagmngblkbbaaDoorSealc
import Derived.Deep.QuietTactic
namespace Go.Proofs.YtfkagmngblkbbaaDoor
open Go.RowKit Crc
theorem pw_below_drewN {B : Nat} {w W : World} (h : Below B w W) (n : Nat) : Below B w (W.drewN n) := ⟨h.os, h.tape, h.output, h.size, h.block⟩
theorem bits8_zero (x : Nat) (hx : x < 256) (h : bits8 x = List.replicate 8 false) : x = 0 := by
  have : ∀ x : Fin 256, bits8 x.val = List.replicate 8 false → x.val = 0 := by decide +kernel
  exact this ⟨x, hx⟩ h
theorem bitsOf_zeros : ∀ n, bitsOf (List.replicate n 0) = zeros (8 * n)
  | 0 => rfl
  | n + 1 => by
    rw [List.replicate_succ, bitsOf_cons, bitsOf_zeros n, show bits8 0 = List.replicate 8 false by decide, zeros, zeros, List.replicate_append_replicate]
    congr 1
    omega
theorem zipX_self : ∀ xs : List Nat, zipX xs xs = List.replicate xs.length 0
  | [] => rfl
  | x :: xs => by
    have := zipX_self xs
    unfold zipX at *
    rw [List.zipWith_cons_cons, this, Nat.xor_self]
    rfl
theorem zipX_set (t : Nat) : ∀ (xs : List Nat) (i : Nat), i < xs.length → zipX xs (xs.set i (xs.getD i 0 ^^^ t)) = List.replicate i 0 ++ [t] ++ List.replicate (xs.length - i - 1) 0
  | [], i, h => by simp at h
  | x :: xs, 0, _ => by
    have := zipX_self xs
    unfold zipX at *
    simp only [List.set_cons_zero, List.zipWith_cons_cons, this, List.getD_cons_zero, ← Nat.xor_assoc, Nat.xor_self, Nat.zero_xor]
    simp
  | x :: xs, i + 1, h => by
    have := zipX_set t xs i (by simpa using h)
    unfold zipX at *
    simp only [List.set_cons_succ, List.zipWith_cons_cons, List.getD_cons_succ, this, Nat.xor_self]
    simp [List.replicate_succ]
/-- One byte turned: another sum. -/
theorem sumOf_one (xs : List Nat) (i t : Nat) (hi : i < xs.length) (ht : t < 256) (h0 : t ≠ 0) : sumOf xs ≠ sumOf (xs.set i (xs.getD i 0 ^^^ t)) := by
  intro e
  have hz := zipX_set t xs i hi
  have hx := crc_xor xs (xs.set i (xs.getD i 0 ^^^ t)) (BitVec.allOnes 32) (BitVec.allOnes 32) (by simp)
  have he : crc (BitVec.allOnes 32) xs = crc (BitVec.allOnes 32) (xs.set i (xs.getD i 0 ^^^ t)) := BitVec.eq_of_toNat_eq e
  rw [BitVec.xor_self, hz, ← he, BitVec.xor_self, crc, bitsOf_append, bitsOf_append, bitsOf_zeros, bitsOf_zeros, bitsOf_cons, show bitsOf [] = [] from rfl, List.append_nil] at hx
  have hb := burst_ne _ _ (bits8 t) (by rw [bits8_length]; omega) hx
  rw [bits8_length] at hb
  exact h0 (bits8_zero t ht hb)
theorem ownB_set {B g n cap : Nat} {w : World} {xs : List Nat} (h : OwnB B w (.slice (some ⟨g, 0, none⟩) n cap) xs) (i x : Nat) :
    OwnB B (w.setCell ⟨g, i, none⟩ (.int .u8 ((x : Nat) : Int))) (.slice (some ⟨g, 0, none⟩) n cap) (xs.set i x) := by
  obtain ⟨hl, hh⟩ := h
  rcases hh with ⟨h1, _⟩ | ⟨g', cap', cur, e, hb, hh, hle, hm, hs, ht⟩
  · cases h1
  · injection e with e1 e2 e3
    injection e1 with e1
    injection e1 with e1 _ _
    subst e1 e2 e3
    refine ⟨by rw [bytesL_length, Nat.mul_one], .inr ⟨g, cap, cur.setIfInBounds i (.int .u8 ((x : Nat) : Int)), by rw [List.length_set], hb, blk_set hh i _, by rw [List.length_set]; exact hle, hm, by simp; omega, ?_⟩⟩
    rw [List.length_set, Array.toList_setIfInBounds, List.take_set, ht]
    simp [bytesL, List.map_set]
theorem own_cell {B g n cap : Nat} {w : World} {xs : List Nat} (h : OwnB B w (.slice (some ⟨g, 0, none⟩) n cap) xs) (i : Nat) (hi : i < xs.length) : w.cell? ⟨g, i, none⟩ = some (.int .u8 ((xs.getD i 0 : Nat) : Int)) := by
  obtain ⟨g', cap', cur, e, _, hh, hle, _, hs, ht⟩ := h.at_ (by omega)
  injection e with e1 e2 e3
  injection e1 with e1
  injection e1 with e1 _ _
  subst e1
  rw [cell_of_row w g i _ _ _ hh]
  have h1 : (cur.toList.take xs.length)[i]? = some (.int .u8 ((xs.getD i 0 : Nat) : Int)) := by rw [ht]; simp [bytesL, hi]
  rw [List.getElem?_take_of_lt hi] at h1
  simpa using h1
/-- What sum.Open hands back. -/
def Opened (w : World) (len : Nat) (xs : List Nat) (e : Ending) (w' : World) : Prop := ∃ A n c f, e = .returned (.tuple #[.slice A n c, .int .i64 f]) ∧ Below w.heap.size w w' ∧
  (len < 4 ∧ n = 0 ∧ f = 3 ∨ 4 ≤ len ∧ sumOf xs ≠ 0 ∧ n = 0 ∧ f = 6 ∨ 4 ≤ len ∧ sumOf xs = 0 ∧ f = 0 ∧ Reads w' A n (xs.take (len - 4)))
theorem opened_calls (w : World) (a : Option Addr) (len cap : Nat) (xs : List Nat) (hx : Reads w a len xs) (hc : len ≤ cap) (hlen : len ≤ 1000000000) (ht : Table w) :
    Calls Tryd.prog 14 #[.slice a len cap] w (Opened w len xs) := by
  refine (open_calls w a len cap xs hx hc hlen ht).mono ?_
  rintro e w' (⟨h, rfl, rfl⟩ | ⟨h, h0, rfl, rfl⟩ | ⟨h, h0, v, rfl, hown, hb⟩)
  · exact ⟨none, 0, 0, 3, rfl, Below.refl _ _, .inl ⟨h, rfl, rfl⟩⟩
  · exact ⟨none, 0, 0, 6, rfl, Below.refl _ _, .inr (.inl ⟨h, h0, rfl, rfl⟩)⟩
  · obtain ⟨A, n, c, rfl, _, _, hr⟩ := hown.slice (fun x hm => hx.2.1 x (List.mem_of_mem_take hm))
    exact ⟨A, n, c, 0, rfl, hb, .inr (.inr ⟨h, h0, rfl, hr⟩)⟩
theorem turn_facts {B : Nat} {w : World} {v : Value} {xs : List Nat} (hown : OwnB B w v ([] ++ xs)) (h0 : 0 < xs.length) (hx : ∀ x ∈ xs, x < 256) (m t : Nat) (ht : t < 256) :
    ∃ g cp q, v = .slice (some ⟨g, 0, none⟩) xs.length cp ∧ B ≤ g ∧ xs.length ≤ cp ∧ cp ≤ maxLen ∧ Hid (OwnB B w (.slice (some ⟨g, 0, none⟩) xs.length cp) xs) ∧ Hid (q = xs.getD (m % xs.length) 0) ∧ q < 256 ∧
      w.cell? ⟨g, m % xs.length, none⟩ = some (.int .u8 ((q : Nat) : Int)) ∧ w.frozen? ⟨g, m % xs.length, none⟩ = false ∧ bits .xor .u8 (q : Int) (t : Int) = ((q ^^^ t : Nat) : Int) ∧
      (0 : Int) ≤ (m : Int) % (xs.length : Int) ∧ (m : Int) % (xs.length : Int) < (xs.length : Int) := by
  rw [List.nil_append] at hown
  obtain ⟨g, cp, cur, rfl, hg, hh, hle, hmx, _, _⟩ := hown.at_ h0
  have hml := Nat.mod_lt m h0
  have hi1 : (m : Int) % (xs.length : Int) < (xs.length : Int) := Int.emod_lt_of_pos _ (by omega)
  have hi0 : (0 : Int) ≤ (m : Int) % (xs.length : Int) := Int.emod_nonneg _ (by omega)
  exact ⟨g, cp, _, rfl, hg, hle, hmx, hown, rfl, getD_lt xs hx _, own_cell hown _ hml, blk_frozen hh _, xor_u8 _ t (getD_lt xs hx _) ht, hi0, hi1⟩
theorem own_reads {B g n cap : Nat} {w : World} {xs : List Nat} (h : OwnB B w (.slice (some ⟨g, 0, none⟩) n cap) xs) (hx : ∀ x ∈ xs, x < 256) {m : Nat} (hl : xs.length = m) : Reads w (some ⟨g, 0, none⟩) m xs := by
  subst hl
  obtain ⟨A, k, e, _, hr⟩ := h.reads hx
  injection e with e1 e2 e3
  rw [← e1] at hr
  exact hr
/-- The first byte of what is owned. -/
theorem first_facts {B : Nat} {w : World} {v : Value} {ys : List Nat} {m : Nat} (hown : OwnB B w v (ys ++ be4 m)) (h0 : 0 < ys.length) (hy : ∀ y ∈ ys, y < 256) :
    ∃ (g : Nat) (n : { n : Nat // 0 < n }) (cp y0 : Nat), v = .slice (some ⟨g, 0, none⟩) n.val cp ∧ B ≤ g ∧ Hid (OwnB B w v (ys ++ be4 m)) ∧ y0 = ys.getD 0 0 ∧ y0 < 256 ∧ w.cell? ⟨g, 0, none⟩ = some (.int .u8 ((y0 : Nat) : Int)) ∧ w.frozen? ⟨g, 0, none⟩ = false := by
  obtain ⟨g, cp, cur, rfl, hg, hh, hle, hmx, _, _⟩ := hown.at_ (by rw [List.length_append]; omega)
  refine ⟨g, ⟨_, by rw [List.length_append]; omega⟩, cp, _, rfl, hg, hown, rfl, getD_lt ys hy 0, ?_, blk_frozen hh _⟩
  rw [own_cell hown 0 (by rw [List.length_append]; omega)]
  congr 3
  rw [List.getD_eq_getElem?_getD, List.getD_eq_getElem?_getD, List.getElem?_append_left h0]
theorem cell_set {w : World} {g i : Nat} {u : Value} (h : w.cell? ⟨g, i, none⟩ = some u) (v : Value) : (w.setCell ⟨g, i, none⟩ v).cell? ⟨g, i, none⟩ = some v := World.cell?_setCell_same _ _ _ h
/-- What is sealed, cut at its end. -/
theorem seal_facts {B : Nat} {w : World} {v : Value} {xs : List Nat} {m : Nat} (hown : OwnB B w v (xs ++ be4 m)) (hx : ∀ x ∈ xs, x < 256) :
    ∃ (g n cp : Nat), v = .slice (some ⟨g, 0, none⟩) n cp ∧ n = xs.length + 4 ∧ n ≤ cp ∧ ∀ k, k ≤ xs.length + 4 → Reads w (some ⟨g, 0, none⟩) k ((xs ++ be4 m).take k) := by
  have hl : (xs ++ be4 m).length = xs.length + 4 := by rw [List.length_append]; rfl
  obtain ⟨g, cp, cur, rfl, hg, hh, hle, hmx, _, _⟩ := hown.at_ (by omega)
  refine ⟨g, _, cp, rfl, hl, hle, fun k hk => ?_⟩
  exact (own_reads hown (sealed_lt xs hx m) rfl).take_ k (by omega)
theorem zipX_lt' (a b : List Nat) (ha : ∀ x ∈ a, x < 256) (hb : ∀ x ∈ b, x < 256) : ∀ x ∈ zipX a b, x < 256 := by
  intro x hx
  simp only [zipX] at hx
  obtain ⟨i, hi, rfl⟩ := List.mem_iff_getElem.1 hx
  rw [List.getElem_zipWith]
  exact Nat.xor_lt_two_pow (n := 8) (ha _ (List.getElem_mem _)) (hb _ (List.getElem_mem _))
/-! ### Bits turned, one by one -/
def flipAt (zs : List Nat) (j : Nat) : List Nat := zs.set (j / 8) (zs.getD (j / 8) 0 ^^^ 128 / 2 ^ (j % 8))
theorem flipAt_length (zs : List Nat) (j : Nat) : (flipAt zs j).length = zs.length := by simp [flipAt]
theorem pow_lt (j : Nat) : 128 / 2 ^ (j % 8) < 256 := by
  have := Nat.div_le_self 128 (2 ^ (j % 8))
  omega
theorem flipAt_lt (zs : List Nat) (j : Nat) (h : ∀ z ∈ zs, z < 256) : ∀ z ∈ flipAt zs j, z < 256 := by
  intro z hz
  rcases List.mem_or_eq_of_mem_set hz with h1 | h1
  · exact h z h1
  · rw [h1]; exact Nat.xor_lt_two_pow (n := 8) (getD_lt zs h _) (pow_lt j)
theorem bits8_flip (x r : Nat) (hx : x < 256) (hr : r < 8) : bits8 (x ^^^ 128 / 2 ^ r) = (bits8 x).set r (!(bits8 x).getD r false) := by
  have : ∀ x : Fin 256, ∀ r : Fin 8, bits8 (x.val ^^^ 128 / 2 ^ r.val) = (bits8 x.val).set r.val (!(bits8 x.val).getD r.val false) := by decide +kernel
  exact this ⟨x, hx⟩ ⟨r, hr⟩
theorem bitsOf_flip : ∀ (zs : List Nat) (j : Nat), (∀ z ∈ zs, z < 256) → j < 8 * zs.length → bitsOf (flipAt zs j) = (bitsOf zs).set j (!(bitsOf zs).getD j false)
  | [], j, _, h => by simp at h
  | z :: zs, j, hz, h => by
    rw [bitsOf_cons]
    by_cases hj : j < 8
    · have e : j / 8 = 0 := by omega
      have e2 : j % 8 = j := by omega
      unfold flipAt
      rw [e, e2, List.set_cons_zero, List.getD_cons_zero, bitsOf_cons, bits8_flip z j (hz z (List.mem_cons_self ..)) hj, List.set_append_left _ _ (by rw [bits8_length]; exact hj)]
      congr 3
      rw [List.getD_eq_getElem?_getD, List.getD_eq_getElem?_getD, List.getElem?_append_left (by rw [bits8_length]; exact hj)]
    · obtain ⟨i, rfl⟩ : ∃ i, j = i + 8 := ⟨j - 8, by omega⟩
      have e : (i + 8) / 8 = i / 8 + 1 := by omega
      have e2 : (i + 8) % 8 = i % 8 := by omega
      have ih := bitsOf_flip zs i (fun y hy => hz y (List.mem_cons_of_mem _ hy)) (by rw [List.length_cons] at h; omega)
      unfold flipAt at *
      rw [e, e2, List.set_cons_succ, List.getD_cons_succ, bitsOf_cons, ih, List.set_append_right _ _ (by rw [bits8_length]; omega), bits8_length, Nat.add_sub_cancel]
      have e3 : (bits8 z ++ bitsOf zs).getD (i + 8) false = (bitsOf zs).getD i false := by
        rw [List.getD_eq_getElem?_getD, List.getD_eq_getElem?_getD, List.getElem?_append_right (by rw [bits8_length]; omega), bits8_length, Nat.add_sub_cancel]
      rw [e3]
/-- The bytes behind i rounds. -/
def turnedBy (s : List Nat) (k p : Nat) : Nat → List Nat
  | 0 => s
  | i + 1 => if p / 2 ^ i % 2 = 1 then flipAt (turnedBy s k p i) (k + i) else turnedBy s k p i
theorem turnedBy_length (s : List Nat) (k p : Nat) : ∀ i, (turnedBy s k p i).length = s.length
  | 0 => rfl
  | i + 1 => by
    unfold turnedBy
    split
    · rw [flipAt_length, turnedBy_length s k p i]
    · exact turnedBy_length s k p i
theorem turnedBy_lt (s : List Nat) (k p : Nat) (h : ∀ z ∈ s, z < 256) : ∀ i, ∀ z ∈ turnedBy s k p i, z < 256
  | 0 => h
  | i + 1 => by
    unfold turnedBy
    split
    · exact flipAt_lt _ _ (turnedBy_lt s k p h i)
    · exact turnedBy_lt s k p h i
def anyBit (p : Nat) : Nat → Bool
  | 0 => false
  | i + 1 => anyBit p i || decide (p / 2 ^ i % 2 = 1)
def patBits (p i : Nat) : List Bool := (List.range i).map fun j => decide (p / 2 ^ j % 2 = 1)
theorem patBits_length (p i : Nat) : (patBits p i).length = i := by simp [patBits]
theorem patBits_succ (p i : Nat) : patBits p (i + 1) = patBits p i ++ [decide (p / 2 ^ i % 2 = 1)] := by simp [patBits, List.range_succ]
theorem anyBit_zeros (p : Nat) : ∀ i, patBits p i = zeros i → anyBit p i = false
  | 0, _ => rfl
  | i + 1, h => by
    rw [patBits_succ, zeros, List.replicate_succ'] at h
    obtain ⟨h1, h2⟩ := List.append_inj h (by rw [patBits_length, List.length_replicate])
    rw [anyBit, anyBit_zeros p i h1]
    simpa using h2
theorem turnedBy_none (s : List Nat) (k p : Nat) : ∀ i, anyBit p i = false → turnedBy s k p i = s
  | 0, _ => rfl
  | i + 1, h => by
    rw [anyBit, Bool.or_eq_false_iff] at h
    rw [turnedBy, if_neg (by simpa using h.2), turnedBy_none s k p i h.1]
theorem zipX_flip (s z : List Nat) (j : Nat) (h : s.length = z.length) : zipX s (flipAt z j) = flipAt (zipX s z) j := by
  unfold flipAt
  apply List.ext_getElem
  · simp [zipX, h]
  intro i h1 h2
  have hl : i < z.length := by simpa [zipX, h] using h1
  simp only [zipX, List.getElem_zipWith, List.getElem_set]
  by_cases hi : j / 8 = i
  · subst hi
    rw [if_pos rfl, if_pos rfl, ← Nat.xor_assoc]
    congr 1
    simp [hl, h]
  · rw [if_neg hi, if_neg hi]
theorem diff_bits (s : List Nat) (k p : Nat) (hs : ∀ z ∈ s, z < 256) : ∀ i, k + i ≤ 8 * s.length → bitsOf (zipX s (turnedBy s k p i)) = zeros k ++ patBits p i ++ zeros (8 * s.length - k - i)
  | 0, h => by
    rw [turnedBy, zipX_self, bitsOf_zeros, show patBits p 0 = [] from rfl, List.append_nil, zeros, zeros, zeros, List.replicate_append_replicate]
    congr 1
    omega
  | i + 1, h => by
    have ih := diff_bits s k p hs i (by omega)
    have hz : zeros (8 * s.length - k - i) = false :: zeros (8 * s.length - k - (i + 1)) := by
      rw [zeros, show 8 * s.length - k - i = (8 * s.length - k - (i + 1)) + 1 by omega, List.replicate_succ]; rfl
    rw [turnedBy, patBits_succ]
    by_cases hb : p / 2 ^ i % 2 = 1
    · rw [if_pos hb, zipX_flip _ _ _ (turnedBy_length s k p i).symm, bitsOf_flip _ _ (zipX_lt' _ _ hs (turnedBy_lt s k p hs i)) (by rw [zipX_length _ _ (turnedBy_length s k p i).symm]; omega), ih, hz]
      have hl : (zeros k ++ patBits p i).length = k + i := by simp [zeros, patBits_length]
      rw [List.set_append_right _ _ (by rw [hl]; exact Nat.le_refl _), hl, Nat.sub_self, List.getD_eq_getElem?_getD, List.getElem?_append_right (by rw [hl]; exact Nat.le_refl _), hl, Nat.sub_self]
      simp [hb]
    · rw [if_neg hb, ih, hz]
      simp [hb]
theorem burst_sum (xs : List Nat) (k p i : Nat) (hx : ∀ x ∈ xs, x < 256) (h0 : sumOf xs = 0) (hk : k + i ≤ 8 * xs.length) (hi : i ≤ 32) : sumOf (turnedBy xs k p i) = 0 ↔ anyBit p i = false := by
  constructor
  · intro h
    have e := crc_xor xs (turnedBy xs k p i) (BitVec.allOnes 32) (BitVec.allOnes 32) (turnedBy_length xs k p i).symm
    have e1 : crc (BitVec.allOnes 32) xs = 0#32 := BitVec.eq_of_toNat_eq h0
    have e2 : crc (BitVec.allOnes 32) (turnedBy xs k p i) = 0#32 := BitVec.eq_of_toNat_eq h
    rw [e1, e2, BitVec.xor_self, BitVec.xor_self, crc, diff_bits xs k p hx i hk] at e
    have := burst_ne _ _ _ (by rw [patBits_length]; exact hi) e
    rw [patBits_length] at this
    exact anyBit_zeros p i this
  · intro h
    rw [turnedBy_none xs k p i h]
    exact h0
end Go.Proofs.YtfkagmngblkbbaaDoor

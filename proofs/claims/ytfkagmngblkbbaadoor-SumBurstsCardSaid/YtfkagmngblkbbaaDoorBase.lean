/-
  WHAT THE SUM's WALKS SPEAK OF: bytes that a slice reads as; the table; xor of numbers. No statement of its own.
-/
import Derived.Test.YtfkagmngblkbbaaDoorRows
import Derived.Test.YtfkagmngblkbbaaDoorCrc
import Derived.WalkKit
import Derived.LoopTactic
import Derived.Lib.Hide
namespace Go.Proofs.YtfkagmngblkbbaaDoor
open Go.RowKit Crc

/-- The slice at a, of len elements, reads as these bytes. -/
def Reads (w : World) (a : Option Addr) (len : Nat) (xs : List Nat) : Prop :=
  xs.length = len ∧ (∀ x ∈ xs, x < 256) ∧ len ≤ 9223372036854775807 ∧
  (0 < len → ∃ b off, a = some ⟨b, off, none⟩ ∧ ∀ i, i < len → w.cell? ⟨b, off + i, none⟩ = some (.int .u8 ((xs.getD i 0 : Nat) : Int)))

/-- The table of the half bytes lies where start-up lays it. -/
def Table (w : World) : Prop := ∀ i, i < 16 → w.cell? ⟨0, i, none⟩ = some (.int .u32 ((tab.getD i 0 : Nat) : Int))

theorem Table.below {w w' : World} (h : Table w) (hb : Below w.heap.size w w') : Table w' := fun i hi => (hb.cell (p := ⟨0, i, none⟩) (World.block_lt_of_cell? w _ (h i hi))).trans (h i hi)
theorem Reads.below {w w' : World} {a : Option Addr} {len : Nat} {xs : List Nat} (h : Reads w a len xs) (hb : Below w.heap.size w w') : Reads w' a len xs :=
  ⟨h.1, h.2.1, h.2.2.1, fun hp => by
    obtain ⟨b, off, e, hc⟩ := h.2.2.2 hp
    exact ⟨b, off, e, fun i hi => (hb.cell (p := ⟨b, off + i, none⟩) (World.block_lt_of_cell? w _ (hc i hi))).trans (hc i hi)⟩⟩

/-- The sum of bytes as a number. -/
def sumOf (xs : List Nat) : Nat := (crc (BitVec.allOnes 32) xs).toNat
theorem sumOf_lt (xs : List Nat) : sumOf xs < 4294967296 := (crc (BitVec.allOnes 32) xs).isLt

theorem xor_u32 (a b : Nat) (ha : a < 4294967296) (hb : b < 4294967296) : bits .xor .u32 (a : Int) (b : Int) = ((a ^^^ b : Nat) : Int) := by
  have hx : a ^^^ b < 4294967296 := Nat.xor_lt_two_pow (n := 32) ha hb
  show IntKind.u32.wrap (((BitVec.ofInt 32 (a : Int)) ^^^ (BitVec.ofInt 32 (b : Int))).toNat : Int) = _
  rw [BitVec.toNat_xor, BitVec.ofInt_natCast, BitVec.ofInt_natCast, BitVec.toNat_ofNat, BitVec.toNat_ofNat, Nat.mod_eq_of_lt (show a < 2 ^ 32 from ha), Nat.mod_eq_of_lt (show b < 2 ^ 32 from hb), IntKind.wrap_u32]
  omega
theorem xor_u8 (a b : Nat) (ha : a < 256) (hb : b < 256) : bits .xor .u8 (a : Int) (b : Int) = ((a ^^^ b : Nat) : Int) := by
  have hx : a ^^^ b < 256 := Nat.xor_lt_two_pow (n := 8) ha hb
  show IntKind.u8.wrap (((BitVec.ofInt 8 (a : Int)) ^^^ (BitVec.ofInt 8 (b : Int))).toNat : Int) = _
  rw [BitVec.toNat_xor, BitVec.ofInt_natCast, BitVec.ofInt_natCast, BitVec.toNat_ofNat, BitVec.toNat_ofNat, Nat.mod_eq_of_lt (show a < 2 ^ 8 from ha), Nat.mod_eq_of_lt (show b < 2 ^ 8 from hb), IntKind.wrap_u8]
  omega

theorem tab_lt (i : Nat) : tab.getD i 0 < 4294967296 := by
  by_cases h : i < 16
  · have : ∀ i : Fin 16, tab.getD i.val 0 < 4294967296 := by decide
    exact this ⟨i, h⟩
  · rw [List.getD_eq_getElem?_getD, List.getElem?_eq_none (by simp [tab]; omega)]; decide

/-- One half byte into the rest, as numbers. -/
def half (r n : Nat) : Nat := (r * 16 % 4294967296) ^^^ tab.getD (r / 268435456 ^^^ n) 0
theorem half_lt (r n : Nat) : half r n < 4294967296 := Nat.xor_lt_two_pow (n := 32) (Nat.mod_lt _ (by decide)) (tab_lt _)
theorem idx_lt (r n : Nat) (hr : r < 4294967296) (hn : n < 16) : r / 268435456 ^^^ n < 16 := Nat.xor_lt_two_pow (n := 4) (by show _ < 16; omega) hn
theorem half_crc (r : B32) (n : Nat) (hn : n < 16) : half r.toNat n = (crcB r (nib n)).toNat := by
  rw [nib_step r n hn, BitVec.toNat_xor, BitVec.toNat_shiftLeft, Nat.shiftLeft_eq, tabB, BitVec.toNat_ofNat]
  rw [Nat.mod_eq_of_lt (a := tab.getD _ 0) (tab_lt _)]
  rfl
theorem byte_crc (r : B32) (x : Nat) (hx : x < 256) : half (half r.toNat (x / 16)) (x % 16) = (byteStep r x).toNat := by
  rw [half_crc r _ (by omega), half_crc _ _ (by omega), ← crcB_append]
  rfl
theorem half_walk (r n : Nat) :
    bits .xor .u32 ((r : Int) * 16 % 4294967296) ((tab.getD (r / 268435456 ^^^ n) 0 : Nat) : Int) = ((half r n : Nat) : Int) := by
  have e : ((r : Int) * 16 % 4294967296) = ((r * 16 % 4294967296 : Nat) : Int) := by omega
  rw [e, xor_u32 _ _ (Nat.mod_lt _ (by decide)) (tab_lt _)]
  rfl
theorem idx_walk (r n : Nat) (hr : r < 4294967296) (hn : n < 16) : bits .xor .u32 ((r : Int) / 268435456) (n : Int) = ((r / 268435456 ^^^ n : Nat) : Int) := by
  have e : ((r : Int) / 268435456) = ((r / 268435456 : Nat) : Int) := by omega
  rw [e, xor_u32 _ _ (by omega) (by omega)]

theorem take_snoc (xs : List Nat) (k : Nat) (h : k < xs.length) : xs.take (k + 1) = xs.take k ++ [xs.getD k 0] := by
  rw [List.take_succ_eq_append_getElem h, List.getD_eq_getElem?_getD, List.getElem?_eq_getElem h]; rfl
theorem getD_lt (xs : List Nat) (h : ∀ x ∈ xs, x < 256) (k : Nat) : xs.getD k 0 < 256 := by
  by_cases hk : k < xs.length
  · rw [List.getD_eq_getElem?_getD, List.getElem?_eq_getElem hk]; exact h _ (List.getElem_mem hk)
  · rw [List.getD_eq_getElem?_getD, List.getElem?_eq_none (by omega)]; decide
theorem sumOf_take (xs : List Nat) (hx : ∀ x ∈ xs, x < 256) (k : Nat) (h : k < xs.length) :
    sumOf (xs.take (k + 1)) = half (half (sumOf (xs.take k)) (xs.getD k 0 / 16)) (xs.getD k 0 % 16) := by
  rw [take_snoc xs k h, sumOf, crc_snoc, sumOf, byte_crc _ _ (getD_lt xs hx k)]
/-- All that the walk wants of one half byte, in its own spelling: the place in the table, what stands there, the rest behind it. -/
theorem half_step {w : World} (ht : Table w) (r n : Nat) (hr : r < 4294967296) (hn : n < 16) :
    ∃ j t h : Nat, h = half r n ∧ j < 16 ∧ bits .xor .u32 ((r : Int) / 268435456) (n : Int) = (j : Int) ∧ w.cell? ⟨0, j, none⟩ = some (.int .u32 (t : Int)) ∧ bits .xor .u32 ((r : Int) * 16 % 4294967296) (t : Int) = (h : Int) ∧ h < 4294967296 :=
  ⟨_, _, _, rfl, idx_lt r n hr hn, idx_walk r n hr hn, ht _ (idx_lt r n hr hn), half_walk r n, half_lt _ _⟩
/-- A block of the call's own reads as what was laid there. -/
theorem Reads.row {W : World} {g : Nat} {cs : Array Value} {t : TypeId} {fr : Nat × Nat} {xs : List Nat} (hh : W.heap[g]? = some (.cells cs t fr)) (hc : ∀ i, i < xs.length → cs[i]? = some (.int .u8 ((xs.getD i 0 : Nat) : Int)))
    (hb : ∀ x ∈ xs, x < 256) (hm : xs.length ≤ 9223372036854775807) : Reads W (some ⟨g, 0, none⟩) xs.length xs :=
  ⟨rfl, hb, hm, fun _ => ⟨g, 0, rfl, fun i hi => by rw [Nat.zero_add, cell_of_row W g i cs t fr hh]; exact hc i hi⟩⟩
theorem blk_set {w : World} {g : Nat} {t : TypeId} {cs : Array Value} {fr : Nat × Nat} (h : w.heap[g]? = some (.cells cs t fr)) (i : Nat) (u : Value) : (w.setCell ⟨g, i, none⟩ u).heap[g]? = some (.cells (cs.setIfInBounds i u) t fr) := by
  simp [World.setCell, Array.getElem?_modify, h]
theorem blk_frozen {w : World} {g : Nat} {t : TypeId} {cs : Array Value} (h : w.heap[g]? = some (.cells cs t (0, 0))) (i : Nat) : w.frozen? ⟨g, i, none⟩ = false := by simp [World.frozen?, h]
/-- Cells that hold these bytes. -/
def bytesArr (xs : List Nat) : Array Value := (xs.map fun x => Value.int .u8 ((x : Nat) : Int)).toArray
theorem bytesArr_at (xs : List Nat) (i : Nat) (h : i < xs.length) : (bytesArr xs)[i]? = some (.int .u8 ((xs.getD i 0 : Nat) : Int)) := by
  simp [bytesArr, h]
theorem bytesArr_set (xs : List Nat) (i : Nat) (x : Nat) : (bytesArr xs).setIfInBounds i (.int .u8 ((x : Nat) : Int)) = bytesArr (xs.set i x) := by
  apply Array.ext'
  simp [bytesArr, List.map_set]
end Go.Proofs.YtfkagmngblkbbaaDoor

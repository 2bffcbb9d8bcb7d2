/-
  FROM A ROW's READING TO WHAT THE SUM's WALKS ASK: a slice of bytes that came in reads as bytes; the listed variable is the table; a world for the witness. No statement of its own.
-/
import Derived.Test.YtfkagmngblkbbaaDoorCards
import Derived.Test.YtfkagmngblkbbaaDoorTie
import Derived.Test.YtfkagmngblkbbaaDoorBase
import Derived.ProofKit
import Derived.OpenShut
import Derived.ChangeOld
import Derived.Deep.DeepHandedRow
import Derived.Lib.LaidTab
namespace Go.Proofs.YtfkagmngblkbbaaDoor
open Go.ChangeShapes Go.WideShapes Go.ChangeAt Go.RowKit

theorem own : ownKnob Tryd.prog.godebug = none := by kernel_rfl
theorem laidOut : laidOutB Tryd.prog = true := by kernel_rfl
theorem gTab : Tryd.prog.globalNamed "weathervane/sum.lines" = some 0 := by kernel_rfl
theorem gTabType : (Tryd.prog.globals[0]?).map (·.type) = some 36 := by kernel_rfl
theorem cells36 : Tryd.prog.cellsOf 36 = 16 := by kernel_rfl
theorem cells24 : Tryd.prog.cellsOf 24 = 1 := by kernel_rfl

def tabInts : List Int := [0, 79764919, 159529838, 222504665, 319059676, 398814059, 445009330, 507990021, 638119352, 583659535, 797628118, 726387553, 890018660, 835552979, 1015980042, 944750013]
theorem tabInts_eq : ∀ i : Fin 16, tabInts.getD i.val 0 = ((Crc.tab.getD i.val 0 : Nat) : Int) := by decide

/-- What the row's list gives: the table's cells hold its numbers. -/
theorem table_of {W : World} (h : laidMetH Tryd.prog [("weathervane/sum.lines", Rows.laid_weathervane_sum_lines)] W) : Table W := fun i hi => by
  have ht : Lib.TabIs Tryd.prog W "weathervane/sum.lines" .u32 tabInts := Lib.tabIs_of_head (rest := []) gTab gTabType Tryd.underlying36 Tryd.underlying24 cells24 cells36 h
  have := ht.cell gTab i (by exact hi)
  rw [this, tabInts_eq ⟨i, hi⟩]

/-- A row of cells that came in: nil; or so many numbers of its kind. -/
def IsRow (k : IntKind) (w : World) (a : Option Addr) (len cap : Nat) (zs : List Int) : Prop :=
  (a = none ∧ len = 0 ∧ cap = 0 ∧ zs = []) ∨
  ∃ x, a = some x ∧ len ≤ cap ∧ cap ≤ maxLen ∧ zs.length = cap ∧ (∀ i, i < zs.length → w.cell? (x.add i) = some (.int k (zs.getD i 0))) ∧ ∀ n ∈ zs, (Lit.int k n).wf = true

theorem u8_of_wf {n : Int} (h : (Lit.int .u8 n).wf = true) : 0 ≤ n ∧ n ≤ 255 := by
  simpa [Lit.wf, IntKind.min, IntKind.max, IntKind.signed, IntKind.bits] using h

theorem reads_of_row {w : World} {a : Option Addr} {len cap : Nat} {zs : List Int} (h : IsRow .u8 w a len cap zs) : ∃ xs, Reads w a len xs := by
  rcases h with ⟨rfl, rfl, rfl, rfl⟩ | ⟨x, rfl, hl, hm, hz, hc, hw⟩
  · exact ⟨[], rfl, by simp, by decide, fun h => absurd h (Nat.lt_irrefl 0)⟩
  · refine ⟨(zs.take len).map Int.toNat, ?_, ?_, ?_, fun hp => ?_⟩
    · simp; omega
    · intro n hn
      obtain ⟨z, hz', rfl⟩ := List.mem_map.1 hn
      have := u8_of_wf (hw z (List.mem_of_mem_take hz'))
      omega
    · unfold maxLen at hm; omega
    · have h0 := hc 0 (by omega)
      obtain ⟨b, off, spot⟩ := x
      obtain rfl : spot = none := by simpa [Addr.add] using World.cell?_spot h0
      refine ⟨b, off, rfl, fun i hi => ?_⟩
      have hi' : i < zs.length := by omega
      have := hc i hi'
      have ha : (⟨b, off, none⟩ : Addr).add i = ⟨b, off + i, none⟩ := by unfold Addr.add; split <;> simp_all
      rw [ha] at this
      rw [this]
      have hb := u8_of_wf (hw _ (List.getElem_mem hi'))
      have e1 : zs.getD i 0 = zs[i] := by rw [List.getD_eq_getElem?_getD, List.getElem?_eq_getElem hi']; rfl
      have e2 : ((zs.take len).map Int.toNat).getD i 0 = zs[i].toNat := by
        rw [List.getD_eq_getElem?_getD, List.getElem?_map, List.getElem?_take_of_lt hi, List.getElem?_eq_getElem hi']; rfl
      rw [e1, e2]
      congr 2
      omega

/-- A slice of bytes among the arguments. -/
theorem open_bytes {H : Type} {enc : TypeId × Value → H} {W : World} {d : DataW H} {p : List MemPlace} {a : Option Addr} {len cap : Nat}
    (h : DataW.Trod enc Tryd.prog W 0 (fun _ => true) true 22 (Value.slice a len cap) d p) : ∃ xs, Reads W a len xs := by
  obtain ⟨fuel, hf⟩ := h
  rcases open_ints Tryd.underlying22 Tryd.underlying5 (by kernel_rfl) hf with ⟨hcs, _⟩ | ⟨x, l, c, zs, hcs, _, hl, hm, hz, _, hcell, hwz⟩
  · simp [Value.cells] at hcs
    obtain ⟨rfl, rfl, rfl⟩ := hcs
    exact reads_of_row (zs := []) (.inl ⟨rfl, rfl, rfl, rfl⟩)
  · simp [Value.cells] at hcs
    obtain ⟨rfl, rfl, rfl⟩ := hcs
    exact reads_of_row (.inr ⟨_, rfl, hl, hm, by simpa using hz, hcell, hwz⟩)

/-- A world for the witness: the settled one, the table holding what its initialiser lays. -/
noncomputable def laidWorld (os : Os) : World :=
  { World.holding Tryd.prog os ⟨#[], #[], []⟩ with heap := (World.holding Tryd.prog os ⟨#[], #[], []⟩).heap.modify 0 fun
      | .cells _ t frozen => .cells #[.int .u32 0, .int .u32 79764919, .int .u32 159529838, .int .u32 222504665, .int .u32 319059676, .int .u32 398814059, .int .u32 445009330, .int .u32 507990021, .int .u32 638119352, .int .u32 583659535, .int .u32 797628118, .int .u32 726387553, .int .u32 890018660, .int .u32 835552979, .int .u32 1015980042, .int .u32 944750013] t frozen
      | o => o }
end Go.Proofs.YtfkagmngblkbbaaDoor

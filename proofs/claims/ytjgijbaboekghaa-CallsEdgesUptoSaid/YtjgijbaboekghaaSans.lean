/-
  A WORLD WITHOUT SOME BLOCKS: what reads there hangs on none of them. No statement of its own.
-/
import Derived.Test.YtjgijbaboekghaaTree
set_option linter.unusedSimpArgs false
set_option linter.unusedVariables false
namespace Go.Proofs.Ytjgijbaboekghaa
open Go.RowKit
def sans (w : World) (bs : List Nat) : World := { w with heap := w.heap.mapIdx fun i o => if i ∈ bs then .cells #[] 0 (0, 0) else o }
theorem sans_cell (w : World) (bs : List Nat) (p : Addr) : (sans w bs).cell? p = if p.block ∈ bs then none else w.cell? p := by
  unfold sans World.cell?
  simp only [Array.getElem?_mapIdx]
  cases h : w.heap[p.block]? with
  | none => simp
  | some o =>
    by_cases hb : p.block ∈ bs
    · simp [hb]
    · simp [hb]
/-- All that reads in w reads in w'. -/
def Sub (w w' : World) : Prop := ∀ p v, w.cell? p = some v → w'.cell? p = some v
theorem Sub.refl (w : World) : Sub w w := fun _ _ h => h
theorem Sub.trans {w1 w2 w3 : World} (h : Sub w1 w2) (k : Sub w2 w3) : Sub w1 w3 := fun p v hv => k p v (h p v hv)
theorem sans_sub (w : World) (bs : List Nat) : Sub (sans w bs) w := fun p v h => by
  rw [sans_cell] at h
  split at h
  · cases h
  · exact h
theorem Sub.sans {w : World} {bs : List Nat} {p : Addr} {v : Value} (h : w.cell? p = some v) (hb : p.block ∉ bs) : (sans w bs).cell? p = some v := by
  rw [sans_cell, if_neg hb, h]
theorem sub_below {w w' : World} (hb : Below w.heap.size w w') : Sub w w' := fun p v hv => (hb.cell (World.block_lt_of_cell? w p hv)).trans hv
/-- What no row's block bears stays, though the rows grow and move. -/
theorem sub_sans {w w' : World} {bs bs' : List Nat} (h : ∀ k, k < w.heap.size → k ∉ bs → k ∉ bs' ∧ w'.heap[k]? = w.heap[k]?) : Sub (sans w bs) (sans w' bs') := fun p v hv => by
  rw [sans_cell] at hv
  split at hv
  · cases hv
  · rename_i hb
    obtain ⟨h1, h2⟩ := h _ (World.block_lt_of_cell? w p hv) hb
    rw [sans_cell, if_neg h1]
    exact (World.cell?_of_block h2).trans hv
theorem ReadsRefs.sub {w w' : World} {a : Option Addr} {len : Nat} {l : List (Int × Int)} (h : ReadsRefs w a len l) (hb : Sub w w') : ReadsRefs w' a len l :=
  ⟨h.1, h.2.1, fun hp => by
    obtain ⟨b, off, e, hc⟩ := h.2.2 hp
    exact ⟨b, off, e, fun i hi => ⟨hb _ _ (hc i hi).1, hb _ _ (hc i hi).2⟩⟩⟩
mutual
theorem Cells7.sub {w w' : World} (hb : Sub w w') {vs : List Value} : (s : St) → Cells7 w vs s → Cells7 w' vs s
  | .mk k ak ai bk bi args body => by
    rw [Cells7, Cells7]
    rintro ⟨aa, al, ac, ba, bl, bc, h1, h2, h3, h4, h5⟩
    refine ⟨aa, al, ac, ba, bl, bc, h1, h2.sub hb, h3, h4, fun hp => ?_⟩
    obtain ⟨b, off, e, h⟩ := h5 hp
    exact ⟨b, off, e, CellsAll.sub hb body h⟩
theorem CellsAll.sub {w w' : World} (hb : Sub w w') {b off : Nat} : (l : List St) → CellsAll w b off l → CellsAll w' b off l
  | [] => fun _ => by rw [CellsAll]; trivial
  | s :: r => by
    rw [CellsAll, CellsAll]
    rintro ⟨⟨vs, h1, h2⟩, h3⟩
    exact ⟨⟨vs, Cells7.sub hb s h1, fun j v hv => hb _ _ (h2 j v hv)⟩, CellsAll.sub hb r h3⟩
end
theorem ReadsBody.sub {w w' : World} {a : Option Addr} {len : Nat} {l : List St} (h : ReadsBody w a len l) (hb : Sub w w') : ReadsBody w' a len l :=
  ⟨h.1, h.2.1, fun hp => by
    obtain ⟨b, off, e, hc⟩ := h.2.2 hp
    exact ⟨b, off, e, hc.sub hb _⟩⟩
/-- A block known whole, as the walk reads it. -/
theorem blk3 {w : World} {g : Nat} {cs : Array Value} {t : TypeId} (h : w.heap[g]? = some (.cells cs t)) : (∀ o, w.cell? ⟨g, o, none⟩ = cs[o]?) ∧ (∀ o, w.frozen? ⟨g, o, none⟩ = false) ∧ g < w.heap.size := by
  refine ⟨fun o => ?_, fun o => ?_, ?_⟩
  · simp [World.cell?, h]
  · simp [World.frozen?, h]
  · rcases Nat.lt_or_ge g w.heap.size with h1 | h1
    · exact h1
    · rw [Array.getElem?_eq_none h1] at h; cases h
end Go.Proofs.Ytjgijbaboekghaa

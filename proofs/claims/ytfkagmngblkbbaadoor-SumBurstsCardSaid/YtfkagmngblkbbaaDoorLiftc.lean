/-
  FROM A ROW's READING TO WHAT THE SEAL's WALKS ASK OF A SLICE THAT CAME IN: nil has no room, and no slice is longer than its room. No statement of its own.
-/
import Derived.Test.YtfkagmngblkbbaaDoorLift
namespace Go.Proofs.YtfkagmngblkbbaaDoor
open Go.ChangeShapes Go.WideShapes Go.ChangeAt Go.RowKit
/-- A slice of bytes that came in. -/
def Came (w : World) (a : Option Addr) (len cap : Nat) (xs : List Nat) : Prop := Reads w a len xs ∧ (a = none → cap = 0) ∧ len ≤ cap
theorem came_of_row {w : World} {a : Option Addr} {len cap : Nat} {zs : List Int} (h : IsRow .u8 w a len cap zs) : ∃ xs, Came w a len cap xs := by
  obtain ⟨xs, hx⟩ := reads_of_row h
  refine ⟨xs, hx, ?_⟩
  rcases h with ⟨rfl, rfl, rfl, rfl⟩ | ⟨x, rfl, hl, _⟩
  · exact ⟨fun _ => rfl, Nat.le_refl _⟩
  · exact ⟨(fun e => by cases e), hl⟩
theorem open_came {H : Type} {enc : TypeId × Value → H} {W : World} {d : DataW H} {p : List MemPlace} {a : Option Addr} {len cap : Nat}
    (h : DataW.Trod enc Tryd.prog W 0 (fun _ => true) true 22 (Value.slice a len cap) d p) : ∃ xs, Came W a len cap xs := by
  obtain ⟨fuel, hf⟩ := h
  rcases open_ints Tryd.underlying22 Tryd.underlying5 (by kernel_rfl) hf with ⟨hcs, _⟩ | ⟨x, l, c, zs, hcs, _, hl, hm, hz, _, hcell, hwz⟩
  · simp [Value.cells] at hcs
    obtain ⟨rfl, rfl, rfl⟩ := hcs
    exact came_of_row (zs := []) (.inl ⟨rfl, rfl, rfl, rfl⟩)
  · simp [Value.cells] at hcs
    obtain ⟨rfl, rfl, rfl⟩ := hcs
    exact came_of_row (.inr ⟨_, rfl, hl, hm, by simpa using hz, hcell, hwz⟩)
end Go.Proofs.YtfkagmngblkbbaaDoor

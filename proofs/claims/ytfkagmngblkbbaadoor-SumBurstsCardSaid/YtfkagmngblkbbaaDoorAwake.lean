/-
  weathervanelaw02.awake (function 9): the example of the document, true. Condition: the table lies as start-up lays it.
-/
import Derived.Test.YtfkagmngblkbbaaDoorOf
import Derived.Lib.SlBytesConst
namespace Go.Proofs.YtfkagmngblkbbaaDoor
open Go.RowKit Crc
theorem awake_calls (w : World) (ht : Table w) : Calls Tryd.prog 9 #[] w fun e w' => e = .returned (.bool true) ∧ Below w.heap.size w w' := by
  have HT := Lib.hid ht
  clear ht
  have kc := fun (w : World) (C : Array Value) (n c : Nat) => Lib.run_convert_bytes_const (P := Tryd.prog) w 22 5 C n c Tryd.underlying22 Tryd.underlying5
  go_enter Tryd.func9, Tryd.ntmps9
  go_wp2_with fail
  refine (of_calls _ _ 9 9 nine (Reads.row (heap_alloc_new _ _) ?_ (by decide) (by decide)) (HT.out.below ((Below.refl _ _).alloc (Nat.le_refl _) _))).mono ?_
  · have : ∀ i : Fin 9, (#[Value.int IntKind.u8 49, Value.int IntKind.u8 50, Value.int IntKind.u8 51, Value.int IntKind.u8 52, Value.int IntKind.u8 53, Value.int IntKind.u8 54, Value.int IntKind.u8 55, Value.int IntKind.u8 56, Value.int IntKind.u8 57])[i.val]? = some (.int .u8 ((nine.getD i.val 0 : Nat) : Int)) := fun ⟨i, hi⟩ => by
      match i, hi with
      | 0, _ => rfl
      | 1, _ => rfl
      | 2, _ => rfl
      | 3, _ => rfl
      | 4, _ => rfl
      | 5, _ => rfl
      | 6, _ => rfl
      | 7, _ => rfl
      | 8, _ => rfl
    exact fun i hi => this ⟨i, hi⟩
  rintro e w1 ⟨rfl, rfl⟩
  rw [sumOf_nine]
  go_wp2
  go_ret
  exact ⟨rfl, (Below.refl _ _).alloc (Nat.le_refl _) _⟩
end Go.Proofs.YtfkagmngblkbbaaDoor

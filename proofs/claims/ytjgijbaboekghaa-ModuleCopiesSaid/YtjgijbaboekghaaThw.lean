/-
  WHAT LIES IN BLOCKS THAT NOTHING HAS FROZEN. No statement of its own.
-/
import Derived.Test.YtjgijbaboekghaaCpyP
set_option linter.unusedSimpArgs false
set_option linter.unusedVariables false
namespace Go.Proofs.Ytjgijbaboekghaa
open Go.RowKit
/-- Is a block there, and no part of it frozen? -/
def plainB (w : World) (k : Nat) : Bool := match w.heap[k]? with
  | some (.cells _ _ fr) => fr == (0, 0)
  | _ => false
def frz (w : World) : List Nat := (List.range w.heap.size).filter fun k => !plainB w k
theorem mem_frz {w : World} {k : Nat} : k ∈ frz w ↔ k < w.heap.size ∧ plainB w k = false := by
  unfold frz
  rw [List.mem_filter, List.mem_range]
  simp
/-- The world without the blocks bs, and without those that are frozen. -/
def TH (w : World) (bs : List Nat) : World := sans w (bs ++ frz w)
theorem plainB_same {w w' : World} {k : Nat} (h : w'.heap[k]? = w.heap[k]?) : plainB w' k = plainB w k := by unfold plainB; rw [h]
theorem th_of {w w' : World} {bs bs' : List Nat} (h : ∀ k, k < w.heap.size → k ∉ bs → k ∉ bs' ∧ w'.heap[k]? = w.heap[k]?) : Sub (TH w bs) (TH w' bs') := sub_sans fun k hk hkb => by
  obtain ⟨h1, h2⟩ := h k hk (fun hm => hkb (List.mem_append_left _ hm))
  refine ⟨fun hm => ?_, h2⟩
  rcases List.mem_append.1 hm with hm | hm
  · exact h1 hm
  · refine hkb (List.mem_append_right _ (mem_frz.2 ⟨hk, ?_⟩))
    rw [← plainB_same h2]
    exact (mem_frz.1 hm).2
theorem th_below {w w' : World} {bs : List Nat} (hb : Below w.heap.size w w') : Sub (TH w bs) (TH w' bs) := th_of fun k hk hkb => ⟨hkb, hb.block k hk⟩
theorem th_less {w : World} {bs bs' : List Nat} (h : ∀ b ∈ bs', b ∈ bs) : Sub (TH w bs) (TH w bs') := th_of fun k _ hkb => ⟨fun hm => hkb (h _ hm), rfl⟩
theorem th_store {w : World} {p : Addr} {u : Value} {bs : List Nat} (hp : p.block ∈ bs) : Sub (TH w bs) (TH (w.setCell p u) bs) := th_of fun k _ hkb =>
  ⟨hkb, Below.heap_setCell w p u k (fun e => hkb (e ▸ hp))⟩
theorem th_sub (w : World) (bs : List Nat) : Sub (TH w bs) w := sans_sub _ _
theorem th_sans (w : World) (bs : List Nat) : Sub (TH w bs) (sans w bs) := sub_sans_less fun b hb => List.mem_append_left _ hb
/-- A row of the call's own is not frozen. -/
theorem own_thaw {w : World} {B n c g size : Nat} {e : TypeId} {xs : List Value} {bs : List Nat} (h : w.ownsRow B e size (.slice (some ⟨g, 0, none⟩) n c) n xs) (hbs : ∀ b ∈ bs, b ≠ g) : g ∉ bs ++ frz w := by
  intro hm
  rcases List.mem_append.1 hm with hm | hm
  · exact hbs g hm rfl
  · rcases h.2 with ⟨e, _⟩ | ⟨g', cap, cur, e, hb, hh, _⟩
    · cases e
    · injection e with e1
      injection e1 with e1
      injection e1 with e1
      subst e1
      have := (mem_frz.1 hm).2
      unfold plainB at this
      rw [hh] at this
      simp at this
/-- What is read there lies beside bs, and is not frozen. -/
theorem th_cell {w : World} {bs : List Nat} {p : Addr} {v : Value} (h : (TH w bs).cell? p = some v) : w.cell? p = some v ∧ p.block ∉ bs ∧ p.block < w.heap.size ∧ w.frozen? p = false := by
  unfold TH at h
  rw [sans_cell] at h
  split at h
  · cases h
  · rename_i hn
    have hlt := World.block_lt_of_cell? w p h
    refine ⟨h, fun hm => hn (List.mem_append_left _ hm), hlt, ?_⟩
    have hp : plainB w p.block = true := by
      cases hb : plainB w p.block with
      | true => rfl
      | false => exact absurd (List.mem_append_right _ (mem_frz.2 ⟨hlt, hb⟩)) hn
    unfold plainB at hp
    cases hh : w.heap[p.block]? with
    | none => rw [hh] at hp; cases hp
    | some o =>
      rw [hh] at hp
      cases o with
      | cells cs t fr =>
        have : fr = (0, 0) := by simpa using hp
        subst this
        simp [World.frozen?, hh]
      | _ => cases hp
end Go.Proofs.Ytjgijbaboekghaa

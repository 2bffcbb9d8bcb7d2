/-
  awake (function 21): the document's example. Lists of the call's own, read as numbers and as calls.
-/
import Derived.Test.YtjgijbaboekghaaRX
set_option linter.unusedVariables false
set_option linter.unusedSimpArgs false
namespace Go.Proofs.Ytjgijbaboekghaa.R
open Go.RowKit
theorem info68 : (Try.prog.info? 68).map (fun i => (i.zero, i.size, i.bytes)) = some (some (.agg #[.int .i64 0, .int .i64 0, .int .i64 0]), 3, 24) := by kernel_rfl
def edges (l : List Edge) : List Value := l.flatMap fun x => [.int .i64 x.1, .int .i64 x.2.1, .int .i64 x.2.2]
theorem edges_length (l : List Edge) : (edges l).length = l.length * 3 := by
  induction l with
  | nil => rfl
  | cons x t ih => simp only [edges, List.flatMap_cons, List.length_append, List.length_cons, List.length_nil] at ih ⊢; omega
theorem edges_at (l : List Edge) (i : Nat) (hi : i < l.length) : (edges l)[i * 3]? = some (.int .i64 (l.getD i (0, 0, 0)).1) ∧ (edges l)[i * 3 + 1]? = some (.int .i64 (l.getD i (0, 0, 0)).2.1) ∧ (edges l)[i * 3 + 2]? = some (.int .i64 (l.getD i (0, 0, 0)).2.2) := by
  induction l generalizing i with
  | nil => simp at hi
  | cons x t ih =>
    cases i with
    | zero => simp [edges]
    | succ i =>
      have := ih i (by simpa using hi)
      have e : edges (x :: t) = .int .i64 x.1 :: .int .i64 x.2.1 :: .int .i64 x.2.2 :: edges t := rfl
      rw [e, show (i + 1) * 3 = i * 3 + 1 + 1 + 1 by omega]
      simpa using this
theorem ReadsI.block {w : World} {g n : Nat} {cs : Array Value} {t : TypeId} {fr : Nat × Nat} {xs : List Int} (hh : w.heap[g]? = some (.cells cs t fr)) (h : cs.toList.take n = ints xs) (hl : xs.length = n) (hn : n ≤ 1000) : ReadsI w (some ⟨g, 0, none⟩) n xs := by
  refine ⟨hl, hn, fun _ => ⟨g, 0, rfl, fun i hi => ?_⟩⟩
  rw [blk_cell hh, Nat.zero_add]
  have : (cs.toList.take n)[i]? = some (.int .i64 (xs.getD i 0)) := by
    rw [h, ints, List.getElem?_map, List.getElem?_eq_getElem (by omega), List.getD_eq_getElem?_getD, List.getElem?_eq_getElem (by omega)]; rfl
  rw [List.getElem?_take_of_lt hi] at this
  simpa using this
theorem ReadsE.block {w : World} {g n : Nat} {cs : Array Value} {t : TypeId} {fr : Nat × Nat} {l : List Edge} (hh : w.heap[g]? = some (.cells cs t fr)) (h : cs.toList.take (n * 3) = edges l) (hl : l.length = n) (hn : n ≤ 1000) : ReadsE w (some ⟨g, 0, none⟩) n l := by
  refine ⟨hl, hn, fun _ => ?_⟩
  have key : ∀ j v, j < n * 3 → (edges l)[j]? = some v → w.cell? ⟨g, 0 + j, none⟩ = some v := by
    intro j v hj hv
    rw [blk_cell hh, Nat.zero_add]
    rw [← h, List.getElem?_take_of_lt hj] at hv
    simpa using hv
  refine ⟨g, 0, rfl, fun i hi => ?_⟩
  obtain ⟨k0, k1, k2⟩ := edges_at l i (by omega)
  exact ⟨key _ _ (by omega) k0, key _ _ (by omega) k1, key _ _ (by omega) k2⟩
/-- A row of the call's own reads as its numbers. -/
theorem ReadsI.own {w : World} {B n : Nat} {A : Option Addr} {cp : Nat} {xs : List Int} (h : w.ownsRow B 3 1 (.slice A n cp) n (ints xs)) (hn : n ≤ 1000) (hl : xs.length = n) : ReadsI w A n xs := by
  rcases h.2 with ⟨e, h0⟩ | ⟨g, cap, cur, e, hb, hh, h1, h2, h3, h4⟩
  · exact ⟨hl, hn, fun hp => by omega⟩
  · injection e with e1 e2 e3
    subst e1
    exact .block hh (by rw [← h4, Nat.mul_one]) hl hn
theorem ReadsE.own {w : World} {B n : Nat} {A : Option Addr} {cp : Nat} {l : List Edge} (h : w.ownsRow B 68 3 (.slice A n cp) n (edges l)) (hn : n ≤ 1000) (hl : l.length = n) : ReadsE w A n l := by
  rcases h.2 with ⟨e, h0⟩ | ⟨g, cap, cur, e, hb, hh, h1, h2, h3, h4⟩
  · exact ⟨hl, hn, fun hp => by omega⟩
  · injection e with e1 e2 e3
    subst e1
    exact .block hh h4 hl hn
theorem awake_list : reachList 3 [0] [(0, 0, 2)] = [0, 2] := by
  rw [← seenList_eq (s := [true, false, true]) (k := 3) rfl]
  · rfl
  · intro n
    constructor
    · intro h
      match n, h with
      | 0, _ => exact .entry (by omega) (by simp)
      | 2, _ => exact .step (m := 0) (c := 0) (.entry (by omega) (by simp)) (by simp) (by omega)
      | n + 3, h => simp at h
    · intro h
      cases h with
      | entry h1 h2 => simp at h2; subst h2; rfl
      | step h1 h2 h3 => simp at h2; have : n = 2 := by omega
                         subst this; rfl
set_option maxRecDepth 100000 in
set_option maxHeartbeats 1000000 in
theorem awake_calls (w : World) : Calls Try.prog 21 #[] w fun e w' => e = .returned (.bool true) ∧ Below w.heap.size w w' := by
  go_enter Try.func21, Try.ntmps21
  go_wp2_with fail
  refine (reach_calls _ 3 3 rfl (by omega) _ _ 1 1 1 1 [0] [(0, 0, 2)] ?_ ?_).mono ?_
  · exact .block (blk_alloc (heap_alloc_new _ _) _) rfl rfl (by omega)
  · have h := heap_alloc_new (w.alloc (.cells #[.int .i64 0] 3)) (.cells #[.int .i64 0, .int .i64 0, .int .i64 2] 68)
    rw [show (w.alloc (.cells #[.int .i64 0] 3)).heap.size = w.heap.size + 1 by simp] at h
    exact .block h rfl rfl (by omega)
  rintro e w2 ⟨v, rfl, hv, hb⟩
  rw [awake_list] at hv
  obtain ⟨A, cp, rfl, _, _⟩ := own_shape hv
  have hr := ReadsI.own hv (by decide) rfl
  obtain ⟨b, off, rfl, hall⟩ := hr.2.2 (by decide)
  have c0 : w2.cell? ⟨b, off, none⟩ = some (.int .i64 0) := hall 0 (by decide)
  have c1 : w2.cell? ⟨b, off + 1, none⟩ = some (.int .i64 2) := hall 1 (by decide)
  have HB := Lib.hid (show Below w.heap.size w w2 from ((((Below.refl _ _).alloc (Nat.le_refl _) _).alloc (by simp) _).trans (hb.mono (by simp; omega))))
  clear hv hr hall hb
  go_wp2
  go_ret
  exact ⟨rfl, HB.out⟩
end Go.Proofs.Ytjgijbaboekghaa.R

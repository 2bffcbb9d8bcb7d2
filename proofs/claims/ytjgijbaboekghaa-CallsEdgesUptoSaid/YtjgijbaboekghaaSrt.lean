/-
  slices.SortFunc of edges (function 49): the library's contract, laid at this program in plain words. No statement of its own.
-/
import Derived.Shelf.SlSortCmp.NoneTotal
import Derived.Test.YtjgijbaboekghaaWhom
import Derived.Test.YtjgijbaboekghaaCpt
set_option linter.unusedSimpArgs false
set_option linter.unusedVariables false
namespace Go.Proofs.Ytjgijbaboekghaa
open Go.Shelf Go.RowKit Go.Lib Go.Sort
def Try.sortEdge_ren : Go.Shelf.Ren := ⟨fun | 6 => 49 | 15 => 69 | 14 => 68 | 28 => 81 | 29 => 82 | 20 => 73 | 21 => 74 | 22 => 75 | 23 => 76 | 24 => 77 | 25 => 78 | 26 => 79 | 27 => 80 | 46 => 83 | 47 => 84 | 48 => 85 | 49 => 86 | 50 => 87 | 57 => 88 | n => n, fun | 22 => 64 | 24 => 68 | 25 => 101 | 3 => 3 | 39 => 126 | 0 => 0 | 53 => 138 | 55 => 140 | 4 => 4 | 46 => 131 | 45 => 130 | 50 => 135 | 5 => 5 | 9 => 9 | 66 => 141 | 70 => 145 | 76 => 147 | 77 => 148 | n => n, fun | n => n⟩
set_option maxRecDepth 100000 in
theorem Try.sortEdge : SlLaysF0.n6 Try.prog Try.sortEdge_ren := {
  mixed := by kernel_rfl
  f6 := ⟨ "slices.SortFunc[[]weathervane/api.Edge,weathervane/api.Edge]", by decide, Try.func49.trans (congrArg some (by kernel_rfl))⟩
  f14 := ⟨ "slices.pdqsortCmpFunc[weathervane/api.Edge]", by decide, Try.func68.trans (congrArg some (by kernel_rfl))⟩
  f15 := Try.func69.trans (congrArg some (by kernel_rfl))
  f20 := ⟨ "slices.insertionSortCmpFunc[weathervane/api.Edge]", by decide, Try.func73.trans (congrArg some (by kernel_rfl))⟩
  f21 := ⟨ "slices.heapSortCmpFunc[weathervane/api.Edge]", by decide, Try.func74.trans (congrArg some (by kernel_rfl))⟩
  f22 := ⟨ "slices.breakPatternsCmpFunc[weathervane/api.Edge]", by decide, Try.func75.trans (congrArg some (by kernel_rfl))⟩
  f23 := ⟨ "slices.choosePivotCmpFunc[weathervane/api.Edge]", by decide, Try.func76.trans (congrArg some (by kernel_rfl))⟩
  f24 := ⟨ "slices.reverseRangeCmpFunc[weathervane/api.Edge]", by decide, Try.func77.trans (congrArg some (by kernel_rfl))⟩
  f25 := ⟨ "slices.partialInsertionSortCmpFunc[weathervane/api.Edge]", by decide, Try.func78.trans (congrArg some (by kernel_rfl))⟩
  f26 := ⟨ "slices.partitionEqualCmpFunc[weathervane/api.Edge]", by decide, Try.func79.trans (congrArg some (by kernel_rfl))⟩
  f27 := ⟨ "slices.partitionCmpFunc[weathervane/api.Edge]", by decide, Try.func80.trans (congrArg some (by kernel_rfl))⟩
  f28 := Try.func81.trans (congrArg some (by kernel_rfl))
  f29 := Try.func82.trans (congrArg some (by kernel_rfl))
  f46 := ⟨ "slices.siftDownCmpFunc[weathervane/api.Edge]", by decide, Try.func83.trans (congrArg some (by kernel_rfl))⟩
  f47 := Try.func84.trans (congrArg some (by kernel_rfl))
  f48 := Try.func85.trans (congrArg some (by kernel_rfl))
  f49 := ⟨ "slices.medianAdjacentCmpFunc[weathervane/api.Edge]", by decide, Try.func86.trans (congrArg some (by kernel_rfl))⟩
  f50 := ⟨ "slices.medianCmpFunc[weathervane/api.Edge]", by decide, Try.func87.trans (congrArg some (by kernel_rfl))⟩
  f57 := ⟨ "slices.order2CmpFunc[weathervane/api.Edge]", by decide, Try.func88.trans (congrArg some (by kernel_rfl))⟩
  t0 := Try.underlying0
  a0 := Try.isAgg0
  z0 := Try.sizeOf0
  v0 := Try.zeroValue0
  t3 := Try.underlying3
  a3 := Try.isAgg3
  z3 := Try.sizeOf3
  v3 := Try.zeroValue3
  t4 := Try.underlying4
  a4 := Try.isAgg4
  z4 := Try.sizeOf4
  v4 := Try.zeroValue4
  t5 := Try.underlying5
  a5 := Try.isAgg5
  z5 := Try.sizeOf5
  v5 := Try.zeroValue5
  t9 := Try.underlying9
  a9 := Try.isAgg9
  z9 := Try.sizeOf9
  v9 := Try.zeroValue9
  t22 := Try.underlying64
  a22 := Try.isAgg64
  z22 := Try.sizeOf64
  v22 := Try.zeroValue64
  t25 := Try.underlying101
  a25 := Try.isAgg101
  z25 := Try.sizeOf101
  v25 := Try.zeroValue101
  t39 := Try.underlying126
  a39 := Try.isAgg126
  z39 := Try.sizeOf126
  v39 := Try.zeroValue126
  t45 := Try.underlying130
  a45 := Try.isAgg130
  z45 := Try.sizeOf130
  v45 := Try.zeroValue130
  t46 := Try.underlying131
  a46 := Try.isAgg131
  z46 := Try.sizeOf131
  v46 := Try.zeroValue131
  t50 := Try.underlying135
  a50 := Try.isAgg135
  z50 := Try.sizeOf135
  v50 := Try.zeroValue135
  t53 := Try.underlying138
  a53 := Try.isAgg138
  z53 := Try.sizeOf138
  v53 := Try.zeroValue138
  t55 := Try.underlying140
  a55 := Try.isAgg140
  z55 := Try.sizeOf140
  v55 := Try.zeroValue140
  t66 := Try.underlying141
  a66 := Try.isAgg141
  z66 := Try.sizeOf141
  v66 := Try.zeroValue141
  t70 := Try.underlying145
  a70 := Try.isAgg145
  z70 := Try.sizeOf145
  v70 := Try.zeroValue145
  t76 := Try.underlying147
  a76 := Try.isAgg147
  z76 := Try.sizeOf147
  v76 := Try.zeroValue147
  t77 := Try.underlying148
  a77 := Try.isAgg148
  z77 := Try.sizeOf148
  v77 := Try.zeroValue148 }
/-! ### the order of edges -/
theorem cmpI_lt {x y : Int} : cmpI x y < 0 ↔ x < y := by unfold cmpI; split <;> (try split) <;> omega
theorem cmpI_zero {x y : Int} : cmpI x y = 0 ↔ x = y := by unfold cmpI; split <;> (try split) <;> omega
/-- Lexicographic. -/
def ltE (x y : Ed) : Prop := x.1 < y.1 ∨ x.1 = y.1 ∧ (x.2.1 < y.2.1 ∨ x.2.1 = y.2.1 ∧ x.2.2 < y.2.2)
theorem cmpE_lt {x y : Ed} : cmpE x y < 0 ↔ ltE x y := by
  unfold cmpE ltE orI orI orI orI cmpI
  repeat' split
  all_goals omega
theorem ltOf_cmpE {x y : Ed} : ltOf cmpE x y = true ↔ ltE x y := by unfold ltOf; rw [decide_eq_true_iff]; exact cmpE_lt
theorem ltOf_cmpE' {x y : Ed} : ltOf cmpE x y = false ↔ ¬ ltE x y := by rw [← ltOf_cmpE, Bool.not_eq_true]
theorem cmpE_swo : SWO (ltOf cmpE) where
  irrefl x := by rw [ltOf_cmpE']; unfold ltE; omega
  trans x y z h1 h2 := by rw [ltOf_cmpE] at *; unfold ltE at *; omega
  ntrans x y z h1 h2 := by rw [ltOf_cmpE'] at *; unfold ltE at *; omega
theorem cmpE_total (x y : Ed) (h1 : ltOf cmpE x y = false) (h2 : ltOf cmpE y x = false) : x = y := by
  rw [ltOf_cmpE'] at h1 h2
  obtain ⟨x1, x2, x3⟩ := x
  obtain ⟨y1, y2, y3⟩ := y
  unfold ltE at h1 h2
  simp only at h1 h2
  have e1 : x1 = y1 := by omega
  have e2 : x2 = y2 := by omega
  have e3 : x3 = y3 := by omega
  rw [e1, e2, e3]
def sortE (l : List Ed) : List Ed := l.mergeSort fun x y => !(ltOf cmpE) y x
theorem sortE_len (l : List Ed) : (sortE l).length = l.length := List.length_mergeSort l
theorem sortE_sorted {l : List Ed} (h : l.Pairwise ltE) : sortE l = l :=
  List.mergeSort_of_pairwise (h.imp fun {a b} hab => by
    rw [Bool.not_eq_true', ltOf_cmpE']
    unfold ltE at *
    omega)
/-! ### the row -/
theorem edV_len (x : Ed) : (edV x).length = 3 := rfl
theorem edV_one (x : Ed) : ∀ v ∈ edV x, v.oneCell' = true := fun v hv => by
  simp only [edV, List.mem_cons, List.not_mem_nil, or_false] at hv
  rcases hv with rfl | rfl | rfl <;> rfl
theorem flatK_encE (l : List Ed) : (flatK edV 3 l.toArray).toList = encE l := by
  apply List.ext_getElem?
  intro t
  rcases Nat.lt_or_ge t (l.length * 3) with ht | ht
  · have hi : t / 3 < l.length := by omega
    obtain ⟨x, hx⟩ : ∃ x, l[t / 3]? = some x := ⟨_, List.getElem?_eq_getElem hi⟩
    obtain ⟨h1, h2, h3⟩ := encE_at hx
    have hf := get_flatK edV 3 l.toArray t (by simpa using ht)
    have hsz : t < (flatK edV 3 l.toArray).size := by simpa using ht
    rw [Array.getElem?_toList, Array.getElem?_eq_getElem hsz]
    rw [getElem!_pos (flatK edV 3 l.toArray) t hsz] at hf
    rw [hf]
    have hx' : l.toArray[t / 3]! = x := by
      rw [getElem!_pos l.toArray (t / 3) (by simpa using hi)]
      have := (List.getElem?_eq_some_iff.1 hx).2
      simpa using this
    rw [hx']
    have hm : t % 3 = 0 ∨ t % 3 = 1 ∨ t % 3 = 2 := by omega
    rcases hm with hm | hm | hm
    · rw [hm, show t = t / 3 * 3 by omega, h1]; rfl
    · rw [hm, show t = t / 3 * 3 + 1 by omega, h2]; rfl
    · rw [hm, show t = t / 3 * 3 + 2 by omega, h3]; rfl
  · rw [List.getElem?_eq_none (by simpa using ht), List.getElem?_eq_none (by rw [encE_len]; exact ht)]
theorem holds_own {w : World} {B n c g : Nat} {l : List Ed} (h : w.ownsRow B 68 3 (.slice (some ⟨g, 0, none⟩) n c) n (encE l)) (hl : l.length = n) : HoldsK edV 3 w g 0 l.toArray := fun j hj => by
  have hj' : j < l.length * 3 := by simpa using hj
  have hg : (encE l)[j]? = some (id (flatK edV 3 l.toArray)[j]!) := by
    rw [← flatK_encE, Array.getElem?_toList, getElem!_pos _ j hj, Array.getElem?_eq_getElem hj]
    rfl
  rw [Nat.zero_add]
  exact row_cell h hg
theorem grow_grownBy (w : World) (os : Array Obj) (g : Option Nat) : w.grownBy (Sort.grow w os) g := ⟨rfl, rfl, rfl, by simp, fun k hk _ => heap_grow_old w os hk⟩
theorem sortW_own {w : World} {B n c g m : Nat} {l l' : List Ed} {os : Array Obj} (h : w.ownsRow B 68 3 (.slice (some ⟨g, 0, none⟩) n c) n (encE l)) (hl : l'.length = n) :
    (sortWorldK edV 3 w g 0 m l'.toArray os).ownsRow B 68 3 (.slice (some ⟨g, 0, none⟩) n c) n (encE l') ∧ w.grownBy (sortWorldK edV 3 w g 0 m l'.toArray os) (some g) := by
  obtain ⟨h1, h2⟩ := h
  rcases h2 with ⟨e, _⟩ | ⟨g', cap, cur, e, hb, hh, q1, q2, q3, q4⟩
  · cases e
  · injection e with e1 e2 e3
    injection e1 with e1
    injection e1 with e1
    subst e1 e3
    have hlt := blk_lt hh
    have hblk : (sortWorldK edV 3 w g 0 m l'.toArray os).heap[g]? = some (.cells (putCells id 0 (flatK edV 3 l'.toArray) cur) 68 (0, 0)) := by
      unfold sortWorldK
      rw [heap_grow_old _ _ (by show g < (Array.modify _ _ _).size; simpa using hlt)]
      show (w.heap.modify g _)[g]? = _
      rw [Array.getElem?_modify, if_pos rfl, hh]
      rfl
    refine ⟨⟨by rw [encE_len, hl], .inr ⟨g, c, _, rfl, hb, hblk, q1, q2, by unfold putCells; simpa using q3, ?_⟩⟩, ?_⟩
    · rw [← flatK_encE]
      apply List.ext_getElem?
      intro t
      have hsz : (flatK edV 3 l'.toArray).size = n * 3 := by rw [size_flatK]; simp [hl]
      rcases Nat.lt_or_ge t (n * 3) with ht | ht
      · rw [List.getElem?_take_of_lt ht, Array.getElem?_toList, Array.getElem?_toList]
        unfold putCells
        have htc : t < cur.size := by omega
        rw [Array.getElem?_mapIdx, Array.getElem?_eq_getElem htc, Option.map_some, if_pos ⟨Nat.zero_le _, by omega⟩, Nat.sub_zero, getElem!_pos _ t (by omega), Array.getElem?_eq_getElem (by omega)]
        rfl
      · rw [List.getElem?_eq_none (by simp; omega), List.getElem?_eq_none (by simp [hl]; omega)]
    · unfold sortWorldK
      refine ⟨rfl, rfl, rfl, ?_, fun k hk hne => ?_⟩
      · rw [size_grow]; show _ ≤ (Array.modify _ _ _).size + _; simp
      · rw [heap_grow_old _ _ (by show k < (Array.modify _ _ _).size; simpa using hk)]
        show (w.heap.modify g _)[k]? = _
        rw [Array.getElem?_modify, if_neg (fun e => hne (by rw [e]))]
theorem cmpE_lays (blk off size : Nat) (w : World) : CmpLays Try.prog 50 #[] edV 3 cmpE blk off size w := fun _ _ _ _ x y => cmpE_calls x y _
theorem ed_agg (w : World) : (isAgg (Try.sortEdge_ren.t 24)).run Try.prog w = .ok true w := Try.isAgg68 w
theorem ed_size (w : World) : (Go.sizeOf (Try.sortEdge_ren.t 24)).run Try.prog w = .ok 3 w := Try.sizeOf68 w
/-- slices.SortFunc of edges. -/
theorem sortE_calls (w : World) (B : Nat) (A : Option Addr) (n c : Nat) (l : List Ed) (hl : l.length = n) (hn : n ≤ 1099511627776) (h : w.ownsRow B 68 3 (.slice A n c) n (encE l)) :
    Calls Try.prog 49 #[.slice A n c, .func (.func 50) #[] #[]] w fun e w' => e = .returned (.tuple #[]) ∧ w'.ownsRow B 68 3 (.slice A n c) n (encE (sortE l)) ∧ w.grownBy w' (Value.slice A n c).ownBlock := by
  by_cases h0 : n = 0
  · subst h0
    obtain rfl : l = [] := List.eq_nil_of_length_eq_zero hl
    refine (AnyF.slices_SortFunc_none Try.sortEdge A c _ w).mono ?_
    rintro e w' ⟨rfl, rfl⟩
    exact ⟨rfl, by rw [sortE_sorted .nil]; exact h, ⟨rfl, rfl, rfl, Nat.le_refl _, fun _ _ _ => rfl⟩⟩
  · obtain ⟨g, rfl, hg1, hg2⟩ := own_addr h (by omega)
    have hcon := AnyQ.slices_SortFunc_total Try.sortEdge 3 ed_agg ed_size edV edV_len edV_one cmpE cmpE_swo 50 #[] g 0 c l.toArray w (enters_of Try.func50 (by kernel_rfl) rfl) (cmpE_lays g 0 _ w) (holds_own h hl) hg2 (by simp; omega) cmpE_total
    rw [show l.toArray.size = n by simpa using hl] at hcon
    refine Calls.mono hcon ?_
    rintro e w' ⟨rfl, m, os, rfl⟩
    obtain ⟨k1, k2⟩ := sortW_own (m := m) (os := os) h ((sortE_len l).trans hl)
    exact ⟨rfl, k1, k2⟩
end Go.Proofs.Ytjgijbaboekghaa

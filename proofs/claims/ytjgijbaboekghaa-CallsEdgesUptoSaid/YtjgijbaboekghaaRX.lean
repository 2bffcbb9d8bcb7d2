import Derived.Test.YtjgijbaboekghaaRCome
set_option linter.unusedVariables false
set_option linter.unusedSimpArgs false
namespace Go.Proofs.Ytjgijbaboekghaa.R
open Go.RowKit
/-- Numbers that a slice reads as. -/
def ReadsI (w : World) (a : Option Addr) (len : Nat) (xs : List Int) : Prop :=
  xs.length = len ∧ len ≤ 1000 ∧ (0 < len → ∃ b off, a = some ⟨b, off, none⟩ ∧ ∀ i, i < len → w.cell? ⟨b, off + i, none⟩ = some (.int .i64 (xs.getD i 0)))
/-- Calls that a slice reads as. -/
def ReadsE (w : World) (a : Option Addr) (len : Nat) (l : List Edge) : Prop :=
  l.length = len ∧ len ≤ 1000 ∧ (0 < len → ∃ b off, a = some ⟨b, off, none⟩ ∧ ∀ i, i < len →
    w.cell? ⟨b, off + i * 3, none⟩ = some (.int .i64 (l.getD i (0, 0, 0)).1) ∧ w.cell? ⟨b, off + i * 3 + 1, none⟩ = some (.int .i64 (l.getD i (0, 0, 0)).2.1) ∧ w.cell? ⟨b, off + i * 3 + 2, none⟩ = some (.int .i64 (l.getD i (0, 0, 0)).2.2))
theorem ReadsI.below {w w' : World} {a : Option Addr} {len : Nat} {xs : List Int} (h : ReadsI w a len xs) (hb : Below w.heap.size w w') : ReadsI w' a len xs :=
  ⟨h.1, h.2.1, fun hp => by
    obtain ⟨b, off, e, hc⟩ := h.2.2 hp
    exact ⟨b, off, e, fun i hi => (hb.cell (p := ⟨b, off + i, none⟩) (World.block_lt_of_cell? w _ (hc i hi))).trans (hc i hi)⟩⟩
theorem ReadsE.below {w w' : World} {a : Option Addr} {len : Nat} {l : List Edge} (h : ReadsE w a len l) (hb : Below w.heap.size w w') : ReadsE w' a len l :=
  ⟨h.1, h.2.1, fun hp => by
    obtain ⟨b, off, e, hc⟩ := h.2.2 hp
    have k : ∀ p v, w.cell? p = some v → w'.cell? p = some v := fun p v hv => (hb.cell (World.block_lt_of_cell? w p hv)).trans hv
    exact ⟨b, off, e, fun i hi => ⟨k _ _ (hc i hi).1, k _ _ (hc i hi).2.1, k _ _ (hc i hi).2.2⟩⟩⟩
theorem max2_i (k k' : IntKind) (x y : Int) : Builtin.max2 (.int k x) (.int k' y) = pure (.int k (if x < y then y else x)) := by simp only [Builtin.max2, gt_iff_lt]
theorem max_pair (ats : Array TypeId) (ty : TypeId) (a b : Value) : Builtin.max_ ats ty #[a, b] = (Builtin.max2 a b >>= fun s => pure s) := by simp only [Builtin.max_, List.foldlM_cons, List.foldlM_nil]
attribute [local go_sem] max2_i max_pair
/-- What calls.Reach hands back. -/
def Reached (w : World) (xs : List Nat) (e : Ending) (w' : World) : Prop := ∃ v, e = .returned v ∧ w'.ownsRow w.heap.size 3 1 v xs.length (ints (xs.map fun n : Nat => (n : Int))) ∧ Below w.heap.size w w'
/-- What the last of the work is, and what is left behind it. -/
theorem pop_facts {w0 w : World} {b7 gs b8 : Nat} {s : List Bool} {ys : List Int} {x : Int} (h : RS w0 w b7 gs b8 s (ys ++ [x])) :
    ∃ g cp, (w.cell? ⟨b8, 0, none⟩ = some (.slice (some ⟨g, 0, none⟩) (ys.length + 1) cp) ∧ w.cell? ⟨g, ys.length, none⟩ = some (.int .i64 x) ∧ w.frozen? ⟨b8, 0, none⟩ = false ∧ ys.length + 1 ≤ cp) ∧
      Hid (RS w0 (w.setCell ⟨b8, 0, none⟩ (.slice (some ⟨g, 0, none⟩) ys.length cp)) b7 gs b8 s ys) := by
  obtain ⟨v, c8, hown⟩ := h.c8
  have hl : (ys ++ [x]).length = ys.length + 1 := by simp
  rw [hl] at hown
  have hn := hown
  rcases hown.2 with ⟨_, h0⟩ | ⟨g, cp, cur, rfl, hb, hh, h1, h2, h3, h4⟩
  · omega
  refine ⟨g, cp, ⟨by rw [blk_cell c8]; rfl, ?_, blk_frozen c8 0, h1⟩, ?_⟩
  · rw [blk_cell hh]
    have : (cur.toList.take ((ys.length + 1) * 1))[ys.length]? = some (.int .i64 x) := by rw [h4]; simp [ints]
    rw [List.getElem?_take_of_lt (by omega)] at this
    simpa using this
  have ng : b8 ≠ g := by
    intro e
    rw [e, hh] at c8
    injection c8 with c8
    injection c8 with _ c8
    exact absurd c8 (by decide)
  have n7 : b7 ≠ b8 := by
    intro e
    have := h.c7
    rw [e, c8] at this
    injection this with this
    injection this with _ this
    exact absurd this (by decide)
  have ns : gs ≠ b8 := by
    intro e
    have := h.cs
    rw [e, c8] at this
    injection this with this
    injection this with _ this
    exact absurd this (by decide)
  exact { below := h.below.setCell (p := ⟨b8, 0, none⟩) h.l8 _, c7 := blk_far h.c7 (p := ⟨b8, 0, none⟩) n7 _, cs := blk_far h.cs (p := ⟨b8, 0, none⟩) ns _,
          c8 := ⟨_, blk_set c8 0 _, by simp [ints], .inr ⟨g, cp, cur, rfl, hb, blk_far hh (p := ⟨b8, 0, none⟩) (Ne.symm ng) _, by omega, h2, h3, by
            have := congrArg (List.take ys.length) h4
            rw [List.take_take] at this
            simpa [ints, Nat.min_eq_left] using this⟩⟩,
          l7 := h.l7, ls := h.ls, l8 := h.l8, lw := by have := h.lw; simpa [World.setCell] using this }
theorem edge_at {l : List Edge} {n j : Nat} {x : Edge} (hl : l.length = n) (hj : j < n) (hx : x = l.getD j (0, 0, 0)) : l[j]? = some x := by
  rw [hx, List.getD_eq_getElem?_getD, List.getElem?_eq_getElem (by omega)]; rfl
theorem RS.alloc {w0 w : World} {b7 gs b8 : Nat} {s : List Bool} {wk : List Int} (h : RS w0 w b7 gs b8 s wk) (o : Obj) : RS w0 (w.alloc o) b7 gs b8 s wk where
  below := h.below.alloc h.lw o
  c7 := blk_alloc h.c7 o
  cs := blk_alloc h.cs o
  c8 := by obtain ⟨v, c, hown⟩ := h.c8; exact ⟨v, blk_alloc c o, World.ownsRow.alloc hown o⟩
  l7 := h.l7
  ls := h.ls
  l8 := h.l8
  lw := by have := h.lw; simp; omega
theorem start_rs (w : World) (k : Nat) : RS w (((w.alloc (.cells (madeCells #[Value.bool false] k) 4)).alloc (.cells #[.slice (some ⟨w.heap.size, 0, none⟩) k k] 114)).alloc (.cells #[.slice none 0 0] 29)) (w.heap.size + 1) w.heap.size (w.heap.size + 1 + 1) (List.replicate k false) [] where
  below := (((Below.refl _ _).alloc (Nat.le_refl _) _).alloc (by simp) _).alloc (by simp; omega) _
  c7 := by
    have := blk_alloc (heap_alloc_new (w.alloc (.cells (madeCells #[Value.bool false] k) 4)) (.cells #[.slice (some ⟨w.heap.size, 0, none⟩) k k] 114)) (.cells #[.slice none 0 0] 29)
    rw [List.length_replicate]
    simpa using this
  cs := by
    have := blk_alloc (blk_alloc (heap_alloc_new w (.cells (madeCells #[Value.bool false] k) 4)) (.cells #[.slice (some ⟨w.heap.size, 0, none⟩) k k] 114)) (.cells #[.slice none 0 0] 29)
    rw [this]
    congr 2
    apply Array.ext'
    simp only [madeCells, Array.toList_map, Array.toList_range]
    apply List.ext_getElem?
    intro i
    simp [List.getElem?_replicate, Nat.mod_one]
    split <;> simp_all
  c8 := ⟨_, by
    have := heap_alloc_new ((w.alloc (.cells (madeCells #[Value.bool false] k) 4)).alloc (.cells #[.slice (some ⟨w.heap.size, 0, none⟩) k k] 114)) (.cells #[.slice none 0 0] 29)
    simpa using this, World.ownsRow_nil _ _ _ _⟩
  l7 := by omega
  ls := Nat.le_refl _
  l8 := by omega
  lw := by simp; omega
theorem start_inv (k : Nat) (es : List Int) (l : List Edge) : Inv k es l (List.replicate k false) [] where
  len := List.length_replicate
  sound := fun n h => by simp [List.getD_eq_getElem?_getD, List.getElem?_replicate] at h; split at h <;> simp at h
  work := fun x h => by simp at h
def seenUpto (s : List Bool) (i : Nat) : List Nat := (List.range i).filter fun n => s.getD n false
theorem seenUpto_succ (s : List Bool) (i : Nat) : seenUpto s (i + 1) = seenUpto s i ++ (if s.getD i false = true then [i] else []) := by
  unfold seenUpto
  rw [List.range_succ, List.filter_append]
  congr 1
  cases h : s.getD i false with
  | true => rw [List.filter_cons, if_pos h, if_pos rfl]; rfl
  | false => rw [List.filter_cons, if_neg (by rw [h]; decide), if_neg (by decide)]; rfl
theorem seenUpto_length (s : List Bool) (i : Nat) : (seenUpto s i).length ≤ i := by
  have := List.length_filter_le (fun n => s.getD n false) (List.range i)
  rw [List.length_range] at this
  exact this
set_option maxRecDepth 100000 in
set_option maxHeartbeats 2000000 in
theorem reach_calls (w : World) (f : Int) (k : Nat) (hf : k = f.toNat) (hk : k ≤ 100) (ea la : Option Addr) (en ln ec lc : Nat) (es : List Int) (l : List Edge) (he : ReadsI w ea en es) (hl : ReadsE w la ln l) :
    Calls Try.prog 44 #[.int .i64 f, .slice ea en ec, .slice la ln lc] w (Reached w (reachList k es l)) := by
  have HE := Lib.hid he
  have HL := Lib.hid hl
  have hen := he.2.1
  have hln := hl.2.1
  have hmx : (if f < 0 then (0 : Int) else f) = (k : Int) := by split <;> omega
  have hmk := run_make_row' (P := Try.prog) 114 4 (.bool false) 1 Try.underlying114 info4 rfl .i64 .i64 k (by omega) (by omega)
  clear he hl hf
  go_enter Try.func44, Try.ntmps44
  go_wp2
  clear hmk hmx
  go_loopw [24] (fun iv wr => ∃ (i : Nat) (s : List Bool) (wk : List Int), i ≤ en ∧ iv = .int .i64 i ∧ Hid (RS w wr (w.heap.size + 1) w.heap.size (w.heap.size + 1 + 1) s wk) ∧ Hid (Inv k es l s wk) ∧ Hid (∀ n : Nat, (n : Int) ∈ es.take i → n < k → s.getD n false = true) ∧ Hid (∀ a : Nat, s.getD a false = true → (a : Int) ∈ wk) ∧ Hid (cost s wk ≤ 2 * k)) (fun iv _ => en - (intOf iv).toNat)
  case atStart =>
    exact ⟨0, List.replicate k false, [], Nat.zero_le _, rfl, start_rs w k, start_inv k es l, fun n h => by simp at h, fun a h => by simp [List.getD_eq_getElem?_getD, List.getElem?_replicate] at h; split at h <;> simp at h, by show cost _ _ ≤ _; simp [cost]⟩
  case round =>
    obtain ⟨i, s, wk, hi, rfl, HR, HI, HS, HW, HC⟩ := hrel
    by_cases hlt : i < en
    · obtain ⟨b, off, rfl, hall⟩ := (HE.out.below HR.out.below).2.2 (by omega)
      obtain ⟨x, hx, cx⟩ : ∃ x, x = es.getD i 0 ∧ wr.cell? ⟨b, off + i, none⟩ = some (.int .i64 x) := ⟨_, rfl, hall i hlt⟩
      have HX := Lib.hid hx
      clear hx hall
      go_wp2_with fail
      refine (come_calls w wr _ _ _ s wk x HR.out (by have := HC.out; unfold cost at this; omega)).mono ?_
      rintro e w2 ⟨rfl, hr2⟩
      have HR2 := Lib.hid hr2
      clear hr2
      go_wp2
      refine ⟨⟨i + 1, (come s wk x).1, (come s wk x).2, by omega, by go_num, HR2, ?_, ?_, ?_, ?_⟩, by simp [intOf]; omega⟩
      · refine HI.out.come_ x fun m hm hmk => .entry hmk ?_
        rw [← hm, HX.out]
        have hie : i < es.length := by rw [HE.out.1]; exact hlt
        rw [List.getD_eq_getElem?_getD, List.getElem?_eq_getElem hie]
        exact List.getElem_mem hie
      · show ∀ n : Nat, _ → _ → _
        intro n hn hnk
        have hie : i < es.length := by rw [HE.out.1]; exact hlt
        rw [List.take_succ_eq_append_getElem hie, List.mem_append, List.mem_singleton] at hn
        refine (come_seen s wk x n).2 ?_
        rcases hn with hn | hn
        · exact .inl (HS.out n hn hnk)
        · refine .inr ⟨?_, by rw [HI.out.len]; exact hnk⟩
          rw [HX.out, hn, List.getD_eq_getElem?_getD, List.getElem?_eq_getElem hie]; rfl
      · show ∀ a : Nat, _ → _
        intro a ha
        rcases (come_seen s wk x a).1 ha with h1 | ⟨h1, h2⟩
        · exact (come_work s wk x _).2 (.inl (HW.out a h1))
        · by_cases hs : s.getD a false = true
          · exact (come_work s wk x _).2 (.inl (HW.out a hs))
          · exact (come_work s wk x _).2 (.inr ⟨h1.symm, by omega, by omega, by rw [h1, Int.toNat_natCast]; simpa using hs⟩)
      · exact Nat.le_trans (come_cost s wk x) HC.out
    · have hse : ∀ n : Nat, (n : Int) ∈ es → n < k → s.getD n false = true := fun n h1 h2 => HS.out n (by rw [List.take_of_length_le (by rw [HE.out.1]; omega)]; exact h1) h2
      have hcl : ∀ m j, Closed k l s wk m j := fun m j a ha hw => absurd (HW.out a ha) hw
      have HSE := Lib.hid hse
      have HCL := Lib.hid hcl
      clear hse hcl HS HW
      go_wp2
      go_loopg [12] (2 * k) (fun gk _ wr => ∃ (s : List Bool) (wk : List Int), Hid (RS w wr (w.heap.size + 1) w.heap.size (w.heap.size + 1 + 1) s wk) ∧ Hid (Inv k es l s wk) ∧ Hid (∀ n : Nat, (n : Int) ∈ es → n < k → s.getD n false = true) ∧ Hid (∀ m j, Closed k l s wk m j) ∧ Hid (cost s wk ≤ gk) ∧ Hid (gk ≤ 2 * k))
      case atStart => exact ⟨s, wk, HR, HI, HSE, HCL, HC, Nat.le_refl _⟩
      case round =>
        clear HR HI HSE HCL HC
        obtain ⟨s, wk, HR, HI, HSE, HCL, HC, HG⟩ := hrel
        obtain rfl | ⟨ys, x, rfl⟩ : wk = [] ∨ ∃ ys x, wk = ys ++ [x] := by
          rcases List.eq_nil_or_concat wk with h | ⟨ys, x, h⟩
          · exact .inl h
          · exact .inr ⟨ys, x, by rw [h, List.concat_eq_append]⟩
        · obtain ⟨v, c8, hown⟩ := HR.out.c8
          obtain ⟨A, cp, rfl, _, _⟩ := own_shape hown
          have k8 : wr.cell? ⟨w.heap.size + 1 + 1, 0, none⟩ = some (.slice A 0 cp) := by rw [blk_cell c8]; rfl
          have c7 := HR.out.c7
          rw [HI.out.len] at c7
          have k7 : wr.cell? ⟨w.heap.size + 1, 0, none⟩ = some (.slice (some ⟨w.heap.size, 0, none⟩) k k) := by rw [blk_cell c7]; rfl
          clear c8 hown c7
          go_wp2
          have HG0 := Lib.hid (show wr.heap[w.heap.size]? = _ from HR.out.cs)
          go_loopw [15, 63] (fun v15 v63 wr2 => ∃ (n : Nat) (c : Nat), n ≤ k ∧ v63 = .int .i64 n ∧ c = (seenUpto s n).length ∧ Hid (wr2.ownsRow w.heap.size 3 1 v15 c (ints ((seenUpto s n).map fun n : Nat => (n : Int)))) ∧ Hid (Below w.heap.size w wr2) ∧ Hid (wr2.heap[w.heap.size]? = some (.cells (s.map Value.bool).toArray 4 (0, 0)))) (fun _ v63 _ => k - (intOf v63).toNat)
          case atStart => exact ⟨0, 0, Nat.zero_le _, rfl, rfl, World.ownsRow_nil _ _ _ _, HR.out.below, HG0⟩
          case round =>
            obtain ⟨n, c, hn, rfl, hc, HO, HB, HG1⟩ := hrel
            obtain ⟨A, cp, rfl, _, _⟩ := own_shape HO.out
            by_cases hlt : n < k
            · obtain ⟨b, hb, kb⟩ : ∃ b, b = s.getD n false ∧ wr.cell? ⟨w.heap.size, n, none⟩ = some (.bool b) := ⟨_, rfl, by rw [blk_cell HG1.out]; simp [show n < s.length by rw [HI.out.len]; exact hlt]⟩
              have HBb := Lib.hid hb
              have hc2 := seenUpto_length s n
              rw [← hc] at hc2
              have HC2 := Lib.hid hc
              clear hb hc k8 k7
              cases b with
              | false =>
                go_wp2
                refine ⟨⟨n + 1, c, by omega, by go_num, ?_, ?_, HB, HG1⟩, by simp [intOf]; omega⟩
                · rw [HC2.out, seenUpto_succ, if_neg (by rw [← HBb.out]; decide), List.append_nil]
                · rw [seenUpto_succ, if_neg (by rw [← HBb.out]; decide), List.append_nil]; exact HO
              | true =>
                go_wp2_with (at_builtin; refine append_row (B := w.heap.size) (w0 := w) rfl _ _ 29 3 (.int .i64 0) 1 8 rfl Try.underlying29 info3 rfl (by decide) _ c _ rfl (own_below HO.out ((Below.refl _ _).alloc (Nat.le_refl _) _)) ⟨wr.heap.size, 0, none⟩ 1 1 [.int .i64 (n : Int)] rfl rfl (new_cells _ _ _ _) ?h1 ?hB ?hb (by omega) (by omega) ?_; rotate_right; intro v1 w1 hown hb1 hg1; have HO1 := Lib.hid hown; have HB1 := Lib.hid hb1; have HG2 := Lib.hid (blk_grown (row := (Value.slice A c cp).ownBlock) (blk_alloc HG1.out (.cells #[.int .i64 (n : Int)] 3)) hg1 (own_ne (w := wr) HO.out HG1.out (by decide))); clear hown hb1 hg1)
                · refine ⟨⟨n + 1, c + 1, by omega, by go_num, ?_, ?_, HB1, HG2⟩, by simp [intOf]; omega⟩
                  · rw [HC2.out, seenUpto_succ, if_pos HBb.out.symm, List.length_append]; rfl
                  · rw [seenUpto_succ, if_pos HBb.out.symm, List.map_append, ints, List.map_append]; exact HO1
                case h1 =>
                  intro u hu
                  obtain rfl : u = .int .i64 (n : Int) := by simpa using hu
                  rfl
                case hB =>
                  have := HB.out.size
                  simp
                  omega
                case hb => exact HB.out.alloc HB.out.size _
            · obtain rfl : n = k := by omega
              have HC2 := Lib.hid hc
              clear hc k8 k7
              have hfin : seenUpto s n = reachList n es l := by
                have := seenList_eq HI.out.len (seen_iff HI.out (fun m j => HCL.out m j) HSE.out)
                rw [← this]; unfold seenUpto seenList; rw [HI.out.len]
              go_wp2
              go_ret
              refine ⟨_, rfl, ?_, HB.out⟩
              rw [← hfin, ← HC2.out]
              exact HO.out
        · obtain ⟨g, cp, ⟨k8, kx, f8, hcp⟩, HP⟩ := pop_facts HR.out
          have hwl : ys.length ≤ 200 := by have := HC.out; have := HG.out; unfold cost at *; rw [List.length_append] at *; omega
          obtain ⟨m, rfl, hm⟩ := HI.out.work x (by simp)
          have HM := Lib.hid hm
          have HI2 := Lib.hid (show Inv k es l s ys from { len := HI.out.len, sound := HI.out.sound, work := fun y hy => HI.out.work y (List.mem_append_left _ hy) })
          have HC2 := Lib.hid (show cost s ys + 1 ≤ gk by have := HC.out; unfold cost at *; rw [List.length_append] at this; simp at this; omega)
          have HCL2 := Lib.hid (Closed.pop (m := m) (fun j => HCL.out m j) rfl)
          go_wp2
          go_loopw [48] (fun iv wr => ∃ (j : Nat) (s : List Bool) (wk : List Int), j ≤ ln ∧ iv = .int .i64 j ∧ Hid (RS w wr (w.heap.size + 1) w.heap.size (w.heap.size + 1 + 1) s wk) ∧ Hid (Inv k es l s wk) ∧ Hid (∀ n : Nat, (n : Int) ∈ es → n < k → s.getD n false = true) ∧ Hid (Closed k l s wk m j) ∧ Hid (cost s wk + 1 ≤ gk) ∧ Hid (s.getD m false = true)) (fun iv _ => ln - (intOf iv).toNat)
          case atStart => exact ⟨0, s, ys, Nat.zero_le _, rfl, HP, HI2, HSE, HCL2, HC2, HM⟩
          case round =>
            clear HR HI HSE HCL HC HP HM HI2 HC2 HCL2 k8 kx f8
            obtain ⟨j, s, wk, hj, rfl, HR, HI, HSE, HCL, HC, HM⟩ := hrel
            by_cases hlt : j < ln
            · obtain ⟨b, off, rfl, hall⟩ := (HL.out.below HR.out.below).2.2 (by omega)
              obtain ⟨⟨ef, ec2, et⟩, hx, cx1, cx2, cx3⟩ : ∃ x : Edge, x = l.getD j (0, 0, 0) ∧ wr.cell? ⟨b, off + j * 3, none⟩ = some (.int .i64 x.1) ∧ wr.cell? ⟨b, off + j * 3 + 1, none⟩ = some (.int .i64 x.2.1) ∧ wr.cell? ⟨b, off + j * 3 + 2, none⟩ = some (.int .i64 x.2.2) := ⟨_, rfl, hall j hlt⟩
              have HX := Lib.hid hx
              clear hx hall
              by_cases hfn : ef = (m : Int)
              · have tfn : (ef == (m : Int)) = true := beq_iff_eq.2 hfn
                have HFN := Lib.hid hfn
                clear hfn
                go_wp2_with fail
                refine (come_calls w _ _ _ _ s wk et (HR.out.alloc _) (by have := HC.out; have := HG.out; unfold cost at *; omega)).mono ?_
                rintro e w2 ⟨rfl, hr2⟩
                have HR2 := Lib.hid hr2
                have HLJ := Lib.hid (edge_at HL.out.1 hlt HX.out)
                clear hr2
                go_wp2
                refine ⟨⟨j + 1, (come s wk et).1, (come s wk et).2, by omega, by go_num, HR2, ?_, ?_, ?_, ?_, ?_⟩, by simp [intOf]; omega⟩
                · refine HI.out.come_ et fun n hn hnk => ?_
                  refine .step (HI.out.sound m HM.out) (c := ec2) ?_ hnk
                  rw [← hn, ← HFN.out]
                  exact List.mem_of_getElem? HLJ.out
                · exact fun n h1 h2 => (come_seen s wk et n).2 (.inl (HSE.out n h1 h2))
                · refine (HCL.out.come_ et).next fun c n hl hnk => ?_
                  rw [HLJ.out] at hl
                  injection hl with hl
                  injection hl with _ hl
                  injection hl with _ hl
                  exact (come_seen s wk et n).2 (.inr ⟨hl, by rw [HI.out.len]; exact hnk⟩)
                · exact Nat.le_trans (Nat.add_le_add_right (come_cost s wk et) 1) HC.out
                · exact (come_seen s wk et m).2 (.inl HM.out)
              · have tfn : (ef == (m : Int)) = false := beq_eq_false_iff_ne.2 hfn
                have HFN := Lib.hid hfn
                have HLJ := Lib.hid (edge_at HL.out.1 hlt HX.out)
                clear hfn
                go_wp2
                refine ⟨⟨j + 1, s, wk, by omega, by go_num, HR.out.alloc _, HI, HSE, ?_, HC, HM⟩, by simp [intOf]; omega⟩
                refine HCL.out.next fun c n hl hnk => ?_
                rw [HLJ.out] at hl
                injection hl with hl
                injection hl with hl _
                exact absurd hl HFN.out
            · obtain rfl : j = ln := by omega
              go_wp2
              go_roundg (gk - 1)
              case measure => have := HC.out; omega
              case rel =>
                have h1 := HC.out
                have h2 := HG.out
                refine ⟨s, wk, HR, HI, HSE, ?_, ?_, ?_⟩
                · exact Closed.all (m := m) (by rw [HL.out.1]; exact HCL.out)
                · show _ ≤ _; omega
                · show _ ≤ _; omega
end Go.Proofs.Ytjgijbaboekghaa.R

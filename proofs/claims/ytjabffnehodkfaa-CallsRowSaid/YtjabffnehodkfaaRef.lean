/-
  r14.Reach (function 7): the same answer as calls.Reach.
-/
import Derived.Test.YtjabffnehodkfaaX
import Derived.Test.YtjabffnehodkfaaRefPlain
set_option linter.unusedSimpArgs false
namespace Go.Proofs.Ytjabffnehodkfaa
open Go.RowKit
theorem Inv.mark {k : Nat} {es : List Int} {l : List Edge} {s : List Bool} (h : Inv k es l s []) (m : Nat) (hm : m < k) (hr : Reaches k es l m) : Inv k es l (s.set m true) [] where
  len := by rw [List.length_set]; exact h.len
  sound := fun n hn => by
    rw [set_getD _ _ _ (by rw [h.len]; exact hm), Bool.or_eq_true, decide_eq_true_eq] at hn
    rcases hn with rfl | hn
    · exact hr
    · exact h.sound n hn
  work := fun x hx => by simp at hx
theorem kept_mark {k : Nat} {p : Nat → Prop} {s : List Bool} {m : Nat} (h : ∀ n : Nat, p n → n < k → s.getD n false = true) (hm : m < s.length) : ∀ n : Nat, p n → n < k → (s.set m true).getD n false = true := by
  intro n h1 h2
  rw [set_getD _ _ _ hm, h n h1 h2, Bool.or_true]
theorem entries_mark {k : Nat} {es : List Int} {s : List Bool} {i m : Nat} (h : ∀ n : Nat, (n : Int) ∈ es.take i → n < k → s.getD n false = true) (hx : es[i]? = some (m : Int)) (hm : m < s.length) : ∀ n : Nat, (n : Int) ∈ es.take (i + 1) → n < k → (s.set m true).getD n false = true := by
  intro n hn hk
  obtain ⟨hi, hx⟩ := List.getElem?_eq_some_iff.1 hx
  rw [List.take_succ_eq_append_getElem hi, List.mem_append, List.mem_singleton] at hn
  rw [set_getD _ _ _ hm, Bool.or_eq_true, decide_eq_true_eq]
  rcases hn with hn | hn
  · exact .inr (h n hn hk)
  · exact .inl (by omega)
theorem entries_skip {k : Nat} {es : List Int} {s : List Bool} {i : Nat} {x : Int} (h : ∀ n : Nat, (n : Int) ∈ es.take i → n < k → s.getD n false = true) (hx : es[i]? = some x) (hm : ∀ m : Nat, x = m → k ≤ m) : ∀ n : Nat, (n : Int) ∈ es.take (i + 1) → n < k → s.getD n false = true := by
  intro n hn hk
  obtain ⟨hi, hx⟩ := List.getElem?_eq_some_iff.1 hx
  rw [List.take_succ_eq_append_getElem hi, List.mem_append, List.mem_singleton] at hn
  rcases hn with hn | hn
  · exact h n hn hk
  · have := hm n (by omega); omega
theorem s_lt {s : List Bool} {m : Nat} (h : s.getD m false = true) : m < s.length := by
  rw [List.getD_eq_getElem?_getD] at h
  by_cases hm : m < s.length
  · exact hm
  · rw [List.getElem?_eq_none (by omega)] at h; simp at h
theorem closedAt_not {k : Nat} {l : List Edge} {s : List Bool} {j : Nat} {x y z : Int} (hl : l[j]? = some (x, y, z)) (h : ∀ (m n : Nat), x = m → z = n → n < k → s.getD m false = true → False) : ClosedAt k l s j := by
  intro a c b hl' hb ha
  rw [hl] at hl'
  injection hl' with hl'
  injection hl' with h1 h2
  injection h2 with _ h2
  exact (h a b h1 h2 hb ha).elim
/-- What lies in memory while r14.Reach runs. -/
structure RB (w0 w : World) (s : List Bool) : Prop where
  below : Below w0.heap.size w0 w
  cs : w.heap[w0.heap.size]? = some (.cells (s.map Value.bool).toArray 4 (0, 0))
theorem RB.start (w : World) (k : Nat) : RB w (w.alloc (.cells (madeCells #[Value.bool false] k) 4)) (List.replicate k false) where
  below := (Below.refl _ _).alloc (Nat.le_refl _) _
  cs := by
    have := heap_alloc_new w (.cells (madeCells #[Value.bool false] k) 4)
    rw [this]
    congr 2
    apply Array.ext'
    simp only [madeCells, Array.toList_map, Array.toList_range]
    apply List.ext_getElem?
    intro i
    simp [List.getElem?_replicate, Nat.mod_one]
    split <;> simp_all
theorem RB.set {w0 w : World} {s : List Bool} (h : RB w0 w s) (m : Nat) : RB w0 (w.setCell ⟨w0.heap.size, m, none⟩ (.bool true)) (s.set m true) where
  below := h.below.setCell (p := ⟨w0.heap.size, m, none⟩) (Nat.le_refl _) _
  cs := by
    rw [blk_set h.cs]
    simp
theorem RB.alloc {w0 w : World} {s : List Bool} (h : RB w0 w s) (o : Obj) : RB w0 (w.alloc o) s where
  below := h.below.alloc h.below.size o
  cs := blk_alloc h.cs o
theorem RB.cell {w0 w : World} {s : List Bool} (h : RB w0 w s) {m : Nat} (hm : m < s.length) : ∃ b, b = s.getD m false ∧ w.cell? ⟨w0.heap.size, m, none⟩ = some (.bool b) ∧ w.frozen? ⟨w0.heap.size, m, none⟩ = false :=
  ⟨_, rfl, by rw [blk_cell h.cs]; simp [hm], blk_frozen h.cs m⟩
set_option maxRecDepth 100000 in
set_option maxHeartbeats 2000000 in
theorem ref_calls (w : World) (k : Nat) (hk : k ≤ 100) (ea la : Option Addr) (en ln ec lc : Nat) (es : List Int) (l : List Edge) (he : ReadsI w ea en es) (hl : ReadsE w la ln l) :
    Calls Try.prog 7 #[.int .i64 k, .slice ea en ec, .slice la ln lc] w (Reached w (reachList k es l)) := by
  have HE := Lib.hid he
  have HL := Lib.hid hl
  have hen := he.2.1
  have hln := hl.2.1
  have hmk := run_make_row' (P := Try.prog) 31 4 (.bool false) 1 Try.underlying31 info4 rfl .i64 .i64 k (by omega) (by omega)
  clear he hl
  go_enter Try.func7, Try.ntmps7
  go_wp2
  clear hmk
  go_loopw [8] (fun iv wr => ∃ (i : Nat) (s : List Bool), i ≤ en ∧ iv = .int .i64 i ∧ Hid (RB w wr s) ∧ Hid (Inv k es l s []) ∧ Hid (∀ n : Nat, (n : Int) ∈ es.take i → n < k → s.getD n false = true)) (fun iv _ => en - (intOf iv).toNat)
  case atStart => exact ⟨0, List.replicate k false, Nat.zero_le _, rfl, RB.start w k, start_inv k es l, fun n h => by simp at h⟩
  case round =>
    obtain ⟨i, s, hi, rfl, HR, HI, HS⟩ := hrel
    by_cases hlt : i < en
    · obtain ⟨b, off, rfl, hall⟩ := (HE.out.below HR.out.below).2.2 (by omega)
      obtain ⟨x, hx, cx⟩ : ∃ x, x = es.getD i 0 ∧ wr.cell? ⟨b, off + i, none⟩ = some (.int .i64 x) := ⟨_, rfl, hall i hlt⟩
      have hxe : es[i]? = some x := by rw [hx, List.getD_eq_getElem?_getD, List.getElem?_eq_getElem (by rw [HE.out.1]; exact hlt)]; rfl
      have HX := Lib.hid hxe
      clear hx hall hxe
      by_cases h0 : 0 ≤ x
      · by_cases h1 : x < k
        · obtain ⟨m, rfl⟩ := Int.eq_ofNat_of_zero_le h0
          obtain ⟨bv, hb, kb, fb⟩ := HR.out.cell (m := m) (by rw [HI.out.len]; omega)
          have HBb := Lib.hid hb
          clear hb
          go_wp2
          refine ⟨⟨i + 1, s.set m true, by omega, by go_num, HR.out.set m, ?_, ?_⟩, by simp [intOf]; omega⟩
          · exact HI.out.mark m (by omega) (.entry (by omega) (List.mem_of_getElem? HX.out))
          · exact entries_mark HS.out HX.out (by rw [HI.out.len]; omega)
        · go_wp2
          refine ⟨⟨i + 1, s, by omega, by go_num, HR, HI, ?_⟩, by simp [intOf]; omega⟩
          exact entries_skip HS.out HX.out (fun m hm => by omega)
      · go_wp2
        refine ⟨⟨i + 1, s, by omega, by go_num, HR, HI, ?_⟩, by simp [intOf]; omega⟩
        exact entries_skip HS.out HX.out (fun m hm => by omega)
    · have hse : ∀ n : Nat, (n : Int) ∈ es → n < k → s.getD n false = true := fun n h1 h2 => HS.out n (by rw [List.take_of_length_le (by rw [HE.out.1]; omega)]; exact h1) h2
      have HSE := Lib.hid hse
      have HP := Lib.hid (show Passed k l s 0 from .inr (by have := List.count_le_length (a := false) (l := s); rw [HI.out.len] at this; omega))
      clear hse HS
      go_wp2
      go_loopw [9] (fun iv wr => ∃ (r : Nat) (s : List Bool), r ≤ k ∧ iv = .int .i64 r ∧ Hid (RB w wr s) ∧ Hid (Inv k es l s []) ∧ Hid (∀ n : Nat, (n : Int) ∈ es → n < k → s.getD n false = true) ∧ Hid (Passed k l s r)) (fun iv _ => k - (intOf iv).toNat)
      case atStart => exact ⟨0, s, Nat.zero_le _, rfl, HR, HI, HSE, HP⟩
      case round =>
        clear HR HI HSE HP
        obtain ⟨r, s, hr, rfl, HR, HI, HSE, HP⟩ := hrel
        by_cases hlt : r < k
        · go_wp2
          go_loopw [10] (fun iv wr => ∃ (j : Nat) (s : List Bool), j ≤ ln ∧ iv = .int .i64 j ∧ Hid (RB w wr s) ∧ Hid (Inv k es l s []) ∧ Hid (∀ n : Nat, (n : Int) ∈ es → n < k → s.getD n false = true) ∧ Hid (Passing k l s r j)) (fun iv _ => ln - (intOf iv).toNat)
          case atStart => exact ⟨0, s, Nat.zero_le _, rfl, HR, HI, HSE, HP.out.start⟩
          case round =>
            clear HR HI HSE HP
            obtain ⟨j, s, hj, rfl, HR, HI, HSE, HP⟩ := hrel
            by_cases hlt : j < ln
            · obtain ⟨b, off, rfl, hall⟩ := (HL.out.below HR.out.below).2.2 (by omega)
              obtain ⟨⟨ef, ec2, et⟩, hx, cx1, cx2, cx3⟩ : ∃ x : Edge, x = l.getD j (0, 0, 0) ∧ wr.cell? ⟨b, off + j * 3, none⟩ = some (.int .i64 x.1) ∧ wr.cell? ⟨b, off + j * 3 + 1, none⟩ = some (.int .i64 x.2.1) ∧ wr.cell? ⟨b, off + j * 3 + 2, none⟩ = some (.int .i64 x.2.2) := ⟨_, rfl, hall j hlt⟩
              have HLJ := Lib.hid (edge_at HL.out.1 hlt hx)
              clear hx hall
              by_cases h0 : 0 ≤ ef
              · by_cases h1 : ef < k
                · obtain ⟨a, rfl⟩ := Int.eq_ofNat_of_zero_le h0
                  obtain ⟨bv, hb, kb, fb⟩ := (HR.out.alloc (.cells #[.int .i64 (a : Int), .int .i64 ec2, .int .i64 et] 27)).cell (m := a) (by rw [HI.out.len]; omega)
                  have HBb := Lib.hid hb
                  clear hb
                  cases bv with
                  | true =>
                    by_cases h2 : 0 ≤ et
                    · by_cases h3 : et < k
                      · obtain ⟨m, rfl⟩ := Int.eq_ofNat_of_zero_le h2
                        obtain ⟨bw, hb, kw, fw⟩ := (HR.out.alloc (.cells #[.int .i64 (a : Int), .int .i64 ec2, .int .i64 (m : Int)] 27)).cell (m := m) (by rw [HI.out.len]; omega)
                        clear hb
                        go_wp2
                        refine ⟨⟨j + 1, s.set m true, by omega, by go_num, ?_, ?_, ?_, ?_⟩, by simp [intOf]; omega⟩
                        · exact (HR.out.alloc _).set m
                        · exact HI.out.mark m (by omega) (.step (HI.out.sound a HBb.out.symm) (List.mem_of_getElem? HLJ.out) (by omega))
                        · exact kept_mark HSE.out (by rw [HI.out.len]; omega)
                        · exact HP.out.mark HI.out.len a _ m HLJ.out (by omega) HBb.out.symm
                      · go_wp2
                        refine ⟨⟨j + 1, s, by omega, by go_num, HR.out.alloc _, HI, HSE, HP.out.skip ?_⟩, by simp [intOf]; omega⟩
                        exact closedAt_not HLJ.out fun m n e1 e2 hk' hs => by omega
                    · go_wp2
                      refine ⟨⟨j + 1, s, by omega, by go_num, HR.out.alloc _, HI, HSE, HP.out.skip ?_⟩, by simp [intOf]; omega⟩
                      exact closedAt_not HLJ.out fun m n e1 e2 hk' hs => by omega
                  | false =>
                    go_wp2
                    refine ⟨⟨j + 1, s, by omega, by go_num, HR.out.alloc _, HI, HSE, HP.out.skip ?_⟩, by simp [intOf]; omega⟩
                    exact closedAt_not HLJ.out fun m n e1 e2 hk' hs => by
                      have : m = a := by omega
                      rw [this, ← HBb.out] at hs; cases hs
                · go_wp2
                  refine ⟨⟨j + 1, s, by omega, by go_num, HR.out.alloc _, HI, HSE, HP.out.skip ?_⟩, by simp [intOf]; omega⟩
                  exact closedAt_not HLJ.out fun m n e1 e2 hk' hs => by have := s_lt hs; rw [HI.out.len] at this; omega
              · go_wp2
                refine ⟨⟨j + 1, s, by omega, by go_num, HR.out.alloc _, HI, HSE, HP.out.skip ?_⟩, by simp [intOf]; omega⟩
                exact closedAt_not HLJ.out fun m n e1 e2 hk' hs => by omega
            · obtain rfl : j = ln := by omega
              go_wp2
              refine ⟨⟨r + 1, s, by omega, by go_num, HR, HI, HSE, ?_⟩, by simp [intOf]; omega⟩
              exact Passing.end_ (by rw [HL.out.1]; exact HP.out)
        · obtain rfl : r = k := by omega
          have hfin : seenUpto s r = reachList r es l := by
            have := seenList_eq HI.out.len (seen_iff HI.out (HP.out.closed HI.out.len) HSE.out)
            rw [← this]; unfold seenUpto seenList; rw [HI.out.len]
          have HF := Lib.hid hfin
          clear hfin
          go_wp2
          go_loopw [12, 13] (fun v12 v13 wr => ∃ (n : Nat) (c : Nat), n ≤ r ∧ v13 = .int .i64 n ∧ c = (seenUpto s n).length ∧ Hid (wr.ownsRow w.heap.size 3 1 v12 c (ints ((seenUpto s n).map fun n : Nat => (n : Int)))) ∧ Hid (Below w.heap.size w wr) ∧ Hid (wr.heap[w.heap.size]? = some (.cells (s.map Value.bool).toArray 4 (0, 0)))) (fun _ v13 _ => r - (intOf v13).toNat)
          case atStart => exact ⟨0, 0, Nat.zero_le _, rfl, rfl, World.ownsRow_nil _ _ _ _, HR.out.below, HR.out.cs⟩
          case round =>
            obtain ⟨n, c, hn, rfl, hc, HO, HB, HG1⟩ := hrel
            obtain ⟨A, cp, rfl, _, _⟩ := own_shape HO.out
            by_cases hlt : n < r
            · obtain ⟨b, hb, kb⟩ : ∃ b, b = s.getD n false ∧ wr.cell? ⟨w.heap.size, n, none⟩ = some (.bool b) := ⟨_, rfl, by rw [blk_cell HG1.out]; simp [show n < s.length by rw [HI.out.len]; exact hlt]⟩
              have HBb := Lib.hid hb
              have hc2 := seenUpto_length s n
              rw [← hc] at hc2
              have HC2 := Lib.hid hc
              clear hb hc
              cases b with
              | false =>
                go_wp2
                refine ⟨⟨n + 1, c, by omega, by go_num, ?_, ?_, HB, HG1⟩, by simp [intOf]; omega⟩
                · rw [HC2.out, seenUpto_succ, if_neg (by rw [← HBb.out]; decide), List.append_nil]
                · rw [seenUpto_succ, if_neg (by rw [← HBb.out]; decide), List.append_nil]; exact HO
              | true =>
                go_wp2_with (at_builtin; refine append_row (B := w.heap.size) (w0 := w) rfl _ _ 22 3 (.int .i64 0) 1 8 rfl Try.underlying22 info3 rfl (by decide) _ c _ rfl (own_below HO.out ((Below.refl _ _).alloc (Nat.le_refl _) _)) ⟨wr.heap.size, 0, none⟩ 1 1 [.int .i64 (n : Int)] rfl rfl (new_cells _ _ _ _) ?h1 ?hB ?hb (by omega) (by omega) ?_; rotate_right; intro v1 w1 hown hb1 hg1; have HO1 := Lib.hid hown; have HB1 := Lib.hid hb1; have HG2 := Lib.hid (blk_grown (row := (Value.slice A c cp).ownBlock) (blk_alloc HG1.out (.cells #[.int .i64 (n : Int)] 3)) hg1 (own_ne (w := wr) HO.out HG1.out (by decide))); clear hown hb1 hg1)
                · refine ⟨⟨n + 1, c + 1, by omega, by go_num, ?_, ?_, HB1, HG2⟩, by simp [intOf]; omega⟩
                  · rw [HC2.out, seenUpto_succ, if_pos HBb.out.symm, List.length_append]; rfl
                  · rw [seenUpto_succ, if_pos HBb.out.symm, List.map_append, ints, List.map_append]; exact HO1
                case h1 =>
                  intro u hu
                  obtain rfl : u = .int .i64 (n : Int) := by simpa using hu
                  rfl
                case hB =>
                  have := HB.out.size
                  simp
                  omega
                case hb => exact HB.out.alloc HB.out.size _
            · obtain rfl : n = r := by omega
              have HC2 := Lib.hid hc
              clear hc
              go_wp2
              go_ret
              refine ⟨_, rfl, ?_, HB.out⟩
              rw [← HF.out, ← HC2.out]
              exact HO.out
end Go.Proofs.Ytjabffnehodkfaa

/-
  The law CallsReach (function 3), walked: it is true whatever came in.
-/
import Derived.Test.YtjabffnehodkfaaAwake
import Derived.StillTactics
set_option linter.unusedSimpArgs false
namespace Go.Proofs.Ytjabffnehodkfaa
open Go.RowKit
/-- Appending to one row of the call's own leaves the others, of other types, as they are. -/
theorem own_grown {w w1 : World} {B1 B2 : Nat} {e1 e2 : TypeId} {s1 s2 n1 n2 : Nat} {v1 v2 : Value} {xs1 xs2 : List Value} (h1 : w.ownsRow B1 e1 s1 v1 n1 xs1) (h2 : w.ownsRow B2 e2 s2 v2 n2 xs2) (hne : e2 ≠ e1) (hg : w.grownBy w1 v2.ownBlock) : w1.ownsRow B1 e1 s1 v1 n1 xs1 := by
  obtain ⟨hl, h⟩ := h1
  refine ⟨hl, ?_⟩
  rcases h with h | ⟨g, cap, cur, rfl, hb, hh, r⟩
  · exact .inl h
  · exact .inr ⟨g, cap, cur, rfl, hb, blk_grown hh hg (own_ne h2 hh hne), r⟩
theorem new_cells1 (W : World) (o : Obj) (cs : Array Value) (t : TypeId) (fr : Nat × Nat) : ∀ j u, cs.toList[j]? = some u → ((W.alloc o).alloc (.cells cs t fr)).cell? ((⟨W.heap.size + 1, 0, none⟩ : Addr).add j) = some u := by
  have := new_cells (W.alloc o) cs t fr
  rwa [show (W.alloc o).heap.size = W.heap.size + 1 by simp] at this
theorem reachList_length (k : Nat) (es : List Int) (l : List Edge) : (reachList k es l).length ≤ k := by
  unfold reachList
  refine Nat.le_trans (List.length_filter_le _ _) ?_
  simp
/-- What a row of the call's own holds at a place. -/
theorem own_int_at {w : World} {B n : Nat} {A : Option Addr} {cp i : Nat} {xs : List Int} (h : w.ownsRow B 3 1 (.slice A n cp) n (ints xs)) (hi : i < n) : ∃ b off, A = some ⟨b, off, none⟩ ∧ w.cell? ⟨b, off + i, none⟩ = some (.int .i64 (xs.getD i 0)) := by
  have hl : xs.length = n := by have := h.1; simpa [ints] using this
  rcases h.2 with ⟨e, h0⟩ | ⟨g, cap, cur, e, hb, hh, h1, h2, h3, h4⟩
  · omega
  · injection e with e1 e2 e3
    subst e1
    refine ⟨g, 0, rfl, ?_⟩
    rw [blk_cell hh, Nat.zero_add]
    have : (cur.toList.take (n * 1))[i]? = some (.int .i64 (xs.getD i 0)) := by
      rw [h4, ints, List.getElem?_map, List.getElem?_eq_getElem (by omega), List.getD_eq_getElem?_getD, List.getElem?_eq_getElem (by omega)]; rfl
    rw [List.getElem?_take_of_lt (by omega)] at this
    simpa using this
/-- Numbers, or calls, that came in. -/
def CameI (w : World) (a : Option Addr) (len : Nat) : Prop := len ≤ 1000 → ∃ xs, ReadsI w a len xs
def CameE (w : World) (a : Option Addr) (len : Nat) : Prop := len ≤ 1000 → ∃ l, ReadsE w a len l
set_option maxRecDepth 100000 in
set_option maxHeartbeats 2000000 in
theorem callsReach_walk (w : World) (n : Nat) (near : Bool) (ea la : Option Addr) (en ln ec lc : Nat) (hn : n < 256) (he : CameI w ea en) (hl : CameE w la ln) (h63 : en ≤ maxLen) (h63' : ln ≤ maxLen) :
    Calls Try.prog 3 #[.int .u8 n, .slice ea en ec, .slice la ln lc, .bool near] w fun e w' => e = .returned (.bool true) ∧ Below w.heap.size w w' := by
  have HE := Lib.hid he
  have HL := Lib.hid hl
  clear he hl
  unfold maxLen at h63 h63'
  by_cases h1 : en ≤ 20
  · by_cases h2 : ln ≤ 60
    · obtain ⟨es, hes⟩ := HE.out (by omega)
      obtain ⟨l, hl⟩ := HL.out (by omega)
      have HES := Lib.hid hes
      have HLS := Lib.hid hl
      clear hes hl HE HL
      go_enter Try.func3, Try.ntmps3
      go_wp2_with fail
      refine (awake_calls _).mono ?_
      rintro e w2 ⟨rfl, hb⟩
      have HB := Lib.hid hb
      clear hb
      go_wp2_with fail
      obtain ⟨k, hk⟩ : ∃ k : Nat, k = n % 20 := ⟨_, rfl⟩
      rw [show ((n : Int) % 20) = (k : Int) by omega]
      have hk20 : k < 20 := by omega
      clear hk
      go_loopw [10, 12] (fun v10 iv wr => ∃ (i : Nat) (xs : List Int), i ≤ en ∧ iv = .int .i64 i ∧ Hid (wr.ownsRow w.heap.size 3 1 v10 i (ints xs)) ∧ Hid (xs.length = i) ∧ Hid (Below w.heap.size w wr)) (fun _ iv _ => en - (intOf iv).toNat)
      case atStart => exact ⟨0, [], Nat.zero_le _, rfl, World.ownsRow_nil _ _ _ _, rfl, HB⟩
      case round =>
        obtain ⟨i, xs, hi, rfl, HO, HX, HB1⟩ := hrel
        obtain ⟨A, cp, rfl, _, _⟩ := own_shape HO.out
        by_cases hlt : i < en
        · obtain ⟨b, off, rfl, hall⟩ := (HES.out.below HB1.out).2.2 (by omega)
          obtain ⟨x, hx, cx⟩ : ∃ x, x = es.getD i 0 ∧ wr.cell? ⟨b, off + i, none⟩ = some (.int .i64 x) := ⟨_, rfl, hall i hlt⟩
          clear hx hall
          cases near with
          | false =>
            go_wp2_with (at_builtin; refine append_row (B := w.heap.size) (w0 := w) rfl _ _ 22 3 (.int .i64 0) 1 8 rfl Try.underlying22 info3 rfl (by decide) _ i _ rfl (own_below HO.out ((Below.refl _ _).alloc (Nat.le_refl _) _)) ⟨wr.heap.size, 0, none⟩ 1 1 [.int .i64 (x)] rfl rfl (new_cells _ _ _ _) ?h1 ?hB ?hb (by omega) (by omega) ?_; rotate_right; intro v1 w1 hown hb1 hg1; have HO1 := Lib.hid hown; have HB2 := Lib.hid hb1; clear hown hb1 hg1)
            · refine ⟨⟨i + 1, xs ++ [x], by omega, by go_num, by rw [ints, List.map_append]; exact HO1, by show List.length (_ ++ _) = _; rw [List.length_append, HX.out]; rfl, HB2⟩, by simp [intOf]; omega⟩
            case h1 =>
              intro u hu
              obtain rfl : u = .int .i64 (x) := by simpa using hu
              rfl
            case hB =>
              have := HB1.out.size
              simp
              omega
            case hb => exact HB1.out.alloc HB1.out.size _
          | true =>
            go_wp2_with (at_builtin; refine append_row (B := w.heap.size) (w0 := w) rfl _ _ 22 3 (.int .i64 0) 1 8 rfl Try.underlying22 info3 rfl (by decide) _ i _ rfl (own_below HO.out ((Below.refl _ _).alloc (Nat.le_refl _) _)) ⟨wr.heap.size, 0, none⟩ 1 1 [.int .i64 (wrap64 ((IntKind.u64.wrap x).tmod 20))] rfl rfl (new_cells _ _ _ _) ?h1 ?hB ?hb (by omega) (by omega) ?_; rotate_right; intro v1 w1 hown hb1 hg1; have HO1 := Lib.hid hown; have HB2 := Lib.hid hb1; clear hown hb1 hg1)
            · refine ⟨⟨i + 1, xs ++ [wrap64 ((IntKind.u64.wrap x).tmod 20)], by omega, by go_num, by rw [ints, List.map_append]; exact HO1, by show List.length (_ ++ _) = _; rw [List.length_append, HX.out]; rfl, HB2⟩, by simp [intOf]; omega⟩
            case h1 =>
              intro u hu
              obtain rfl : u = .int .i64 (wrap64 ((IntKind.u64.wrap x).tmod 20)) := by simpa using hu
              rfl
            case hB =>
              have := HB1.out.size
              simp
              omega
            case hb => exact HB1.out.alloc HB1.out.size _
        · obtain rfl : i = en := by omega
          go_wp2
          have HES2 := Lib.hid HO.out
          clear HO
          go_loopw [11, 14] (fun v11 iv wr => ∃ (j : Nat) (ys : List Edge), j ≤ ln ∧ iv = .int .i64 j ∧ Hid (wr.ownsRow w.heap.size 27 3 v11 j (edges ys)) ∧ Hid (ys.length = j) ∧ Hid (Below w.heap.size w wr) ∧ Hid (True ∧ wr.ownsRow w.heap.size 3 1 (.slice A i cp) i (ints xs))) (fun _ iv _ => ln - (intOf iv).toNat)
          case atStart => exact ⟨0, [], Nat.zero_le _, rfl, World.ownsRow_nil _ _ _ _, rfl, HB1, trivial, HES2.out⟩
          case round =>
            obtain ⟨j, ys, hj, rfl, HO, HY, HB2, HES3⟩ := hrel
            obtain ⟨A2, cp2, rfl, _, _⟩ := own_shape HO.out
            by_cases hlt : j < ln
            · obtain ⟨b, off, rfl, hall⟩ := (HLS.out.below HB2.out).2.2 (by omega)
              obtain ⟨⟨ef, ec2, et⟩, cx1, cx2, cx3⟩ : ∃ x : Edge, wr.cell? ⟨b, off + j * 3, none⟩ = some (.int .i64 x.1) ∧ wr.cell? ⟨b, off + j * 3 + 1, none⟩ = some (.int .i64 x.2.1) ∧ wr.cell? ⟨b, off + j * 3 + 2, none⟩ = some (.int .i64 x.2.2) := ⟨_, hall j hlt⟩
              clear hall
              cases near with
              | false =>
                have HB3 := Lib.hid (((Below.refl wr.heap.size wr).alloc (Nat.le_refl _) (.cells #[.int .i64 (ef), .int .i64 ec2, .int .i64 (et)] 27)).alloc (by simp) (.cells #[.int .i64 (ef), .int .i64 ec2, .int .i64 (et)] 27))
                go_wp2_with (at_builtin; refine append_row (B := w.heap.size) (w0 := w) rfl _ _ 23 27 (.agg #[.int .i64 0, .int .i64 0, .int .i64 0]) 3 24 rfl Try.underlying23 info27 rfl (by decide) _ j _ rfl (own_below HO.out HB3.out) ⟨wr.heap.size + 1, 0, none⟩ 1 1 [.int .i64 (ef), .int .i64 ec2, .int .i64 (et)] rfl rfl (new_cells1 _ _ _ _ _) ?h1 ?hB ?hb (by omega) (by omega) ?_; rotate_right; intro v1 w1 hown hb1 hg1; have HO1 := Lib.hid hown; have HB4 := Lib.hid hb1; have HES4 := Lib.hid (own_grown (own_below HES3.out.2 HB3.out) (own_below HO.out HB3.out) (by decide) hg1); clear hown hb1 hg1)
                · refine ⟨⟨j + 1, ys ++ [(ef, ec2, et)], by omega, by go_num, by rw [edges, List.flatMap_append]; exact HO1, by show List.length (_ ++ _) = _; rw [List.length_append, HY.out]; rfl, HB4, ?_⟩, by simp [intOf]; omega⟩
                  exact ⟨trivial, HES4.out⟩
                case h1 =>
                  exact ⟨rfl, rfl, rfl⟩
                case hB =>
                  have := HB2.out.size
                  simp
                  omega
                case hb => exact (HB2.out.alloc HB2.out.size _).alloc (by have := HB2.out.size; simp; omega) _
              | true =>
                have HB3 := Lib.hid (((Below.refl wr.heap.size wr).alloc (Nat.le_refl _) (.cells #[.int .i64 (wrap64 ((IntKind.u64.wrap ef).tmod 20)), .int .i64 ec2, .int .i64 (wrap64 ((IntKind.u64.wrap et).tmod 20))] 27)).alloc (by simp) (.cells #[.int .i64 (wrap64 ((IntKind.u64.wrap ef).tmod 20)), .int .i64 ec2, .int .i64 (wrap64 ((IntKind.u64.wrap et).tmod 20))] 27))
                go_wp2_with (at_builtin; refine append_row (B := w.heap.size) (w0 := w) rfl _ _ 23 27 (.agg #[.int .i64 0, .int .i64 0, .int .i64 0]) 3 24 rfl Try.underlying23 info27 rfl (by decide) _ j _ rfl (own_below HO.out HB3.out) ⟨wr.heap.size + 1, 0, none⟩ 1 1 [.int .i64 (wrap64 ((IntKind.u64.wrap ef).tmod 20)), .int .i64 ec2, .int .i64 (wrap64 ((IntKind.u64.wrap et).tmod 20))] rfl rfl (new_cells1 _ _ _ _ _) ?h1 ?hB ?hb (by omega) (by omega) ?_; rotate_right; intro v1 w1 hown hb1 hg1; have HO1 := Lib.hid hown; have HB4 := Lib.hid hb1; have HES4 := Lib.hid (own_grown (own_below HES3.out.2 HB3.out) (own_below HO.out HB3.out) (by decide) hg1); clear hown hb1 hg1)
                · refine ⟨⟨j + 1, ys ++ [(wrap64 ((IntKind.u64.wrap ef).tmod 20), ec2, wrap64 ((IntKind.u64.wrap et).tmod 20))], by omega, by go_num, by rw [edges, List.flatMap_append]; exact HO1, by show List.length (_ ++ _) = _; rw [List.length_append, HY.out]; rfl, HB4, ?_⟩, by simp [intOf]; omega⟩
                  exact ⟨trivial, HES4.out⟩
                case h1 =>
                  exact ⟨rfl, rfl, rfl⟩
                case hB =>
                  have := HB2.out.size
                  simp
                  omega
                case hb => exact (HB2.out.alloc HB2.out.size _).alloc (by have := HB2.out.size; simp; omega) _
            · obtain rfl : j = ln := by omega
              have HRI := Lib.hid (ReadsI.own HES3.out.2 (by omega) HX.out)
              have HRE := Lib.hid (ReadsE.own HO.out (by omega) HY.out)
              clear HO HES3 HX HY HES2
              go_wp2_with fail
              refine (reach_calls wr _ k (by omega) (by omega) _ _ _ _ _ _ xs ys HRI.out HRE.out).mono ?_
              rintro e w3 ⟨v1, rfl, hv1, hb3⟩
              have hlen := reachList_length k xs ys
              obtain ⟨rs, hrs⟩ : ∃ rs, rs = (reachList k xs ys).map fun n : Nat => (n : Int) := ⟨_, rfl⟩
              obtain ⟨c, hc⟩ : ∃ c, c = (reachList k xs ys).length := ⟨_, rfl⟩
              rw [← hc] at hlen
              rw [← hrs, ← hc] at hv1
              have HRS := Lib.hid hrs
              have HC := Lib.hid hc
              clear hrs hc
              obtain ⟨A1, cp1, rfl, _, _⟩ := own_shape hv1
              have HV1 := Lib.hid hv1
              have HB3 := Lib.hid hb3
              clear hv1 hb3
              go_wp2_with fail
              refine (ref_calls w3 k (by omega) _ _ _ _ _ _ xs ys (HRI.out.below HB3.out) (HRE.out.below HB3.out)).mono ?_
              rintro e w4 ⟨v2, rfl, hv2, hb4⟩
              rw [← HRS.out, ← HC.out] at hv2
              have HV3 := Lib.hid (own_below HV1.out hb4)
              have HB5 := Lib.hid (HB2.out.trans (((HB3.out).trans (hb4.mono HB3.out.size)).mono HB2.out.size))
              have HRI4 := Lib.hid ((HRI.out.below HB3.out).below hb4)
              have HRE4 := Lib.hid ((HRE.out.below HB3.out).below hb4)
              obtain ⟨A3, cp3, rfl, _, _⟩ := own_shape hv2
              have HV2 := Lib.hid hv2
              have HB4 := Lib.hid hb4
              clear hv2 hb4
              go_wp2_with fail
              go_loopw [18] (fun iv wr => ∃ m : Nat, m ≤ c ∧ iv = .int .i64 m ∧ Hid (True ∧ Below w4.heap.size w4 wr)) (fun iv _ => c - (intOf iv).toNat)
              case atStart => exact ⟨0, Nat.zero_le _, rfl, trivial, Below.refl _ _⟩
              case round =>
                obtain ⟨m, hm, rfl, HW⟩ := hrel
                by_cases hlt : m < c
                · obtain ⟨b1, o1, rfl, k1⟩ := own_int_at (own_below HV3.out HW.out.2) hlt
                  obtain ⟨b2, o2, rfl, k2⟩ := own_int_at (own_below HV2.out HW.out.2) hlt
                  obtain ⟨y, hy⟩ : ∃ y, y = rs.getD m 0 := ⟨_, rfl⟩
                  rw [← hy] at k1 k2
                  clear hy
                  go_wp2_with fail
                  go_still (by kernel_rfl)
                  go_wp2
                  exact ⟨⟨m + 1, by omega, by go_num, trivial, HW.out.2.drew⟩, by simp [intOf]; omega⟩
                · go_wp2_with fail
                  refine (reach_calls wr (-(k : Int)) 0 (by omega) (by omega) _ _ _ _ _ _ xs ys (HRI4.out.below HW.out.2) (HRE4.out.below HW.out.2)).mono ?_
                  rintro e w5 ⟨v5, rfl, hv5, hb5⟩
                  have h0 : (reachList 0 xs ys).length = 0 := by have := reachList_length 0 xs ys; omega
                  rw [h0] at hv5
                  obtain ⟨A5, cp5, rfl, _, _⟩ := own_shape hv5
                  have HB6 := Lib.hid ((HB5.out.trans (HW.out.2.mono HB5.out.size)).trans (hb5.mono (Nat.le_trans HB5.out.size HW.out.2.size)))
                  clear hv5 h0 hb5
                  go_wp2
                  go_ret
                  exact ⟨rfl, HB6.out⟩
    · go_enter Try.func3, Try.ntmps3
      go_wp2_with fail
      refine (awake_calls _).mono ?_
      rintro e w2 ⟨rfl, hb⟩
      have HB := Lib.hid hb
      clear hb
      go_wp2_with fail
      refine (awake_calls _).mono ?_
      rintro e w3 ⟨rfl, hb⟩
      have HB2 := Lib.hid hb
      clear hb
      go_wp2
      go_ret
      exact ⟨rfl, HB.out.trans (HB2.out.mono HB.out.size)⟩
  · go_enter Try.func3, Try.ntmps3
    go_wp2_with fail
    refine (awake_calls _).mono ?_
    rintro e w2 ⟨rfl, hb⟩
    have HB := Lib.hid hb
    clear hb
    go_wp2_with fail
    refine (awake_calls _).mono ?_
    rintro e w3 ⟨rfl, hb⟩
    have HB2 := Lib.hid hb
    clear hb
    go_wp2
    go_ret
    exact ⟨rfl, HB.out.trans (HB2.out.mono HB.out.size)⟩
end Go.Proofs.Ytjabffnehodkfaa

/-
  The law ModuleBlocks (function 5), walked: it is true whatever came in.
-/
import Derived.Test.YteajlfkhhgednaaBlocksPlain
import Derived.Test.YteajlfkhhgednaaRefSame
set_option linter.unusedSimpArgs false
namespace Go.Proofs.Yteajlfkhhgednaa
open Go.RowKit
theorem lit_own (W : World) (vs : List Value) (hl : vs.length = 7) : (W.alloc (.cells vs.toArray 46)).ownsRow W.heap.size 46 7 (.slice (some ⟨W.heap.size, 0, none⟩) 1 1) 1 vs :=
  ⟨by omega, .inr ⟨W.heap.size, 1, vs.toArray, rfl, Nat.le_refl _, heap_alloc_new _ _, Nat.le_refl _, by decide, by simpa using hl, by rw [List.take_of_length_le]; simp; omega⟩⟩
/-- The cells of a row of the call's own. -/
theorem own_cells {w : World} {B n : Nat} {e : TypeId} {size : Nat} {A : Option Addr} {cp : Nat} {xs : List Value} (h : w.ownsRow B e size (.slice A n cp) n xs) (hn : 0 < n) : ∃ g, A = some ⟨g, 0, none⟩ ∧ ∀ j u, xs[j]? = some u → w.cell? ((⟨g, 0, none⟩ : Addr).add j) = some u := by
  rcases h.2 with ⟨e, h0⟩ | ⟨g, cap, cur, e, hb, hh, h1, h2, h3, h4⟩
  · omega
  · injection e with e1 e2 e3
    subst e1
    refine ⟨g, rfl, fun j u hu => ?_⟩
    have ha : (⟨g, 0, none⟩ : Addr).add j = ⟨g, 0 + j, none⟩ := by unfold Addr.add; split <;> simp_all
    rw [ha, Nat.zero_add, blk_cell hh]
    rw [← h4, List.getElem?_take] at hu
    split at hu
    · simpa using hu
    · simp at hu
theorem one7_cells (k ak ai bk bi : Int) (aa ba : Option Addr) (al ac bl bc : Nat) : ∀ u ∈ [Value.int .u8 k, .int .u8 ak, .int .i64 ai, .int .u8 bk, .int .i64 bi, .slice aa al ac, .slice ba bl bc], u.oneCell' = true := by
  intro u hu
  simp only [List.mem_cons, List.not_mem_nil, or_false] at hu
  rcases hu with rfl | rfl | rfl | rfl | rfl | rfl | rfl <;> rfl
theorem rep_row {w : World} {vs : List Value} {s : St} (h : Cells7 w vs s) (n : Nat) : RowOf w ((List.replicate n vs).flatten) (List.replicate n s) := by
  induction n with
  | zero => rfl
  | succ n ih => exact ⟨vs, _, rfl, h, ih⟩
theorem rep_one {vs : List Value} (h : ∀ u ∈ vs, u.oneCell' = true) (n : Nat) : ∀ u ∈ (List.replicate n vs).flatten, u.oneCell' = true := by
  intro u hu
  rw [List.mem_flatten] at hu
  obtain ⟨l, h1, h2⟩ := hu
  rw [List.mem_replicate] at h1
  exact h u (h1.2 ▸ h2)
theorem rep_snoc (vs : List Value) (n : Nat) : (List.replicate (n + 1) vs).flatten = (List.replicate n vs).flatten ++ vs := by
  rw [List.replicate_succ', List.flatten_append]; simp
set_option maxRecDepth 100000 in
set_option maxHeartbeats 4000000 in
theorem moduleBlocks_walk (w : World) (k ak ai bk bi : Int) (aa ba : Option Addr) (al ac bl bc n : Nat) (hn : n < 256) (hal : al ≤ maxLen) (hbl : bl ≤ maxLen) (hr : al ≤ 20 → ∃ args, ReadsRefs w aa al args) :
    Calls Try.prog 5 #[.agg #[.int .u8 k, .int .u8 ak, .int .i64 ai, .int .u8 bk, .int .i64 bi, .slice aa al ac, .slice ba bl bc], .int .u8 n] w fun e w' => e = .returned (.bool true) ∧ Below w.heap.size w w' := by
  have HR := Lib.hid hr
  clear hr
  unfold maxLen at hal hbl
  have hblk : ∀ w2, Below (w.alloc (.cells #[.int .u8 k, .int .u8 ak, .int .i64 ai, .int .u8 bk, .int .i64 bi, .slice aa al ac, .slice ba bl bc] 46)).heap.size (w.alloc (.cells #[.int .u8 k, .int .u8 ak, .int .i64 ai, .int .u8 bk, .int .i64 bi, .slice aa al ac, .slice ba bl bc] 46)) w2 →
      w2.heap[w.heap.size]? = some (.cells #[.int .u8 k, .int .u8 ak, .int .i64 ai, .int .u8 bk, .int .i64 bi, .slice aa al ac, .slice ba bl bc] 46) := fun w2 hb => blk_below (heap_alloc_new w _) hb
  have HBLK := Lib.hid hblk
  clear hblk
  by_cases h1 : al ≤ 20
  · by_cases h2 : bl = 0
    · subst h2
      obtain ⟨args, hra⟩ := HR.out h1
      have H7 := Lib.hid ((cells7_def _ _ _ _ _ _ _ _ _).2 ⟨aa, al, ac, ba, 0, bc, rfl, hra, readsBody_nil w ba⟩ : Cells7 w _ (.mk k ak ai bk bi args []))
      clear hra HR
      go_enter Try.func5, Try.ntmps5
      go_wp2_with fail
      refine (awake_calls _).mono ?_
      rintro e w2 ⟨rfl, hb⟩
      have q := HBLK.out w2 hb
      have q0 : w2.cell? ⟨w.heap.size, 0, none⟩ = some (.int .u8 k) := by rw [blk_cell q]; rfl
      have q1 : w2.cell? ⟨w.heap.size, 1, none⟩ = some (.int .u8 ak) := by rw [blk_cell q]; rfl
      have q2 : w2.cell? ⟨w.heap.size, 2, none⟩ = some (.int .i64 ai) := by rw [blk_cell q]; rfl
      have q3 : w2.cell? ⟨w.heap.size, 3, none⟩ = some (.int .u8 bk) := by rw [blk_cell q]; rfl
      have q4 : w2.cell? ⟨w.heap.size, 4, none⟩ = some (.int .i64 bi) := by rw [blk_cell q]; rfl
      have q5 : w2.cell? ⟨w.heap.size, 5, none⟩ = some (.slice aa al ac) := by rw [blk_cell q]; rfl
      have q6 : w2.cell? ⟨w.heap.size, 6, none⟩ = some (.slice ba 0 bc) := by rw [blk_cell q]; rfl
      have HB := Lib.hid (((Below.refl w.heap.size w).alloc (Nat.le_refl _) _).trans (hb.mono (by simp)))
      have HQ := Lib.hid q
      clear hb q HBLK
      go_wp2_with fail
      obtain ⟨c, hc⟩ : ∃ c : Nat, c = n % 30 := ⟨_, rfl⟩
      rw [show ((n : Int) % 30) = (c : Int) by omega]
      have hc30 : c < 30 := by omega
      clear hc
      obtain ⟨vs, hvs⟩ : ∃ vs, vs = [Value.int .u8 k, .int .u8 ak, .int .i64 ai, .int .u8 bk, .int .i64 bi, .slice aa al ac, .slice ba 0 bc] := ⟨_, rfl⟩
      have HV := Lib.hid hvs
      clear hvs
      go_loopw [6, 7] (fun v6 iv wr => ∃ i : Nat, i ≤ c ∧ iv = .int .i64 i ∧ Hid (wr.ownsRow w2.heap.size 46 7 v6 i (List.replicate i vs).flatten) ∧ Hid (Below w2.heap.size w2 wr) ∧ Hid (i = 0 → v6 = .slice none 0 0)) (fun _ iv _ => c - (intOf iv).toNat)
      case atStart => exact ⟨0, Nat.zero_le _, rfl, World.ownsRow_nil _ _ _ _, Below.refl _ _, fun _ => rfl⟩
      case round =>
        obtain ⟨i, hi, rfl, HO, HB1, HN0⟩ := hrel
        obtain ⟨A, cp, rfl, _, _⟩ := own_shape HO.out
        by_cases hlt : i < c
        · replace q0 := lift HB1.out q0
          replace q1 := lift HB1.out q1
          replace q2 := lift HB1.out q2
          replace q3 := lift HB1.out q3
          replace q4 := lift HB1.out q4
          replace q5 := lift HB1.out q5
          replace q6 := lift HB1.out q6
          go_wp2_with (at_builtin; refine append_row (B := w2.heap.size) (w0 := w2) rfl _ _ 22 46 (.agg #[.int .u8 0, .int .u8 0, .int .i64 0, .int .u8 0, .int .i64 0, .slice none 0 0, .slice none 0 0]) 7 88 rfl Try.underlying22 info46 rfl (by decide) _ i _ rfl (own_below HO.out ((Below.refl _ _).alloc (Nat.le_refl _) _)) ⟨wr.heap.size, 0, none⟩ 1 1 [.int .u8 k, .int .u8 ak, .int .i64 ai, .int .u8 bk, .int .i64 bi, .slice aa al ac, .slice ba 0 bc] rfl rfl (new_cells _ _ _ _) ?h1 ?hB ?hb (by omega) (by omega) ?_; rotate_right; intro v1 w1 hown hb1 hg1; have HO1 := Lib.hid hown; have HB2 := Lib.hid hb1; clear hown hb1 hg1)
          · refine ⟨⟨i + 1, by omega, by go_num, ?_, HB2, fun h => by omega⟩, by simp [intOf]; omega⟩
            rw [rep_snoc, HV.out]
            rw [HV.out] at HO1
            exact HO1
          case h1 => first | exact one7_cells _ _ _ _ _ _ _ _ _ _ _ | exact ⟨rfl, rfl, rfl, rfl, rfl, rfl, rfl⟩
          case hB =>
            have := HB1.out.size
            simp
            omega
          case hb => exact HB1.out.alloc HB1.out.size _
        · obtain rfl : i = c := by omega
          by_cases hc0 : i = 0
          · subst hc0
            have hnil := HN0.out rfl
            rw [hnil] at HO ⊢
            clear hnil HN0
            have HL := Lib.hid (lit_own (wr.alloc (.cells #[.int .u8 7, .int .u8 0, .int .i64 0, .int .u8 0, .int .i64 0, .slice none 0 0, .slice none 0 0] 46)) [.int .u8 7, .int .u8 0, .int .i64 0, .int .u8 0, .int .i64 0, .slice none 0 0, .slice none 0 0] rfl)
            rw [show (wr.alloc (.cells #[Value.int .u8 7, .int .u8 0, .int .i64 0, .int .u8 0, .int .i64 0, .slice none 0 0, .slice none 0 0] 46)).heap.size = wr.heap.size + 1 by simp] at HL
            obtain ⟨i0, hi0, _⟩ := Option.map_eq_some_iff.1 info46
            go_wp2_with (at_builtin; refine wpList_append_own_none rfl _ _ 22 rfl (wr.heap.size + 1) 46 i0 7 Try.underlying22 hi0 _ 1 _ rfl HL.out rfl ?_)
            have HIN := Lib.hid ((readsBody_one (t := 46) (cells7_block wr (cap := 0) (readsBody_nil wr none))).below ((Below.refl _ _).alloc (Nat.le_refl _) (.cells #[.int .u8 7, .int .u8 0, .int .i64 0, .int .u8 0, .int .i64 0, .slice none 0 0, .slice none 0 0] 46)) : ReadsBody _ (some ⟨wr.heap.size, 0, none⟩) 1 [blk []])
            have HOUT := Lib.hid (ReadsBody.own HL.out (RowOf.one (cells7_block _ (cap := 0) (readsBody_nil _ none))) rfl (by decide) : ReadsBody _ _ 1 (blk [] :: []))
            have HIO := Lib.hid (show sameB [blk []] (blk [] :: []) = true from sameB_refl _)
            have HC1 := Lib.hid (show (flatT 1000 0 [blk []]).length = 1 from count_in [] (fun s hs => by cases hs))
            have HC2 := Lib.hid (show (flatT 1000 0 (blk [] :: [])).length = 1 from count_out [] (fun s hs => by cases hs))
            have HW9 := Lib.hid (((HB.out.trans (HB1.out.mono HB.out.size)).alloc (Nat.le_trans HB.out.size HB1.out.size) (.cells #[.int .u8 7, .int .u8 0, .int .i64 0, .int .u8 0, .int .i64 0, .slice none 0 0, .slice none 0 0] 46)).alloc (by have := HB.out.size; have := HB1.out.size; simp; omega) (.cells #[.int .u8 7, .int .u8 0, .int .i64 0, .int .u8 0, .int .i64 0, .slice none 0 0, .slice none 0 0] 46))
            clear hi0
            refine (same15_calls _ [blk []] [blk []] _ _ _ _ _ _ HIN.out HIN.out).mono ?_
            rintro e u2 ⟨he, hb⟩
            rw [sameB_refl] at he
            subst he
            have HU2 := Lib.hid hb
            clear hb
            go_wp2_with fail
            refine (same15_calls u2 [blk []] (blk [] :: []) _ _ _ _ _ _ (HIN.out.below HU2.out) (HOUT.out.below HU2.out)).mono ?_
            rintro e u3 ⟨he, hb⟩
            rw [HIO.out] at he
            subst he
            have HU3 := Lib.hid (HU2.out.trans (hb.mono HU2.out.size))
            clear hb
            go_wp2_with fail
            refine (count_calls u3 [blk []] _ _ _ 1 (HIN.out.below HU3.out) HC1.out (by omega)).mono ?_
            rintro e u4 ⟨rfl, hb⟩
            have HU4 := Lib.hid (HU3.out.trans (hb.mono HU3.out.size))
            clear hb
            go_wp2_with fail
            refine (count_calls u4 (blk [] :: []) _ _ _ 1 (HOUT.out.below HU4.out) HC2.out (by omega)).mono ?_
            rintro e u5 ⟨rfl, hb⟩
            have HU5 := Lib.hid (HU4.out.trans (hb.mono HU4.out.size))
            clear hb
            go_wp2_with fail
            refine (same14_calls u5 [blk []] (blk [] :: []) _ _ _ _ _ _ (HIN.out.below HU5.out) (HOUT.out.below HU5.out)).mono ?_
            rintro e u6 ⟨he, m, hm⟩
            rw [HIO.out] at he
            subst he
            have HU6 := Lib.hid (show Below w.heap.size w u6 from by rw [hm]; exact pw_below_drewN (HW9.out.trans (HU5.out.mono HW9.out.size)) m)
            clear hm
            go_wp2
            go_ret
            exact ⟨rfl, HU6.out⟩
          · have hci : 0 < i := by omega
            have hcb : ((i : Int) == 0) = false := by rw [beq_eq_false_iff_ne]; omega
            obtain ⟨g, rfl, hcells⟩ := own_cells HO.out hci
            have HCE := Lib.hid hcells
            clear hcells HN0
            obtain ⟨W1, hW1⟩ : ∃ W1, W1 = wr.alloc (.cells #[.int .u8 7, .int .u8 0, .int .i64 0, .int .u8 0, .int .i64 0, .slice none 0 0, .slice (some ⟨g, 0, none⟩) i cp] 46) := ⟨_, rfl⟩
            have hs1 : W1.heap.size = wr.heap.size + 1 := by rw [hW1]; simp
            have HL := Lib.hid (lit_own W1 [.int .u8 7, .int .u8 0, .int .i64 0, .int .u8 0, .int .i64 0, .slice none 0 0, .slice none 0 0] rfl)
            have HRW := Lib.hid (rep_row H7.out i)
            rw [← HV.out] at HRW
            have hb01 : Below wr.heap.size wr W1 := by rw [hW1]; exact (Below.refl _ _).alloc (Nat.le_refl _) _
            have hbw : Below w.heap.size w wr := HB.out.trans (HB1.out.mono HB.out.size)
            have HIN1 := Lib.hid (show ReadsBody W1 (some ⟨wr.heap.size, 0, none⟩) 1 [blk (List.replicate i (St.mk k ak ai bk bi args []))] from by
              rw [hW1]
              exact readsBody_one (t := 46) (cells7_block wr (ReadsBody.own HO.out (HRW.out.below hbw) (by simp) (by unfold maxLen; omega))))
            obtain ⟨L, hL⟩ : ∃ L, L = List.replicate i (St.mk k ak ai bk bi args []) := ⟨_, rfl⟩
            have hbody : ∀ s ∈ L, s.body = [] := by intro s hs; rw [hL, List.mem_replicate] at hs; rw [hs.2]; rfl
            have hlenL : L.length = i := by rw [hL]; simp
            have HIO := Lib.hid (show sameB [blk L] (blk [] :: L) = false from by rw [same_in_out, hlenL]; simpa using hc0)
            have HC1 := Lib.hid (show (flatT 1000 0 [blk L]).length = i + 1 from by rw [count_in L hbody, hlenL])
            have HC2 := Lib.hid (show (flatT 1000 0 (blk [] :: L)).length = i + 1 from by rw [count_out L hbody, hlenL])
            rw [← hL] at HIN1 HRW
            have HLL := Lib.hid hlenL
            rw [hs1] at HL
            have HB01 := Lib.hid hb01
            have HBW := Lib.hid hbw
            have HS1 := Lib.hid hs1
            have HV1 := Lib.hid (show ∀ u ∈ (List.replicate i vs).flatten, u.oneCell' = true from rep_one (by rw [HV.out]; exact one7_cells _ _ _ _ _ _ _ _ _ _ _) i)
            have HLX := Lib.hid (show (List.replicate i vs).flatten.length = i * 7 from HO.out.1)
            clear hbody hlenL hL hs1 hb01 hbw
            subst hW1
            go_wp2_with (at_builtin; refine append_row (B := wr.heap.size + 1) (w0 := wr.alloc (.cells #[.int .u8 7, .int .u8 0, .int .i64 0, .int .u8 0, .int .i64 0, .slice none 0 0, .slice (some ⟨g, 0, none⟩) i cp] 46)) rfl _ _ 22 46 (.agg #[.int .u8 0, .int .u8 0, .int .i64 0, .int .u8 0, .int .i64 0, .slice none 0 0, .slice none 0 0]) 7 88 rfl Try.underlying22 info46 rfl (by decide) _ 1 _ rfl HL.out ⟨g, 0, none⟩ i cp (List.replicate i vs).flatten rfl HLX.out ?hn HV1.out ?hB ?hb (by omega) (by omega) ?_; rotate_right; intro v1 w1 hown hb1 hg1; obtain ⟨A1, cp1, rfl, _, _⟩ := own_shape hown; have HO1 := Lib.hid hown; have HB2 := Lib.hid hb1; clear hown hb1 hg1)
            case hn =>
              intro j u hu
              have := HCE.out j u hu
              have ha : (⟨g, 0, none⟩ : Addr).add j = ⟨g, 0 + j, none⟩ := by unfold Addr.add; split <;> simp_all
              rw [ha] at this ⊢
              exact (World.cell?_alloc_some _ _ _ (by rw [(World.cell?_alloc_some _ _ _ (by rw [this]; rfl)).trans this]; rfl)).trans ((World.cell?_alloc_some _ _ _ (by rw [this]; rfl)).trans this)
            case hB => simp
            case hb => exact (Below.refl _ _).alloc (by simp) _
            · have hbl1 : Below (wr.alloc (.cells #[.int .u8 7, .int .u8 0, .int .i64 0, .int .u8 0, .int .i64 0, .slice none 0 0, .slice (some ⟨g, 0, none⟩) i cp] 46)).heap.size (wr.alloc (.cells #[.int .u8 7, .int .u8 0, .int .i64 0, .int .u8 0, .int .i64 0, .slice none 0 0, .slice (some ⟨g, 0, none⟩) i cp] 46)) w1 := by rw [HS1.out]; exact HB2.out
              have HIN := Lib.hid (HIN1.out.below hbl1)
              have HW9 := Lib.hid (HBW.out.trans ((HB01.out.trans (hbl1.mono HB01.out.size)).mono HBW.out.size))
              have HOUT := Lib.hid (ReadsBody.own HO1.out (RowOf.append (RowOf.one (cells7_block _ (cap := 0) (readsBody_nil _ none))) (HRW.out.below HW9.out)) (by simp [HLL.out]; omega) (by unfold maxLen; omega) : ReadsBody w1 A1 (1 + i) (blk [] :: L))
              clear hbl1
              refine (same15_calls _ [blk L] [blk L] _ _ _ _ _ _ HIN.out HIN.out).mono ?_
              rintro e u2 ⟨he, hb⟩
              rw [sameB_refl] at he
              subst he
              have HU2 := Lib.hid hb
              clear hb
              go_wp2_with fail
              refine (same15_calls u2 [blk L] (blk [] :: L) _ _ _ _ _ _ (HIN.out.below HU2.out) (HOUT.out.below HU2.out)).mono ?_
              rintro e u3 ⟨he, hb⟩
              rw [HIO.out] at he
              subst he
              have HU3 := Lib.hid (HU2.out.trans (hb.mono HU2.out.size))
              clear hb
              go_wp2_with fail
              refine (count_calls u3 [blk L] _ _ _ (i + 1) (HIN.out.below HU3.out) HC1.out (by omega)).mono ?_
              rintro e u4 ⟨rfl, hb⟩
              have HU4 := Lib.hid (HU3.out.trans (hb.mono HU3.out.size))
              clear hb
              go_wp2_with fail
              refine (count_calls u4 (blk [] :: L) _ _ _ (i + 1) (HOUT.out.below HU4.out) HC2.out (by omega)).mono ?_
              rintro e u5 ⟨rfl, hb⟩
              have HU5 := Lib.hid (HU4.out.trans (hb.mono HU4.out.size))
              clear hb
              go_wp2_with fail
              refine (same14_calls u5 [blk L] (blk [] :: L) _ _ _ _ _ _ (HIN.out.below HU5.out) (HOUT.out.below HU5.out)).mono ?_
              rintro e u6 ⟨he, m, hm⟩
              rw [HIO.out] at he
              subst he
              have HU6 := Lib.hid (show Below w.heap.size w u6 from by rw [hm]; exact pw_below_drewN (HW9.out.trans (HU5.out.mono HW9.out.size)) m)
              clear hm
              go_wp2
              go_ret
              exact ⟨rfl, HU6.out⟩
    · go_enter Try.func5, Try.ntmps5
      go_wp2_with fail
      refine (awake_calls _).mono ?_
      rintro e w2 ⟨rfl, hb⟩
      have q := HBLK.out w2 hb
      have q5 : w2.cell? ⟨w.heap.size, 5, none⟩ = some (.slice aa al ac) := by rw [blk_cell q]; rfl
      have q6 : w2.cell? ⟨w.heap.size, 6, none⟩ = some (.slice ba bl bc) := by rw [blk_cell q]; rfl
      have HB := Lib.hid (((Below.refl w.heap.size w).alloc (Nat.le_refl _) _).trans (hb.mono (by simp)))
      clear hb q
      go_wp2_with fail
      refine (awake_calls _).mono ?_
      rintro e w3 ⟨rfl, hb⟩
      have HB2 := Lib.hid hb
      clear hb
      go_wp2
      go_ret
      exact ⟨rfl, HB.out.trans (HB2.out.mono HB.out.size)⟩
  · go_enter Try.func5, Try.ntmps5
    go_wp2_with fail
    refine (awake_calls _).mono ?_
    rintro e w2 ⟨rfl, hb⟩
    have q := HBLK.out w2 hb
    have q5 : w2.cell? ⟨w.heap.size, 5, none⟩ = some (.slice aa al ac) := by rw [blk_cell q]; rfl
    have q6 : w2.cell? ⟨w.heap.size, 6, none⟩ = some (.slice ba bl bc) := by rw [blk_cell q]; rfl
    have HB := Lib.hid (((Below.refl w.heap.size w).alloc (Nat.le_refl _) _).trans (hb.mono (by simp)))
    clear hb q
    go_wp2_with fail
    refine (awake_calls _).mono ?_
    rintro e w3 ⟨rfl, hb⟩
    have HB2 := Lib.hid hb
    clear hb
    go_wp2
    go_ret
    exact ⟨rfl, HB.out.trans (HB2.out.mono HB.out.size)⟩
end Go.Proofs.Yteajlfkhhgednaa

/-
  r14.Points (23) and the walk of CallsEdges (7). No statement of its own.
-/
import Derived.Test.YtjgijbaboekghaaSys
import Derived.Test.YtjgijbaboekghaaEC
import Derived.Test.YtjgijbaboekghaaED
import Derived.Test.YtjgijbaboekghaaEB
import Derived.Test.YtjgijbaboekghaaEA
import Derived.Test.YtjgijbaboekghaaSitesWalk
set_option linter.unusedSimpArgs false
set_option linter.unusedVariables false
namespace Go.Proofs.Ytjgijbaboekghaa
open Go.RowKit
set_option maxRecDepth 20000 in
theorem points_calls (w : World) (mv : Value) (M : Mod) (hm : ReadsM w mv M) (hM : SysM M) (h0 : 0 < M.funcs.length) : Calls Try.prog 23 #[mv] w (Pointed w) := by
  obtain ⟨sv, gv, fv, ev, rfl, h1, h2, h3, h4⟩ := id hm
  obtain ⟨sa, sc, rfl, _⟩ := h1.shape
  obtain ⟨ga, gc, rfl, _⟩ := h2.shape
  obtain ⟨fa, fc, rfl, _⟩ := h3.shape
  obtain ⟨ea, ec, rfl, _⟩ := h4.shape
  have HM := Lib.hid hm
  have HMM := Lib.hid hM
  have HV0 : Hid (0 < (varsT M M.funcs.length).length) := Lib.hid (List.length_pos_of_mem (fun_vars (M := M) (i := 0) (by decide) (by omega)))
  obtain ⟨sn, hsn⟩ : ∃ n, n = M.strings.length := ⟨_, rfl⟩
  obtain ⟨gn, hgn⟩ : ∃ n, n = M.globals.length := ⟨_, rfl⟩
  obtain ⟨n, hnn⟩ : ∃ n, n = M.funcs.length := ⟨_, rfl⟩
  obtain ⟨en, hen⟩ : ∃ n, n = M.entries.length := ⟨_, rfl⟩
  rw [← hnn, ← hgn, ← hsn, ← hen] at HM
  rw [← hnn, ← hgn, ← hsn, ← hen]
  clear hm hM h1 h2 h3 h4 h0 hnn hgn hsn hen
  have bw : Below w.heap.size w (w.alloc (.cells #[.slice sa sn sc, .slice ga gn gc, .slice fa n fc, .slice ea en ec] 32)) := (Below.refl _ _).alloc (Nat.le_refl _) _
  have HBW := Lib.hid bw
  go_enter Try.func23, Try.ntmps23
  go_wp2_with fail
  refine (system_calls (w.alloc (.cells #[.slice sa sn sc, .slice ga gn gc, .slice fa n fc, .slice ea en ec] 32)) _ M (HM.out.sub (sub_below bw)) HMM.out).mono ?_
  rintro e w2 ⟨sv, K, rfl, hso, hb2⟩
  have HB2 := Lib.hid (HBW.out.trans (hb2.mono (by simp)))
  have HSO := Lib.hid hso
  clear hso hb2 bw
  go_wp2_with fail
  refine (least_calls w2 sv _ _ K HSO.out HMM.out.vlen HMM.out.clen HV0.out).mono ?_
  rintro e w3 ⟨v, ps, rfl, hp, hb3⟩
  have HB3 := Lib.hid (HB2.out.trans (hb3.mono HB2.out.size))
  have HP := Lib.hid hp
  clear hp hb3
  go_wp2
  go_ret
  exact ⟨v, ps, rfl, HP.out, HB3.out⟩
end Go.Proofs.Ytjgijbaboekghaa

set_option linter.unusedSimpArgs false
set_option linter.unusedVariables false
namespace Go.Proofs.Ytjgijbaboekghaa
open Go.RowKit
theorem points_len {w : World} {v : Value} {ps : List (List Int)} (h : ReadsP w v ps) : ∀ xs ∈ ps, xs.length ≤ 1048576 := by
  intro xs hx
  obtain ⟨a, n, c, _, h1, h2, h3⟩ := h
  obtain ⟨i, hi⟩ := List.mem_iff_getElem?.1 hx
  have hlt := (List.getElem?_eq_some_iff.1 hi).1
  obtain ⟨b, off, _, h⟩ := h3 (by omega)
  obtain ⟨u, _, a', n', c', _, k1, k2, _⟩ := h i xs hi
  omega
theorem whomN_len {M : Mod} {ps : List (List Int)} (hp : ∀ xs ∈ ps, xs.length ≤ 1048576) (fn : Nat) (f : Fn) (bk bi : Int) : (whomN M fn f bk bi ps).length ≤ 1048576 := by
  unfold whomN
  split
  · show 1 ≤ 1048576
    decide
  · split
    · refine Nat.le_trans (whose_len _) ?_
      rw [List.getD_eq_getElem?_getD]
      cases e : ps[(varN M fn f bk bi).toNat]? with
      | none => exact Nat.zero_le _
      | some xs => exact hp xs (List.mem_of_getElem? e)
    · exact Nat.zero_le _
theorem fm_bound {α : Type} (g : Nat → List α) (B : Nat) (h : ∀ i, (g i).length ≤ B) (k : Nat) : ((List.range k).flatMap g).length ≤ k * B := by
  induction k with
  | zero => exact Nat.zero_le _
  | succ k ih =>
    rw [fm_succ, List.length_append, Nat.add_mul, Nat.one_mul]
    have := h k
    omega
theorem rawE_bound {M : Mod} {ps : List (List Int)} (hB : ∀ f ∈ M.funcs, (flatT 1000 0 f.body).length ≤ 1000) (hp : ∀ xs ∈ ps, xs.length ≤ 1048576) (k : Nat) (hk : k ≤ 1000) : (rawE M ps k).length ≤ 1099511627776 := by
  have h1 : ∀ i, (oneFn M ps i).length ≤ 1048576000 := by
    intro i
    unfold oneFn
    split
    · rename_i f hf
      have h2 : ∀ j, (oneCall M ps i f j).length ≤ 1048576 := by
        intro j
        unfold oneCall
        split
        · unfold edgesOf
          rw [List.length_map]
          exact whomN_len hp _ _ _ _
        · exact Nat.zero_le _
      have h3 := fm_bound (oneCall M ps i f) 1048576 h2 (sitesOf (flatT 1000 0 f.body)).length
      have h4 := sitesOf_len (flatT 1000 0 f.body) (flatT 1000 0 f.body).length
      rw [List.take_length] at h4
      have h5 := hB f (List.mem_of_getElem? hf)
      unfold callsE
      omega
    · exact Nat.zero_le _
  have h2 := fm_bound (oneFn M ps) (1048576000) h1 k
  unfold rawE
  omega
set_option maxRecDepth 100000 in
set_option maxHeartbeats 4000000 in
theorem callsEdges_walk (w : World) (g f e : Nat) (aa : Option Addr) (an ac : Nat) (acts : List (Nat × Nat × Nat × Nat)) (pa : Option Addr) (pn pc : Nat) (ps0 : List (List Int)) (own : Bool) (hg : g < 256) (hf : f < 256) (he : e < 256) (ha : ReadsActs w aa an acts) (hp : ReadsP w (.slice pa pn pc) ps0) (hpn : pn ≤ 60) :
    Calls Try.prog 7 #[.agg #[.int .u8 g, .int .u8 f, .int .u8 e, .slice aa an ac], .slice pa pn pc, .bool own] w (Yes w) := by
  have HA := Lib.hid ha
  have HP := Lib.hid hp
  have han := ha.2.1
  clear ha hp
  go_enter Try.func7, Try.ntmps7
  go_wp2_with fail
  refine (R.awake_calls _).mono ?_
  rintro e1 w1 ⟨rfl, hb1⟩
  have hbx := ((Below.refl w.heap.size w).alloc (Nat.le_refl _) (.cells #[.int .u8 g, .int .u8 f, .int .u8 e, .slice aa an ac] 25)).trans (hb1.mono (by simp))
  obtain ⟨c1, f1, z1⟩ := blk3 (blk_below (heap_alloc_new w (.cells #[.int .u8 g, .int .u8 f, .int .u8 e, .slice aa an ac] 25)) hb1)
  have HB1 := Lib.hid hbx
  clear hb1 hbx
  go_wp2_with fail
  refine (make_calls _ g f e aa an ac acts [] (by simp) hg hf he (HA.out.sub (sub_below HB1.out))).mono ?_
  rintro e2 w2 ⟨sv, gv, A, n, cp, ev, xs, rfl, hn, hn1, hb2, ho, hfn, hs, hgl, hen⟩
  obtain ⟨sa, sc, rfl, _⟩ := hs.shape
  obtain ⟨ga, gc, rfl, _⟩ := hgl.shape
  obtain ⟨ea, ec, rfl, _⟩ := hen.shape
  have hrf := ReadsF.own ho hn.symm hn1 (hfn.sub (sans_sub _ _))
  obtain ⟨M, hM⟩ : ∃ M, M = makeM ⟨g, f, e, acts⟩ := ⟨_, rfl⟩
  have HSM := Lib.hid (makeM_sys ⟨g, f, e, acts⟩ (by rw [show (Dr.mk g f e acts).acts.length = an from HA.out.1]; exact han))
  have HPOS : Hid (0 < (makeM ⟨g, f, e, acts⟩).funcs.length) := Lib.hid (by rw [makeM_len]; unfold nD; omega)
  rw [← hM] at hrf hn HSM HPOS hs hgl hen ⊢
  have hrm : ReadsM w2 (.agg #[.slice sa M.strings.length sc, .slice ga M.globals.length gc, .slice A n cp, .slice ea M.entries.length ec]) M := ⟨_, _, _, _, rfl, hs.sub (sans_sub _ _), hgl.sub (sans_sub _ _), hrf, hen.sub (sans_sub _ _)⟩
  have HRM := Lib.hid hrm
  have HNL := Lib.hid hn.symm
  have HB2 := Lib.hid (HB1.out.trans (hb2.mono HB1.out.size))
  clear hb2 ho hfn hs hgl hen hrf hrm hn hM c1 f1 z1
  go_upto_region 4 with (fail)
  have m3 := heap_alloc_new w2 (Obj.cells #[.slice sa M.strings.length sc, .slice ga M.globals.length gc, .slice A n cp, .slice ea M.entries.length ec] 32)
  have b3 : Below w2.heap.size w2 (w2.alloc (Obj.cells #[.slice sa M.strings.length sc, .slice ga M.globals.length gc, .slice A n cp, .slice ea M.entries.length ec] 32)) := (Below.refl _ _).alloc (Nat.le_refl _) _
  obtain ⟨mb, hmb⟩ : ∃ b, b = w2.heap.size := ⟨_, rfl⟩
  obtain ⟨W3, hW3⟩ : ∃ W, W = w2.alloc (Obj.cells #[.slice sa M.strings.length sc, .slice ga M.globals.length gc, .slice A n cp, .slice ea M.entries.length ec] 32) := ⟨_, rfl⟩
  rw [← hW3] at m3 b3 ⊢
  have HB3 := Lib.hid (HB2.out.trans (b3.mono HB2.out.size))
  have HRM3 := Lib.hid (HRM.out.sub (sub_below b3))
  rw [← hmb] at m3 ⊢
  have H3 := Lib.hid m3
  have HP3 := Lib.hid (HP.out.sub (sub_below HB3.out))
  clear m3 b3 hW3 hmb HRM HB2 HB1 HA HP
  obtain ⟨c3, f3, z3⟩ := blk3 H3.out
  go_upto_if 24 with (fail)
  go_cut [1] from 24 (fun v1 wx => ∃ (pv : Value) (ps : List (List Int)), v1 = pv ∧ Hid (ReadsP wx pv ps) ∧ Hid (Below w.heap.size w wx) ∧ Hid (wx.heap[mb]? = some (Obj.cells #[.slice sa M.strings.length sc, .slice ga M.globals.length gc, .slice A n cp, .slice ea M.entries.length ec] 32)) ∧ Hid (ReadsM wx (.agg #[.slice sa M.strings.length sc, .slice ga M.globals.length gc, .slice A n cp, .slice ea M.entries.length ec]) M))
  case first =>
    cases own with
    | true =>
      go_wp2_with fail
      refine (points_calls W3 _ M HRM3.out HSM.out HPOS.out).mono ?_
      rintro e4 w4 ⟨v, ps, rfl, hp4, hb4⟩
      have HP4 := Lib.hid hp4
      have HB4 := Lib.hid hb4
      clear hp4 hb4 c3 f3 z3
      go_wp2_with fail
      go_meet
      case rel => exact ⟨v, ps, rfl, HP4.out, HB3.out.trans (HB4.out.mono HB3.out.size), blk_below H3.out HB4.out, HRM3.out.sub (sub_below HB4.out)⟩
    | false =>
      go_wp2_with fail
      go_meet
      case rel => exact ⟨_, ps0, rfl, HP3.out, HB3.out, H3.out, HRM3.out⟩
  case rest =>
    obtain ⟨pv, ps, rfl, HPS, HB5, HM5, HRM5⟩ := hcut
    obtain ⟨pa', pn', pc', rfl, _⟩ := id HPS.out
    have HPB5 := Lib.hid (points_len HPS.out)
    go_upto_region 6 with (fail)
    have hS0 : (fun w' => w'.heap[mb]? = some (Obj.cells #[.slice sa M.strings.length sc, .slice ga M.globals.length gc, .slice A n cp, .slice ea M.entries.length ec] 32)) wc := HM5.out
    refine wp_region_HL (S := (fun w' => w'.heap[mb]? = some (Obj.cells #[.slice sa M.strings.length sc, .slice ga M.globals.length gc, .slice A n cp, .slice ea M.entries.length ec] 32))) 7 (by kernel_rfl) (by kernel_rfl) (by kernel_rfl) (by kernel_rfl) (by decide) hS0 (fun hHeld => ?_)
    refine HL.take_ (i := 1) (oi := { dst := some 28, op := .move (.tmp 1), type := 61, pos := "law.go:39", after := #[], guard := none }) (v := ?_) rfl (by decide) (by kernel_rfl) (by kernel_rfl) (fun _ _ _ h => h) (Or.inl ⟨by rfl, ?_⟩) (by assumption) ?_
    rotate_left
    · intro w hSw
      (try dsimp only at hSw)
      (go_simp; try (with_reducible rfl))
    try simp only [Act.put, List.setIfInBounds_toArray, List.set_cons_zero, List.set_cons_succ]
    refine HL.take_ (i := 4) (oi := { dst := some 31, op := .move (.tmp 1), type := 61, pos := "law.go:39", after := #[], guard := none }) (v := ?_) rfl (by decide) (by kernel_rfl) (by kernel_rfl) (fun _ _ _ h => h) (Or.inl ⟨by rfl, ?_⟩) (by assumption) ?_
    rotate_left
    · intro w hSw
      (try dsimp only at hSw)
      (go_simp; try (with_reducible rfl))
    try simp only [Act.put, List.setIfInBounds_toArray, List.set_cons_zero, List.set_cons_succ]
    refine HL.take_ (i := 0) (oi := { dst := some 27, op := .load 32 (.tmp 7), type := 32, pos := "law.go:39", after := #[], guard := none }) (v := ?_) rfl (by decide) (by kernel_rfl) (by kernel_rfl) (fun _ _ _ h => h) (Or.inl ⟨by rfl, ?_⟩) (by assumption) ?_
    rotate_left
    · intro w hSw
      (try dsimp only at hSw)
      have s1 := (blk3 hSw).1; (go_simp; try (with_reducible rfl))
    try simp only [Act.put, List.setIfInBounds_toArray, List.set_cons_zero, List.set_cons_succ]
    refine HL.take_ (i := 3) (oi := { dst := some 30, op := .load 32 (.tmp 7), type := 32, pos := "law.go:39", after := #[], guard := none }) (v := ?_) rfl (by decide) (by kernel_rfl) (by kernel_rfl) (fun _ _ _ h => h) (Or.inl ⟨by rfl, ?_⟩) (by assumption) ?_
    rotate_left
    · intro w hSw
      (try dsimp only at hSw)
      have s1 := (blk3 hSw).1; (go_simp; try (with_reducible rfl))
    try simp only [Act.put, List.setIfInBounds_toArray, List.set_cons_zero, List.set_cons_succ]
    refine HL.step_ (i := 2) (o := { dst := some 29, op := .call { callee := .value (.func 25), args := #[.tmp 27, .tmp 28], argTypes := #[32, 61] }, type := 64, pos := "law.go:39", after := #[{ on := 0, ground := .data }, { on := 1, ground := .data }], guard := none }) rfl (by decide) (by kernel_rfl) (fun K hK => ?_)
    go_simp
    refine (edgesG_calls wc.drew _ _ M ps (HRM5.out.sub (sub_below ((Below.refl _ _).drew))) (HPS.out.sub (sub_below ((Below.refl _ _).drew))) (fun f hf => by have := HSM.out.flat f hf; omega) (rawE_bound (fun f hf => HSM.out.flat f hf) HPB5.out _ (by rw [HNL.out]; exact hn1))).mono ?_
    rintro e w6 ⟨A6, n6, c6, rfl, hn6, ho6, hb6⟩
    rw [edges_same HSM.out.ok] at hn6 ho6
    have HN6 := Lib.hid hn6
    have HO6 := Lib.hid ho6
    have HB6 := Lib.hid (((Below.refl wc.heap.size wc).drew).trans hb6)
    have hS1 : (fun w' => w'.heap[mb]? = some (Obj.cells #[.slice sa M.strings.length sc, .slice ga M.globals.length gc, .slice A n cp, .slice ea M.entries.length ec] 32)) w6 := blk_below HM5.out HB6.out
    clear hn6 ho6 hb6
    refine hK.out _ _ hS1 (fun hHeld => ?_)
    clear hK K
    try simp only [Act.put, List.setIfInBounds_toArray, List.set_cons_zero, List.set_cons_succ]
    refine HL.step_ (i := 5) (o := { dst := some 32, op := .call { callee := .value (.func 26), args := #[.tmp 30, .tmp 31], argTypes := #[32, 61] }, type := 64, pos := "law.go:39", after := #[{ on := 3, ground := .data }, { on := 4, ground := .data }, { on := 2, ground := .chain }], guard := none }) rfl (by decide) (by kernel_rfl) (fun K hK => ?_)
    go_simp
    refine (refEdges_calls w6 _ _ M ps (HRM5.out.sub (sub_below HB6.out)) (HPS.out.sub (sub_below HB6.out)) (fun f hf => HSM.out.flat f hf)).mono ?_
    rintro e w7 ⟨A7, n7, c7, rfl, hn7, ho7, hb7⟩
    have HN7 := Lib.hid hn7
    have HO7 := Lib.hid ho7
    have HB7 := Lib.hid hb7
    have hS2 : (fun w' => w'.heap[mb]? = some (Obj.cells #[.slice sa M.strings.length sc, .slice ga M.globals.length gc, .slice A n cp, .slice ea M.entries.length ec] 32)) w7 := blk_below HM5.out (HB6.out.trans (hb7.mono HB6.out.size))
    obtain rfl : n6 = n7 := by rw [HN6.out, HN7.out]
    clear hn7 ho7 hb7 hS1
    refine hK.out _ _ hS2 (fun hHeld => ?_)
    clear hK K
    try simp only [Act.put, List.setIfInBounds_toArray, List.set_cons_zero, List.set_cons_succ]
    refine HL.step_ (i := 6) (o := { dst := some 33, op := .call { callee := .value (.func 24), args := #[.tmp 29, .tmp 32], argTypes := #[64, 64] }, type := 4, pos := "law.go:39", after := #[{ on := 2, ground := .data }, { on := 5, ground := .data }, { on := 5, ground := .chain }], guard := none }) rfl (by decide) (by kernel_rfl) (fun K hK => ?_)
    go_simp
    refine (same_calls w7 _ _ A6 A7 n6 c6 c7 (refE M ps M.funcs.length) (own_below HO6.out HB7.out) HO7.out HN6.out (by
      have h1 := refE_len (M := M) ps (fun f hf => HSM.out.flat f hf) (by rw [HNL.out]; exact hn1) M.funcs.length
      have h2 := HN6.out
      rw [HNL.out] at h1 h2
      omega)).mono ?_
    rintro e w8 ⟨rfl, q8, rfl⟩
    have HB8 := Lib.hid (below_drewN' (HB5.out.trans ((HB6.out.trans (HB7.out.mono HB6.out.size)).mono HB5.out.size)) q8)
    have hS3 : (fun w' => w'.heap[mb]? = some (Obj.cells #[.slice sa M.strings.length sc, .slice ga M.globals.length gc, .slice A n cp, .slice ea M.entries.length ec] 32)) (w7.drewN q8) := hS2
    clear hS2
    refine hK.out _ _ hS3 (fun hHeld => ?_)
    clear hK K
    try simp only [Act.put, List.setIfInBounds_toArray, List.set_cons_zero, List.set_cons_succ]
    refine HL.done_ (by kernel_rfl) ?_
    simp only [List.drop_succ_cons, List.drop_zero]
    clear hHeld hS0 hS3
    go_wp2_with fail
    go_ret
    exact ⟨rfl, HB8.out⟩
set_option maxRecDepth 20000 in
theorem callsEdges_no (w : World) (g f e : Nat) (aa : Option Addr) (an ac : Nat) (pa : Option Addr) (pn pc : Nat) (own : Bool) (hm : an ≤ maxLen) (hm' : pn ≤ maxLen) (ha : ¬ an ≤ 60 ∨ ¬ pn ≤ 60) :
    Calls Try.prog 7 #[.agg #[.int .u8 g, .int .u8 f, .int .u8 e, .slice aa an ac], .slice pa pn pc, .bool own] w (Yes w) := by
  unfold maxLen at hm hm'
  go_enter Try.func7, Try.ntmps7
  go_wp2_with fail
  refine (R.awake_calls _).mono ?_
  rintro e1 w1 ⟨rfl, hb1⟩
  have HB1 := Lib.hid (((Below.refl w.heap.size w).alloc (Nat.le_refl _) (.cells #[.int .u8 g, .int .u8 f, .int .u8 e, .slice aa an ac] 25)).trans (hb1.mono (by simp)))
  obtain ⟨c1, f1, z1⟩ := blk3 (blk_below (heap_alloc_new w (.cells #[.int .u8 g, .int .u8 f, .int .u8 e, .slice aa an ac] 25)) hb1)
  clear hb1
  by_cases h60 : an ≤ 60
  · have hgt : (60 : Int) < (pn : Int) := by omega
    have hle : ¬ (60 : Int) < (an : Int) := by omega
    clear ha
    go_wp2_with fail
    refine (R.awake_calls _).mono ?_
    rintro e2 w2 ⟨rfl, hb2⟩
    have HB2 := Lib.hid (HB1.out.trans (hb2.mono HB1.out.size))
    clear hb2
    go_wp2
    go_ret
    exact ⟨rfl, HB2.out⟩
  · have hgt : (60 : Int) < (an : Int) := by omega
    clear ha
    go_wp2_with fail
    refine (R.awake_calls _).mono ?_
    rintro e2 w2 ⟨rfl, hb2⟩
    have HB2 := Lib.hid (HB1.out.trans (hb2.mono HB1.out.size))
    clear hb2
    go_wp2
    go_ret
    exact ⟨rfl, HB2.out⟩
end Go.Proofs.Ytjgijbaboekghaa

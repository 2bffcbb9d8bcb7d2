/-
  ModuleCopies (function 4), module.String (18): the walk. No statement of its own.
-/
import Derived.Test.YtjgijbaboekghaaCmuP
import Derived.Test.YtjgijbaboekghaaMeqW
set_option linter.unusedSimpArgs false
set_option linter.unusedVariables false
namespace Go.Proofs.Ytjgijbaboekghaa
open Go.RowKit
/-- The n-th string; there is none: the empty one. -/
def strGet (M : Mod) (z : Int) : ByteArray := if z < 0 then ⟨#[]⟩ else M.strings.getD z.toNat ⟨#[]⟩
theorem strGet_neg {M : Mod} {z : Int} (h : z < 0) : strGet M z = ⟨#[]⟩ := if_pos h
theorem strGet_far {M : Mod} {z : Int} (h : (M.strings.length : Int) ≤ z) : strGet M z = ⟨#[]⟩ := by
  unfold strGet
  rw [if_neg (by omega), List.getD_eq_getElem?_getD, List.getElem?_eq_none (by omega)]; rfl
theorem strGet_at {M : Mod} {i : Nat} {s : ByteArray} (h : M.strings[i]? = some s) : strGet M (i : Nat) = s := by
  unfold strGet
  rw [if_neg (by omega), Int.toNat_natCast, List.getD_eq_getElem?_getD, h]; rfl
set_option maxRecDepth 20000 in
theorem string_calls (w : World) (v : Value) (M : Mod) (z : Int) (h : ReadsM w v M) : Calls Try.prog 18 #[v, .int .i64 z] w fun e w' => e = .returned (.string (strGet M z)) ∧ Below w.heap.size w w' := by
  obtain ⟨sv, gv, fv, ev, rfl, h1, h2, h3, h4⟩ := h
  obtain ⟨sa, sc, rfl, hs1⟩ := h1.shape
  obtain ⟨ga, gc, rfl, _⟩ := h2.shape
  obtain ⟨fa, fc, rfl, _⟩ := h3.shape
  obtain ⟨ea, ec, rfl, _⟩ := h4.shape
  obtain ⟨sn, hsn⟩ : ∃ n, n = M.strings.length := ⟨_, rfl⟩
  obtain ⟨gn, hgn⟩ : ∃ n, n = M.globals.length := ⟨_, rfl⟩
  obtain ⟨fn, hfn⟩ : ∃ n, n = M.funcs.length := ⟨_, rfl⟩
  obtain ⟨en, hen⟩ : ∃ n, n = M.entries.length := ⟨_, rfl⟩
  rw [← hsn] at h1 hs1 ⊢
  rw [← hgn, ← hfn, ← hen]
  have H1 := Lib.hid h1
  have HSN := Lib.hid hsn
  clear h1 h2 h3 h4 hsn hgn hfn hen
  by_cases hz : z < 0
  · have HR := Lib.hid (strGet_neg (M := M) hz)
    go_enter Try.func18, Try.ntmps18
    go_wp2_with fail
    go_ret
    exact ⟨by rw [HR.out]; rfl, (Below.refl _ _).alloc (Nat.le_refl _) _⟩
  · by_cases hf : (sn : Int) ≤ z
    · have HR := Lib.hid (strGet_far (M := M) (z := z) (by rw [← HSN.out]; exact hf))
      go_enter Try.func18, Try.ntmps18
      go_wp2_with fail
      go_ret
      exact ⟨by rw [HR.out]; rfl, (Below.refl _ _).alloc (Nat.le_refl _) _⟩
    · obtain ⟨i, rfl⟩ : ∃ i : Nat, z = (i : Int) := ⟨z.toNat, by omega⟩
      have hi : i < sn := by omega
      have hi0 : (0 : Int) ≤ (i : Int) := by omega
      have hiI : (i : Int) < (sn : Int) := by omega
      obtain ⟨b, off, s, rfl, hs, hc⟩ := H1.out.at hi
      have HR := Lib.hid (strGet_at hs)
      have hca : ∀ o, (w.alloc o).cell? ⟨b, off + i, none⟩ = some (.string s) := fun o => cell_alloc hc
      clear hz hf hs hc
      go_enter Try.func18, Try.ntmps18
      go_wp2_with fail
      go_ret
      exact ⟨by rw [HR.out]; rfl, (Below.refl _ _).alloc (Nat.le_refl _) _⟩
theorem one_block {w w1 : World} {o : Obj} (hb : Below (w.alloc o).heap.size (w.alloc o) w1) : w1.heap[w.heap.size]? = some o ∧ Below w.heap.size w w1 :=
  ⟨blk_below (heap_alloc_new w o) hb, ((Below.refl w.heap.size w).alloc (Nat.le_refl _) o).trans (hb.mono (by simp))⟩
set_option maxRecDepth 100000 in
set_option maxHeartbeats 4000000 in
theorem moduleCopies_walk (w : World) (g f e : Nat) (aa : Option Addr) (an ac : Nat) (acts : List (Nat × Nat × Nat × Nat)) (z : Int) (hg : g < 256) (hf : f < 256) (he : e < 256) (ha : ReadsActs w aa an acts) :
    Calls Try.prog 4 #[.agg #[.int .u8 g, .int .u8 f, .int .u8 e, .slice aa an ac], .int .i64 z] w (YesE w) := by
  have HA := Lib.hid ha
  have han := ha.2.1
  clear ha
  go_enter Try.func4, Try.ntmps4
  go_wp2_with fail
  refine (awake_calls _).mono ?_
  rintro e1 w1 ⟨rfl, hb1⟩
  obtain ⟨q1, hbb⟩ := one_block hb1
  obtain ⟨c1, f1, z1⟩ := blk3 q1
  have HB1 := Lib.hid hbb
  have Q1 := Lib.hid q1
  clear hb1 q1 hbb
  go_wp2_with fail
  refine (make_calls _ g f e aa an ac acts [] (by simp) hg hf he (HA.out.sub (sub_below HB1.out))).mono ?_
  rintro e2 w2 ⟨sv, gv, A, n, cp, ev, xs, rfl, hn, hn1, hb2, ho, hfn, hs, hgl, hen⟩
  have hrf := ReadsF.own ho hn.symm hn1 (hfn.sub (sans_sub _ _))
  have hrs := hs.sub (sans_sub _ _)
  have hrg := hgl.sub (sans_sub _ _)
  have hre := hen.sub (sans_sub _ _)
  obtain ⟨sa, sc, rfl, i1⟩ := hs.shape
  obtain ⟨ga, gc, rfl, i2⟩ := hgl.shape
  obtain ⟨ea, ec, rfl, i3⟩ := hen.shape
  obtain ⟨X, hX⟩ : ∃ X, X = makeM ⟨g, f, e, acts⟩ := ⟨_, rfl⟩
  rw [← hX] at hrf hrs hrg hre i1 i2 i3 hn ⊢
  have HX := Lib.hid hX
  have HN := Lib.hid hn
  have HRM : Hid (ReadsM w2 (.agg #[.slice sa X.strings.length sc, .slice ga X.globals.length gc, .slice A n cp, .slice ea X.entries.length ec]) X) := Lib.hid ⟨_, _, _, _, rfl, hrs, hrg, hrf, hre⟩
  have HB2 := Lib.hid (HB1.out.trans (hb2.mono HB1.out.size))
  have Q2 := Lib.hid (blk_below Q1.out hb2)
  clear hb2 ho hfn hs hgl hen hrf hrs hrg hre hX hn c1 f1 z1
  go_upto_region 4 with (fail)
  obtain ⟨V3, hV3⟩ : ∃ V, V = w2.alloc (.cells #[.slice sa X.strings.length sc, .slice ga X.globals.length gc, .slice A n cp, .slice ea X.entries.length ec] 32) := ⟨_, rfl⟩
  have hb3 : Below w2.heap.size w2 V3 := by rw [hV3]; exact (Below.refl _ _).alloc (Nat.le_refl _) _
  have hz3 : V3.heap.size = w2.heap.size + 1 := by rw [hV3]; simp
  have hq3 := heap_alloc_new w2 (.cells #[.slice sa X.strings.length sc, .slice ga X.globals.length gc, .slice A n cp, .slice ea X.entries.length ec] 32)
  rw [← hV3] at hq3 ⊢
  have HRM3 := Lib.hid (HRM.out.sub (sub_below hb3))
  have HB3 := Lib.hid (HB2.out.trans (hb3.mono HB2.out.size))
  have Q3 := Lib.hid hq3
  have D3 := Lib.hid (blk_below Q2.out hb3)
  have HZ3 := Lib.hid hz3
  clear hV3 hb3 hz3 hq3
  obtain ⟨c3, f3, z3⟩ := blk3 Q3.out
  go_wp2_with fail
  have hpos : 0 < X.funcs.length := by rw [HX.out, makeM_len]; unfold nD; omega
  refine (copy_calls V3 _ X HRM3.out (by rw [HX.out]; exact makeM_small _) hpos).mono ?_
  rintro e3 w4 ⟨vc, rfl, hrc, hb4⟩
  obtain ⟨sv', gv', fv', ev', rfl, h1, h2, h3, h4⟩ := hrc
  obtain ⟨sa', sc', rfl, _⟩ := h1.shape
  obtain ⟨ga', gc', rfl, _⟩ := h2.shape
  obtain ⟨fa', fc', rfl, _⟩ := h3.shape
  obtain ⟨ea', ec', rfl, _⟩ := h4.shape
  obtain ⟨RW, hRW⟩ : ∃ RW, RW = TH w4 (List.range V3.heap.size) := ⟨_, rfl⟩
  rw [← hRW] at h1 h2 h3 h4
  have R1 := Lib.hid h1
  have R2 := Lib.hid h2
  have R3 := Lib.hid h3
  have R4 := Lib.hid h4
  have HRW := Lib.hid hRW
  have HC4 := Lib.hid hb4
  have HB4 := Lib.hid (HB3.out.trans (hb4.mono HB3.out.size))
  have Q4 := Lib.hid (blk_below Q3.out hb4)
  have D4 := Lib.hid (blk_below D3.out hb4)
  clear h1 h2 h3 h4 hRW hb4 c3 f3 z3
  go_upto_region 5 with (fail)
  obtain ⟨V5, hV5⟩ : ∃ V, V = w4.alloc (.cells #[.slice sa' X.strings.length sc', .slice ga' X.globals.length gc', .slice fa' X.funcs.length fc', .slice ea' X.entries.length ec'] 32) := ⟨_, rfl⟩
  have hb5 : Below w4.heap.size w4 V5 := by rw [hV5]; exact (Below.refl _ _).alloc (Nat.le_refl _) _
  have hz5 : V5.heap.size = w4.heap.size + 1 := by rw [hV5]; simp
  have hq5 := heap_alloc_new w4 (.cells #[.slice sa' X.strings.length sc', .slice ga' X.globals.length gc', .slice fa' X.funcs.length fc', .slice ea' X.entries.length ec'] 32)
  rw [← hV5] at hq5 ⊢
  have M5 := Lib.hid (blk_below Q4.out hb5)
  have D5 := Lib.hid (blk_below D4.out hb5)
  have C5 := Lib.hid hq5
  have HB5 := Lib.hid (HB4.out.trans (hb5.mono HB4.out.size))
  have HC5 := Lib.hid hb5
  have HZ5 := Lib.hid hz5
  have RM5 := Lib.hid ((HRM3.out.sub (sub_below HC4.out)).sub (sub_below hb5))
  have RC5 : Hid (ReadsM V5 (.agg #[.slice sa' X.strings.length sc', .slice ga' X.globals.length gc', .slice fa' X.funcs.length fc', .slice ea' X.entries.length ec']) X) := Lib.hid (by
    have : ReadsM RW (.agg #[.slice sa' X.strings.length sc', .slice ga' X.globals.length gc', .slice fa' X.funcs.length fc', .slice ea' X.entries.length ec']) X := ⟨_, _, _, _, rfl, R1.out, R2.out, R3.out, R4.out⟩
    rw [HRW.out] at this
    exact (this.sub (th_sub _ _)).sub (sub_below hb5))
  clear hV5 hb5 hz5 hq5
  obtain ⟨c3, f3, z3⟩ := blk3 M5.out
  obtain ⟨c4, f4, z4⟩ := blk3 C5.out
  go_wp2_with fail
  refine (same17_calls V5 _ _ X X RM5.out RC5.out).mono ?_
  rintro e4 w5 ⟨rfl, hb6⟩
  rw [sameM_refl]
  have M6 := Lib.hid (blk_below M5.out hb6)
  have D6 := Lib.hid (blk_below D5.out hb6)
  have C6 := Lib.hid (blk_below C5.out hb6)
  have HB6 := Lib.hid (HB5.out.trans (hb6.mono HB5.out.size))
  have HC6 := Lib.hid (HC5.out.trans (hb6.mono HC5.out.size))
  have HZ6 : Hid (w4.heap.size < w5.heap.size) := Lib.hid (by have := hb6.size; have := HZ5.out; omega)
  clear hb6 c3 f3 z3 c4 f4 z4
  obtain ⟨d1, d2, d3⟩ := blk3 D6.out
  go_wp2_with fail
  refine (make_calls _ g f e aa an ac acts (List.range w5.heap.size) (fun b hb => List.mem_range.1 hb) hg hf he (HA.out.sub (sub_below HB6.out))).mono ?_
  rintro e5 w6 ⟨sv, gv, A9, n9, cp9, ev, xs9, rfl, hn, hn9, hb7, ho, hfn, hs, hgl, hen⟩
  rw [← HX.out] at hn hfn hs hgl hen
  have hless : ∀ b ∈ List.range w5.heap.size, b ∈ (Value.slice A9 n9 cp9).ownBlock.toList ++ List.range w5.heap.size := fun b hb => List.mem_append_right _ hb
  have hrf := ReadsF.own' ho hn.symm hn9 (hfn.sub (sub_sans_less hless)) (fun b hb => List.mem_range.1 hb)
  have hrs := hs.sub (sub_sans_less hless)
  have hrg := hgl.sub (sub_sans_less hless)
  have hre := hen.sub (sub_sans_less hless)
  obtain ⟨sa9, sc9, rfl, _⟩ := hs.shape
  obtain ⟨ga9, gc9, rfl, _⟩ := hgl.shape
  obtain ⟨ea9, ec9, rfl, _⟩ := hen.shape
  have HRW9 : Hid (ReadsM (sans w6 (List.range w5.heap.size)) (.agg #[.slice sa9 X.strings.length sc9, .slice ga9 X.globals.length gc9, .slice A9 n9 cp9, .slice ea9 X.entries.length ec9]) X) := Lib.hid ⟨_, _, _, _, rfl, hrs, hrg, hrf, hre⟩
  have M7 := Lib.hid (blk_below M6.out hb7)
  have C7 := Lib.hid (blk_below C6.out hb7)
  have HB7 := Lib.hid (HB6.out.trans (hb7.mono HB6.out.size))
  have HC7 := Lib.hid (HC6.out.trans (hb7.mono HC6.out.size))
  have HZ7 : Hid (w5.heap.size ≤ w6.heap.size) := Lib.hid hb7.size
  clear hb7 ho hfn hs hgl hen hrf hrs hrg hre hn hn9 hless d1 d2 d3
  go_upto_region 8 with (fail)
  obtain ⟨V8, hV8⟩ : ∃ V, V = w6.alloc (.cells #[.slice sa9 X.strings.length sc9, .slice ga9 X.globals.length gc9, .slice A9 n9 cp9, .slice ea9 X.entries.length ec9] 32) := ⟨_, rfl⟩
  have hb8 : Below w6.heap.size w6 V8 := by rw [hV8]; exact (Below.refl _ _).alloc (Nat.le_refl _) _
  have hz8 : V8.heap.size = w6.heap.size + 1 := by rw [hV8]; simp
  have hq8 := heap_alloc_new w6 (.cells #[.slice sa9 X.strings.length sc9, .slice ga9 X.globals.length gc9, .slice A9 n9 cp9, .slice ea9 X.entries.length ec9] 32)
  rw [← hV8] at hq8 ⊢
  have M8 := Lib.hid (blk_below M7.out hb8)
  have C8 := Lib.hid (blk_below C7.out hb8)
  have W8 := Lib.hid hq8
  have HB8 := Lib.hid (HB7.out.trans (hb8.mono HB7.out.size))
  have HC8 := Lib.hid (HC7.out.trans (hb8.mono HC7.out.size))
  have HRW8 := Lib.hid (HRW9.out.sub (sub_sans_below hb8))
  have K8 : Hid (Kin RW V8 V8 V3.heap.size w4.heap.size) := Lib.hid (by rw [HRW.out]; exact Kin.start (HC7.out.trans (hb8.mono HC7.out.size)))
  have RM8 : Hid (ReadsM V3 (.agg #[.slice sa X.strings.length sc, .slice ga X.globals.length gc, .slice A n cp, .slice ea X.entries.length ec]) X) := HRM3
  have HMZ : Hid (w2.heap.size < V3.heap.size) := Lib.hid (by have := HZ3.out; omega)
  have HZ8 : Hid (w4.heap.size < w6.heap.size) := Lib.hid (by have := HZ6.out; have := HZ7.out; omega)
  clear hV8 hb8 hz8 hq8
  obtain ⟨c4, f4, z4⟩ := blk3 C8.out
  obtain ⟨fx, hfx, hloc⟩ := makeM_first ⟨g, f, e, acts⟩
  rw [← HX.out] at hfx
  obtain ⟨b, off, f0, lv, sv0, bv, rfl, hf0, ⟨cn, _, cl, _, _⟩, hrl, _, _⟩ := R3.out.at hpos
  rw [hfx] at hf0
  injection hf0 with hf0
  subst hf0
  have HCN := Lib.hid cn
  have HCL := Lib.hid cl
  have HRL := Lib.hid hrl
  have HLOC := Lib.hid hloc
  clear hfx cn cl hrl hloc
  obtain ⟨y, hy⟩ := K8.out.num HCN.out
  have hyf := K8.out.thaw HCN.out
  have hposI : (0 : Int) < (X.funcs.length : Int) := by omega
  rw [Nat.zero_mul, Nat.add_zero] at hy hyf
  go_upto_region 9 with (fail)
  obtain ⟨V9, hV9⟩ : ∃ V, V = V8.setCell ⟨b, off, none⟩ (.int .i64 (wrap64 (y + 1))) := ⟨_, rfl⟩
  have K9 : Hid (Kin RW V8 V9 V3.heap.size w4.heap.size) := Lib.hid (by
    rw [hV9]
    have := HCN.out
    rw [Nat.zero_mul, Nat.add_zero] at this
    exact K8.out.setInt this _)
  rw [← hV9]
  clear hV9 hy hyf c4 f4 z4
  have C9 := Lib.hid (K9.out.blk (.inr (Nat.le_refl _)) C8.out)
  obtain ⟨c4, f4, z4⟩ := blk3 C9.out
  obtain ⟨la, lc, rfl, _⟩ := HRL.out.shape
  obtain ⟨b2, off2, y2, rfl, _, hl2⟩ := HRL.out.at HLOC.out
  have HL2 := Lib.hid hl2
  clear hl2
  have hl1 := K9.out.slice HCL.out
  rw [Nat.zero_mul, Nat.add_zero] at hl1
  obtain ⟨y3, hy3⟩ := K9.out.num HL2.out
  have hyf3 := K9.out.thaw HL2.out
  rw [Nat.add_zero] at hy3 hyf3
  have hlI : (0 : Int) < (fx.locals.length : Int) := by have := HLOC.out; omega
  go_upto_region 10 with (fail)
  obtain ⟨V10, hV10⟩ : ∃ V, V = V9.setCell ⟨b2, off2, none⟩ (.int .i64 (wrap64 (y3 + 1))) := ⟨_, rfl⟩
  have K10 : Hid (Kin RW V8 V10 V3.heap.size w4.heap.size) := Lib.hid (by
    rw [hV10]
    have := HL2.out
    rw [Nat.add_zero] at this
    exact K9.out.setInt this _)
  rw [← hV10]
  clear hV10 hy3 hyf3 hl1 c4 f4 z4
  have C10 := Lib.hid (K10.out.blk (.inr (Nat.le_refl _)) C8.out)
  obtain ⟨c4, f4, z4⟩ := blk3 C10.out
  have hsp : 0 < X.strings.length := by rw [HX.out]; exact makeM_strs _
  obtain ⟨b3, off3, t3, rfl, _, hs3⟩ := R1.out.at hsp
  have HS3 := Lib.hid hs3
  clear hs3
  obtain ⟨t4, ht4⟩ := K10.out.str HS3.out
  have htf4 := K10.out.thaw HS3.out
  rw [Nat.add_zero] at ht4 htf4
  have hspI : (0 : Int) < (X.strings.length : Int) := by omega
  go_upto_region 11 with (fail)
  obtain ⟨V11, hV11⟩ : ∃ V, V = V10.setCell ⟨b3, off3, none⟩ (.string ⟨#[63]⟩) := ⟨_, rfl⟩
  have K11 : Hid (Kin RW V8 V11 V3.heap.size w4.heap.size) := Lib.hid (by
    rw [hV11]
    have := HS3.out
    rw [Nat.add_zero] at this
    exact K10.out.setStr this _)
  rw [← hV11]
  clear hV11 ht4 htf4 c4 f4 z4
  obtain ⟨nf, hnf⟩ : ∃ nf, nf = X.funcs.length := ⟨_, rfl⟩
  rw [← hnf] at hpos hposI C8 R3 HN ⊢
  have HNF := Lib.hid hnf
  have hnf1 : nf ≤ 1000 := by have := HN.out; omega
  clear hnf
  have HB3V : Hid (Below V3.heap.size V3 V8) := Lib.hid (HC4.out.trans (HC8.out.mono HC4.out.size))
  go_wp2_with fail
  go_loopg [8, 9, 10] nf (fun gk s8 s9 s10 wr => ∃ i : Nat, s8 = .int .i64 (i : Nat) ∧ i ≤ nf ∧ Hid (gk = nf - i) ∧ Hid (Kin RW V8 wr V3.heap.size w4.heap.size))
  case atStart => exact ⟨0, rfl, Nat.zero_le _, rfl, K11⟩
  case round =>
    obtain ⟨i, rfl, hi, HGI, HKO⟩ := hrel
    by_cases hil : i < nf
    · have hiI : (i : Int) < (nf : Int) := by omega
      have hi0 : (0 : Int) ≤ (i : Int) := by omega
      obtain ⟨bq, oq, fq, lq, sq, bv', eq, hfq, ⟨_, _, _, _, hbv⟩, _, _, hrb⟩ := R3.out.at hil
      injection eq with eq
      injection eq with eq1 eq2
      subst eq1 eq2
      obtain ⟨ba, bl, bc, rfl, hbl, hbd⟩ := hrb
      have HBV := Lib.hid hbv
      have HBD := Lib.hid hbd
      clear hfq hbv hbd
      have CBo := Lib.hid (HKO.out.blk (.inr (Nat.le_refl _)) C8.out)
      obtain ⟨c4, f4, z4⟩ := blk3 CBo.out
      go_wp2_with fail
      clear c4 f4 z4
      go_loopg [9, 10] bl (fun gk s9 s10 wr => ∃ j : Nat, s9 = .int .i64 (j : Nat) ∧ j ≤ bl ∧ Hid (gk = bl - j) ∧ Hid (Kin RW V8 wr V3.heap.size w4.heap.size))
      case atStart => exact ⟨0, rfl, Nat.zero_le _, rfl, HKO⟩
      case round =>
        obtain ⟨j, rfl, hj, HGJ, HKI⟩ := hrel
        have CB := Lib.hid (HKI.out.blk (.inr (Nat.le_refl _)) C8.out)
        by_cases hjl : j < bl
        · skip
          have hjI : (j : Int) < (bl : Int) := by omega
          have hj0 : (0 : Int) ≤ (j : Int) := by omega
          obtain ⟨b5, o5, k7, ak7, ai7, bk7, bi7, args7, body7, aa7, al7, ac7, ba7, bl7, bc7, rfl, hs7, ⟨s0, _, _, _, _, s5, s6⟩, hr7, hb7⟩ := HBD.out.at hjl
          have S0 := Lib.hid s0
          have S5 := Lib.hid s5
          have S6 := Lib.hid s6
          have RR := Lib.hid hr7
          have RB := Lib.hid hb7
          clear hs7 s0 s5 s6 hr7 hb7
          have t4 := HKI.out.slice HBV.out
          obtain ⟨y, hy⟩ := HKI.out.num S0.out
          have hyf := HKI.out.thaw S0.out
          obtain ⟨c4, f4, z4⟩ := blk3 CB.out
          go_upto_region 19 with (fail)
          obtain ⟨Va, hVa⟩ : ∃ V, V = wr.setCell ⟨b5, o5 + j * 7, none⟩ (.int .u8 ((y + 1) % 256)) := ⟨_, rfl⟩
          have Ka : Hid (Kin RW V8 Va V3.heap.size w4.heap.size) := Lib.hid (by rw [hVa]; exact HKI.out.setInt S0.out _)
          rw [← hVa]
          clear hVa hy hyf t4 c4 f4 z4
          have u5 := Ka.out.slice S5.out
          have u6 := Ka.out.slice S6.out
          by_cases hal : 0 < al7
          · have halI : (0 : Int) < (al7 : Int) := by omega
            obtain ⟨b6, o6, rfl, hrc⟩ := RR.out.2.2 hal
            have hr0 := (hrc 0 hal).2
            rw [Nat.zero_mul, Nat.add_zero] at hr0
            have HR0 := Lib.hid hr0
            clear hrc hr0
            obtain ⟨y1, hy1⟩ := Ka.out.num HR0.out
            have hyf1 := Ka.out.thaw HR0.out
            go_upto_region 21 with (fail)
            obtain ⟨Vb, hVb⟩ : ∃ V, V = Va.setCell ⟨b6, o6 + 1, none⟩ (.int .i64 (wrap64 (y1 + 1))) := ⟨_, rfl⟩
            have Kb : Hid (Kin RW V8 Vb V3.heap.size w4.heap.size) := Lib.hid (by rw [hVb]; exact Ka.out.setInt HR0.out _)
            rw [← hVb]
            clear hVb hy1 hyf1 u5 u6
            have u6 := Kb.out.slice S6.out
            by_cases hbl7 : 0 < bl7
            · have hblI : (0 : Int) < (bl7 : Int) := by omega
              obtain ⟨b7, o7, k8, ak8, ai8, bk8, bi8, args8, body8, aa8, al8, ac8, ba8, bl8, bc8, rfl, _, ⟨s8, _⟩, _, _⟩ := RB.out.at hbl7
              rw [Nat.zero_mul, Nat.add_zero] at s8
              have S8 := Lib.hid s8
              clear s8
              obtain ⟨y2, hy2⟩ := Kb.out.num S8.out
              have hyf2 := Kb.out.thaw S8.out
              go_upto_region 16 with (fail)
              obtain ⟨Vc, hVc⟩ : ∃ V, V = Vb.setCell ⟨b7, o7, none⟩ (.int .u8 ((y2 + 1) % 256)) := ⟨_, rfl⟩
              have Kc : Hid (Kin RW V8 Vc V3.heap.size w4.heap.size) := Lib.hid (by rw [hVc]; exact Kb.out.setInt S8.out _)
              rw [← hVc]
              clear hVc hy2 hyf2
              go_wp2_with fail
              go_roundg (bl - (j + 1))
              case measure => have := HGJ.out; omega
              case rel => exact ⟨j + 1, by go_num, by omega, rfl, Kc⟩
            · have hblI : ¬ (0 : Int) < (bl7 : Int) := by omega
              go_wp2_with fail
              go_roundg (bl - (j + 1))
              case measure => have := HGJ.out; omega
              case rel => exact ⟨j + 1, by go_num, by omega, rfl, Kb⟩
          · have halI : ¬ (0 : Int) < (al7 : Int) := by omega
            by_cases hbl7 : 0 < bl7
            · have hblI : (0 : Int) < (bl7 : Int) := by omega
              obtain ⟨b7, o7, k8, ak8, ai8, bk8, bi8, args8, body8, aa8, al8, ac8, ba8, bl8, bc8, rfl, _, ⟨s8, _⟩, _, _⟩ := RB.out.at hbl7
              rw [Nat.zero_mul, Nat.add_zero] at s8
              have S8 := Lib.hid s8
              clear s8
              obtain ⟨y2, hy2⟩ := Ka.out.num S8.out
              have hyf2 := Ka.out.thaw S8.out
              go_upto_region 16 with (fail)
              obtain ⟨Vc, hVc⟩ : ∃ V, V = Va.setCell ⟨b7, o7, none⟩ (.int .u8 ((y2 + 1) % 256)) := ⟨_, rfl⟩
              have Kc : Hid (Kin RW V8 Vc V3.heap.size w4.heap.size) := Lib.hid (by rw [hVc]; exact Ka.out.setInt S8.out _)
              rw [← hVc]
              clear hVc hy2 hyf2
              go_wp2_with fail
              go_roundg (bl - (j + 1))
              case measure => have := HGJ.out; omega
              case rel => exact ⟨j + 1, by go_num, by omega, rfl, Kc⟩
            · have hblI : ¬ (0 : Int) < (bl7 : Int) := by omega
              go_wp2_with fail
              go_roundg (bl - (j + 1))
              case measure => have := HGJ.out; omega
              case rel => exact ⟨j + 1, by go_num, by omega, rfl, Ka⟩
        · obtain rfl : bl = j := by omega
          have hjj : ¬ (bl : Int) < (bl : Int) := by omega
          have t4 := HKI.out.slice HBV.out
          obtain ⟨c4, f4, z4⟩ := blk3 CB.out
          go_wp2_with fail
          go_roundg (nf - (i + 1))
          case measure => have := HGI.out; omega
          case rel => exact ⟨i + 1, by go_num, by omega, rfl, HKI⟩
    · obtain rfl : nf = i := by omega
      have hnn : ¬ (nf : Int) < (nf : Int) := by omega
      have CB := Lib.hid (HKO.out.blk (.inr (Nat.le_refl _)) C8.out)
      have MB := Lib.hid (HKO.out.blk (.inl HMZ.out) M8.out)
      have WB := Lib.hid (HKO.out.blk (.inr (Nat.le_of_lt HZ8.out)) W8.out)
      have hb9 := HKO.out.old HB3V.out (Nat.le_refl _)
      have RMW := Lib.hid (HRM3.out.sub (sub_below hb9))
      have HBW := Lib.hid (HB3.out.trans (hb9.mono HB3.out.size))
      have RWW := Lib.hid ((HRW8.out.sub (HKO.out.late (Nat.le_of_lt HZ6.out))).sub (sans_sub _ _))
      clear hb9
      obtain ⟨c4, f4, z4⟩ := blk3 CB.out
      obtain ⟨mc, mf, mz⟩ := blk3 MB.out
      obtain ⟨wc, wf, wz⟩ := blk3 WB.out
      by_cases hz : z < 0
      · have hzI : ¬ (0 : Int) ≤ z := by omega
        have HGT := Lib.hid (strGet_neg (M := X) hz)
        go_wp2_with fail
        refine (same17_calls wr _ _ X X RMW.out RWW.out).mono ?_
        rintro e9 w9 ⟨rfl, hb9⟩
        rw [sameM_refl]
        have MM := Lib.hid (blk_below MB.out hb9)
        have RM9 := Lib.hid (RMW.out.sub (sub_below hb9))
        have BW9 := Lib.hid (HBW.out.trans (hb9.mono HBW.out.size))
        clear hb9 mc mf mz wc wf wz
        obtain ⟨mc, mf, mz⟩ := blk3 MM.out
        go_wp2_with fail
        refine (string_calls w9 _ X z RM9.out).mono ?_
        rw [HGT.out]
        rintro e9 w10 ⟨rfl, hb10⟩
        have BW10 := Lib.hid (BW9.out.trans (hb10.mono BW9.out.size))
        clear hb10
        go_wp2_with fail
        go_ret
        exact ⟨rfl, BW10.out⟩
      · have hzI : (0 : Int) ≤ z := by omega
        by_cases hfar : (X.strings.length : Int) ≤ z
        · have hfI : ¬ z < (X.strings.length : Int) := by omega
          have HGT := Lib.hid (strGet_far (M := X) hfar)
          go_wp2_with fail
          refine (same17_calls wr _ _ X X RMW.out RWW.out).mono ?_
          rintro e9 w9 ⟨rfl, hb9⟩
          rw [sameM_refl]
          have MM := Lib.hid (blk_below MB.out hb9)
          have RM9 := Lib.hid (RMW.out.sub (sub_below hb9))
          have BW9 := Lib.hid (HBW.out.trans (hb9.mono HBW.out.size))
          clear hb9 mc mf mz wc wf wz
          obtain ⟨mc, mf, mz⟩ := blk3 MM.out
          go_wp2_with fail
          refine (string_calls w9 _ X z RM9.out).mono ?_
          rw [HGT.out]
          rintro e9 w10 ⟨rfl, hb10⟩
          have BW10 := Lib.hid (BW9.out.trans (hb10.mono BW9.out.size))
          clear hb10
          go_wp2_with fail
          go_ret
          exact ⟨rfl, BW10.out⟩
        · obtain ⟨q, rfl⟩ : ∃ q : Nat, z = (q : Int) := ⟨z.toNat, by omega⟩
          have hq : q < X.strings.length := by omega
          have hqI : (q : Int) < (X.strings.length : Int) := by omega
          obtain ⟨s1, s2, s3, s4, es, h1, _, _, _⟩ := RMW.out
          injection es with es
          have es1 := congrArg (fun a => a[0]?) es
          simp at es1
          subst es1
          obtain ⟨b8, o8, tq, rfl, hq1, hq2⟩ := h1.at hq
          have HGT := Lib.hid (strGet_at hq1)
          clear h1 es hq1 hz hfar
          go_wp2_with fail
          refine (same17_calls wr _ _ X X RMW.out RWW.out).mono ?_
          rintro e9 w9 ⟨rfl, hb9⟩
          rw [sameM_refl]
          have MM := Lib.hid (blk_below MB.out hb9)
          have RM9 := Lib.hid (RMW.out.sub (sub_below hb9))
          have BW9 := Lib.hid (HBW.out.trans (hb9.mono HBW.out.size))
          clear hb9 mc mf mz wc wf wz
          obtain ⟨mc, mf, mz⟩ := blk3 MM.out
          go_wp2_with fail
          refine (string_calls w9 _ X (q : Int) RM9.out).mono ?_
          rw [HGT.out]
          rintro e9 w10 ⟨rfl, hb10⟩
          have BW10 := Lib.hid (BW9.out.trans (hb10.mono BW9.out.size))
          clear hb10
          go_wp2_with fail
          go_ret
          exact ⟨rfl, BW10.out⟩
set_option maxRecDepth 20000 in
theorem moduleCopies_no (w : World) (g f e : Nat) (aa : Option Addr) (an ac : Nat) (z : Int) (hm : an ≤ maxLen) (ha : ¬ an ≤ 60) :
    Calls Try.prog 4 #[.agg #[.int .u8 g, .int .u8 f, .int .u8 e, .slice aa an ac], .int .i64 z] w (YesE w) := by
  unfold maxLen at hm
  have h2 : (60 : Int) < (an : Int) := by omega
  clear ha
  go_enter Try.func4, Try.ntmps4
  go_wp2_with fail
  refine (awake_calls _).mono ?_
  rintro e1 w1 ⟨rfl, hb1⟩
  obtain ⟨q1, hbb⟩ := one_block hb1
  obtain ⟨c1, f1, z1⟩ := blk3 q1
  have HB1 := Lib.hid hbb
  clear hb1 q1 hbb
  go_wp2_with fail
  refine (awake_calls _).mono ?_
  rintro e2 w2 ⟨rfl, hb2⟩
  have HB2 := Lib.hid (HB1.out.trans (hb2.mono HB1.out.size))
  clear hb2
  go_wp2
  go_ret
  exact ⟨rfl, HB2.out⟩
end Go.Proofs.Ytjgijbaboekghaa

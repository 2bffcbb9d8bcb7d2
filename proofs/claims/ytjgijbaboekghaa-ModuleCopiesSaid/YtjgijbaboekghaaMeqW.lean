/-
  ModuleEqual (function 5), walked.
-/
import Derived.Test.YtjgijbaboekghaaMeqP
import Derived.Test.YtjgijbaboekghaaMake
import Derived.Test.YtjgijbaboekghaaCount
import Derived.Deep.CutRange
import Derived.IntWalk
set_option linter.unusedSimpArgs false
set_option linter.unusedVariables false
namespace Go.Proofs.Ytjgijbaboekghaa
open Go.RowKit
/-- True, and nothing that lay there has turned. -/
def YesE (w : World) (e : Ending) (w' : World) : Prop := e = .returned (.bool true) ∧ Below w.heap.size w w'
theorem readsS_nil (w : World) : ReadsS w (.slice none 0 0) [] := ⟨none, 0, 0, rfl, rfl, ⟨by decide, Nat.le_refl _⟩, fun h => absurd h (Nat.lt_irrefl _)⟩
theorem readsI_nil (w : World) : ReadsI w (.slice none 0 0) [] := ⟨none, 0, 0, rfl, rfl, ⟨by decide, Nat.le_refl _⟩, fun h => absurd h (Nat.lt_irrefl _)⟩
theorem xcells {w w' : World} {g : Nat} (hb : Below w.heap.size w w') (hg : g < w.heap.size) : g < w'.heap.size ∧ ((∀ o, o < 5 → w.frozen? ⟨g, o, none⟩ = false) → ∀ o, o < 5 → w'.frozen? ⟨g, o, none⟩ = false) :=
  ⟨Nat.lt_of_lt_of_le hg hb.size, fun h o ho => (hb.frozen (p := ⟨g, o, none⟩) hg).trans (h o ho)⟩
theorem own_drew {w : World} {B : Nat} {e : TypeId} {size n : Nat} {v : Value} {xs : List Value} (h : w.ownsRow B e size v n xs) : w.drew.ownsRow B e size v n xs := h
theorem Fresh.reads_drew {B p : Nat} {w : World} {sv gv ev : Value} {g n cp : Nat} {xs : List Value} {Y : Mod} (h : Fresh B p w sv gv ev g n cp xs Y) : ReadsM w.drew (.agg #[sv, gv, .slice (some ⟨g, 0, none⟩) n cp, ev]) Y := ReadsM.sub (show Sub w w.drew from fun _ _ hv => hv) h.reads
theorem sameFn_refl (f : Fn) : sameFn f f = true := by unfold sameFn; rw [sameB_refl]; simp
theorem sameM_refl (m : Mod) : sameM m m = true := by
  unfold sameM
  rw [show sameFns m.funcs m.funcs = true from sameFns_true.2 ⟨rfl, fun i x y hx hy => by rw [hx] at hy; injection hy with hy; rw [← hy]; exact sameFn_refl x⟩]
  simp
theorem first_fn {w : World} {s g e : Value} {a : Option Addr} {n c : Nat} {m : Mod} (h : ReadsM w (.agg #[s, g, .slice a n c, e]) m) (hn : 0 < n) : ∃ f b off ba bl bc, a = some ⟨b, off, none⟩ ∧ w.cell? ⟨b, off + 4, none⟩ = some (.slice ba bl bc) ∧ m.funcs[0]? = some f ∧ ReadsBody w ba bl f.body := by
  obtain ⟨sv, gv, fv, ev, e1, h1, h2, h3, h4⟩ := h
  injection e1 with e1
  simp at e1
  obtain ⟨rfl, rfl, rfl, rfl⟩ := e1
  obtain ⟨b, off, f, lv, sv', bv, rfl, hf, ⟨x0, x1, x2, x3, x4⟩, k1, k2, ⟨ba, bl, bc, rfl, kn, k3⟩⟩ := h3.at hn
  exact ⟨f, b, off, ba, bl, bc, rfl, by simpa using x4, hf, k3⟩
theorem pos_fn {w : World} {s g e : Value} {a : Option Addr} {n c : Nat} {m : Mod} (h : ReadsM w (.agg #[s, g, .slice a n c, e]) m) (hp : 0 < m.funcs.length) : 0 < n := by
  obtain ⟨sv, gv, fv, ev, e1, h1, h2, h3, h4⟩ := h
  injection e1 with e1
  simp at e1
  obtain ⟨rfl, rfl, rfl, rfl⟩ := e1
  obtain ⟨a', c', e, _⟩ := h3.shape
  injection e with _ e _
  omega
theorem two_below {w w1 : World} {o1 o2 : Obj} (hb : Below ((w.alloc o1).alloc o2).heap.size ((w.alloc o1).alloc o2) w1) : Below w.heap.size w w1 :=
  (((Below.refl w.heap.size w).alloc (Nat.le_refl _) o1).alloc (by simp) o2).trans (hb.mono (by simp; omega))
set_option maxRecDepth 100000 in
set_option maxHeartbeats 4000000 in
theorem moduleEqual_walk (w : World) (g f e g' f' e' how : Nat) (aa aa' : Option Addr) (an ac an' ac' : Nat) (acts acts' : List (Nat × Nat × Nat × Nat)) (hg : g < 256) (hf : f < 256) (he : e < 256) (hg' : g' < 256) (hf' : f' < 256) (he' : e' < 256) (hhow : how < 256) (ha : ReadsActs w aa an acts) (ha' : ReadsActs w aa' an' acts') :
    Calls Try.prog 5 #[.agg #[.int .u8 g, .int .u8 f, .int .u8 e, .slice aa an ac], .agg #[.int .u8 g', .int .u8 f', .int .u8 e', .slice aa' an' ac'], .int .u8 how] w (YesE w) := by
  have HA := Lib.hid (And.intro ha ha')
  have han := ha.2.1
  have han' := ha'.2.1
  clear ha ha'
  go_enter Try.func5, Try.ntmps5
  go_wp2_with fail
  refine (awake_calls _).mono ?_
  rintro e1 w1 ⟨rfl, hb1⟩
  obtain ⟨q1, q2⟩ := two_blocks hb1
  obtain ⟨c1, f1, z1⟩ := blk3 q1
  obtain ⟨c2, f2, z2⟩ := blk3 q2
  have HB1 := Lib.hid (two_below hb1)
  have Q := Lib.hid (And.intro q1 q2)
  clear hb1 q1 q2
  go_wp2_with fail
  refine (make_calls _ g f e aa an ac acts [] (by simp) hg hf he (HA.out.1.sub (sub_below HB1.out))).mono ?_
  rintro e2 w2 ⟨sv, gv, A, n, cp, ev, xs, rfl, hn, hn1, hb2, ho, hfn, hs, hgl, hen⟩
  obtain ⟨sa, sc, rfl, i1⟩ := hs.shape
  obtain ⟨ga, gc, rfl, i2⟩ := hgl.shape
  obtain ⟨ea, ec, rfl, i3⟩ := hen.shape
  obtain ⟨gx, rfl, hfr⟩ := fresh_of (Nat.le_refl _) (Nat.le_refl _) hn hn1 ho hfn hs hgl hen
  have HFX := Lib.hid hfr
  have HB2 := Lib.hid (HB1.out.trans (hb2.mono HB1.out.size))
  have Q2 := Lib.hid (And.intro (blk_below Q.out.1 hb2) (blk_below Q.out.2 hb2))
  clear hfr hb2 ho hfn hs hgl hen hn hn1 c1 f1 z1 c2 f2 z2
  obtain ⟨c1, f1, z1⟩ := blk3 Q2.out.1
  obtain ⟨c2, f2, z2⟩ := blk3 Q2.out.2
  obtain ⟨X, hX⟩ : ∃ X, X = makeM ⟨g, f, e, acts⟩ := ⟨_, rfl⟩
  rw [← hX] at HFX i1 i2 i3 ⊢
  have HXM := Lib.hid hX
  clear hX
  go_wp2_with fail
  obtain ⟨V, hV⟩ : ∃ V, V = w2.alloc (.cells #[.slice sa X.strings.length sc, .slice ga X.globals.length gc, .slice (some ⟨gx, 0, none⟩) n cp, .slice ea X.entries.length ec] 32) := ⟨_, rfl⟩
  have hbV : Below w2.heap.size w2 V := by rw [hV]; exact (Below.refl _ _).alloc (Nat.le_refl _) _
  have hzV : w2.heap.size < V.heap.size := by rw [hV]; simp
  have hqV := heap_alloc_new w2 (.cells #[.slice sa X.strings.length sc, .slice ga X.globals.length gc, .slice (some ⟨gx, 0, none⟩) n cp, .slice ea X.entries.length ec] 32)
  rw [← hV] at hqV ⊢
  have HRX := Lib.hid ((HFX.out.below hbV).reads)
  have Q3 := Lib.hid (And.intro (And.intro (blk_below Q2.out.1 hbV) (blk_below Q2.out.2 hbV)) hqV)
  have HB3 := Lib.hid (HB2.out.trans (hbV.mono HB2.out.size))
  clear c1 f1 z1 c2 f2 z2 hV hbV hzV hqV
  obtain ⟨c1, f1, z1⟩ := blk3 Q3.out.1.1
  obtain ⟨c2, f2, z2⟩ := blk3 Q3.out.1.2
  obtain ⟨c3, f3, z3⟩ := blk3 Q3.out.2
  refine (make_calls _ g' f' e' aa' an' ac' acts' [] (by simp) hg' hf' he' (HA.out.2.sub (sub_below HB3.out))).mono ?_
  rintro e3 w3 ⟨sv, gv, A, n', cp', ev, xs', rfl, hn, hn1, hb2, ho, hfn, hs, hgl, hen⟩
  obtain ⟨sa', sc', rfl, i1'⟩ := hs.shape
  obtain ⟨ga', gc', rfl, i2'⟩ := hgl.shape
  obtain ⟨ea', ec', rfl, i3'⟩ := hen.shape
  obtain ⟨gy, rfl, hfr⟩ := fresh_of (Nat.le_refl _) (Nat.le_refl _) hn hn1 ho hfn hs hgl hen
  have HFY := Lib.hid hfr
  have HB4 := Lib.hid hb2
  have Q4 := Lib.hid (And.intro (And.intro (blk_below Q3.out.1.1 hb2) (blk_below Q3.out.1.2 hb2)) (blk_below Q3.out.2 hb2))
  clear hfr hb2 ho hfn hs hgl hen hn hn1 c1 f1 z1 c2 f2 z2 c3 f3 z3
  obtain ⟨c1, f1, z1⟩ := blk3 Q4.out.1.1
  obtain ⟨c2, f2, z2⟩ := blk3 Q4.out.1.2
  obtain ⟨c3, f3, z3⟩ := blk3 Q4.out.2
  obtain ⟨Y, hY⟩ : ∃ Y, Y = makeM ⟨g', f', e', acts'⟩ := ⟨_, rfl⟩
  rw [← hY] at HFY i1' i2' i3' ⊢
  have HYM := Lib.hid hY
  clear hY
  go_upto_if 32 with (fail)
  obtain ⟨M4, hM4⟩ : ∃ M4, M4 = w3.alloc (.cells #[.slice sa' Y.strings.length sc', .slice ga' Y.globals.length gc', .slice (some ⟨gy, 0, none⟩) n' cp', .slice ea' Y.entries.length ec'] 32) := ⟨_, rfl⟩
  have hbM : Below w3.heap.size w3 M4 := by rw [hM4]; exact (Below.refl _ _).alloc (Nat.le_refl _) _
  have hzM : w3.heap.size < M4.heap.size := by rw [hM4]; simp
  have hqM := heap_alloc_new w3 (.cells #[.slice sa' Y.strings.length sc', .slice ga' Y.globals.length gc', .slice (some ⟨gy, 0, none⟩) n' cp', .slice ea' Y.entries.length ec'] 32)
  rw [← hM4] at hqM ⊢
  have Q5 := Lib.hid (And.intro (And.intro (blk_below Q4.out.1.1 hbM) (blk_below Q4.out.1.2 hbM)) (And.intro (blk_below Q4.out.2 hbM) hqM))
  have HB5 := Lib.hid (HB4.out.trans (hbM.mono HB4.out.size))
  have HVW := Lib.hid HB4.out.size
  have HFY5 := Lib.hid (HFY.out.below hbM)
  have HZM := Lib.hid hzM
  clear c1 f1 z1 c2 f2 z2 c3 f3 z3 hM4 hbM hzM hqM
  go_cut [33] from 32 to 35 (fun s33 wx => ∃ (sa' ga' ea' : Option Addr) (sn' sc' gn' gc' gy n' cp' en' ec' : Nat) (xs' : List Value) (D : Dr), D.acts.length ≤ 60 ∧ sn' ≤ 1000 ∧ Hid (wx.heap[w3.heap.size]? = some (.cells #[.slice sa' sn' sc', .slice ga' gn' gc', .slice (some ⟨gy, 0, none⟩) n' cp', .slice ea' en' ec'] 32)) ∧
    Hid (Fresh V.heap.size w3.heap.size wx (.slice sa' sn' sc') (.slice ga' gn' gc') (.slice ea' en' ec') gy n' cp' xs' (makeM D)) ∧ Hid (Below V.heap.size V wx))
  case first =>
    by_cases hh : 0 < (how : Int) % 3
    · obtain ⟨c1, f1, z1⟩ := blk3 Q5.out.1.1
      obtain ⟨c2, f2, z2⟩ := blk3 Q5.out.2.2
      have h32 : decide (0 < (how : Int) % 3) = true := decide_eq_true hh
      go_wp2_with fail
      refine (make_calls M4 g f e aa an ac acts [w3.heap.size] (by have := HZM.out; simpa using this) hg hf he (HA.out.1.sub (sub_below (HB3.out.trans (HB5.out.mono HB3.out.size))))).mono ?_
      rintro e4 w5 ⟨sv, gv, A, n'', cp'', ev, xs'', rfl, hn, hn1, hb5, ho, hfn, hs, hgl, hen⟩
      obtain ⟨sa4, sc4, rfl, j1⟩ := hs.shape
      obtain ⟨ga4, gc4, rfl, j2⟩ := hgl.shape
      obtain ⟨ea4, ec4, rfl, j3⟩ := hen.shape
      obtain ⟨gz, rfl, hgz, hfr⟩ := fresh_of4 HB5.out.size HZM.out hn hn1 ho hfn hs hgl hen
      have HF6 := Lib.hid hfr
      have HB6 := Lib.hid (HB5.out.trans (hb5.mono HB5.out.size))
      have HQ6 := Lib.hid (blk_below Q5.out.2.2 hb5)
      clear hfr hb5 ho hfn hs hgl hen hn hn1 c1 f1 z1 c2 f2 z2 hgz
      obtain ⟨c2, f2, z2⟩ := blk3 HQ6.out
      obtain ⟨Z, hZ⟩ : ∃ Z, Z = makeM ⟨g, f, e, acts⟩ := ⟨_, rfl⟩
      rw [← hZ] at HF6 j1 j2 j3 ⊢
      have HZ := Lib.hid hZ
      clear hZ
      go_wp2_with fail
      go_meet
      case rel => 
        refine ⟨sa4, ga4, ea4, Z.strings.length, sc4, Z.globals.length, gc4, gz, n'', cp'', Z.entries.length, ec4, xs'', ⟨g, f, e, acts⟩, (by show acts.length ≤ 60; rw [HA.out.1.1]; exact han), j1, ?_, ?_, ?_⟩
        · exact set4_blk HQ6.out _ _ _ _
        · rw [← HZ.out]; exact HF6.out _ _ _ _
        · exact set4_below HB6.out (HB4.out.size) _ _ _ _
    · have h32 : decide (0 < (how : Int) % 3) = false := decide_eq_false hh
      go_wp2_with fail
      go_meet
      case rel =>
        exact ⟨sa', ga', ea', _, _, _, _, _, _, _, _, _, _, ⟨g', f', e', acts'⟩, (by show acts'.length ≤ 60; rw [HA.out.2.1]; exact han'), i1', Q5.out.2.2, by rw [← HYM.out]; exact HFY5.out, HB5.out⟩
  case rest =>
    obtain ⟨sa1, ga1, ea1, sn1, sc1, gn1, gc1, gz, nz, cpz, en1, ec1, xz, D, hD60, hsn1, HQz, HFz, HBz⟩ := hcut
    clear Q5 HB5 HFY5 HZM HYM HFY i1' i2' i3' Q4 HB4
    have hpz := HFz.out.pos
    obtain ⟨fz, rz, hfz, hl0, hnm0, hnm1, hpr, hs0⟩ := makeM_zero D
    obtain ⟨la, lc, ka, kc, ba, bl, bc, ys, ex, k1, k2, k3, k4, k5, ky, ⟨x0, x1, x2, x3, x4⟩, xf, xz0⟩ := HFz.out.five hfz
    have hst := HFz.out.strs.shape
    obtain ⟨sa1', sc1', hst1, hst2⟩ := hst
    have hsn : (makeM D).strings.length = sn1 := by injection hst1 with _ h _; exact h.symm
    rw [hsn] at hnm1 hs0
    have hbl60 : bl ≤ 60 := by rw [← k4.1]; exact (makeM_flat D hD60 fz (by rw [hfz]; exact List.mem_cons_self)).2
    clear hD60
    have P := Lib.hid (And.intro hfz (And.intro ex (And.intro (And.intro k1 k2) (And.intro k4 ky))))
    have HSN := Lib.hid hsn
    clear hfz ex k1 k2 k4 ky hst1 hst2 hsn
    go_upto_if 37 with (fail)
    go_cut [9] from 35 to 106 (fun s9 wy => ∃ (sa' ga' ea' fa' : Option Addr) (sn' sc' gn' gc' fn' fc' en' ec' : Nat) (Y' : Mod), 0 < Y'.funcs.length ∧ Hid (wy.heap[w3.heap.size]? = some (.cells #[.slice sa' sn' sc', .slice ga' gn' gc', .slice fa' fn' fc', .slice ea' en' ec'] 32)) ∧
      Hid (ReadsM wy (.agg #[.slice sa' sn' sc', .slice ga' gn' gc', .slice fa' fn' fc', .slice ea' en' ec']) Y') ∧ Hid (Below V.heap.size V wy))
    case first =>
      by_cases h2 : (how : Int) % 3 = 2
      · have h37 : ((how : Int) % 3 == 2) = true := by rw [beq_iff_eq]; exact h2
        obtain ⟨c8, f8, z8⟩ := blk3 HQz.out
        have hnn : ¬ nz = 0 := by omega
        have HVP := Lib.hid (show V.heap.size ≤ w3.heap.size from HVW.out)
        have HNE := Lib.hid (show w3.heap.size ≠ gz from fun e => own_ne HFz.out.row HQz.out (by decide) (by rw [e]; rfl))
        clear h2
        by_cases m0 : (how : Int) / 3 % 6 = 0
        · have b0 : ((how : Int) / 3 % 6 == 0) = true := by rw [beq_iff_eq]; exact m0
          clear m0
          go_wp2_with fail
          go_meet
          case rel =>
            refine ⟨sa1, ga1, ea1, some ⟨gz, 0, none⟩, sn1, sc1, gn1, gc1, nz, cpz, en1, ec1, { makeM D with funcs := { fz with name := fz.name + 1 } :: rz }, Nat.succ_pos _, ?_, ?_, ?_⟩
            · exact blk_far HQz.out (HNE.out) _
            · exact (HFz.out.set (f' := { fz with name := fz.name + 1 }) P.out.1 P.out.2.1 rfl P.out.2.2.2.2 0 (.int .i64 (fz.name + 1)) (by decide) ⟨_, _, _, rfl, P.out.2.2.1.1, P.out.2.2.1.2, _, _, _, rfl, k3, P.out.2.2.2.1⟩).reads
            · exact HBz.out.setCell HFz.out.base _
        · have b0 : ((how : Int) / 3 % 6 == 0) = false := by rw [beq_eq_false_iff_ne]; exact m0
          clear m0
          by_cases m1 : (how : Int) / 3 % 6 = 1
          · have b1 : ((how : Int) / 3 % 6 == 1) = true := by rw [beq_iff_eq]; exact m1
            clear m1
            go_wp2_with fail
            go_meet
            case rel =>
              refine ⟨sa1, ga1, ea1, some ⟨gz, 0, none⟩, sn1, sc1, gn1, gc1, nz, cpz, en1, ec1, { makeM D with funcs := { fz with params := fz.params + 1 } :: rz }, Nat.succ_pos _, ?_, ?_, ?_⟩
              · exact blk_far HQz.out (HNE.out) _
              · rw [show (fz.params : Int) + 1 = ((fz.params + 1 : Nat) : Int) by omega]
                exact (HFz.out.set (f' := { fz with params := fz.params + 1 }) P.out.1 P.out.2.1 rfl P.out.2.2.2.2 1 (.int .i64 ((fz.params + 1 : Nat) : Int)) (by decide) ⟨_, _, _, rfl, P.out.2.2.1.1, P.out.2.2.1.2, _, _, _, rfl, k3, P.out.2.2.2.1⟩).reads
              · exact HBz.out.setCell HFz.out.base _
          · have b1 : ((how : Int) / 3 % 6 == 1) = false := by rw [beq_eq_false_iff_ne]; exact m1
            clear m1
            by_cases m2 : (how : Int) / 3 % 6 = 2
            · have b2 : ((how : Int) / 3 % 6 == 2) = true := by rw [beq_iff_eq]; exact m2
              clear m2
              obtain ⟨lb, lo, rfl, htl, hts⟩ := tail_ints (P.out.2.2.1.1.sub (sans_sub _ _)) hl0
              have HTL := Lib.hid (And.intro htl hts)
              clear htl hts
              have hcap := P.out.2.2.1.1.cap
              obtain ⟨L, hLv⟩ : ∃ L, L = fz.locals.length := ⟨_, rfl⟩
              have hLN : ∀ m, m = L - 1 → (ints fz.locals.tail).length = m * 1 := by
                intro m hm
                unfold ints
                rw [List.length_map, HTL.out.1, hm, Nat.mul_one, hLv]
              rw [← hLv] at hl0 k5 hcap x2
              have HLN := Lib.hid hLN
              have HLV := Lib.hid hLv
              clear hLN
              by_cases hL1 : L = 1
              · have HT : Hid (fz.locals.tail = []) := Lib.hid (List.eq_nil_of_length_eq_zero (by rw [HTL.out.1, ← hLv, hL1]))
                subst hL1
                clear hLv
                go_wp2_with fail
                all_goals
                  go_meet
                  case rel =>
                    refine ⟨sa1, ga1, ea1, some ⟨gz, 0, none⟩, sn1, sc1, gn1, gc1, nz, cpz, en1, ec1, { makeM D with funcs := { fz with locals := fz.locals.tail } :: rz }, Nat.succ_pos _, ?_, ?_, ?_⟩
                    · exact blk_far HQz.out (HNE.out) _
                    · exact (HFz.out.set (f' := { fz with locals := fz.locals.tail }) P.out.1 P.out.2.1 rfl P.out.2.2.2.2 2 (.slice none 0 0) (by decide) ⟨_, _, _, rfl, (by rw [HT.out]; exact readsI_nil _), P.out.2.2.1.2, _, _, _, rfl, k3, P.out.2.2.2.1⟩).reads
                    · exact HBz.out.setCell HFz.out.base _
              · clear hLv
                have hlc : ¬ lc = 1 := by omega
                go_wp2_with (at_builtin; refine append_row (B := wc.heap.size) (w0 := wc) rfl _ _ 29 3 (.int .i64 0) 1 8 rfl Try.underlying29 info3 rfl (by decide) (.slice none 0 0) 0 [] rfl (World.ownsRow_nil _ _ _ _) ⟨lb, lo + 1, none⟩ (L - 1) _ (ints fz.locals.tail) rfl (HLN.out _ rfl) (HTL.out.2) (ints_one _) (Nat.le_refl _) (Below.refl _ _) (by omega) (by omega) ?_; intro v1 w9 hown hb9 hg9; obtain ⟨A1, cp1, rfl, _, _⟩ := own_shape hown; have HO9 := Lib.hid hown; have HB9 := Lib.hid hb9; have hz9 := (xcells hb9 xz0).1; have hf9 := (xcells hb9 xz0).2 xf; have y2 := (hb9.cell (p := ⟨gz, 2, none⟩) xz0).trans x2; clear hown hb9 hg9; simp only [Nat.zero_add, List.nil_append] at HO9)
                go_meet
                case rel =>
                  have hF9 := HFz.out.below HB9.out
                  have hs9 : Sub (sans wc [gz, w3.heap.size]) (sans w9 [gz, w3.heap.size]) := sub_sans_below HB9.out
                  have hrd : ReadsI (sans w9 [gz, w3.heap.size]) (.slice A1 (L - 1) cp1) fz.locals.tail := ReadsI.own HO9.out (by rw [HTL.out.1, ← HLV.out]) (by omega) (fun b hb g hg e => by
                    have := (World.ownsRow.lt HO9.out g (by rw [hg]; rfl)).1
                    simp at hb
                    omega)
                  refine ⟨sa1, ga1, ea1, some ⟨gz, 0, none⟩, sn1, sc1, gn1, gc1, nz, cpz, en1, ec1, { makeM D with funcs := { fz with locals := fz.locals.tail } :: rz }, Nat.succ_pos _, ?_, ?_, ?_⟩
                  · exact blk_far (blk_below HQz.out HB9.out) (HNE.out) _
                  · exact (hF9.set (f' := { fz with locals := fz.locals.tail }) P.out.1 P.out.2.1 rfl (P.out.2.2.2.2.sub hs9) 2 (.slice A1 (L - 1) cp1) (by decide) ⟨_, _, _, rfl, hrd, P.out.2.2.1.2.sub hs9, _, _, _, rfl, k3, P.out.2.2.2.1.sub hs9⟩).reads
                  · exact (HBz.out.trans (HB9.out.mono HBz.out.size)).setCell HFz.out.base _
            · have b2 : ((how : Int) / 3 % 6 == 2) = false := by rw [beq_eq_false_iff_ne]; exact m2
              clear m2
              by_cases m4 : (how : Int) / 3 % 6 = 4
              · have b4 : ((how : Int) / 3 % 6 == 4) = true := by rw [beq_iff_eq]; exact m4
                have b3 : ((how : Int) / 3 % 6 == 3) = false := by rw [beq_eq_false_iff_ne]; omega
                clear m4
                obtain ⟨lb, lo, rfl, htl, hts⟩ := tail_strs (HFz.out.strs.sub (sans_sub _ _)) hs0
                have HTL := Lib.hid (And.intro htl hts)
                clear htl hts
                have hcap := HFz.out.strs.cap
                have hLN : ∀ m, m = sn1 - 1 → (strs (makeM D).strings.tail).length = m * 1 := by
                  intro m hm
                  unfold strs
                  rw [List.length_map, HTL.out.1, hm, Nat.mul_one]
                have HLN := Lib.hid hLN
                clear hLN
                by_cases hL1 : sn1 = 1
                · have HT : Hid ((makeM D).strings.tail = []) := Lib.hid (List.eq_nil_of_length_eq_zero (by rw [HTL.out.1, hL1]))
                  subst hL1
                  go_wp2_with fail
                  all_goals
                    go_meet
                    case rel =>
                      refine ⟨none, ga1, ea1, some ⟨gz, 0, none⟩, 0, 0, gn1, gc1, nz, cpz, en1, ec1, { makeM D with strings := (makeM D).strings.tail }, by rw [P.out.1]; exact Nat.succ_pos _, ?_, ?_, ?_⟩
                      · exact blk_set HQz.out 0 _
                      · exact ((HFz.out.box HNE.out 0 (.slice none 0 0)).reads' (S := (makeM D).strings.tail) (by rw [HT.out]; exact readsS_nil _))
                      · exact HBz.out.setCell HVP.out _
                · have hlc : ¬ sc1 = 1 := by omega
                  go_wp2_with (at_builtin; refine append_row (B := wc.heap.size) (w0 := wc) rfl _ _ 28 9 (.string ⟨#[]⟩) 1 16 rfl Try.underlying28 info9 rfl (by decide) (.slice none 0 0) 0 [] rfl (World.ownsRow_nil _ _ _ _) ⟨lb, lo + 1, none⟩ (sn1 - 1) _ (strs (makeM D).strings.tail) rfl (HLN.out _ rfl) (HTL.out.2) (strs_one _) (Nat.le_refl _) (Below.refl _ _) (by omega) (by omega) ?_; intro v1 w9 hown hb9 hg9; obtain ⟨A1, cp1, rfl, _, _⟩ := own_shape hown; have HO9 := Lib.hid hown; have HB9 := Lib.hid hb9; have hq9 := blk3 (blk_below HQz.out hb9); obtain ⟨c9, f9, z9⟩ := hq9; clear hown hb9 hg9; simp only [Nat.zero_add, List.nil_append] at HO9)
                  go_meet
                  case rel =>
                    have hF9 := HFz.out.below HB9.out
                    have hrd : ReadsS (sans w9 [w3.heap.size]) (.slice A1 (sn1 - 1) cp1) (makeM D).strings.tail := ReadsS.own HO9.out HTL.out.1 (by omega) (fun b hb g hg e => by
                      have := (World.ownsRow.lt HO9.out g (by rw [hg]; rfl)).1
                      simp at hb
                      omega)
                    have hrd2 : ReadsS (w9.setCell ⟨w3.heap.size, 0, none⟩ (.slice A1 (sn1 - 1) cp1)) (.slice A1 (sn1 - 1) cp1) (makeM D).strings.tail := (hrd.sub (sub_store (p := ⟨w3.heap.size, 0, none⟩) (by simp))).sub (sans_sub _ _)
                    refine ⟨A1, ga1, ea1, some ⟨gz, 0, none⟩, sn1 - 1, cp1, gn1, gc1, nz, cpz, en1, ec1, { makeM D with strings := (makeM D).strings.tail }, by rw [P.out.1]; exact Nat.succ_pos _, ?_, ?_, ?_⟩
                    · exact blk_set (blk_below HQz.out HB9.out) 0 _
                    · exact (hF9.box HNE.out 0 _).reads' hrd2
                    · exact (HBz.out.trans (HB9.out.mono HBz.out.size)).setCell HVP.out _
              · have b4 : ((how : Int) / 3 % 6 == 4) = false := by rw [beq_eq_false_iff_ne]; exact m4
                clear m4
                by_cases m3 : (how : Int) / 3 % 6 = 3
                · have b3 : ((how : Int) / 3 % 6 == 3) = true := by rw [beq_iff_eq]; exact m3
                  clear m3
                  by_cases hb0 : bl = 0
                  · subst hb0
                    have HBN : Hid (fz.body = []) := Lib.hid (List.eq_nil_of_length_eq_zero P.out.2.2.2.1.1)
                    have HBA : Hid (∀ o, Below wc.heap.size wc (wc.alloc o)) := Lib.hid (fun o => (Below.refl _ _).alloc (Nat.le_refl _) o)
                    go_wp2_with (at_builtin; refine append_empty rfl _ _ 22 46 _ 7 88 rfl Try.underlying22 info46 wc.heap.size _ 1 _ rfl (own_one wc 46 7 #[.int .u8 6, .int .u8 0, .int .i64 0, .int .u8 0, .int .i64 0, .slice none 0 0, .slice none 0 0] rfl) _ _ rfl ?_)
                    go_meet
                    case rel =>
                      have HB9 := Lib.hid (HBA.out (.cells #[.int .u8 6, .int .u8 0, .int .i64 0, .int .u8 0, .int .i64 0, .slice none 0 0, .slice none 0 0] 46))
                      have hF9 := HFz.out.below HB9.out
                      have hs9 : Sub (sans wc [gz, w3.heap.size]) (sans (wc.alloc (.cells #[.int .u8 6, .int .u8 0, .int .i64 0, .int .u8 0, .int .i64 0, .slice none 0 0, .slice none 0 0] 46)) [gz, w3.heap.size]) := sub_sans_below HB9.out
                      have hrd2 : ReadsB (sans (wc.alloc (.cells #[.int .u8 6, .int .u8 0, .int .i64 0, .int .u8 0, .int .i64 0, .slice none 0 0, .slice none 0 0] 46)) [gz, w3.heap.size]) (.slice (some ⟨wc.heap.size, 0, none⟩) 1 1) [.mk 6 0 0 0 0 [] []] := ReadsB.own (own_one wc 46 7 #[.int .u8 6, .int .u8 0, .int .i64 0, .int .u8 0, .int .i64 0, .slice none 0 0, .slice none 0 0] rfl) (StsAt.cons (ret_cells _) ⟨rfl, fun i s hi => by simp at hi⟩) rfl (by decide) (fun b hb => by
                        simp at hb
                        omega)
                      rw [← World.setCell_alloc_past _ _ _ _ xz0]
                      refine ⟨sa1, ga1, ea1, some ⟨gz, 0, none⟩, sn1, sc1, gn1, gc1, nz, cpz, en1, ec1, { makeM D with funcs := { fz with body := [.mk 6 0 0 0 0 [] []] } :: rz }, Nat.succ_pos _, ?_, ?_, ?_⟩
                      · exact blk_far (blk_below HQz.out HB9.out) (HNE.out) _
                      · exact (hF9.set (f' := { fz with body := [.mk 6 0 0 0 0 [] []] }) P.out.1 P.out.2.1 rfl (P.out.2.2.2.2.sub hs9) 4 (.slice (some ⟨wc.heap.size, 0, none⟩) 1 1) (by decide) ⟨_, _, _, rfl, P.out.2.2.1.1.sub hs9, P.out.2.2.1.2.sub hs9, hrd2⟩).reads
                      · exact (HBz.out.trans (HB9.out.mono HBz.out.size)).setCell HFz.out.base _
                  · obtain ⟨bb, bo, nx, rfl, nst, nln, ncl, n1⟩ := body_list (P.out.2.2.2.1) (by omega)
                    have NX := Lib.hid (And.intro nst (And.intro nln (And.intro ncl n1)))
                    clear nst nln ncl n1
                    have HNC : Hid (∀ o, ∀ j u, nx[j]? = some u → (wc.alloc o).cell? ((⟨bb, bo, none⟩ : Addr).add j) = some u) := Lib.hid (fun o j u hu => sub_below ((Below.refl _ _).alloc (Nat.le_refl _) o) _ _ (sans_sub _ _ _ _ (NX.out.2.2.1 j u hu)))
                    have HBA : Hid (∀ o, Below wc.heap.size wc (wc.alloc o)) := Lib.hid (fun o => (Below.refl _ _).alloc (Nat.le_refl _) o)
                    go_wp2_with (at_builtin; refine append_row (B := wc.heap.size) (w0 := wc) rfl _ _ 22 46 _ 7 88 rfl Try.underlying22 info46 rfl (by decide) (.slice (some ⟨wc.heap.size, 0, none⟩) 1 1) 1 _ rfl (own_one wc 46 7 #[.int .u8 6, .int .u8 0, .int .i64 0, .int .u8 0, .int .i64 0, .slice none 0 0, .slice none 0 0] rfl) ⟨bb, bo, none⟩ bl bc nx rfl NX.out.2.1 (HNC.out _) NX.out.2.2.2 (by simp) (HBA.out _) (by omega) (by omega) ?_; intro v1 w9 hown hb9 hg9; obtain ⟨A1, cp1, rfl, _, _⟩ := own_shape hown; have HO9 := Lib.hid hown; have HB9 := Lib.hid hb9; have hz9 := (xcells hb9 xz0).1; have hf9 := (xcells hb9 xz0).2 xf; have y4 := (hb9.cell (p := ⟨gz, 4, none⟩) xz0).trans x4; clear hown hb9 hg9)
                    go_meet
                    case rel =>
                      have hF9 := HFz.out.below HB9.out
                      have hs9 : Sub (sans wc [gz, w3.heap.size]) (sans w9 [gz, w3.heap.size]) := sub_sans_below HB9.out
                      have hrd : ReadsB (sans w9 [gz, w3.heap.size]) (.slice A1 (1 + bl) cp1) (.mk 6 0 0 0 0 [] [] :: fz.body) := ReadsB.own HO9.out (StsAt.cons (ret_cells _) (NX.out.1.sub hs9)) (by rw [List.length_cons, P.out.2.2.2.1.1]; omega) (by omega) (fun b hb => by
                        simp at hb
                        omega)
                      refine ⟨sa1, ga1, ea1, some ⟨gz, 0, none⟩, sn1, sc1, gn1, gc1, nz, cpz, en1, ec1, { makeM D with funcs := { fz with body := .mk 6 0 0 0 0 [] [] :: fz.body } :: rz }, Nat.succ_pos _, ?_, ?_, ?_⟩
                      · exact blk_far (blk_below HQz.out HB9.out) (HNE.out) _
                      · exact (hF9.set (f' := { fz with body := .mk 6 0 0 0 0 [] [] :: fz.body }) P.out.1 P.out.2.1 rfl (P.out.2.2.2.2.sub hs9) 4 (.slice A1 (1 + bl) cp1) (by decide) ⟨_, _, _, rfl, P.out.2.2.1.1.sub hs9, P.out.2.2.1.2.sub hs9, hrd⟩).reads
                      · exact (HBz.out.trans (HB9.out.mono HBz.out.size)).setCell HFz.out.base _
                · have b3 : ((how : Int) / 3 % 6 == 3) = false := by rw [beq_eq_false_iff_ne]; exact m3
                  clear m3
                  by_cases hb0 : bl = 0
                  · subst hb0
                    have HBN : Hid (fz.body = []) := Lib.hid (List.eq_nil_of_length_eq_zero P.out.2.2.2.1.1)
                    go_upto_region 10 with (fail)
                    refine wp_region_HL (S := (fun w' => w'.cell? ⟨gz, 4, none⟩ = some (.slice ba 0 bc))) 14 (by kernel_rfl) (by kernel_rfl) (by kernel_rfl) (by kernel_rfl) (by decide) x4 (fun hHeld => ?_)
                    refine HL.take_ (i := 0) (oi := { dst := some 44, op := .move (.tmp 9), type := 57, pos := "law.go:86", after := #[], guard := none }) (v := ?_) rfl (by decide) (by kernel_rfl) (by kernel_rfl) (fun _ _ _ h => h) (Or.inl ⟨by rfl, ?_⟩) (by assumption) ?_
                    rotate_left
                    · intro w hSw
                      (try dsimp only at hSw)
                      have h1 := hSw; (go_simp; try (with_reducible rfl))
                    try simp only [Act.put, List.setIfInBounds_toArray, List.set_cons_zero, List.set_cons_succ]
                    refine HL.take_ (i := 1) (oi := { dst := some 45, op := .move (.tmp 9), type := 57, pos := "law.go:86", after := #[], guard := none }) (v := ?_) rfl (by decide) (by kernel_rfl) (by kernel_rfl) (fun _ _ _ h => h) (Or.inl ⟨by rfl, ?_⟩) (by assumption) ?_
                    rotate_left
                    · intro w hSw
                      (try dsimp only at hSw)
                      have h1 := hSw; (go_simp; try (with_reducible rfl))
                    try simp only [Act.put, List.setIfInBounds_toArray, List.set_cons_zero, List.set_cons_succ]
                    refine HL.take_ (i := 2) (oi := { dst := some 46, op := .nilCheck (.tmp 45), type := 0, pos := "law.go:86", after := #[{ on := 1, ground := .data }], guard := none }) (v := ?_) rfl (by decide) (by kernel_rfl) (by kernel_rfl) (fun _ _ _ h => h) (Or.inl ⟨by rfl, ?_⟩) (by assumption) ?_
                    rotate_left
                    · intro w hSw
                      (try dsimp only at hSw)
                      have h1 := hSw; (go_simp; try (with_reducible rfl))
                    try simp only [Act.put, List.setIfInBounds_toArray, List.set_cons_zero, List.set_cons_succ]
                    refine HL.take_ (i := 3) (oi := { dst := some 47, op := .fieldAddr 35 (.tmp 46) 4, type := 0, pos := "law.go:86", after := #[{ on := 2, ground := .data }], guard := none }) (v := ?_) rfl (by decide) (by kernel_rfl) (by kernel_rfl) (fun _ _ _ h => h) (Or.inl ⟨by rfl, ?_⟩) (by assumption) ?_
                    rotate_left
                    · intro w hSw
                      (try dsimp only at hSw)
                      have h1 := hSw; (go_simp; try (with_reducible rfl))
                    try simp only [Act.put, List.setIfInBounds_toArray, List.set_cons_zero, List.set_cons_succ]
                    refine HL.take_ (i := 4) (oi := { dst := some 48, op := .load 22 (.tmp 47), type := 22, pos := "law.go:86", after := #[{ on := 3, ground := .data }], guard := none }) (v := ?_) rfl (by decide) (by kernel_rfl) (by kernel_rfl) (fun _ _ _ h => h) (Or.inl ⟨by rfl, ?_⟩) (by assumption) ?_
                    rotate_left
                    · intro w hSw
                      (try dsimp only at hSw)
                      have h1 := hSw; (go_simp; try (with_reducible rfl))
                    try simp only [Act.put, List.setIfInBounds_toArray, List.set_cons_zero, List.set_cons_succ]
                    refine HL.take_ (i := 5) (oi := { dst := some 49, op := .build 46 #[(0, .const (.int .u8 7)), (4, .tmp 48)], type := 46, pos := "law.go:86", after := #[{ on := 4, ground := .data }], guard := none }) (v := ?_) rfl (by decide) (by kernel_rfl) (by kernel_rfl) (fun _ _ _ h => h) (Or.inl ⟨by rfl, ?_⟩) (by assumption) ?_
                    rotate_left
                    · intro w hSw
                      (try dsimp only at hSw)
                      have h1 := hSw; (go_simp; try (with_reducible rfl))
                    try simp only [Act.put, List.setIfInBounds_toArray, List.set_cons_zero, List.set_cons_succ]
                    refine HL.take_ (i := 7) (oi := { dst := some 51, op := .move (.tmp 9), type := 57, pos := "law.go:86", after := #[], guard := none }) (v := ?_) rfl (by decide) (by kernel_rfl) (by kernel_rfl) (fun _ _ _ h => h) (Or.inl ⟨by rfl, ?_⟩) (by assumption) ?_
                    rotate_left
                    · intro w hSw
                      (try dsimp only at hSw)
                      have h1 := hSw; (go_simp; try (with_reducible rfl))
                    try simp only [Act.put, List.setIfInBounds_toArray, List.set_cons_zero, List.set_cons_succ]
                    refine HL.take_ (i := 8) (oi := { dst := some 52, op := .nilCheck (.tmp 51), type := 0, pos := "law.go:86", after := #[{ on := 7, ground := .data }], guard := none }) (v := ?_) rfl (by decide) (by kernel_rfl) (by kernel_rfl) (fun _ _ _ h => h) (Or.inl ⟨by rfl, ?_⟩) (by assumption) ?_
                    rotate_left
                    · intro w hSw
                      (try dsimp only at hSw)
                      have h1 := hSw; (go_simp; try (with_reducible rfl))
                    try simp only [Act.put, List.setIfInBounds_toArray, List.set_cons_zero, List.set_cons_succ]
                    refine HL.take_ (i := 9) (oi := { dst := some 53, op := .fieldAddr 35 (.tmp 52) 4, type := 0, pos := "law.go:86", after := #[{ on := 8, ground := .data }], guard := none }) (v := ?_) rfl (by decide) (by kernel_rfl) (by kernel_rfl) (fun _ _ _ h => h) (Or.inl ⟨by rfl, ?_⟩) (by assumption) ?_
                    rotate_left
                    · intro w hSw
                      (try dsimp only at hSw)
                      have h1 := hSw; (go_simp; try (with_reducible rfl))
                    try simp only [Act.put, List.setIfInBounds_toArray, List.set_cons_zero, List.set_cons_succ]
                    refine HL.take_ (i := 10) (oi := { dst := some 54, op := .load 22 (.tmp 53), type := 22, pos := "law.go:86", after := #[{ on := 9, ground := .data }], guard := none }) (v := ?_) rfl (by decide) (by kernel_rfl) (by kernel_rfl) (fun _ _ _ h => h) (Or.inl ⟨by rfl, ?_⟩) (by assumption) ?_
                    rotate_left
                    · intro w hSw
                      (try dsimp only at hSw)
                      have h1 := hSw; (go_simp; try (with_reducible rfl))
                    try simp only [Act.put, List.setIfInBounds_toArray, List.set_cons_zero, List.set_cons_succ]
                    refine HL.step_ (i := 6) (o := { dst := some 50, op := .buildSlice 22 1 #[(0, .tmp 49)], type := 22, pos := "law.go:86", after := #[{ on := 5, ground := .data }], guard := none }) rfl (by decide) (by kernel_rfl) (fun K hK => ?_)
                    go_simp
                    have hb8 : Below wc.heap.size wc (wc.alloc (.cells #[.int .u8 7, .int .u8 0, .int .i64 0, .int .u8 0, .int .i64 0, .slice none 0 0, .slice ba 0 bc] 46)) := (Below.refl _ _).alloc (Nat.le_refl _) _
                    have y8 := (hb8.cell (p := ⟨gz, 4, none⟩) xz0).trans x4
                    refine hK.out _ _ y8 (fun hHeld => ?_)
                    clear hK K
                    try simp only [Act.put, List.setIfInBounds_toArray, List.set_cons_zero, List.set_cons_succ]
                    refine HL.step_ (i := 11) (o := { dst := some 55, op := .call { callee := .builtin .append, args := #[.tmp 50, .tmp 54], argTypes := #[22, 22] }, type := 22, pos := "law.go:86", after := #[{ on := 6, ground := .data }, { on := 10, ground := .data }], guard := none }) rfl (by decide) (by kernel_rfl) (fun K hK => ?_)
                    rw [if_pos (by rfl)]
                    refine append_empty_step _ _ 22 46 _ 7 88 rfl Try.underlying22 info46 wc.heap.size (.slice (some ⟨wc.heap.size, 0, none⟩) 1 1) 1 _ rfl (own_drew (own_one wc 46 7 #[.int .u8 7, .int .u8 0, .int .i64 0, .int .u8 0, .int .i64 0, .slice none 0 0, .slice ba 0 bc] rfl)) _ _ rfl ?_
                    refine hK.out _ _ y8 (fun hHeld => ?_)
                    clear hK K
                    try simp only [Act.put, List.setIfInBounds_toArray, List.set_cons_zero, List.set_cons_succ]
                    refine HL.take_ (i := 12) (oi := { dst := some 56, op := .nilCheck (.tmp 44), type := 0, pos := "law.go:86", after := #[{ on := 0, ground := .data }, { on := 0, ground := .phase }, { on := 1, ground := .phase }, { on := 2, ground := .phase }, { on := 3, ground := .phase }, { on := 4, ground := .phase }, { on := 5, ground := .phase }, { on := 6, ground := .phase }, { on := 7, ground := .phase }, { on := 8, ground := .phase }, { on := 9, ground := .phase }, { on := 10, ground := .phase }, { on := 11, ground := .phase }], guard := none }) (v := ?_) rfl (by decide) (by kernel_rfl) (by kernel_rfl) (fun _ _ _ h => h) (Or.inl ⟨by rfl, ?_⟩) (by assumption) ?_
                    rotate_left
                    · intro w hSw
                      (try dsimp only at hSw)
                      have h1 := hSw; (go_simp; try (with_reducible rfl))
                    try simp only [Act.put, List.setIfInBounds_toArray, List.set_cons_zero, List.set_cons_succ]
                    refine HL.take_ (i := 13) (oi := { dst := some 57, op := .fieldAddr 35 (.tmp 56) 4, type := 0, pos := "law.go:86", after := #[{ on := 12, ground := .data }, { on := 0, ground := .phase }, { on := 1, ground := .phase }, { on := 2, ground := .phase }, { on := 3, ground := .phase }, { on := 4, ground := .phase }, { on := 5, ground := .phase }, { on := 6, ground := .phase }, { on := 7, ground := .phase }, { on := 8, ground := .phase }, { on := 9, ground := .phase }, { on := 10, ground := .phase }, { on := 11, ground := .phase }], guard := none }) (v := ?_) rfl (by decide) (by kernel_rfl) (by kernel_rfl) (fun _ _ _ h => h) (Or.inl ⟨by rfl, ?_⟩) (by assumption) ?_
                    rotate_left
                    · intro w hSw
                      (try dsimp only at hSw)
                      have h1 := hSw; (go_simp; try (with_reducible rfl))
                    try simp only [Act.put, List.setIfInBounds_toArray, List.set_cons_zero, List.set_cons_succ]
                    refine HL.done_ (by kernel_rfl) ?_
                    simp only [List.drop_succ_cons, List.drop_zero]
                    clear hHeld
                    go_wp2_with fail
                    go_meet
                    case rel =>
                      have HB9 := Lib.hid hb8
                      have hF9 := HFz.out.below HB9.out
                      have hs9 : Sub (sans wc [gz, w3.heap.size]) (sans (wc.alloc (.cells #[.int .u8 7, .int .u8 0, .int .i64 0, .int .u8 0, .int .i64 0, .slice none 0 0, .slice ba 0 bc] 46)) [gz, w3.heap.size]) := sub_sans_below HB9.out
                      have hrd2 : ReadsB (sans (wc.alloc (.cells #[.int .u8 7, .int .u8 0, .int .i64 0, .int .u8 0, .int .i64 0, .slice none 0 0, .slice ba 0 bc] 46)) [gz, w3.heap.size]) (.slice (some ⟨wc.heap.size, 0, none⟩) 1 1) [.mk 7 0 0 0 0 [] fz.body] := ReadsB.own (own_one wc 46 7 #[.int .u8 7, .int .u8 0, .int .i64 0, .int .u8 0, .int .i64 0, .slice none 0 0, .slice ba 0 bc] rfl) (StsAt.cons (blk_cells (P.out.2.2.2.1.sub hs9)) ⟨rfl, fun i s hi => by simp at hi⟩) rfl (by decide) (fun b hb => by
                        simp at hb
                        omega)
                      rw [← World.setCell_alloc_past _ _ _ _ xz0]
                      refine ⟨sa1, ga1, ea1, some ⟨gz, 0, none⟩, sn1, sc1, gn1, gc1, nz, cpz, en1, ec1, { makeM D with funcs := { fz with body := [.mk 7 0 0 0 0 [] fz.body] } :: rz }, Nat.succ_pos _, ?_, ?_, ?_⟩
                      · exact blk_far (blk_below HQz.out HB9.out) (HNE.out) _
                      · exact (hF9.set (f' := { fz with body := [.mk 7 0 0 0 0 [] fz.body] }) P.out.1 P.out.2.1 rfl (P.out.2.2.2.2.sub hs9) 4 (.slice (some ⟨wc.heap.size, 0, none⟩) 1 1) (by decide) ⟨_, _, _, rfl, P.out.2.2.1.1.sub hs9, P.out.2.2.1.2.sub hs9, hrd2⟩).reads_drew
                      · exact ((HBz.out.trans (HB9.out.mono HBz.out.size)).setCell HFz.out.base _).drew
                  · obtain ⟨bb, bo, nx, rfl, nst, nln, ncl, n1⟩ := body_list (P.out.2.2.2.1) (by omega)
                    have NX := Lib.hid (And.intro nst (And.intro nln (And.intro ncl n1)))
                    clear nst nln ncl n1
                    have HNC : Hid (∀ o, ∀ j u, nx[j]? = some u → (wc.alloc o).cell? ((⟨bb, bo, none⟩ : Addr).add j) = some u) := Lib.hid (fun o j u hu => sub_below ((Below.refl _ _).alloc (Nat.le_refl _) o) _ _ (sans_sub _ _ _ _ (NX.out.2.2.1 j u hu)))
                    have HBA : Hid (∀ o, Below wc.heap.size wc (wc.alloc o)) := Lib.hid (fun o => (Below.refl _ _).alloc (Nat.le_refl _) o)
                    go_upto_region 10 with (fail)
                    refine wp_region_HL (S := (fun w' => w'.cell? ⟨gz, 4, none⟩ = some (.slice (some ⟨bb, bo, none⟩) bl bc))) 14 (by kernel_rfl) (by kernel_rfl) (by kernel_rfl) (by kernel_rfl) (by decide) x4 (fun hHeld => ?_)
                    refine HL.take_ (i := 0) (oi := { dst := some 44, op := .move (.tmp 9), type := 57, pos := "law.go:86", after := #[], guard := none }) (v := ?_) rfl (by decide) (by kernel_rfl) (by kernel_rfl) (fun _ _ _ h => h) (Or.inl ⟨by rfl, ?_⟩) (by assumption) ?_
                    rotate_left
                    · intro w hSw
                      (try dsimp only at hSw)
                      have h1 := hSw; (go_simp; try (with_reducible rfl))
                    try simp only [Act.put, List.setIfInBounds_toArray, List.set_cons_zero, List.set_cons_succ]
                    refine HL.take_ (i := 1) (oi := { dst := some 45, op := .move (.tmp 9), type := 57, pos := "law.go:86", after := #[], guard := none }) (v := ?_) rfl (by decide) (by kernel_rfl) (by kernel_rfl) (fun _ _ _ h => h) (Or.inl ⟨by rfl, ?_⟩) (by assumption) ?_
                    rotate_left
                    · intro w hSw
                      (try dsimp only at hSw)
                      have h1 := hSw; (go_simp; try (with_reducible rfl))
                    try simp only [Act.put, List.setIfInBounds_toArray, List.set_cons_zero, List.set_cons_succ]
                    refine HL.take_ (i := 2) (oi := { dst := some 46, op := .nilCheck (.tmp 45), type := 0, pos := "law.go:86", after := #[{ on := 1, ground := .data }], guard := none }) (v := ?_) rfl (by decide) (by kernel_rfl) (by kernel_rfl) (fun _ _ _ h => h) (Or.inl ⟨by rfl, ?_⟩) (by assumption) ?_
                    rotate_left
                    · intro w hSw
                      (try dsimp only at hSw)
                      have h1 := hSw; (go_simp; try (with_reducible rfl))
                    try simp only [Act.put, List.setIfInBounds_toArray, List.set_cons_zero, List.set_cons_succ]
                    refine HL.take_ (i := 3) (oi := { dst := some 47, op := .fieldAddr 35 (.tmp 46) 4, type := 0, pos := "law.go:86", after := #[{ on := 2, ground := .data }], guard := none }) (v := ?_) rfl (by decide) (by kernel_rfl) (by kernel_rfl) (fun _ _ _ h => h) (Or.inl ⟨by rfl, ?_⟩) (by assumption) ?_
                    rotate_left
                    · intro w hSw
                      (try dsimp only at hSw)
                      have h1 := hSw; (go_simp; try (with_reducible rfl))
                    try simp only [Act.put, List.setIfInBounds_toArray, List.set_cons_zero, List.set_cons_succ]
                    refine HL.take_ (i := 4) (oi := { dst := some 48, op := .load 22 (.tmp 47), type := 22, pos := "law.go:86", after := #[{ on := 3, ground := .data }], guard := none }) (v := ?_) rfl (by decide) (by kernel_rfl) (by kernel_rfl) (fun _ _ _ h => h) (Or.inl ⟨by rfl, ?_⟩) (by assumption) ?_
                    rotate_left
                    · intro w hSw
                      (try dsimp only at hSw)
                      have h1 := hSw; (go_simp; try (with_reducible rfl))
                    try simp only [Act.put, List.setIfInBounds_toArray, List.set_cons_zero, List.set_cons_succ]
                    refine HL.take_ (i := 5) (oi := { dst := some 49, op := .build 46 #[(0, .const (.int .u8 7)), (4, .tmp 48)], type := 46, pos := "law.go:86", after := #[{ on := 4, ground := .data }], guard := none }) (v := ?_) rfl (by decide) (by kernel_rfl) (by kernel_rfl) (fun _ _ _ h => h) (Or.inl ⟨by rfl, ?_⟩) (by assumption) ?_
                    rotate_left
                    · intro w hSw
                      (try dsimp only at hSw)
                      have h1 := hSw; (go_simp; try (with_reducible rfl))
                    try simp only [Act.put, List.setIfInBounds_toArray, List.set_cons_zero, List.set_cons_succ]
                    refine HL.take_ (i := 7) (oi := { dst := some 51, op := .move (.tmp 9), type := 57, pos := "law.go:86", after := #[], guard := none }) (v := ?_) rfl (by decide) (by kernel_rfl) (by kernel_rfl) (fun _ _ _ h => h) (Or.inl ⟨by rfl, ?_⟩) (by assumption) ?_
                    rotate_left
                    · intro w hSw
                      (try dsimp only at hSw)
                      have h1 := hSw; (go_simp; try (with_reducible rfl))
                    try simp only [Act.put, List.setIfInBounds_toArray, List.set_cons_zero, List.set_cons_succ]
                    refine HL.take_ (i := 8) (oi := { dst := some 52, op := .nilCheck (.tmp 51), type := 0, pos := "law.go:86", after := #[{ on := 7, ground := .data }], guard := none }) (v := ?_) rfl (by decide) (by kernel_rfl) (by kernel_rfl) (fun _ _ _ h => h) (Or.inl ⟨by rfl, ?_⟩) (by assumption) ?_
                    rotate_left
                    · intro w hSw
                      (try dsimp only at hSw)
                      have h1 := hSw; (go_simp; try (with_reducible rfl))
                    try simp only [Act.put, List.setIfInBounds_toArray, List.set_cons_zero, List.set_cons_succ]
                    refine HL.take_ (i := 9) (oi := { dst := some 53, op := .fieldAddr 35 (.tmp 52) 4, type := 0, pos := "law.go:86", after := #[{ on := 8, ground := .data }], guard := none }) (v := ?_) rfl (by decide) (by kernel_rfl) (by kernel_rfl) (fun _ _ _ h => h) (Or.inl ⟨by rfl, ?_⟩) (by assumption) ?_
                    rotate_left
                    · intro w hSw
                      (try dsimp only at hSw)
                      have h1 := hSw; (go_simp; try (with_reducible rfl))
                    try simp only [Act.put, List.setIfInBounds_toArray, List.set_cons_zero, List.set_cons_succ]
                    refine HL.take_ (i := 10) (oi := { dst := some 54, op := .load 22 (.tmp 53), type := 22, pos := "law.go:86", after := #[{ on := 9, ground := .data }], guard := none }) (v := ?_) rfl (by decide) (by kernel_rfl) (by kernel_rfl) (fun _ _ _ h => h) (Or.inl ⟨by rfl, ?_⟩) (by assumption) ?_
                    rotate_left
                    · intro w hSw
                      (try dsimp only at hSw)
                      have h1 := hSw; (go_simp; try (with_reducible rfl))
                    try simp only [Act.put, List.setIfInBounds_toArray, List.set_cons_zero, List.set_cons_succ]
                    refine HL.step_ (i := 6) (o := { dst := some 50, op := .buildSlice 22 1 #[(0, .tmp 49)], type := 22, pos := "law.go:86", after := #[{ on := 5, ground := .data }], guard := none }) rfl (by decide) (by kernel_rfl) (fun K hK => ?_)
                    go_simp
                    have hb8 : Below wc.heap.size wc (wc.alloc (.cells #[.int .u8 7, .int .u8 0, .int .i64 0, .int .u8 0, .int .i64 0, .slice none 0 0, .slice (some ⟨bb, bo, none⟩) bl bc] 46)) := (Below.refl _ _).alloc (Nat.le_refl _) _
                    have y8 := (hb8.cell (p := ⟨gz, 4, none⟩) xz0).trans x4
                    refine hK.out _ _ y8 (fun hHeld => ?_)
                    clear hK K
                    try simp only [Act.put, List.setIfInBounds_toArray, List.set_cons_zero, List.set_cons_succ]
                    refine HL.step_ (i := 11) (o := { dst := some 55, op := .call { callee := .builtin .append, args := #[.tmp 50, .tmp 54], argTypes := #[22, 22] }, type := 22, pos := "law.go:86", after := #[{ on := 6, ground := .data }, { on := 10, ground := .data }], guard := none }) rfl (by decide) (by kernel_rfl) (fun K hK => ?_)
                    rw [if_pos (by rfl)]
                    refine append_step (B := wc.heap.size) (w0 := wc) _ _ 22 46 _ 7 88 rfl Try.underlying22 info46 rfl (by decide) (.slice (some ⟨wc.heap.size, 0, none⟩) 1 1) 1 _ rfl (own_drew (own_one wc 46 7 #[.int .u8 7, .int .u8 0, .int .i64 0, .int .u8 0, .int .i64 0, .slice none 0 0, .slice (some ⟨bb, bo, none⟩) bl bc] rfl)) ⟨bb, bo, none⟩ bl bc nx rfl NX.out.2.1 (HNC.out _) NX.out.2.2.2 (by simp) (HBA.out _).drew (by omega) (by omega) ?_
                    intro v1 w9 hown hb9 hg9
                    obtain ⟨A1, cp1, rfl, _, _⟩ := own_shape hown
                    have HO9 := Lib.hid hown
                    have HB9 := Lib.hid hb9
                    have hz9 := (xcells hb9 xz0).1
                    have hf9 := (xcells hb9 xz0).2 xf
                    have y4 := (hb9.cell (p := ⟨gz, 4, none⟩) xz0).trans x4
                    clear hown hb9 hg9
                    refine hK.out _ _ y4 (fun hHeld => ?_)
                    clear hK K
                    try simp only [Act.put, List.setIfInBounds_toArray, List.set_cons_zero, List.set_cons_succ]
                    refine HL.take_ (i := 12) (oi := { dst := some 56, op := .nilCheck (.tmp 44), type := 0, pos := "law.go:86", after := #[{ on := 0, ground := .data }, { on := 0, ground := .phase }, { on := 1, ground := .phase }, { on := 2, ground := .phase }, { on := 3, ground := .phase }, { on := 4, ground := .phase }, { on := 5, ground := .phase }, { on := 6, ground := .phase }, { on := 7, ground := .phase }, { on := 8, ground := .phase }, { on := 9, ground := .phase }, { on := 10, ground := .phase }, { on := 11, ground := .phase }], guard := none }) (v := ?_) rfl (by decide) (by kernel_rfl) (by kernel_rfl) (fun _ _ _ h => h) (Or.inl ⟨by rfl, ?_⟩) (by assumption) ?_
                    rotate_left
                    · intro w hSw
                      (try dsimp only at hSw)
                      have h1 := hSw; (go_simp; try (with_reducible rfl))
                    try simp only [Act.put, List.setIfInBounds_toArray, List.set_cons_zero, List.set_cons_succ]
                    refine HL.take_ (i := 13) (oi := { dst := some 57, op := .fieldAddr 35 (.tmp 56) 4, type := 0, pos := "law.go:86", after := #[{ on := 12, ground := .data }, { on := 0, ground := .phase }, { on := 1, ground := .phase }, { on := 2, ground := .phase }, { on := 3, ground := .phase }, { on := 4, ground := .phase }, { on := 5, ground := .phase }, { on := 6, ground := .phase }, { on := 7, ground := .phase }, { on := 8, ground := .phase }, { on := 9, ground := .phase }, { on := 10, ground := .phase }, { on := 11, ground := .phase }], guard := none }) (v := ?_) rfl (by decide) (by kernel_rfl) (by kernel_rfl) (fun _ _ _ h => h) (Or.inl ⟨by rfl, ?_⟩) (by assumption) ?_
                    rotate_left
                    · intro w hSw
                      (try dsimp only at hSw)
                      have h1 := hSw; (go_simp; try (with_reducible rfl))
                    try simp only [Act.put, List.setIfInBounds_toArray, List.set_cons_zero, List.set_cons_succ]
                    refine HL.done_ (by kernel_rfl) ?_
                    simp only [List.drop_succ_cons, List.drop_zero]
                    clear hHeld
                    go_wp2_with fail
                    go_meet
                    case rel =>
                      have hF9 := HFz.out.below HB9.out
                      have hs9 : Sub (sans wc [gz, w3.heap.size]) (sans w9 [gz, w3.heap.size]) := sub_sans_below HB9.out
                      have hrd : ReadsB (sans w9 [gz, w3.heap.size]) (.slice A1 (1 + bl) cp1) (.mk 7 0 0 0 0 [] fz.body :: fz.body) := ReadsB.own HO9.out (StsAt.cons (blk_cells (P.out.2.2.2.1.sub hs9)) (NX.out.1.sub hs9)) (by rw [List.length_cons, P.out.2.2.2.1.1]; omega) (by omega) (fun b hb => by
                        simp at hb
                        omega)
                      refine ⟨sa1, ga1, ea1, some ⟨gz, 0, none⟩, sn1, sc1, gn1, gc1, nz, cpz, en1, ec1, { makeM D with funcs := { fz with body := .mk 7 0 0 0 0 [] fz.body :: fz.body } :: rz }, Nat.succ_pos _, ?_, ?_, ?_⟩
                      · exact blk_far (blk_below HQz.out HB9.out) (HNE.out) _
                      · exact (hF9.set (f' := { fz with body := .mk 7 0 0 0 0 [] fz.body :: fz.body }) P.out.1 P.out.2.1 rfl (P.out.2.2.2.2.sub hs9) 4 (.slice A1 (1 + bl) cp1) (by decide) ⟨_, _, _, rfl, P.out.2.2.1.1.sub hs9, P.out.2.2.1.2.sub hs9, hrd⟩).reads
                      · exact (HBz.out.trans (HB9.out.mono HBz.out.size)).setCell HFz.out.base _
      · have h37 : ((how : Int) % 3 == 2) = false := by rw [beq_eq_false_iff_ne]; exact h2
        go_wp2_with fail
        go_meet
        case rel => 
          exact ⟨sa1, ga1, ea1, _, sn1, sc1, gn1, gc1, _, _, en1, ec1, makeM D, by rw [P.out.1]; simp, HQz.out, HFz.out.reads, HBz.out⟩
    case rest =>
      obtain ⟨sa5, ga5, ea5, fa5, sn5, sc5, gn5, gc5, fn5, fc5, en5, ec5, Y5, hpos5, HQ5, HR5, HB5'⟩ := hcut
      clear P x0 x1 x2 x3 x4 xf xz0 HFz HQz HBz
      have hq7 : wc.heap[w2.heap.size]? = some (.cells #[.slice sa X.strings.length sc, .slice ga X.globals.length gc, .slice (some ⟨gx, 0, none⟩) n cp, .slice ea X.entries.length ec] 32) := blk_below Q3.out.2 HB5'.out
      obtain ⟨c7, f7, z7⟩ := blk3 hq7
      obtain ⟨c8, f8, z8⟩ := blk3 HQ5.out
      have HQ7 := Lib.hid hq7
      clear hq7
      have HRX5 := Lib.hid (ReadsM.sub (sub_below HB5'.out) HRX.out)
      go_wp2_with fail
      refine (same17_calls _ _ _ X Y5 HRX5.out HR5.out).mono ?_
      rintro e6 w6 ⟨rfl, hb6⟩
      have HQ76 := Lib.hid (blk_below HQ7.out hb6)
      have HQ56 := Lib.hid (blk_below HQ5.out hb6)
      have HRX6 := Lib.hid (HRX5.out.sub (sub_below hb6))
      have HRY6 := Lib.hid (HR5.out.sub (sub_below hb6))
      have HB6 := Lib.hid (HB3.out.trans ((HB5'.out.trans (hb6.mono HB5'.out.size)).mono HB3.out.size))
      clear hb6 c7 f7 z7 c8 f8 z8
      obtain ⟨sm, hsm⟩ : ∃ b, b = sameM X Y5 := ⟨_, rfl⟩
      rw [← hsm]
      have HSM := Lib.hid hsm
      clear hsm
      obtain ⟨c7, f7, z7⟩ := blk3 HQ76.out
      obtain ⟨c8, f8, z8⟩ := blk3 HQ56.out
      have hxl : n = X.funcs.length := HFX.out.len
      have hxf := first_fn HRX6.out (HFX.out.pos)
      obtain ⟨fx, bxa, bxo, bx, bxl, bxc, hbx, hx4, hxb⟩ := hxf
      have hyp : 0 < fn5 := pos_fn HRY6.out hpos5
      have hyf := first_fn HRY6.out hyp
      obtain ⟨fy, fb, fo, by_, byl, byc, hby, hy4, hyb⟩ := hyf
      obtain rfl : fa5 = some ⟨fb, fo, none⟩ := hby
      obtain ⟨rfl, rfl⟩ : gx = bxa ∧ 0 = bxo := by injection hbx with hbx; injection hbx with h1 h2; exact ⟨h1, h2⟩
      rw [Nat.zero_add] at hx4
      have HXB := Lib.hid hxb
      have HYB := Lib.hid hyb
      have hn0 : ¬ n = 0 := by have := HFX.out.pos; omega
      have hn5 : ¬ fn5 = 0 := by omega
      have hl0 : 0 < n := HFX.out.pos
      clear hbx hxb hyb hxl
      go_wp2_with fail
      refine wp_region_HL (S := (fun w' => (∀ o, w'.cell? ⟨w2.heap.size, o, none⟩ = (#[.slice sa X.strings.length sc, .slice ga X.globals.length gc, .slice (some ⟨gx, 0, none⟩) n cp, .slice ea X.entries.length ec] : Array Value)[o]?) ∧ (∀ o, w'.cell? ⟨w3.heap.size, o, none⟩ = (#[.slice sa5 sn5 sc5, .slice ga5 gn5 gc5, .slice (some ⟨fb, fo, none⟩) fn5 fc5, .slice ea5 en5 ec5] : Array Value)[o]?) ∧ w'.cell? ⟨gx, 4, none⟩ = some (.slice bx bxl bxc) ∧ w'.cell? ⟨fb, fo + 4, none⟩ = some (.slice by_ byl byc))) 35 (by kernel_rfl) (by kernel_rfl) (by kernel_rfl) (by kernel_rfl) (by decide) ⟨c7, c8, hx4, hy4⟩ (fun hHeld => ?_)
      refine HL.take_ (i := 0) (oi := { dst := some 109, op := .load 32 (.tmp 7), type := 32, pos := "law.go:90", after := #[], guard := none }) (v := ?_) rfl (by decide) (by kernel_rfl) (by kernel_rfl) (fun _ _ _ h => h) (Or.inl ⟨by rfl, ?_⟩) (by assumption) ?_
      rotate_left
      · intro w hSw
        (try dsimp only at hSw)
        obtain ⟨h1, h2, h3, h4⟩ := hSw; (go_simp; try (with_reducible rfl))
      try simp only [Act.put, List.setIfInBounds_toArray, List.set_cons_zero, List.set_cons_succ]
      refine HL.take_ (i := 1) (oi := { dst := some 110, op := .load 32 (.tmp 8), type := 32, pos := "law.go:90", after := #[], guard := none }) (v := ?_) rfl (by decide) (by kernel_rfl) (by kernel_rfl) (fun _ _ _ h => h) (Or.inl ⟨by rfl, ?_⟩) (by assumption) ?_
      rotate_left
      · intro w hSw
        (try dsimp only at hSw)
        obtain ⟨h1, h2, h3, h4⟩ := hSw; (go_simp; try (with_reducible rfl))
      try simp only [Act.put, List.setIfInBounds_toArray, List.set_cons_zero, List.set_cons_succ]
      refine HL.take_ (i := 3) (oi := { dst := some 112, op := .move (.tmp 10), type := 4, pos := "law.go:90", after := #[], guard := none }) (v := ?_) rfl (by decide) (by kernel_rfl) (by kernel_rfl) (fun _ _ _ h => h) (Or.inl ⟨by rfl, ?_⟩) (by assumption) ?_
      rotate_left
      · intro w hSw
        (try dsimp only at hSw)
        obtain ⟨h1, h2, h3, h4⟩ := hSw; (go_simp; try (with_reducible rfl))
      try simp only [Act.put, List.setIfInBounds_toArray, List.set_cons_zero, List.set_cons_succ]
      refine HL.step_ (i := 2) (o := { dst := some 111, op := .call { callee := .value (.func 19), args := #[.tmp 109, .tmp 110], argTypes := #[32, 32] }, type := 4, pos := "law.go:90", after := #[{ on := 0, ground := .data }, { on := 1, ground := .data }], guard := none }) rfl (by decide) (by kernel_rfl) (fun K hK => ?_)
      go_simp
      have Q6 := Lib.hid (show w6.drew.heap[w2.heap.size]? = _ ∧ w6.drew.heap[w3.heap.size]? = _ from And.intro HQ76.out HQ56.out)
      have T6 := Lib.hid (And.intro (ReadsM.sub (show Sub w6 w6.drew from fun _ _ hv => hv) HRX6.out) (ReadsM.sub (show Sub w6 w6.drew from fun _ _ hv => hv) HRY6.out))
      have G6 := Lib.hid (show w6.drew.cell? ⟨gx, 4, none⟩ = _ ∧ w6.drew.cell? ⟨fb, fo + 4, none⟩ = _ from And.intro hx4 hy4)
      have B6 := Lib.hid HB6.out.drew
      have V6 := Lib.hid (And.intro (HXB.out.2.sub (show Sub w6 w6.drew from fun _ _ hv => hv)) (HYB.out.2.sub (show Sub w6 w6.drew from fun _ _ hv => hv)))
      clear c7 f7 z7 c8 f8 z8 hx4 hy4
      refine (equalM_calls _ _ _ X Y5 T6.out.1 T6.out.2).mono ?_
      rw [← HSM.out]
      rintro e7 w7 ⟨rfl, hb7⟩
      have Q7 := Lib.hid (And.intro (blk_below Q6.out.1 hb7) (blk_below Q6.out.2 hb7))
      have T7 := Lib.hid (And.intro (T6.out.1.sub (sub_below hb7)) (T6.out.2.sub (sub_below hb7)))
      have G7 := Lib.hid (And.intro (sub_below hb7 _ _ G6.out.1) (sub_below hb7 _ _ G6.out.2))
      have B7 := Lib.hid (B6.out.trans (hb7.mono B6.out.size))
      have V7 := Lib.hid (And.intro (V6.out.1.sub (sub_below hb7)) (V6.out.2.sub (sub_below hb7)))
      clear hb7
      obtain ⟨c77, -, -⟩ := blk3 Q7.out.1
      obtain ⟨c78, -, -⟩ := blk3 Q7.out.2
      have g71 := G7.out.1
      have g72 := G7.out.2
      refine hK.out _ _ ⟨c77, c78, g71, g72⟩ (fun hHeld => ?_)
      clear hK K
      try simp only [Act.put, List.setIfInBounds_toArray, List.set_cons_zero, List.set_cons_succ]
      clear c77 c78 g71 g72
      refine HL.take_ (i := 4) (oi := { dst := some 113, op := .binOp .eql 4 (.tmp 111) (.tmp 112) 4, type := 4, pos := "law.go:90", after := #[{ on := 2, ground := .data }, { on := 3, ground := .data }], guard := none }) (v := ?_) rfl (by decide) (by kernel_rfl) (by kernel_rfl) (fun _ _ _ h => h) (Or.inl ⟨by rfl, ?_⟩) (by assumption) ?_
      rotate_left
      · intro w hSw
        (try dsimp only at hSw)
        obtain ⟨h1, h2, h3, h4⟩ := hSw; (go_simp; try (with_reducible rfl))
      try simp only [Act.put, List.setIfInBounds_toArray, List.set_cons_zero, List.set_cons_succ]
      refine HL.take_ (i := 5) (oi := { dst := some 114, op := .move (.tmp 113), type := 4, pos := "law.go:90", after := #[{ on := 4, ground := .data }, { on := 2, ground := .chain }], guard := none }) (v := ?_) rfl (by decide) (by kernel_rfl) (by kernel_rfl) (fun _ _ _ h => h) (Or.inl ⟨by rfl, ?_⟩) (by assumption) ?_
      rotate_left
      · intro w hSw
        (try dsimp only at hSw)
        obtain ⟨h1, h2, h3, h4⟩ := hSw; (go_simp; try (with_reducible rfl))
      try simp only [Act.put, List.setIfInBounds_toArray, List.set_cons_zero, List.set_cons_succ]
      refine HL.take_ (i := 6) (oi := { dst := some 115, op := .fieldAddr 32 (.tmp 7) 2, type := 0, pos := "law.go:90", after := #[{ on := 5, ground := .guard }], guard := some (5, true) }) (v := ?_) rfl (by decide) (by kernel_rfl) (by kernel_rfl) (fun _ _ _ h => h) (Or.inl ⟨by rfl, ?_⟩) (by assumption) ?_
      rotate_left
      · intro w hSw
        (try dsimp only at hSw)
        obtain ⟨h1, h2, h3, h4⟩ := hSw; (go_simp; try (with_reducible rfl))
      try simp only [Act.put, List.setIfInBounds_toArray, List.set_cons_zero, List.set_cons_succ]
      refine HL.take_ (i := 7) (oi := { dst := some 116, op := .load 30 (.tmp 115), type := 30, pos := "law.go:90", after := #[{ on := 6, ground := .data }, { on := 5, ground := .guard }], guard := some (5, true) }) (v := ?_) rfl (by decide) (by kernel_rfl) (by kernel_rfl) (fun _ _ _ h => h) (Or.inl ⟨by rfl, ?_⟩) (by assumption) ?_
      rotate_left
      · intro w hSw
        (try dsimp only at hSw)
        obtain ⟨h1, h2, h3, h4⟩ := hSw; (go_simp; try (with_reducible rfl))
      try simp only [Act.put, List.setIfInBounds_toArray, List.set_cons_zero, List.set_cons_succ]
      refine HL.take_ (i := 8) (oi := { dst := some 117, op := .indexAddr 30 (.tmp 116) (.const (.int .i64 0)), type := 0, pos := "law.go:90", after := #[{ on := 7, ground := .data }, { on := 5, ground := .guard }], guard := some (5, true) }) (v := ?_) rfl (by decide) (by kernel_rfl) (by kernel_rfl) (fun _ _ _ h => h) (Or.inl ⟨by rfl, ?_⟩) (by assumption) ?_
      rotate_left
      · intro w hSw
        (try dsimp only at hSw)
        obtain ⟨h1, h2, h3, h4⟩ := hSw; (go_simp; try (with_reducible rfl))
      try simp only [Act.put, List.setIfInBounds_toArray, List.set_cons_zero, List.set_cons_succ]
      refine HL.take_ (i := 9) (oi := { dst := some 118, op := .fieldAddr 35 (.tmp 117) 4, type := 0, pos := "law.go:90", after := #[{ on := 8, ground := .data }, { on := 5, ground := .guard }], guard := some (5, true) }) (v := ?_) rfl (by decide) (by kernel_rfl) (by kernel_rfl) (fun _ _ _ h => h) (Or.inl ⟨by rfl, ?_⟩) (by assumption) ?_
      rotate_left
      · intro w hSw
        (try dsimp only at hSw)
        obtain ⟨h1, h2, h3, h4⟩ := hSw; (go_simp; try (with_reducible rfl))
      try simp only [Act.put, List.setIfInBounds_toArray, List.set_cons_zero, List.set_cons_succ]
      refine HL.take_ (i := 10) (oi := { dst := some 119, op := .load 22 (.tmp 118), type := 22, pos := "law.go:90", after := #[{ on := 9, ground := .data }, { on := 5, ground := .guard }], guard := some (5, true) }) (v := ?_) rfl (by decide) (by kernel_rfl) (by kernel_rfl) (fun _ _ _ h => h) (Or.inl ⟨by rfl, ?_⟩) (by assumption) ?_
      rotate_left
      · intro w hSw
        (try dsimp only at hSw)
        obtain ⟨h1, h2, h3, h4⟩ := hSw; (go_simp; try (with_reducible rfl))
      try simp only [Act.put, List.setIfInBounds_toArray, List.set_cons_zero, List.set_cons_succ]
      refine HL.take_ (i := 11) (oi := { dst := some 120, op := .fieldAddr 32 (.tmp 8) 2, type := 0, pos := "law.go:90", after := #[{ on := 5, ground := .guard }], guard := some (5, true) }) (v := ?_) rfl (by decide) (by kernel_rfl) (by kernel_rfl) (fun _ _ _ h => h) (Or.inl ⟨by rfl, ?_⟩) (by assumption) ?_
      rotate_left
      · intro w hSw
        (try dsimp only at hSw)
        obtain ⟨h1, h2, h3, h4⟩ := hSw; (go_simp; try (with_reducible rfl))
      try simp only [Act.put, List.setIfInBounds_toArray, List.set_cons_zero, List.set_cons_succ]
      refine HL.take_ (i := 12) (oi := { dst := some 121, op := .load 30 (.tmp 120), type := 30, pos := "law.go:90", after := #[{ on := 11, ground := .data }, { on := 5, ground := .guard }], guard := some (5, true) }) (v := ?_) rfl (by decide) (by kernel_rfl) (by kernel_rfl) (fun _ _ _ h => h) (Or.inl ⟨by rfl, ?_⟩) (by assumption) ?_
      rotate_left
      · intro w hSw
        (try dsimp only at hSw)
        obtain ⟨h1, h2, h3, h4⟩ := hSw; (go_simp; try (with_reducible rfl))
      try simp only [Act.put, List.setIfInBounds_toArray, List.set_cons_zero, List.set_cons_succ]
      refine HL.take_ (i := 13) (oi := { dst := some 122, op := .indexAddr 30 (.tmp 121) (.const (.int .i64 0)), type := 0, pos := "law.go:90", after := #[{ on := 12, ground := .data }, { on := 5, ground := .guard }], guard := some (5, true) }) (v := ?_) rfl (by decide) (by kernel_rfl) (by kernel_rfl) (fun _ _ _ h => h) (Or.inl ⟨by rfl, ?_⟩) (by assumption) ?_
      rotate_left
      · intro w hSw
        (try dsimp only at hSw)
        obtain ⟨h1, h2, h3, h4⟩ := hSw; (go_simp; try (with_reducible rfl))
      try simp only [Act.put, List.setIfInBounds_toArray, List.set_cons_zero, List.set_cons_succ]
      refine HL.take_ (i := 14) (oi := { dst := some 123, op := .fieldAddr 35 (.tmp 122) 4, type := 0, pos := "law.go:90", after := #[{ on := 13, ground := .data }, { on := 5, ground := .guard }], guard := some (5, true) }) (v := ?_) rfl (by decide) (by kernel_rfl) (by kernel_rfl) (fun _ _ _ h => h) (Or.inl ⟨by rfl, ?_⟩) (by assumption) ?_
      rotate_left
      · intro w hSw
        (try dsimp only at hSw)
        obtain ⟨h1, h2, h3, h4⟩ := hSw; (go_simp; try (with_reducible rfl))
      try simp only [Act.put, List.setIfInBounds_toArray, List.set_cons_zero, List.set_cons_succ]
      refine HL.take_ (i := 15) (oi := { dst := some 124, op := .load 22 (.tmp 123), type := 22, pos := "law.go:90", after := #[{ on := 14, ground := .data }, { on := 5, ground := .guard }], guard := some (5, true) }) (v := ?_) rfl (by decide) (by kernel_rfl) (by kernel_rfl) (fun _ _ _ h => h) (Or.inl ⟨by rfl, ?_⟩) (by assumption) ?_
      rotate_left
      · intro w hSw
        (try dsimp only at hSw)
        obtain ⟨h1, h2, h3, h4⟩ := hSw; (go_simp; try (with_reducible rfl))
      try simp only [Act.put, List.setIfInBounds_toArray, List.set_cons_zero, List.set_cons_succ]
      refine HL.take_ (i := 17) (oi := { dst := some 126, op := .fieldAddr 32 (.tmp 7) 2, type := 0, pos := "law.go:90", after := #[{ on := 5, ground := .guard }], guard := some (5, true) }) (v := ?_) rfl (by decide) (by kernel_rfl) (by kernel_rfl) (fun _ _ _ h => h) (Or.inl ⟨by rfl, ?_⟩) (by assumption) ?_
      rotate_left
      · intro w hSw
        (try dsimp only at hSw)
        obtain ⟨h1, h2, h3, h4⟩ := hSw; (go_simp; try (with_reducible rfl))
      try simp only [Act.put, List.setIfInBounds_toArray, List.set_cons_zero, List.set_cons_succ]
      refine HL.take_ (i := 18) (oi := { dst := some 127, op := .load 30 (.tmp 126), type := 30, pos := "law.go:90", after := #[{ on := 17, ground := .data }, { on := 5, ground := .guard }], guard := some (5, true) }) (v := ?_) rfl (by decide) (by kernel_rfl) (by kernel_rfl) (fun _ _ _ h => h) (Or.inl ⟨by rfl, ?_⟩) (by assumption) ?_
      rotate_left
      · intro w hSw
        (try dsimp only at hSw)
        obtain ⟨h1, h2, h3, h4⟩ := hSw; (go_simp; try (with_reducible rfl))
      try simp only [Act.put, List.setIfInBounds_toArray, List.set_cons_zero, List.set_cons_succ]
      refine HL.take_ (i := 19) (oi := { dst := some 128, op := .indexAddr 30 (.tmp 127) (.const (.int .i64 0)), type := 0, pos := "law.go:90", after := #[{ on := 18, ground := .data }, { on := 5, ground := .guard }], guard := some (5, true) }) (v := ?_) rfl (by decide) (by kernel_rfl) (by kernel_rfl) (fun _ _ _ h => h) (Or.inl ⟨by rfl, ?_⟩) (by assumption) ?_
      rotate_left
      · intro w hSw
        (try dsimp only at hSw)
        obtain ⟨h1, h2, h3, h4⟩ := hSw; (go_simp; try (with_reducible rfl))
      try simp only [Act.put, List.setIfInBounds_toArray, List.set_cons_zero, List.set_cons_succ]
      refine HL.take_ (i := 20) (oi := { dst := some 129, op := .fieldAddr 35 (.tmp 128) 4, type := 0, pos := "law.go:90", after := #[{ on := 19, ground := .data }, { on := 5, ground := .guard }], guard := some (5, true) }) (v := ?_) rfl (by decide) (by kernel_rfl) (by kernel_rfl) (fun _ _ _ h => h) (Or.inl ⟨by rfl, ?_⟩) (by assumption) ?_
      rotate_left
      · intro w hSw
        (try dsimp only at hSw)
        obtain ⟨h1, h2, h3, h4⟩ := hSw; (go_simp; try (with_reducible rfl))
      try simp only [Act.put, List.setIfInBounds_toArray, List.set_cons_zero, List.set_cons_succ]
      refine HL.take_ (i := 21) (oi := { dst := some 130, op := .load 22 (.tmp 129), type := 22, pos := "law.go:90", after := #[{ on := 20, ground := .data }, { on := 5, ground := .guard }], guard := some (5, true) }) (v := ?_) rfl (by decide) (by kernel_rfl) (by kernel_rfl) (fun _ _ _ h => h) (Or.inl ⟨by rfl, ?_⟩) (by assumption) ?_
      rotate_left
      · intro w hSw
        (try dsimp only at hSw)
        obtain ⟨h1, h2, h3, h4⟩ := hSw; (go_simp; try (with_reducible rfl))
      try simp only [Act.put, List.setIfInBounds_toArray, List.set_cons_zero, List.set_cons_succ]
      refine HL.take_ (i := 22) (oi := { dst := some 131, op := .fieldAddr 32 (.tmp 8) 2, type := 0, pos := "law.go:90", after := #[{ on := 5, ground := .guard }], guard := some (5, true) }) (v := ?_) rfl (by decide) (by kernel_rfl) (by kernel_rfl) (fun _ _ _ h => h) (Or.inl ⟨by rfl, ?_⟩) (by assumption) ?_
      rotate_left
      · intro w hSw
        (try dsimp only at hSw)
        obtain ⟨h1, h2, h3, h4⟩ := hSw; (go_simp; try (with_reducible rfl))
      try simp only [Act.put, List.setIfInBounds_toArray, List.set_cons_zero, List.set_cons_succ]
      refine HL.take_ (i := 23) (oi := { dst := some 132, op := .load 30 (.tmp 131), type := 30, pos := "law.go:90", after := #[{ on := 22, ground := .data }, { on := 5, ground := .guard }], guard := some (5, true) }) (v := ?_) rfl (by decide) (by kernel_rfl) (by kernel_rfl) (fun _ _ _ h => h) (Or.inl ⟨by rfl, ?_⟩) (by assumption) ?_
      rotate_left
      · intro w hSw
        (try dsimp only at hSw)
        obtain ⟨h1, h2, h3, h4⟩ := hSw; (go_simp; try (with_reducible rfl))
      try simp only [Act.put, List.setIfInBounds_toArray, List.set_cons_zero, List.set_cons_succ]
      refine HL.take_ (i := 24) (oi := { dst := some 133, op := .indexAddr 30 (.tmp 132) (.const (.int .i64 0)), type := 0, pos := "law.go:90", after := #[{ on := 23, ground := .data }, { on := 5, ground := .guard }], guard := some (5, true) }) (v := ?_) rfl (by decide) (by kernel_rfl) (by kernel_rfl) (fun _ _ _ h => h) (Or.inl ⟨by rfl, ?_⟩) (by assumption) ?_
      rotate_left
      · intro w hSw
        (try dsimp only at hSw)
        obtain ⟨h1, h2, h3, h4⟩ := hSw; (go_simp; try (with_reducible rfl))
      try simp only [Act.put, List.setIfInBounds_toArray, List.set_cons_zero, List.set_cons_succ]
      refine HL.take_ (i := 25) (oi := { dst := some 134, op := .fieldAddr 35 (.tmp 133) 4, type := 0, pos := "law.go:90", after := #[{ on := 24, ground := .data }, { on := 5, ground := .guard }], guard := some (5, true) }) (v := ?_) rfl (by decide) (by kernel_rfl) (by kernel_rfl) (fun _ _ _ h => h) (Or.inl ⟨by rfl, ?_⟩) (by assumption) ?_
      rotate_left
      · intro w hSw
        (try dsimp only at hSw)
        obtain ⟨h1, h2, h3, h4⟩ := hSw; (go_simp; try (with_reducible rfl))
      try simp only [Act.put, List.setIfInBounds_toArray, List.set_cons_zero, List.set_cons_succ]
      refine HL.take_ (i := 26) (oi := { dst := some 135, op := .load 22 (.tmp 134), type := 22, pos := "law.go:90", after := #[{ on := 25, ground := .data }, { on := 5, ground := .guard }], guard := some (5, true) }) (v := ?_) rfl (by decide) (by kernel_rfl) (by kernel_rfl) (fun _ _ _ h => h) (Or.inl ⟨by rfl, ?_⟩) (by assumption) ?_
      rotate_left
      · intro w hSw
        (try dsimp only at hSw)
        obtain ⟨h1, h2, h3, h4⟩ := hSw; (go_simp; try (with_reducible rfl))
      try simp only [Act.put, List.setIfInBounds_toArray, List.set_cons_zero, List.set_cons_succ]
      refine HL.step_ (i := 16) (o := { dst := some 125, op := .call { callee := .value (.func 20), args := #[.tmp 119, .tmp 124], argTypes := #[22, 22] }, type := 4, pos := "law.go:90", after := #[{ on := 10, ground := .data }, { on := 15, ground := .data }, { on := 5, ground := .chain }, { on := 5, ground := .guard }], guard := some (5, true) }) rfl (by decide) (by kernel_rfl) (fun K hK => ?_)
      go_simp
      refine (same15_calls _ fx.body fy.body _ _ _ _ _ _ V7.out.1 V7.out.2).mono ?_
      obtain ⟨sb, hsb⟩ : ∃ b, b = sameB fx.body fy.body := ⟨_, rfl⟩
      rw [← hsb]
      have HSB := Lib.hid hsb
      clear hsb
      rintro e8 w8 ⟨rfl, hb8⟩
      have Q8 := Lib.hid (And.intro (blk_below Q7.out.1 hb8) (blk_below Q7.out.2 hb8))
      have T8 := Lib.hid (And.intro (T7.out.1.sub (sub_below hb8)) (T7.out.2.sub (sub_below hb8)))
      have G8 := Lib.hid (And.intro (sub_below hb8 _ _ G7.out.1) (sub_below hb8 _ _ G7.out.2))
      have B8 := Lib.hid (B7.out.trans (hb8.mono B7.out.size))
      have V8 := Lib.hid (And.intro (V7.out.1.sub (sub_below hb8)) (V7.out.2.sub (sub_below hb8)))
      clear hb8
      obtain ⟨c87, -, -⟩ := blk3 Q8.out.1
      obtain ⟨c88, -, -⟩ := blk3 Q8.out.2
      have g81 := G8.out.1
      have g82 := G8.out.2
      refine hK.out _ _ ⟨c87, c88, g81, g82⟩ (fun hHeld => ?_)
      clear hK K
      try simp only [Act.put, List.setIfInBounds_toArray, List.set_cons_zero, List.set_cons_succ]
      clear c87 c88 g81 g82
      refine HL.step_ (i := 27) (o := { dst := some 136, op := .call { callee := .value (.func 15), args := #[.tmp 130, .tmp 135], argTypes := #[22, 22] }, type := 4, pos := "law.go:90", after := #[{ on := 21, ground := .data }, { on := 26, ground := .data }, { on := 16, ground := .chain }, { on := 5, ground := .guard }], guard := some (5, true) }) rfl (by decide) (by kernel_rfl) (fun K hK => ?_)
      go_simp
      refine (same14_calls _ fx.body fy.body _ _ _ _ _ _ V8.out.1 V8.out.2).mono ?_
      rw [← HSB.out]
      rintro e9 w9 ⟨rfl, dm, hdm⟩
      have hb9 : Below w8.heap.size w8 w9 := by rw [hdm]; exact below_drewN _ _ _
      clear hdm
      have Q9 := Lib.hid (And.intro (blk_below Q8.out.1 hb9) (blk_below Q8.out.2 hb9))
      have T9 := Lib.hid (And.intro (T8.out.1.sub (sub_below hb9)) (T8.out.2.sub (sub_below hb9)))
      have G9 := Lib.hid (And.intro (sub_below hb9 _ _ G8.out.1) (sub_below hb9 _ _ G8.out.2))
      have B9 := Lib.hid (B8.out.trans (hb9.mono B8.out.size))
      have V9 := Lib.hid (And.intro (V8.out.1.sub (sub_below hb9)) (V8.out.2.sub (sub_below hb9)))
      clear hb9
      obtain ⟨c97, -, -⟩ := blk3 Q9.out.1
      obtain ⟨c98, -, -⟩ := blk3 Q9.out.2
      have g91 := G9.out.1
      have g92 := G9.out.2
      refine hK.out _ _ ⟨c97, c98, g91, g92⟩ (fun hHeld => ?_)
      clear hK K
      try simp only [Act.put, List.setIfInBounds_toArray, List.set_cons_zero, List.set_cons_succ]
      clear c97 c98 g91 g92
      refine HL.take_ (i := 28) (oi := { dst := some 137, op := .binOp .eql 4 (.tmp 125) (.tmp 136) 4, type := 4, pos := "law.go:90", after := #[{ on := 16, ground := .data }, { on := 27, ground := .data }, { on := 5, ground := .guard }], guard := some (5, true) }) (v := ?_) rfl (by decide) (by kernel_rfl) (by kernel_rfl) (fun _ _ _ h => h) (Or.inl ⟨by rfl, ?_⟩) (by assumption) ?_
      rotate_left
      · intro w hSw
        (try dsimp only at hSw)
        obtain ⟨h1, h2, h3, h4⟩ := hSw; (go_simp; try (with_reducible rfl))
      try simp only [Act.put, List.setIfInBounds_toArray, List.set_cons_zero, List.set_cons_succ]
      refine HL.take_ (i := 29) (oi := { dst := some 138, op := .pick (.tmp 114) (.tmp 137) (.const (.bool false)), type := 4, pos := "law.go:90", after := #[{ on := 5, ground := .data }, { on := 28, ground := .data }], guard := none }) (v := ?_) rfl (by decide) (by kernel_rfl) (by kernel_rfl) (fun _ _ _ h => h) (Or.inl ⟨by rfl, ?_⟩) (by assumption) ?_
      rotate_left
      · intro w hSw
        (try dsimp only at hSw)
        obtain ⟨h1, h2, h3, h4⟩ := hSw; (go_simp; try (with_reducible rfl))
      try simp only [Act.put, List.setIfInBounds_toArray, List.set_cons_zero, List.set_cons_succ]
      refine HL.take_ (i := 30) (oi := { dst := some 139, op := .move (.tmp 138), type := 4, pos := "law.go:90", after := #[{ on := 29, ground := .data }, { on := 27, ground := .chain }], guard := none }) (v := ?_) rfl (by decide) (by kernel_rfl) (by kernel_rfl) (fun _ _ _ h => h) (Or.inl ⟨by rfl, ?_⟩) (by assumption) ?_
      rotate_left
      · intro w hSw
        (try dsimp only at hSw)
        obtain ⟨h1, h2, h3, h4⟩ := hSw; (go_simp; try (with_reducible rfl))
      try simp only [Act.put, List.setIfInBounds_toArray, List.set_cons_zero, List.set_cons_succ]
      refine HL.take_ (i := 31) (oi := { dst := some 140, op := .load 32 (.tmp 7), type := 32, pos := "law.go:90", after := #[{ on := 30, ground := .guard }], guard := some (30, true) }) (v := ?_) rfl (by decide) (by kernel_rfl) (by kernel_rfl) (fun _ _ _ h => h) (Or.inl ⟨by rfl, ?_⟩) (by assumption) ?_
      rotate_left
      · intro w hSw
        (try dsimp only at hSw)
        obtain ⟨h1, h2, h3, h4⟩ := hSw; (go_simp; try (with_reducible rfl))
      try simp only [Act.put, List.setIfInBounds_toArray, List.set_cons_zero, List.set_cons_succ]
      refine HL.take_ (i := 32) (oi := { dst := some 141, op := .load 32 (.tmp 7), type := 32, pos := "law.go:90", after := #[{ on := 30, ground := .guard }], guard := some (30, true) }) (v := ?_) rfl (by decide) (by kernel_rfl) (by kernel_rfl) (fun _ _ _ h => h) (Or.inl ⟨by rfl, ?_⟩) (by assumption) ?_
      rotate_left
      · intro w hSw
        (try dsimp only at hSw)
        obtain ⟨h1, h2, h3, h4⟩ := hSw; (go_simp; try (with_reducible rfl))
      try simp only [Act.put, List.setIfInBounds_toArray, List.set_cons_zero, List.set_cons_succ]
      refine HL.step_ (i := 33) (o := { dst := some 142, op := .call { callee := .value (.func 19), args := #[.tmp 140, .tmp 141], argTypes := #[32, 32] }, type := 4, pos := "law.go:90", after := #[{ on := 31, ground := .data }, { on := 32, ground := .data }, { on := 30, ground := .chain }, { on := 30, ground := .guard }], guard := some (30, true) }) rfl (by decide) (by kernel_rfl) (fun K hK => ?_)
      go_simp
      refine (equalM_calls _ _ _ X X T9.out.1 T9.out.1).mono ?_
      rw [sameM_refl]
      rintro e10 w10 ⟨rfl, hb10⟩
      have Q10 := Lib.hid (And.intro (blk_below Q9.out.1 hb10) (blk_below Q9.out.2 hb10))
      have T10 := Lib.hid (And.intro (T9.out.1.sub (sub_below hb10)) (T9.out.2.sub (sub_below hb10)))
      have G10 := Lib.hid (And.intro (sub_below hb10 _ _ G9.out.1) (sub_below hb10 _ _ G9.out.2))
      have B10 := Lib.hid (B9.out.trans (hb10.mono B9.out.size))
      have V10 := Lib.hid (And.intro (V9.out.1.sub (sub_below hb10)) (V9.out.2.sub (sub_below hb10)))
      clear hb10
      obtain ⟨c107, -, -⟩ := blk3 Q10.out.1
      obtain ⟨c108, -, -⟩ := blk3 Q10.out.2
      have g101 := G10.out.1
      have g102 := G10.out.2
      refine hK.out _ _ ⟨c107, c108, g101, g102⟩ (fun hHeld => ?_)
      clear hK K
      try simp only [Act.put, List.setIfInBounds_toArray, List.set_cons_zero, List.set_cons_succ]
      clear c107 c108 g101 g102
      refine HL.take_ (i := 34) (oi := { dst := some 143, op := .pick (.tmp 139) (.tmp 142) (.const (.bool false)), type := 4, pos := "law.go:90", after := #[{ on := 30, ground := .data }, { on := 33, ground := .data }], guard := none }) (v := ?_) rfl (by decide) (by kernel_rfl) (by kernel_rfl) (fun _ _ _ h => h) (Or.inl ⟨by rfl, ?_⟩) (by assumption) ?_
      rotate_left
      · intro w hSw
        (try dsimp only at hSw)
        obtain ⟨h1, h2, h3, h4⟩ := hSw; (go_simp; try (with_reducible rfl))
      try simp only [Act.put, List.setIfInBounds_toArray, List.set_cons_zero, List.set_cons_succ]
      refine HL.done_ (by kernel_rfl) ?_
      simp only [List.drop_succ_cons, List.drop_zero]
      clear hHeld
      go_wp2_with fail
      go_ret
      exact ⟨rfl, B10.out⟩
set_option maxRecDepth 20000 in
theorem moduleEqual_no (w : World) (g f e g' f' e' how : Nat) (aa aa' : Option Addr) (an ac an' ac' : Nat) (hm : an ≤ maxLen) (hm' : an' ≤ maxLen) (ha : ¬ (an ≤ 60 ∧ an' ≤ 60)) :
    Calls Try.prog 5 #[.agg #[.int .u8 g, .int .u8 f, .int .u8 e, .slice aa an ac], .agg #[.int .u8 g', .int .u8 f', .int .u8 e', .slice aa' an' ac'], .int .u8 how] w (YesE w) := by
  unfold maxLen at hm hm'
  by_cases h1 : an ≤ 60
  · have h2 : (60 : Int) < (an' : Int) := by omega
    have h3 : ¬ (60 : Int) < (an : Int) := by omega
    clear ha
    go_enter Try.func5, Try.ntmps5
    go_wp2_with fail
    refine (awake_calls _).mono ?_
    rintro e1 w1 ⟨rfl, hb1⟩
    obtain ⟨q1, q2⟩ := two_blocks hb1
    obtain ⟨c1, f1, z1⟩ := blk3 q1
    obtain ⟨c2, f2, z2⟩ := blk3 q2
    have HB1 := Lib.hid (two_below hb1)
    clear hb1 q1 q2
    go_wp2_with fail
    refine (awake_calls _).mono ?_
    rintro e2 w2 ⟨rfl, hb2⟩
    have HB2 := Lib.hid (HB1.out.trans (hb2.mono HB1.out.size))
    clear hb2
    go_wp2
    go_ret
    exact ⟨rfl, HB2.out⟩
  · have h2 : (60 : Int) < (an : Int) := by omega
    clear ha
    go_enter Try.func5, Try.ntmps5
    go_wp2_with fail
    refine (awake_calls _).mono ?_
    rintro e1 w1 ⟨rfl, hb1⟩
    obtain ⟨q1, q2⟩ := two_blocks hb1
    obtain ⟨c1, f1, z1⟩ := blk3 q1
    obtain ⟨c2, f2, z2⟩ := blk3 q2
    have HB1 := Lib.hid (two_below hb1)
    clear hb1 q1 q2
    go_wp2_with fail
    refine (awake_calls _).mono ?_
    rintro e2 w2 ⟨rfl, hb2⟩
    have HB2 := Lib.hid (HB1.out.trans (hb2.mono HB1.out.size))
    clear hb2
    go_wp2
    go_ret
    exact ⟨rfl, HB2.out⟩
end Go.Proofs.Ytjgijbaboekghaa

/-
  r05.Same (function 17).
-/
import Derived.Test.YtjgijbaboekghaaEqM
import Derived.Test.YtjgijbaboekghaaRefSame
set_option linter.unusedSimpArgs false
set_option linter.unusedVariables false
namespace Go.Proofs.Ytjgijbaboekghaa
open Go.RowKit
theorem sameM_s {x y : Mod} (h : x.strings ≠ y.strings) : sameM x y = false := by rw [sameM, decide_eq_false h]; simp
theorem sameM_f {x y : Mod} (h : sameFns x.funcs y.funcs = false) : sameM x y = false := by rw [sameM, h]; simp
set_option maxRecDepth 20000 in
set_option maxHeartbeats 4000000 in
theorem same17_calls (w : World) (v1 v2 : Value) (x y : Mod) (h1 : ReadsM w v1 x) (h2 : ReadsM w v2 y) :
    Calls Try.prog 17 #[v1, v2] w fun e w' => e = .returned (.bool (sameM x y)) ∧ Below w.heap.size w w' := by
  obtain ⟨sa, sn, sc, ga, gn, gc, fa, fn, fc, ea, en, ec, rfl, L1, L2, L3, L4, i1, i2, i3, i4, hs, hg, hf, he⟩ := h1.agg
  obtain ⟨sa', sn', sc', ga', gn', gc', fa', fn', fc', ea', en', ec', rfl, M1, M2, M3, M4, j1, j2, j3, j4, hs', hg', hf', he'⟩ := h2.agg
  have LS := Lib.hid (And.intro L1 M1)
  have LF := Lib.hid (And.intro L3 M3)
  have HS := Lib.hid (And.intro hs hs')
  have HG := Lib.hid (And.intro hg hg')
  have HF := Lib.hid (And.intro hf hf')
  have HE := Lib.hid (And.intro he he')
  clear h1 h2 hs hs' hg hg' hf hf' he he' L1 L2 L3 L4 M1 M2 M3 M4
  have hb0 : ∀ o1 o2, Below w.heap.size w ((w.alloc o1).alloc o2) := fun o1 o2 => ((Below.refl _ _).alloc (Nat.le_refl _) _).alloc (by simp) _
  have HB0 := Lib.hid hb0
  clear hb0
  by_cases hn : sn = sn'
  · subst hn
    go_enter Try.func17, Try.ntmps17
    go_wp2_with fail
    refine (sameInts_calls _ _ _ x.globals y.globals (HG.out.1.sub (sub_below (HB0.out _ _))) (HG.out.2.sub (sub_below (HB0.out _ _)))).mono ?_
    rintro e w2 ⟨rfl, m, hm⟩
    obtain ⟨hb, q1, q2⟩ := twoD hm
    have HB2 := Lib.hid ((HB0.out _ _).trans (hb.mono (HB0.out _ _).size))
    clear hb hm
    obtain ⟨c1, f1, z1⟩ := blk3 q1
    obtain ⟨c2, f2, z2⟩ := blk3 q2
    have Q := Lib.hid (And.intro q1 q2)
    clear q1 q2
    cases hA : (x.globals == y.globals) with
    | false =>
      have HA := Lib.hid hA
      clear hA
      go_wp2
      go_ret
      refine ⟨?_, HB2.out⟩
      rw [sameM, HA.out]
      simp
    | true =>
      have HA := Lib.hid hA
      clear hA
      go_wp2_with fail
      refine (sameInts_calls _ _ _ x.entries y.entries (HE.out.1.sub (sub_below HB2.out)) (HE.out.2.sub (sub_below HB2.out))).mono ?_
      rintro e w3 ⟨rfl, m', hm⟩
      have hbl : Below w2.heap.size w2 w3 := by rw [hm]; exact below_drewN _ _ _
      have Q3 := Lib.hid (And.intro (blk_below Q.out.1 hbl) (blk_below Q.out.2 hbl))
      have HB3 := Lib.hid (HB2.out.trans (hbl.mono HB2.out.size))
      clear hbl hm c1 f1 z1 c2 f2 z2
      obtain ⟨c1, f1, z1⟩ := blk3 Q3.out.1
      obtain ⟨c2, f2, z2⟩ := blk3 Q3.out.2
      cases hA : (x.entries == y.entries) with
      | false =>
        have HA2 := Lib.hid hA
        clear hA
        go_wp2
        go_ret
        refine ⟨?_, HB3.out⟩
        rw [sameM, HA2.out]
        simp
      | true =>
        have HA2 := Lib.hid hA
        clear hA
        by_cases hfn : fn = fn'
        · subst hfn
          go_wp2
          go_loopw [5] (fun iv wr => ∃ i : Nat, i ≤ sn ∧ iv = .int .i64 i ∧ Hid (∀ (j : Nat), j < i → x.strings[j]? = y.strings[j]?) ∧ Hid (∃ m, wr = w3.drewN m)) (fun iv _ => sn - (intOf iv).toNat)
          case atStart => exact ⟨0, Nat.zero_le _, rfl, fun j hj => by omega, 0, rfl⟩
          case round =>
            obtain ⟨i, hi, rfl, HQ, HW⟩ := hrel
            have hbl : Below w3.heap.size w3 wr := by obtain ⟨m, hm⟩ := HW.out; rw [hm]; exact below_drewN _ _ _
            clear c1 f1 z1 c2 f2 z2
            have Q4 := Lib.hid (And.intro (blk_below Q3.out.1 hbl) (blk_below Q3.out.2 hbl))
            obtain ⟨c1, f1, z1⟩ := blk3 Q4.out.1
            obtain ⟨c2, f2, z2⟩ := blk3 Q4.out.2
            have HB4 := Lib.hid (HB3.out.trans (hbl.mono HB3.out.size))
            clear hbl
            by_cases hlt : i < sn
            · obtain ⟨b1, o1, s, rfl, e1, x1⟩ := (HS.out.1.sub (sub_below HB4.out)).at hlt
              obtain ⟨b2, o2, t, rfl, e2, x2⟩ := (HS.out.2.sub (sub_below HB4.out)).at hlt
              have E1 := Lib.hid e1
              have E2 := Lib.hid e2
              clear e1 e2
              by_cases hk : s = t
              · subst hk
                go_wp2_with fail
                go_still (by kernel_rfl)
                go_wp2
                refine ⟨⟨i + 1, by omega, by go_num, fun j hj => ?_, drewS HW.out⟩, by simp [intOf]; omega⟩
                by_cases e : j = i
                · rw [e, E1.out, E2.out]
                · exact HQ.out j (by omega)
              · have hkn : (s.toList == t.toList) = false := by rw [beq_eq_false_iff_ne]; exact fun e => hk (bytes_ext e)
                have HK := Lib.hid hk
                clear hk
                go_wp2_with fail
                go_still (by kernel_rfl)
                go_wp2
                go_ret
                refine ⟨?_, HB4.out.drew⟩
                have hl : sameM x y = false := sameM_s (fun h => HK.out (by have := E1.out; rw [h, E2.out] at this; injection this with this; exact this.symm))
                rw [hl]; rfl
            · obtain rfl : sn = i := by omega
              have hss : x.strings = y.strings := of_decide_eq_true (els_eq (LS.out.1.symm.trans LS.out.2) (fun j hj => HQ.out j (by rw [LS.out.1]; exact hj)))
              have HSS := Lib.hid hss
              clear hss HQ HW
              obtain ⟨wo, rfl⟩ : ∃ wo : World, wo = wr := ⟨_, rfl⟩
              have Q5 := Lib.hid (And.intro Q4.out.1 Q4.out.2)
              go_wp2
              go_loopw [6] (fun iv wr => ∃ i : Nat, i ≤ fn ∧ iv = .int .i64 i ∧ Hid (∀ (j : Nat) (p q : Fn), j < i → x.funcs[j]? = some p → y.funcs[j]? = some q → sameFn p q = true) ∧ Hid (Below wo.heap.size wo wr)) (fun iv _ => fn - (intOf iv).toNat)
              case atStart => exact ⟨0, Nat.zero_le _, rfl, fun j p q hj => by omega, Below.refl _ _⟩
              case round =>
                obtain ⟨i, hi, rfl, HQ, HW⟩ := hrel
                clear c1 f1 z1 c2 f2 z2
                have Q6 := Lib.hid (And.intro (blk_below Q5.out.1 HW.out) (blk_below Q5.out.2 HW.out))
                obtain ⟨c1, f1, z1⟩ := blk3 Q6.out.1
                obtain ⟨c2, f2, z2⟩ := blk3 Q6.out.2
                have HB5 := Lib.hid (HB4.out.trans (HW.out.mono HB4.out.size))
                by_cases hlt : i < fn
                · obtain ⟨b1, o1, f, lv, sv, bv, rfl, e1, ⟨x0, x1, x2, x3, x4⟩, k1, k2, ⟨ba, bl, bc, rfl, kn, k3⟩⟩ := (HF.out.1.sub (sub_below HB5.out)).at hlt
                  obtain ⟨b2, o2, g, lv', sv', bv', rfl, e2, ⟨y0, y1, y2, y3, y4⟩, j1, j2, ⟨ba', bl', bc', rfl, jn, j3⟩⟩ := (HF.out.2.sub (sub_below HB5.out)).at hlt
                  obtain ⟨la, lc, rfl, ln⟩ := k1.shape
                  obtain ⟨ka, kc, rfl, kn⟩ := k2.shape
                  obtain ⟨la', lc', rfl, ln'⟩ := j1.shape
                  obtain ⟨ka', kc', rfl, kn'⟩ := j2.shape
                  have A1 : ∀ o, Sub wr (wr.alloc o) := fun o => sub_below ((Below.refl _ _).alloc (Nat.le_refl _) o)
                  have u0 := fun o => A1 o _ _ y0
                  have u1 := fun o => A1 o _ _ y1
                  have u2 := fun o => A1 o _ _ y2
                  have u3 := fun o => A1 o _ _ y3
                  have u4 := fun o => A1 o _ _ y4
                  clear A1
                  have K := Lib.hid (And.intro (And.intro k1 (And.intro k2 k3)) (And.intro j1 (And.intro j2 j3)))
                  have E := Lib.hid (And.intro e1 e2)
                  have b3 : ∀ o1 o2, Below wr.heap.size wr ((wr.alloc o1).alloc o2) := fun o1 o2 => ((Below.refl _ _).alloc (Nat.le_refl _) _).alloc (by simp) _
                  have B3 := Lib.hid b3
                  have HX : Hid (∀ w5, Below wr.heap.size wr w5 → Below w.heap.size w w5) := Lib.hid (fun w5 h => HB5.out.trans (h.mono HB5.out.size))
                  have HY : Hid (∀ w5, Below wr.heap.size wr w5 → Below wo.heap.size wo w5) := Lib.hid (fun w5 h => HW.out.trans (h.mono HW.out.size))
                  have HZ : Hid (sameFn f g = false → sameM x y = false) := Lib.hid (fun h => sameM_f (sameFns_at E.out.1 E.out.2 h))
                  clear b3 k1 k2 k3 j1 j2 j3 e1 e2
                  by_cases hnm : f.name = g.name
                  · by_cases hpr : f.params = g.params
                    · obtain ⟨fnm, hfn⟩ : ∃ z, z = f.name := ⟨_, rfl⟩
                      obtain ⟨fp, hfp⟩ : ∃ z, z = f.params := ⟨_, rfl⟩
                      rw [← hfn] at x0 hnm
                      rw [← hfp] at x1 hpr
                      simp only [← hnm, ← hpr] at y0 y1 u0 u1
                      have HN := Lib.hid (And.intro (hfn.symm.trans hnm) (hfp.symm.trans hpr))
                      clear hfn hfp hnm hpr
                      go_wp2_with fail
                      refine (sameInts_calls _ _ _ f.locals g.locals (K.out.1.1.sub (sub_below (B3.out _ _))) (K.out.2.1.sub (sub_below (B3.out _ _)))).mono ?_
                      rintro e w5 ⟨rfl, m5, hm⟩
                      obtain ⟨hb, q1, q2⟩ := twoD hm
                      have HB6 := Lib.hid ((B3.out _ _).trans (hb.mono (B3.out _ _).size))
                      clear c1 f1 z1 c2 f2 z2 hm x0 x1 x2 x3 x4 y0 y1 y2 y3 y4 u0 u1 u2 u3 u4
                      have Q7 := Lib.hid (And.intro (blk_below Q6.out.1 HB6.out) (blk_below Q6.out.2 HB6.out))
                      obtain ⟨c3, f3, z3⟩ := blk3 q1
                      obtain ⟨c4, f4, z4⟩ := blk3 q2
                      have R7 := Lib.hid (And.intro q1 q2)
                      clear q1 q2 hb
                      cases hA : (f.locals == g.locals) with
                      | false =>
                        have HL := Lib.hid (HZ.out (by rw [sameFn, hA]; simp))
                        clear hA
                        go_wp2
                        go_ret
                        refine ⟨?_, HX.out _ HB6.out⟩
                        rw [HL.out]; rfl
                      | true =>
                        have HA3 := Lib.hid hA
                        clear hA
                        go_wp2_with fail
                        refine (sameInts_calls _ _ _ f.sites g.sites (K.out.1.2.1.sub (sub_below HB6.out)) (K.out.2.2.1.sub (sub_below HB6.out))).mono ?_
                        rintro e w6 ⟨rfl, m6, hm⟩
                        have hbl : Below w5.heap.size w5 w6 := by rw [hm]; exact below_drewN _ _ _
                        have R8 := Lib.hid (And.intro (blk_below R7.out.1 hbl) (blk_below R7.out.2 hbl))
                        have HB7 := Lib.hid (HB6.out.trans (hbl.mono HB6.out.size))
                        clear hbl hm c3 f3 z3 c4 f4 z4
                        obtain ⟨c3, f3, z3⟩ := blk3 R8.out.1
                        obtain ⟨c4, f4, z4⟩ := blk3 R8.out.2
                        cases hA : (f.sites == g.sites) with
                        | false =>
                          have HL := Lib.hid (HZ.out (by rw [sameFn, hA]; simp))
                          clear hA
                          go_wp2
                          go_ret
                          refine ⟨?_, HX.out _ HB7.out⟩
                          rw [HL.out]; rfl
                        | true =>
                          have HA4 := Lib.hid hA
                          clear hA
                          go_wp2_with fail
                          refine (same14_calls _ f.body g.body _ _ _ _ _ _ (K.out.1.2.2.below HB7.out) (K.out.2.2.2.below HB7.out)).mono ?_
                          rintro e w7 ⟨rfl, m7, hm⟩
                          have hbl : Below w6.heap.size w6 w7 := by rw [hm]; exact below_drewN _ _ _
                          have HB8 := Lib.hid (HB7.out.trans (hbl.mono HB7.out.size))
                          clear hbl hm c3 f3 z3 c4 f4 z4
                          cases hA : (sameB f.body g.body) with
                          | false =>
                            have HL := Lib.hid (HZ.out (by rw [sameFn, hA]; simp))
                            clear hA
                            go_wp2
                            go_ret
                            refine ⟨?_, HX.out _ HB8.out⟩
                            rw [HL.out]; rfl
                          | true =>
                            have HA5 := Lib.hid hA
                            clear hA
                            have Q9 := Lib.hid (And.intro (blk_below Q6.out.1 HB8.out) (blk_below Q6.out.2 HB8.out))
                            go_wp2
                            refine ⟨⟨i + 1, by omega, by go_num, ?_, HY.out _ HB8.out⟩, by simp [intOf]; omega⟩
                            show ∀ (j : Nat) (p q : Fn), _
                            intro j p q hj hx hy
                            by_cases e : j = i
                            · subst e
                              rw [E.out.1] at hx
                              rw [E.out.2] at hy
                              injection hx with hx
                              injection hy with hy
                              rw [← hx, ← hy, sameFn, HA3.out, HA4.out, HA5.out, HN.out.1, HN.out.2]
                              simp
                            · exact HQ.out j p q (by omega) hx hy
                    · have hpi : ¬ ((f.params : Nat) : Int) = ((g.params : Nat) : Int) := by omega
                      obtain ⟨fnm, hfn⟩ : ∃ z, z = f.name := ⟨_, rfl⟩
                      rw [← hfn] at x0 hnm
                      simp only [← hnm] at y0 u0
                      have HL := Lib.hid (HZ.out (by rw [sameFn]; simp [hpr]))
                      clear hfn hnm
                      go_wp2
                      go_ret
                      refine ⟨?_, HX.out _ (B3.out _ _)⟩
                      rw [HL.out]; rfl
                  · have HL := Lib.hid (HZ.out (by rw [sameFn]; simp [hnm]))
                    go_wp2
                    go_ret
                    refine ⟨?_, HX.out _ (B3.out _ _)⟩
                    rw [HL.out]; rfl
                · obtain rfl : fn = i := by omega
                  have hl : sameM x y = true := by
                    rw [sameM, HA.out, HA2.out, HSS.out, sameFns_true.2 ⟨by rw [← LF.out.1, ← LF.out.2], fun j p q hx hy => HQ.out j p q (by rw [LF.out.1]; exact (List.getElem?_eq_some_iff.1 hx).1) hx hy⟩]
                    simp
                  have HL := Lib.hid hl
                  clear hl
                  go_wp2
                  go_ret
                  refine ⟨?_, HB5.out⟩
                  rw [HL.out]; rfl
        · have hne : ¬ (fn : Int) = (fn' : Int) := by omega
          have hlen : sameM x y = false := sameM_f (sameFns_len (by rw [← LF.out.1, ← LF.out.2]; exact hfn))
          have HL := Lib.hid hlen
          clear hlen
          go_wp2
          go_ret
          refine ⟨?_, HB3.out⟩
          rw [HL.out]; rfl
  · have hne : ¬ (sn : Int) = (sn' : Int) := by omega
    have hlen : sameM x y = false := sameM_s (fun h => hn (by rw [LS.out.1, LS.out.2, h]))
    have HL := Lib.hid hlen
    clear hlen
    go_enter Try.func17, Try.ntmps17
    go_wp2
    go_ret
    refine ⟨?_, HB0.out _ _⟩
    rw [HL.out]; rfl
end Go.Proofs.Ytjgijbaboekghaa

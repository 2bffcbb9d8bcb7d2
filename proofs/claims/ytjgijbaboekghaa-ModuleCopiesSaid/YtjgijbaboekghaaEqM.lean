/-
  module.Equal (function 19).
-/
import Derived.Test.YtjgijbaboekghaaEqG
set_option linter.unusedSimpArgs false
set_option linter.unusedVariables false
namespace Go.Proofs.Ytjgijbaboekghaa
open Go.RowKit
/-- Are two modules one? -/
def sameM (x y : Mod) : Bool := decide (x.strings = y.strings) && x.globals == y.globals && x.entries == y.entries && sameFns x.funcs y.funcs
theorem ReadsM.agg {w : World} {v : Value} {m : Mod} (h : ReadsM w v m) : ∃ sa sn sc ga gn gc fa fn fc ea en ec, v = .agg #[.slice sa sn sc, .slice ga gn gc, .slice fa fn fc, .slice ea en ec] ∧ sn = m.strings.length ∧ gn = m.globals.length ∧ fn = m.funcs.length ∧ en = m.entries.length ∧ sn ≤ 1000 ∧ gn ≤ 1000 ∧ fn ≤ 1000 ∧ en ≤ 1000 ∧
    ReadsS w (.slice sa sn sc) m.strings ∧ ReadsI w (.slice ga gn gc) m.globals ∧ ReadsF w (.slice fa fn fc) m.funcs ∧ ReadsI w (.slice ea en ec) m.entries := by
  obtain ⟨sv, gv, fv, ev, rfl, h1, h2, h3, h4⟩ := h
  obtain ⟨sa, sc, rfl, i1⟩ := h1.shape
  obtain ⟨ga, gc, rfl, i2⟩ := h2.shape
  obtain ⟨fa, fc, rfl, i3⟩ := h3.shape
  obtain ⟨ea, ec, rfl, i4⟩ := h4.shape
  exact ⟨sa, _, sc, ga, _, gc, fa, _, fc, ea, _, ec, rfl, rfl, rfl, rfl, rfl, i1, i2, i3, i4, h1, h2, h3, h4⟩
set_option maxRecDepth 20000 in
set_option maxHeartbeats 4000000 in
theorem equalM_calls (w : World) (v1 v2 : Value) (x y : Mod) (h1 : ReadsM w v1 x) (h2 : ReadsM w v2 y) :
    Calls Try.prog 19 #[v1, v2] w fun e w' => e = .returned (.bool (sameM x y)) ∧ Below w.heap.size w w' := by
  obtain ⟨sa, sn, sc, ga, gn, gc, fa, fn, fc, ea, en, ec, rfl, -, -, -, -, i1, i2, i3, i4, hs, hg, hf, he⟩ := h1.agg
  obtain ⟨sa', sn', sc', ga', gn', gc', fa', fn', fc', ea', en', ec', rfl, -, -, -, -, j1, j2, j3, j4, hs', hg', hf', he'⟩ := h2.agg
  have HS := Lib.hid (And.intro hs hs')
  have HG := Lib.hid (And.intro hg hg')
  have HF := Lib.hid (And.intro hf hf')
  have HE := Lib.hid (And.intro he he')
  clear h1 h2 hs hs' hg hg' hf hf' he he'
  have hb0 : ∀ o1 o2, Below w.heap.size w ((w.alloc o1).alloc o2) := fun o1 o2 => ((Below.refl _ _).alloc (Nat.le_refl _) _).alloc (by simp) _
  have HB0 := Lib.hid hb0
  clear hb0
  go_enter Try.func19, Try.ntmps19
  go_wp2_with fail
  refine (equalStrs_calls _ _ _ x.strings y.strings (HS.out.1.sub (sub_below (HB0.out _ _))) (HS.out.2.sub (sub_below (HB0.out _ _)))).mono ?_
  rintro e w2 ⟨rfl, m, hm⟩
  obtain ⟨hb, q1, q2⟩ := twoD hm
  have HB2 := Lib.hid ((HB0.out _ _).trans (hb.mono (HB0.out _ _).size))
  clear hb hm
  obtain ⟨c1, f1, z1⟩ := blk3 q1
  obtain ⟨c2, f2, z2⟩ := blk3 q2
  have Q := Lib.hid (And.intro q1 q2)
  clear q1 q2
  cases hA : (decide (x.strings = y.strings)) with
  | false =>
    have HA := Lib.hid hA
    clear hA
    go_wp2
    go_ret
    refine ⟨?_, HB2.out⟩
    rw [sameM, HA.out]
    simp
  | true =>
    have HA := Lib.hid hA
    clear hA
    go_wp2_with fail
    refine (equalInts_calls _ _ _ x.globals y.globals (HG.out.1.sub (sub_below HB2.out)) (HG.out.2.sub (sub_below HB2.out))).mono ?_
    rintro e w3 ⟨rfl, m', hm⟩
    have hbl : Below w2.heap.size w2 w3 := by rw [hm]; exact below_drewN _ _ _
    have Q3 := Lib.hid (And.intro (blk_below Q.out.1 hbl) (blk_below Q.out.2 hbl))
    have HB3 := Lib.hid (HB2.out.trans (hbl.mono HB2.out.size))
    clear hbl hm c1 f1 z1 c2 f2 z2
    obtain ⟨c1, f1, z1⟩ := blk3 Q3.out.1
    obtain ⟨c2, f2, z2⟩ := blk3 Q3.out.2
    cases hA : (x.globals == y.globals) with
    | false =>
      have HA2 := Lib.hid hA
      clear hA
      go_wp2
      go_ret
      refine ⟨?_, HB3.out⟩
      rw [sameM, HA2.out]
      simp
    | true =>
      have HA2 := Lib.hid hA
      clear hA
      go_wp2_with fail
      refine (equalInts_calls _ _ _ x.entries y.entries (HE.out.1.sub (sub_below HB3.out)) (HE.out.2.sub (sub_below HB3.out))).mono ?_
      rintro e w4 ⟨rfl, m', hm⟩
      have hbl : Below w3.heap.size w3 w4 := by rw [hm]; exact below_drewN _ _ _
      have Q4 := Lib.hid (And.intro (blk_below Q3.out.1 hbl) (blk_below Q3.out.2 hbl))
      have HB4 := Lib.hid (HB3.out.trans (hbl.mono HB3.out.size))
      clear hbl hm c1 f1 z1 c2 f2 z2
      obtain ⟨c1, f1, z1⟩ := blk3 Q4.out.1
      obtain ⟨c2, f2, z2⟩ := blk3 Q4.out.2
      cases hA : (x.entries == y.entries) with
      | false =>
        have HA3 := Lib.hid hA
        clear hA
        go_wp2
        go_ret
        refine ⟨?_, HB4.out⟩
        rw [sameM, HA3.out]
        simp
      | true =>
        have HA3 := Lib.hid hA
        clear hA
        go_wp2_with fail
        refine (equalFns_calls _ _ _ x.funcs y.funcs (HF.out.1.sub (sub_below HB4.out)) (HF.out.2.sub (sub_below HB4.out))).mono ?_
        rintro e w5 ⟨rfl, hbl⟩
        have HB5 := Lib.hid (HB4.out.trans (hbl.mono HB4.out.size))
        clear hbl c1 f1 z1 c2 f2 z2
        go_wp2
        go_ret
        refine ⟨?_, HB5.out⟩
        rw [sameM, HA.out, HA2.out, HA3.out]
        rfl
end Go.Proofs.Ytjgijbaboekghaa

/-
  module.sameFunc (function 40).
-/
import Derived.Test.YtjgijbaboekghaaEqS
import Derived.Test.YtjgijbaboekghaaSameB
set_option linter.unusedSimpArgs false
set_option linter.unusedVariables false
namespace Go.Proofs.Ytjgijbaboekghaa
open Go.RowKit
/-- Are two functions one? -/
def sameFn (f g : Fn) : Bool := f.name == g.name && f.params == g.params && f.locals == g.locals && f.sites == g.sites && sameB f.body g.body
theorem twoD {w w2 : World} {o1 o2 : Obj} {m : Nat} (h : w2 = ((w.alloc o1).alloc o2).drewN m) : Below ((w.alloc o1).alloc o2).heap.size ((w.alloc o1).alloc o2) w2 ∧ w2.heap[w.heap.size]? = some o1 ∧ w2.heap[w.heap.size + 1]? = some o2 := by
  have hb : Below ((w.alloc o1).alloc o2).heap.size ((w.alloc o1).alloc o2) w2 := by rw [h]; exact below_drewN _ _ _
  exact ⟨hb, two_blocks hb⟩
set_option maxRecDepth 20000 in
theorem sameFn_calls (w : World) (f g : Fn) (lv sv lv' sv' : Value) (ba ba' : Option Addr) (bl bl' bc bc' : Nat)
    (h1 : ReadsI w lv f.locals) (h2 : ReadsI w lv' g.locals) (h3 : ReadsI w sv f.sites) (h4 : ReadsI w sv' g.sites) (h5 : ReadsBody w ba bl f.body) (h6 : ReadsBody w ba' bl' g.body) :
    Calls Try.prog 40 #[.agg #[.int .i64 f.name, .int .i64 (f.params : Nat), lv, sv, .slice ba bl bc], .agg #[.int .i64 g.name, .int .i64 (g.params : Nat), lv', sv', .slice ba' bl' bc']] w
      fun e w' => e = .returned (.bool (sameFn f g)) ∧ Below w.heap.size w w' := by
  have H1 := Lib.hid h1
  have H2 := Lib.hid h2
  have H3 := Lib.hid h3
  have H4 := Lib.hid h4
  have H5 := Lib.hid h5
  have H6 := Lib.hid h6
  clear h1 h2 h3 h4 h5 h6
  have hb0 : ∀ o1 o2, Below w.heap.size w ((w.alloc o1).alloc o2) := fun o1 o2 => ((Below.refl _ _).alloc (Nat.le_refl _) _).alloc (by simp) _
  have HB0 := Lib.hid hb0
  clear hb0
  by_cases hn : f.name = g.name
  · by_cases hp : f.params = g.params
    · obtain ⟨fn, hfn⟩ : ∃ z, z = f.name := ⟨_, rfl⟩
      obtain ⟨fp, hfp⟩ : ∃ z, z = f.params := ⟨_, rfl⟩
      rw [← hfn, ← hfp, ← hn, ← hp, ← hfn, ← hfp]
      have HF := Lib.hid (And.intro (And.intro hfn hfp) (And.intro hn hp))
      clear hfn hfp hn hp
      go_enter Try.func40, Try.ntmps40
      go_wp2_with fail
      refine (equalInts_calls _ _ _ f.locals g.locals (H1.out.sub (sub_below (HB0.out _ _))) (H2.out.sub (sub_below (HB0.out _ _)))).mono ?_
      rintro e w2 ⟨rfl, m, hm⟩
      obtain ⟨hb, q1, q2⟩ := twoD hm
      have HB2 := Lib.hid ((HB0.out _ _).trans (hb.mono (HB0.out _ _).size))
      clear hb hm
      have d3 : w2.cell? ⟨w.heap.size, 3, none⟩ = some sv := by rw [blk_cell q1]; rfl
      have e3 : w2.cell? ⟨w.heap.size + 1, 3, none⟩ = some sv' := by rw [blk_cell q2]; rfl
      have d4 : w2.cell? ⟨w.heap.size, 4, none⟩ = some (.slice ba bl bc) := by rw [blk_cell q1]; rfl
      have e4 : w2.cell? ⟨w.heap.size + 1, 4, none⟩ = some (.slice ba' bl' bc') := by rw [blk_cell q2]; rfl
      clear q1 q2
      cases hA : (f.locals == g.locals) with
      | false =>
        have HA := Lib.hid hA
        clear hA
        go_wp2
        go_ret
        refine ⟨?_, HB2.out⟩
        rw [sameFn, HA.out]
        simp
      | true =>
        have HA := Lib.hid hA
        clear hA
        go_wp2_with fail
        refine (equalInts_calls _ _ _ f.sites g.sites (H3.out.sub (sub_below HB2.out)) (H4.out.sub (sub_below HB2.out))).mono ?_
        rintro e w3 ⟨rfl, m', hm⟩
        have hbl : Below w2.heap.size w2 w3 := by rw [hm]; exact below_drewN _ _ _
        have d5 : w3.cell? ⟨w.heap.size, 4, none⟩ = some (.slice ba bl bc) := by rw [hm]; exact d4
        have e5 : w3.cell? ⟨w.heap.size + 1, 4, none⟩ = some (.slice ba' bl' bc') := by rw [hm]; exact e4
        have HB3 := Lib.hid (HB2.out.trans (hbl.mono HB2.out.size))
        clear hbl hm
        cases hS : (f.sites == g.sites) with
        | false =>
          have HS := Lib.hid hS
          clear hS
          go_wp2
          go_ret
          refine ⟨?_, HB3.out⟩
          rw [sameFn, HS.out]
          simp
        | true =>
          have HS := Lib.hid hS
          clear hS
          go_wp2_with fail
          refine (same15_calls w3 f.body g.body _ _ _ _ _ _ (H5.out.below HB3.out) (H6.out.below HB3.out)).mono ?_
          rintro e w4 ⟨rfl, hb⟩
          have HB4 := Lib.hid (HB3.out.trans (hb.mono HB3.out.size))
          clear hb
          go_wp2
          go_ret
          refine ⟨?_, HB4.out⟩
          obtain ⟨_, hn, hp⟩ := HF.out
          rw [sameFn, HA.out, HS.out]
          simp [hn, hp]
    · obtain ⟨fn, hfn⟩ : ∃ z, z = f.name := ⟨_, rfl⟩
      rw [← hfn, ← hn, ← hfn]
      have HF := Lib.hid hfn
      clear hfn hn
      have hpi : ¬ ((f.params : Nat) : Int) = ((g.params : Nat) : Int) := by omega
      go_enter Try.func40, Try.ntmps40
      go_wp2
      go_ret
      refine ⟨?_, HB0.out _ _⟩
      rw [sameFn]
      simp [hp]
  · go_enter Try.func40, Try.ntmps40
    go_wp2
    go_ret
    refine ⟨?_, HB0.out _ _⟩
    rw [sameFn]
    simp [hn]
end Go.Proofs.Ytjgijbaboekghaa

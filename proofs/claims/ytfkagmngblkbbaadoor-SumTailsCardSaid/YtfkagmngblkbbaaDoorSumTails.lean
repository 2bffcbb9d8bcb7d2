/-
  weathervanelaw02.SumTails: whatever bytes it is handed, it returns true; its argument reads behind the call as it did. Condition: the table of the half bytes lies as start-up lays it (tied to the program's text by the card).
-/
import Derived.Test.YtfkagmngblkbbaaDoorAwake
import Derived.Test.YtfkagmngblkbbaaDoorLiftc
import Derived.Test.YtfkagmngblkbbaaDoorSealc
namespace Go.Proofs.YtfkagmngblkbbaaDoor.lawSumTails
open Go.ChangeShapes Go.WideShapes Go.ChangeAt Go.RowKit Crc
set_option maxHeartbeats 400000 in
theorem walk_yes (w : World) (a : Option Addr) (len cap : Nat) (xs : List Nat) (hx : Came w a len cap xs) (ht : Table w) (h : len ≤ 300) :
    Calls Tryd.prog 5 #[.slice a len cap] w fun e w' => e = .returned (.bool true) ∧ Below w.heap.size w w' := by
  have HT := Lib.hid ht
  have HX := Lib.hid hx
  clear ht hx
  go_enter Tryd.func5, Tryd.ntmps5
  go_wp2_with fail
  refine (awake_calls _ HT.out).mono ?_
  rintro e w1 ⟨rfl, hb⟩
  have HB := Lib.hid hb
  clear hb
  go_wp2_with fail
  refine (seal_calls _ _ _ _ xs (HX.out.1.below HB.out) HX.out.2.1 (by omega) (HT.out.below HB.out)).mono ?_
  rintro e w2 ⟨v, rfl, hown, hb⟩
  obtain ⟨A, n, c, rfl, hAc, hnc, hr⟩ := hown.slice (sealed_lt xs HX.out.1.2.1 _)
  have HR := Lib.hid hr
  have HB2 := Lib.hid (HB.out.trans (hb.mono HB.out.size))
  clear hb hr hown hAc
  go_wp2_with fail
  refine (of_calls _ _ _ _ _ HR.out (HT.out.below HB2.out)).mono ?_
  rintro e w3 ⟨rfl, rfl⟩
  rw [sumOf_seal]
  go_wp2_with fail
  refine (of_calls _ _ _ _ [] ⟨rfl, by simp, by decide, fun h => absurd h (by decide)⟩ (HT.out.below HB2.out)).mono ?_
  rintro e w3 ⟨rfl, rfl⟩
  rw [sumOf_nil]
  go_wp2_with fail
  refine (refseal_calls _ _ _ _ xs (HX.out.1.below HB2.out) HX.out.2.1 (by omega)).mono ?_
  rintro e w3 ⟨v, rfl, hown, hb⟩
  obtain ⟨A3, n3, c3, rfl, hAc3, hnc3, hr⟩ := hown.slice (sealed_lt xs HX.out.1.2.1 _)
  have HR3 := Lib.hid hr
  have HB3 := Lib.hid (HB2.out.trans (hb.mono HB2.out.size))
  clear hb hr hown hAc3
  go_wp2_with fail
  refine (of_calls _ _ _ _ _ HR3.out (HT.out.below HB3.out)).mono ?_
  rintro e w4 ⟨rfl, rfl⟩
  rw [sumOf_seal]
  go_wp2
  go_ret
  exact ⟨rfl, HB3.out⟩
set_option maxHeartbeats 400000 in
theorem walk_no (w : World) (a : Option Addr) (len cap : Nat) (hm : len ≤ 9223372036854775807) (ht : Table w) (h : ¬ len ≤ 300) :
    Calls Tryd.prog 5 #[.slice a len cap] w fun e w' => e = .returned (.bool true) ∧ Below w.heap.size w w' := by
  have HT := Lib.hid ht
  clear ht
  go_enter Tryd.func5, Tryd.ntmps5
  go_wp2_with fail
  refine (awake_calls _ HT.out).mono ?_
  rintro e w1 ⟨rfl, hb⟩
  have HB := Lib.hid hb
  clear hb
  go_wp2_with fail
  refine (awake_calls _ (HT.out.below HB.out)).mono ?_
  rintro e w2 ⟨rfl, hb⟩
  have HB2 := Lib.hid hb
  clear hb
  go_wp2
  go_ret
  exact ⟨rfl, HB.out.trans (HB2.out.mono HB.out.size)⟩
theorem walk (w : World) (a0 : Option Addr) (l0 c0 : Nat) (x0 : List Nat) (h0 : Came w a0 l0 c0 x0) (ht : Table w) :
    Calls Tryd.prog 5 #[.slice a0 l0 c0] w fun e w' => e = .returned (.bool true) ∧ Below w.heap.size w w' := by
  by_cases h : l0 ≤ 300
  · exact walk_yes w a0 l0 c0 x0 h0 ht h
  · exact walk_no w a0 l0 c0 h0.1.2.2.1 ht h

theorem laid_met (os : Os) : laidMet Tryd.prog Rows.sumTailsRow.laid ((laidWorld os).forCall (fun _ _ => 0) ⟨#[], #[.slice none 0 0], []⟩).memory :=
  laidMet_of_run' 8 (by kernel_rfl) (by kernel_rfl)
theorem reads (os : Os) {H : Type} (enc : TypeId × Value → H) : ∃ places, DataW.whole enc Tryd.prog ((laidWorld os).forCall (fun _ _ => 0) ⟨#[], #[.slice none 0 0], []⟩).memory Tryd.f5.params.toList Rows.sumTailsSpec.vars false #[(.slice none 0 0 : Value)].toList 8 = some ([.nil], [], places) :=
  ⟨[], by kernel_rfl⟩

set_option maxRecDepth 100000 in
theorem lifted (os : Os) (started : os.Started) (H : Type) (enc : TypeId × Value → H) (F : Stop.Interp) :
    ReturnsInHanded {} Tryd.checked os 5 .any ((OpenSpec.ofChange Rows.sumTailsSpec).preRow enc Tryd.prog Tryd.f5 Rows.sumTailsRow.domain false Rows.sumTailsRow.laid) (((OpenSpec.ofChange Rows.sumTailsSpec).at F).post enc Tryd.prog Tryd.f5 false true false false) := by
  obtain ⟨places, hx⟩ := reads os enc
  refine returnsInHanded_of_row (C := Tryd.checked) (s := OpenSpec.ofChange Rows.sumTailsSpec) own started (by kernel_rfl) Tryd.func5
    (witness_row_at (enc := enc) (C := Tryd.checked) false (laidWorld os) #[.slice none 0 0] rfl (by kernel_rfl) (by kernel_rfl) (by kernel_rfl)
      (OpenSpec.preRow_of_cond 8 hx (by kernel_rfl) (fun k hk => by cases hk) (by kernel_rfl) (laid_met os))) ?_
  intro W base args ds gs before hval0 hW _ _ _ hL _ _
  have hval : ∀ (j : Nat) t v, Tryd.f5.params[j]? = some t → args[j]? = some v → Value.okWide Tryd.prog W .any base t v := hval0
  have hW' := hW
  obtain ⟨p, q, hA0, hV, rfl, hfz, hnd⟩ := hW
  have hA : DataW.TrodAll enc Tryd.prog W 0 (fun _ => true) true Tryd.f5.params.toList args.toList ds p := hA0
  rw [Tryd.params5] at hA hval
  obtain ⟨v0, vs0, d0, ds0, p0, q0, hargs, rfl, rfl, h0, r0⟩ := trodAll_cons hA
  obtain ⟨rfl, rfl, rfl⟩ := trodAll_nil r0
  obtain rfl : args = #[v0] := by cases args; simp_all
  obtain ⟨rfl, rfl⟩ := trodVars_none hV
  obtain ⟨a0, len0, cap0, rfl⟩ := okWide_slice Tryd.underlying22 (hval 0 22 v0 rfl rfl)
  have k0 := h0
  have lt0 : ∀ x ∈ p0, x.block < W.heap.size := by obtain ⟨m, hm⟩ := k0; exact DataW.trod_lt m _ _ _ hm
  obtain ⟨x0, w0⟩ := open_came h0
  clear hA0 hval0
  refine (walk W a0 len0 cap0 x0 w0 (table_of hL)).mono fun e W' ⟨he, bel⟩ => ?_
  subst he
  exact ⟨_, rfl, _, _, _, [], _, [], hW', trodAll_mk1 (shut_bool Tryd.underlying4 _), (trodAll_cons_mk (Below.trod laidOut (by kernel_rfl) (of_decide_eq_true (by kernel_rfl)) k0 bel lt0) trodAll_mk0), rfl, bel.frame _, fun h => by cases h⟩

theorem said : Rows.SumTailsSaid :=
  OpenClaim.holds_of_cond 5 Tryd.f5 rfl rfl rfl rfl rfl rfl rfl ⟨rfl, rfl, rfl, rfl, rfl⟩ rfl rfl rfl rfl rfl (by kernel_rfl) Tryd.func5 (by kernel_rfl)
    (of_decide_eq_true (by kernel_rfl)) (by unfold Func.isWrapper; first | (rw [if_pos (by decide +kernel)]; kernel_rfl) | (rw [if_neg (by decide +kernel)]; exact ⟨rfl, rfl⟩))
    (fun os started H enc _ F => by rw [OpenClaim.pre_eq_preRow]; exact lifted os started H enc F)

/-- No parameter wants a stand-in; the program's own looks are off. -/
theorem plain (f : FuncId) (fn : Func) (hf : Tryd.pinned.checked.prog.funcNamed "weathervane/weathervanelaw02.SumTails" = some f) (hfn : Tryd.pinned.checked.prog.funcs[f]? = some fn) :
    false = Tryd.pinned.checked.prog.looks [] ∧ ∀ (j : Nat) t, fn.params[j]? = some t → Tryd.pinned.checked.prog.wantsStandIn t = false := by
  obtain rfl : f = 5 := Option.some.inj ((show Tryd.prog.funcNamed "weathervane/weathervanelaw02.SumTails" = some 5 by kernel_rfl).symm.trans hf) |>.symm
  obtain rfl : fn = Tryd.f5 := (Option.some.inj (Tryd.func5.symm.trans hfn)).symm
  refine ⟨by kernel_rfl, fun j t ht => ?_⟩
  rw [Tryd.params5] at ht
  have ht := Array.mem_of_getElem? ht
  simp at ht
  subst ht
  exact (show Tryd.prog.wantsStandIn 22 = false by kernel_rfl)

theorem card : Rows.SumTailsCardSaid :=
  Claim7.holds_tied_plain_at .later [] _ _ _ _ said (fun _ h => by cases h) (by kernel_rfl) (fun _ h => by cases h) sumTails_row_tie rfl ⟨rfl, rfl⟩ (by kernel_rfl) rfl plain (by kernel_rfl)
#print axioms card

end Go.Proofs.YtfkagmngblkbbaaDoor.lawSumTails

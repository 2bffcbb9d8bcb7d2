/-
  ModuleFlat, where what comes in is of bulk at most 1048576: module.Flat tells all statements in order, with how many blocks they stand in, just as the document's answer does. True, and what came in reads as it did.
-/
import Derived.Test.YtjgijbaboekghaaMflW
import Derived.Test.YtjgijbaboekghaaCameD
import Derived.JoinedCond
set_option linter.unusedSimpArgs false
namespace Go.Proofs.Ytjgijbaboekghaa.lawModuleFlat
open Go.ChangeShapes Go.WideShapes Go.ChangeAt Go.RowKit
set_option linter.unusedVariables false
theorem small {H : Type} {l : List (DataW H)} (h : Rows.uptoSmall H l = true) : Rows.uptoBulkAll l ≤ 1048576 := of_decide_eq_true h
set_option maxRecDepth 100000 in
theorem contract (H : Type) (enc : TypeId × Value → H) (W : World) (base : Nat) (args : Array Value) (ds gs : List (DataW H)) (before : List MemPlace)
    (hval0 : ∀ (j : Nat) t v, Try.f3.params[j]? = some t → args[j]? = some v → Value.okWide Try.prog W .any base t v)
    (hW : DataW.Whole enc Try.prog Try.f3.params.toList Rows.moduleFlatSpec.vars false W args.toList ds gs before) (hk : Rows.uptoSmall H (ds ++ gs) = true) :
    Calls Try.prog 3 args W fun e W' => ∃ v, e = .returned v ∧ Rows.moduleFlatSpec.post enc Try.prog Try.f3 false true false false W args v W' := by
  have hval : ∀ (j : Nat) t v, Try.f3.params[j]? = some t → args[j]? = some v → Value.okWide Try.prog W .any base t v := hval0
  have hW' := hW
  obtain ⟨p, q, hA0, hV, rfl, hfz, hnd⟩ := hW
  have hA : DataW.TrodAll enc Try.prog W 0 (fun _ => true) true Try.f3.params.toList args.toList ds p := hA0
  rw [Try.params3] at hA hval
  obtain ⟨v0, vs0, d0, ds0, p0, q0, hargs, rfl, rfl, h0, r0⟩ := trodAll_cons hA
  obtain ⟨v1, vs1, d1, ds1, p1, q1, rfl, rfl, rfl, h1, r1⟩ := trodAll_cons r0
  obtain ⟨rfl, rfl, rfl⟩ := trodAll_nil r1
  obtain rfl : args = #[v0, v1] := by cases args; simp_all
  obtain ⟨rfl, rfl⟩ := trodVars_none hV
  have hbulk := small hk
  simp only [List.append_nil, Rows.uptoBulkAll] at hbulk
  obtain ⟨cs, rfl, hsz⟩ := okWide_struct Try.underlying25 (hval 1 25 v1 rfl rfl)
  rw [cells25] at hsz
  have k0 := h0
  have k1 := h1
  have lt0 : ∀ x ∈ p0, x.block < W.heap.size := by obtain ⟨m, hm⟩ := k0; exact DataW.trod_lt m _ _ _ hm
  have lt1 : ∀ x ∈ p1, x.block < W.heap.size := by obtain ⟨m, hm⟩ := k1; exact DataW.trod_lt m _ _ _ hm
  obtain ⟨fu0, c0⟩ := h0
  obtain ⟨fu1, c1⟩ := h1
  obtain ⟨g, f, e, aa, an, ac, hcs, hg, hf, he, han, hacts⟩ := came_draft (cs := cs.toList) (by simpa [Value.cells] using c1) (by simpa using hsz)
  obtain rfl : cs = #[.int .u8 (g : Nat), .int .u8 (f : Nat), .int .u8 (e : Nat), .slice aa an ac] := by rw [← Array.toList_inj]; exact hcs
  obtain ⟨ta, tn, tc, rfl⟩ := okWide_slice Try.underlying22 (hval 0 22 v0 rfl rfl)
  obtain ⟨_, T, hT, hTs⟩ := came_body fu0 ta tn tc _ (by simpa [Value.cells] using c0)
  have hsz2 : szL T ≤ 1048576 := by
    have : szL T ≤ Rows.uptoBulk d0 := hTs
    omega
  clear hA0 hval0
  have walk : Calls Try.prog 3 #[.slice ta tn tc, .agg #[.int .u8 (g : Nat), .int .u8 (f : Nat), .int .u8 (e : Nat), .slice aa an ac]] W (YesF W) := by
    by_cases h60 : an ≤ 60
    · obtain ⟨l, hl⟩ := hacts h60
      exact moduleFlat_walk W T ta tn tc g f e aa an ac l hT hsz2 hg hf he hl
    · exact moduleFlat_no W T ta tn tc g f e aa an ac hT han h60
  refine walk.mono fun e W' ⟨he, bel⟩ => ?_
  subst he
  exact ⟨_, rfl, _, _, _, [], _, [], hW', trodAll_mk1 (shut_bool Try.underlying4 _), (trodAll_cons_mk (Below.trod laidOut (by kernel_rfl) (of_decide_eq_true (by kernel_rfl)) k0 bel lt0) (trodAll_cons_mk (Below.trod laidOut (by kernel_rfl) (of_decide_eq_true (by kernel_rfl)) k1 bel lt1) trodAll_mk0)), rfl, bel.frame _, fun h => by cases h⟩
set_option maxRecDepth 100000 in
theorem lifted (os : Os) (started : os.Started) (H : Type) (enc : TypeId × Value → H) (F : Stop.Interp) :
    ReturnsInHanded {} Try.checked os 3 .any ((Rows.OpenSpec.upto Rows.moduleFlatSpec).pre6 enc Try.prog Try.f3 Rows.moduleFlatUptoRow.domain false) (((Rows.OpenSpec.upto Rows.moduleFlatSpec).at F).post enc Try.prog Try.f3 false true false false) := by
  refine returnsInHanded_of_cond (C := Try.checked) (s := Rows.OpenSpec.upto Rows.moduleFlatSpec) (k := Rows.uptoSmall) rfl own started (by kernel_rfl) Try.func3
    (OpenSpec.witness (enc := enc) (C := Try.checked) (s := Rows.OpenSpec.upto Rows.moduleFlatSpec) (k := Rows.uptoSmall) rfl false ⟨#[], #[.slice none 0 0, .agg #[.int .u8 0, .int .u8 0, .int .u8 0, .slice none 0 0]], []⟩ 8 (by kernel_rfl) (by kernel_rfl) (by kernel_rfl)
      (x := ([.nil, .agg [.lit (.int .u8 0), .lit (.int .u8 0), .lit (.int .u8 0), .nil]], [], [])) (by kernel_rfl) rfl (by kernel_rfl)) ?_
  intro W base args ds gs before hval hW _ hk _
  exact contract H enc W base args ds gs before hval hW hk

theorem proved : Rows.ModuleFlatUptoSaid :=
  OpenClaim.holds_of_cond 3 Try.f3 rfl rfl rfl rfl rfl rfl rfl ⟨rfl, rfl, rfl, rfl, rfl⟩ rfl rfl rfl rfl rfl (by kernel_rfl) Try.func3 (by kernel_rfl)
    (of_decide_eq_true (by kernel_rfl)) (by unfold Func.isWrapper; first | (rw [if_pos (by decide +kernel)]; kernel_rfl) | (rw [if_neg (by decide +kernel)]; exact ⟨rfl, rfl⟩))
    (fun os started H enc _ F => lifted os started H enc F)
#print axioms proved
end Go.Proofs.Ytjgijbaboekghaa.lawModuleFlat

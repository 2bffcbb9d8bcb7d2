/-
  CallsNames: calls by name are called whatever variables point to; others are not, where nothing is pointed to. Whatever draft came in: true, and it reads as it did.
-/
import Derived.Test.YtjgijbaboekghaaNmW
import Derived.Test.YtjgijbaboekghaaCameD
set_option linter.unusedSimpArgs false
namespace Go.Proofs.Ytjgijbaboekghaa.lawCallsNames
open Go.ChangeShapes Go.WideShapes Go.ChangeAt Go.RowKit
set_option linter.unusedVariables false
set_option maxRecDepth 100000 in
theorem lifted (os : Os) (started : os.Started) (H : Type) (enc : TypeId × Value → H) :
    ReturnsInHanded {} Try.checked os 8 .any (Rows.callsNamesSpec.pre6 enc Try.prog Try.f8 Rows.callsNamesRow.domain false) (Rows.callsNamesSpec.post enc Try.prog Try.f8 false true false false) := by
  refine returnsInHanded_of_change (C := Try.checked) own started (by kernel_rfl) Try.func8
    (ChangeSpec.witness6 (enc := enc) (C := Try.checked) false ⟨#[], #[.agg #[.int .u8 0, .int .u8 0, .int .u8 0, .slice none 0 0]], []⟩ 8 (by kernel_rfl) (by kernel_rfl) (by kernel_rfl) (by kernel_rfl)) ?_
  intro W base args ds gs before hval0 hW hcnd _
  have hval : ∀ (j : Nat) t v, Try.f8.params[j]? = some t → args[j]? = some v → Value.okWide Try.prog W .any base t v := hval0
  have hW' := hW
  obtain ⟨p, q, hA0, hV, rfl, hfz, hnd⟩ := hW
  have hA : DataW.TrodAll enc Try.prog W 0 (fun _ => true) true Try.f8.params.toList args.toList ds p := hA0
  rw [Try.params8] at hA hval
  obtain ⟨v0, vs0, d0, ds0, p0, q0, hargs, rfl, rfl, h0, r0⟩ := trodAll_cons hA
  obtain ⟨rfl, rfl, rfl⟩ := trodAll_nil r0
  obtain rfl : args = #[v0] := by cases args; simp_all
  obtain ⟨rfl, rfl⟩ := trodVars_none hV
  obtain ⟨cs, rfl, hsz⟩ := okWide_struct Try.underlying25 (hval 0 25 v0 rfl rfl)
  rw [cells25] at hsz
  have k0 := h0
  have lt0 : ∀ x ∈ p0, x.block < W.heap.size := by obtain ⟨m, hm⟩ := k0; exact DataW.trod_lt m _ _ _ hm
  obtain ⟨fu0, c0⟩ := h0
  obtain ⟨g, f, e, aa, an, ac, hcs, hg, hf, he, han, hacts⟩ := came_draft (cs := cs.toList) (by simpa [Value.cells] using c0) (by simpa using hsz)
  obtain rfl : cs = #[.int .u8 (g : Nat), .int .u8 (f : Nat), .int .u8 (e : Nat), .slice aa an ac] := by rw [← Array.toList_inj]; exact hcs
  clear hA0 hval0
  have walk : Calls Try.prog 8 #[.agg #[.int .u8 (g : Nat), .int .u8 (f : Nat), .int .u8 (e : Nat), .slice aa an ac]] W (Yes W) := by
    by_cases h60 : an ≤ 60
    · obtain ⟨l, hl⟩ := hacts h60
      exact callsNames_walk W g f e aa an ac l hg hf he hl
    · exact callsNames_no W g f e aa an ac han h60
  refine walk.mono fun e W' ⟨he, bel⟩ => ?_
  subst he
  exact ⟨_, rfl, _, _, _, [], _, [], hW', trodAll_mk1 (shut_bool Try.underlying4 _), (trodAll_cons_mk (Below.trod laidOut (by kernel_rfl) (of_decide_eq_true (by kernel_rfl)) k0 bel lt0) trodAll_mk0), rfl, bel.frame _, fun h => by cases h⟩

theorem proved : Rows.CallsNamesSaid :=
  OpenClaim.holds_of_wide 8 Try.f8 rfl rfl rfl rfl rfl rfl rfl ⟨rfl, rfl, rfl, rfl, rfl⟩ rfl rfl rfl rfl rfl (by kernel_rfl) Try.func8 (by kernel_rfl)
    (of_decide_eq_true (by kernel_rfl)) (by unfold Func.isWrapper; first | (rw [if_pos (by decide +kernel)]; kernel_rfl) | (rw [if_neg (by decide +kernel)]; exact ⟨rfl, rfl⟩))
    (fun os started H enc _ => lifted os started H enc)
#print axioms proved
end Go.Proofs.Ytjgijbaboekghaa.lawCallsNames

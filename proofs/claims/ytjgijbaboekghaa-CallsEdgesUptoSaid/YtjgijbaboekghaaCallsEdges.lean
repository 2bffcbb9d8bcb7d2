/-
  CallsEdges, where what comes in is of bulk at most 1048576: who is called by which call, as calls.Edges answers it, is what the document's answer says, by points that came in or by those that the document finds itself. True, and what came in reads as it did.
-/
import Derived.Test.YtjgijbaboekghaaEE
import Derived.Test.YtjgijbaboekghaaED
import Derived.Test.YtjgijbaboekghaaCameD
import Derived.JoinedCond
set_option linter.unusedSimpArgs false
namespace Go.Proofs.Ytjgijbaboekghaa.lawCallsEdges
open Go.ChangeShapes Go.WideShapes Go.ChangeAt Go.RowKit
set_option linter.unusedVariables false
theorem small {H : Type} {l : List (DataW H)} (h : Rows.uptoSmall H l = true) : Rows.uptoBulkAll l ≤ 1048576 := of_decide_eq_true h
set_option maxRecDepth 100000 in
theorem contract (H : Type) (enc : TypeId × Value → H) (W : World) (base : Nat) (args : Array Value) (ds gs : List (DataW H)) (before : List MemPlace)
    (hval0 : ∀ (j : Nat) t v, Try.f7.params[j]? = some t → args[j]? = some v → Value.okWide Try.prog W .any base t v)
    (hW : DataW.Whole enc Try.prog Try.f7.params.toList Rows.callsEdgesSpec.vars false W args.toList ds gs before) (hk : Rows.uptoSmall H (ds ++ gs) = true) :
    Calls Try.prog 7 args W fun e W' => ∃ v, e = .returned v ∧ Rows.callsEdgesSpec.post enc Try.prog Try.f7 false true false false W args v W' := by
  have hval : ∀ (j : Nat) t v, Try.f7.params[j]? = some t → args[j]? = some v → Value.okWide Try.prog W .any base t v := hval0
  have hW' := hW
  obtain ⟨p, q, hA0, hV, rfl, hfz, hnd⟩ := hW
  have hA : DataW.TrodAll enc Try.prog W 0 (fun _ => true) true Try.f7.params.toList args.toList ds p := hA0
  rw [Try.params7] at hA hval
  obtain ⟨v0, vs0, d0, ds0, p0, q0, hargs, rfl, rfl, h0, r0⟩ := trodAll_cons hA
  obtain ⟨v1, vs1, d1, ds1, p1, q1, rfl, rfl, rfl, h1, r1⟩ := trodAll_cons r0
  obtain ⟨v2, vs2, d2, ds2, p2, q2, rfl, rfl, rfl, h2, r2⟩ := trodAll_cons r1
  obtain ⟨rfl, rfl, rfl⟩ := trodAll_nil r2
  obtain rfl : args = #[v0, v1, v2] := by cases args; simp_all
  obtain ⟨rfl, rfl⟩ := trodVars_none hV
  have hbulk := small hk
  simp only [List.append_nil, Rows.uptoBulkAll] at hbulk
  obtain ⟨cs, rfl, hsz⟩ := okWide_struct Try.underlying25 (hval 0 25 v0 rfl rfl)
  rw [cells25] at hsz
  have k0 := h0
  have k1 := h1
  have k2 := h2
  have lt0 : ∀ x ∈ p0, x.block < W.heap.size := by obtain ⟨m, hm⟩ := k0; exact DataW.trod_lt m _ _ _ hm
  have lt1 : ∀ x ∈ p1, x.block < W.heap.size := by obtain ⟨m, hm⟩ := k1; exact DataW.trod_lt m _ _ _ hm
  have lt2 : ∀ x ∈ p2, x.block < W.heap.size := by obtain ⟨m, hm⟩ := k2; exact DataW.trod_lt m _ _ _ hm
  obtain ⟨fu0, c0⟩ := h0
  obtain ⟨fu1, c1⟩ := h1
  obtain ⟨fu2, c2⟩ := h2
  obtain ⟨g, f, e, aa, an, ac, hcs, hg, hf, he, han, hacts⟩ := came_draft (cs := cs.toList) (by simpa [Value.cells] using c0) (by simpa using hsz)
  obtain rfl : cs = #[.int .u8 (g : Nat), .int .u8 (f : Nat), .int .u8 (e : Nat), .slice aa an ac] := by rw [← Array.toList_inj]; exact hcs
  obtain ⟨pa, pn, pc, rfl⟩ := okWide_slice Try.underlying61 (hval 1 61 v1 rfl rfl)
  obtain ⟨own, rfl⟩ := okWide_bool Try.underlying4 (hval 2 4 v2 rfl rfl)
  have c1' : DataW.trod enc Try.prog W 0 (fun _ => true) true fu1 61 [.slice pa pn pc] = some (d1, p1) := by simpa [Value.cells] using c1
  obtain ⟨_, _, _, hpe, hpm⟩ := came_slice Try.underlying61 c1'
  have hpm' : pn ≤ maxLen := by injection hpe with _ e2 _; omega
  obtain ⟨ps, hps⟩ := came_points c1' (by show Rows.uptoBulk d1 ≤ 1048576; omega)
  clear hA0 hval0
  have walk : Calls Try.prog 7 #[.agg #[.int .u8 (g : Nat), .int .u8 (f : Nat), .int .u8 (e : Nat), .slice aa an ac], .slice pa pn pc, .bool own] W (Yes W) := by
    by_cases h60 : an ≤ 60
    · by_cases p60 : pn ≤ 60
      · obtain ⟨l, hl⟩ := hacts h60
        exact callsEdges_walk W g f e aa an ac l pa pn pc ps own hg hf he hl hps p60
      · exact callsEdges_no W g f e aa an ac pa pn pc own han hpm' (.inr p60)
    · exact callsEdges_no W g f e aa an ac pa pn pc own han hpm' (.inl h60)
  refine walk.mono fun e W' ⟨he, bel⟩ => ?_
  subst he
  exact ⟨_, rfl, _, _, _, [], _, [], hW', trodAll_mk1 (shut_bool Try.underlying4 _), (trodAll_cons_mk (Below.trod laidOut (by kernel_rfl) (of_decide_eq_true (by kernel_rfl)) k0 bel lt0) (trodAll_cons_mk (Below.trod laidOut (by kernel_rfl) (of_decide_eq_true (by kernel_rfl)) k1 bel lt1) (trodAll_cons_mk (Below.trod laidOut (by kernel_rfl) (of_decide_eq_true (by kernel_rfl)) k2 bel lt2) trodAll_mk0))), rfl, bel.frame _, fun h => by cases h⟩
set_option maxRecDepth 100000 in
theorem lifted (os : Os) (started : os.Started) (H : Type) (enc : TypeId × Value → H) (F : Stop.Interp) :
    ReturnsInHanded {} Try.checked os 7 .any ((Rows.OpenSpec.upto Rows.callsEdgesSpec).pre6 enc Try.prog Try.f7 Rows.callsEdgesUptoRow.domain false) (((Rows.OpenSpec.upto Rows.callsEdgesSpec).at F).post enc Try.prog Try.f7 false true false false) := by
  refine returnsInHanded_of_cond (C := Try.checked) (s := Rows.OpenSpec.upto Rows.callsEdgesSpec) (k := Rows.uptoSmall) rfl own started (by kernel_rfl) Try.func7
    (OpenSpec.witness (enc := enc) (C := Try.checked) (s := Rows.OpenSpec.upto Rows.callsEdgesSpec) (k := Rows.uptoSmall) rfl false ⟨#[], #[.agg #[.int .u8 0, .int .u8 0, .int .u8 0, .slice none 0 0], .slice none 0 0, .bool false], []⟩ 8 (by kernel_rfl) (by kernel_rfl) (by kernel_rfl)
      (x := ([.agg [.lit (.int .u8 0), .lit (.int .u8 0), .lit (.int .u8 0), .nil], .nil, .lit (.bool false)], [], [])) (by kernel_rfl) rfl (by kernel_rfl)) ?_
  intro W base args ds gs before hval hW _ hk _
  exact contract H enc W base args ds gs before hval hW hk

theorem proved : Rows.CallsEdgesUptoSaid :=
  OpenClaim.holds_of_cond 7 Try.f7 rfl rfl rfl rfl rfl rfl rfl ⟨rfl, rfl, rfl, rfl, rfl⟩ rfl rfl rfl rfl rfl (by kernel_rfl) Try.func7 (by kernel_rfl)
    (of_decide_eq_true (by kernel_rfl)) (by unfold Func.isWrapper; first | (rw [if_pos (by decide +kernel)]; kernel_rfl) | (rw [if_neg (by decide +kernel)]; exact ⟨rfl, rfl⟩))
    (fun os started H enc _ F => lifted os started H enc F)
#print axioms proved
end Go.Proofs.Ytjgijbaboekghaa.lawCallsEdges

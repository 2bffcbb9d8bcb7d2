/-
  LexNames: any name, quoted, is that name; bare ones stand as they are. Whatever came in: true, and it reads as it did.
-/
import Derived.Test.YtjebanfmnfofnaaNam
set_option linter.unusedSimpArgs false
namespace Go.Proofs.Ytjebanfmnfofnaa.lawLexNames
open Go.ChangeShapes Go.WideShapes Go.ChangeAt Go.RowKit
set_option linter.unusedVariables false
theorem str_small {H : Type} {enc : TypeId × Value → H} {P : Program} {w : World} {base : Nat} {sp : Nat → Bool} {held : Bool} {t : TypeId} {S : ByteArray} {d : DataW H} {ps : List MemPlace} (ht : P.underlying t = some .string) (h : DataW.Trod enc P w base sp held t (.string S) d ps) : S.size ≤ maxLen := by
  obtain ⟨fuel, hf⟩ := h
  cases fuel with
  | zero => simp [Value.cells, DataW.trod] at hf
  | succ m =>
    rcases Nat.lt_or_ge maxLen S.size with hlt | hge
    · simp [Value.cells, DataW.trod, ht, show ¬ S.size ≤ maxLen by omega] at hf
    · exact hge
set_option maxRecDepth 100000 in
theorem lifted (os : Os) (started : os.Started) (H : Type) (enc : TypeId × Value → H) :
    ReturnsInHanded {} Try.checked os 8 .any (Rows.lexNamesSpec.pre6 enc Try.prog Try.f8 Rows.lexNamesRow.domain false) (Rows.lexNamesSpec.post enc Try.prog Try.f8 false true false false) := by
  refine returnsInHanded_of_change_shaped (C := Try.checked) own started (by kernel_rfl) Try.func8
    (ChangeSpec.witness6 (enc := enc) (C := Try.checked) false ⟨#[], #[.string ⟨#[]⟩, .int .u8 0, .string ⟨#[]⟩], []⟩ 8 (by kernel_rfl) (by kernel_rfl) (by kernel_rfl) (by kernel_rfl)) ?_
  intro W base args ds gs before hval0 hW hcnd _ hsh _
  have hval : ∀ (j : Nat) t v, Try.f8.params[j]? = some t → args[j]? = some v → Value.okWide Try.prog W .any base t v := hval0
  have hW' := hW
  obtain ⟨ml, hml⟩ := Try.laysM143.s1_3 W hsh
  obtain ⟨p, q, hA0, hV, rfl, hfz, hnd⟩ := hW
  have hA : DataW.TrodAll enc Try.prog W 0 (fun _ => true) true Try.f8.params.toList args.toList ds p := hA0
  rw [Try.params8] at hA hval
  obtain ⟨v0, vs0, d0, ds0, p0, q0, hargs, rfl, rfl, h0, r0⟩ := trodAll_cons hA
  obtain ⟨v1, vs1, d1, ds1, p1, q1, rfl, rfl, rfl, h1, r1⟩ := trodAll_cons r0
  obtain ⟨v2, vs2, d2, ds2, p2, q2, rfl, rfl, rfl, h2, r2⟩ := trodAll_cons r1
  obtain ⟨rfl, rfl, rfl⟩ := trodAll_nil r2
  obtain rfl : args = #[v0, v1, v2] := by cases args; simp_all
  obtain ⟨rfl, rfl⟩ := trodVars_none hV
  obtain ⟨S, rfl⟩ := okWide_string Try.underlying9 (hval 0 9 v0 rfl rfl)
  obtain ⟨k1, rfl, rfl, rfl, w1⟩ := open_int Try.underlying5 (hval 1 5 v1 rfl rfl) h1
  obtain ⟨c, rfl, hc⟩ : ∃ n : Nat, k1 = (n : Int) ∧ n < 256 := by
    have w1 : 0 ≤ k1 ∧ k1 ≤ 255 := by simpa [Lit.wf, IntKind.min, IntKind.max, IntKind.signed, IntKind.bits] using w1
    exact ⟨k1.toNat, by omega, by omega⟩
  obtain ⟨R, rfl⟩ := okWide_string Try.underlying9 (hval 2 9 v2 rfl rfl)
  have k0 := h0
  have k2 := h2
  have lt0 : ∀ x ∈ p0, x.block < W.heap.size := by obtain ⟨m, hm⟩ := k0; exact DataW.trod_lt m _ _ _ hm
  have lt2 : ∀ x ∈ p2, x.block < W.heap.size := by obtain ⟨m, hm⟩ := k2; exact DataW.trod_lt m _ _ _ hm
  have hs0 : S.size ≤ maxLen := str_small Try.underlying9 h0
  have hs2 : R.size ≤ maxLen := str_small Try.underlying9 h2
  clear hA0 hval0
  have walk : Calls Try.prog 8 #[.string S, .int .u8 (c : Nat), .string R] W (Yes W) := by
    by_cases hsz : S.size ≤ 100 ∧ R.size ≤ 20
    · obtain ⟨l, rfl, hl, hll⟩ := bstr_of S
      obtain ⟨r, rfl, hr, hrl⟩ := bstr_of R
      exact lexNames_walk W l r c ml hml hl hr hc (by omega) (by omega)
    · exact lexNames_no W [] [] c ml hml S R hs0 hs2 hsz
  refine walk.mono fun e W' ⟨he, bel⟩ => ?_
  subst he
  exact ⟨_, rfl, _, _, _, [], _, [], hW', trodAll_mk1 (shut_bool Try.underlying4 _), (trodAll_cons_mk (Below.trod laidOut (by kernel_rfl) (of_decide_eq_true (by kernel_rfl)) k0 bel lt0) (trodAll_cons_mk (shut_int Try.underlying5 w1) (trodAll_cons_mk (Below.trod laidOut (by kernel_rfl) (of_decide_eq_true (by kernel_rfl)) k2 bel lt2) trodAll_mk0))), rfl, bel.frame _, fun h => by cases h⟩

theorem proved : Rows.LexNamesSaid :=
  OpenClaim.holds_of_wide 8 Try.f8 rfl rfl rfl rfl rfl rfl rfl ⟨rfl, rfl, rfl, rfl, rfl⟩ rfl rfl rfl rfl rfl (by kernel_rfl) Try.func8 (by kernel_rfl)
    (of_decide_eq_true (by kernel_rfl)) (by unfold Func.isWrapper; first | (rw [if_pos (by decide +kernel)]; kernel_rfl) | (rw [if_neg (by decide +kernel)]; exact ⟨rfl, rfl⟩))
    (fun os started H enc _ => lifted os started H enc)
#print axioms proved
end Go.Proofs.Ytjebanfmnfofnaa.lawLexNames

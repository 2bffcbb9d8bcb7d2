/-
  ModuleBlocks: a statement in a block, and one beside, are apart; an empty block is one statement. Whatever came in: true.
-/
import Derived.Test.YteajlfkhhgednaaOpen
import Derived.Test.YteajlfkhhgednaaBlocks
import Derived.Test.YteajlfkhhgednaaCame
namespace Go.Proofs.Yteajlfkhhgednaa.lawModuleBlocks
open Go.ChangeShapes Go.WideShapes Go.ChangeAt Go.RowKit
set_option linter.unusedVariables false
set_option maxRecDepth 100000 in
theorem lifted (os : Os) (started : os.Started) (H : Type) (enc : TypeId × Value → H) :
    ReturnsInHanded {} Try.checked os 5 .any (Rows.moduleBlocksSpec.pre6 enc Try.prog Try.f5 Rows.moduleBlocksRow.domain false) (Rows.moduleBlocksSpec.post enc Try.prog Try.f5 false true false false) := by
  refine returnsInHanded_of_change (C := Try.checked) own started (by kernel_rfl) Try.func5
    (ChangeSpec.witness6 (enc := enc) (C := Try.checked) false ⟨#[], #[.agg #[.int .u8 0, .int .u8 0, .int .i64 0, .int .u8 0, .int .i64 0, .slice none 0 0, .slice none 0 0], .int .u8 0], []⟩ 8 (by kernel_rfl) (by kernel_rfl) (by kernel_rfl) (by kernel_rfl)) ?_
  intro W base args ds gs before hval0 hW hcnd _
  have hval : ∀ (j : Nat) t v, Try.f5.params[j]? = some t → args[j]? = some v → Value.okWide Try.prog W .any base t v := hval0
  have hW' := hW
  obtain ⟨p, q, hA0, hV, rfl, hfz, hnd⟩ := hW
  have hA : DataW.TrodAll enc Try.prog W 0 (fun _ => true) true Try.f5.params.toList args.toList ds p := hA0
  rw [Try.params5] at hA hval
  obtain ⟨v0, vs0, d0, ds0, p0, q0, hargs, rfl, rfl, h0, r0⟩ := trodAll_cons hA
  obtain ⟨v1, vs1, d1, ds1, p1, q1, rfl, rfl, rfl, h1, r1⟩ := trodAll_cons r0
  obtain ⟨rfl, rfl, rfl⟩ := trodAll_nil r1
  obtain rfl : args = #[v0, v1] := by cases args; simp_all
  obtain ⟨rfl, rfl⟩ := trodVars_none hV
  obtain ⟨cs, rfl, hsz⟩ := okWide_struct Try.underlying46 (hval 0 46 v0 rfl rfl)
  rw [cells46] at hsz
  have k0 := h0
  have lt0 : ∀ x ∈ p0, x.block < W.heap.size := by obtain ⟨m, hm⟩ := k0; exact DataW.trod_lt m _ _ _ hm
  obtain ⟨fu0, c0⟩ := h0
  obtain ⟨k, ak, ai, bk, bi, va, vb, m, ya, yb, hcs, ha, hb, _, _⟩ := came_stmt (cs := cs.toList) (by simpa [Value.cells] using c0) (by simpa using hsz)
  obtain rfl : cs = #[.int .u8 k, .int .u8 ak, .int .i64 ai, .int .u8 bk, .int .i64 bi, va, vb] := by rw [← Array.toList_inj]; exact hcs
  obtain ⟨aa, al, ac, rfl, _⟩ := came_slice Try.underlying44 ha
  obtain ⟨ba, bl, bc, rfl, hbl⟩ := came_slice Try.underlying22 hb
  obtain ⟨hal, hra⟩ := came_refs ha
  obtain ⟨a1, rfl, rfl, rfl, w1⟩ := open_int Try.underlying5 (hval 1 5 v1 rfl rfl) h1
  obtain ⟨n, rfl, hn⟩ : ∃ n : Nat, a1 = (n : Int) ∧ n < 256 := by
    have w1 : 0 ≤ a1 ∧ a1 ≤ 255 := by simpa [Lit.wf, IntKind.min, IntKind.max, IntKind.signed, IntKind.bits] using w1
    exact ⟨a1.toNat, by omega, by omega⟩
  clear hA0 hval0
  refine (moduleBlocks_walk W k ak ai bk bi aa ba al ac bl bc n hn hal hbl (fun _ => hra)).mono fun e W' ⟨he, bel⟩ => ?_
  subst he
  exact ⟨_, rfl, _, _, _, [], _, [], hW', trodAll_mk1 (shut_bool Try.underlying4 _), (trodAll_cons_mk (Below.trod laidOut (by kernel_rfl) (of_decide_eq_true (by kernel_rfl)) k0 bel lt0) (trodAll_cons_mk (shut_int Try.underlying5 w1) trodAll_mk0)), rfl, bel.frame _, fun h => by cases h⟩

theorem proved : Rows.ModuleBlocksSaid :=
  OpenClaim.holds_of_wide 5 Try.f5 rfl rfl rfl rfl rfl rfl rfl ⟨rfl, rfl, rfl, rfl, rfl⟩ rfl rfl rfl rfl rfl (by kernel_rfl) Try.func5 (by kernel_rfl)
    (of_decide_eq_true (by kernel_rfl)) (by unfold Func.isWrapper; first | (rw [if_pos (by decide +kernel)]; kernel_rfl) | (rw [if_neg (by decide +kernel)]; exact ⟨rfl, rfl⟩))
    (fun os started H enc _ => lifted os started H enc)
#print axioms proved
end Go.Proofs.Yteajlfkhhgednaa.lawModuleBlocks

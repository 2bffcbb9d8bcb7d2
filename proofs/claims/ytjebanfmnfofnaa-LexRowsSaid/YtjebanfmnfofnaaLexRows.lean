/-
  LexRows: names and signs in a row, with blanks between or not. Whatever came in: true, and it reads as it did.
-/
import Derived.Test.YtjebanfmnfofnaaRowW
import Derived.Deep.Strs
set_option linter.unusedSimpArgs false
namespace Go.Proofs.Ytjebanfmnfofnaa.lawLexRows
open Go.ChangeShapes Go.WideShapes Go.ChangeAt Go.RowKit
set_option linter.unusedVariables false
theorem cells9 : Try.prog.cellsOf 9 = 1 := by kernel_rfl
theorem came_rows {H : Type} {enc : TypeId × Value → H} {w : World} {held : Bool} {a : Option Addr} {len cap fuel : Nat} {x : DataW H × List MemPlace} (h : DataW.trod enc Try.prog w 0 (fun _ => true) held fuel 36 [.slice a len cap] = some x) : len ≤ cap ∧ len ≤ maxLen ∧ ∃ L, ReadsR w a len L := by
  rcases Deep.open_strs Try.underlying36 Try.underlying9 cells9 h with ⟨hcs, _⟩ | ⟨ad, l, c, m, Sx, hcs, _, hl, hm, hmm, _, hi⟩
  · simp only [List.cons.injEq, Value.slice.injEq] at hcs
    obtain ⟨⟨rfl, rfl, rfl⟩, _⟩ := hcs
    exact ⟨Nat.le_refl _, by unfold maxLen; omega, [], rfl, (fun s hs => by simp at hs), (fun s hs => by simp at hs), fun h => by omega⟩
  · simp only [List.cons.injEq, Value.slice.injEq] at hcs
    obtain ⟨⟨rfl, rfl, rfl⟩, _⟩ := hcs
    simp only [if_true] at hmm
    subst hmm
    refine ⟨hl, by omega, (List.range len).map (fun i => (bstr_of (Sx i)).choose), by simp, ?_, ?_, fun hp => ?_⟩
    · intro s hs
      obtain ⟨i, hi', rfl⟩ := List.mem_map.1 hs
      exact (bstr_of (Sx i)).choose_spec.2.1
    · intro s hs
      obtain ⟨i, hi', rfl⟩ := List.mem_map.1 hs
      rw [(bstr_of (Sx i)).choose_spec.2.2]
      exact (hi i (by have := List.mem_range.1 hi'; omega)).2
    · obtain ⟨b, off, spot⟩ := ad
      have h0 := (hi 0 (by omega)).1
      have hs : spot = none := by simpa [Addr.add] using World.cell?_spot h0
      subst hs
      refine ⟨b, off, rfl, fun j s hs => ?_⟩
      obtain ⟨hj, e⟩ := List.getElem?_eq_some_iff.1 hs
      have hj' : j < len := by simpa using hj
      have := (hi j (by omega)).1
      rw [add_none] at this
      simp only [List.getElem_map, List.getElem_range] at e
      rw [this, ← e, ← (bstr_of (Sx j)).choose_spec.1]
set_option maxRecDepth 100000 in
theorem lifted (os : Os) (started : os.Started) (H : Type) (enc : TypeId × Value → H) :
    ReturnsInHanded {} Try.checked os 9 .any (Rows.lexRowsSpec.pre6 enc Try.prog Try.f9 Rows.lexRowsRow.domain false) (Rows.lexRowsSpec.post enc Try.prog Try.f9 false true false false) := by
  refine returnsInHanded_of_change_shaped (C := Try.checked) own started (by kernel_rfl) Try.func9
    (ChangeSpec.witness6 (enc := enc) (C := Try.checked) false ⟨#[], #[.slice none 0 0, .slice none 0 0], []⟩ 8 (by kernel_rfl) (by kernel_rfl) (by kernel_rfl) (by kernel_rfl)) ?_
  intro W base args ds gs before hval0 hW hcnd _ hsh _
  have hval : ∀ (j : Nat) t v, Try.f9.params[j]? = some t → args[j]? = some v → Value.okWide Try.prog W .any base t v := hval0
  have hW' := hW
  obtain ⟨ml, hml⟩ := Try.laysM143.s1_3 W hsh
  obtain ⟨p, q, hA0, hV, rfl, hfz, hnd⟩ := hW
  have hA : DataW.TrodAll enc Try.prog W 0 (fun _ => true) true Try.f9.params.toList args.toList ds p := hA0
  rw [Try.params9] at hA hval
  obtain ⟨v0, vs0, d0, ds0, p0, q0, hargs, rfl, rfl, h0, r0⟩ := trodAll_cons hA
  obtain ⟨v1, vs1, d1, ds1, p1, q1, rfl, rfl, rfl, h1, r1⟩ := trodAll_cons r0
  obtain ⟨rfl, rfl, rfl⟩ := trodAll_nil r1
  obtain rfl : args = #[v0, v1] := by cases args; simp_all
  obtain ⟨rfl, rfl⟩ := trodVars_none hV
  obtain ⟨a, n, c, rfl⟩ := okWide_slice Try.underlying36 (hval 0 36 v0 rfl rfl)
  obtain ⟨a2, n2, c2, rfl⟩ := okWide_slice Try.underlying22 (hval 1 22 v1 rfl rfl)
  have k0 := h0
  have k1 := h1
  have lt0 : ∀ x ∈ p0, x.block < W.heap.size := by obtain ⟨m, hm⟩ := k0; exact DataW.trod_lt m _ _ _ hm
  have lt1 : ∀ x ∈ p1, x.block < W.heap.size := by obtain ⟨m, hm⟩ := k1; exact DataW.trod_lt m _ _ _ hm
  obtain ⟨fu0, c0⟩ := h0
  obtain ⟨fu1, c1⟩ := h1
  obtain ⟨hnc, hn, L, hL⟩ := came_rows (by simpa [Value.cells] using c0)
  obtain ⟨hnc2, hn2, G, hG⟩ := came_bytes (by simpa [Value.cells] using c1)
  clear hA0 hval0
  have walk : Calls Try.prog 9 #[.slice a n c, .slice a2 n2 c2] W (Yes W) := by
    by_cases h12 : n ≤ 12
    · exact lexRows_walk W a a2 n c n2 c2 L G ml hml hL hG h12 hnc hnc2 hn2
    · exact lexRows_no W a a2 n c n2 c2 ml hml hn h12
  refine walk.mono fun e W' ⟨he, bel⟩ => ?_
  subst he
  exact ⟨_, rfl, _, _, _, [], _, [], hW', trodAll_mk1 (shut_bool Try.underlying4 _), (trodAll_cons_mk (Below.trod laidOut (by kernel_rfl) (of_decide_eq_true (by kernel_rfl)) k0 bel lt0) (trodAll_cons_mk (Below.trod laidOut (by kernel_rfl) (of_decide_eq_true (by kernel_rfl)) k1 bel lt1) trodAll_mk0)), rfl, bel.frame _, fun h => by cases h⟩

theorem proved : Rows.LexRowsSaid :=
  OpenClaim.holds_of_wide 9 Try.f9 rfl rfl rfl rfl rfl rfl rfl ⟨rfl, rfl, rfl, rfl, rfl⟩ rfl rfl rfl rfl rfl (by kernel_rfl) Try.func9 (by kernel_rfl)
    (of_decide_eq_true (by kernel_rfl)) (by unfold Func.isWrapper; first | (rw [if_pos (by decide +kernel)]; kernel_rfl) | (rw [if_neg (by decide +kernel)]; exact ⟨rfl, rfl⟩))
    (fun os started H enc _ => lifted os started H enc)
#print axioms proved
end Go.Proofs.Ytjebanfmnfofnaa.lawLexRows

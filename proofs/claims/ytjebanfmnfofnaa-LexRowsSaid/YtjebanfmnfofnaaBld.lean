/-
  strings.Builder's copyCheck (function 37), WriteByte (25), WriteString (26), String (27), at a builder that the call has made. No statement of its own.
-/
import Derived.Test.YtjebanfmnfofnaaEnd
import Derived.Lib.Builder
import Derived.Lib.AppendStr
import Derived.Laws.Externs
set_option linter.unusedSimpArgs false
set_option linter.unusedVariables false
namespace Go.Proofs.Ytjebanfmnfofnaa
open Go.RowKit
theorem size60 : (Try.prog.info? 60).map (fun i => i.size) = some 2 := by kernel_rfl
theorem lies60 : liesAt Try.prog Try.prog.depth 60 (2 / Try.prog.cellsOf 60) 0 60 1 = true := by kernel_rfl
set_option maxRecDepth 20000 in
theorem copyCheck_used (b : Nat) (w : World) (h0 : w.cell? ⟨b, 0, none⟩ = some (.pointer (some ⟨b, 0, none⟩))) :
    Calls Try.prog 37 #[.pointer (some ⟨b, 0, none⟩)] w fun e w' => e = .returned (.tuple #[]) ∧ w' = w := by
  obtain ⟨j, hj, _⟩ := Option.map_eq_some_iff.1 size60
  go_enter Try.func37, Try.ntmps37
  go_wp2
  rw [Lib.run_neq_ptr_same w _ Try.underlying58 hj]
  go_wp2
  go_end0
  exact ⟨rfl, rfl⟩
set_option maxRecDepth 20000 in
theorem copyCheck_fresh (b : Nat) (w : World) (h0 : w.cell? ⟨b, 0, none⟩ = some (.pointer none)) (hsh : w.shape? b = some (60, 2)) (hfz : w.frozen? ⟨b, 0, none⟩ = false) :
    Calls Try.prog 37 #[.pointer (some ⟨b, 0, none⟩)] w fun e w' => e = .returned (.tuple #[]) ∧ w' = w.setCell ⟨b, 0, none⟩ (.pointer (some ⟨b, 0, none⟩)) := by
  obtain ⟨j, hj, hjs⟩ := Option.map_eq_some_iff.1 size60
  go_enter Try.func37, Try.ntmps37
  go_wp2
  rw [Lib.run_to_unsafe w ⟨b, 0, none⟩ Try.underlying58 Try.underlying75 hj (by rw [hjs]; decide) hsh (Nat.zero_lt_succ 1)]
  simp only [Result.andThen]
  rw [Oper.upon_value]
  go_wp2
  rw [run_callFunc_extern Try.func42 (by kernel_rfl) (by kernel_rfl) (by kernel_rfl) (e := Extern.AbiNoEscape.same) (by kernel_rfl)]
  rw [Lib.run_noEscape]
  simp only [Result.andThen]
  rw [Oper.upon_value]
  go_wp2
  rw [Lib.run_from_unsafe w ⟨b, 0, none⟩ Try.underlying75 Try.underlying58 hj hsh lies60]
  simp only [Result.andThen]
  rw [Oper.upon_value]
  go_wp2
  go_end0
  exact ⟨rfl, rfl⟩
theorem copyCheck_calls (B b : Nat) (bs : List Value) (w : World) (h : Lib.IsBuilder 60 5 B b bs w) :
    Calls Try.prog 37 #[.pointer (some ⟨b, 0, none⟩)] w fun e w' => e = .returned (.tuple #[]) ∧ (Lib.BuilderAt 60 5 B b (.pointer (some ⟨b, 0, none⟩)) bs w' ∧ Below B w w') := by
  rcases h with h | h
  · refine (copyCheck_fresh b w h.cell0 h.shape h.frozen0).mono ?_
    rintro e w' ⟨rfl, rfl⟩
    exact ⟨rfl, h.used _, (Below.refl B w).setCell (p := ⟨b, 0, none⟩) h.1 _⟩
  · refine (copyCheck_used b w h.cell0).mono ?_
    rintro e w' ⟨rfl, rfl⟩
    exact ⟨rfl, h, Below.refl B _⟩
set_option maxRecDepth 20000 in
set_option maxHeartbeats 1000000 in
theorem writeByte_calls (B b : Nat) (l : List Nat) (c : Nat) (w : World) (h : Lib.IsBuilder 60 5 B b (bytes l) w) (hlen : l.length ≤ 100000) (hBw : B ≤ w.heap.size) :
    Calls Try.prog 25 #[.pointer (some ⟨b, 0, none⟩), .int .u8 (c : Nat)] w fun e w' => e = .returned .nilIface ∧ Lib.IsBuilder 60 5 B b (bytes (l ++ [c])) w' ∧ Below B w w' := by
  obtain ⟨i0, hi, hzz⟩ := Option.map_eq_some_iff.1 info5
  simp only [Prod.mk.injEq] at hzz
  obtain ⟨hz0, hz1, hz2⟩ := hzz
  have hbl : (bytes l).length = l.length := by unfold bytes; rw [List.length_map]
  go_enter Try.func25, Try.ntmps25
  go_wp2_with fail
  refine (copyCheck_calls B b (bytes l) _ h).mono ?_
  rintro e w1 ⟨rfl, h1, hb1⟩
  obtain ⟨hB, v, hbk, hown, hne⟩ := h1
  have c0 : w1.cell? ⟨b, 0, none⟩ = some (.pointer (some ⟨b, 0, none⟩)) := by rw [Lib.cell_of_heap hbk]; rfl
  have c1 : w1.cell? ⟨b, 1, none⟩ = some v := by rw [Lib.cell_of_heap hbk]; rfl
  go_wp2_with (at_builtin; refine wpList_append_own _ rfl _ _ 22 rfl B 5 i0 (.int .u8 0) 1 1 Try.underlying22 hi hz0 hz1 hz2 rfl (by decide) _ _ _ rfl (hown.alloc _) ⟨w1.heap.size, 0, none⟩ 1 1 [.int .u8 (c : Nat)] rfl rfl (new_cells _ _ _ _) ?c2 ?c3 ?c4 ?c5 ?_)
  case c2 => intro u hu; simp at hu; subst hu; rfl
  case c3 => rw [hbl]; unfold maxLen; omega
  case c4 => rw [hbl]; omega
  case c5 => have := hb1.size; simp; omega
  intro v' w2 hown' hgrow _
  have hlt : b < w1.heap.size := blk_lt hbk
  have hb2 : w2.heap[b]? = some (.cells #[.pointer (some ⟨b, 0, none⟩), v] 60 (0, 0)) := by
    rw [hgrow.block b (by simp; omega) (fun e => hne e.symm)]
    exact blk_alloc hbk _
  have d0 : w2.cell? ⟨b, 0, none⟩ = some (.pointer (some ⟨b, 0, none⟩)) := by rw [Lib.cell_of_heap hb2]; rfl
  have d1 : w2.cell? ⟨b, 1, none⟩ = some v := by rw [Lib.cell_of_heap hb2]; rfl
  have f1 : w2.frozen? ⟨b, 1, none⟩ = false := Lib.frozen_of_heap hb2 1
  obtain ⟨ao, n', cap, rfl⟩ : ∃ ao n' cap, v' = .slice ao n' cap := by
    rcases hown'.2 with ⟨hv, _⟩ | ⟨g, cap, cur, hv, _⟩
    · exact ⟨_, _, _, hv⟩
    · exact ⟨_, _, _, hv⟩
  go_wp2
  go_ret
  refine ⟨rfl, .inr ?_, ?_⟩
  · rw [show bytes (l ++ [c]) = bytes l ++ [.int .u8 (c : Nat)] by simp [bytes]]
    exact Lib.BuilderAt.put (T := 60) (e := 5) hB hb2 (bs' := bytes l ++ [.int .u8 (c : Nat)]) (by rw [List.length_append, hbl]; exact hown') (by decide)
  · exact ((hb1.alloc (by have := hb1.size; omega) _).grown hgrow (by have := hb1.size; simp; omega) (fun k hk => (hown.lt k hk).1)).setCell (p := ⟨b, 1, none⟩) hB _
set_option maxRecDepth 20000 in
set_option maxHeartbeats 1000000 in
theorem writeString_calls (B b : Nat) (l r : List Nat) (s : ByteArray) (w : World) (h : Lib.IsBuilder 60 5 B b (bytes l) w) (hs : s = bstr r) (hr : ∀ u ∈ r, u < 256) (hlen : l.length + r.length ≤ 100000) (hBw : B ≤ w.heap.size) :
    Calls Try.prog 26 #[.pointer (some ⟨b, 0, none⟩), .string s] w fun e w' => (∃ z, e = .returned (.tuple #[.int .i64 z, .nilIface])) ∧ Lib.IsBuilder 60 5 B b (bytes (l ++ r)) w' ∧ Below B w w' := by
  obtain ⟨i0, hi, hzz⟩ := Option.map_eq_some_iff.1 info5
  simp only [Prod.mk.injEq] at hzz
  obtain ⟨hz0, hz1, hz2⟩ := hzz
  have hbl : (bytes l).length = l.length := by unfold bytes; rw [List.length_map]
  have hsz : s.size = r.length := by rw [hs, bstr_size]
  have hcs : Lib.strCells s = bytes r := by rw [hs, strCells_bstr hr]
  have HS := Lib.hid hs
  clear hs
  go_enter Try.func26, Try.ntmps26
  go_wp2_with fail
  refine (copyCheck_calls B b (bytes l) _ h).mono ?_
  rintro e w1 ⟨rfl, h1, hb1⟩
  obtain ⟨hB, v, hbk, hown, hne⟩ := h1
  have c0 : w1.cell? ⟨b, 0, none⟩ = some (.pointer (some ⟨b, 0, none⟩)) := by rw [Lib.cell_of_heap hbk]; rfl
  have c1 : w1.cell? ⟨b, 1, none⟩ = some v := by rw [Lib.cell_of_heap hbk]; rfl
  go_wp2_with (at_builtin; refine Lib.wpList_append_own_string _ rfl _ _ 22 9 rfl B 5 i0 Try.underlying22 Try.underlying9 hi hz0 hz1 hz2 _ _ _ rfl hown s rfl ?c3 ?c4 ?c5 ?_)
  case c3 => rw [hbl, hsz]; unfold maxLen; omega
  case c4 => rw [hbl, hsz]; omega
  case c5 => have := hb1.size; omega
  intro v' w2 hown' hgrow _
  have hlt : b < w1.heap.size := blk_lt hbk
  have hb2 : w2.heap[b]? = some (.cells #[.pointer (some ⟨b, 0, none⟩), v] 60 (0, 0)) := by
    rw [hgrow.block b hlt (fun e => hne e.symm)]
    exact hbk
  have d0 : w2.cell? ⟨b, 0, none⟩ = some (.pointer (some ⟨b, 0, none⟩)) := by rw [Lib.cell_of_heap hb2]; rfl
  have d1 : w2.cell? ⟨b, 1, none⟩ = some v := by rw [Lib.cell_of_heap hb2]; rfl
  have f1 : w2.frozen? ⟨b, 1, none⟩ = false := Lib.frozen_of_heap hb2 1
  obtain ⟨ao, n', cap, rfl⟩ : ∃ ao n' cap, v' = .slice ao n' cap := by
    rcases hown'.2 with ⟨hv, _⟩ | ⟨g, cap, cur, hv, _⟩
    · exact ⟨_, _, _, hv⟩
    · exact ⟨_, _, _, hv⟩
  go_wp2
  go_ret2
  refine ⟨⟨_, rfl⟩, .inr ?_, ?_⟩
  · rw [show bytes (l ++ r) = bytes l ++ Lib.strCells s by rw [hcs]; simp [bytes]]
    exact Lib.BuilderAt.put (T := 60) (e := 5) hB hb2 (bs' := bytes l ++ Lib.strCells s) (by rw [List.length_append, Lib.strCells_length, hbl, hsz, hcs]; exact hown') (by decide)
  · exact (hb1.grown hgrow (by have := hb1.size; omega) (fun k hk => (hown.lt k hk).1)).setCell (p := ⟨b, 1, none⟩) hB _
theorem string_calls (B b : Nat) (l : List Nat) (w : World) (h : Lib.IsBuilder 60 5 B b (bytes l) w) (hl : ∀ u ∈ l, u < 256) (hBw : B ≤ w.heap.size) :
    Calls Try.prog 27 #[.pointer (some ⟨b, 0, none⟩)] w fun e w' => e = .returned (.string (bstr l)) ∧ Below B w w' := by
  have hc : bytes l = Lib.byteCells (l.map fun u => UInt8.ofNat u) := by
    unfold bytes Lib.byteCells
    rw [List.map_map]
    refine List.map_congr_left fun u hu => ?_
    have := hl u hu
    simp
    try omega
  have hs : bstr l = ⟨(l.map fun u => UInt8.ofNat u).toArray⟩ := by
    have := bstr_data l
    rw [← this]
  rw [hs]
  exact Try.Builder_String_any B b _ w (by rw [← hc]; exact h) hBw
/-- A builder just laid. -/
theorem builder_new (w W : World) (g B : Nat) (h : W.heap[g]? = some (.cells #[.pointer none, .slice none 0 0] 60)) (hB : B ≤ g) : Lib.IsBuilder 60 5 B g (bytes []) W :=
  .inl ⟨hB, .slice none 0 0, h, World.ownsRow_nil _ _ _ _, by simp [Value.ownBlock]⟩
end Go.Proofs.Ytjebanfmnfofnaa

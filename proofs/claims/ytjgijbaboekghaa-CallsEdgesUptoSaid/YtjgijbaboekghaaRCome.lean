/-
  calls.Reach's own function 'come' (function 64): who is there and hasn't been seen is seen, and put into the work. Condition: what lies in memory while calls.Reach runs.
-/
import Derived.Test.YtjgijbaboekghaaBase
import Derived.Test.YtjgijbaboekghaaRPlain
set_option linter.unusedVariables false
set_option linter.unusedSimpArgs false
namespace Go.Proofs.Ytjgijbaboekghaa.R
open Go.RowKit
/-- What lies in memory while calls.Reach runs: who has been seen, who is still to be gone through. -/
structure RS (w0 w : World) (b7 gs b8 : Nat) (s : List Bool) (wk : List Int) : Prop where
  below : Below w0.heap.size w0 w
  c7 : w.heap[b7]? = some (.cells #[.slice (some ⟨gs, 0, none⟩) s.length s.length] 114 (0, 0))
  cs : w.heap[gs]? = some (.cells (s.map Value.bool).toArray 4 (0, 0))
  c8 : ∃ v, w.heap[b8]? = some (.cells #[v] 29 (0, 0)) ∧ w.ownsRow w0.heap.size 3 1 v wk.length (ints wk)
  l7 : w0.heap.size ≤ b7
  ls : w0.heap.size ≤ gs
  l8 : w0.heap.size ≤ b8
  lw : w0.heap.size ≤ w.heap.size
set_option maxHeartbeats 1000000 in
theorem come_calls (w0 w : World) (b7 gs b8 : Nat) (s : List Bool) (wk : List Int) (n : Int) (h : RS w0 w b7 gs b8 s wk)  (hw : wk.length ≤ 1000) :
    Calls Try.prog 64 #[.int .i64 n, .pointer (some ⟨b7, 0, none⟩), .pointer (some ⟨b8, 0, none⟩)] w fun e w' => e = .returned (.tuple #[]) ∧ RS w0 w' b7 gs b8 (come s wk n).1 (come s wk n).2 := by
  have H := Lib.hid h
  have k7 : w.cell? ⟨b7, 0, none⟩ = some (.slice (some ⟨gs, 0, none⟩) s.length s.length) := by rw [blk_cell h.c7]; rfl
  clear h
  by_cases h0 : 0 ≤ n
  · by_cases h1 : n < s.length
    · obtain ⟨m, rfl⟩ := Int.eq_ofNat_of_zero_le h0
      have hm : m < s.length := by omega
      obtain ⟨b, hb, kb⟩ : ∃ b, b = s.getD m false ∧ w.cell? ⟨gs, m, none⟩ = some (.bool b) := ⟨_, rfl, by rw [blk_cell H.out.cs]; simp [hm]⟩
      have HBb := Lib.hid hb
      clear hb
      cases b with
      | true =>
        go_enter Try.func64, Try.ntmps64
        go_wp2
        go_end0
        refine ⟨rfl, ?_⟩
        have e : come s wk (m : Int) = (s, wk) := by unfold come; rw [if_neg]; rintro ⟨_, _, h3⟩; rw [Int.toNat_natCast, ← HBb.out] at h3; cases h3
        rw [e]; exact H.out
      | false =>
        obtain ⟨v, c8, hown⟩ := H.out.c8
        have k8 : w.cell? ⟨b8, 0, none⟩ = some v := by rw [blk_cell c8]; rfl
        have C8 := Lib.hid c8
        have HO := Lib.hid hown
        clear c8 hown
        go_enter Try.func64, Try.ntmps64
        go_wp2
        refine wp_region_HL (S := (fun w' => w'.cell? ⟨b7, 0, none⟩ = some (.slice (some ⟨gs, 0, none⟩) s.length s.length) ∧ w'.cell? ⟨b8, 0, none⟩ = some v)) 7 (by kernel_rfl) (by kernel_rfl) (by kernel_rfl) (by kernel_rfl) (by decide) ⟨k7, k8⟩ (fun hHeld => ?_)
        refine HL.take_ (i := 0) (oi := { dst := some 19, op := .load 114 (.tmp 1), type := 114, pos := "calls.go:63", after := #[], guard := none }) (v := ?_) rfl (by decide) (by kernel_rfl) (by kernel_rfl) (fun _ _ _ h => h) (Or.inl ⟨by rfl, ?_⟩) (by assumption) ?_
        rotate_left
        · intro w hSw
          (try dsimp only at hSw)
          (go_simp; try (with_reducible rfl))
        try simp only [Act.put, List.setIfInBounds_toArray, List.set_cons_zero, List.set_cons_succ]
        refine HL.take_ (i := 1) (oi := { dst := some 20, op := .move (.tmp 0), type := 3, pos := "calls.go:63", after := #[], guard := none }) (v := ?_) rfl (by decide) (by kernel_rfl) (by kernel_rfl) (fun _ _ _ h => h) (Or.inl ⟨by rfl, ?_⟩) (by assumption) ?_
        rotate_left
        · intro w hSw
          (try dsimp only at hSw)
          (go_simp; try (with_reducible rfl))
        try simp only [Act.put, List.setIfInBounds_toArray, List.set_cons_zero, List.set_cons_succ]
        refine HL.take_ (i := 2) (oi := { dst := some 21, op := .load 29 (.tmp 2), type := 29, pos := "calls.go:63", after := #[], guard := none }) (v := ?_) rfl (by decide) (by kernel_rfl) (by kernel_rfl) (fun _ _ _ h => h) (Or.inl ⟨by rfl, ?_⟩) (by assumption) ?_
        rotate_left
        · intro w hSw
          (try dsimp only at hSw)
          (go_simp; try (with_reducible rfl))
        try simp only [Act.put, List.setIfInBounds_toArray, List.set_cons_zero, List.set_cons_succ]
        refine HL.take_ (i := 3) (oi := { dst := some 22, op := .move (.tmp 0), type := 3, pos := "calls.go:63", after := #[], guard := none }) (v := ?_) rfl (by decide) (by kernel_rfl) (by kernel_rfl) (fun _ _ _ h => h) (Or.inl ⟨by rfl, ?_⟩) (by assumption) ?_
        rotate_left
        · intro w hSw
          (try dsimp only at hSw)
          (go_simp; try (with_reducible rfl))
        try simp only [Act.put, List.setIfInBounds_toArray, List.set_cons_zero, List.set_cons_succ]
        refine HL.step_ (i := 4) (o := { dst := some 23, op := .buildSlice 29 1 #[(0, .tmp 22)], type := 29, pos := "calls.go:63", after := #[{ on := 3, ground := .data }], guard := none }) rfl (by decide) (by kernel_rfl) (fun K hK => ?_)
        go_simp
        refine hK.out _ _ ⟨(World.cell?_alloc_some w _ _ (by rw [k7]; rfl)).trans k7, (World.cell?_alloc_some w _ _ (by rw [k8]; rfl)).trans k8⟩ (fun hHeld => ?_)
        clear hK K
        try simp only [Act.put, List.setIfInBounds_toArray, List.set_cons_zero, List.set_cons_succ]
        refine HL.step_ (i := 5) (o := { dst := some 24, op := .call { callee := .builtin .append, args := #[.tmp 21, .tmp 23], argTypes := #[29, 29] }, type := 29, pos := "calls.go:63", after := #[{ on := 2, ground := .data }, { on := 4, ground := .data }], guard := none }) rfl (by decide) (by kernel_rfl) (fun K hK => ?_)
        rw [if_pos (by rfl)]
        refine append_step (B := w0.heap.size) (w0 := w0) _ _ 29 3 (.int .i64 0) 1 8 rfl Try.underlying29 info3 rfl (by decide) v wk.length (ints wk) rfl (own_below HO.out ((Below.refl _ _).drew.alloc (Nat.le_refl _) _)) ⟨w.heap.size, 0, none⟩ 1 1 [.int .i64 (m : Int)] rfl rfl (new_cells _ _ _ _) ?_ ?_ ?_ (by omega) (by omega) ?_
        · intro u hu
          obtain rfl : u = .int .i64 (m : Int) := by simpa using hu
          rfl
        · have := H.out.lw
          simp
          omega
        · exact (H.out.below.alloc H.out.lw _).drew
        intro v' w' hown hbel hg
        obtain ⟨A', cp', rfl, _, _⟩ := own_shape hown
        have hO1 : (w.alloc (.cells #[.int .i64 (m : Int)] 3)).drew.ownsRow w0.heap.size 3 1 v wk.length (ints wk) := own_below HO.out ((Below.refl _ _).alloc (Nat.le_refl _) _).drew
        have d7 : w'.heap[b7]? = _ := blk_grown (w := (w.alloc (.cells #[.int .i64 (m : Int)] 3)).drew) (blk_alloc H.out.c7 _) hg (own_ne hO1 (blk_alloc H.out.c7 _) (by decide))
        have ds : w'.heap[gs]? = _ := blk_grown (w := (w.alloc (.cells #[.int .i64 (m : Int)] 3)).drew) (blk_alloc H.out.cs _) hg (own_ne hO1 (blk_alloc H.out.cs _) (by decide))
        have d8 : w'.heap[b8]? = _ := blk_grown (w := (w.alloc (.cells #[.int .i64 (m : Int)] 3)).drew) (blk_alloc C8.out _) hg (own_ne hO1 (blk_alloc C8.out _) (by decide))
        have k7' : w'.cell? ⟨b7, 0, none⟩ = some (.slice (some ⟨gs, 0, none⟩) s.length s.length) := by rw [blk_cell d7]; rfl
        have k8' : w'.cell? ⟨b8, 0, none⟩ = some v := by rw [blk_cell d8]; rfl
        have kb' : w'.cell? ⟨gs, m, none⟩ = some (.bool false) := by rw [blk_cell ds]; simp [hm]; rw [HBb.out]; simp [hm]
        have fs := blk_frozen ds m
        have f8 := blk_frozen d8 0
        have n78 : gs ≠ b8 := by
          intro e
          rw [e, d8] at ds
          injection ds with ds
          injection ds with _ ds
          exact absurd ds (by decide)
        have n7s : b7 ≠ gs := by
          intro e
          rw [e, ds] at d7
          injection d7 with d7
          injection d7 with _ d7
          exact absurd d7 (by decide)
        have n78' : b7 ≠ b8 := by
          intro e
          rw [e, d8] at d7
          injection d7 with d7
          injection d7 with _ d7
          exact absurd d7 (by decide)
        have HH := Lib.hid (show RS w0 ((w'.setCell ⟨gs, m, none⟩ (.bool true)).setCell ⟨b8, 0, none⟩ (.slice A' (wk.length + 1) cp')) b7 gs b8 (s.set m true) (wk ++ [(m : Int)]) from
          { below := (hbel.setCell (p := ⟨gs, m, none⟩) H.out.ls _).setCell (p := ⟨b8, 0, none⟩) H.out.l8 _
            c7 := by
              have := blk_far (blk_far d7 (p := ⟨gs, m, none⟩) n7s (.bool true)) (p := ⟨b8, 0, none⟩) n78' (.slice A' (wk.length + 1) cp')
              rw [List.length_set]; exact this
            cs := by
              have := blk_far (blk_set ds m (.bool true)) (p := ⟨b8, 0, none⟩) n78 (.slice A' (wk.length + 1) cp')
              have e : (s.map Value.bool).toArray.setIfInBounds m (.bool true) = ((s.set m true).map Value.bool).toArray := by apply Array.ext'; simp [List.map_set]
              rw [e] at this; exact this
            c8 := ⟨_, blk_set (blk_far d8 (p := ⟨gs, m, none⟩) (Ne.symm n78) (.bool true)) 0 _, by
              have h1 := own_setCell hown (p := ⟨gs, m, none⟩) (own_ne hown ds (by decide)) (.bool true)
              have h2 := own_setCell h1 (p := ⟨b8, 0, none⟩) (own_ne h1 (blk_far d8 (p := ⟨gs, m, none⟩) (Ne.symm n78) (.bool true)) (by decide)) (.slice A' (wk.length + 1) cp')
              rw [List.length_append]
              unfold ints at *
              rw [List.map_append]
              exact h2⟩
            l7 := H.out.l7, ls := H.out.ls, l8 := H.out.l8
            lw := by have := hbel.size; simpa [World.setCell] using this })
        clear hO1 hown hbel hg d7 ds d8 HO C8
        refine hK.out _ _ ⟨k7', k8'⟩ (fun hHeld => ?_)
        clear hK K
        try simp only [Act.put, List.setIfInBounds_toArray, List.set_cons_zero, List.set_cons_succ]
        refine HL.take_ (i := 6) (oi := { dst := some 25, op := .indexAddr 114 (.tmp 19) (.tmp 20), type := 0, pos := "calls.go:63", after := #[{ on := 0, ground := .data }, { on := 1, ground := .data }, { on := 0, ground := .phase }, { on := 1, ground := .phase }, { on := 2, ground := .textOnly .inlinedCapture }, { on := 3, ground := .textOnly .lateStores }, { on := 4, ground := .textOnly .lateStoresUnsure }, { on := 5, ground := .phase }], guard := none }) (v := ?_) rfl (by decide) (by kernel_rfl) (by kernel_rfl) (fun _ _ _ h => h) (Or.inl ⟨by rfl, ?_⟩) (by assumption) ?_
        rotate_left
        · intro w hSw
          (try dsimp only at hSw)
          (go_simp; try (with_reducible rfl))
        try simp only [Act.put, List.setIfInBounds_toArray, List.set_cons_zero, List.set_cons_succ]
        refine HL.done_ (by kernel_rfl) ?_
        simp only [List.drop_succ_cons, List.drop_zero]
        go_wp2
        go_end0
        refine ⟨rfl, ?_⟩
        have e : come s wk (m : Int) = (s.set m true, wk ++ [(m : Int)]) := by unfold come; rw [if_pos ⟨h0, h1, by rw [Int.toNat_natCast]; exact HBb.out.symm⟩]; rfl
        rw [e]; exact HH.out
    · go_enter Try.func64, Try.ntmps64
      go_wp2
      go_end0
      refine ⟨rfl, ?_⟩
      have e : come s wk n = (s, wk) := by unfold come; rw [if_neg (by rintro ⟨_, h2, _⟩; omega)]
      rw [e]; exact H.out
  · go_enter Try.func64, Try.ntmps64
    go_wp2
    go_end0
    refine ⟨rfl, ?_⟩
    have e : come s wk n = (s, wk) := by unfold come; rw [if_neg (by rintro ⟨h2, _⟩; omega)]
    rw [e]; exact H.out
end Go.Proofs.Ytjgijbaboekghaa.R

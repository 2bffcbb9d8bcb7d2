/-
  The order of edges: cmp.isNaN (function 70), cmp.Compare (52), cmp.Or (51), calls.Edges$1 (50). No statement of its own.
-/
import Derived.Test.YtjgijbaboekghaaOwn2
import Derived.Sort.Grow
import Derived.Deep.CutRange
set_option linter.unusedSimpArgs false
set_option linter.unusedVariables false
namespace Go.Proofs.Ytjgijbaboekghaa
open Go.RowKit
def cmpI (x y : Int) : Int := if x < y then -1 else if y < x then 1 else 0
/-- The first that is not 0. -/
def orI : List Int → Int
  | [] => 0
  | x :: r => if x = 0 then orI r else x
set_option maxRecDepth 20000 in
theorem isNaN_calls (w : World) (x : Int) : Calls Try.prog 70 #[.int .i64 x] w fun e w' => e = .returned (.bool false) ∧ w = w' := by
  go_enter Try.func70, Try.ntmps70
  go_wp2
  go_ret
  exact ⟨rfl, rfl⟩
set_option maxRecDepth 20000 in
theorem compare_calls (w : World) (x y : Int) : Calls Try.prog 52 #[.int .i64 x, .int .i64 y] w fun e w' => e = .returned (.int .i64 (cmpI x y)) ∧ w = w' := by
  by_cases h1 : x < y
  · have HR : Hid (cmpI x y = -1) := Lib.hid (if_pos h1)
    go_enter Try.func52, Try.ntmps52
    go_wp2_with fail
    refine (isNaN_calls w x).mono ?_
    rintro e w1 ⟨rfl, rfl⟩
    go_wp2_with fail
    refine (isNaN_calls w y).mono ?_
    rintro e w1 ⟨rfl, rfl⟩
    go_wp2_with fail
    go_ret
    exact ⟨by rw [HR.out]; rfl, rfl⟩
  · by_cases h2 : y < x
    · have HR : Hid (cmpI x y = 1) := Lib.hid (by unfold cmpI; rw [if_neg h1, if_pos h2])
      go_enter Try.func52, Try.ntmps52
      go_wp2_with fail
      refine (isNaN_calls w x).mono ?_
      rintro e w1 ⟨rfl, rfl⟩
      go_wp2_with fail
      refine (isNaN_calls w y).mono ?_
      rintro e w1 ⟨rfl, rfl⟩
      go_wp2_with fail
      go_ret
      exact ⟨by rw [HR.out]; rfl, rfl⟩
    · have HR : Hid (cmpI x y = 0) := Lib.hid (by unfold cmpI; rw [if_neg h1, if_neg h2])
      go_enter Try.func52, Try.ntmps52
      go_wp2_with fail
      refine (isNaN_calls w x).mono ?_
      rintro e w1 ⟨rfl, rfl⟩
      go_wp2_with fail
      refine (isNaN_calls w y).mono ?_
      rintro e w1 ⟨rfl, rfl⟩
      go_wp2_with fail
      go_ret
      exact ⟨by rw [HR.out]; rfl, rfl⟩
theorem orI_drop {l : List Int} {i : Nat} (h : ∀ j x, j < i → l[j]? = some x → x = 0) : orI l = orI (l.drop i) := by
  induction i generalizing l with
  | zero => rfl
  | succ i ih =>
    cases l with
    | nil => rfl
    | cons y r =>
      have h0 := h 0 y (Nat.succ_pos i) rfl
      rw [orI, if_pos h0, List.drop_succ_cons]
      exact ih (fun j x hj hx => h (j + 1) x (by omega) (by simpa using hx))
theorem orI_at {l : List Int} {i : Nat} {x : Int} (h : ∀ j x, j < i → l[j]? = some x → x = 0) (hx : l[i]? = some x) (h0 : x ≠ 0) : orI l = x := by
  rw [orI_drop h]
  obtain ⟨hi, rfl⟩ := List.getElem?_eq_some_iff.1 hx
  rw [List.drop_eq_getElem_cons hi, orI, if_neg h0]
set_option maxRecDepth 20000 in
theorem or_calls (w : World) (b : Nat) (l : List Int) (n c : Nat) (hl : l.length = n) (hn : n ≤ 1000) (hc : ∀ (j : Nat) x, l[j]? = some x → w.cell? ⟨b, j, none⟩ = some (.int .i64 x)) : Calls Try.prog 51 #[.slice (some ⟨b, 0, none⟩) n c] w fun e w' => e = .returned (.int .i64 (orI l)) ∧ w = w' := by
  have HL := Lib.hid hl
  have HC := Lib.hid hc
  clear hl hc
  go_enter Try.func51, Try.ntmps51
  go_wp2_with fail
  go_loop [8] (fun s8 => ∃ i : Nat, i ≤ n ∧ s8 = .int .i64 (i : Nat) ∧ Hid (∀ j x, j < i → l[j]? = some x → x = 0)) (fun s8 => n - (intOf s8).toNat)
  case atStart => exact ⟨0, Nat.zero_le _, rfl, fun j x hj => absurd hj (Nat.not_lt_zero _)⟩
  case round =>
    obtain ⟨i, hi, rfl, HI⟩ := hrel
    by_cases hlt : i < n
    · have hltI : (i : Int) < (n : Int) := by omega
      obtain ⟨x, hx⟩ : ∃ x, l[i]? = some x := ⟨_, List.getElem?_eq_getElem (by rw [HL.out]; exact hlt)⟩
      have xc := HC.out i x hx
      have HX := Lib.hid hx
      clear hx
      by_cases h0 : x = 0
      · subst h0
        go_wp2_with fail
        go_round
        case measure => simp [intOf]; omega
        case rel => exact ⟨i + 1, by omega, by go_num, fun j y hj hy => by
          rcases Nat.lt_or_ge j i with h | h
          · exact HI.out j y h hy
          · obtain rfl : i = j := by omega
            rw [HX.out] at hy
            injection hy with hy
            exact hy.symm⟩
      · have h0' : (x != 0) = true := by rw [bne_iff_ne]; exact h0
        have HR := Lib.hid (orI_at HI.out HX.out h0)
        clear h0
        go_wp2_with fail
        go_ret
        exact ⟨by rw [HR.out]; rfl, rfl⟩
    · obtain rfl : n = i := by omega
      have hnn : ¬ (n : Int) < (n : Int) := by omega
      have HR : Hid (orI l = 0) := Lib.hid (by rw [orI_drop HI.out, List.drop_eq_nil_of_le (by rw [HL.out]; exact Nat.le_refl _)]; rfl)
      go_wp2_with fail
      go_ret
      exact ⟨by rw [HR.out]; rfl, rfl⟩
theorem three_grow (W : World) (o1 o2 o3 : Obj) : (((W.alloc o1).alloc o2).alloc o3).drew = Sort.grow (W.drewN 1) #[o1, o2, o3] := by
  rw [Sort.alloc_eq_grow, Sort.alloc_eq_grow, Sort.alloc_eq_grow, Sort.grow_grow, Sort.grow_grow]
  rfl
/-- An edge: of which function, which call, to whom. -/
abbrev Ed := Int × Int × Int
def edV (x : Ed) : List Value := [.int .i64 x.1, .int .i64 x.2.1, .int .i64 x.2.2]
def cmpE (x y : Ed) : Int := orI [cmpI x.1 y.1, cmpI x.2.1 y.2.1, cmpI x.2.2 y.2.2]
set_option maxRecDepth 20000 in
set_option maxHeartbeats 1000000 in
theorem cmpE_calls (x y : Ed) (W : World) : Calls Try.prog 50 #[.agg (edV x).toArray, .agg (edV y).toArray] W fun e w' => e = .returned (.int .i64 (cmpE x y)) ∧ ∃ q os', w' = Sort.grow (W.drewN q) os' := by
  obtain ⟨x1, x2, x3⟩ := x
  obtain ⟨y1, y2, y3⟩ := y
  show Calls Try.prog 50 #[.agg #[.int .i64 x1, .int .i64 x2, .int .i64 x3], .agg #[.int .i64 y1, .int .i64 y2, .int .i64 y3]] W _
  obtain ⟨r, hr⟩ : ∃ r, r = cmpE (x1, x2, x3) (y1, y2, y3) := ⟨_, rfl⟩
  obtain ⟨r1, hr1⟩ : ∃ r, r = cmpI x1 y1 := ⟨_, rfl⟩
  obtain ⟨r2, hr2⟩ : ∃ r, r = cmpI x2 y2 := ⟨_, rfl⟩
  obtain ⟨r3, hr3⟩ : ∃ r, r = cmpI x3 y3 := ⟨_, rfl⟩
  have HR : Hid (r = orI [r1, r2, r3]) := Lib.hid (by rw [hr, hr1, hr2, hr3]; rfl)
  have HR1 := Lib.hid hr1
  have HR2 := Lib.hid hr2
  have HR3 := Lib.hid hr3
  rw [← hr]
  clear hr hr1 hr2 hr3
  go_enter Try.func50, Try.ntmps50
  go_upto_region 1 with (fail)
  have hA : ((W.alloc (.cells #[.int .i64 x1, .int .i64 x2, .int .i64 x3] 68)).alloc (.cells #[.int .i64 y1, .int .i64 y2, .int .i64 y3] 68)).drew.heap[W.heap.size]? = some (.cells #[.int .i64 x1, .int .i64 x2, .int .i64 x3] 68) := blk_alloc (heap_alloc_new W _) _
  have hB : ((W.alloc (.cells #[.int .i64 x1, .int .i64 x2, .int .i64 x3] 68)).alloc (.cells #[.int .i64 y1, .int .i64 y2, .int .i64 y3] 68)).drew.heap[W.heap.size + 1]? = some (.cells #[.int .i64 y1, .int .i64 y2, .int .i64 y3] 68) := by
    have := heap_alloc_new (W.alloc (.cells #[.int .i64 x1, .int .i64 x2, .int .i64 x3] 68)) (.cells #[.int .i64 y1, .int .i64 y2, .int .i64 y3] 68)
    rwa [World.size_alloc] at this
  obtain ⟨V, hV⟩ : ∃ V, V = ((W.alloc (.cells #[.int .i64 x1, .int .i64 x2, .int .i64 x3] 68)).alloc (.cells #[.int .i64 y1, .int .i64 y2, .int .i64 y3] 68)) := ⟨_, rfl⟩
  rw [← hV] at hA hB ⊢
  have HV := Lib.hid hV
  clear hV
  refine wp_region_HL (S := (fun w' => w'.heap[W.heap.size]? = some (.cells #[.int .i64 x1, .int .i64 x2, .int .i64 x3] 68) ∧ w'.heap[W.heap.size + 1]? = some (.cells #[.int .i64 y1, .int .i64 y2, .int .i64 y3] 68))) 17 (by kernel_rfl) (by kernel_rfl) (by kernel_rfl) (by kernel_rfl) (by decide) ⟨hA, hB⟩ (fun hHeld => ?_)
  refine HL.take_ (i := 0) (oi := { dst := some 5, op := .fieldAddr 68 (.tmp 2) 0, type := 0, pos := "calls.go:36", after := #[], guard := none }) (v := ?_) rfl (by decide) (by kernel_rfl) (by kernel_rfl) (fun _ _ _ h => h) (Or.inl ⟨by rfl, ?_⟩) (by assumption) ?_
  rotate_left
  · intro w hSw
    (try dsimp only at hSw)
    (go_simp; try (with_reducible rfl))
  try simp only [Act.put, List.setIfInBounds_toArray, List.set_cons_zero, List.set_cons_succ]
  refine HL.take_ (i := 2) (oi := { dst := some 7, op := .fieldAddr 68 (.tmp 3) 0, type := 0, pos := "calls.go:36", after := #[], guard := none }) (v := ?_) rfl (by decide) (by kernel_rfl) (by kernel_rfl) (fun _ _ _ h => h) (Or.inl ⟨by rfl, ?_⟩) (by assumption) ?_
  rotate_left
  · intro w hSw
    (try dsimp only at hSw)
    (go_simp; try (with_reducible rfl))
  try simp only [Act.put, List.setIfInBounds_toArray, List.set_cons_zero, List.set_cons_succ]
  refine HL.take_ (i := 5) (oi := { dst := some 10, op := .fieldAddr 68 (.tmp 2) 1, type := 0, pos := "calls.go:36", after := #[], guard := none }) (v := ?_) rfl (by decide) (by kernel_rfl) (by kernel_rfl) (fun _ _ _ h => h) (Or.inl ⟨by rfl, ?_⟩) (by assumption) ?_
  rotate_left
  · intro w hSw
    (try dsimp only at hSw)
    (go_simp; try (with_reducible rfl))
  try simp only [Act.put, List.setIfInBounds_toArray, List.set_cons_zero, List.set_cons_succ]
  refine HL.take_ (i := 7) (oi := { dst := some 12, op := .fieldAddr 68 (.tmp 3) 1, type := 0, pos := "calls.go:36", after := #[], guard := none }) (v := ?_) rfl (by decide) (by kernel_rfl) (by kernel_rfl) (fun _ _ _ h => h) (Or.inl ⟨by rfl, ?_⟩) (by assumption) ?_
  rotate_left
  · intro w hSw
    (try dsimp only at hSw)
    (go_simp; try (with_reducible rfl))
  try simp only [Act.put, List.setIfInBounds_toArray, List.set_cons_zero, List.set_cons_succ]
  refine HL.take_ (i := 10) (oi := { dst := some 15, op := .fieldAddr 68 (.tmp 2) 2, type := 0, pos := "calls.go:36", after := #[], guard := none }) (v := ?_) rfl (by decide) (by kernel_rfl) (by kernel_rfl) (fun _ _ _ h => h) (Or.inl ⟨by rfl, ?_⟩) (by assumption) ?_
  rotate_left
  · intro w hSw
    (try dsimp only at hSw)
    (go_simp; try (with_reducible rfl))
  try simp only [Act.put, List.setIfInBounds_toArray, List.set_cons_zero, List.set_cons_succ]
  refine HL.take_ (i := 12) (oi := { dst := some 17, op := .fieldAddr 68 (.tmp 3) 2, type := 0, pos := "calls.go:36", after := #[], guard := none }) (v := ?_) rfl (by decide) (by kernel_rfl) (by kernel_rfl) (fun _ _ _ h => h) (Or.inl ⟨by rfl, ?_⟩) (by assumption) ?_
  rotate_left
  · intro w hSw
    (try dsimp only at hSw)
    (go_simp; try (with_reducible rfl))
  try simp only [Act.put, List.setIfInBounds_toArray, List.set_cons_zero, List.set_cons_succ]
  refine HL.take_ (i := 1) (oi := { dst := some 6, op := .load 3 (.tmp 5), type := 3, pos := "calls.go:36", after := #[{ on := 0, ground := .data }], guard := none }) (v := ?_) rfl (by decide) (by kernel_rfl) (by kernel_rfl) (fun _ _ _ h => h) (Or.inl ⟨by rfl, ?_⟩) (by assumption) ?_
  rotate_left
  · intro w hSw
    (try dsimp only at hSw)
    have ya := (blk3 hSw.1).1; have yb := (blk3 hSw.2).1; (go_simp; try (with_reducible rfl))
  try simp only [Act.put, List.setIfInBounds_toArray, List.set_cons_zero, List.set_cons_succ]
  refine HL.take_ (i := 3) (oi := { dst := some 8, op := .load 3 (.tmp 7), type := 3, pos := "calls.go:36", after := #[{ on := 2, ground := .data }], guard := none }) (v := ?_) rfl (by decide) (by kernel_rfl) (by kernel_rfl) (fun _ _ _ h => h) (Or.inl ⟨by rfl, ?_⟩) (by assumption) ?_
  rotate_left
  · intro w hSw
    (try dsimp only at hSw)
    have ya := (blk3 hSw.1).1; have yb := (blk3 hSw.2).1; (go_simp; try (with_reducible rfl))
  try simp only [Act.put, List.setIfInBounds_toArray, List.set_cons_zero, List.set_cons_succ]
  refine HL.take_ (i := 6) (oi := { dst := some 11, op := .load 3 (.tmp 10), type := 3, pos := "calls.go:36", after := #[{ on := 5, ground := .data }], guard := none }) (v := ?_) rfl (by decide) (by kernel_rfl) (by kernel_rfl) (fun _ _ _ h => h) (Or.inl ⟨by rfl, ?_⟩) (by assumption) ?_
  rotate_left
  · intro w hSw
    (try dsimp only at hSw)
    have ya := (blk3 hSw.1).1; have yb := (blk3 hSw.2).1; (go_simp; try (with_reducible rfl))
  try simp only [Act.put, List.setIfInBounds_toArray, List.set_cons_zero, List.set_cons_succ]
  refine HL.take_ (i := 8) (oi := { dst := some 13, op := .load 3 (.tmp 12), type := 3, pos := "calls.go:36", after := #[{ on := 7, ground := .data }], guard := none }) (v := ?_) rfl (by decide) (by kernel_rfl) (by kernel_rfl) (fun _ _ _ h => h) (Or.inl ⟨by rfl, ?_⟩) (by assumption) ?_
  rotate_left
  · intro w hSw
    (try dsimp only at hSw)
    have ya := (blk3 hSw.1).1; have yb := (blk3 hSw.2).1; (go_simp; try (with_reducible rfl))
  try simp only [Act.put, List.setIfInBounds_toArray, List.set_cons_zero, List.set_cons_succ]
  refine HL.take_ (i := 11) (oi := { dst := some 16, op := .load 3 (.tmp 15), type := 3, pos := "calls.go:36", after := #[{ on := 10, ground := .data }], guard := none }) (v := ?_) rfl (by decide) (by kernel_rfl) (by kernel_rfl) (fun _ _ _ h => h) (Or.inl ⟨by rfl, ?_⟩) (by assumption) ?_
  rotate_left
  · intro w hSw
    (try dsimp only at hSw)
    have ya := (blk3 hSw.1).1; have yb := (blk3 hSw.2).1; (go_simp; try (with_reducible rfl))
  try simp only [Act.put, List.setIfInBounds_toArray, List.set_cons_zero, List.set_cons_succ]
  refine HL.take_ (i := 13) (oi := { dst := some 18, op := .load 3 (.tmp 17), type := 3, pos := "calls.go:36", after := #[{ on := 12, ground := .data }], guard := none }) (v := ?_) rfl (by decide) (by kernel_rfl) (by kernel_rfl) (fun _ _ _ h => h) (Or.inl ⟨by rfl, ?_⟩) (by assumption) ?_
  rotate_left
  · intro w hSw
    (try dsimp only at hSw)
    have ya := (blk3 hSw.1).1; have yb := (blk3 hSw.2).1; (go_simp; try (with_reducible rfl))
  try simp only [Act.put, List.setIfInBounds_toArray, List.set_cons_zero, List.set_cons_succ]
  refine HL.step_ (i := 4) (o := { dst := some 9, op := .call { callee := .value (.func 52), args := #[.tmp 6, .tmp 8], argTypes := #[3, 3] }, type := 3, pos := "calls.go:36", after := #[{ on := 1, ground := .data }, { on := 3, ground := .data }], guard := none }) rfl (by decide) (by kernel_rfl) (fun K hK => ?_)
  go_simp
  refine (compare_calls V.drew x1 y1).mono ?_
  rw [← HR1.out]
  rintro e w1 ⟨rfl, rfl⟩
  dsimp only
  refine hK.out _ _ ⟨hA, hB⟩ (fun hHeld => ?_)
  clear hK K
  try simp only [Act.put, List.setIfInBounds_toArray, List.set_cons_zero, List.set_cons_succ]
  refine HL.step_ (i := 9) (o := { dst := some 14, op := .call { callee := .value (.func 52), args := #[.tmp 11, .tmp 13], argTypes := #[3, 3] }, type := 3, pos := "calls.go:36", after := #[{ on := 6, ground := .data }, { on := 8, ground := .data }, { on := 4, ground := .chain }], guard := none }) rfl (by decide) (by kernel_rfl) (fun K hK => ?_)
  go_simp
  refine (compare_calls V.drew x2 y2).mono ?_
  rw [← HR2.out]
  rintro e w1 ⟨rfl, rfl⟩
  dsimp only
  refine hK.out _ _ ⟨hA, hB⟩ (fun hHeld => ?_)
  clear hK K
  try simp only [Act.put, List.setIfInBounds_toArray, List.set_cons_zero, List.set_cons_succ]
  refine HL.step_ (i := 14) (o := { dst := some 19, op := .call { callee := .value (.func 52), args := #[.tmp 16, .tmp 18], argTypes := #[3, 3] }, type := 3, pos := "calls.go:36", after := #[{ on := 11, ground := .data }, { on := 13, ground := .data }, { on := 9, ground := .chain }], guard := none }) rfl (by decide) (by kernel_rfl) (fun K hK => ?_)
  go_simp
  refine (compare_calls V.drew x3 y3).mono ?_
  rw [← HR3.out]
  rintro e w1 ⟨rfl, rfl⟩
  dsimp only
  refine hK.out _ _ ⟨hA, hB⟩ (fun hHeld => ?_)
  clear hK K
  try simp only [Act.put, List.setIfInBounds_toArray, List.set_cons_zero, List.set_cons_succ]
  refine HL.step_ (i := 15) (o := { dst := some 20, op := .buildSlice 29 3 #[(0, .tmp 9), (1, .tmp 14), (2, .tmp 19)], type := 29, pos := "calls.go:36", after := #[{ on := 4, ground := .data }, { on := 9, ground := .data }, { on := 14, ground := .data }], guard := none }) rfl (by decide) (by kernel_rfl) (fun K hK => ?_)
  go_simp
  have hA9 := blk_alloc hA (.cells #[.int .i64 r1, .int .i64 r2, .int .i64 r3] 3)
  have hB9 := blk_alloc hB (.cells #[.int .i64 r1, .int .i64 r2, .int .i64 r3] 3)
  obtain ⟨V9, hV9⟩ : ∃ V9, V9 = (V.alloc (.cells #[.int .i64 r1, .int .i64 r2, .int .i64 r3] 3)).drew := ⟨_, rfl⟩
  have kA : V9.heap[W.heap.size]? = some (.cells #[.int .i64 x1, .int .i64 x2, .int .i64 x3] 68) := by rw [hV9]; exact hA9
  have kB : V9.heap[W.heap.size + 1]? = some (.cells #[.int .i64 y1, .int .i64 y2, .int .i64 y3] 68) := by rw [hV9]; exact hB9
  have kc : ∀ (j : Nat) x, ([r1, r2, r3] : List Int)[j]? = some x → V9.cell? ⟨V.heap.size, j, none⟩ = some (.int .i64 x) := by
    intro j x hx
    rw [hV9]
    show (V.alloc (.cells #[.int .i64 r1, .int .i64 r2, .int .i64 r3] 3)).cell? ⟨V.heap.size, j, none⟩ = _
    rw [blk_cell (heap_alloc_new V _)]
    match j, hx with
    | 0, hx => injection hx with hx; subst hx; rfl
    | 1, hx => injection hx with hx; subst hx; rfl
    | 2, hx => injection hx with hx; subst hx; rfl
  rw [← hV9]
  have HV9 := Lib.hid hV9
  clear hV9 hA9 hB9 hA hB
  refine hK.out _ _ ⟨kA, kB⟩ (fun hHeld => ?_)
  clear hK K
  try simp only [Act.put, List.setIfInBounds_toArray, List.set_cons_zero, List.set_cons_succ]
  refine HL.step_ (i := 16) (o := { dst := some 21, op := .call { callee := .value (.func 51), args := #[.tmp 20], argTypes := #[29] }, type := 3, pos := "calls.go:36", after := #[{ on := 15, ground := .data }, { on := 14, ground := .chain }], guard := none }) rfl (by decide) (by kernel_rfl) (fun K hK => ?_)
  go_simp
  refine (or_calls V9 V.heap.size [r1, r2, r3] 3 3 rfl (by decide) kc).mono ?_
  rw [← HR.out]
  rintro e w1 ⟨rfl, rfl⟩
  dsimp only
  refine hK.out _ _ ⟨kA, kB⟩ (fun hHeld => ?_)
  clear hK K
  try simp only [Act.put, List.setIfInBounds_toArray, List.set_cons_zero, List.set_cons_succ]
  refine HL.done_ (by kernel_rfl) ?_
  simp only [List.drop_succ_cons, List.drop_zero]
  clear hHeld
  go_wp2_with fail
  go_ret
  refine ⟨rfl, 1, #[.cells #[.int .i64 x1, .int .i64 x2, .int .i64 x3] 68, .cells #[.int .i64 y1, .int .i64 y2, .int .i64 y3] 68, .cells #[.int .i64 r1, .int .i64 r2, .int .i64 r3] 3], ?_⟩
  rw [HV9.out, HV.out]
  exact three_grow _ _ _ _
end Go.Proofs.Ytjgijbaboekghaa

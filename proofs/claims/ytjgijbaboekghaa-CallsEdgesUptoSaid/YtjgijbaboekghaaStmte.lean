/-
  r05.statement (function 28): blocks; all statements.
-/
import Derived.Test.YtjgijbaboekghaaStmtd
set_option linter.unusedSimpArgs false
set_option linter.unusedVariables false
namespace Go.Proofs.Ytjgijbaboekghaa
open Go.RowKit
set_option maxRecDepth 100000 in
set_option maxHeartbeats 4000000 in
theorem stmt_block (w : World) (s1 s4 : Value) (G gc L lc S sc F fc : Nat) (ga la sa : Option Addr) (fb fo : Nat) (f0 f1 f4 : Value) (params : Nat → Nat) (k a b c : Nat) (hL : 0 < L) (hL2 : L ≤ 1000) (hG : G ≤ 1000) (hF : 0 < F) (hF2 : F ≤ 1000) (hS : 0 < S) (hS2 : S ≤ 1000) (ha : a < 256) (hb : b < 256) (hcc : c < 256)
    (hP : ∀ i, i < F → w.cell? ⟨fb, fo + i * 5 + 1, none⟩ = some (.int .i64 (params i : Nat))) (hp3 : ∀ i, params i ≤ 100) (hk : ((k : Int) % 10) = 7) (k2 : Nat) (hk2 : (c : Int) % 8 = k2) (hk3 : k2 < 7) (xs : St) (hst : xs = .mk 7 0 0 0 0 [] [stmt1 G F L S params k2 a b c, .mk 2 (varOf L G b).1 (varOf L G b).2 (varOf L G a).1 (varOf L G a).2 [] []]) :
    Calls Try.prog 28 #[.agg #[s1, .slice ga G gc, .slice (some ⟨fb, fo, none⟩) F fc, s4], .agg #[f0, f1, .slice la L lc, .slice sa S sc, f4], .agg #[.int .u8 k, .int .u8 a, .int .u8 b, .int .u8 c]] w (Stated w xs) := by
  have HST := Lib.hid hst
  have HK3 := Lib.hid hk3
  have HP := Lib.hid hP
  have HP3 := Lib.hid hp3
  have hk7 : ((k2 : Int) == 7) = false := by rw [beq_eq_false_iff_ne]; omega
  clear hst hP hp3
  go_enter Try.func28, Try.ntmps28
  go_wp2_with fail
  refine (variables_calls _ _ _ _ _ _ _ _ a _ _ _ _ _ _ hL hL2 hG ha).mono ?_
  rintro e w1 ⟨rfl, hb1⟩
  obtain ⟨q1, q2, q3, q4⟩ := four_blocks hb1
  have Q1 := Lib.hid q1
  have Q2 := Lib.hid q2
  have Q3 := Lib.hid q3
  have Q4 := Lib.hid q4
  have HB1 := Lib.hid (show Below w.heap.size w w1 from ((((Below.refl _ _).alloc (Nat.le_refl _) _).alloc (by simp) _).alloc (by simp; omega) _).alloc (by simp; omega) _ |>.trans (hb1.mono (by simp; omega)))
  obtain ⟨⟨Ak, Ai⟩, hA⟩ : ∃ A, A = varOf L G a := ⟨_, rfl⟩
  obtain ⟨⟨Bk, Bi⟩, hB⟩ : ∃ B, B = varOf L G b := ⟨_, rfl⟩
  rw [← hA]
  have HA := Lib.hid hA
  have HB := Lib.hid hB
  obtain ⟨a1, b1, z1⟩ := blk3 q1
  obtain ⟨a2, b2, z2⟩ := blk3 q2
  obtain ⟨a3, b3, z3⟩ := blk3 q3
  obtain ⟨a4, b4, z4⟩ := blk3 q4
  clear hA hB hb1 q1 q2 q3 q4
  go_wp2_with fail
  refine (variables_calls _ _ _ _ _ _ _ _ b _ _ _ _ _ _ hL hL2 hG hb).mono ?_
  rintro e w2 ⟨rfl, hb2⟩
  have hb2' := hb2
  have hbl2 : Below w1.heap.size w1 w2 := ((Below.refl _ _).alloc (Nat.le_refl _) _).trans (hb2.mono (by simp))
  have r1 := blk_below Q1.out hbl2
  have r2 := blk_below Q2.out hbl2
  have r3 := blk_below Q3.out hbl2
  have r4 := blk_below Q4.out hbl2
  have r5 := blk_below (heap_alloc_new w1 _) hb2
  rw [← HB.out]
  have HB2 := Lib.hid (HB1.out.trans (hbl2.mono HB1.out.size))
  clear a1 a2 a3 a4 b1 b2 b3 b4 z1 z2 z3 z4 hb2 hbl2
  obtain ⟨a1, b1, z1⟩ := blk3 r1
  obtain ⟨a2, b2, z2⟩ := blk3 r2
  obtain ⟨a3, b3, z3⟩ := blk3 r3
  obtain ⟨a4, b4, z4⟩ := blk3 r4
  obtain ⟨a5, b5, z5⟩ := blk3 r5
  have R1 := Lib.hid r1
  have R2 := Lib.hid r2
  have R3 := Lib.hid r3
  have R4 := Lib.hid r4
  clear r1 r2 r3 r4 r5
  have HFB := Lib.hid (show fb < w.heap.size from World.block_lt_of_cell? w _ (HP.out 0 hF))
  have HZ2 := Lib.hid (show w1.heap.size ≤ w2.heap.size by omega)
  have R5 := Lib.hid (blk_below (heap_alloc_new w1 (.cells #[.int .u8 Ak, .int .i64 Ai] 43)) (show Below (w1.alloc (.cells #[.int .u8 Ak, .int .i64 Ai] 43)).heap.size (w1.alloc (.cells #[.int .u8 Ak, .int .i64 Ai] 43)) w2 from hb2'))
  clear hb2'
  go_wp2
  have U1 := Lib.hid (blk_alloc (blk_alloc R1.out (.cells #[.int .u8 Bk, .int .i64 Bi] 43)) (.cells #[.int .u8 k2, .int .u8 a, .int .u8 b, .int .u8 c] 73))
  have U2 := Lib.hid (blk_alloc (blk_alloc R2.out (.cells #[.int .u8 Bk, .int .i64 Bi] 43)) (.cells #[.int .u8 k2, .int .u8 a, .int .u8 b, .int .u8 c] 73))
  have U4 := Lib.hid (blk_alloc (blk_alloc R4.out (.cells #[.int .u8 Bk, .int .i64 Bi] 43)) (.cells #[.int .u8 k2, .int .u8 a, .int .u8 b, .int .u8 c] 73))
  have U5 := Lib.hid (blk_alloc (blk_alloc R5.out (.cells #[.int .u8 Bk, .int .i64 Bi] 43)) (.cells #[.int .u8 k2, .int .u8 a, .int .u8 b, .int .u8 c] 73))
  have U6 := Lib.hid (blk_alloc (heap_alloc_new w2 (.cells #[.int .u8 Bk, .int .i64 Bi] 43)) (.cells #[.int .u8 k2, .int .u8 a, .int .u8 b, .int .u8 c] 73))
  have u7 := heap_alloc_new (w2.alloc (.cells #[.int .u8 Bk, .int .i64 Bi] 43)) (.cells #[.int .u8 k2, .int .u8 a, .int .u8 b, .int .u8 c] 73)
  rw [show (w2.alloc (.cells #[.int .u8 Bk, .int .i64 Bi] 43)).heap.size = w2.heap.size + 1 by simp] at u7
  have U7 := Lib.hid u7
  have HBW := Lib.hid ((HB2.out.alloc HB2.out.size (.cells #[.int .u8 Bk, .int .i64 Bi] 43)).alloc (by have := HB2.out.size; simp; omega) (.cells #[.int .u8 k2, .int .u8 a, .int .u8 b, .int .u8 c] 73))
  clear u7
  obtain ⟨W, hW⟩ : ∃ W, W = (w2.alloc (.cells #[.int .u8 Bk, .int .i64 Bi] 43)).alloc (.cells #[.int .u8 k2, .int .u8 a, .int .u8 b, .int .u8 c] 73) := ⟨_, rfl⟩
  rw [← hW] at U1 U2 U4 U5 U6 U7 HBW ⊢
  have HW := Lib.hid hW
  clear hW a1 a2 a3 a4 a5 b1 b2 b3 b4 b5 z1 z2 z3 z4 z5 hk hk2
  refine wp_region_HL (S := (fun w' => (∀ o, w'.cell? ⟨w.heap.size, o, none⟩ = (#[s1, .slice ga G gc, .slice (some ⟨fb, fo, none⟩) F fc, s4] : Array Value)[o]?) ∧ (∀ o, w'.cell? ⟨w.heap.size + 1, o, none⟩ = (#[f0, f1, .slice la L lc, .slice sa S sc, f4] : Array Value)[o]?) ∧ (∀ o, w'.cell? ⟨w2.heap.size + 1, o, none⟩ = (#[.int .u8 k2, .int .u8 a, .int .u8 b, .int .u8 c] : Array Value)[o]?) ∧ (∀ o, w'.cell? ⟨w1.heap.size, o, none⟩ = (#[.int .u8 Ak, .int .i64 Ai] : Array Value)[o]?) ∧ (∀ o, w'.cell? ⟨w2.heap.size, o, none⟩ = (#[.int .u8 Bk, .int .i64 Bi] : Array Value)[o]?))) 9 (by kernel_rfl) (by kernel_rfl) (by kernel_rfl) (by kernel_rfl) (by decide) ⟨(blk3 U1.out).1, (blk3 U2.out).1, (blk3 U7.out).1, (blk3 U5.out).1, (blk3 U6.out).1⟩ (fun hHeld => ?_)
  refine HL.take_ (i := 0) (oi := { dst := some 143, op := .load 32 (.tmp 3), type := 32, pos := "ref.go:347", after := #[], guard := none }) (v := ?_) rfl (by decide) (by kernel_rfl) (by kernel_rfl) (fun _ _ _ h => h) (Or.inl ⟨by rfl, ?_⟩) (by assumption) ?_
  rotate_left
  · intro w hSw
    (try dsimp only at hSw)
    obtain ⟨h1, h2, h3, h4, h5⟩ := hSw; (go_simp; try (with_reducible rfl))
  try simp only [Act.put, List.setIfInBounds_toArray, List.set_cons_zero, List.set_cons_succ]
  refine HL.take_ (i := 1) (oi := { dst := some 144, op := .load 35 (.tmp 4), type := 35, pos := "ref.go:347", after := #[], guard := none }) (v := ?_) rfl (by decide) (by kernel_rfl) (by kernel_rfl) (fun _ _ _ h => h) (Or.inl ⟨by rfl, ?_⟩) (by assumption) ?_
  rotate_left
  · intro w hSw
    (try dsimp only at hSw)
    obtain ⟨h1, h2, h3, h4, h5⟩ := hSw; (go_simp; try (with_reducible rfl))
  try simp only [Act.put, List.setIfInBounds_toArray, List.set_cons_zero, List.set_cons_succ]
  refine HL.take_ (i := 2) (oi := { dst := some 145, op := .load 73 (.tmp 13), type := 73, pos := "ref.go:347", after := #[], guard := none }) (v := ?_) rfl (by decide) (by kernel_rfl) (by kernel_rfl) (fun _ _ _ h => h) (Or.inl ⟨by rfl, ?_⟩) (by assumption) ?_
  rotate_left
  · intro w hSw
    (try dsimp only at hSw)
    obtain ⟨h1, h2, h3, h4, h5⟩ := hSw; (go_simp; try (with_reducible rfl))
  try simp only [Act.put, List.setIfInBounds_toArray, List.set_cons_zero, List.set_cons_succ]
  refine HL.take_ (i := 4) (oi := { dst := some 147, op := .load 43 (.tmp 8), type := 43, pos := "ref.go:347", after := #[], guard := none }) (v := ?_) rfl (by decide) (by kernel_rfl) (by kernel_rfl) (fun _ _ _ h => h) (Or.inl ⟨by rfl, ?_⟩) (by assumption) ?_
  rotate_left
  · intro w hSw
    (try dsimp only at hSw)
    obtain ⟨h1, h2, h3, h4, h5⟩ := hSw; (go_simp; try (with_reducible rfl))
  try simp only [Act.put, List.setIfInBounds_toArray, List.set_cons_zero, List.set_cons_succ]
  refine HL.take_ (i := 5) (oi := { dst := some 148, op := .load 43 (.tmp 7), type := 43, pos := "ref.go:347", after := #[], guard := none }) (v := ?_) rfl (by decide) (by kernel_rfl) (by kernel_rfl) (fun _ _ _ h => h) (Or.inl ⟨by rfl, ?_⟩) (by assumption) ?_
  rotate_left
  · intro w hSw
    (try dsimp only at hSw)
    obtain ⟨h1, h2, h3, h4, h5⟩ := hSw; (go_simp; try (with_reducible rfl))
  try simp only [Act.put, List.setIfInBounds_toArray, List.set_cons_zero, List.set_cons_succ]
  refine HL.take_ (i := 6) (oi := { dst := some 149, op := .build 46 #[(0, .const (.int .u8 2)), (1, .tmp 147), (2, .tmp 148)], type := 46, pos := "ref.go:347", after := #[{ on := 4, ground := .data }, { on := 5, ground := .data }], guard := none }) (v := ?_) rfl (by decide) (by kernel_rfl) (by kernel_rfl) (fun _ _ _ h => h) (Or.inl ⟨by rfl, ?_⟩) (by assumption) ?_
  rotate_left
  · intro w hSw
    (try dsimp only at hSw)
    obtain ⟨h1, h2, h3, h4, h5⟩ := hSw; (go_simp; try (with_reducible rfl))
  try simp only [Act.put, List.setIfInBounds_toArray, List.set_cons_zero, List.set_cons_succ]
  refine HL.step_ (i := 3) (o := { dst := some 146, op := .call { callee := .value (.func 28), args := #[.tmp 143, .tmp 144, .tmp 145], argTypes := #[32, 35, 73] }, type := 46, pos := "ref.go:347", after := #[{ on := 0, ground := .data }, { on := 1, ground := .data }, { on := 2, ground := .data }], guard := none }) rfl (by decide) (by kernel_rfl) (fun K hK => ?_)
  go_simp
  refine (stmt_flat W.drew _ _ G _ L _ S _ F _ _ _ _ fb fo _ _ _ params k2 a b c hL hL2 hG hF hF2 hS hS2 ha hb hcc (fun i hi => show W.cell? _ = _ from (sub_below HBW.out) _ _ (HP.out i hi)) HP3.out (by have := HK3.out; omega)).mono ?_
  rintro e w3 ⟨vs, rfl, hC, hb3⟩
  have HC := Lib.hid hC
  obtain ⟨s, hs⟩ : ∃ s, s = stmt1 G F L S params k2 a b c := ⟨_, rfl⟩
  have h7 := hC [] (by simp)
  rw [← hs] at h7
  have hb4 : Below W.heap.size W w3 := ⟨hb3.os, hb3.tape, hb3.output, hb3.size, hb3.block⟩
  have V1 := Lib.hid (blk_below U1.out hb4)
  have V2 := Lib.hid (blk_below U2.out hb4)
  have V4 := Lib.hid (blk_below U4.out hb4)
  have V5 := Lib.hid (blk_below U5.out hb4)
  have V6 := Lib.hid (blk_below U6.out hb4)
  have V7 := Lib.hid (blk_below U7.out hb4)
  have HB3 := Lib.hid (HBW.out.trans (hb4.mono HBW.out.size))
  have HB34 := Lib.hid hb4
  have HS := Lib.hid hs
  obtain ⟨k', ak', ai', bk', bi', args', body'⟩ := s
  obtain ⟨aa, al, ac, ba, bl, bc, hvs, _, _⟩ := (cells7_def _ _ _ _ _ _ _ _ _).1 h7
  obtain rfl : vs = #[.int .u8 k', .int .u8 ak', .int .i64 ai', .int .u8 bk', .int .i64 bi', .slice aa al ac, .slice ba bl bc] := by
    apply Array.ext'
    rw [hvs]
  clear hs h7 hC hb3 hb4 hvs
  refine hK.out _ _ ⟨(blk3 V1.out).1, (blk3 V2.out).1, (blk3 V7.out).1, (blk3 V5.out).1, (blk3 V6.out).1⟩ (fun hHeld => ?_)
  clear hK K hHeld
  try simp only [Act.put, List.setIfInBounds_toArray, List.set_cons_zero, List.set_cons_succ]
  refine HL.step_ (i := 7) (o := { dst := some 150, op := .buildSlice 22 2 #[(0, .tmp 146), (1, .tmp 149)], type := 22, pos := "ref.go:347", after := #[{ on := 3, ground := .data }, { on := 6, ground := .data }], guard := none }) rfl (by decide) (by kernel_rfl) (fun K hK => ?_)
  go_simp
  refine hK.out _ _ ⟨(blk3 (blk_alloc V1.out _)).1, (blk3 (blk_alloc V2.out _)).1, (blk3 (blk_alloc V7.out _)).1, (blk3 (blk_alloc V5.out _)).1, (blk3 (blk_alloc V6.out _)).1⟩ (fun hHeld => ?_)
  clear hK K
  try simp only [Act.put, List.setIfInBounds_toArray, List.set_cons_zero, List.set_cons_succ]
  refine HL.take_ (i := 8) (oi := { dst := some 151, op := .build 46 #[(0, .const (.int .u8 7)), (4, .tmp 150)], type := 46, pos := "ref.go:347", after := #[{ on := 7, ground := .data }], guard := none }) (v := ?_) rfl (by decide) (by kernel_rfl) (by kernel_rfl) (fun _ _ _ h => h) (Or.inl ⟨by rfl, ?_⟩) (by assumption) ?_
  rotate_left
  · intro w hSw
    (try dsimp only at hSw)
    (go_simp; try (with_reducible rfl))
  try simp only [Act.put, List.setIfInBounds_toArray, List.set_cons_zero, List.set_cons_succ]
  refine HL.done_ (by kernel_rfl) ?_
  simp only [List.drop_succ_cons, List.drop_zero]
  obtain ⟨a4, b4, z4⟩ := blk3 V4.out
  clear hHeld
  go_wp2
  refine bodyPost_ret (v := .agg #[.int .u8 7, .int .u8 0, .int .i64 0, .int .u8 0, .int .i64 0, .slice none 0 0, .slice (some ⟨w3.heap.size, 0, none⟩) 2 2]) (by rw [results_cell rfl]; go_simp) rfl ?_
  refine ⟨_, rfl, fun bs hbs => ?_, ?_⟩
  · rw [HST.out]
    have hW3 : W.heap.size ≤ w3.heap.size := HB34.out.size
    have hwW : w.heap.size + 1 + 1 + 1 < W.heap.size := blk_lt U4.out
    have hg : w3.heap.size ∉ bs := fun h => by have := hbs _ h; omega
    have hc1 := HC.out ((w.heap.size + 1 + 1 + 1) :: bs) (fun b hb => by
      rcases List.mem_cons.1 hb with rfl | hb
      · exact hwW
      · have := hbs b hb
        show b < W.heap.size
        omega)
    rw [← HS.out] at hc1
    rw [← HS.out, ← HA.out, ← HB.out]
    exact two_read hc1 hg _ _ _ _ _ _ _
  · exact (below_set7 HB3.out (by omega) _ _ _ _ _ _ _).alloc (by rw [set7_size]; exact HB3.out.size) _
set_option maxRecDepth 100000 in
set_option maxHeartbeats 4000000 in
theorem stmt_block0 (w : World) (s1 s4 : Value) (G gc L lc S sc F fc : Nat) (ga la fa sa : Option Addr) (f0 f1 f4 : Value) (params : Nat → Nat) (k a b c : Nat) (hL : 0 < L) (hL2 : L ≤ 1000) (hG : G ≤ 1000) (ha : a < 256) (hb : b < 256) (hcc : c < 256) (hk : ((k : Int) % 10) = 7) (hk2 : (c : Int) % 8 = 7) (xs : St) (hst : xs = .mk 7 0 0 0 0 [] []) :
    Calls Try.prog 28 #[.agg #[s1, .slice ga G gc, .slice fa F fc, s4], .agg #[f0, f1, .slice la L lc, .slice sa S sc, f4], .agg #[.int .u8 k, .int .u8 a, .int .u8 b, .int .u8 c]] w (Stated w (xs)) := by
  have HST := Lib.hid hst
  clear hst
  go_enter Try.func28, Try.ntmps28
  go_wp2_with fail
  refine (variables_calls _ _ _ _ _ _ _ _ a _ _ _ _ _ _ hL hL2 hG ha).mono ?_
  rintro e w1 ⟨rfl, hb1⟩
  obtain ⟨q1, q2, q3, q4⟩ := four_blocks hb1
  have Q1 := Lib.hid q1
  have Q2 := Lib.hid q2
  have Q3 := Lib.hid q3
  have Q4 := Lib.hid q4
  have HB1 := Lib.hid (show Below w.heap.size w w1 from ((((Below.refl _ _).alloc (Nat.le_refl _) _).alloc (by simp) _).alloc (by simp; omega) _).alloc (by simp; omega) _ |>.trans (hb1.mono (by simp; omega)))
  obtain ⟨⟨Ak, Ai⟩, hA⟩ : ∃ A, A = varOf L G a := ⟨_, rfl⟩
  obtain ⟨⟨Bk, Bi⟩, hB⟩ : ∃ B, B = varOf L G b := ⟨_, rfl⟩
  rw [← hA]
  have HA := Lib.hid hA
  have HB := Lib.hid hB
  obtain ⟨a1, b1, z1⟩ := blk3 q1
  obtain ⟨a2, b2, z2⟩ := blk3 q2
  obtain ⟨a3, b3, z3⟩ := blk3 q3
  obtain ⟨a4, b4, z4⟩ := blk3 q4
  clear hA hB hb1 q1 q2 q3 q4
  go_wp2_with fail
  refine (variables_calls _ _ _ _ _ _ _ _ b _ _ _ _ _ _ hL hL2 hG hb).mono ?_
  rintro e w2 ⟨rfl, hb2⟩
  have hbl2 : Below w1.heap.size w1 w2 := ((Below.refl _ _).alloc (Nat.le_refl _) _).trans (hb2.mono (by simp))
  have r1 := blk_below Q1.out hbl2
  have r2 := blk_below Q2.out hbl2
  have r3 := blk_below Q3.out hbl2
  have r4 := blk_below Q4.out hbl2
  have r5 := blk_below (heap_alloc_new w1 _) hb2
  rw [← HB.out]
  have HB2 := Lib.hid (HB1.out.trans (hbl2.mono HB1.out.size))
  clear a1 a2 a3 a4 b1 b2 b3 b4 z1 z2 z3 z4 hb2 hbl2
  obtain ⟨a1, b1, z1⟩ := blk3 r1
  obtain ⟨a2, b2, z2⟩ := blk3 r2
  obtain ⟨a3, b3, z3⟩ := blk3 r3
  obtain ⟨a4, b4, z4⟩ := blk3 r4
  obtain ⟨a5, b5, z5⟩ := blk3 r5
  have R1 := Lib.hid r1
  have R2 := Lib.hid r2
  have R3 := Lib.hid r3
  have R4 := Lib.hid r4
  clear r1 r2 r3 r4 r5
  have HZ2 := Lib.hid (show w1.heap.size ≤ w2.heap.size by omega)
  go_wp2
  refine bodyPost_ret (v := .agg #[.int .u8 7, .int .u8 0, .int .i64 0, .int .u8 0, .int .i64 0, .slice none 0 0, .slice none 0 0]) (by rw [results_cell rfl]; go_simp) rfl ?_
  refine ⟨_, rfl, fun bs hbs => ?_, ?_⟩
  · rw [HST.out]
    exact cells7_refs _ _ _ _ _ _
  · exact ((below_set7 HB2.out (by omega) _ _ _ _ _ _ _).alloc (by rw [set7_size]; exact HB2.out.size) _).alloc (by rw [World.size_alloc, set7_size]; have := HB2.out.size; omega) _
/-- A statement, by numbers. -/
def stmtS (G F L S : Nat) (params : Nat → Nat) (k a b c : Nat) : St :=
  if k % 10 = 7 then (if c % 8 = 7 then .mk 7 0 0 0 0 [] [] else .mk 7 0 0 0 0 [] [stmt1 G F L S params (c % 8) a b c, .mk 2 (varOf L G b).1 (varOf L G b).2 (varOf L G a).1 (varOf L G a).2 [] []])
  else stmt1 G F L S params k a b c
theorem stmt_calls (w : World) (s1 s4 : Value) (G gc L lc S sc F fc : Nat) (ga la sa : Option Addr) (fb fo : Nat) (f0 f1 f4 : Value) (params : Nat → Nat) (k a b c : Nat) (hL : 0 < L) (hL2 : L ≤ 1000) (hG : G ≤ 1000) (hF : 0 < F) (hF2 : F ≤ 1000) (hS : 0 < S) (hS2 : S ≤ 1000) (ha : a < 256) (hb : b < 256) (hcc : c < 256)
    (hP : ∀ i, i < F → w.cell? ⟨fb, fo + i * 5 + 1, none⟩ = some (.int .i64 (params i : Nat))) (hp3 : ∀ i, params i ≤ 100) :
    Calls Try.prog 28 #[.agg #[s1, .slice ga G gc, .slice (some ⟨fb, fo, none⟩) F fc, s4], .agg #[f0, f1, .slice la L lc, .slice sa S sc, f4], .agg #[.int .u8 k, .int .u8 a, .int .u8 b, .int .u8 c]] w (Stated w (stmtS G F L S params k a b c)) := by
  unfold stmtS
  by_cases hk : k % 10 = 7
  · rw [if_pos hk]
    by_cases hc : c % 8 = 7
    · rw [if_pos hc]
      exact stmt_block0 w s1 s4 G gc L lc S sc F fc ga la (some ⟨fb, fo, none⟩) sa f0 f1 f4 params k a b c hL hL2 hG ha hb hcc (by omega) (by omega) _ rfl
    · rw [if_neg hc]
      exact stmt_block w s1 s4 G gc L lc S sc F fc ga la sa fb fo f0 f1 f4 params k a b c hL hL2 hG hF hF2 hS hS2 ha hb hcc hP hp3 (by omega) (c % 8) (by omega) (by omega) _ rfl
  · rw [if_neg hk]
    exact stmt_flat w s1 s4 G gc L lc S sc F fc ga la sa fb fo f0 f1 f4 params k a b c hL hL2 hG hF hF2 hS hS2 ha hb hcc hP hp3 hk
end Go.Proofs.Ytjgijbaboekghaa

/-
  r05.statement (function 21), more of it: printed by a small program of mine (genstmt.py).
-/
import Derived.Test.YtjgijbaboekghaaStmt
set_option linter.unusedVariables false
set_option linter.unusedSimpArgs false
namespace Go.Proofs.Ytjgijbaboekghaa
open Go.RowKit
set_option maxRecDepth 100000 in
set_option maxHeartbeats 4000000 in
theorem stmt_three (w : World) (s1 s4 : Value) (G gc L lc S sc F fc : Nat) (ga la fa sa : Option Addr) (f0 f1 f4 : Value) (params : Nat → Nat) (k a b c : Nat) (hL : 0 < L) (hL2 : L ≤ 1000) (hG : G ≤ 1000) (ha : a < 256) (hb : b < 256) (hk : ((k : Int) % 10) = 3) :
    Calls Try.prog 28 #[.agg #[s1, .slice ga G gc, .slice fa F fc, s4], .agg #[f0, f1, .slice la L lc, .slice sa S sc, f4], .agg #[.int .u8 k, .int .u8 a, .int .u8 b, .int .u8 c]] w (Stated w (stmt1 G F L S params k a b c)) := by
  have hst : stmt1 G F L S params k a b c = .mk 4 (varOf L G a).1 (varOf L G a).2 (varOf L G b).1 (varOf L G b).2 [] [] := by
    unfold stmt1; rw [if_neg (by omega), if_neg (by omega), if_pos (by omega)]
  have HST := Lib.hid hst
  clear hst
  go_enter Try.func28, Try.ntmps28
  go_wp2_with fail
  refine (variables_calls _ _ _ _ _ _ _ _ a _ _ _ _ _ _ hL hL2 hG ha).mono ?_
  rintro e w1 ⟨rfl, hb1⟩
  obtain ⟨q1, q2, q3, q4⟩ := four_blocks hb1
  have Q1 := Lib.hid q1
  have Q2 := Lib.hid q2
  have Q3 := Lib.hid q3
  have Q4 := Lib.hid q4
  have HB1 := Lib.hid (show Below w.heap.size w w1 from ((((Below.refl _ _).alloc (Nat.le_refl _) _).alloc (by simp) _).alloc (by simp; omega) _).alloc (by simp; omega) _ |>.trans (hb1.mono (by simp; omega)))
  obtain ⟨⟨Ak, Ai⟩, hA⟩ : ∃ A, A = varOf L G a := ⟨_, rfl⟩
  obtain ⟨⟨Bk, Bi⟩, hB⟩ : ∃ B, B = varOf L G b := ⟨_, rfl⟩
  rw [← hA]
  obtain ⟨a0, a1, a2, a3⟩ := c4 (blk_alloc q1 (.cells #[.int .u8 Ak, .int .i64 Ai] 43))
  obtain ⟨b0, b1, b2, b3, b4⟩ := c5 (blk_alloc q2 (.cells #[.int .u8 Ak, .int .i64 Ai] 43))
  obtain ⟨d0, d1, d2, d3⟩ := c4 (blk_alloc q3 (.cells #[.int .u8 Ak, .int .i64 Ai] 43))
  have HA := Lib.hid hA
  have HB := Lib.hid hB
  clear q1 q2 q3 q4 hb1 hA hB
  go_wp2_with fail
  refine (variables_calls _ _ _ _ _ _ _ _ b _ _ _ _ _ _ hL hL2 hG hb).mono ?_
  rintro e w2 ⟨rfl, hb2⟩
  have hbl2 : Below w1.heap.size w1 w2 := ((Below.refl _ _).alloc (Nat.le_refl _) _).trans (hb2.mono (by simp))
  have r1 := blk_below Q1.out hbl2
  have r2 := blk_below Q2.out hbl2
  have r3 := blk_below Q3.out hbl2
  have r4 := blk_below Q4.out hbl2
  have r5 := blk_below (heap_alloc_new w1 _) hb2
  rw [← HB.out]
  clear a0 a1 a2 a3 b0 b1 b2 b3 b4 d0 d1 d2 d3
  have r3 := blk_alloc r3 (.cells #[.int .u8 Bk, .int .i64 Bi] 43)
  have r4 := blk_alloc r4 (.cells #[.int .u8 Bk, .int .i64 Bi] 43)
  have r5 := blk_alloc r5 (.cells #[.int .u8 Bk, .int .i64 Bi] 43)
  obtain ⟨d0, d1, d2, d3⟩ := c4 r3
  obtain ⟨g0, g1⟩ := c2 r5
  have fz := blk_frozen r4
  have fz0 := fz 0
  have fz1 := fz 1
  have fz2 := fz 2
  have fz3 := fz 3
  have fz4 := fz 4
  have fz5 := fz 5
  have fz6 := fz 6
  obtain ⟨z0, z1, z2, z3, z4, z5, z6⟩ := c7 r4
  have R4 := Lib.hid r4
  have HB2 := Lib.hid (HB1.out.trans (hbl2.mono HB1.out.size))
  clear r1 r2 r3 r4 r5 hb2 hbl2 fz
  go_wp2
  refine bodyPost_ret (v := .agg #[.int .u8 4, .int .u8 Ak, .int .i64 Ai, .int .u8 Bk, .int .i64 Bi, .slice none 0 0, .slice none 0 0]) (by rw [results_cell rfl]; go_simp) rfl ?_
  refine ⟨_, rfl, ?_, ?_⟩
  · rw [HST.out, ← HA.out, ← HB.out]
    exact fun _ _ => cells7_refs _ _ _ _ _ _
  · exact below_set7 (HB2.out.alloc HB2.out.size _) (by omega) _ _ _ _ _ _ _
set_option maxRecDepth 100000 in
set_option maxHeartbeats 4000000 in
theorem stmt_six (w : World) (s1 s4 : Value) (G gc L lc S sc F fc : Nat) (ga la fa sa : Option Addr) (f0 f1 f4 : Value) (params : Nat → Nat) (k a b c : Nat) (hL : 0 < L) (hL2 : L ≤ 1000) (hG : G ≤ 1000) (ha : a < 256) (hb : b < 256) (hk : ((k : Int) % 10) = 6) :
    Calls Try.prog 28 #[.agg #[s1, .slice ga G gc, .slice fa F fc, s4], .agg #[f0, f1, .slice la L lc, .slice sa S sc, f4], .agg #[.int .u8 k, .int .u8 a, .int .u8 b, .int .u8 c]] w (Stated w (stmt1 G F L S params k a b c)) := by
  have hst : stmt1 G F L S params k a b c = .mk 6 0 0 (varOf L G b).1 (varOf L G b).2 [] [] := by
    unfold stmt1; rw [if_neg (by omega), if_neg (by omega), if_neg (by omega), if_neg (by omega), if_pos (by omega)]
  have HST := Lib.hid hst
  clear hst
  go_enter Try.func28, Try.ntmps28
  go_wp2_with fail
  refine (variables_calls _ _ _ _ _ _ _ _ a _ _ _ _ _ _ hL hL2 hG ha).mono ?_
  rintro e w1 ⟨rfl, hb1⟩
  obtain ⟨q1, q2, q3, q4⟩ := four_blocks hb1
  have Q1 := Lib.hid q1
  have Q2 := Lib.hid q2
  have Q3 := Lib.hid q3
  have Q4 := Lib.hid q4
  have HB1 := Lib.hid (show Below w.heap.size w w1 from ((((Below.refl _ _).alloc (Nat.le_refl _) _).alloc (by simp) _).alloc (by simp; omega) _).alloc (by simp; omega) _ |>.trans (hb1.mono (by simp; omega)))
  obtain ⟨⟨Ak, Ai⟩, hA⟩ : ∃ A, A = varOf L G a := ⟨_, rfl⟩
  obtain ⟨⟨Bk, Bi⟩, hB⟩ : ∃ B, B = varOf L G b := ⟨_, rfl⟩
  rw [← hA]
  obtain ⟨a0, a1, a2, a3⟩ := c4 (blk_alloc q1 (.cells #[.int .u8 Ak, .int .i64 Ai] 43))
  obtain ⟨b0, b1, b2, b3, b4⟩ := c5 (blk_alloc q2 (.cells #[.int .u8 Ak, .int .i64 Ai] 43))
  obtain ⟨d0, d1, d2, d3⟩ := c4 (blk_alloc q3 (.cells #[.int .u8 Ak, .int .i64 Ai] 43))
  have HA := Lib.hid hA
  have HB := Lib.hid hB
  clear q1 q2 q3 q4 hb1 hA hB
  go_wp2_with fail
  refine (variables_calls _ _ _ _ _ _ _ _ b _ _ _ _ _ _ hL hL2 hG hb).mono ?_
  rintro e w2 ⟨rfl, hb2⟩
  have hbl2 : Below w1.heap.size w1 w2 := ((Below.refl _ _).alloc (Nat.le_refl _) _).trans (hb2.mono (by simp))
  have r1 := blk_below Q1.out hbl2
  have r2 := blk_below Q2.out hbl2
  have r3 := blk_below Q3.out hbl2
  have r4 := blk_below Q4.out hbl2
  have r5 := blk_below (heap_alloc_new w1 _) hb2
  rw [← HB.out]
  clear a0 a1 a2 a3 b0 b1 b2 b3 b4 d0 d1 d2 d3
  have r3 := blk_alloc r3 (.cells #[.int .u8 Bk, .int .i64 Bi] 43)
  have r4 := blk_alloc r4 (.cells #[.int .u8 Bk, .int .i64 Bi] 43)
  have r5 := blk_alloc r5 (.cells #[.int .u8 Bk, .int .i64 Bi] 43)
  obtain ⟨d0, d1, d2, d3⟩ := c4 r3
  obtain ⟨g0, g1⟩ := c2 r5
  have fz := blk_frozen r4
  have fz0 := fz 0
  have fz1 := fz 1
  have fz2 := fz 2
  have fz3 := fz 3
  have fz4 := fz 4
  have fz5 := fz 5
  have fz6 := fz 6
  obtain ⟨z0, z1, z2, z3, z4, z5, z6⟩ := c7 r4
  have R4 := Lib.hid r4
  have HB2 := Lib.hid (HB1.out.trans (hbl2.mono HB1.out.size))
  clear r1 r2 r3 r4 r5 hb2 hbl2 fz
  go_wp2
  refine bodyPost_ret (v := .agg #[.int .u8 6, .int .u8 0, .int .i64 0, .int .u8 Bk, .int .i64 Bi, .slice none 0 0, .slice none 0 0]) (by rw [results_cell rfl]; go_simp) rfl ?_
  refine ⟨_, rfl, ?_, ?_⟩
  · rw [HST.out, ← HB.out]
    exact fun _ _ => cells7_refs _ _ _ _ _ _
  · exact below_set7 (HB2.out.alloc HB2.out.size _) (by omega) _ _ _ _ _ _ _
set_option maxRecDepth 100000 in
set_option maxHeartbeats 4000000 in
theorem stmt_eight (w : World) (s1 s4 : Value) (G gc L lc S sc F fc : Nat) (ga la fa sa : Option Addr) (f0 f1 f4 : Value) (params : Nat → Nat) (k a b c : Nat) (hL : 0 < L) (hL2 : L ≤ 1000) (hG : G ≤ 1000) (ha : a < 256) (hb : b < 256) (hk : ((k : Int) % 10) = 8) :
    Calls Try.prog 28 #[.agg #[s1, .slice ga G gc, .slice fa F fc, s4], .agg #[f0, f1, .slice la L lc, .slice sa S sc, f4], .agg #[.int .u8 k, .int .u8 a, .int .u8 b, .int .u8 c]] w (Stated w (stmt1 G F L S params k a b c)) := by
  have hst : stmt1 G F L S params k a b c = .mk 2 (varOf L G a).1 (varOf L G a).2 (varOf L G b).1 (varOf L G b).2 [] [] := by
    unfold stmt1; rw [if_neg (by omega), if_neg (by omega), if_neg (by omega), if_neg (by omega), if_neg (by omega)]
  have HST := Lib.hid hst
  clear hst
  go_enter Try.func28, Try.ntmps28
  go_wp2_with fail
  refine (variables_calls _ _ _ _ _ _ _ _ a _ _ _ _ _ _ hL hL2 hG ha).mono ?_
  rintro e w1 ⟨rfl, hb1⟩
  obtain ⟨q1, q2, q3, q4⟩ := four_blocks hb1
  have Q1 := Lib.hid q1
  have Q2 := Lib.hid q2
  have Q3 := Lib.hid q3
  have Q4 := Lib.hid q4
  have HB1 := Lib.hid (show Below w.heap.size w w1 from ((((Below.refl _ _).alloc (Nat.le_refl _) _).alloc (by simp) _).alloc (by simp; omega) _).alloc (by simp; omega) _ |>.trans (hb1.mono (by simp; omega)))
  obtain ⟨⟨Ak, Ai⟩, hA⟩ : ∃ A, A = varOf L G a := ⟨_, rfl⟩
  obtain ⟨⟨Bk, Bi⟩, hB⟩ : ∃ B, B = varOf L G b := ⟨_, rfl⟩
  rw [← hA]
  obtain ⟨a0, a1, a2, a3⟩ := c4 (blk_alloc q1 (.cells #[.int .u8 Ak, .int .i64 Ai] 43))
  obtain ⟨b0, b1, b2, b3, b4⟩ := c5 (blk_alloc q2 (.cells #[.int .u8 Ak, .int .i64 Ai] 43))
  obtain ⟨d0, d1, d2, d3⟩ := c4 (blk_alloc q3 (.cells #[.int .u8 Ak, .int .i64 Ai] 43))
  have HA := Lib.hid hA
  have HB := Lib.hid hB
  clear q1 q2 q3 q4 hb1 hA hB
  go_wp2_with fail
  refine (variables_calls _ _ _ _ _ _ _ _ b _ _ _ _ _ _ hL hL2 hG hb).mono ?_
  rintro e w2 ⟨rfl, hb2⟩
  have hbl2 : Below w1.heap.size w1 w2 := ((Below.refl _ _).alloc (Nat.le_refl _) _).trans (hb2.mono (by simp))
  have r1 := blk_below Q1.out hbl2
  have r2 := blk_below Q2.out hbl2
  have r3 := blk_below Q3.out hbl2
  have r4 := blk_below Q4.out hbl2
  have r5 := blk_below (heap_alloc_new w1 _) hb2
  rw [← HB.out]
  clear a0 a1 a2 a3 b0 b1 b2 b3 b4 d0 d1 d2 d3
  have r3 := blk_alloc r3 (.cells #[.int .u8 Bk, .int .i64 Bi] 43)
  have r4 := blk_alloc r4 (.cells #[.int .u8 Bk, .int .i64 Bi] 43)
  have r5 := blk_alloc r5 (.cells #[.int .u8 Bk, .int .i64 Bi] 43)
  obtain ⟨d0, d1, d2, d3⟩ := c4 r3
  obtain ⟨g0, g1⟩ := c2 r5
  have fz := blk_frozen r4
  have fz0 := fz 0
  have fz1 := fz 1
  have fz2 := fz 2
  have fz3 := fz 3
  have fz4 := fz 4
  have fz5 := fz 5
  have fz6 := fz 6
  obtain ⟨z0, z1, z2, z3, z4, z5, z6⟩ := c7 r4
  have R4 := Lib.hid r4
  have HB2 := Lib.hid (HB1.out.trans (hbl2.mono HB1.out.size))
  clear r1 r2 r3 r4 r5 hb2 hbl2 fz
  go_wp2
  refine bodyPost_ret (v := .agg #[.int .u8 2, .int .u8 Ak, .int .i64 Ai, .int .u8 Bk, .int .i64 Bi, .slice none 0 0, .slice none 0 0]) (by rw [results_cell rfl]; go_simp) rfl ?_
  refine ⟨_, rfl, ?_, ?_⟩
  · rw [HST.out, ← HA.out, ← HB.out]
    exact fun _ _ => cells7_refs _ _ _ _ _ _
  · exact below_set7 (HB2.out.alloc HB2.out.size _) (by omega) _ _ _ _ _ _ _
set_option maxRecDepth 100000 in
set_option maxHeartbeats 4000000 in
theorem stmt_nine (w : World) (s1 s4 : Value) (G gc L lc S sc F fc : Nat) (ga la fa sa : Option Addr) (f0 f1 f4 : Value) (params : Nat → Nat) (k a b c : Nat) (hL : 0 < L) (hL2 : L ≤ 1000) (hG : G ≤ 1000) (ha : a < 256) (hb : b < 256) (hk : ((k : Int) % 10) = 9) :
    Calls Try.prog 28 #[.agg #[s1, .slice ga G gc, .slice fa F fc, s4], .agg #[f0, f1, .slice la L lc, .slice sa S sc, f4], .agg #[.int .u8 k, .int .u8 a, .int .u8 b, .int .u8 c]] w (Stated w (stmt1 G F L S params k a b c)) := by
  have hst : stmt1 G F L S params k a b c = .mk 2 (varOf L G a).1 (varOf L G a).2 (varOf L G b).1 (varOf L G b).2 [] [] := by
    unfold stmt1; rw [if_neg (by omega), if_neg (by omega), if_neg (by omega), if_neg (by omega), if_neg (by omega)]
  have HST := Lib.hid hst
  clear hst
  go_enter Try.func28, Try.ntmps28
  go_wp2_with fail
  refine (variables_calls _ _ _ _ _ _ _ _ a _ _ _ _ _ _ hL hL2 hG ha).mono ?_
  rintro e w1 ⟨rfl, hb1⟩
  obtain ⟨q1, q2, q3, q4⟩ := four_blocks hb1
  have Q1 := Lib.hid q1
  have Q2 := Lib.hid q2
  have Q3 := Lib.hid q3
  have Q4 := Lib.hid q4
  have HB1 := Lib.hid (show Below w.heap.size w w1 from ((((Below.refl _ _).alloc (Nat.le_refl _) _).alloc (by simp) _).alloc (by simp; omega) _).alloc (by simp; omega) _ |>.trans (hb1.mono (by simp; omega)))
  obtain ⟨⟨Ak, Ai⟩, hA⟩ : ∃ A, A = varOf L G a := ⟨_, rfl⟩
  obtain ⟨⟨Bk, Bi⟩, hB⟩ : ∃ B, B = varOf L G b := ⟨_, rfl⟩
  rw [← hA]
  obtain ⟨a0, a1, a2, a3⟩ := c4 (blk_alloc q1 (.cells #[.int .u8 Ak, .int .i64 Ai] 43))
  obtain ⟨b0, b1, b2, b3, b4⟩ := c5 (blk_alloc q2 (.cells #[.int .u8 Ak, .int .i64 Ai] 43))
  obtain ⟨d0, d1, d2, d3⟩ := c4 (blk_alloc q3 (.cells #[.int .u8 Ak, .int .i64 Ai] 43))
  have HA := Lib.hid hA
  have HB := Lib.hid hB
  clear q1 q2 q3 q4 hb1 hA hB
  go_wp2_with fail
  refine (variables_calls _ _ _ _ _ _ _ _ b _ _ _ _ _ _ hL hL2 hG hb).mono ?_
  rintro e w2 ⟨rfl, hb2⟩
  have hbl2 : Below w1.heap.size w1 w2 := ((Below.refl _ _).alloc (Nat.le_refl _) _).trans (hb2.mono (by simp))
  have r1 := blk_below Q1.out hbl2
  have r2 := blk_below Q2.out hbl2
  have r3 := blk_below Q3.out hbl2
  have r4 := blk_below Q4.out hbl2
  have r5 := blk_below (heap_alloc_new w1 _) hb2
  rw [← HB.out]
  clear a0 a1 a2 a3 b0 b1 b2 b3 b4 d0 d1 d2 d3
  have r3 := blk_alloc r3 (.cells #[.int .u8 Bk, .int .i64 Bi] 43)
  have r4 := blk_alloc r4 (.cells #[.int .u8 Bk, .int .i64 Bi] 43)
  have r5 := blk_alloc r5 (.cells #[.int .u8 Bk, .int .i64 Bi] 43)
  obtain ⟨d0, d1, d2, d3⟩ := c4 r3
  obtain ⟨g0, g1⟩ := c2 r5
  have fz := blk_frozen r4
  have fz0 := fz 0
  have fz1 := fz 1
  have fz2 := fz 2
  have fz3 := fz 3
  have fz4 := fz 4
  have fz5 := fz 5
  have fz6 := fz 6
  obtain ⟨z0, z1, z2, z3, z4, z5, z6⟩ := c7 r4
  have R4 := Lib.hid r4
  have HB2 := Lib.hid (HB1.out.trans (hbl2.mono HB1.out.size))
  clear r1 r2 r3 r4 r5 hb2 hbl2 fz
  go_wp2
  refine bodyPost_ret (v := .agg #[.int .u8 2, .int .u8 Ak, .int .i64 Ai, .int .u8 Bk, .int .i64 Bi, .slice none 0 0, .slice none 0 0]) (by rw [results_cell rfl]; go_simp) rfl ?_
  refine ⟨_, rfl, ?_, ?_⟩
  · rw [HST.out, ← HA.out, ← HB.out]
    exact fun _ _ => cells7_refs _ _ _ _ _ _
  · exact below_set7 (HB2.out.alloc HB2.out.size _) (by omega) _ _ _ _ _ _ _
set_option maxRecDepth 100000 in
set_option maxHeartbeats 4000000 in
theorem stmt_zero_b (w : World) (s1 s4 : Value) (G gc L lc S sc F fc : Nat) (ga la fa sa : Option Addr) (f0 f1 f4 : Value) (params : Nat → Nat) (k a b c : Nat) (hL : 0 < L) (hL2 : L ≤ 1000) (hG : G ≤ 1000) (ha : a < 256) (hb : b < 256) (hk : ((k : Int) % 10) = 0) (hc : ((c : Int) % 4) = 0) :
    Calls Try.prog 28 #[.agg #[s1, .slice ga G gc, .slice fa F fc, s4], .agg #[f0, f1, .slice la L lc, .slice sa S sc, f4], .agg #[.int .u8 k, .int .u8 a, .int .u8 b, .int .u8 c]] w (Stated w (stmt1 G F L S params k a b c)) := by
  have hst : stmt1 G F L S params k a b c = .mk 1 (varOf L G a).1 (varOf L G a).2 (varOf L G b).1 (varOf L G b).2 [] [] := by
    unfold stmt1; rw [if_pos (by omega), if_neg (by omega), if_pos (by omega)]
  have HST := Lib.hid hst
  clear hst
  go_enter Try.func28, Try.ntmps28
  go_wp2_with fail
  refine (variables_calls _ _ _ _ _ _ _ _ a _ _ _ _ _ _ hL hL2 hG ha).mono ?_
  rintro e w1 ⟨rfl, hb1⟩
  obtain ⟨q1, q2, q3, q4⟩ := four_blocks hb1
  have Q1 := Lib.hid q1
  have Q2 := Lib.hid q2
  have Q3 := Lib.hid q3
  have Q4 := Lib.hid q4
  have HB1 := Lib.hid (show Below w.heap.size w w1 from ((((Below.refl _ _).alloc (Nat.le_refl _) _).alloc (by simp) _).alloc (by simp; omega) _).alloc (by simp; omega) _ |>.trans (hb1.mono (by simp; omega)))
  obtain ⟨⟨Ak, Ai⟩, hA⟩ : ∃ A, A = varOf L G a := ⟨_, rfl⟩
  obtain ⟨⟨Bk, Bi⟩, hB⟩ : ∃ B, B = varOf L G b := ⟨_, rfl⟩
  rw [← hA]
  obtain ⟨a0, a1, a2, a3⟩ := c4 (blk_alloc q1 (.cells #[.int .u8 Ak, .int .i64 Ai] 43))
  obtain ⟨b0, b1, b2, b3, b4⟩ := c5 (blk_alloc q2 (.cells #[.int .u8 Ak, .int .i64 Ai] 43))
  obtain ⟨d0, d1, d2, d3⟩ := c4 (blk_alloc q3 (.cells #[.int .u8 Ak, .int .i64 Ai] 43))
  have HA := Lib.hid hA
  have HB := Lib.hid hB
  clear q1 q2 q3 q4 hb1 hA hB
  go_wp2_with fail
  refine (variables_calls _ _ _ _ _ _ _ _ b _ _ _ _ _ _ hL hL2 hG hb).mono ?_
  rintro e w2 ⟨rfl, hb2⟩
  have hbl2 : Below w1.heap.size w1 w2 := ((Below.refl _ _).alloc (Nat.le_refl _) _).trans (hb2.mono (by simp))
  have r1 := blk_below Q1.out hbl2
  have r2 := blk_below Q2.out hbl2
  have r3 := blk_below Q3.out hbl2
  have r4 := blk_below Q4.out hbl2
  have r5 := blk_below (heap_alloc_new w1 _) hb2
  rw [← HB.out]
  clear a0 a1 a2 a3 b0 b1 b2 b3 b4 d0 d1 d2 d3
  have r3 := blk_alloc r3 (.cells #[.int .u8 Bk, .int .i64 Bi] 43)
  have r4 := blk_alloc r4 (.cells #[.int .u8 Bk, .int .i64 Bi] 43)
  have r5 := blk_alloc r5 (.cells #[.int .u8 Bk, .int .i64 Bi] 43)
  obtain ⟨d0, d1, d2, d3⟩ := c4 r3
  obtain ⟨g0, g1⟩ := c2 r5
  have fz := blk_frozen r4
  have fz0 := fz 0
  have fz1 := fz 1
  have fz2 := fz 2
  have fz3 := fz 3
  have fz4 := fz 4
  have fz5 := fz 5
  have fz6 := fz 6
  obtain ⟨z0, z1, z2, z3, z4, z5, z6⟩ := c7 r4
  have T1 := Lib.hid (fun o => blk_alloc (blk_alloc r1 (.cells #[.int .u8 Bk, .int .i64 Bi] 43)) o)
  have T2 := Lib.hid (fun o => blk_alloc (blk_alloc r2 (.cells #[.int .u8 Bk, .int .i64 Bi] 43)) o)
  have T3 := Lib.hid (fun o => blk_alloc r3 o)
  have T4 := Lib.hid (fun o => blk_alloc r4 o)
  have T5 := Lib.hid (fun o => blk_alloc r5 o)
  have u30 := fun o => (c4 (T3.out o)).1
  have u31 := fun o => (c4 (T3.out o)).2.1
  have u32 := fun o => (c4 (T3.out o)).2.2.1
  have u33 := fun o => (c4 (T3.out o)).2.2.2
  have u50 := fun o => (c2 (T5.out o)).1
  have u51 := fun o => (c2 (T5.out o)).2
  have u10 := fun o => (c4 (T1.out o)).2.2.1
  have u20 := fun o => (c5 (T2.out o)).2.2.2.1
  have u40 := fun o => (c7 (T4.out o)).1
  have u41 := fun o => (c7 (T4.out o)).2.1
  have u42 := fun o => (c7 (T4.out o)).2.2.1
  have u43 := fun o => (c7 (T4.out o)).2.2.2.1
  have u44 := fun o => (c7 (T4.out o)).2.2.2.2.1
  have u45 := fun o => (c7 (T4.out o)).2.2.2.2.2.1
  have u46 := fun o => (c7 (T4.out o)).2.2.2.2.2.2
  have f40 := fun o => blk_frozen (T4.out o) 0
  have f41 := fun o => blk_frozen (T4.out o) 1
  have f42 := fun o => blk_frozen (T4.out o) 2
  have f43 := fun o => blk_frozen (T4.out o) 3
  have f44 := fun o => blk_frozen (T4.out o) 4
  have f45 := fun o => blk_frozen (T4.out o) 5
  have f46 := fun o => blk_frozen (T4.out o) 6
  have HB2 := Lib.hid (HB1.out.trans (hbl2.mono HB1.out.size))
  clear r1 r2 r3 r4 r5 hb2 hbl2 fz
  go_wp2
  refine bodyPost_ret (v := .agg #[.int .u8 1, .int .u8 Ak, .int .i64 Ai, .int .u8 Bk, .int .i64 Bi, .slice none 0 0, .slice none 0 0]) (by rw [results_cell rfl]; go_simp) rfl ?_
  refine ⟨_, rfl, ?_, ?_⟩
  · rw [HST.out, ← HA.out, ← HB.out]
    exact fun _ _ => cells7_refs _ _ _ _ _ _
  · exact below_set7 ((HB2.out.alloc HB2.out.size _).alloc (by have := HB2.out.size; simp; omega) _) (by omega) _ _ _ _ _ _ _
set_option maxRecDepth 100000 in
set_option maxHeartbeats 4000000 in
theorem stmt_zero_f (w : World) (s1 s4 : Value) (G gc L lc S sc F fc : Nat) (ga la fa sa : Option Addr) (f0 f1 f4 : Value) (params : Nat → Nat) (k a b c : Nat) (hL : 0 < L) (hL2 : L ≤ 1000) (hG : G ≤ 1000) (ha : a < 256) (hb : b < 256) (hk : ((k : Int) % 10) = 0) (hc : ((c : Int) % 4) = 1) (hF : 0 < F) (hF2 : F ≤ 1000) :
    Calls Try.prog 28 #[.agg #[s1, .slice ga G gc, .slice fa F fc, s4], .agg #[f0, f1, .slice la L lc, .slice sa S sc, f4], .agg #[.int .u8 k, .int .u8 a, .int .u8 b, .int .u8 c]] w (Stated w (stmt1 G F L S params k a b c)) := by
  have hst : stmt1 G F L S params k a b c = .mk 1 (varOf L G a).1 (varOf L G a).2 3 ((b % F : Nat) : Int) [] [] := by
    unfold stmt1; rw [if_pos (by omega), if_pos (by omega)]
  have HST := Lib.hid hst
  clear hst
  go_enter Try.func28, Try.ntmps28
  go_wp2_with fail
  refine (variables_calls _ _ _ _ _ _ _ _ a _ _ _ _ _ _ hL hL2 hG ha).mono ?_
  rintro e w1 ⟨rfl, hb1⟩
  obtain ⟨q1, q2, q3, q4⟩ := four_blocks hb1
  have Q1 := Lib.hid q1
  have Q2 := Lib.hid q2
  have Q3 := Lib.hid q3
  have Q4 := Lib.hid q4
  have HB1 := Lib.hid (show Below w.heap.size w w1 from ((((Below.refl _ _).alloc (Nat.le_refl _) _).alloc (by simp) _).alloc (by simp; omega) _).alloc (by simp; omega) _ |>.trans (hb1.mono (by simp; omega)))
  obtain ⟨⟨Ak, Ai⟩, hA⟩ : ∃ A, A = varOf L G a := ⟨_, rfl⟩
  obtain ⟨⟨Bk, Bi⟩, hB⟩ : ∃ B, B = varOf L G b := ⟨_, rfl⟩
  rw [← hA]
  obtain ⟨a0, a1, a2, a3⟩ := c4 (blk_alloc q1 (.cells #[.int .u8 Ak, .int .i64 Ai] 43))
  obtain ⟨b0, b1, b2, b3, b4⟩ := c5 (blk_alloc q2 (.cells #[.int .u8 Ak, .int .i64 Ai] 43))
  obtain ⟨d0, d1, d2, d3⟩ := c4 (blk_alloc q3 (.cells #[.int .u8 Ak, .int .i64 Ai] 43))
  have HA := Lib.hid hA
  have HB := Lib.hid hB
  clear q1 q2 q3 q4 hb1 hA hB
  go_wp2_with fail
  refine (variables_calls _ _ _ _ _ _ _ _ b _ _ _ _ _ _ hL hL2 hG hb).mono ?_
  rintro e w2 ⟨rfl, hb2⟩
  have hbl2 : Below w1.heap.size w1 w2 := ((Below.refl _ _).alloc (Nat.le_refl _) _).trans (hb2.mono (by simp))
  have r1 := blk_below Q1.out hbl2
  have r2 := blk_below Q2.out hbl2
  have r3 := blk_below Q3.out hbl2
  have r4 := blk_below Q4.out hbl2
  have r5 := blk_below (heap_alloc_new w1 _) hb2
  rw [← HB.out]
  clear a0 a1 a2 a3 b0 b1 b2 b3 b4 d0 d1 d2 d3
  have r3 := blk_alloc r3 (.cells #[.int .u8 Bk, .int .i64 Bi] 43)
  have r4 := blk_alloc r4 (.cells #[.int .u8 Bk, .int .i64 Bi] 43)
  have r5 := blk_alloc r5 (.cells #[.int .u8 Bk, .int .i64 Bi] 43)
  obtain ⟨d0, d1, d2, d3⟩ := c4 r3
  obtain ⟨g0, g1⟩ := c2 r5
  have fz := blk_frozen r4
  have fz0 := fz 0
  have fz1 := fz 1
  have fz2 := fz 2
  have fz3 := fz 3
  have fz4 := fz 4
  have fz5 := fz 5
  have fz6 := fz 6
  obtain ⟨z0, z1, z2, z3, z4, z5, z6⟩ := c7 r4
  have T1 := Lib.hid (fun o => blk_alloc (blk_alloc r1 (.cells #[.int .u8 Bk, .int .i64 Bi] 43)) o)
  have T2 := Lib.hid (fun o => blk_alloc (blk_alloc r2 (.cells #[.int .u8 Bk, .int .i64 Bi] 43)) o)
  have T3 := Lib.hid (fun o => blk_alloc r3 o)
  have T4 := Lib.hid (fun o => blk_alloc r4 o)
  have T5 := Lib.hid (fun o => blk_alloc r5 o)
  have u30 := fun o => (c4 (T3.out o)).1
  have u31 := fun o => (c4 (T3.out o)).2.1
  have u32 := fun o => (c4 (T3.out o)).2.2.1
  have u33 := fun o => (c4 (T3.out o)).2.2.2
  have u50 := fun o => (c2 (T5.out o)).1
  have u51 := fun o => (c2 (T5.out o)).2
  have u10 := fun o => (c4 (T1.out o)).2.2.1
  have u20 := fun o => (c5 (T2.out o)).2.2.2.1
  have u40 := fun o => (c7 (T4.out o)).1
  have u41 := fun o => (c7 (T4.out o)).2.1
  have u42 := fun o => (c7 (T4.out o)).2.2.1
  have u43 := fun o => (c7 (T4.out o)).2.2.2.1
  have u44 := fun o => (c7 (T4.out o)).2.2.2.2.1
  have u45 := fun o => (c7 (T4.out o)).2.2.2.2.2.1
  have u46 := fun o => (c7 (T4.out o)).2.2.2.2.2.2
  have f40 := fun o => blk_frozen (T4.out o) 0
  have f41 := fun o => blk_frozen (T4.out o) 1
  have f42 := fun o => blk_frozen (T4.out o) 2
  have f43 := fun o => blk_frozen (T4.out o) 3
  have f44 := fun o => blk_frozen (T4.out o) 4
  have f45 := fun o => blk_frozen (T4.out o) 5
  have f46 := fun o => blk_frozen (T4.out o) 6
  have HB2 := Lib.hid (HB1.out.trans (hbl2.mono HB1.out.size))
  clear r1 r2 r3 r4 r5 hb2 hbl2 fz
  go_wp2
  refine bodyPost_ret (v := .agg #[.int .u8 1, .int .u8 Ak, .int .i64 Ai, .int .u8 3, .int .i64 ((b : Int) % (F : Int)), .slice none 0 0, .slice none 0 0]) (by rw [results_cell rfl]; go_simp) rfl ?_
  refine ⟨_, rfl, ?_, ?_⟩
  · rw [HST.out, ← HA.out, Int.natCast_emod]
    exact fun _ _ => cells7_refs _ _ _ _ _ _
  · exact below_set7 ((HB2.out.alloc HB2.out.size _).alloc (by have := HB2.out.size; simp; omega) _) (by omega) _ _ _ _ _ _ _
set_option maxRecDepth 100000 in
set_option maxHeartbeats 4000000 in
theorem stmt_zero_s (w : World) (s1 s4 : Value) (G gc L lc S sc F fc : Nat) (ga la fa sa : Option Addr) (f0 f1 f4 : Value) (params : Nat → Nat) (k a b c : Nat) (hL : 0 < L) (hL2 : L ≤ 1000) (hG : G ≤ 1000) (ha : a < 256) (hb : b < 256) (hk : ((k : Int) % 10) = 0) (hc : ((c : Int) % 4) = 2) (hS : 0 < S) (hS2 : S ≤ 1000) :
    Calls Try.prog 28 #[.agg #[s1, .slice ga G gc, .slice fa F fc, s4], .agg #[f0, f1, .slice la L lc, .slice sa S sc, f4], .agg #[.int .u8 k, .int .u8 a, .int .u8 b, .int .u8 c]] w (Stated w (stmt1 G F L S params k a b c)) := by
  have hst : stmt1 G F L S params k a b c = .mk 1 (varOf L G a).1 (varOf L G a).2 4 ((b % S : Nat) : Int) [] [] := by
    unfold stmt1; rw [if_pos (by omega), if_neg (by omega), if_neg (by omega)]
  have HST := Lib.hid hst
  clear hst
  go_enter Try.func28, Try.ntmps28
  go_wp2_with fail
  refine (variables_calls _ _ _ _ _ _ _ _ a _ _ _ _ _ _ hL hL2 hG ha).mono ?_
  rintro e w1 ⟨rfl, hb1⟩
  obtain ⟨q1, q2, q3, q4⟩ := four_blocks hb1
  have Q1 := Lib.hid q1
  have Q2 := Lib.hid q2
  have Q3 := Lib.hid q3
  have Q4 := Lib.hid q4
  have HB1 := Lib.hid (show Below w.heap.size w w1 from ((((Below.refl _ _).alloc (Nat.le_refl _) _).alloc (by simp) _).alloc (by simp; omega) _).alloc (by simp; omega) _ |>.trans (hb1.mono (by simp; omega)))
  obtain ⟨⟨Ak, Ai⟩, hA⟩ : ∃ A, A = varOf L G a := ⟨_, rfl⟩
  obtain ⟨⟨Bk, Bi⟩, hB⟩ : ∃ B, B = varOf L G b := ⟨_, rfl⟩
  rw [← hA]
  obtain ⟨a0, a1, a2, a3⟩ := c4 (blk_alloc q1 (.cells #[.int .u8 Ak, .int .i64 Ai] 43))
  obtain ⟨b0, b1, b2, b3, b4⟩ := c5 (blk_alloc q2 (.cells #[.int .u8 Ak, .int .i64 Ai] 43))
  obtain ⟨d0, d1, d2, d3⟩ := c4 (blk_alloc q3 (.cells #[.int .u8 Ak, .int .i64 Ai] 43))
  have HA := Lib.hid hA
  have HB := Lib.hid hB
  clear q1 q2 q3 q4 hb1 hA hB
  go_wp2_with fail
  refine (variables_calls _ _ _ _ _ _ _ _ b _ _ _ _ _ _ hL hL2 hG hb).mono ?_
  rintro e w2 ⟨rfl, hb2⟩
  have hbl2 : Below w1.heap.size w1 w2 := ((Below.refl _ _).alloc (Nat.le_refl _) _).trans (hb2.mono (by simp))
  have r1 := blk_below Q1.out hbl2
  have r2 := blk_below Q2.out hbl2
  have r3 := blk_below Q3.out hbl2
  have r4 := blk_below Q4.out hbl2
  have r5 := blk_below (heap_alloc_new w1 _) hb2
  rw [← HB.out]
  clear a0 a1 a2 a3 b0 b1 b2 b3 b4 d0 d1 d2 d3
  have r3 := blk_alloc r3 (.cells #[.int .u8 Bk, .int .i64 Bi] 43)
  have r4 := blk_alloc r4 (.cells #[.int .u8 Bk, .int .i64 Bi] 43)
  have r5 := blk_alloc r5 (.cells #[.int .u8 Bk, .int .i64 Bi] 43)
  obtain ⟨d0, d1, d2, d3⟩ := c4 r3
  obtain ⟨g0, g1⟩ := c2 r5
  have fz := blk_frozen r4
  have fz0 := fz 0
  have fz1 := fz 1
  have fz2 := fz 2
  have fz3 := fz 3
  have fz4 := fz 4
  have fz5 := fz 5
  have fz6 := fz 6
  obtain ⟨z0, z1, z2, z3, z4, z5, z6⟩ := c7 r4
  have T1 := Lib.hid (fun o => blk_alloc (blk_alloc r1 (.cells #[.int .u8 Bk, .int .i64 Bi] 43)) o)
  have T2 := Lib.hid (fun o => blk_alloc (blk_alloc r2 (.cells #[.int .u8 Bk, .int .i64 Bi] 43)) o)
  have T3 := Lib.hid (fun o => blk_alloc r3 o)
  have T4 := Lib.hid (fun o => blk_alloc r4 o)
  have T5 := Lib.hid (fun o => blk_alloc r5 o)
  have u30 := fun o => (c4 (T3.out o)).1
  have u31 := fun o => (c4 (T3.out o)).2.1
  have u32 := fun o => (c4 (T3.out o)).2.2.1
  have u33 := fun o => (c4 (T3.out o)).2.2.2
  have u50 := fun o => (c2 (T5.out o)).1
  have u51 := fun o => (c2 (T5.out o)).2
  have u10 := fun o => (c4 (T1.out o)).2.2.1
  have u20 := fun o => (c5 (T2.out o)).2.2.2.1
  have u40 := fun o => (c7 (T4.out o)).1
  have u41 := fun o => (c7 (T4.out o)).2.1
  have u42 := fun o => (c7 (T4.out o)).2.2.1
  have u43 := fun o => (c7 (T4.out o)).2.2.2.1
  have u44 := fun o => (c7 (T4.out o)).2.2.2.2.1
  have u45 := fun o => (c7 (T4.out o)).2.2.2.2.2.1
  have u46 := fun o => (c7 (T4.out o)).2.2.2.2.2.2
  have f40 := fun o => blk_frozen (T4.out o) 0
  have f41 := fun o => blk_frozen (T4.out o) 1
  have f42 := fun o => blk_frozen (T4.out o) 2
  have f43 := fun o => blk_frozen (T4.out o) 3
  have f44 := fun o => blk_frozen (T4.out o) 4
  have f45 := fun o => blk_frozen (T4.out o) 5
  have f46 := fun o => blk_frozen (T4.out o) 6
  have HB2 := Lib.hid (HB1.out.trans (hbl2.mono HB1.out.size))
  clear r1 r2 r3 r4 r5 hb2 hbl2 fz
  go_wp2
  refine bodyPost_ret (v := .agg #[.int .u8 1, .int .u8 Ak, .int .i64 Ai, .int .u8 4, .int .i64 ((b : Int) % (S : Int)), .slice none 0 0, .slice none 0 0]) (by rw [results_cell rfl]; go_simp) rfl ?_
  refine ⟨_, rfl, ?_, ?_⟩
  · rw [HST.out, ← HA.out, Int.natCast_emod]
    exact fun _ _ => cells7_refs _ _ _ _ _ _
  · exact below_set7 ((HB2.out.alloc HB2.out.size _).alloc (by have := HB2.out.size; simp; omega) _) (by omega) _ _ _ _ _ _ _
set_option maxRecDepth 100000 in
set_option maxHeartbeats 4000000 in
theorem stmt_zero_t (w : World) (s1 s4 : Value) (G gc L lc S sc F fc : Nat) (ga la fa sa : Option Addr) (f0 f1 f4 : Value) (params : Nat → Nat) (k a b c : Nat) (hL : 0 < L) (hL2 : L ≤ 1000) (hG : G ≤ 1000) (ha : a < 256) (hb : b < 256) (hk : ((k : Int) % 10) = 0) (hc : ((c : Int) % 4) = 3) (hS : 0 < S) (hS2 : S ≤ 1000) :
    Calls Try.prog 28 #[.agg #[s1, .slice ga G gc, .slice fa F fc, s4], .agg #[f0, f1, .slice la L lc, .slice sa S sc, f4], .agg #[.int .u8 k, .int .u8 a, .int .u8 b, .int .u8 c]] w (Stated w (stmt1 G F L S params k a b c)) := by
  have hst : stmt1 G F L S params k a b c = .mk 1 (varOf L G a).1 (varOf L G a).2 4 ((b % S : Nat) : Int) [] [] := by
    unfold stmt1; rw [if_pos (by omega), if_neg (by omega), if_neg (by omega)]
  have HST := Lib.hid hst
  clear hst
  go_enter Try.func28, Try.ntmps28
  go_wp2_with fail
  refine (variables_calls _ _ _ _ _ _ _ _ a _ _ _ _ _ _ hL hL2 hG ha).mono ?_
  rintro e w1 ⟨rfl, hb1⟩
  obtain ⟨q1, q2, q3, q4⟩ := four_blocks hb1
  have Q1 := Lib.hid q1
  have Q2 := Lib.hid q2
  have Q3 := Lib.hid q3
  have Q4 := Lib.hid q4
  have HB1 := Lib.hid (show Below w.heap.size w w1 from ((((Below.refl _ _).alloc (Nat.le_refl _) _).alloc (by simp) _).alloc (by simp; omega) _).alloc (by simp; omega) _ |>.trans (hb1.mono (by simp; omega)))
  obtain ⟨⟨Ak, Ai⟩, hA⟩ : ∃ A, A = varOf L G a := ⟨_, rfl⟩
  obtain ⟨⟨Bk, Bi⟩, hB⟩ : ∃ B, B = varOf L G b := ⟨_, rfl⟩
  rw [← hA]
  obtain ⟨a0, a1, a2, a3⟩ := c4 (blk_alloc q1 (.cells #[.int .u8 Ak, .int .i64 Ai] 43))
  obtain ⟨b0, b1, b2, b3, b4⟩ := c5 (blk_alloc q2 (.cells #[.int .u8 Ak, .int .i64 Ai] 43))
  obtain ⟨d0, d1, d2, d3⟩ := c4 (blk_alloc q3 (.cells #[.int .u8 Ak, .int .i64 Ai] 43))
  have HA := Lib.hid hA
  have HB := Lib.hid hB
  clear q1 q2 q3 q4 hb1 hA hB
  go_wp2_with fail
  refine (variables_calls _ _ _ _ _ _ _ _ b _ _ _ _ _ _ hL hL2 hG hb).mono ?_
  rintro e w2 ⟨rfl, hb2⟩
  have hbl2 : Below w1.heap.size w1 w2 := ((Below.refl _ _).alloc (Nat.le_refl _) _).trans (hb2.mono (by simp))
  have r1 := blk_below Q1.out hbl2
  have r2 := blk_below Q2.out hbl2
  have r3 := blk_below Q3.out hbl2
  have r4 := blk_below Q4.out hbl2
  have r5 := blk_below (heap_alloc_new w1 _) hb2
  rw [← HB.out]
  clear a0 a1 a2 a3 b0 b1 b2 b3 b4 d0 d1 d2 d3
  have r3 := blk_alloc r3 (.cells #[.int .u8 Bk, .int .i64 Bi] 43)
  have r4 := blk_alloc r4 (.cells #[.int .u8 Bk, .int .i64 Bi] 43)
  have r5 := blk_alloc r5 (.cells #[.int .u8 Bk, .int .i64 Bi] 43)
  obtain ⟨d0, d1, d2, d3⟩ := c4 r3
  obtain ⟨g0, g1⟩ := c2 r5
  have fz := blk_frozen r4
  have fz0 := fz 0
  have fz1 := fz 1
  have fz2 := fz 2
  have fz3 := fz 3
  have fz4 := fz 4
  have fz5 := fz 5
  have fz6 := fz 6
  obtain ⟨z0, z1, z2, z3, z4, z5, z6⟩ := c7 r4
  have T1 := Lib.hid (fun o => blk_alloc (blk_alloc r1 (.cells #[.int .u8 Bk, .int .i64 Bi] 43)) o)
  have T2 := Lib.hid (fun o => blk_alloc (blk_alloc r2 (.cells #[.int .u8 Bk, .int .i64 Bi] 43)) o)
  have T3 := Lib.hid (fun o => blk_alloc r3 o)
  have T4 := Lib.hid (fun o => blk_alloc r4 o)
  have T5 := Lib.hid (fun o => blk_alloc r5 o)
  have u30 := fun o => (c4 (T3.out o)).1
  have u31 := fun o => (c4 (T3.out o)).2.1
  have u32 := fun o => (c4 (T3.out o)).2.2.1
  have u33 := fun o => (c4 (T3.out o)).2.2.2
  have u50 := fun o => (c2 (T5.out o)).1
  have u51 := fun o => (c2 (T5.out o)).2
  have u10 := fun o => (c4 (T1.out o)).2.2.1
  have u20 := fun o => (c5 (T2.out o)).2.2.2.1
  have u40 := fun o => (c7 (T4.out o)).1
  have u41 := fun o => (c7 (T4.out o)).2.1
  have u42 := fun o => (c7 (T4.out o)).2.2.1
  have u43 := fun o => (c7 (T4.out o)).2.2.2.1
  have u44 := fun o => (c7 (T4.out o)).2.2.2.2.1
  have u45 := fun o => (c7 (T4.out o)).2.2.2.2.2.1
  have u46 := fun o => (c7 (T4.out o)).2.2.2.2.2.2
  have f40 := fun o => blk_frozen (T4.out o) 0
  have f41 := fun o => blk_frozen (T4.out o) 1
  have f42 := fun o => blk_frozen (T4.out o) 2
  have f43 := fun o => blk_frozen (T4.out o) 3
  have f44 := fun o => blk_frozen (T4.out o) 4
  have f45 := fun o => blk_frozen (T4.out o) 5
  have f46 := fun o => blk_frozen (T4.out o) 6
  have HB2 := Lib.hid (HB1.out.trans (hbl2.mono HB1.out.size))
  clear r1 r2 r3 r4 r5 hb2 hbl2 fz
  go_wp2
  refine bodyPost_ret (v := .agg #[.int .u8 1, .int .u8 Ak, .int .i64 Ai, .int .u8 4, .int .i64 ((b : Int) % (S : Int)), .slice none 0 0, .slice none 0 0]) (by rw [results_cell rfl]; go_simp) rfl ?_
  refine ⟨_, rfl, ?_, ?_⟩
  · rw [HST.out, ← HA.out, Int.natCast_emod]
    exact fun _ _ => cells7_refs _ _ _ _ _ _
  · exact below_set7 ((HB2.out.alloc HB2.out.size _).alloc (by have := HB2.out.size; simp; omega) _) (by omega) _ _ _ _ _ _ _
set_option maxRecDepth 100000 in
set_option maxHeartbeats 4000000 in
theorem stmt_one_b (w : World) (s1 s4 : Value) (G gc L lc S sc F fc : Nat) (ga la fa sa : Option Addr) (f0 f1 f4 : Value) (params : Nat → Nat) (k a b c : Nat) (hL : 0 < L) (hL2 : L ≤ 1000) (hG : G ≤ 1000) (ha : a < 256) (hb : b < 256) (hk : ((k : Int) % 10) = 1) (hc : ((c : Int) % 4) = 0) :
    Calls Try.prog 28 #[.agg #[s1, .slice ga G gc, .slice fa F fc, s4], .agg #[f0, f1, .slice la L lc, .slice sa S sc, f4], .agg #[.int .u8 k, .int .u8 a, .int .u8 b, .int .u8 c]] w (Stated w (stmt1 G F L S params k a b c)) := by
  have hst : stmt1 G F L S params k a b c = .mk 1 (varOf L G a).1 (varOf L G a).2 (varOf L G b).1 (varOf L G b).2 [] [] := by
    unfold stmt1; rw [if_pos (by omega), if_neg (by omega), if_pos (by omega)]
  have HST := Lib.hid hst
  clear hst
  go_enter Try.func28, Try.ntmps28
  go_wp2_with fail
  refine (variables_calls _ _ _ _ _ _ _ _ a _ _ _ _ _ _ hL hL2 hG ha).mono ?_
  rintro e w1 ⟨rfl, hb1⟩
  obtain ⟨q1, q2, q3, q4⟩ := four_blocks hb1
  have Q1 := Lib.hid q1
  have Q2 := Lib.hid q2
  have Q3 := Lib.hid q3
  have Q4 := Lib.hid q4
  have HB1 := Lib.hid (show Below w.heap.size w w1 from ((((Below.refl _ _).alloc (Nat.le_refl _) _).alloc (by simp) _).alloc (by simp; omega) _).alloc (by simp; omega) _ |>.trans (hb1.mono (by simp; omega)))
  obtain ⟨⟨Ak, Ai⟩, hA⟩ : ∃ A, A = varOf L G a := ⟨_, rfl⟩
  obtain ⟨⟨Bk, Bi⟩, hB⟩ : ∃ B, B = varOf L G b := ⟨_, rfl⟩
  rw [← hA]
  obtain ⟨a0, a1, a2, a3⟩ := c4 (blk_alloc q1 (.cells #[.int .u8 Ak, .int .i64 Ai] 43))
  obtain ⟨b0, b1, b2, b3, b4⟩ := c5 (blk_alloc q2 (.cells #[.int .u8 Ak, .int .i64 Ai] 43))
  obtain ⟨d0, d1, d2, d3⟩ := c4 (blk_alloc q3 (.cells #[.int .u8 Ak, .int .i64 Ai] 43))
  have HA := Lib.hid hA
  have HB := Lib.hid hB
  clear q1 q2 q3 q4 hb1 hA hB
  go_wp2_with fail
  refine (variables_calls _ _ _ _ _ _ _ _ b _ _ _ _ _ _ hL hL2 hG hb).mono ?_
  rintro e w2 ⟨rfl, hb2⟩
  have hbl2 : Below w1.heap.size w1 w2 := ((Below.refl _ _).alloc (Nat.le_refl _) _).trans (hb2.mono (by simp))
  have r1 := blk_below Q1.out hbl2
  have r2 := blk_below Q2.out hbl2
  have r3 := blk_below Q3.out hbl2
  have r4 := blk_below Q4.out hbl2
  have r5 := blk_below (heap_alloc_new w1 _) hb2
  rw [← HB.out]
  clear a0 a1 a2 a3 b0 b1 b2 b3 b4 d0 d1 d2 d3
  have r3 := blk_alloc r3 (.cells #[.int .u8 Bk, .int .i64 Bi] 43)
  have r4 := blk_alloc r4 (.cells #[.int .u8 Bk, .int .i64 Bi] 43)
  have r5 := blk_alloc r5 (.cells #[.int .u8 Bk, .int .i64 Bi] 43)
  obtain ⟨d0, d1, d2, d3⟩ := c4 r3
  obtain ⟨g0, g1⟩ := c2 r5
  have fz := blk_frozen r4
  have fz0 := fz 0
  have fz1 := fz 1
  have fz2 := fz 2
  have fz3 := fz 3
  have fz4 := fz 4
  have fz5 := fz 5
  have fz6 := fz 6
  obtain ⟨z0, z1, z2, z3, z4, z5, z6⟩ := c7 r4
  have T1 := Lib.hid (fun o => blk_alloc (blk_alloc r1 (.cells #[.int .u8 Bk, .int .i64 Bi] 43)) o)
  have T2 := Lib.hid (fun o => blk_alloc (blk_alloc r2 (.cells #[.int .u8 Bk, .int .i64 Bi] 43)) o)
  have T3 := Lib.hid (fun o => blk_alloc r3 o)
  have T4 := Lib.hid (fun o => blk_alloc r4 o)
  have T5 := Lib.hid (fun o => blk_alloc r5 o)
  have u30 := fun o => (c4 (T3.out o)).1
  have u31 := fun o => (c4 (T3.out o)).2.1
  have u32 := fun o => (c4 (T3.out o)).2.2.1
  have u33 := fun o => (c4 (T3.out o)).2.2.2
  have u50 := fun o => (c2 (T5.out o)).1
  have u51 := fun o => (c2 (T5.out o)).2
  have u10 := fun o => (c4 (T1.out o)).2.2.1
  have u20 := fun o => (c5 (T2.out o)).2.2.2.1
  have u40 := fun o => (c7 (T4.out o)).1
  have u41 := fun o => (c7 (T4.out o)).2.1
  have u42 := fun o => (c7 (T4.out o)).2.2.1
  have u43 := fun o => (c7 (T4.out o)).2.2.2.1
  have u44 := fun o => (c7 (T4.out o)).2.2.2.2.1
  have u45 := fun o => (c7 (T4.out o)).2.2.2.2.2.1
  have u46 := fun o => (c7 (T4.out o)).2.2.2.2.2.2
  have f40 := fun o => blk_frozen (T4.out o) 0
  have f41 := fun o => blk_frozen (T4.out o) 1
  have f42 := fun o => blk_frozen (T4.out o) 2
  have f43 := fun o => blk_frozen (T4.out o) 3
  have f44 := fun o => blk_frozen (T4.out o) 4
  have f45 := fun o => blk_frozen (T4.out o) 5
  have f46 := fun o => blk_frozen (T4.out o) 6
  have HB2 := Lib.hid (HB1.out.trans (hbl2.mono HB1.out.size))
  clear r1 r2 r3 r4 r5 hb2 hbl2 fz
  go_wp2
  refine bodyPost_ret (v := .agg #[.int .u8 1, .int .u8 Ak, .int .i64 Ai, .int .u8 Bk, .int .i64 Bi, .slice none 0 0, .slice none 0 0]) (by rw [results_cell rfl]; go_simp) rfl ?_
  refine ⟨_, rfl, ?_, ?_⟩
  · rw [HST.out, ← HA.out, ← HB.out]
    exact fun _ _ => cells7_refs _ _ _ _ _ _
  · exact below_set7 ((HB2.out.alloc HB2.out.size _).alloc (by have := HB2.out.size; simp; omega) _) (by omega) _ _ _ _ _ _ _
set_option maxRecDepth 100000 in
set_option maxHeartbeats 4000000 in
theorem stmt_one_f (w : World) (s1 s4 : Value) (G gc L lc S sc F fc : Nat) (ga la fa sa : Option Addr) (f0 f1 f4 : Value) (params : Nat → Nat) (k a b c : Nat) (hL : 0 < L) (hL2 : L ≤ 1000) (hG : G ≤ 1000) (ha : a < 256) (hb : b < 256) (hk : ((k : Int) % 10) = 1) (hc : ((c : Int) % 4) = 1) (hF : 0 < F) (hF2 : F ≤ 1000) :
    Calls Try.prog 28 #[.agg #[s1, .slice ga G gc, .slice fa F fc, s4], .agg #[f0, f1, .slice la L lc, .slice sa S sc, f4], .agg #[.int .u8 k, .int .u8 a, .int .u8 b, .int .u8 c]] w (Stated w (stmt1 G F L S params k a b c)) := by
  have hst : stmt1 G F L S params k a b c = .mk 1 (varOf L G a).1 (varOf L G a).2 3 ((b % F : Nat) : Int) [] [] := by
    unfold stmt1; rw [if_pos (by omega), if_pos (by omega)]
  have HST := Lib.hid hst
  clear hst
  go_enter Try.func28, Try.ntmps28
  go_wp2_with fail
  refine (variables_calls _ _ _ _ _ _ _ _ a _ _ _ _ _ _ hL hL2 hG ha).mono ?_
  rintro e w1 ⟨rfl, hb1⟩
  obtain ⟨q1, q2, q3, q4⟩ := four_blocks hb1
  have Q1 := Lib.hid q1
  have Q2 := Lib.hid q2
  have Q3 := Lib.hid q3
  have Q4 := Lib.hid q4
  have HB1 := Lib.hid (show Below w.heap.size w w1 from ((((Below.refl _ _).alloc (Nat.le_refl _) _).alloc (by simp) _).alloc (by simp; omega) _).alloc (by simp; omega) _ |>.trans (hb1.mono (by simp; omega)))
  obtain ⟨⟨Ak, Ai⟩, hA⟩ : ∃ A, A = varOf L G a := ⟨_, rfl⟩
  obtain ⟨⟨Bk, Bi⟩, hB⟩ : ∃ B, B = varOf L G b := ⟨_, rfl⟩
  rw [← hA]
  obtain ⟨a0, a1, a2, a3⟩ := c4 (blk_alloc q1 (.cells #[.int .u8 Ak, .int .i64 Ai] 43))
  obtain ⟨b0, b1, b2, b3, b4⟩ := c5 (blk_alloc q2 (.cells #[.int .u8 Ak, .int .i64 Ai] 43))
  obtain ⟨d0, d1, d2, d3⟩ := c4 (blk_alloc q3 (.cells #[.int .u8 Ak, .int .i64 Ai] 43))
  have HA := Lib.hid hA
  have HB := Lib.hid hB
  clear q1 q2 q3 q4 hb1 hA hB
  go_wp2_with fail
  refine (variables_calls _ _ _ _ _ _ _ _ b _ _ _ _ _ _ hL hL2 hG hb).mono ?_
  rintro e w2 ⟨rfl, hb2⟩
  have hbl2 : Below w1.heap.size w1 w2 := ((Below.refl _ _).alloc (Nat.le_refl _) _).trans (hb2.mono (by simp))
  have r1 := blk_below Q1.out hbl2
  have r2 := blk_below Q2.out hbl2
  have r3 := blk_below Q3.out hbl2
  have r4 := blk_below Q4.out hbl2
  have r5 := blk_below (heap_alloc_new w1 _) hb2
  rw [← HB.out]
  clear a0 a1 a2 a3 b0 b1 b2 b3 b4 d0 d1 d2 d3
  have r3 := blk_alloc r3 (.cells #[.int .u8 Bk, .int .i64 Bi] 43)
  have r4 := blk_alloc r4 (.cells #[.int .u8 Bk, .int .i64 Bi] 43)
  have r5 := blk_alloc r5 (.cells #[.int .u8 Bk, .int .i64 Bi] 43)
  obtain ⟨d0, d1, d2, d3⟩ := c4 r3
  obtain ⟨g0, g1⟩ := c2 r5
  have fz := blk_frozen r4
  have fz0 := fz 0
  have fz1 := fz 1
  have fz2 := fz 2
  have fz3 := fz 3
  have fz4 := fz 4
  have fz5 := fz 5
  have fz6 := fz 6
  obtain ⟨z0, z1, z2, z3, z4, z5, z6⟩ := c7 r4
  have T1 := Lib.hid (fun o => blk_alloc (blk_alloc r1 (.cells #[.int .u8 Bk, .int .i64 Bi] 43)) o)
  have T2 := Lib.hid (fun o => blk_alloc (blk_alloc r2 (.cells #[.int .u8 Bk, .int .i64 Bi] 43)) o)
  have T3 := Lib.hid (fun o => blk_alloc r3 o)
  have T4 := Lib.hid (fun o => blk_alloc r4 o)
  have T5 := Lib.hid (fun o => blk_alloc r5 o)
  have u30 := fun o => (c4 (T3.out o)).1
  have u31 := fun o => (c4 (T3.out o)).2.1
  have u32 := fun o => (c4 (T3.out o)).2.2.1
  have u33 := fun o => (c4 (T3.out o)).2.2.2
  have u50 := fun o => (c2 (T5.out o)).1
  have u51 := fun o => (c2 (T5.out o)).2
  have u10 := fun o => (c4 (T1.out o)).2.2.1
  have u20 := fun o => (c5 (T2.out o)).2.2.2.1
  have u40 := fun o => (c7 (T4.out o)).1
  have u41 := fun o => (c7 (T4.out o)).2.1
  have u42 := fun o => (c7 (T4.out o)).2.2.1
  have u43 := fun o => (c7 (T4.out o)).2.2.2.1
  have u44 := fun o => (c7 (T4.out o)).2.2.2.2.1
  have u45 := fun o => (c7 (T4.out o)).2.2.2.2.2.1
  have u46 := fun o => (c7 (T4.out o)).2.2.2.2.2.2
  have f40 := fun o => blk_frozen (T4.out o) 0
  have f41 := fun o => blk_frozen (T4.out o) 1
  have f42 := fun o => blk_frozen (T4.out o) 2
  have f43 := fun o => blk_frozen (T4.out o) 3
  have f44 := fun o => blk_frozen (T4.out o) 4
  have f45 := fun o => blk_frozen (T4.out o) 5
  have f46 := fun o => blk_frozen (T4.out o) 6
  have HB2 := Lib.hid (HB1.out.trans (hbl2.mono HB1.out.size))
  clear r1 r2 r3 r4 r5 hb2 hbl2 fz
  go_wp2
  refine bodyPost_ret (v := .agg #[.int .u8 1, .int .u8 Ak, .int .i64 Ai, .int .u8 3, .int .i64 ((b : Int) % (F : Int)), .slice none 0 0, .slice none 0 0]) (by rw [results_cell rfl]; go_simp) rfl ?_
  refine ⟨_, rfl, ?_, ?_⟩
  · rw [HST.out, ← HA.out, Int.natCast_emod]
    exact fun _ _ => cells7_refs _ _ _ _ _ _
  · exact below_set7 ((HB2.out.alloc HB2.out.size _).alloc (by have := HB2.out.size; simp; omega) _) (by omega) _ _ _ _ _ _ _
set_option maxRecDepth 100000 in
set_option maxHeartbeats 4000000 in
theorem stmt_one_s (w : World) (s1 s4 : Value) (G gc L lc S sc F fc : Nat) (ga la fa sa : Option Addr) (f0 f1 f4 : Value) (params : Nat → Nat) (k a b c : Nat) (hL : 0 < L) (hL2 : L ≤ 1000) (hG : G ≤ 1000) (ha : a < 256) (hb : b < 256) (hk : ((k : Int) % 10) = 1) (hc : ((c : Int) % 4) = 2) (hS : 0 < S) (hS2 : S ≤ 1000) :
    Calls Try.prog 28 #[.agg #[s1, .slice ga G gc, .slice fa F fc, s4], .agg #[f0, f1, .slice la L lc, .slice sa S sc, f4], .agg #[.int .u8 k, .int .u8 a, .int .u8 b, .int .u8 c]] w (Stated w (stmt1 G F L S params k a b c)) := by
  have hst : stmt1 G F L S params k a b c = .mk 1 (varOf L G a).1 (varOf L G a).2 4 ((b % S : Nat) : Int) [] [] := by
    unfold stmt1; rw [if_pos (by omega), if_neg (by omega), if_neg (by omega)]
  have HST := Lib.hid hst
  clear hst
  go_enter Try.func28, Try.ntmps28
  go_wp2_with fail
  refine (variables_calls _ _ _ _ _ _ _ _ a _ _ _ _ _ _ hL hL2 hG ha).mono ?_
  rintro e w1 ⟨rfl, hb1⟩
  obtain ⟨q1, q2, q3, q4⟩ := four_blocks hb1
  have Q1 := Lib.hid q1
  have Q2 := Lib.hid q2
  have Q3 := Lib.hid q3
  have Q4 := Lib.hid q4
  have HB1 := Lib.hid (show Below w.heap.size w w1 from ((((Below.refl _ _).alloc (Nat.le_refl _) _).alloc (by simp) _).alloc (by simp; omega) _).alloc (by simp; omega) _ |>.trans (hb1.mono (by simp; omega)))
  obtain ⟨⟨Ak, Ai⟩, hA⟩ : ∃ A, A = varOf L G a := ⟨_, rfl⟩
  obtain ⟨⟨Bk, Bi⟩, hB⟩ : ∃ B, B = varOf L G b := ⟨_, rfl⟩
  rw [← hA]
  obtain ⟨a0, a1, a2, a3⟩ := c4 (blk_alloc q1 (.cells #[.int .u8 Ak, .int .i64 Ai] 43))
  obtain ⟨b0, b1, b2, b3, b4⟩ := c5 (blk_alloc q2 (.cells #[.int .u8 Ak, .int .i64 Ai] 43))
  obtain ⟨d0, d1, d2, d3⟩ := c4 (blk_alloc q3 (.cells #[.int .u8 Ak, .int .i64 Ai] 43))
  have HA := Lib.hid hA
  have HB := Lib.hid hB
  clear q1 q2 q3 q4 hb1 hA hB
  go_wp2_with fail
  refine (variables_calls _ _ _ _ _ _ _ _ b _ _ _ _ _ _ hL hL2 hG hb).mono ?_
  rintro e w2 ⟨rfl, hb2⟩
  have hbl2 : Below w1.heap.size w1 w2 := ((Below.refl _ _).alloc (Nat.le_refl _) _).trans (hb2.mono (by simp))
  have r1 := blk_below Q1.out hbl2
  have r2 := blk_below Q2.out hbl2
  have r3 := blk_below Q3.out hbl2
  have r4 := blk_below Q4.out hbl2
  have r5 := blk_below (heap_alloc_new w1 _) hb2
  rw [← HB.out]
  clear a0 a1 a2 a3 b0 b1 b2 b3 b4 d0 d1 d2 d3
  have r3 := blk_alloc r3 (.cells #[.int .u8 Bk, .int .i64 Bi] 43)
  have r4 := blk_alloc r4 (.cells #[.int .u8 Bk, .int .i64 Bi] 43)
  have r5 := blk_alloc r5 (.cells #[.int .u8 Bk, .int .i64 Bi] 43)
  obtain ⟨d0, d1, d2, d3⟩ := c4 r3
  obtain ⟨g0, g1⟩ := c2 r5
  have fz := blk_frozen r4
  have fz0 := fz 0
  have fz1 := fz 1
  have fz2 := fz 2
  have fz3 := fz 3
  have fz4 := fz 4
  have fz5 := fz 5
  have fz6 := fz 6
  obtain ⟨z0, z1, z2, z3, z4, z5, z6⟩ := c7 r4
  have T1 := Lib.hid (fun o => blk_alloc (blk_alloc r1 (.cells #[.int .u8 Bk, .int .i64 Bi] 43)) o)
  have T2 := Lib.hid (fun o => blk_alloc (blk_alloc r2 (.cells #[.int .u8 Bk, .int .i64 Bi] 43)) o)
  have T3 := Lib.hid (fun o => blk_alloc r3 o)
  have T4 := Lib.hid (fun o => blk_alloc r4 o)
  have T5 := Lib.hid (fun o => blk_alloc r5 o)
  have u30 := fun o => (c4 (T3.out o)).1
  have u31 := fun o => (c4 (T3.out o)).2.1
  have u32 := fun o => (c4 (T3.out o)).2.2.1
  have u33 := fun o => (c4 (T3.out o)).2.2.2
  have u50 := fun o => (c2 (T5.out o)).1
  have u51 := fun o => (c2 (T5.out o)).2
  have u10 := fun o => (c4 (T1.out o)).2.2.1
  have u20 := fun o => (c5 (T2.out o)).2.2.2.1
  have u40 := fun o => (c7 (T4.out o)).1
  have u41 := fun o => (c7 (T4.out o)).2.1
  have u42 := fun o => (c7 (T4.out o)).2.2.1
  have u43 := fun o => (c7 (T4.out o)).2.2.2.1
  have u44 := fun o => (c7 (T4.out o)).2.2.2.2.1
  have u45 := fun o => (c7 (T4.out o)).2.2.2.2.2.1
  have u46 := fun o => (c7 (T4.out o)).2.2.2.2.2.2
  have f40 := fun o => blk_frozen (T4.out o) 0
  have f41 := fun o => blk_frozen (T4.out o) 1
  have f42 := fun o => blk_frozen (T4.out o) 2
  have f43 := fun o => blk_frozen (T4.out o) 3
  have f44 := fun o => blk_frozen (T4.out o) 4
  have f45 := fun o => blk_frozen (T4.out o) 5
  have f46 := fun o => blk_frozen (T4.out o) 6
  have HB2 := Lib.hid (HB1.out.trans (hbl2.mono HB1.out.size))
  clear r1 r2 r3 r4 r5 hb2 hbl2 fz
  go_wp2
  refine bodyPost_ret (v := .agg #[.int .u8 1, .int .u8 Ak, .int .i64 Ai, .int .u8 4, .int .i64 ((b : Int) % (S : Int)), .slice none 0 0, .slice none 0 0]) (by rw [results_cell rfl]; go_simp) rfl ?_
  refine ⟨_, rfl, ?_, ?_⟩
  · rw [HST.out, ← HA.out, Int.natCast_emod]
    exact fun _ _ => cells7_refs _ _ _ _ _ _
  · exact below_set7 ((HB2.out.alloc HB2.out.size _).alloc (by have := HB2.out.size; simp; omega) _) (by omega) _ _ _ _ _ _ _
set_option maxRecDepth 100000 in
set_option maxHeartbeats 4000000 in
theorem stmt_one_t (w : World) (s1 s4 : Value) (G gc L lc S sc F fc : Nat) (ga la fa sa : Option Addr) (f0 f1 f4 : Value) (params : Nat → Nat) (k a b c : Nat) (hL : 0 < L) (hL2 : L ≤ 1000) (hG : G ≤ 1000) (ha : a < 256) (hb : b < 256) (hk : ((k : Int) % 10) = 1) (hc : ((c : Int) % 4) = 3) (hS : 0 < S) (hS2 : S ≤ 1000) :
    Calls Try.prog 28 #[.agg #[s1, .slice ga G gc, .slice fa F fc, s4], .agg #[f0, f1, .slice la L lc, .slice sa S sc, f4], .agg #[.int .u8 k, .int .u8 a, .int .u8 b, .int .u8 c]] w (Stated w (stmt1 G F L S params k a b c)) := by
  have hst : stmt1 G F L S params k a b c = .mk 1 (varOf L G a).1 (varOf L G a).2 4 ((b % S : Nat) : Int) [] [] := by
    unfold stmt1; rw [if_pos (by omega), if_neg (by omega), if_neg (by omega)]
  have HST := Lib.hid hst
  clear hst
  go_enter Try.func28, Try.ntmps28
  go_wp2_with fail
  refine (variables_calls _ _ _ _ _ _ _ _ a _ _ _ _ _ _ hL hL2 hG ha).mono ?_
  rintro e w1 ⟨rfl, hb1⟩
  obtain ⟨q1, q2, q3, q4⟩ := four_blocks hb1
  have Q1 := Lib.hid q1
  have Q2 := Lib.hid q2
  have Q3 := Lib.hid q3
  have Q4 := Lib.hid q4
  have HB1 := Lib.hid (show Below w.heap.size w w1 from ((((Below.refl _ _).alloc (Nat.le_refl _) _).alloc (by simp) _).alloc (by simp; omega) _).alloc (by simp; omega) _ |>.trans (hb1.mono (by simp; omega)))
  obtain ⟨⟨Ak, Ai⟩, hA⟩ : ∃ A, A = varOf L G a := ⟨_, rfl⟩
  obtain ⟨⟨Bk, Bi⟩, hB⟩ : ∃ B, B = varOf L G b := ⟨_, rfl⟩
  rw [← hA]
  obtain ⟨a0, a1, a2, a3⟩ := c4 (blk_alloc q1 (.cells #[.int .u8 Ak, .int .i64 Ai] 43))
  obtain ⟨b0, b1, b2, b3, b4⟩ := c5 (blk_alloc q2 (.cells #[.int .u8 Ak, .int .i64 Ai] 43))
  obtain ⟨d0, d1, d2, d3⟩ := c4 (blk_alloc q3 (.cells #[.int .u8 Ak, .int .i64 Ai] 43))
  have HA := Lib.hid hA
  have HB := Lib.hid hB
  clear q1 q2 q3 q4 hb1 hA hB
  go_wp2_with fail
  refine (variables_calls _ _ _ _ _ _ _ _ b _ _ _ _ _ _ hL hL2 hG hb).mono ?_
  rintro e w2 ⟨rfl, hb2⟩
  have hbl2 : Below w1.heap.size w1 w2 := ((Below.refl _ _).alloc (Nat.le_refl _) _).trans (hb2.mono (by simp))
  have r1 := blk_below Q1.out hbl2
  have r2 := blk_below Q2.out hbl2
  have r3 := blk_below Q3.out hbl2
  have r4 := blk_below Q4.out hbl2
  have r5 := blk_below (heap_alloc_new w1 _) hb2
  rw [← HB.out]
  clear a0 a1 a2 a3 b0 b1 b2 b3 b4 d0 d1 d2 d3
  have r3 := blk_alloc r3 (.cells #[.int .u8 Bk, .int .i64 Bi] 43)
  have r4 := blk_alloc r4 (.cells #[.int .u8 Bk, .int .i64 Bi] 43)
  have r5 := blk_alloc r5 (.cells #[.int .u8 Bk, .int .i64 Bi] 43)
  obtain ⟨d0, d1, d2, d3⟩ := c4 r3
  obtain ⟨g0, g1⟩ := c2 r5
  have fz := blk_frozen r4
  have fz0 := fz 0
  have fz1 := fz 1
  have fz2 := fz 2
  have fz3 := fz 3
  have fz4 := fz 4
  have fz5 := fz 5
  have fz6 := fz 6
  obtain ⟨z0, z1, z2, z3, z4, z5, z6⟩ := c7 r4
  have T1 := Lib.hid (fun o => blk_alloc (blk_alloc r1 (.cells #[.int .u8 Bk, .int .i64 Bi] 43)) o)
  have T2 := Lib.hid (fun o => blk_alloc (blk_alloc r2 (.cells #[.int .u8 Bk, .int .i64 Bi] 43)) o)
  have T3 := Lib.hid (fun o => blk_alloc r3 o)
  have T4 := Lib.hid (fun o => blk_alloc r4 o)
  have T5 := Lib.hid (fun o => blk_alloc r5 o)
  have u30 := fun o => (c4 (T3.out o)).1
  have u31 := fun o => (c4 (T3.out o)).2.1
  have u32 := fun o => (c4 (T3.out o)).2.2.1
  have u33 := fun o => (c4 (T3.out o)).2.2.2
  have u50 := fun o => (c2 (T5.out o)).1
  have u51 := fun o => (c2 (T5.out o)).2
  have u10 := fun o => (c4 (T1.out o)).2.2.1
  have u20 := fun o => (c5 (T2.out o)).2.2.2.1
  have u40 := fun o => (c7 (T4.out o)).1
  have u41 := fun o => (c7 (T4.out o)).2.1
  have u42 := fun o => (c7 (T4.out o)).2.2.1
  have u43 := fun o => (c7 (T4.out o)).2.2.2.1
  have u44 := fun o => (c7 (T4.out o)).2.2.2.2.1
  have u45 := fun o => (c7 (T4.out o)).2.2.2.2.2.1
  have u46 := fun o => (c7 (T4.out o)).2.2.2.2.2.2
  have f40 := fun o => blk_frozen (T4.out o) 0
  have f41 := fun o => blk_frozen (T4.out o) 1
  have f42 := fun o => blk_frozen (T4.out o) 2
  have f43 := fun o => blk_frozen (T4.out o) 3
  have f44 := fun o => blk_frozen (T4.out o) 4
  have f45 := fun o => blk_frozen (T4.out o) 5
  have f46 := fun o => blk_frozen (T4.out o) 6
  have HB2 := Lib.hid (HB1.out.trans (hbl2.mono HB1.out.size))
  clear r1 r2 r3 r4 r5 hb2 hbl2 fz
  go_wp2
  refine bodyPost_ret (v := .agg #[.int .u8 1, .int .u8 Ak, .int .i64 Ai, .int .u8 4, .int .i64 ((b : Int) % (S : Int)), .slice none 0 0, .slice none 0 0]) (by rw [results_cell rfl]; go_simp) rfl ?_
  refine ⟨_, rfl, ?_, ?_⟩
  · rw [HST.out, ← HA.out, Int.natCast_emod]
    exact fun _ _ => cells7_refs _ _ _ _ _ _
  · exact below_set7 ((HB2.out.alloc HB2.out.size _).alloc (by have := HB2.out.size; simp; omega) _) (by omega) _ _ _ _ _ _ _
end Go.Proofs.Ytjgijbaboekghaa

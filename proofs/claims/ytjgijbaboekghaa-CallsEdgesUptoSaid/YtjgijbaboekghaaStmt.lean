/-
  r05.statement (function 28): a statement, by numbers. Those that are no blocks and no calls.
-/
import Derived.Test.YtjgijbaboekghaaVars
import Derived.Test.YtjgijbaboekghaaCount
import Derived.Test.YtjgijbaboekghaaSans
import Derived.Outline
set_option linter.unusedVariables false
set_option linter.unusedSimpArgs false
namespace Go.Proofs.Ytjgijbaboekghaa
open Go.RowKit
section
variable {w : World} {g : Nat} {t : TypeId} {fr : Nat × Nat} {v0 v1 v2 v3 v4 v5 v6 : Value}
theorem c2 (h : w.heap[g]? = some (.cells #[v0, v1] t fr)) : w.cell? ⟨g, 0, none⟩ = some v0 ∧ w.cell? ⟨g, 1, none⟩ = some v1 := by
  refine ⟨?_, ?_⟩ <;> (rw [blk_cell h]; rfl)
theorem c4 (h : w.heap[g]? = some (.cells #[v0, v1, v2, v3] t fr)) : w.cell? ⟨g, 0, none⟩ = some v0 ∧ w.cell? ⟨g, 1, none⟩ = some v1 ∧ w.cell? ⟨g, 2, none⟩ = some v2 ∧ w.cell? ⟨g, 3, none⟩ = some v3 := by
  refine ⟨?_, ?_, ?_, ?_⟩ <;> (rw [blk_cell h]; rfl)
theorem c5 (h : w.heap[g]? = some (.cells #[v0, v1, v2, v3, v4] t fr)) : w.cell? ⟨g, 0, none⟩ = some v0 ∧ w.cell? ⟨g, 1, none⟩ = some v1 ∧ w.cell? ⟨g, 2, none⟩ = some v2 ∧ w.cell? ⟨g, 3, none⟩ = some v3 ∧ w.cell? ⟨g, 4, none⟩ = some v4 := by
  refine ⟨?_, ?_, ?_, ?_, ?_⟩ <;> (rw [blk_cell h]; rfl)
theorem c7 (h : w.heap[g]? = some (.cells #[v0, v1, v2, v3, v4, v5, v6] t fr)) : w.cell? ⟨g, 0, none⟩ = some v0 ∧ w.cell? ⟨g, 1, none⟩ = some v1 ∧ w.cell? ⟨g, 2, none⟩ = some v2 ∧ w.cell? ⟨g, 3, none⟩ = some v3 ∧ w.cell? ⟨g, 4, none⟩ = some v4 ∧ w.cell? ⟨g, 5, none⟩ = some v5 ∧ w.cell? ⟨g, 6, none⟩ = some v6 := by
  refine ⟨?_, ?_, ?_, ?_, ?_, ?_, ?_⟩ <;> (rw [blk_cell h]; rfl)
end
theorem four_blocks {w w2 : World} {o1 o2 o3 o4 : Obj} (hb : Below ((((w.alloc o1).alloc o2).alloc o3).alloc o4).heap.size ((((w.alloc o1).alloc o2).alloc o3).alloc o4) w2) :
    w2.heap[w.heap.size]? = some o1 ∧ w2.heap[w.heap.size + 1]? = some o2 ∧ w2.heap[w.heap.size + 1 + 1]? = some o3 ∧ w2.heap[w.heap.size + 1 + 1 + 1]? = some o4 := by
  have h2 := heap_alloc_new (w.alloc o1) o2
  have h3 := heap_alloc_new ((w.alloc o1).alloc o2) o3
  have h4 := heap_alloc_new (((w.alloc o1).alloc o2).alloc o3) o4
  rw [show (w.alloc o1).heap.size = w.heap.size + 1 by simp] at h2
  rw [show ((w.alloc o1).alloc o2).heap.size = w.heap.size + 1 + 1 by simp] at h3
  rw [show (((w.alloc o1).alloc o2).alloc o3).heap.size = w.heap.size + 1 + 1 + 1 by simp] at h4
  exact ⟨blk_below (blk_alloc (blk_alloc (blk_alloc (heap_alloc_new w o1) o2) o3) o4) hb, blk_below (blk_alloc (blk_alloc h2 o3) o4) hb, blk_below (blk_alloc h3 o4) hb, blk_below h4 hb⟩
theorem cells7_refs (w : World) (k ak ai bk bi : Int) : Cells7 w [.int .u8 k, .int .u8 ak, .int .i64 ai, .int .u8 bk, .int .i64 bi, .slice none 0 0, .slice none 0 0] (.mk k ak ai bk bi [] []) :=
  (cells7_def _ _ _ _ _ _ _ _ _).2 ⟨none, 0, 0, none, 0, 0, rfl, readsRefs_nil w, readsBody_nil w none⟩
theorem below_set7 {B : Nat} {w0 w : World} {g : Nat} (h : Below B w0 w) (hg : B ≤ g) (v0 v1 v2 v3 v4 v5 v6 : Value) :
    Below B w0 (((((((w.setCell ⟨g, 0, none⟩ v0).setCell ⟨g, 1, none⟩ v1).setCell ⟨g, 2, none⟩ v2).setCell ⟨g, 3, none⟩ v3).setCell ⟨g, 4, none⟩ v4).setCell ⟨g, 5, none⟩ v5).setCell ⟨g, 6, none⟩ v6) :=
  ((((((h.setCell (p := ⟨g, 0, none⟩) hg v0).setCell (p := ⟨g, 1, none⟩) hg v1).setCell (p := ⟨g, 2, none⟩) hg v2).setCell (p := ⟨g, 3, none⟩) hg v3).setCell (p := ⟨g, 4, none⟩) hg v4).setCell (p := ⟨g, 5, none⟩) hg v5).setCell (p := ⟨g, 6, none⟩) hg v6
/-- Those that are no blocks. -/
def stmt1 (G F L S : Nat) (params : Nat → Nat) (k a b c : Nat) : St :=
  let A := varOf L G a
  let B := varOf L G b
  if k % 10 ≤ 1 then
    (if c % 4 = 1 then .mk 1 A.1 A.2 3 ((b % F : Nat) : Int) [] [] else if c % 4 = 0 then .mk 1 A.1 A.2 B.1 B.2 [] [] else .mk 1 A.1 A.2 4 ((b % S : Nat) : Int) [] [])
  else if k % 10 = 2 then .mk 3 A.1 A.2 B.1 B.2 [] []
  else if k % 10 = 3 then .mk 4 A.1 A.2 B.1 B.2 [] []
  else if k % 10 ≤ 5 then
    .mk 5 (if c % 3 = 0 then 0 else A.1) (if c % 3 = 0 then 0 else A.2) (if k % 10 = 4 then 3 else B.1) (if k % 10 = 4 then ((b % F : Nat) : Int) else B.2)
      ((List.range (if k % 10 = 4 then params (b % F) else c / 4 % 4)).map fun i => varOf L G ((a + c + i) % 256)) []
  else if k % 10 = 6 then .mk 6 0 0 B.1 B.2 [] []
  else .mk 2 A.1 A.2 B.1 B.2 [] []
/-- What r05.statement hands back: seven cells that read as a statement. -/
def Stated (w : World) (s : St) (e : Ending) (w' : World) : Prop := ∃ vs : Array Value, e = .returned (.agg vs) ∧ (∀ bs, (∀ b ∈ bs, b < w.heap.size) → Cells7 (sans w' bs) vs.toList s) ∧ Below w.heap.size w w'
set_option maxRecDepth 100000 in
set_option maxHeartbeats 4000000 in
theorem stmt_two (w : World) (s1 s4 : Value) (G gc L lc S sc F fc : Nat) (ga la fa sa : Option Addr) (f0 f1 f4 : Value) (params : Nat → Nat) (k a b c : Nat) (hL : 0 < L) (hL2 : L ≤ 1000) (hG : G ≤ 1000) (ha : a < 256) (hb : b < 256) (hk : ((k : Int) % 10) = 2) :
    Calls Try.prog 28 #[.agg #[s1, .slice ga G gc, .slice fa F fc, s4], .agg #[f0, f1, .slice la L lc, .slice sa S sc, f4], .agg #[.int .u8 k, .int .u8 a, .int .u8 b, .int .u8 c]] w (Stated w (stmt1 G F L S params k a b c)) := by
  have hst : stmt1 G F L S params k a b c = .mk 3 (varOf L G a).1 (varOf L G a).2 (varOf L G b).1 (varOf L G b).2 [] [] := by
    unfold stmt1; rw [if_neg (by omega), if_pos (by omega)]
  have HST := Lib.hid hst
  clear hst
  go_enter Try.func28, Try.ntmps28
  go_wp2_with fail
  refine (variables_calls _ _ _ _ _ _ _ _ a _ _ _ _ _ _ hL hL2 hG ha).mono ?_
  rintro e w1 ⟨rfl, hb1⟩
  obtain ⟨q1, q2, q3, q4⟩ := four_blocks hb1
  have Q1 := Lib.hid q1
  have Q2 := Lib.hid q2
  have Q3 := Lib.hid q3
  have Q4 := Lib.hid q4
  have HB1 := Lib.hid (show Below w.heap.size w w1 from ((((Below.refl _ _).alloc (Nat.le_refl _) _).alloc (by simp) _).alloc (by simp; omega) _).alloc (by simp; omega) _ |>.trans (hb1.mono (by simp; omega)))
  obtain ⟨⟨Ak, Ai⟩, hA⟩ : ∃ A, A = varOf L G a := ⟨_, rfl⟩
  obtain ⟨⟨Bk, Bi⟩, hB⟩ : ∃ B, B = varOf L G b := ⟨_, rfl⟩
  rw [← hA]
  obtain ⟨a0, a1, a2, a3⟩ := c4 (blk_alloc q1 (.cells #[.int .u8 Ak, .int .i64 Ai] 43))
  obtain ⟨b0, b1, b2, b3, b4⟩ := c5 (blk_alloc q2 (.cells #[.int .u8 Ak, .int .i64 Ai] 43))
  obtain ⟨d0, d1, d2, d3⟩ := c4 (blk_alloc q3 (.cells #[.int .u8 Ak, .int .i64 Ai] 43))
  have HA := Lib.hid hA
  have HB := Lib.hid hB
  clear q1 q2 q3 q4 hb1 hA hB
  go_wp2_with fail
  refine (variables_calls _ _ _ _ _ _ _ _ b _ _ _ _ _ _ hL hL2 hG hb).mono ?_
  rintro e w2 ⟨rfl, hb2⟩
  have hbl2 : Below w1.heap.size w1 w2 := ((Below.refl _ _).alloc (Nat.le_refl _) _).trans (hb2.mono (by simp))
  have r1 := blk_below Q1.out hbl2
  have r2 := blk_below Q2.out hbl2
  have r3 := blk_below Q3.out hbl2
  have r4 := blk_below Q4.out hbl2
  have r5 := blk_below (heap_alloc_new w1 _) hb2
  rw [← HB.out]
  clear a0 a1 a2 a3 b0 b1 b2 b3 b4 d0 d1 d2 d3
  have r3 := blk_alloc r3 (.cells #[.int .u8 Bk, .int .i64 Bi] 43)
  have r4 := blk_alloc r4 (.cells #[.int .u8 Bk, .int .i64 Bi] 43)
  have r5 := blk_alloc r5 (.cells #[.int .u8 Bk, .int .i64 Bi] 43)
  obtain ⟨d0, d1, d2, d3⟩ := c4 r3
  obtain ⟨g0, g1⟩ := c2 r5
  have fz := blk_frozen r4
  have fz0 := fz 0
  have fz1 := fz 1
  have fz2 := fz 2
  have fz3 := fz 3
  have fz4 := fz 4
  have fz5 := fz 5
  have fz6 := fz 6
  obtain ⟨z0, z1, z2, z3, z4, z5, z6⟩ := c7 r4
  have R4 := Lib.hid r4
  have HB2 := Lib.hid (HB1.out.trans (hbl2.mono HB1.out.size))
  clear r1 r2 r3 r4 r5 hb2 hbl2 fz
  go_wp2
  refine bodyPost_ret (v := .agg #[.int .u8 3, .int .u8 Ak, .int .i64 Ai, .int .u8 Bk, .int .i64 Bi, .slice none 0 0, .slice none 0 0]) (by rw [results_cell rfl]; go_simp) rfl ?_
  refine ⟨_, rfl, ?_, ?_⟩
  · rw [HST.out, ← HA.out, ← HB.out]
    exact fun _ _ => cells7_refs _ _ _ _ _ _
  · exact below_set7 (HB2.out.alloc HB2.out.size _) (by omega) _ _ _ _ _ _ _
end Go.Proofs.Ytjgijbaboekghaa

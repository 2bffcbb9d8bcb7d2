/-
  r05.statement (function 28): all that are no blocks.
-/
import Derived.Test.YtjgijbaboekghaaStmtb
import Derived.Test.YtjgijbaboekghaaStmtc
set_option linter.unusedVariables false
set_option linter.unusedSimpArgs false
namespace Go.Proofs.Ytjgijbaboekghaa
open Go.RowKit
theorem sans_blk {w : World} {bs : List Nat} {g : Nat} {o : Obj} (h : w.heap[g]? = some o) (hg : g ∉ bs) : (sans w bs).heap[g]? = some o := by
  unfold sans
  simp only [Array.getElem?_mapIdx, h, Option.map_some, if_neg hg]
theorem set7_heap (w : World) (g k : Nat) (hk : k ≠ g) (v0 v1 v2 v3 v4 v5 v6 : Value) :
    (((((((w.setCell ⟨g, 0, none⟩ v0).setCell ⟨g, 1, none⟩ v1).setCell ⟨g, 2, none⟩ v2).setCell ⟨g, 3, none⟩ v3).setCell ⟨g, 4, none⟩ v4).setCell ⟨g, 5, none⟩ v5).setCell ⟨g, 6, none⟩ v6).heap[k]? = w.heap[k]? := by
  have h : ∀ (W : World) (o : Nat) (v : Value), (W.setCell ⟨g, o, none⟩ v).heap[k]? = W.heap[k]? := fun W o v => Below.heap_setCell W ⟨g, o, none⟩ v k hk
  rw [h, h, h, h, h, h, h]
theorem set7_size (w : World) (g : Nat) (v0 v1 v2 v3 v4 v5 v6 : Value) : (((((((w.setCell ⟨g, 0, none⟩ v0).setCell ⟨g, 1, none⟩ v1).setCell ⟨g, 2, none⟩ v2).setCell ⟨g, 3, none⟩ v3).setCell ⟨g, 4, none⟩ v4).setCell ⟨g, 5, none⟩ v5).setCell ⟨g, 6, none⟩ v6).heap.size = w.heap.size := by simp only [World.size_setCell]
theorem set7_new (w : World) (o : Obj) (g : Nat) (v0 v1 v2 v3 v4 v5 v6 : Value) :
    ((((((((w.setCell ⟨g, 0, none⟩ v0).setCell ⟨g, 1, none⟩ v1).setCell ⟨g, 2, none⟩ v2).setCell ⟨g, 3, none⟩ v3).setCell ⟨g, 4, none⟩ v4).setCell ⟨g, 5, none⟩ v5).setCell ⟨g, 6, none⟩ v6).alloc o).heap[w.heap.size]? = some o := by
  have h := heap_alloc_new (((((((w.setCell ⟨g, 0, none⟩ v0).setCell ⟨g, 1, none⟩ v1).setCell ⟨g, 2, none⟩ v2).setCell ⟨g, 3, none⟩ v3).setCell ⟨g, 4, none⟩ v4).setCell ⟨g, 5, none⟩ v5).setCell ⟨g, 6, none⟩ v6) o
  rw [set7_size] at h
  exact h
theorem set7_sub (w : World) (o : Obj) (g : Nat) (bs : List Nat) (v0 v1 v2 v3 v4 v5 v6 : Value) :
    Sub (sans w (g :: bs)) (sans ((((((((w.setCell ⟨g, 0, none⟩ v0).setCell ⟨g, 1, none⟩ v1).setCell ⟨g, 2, none⟩ v2).setCell ⟨g, 3, none⟩ v3).setCell ⟨g, 4, none⟩ v4).setCell ⟨g, 5, none⟩ v5).setCell ⟨g, 6, none⟩ v6).alloc o) bs) :=
  sub_sans fun k hk hkb => ⟨fun h => hkb (List.mem_cons_of_mem _ h), (heap_alloc_old _ o (by rw [set7_size]; exact hk)).trans (set7_heap w g k (fun e => hkb (by rw [e]; exact List.mem_cons_self)) v0 v1 v2 v3 v4 v5 v6)⟩
/-- A block of two statements. -/
theorem two_read {w : World} {g : Nat} {bs : List Nat} {k ak ai bk bi Bk Bi Ak Ai : Int} {va vb : Value} {s : St} (h : Cells7 (sans w (g :: bs)) [.int .u8 k, .int .u8 ak, .int .i64 ai, .int .u8 bk, .int .i64 bi, va, vb] s) (hb : w.heap.size ∉ bs) (v0 v1 v2 v3 v4 v5 v6 : Value) :
    Cells7 (sans ((((((((w.setCell ⟨g, 0, none⟩ v0).setCell ⟨g, 1, none⟩ v1).setCell ⟨g, 2, none⟩ v2).setCell ⟨g, 3, none⟩ v3).setCell ⟨g, 4, none⟩ v4).setCell ⟨g, 5, none⟩ v5).setCell ⟨g, 6, none⟩ v6).alloc (.cells #[.int .u8 k, .int .u8 ak, .int .i64 ai, .int .u8 bk, .int .i64 bi, va, vb, .int .u8 2, .int .u8 Bk, .int .i64 Bi, .int .u8 Ak, .int .i64 Ai, .slice none 0 0, .slice none 0 0] 46)) bs)
      [.int .u8 7, .int .u8 0, .int .i64 0, .int .u8 0, .int .i64 0, .slice none 0 0, .slice (some ⟨w.heap.size, 0, none⟩) 2 2] (.mk 7 0 0 0 0 [] [s, .mk 2 Bk Bi Ak Ai [] []]) := by
  refine (cells7_def _ _ _ _ _ _ _ _ _).2 ⟨none, 0, 0, _, 2, 2, rfl, readsRefs_nil _, ?_⟩
  refine ReadsBody.block (sans_blk (set7_new w _ g v0 v1 v2 v3 v4 v5 v6) hb) rfl (by decide) ?_
  intro i x hx
  match i, hx with
  | 0, hx =>
    simp only [List.getElem?_cons_zero, Option.some.injEq] at hx
    subst hx
    refine ⟨_, Cells7.sub (set7_sub w _ g bs v0 v1 v2 v3 v4 v5 v6) _ h, fun j v hv => ?_⟩
    match j, hv with
    | 0, hv | 1, hv | 2, hv | 3, hv | 4, hv | 5, hv | 6, hv => exact hv
  | 1, hx =>
    simp only [List.getElem?_cons_succ, List.getElem?_cons_zero, Option.some.injEq] at hx
    subst hx
    refine ⟨_, cells7_refs _ 2 Bk Bi Ak Ai, fun j v hv => ?_⟩
    match j, hv with
    | 0, hv | 1, hv | 2, hv | 3, hv | 4, hv | 5, hv | 6, hv => exact hv
  | i + 2, hx => simp at hx
/-- Those that are no blocks. -/
theorem stmt_flat (w : World) (s1 s4 : Value) (G gc L lc S sc F fc : Nat) (ga la sa : Option Addr) (fb fo : Nat) (f0 f1 f4 : Value) (params : Nat → Nat) (k a b c : Nat) (hL : 0 < L) (hL2 : L ≤ 1000) (hG : G ≤ 1000) (hF : 0 < F) (hF2 : F ≤ 1000) (hS : 0 < S) (hS2 : S ≤ 1000) (ha : a < 256) (hb : b < 256) (hcc : c < 256)
    (hP : ∀ i, i < F → w.cell? ⟨fb, fo + i * 5 + 1, none⟩ = some (.int .i64 (params i : Nat))) (hp3 : ∀ i, params i ≤ 100) (hk7 : k % 10 ≠ 7) :
    Calls Try.prog 28 #[.agg #[s1, .slice ga G gc, .slice (some ⟨fb, fo, none⟩) F fc, s4], .agg #[f0, f1, .slice la L lc, .slice sa S sc, f4], .agg #[.int .u8 k, .int .u8 a, .int .u8 b, .int .u8 c]] w (Stated w (stmt1 G F L S params k a b c)) := by
  have hk : k % 10 < 10 := Nat.mod_lt _ (by decide)
  have hc : c % 4 < 4 := Nat.mod_lt _ (by decide)
  rcases (show k % 10 = 0 ∨ k % 10 = 1 ∨ k % 10 = 2 ∨ k % 10 = 3 ∨ k % 10 = 4 ∨ k % 10 = 5 ∨ k % 10 = 6 ∨ k % 10 = 8 ∨ k % 10 = 9 by omega) with h | h | h | h | h | h | h | h | h
  · rcases (show c % 4 = 0 ∨ c % 4 = 1 ∨ c % 4 = 2 ∨ c % 4 = 3 by omega) with g | g | g | g
    · exact stmt_zero_b w s1 s4 G gc L lc S sc F fc ga la (some ⟨fb, fo, none⟩) sa f0 f1 f4 params k a b c hL hL2 hG ha hb (by omega) (by omega)
    · exact stmt_zero_f w s1 s4 G gc L lc S sc F fc ga la (some ⟨fb, fo, none⟩) sa f0 f1 f4 params k a b c hL hL2 hG ha hb (by omega) (by omega) hF hF2
    · exact stmt_zero_s w s1 s4 G gc L lc S sc F fc ga la (some ⟨fb, fo, none⟩) sa f0 f1 f4 params k a b c hL hL2 hG ha hb (by omega) (by omega) hS hS2
    · exact stmt_zero_t w s1 s4 G gc L lc S sc F fc ga la (some ⟨fb, fo, none⟩) sa f0 f1 f4 params k a b c hL hL2 hG ha hb (by omega) (by omega) hS hS2
  · rcases (show c % 4 = 0 ∨ c % 4 = 1 ∨ c % 4 = 2 ∨ c % 4 = 3 by omega) with g | g | g | g
    · exact stmt_one_b w s1 s4 G gc L lc S sc F fc ga la (some ⟨fb, fo, none⟩) sa f0 f1 f4 params k a b c hL hL2 hG ha hb (by omega) (by omega)
    · exact stmt_one_f w s1 s4 G gc L lc S sc F fc ga la (some ⟨fb, fo, none⟩) sa f0 f1 f4 params k a b c hL hL2 hG ha hb (by omega) (by omega) hF hF2
    · exact stmt_one_s w s1 s4 G gc L lc S sc F fc ga la (some ⟨fb, fo, none⟩) sa f0 f1 f4 params k a b c hL hL2 hG ha hb (by omega) (by omega) hS hS2
    · exact stmt_one_t w s1 s4 G gc L lc S sc F fc ga la (some ⟨fb, fo, none⟩) sa f0 f1 f4 params k a b c hL hL2 hG ha hb (by omega) (by omega) hS hS2
  · exact stmt_two w s1 s4 G gc L lc S sc F fc ga la (some ⟨fb, fo, none⟩) sa f0 f1 f4 params k a b c hL hL2 hG ha hb (by omega)
  · exact stmt_three w s1 s4 G gc L lc S sc F fc ga la (some ⟨fb, fo, none⟩) sa f0 f1 f4 params k a b c hL hL2 hG ha hb (by omega)
  · have hr : b % F < F := Nat.mod_lt _ hF
    by_cases g : c % 3 = 0
    · refine stmt_call_4_y w s1 s4 G gc L lc S sc F fc ga la (some ⟨fb, fo, none⟩) sa f0 f1 f4 params k a b c hL hL2 hG ha hb hcc (by omega) (by omega) (params (b % F)) (b % F) (by rw [Int.natCast_emod]) hr hF2 fb fo rfl (hP _ hr) (hp3 _) _ ?_
      unfold stmt1
      rw [if_neg (by omega), if_neg (by omega), if_neg (by omega), if_pos (by omega), if_pos g, if_pos g, if_pos h, if_pos h, if_pos h]
    · refine stmt_call_4_n w s1 s4 G gc L lc S sc F fc ga la (some ⟨fb, fo, none⟩) sa f0 f1 f4 params k a b c hL hL2 hG ha hb hcc (by omega) (by rw [beq_eq_false_iff_ne]; omega) (params (b % F)) (b % F) (by rw [Int.natCast_emod]) hr hF2 fb fo rfl (hP _ hr) (hp3 _) _ ?_
      unfold stmt1
      rw [if_neg (by omega), if_neg (by omega), if_neg (by omega), if_pos (by omega), if_neg g, if_neg g, if_pos h, if_pos h, if_pos h]
  · by_cases g : c % 3 = 0
    · refine stmt_call_5_y w s1 s4 G gc L lc S sc F fc ga la (some ⟨fb, fo, none⟩) sa f0 f1 f4 params k a b c hL hL2 hG ha hb hcc (by omega) (by omega) (c / 4 % 4) (by omega) (by omega) _ ?_
      unfold stmt1
      rw [if_neg (by omega), if_neg (by omega), if_neg (by omega), if_pos (by omega), if_pos g, if_pos g, if_neg (by omega), if_neg (by omega), if_neg (by omega)]
    · refine stmt_call_5_n w s1 s4 G gc L lc S sc F fc ga la (some ⟨fb, fo, none⟩) sa f0 f1 f4 params k a b c hL hL2 hG ha hb hcc (by omega) (by rw [beq_eq_false_iff_ne]; omega) (c / 4 % 4) (by omega) (by omega) _ ?_
      unfold stmt1
      rw [if_neg (by omega), if_neg (by omega), if_neg (by omega), if_pos (by omega), if_neg g, if_neg g, if_neg (by omega), if_neg (by omega), if_neg (by omega)]
  · exact stmt_six w s1 s4 G gc L lc S sc F fc ga la (some ⟨fb, fo, none⟩) sa f0 f1 f4 params k a b c hL hL2 hG ha hb (by omega)
  · exact stmt_eight w s1 s4 G gc L lc S sc F fc ga la (some ⟨fb, fo, none⟩) sa f0 f1 f4 params k a b c hL hL2 hG ha hb (by omega)
  · exact stmt_nine w s1 s4 G gc L lc S sc F fc ga la (some ⟨fb, fo, none⟩) sa f0 f1 f4 params k a b c hL hL2 hG ha hb (by omega)
end Go.Proofs.Ytjgijbaboekghaa

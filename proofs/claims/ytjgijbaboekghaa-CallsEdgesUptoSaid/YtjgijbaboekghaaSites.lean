/-
  calls.Sites (function 22): the calls of a function, in order.
-/
import Derived.Test.YtjgijbaboekghaaMakeQ
import Derived.Test.YtjgijbaboekghaaCount
set_option linter.unusedSimpArgs false
set_option linter.unusedVariables false
namespace Go.Proofs.Ytjgijbaboekghaa
open Go.RowKit
theorem ItemsAt.at {w : World} {n : Nat} {xs : List Value} {l : List (Nat × St)} (h : ItemsAt w n xs l) {i d : Nat} {s : St} (hi : l[i]? = some (d, s)) :
    xs[i * 9]? = some (.int .i64 ((n + i : Nat) : Int)) ∧ xs[i * 9 + 1]? = some (.int .i64 (d : Int)) ∧ ∃ vs, Cells7 w vs s ∧ ∀ (j : Nat) v, vs[j]? = some v → xs[i * 9 + 2 + j]? = some v := by
  induction l generalizing n xs i with
  | nil => simp at hi
  | cons x r ih =>
    obtain ⟨d', s'⟩ := x
    obtain ⟨vs', ys, rfl, h1, h2⟩ := h
    have hl := h1.length
    cases i with
    | zero =>
      simp at hi
      obtain ⟨rfl, rfl⟩ := hi
      refine ⟨rfl, rfl, vs', h1, fun j v hj => ?_⟩
      have hlt := (List.getElem?_eq_some_iff.1 hj).1
      rw [show 0 * 9 + 2 + j = j + 1 + 1 by omega, List.getElem?_cons_succ, List.getElem?_cons_succ, List.getElem?_append_left hlt]
      exact hj
    | succ i =>
      obtain ⟨k1, k2, vs, k3, k4⟩ := ih h2 (by simpa using hi)
      have hsh : ∀ m, (Value.int .i64 (n : Int) :: .int .i64 (d' : Int) :: (vs' ++ ys))[(i + 1) * 9 + m]? = ys[i * 9 + m]? := fun m => by
        rw [show (i + 1) * 9 + m = (i * 9 + m + 7) + 1 + 1 by omega, List.getElem?_cons_succ, List.getElem?_cons_succ, List.getElem?_append_right (by omega), hl, Nat.add_sub_cancel]
      refine ⟨?_, ?_, vs, k3, fun j v hj => ?_⟩
      · refine (hsh 0).trans ?_
        rw [Nat.add_zero, k1, show n + 1 + i = n + (i + 1) by omega]
      · rw [hsh 1]; exact k2
      · rw [show (i + 1) * 9 + 2 + j = (i + 1) * 9 + (2 + j) by omega, hsh, show i * 9 + (2 + j) = i * 9 + 2 + j by omega]
        exact k4 j v hj
def sitesOf (l : List (Nat × St)) : List St := (l.filter fun x => x.2.kind == 5).map (·.2)
theorem sitesOf_snoc {l : List (Nat × St)} {i d : Nat} {s : St} (h : l[i]? = some (d, s)) : sitesOf (l.take (i + 1)) = sitesOf (l.take i) ++ (if (s.kind == 5) = true then [s] else []) := by
  obtain ⟨hi, e⟩ := List.getElem?_eq_some_iff.1 h
  unfold sitesOf
  rw [List.take_succ_eq_append_getElem hi, e, List.filter_append, List.map_append]
  congr 1
  cases hk : s.kind == 5 <;> simp [List.filter_cons, hk]
theorem sitesOf_len (l : List (Nat × St)) (i : Nat) : (sitesOf (l.take i)).length ≤ i := by
  unfold sitesOf
  rw [List.length_map]
  have h1 := List.length_filter_le (fun x : Nat × St => x.2.kind == 5) (l.take i)
  have h2 := List.length_take_le i l
  omega
/-- The nine cells of an item. -/
theorem nine_cells {w0 w : World} {B n c g e i d : Nat} {xs : List Value} {l : List (Nat × St)} {s : St} (h : w.ownsRow B e 9 (.slice (some ⟨g, 0, none⟩) n c) n xs) (hI : ItemsAt w0 0 xs l) (hi : l[i]? = some (d, s)) :
    ∃ (k ak ai bk bi : Int) (aa ba : Option Addr) (al ac bl bc : Nat), Cells7 w0 [.int .u8 k, .int .u8 ak, .int .i64 ai, .int .u8 bk, .int .i64 bi, .slice aa al ac, .slice ba bl bc] s ∧ s.kind = k ∧
      w.cell? ⟨g, i * 9, none⟩ = some (.int .i64 (i : Nat)) ∧ w.cell? ⟨g, i * 9 + 1, none⟩ = some (.int .i64 (d : Nat)) ∧ w.cell? ⟨g, i * 9 + 2, none⟩ = some (.int .u8 k) ∧ w.cell? ⟨g, i * 9 + 3, none⟩ = some (.int .u8 ak) ∧ w.cell? ⟨g, i * 9 + 4, none⟩ = some (.int .i64 ai) ∧
      w.cell? ⟨g, i * 9 + 5, none⟩ = some (.int .u8 bk) ∧ w.cell? ⟨g, i * 9 + 6, none⟩ = some (.int .i64 bi) ∧ w.cell? ⟨g, i * 9 + 7, none⟩ = some (.slice aa al ac) ∧ w.cell? ⟨g, i * 9 + 8, none⟩ = some (.slice ba bl bc) := by
  obtain ⟨k1, k2, vs, k3, k4⟩ := hI.at hi
  rw [Nat.zero_add] at k1
  obtain ⟨k, ak, ai, bk, bi, args, body⟩ := s
  obtain ⟨aa, al, ac, ba, bl, bc, rfl, h1, h2⟩ := (cells7_def _ _ _ _ _ _ _ _ _).1 k3
  refine ⟨k, ak, ai, bk, bi, aa, ba, al, ac, bl, bc, k3, rfl, (row_cell h k1).1, (row_cell h k2).1, (row_cell h (k4 0 _ rfl)).1, (row_cell h (k4 1 _ rfl)).1, (row_cell h (k4 2 _ rfl)).1, (row_cell h (k4 3 _ rfl)).1, (row_cell h (k4 4 _ rfl)).1, (row_cell h (k4 5 _ rfl)).1, (row_cell h (k4 6 _ rfl)).1⟩
def Sited (w : World) (l : List St) (e : Ending) (w' : World) : Prop := ∃ A n c xs, e = .returned (.slice A n c) ∧ n = l.length ∧ w'.ownsRow w.heap.size 46 7 (.slice A n c) n xs ∧ StsAt w' xs l ∧ Below w.heap.size w w'
set_option maxRecDepth 20000 in
set_option maxHeartbeats 1000000 in
theorem sites_calls (w : World) (f0 f1 f2 f3 : Value) (ba : Option Addr) (bn bc : Nat) (l : List St) (h : ReadsBody w ba bn l) (hN : (flatT 1000 0 l).length ≤ 1048576) :
    Calls Try.prog 22 #[.agg #[f0, f1, f2, f3, .slice ba bn bc]] w (Sited w (sitesOf (flatT 1000 0 l))) := by
  obtain ⟨L, hL⟩ : ∃ L, L = flatT 1000 0 l := ⟨_, rfl⟩
  have HB := Lib.hid h
  have HLL := Lib.hid hL
  have HN := Lib.hid hN
  rw [← hL]
  clear h hL hN
  go_enter Try.func22, Try.ntmps22
  go_wp2_with fail
  refine (flat11_calls _ l ba bn bc (HB.out.below ((Below.refl _ _).alloc (Nat.le_refl _) _)) HN.out).mono ?_
  rintro e w2 ⟨v, N, rfl, hf⟩
  rw [← HLL.out] at hf
  have hlen := hf.len
  obtain ⟨ixs, ho, hI⟩ := hf.own
  obtain ⟨iA, ic, rfl, _, _⟩ := own_shape ho
  have hbw : Below w.heap.size w w2 := ((Below.refl _ _).alloc (Nat.le_refl _) (.cells #[f0, f1, f2, f3, .slice ba bn bc] 35)).trans (hf.below.mono (by simp))
  have hN6 : N ≤ 1048576 := by have := HN.out; rw [← HLL.out] at this; omega
  obtain ⟨w1, hw1⟩ : ∃ w1, w1 = w.alloc (.cells #[f0, f1, f2, f3, .slice ba bn bc] 35) := ⟨_, rfl⟩
  rw [← hw1] at ho hI
  have hb1 : Below w1.heap.size w1 w2 := by rw [hw1]; exact hf.below
  have HO := Lib.hid ho
  have HI := Lib.hid hI
  have HB1 := Lib.hid hb1
  have HBW := Lib.hid hbw
  have HLEN := Lib.hid hlen
  have HW1 := Lib.hid (show w.heap.size ≤ w1.heap.size by rw [hw1]; simp)
  clear hf ho hI hb1 hbw hlen hw1
  go_wp2
  go_loopw [3, 10] (fun v3 iv wr => ∃ (i n : Nat) (A : Option Addr) (cp : Nat) (xs : List Value), i ≤ N ∧ n ≤ i ∧ iv = .int .i64 i ∧ v3 = .slice A n cp ∧ Hid (n = (sitesOf (L.take i)).length) ∧ Hid (wr.ownsRow w2.heap.size 46 7 (.slice A n cp) n xs) ∧ Hid (StsAt w1 xs (sitesOf (L.take i))) ∧ Hid (Below w2.heap.size w2 wr)) (fun _ iv _ => N - (intOf iv).toNat)
  case atStart => exact ⟨0, 0, none, 0, [], Nat.zero_le _, Nat.le_refl _, rfl, rfl, rfl, World.ownsRow_nil _ _ _ _, ⟨rfl, fun i s h => by simp [sitesOf] at h⟩, Below.refl _ _⟩
  case round =>
    obtain ⟨i, n, A, cp, xs, hi, hn, rfl, rfl, HNN, HOR, HST, HBR⟩ := hrel
    by_cases hlt : i < N
    · obtain ⟨gI, rfl, _, _⟩ := own_addr HO.out (by omega)
      obtain ⟨⟨d, s⟩, hs⟩ : ∃ x, L[i]? = some x := ⟨_, List.getElem?_eq_getElem (by rw [HLEN.out]; exact hlt)⟩
      obtain ⟨k, ak, ai, bk, bi, aa, b2, al, ac, bl, b2c, h7, hk, x0, x1, x2, x3, x4, x5, x6, x7, x8⟩ := nine_cells (own_below HO.out HBR.out) HI.out hs
      have H7 := Lib.hid h7
      have HS := Lib.hid hs
      have HK := Lib.hid hk
      clear h7 hs hk
      by_cases hk5 : k = 5
      · subst hk5
        have HSN := Lib.hid (show sitesOf (L.take (i + 1)) = sitesOf (L.take i) ++ [s] by rw [sitesOf_snoc HS.out, HK.out]; rfl)
        go_wp2_with (at_builtin; refine append_list2 (B := w2.heap.size) (w0 := w2) rfl _ _ 22 46 (.agg #[.int .u8 0, .int .u8 0, .int .i64 0, .int .u8 0, .int .i64 0, .slice none 0 0, .slice none 0 0]) 7 88 rfl Try.underlying22 info46 rfl (by decide) (.slice A n cp) n xs rfl (own_below HOR.out (((Below.refl _ _).alloc (Nat.le_refl _) _).alloc (by simp) _)) ⟨wr.heap.size + 1, 0, none⟩ 1 1 [.int .u8 5, .int .u8 ak, .int .i64 ai, .int .u8 bk, .int .i64 bi, .slice aa al ac, .slice b2 bl b2c] rfl rfl (new_cells1 _ _ _ _ _) (one7 _ _ _ _ _ _ _ _ _ _ _) (by have := HBR.out.size; simp; omega) ((HBR.out.alloc HBR.out.size _).alloc (by have := HBR.out.size; simp; omega) _) (by omega) (by omega) ?_; intro v' w4 hown hbel _ _; obtain ⟨A1, cp1, rfl, _, _⟩ := own_shape hown; have HOR1 := Lib.hid hown; have HBR1 := Lib.hid hbel; clear hown hbel x0 x1 x2 x3 x4 x5 x6 x7 x8)
        refine ⟨⟨i + 1, n + 1, A1, cp1, _, by omega, by omega, by go_num, rfl, ?_, HOR1.out, ?_, HBR1.out⟩, by simp [intOf]; omega⟩
        · show _ = _
          rw [HSN.out, List.length_append, ← HNN.out]; rfl
        · show StsAt _ _ _
          rw [HSN.out]
          exact HST.out.snoc H7.out
      · have hkf : (k == 5) = false := by rw [beq_eq_false_iff_ne]; exact hk5
        have HSN := Lib.hid (show sitesOf (L.take (i + 1)) = sitesOf (L.take i) by rw [sitesOf_snoc HS.out, HK.out, hkf]; simp)
        go_wp2
        refine ⟨⟨i + 1, n, A, cp, xs, by omega, by omega, by go_num, rfl, ?_, own_below HOR.out ((Below.refl _ _).alloc (Nat.le_refl _) _), ?_, HBR.out.alloc HBR.out.size _⟩, by simp [intOf]; omega⟩
        · show _ = _
          rw [HSN.out]; exact HNN.out
        · show StsAt _ _ _
          rw [HSN.out]; exact HST.out
    · obtain rfl : N = i := by omega
      go_wp2
      go_ret
      have htk : L.take N = L := List.take_of_length_le (by rw [HLEN.out]; exact Nat.le_refl _)
      have h1 := HNN.out
      have h2 := HST.out
      rw [htk] at h1 h2
      exact ⟨A, n, cp, xs, rfl, h1, own_base HOR.out HBW.out.size, h2.sub (sub_below (HB1.out.trans (HBR.out.mono HB1.out.size))), HBW.out.trans (HBR.out.mono HBW.out.size)⟩
end Go.Proofs.Ytjgijbaboekghaa

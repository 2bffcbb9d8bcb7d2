/-
  The law CallsRow (function 4), walked: it is true whatever came in.
-/
import Derived.Test.YtjabffnehodkfaaCr
import Derived.IntWalk
set_option linter.unusedSimpArgs false
namespace Go.Proofs.Ytjabffnehodkfaa
open Go.RowKit
/-- A row of calls, each of the next one, from behind: t of them. -/
def chain (k t : Nat) : List Edge := (List.range t).map fun s : Nat => ((k : Int) - 2 - s, 0, (k : Int) - 2 - s + 1)
theorem chain_succ (k t : Nat) : chain k (t + 1) = chain k t ++ [((k : Int) - 2 - t, 0, (k : Int) - 2 - t + 1)] := by
  unfold chain; rw [List.range_succ, List.map_append]; rfl
theorem chain_length (k t : Nat) : (chain k t).length = t := by simp [chain]
theorem chain_mem {k : Nat} (x y z : Int) : (x, y, z) ∈ chain k (k - 1) ↔ 0 ≤ x ∧ y = 0 ∧ z = x + 1 ∧ z < k := by
  simp only [chain, List.mem_map, List.mem_range, Prod.mk.injEq]
  constructor
  · rintro ⟨s, h1, h2, h3, h4⟩; omega
  · rintro ⟨h1, h2, h3, h4⟩; exact ⟨(k - 2 - x).toNat, by omega, by omega, by omega, by omega⟩
theorem chain_reaches {k a n : Nat} : Reaches k [(a : Int)] (chain k (k - 1)) n ↔ a ≤ n ∧ n < k := by
  constructor
  · intro h
    induction h with
    | entry h1 h2 => simp at h2; omega
    | step h1 h2 h3 ih => rw [chain_mem] at h2; omega
  · rintro ⟨h1, h2⟩
    induction n with
    | zero => exact .entry h2 (by simp; omega)
    | succ n ih =>
      by_cases h : a = n + 1
      · exact .entry h2 (by simp; omega)
      · exact .step (ih (by omega) (by omega)) (c := 0) (by rw [chain_mem]; omega) h2
theorem ring_reaches {k a n : Nat} (ha : a < k) : Reaches k [(a : Int)] (chain k (k - 1) ++ [((k : Int) - 1, 0, 0)]) n ↔ n < k := by
  constructor
  · exact Reaches.lt
  · have up : ∀ m n, m ≤ n → n < k → Reaches k [(a : Int)] (chain k (k - 1) ++ [((k : Int) - 1, 0, 0)]) m → Reaches k [(a : Int)] (chain k (k - 1) ++ [((k : Int) - 1, 0, 0)]) n := by
      intro m n h1 h2 hm
      induction n with
      | zero => obtain rfl : m = 0 := by omega
                exact hm
      | succ n ih =>
        by_cases h : m = n + 1
        · rw [← h]; exact hm
        · exact .step (ih (by omega) (by omega)) (c := 0) (by rw [List.mem_append, chain_mem]; left; omega) h2
    intro hn
    have h0 := up a (k - 1) (by omega) (by omega) (.entry ha (by simp))
    have h1 : Reaches k [(a : Int)] (chain k (k - 1) ++ [((k : Int) - 1, 0, 0)]) 0 := .step h0 (c := 0) (by rw [List.mem_append]; right; simp; omega) (by omega)
    exact up 0 n (by omega) hn h1
theorem none_reaches {k n : Nat} {l : List Edge} : ¬ Reaches k [] l n := by
  intro h
  induction h with
  | entry _ h2 => simp at h2
  | step _ _ _ ih => exact ih
open Classical in
theorem chain_list (k a : Nat) (ha : a < k) : reachList k [(a : Int)] (chain k (k - 1)) = List.range' a (k - a) := by
  unfold reachList
  rw [List.filter_congr (q := fun n => decide (a ≤ n)) (fun n hn => by
    rw [Bool.eq_iff_iff, decide_eq_true_eq, decide_eq_true_eq, chain_reaches]
    have := List.mem_range.1 hn
    omega)]
  rw [List.range_eq_range', show k = a + (k - a) by omega, ← List.range'_append_1, List.filter_append, Nat.zero_add]
  rw [List.filter_eq_nil_iff.2 (fun n hn => by rw [List.mem_range'_1] at hn; simp; omega), List.nil_append, List.filter_eq_self.2 (fun n hn => by rw [List.mem_range'_1] at hn; simp; omega)]
  congr 1
  omega
open Classical in
theorem ring_list (k a : Nat) (ha : a < k) : reachList k [(a : Int)] (chain k (k - 1) ++ [((k : Int) - 1, 0, 0)]) = List.range' 0 k := by
  unfold reachList
  rw [List.filter_eq_self.2 (fun n hn => by rw [decide_eq_true_eq, ring_reaches ha]; exact List.mem_range.1 hn), List.range_eq_range']
open Classical in
theorem none_list (k : Nat) (l : List Edge) : reachList k [] l = [] := by
  unfold reachList
  exact List.filter_eq_nil_iff.2 (fun n hn => by rw [decide_eq_true_eq]; exact none_reaches)
theorem one3 (a b c : Int) : ∀ u ∈ [Value.int .i64 a, .int .i64 b, .int .i64 c], u.oneCell' = true := by
  intro u hu
  simp only [List.mem_cons, List.not_mem_nil, or_false] at hu
  rcases hu with rfl | rfl | rfl <;> rfl
theorem range_at (a c i : Nat) (hi : i < c) : ((List.range' a c).map fun n : Nat => (n : Int)).getD i 0 = ((a + i : Nat) : Int) := by
  rw [List.getD_eq_getElem?_getD, List.getElem?_map, List.getElem?_range' hi]
  simp
set_option maxRecDepth 100000 in
set_option maxHeartbeats 2000000 in
theorem callsRow_walk (w : World) (n f : Nat) (ring : Bool) (hn : n < 256) (hf : f < 256) :
    Calls Try.prog 4 #[.int .u8 n, .int .u8 f, .bool ring] w fun e w' => e = .returned (.bool true) ∧ Below w.heap.size w w' := by
  go_enter Try.func4, Try.ntmps4
  go_wp2_with fail
  refine (awake_calls _).mono ?_
  rintro e w2 ⟨rfl, hb⟩
  have HB := Lib.hid hb
  clear hb
  go_wp2_with fail
  obtain ⟨k, hk⟩ : ∃ k : Nat, k = 1 + n % 60 := ⟨_, rfl⟩
  rw [show (1 + (n : Int) % 60) = (k : Int) by omega]
  have hk1 : 1 ≤ k := by omega
  have hk60 : k ≤ 60 := by omega
  clear hk
  go_loopw [8, 9] (fun v8 iv wr => ∃ t : Nat, t ≤ k - 1 ∧ iv = .int .i64 ((k : Int) - 2 - t) ∧ Hid (wr.ownsRow w.heap.size 27 3 v8 t (edges (chain k t))) ∧ Hid (Below w.heap.size w wr)) (fun _ iv _ => (intOf iv + 1).toNat)
  case atStart => exact ⟨0, Nat.zero_le _, by simp, World.ownsRow_nil _ _ _ _, HB⟩
  case round =>
    obtain ⟨t, ht, rfl, HO, HB1⟩ := hrel
    obtain ⟨A, cp, rfl, _, _⟩ := own_shape HO.out
    by_cases hlt : t < k - 1
    · have hm1 : wrap64 ((k : Int) - 2 - t - 1) = (k : Int) - 2 - (t + 1 : Nat) := by rw [IntWalk.wrap64_in _ (by omega)]; omega
      go_wp2_with (at_builtin; refine append_row (B := w.heap.size) (w0 := w) rfl _ _ 23 27 (.agg #[.int .i64 0, .int .i64 0, .int .i64 0]) 3 24 rfl Try.underlying23 info27 rfl (by decide) _ t _ rfl (own_below HO.out ((Below.refl _ _).alloc (Nat.le_refl _) _)) ⟨wr.heap.size, 0, none⟩ 1 1 [.int .i64 ((k : Int) - 2 - t), .int .i64 0, .int .i64 ((k : Int) - 2 - t + 1)] rfl rfl (new_cells _ _ _ _) ?h1 ?hB ?hb (by omega) (by omega) ?_; rotate_right; intro v1 w1 hown hb1 hg1; have HO1 := Lib.hid hown; have HB2 := Lib.hid hb1; clear hown hb1 hg1)
      · refine ⟨⟨t + 1, by omega, by go_num, ?_, HB2⟩, by simp [intOf]; omega⟩
        rw [chain_succ, edges, List.flatMap_append]; exact HO1
      case h1 =>
        first | exact one3 _ _ _ | exact ⟨rfl, rfl, rfl⟩
      case hB =>
        have := HB1.out.size
        simp
        omega
      case hb => exact HB1.out.alloc HB1.out.size _
    · obtain rfl : t = k - 1 := by omega
      cases ring with
      | true =>
        go_wp2_with (at_builtin; refine append_row (B := w.heap.size) (w0 := w) rfl _ _ 23 27 (.agg #[.int .i64 0, .int .i64 0, .int .i64 0]) 3 24 rfl Try.underlying23 info27 rfl (by decide) _ (k - 1) _ rfl (own_below HO.out ((Below.refl _ _).alloc (Nat.le_refl _) _)) ⟨wr.heap.size, 0, none⟩ 1 1 [.int .i64 ((k : Int) - 1), .int .i64 0, .int .i64 0] rfl rfl (new_cells _ _ _ _) ?h1 ?hB ?hb (by omega) (by omega) ?_; rotate_right; intro v1 w1 hown hb1 hg1; obtain ⟨A1, cp1, rfl, _, _⟩ := own_shape hown; have HO1 := Lib.hid hown; have HB2 := Lib.hid hb1; clear hown hb1 hg1)
        case h1 => first | exact one3 _ _ _ | exact ⟨rfl, rfl, rfl⟩
        case hB =>
          have := HB1.out.size
          simp
          omega
        case hb => exact HB1.out.alloc HB1.out.size _
        · obtain ⟨a, ha⟩ : ∃ a : Nat, a = f % k := ⟨_, rfl⟩
          rw [show ((f : Int) % (k : Int)) = (a : Int) by rw [ha]; omega]
          have hak : a < k := by rw [ha]; exact Nat.mod_lt _ (by omega)
          clear ha
          have HO2 := Lib.hid (show w1.ownsRow w.heap.size 27 3 (.slice A1 k cp1) k (edges (chain k (k - 1) ++ [((k : Int) - 1, 0, 0)])) from by
            have := HO1.out
            rw [show k - 1 + 1 = k by omega] at this
            rw [edges, List.flatMap_append]; exact this)
          refine (reach_calls _ k k (by omega) (by omega) _ _ 1 _ 1 _ [(a : Int)] (chain k (k - 1) ++ [((k : Int) - 1, 0, 0)]) (.block (heap_alloc_new _ _) rfl rfl (by omega)) (ReadsE.own (own_below HO2.out ((Below.refl _ _).alloc (Nat.le_refl _) _)) (by omega) (by rw [List.length_append, chain_length]; simp; omega))).mono ?_
          rintro e w3 ⟨v1, rfl, hv1, hb3⟩
          rw [ring_list k a hak, List.length_range'] at hv1
          obtain ⟨A3, cp3, rfl, _, _⟩ := own_shape hv1
          obtain ⟨b, off, rfl, k0⟩ := own_int_at hv1 (show 0 < k by omega)
          rw [range_at _ _ _ (by omega), Nat.add_zero, Nat.add_zero] at k0
          have HB3 := Lib.hid (HB2.out.trans (((Below.refl _ _).alloc (Nat.le_refl _) _).trans (hb3.mono (by simp)) |>.mono HB2.out.size))
          clear hv1 hb3
          go_wp2
          go_ret
          exact ⟨rfl, HB3.out⟩
      | false =>
        go_wp2_with fail
        obtain ⟨a, ha⟩ : ∃ a : Nat, a = f % k := ⟨_, rfl⟩
        rw [show ((f : Int) % (k : Int)) = (a : Int) by rw [ha]; omega]
        have hak : a < k := by rw [ha]; exact Nat.mod_lt _ (by omega)
        clear ha
        refine (reach_calls _ k k (by omega) (by omega) _ _ 1 _ 1 _ [(a : Int)] (chain k (k - 1)) (.block (heap_alloc_new _ _) rfl rfl (by omega)) (ReadsE.own (own_below HO.out ((Below.refl _ _).alloc (Nat.le_refl _) _)) (by omega) (chain_length _ _))).mono ?_
        rintro e w3 ⟨v1, rfl, hv1, hb3⟩
        rw [chain_list k a hak, List.length_range'] at hv1
        obtain ⟨c, hc⟩ : ∃ c, c = k - a := ⟨_, rfl⟩
        rw [← hc] at hv1
        obtain ⟨A1, cp1, rfl, _, _⟩ := own_shape hv1
        obtain ⟨b, off, rfl, k0⟩ := own_int_at hv1 (show 0 < c by omega)
        obtain ⟨b', off', e, k1⟩ := own_int_at hv1 (show c - 1 < c by omega)
        injection e with e
        injection e with e1 e2 _
        subst e1 e2
        rw [range_at _ _ _ (by omega), Nat.add_zero, Nat.add_zero] at k0
        rw [range_at _ _ _ (by omega), show a + (c - 1) = k - 1 by omega] at k1
        have hc0 : ((c : Int) - 1) = ((c - 1 : Nat) : Int) := by omega
        have hk1' : wrap64 ((c : Int) - 1) = ((c - 1 : Nat) : Int) := by rw [IntWalk.wrap64_in _ (by omega)]; omega
        have HB3 := Lib.hid hb3
        clear hv1 hb3
        have hka : ((k : Int) - (a : Int)) = (c : Int) := by omega
        have hc1 : 1 ≤ c := by omega
        have hc60 : c ≤ 60 := by omega
        clear hc
        have HBs := Lib.hid (((Below.refl wr.heap.size wr).alloc (Nat.le_refl _) (.cells #[.int .i64 (a : Int)] 3)).trans (HB3.out.mono (by simp)))
        go_wp2_with fail
        refine (reach_calls _ k k (by omega) (by omega) none _ 0 _ 0 _ [] (chain k (k - 1)) ⟨rfl, by omega, fun h => by omega⟩ (ReadsE.own (own_below HO.out HBs.out) (by omega) (chain_length _ _))).mono ?_
        rintro e w4 ⟨v1, rfl, hv1, hb4⟩
        rw [none_list, List.length_nil] at hv1
        obtain ⟨A3, cp3, rfl, _, _⟩ := own_shape hv1
        have HB5 := Lib.hid ((HB1.out.trans (HBs.out.mono HB1.out.size)).trans (hb4.mono (Nat.le_trans HB1.out.size HBs.out.size)))
        clear hv1 hb4
        go_wp2
        go_ret
        exact ⟨rfl, HB5.out⟩
end Go.Proofs.Ytjabffnehodkfaa

/-
  sum.Seal, weathervaneref01.Seal, sum.Open (functions 12, 13, 14): bytes with their sum behind them, and back. Conditions: the slice reads as bytes, at most a thousand million; the table lies as start-up lays it.
-/
import Derived.Test.YtfkagmngblkbbaaDoorOf
import Derived.Test.YtfkagmngblkbbaaDoorRef
import Derived.OwnWalk
import Derived.Laws.AppendOwnNone
namespace Go.Proofs.YtfkagmngblkbbaaDoor
open Go.RowKit Crc

theorem info5 : (Tryd.prog.info? 5).map (fun i => (i.zero, i.size, i.bytes)) = some (some (.int .u8 0), 1, 1) := by kernel_rfl
def bytesL (xs : List Nat) : List Value := xs.map fun x => Value.int .u8 ((x : Nat) : Int)
theorem bytesL_length (xs : List Nat) : (bytesL xs).length = xs.length := by simp [bytesL]
theorem bytesL_append (xs ys : List Nat) : bytesL (xs ++ ys) = bytesL xs ++ bytesL ys := by simp [bytesL]
theorem bytesL_at (xs : List Nat) (j : Nat) (u : Value) (h : (bytesL xs)[j]? = some u) : j < xs.length ∧ u = .int .u8 ((xs.getD j 0 : Nat) : Int) := by
  have hj : j < xs.length := by
    rcases Nat.lt_or_ge j xs.length with h' | h'
    · exact h'
    · rw [List.getElem?_eq_none (by rw [bytesL_length]; exact h')] at h; cases h
  refine ⟨hj, ?_⟩
  simp [bytesL, hj] at h
  rw [← h]
  simp [hj]
/-- A slice of the call's own (from block B on) that holds these bytes. -/
def OwnB (B : Nat) (w : World) (v : Value) (xs : List Nat) : Prop := w.ownsRow B 5 1 v xs.length (bytesL xs)
theorem ownB_nil (B : Nat) (w : World) : OwnB B w (.slice none 0 0) [] := World.ownsRow_nil _ _ _ _
/-- 'append(v, x...)': v of the call's own (or nil), x any slice that reads as bytes. -/
theorem append_bytes {ops : Array Oper} {rest : List Oper} {o : Oper} {a : Act} {Q : Exit → Act → World → Prop} {B : Nat} {w0 W : World} (hgd : o.guard = none) (s x : Operand)
    (ho : o.op = .call { callee := .builtin .append, args := #[s, x], argTypes := #[22, 22] })
    (v : Value) (ys : List Nat) (hs : a.eval s = v) (hown : OwnB B W v ys) (A : Option Addr) (m c : Nat) (xs : List Nat) (hx : a.eval x = .slice A m c) (hr : Reads W A m xs) (hn : A = none → c = 0)
    (hB : B ≤ W.heap.size) (hb : Below B w0 W) (hl : ys.length + m ≤ 140737488355328)
    (h : ∀ v' w', OwnB B w' v' (ys ++ xs) → Below B w0 w' → W.heap.size ≤ w'.heap.size → wpList Tryd.prog ops Q rest (a.put o.dst v') w') : wpList Tryd.prog ops Q (o :: rest) a W := by
  obtain ⟨i0, hi, hzz⟩ := Option.map_eq_some_iff.1 info5
  simp only [Prod.mk.injEq] at hzz
  obtain ⟨hz0, hz1, hz2⟩ := hzz
  have hlx := hr.1
  have hbase : ∀ k, v.ownBlock = some k → B ≤ k := fun k hk => (World.ownsRow.lt hown k hk).1
  cases A with
  | none =>
    obtain rfl := hn rfl
    have hm : m = 0 := by
      rcases Nat.eq_zero_or_pos m with h0 | h0
      · exact h0
      · obtain ⟨b, off, e, _⟩ := hr.2.2.2 h0
        cases e
    subst hm
    obtain rfl : xs = [] := List.eq_nil_of_length_eq_zero hlx
    refine wpList_append_own_none hgd s x 22 ho B 5 i0 1 Tryd.underlying22 hi v ys.length (bytesL ys) hs hown hx ?_
    exact h v W (by rw [List.append_nil]; exact hown) hb (Nat.le_refl _)
  | some ad =>
    refine wpList_append_own W hgd s x 22 ho B 5 i0 (.int .u8 0) 1 1 Tryd.underlying22 hi hz0 hz1 hz2 rfl (by decide) v ys.length (bytesL ys) hs hown ad m c (bytesL xs) hx (by rw [bytesL_length, hlx, Nat.mul_one]) ?_ ?_ (by unfold maxLen; omega) (by omega) hB ?_
    · intro j u hu
      obtain ⟨hj, rfl⟩ := bytesL_at xs j u hu
      obtain ⟨b, off, e, hc⟩ := hr.2.2.2 (by omega)
      obtain rfl := Option.some.inj e
      have := hc j (by omega)
      have ha : (⟨b, off, none⟩ : Addr).add j = ⟨b, off + j, none⟩ := by unfold Addr.add; split <;> simp_all
      rw [ha]; exact this
    · intro u hu
      obtain ⟨n, _, rfl⟩ := List.mem_map.1 hu
      rfl
    · intro v' w' hown' hg _
      refine h v' w' ?_ (hb.grown hg hB hbase) hg.size
      unfold OwnB
      rw [bytesL_append, List.length_append, hlx]
      exact hown'
theorem OwnB.reads {B : Nat} {w : World} {v : Value} {xs : List Nat} (h : OwnB B w v xs) (hx : ∀ x ∈ xs, x < 256) : ∃ A c, v = .slice A xs.length c ∧ (A = none → c = 0) ∧ Reads w A xs.length xs := by
  obtain ⟨hl, hh⟩ := h
  rcases hh with ⟨rfl, h0⟩ | ⟨g, cap, cur, rfl, hb, hh, hle, hm, hs, ht⟩
  · exact ⟨Option.none, 0, by rw [h0], fun _ => rfl, rfl, hx, by omega, fun h => absurd h (by omega)⟩
  · refine ⟨_, _, rfl, (fun e => by cases e), rfl, hx, by unfold maxLen at hm; omega, fun _ => ⟨g, 0, rfl, fun i hi => ?_⟩⟩
    rw [Nat.zero_add, cell_of_row w g i _ _ _ hh]
    have h1 : (cur.toList.take (xs.length * 1))[i]? = some (.int .u8 ((xs.getD i 0 : Nat) : Int)) := by rw [ht]; simp [bytesL, hi]
    rw [List.getElem?_take_of_lt (by omega)] at h1
    simpa using h1
theorem Reads.take_ {w : World} {a : Option Addr} {len : Nat} {xs : List Nat} (h : Reads w a len xs) (n : Nat) (hn : n ≤ len) : Reads w a n (xs.take n) := by
  refine ⟨by rw [List.length_take, h.1]; omega, fun x hx => h.2.1 x (List.mem_of_mem_take hx), by have := h.2.2.1; omega, fun hp => ?_⟩
  obtain ⟨b, off, e, hc⟩ := h.2.2.2 (by omega)
  refine ⟨b, off, e, fun i hi => ?_⟩
  rw [hc i (by omega), List.getD_eq_getElem?_getD, List.getD_eq_getElem?_getD, List.getElem?_take_of_lt hi]
theorem OwnB.at_ {B : Nat} {w : World} {v : Value} {xs : List Nat} (h : OwnB B w v xs) (hp : 0 < xs.length) : ∃ g cap cur, v = .slice (some ⟨g, 0, none⟩) xs.length cap ∧ B ≤ g ∧ w.heap[g]? = some (.cells cur 5 (0, 0)) ∧ xs.length ≤ cap ∧ cap ≤ maxLen ∧ cur.size = cap ∧ cur.toList.take xs.length = bytesL xs := by
  obtain ⟨hl, hh⟩ := h
  rcases hh with ⟨rfl, h0⟩ | ⟨g, cap, cur, rfl, hb, hh, hle, hm, hs, ht⟩
  · omega
  · exact ⟨g, cap, cur, rfl, hb, hh, hle, hm, by omega, by rw [Nat.mul_one] at ht; exact ht⟩
theorem OwnB.below {B : Nat} {w w' : World} {v : Value} {xs : List Nat} (h : OwnB B w v xs) (hb : Below w.heap.size w w') : OwnB B w' v xs :=
  World.ownsRow.kept h (row := Option.none) ⟨hb.os, hb.tape, hb.output, hb.size, fun k hk _ => hb.block k hk⟩ (by cases v.ownBlock <;> simp)
theorem OwnB.alloc {B : Nat} {w : World} {v : Value} {xs : List Nat} (h : OwnB B w v xs) (o : Obj) : OwnB B (w.alloc o) v xs := World.ownsRow.alloc h o

/-- The four bytes of a sum, the highest first. -/
def be4 (n : Nat) : List Nat := [n / 16777216 % 256, n / 65536 % 256, n / 256 % 256, n % 256]
theorem be4_lt (n : Nat) : ∀ x ∈ be4 n, x < 256 := by simp [be4]; omega

set_option maxHeartbeats 400000 in
theorem seal_calls (w : World) (a : Option Addr) (len cap : Nat) (xs : List Nat) (hx : Reads w a len xs) (hn : a = none → cap = 0) (hlen : len ≤ 1000000000) (ht : Table w) :
    Calls Tryd.prog 12 #[.slice a len cap] w fun e w' => ∃ v, e = .returned v ∧ OwnB w.heap.size w' v (xs ++ be4 (sumOf xs)) ∧ Below w.heap.size w w' := by
  have HT := Lib.hid ht
  have HX := Lib.hid hx
  have HN := Lib.hid hn
  clear ht hx hn
  have hsum := sumOf_lt xs
  go_enter Tryd.func12, Tryd.ntmps12
  go_wp2_with fail
  refine (of_calls _ _ _ _ xs HX.out HT.out).mono ?_
  rintro e w1 ⟨rfl, rfl⟩
  generalize hs : sumOf xs = s at *
  have HS := Lib.hid hs
  clear hs
  go_wp2_with (first | (at_builtin; refine append_bytes rfl _ _ rfl (.slice none 0 0) [] rfl (ownB_nil _ _) a len cap xs rfl HX.out HN.out (Nat.le_refl _) (Below.refl _ _) (by simp; omega) ?_; intro v1 w1 hown hb hsz; have HO := Lib.hid hown; have HB := Lib.hid hb; clear hown hb) | (at_builtin; refine append_bytes rfl _ _ rfl v1 xs rfl (HO.out.alloc _) (some ⟨w1.heap.size, 0, none⟩) 4 4 (be4 s) rfl ?cr (fun e => by cases e) ?cB (HB.out.alloc HB.out.size _) ?cl ?_; rotate_right; intro v2 w2 hown2 hb2 hsz2; have HO2 := Lib.hid hown2; have HB2 := Lib.hid hb2; clear hown2 hb2))
  · go_ret
    rw [← HS.out] at HO2
    exact ⟨v2, rfl, HO2.out, HB2.out⟩
  case cr =>
    refine Reads.row (xs := be4 s) (heap_alloc_new _ _) ?_ (be4_lt s) (by show 4 ≤ _; omega)
    intro i hi
    match i, hi with
    | 0, _ => simp [be4]; omega
    | 1, _ => simp [be4]
    | 2, _ => simp [be4]
    | 3, _ => simp [be4]
  case cB => have := HB.out.size; simp; omega
  case cl => have := HX.out.1; omega
set_option maxHeartbeats 400000 in
theorem refseal_calls (w : World) (a : Option Addr) (len cap : Nat) (xs : List Nat) (hx : Reads w a len xs) (hn : a = none → cap = 0) (hlen : len ≤ 1000000000) :
    Calls Tryd.prog 13 #[.slice a len cap] w fun e w' => ∃ v, e = .returned v ∧ OwnB w.heap.size w' v (xs ++ be4 (sumOf xs)) ∧ Below w.heap.size w w' := by
  have HX := Lib.hid hx
  have HN := Lib.hid hn
  clear hx hn
  have hsum := sumOf_lt xs
  go_enter Tryd.func13, Tryd.ntmps13
  go_wp2_with fail
  refine (refsum_calls _ _ _ _ xs HX.out hlen).mono ?_
  rintro e w1 ⟨rfl, rfl⟩
  generalize hs : sumOf xs = s at *
  have HS := Lib.hid hs
  clear hs
  go_wp2_with (first | (at_builtin; refine append_bytes rfl _ _ rfl (.slice none 0 0) [] rfl (ownB_nil _ _) a len cap xs rfl HX.out HN.out (Nat.le_refl _) (Below.refl _ _) (by simp; omega) ?_; intro v1 w1 hown hb hsz; have HO := Lib.hid hown; have HB := Lib.hid hb; clear hown hb) | (at_builtin; refine append_bytes rfl _ _ rfl v1 xs rfl (HO.out.alloc _) (some ⟨w1.heap.size, 0, none⟩) 4 4 (be4 s) rfl ?cr (fun e => by cases e) ?cB (HB.out.alloc HB.out.size _) ?cl ?_; rotate_right; intro v2 w2 hown2 hb2 hsz2; have HO2 := Lib.hid hown2; have HB2 := Lib.hid hb2; clear hown2 hb2))
  · go_ret
    rw [← HS.out] at HO2
    exact ⟨v2, rfl, HO2.out, HB2.out⟩
  case cr =>
    refine Reads.row (xs := be4 s) (heap_alloc_new _ _) ?_ (be4_lt s) (by show 4 ≤ _; omega)
    intro i hi
    match i, hi with
    | 0, _ => simp [be4]; omega
    | 1, _ => simp [be4]
    | 2, _ => simp [be4]
    | 3, _ => simp [be4]
  case cB => have := HB.out.size; simp; omega
  case cl => have := HX.out.1; omega

set_option maxHeartbeats 400000 in
theorem open_calls (w : World) (a : Option Addr) (len cap : Nat) (xs : List Nat) (hx : Reads w a len xs) (hc : len ≤ cap) (hlen : len ≤ 1000000000) (ht : Table w) :
    Calls Tryd.prog 14 #[.slice a len cap] w fun e w' => (len < 4 ∧ e = .returned (.tuple #[.slice none 0 0, .int .i64 3]) ∧ w = w') ∨
      (4 ≤ len ∧ sumOf xs ≠ 0 ∧ e = .returned (.tuple #[.slice none 0 0, .int .i64 6]) ∧ w = w') ∨
      (4 ≤ len ∧ sumOf xs = 0 ∧ ∃ v, e = .returned (.tuple #[v, .int .i64 0]) ∧ OwnB w.heap.size w' v (xs.take (len - 4)) ∧ Below w.heap.size w w') := by
  have HT := Lib.hid ht
  have HX := Lib.hid hx
  clear ht hx
  by_cases h4 : len < 4
  · have h4' : ((len : Int) - 4 < 0) := by omega
    go_enter Tryd.func14, Tryd.ntmps14
    go_wp2
    go_ret2
    exact .inl ⟨h4, rfl, rfl⟩
  · have h4' : ¬ ((len : Int) - 4 < 0) := by omega
    obtain ⟨b, off, rfl, _⟩ := HX.out.2.2.2 (by omega)
    by_cases hs : sumOf xs = 0
    · go_enter Tryd.func14, Tryd.ntmps14
      go_wp2_with fail
      refine (of_calls _ _ _ _ xs HX.out HT.out).mono ?_
      rintro e w1 ⟨rfl, rfl⟩
      rw [hs]
      go_wp2_with (at_builtin; refine append_bytes rfl _ _ rfl (.slice none 0 0) [] rfl (ownB_nil _ _) (some ⟨b, off, none⟩) (len - 4) cap (xs.take (len - 4)) rfl (HX.out.take_ (len - 4) (by omega)) (fun e => by cases e) (Nat.le_refl _) (Below.refl _ _) (by simp; omega) ?_; intro v1 w1 hown hb hsz; have HO := Lib.hid hown; have HB := Lib.hid hb; clear hown hb)
      go_ret2
      exact .inr (.inr ⟨by omega, hs, v1, rfl, HO.out, HB.out⟩)
    · have hs' : (((sumOf xs : Nat) : Int) != 0) = true := by rw [bne_iff_ne]; omega
      go_enter Tryd.func14, Tryd.ntmps14
      go_wp2_with fail
      refine (of_calls _ _ _ _ xs HX.out HT.out).mono ?_
      rintro e w1 ⟨rfl, rfl⟩
      go_wp2
      go_ret2
      exact .inr (.inl ⟨by omega, hs, rfl, rfl⟩)
end Go.Proofs.YtfkagmngblkbbaaDoor

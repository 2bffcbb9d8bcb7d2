/-
  r05.statement (function 28): the calls. Printed by a small program of mine (tools/genS.py, t2.py).
-/
import Derived.Test.YtjgijbaboekghaaStmt
set_option linter.unusedSimpArgs false
set_option linter.unusedVariables false
namespace Go.Proofs.Ytjgijbaboekghaa
open Go.RowKit
def refCells (l : List (Int × Int)) : List Value := l.flatMap fun x => [.int .u8 x.1, .int .i64 x.2]
theorem refCells_length (l : List (Int × Int)) : (refCells l).length = l.length * 2 := by
  induction l with
  | nil => rfl
  | cons x t ih => simp only [refCells, List.flatMap_cons, List.length_append, List.length_cons, List.length_nil] at ih ⊢; omega
theorem refCells_snoc (l : List (Int × Int)) (x : Int × Int) : refCells (l ++ [x]) = refCells l ++ [.int .u8 x.1, .int .i64 x.2] := by simp [refCells]
theorem refCells_at (l : List (Int × Int)) (i : Nat) (hi : i < l.length) : (refCells l)[i * 2]? = some (.int .u8 (l.getD i (0, 0)).1) ∧ (refCells l)[i * 2 + 1]? = some (.int .i64 (l.getD i (0, 0)).2) := by
  induction l generalizing i with
  | nil => simp at hi
  | cons x t ih =>
    cases i with
    | zero => simp [refCells]
    | succ i =>
      have := ih i (by simpa using hi)
      have e : refCells (x :: t) = .int .u8 x.1 :: .int .i64 x.2 :: refCells t := rfl
      rw [e, show (i + 1) * 2 = i * 2 + 1 + 1 by omega]
      simpa using this
/-- References in a row of the call's own, whatever blocks below its base are taken away. -/
theorem ReadsRefs.own {w : World} {B n : Nat} {A : Option Addr} {cp : Nat} {l : List (Int × Int)} {bs : List Nat} (h : w.ownsRow B 43 2 (.slice A n cp) n (refCells l)) (hl : l.length = n) (hn : n ≤ 1000) (hbs : ∀ b ∈ bs, b < B) : ReadsRefs (sans w bs) A n l := by
  rcases h.2 with ⟨e, h0⟩ | ⟨g, cap, cur, e, hb, hh, h1, h2, h3, h4⟩
  · exact ⟨hl, by unfold maxLen; omega, fun hp => by omega⟩
  · injection e with e1 e2 e3
    subst e1
    refine ⟨hl, by unfold maxLen; omega, fun _ => ⟨g, 0, rfl, fun i hi => ?_⟩⟩
    have key : ∀ j v, j < n * 2 → (refCells l)[j]? = some v → (sans w bs).cell? ⟨g, 0 + j, none⟩ = some v := by
      intro j v hj hv
      refine Sub.sans ?_ (fun hm => by have := hbs _ hm; simp at this; omega)
      rw [(blk3 hh).1, Nat.zero_add]
      rw [← h4, List.getElem?_take_of_lt hj] at hv
      simpa using hv
    obtain ⟨k0, k1⟩ := refCells_at l i (by omega)
    exact ⟨key _ _ (by omega) k0, key _ _ (by omega) k1⟩
theorem u8wrap (x : Int) : IntKind.u8.wrap x = x % 256 := by
  have h : ∀ m : Int, (if (false && decide (m ≥ 2 ^ (8 - 1))) = true then m - 2 ^ 8 else m) = m := fun m => by simp
  show (if (false && decide (x % 2 ^ 8 ≥ 2 ^ (8 - 1))) = true then x % 2 ^ 8 - 2 ^ 8 else x % 2 ^ 8) = x % 256
  rw [h]; rfl
theorem u8sum (a c i : Nat) : IntKind.u8.wrap (IntKind.u8.wrap ((a : Int) + c) + IntKind.u8.wrap (i : Int)) = (((a + c + i) % 256 : Nat) : Int) := by
  rw [u8wrap, u8wrap, u8wrap]
  omega
theorem own_set7 {w : World} {base : Nat} {e : TypeId} {size n : Nat} {v : Value} {xs : List Value} (h : w.ownsRow base e size v n xs) {g : Nat} (hg : g < base) (v0 v1 v2 v3 v4 v5 v6 : Value) :
    (((((((w.setCell ⟨g, 0, none⟩ v0).setCell ⟨g, 1, none⟩ v1).setCell ⟨g, 2, none⟩ v2).setCell ⟨g, 3, none⟩ v3).setCell ⟨g, 4, none⟩ v4).setCell ⟨g, 5, none⟩ v5).setCell ⟨g, 6, none⟩ v6).ownsRow base e size v n xs := by
  have k : ∀ o, some (⟨g, o, none⟩ : Addr).block ≠ v.ownBlock := fun o e => by
    have : base ≤ g := (World.ownsRow.lt h _ e.symm).1
    omega
  exact own_setCell (own_setCell (own_setCell (own_setCell (own_setCell (own_setCell (own_setCell h (k 0) _) (k 1) _) (k 2) _) (k 3) _) (k 4) _) (k 5) _) (k 6) _
theorem info43 : (Try.prog.info? 43).map (fun i => (i.zero, i.size, i.bytes)) = some (some (.agg #[.int .u8 0, .int .i64 0]), 2, 16) := by kernel_rfl
set_option maxRecDepth 100000 in
set_option maxHeartbeats 4000000 in
theorem stmt_call_5_y (w : World) (s1 s4 : Value) (G gc L lc S sc F fc : Nat) (ga la fa sa : Option Addr) (f0 f1 f4 : Value) (params : Nat → Nat) (k a b c : Nat) (hL : 0 < L) (hL2 : L ≤ 1000) (hG : G ≤ 1000) (ha : a < 256) (hb : b < 256) (hcc : c < 256) (hk : ((k : Int) % 10) = 5) (hc : ((c : Int) % 3) = 0) (N : Nat) (hN : (c : Int) / 4 % 4 = N) (hN2 : N ≤ 100) (xs : St) (hst : xs = .mk 5 0 0 (varOf L G b).1 (varOf L G b).2 ((List.range N).map fun i => varOf L G ((a + c + i) % 256)) []) :
    Calls Try.prog 28 #[.agg #[s1, .slice ga G gc, .slice fa F fc, s4], .agg #[f0, f1, .slice la L lc, .slice sa S sc, f4], .agg #[.int .u8 k, .int .u8 a, .int .u8 b, .int .u8 c]] w (Stated w (xs)) := by
  have HST := Lib.hid hst
  clear hst
  go_enter Try.func28, Try.ntmps28
  go_wp2_with fail
  refine (variables_calls _ _ _ _ _ _ _ _ a _ _ _ _ _ _ hL hL2 hG ha).mono ?_
  rintro e w1 ⟨rfl, hb1⟩
  obtain ⟨q1, q2, q3, q4⟩ := four_blocks hb1
  have Q1 := Lib.hid q1
  have Q2 := Lib.hid q2
  have Q3 := Lib.hid q3
  have Q4 := Lib.hid q4
  have HB1 := Lib.hid (show Below w.heap.size w w1 from ((((Below.refl _ _).alloc (Nat.le_refl _) _).alloc (by simp) _).alloc (by simp; omega) _).alloc (by simp; omega) _ |>.trans (hb1.mono (by simp; omega)))
  obtain ⟨⟨Ak, Ai⟩, hA⟩ : ∃ A, A = varOf L G a := ⟨_, rfl⟩
  obtain ⟨⟨Bk, Bi⟩, hB⟩ : ∃ B, B = varOf L G b := ⟨_, rfl⟩
  rw [← hA]
  have HA := Lib.hid hA
  have HB := Lib.hid hB
  obtain ⟨a1, b1, z1⟩ := blk3 q1
  obtain ⟨a2, b2, z2⟩ := blk3 q2
  obtain ⟨a3, b3, z3⟩ := blk3 q3
  obtain ⟨a4, b4, z4⟩ := blk3 q4
  clear hA hB hb1 q1 q2 q3 q4
  go_wp2_with fail
  refine (variables_calls _ _ _ _ _ _ _ _ b _ _ _ _ _ _ hL hL2 hG hb).mono ?_
  rintro e w2 ⟨rfl, hb2⟩
  have hbl2 : Below w1.heap.size w1 w2 := ((Below.refl _ _).alloc (Nat.le_refl _) _).trans (hb2.mono (by simp))
  have r1 := blk_below Q1.out hbl2
  have r2 := blk_below Q2.out hbl2
  have r3 := blk_below Q3.out hbl2
  have r4 := blk_below Q4.out hbl2
  have r5 := blk_below (heap_alloc_new w1 _) hb2
  rw [← HB.out]
  have HB2 := Lib.hid (HB1.out.trans (hbl2.mono HB1.out.size))
  clear a1 a2 a3 a4 b1 b2 b3 b4 z1 z2 z3 z4 hb2 hbl2
  obtain ⟨a1, b1, z1⟩ := blk3 r1
  obtain ⟨a2, b2, z2⟩ := blk3 r2
  obtain ⟨a3, b3, z3⟩ := blk3 r3
  obtain ⟨a4, b4, z4⟩ := blk3 r4
  obtain ⟨a5, b5, z5⟩ := blk3 r5
  have R1 := Lib.hid r1
  have R2 := Lib.hid r2
  have R3 := Lib.hid r3
  have R4 := Lib.hid r4
  clear r1 r2 r3 r4 r5
  have HZ2 := Lib.hid (show w1.heap.size ≤ w2.heap.size by omega)
  go_wp2
  rw [hN]
  have HN := Lib.hid hN
  clear hN hk hc
  go_loopw [12] (fun iv wr => ∃ (i : Nat) (A : Option Addr) (cp : Nat), i ≤ N ∧ iv = .int .i64 i ∧ Hid (Below w.heap.size w wr) ∧ Hid (wr.heap[w.heap.size]? = some (.cells #[s1, .slice ga G gc, .slice fa F fc, s4] 32)) ∧ Hid (wr.heap[w.heap.size + 1]? = some (.cells #[f0, f1, .slice la L lc, .slice sa S sc, f4] 35)) ∧
      Hid (wr.heap[w.heap.size + 1 + 1]? = some (.cells #[.int .u8 k, .int .u8 a, .int .u8 b, .int .u8 c] 73)) ∧ Hid (wr.heap[w.heap.size + 1 + 1 + 1]? = some (.cells #[.int .u8 0, .int .u8 0, .int .i64 0, .int .u8 0, .int .i64 0, .slice none 0 0, .slice none 0 0] 46)) ∧
      Hid (wr.heap[w2.heap.size + 1]? = some (.cells #[.int .u8 5, .int .u8 0, .int .i64 0, .int .u8 Bk, .int .i64 Bi, .slice A i cp, .slice none 0 0] 46)) ∧ Hid (wr.ownsRow (w2.heap.size + 1 + 1) 43 2 (.slice A i cp) i (refCells ((List.range i).map fun i => varOf L G ((a + c + i) % 256)))) ∧ Hid (w2.heap.size + 1 < wr.heap.size)) (fun iv _ => N - (intOf iv).toNat)
  case atStart =>
    have h9 := heap_alloc_new (w2.alloc (.cells #[.int .u8 Bk, .int .i64 Bi] 43)) (.cells #[.int .u8 5, .int .u8 0, .int .i64 0, .int .u8 Bk, .int .i64 Bi, .slice none 0 0, .slice none 0 0] 46)
    rw [show (w2.alloc (.cells #[.int .u8 Bk, .int .i64 Bi] 43)).heap.size = w2.heap.size + 1 by simp] at h9
    exact ⟨0, none, 0, Nat.zero_le _, rfl, (HB2.out.alloc HB2.out.size _).alloc (by have := HB2.out.size; simp; omega) _, blk_alloc (blk_alloc R1.out _) _, blk_alloc (blk_alloc R2.out _) _, blk_alloc (blk_alloc R3.out _) _, blk_alloc (blk_alloc R4.out _) _, h9, World.ownsRow_nil _ _ _ _, by show _ < _; simp⟩
  case round =>
    clear a1 a2 a3 a4 a5 b1 b2 b3 b4 b5 z1 z2 z3 z4 z5 R1 R2 R3 R4
    obtain ⟨i, A, cp, hi, rfl, HBr, R1, R2, R3, R4, R5, HO, HZ⟩ := hrel
    obtain ⟨a1, b1, z1⟩ := blk3 R1.out
    obtain ⟨a2, b2, z2⟩ := blk3 R2.out
    obtain ⟨a3, b3, z3⟩ := blk3 R3.out
    obtain ⟨a4, b4, z4⟩ := blk3 R4.out
    obtain ⟨a5, b5, z5⟩ := blk3 R5.out
    by_cases hlt : i < N
    · have hw0 : 0 ≤ (i : Int) := Int.natCast_nonneg _
      go_wp2
      refine wp_region_HL (S := (fun w' => (∀ o, w'.cell? ⟨w.heap.size, o, none⟩ = (#[s1, .slice ga G gc, .slice fa F fc, s4] : Array Value)[o]?) ∧ (∀ o, w'.cell? ⟨w.heap.size + 1, o, none⟩ = (#[f0, f1, .slice la L lc, .slice sa S sc, f4] : Array Value)[o]?) ∧ (∀ o, w'.cell? ⟨w.heap.size + 1 + 1, o, none⟩ = (#[.int .u8 k, .int .u8 a, .int .u8 b, .int .u8 c] : Array Value)[o]?) ∧ (∀ o, w'.cell? ⟨w2.heap.size + 1, o, none⟩ = (#[.int .u8 5, .int .u8 0, .int .i64 0, .int .u8 Bk, .int .i64 Bi, .slice A i cp, .slice none 0 0] : Array Value)[o]?))) 15 (by kernel_rfl) (by kernel_rfl) (by kernel_rfl) (by kernel_rfl) (by decide) ⟨a1, a2, a3, a5⟩ (fun hHeld => ?_)
      refine HL.take_ (i := 0) (oi := { dst := some 111, op := .fieldAddr 46 (.tmp 10) 3, type := 0, pos := "ref.go:336", after := #[], guard := none }) (v := ?_) rfl (by decide) (by kernel_rfl) (by kernel_rfl) (fun _ _ _ h => h) (Or.inl ⟨by rfl, ?_⟩) (by assumption) ?_
      rotate_left
      · intro w hSw
        (try dsimp only at hSw)
        obtain ⟨h1, h2, h3, h4⟩ := hSw; (go_simp; try (with_reducible rfl))
      try simp only [Act.put, List.setIfInBounds_toArray, List.set_cons_zero, List.set_cons_succ]
      refine HL.take_ (i := 1) (oi := { dst := some 112, op := .load 44 (.tmp 111), type := 44, pos := "ref.go:336", after := #[{ on := 0, ground := .data }], guard := none }) (v := ?_) rfl (by decide) (by kernel_rfl) (by kernel_rfl) (fun _ _ _ h => h) (Or.inl ⟨by rfl, ?_⟩) (by assumption) ?_
      rotate_left
      · intro w hSw
        (try dsimp only at hSw)
        obtain ⟨h1, h2, h3, h4⟩ := hSw; (go_simp; try (with_reducible rfl))
      try simp only [Act.put, List.setIfInBounds_toArray, List.set_cons_zero, List.set_cons_succ]
      refine HL.take_ (i := 2) (oi := { dst := some 113, op := .load 32 (.tmp 3), type := 32, pos := "ref.go:336", after := #[], guard := none }) (v := ?_) rfl (by decide) (by kernel_rfl) (by kernel_rfl) (fun _ _ _ h => h) (Or.inl ⟨by rfl, ?_⟩) (by assumption) ?_
      rotate_left
      · intro w hSw
        (try dsimp only at hSw)
        obtain ⟨h1, h2, h3, h4⟩ := hSw; (go_simp; try (with_reducible rfl))
      try simp only [Act.put, List.setIfInBounds_toArray, List.set_cons_zero, List.set_cons_succ]
      refine HL.take_ (i := 3) (oi := { dst := some 114, op := .load 35 (.tmp 4), type := 35, pos := "ref.go:336", after := #[], guard := none }) (v := ?_) rfl (by decide) (by kernel_rfl) (by kernel_rfl) (fun _ _ _ h => h) (Or.inl ⟨by rfl, ?_⟩) (by assumption) ?_
      rotate_left
      · intro w hSw
        (try dsimp only at hSw)
        obtain ⟨h1, h2, h3, h4⟩ := hSw; (go_simp; try (with_reducible rfl))
      try simp only [Act.put, List.setIfInBounds_toArray, List.set_cons_zero, List.set_cons_succ]
      refine HL.take_ (i := 4) (oi := { dst := some 115, op := .fieldAddr 73 (.tmp 5) 1, type := 0, pos := "ref.go:336", after := #[], guard := none }) (v := ?_) rfl (by decide) (by kernel_rfl) (by kernel_rfl) (fun _ _ _ h => h) (Or.inl ⟨by rfl, ?_⟩) (by assumption) ?_
      rotate_left
      · intro w hSw
        (try dsimp only at hSw)
        obtain ⟨h1, h2, h3, h4⟩ := hSw; (go_simp; try (with_reducible rfl))
      try simp only [Act.put, List.setIfInBounds_toArray, List.set_cons_zero, List.set_cons_succ]
      refine HL.take_ (i := 5) (oi := { dst := some 116, op := .load 5 (.tmp 115), type := 5, pos := "ref.go:336", after := #[{ on := 4, ground := .data }], guard := none }) (v := ?_) rfl (by decide) (by kernel_rfl) (by kernel_rfl) (fun _ _ _ h => h) (Or.inl ⟨by rfl, ?_⟩) (by assumption) ?_
      rotate_left
      · intro w hSw
        (try dsimp only at hSw)
        obtain ⟨h1, h2, h3, h4⟩ := hSw; (go_simp; try (with_reducible rfl))
      try simp only [Act.put, List.setIfInBounds_toArray, List.set_cons_zero, List.set_cons_succ]
      refine HL.take_ (i := 6) (oi := { dst := some 117, op := .fieldAddr 73 (.tmp 5) 3, type := 0, pos := "ref.go:336", after := #[], guard := none }) (v := ?_) rfl (by decide) (by kernel_rfl) (by kernel_rfl) (fun _ _ _ h => h) (Or.inl ⟨by rfl, ?_⟩) (by assumption) ?_
      rotate_left
      · intro w hSw
        (try dsimp only at hSw)
        obtain ⟨h1, h2, h3, h4⟩ := hSw; (go_simp; try (with_reducible rfl))
      try simp only [Act.put, List.setIfInBounds_toArray, List.set_cons_zero, List.set_cons_succ]
      refine HL.take_ (i := 7) (oi := { dst := some 118, op := .load 5 (.tmp 117), type := 5, pos := "ref.go:336", after := #[{ on := 6, ground := .data }], guard := none }) (v := ?_) rfl (by decide) (by kernel_rfl) (by kernel_rfl) (fun _ _ _ h => h) (Or.inl ⟨by rfl, ?_⟩) (by assumption) ?_
      rotate_left
      · intro w hSw
        (try dsimp only at hSw)
        obtain ⟨h1, h2, h3, h4⟩ := hSw; (go_simp; try (with_reducible rfl))
      try simp only [Act.put, List.setIfInBounds_toArray, List.set_cons_zero, List.set_cons_succ]
      refine HL.take_ (i := 8) (oi := { dst := some 119, op := .binOp .add 5 (.tmp 116) (.tmp 118) 5, type := 5, pos := "ref.go:336", after := #[{ on := 5, ground := .data }, { on := 7, ground := .data }], guard := none }) (v := ?_) rfl (by decide) (by kernel_rfl) (by kernel_rfl) (fun _ _ _ h => h) (Or.inl ⟨by rfl, ?_⟩) (by assumption) ?_
      rotate_left
      · intro w hSw
        (try dsimp only at hSw)
        obtain ⟨h1, h2, h3, h4⟩ := hSw; (go_simp; try (with_reducible rfl))
      try simp only [Act.put, List.setIfInBounds_toArray, List.set_cons_zero, List.set_cons_succ]
      refine HL.take_ (i := 9) (oi := { dst := some 120, op := .move (.tmp 12), type := 3, pos := "ref.go:336", after := #[], guard := none }) (v := ?_) rfl (by decide) (by kernel_rfl) (by kernel_rfl) (fun _ _ _ h => h) (Or.inl ⟨by rfl, ?_⟩) (by assumption) ?_
      rotate_left
      · intro w hSw
        (try dsimp only at hSw)
        obtain ⟨h1, h2, h3, h4⟩ := hSw; (go_simp; try (with_reducible rfl))
      try simp only [Act.put, List.setIfInBounds_toArray, List.set_cons_zero, List.set_cons_succ]
      refine HL.take_ (i := 10) (oi := { dst := some 121, op := .convert 3 5 (.tmp 120), type := 5, pos := "ref.go:336", after := #[{ on := 9, ground := .data }], guard := none }) (v := ?_) rfl (by decide) (by kernel_rfl) (by kernel_rfl) (fun _ _ _ h => h) (Or.inl ⟨by rfl, ?_⟩) (by assumption) ?_
      rotate_left
      · intro w hSw
        (try dsimp only at hSw)
        obtain ⟨h1, h2, h3, h4⟩ := hSw; (go_simp; try (with_reducible rfl))
      try simp only [Act.put, List.setIfInBounds_toArray, List.set_cons_zero, List.set_cons_succ]
      refine HL.take_ (i := 11) (oi := { dst := some 122, op := .binOp .add 5 (.tmp 119) (.tmp 121) 5, type := 5, pos := "ref.go:336", after := #[{ on := 8, ground := .data }, { on := 10, ground := .data }], guard := none }) (v := ?_) rfl (by decide) (by kernel_rfl) (by kernel_rfl) (fun _ _ _ h => h) (Or.inl ⟨by rfl, ?_⟩) (by assumption) ?_
      rotate_left
      · intro w hSw
        (try dsimp only at hSw)
        obtain ⟨h1, h2, h3, h4⟩ := hSw; (go_simp; try (with_reducible rfl))
      try simp only [Act.put, List.setIfInBounds_toArray, List.set_cons_zero, List.set_cons_succ]
      refine HL.step_ (i := 12) (o := { dst := some 123, op := .call { callee := .value (.func 58), args := #[.tmp 113, .tmp 114, .tmp 122], argTypes := #[32, 35, 5] }, type := 43, pos := "ref.go:336", after := #[{ on := 2, ground := .data }, { on := 3, ground := .data }, { on := 11, ground := .data }], guard := none }) rfl (by decide) (by kernel_rfl) (fun K hK => ?_)
      go_simp
      rw [u8sum a c i]
      refine (variables_calls _ _ _ _ _ _ _ _ ((a + c + i) % 256) _ _ _ _ _ _ hL hL2 hG (Nat.mod_lt _ (by decide))).mono ?_
      rintro e w3 ⟨rfl, hb3⟩
      obtain ⟨⟨Vk, Vi⟩, hV⟩ : ∃ V, V = varOf L G ((a + c + i) % 256) := ⟨_, rfl⟩
      rw [← hV]
      have HV := Lib.hid hV
      have hb4 : Below wr.heap.size wr w3 := ⟨hb3.os, hb3.tape, hb3.output, hb3.size, hb3.block⟩
      have S1 := Lib.hid (blk_below R1.out hb4)
      have S2 := Lib.hid (blk_below R2.out hb4)
      have S3 := Lib.hid (blk_below R3.out hb4)
      have S4 := Lib.hid (blk_below R4.out hb4)
      have S5 := Lib.hid (blk_below R5.out hb4)
      have HO3 := Lib.hid (own_below HO.out hb4)
      have HB3 := Lib.hid (HBr.out.trans (hb4.mono HBr.out.size))
      have hz3 : w2.heap.size + 1 < w3.heap.size := Nat.lt_of_lt_of_le HZ.out hb4.size
      clear hV hb3 hb4 a1 a2 a3 a4 a5 b1 b2 b3 b4 b5 z1 z2 z3 z4 z5
      refine hK.out _ _ ⟨(blk3 S1.out).1, (blk3 S2.out).1, (blk3 S3.out).1, (blk3 S5.out).1⟩ (fun hHeld => ?_)
      clear hK K
      refine HL.step_ (i := 13) (o := { dst := some 124, op := .buildSlice 44 1 #[(0, .tmp 123)], type := 44, pos := "ref.go:336", after := #[{ on := 12, ground := .data }], guard := none }) rfl (by decide) (by kernel_rfl) (fun K hK => ?_)
      go_simp
      refine hK.out _ _ ⟨(blk3 (blk_alloc S1.out _)).1, (blk3 (blk_alloc S2.out _)).1, (blk3 (blk_alloc S3.out _)).1, (blk3 (blk_alloc S5.out _)).1⟩ (fun hHeld => ?_)
      clear hK K
      try simp only [Act.put, List.setIfInBounds_toArray, List.set_cons_zero, List.set_cons_succ]
      refine HL.step_ (i := 14) (o := { dst := some 125, op := .call { callee := .builtin .append, args := #[.tmp 112, .tmp 124], argTypes := #[44, 44] }, type := 44, pos := "ref.go:336", after := #[{ on := 1, ground := .data }, { on := 13, ground := .data }, { on := 12, ground := .chain }], guard := none }) rfl (by decide) (by kernel_rfl) (fun K hK => ?_)
      rw [if_pos (by rfl)]
      refine append_step (B := w2.heap.size + 1 + 1) (w0 := w3.alloc (.cells #[.int .u8 Vk, .int .i64 Vi] 43)) _ _ 44 43 (.agg #[.int .u8 0, .int .i64 0]) 2 16 rfl Try.underlying44 info43 rfl (by decide) (.slice A i cp) i _ rfl (own_below HO3.out ((Below.refl _ _).alloc (Nat.le_refl _) _)) ⟨w3.heap.size, 0, none⟩ 1 1 [.int .u8 Vk, .int .i64 Vi] rfl rfl (new_cells _ _ _ _) ?_ ?_ (Below.refl _ _) (by omega) (by omega) ?_
      · intro u hu
        rcases List.mem_cons.1 hu with rfl | hu
        · rfl
        · obtain rfl : u = .int .i64 Vi := by simpa using hu
          rfl
      · simp
        omega
      intro v' w4 hown hbel _
      obtain ⟨A', cp', rfl, _, _⟩ := own_shape hown
      have T1 := Lib.hid ((hbel.block _ (by have := HB2.out.size; omega)).trans (blk_alloc S1.out _))
      have T2 := Lib.hid ((hbel.block _ (by have := blk_lt Q2.out; have := HZ2.out; omega)).trans (blk_alloc S2.out _))
      have T3 := Lib.hid ((hbel.block _ (by have := blk_lt Q3.out; have := HZ2.out; omega)).trans (blk_alloc S3.out _))
      have T4 := Lib.hid ((hbel.block _ (by have := blk_lt Q4.out; have := HZ2.out; omega)).trans (blk_alloc S4.out _))
      have T5 := Lib.hid ((hbel.block _ (by omega)).trans (blk_alloc S5.out _))
      obtain ⟨a5, b5, z5⟩ := blk3 T5.out
      have HO4 := Lib.hid hown
      have HB4 := Lib.hid (show Below w.heap.size w w4 from (HB3.out.alloc HB3.out.size _).trans (hbel.mono (by have := HB2.out.size; omega)))
      have hz4 : w2.heap.size + 1 < w4.heap.size := z5
      clear hown hbel
      refine hK.out _ _ ⟨(blk3 T1.out).1, (blk3 T2.out).1, (blk3 T3.out).1, (blk3 T5.out).1⟩ (fun hHeld => ?_)
      clear hK K hHeld
      try simp only [Act.put, List.setIfInBounds_toArray, List.set_cons_zero, List.set_cons_succ]
      refine HL.done_ (by kernel_rfl) ?_
      simp only [List.drop_succ_cons, List.drop_zero]
      go_wp2
      refine ⟨⟨i + 1, A', cp', by omega, by go_num, ?_, blk_far T1.out (p := ⟨w2.heap.size + 1, 5, none⟩) (by have := HB2.out.size; show w.heap.size ≠ w2.heap.size + 1; omega) _, blk_far T2.out (p := ⟨w2.heap.size + 1, 5, none⟩) (by have := blk_lt Q2.out; have := HZ2.out; show w.heap.size + 1 ≠ w2.heap.size + 1; omega) _, blk_far T3.out (p := ⟨w2.heap.size + 1, 5, none⟩) (by have := blk_lt Q3.out; have := HZ2.out; show w.heap.size + 1 + 1 ≠ w2.heap.size + 1; omega) _, blk_far T4.out (p := ⟨w2.heap.size + 1, 5, none⟩) (by have := blk_lt Q4.out; have := HZ2.out; show w.heap.size + 1 + 1 + 1 ≠ w2.heap.size + 1; omega) _, ?_, ?_, ?_⟩, by simp [intOf]; omega⟩
      · exact HB4.out.setCell (p := ⟨w2.heap.size + 1, 5, none⟩) (by have := HB2.out.size; show w.heap.size ≤ w2.heap.size + 1; omega) _
      · exact blk_set T5.out 5 _
      · have h1 := own_setCell HO4.out (p := ⟨w2.heap.size + 1, 5, none⟩) (fun e => by have : w2.heap.size + 1 + 1 ≤ w2.heap.size + 1 := (World.ownsRow.lt HO4.out _ e.symm).1; omega) (.slice A' (i + 1) cp')
        rw [List.range_succ, List.map_append, List.map_cons, List.map_nil, refCells_snoc, ← HV.out]
        exact h1
      · show _ < _
        simp
        omega
    · obtain rfl : i = N := by omega
      go_wp2
      refine bodyPost_ret (v := .agg #[.int .u8 5, .int .u8 0, .int .i64 0, .int .u8 Bk, .int .i64 Bi, .slice A i cp, .slice none 0 0]) (by rw [results_cell rfl]; go_simp) rfl ?_
      refine ⟨_, rfl, fun bs hbs => ?_, ?_⟩
      · rw [HST.out, ← HB.out]
        refine (cells7_def _ _ _ _ _ _ _ _ _).2 ⟨A, i, cp, none, 0, 0, rfl, ?_, readsBody_nil _ none⟩
        refine ReadsRefs.own (B := w2.heap.size + 1 + 1) (cp := cp) ?_ (by rw [List.length_map, List.length_range]) (by omega) (fun b hb => by have := hbs b hb; have := HB2.out.size; omega)
        exact own_set7 HO.out (by have := blk_lt Q4.out; have := HZ2.out; omega) _ _ _ _ _ _ _
      · exact below_set7 HBr.out (by omega) _ _ _ _ _ _ _
set_option maxRecDepth 100000 in
set_option maxHeartbeats 4000000 in
theorem stmt_call_5_n (w : World) (s1 s4 : Value) (G gc L lc S sc F fc : Nat) (ga la fa sa : Option Addr) (f0 f1 f4 : Value) (params : Nat → Nat) (k a b c : Nat) (hL : 0 < L) (hL2 : L ≤ 1000) (hG : G ≤ 1000) (ha : a < 256) (hb : b < 256) (hcc : c < 256) (hk : ((k : Int) % 10) = 5) (hc : ((c : Int) % 3 == 0) = false) (N : Nat) (hN : (c : Int) / 4 % 4 = N) (hN2 : N ≤ 100) (xs : St) (hst : xs = .mk 5 (varOf L G a).1 (varOf L G a).2 (varOf L G b).1 (varOf L G b).2 ((List.range N).map fun i => varOf L G ((a + c + i) % 256)) []) :
    Calls Try.prog 28 #[.agg #[s1, .slice ga G gc, .slice fa F fc, s4], .agg #[f0, f1, .slice la L lc, .slice sa S sc, f4], .agg #[.int .u8 k, .int .u8 a, .int .u8 b, .int .u8 c]] w (Stated w (xs)) := by
  have HST := Lib.hid hst
  clear hst
  go_enter Try.func28, Try.ntmps28
  go_wp2_with fail
  refine (variables_calls _ _ _ _ _ _ _ _ a _ _ _ _ _ _ hL hL2 hG ha).mono ?_
  rintro e w1 ⟨rfl, hb1⟩
  obtain ⟨q1, q2, q3, q4⟩ := four_blocks hb1
  have Q1 := Lib.hid q1
  have Q2 := Lib.hid q2
  have Q3 := Lib.hid q3
  have Q4 := Lib.hid q4
  have HB1 := Lib.hid (show Below w.heap.size w w1 from ((((Below.refl _ _).alloc (Nat.le_refl _) _).alloc (by simp) _).alloc (by simp; omega) _).alloc (by simp; omega) _ |>.trans (hb1.mono (by simp; omega)))
  obtain ⟨⟨Ak, Ai⟩, hA⟩ : ∃ A, A = varOf L G a := ⟨_, rfl⟩
  obtain ⟨⟨Bk, Bi⟩, hB⟩ : ∃ B, B = varOf L G b := ⟨_, rfl⟩
  rw [← hA]
  have HA := Lib.hid hA
  have HB := Lib.hid hB
  obtain ⟨a1, b1, z1⟩ := blk3 q1
  obtain ⟨a2, b2, z2⟩ := blk3 q2
  obtain ⟨a3, b3, z3⟩ := blk3 q3
  obtain ⟨a4, b4, z4⟩ := blk3 q4
  clear hA hB hb1 q1 q2 q3 q4
  go_wp2_with fail
  refine (variables_calls _ _ _ _ _ _ _ _ b _ _ _ _ _ _ hL hL2 hG hb).mono ?_
  rintro e w2 ⟨rfl, hb2⟩
  have hbl2 : Below w1.heap.size w1 w2 := ((Below.refl _ _).alloc (Nat.le_refl _) _).trans (hb2.mono (by simp))
  have r1 := blk_below Q1.out hbl2
  have r2 := blk_below Q2.out hbl2
  have r3 := blk_below Q3.out hbl2
  have r4 := blk_below Q4.out hbl2
  have r5 := blk_below (heap_alloc_new w1 _) hb2
  rw [← HB.out]
  have HB2 := Lib.hid (HB1.out.trans (hbl2.mono HB1.out.size))
  clear a1 a2 a3 a4 b1 b2 b3 b4 z1 z2 z3 z4 hb2 hbl2
  obtain ⟨a1, b1, z1⟩ := blk3 r1
  obtain ⟨a2, b2, z2⟩ := blk3 r2
  obtain ⟨a3, b3, z3⟩ := blk3 r3
  obtain ⟨a4, b4, z4⟩ := blk3 r4
  obtain ⟨a5, b5, z5⟩ := blk3 r5
  have R1 := Lib.hid r1
  have R2 := Lib.hid r2
  have R3 := Lib.hid r3
  have R4 := Lib.hid r4
  clear r1 r2 r3 r4 r5
  have HZ2 := Lib.hid (show w1.heap.size ≤ w2.heap.size by omega)
  go_wp2
  rw [hN]
  have HN := Lib.hid hN
  clear hN hk hc
  go_loopw [12] (fun iv wr => ∃ (i : Nat) (A : Option Addr) (cp : Nat), i ≤ N ∧ iv = .int .i64 i ∧ Hid (Below w.heap.size w wr) ∧ Hid (wr.heap[w.heap.size]? = some (.cells #[s1, .slice ga G gc, .slice fa F fc, s4] 32)) ∧ Hid (wr.heap[w.heap.size + 1]? = some (.cells #[f0, f1, .slice la L lc, .slice sa S sc, f4] 35)) ∧
      Hid (wr.heap[w.heap.size + 1 + 1]? = some (.cells #[.int .u8 k, .int .u8 a, .int .u8 b, .int .u8 c] 73)) ∧ Hid (wr.heap[w.heap.size + 1 + 1 + 1]? = some (.cells #[.int .u8 0, .int .u8 0, .int .i64 0, .int .u8 0, .int .i64 0, .slice none 0 0, .slice none 0 0] 46)) ∧
      Hid (wr.heap[w2.heap.size + 1]? = some (.cells #[.int .u8 5, .int .u8 Ak, .int .i64 Ai, .int .u8 Bk, .int .i64 Bi, .slice A i cp, .slice none 0 0] 46)) ∧ Hid (wr.ownsRow (w2.heap.size + 1 + 1) 43 2 (.slice A i cp) i (refCells ((List.range i).map fun i => varOf L G ((a + c + i) % 256)))) ∧ Hid (w2.heap.size + 1 < wr.heap.size)) (fun iv _ => N - (intOf iv).toNat)
  case atStart =>
    have h9 := heap_alloc_new (w2.alloc (.cells #[.int .u8 Bk, .int .i64 Bi] 43)) (.cells #[.int .u8 5, .int .u8 Ak, .int .i64 Ai, .int .u8 Bk, .int .i64 Bi, .slice none 0 0, .slice none 0 0] 46)
    rw [show (w2.alloc (.cells #[.int .u8 Bk, .int .i64 Bi] 43)).heap.size = w2.heap.size + 1 by simp] at h9
    exact ⟨0, none, 0, Nat.zero_le _, rfl, (HB2.out.alloc HB2.out.size _).alloc (by have := HB2.out.size; simp; omega) _, blk_alloc (blk_alloc R1.out _) _, blk_alloc (blk_alloc R2.out _) _, blk_alloc (blk_alloc R3.out _) _, blk_alloc (blk_alloc R4.out _) _, h9, World.ownsRow_nil _ _ _ _, by show _ < _; simp⟩
  case round =>
    clear a1 a2 a3 a4 a5 b1 b2 b3 b4 b5 z1 z2 z3 z4 z5 R1 R2 R3 R4
    obtain ⟨i, A, cp, hi, rfl, HBr, R1, R2, R3, R4, R5, HO, HZ⟩ := hrel
    obtain ⟨a1, b1, z1⟩ := blk3 R1.out
    obtain ⟨a2, b2, z2⟩ := blk3 R2.out
    obtain ⟨a3, b3, z3⟩ := blk3 R3.out
    obtain ⟨a4, b4, z4⟩ := blk3 R4.out
    obtain ⟨a5, b5, z5⟩ := blk3 R5.out
    by_cases hlt : i < N
    · have hw0 : 0 ≤ (i : Int) := Int.natCast_nonneg _
      go_wp2
      refine wp_region_HL (S := (fun w' => (∀ o, w'.cell? ⟨w.heap.size, o, none⟩ = (#[s1, .slice ga G gc, .slice fa F fc, s4] : Array Value)[o]?) ∧ (∀ o, w'.cell? ⟨w.heap.size + 1, o, none⟩ = (#[f0, f1, .slice la L lc, .slice sa S sc, f4] : Array Value)[o]?) ∧ (∀ o, w'.cell? ⟨w.heap.size + 1 + 1, o, none⟩ = (#[.int .u8 k, .int .u8 a, .int .u8 b, .int .u8 c] : Array Value)[o]?) ∧ (∀ o, w'.cell? ⟨w2.heap.size + 1, o, none⟩ = (#[.int .u8 5, .int .u8 Ak, .int .i64 Ai, .int .u8 Bk, .int .i64 Bi, .slice A i cp, .slice none 0 0] : Array Value)[o]?))) 15 (by kernel_rfl) (by kernel_rfl) (by kernel_rfl) (by kernel_rfl) (by decide) ⟨a1, a2, a3, a5⟩ (fun hHeld => ?_)
      refine HL.take_ (i := 0) (oi := { dst := some 111, op := .fieldAddr 46 (.tmp 10) 3, type := 0, pos := "ref.go:336", after := #[], guard := none }) (v := ?_) rfl (by decide) (by kernel_rfl) (by kernel_rfl) (fun _ _ _ h => h) (Or.inl ⟨by rfl, ?_⟩) (by assumption) ?_
      rotate_left
      · intro w hSw
        (try dsimp only at hSw)
        obtain ⟨h1, h2, h3, h4⟩ := hSw; (go_simp; try (with_reducible rfl))
      try simp only [Act.put, List.setIfInBounds_toArray, List.set_cons_zero, List.set_cons_succ]
      refine HL.take_ (i := 1) (oi := { dst := some 112, op := .load 44 (.tmp 111), type := 44, pos := "ref.go:336", after := #[{ on := 0, ground := .data }], guard := none }) (v := ?_) rfl (by decide) (by kernel_rfl) (by kernel_rfl) (fun _ _ _ h => h) (Or.inl ⟨by rfl, ?_⟩) (by assumption) ?_
      rotate_left
      · intro w hSw
        (try dsimp only at hSw)
        obtain ⟨h1, h2, h3, h4⟩ := hSw; (go_simp; try (with_reducible rfl))
      try simp only [Act.put, List.setIfInBounds_toArray, List.set_cons_zero, List.set_cons_succ]
      refine HL.take_ (i := 2) (oi := { dst := some 113, op := .load 32 (.tmp 3), type := 32, pos := "ref.go:336", after := #[], guard := none }) (v := ?_) rfl (by decide) (by kernel_rfl) (by kernel_rfl) (fun _ _ _ h => h) (Or.inl ⟨by rfl, ?_⟩) (by assumption) ?_
      rotate_left
      · intro w hSw
        (try dsimp only at hSw)
        obtain ⟨h1, h2, h3, h4⟩ := hSw; (go_simp; try (with_reducible rfl))
      try simp only [Act.put, List.setIfInBounds_toArray, List.set_cons_zero, List.set_cons_succ]
      refine HL.take_ (i := 3) (oi := { dst := some 114, op := .load 35 (.tmp 4), type := 35, pos := "ref.go:336", after := #[], guard := none }) (v := ?_) rfl (by decide) (by kernel_rfl) (by kernel_rfl) (fun _ _ _ h => h) (Or.inl ⟨by rfl, ?_⟩) (by assumption) ?_
      rotate_left
      · intro w hSw
        (try dsimp only at hSw)
        obtain ⟨h1, h2, h3, h4⟩ := hSw; (go_simp; try (with_reducible rfl))
      try simp only [Act.put, List.setIfInBounds_toArray, List.set_cons_zero, List.set_cons_succ]
      refine HL.take_ (i := 4) (oi := { dst := some 115, op := .fieldAddr 73 (.tmp 5) 1, type := 0, pos := "ref.go:336", after := #[], guard := none }) (v := ?_) rfl (by decide) (by kernel_rfl) (by kernel_rfl) (fun _ _ _ h => h) (Or.inl ⟨by rfl, ?_⟩) (by assumption) ?_
      rotate_left
      · intro w hSw
        (try dsimp only at hSw)
        obtain ⟨h1, h2, h3, h4⟩ := hSw; (go_simp; try (with_reducible rfl))
      try simp only [Act.put, List.setIfInBounds_toArray, List.set_cons_zero, List.set_cons_succ]
      refine HL.take_ (i := 5) (oi := { dst := some 116, op := .load 5 (.tmp 115), type := 5, pos := "ref.go:336", after := #[{ on := 4, ground := .data }], guard := none }) (v := ?_) rfl (by decide) (by kernel_rfl) (by kernel_rfl) (fun _ _ _ h => h) (Or.inl ⟨by rfl, ?_⟩) (by assumption) ?_
      rotate_left
      · intro w hSw
        (try dsimp only at hSw)
        obtain ⟨h1, h2, h3, h4⟩ := hSw; (go_simp; try (with_reducible rfl))
      try simp only [Act.put, List.setIfInBounds_toArray, List.set_cons_zero, List.set_cons_succ]
      refine HL.take_ (i := 6) (oi := { dst := some 117, op := .fieldAddr 73 (.tmp 5) 3, type := 0, pos := "ref.go:336", after := #[], guard := none }) (v := ?_) rfl (by decide) (by kernel_rfl) (by kernel_rfl) (fun _ _ _ h => h) (Or.inl ⟨by rfl, ?_⟩) (by assumption) ?_
      rotate_left
      · intro w hSw
        (try dsimp only at hSw)
        obtain ⟨h1, h2, h3, h4⟩ := hSw; (go_simp; try (with_reducible rfl))
      try simp only [Act.put, List.setIfInBounds_toArray, List.set_cons_zero, List.set_cons_succ]
      refine HL.take_ (i := 7) (oi := { dst := some 118, op := .load 5 (.tmp 117), type := 5, pos := "ref.go:336", after := #[{ on := 6, ground := .data }], guard := none }) (v := ?_) rfl (by decide) (by kernel_rfl) (by kernel_rfl) (fun _ _ _ h => h) (Or.inl ⟨by rfl, ?_⟩) (by assumption) ?_
      rotate_left
      · intro w hSw
        (try dsimp only at hSw)
        obtain ⟨h1, h2, h3, h4⟩ := hSw; (go_simp; try (with_reducible rfl))
      try simp only [Act.put, List.setIfInBounds_toArray, List.set_cons_zero, List.set_cons_succ]
      refine HL.take_ (i := 8) (oi := { dst := some 119, op := .binOp .add 5 (.tmp 116) (.tmp 118) 5, type := 5, pos := "ref.go:336", after := #[{ on := 5, ground := .data }, { on := 7, ground := .data }], guard := none }) (v := ?_) rfl (by decide) (by kernel_rfl) (by kernel_rfl) (fun _ _ _ h => h) (Or.inl ⟨by rfl, ?_⟩) (by assumption) ?_
      rotate_left
      · intro w hSw
        (try dsimp only at hSw)
        obtain ⟨h1, h2, h3, h4⟩ := hSw; (go_simp; try (with_reducible rfl))
      try simp only [Act.put, List.setIfInBounds_toArray, List.set_cons_zero, List.set_cons_succ]
      refine HL.take_ (i := 9) (oi := { dst := some 120, op := .move (.tmp 12), type := 3, pos := "ref.go:336", after := #[], guard := none }) (v := ?_) rfl (by decide) (by kernel_rfl) (by kernel_rfl) (fun _ _ _ h => h) (Or.inl ⟨by rfl, ?_⟩) (by assumption) ?_
      rotate_left
      · intro w hSw
        (try dsimp only at hSw)
        obtain ⟨h1, h2, h3, h4⟩ := hSw; (go_simp; try (with_reducible rfl))
      try simp only [Act.put, List.setIfInBounds_toArray, List.set_cons_zero, List.set_cons_succ]
      refine HL.take_ (i := 10) (oi := { dst := some 121, op := .convert 3 5 (.tmp 120), type := 5, pos := "ref.go:336", after := #[{ on := 9, ground := .data }], guard := none }) (v := ?_) rfl (by decide) (by kernel_rfl) (by kernel_rfl) (fun _ _ _ h => h) (Or.inl ⟨by rfl, ?_⟩) (by assumption) ?_
      rotate_left
      · intro w hSw
        (try dsimp only at hSw)
        obtain ⟨h1, h2, h3, h4⟩ := hSw; (go_simp; try (with_reducible rfl))
      try simp only [Act.put, List.setIfInBounds_toArray, List.set_cons_zero, List.set_cons_succ]
      refine HL.take_ (i := 11) (oi := { dst := some 122, op := .binOp .add 5 (.tmp 119) (.tmp 121) 5, type := 5, pos := "ref.go:336", after := #[{ on := 8, ground := .data }, { on := 10, ground := .data }], guard := none }) (v := ?_) rfl (by decide) (by kernel_rfl) (by kernel_rfl) (fun _ _ _ h => h) (Or.inl ⟨by rfl, ?_⟩) (by assumption) ?_
      rotate_left
      · intro w hSw
        (try dsimp only at hSw)
        obtain ⟨h1, h2, h3, h4⟩ := hSw; (go_simp; try (with_reducible rfl))
      try simp only [Act.put, List.setIfInBounds_toArray, List.set_cons_zero, List.set_cons_succ]
      refine HL.step_ (i := 12) (o := { dst := some 123, op := .call { callee := .value (.func 58), args := #[.tmp 113, .tmp 114, .tmp 122], argTypes := #[32, 35, 5] }, type := 43, pos := "ref.go:336", after := #[{ on := 2, ground := .data }, { on := 3, ground := .data }, { on := 11, ground := .data }], guard := none }) rfl (by decide) (by kernel_rfl) (fun K hK => ?_)
      go_simp
      rw [u8sum a c i]
      refine (variables_calls _ _ _ _ _ _ _ _ ((a + c + i) % 256) _ _ _ _ _ _ hL hL2 hG (Nat.mod_lt _ (by decide))).mono ?_
      rintro e w3 ⟨rfl, hb3⟩
      obtain ⟨⟨Vk, Vi⟩, hV⟩ : ∃ V, V = varOf L G ((a + c + i) % 256) := ⟨_, rfl⟩
      rw [← hV]
      have HV := Lib.hid hV
      have hb4 : Below wr.heap.size wr w3 := ⟨hb3.os, hb3.tape, hb3.output, hb3.size, hb3.block⟩
      have S1 := Lib.hid (blk_below R1.out hb4)
      have S2 := Lib.hid (blk_below R2.out hb4)
      have S3 := Lib.hid (blk_below R3.out hb4)
      have S4 := Lib.hid (blk_below R4.out hb4)
      have S5 := Lib.hid (blk_below R5.out hb4)
      have HO3 := Lib.hid (own_below HO.out hb4)
      have HB3 := Lib.hid (HBr.out.trans (hb4.mono HBr.out.size))
      have hz3 : w2.heap.size + 1 < w3.heap.size := Nat.lt_of_lt_of_le HZ.out hb4.size
      clear hV hb3 hb4 a1 a2 a3 a4 a5 b1 b2 b3 b4 b5 z1 z2 z3 z4 z5
      refine hK.out _ _ ⟨(blk3 S1.out).1, (blk3 S2.out).1, (blk3 S3.out).1, (blk3 S5.out).1⟩ (fun hHeld => ?_)
      clear hK K
      refine HL.step_ (i := 13) (o := { dst := some 124, op := .buildSlice 44 1 #[(0, .tmp 123)], type := 44, pos := "ref.go:336", after := #[{ on := 12, ground := .data }], guard := none }) rfl (by decide) (by kernel_rfl) (fun K hK => ?_)
      go_simp
      refine hK.out _ _ ⟨(blk3 (blk_alloc S1.out _)).1, (blk3 (blk_alloc S2.out _)).1, (blk3 (blk_alloc S3.out _)).1, (blk3 (blk_alloc S5.out _)).1⟩ (fun hHeld => ?_)
      clear hK K
      try simp only [Act.put, List.setIfInBounds_toArray, List.set_cons_zero, List.set_cons_succ]
      refine HL.step_ (i := 14) (o := { dst := some 125, op := .call { callee := .builtin .append, args := #[.tmp 112, .tmp 124], argTypes := #[44, 44] }, type := 44, pos := "ref.go:336", after := #[{ on := 1, ground := .data }, { on := 13, ground := .data }, { on := 12, ground := .chain }], guard := none }) rfl (by decide) (by kernel_rfl) (fun K hK => ?_)
      rw [if_pos (by rfl)]
      refine append_step (B := w2.heap.size + 1 + 1) (w0 := w3.alloc (.cells #[.int .u8 Vk, .int .i64 Vi] 43)) _ _ 44 43 (.agg #[.int .u8 0, .int .i64 0]) 2 16 rfl Try.underlying44 info43 rfl (by decide) (.slice A i cp) i _ rfl (own_below HO3.out ((Below.refl _ _).alloc (Nat.le_refl _) _)) ⟨w3.heap.size, 0, none⟩ 1 1 [.int .u8 Vk, .int .i64 Vi] rfl rfl (new_cells _ _ _ _) ?_ ?_ (Below.refl _ _) (by omega) (by omega) ?_
      · intro u hu
        rcases List.mem_cons.1 hu with rfl | hu
        · rfl
        · obtain rfl : u = .int .i64 Vi := by simpa using hu
          rfl
      · simp
        omega
      intro v' w4 hown hbel _
      obtain ⟨A', cp', rfl, _, _⟩ := own_shape hown
      have T1 := Lib.hid ((hbel.block _ (by have := HB2.out.size; omega)).trans (blk_alloc S1.out _))
      have T2 := Lib.hid ((hbel.block _ (by have := blk_lt Q2.out; have := HZ2.out; omega)).trans (blk_alloc S2.out _))
      have T3 := Lib.hid ((hbel.block _ (by have := blk_lt Q3.out; have := HZ2.out; omega)).trans (blk_alloc S3.out _))
      have T4 := Lib.hid ((hbel.block _ (by have := blk_lt Q4.out; have := HZ2.out; omega)).trans (blk_alloc S4.out _))
      have T5 := Lib.hid ((hbel.block _ (by omega)).trans (blk_alloc S5.out _))
      obtain ⟨a5, b5, z5⟩ := blk3 T5.out
      have HO4 := Lib.hid hown
      have HB4 := Lib.hid (show Below w.heap.size w w4 from (HB3.out.alloc HB3.out.size _).trans (hbel.mono (by have := HB2.out.size; omega)))
      have hz4 : w2.heap.size + 1 < w4.heap.size := z5
      clear hown hbel
      refine hK.out _ _ ⟨(blk3 T1.out).1, (blk3 T2.out).1, (blk3 T3.out).1, (blk3 T5.out).1⟩ (fun hHeld => ?_)
      clear hK K hHeld
      try simp only [Act.put, List.setIfInBounds_toArray, List.set_cons_zero, List.set_cons_succ]
      refine HL.done_ (by kernel_rfl) ?_
      simp only [List.drop_succ_cons, List.drop_zero]
      go_wp2
      refine ⟨⟨i + 1, A', cp', by omega, by go_num, ?_, blk_far T1.out (p := ⟨w2.heap.size + 1, 5, none⟩) (by have := HB2.out.size; show w.heap.size ≠ w2.heap.size + 1; omega) _, blk_far T2.out (p := ⟨w2.heap.size + 1, 5, none⟩) (by have := blk_lt Q2.out; have := HZ2.out; show w.heap.size + 1 ≠ w2.heap.size + 1; omega) _, blk_far T3.out (p := ⟨w2.heap.size + 1, 5, none⟩) (by have := blk_lt Q3.out; have := HZ2.out; show w.heap.size + 1 + 1 ≠ w2.heap.size + 1; omega) _, blk_far T4.out (p := ⟨w2.heap.size + 1, 5, none⟩) (by have := blk_lt Q4.out; have := HZ2.out; show w.heap.size + 1 + 1 + 1 ≠ w2.heap.size + 1; omega) _, ?_, ?_, ?_⟩, by simp [intOf]; omega⟩
      · exact HB4.out.setCell (p := ⟨w2.heap.size + 1, 5, none⟩) (by have := HB2.out.size; show w.heap.size ≤ w2.heap.size + 1; omega) _
      · exact blk_set T5.out 5 _
      · have h1 := own_setCell HO4.out (p := ⟨w2.heap.size + 1, 5, none⟩) (fun e => by have : w2.heap.size + 1 + 1 ≤ w2.heap.size + 1 := (World.ownsRow.lt HO4.out _ e.symm).1; omega) (.slice A' (i + 1) cp')
        rw [List.range_succ, List.map_append, List.map_cons, List.map_nil, refCells_snoc, ← HV.out]
        exact h1
      · show _ < _
        simp
        omega
    · obtain rfl : i = N := by omega
      go_wp2
      refine bodyPost_ret (v := .agg #[.int .u8 5, .int .u8 Ak, .int .i64 Ai, .int .u8 Bk, .int .i64 Bi, .slice A i cp, .slice none 0 0]) (by rw [results_cell rfl]; go_simp) rfl ?_
      refine ⟨_, rfl, fun bs hbs => ?_, ?_⟩
      · rw [HST.out, ← HB.out, ← HA.out]
        refine (cells7_def _ _ _ _ _ _ _ _ _).2 ⟨A, i, cp, none, 0, 0, rfl, ?_, readsBody_nil _ none⟩
        refine ReadsRefs.own (B := w2.heap.size + 1 + 1) (cp := cp) ?_ (by rw [List.length_map, List.length_range]) (by omega) (fun b hb => by have := hbs b hb; have := HB2.out.size; omega)
        exact own_set7 HO.out (by have := blk_lt Q4.out; have := HZ2.out; omega) _ _ _ _ _ _ _
      · exact below_set7 HBr.out (by omega) _ _ _ _ _ _ _
set_option maxRecDepth 100000 in
set_option maxHeartbeats 4000000 in
theorem stmt_call_4_y (w : World) (s1 s4 : Value) (G gc L lc S sc F fc : Nat) (ga la fa sa : Option Addr) (f0 f1 f4 : Value) (params : Nat → Nat) (k a b c : Nat) (hL : 0 < L) (hL2 : L ≤ 1000) (hG : G ≤ 1000) (ha : a < 256) (hb : b < 256) (hcc : c < 256) (hk : ((k : Int) % 10) = 4) (hc : ((c : Int) % 3) = 0) (N r : Nat) (hr : (b : Int) % F = r) (hrF : r < F) (hF2 : F ≤ 1000) (fb fo : Nat) (hfa : fa = some ⟨fb, fo, none⟩) (hP : w.cell? ⟨fb, fo + r * 5 + 1, none⟩ = some (.int .i64 N)) (hN2 : N ≤ 100) (xs : St) (hst : xs = .mk 5 0 0 3 (r : Int) ((List.range N).map fun i => varOf L G ((a + c + i) % 256)) []) :
    Calls Try.prog 28 #[.agg #[s1, .slice ga G gc, .slice fa F fc, s4], .agg #[f0, f1, .slice la L lc, .slice sa S sc, f4], .agg #[.int .u8 k, .int .u8 a, .int .u8 b, .int .u8 c]] w (Stated w (xs)) := by
  have HST := Lib.hid hst
  clear hst
  subst hfa
  have HR := Lib.hid hr
  have HP := Lib.hid hP
  clear hr hP
  go_enter Try.func28, Try.ntmps28
  go_wp2_with fail
  refine (variables_calls _ _ _ _ _ _ _ _ a _ _ _ _ _ _ hL hL2 hG ha).mono ?_
  rintro e w1 ⟨rfl, hb1⟩
  obtain ⟨q1, q2, q3, q4⟩ := four_blocks hb1
  have Q1 := Lib.hid q1
  have Q2 := Lib.hid q2
  have Q3 := Lib.hid q3
  have Q4 := Lib.hid q4
  have HB1 := Lib.hid (show Below w.heap.size w w1 from ((((Below.refl _ _).alloc (Nat.le_refl _) _).alloc (by simp) _).alloc (by simp; omega) _).alloc (by simp; omega) _ |>.trans (hb1.mono (by simp; omega)))
  obtain ⟨⟨Ak, Ai⟩, hA⟩ : ∃ A, A = varOf L G a := ⟨_, rfl⟩
  obtain ⟨⟨Bk, Bi⟩, hB⟩ : ∃ B, B = varOf L G b := ⟨_, rfl⟩
  rw [← hA]
  have HA := Lib.hid hA
  have HB := Lib.hid hB
  obtain ⟨a1, b1, z1⟩ := blk3 q1
  obtain ⟨a2, b2, z2⟩ := blk3 q2
  obtain ⟨a3, b3, z3⟩ := blk3 q3
  obtain ⟨a4, b4, z4⟩ := blk3 q4
  clear hA hB hb1 q1 q2 q3 q4
  go_wp2_with fail
  refine (variables_calls _ _ _ _ _ _ _ _ b _ _ _ _ _ _ hL hL2 hG hb).mono ?_
  rintro e w2 ⟨rfl, hb2⟩
  have hbl2 : Below w1.heap.size w1 w2 := ((Below.refl _ _).alloc (Nat.le_refl _) _).trans (hb2.mono (by simp))
  have r1 := blk_below Q1.out hbl2
  have r2 := blk_below Q2.out hbl2
  have r3 := blk_below Q3.out hbl2
  have r4 := blk_below Q4.out hbl2
  have r5 := blk_below (heap_alloc_new w1 _) hb2
  rw [← HB.out]
  have HB2 := Lib.hid (HB1.out.trans (hbl2.mono HB1.out.size))
  clear a1 a2 a3 a4 b1 b2 b3 b4 z1 z2 z3 z4 hb2 hbl2
  obtain ⟨a1, b1, z1⟩ := blk3 r1
  obtain ⟨a2, b2, z2⟩ := blk3 r2
  obtain ⟨a3, b3, z3⟩ := blk3 r3
  obtain ⟨a4, b4, z4⟩ := blk3 r4
  obtain ⟨a5, b5, z5⟩ := blk3 r5
  have R1 := Lib.hid r1
  have R2 := Lib.hid r2
  have R3 := Lib.hid r3
  have R4 := Lib.hid r4
  clear r1 r2 r3 r4 r5
  have HZ2 := Lib.hid (show w1.heap.size ≤ w2.heap.size by omega)
  have hr := HR.out
  have hfb : fb < w2.heap.size := by have := World.block_lt_of_cell? w _ HP.out; have := HB2.out.size; simp only at *; omega
  have hP := (sub_below HB2.out) _ _ HP.out
  go_wp2
  clear hk hc hr hP
  go_loopw [12] (fun iv wr => ∃ (i : Nat) (A : Option Addr) (cp : Nat), i ≤ N ∧ iv = .int .i64 i ∧ Hid (Below w.heap.size w wr) ∧ Hid (wr.heap[w.heap.size]? = some (.cells #[s1, .slice ga G gc, .slice (some ⟨fb, fo, none⟩) F fc, s4] 32)) ∧ Hid (wr.heap[w.heap.size + 1]? = some (.cells #[f0, f1, .slice la L lc, .slice sa S sc, f4] 35)) ∧
      Hid (wr.heap[w.heap.size + 1 + 1]? = some (.cells #[.int .u8 k, .int .u8 a, .int .u8 b, .int .u8 c] 73)) ∧ Hid (wr.heap[w.heap.size + 1 + 1 + 1]? = some (.cells #[.int .u8 0, .int .u8 0, .int .i64 0, .int .u8 0, .int .i64 0, .slice none 0 0, .slice none 0 0] 46)) ∧
      Hid (wr.heap[w2.heap.size + 1]? = some (.cells #[.int .u8 5, .int .u8 0, .int .i64 0, .int .u8 3, .int .i64 (r : Int), .slice A i cp, .slice none 0 0] 46)) ∧ Hid (wr.ownsRow (w2.heap.size + 1 + 1) 43 2 (.slice A i cp) i (refCells ((List.range i).map fun i => varOf L G ((a + c + i) % 256)))) ∧ Hid (w2.heap.size + 1 < wr.heap.size)) (fun iv _ => N - (intOf iv).toNat)
  case atStart =>
    have h9 := heap_alloc_new (w2.alloc (.cells #[.int .u8 Bk, .int .i64 Bi] 43)) (.cells #[.int .u8 5, .int .u8 0, .int .i64 0, .int .u8 3, .int .i64 (r : Int), .slice none 0 0, .slice none 0 0] 46)
    rw [show (w2.alloc (.cells #[.int .u8 Bk, .int .i64 Bi] 43)).heap.size = w2.heap.size + 1 by simp] at h9
    exact ⟨0, none, 0, Nat.zero_le _, rfl, (HB2.out.alloc HB2.out.size _).alloc (by have := HB2.out.size; simp; omega) _, blk_alloc (blk_alloc R1.out _) _, blk_alloc (blk_alloc R2.out _) _, blk_alloc (blk_alloc R3.out _) _, blk_alloc (blk_alloc R4.out _) _, h9, World.ownsRow_nil _ _ _ _, by show _ < _; simp⟩
  case round =>
    clear a1 a2 a3 a4 a5 b1 b2 b3 b4 b5 z1 z2 z3 z4 z5 R1 R2 R3 R4
    obtain ⟨i, A, cp, hi, rfl, HBr, R1, R2, R3, R4, R5, HO, HZ⟩ := hrel
    obtain ⟨a1, b1, z1⟩ := blk3 R1.out
    obtain ⟨a2, b2, z2⟩ := blk3 R2.out
    obtain ⟨a3, b3, z3⟩ := blk3 R3.out
    obtain ⟨a4, b4, z4⟩ := blk3 R4.out
    obtain ⟨a5, b5, z5⟩ := blk3 R5.out
    by_cases hlt : i < N
    · have hw0 : 0 ≤ (i : Int) := Int.natCast_nonneg _
      go_wp2
      refine wp_region_HL (S := (fun w' => (∀ o, w'.cell? ⟨w.heap.size, o, none⟩ = (#[s1, .slice ga G gc, .slice (some ⟨fb, fo, none⟩) F fc, s4] : Array Value)[o]?) ∧ (∀ o, w'.cell? ⟨w.heap.size + 1, o, none⟩ = (#[f0, f1, .slice la L lc, .slice sa S sc, f4] : Array Value)[o]?) ∧ (∀ o, w'.cell? ⟨w.heap.size + 1 + 1, o, none⟩ = (#[.int .u8 k, .int .u8 a, .int .u8 b, .int .u8 c] : Array Value)[o]?) ∧ (∀ o, w'.cell? ⟨w2.heap.size + 1, o, none⟩ = (#[.int .u8 5, .int .u8 0, .int .i64 0, .int .u8 3, .int .i64 (r : Int), .slice A i cp, .slice none 0 0] : Array Value)[o]?))) 15 (by kernel_rfl) (by kernel_rfl) (by kernel_rfl) (by kernel_rfl) (by decide) ⟨a1, a2, a3, a5⟩ (fun hHeld => ?_)
      refine HL.take_ (i := 0) (oi := { dst := some 111, op := .fieldAddr 46 (.tmp 10) 3, type := 0, pos := "ref.go:336", after := #[], guard := none }) (v := ?_) rfl (by decide) (by kernel_rfl) (by kernel_rfl) (fun _ _ _ h => h) (Or.inl ⟨by rfl, ?_⟩) (by assumption) ?_
      rotate_left
      · intro w hSw
        (try dsimp only at hSw)
        obtain ⟨h1, h2, h3, h4⟩ := hSw; (go_simp; try (with_reducible rfl))
      try simp only [Act.put, List.setIfInBounds_toArray, List.set_cons_zero, List.set_cons_succ]
      refine HL.take_ (i := 1) (oi := { dst := some 112, op := .load 44 (.tmp 111), type := 44, pos := "ref.go:336", after := #[{ on := 0, ground := .data }], guard := none }) (v := ?_) rfl (by decide) (by kernel_rfl) (by kernel_rfl) (fun _ _ _ h => h) (Or.inl ⟨by rfl, ?_⟩) (by assumption) ?_
      rotate_left
      · intro w hSw
        (try dsimp only at hSw)
        obtain ⟨h1, h2, h3, h4⟩ := hSw; (go_simp; try (with_reducible rfl))
      try simp only [Act.put, List.setIfInBounds_toArray, List.set_cons_zero, List.set_cons_succ]
      refine HL.take_ (i := 2) (oi := { dst := some 113, op := .load 32 (.tmp 3), type := 32, pos := "ref.go:336", after := #[], guard := none }) (v := ?_) rfl (by decide) (by kernel_rfl) (by kernel_rfl) (fun _ _ _ h => h) (Or.inl ⟨by rfl, ?_⟩) (by assumption) ?_
      rotate_left
      · intro w hSw
        (try dsimp only at hSw)
        obtain ⟨h1, h2, h3, h4⟩ := hSw; (go_simp; try (with_reducible rfl))
      try simp only [Act.put, List.setIfInBounds_toArray, List.set_cons_zero, List.set_cons_succ]
      refine HL.take_ (i := 3) (oi := { dst := some 114, op := .load 35 (.tmp 4), type := 35, pos := "ref.go:336", after := #[], guard := none }) (v := ?_) rfl (by decide) (by kernel_rfl) (by kernel_rfl) (fun _ _ _ h => h) (Or.inl ⟨by rfl, ?_⟩) (by assumption) ?_
      rotate_left
      · intro w hSw
        (try dsimp only at hSw)
        obtain ⟨h1, h2, h3, h4⟩ := hSw; (go_simp; try (with_reducible rfl))
      try simp only [Act.put, List.setIfInBounds_toArray, List.set_cons_zero, List.set_cons_succ]
      refine HL.take_ (i := 4) (oi := { dst := some 115, op := .fieldAddr 73 (.tmp 5) 1, type := 0, pos := "ref.go:336", after := #[], guard := none }) (v := ?_) rfl (by decide) (by kernel_rfl) (by kernel_rfl) (fun _ _ _ h => h) (Or.inl ⟨by rfl, ?_⟩) (by assumption) ?_
      rotate_left
      · intro w hSw
        (try dsimp only at hSw)
        obtain ⟨h1, h2, h3, h4⟩ := hSw; (go_simp; try (with_reducible rfl))
      try simp only [Act.put, List.setIfInBounds_toArray, List.set_cons_zero, List.set_cons_succ]
      refine HL.take_ (i := 5) (oi := { dst := some 116, op := .load 5 (.tmp 115), type := 5, pos := "ref.go:336", after := #[{ on := 4, ground := .data }], guard := none }) (v := ?_) rfl (by decide) (by kernel_rfl) (by kernel_rfl) (fun _ _ _ h => h) (Or.inl ⟨by rfl, ?_⟩) (by assumption) ?_
      rotate_left
      · intro w hSw
        (try dsimp only at hSw)
        obtain ⟨h1, h2, h3, h4⟩ := hSw; (go_simp; try (with_reducible rfl))
      try simp only [Act.put, List.setIfInBounds_toArray, List.set_cons_zero, List.set_cons_succ]
      refine HL.take_ (i := 6) (oi := { dst := some 117, op := .fieldAddr 73 (.tmp 5) 3, type := 0, pos := "ref.go:336", after := #[], guard := none }) (v := ?_) rfl (by decide) (by kernel_rfl) (by kernel_rfl) (fun _ _ _ h => h) (Or.inl ⟨by rfl, ?_⟩) (by assumption) ?_
      rotate_left
      · intro w hSw
        (try dsimp only at hSw)
        obtain ⟨h1, h2, h3, h4⟩ := hSw; (go_simp; try (with_reducible rfl))
      try simp only [Act.put, List.setIfInBounds_toArray, List.set_cons_zero, List.set_cons_succ]
      refine HL.take_ (i := 7) (oi := { dst := some 118, op := .load 5 (.tmp 117), type := 5, pos := "ref.go:336", after := #[{ on := 6, ground := .data }], guard := none }) (v := ?_) rfl (by decide) (by kernel_rfl) (by kernel_rfl) (fun _ _ _ h => h) (Or.inl ⟨by rfl, ?_⟩) (by assumption) ?_
      rotate_left
      · intro w hSw
        (try dsimp only at hSw)
        obtain ⟨h1, h2, h3, h4⟩ := hSw; (go_simp; try (with_reducible rfl))
      try simp only [Act.put, List.setIfInBounds_toArray, List.set_cons_zero, List.set_cons_succ]
      refine HL.take_ (i := 8) (oi := { dst := some 119, op := .binOp .add 5 (.tmp 116) (.tmp 118) 5, type := 5, pos := "ref.go:336", after := #[{ on := 5, ground := .data }, { on := 7, ground := .data }], guard := none }) (v := ?_) rfl (by decide) (by kernel_rfl) (by kernel_rfl) (fun _ _ _ h => h) (Or.inl ⟨by rfl, ?_⟩) (by assumption) ?_
      rotate_left
      · intro w hSw
        (try dsimp only at hSw)
        obtain ⟨h1, h2, h3, h4⟩ := hSw; (go_simp; try (with_reducible rfl))
      try simp only [Act.put, List.setIfInBounds_toArray, List.set_cons_zero, List.set_cons_succ]
      refine HL.take_ (i := 9) (oi := { dst := some 120, op := .move (.tmp 12), type := 3, pos := "ref.go:336", after := #[], guard := none }) (v := ?_) rfl (by decide) (by kernel_rfl) (by kernel_rfl) (fun _ _ _ h => h) (Or.inl ⟨by rfl, ?_⟩) (by assumption) ?_
      rotate_left
      · intro w hSw
        (try dsimp only at hSw)
        obtain ⟨h1, h2, h3, h4⟩ := hSw; (go_simp; try (with_reducible rfl))
      try simp only [Act.put, List.setIfInBounds_toArray, List.set_cons_zero, List.set_cons_succ]
      refine HL.take_ (i := 10) (oi := { dst := some 121, op := .convert 3 5 (.tmp 120), type := 5, pos := "ref.go:336", after := #[{ on := 9, ground := .data }], guard := none }) (v := ?_) rfl (by decide) (by kernel_rfl) (by kernel_rfl) (fun _ _ _ h => h) (Or.inl ⟨by rfl, ?_⟩) (by assumption) ?_
      rotate_left
      · intro w hSw
        (try dsimp only at hSw)
        obtain ⟨h1, h2, h3, h4⟩ := hSw; (go_simp; try (with_reducible rfl))
      try simp only [Act.put, List.setIfInBounds_toArray, List.set_cons_zero, List.set_cons_succ]
      refine HL.take_ (i := 11) (oi := { dst := some 122, op := .binOp .add 5 (.tmp 119) (.tmp 121) 5, type := 5, pos := "ref.go:336", after := #[{ on := 8, ground := .data }, { on := 10, ground := .data }], guard := none }) (v := ?_) rfl (by decide) (by kernel_rfl) (by kernel_rfl) (fun _ _ _ h => h) (Or.inl ⟨by rfl, ?_⟩) (by assumption) ?_
      rotate_left
      · intro w hSw
        (try dsimp only at hSw)
        obtain ⟨h1, h2, h3, h4⟩ := hSw; (go_simp; try (with_reducible rfl))
      try simp only [Act.put, List.setIfInBounds_toArray, List.set_cons_zero, List.set_cons_succ]
      refine HL.step_ (i := 12) (o := { dst := some 123, op := .call { callee := .value (.func 58), args := #[.tmp 113, .tmp 114, .tmp 122], argTypes := #[32, 35, 5] }, type := 43, pos := "ref.go:336", after := #[{ on := 2, ground := .data }, { on := 3, ground := .data }, { on := 11, ground := .data }], guard := none }) rfl (by decide) (by kernel_rfl) (fun K hK => ?_)
      go_simp
      rw [u8sum a c i]
      refine (variables_calls _ _ _ _ _ _ _ _ ((a + c + i) % 256) _ _ _ _ _ _ hL hL2 hG (Nat.mod_lt _ (by decide))).mono ?_
      rintro e w3 ⟨rfl, hb3⟩
      obtain ⟨⟨Vk, Vi⟩, hV⟩ : ∃ V, V = varOf L G ((a + c + i) % 256) := ⟨_, rfl⟩
      rw [← hV]
      have HV := Lib.hid hV
      have hb4 : Below wr.heap.size wr w3 := ⟨hb3.os, hb3.tape, hb3.output, hb3.size, hb3.block⟩
      have S1 := Lib.hid (blk_below R1.out hb4)
      have S2 := Lib.hid (blk_below R2.out hb4)
      have S3 := Lib.hid (blk_below R3.out hb4)
      have S4 := Lib.hid (blk_below R4.out hb4)
      have S5 := Lib.hid (blk_below R5.out hb4)
      have HO3 := Lib.hid (own_below HO.out hb4)
      have HB3 := Lib.hid (HBr.out.trans (hb4.mono HBr.out.size))
      have hz3 : w2.heap.size + 1 < w3.heap.size := Nat.lt_of_lt_of_le HZ.out hb4.size
      clear hV hb3 hb4 a1 a2 a3 a4 a5 b1 b2 b3 b4 b5 z1 z2 z3 z4 z5
      refine hK.out _ _ ⟨(blk3 S1.out).1, (blk3 S2.out).1, (blk3 S3.out).1, (blk3 S5.out).1⟩ (fun hHeld => ?_)
      clear hK K
      refine HL.step_ (i := 13) (o := { dst := some 124, op := .buildSlice 44 1 #[(0, .tmp 123)], type := 44, pos := "ref.go:336", after := #[{ on := 12, ground := .data }], guard := none }) rfl (by decide) (by kernel_rfl) (fun K hK => ?_)
      go_simp
      refine hK.out _ _ ⟨(blk3 (blk_alloc S1.out _)).1, (blk3 (blk_alloc S2.out _)).1, (blk3 (blk_alloc S3.out _)).1, (blk3 (blk_alloc S5.out _)).1⟩ (fun hHeld => ?_)
      clear hK K
      try simp only [Act.put, List.setIfInBounds_toArray, List.set_cons_zero, List.set_cons_succ]
      refine HL.step_ (i := 14) (o := { dst := some 125, op := .call { callee := .builtin .append, args := #[.tmp 112, .tmp 124], argTypes := #[44, 44] }, type := 44, pos := "ref.go:336", after := #[{ on := 1, ground := .data }, { on := 13, ground := .data }, { on := 12, ground := .chain }], guard := none }) rfl (by decide) (by kernel_rfl) (fun K hK => ?_)
      rw [if_pos (by rfl)]
      refine append_step (B := w2.heap.size + 1 + 1) (w0 := w3.alloc (.cells #[.int .u8 Vk, .int .i64 Vi] 43)) _ _ 44 43 (.agg #[.int .u8 0, .int .i64 0]) 2 16 rfl Try.underlying44 info43 rfl (by decide) (.slice A i cp) i _ rfl (own_below HO3.out ((Below.refl _ _).alloc (Nat.le_refl _) _)) ⟨w3.heap.size, 0, none⟩ 1 1 [.int .u8 Vk, .int .i64 Vi] rfl rfl (new_cells _ _ _ _) ?_ ?_ (Below.refl _ _) (by omega) (by omega) ?_
      · intro u hu
        rcases List.mem_cons.1 hu with rfl | hu
        · rfl
        · obtain rfl : u = .int .i64 Vi := by simpa using hu
          rfl
      · simp
        omega
      intro v' w4 hown hbel _
      obtain ⟨A', cp', rfl, _, _⟩ := own_shape hown
      have T1 := Lib.hid ((hbel.block _ (by have := HB2.out.size; omega)).trans (blk_alloc S1.out _))
      have T2 := Lib.hid ((hbel.block _ (by have := blk_lt Q2.out; have := HZ2.out; omega)).trans (blk_alloc S2.out _))
      have T3 := Lib.hid ((hbel.block _ (by have := blk_lt Q3.out; have := HZ2.out; omega)).trans (blk_alloc S3.out _))
      have T4 := Lib.hid ((hbel.block _ (by have := blk_lt Q4.out; have := HZ2.out; omega)).trans (blk_alloc S4.out _))
      have T5 := Lib.hid ((hbel.block _ (by omega)).trans (blk_alloc S5.out _))
      obtain ⟨a5, b5, z5⟩ := blk3 T5.out
      have HO4 := Lib.hid hown
      have HB4 := Lib.hid (show Below w.heap.size w w4 from (HB3.out.alloc HB3.out.size _).trans (hbel.mono (by have := HB2.out.size; omega)))
      have hz4 : w2.heap.size + 1 < w4.heap.size := z5
      clear hown hbel
      refine hK.out _ _ ⟨(blk3 T1.out).1, (blk3 T2.out).1, (blk3 T3.out).1, (blk3 T5.out).1⟩ (fun hHeld => ?_)
      clear hK K hHeld
      try simp only [Act.put, List.setIfInBounds_toArray, List.set_cons_zero, List.set_cons_succ]
      refine HL.done_ (by kernel_rfl) ?_
      simp only [List.drop_succ_cons, List.drop_zero]
      go_wp2
      refine ⟨⟨i + 1, A', cp', by omega, by go_num, ?_, blk_far T1.out (p := ⟨w2.heap.size + 1, 5, none⟩) (by have := HB2.out.size; show w.heap.size ≠ w2.heap.size + 1; omega) _, blk_far T2.out (p := ⟨w2.heap.size + 1, 5, none⟩) (by have := blk_lt Q2.out; have := HZ2.out; show w.heap.size + 1 ≠ w2.heap.size + 1; omega) _, blk_far T3.out (p := ⟨w2.heap.size + 1, 5, none⟩) (by have := blk_lt Q3.out; have := HZ2.out; show w.heap.size + 1 + 1 ≠ w2.heap.size + 1; omega) _, blk_far T4.out (p := ⟨w2.heap.size + 1, 5, none⟩) (by have := blk_lt Q4.out; have := HZ2.out; show w.heap.size + 1 + 1 + 1 ≠ w2.heap.size + 1; omega) _, ?_, ?_, ?_⟩, by simp [intOf]; omega⟩
      · exact HB4.out.setCell (p := ⟨w2.heap.size + 1, 5, none⟩) (by have := HB2.out.size; show w.heap.size ≤ w2.heap.size + 1; omega) _
      · exact blk_set T5.out 5 _
      · have h1 := own_setCell HO4.out (p := ⟨w2.heap.size + 1, 5, none⟩) (fun e => by have : w2.heap.size + 1 + 1 ≤ w2.heap.size + 1 := (World.ownsRow.lt HO4.out _ e.symm).1; omega) (.slice A' (i + 1) cp')
        rw [List.range_succ, List.map_append, List.map_cons, List.map_nil, refCells_snoc, ← HV.out]
        exact h1
      · show _ < _
        simp
        omega
    · obtain rfl : i = N := by omega
      go_wp2
      refine bodyPost_ret (v := .agg #[.int .u8 5, .int .u8 0, .int .i64 0, .int .u8 3, .int .i64 (r : Int), .slice A i cp, .slice none 0 0]) (by rw [results_cell rfl]; go_simp) rfl ?_
      refine ⟨_, rfl, fun bs hbs => ?_, ?_⟩
      · rw [HST.out]
        refine (cells7_def _ _ _ _ _ _ _ _ _).2 ⟨A, i, cp, none, 0, 0, rfl, ?_, readsBody_nil _ none⟩
        refine ReadsRefs.own (B := w2.heap.size + 1 + 1) (cp := cp) ?_ (by rw [List.length_map, List.length_range]) (by omega) (fun b hb => by have := hbs b hb; have := HB2.out.size; omega)
        exact own_set7 HO.out (by have := blk_lt Q4.out; have := HZ2.out; omega) _ _ _ _ _ _ _
      · exact below_set7 HBr.out (by omega) _ _ _ _ _ _ _
set_option maxRecDepth 100000 in
set_option maxHeartbeats 4000000 in
theorem stmt_call_4_n (w : World) (s1 s4 : Value) (G gc L lc S sc F fc : Nat) (ga la fa sa : Option Addr) (f0 f1 f4 : Value) (params : Nat → Nat) (k a b c : Nat) (hL : 0 < L) (hL2 : L ≤ 1000) (hG : G ≤ 1000) (ha : a < 256) (hb : b < 256) (hcc : c < 256) (hk : ((k : Int) % 10) = 4) (hc : ((c : Int) % 3 == 0) = false) (N r : Nat) (hr : (b : Int) % F = r) (hrF : r < F) (hF2 : F ≤ 1000) (fb fo : Nat) (hfa : fa = some ⟨fb, fo, none⟩) (hP : w.cell? ⟨fb, fo + r * 5 + 1, none⟩ = some (.int .i64 N)) (hN2 : N ≤ 100) (xs : St) (hst : xs = .mk 5 (varOf L G a).1 (varOf L G a).2 3 (r : Int) ((List.range N).map fun i => varOf L G ((a + c + i) % 256)) []) :
    Calls Try.prog 28 #[.agg #[s1, .slice ga G gc, .slice fa F fc, s4], .agg #[f0, f1, .slice la L lc, .slice sa S sc, f4], .agg #[.int .u8 k, .int .u8 a, .int .u8 b, .int .u8 c]] w (Stated w (xs)) := by
  have HST := Lib.hid hst
  clear hst
  subst hfa
  have HR := Lib.hid hr
  have HP := Lib.hid hP
  clear hr hP
  go_enter Try.func28, Try.ntmps28
  go_wp2_with fail
  refine (variables_calls _ _ _ _ _ _ _ _ a _ _ _ _ _ _ hL hL2 hG ha).mono ?_
  rintro e w1 ⟨rfl, hb1⟩
  obtain ⟨q1, q2, q3, q4⟩ := four_blocks hb1
  have Q1 := Lib.hid q1
  have Q2 := Lib.hid q2
  have Q3 := Lib.hid q3
  have Q4 := Lib.hid q4
  have HB1 := Lib.hid (show Below w.heap.size w w1 from ((((Below.refl _ _).alloc (Nat.le_refl _) _).alloc (by simp) _).alloc (by simp; omega) _).alloc (by simp; omega) _ |>.trans (hb1.mono (by simp; omega)))
  obtain ⟨⟨Ak, Ai⟩, hA⟩ : ∃ A, A = varOf L G a := ⟨_, rfl⟩
  obtain ⟨⟨Bk, Bi⟩, hB⟩ : ∃ B, B = varOf L G b := ⟨_, rfl⟩
  rw [← hA]
  have HA := Lib.hid hA
  have HB := Lib.hid hB
  obtain ⟨a1, b1, z1⟩ := blk3 q1
  obtain ⟨a2, b2, z2⟩ := blk3 q2
  obtain ⟨a3, b3, z3⟩ := blk3 q3
  obtain ⟨a4, b4, z4⟩ := blk3 q4
  clear hA hB hb1 q1 q2 q3 q4
  go_wp2_with fail
  refine (variables_calls _ _ _ _ _ _ _ _ b _ _ _ _ _ _ hL hL2 hG hb).mono ?_
  rintro e w2 ⟨rfl, hb2⟩
  have hbl2 : Below w1.heap.size w1 w2 := ((Below.refl _ _).alloc (Nat.le_refl _) _).trans (hb2.mono (by simp))
  have r1 := blk_below Q1.out hbl2
  have r2 := blk_below Q2.out hbl2
  have r3 := blk_below Q3.out hbl2
  have r4 := blk_below Q4.out hbl2
  have r5 := blk_below (heap_alloc_new w1 _) hb2
  rw [← HB.out]
  have HB2 := Lib.hid (HB1.out.trans (hbl2.mono HB1.out.size))
  clear a1 a2 a3 a4 b1 b2 b3 b4 z1 z2 z3 z4 hb2 hbl2
  obtain ⟨a1, b1, z1⟩ := blk3 r1
  obtain ⟨a2, b2, z2⟩ := blk3 r2
  obtain ⟨a3, b3, z3⟩ := blk3 r3
  obtain ⟨a4, b4, z4⟩ := blk3 r4
  obtain ⟨a5, b5, z5⟩ := blk3 r5
  have R1 := Lib.hid r1
  have R2 := Lib.hid r2
  have R3 := Lib.hid r3
  have R4 := Lib.hid r4
  clear r1 r2 r3 r4 r5
  have HZ2 := Lib.hid (show w1.heap.size ≤ w2.heap.size by omega)
  have hr := HR.out
  have hfb : fb < w2.heap.size := by have := World.block_lt_of_cell? w _ HP.out; have := HB2.out.size; simp only at *; omega
  have hP := (sub_below HB2.out) _ _ HP.out
  go_wp2
  clear hk hc hr hP
  go_loopw [12] (fun iv wr => ∃ (i : Nat) (A : Option Addr) (cp : Nat), i ≤ N ∧ iv = .int .i64 i ∧ Hid (Below w.heap.size w wr) ∧ Hid (wr.heap[w.heap.size]? = some (.cells #[s1, .slice ga G gc, .slice (some ⟨fb, fo, none⟩) F fc, s4] 32)) ∧ Hid (wr.heap[w.heap.size + 1]? = some (.cells #[f0, f1, .slice la L lc, .slice sa S sc, f4] 35)) ∧
      Hid (wr.heap[w.heap.size + 1 + 1]? = some (.cells #[.int .u8 k, .int .u8 a, .int .u8 b, .int .u8 c] 73)) ∧ Hid (wr.heap[w.heap.size + 1 + 1 + 1]? = some (.cells #[.int .u8 0, .int .u8 0, .int .i64 0, .int .u8 0, .int .i64 0, .slice none 0 0, .slice none 0 0] 46)) ∧
      Hid (wr.heap[w2.heap.size + 1]? = some (.cells #[.int .u8 5, .int .u8 Ak, .int .i64 Ai, .int .u8 3, .int .i64 (r : Int), .slice A i cp, .slice none 0 0] 46)) ∧ Hid (wr.ownsRow (w2.heap.size + 1 + 1) 43 2 (.slice A i cp) i (refCells ((List.range i).map fun i => varOf L G ((a + c + i) % 256)))) ∧ Hid (w2.heap.size + 1 < wr.heap.size)) (fun iv _ => N - (intOf iv).toNat)
  case atStart =>
    have h9 := heap_alloc_new (w2.alloc (.cells #[.int .u8 Bk, .int .i64 Bi] 43)) (.cells #[.int .u8 5, .int .u8 Ak, .int .i64 Ai, .int .u8 3, .int .i64 (r : Int), .slice none 0 0, .slice none 0 0] 46)
    rw [show (w2.alloc (.cells #[.int .u8 Bk, .int .i64 Bi] 43)).heap.size = w2.heap.size + 1 by simp] at h9
    exact ⟨0, none, 0, Nat.zero_le _, rfl, (HB2.out.alloc HB2.out.size _).alloc (by have := HB2.out.size; simp; omega) _, blk_alloc (blk_alloc R1.out _) _, blk_alloc (blk_alloc R2.out _) _, blk_alloc (blk_alloc R3.out _) _, blk_alloc (blk_alloc R4.out _) _, h9, World.ownsRow_nil _ _ _ _, by show _ < _; simp⟩
  case round =>
    clear a1 a2 a3 a4 a5 b1 b2 b3 b4 b5 z1 z2 z3 z4 z5 R1 R2 R3 R4
    obtain ⟨i, A, cp, hi, rfl, HBr, R1, R2, R3, R4, R5, HO, HZ⟩ := hrel
    obtain ⟨a1, b1, z1⟩ := blk3 R1.out
    obtain ⟨a2, b2, z2⟩ := blk3 R2.out
    obtain ⟨a3, b3, z3⟩ := blk3 R3.out
    obtain ⟨a4, b4, z4⟩ := blk3 R4.out
    obtain ⟨a5, b5, z5⟩ := blk3 R5.out
    by_cases hlt : i < N
    · have hw0 : 0 ≤ (i : Int) := Int.natCast_nonneg _
      go_wp2
      refine wp_region_HL (S := (fun w' => (∀ o, w'.cell? ⟨w.heap.size, o, none⟩ = (#[s1, .slice ga G gc, .slice (some ⟨fb, fo, none⟩) F fc, s4] : Array Value)[o]?) ∧ (∀ o, w'.cell? ⟨w.heap.size + 1, o, none⟩ = (#[f0, f1, .slice la L lc, .slice sa S sc, f4] : Array Value)[o]?) ∧ (∀ o, w'.cell? ⟨w.heap.size + 1 + 1, o, none⟩ = (#[.int .u8 k, .int .u8 a, .int .u8 b, .int .u8 c] : Array Value)[o]?) ∧ (∀ o, w'.cell? ⟨w2.heap.size + 1, o, none⟩ = (#[.int .u8 5, .int .u8 Ak, .int .i64 Ai, .int .u8 3, .int .i64 (r : Int), .slice A i cp, .slice none 0 0] : Array Value)[o]?))) 15 (by kernel_rfl) (by kernel_rfl) (by kernel_rfl) (by kernel_rfl) (by decide) ⟨a1, a2, a3, a5⟩ (fun hHeld => ?_)
      refine HL.take_ (i := 0) (oi := { dst := some 111, op := .fieldAddr 46 (.tmp 10) 3, type := 0, pos := "ref.go:336", after := #[], guard := none }) (v := ?_) rfl (by decide) (by kernel_rfl) (by kernel_rfl) (fun _ _ _ h => h) (Or.inl ⟨by rfl, ?_⟩) (by assumption) ?_
      rotate_left
      · intro w hSw
        (try dsimp only at hSw)
        obtain ⟨h1, h2, h3, h4⟩ := hSw; (go_simp; try (with_reducible rfl))
      try simp only [Act.put, List.setIfInBounds_toArray, List.set_cons_zero, List.set_cons_succ]
      refine HL.take_ (i := 1) (oi := { dst := some 112, op := .load 44 (.tmp 111), type := 44, pos := "ref.go:336", after := #[{ on := 0, ground := .data }], guard := none }) (v := ?_) rfl (by decide) (by kernel_rfl) (by kernel_rfl) (fun _ _ _ h => h) (Or.inl ⟨by rfl, ?_⟩) (by assumption) ?_
      rotate_left
      · intro w hSw
        (try dsimp only at hSw)
        obtain ⟨h1, h2, h3, h4⟩ := hSw; (go_simp; try (with_reducible rfl))
      try simp only [Act.put, List.setIfInBounds_toArray, List.set_cons_zero, List.set_cons_succ]
      refine HL.take_ (i := 2) (oi := { dst := some 113, op := .load 32 (.tmp 3), type := 32, pos := "ref.go:336", after := #[], guard := none }) (v := ?_) rfl (by decide) (by kernel_rfl) (by kernel_rfl) (fun _ _ _ h => h) (Or.inl ⟨by rfl, ?_⟩) (by assumption) ?_
      rotate_left
      · intro w hSw
        (try dsimp only at hSw)
        obtain ⟨h1, h2, h3, h4⟩ := hSw; (go_simp; try (with_reducible rfl))
      try simp only [Act.put, List.setIfInBounds_toArray, List.set_cons_zero, List.set_cons_succ]
      refine HL.take_ (i := 3) (oi := { dst := some 114, op := .load 35 (.tmp 4), type := 35, pos := "ref.go:336", after := #[], guard := none }) (v := ?_) rfl (by decide) (by kernel_rfl) (by kernel_rfl) (fun _ _ _ h => h) (Or.inl ⟨by rfl, ?_⟩) (by assumption) ?_
      rotate_left
      · intro w hSw
        (try dsimp only at hSw)
        obtain ⟨h1, h2, h3, h4⟩ := hSw; (go_simp; try (with_reducible rfl))
      try simp only [Act.put, List.setIfInBounds_toArray, List.set_cons_zero, List.set_cons_succ]
      refine HL.take_ (i := 4) (oi := { dst := some 115, op := .fieldAddr 73 (.tmp 5) 1, type := 0, pos := "ref.go:336", after := #[], guard := none }) (v := ?_) rfl (by decide) (by kernel_rfl) (by kernel_rfl) (fun _ _ _ h => h) (Or.inl ⟨by rfl, ?_⟩) (by assumption) ?_
      rotate_left
      · intro w hSw
        (try dsimp only at hSw)
        obtain ⟨h1, h2, h3, h4⟩ := hSw; (go_simp; try (with_reducible rfl))
      try simp only [Act.put, List.setIfInBounds_toArray, List.set_cons_zero, List.set_cons_succ]
      refine HL.take_ (i := 5) (oi := { dst := some 116, op := .load 5 (.tmp 115), type := 5, pos := "ref.go:336", after := #[{ on := 4, ground := .data }], guard := none }) (v := ?_) rfl (by decide) (by kernel_rfl) (by kernel_rfl) (fun _ _ _ h => h) (Or.inl ⟨by rfl, ?_⟩) (by assumption) ?_
      rotate_left
      · intro w hSw
        (try dsimp only at hSw)
        obtain ⟨h1, h2, h3, h4⟩ := hSw; (go_simp; try (with_reducible rfl))
      try simp only [Act.put, List.setIfInBounds_toArray, List.set_cons_zero, List.set_cons_succ]
      refine HL.take_ (i := 6) (oi := { dst := some 117, op := .fieldAddr 73 (.tmp 5) 3, type := 0, pos := "ref.go:336", after := #[], guard := none }) (v := ?_) rfl (by decide) (by kernel_rfl) (by kernel_rfl) (fun _ _ _ h => h) (Or.inl ⟨by rfl, ?_⟩) (by assumption) ?_
      rotate_left
      · intro w hSw
        (try dsimp only at hSw)
        obtain ⟨h1, h2, h3, h4⟩ := hSw; (go_simp; try (with_reducible rfl))
      try simp only [Act.put, List.setIfInBounds_toArray, List.set_cons_zero, List.set_cons_succ]
      refine HL.take_ (i := 7) (oi := { dst := some 118, op := .load 5 (.tmp 117), type := 5, pos := "ref.go:336", after := #[{ on := 6, ground := .data }], guard := none }) (v := ?_) rfl (by decide) (by kernel_rfl) (by kernel_rfl) (fun _ _ _ h => h) (Or.inl ⟨by rfl, ?_⟩) (by assumption) ?_
      rotate_left
      · intro w hSw
        (try dsimp only at hSw)
        obtain ⟨h1, h2, h3, h4⟩ := hSw; (go_simp; try (with_reducible rfl))
      try simp only [Act.put, List.setIfInBounds_toArray, List.set_cons_zero, List.set_cons_succ]
      refine HL.take_ (i := 8) (oi := { dst := some 119, op := .binOp .add 5 (.tmp 116) (.tmp 118) 5, type := 5, pos := "ref.go:336", after := #[{ on := 5, ground := .data }, { on := 7, ground := .data }], guard := none }) (v := ?_) rfl (by decide) (by kernel_rfl) (by kernel_rfl) (fun _ _ _ h => h) (Or.inl ⟨by rfl, ?_⟩) (by assumption) ?_
      rotate_left
      · intro w hSw
        (try dsimp only at hSw)
        obtain ⟨h1, h2, h3, h4⟩ := hSw; (go_simp; try (with_reducible rfl))
      try simp only [Act.put, List.setIfInBounds_toArray, List.set_cons_zero, List.set_cons_succ]
      refine HL.take_ (i := 9) (oi := { dst := some 120, op := .move (.tmp 12), type := 3, pos := "ref.go:336", after := #[], guard := none }) (v := ?_) rfl (by decide) (by kernel_rfl) (by kernel_rfl) (fun _ _ _ h => h) (Or.inl ⟨by rfl, ?_⟩) (by assumption) ?_
      rotate_left
      · intro w hSw
        (try dsimp only at hSw)
        obtain ⟨h1, h2, h3, h4⟩ := hSw; (go_simp; try (with_reducible rfl))
      try simp only [Act.put, List.setIfInBounds_toArray, List.set_cons_zero, List.set_cons_succ]
      refine HL.take_ (i := 10) (oi := { dst := some 121, op := .convert 3 5 (.tmp 120), type := 5, pos := "ref.go:336", after := #[{ on := 9, ground := .data }], guard := none }) (v := ?_) rfl (by decide) (by kernel_rfl) (by kernel_rfl) (fun _ _ _ h => h) (Or.inl ⟨by rfl, ?_⟩) (by assumption) ?_
      rotate_left
      · intro w hSw
        (try dsimp only at hSw)
        obtain ⟨h1, h2, h3, h4⟩ := hSw; (go_simp; try (with_reducible rfl))
      try simp only [Act.put, List.setIfInBounds_toArray, List.set_cons_zero, List.set_cons_succ]
      refine HL.take_ (i := 11) (oi := { dst := some 122, op := .binOp .add 5 (.tmp 119) (.tmp 121) 5, type := 5, pos := "ref.go:336", after := #[{ on := 8, ground := .data }, { on := 10, ground := .data }], guard := none }) (v := ?_) rfl (by decide) (by kernel_rfl) (by kernel_rfl) (fun _ _ _ h => h) (Or.inl ⟨by rfl, ?_⟩) (by assumption) ?_
      rotate_left
      · intro w hSw
        (try dsimp only at hSw)
        obtain ⟨h1, h2, h3, h4⟩ := hSw; (go_simp; try (with_reducible rfl))
      try simp only [Act.put, List.setIfInBounds_toArray, List.set_cons_zero, List.set_cons_succ]
      refine HL.step_ (i := 12) (o := { dst := some 123, op := .call { callee := .value (.func 58), args := #[.tmp 113, .tmp 114, .tmp 122], argTypes := #[32, 35, 5] }, type := 43, pos := "ref.go:336", after := #[{ on := 2, ground := .data }, { on := 3, ground := .data }, { on := 11, ground := .data }], guard := none }) rfl (by decide) (by kernel_rfl) (fun K hK => ?_)
      go_simp
      rw [u8sum a c i]
      refine (variables_calls _ _ _ _ _ _ _ _ ((a + c + i) % 256) _ _ _ _ _ _ hL hL2 hG (Nat.mod_lt _ (by decide))).mono ?_
      rintro e w3 ⟨rfl, hb3⟩
      obtain ⟨⟨Vk, Vi⟩, hV⟩ : ∃ V, V = varOf L G ((a + c + i) % 256) := ⟨_, rfl⟩
      rw [← hV]
      have HV := Lib.hid hV
      have hb4 : Below wr.heap.size wr w3 := ⟨hb3.os, hb3.tape, hb3.output, hb3.size, hb3.block⟩
      have S1 := Lib.hid (blk_below R1.out hb4)
      have S2 := Lib.hid (blk_below R2.out hb4)
      have S3 := Lib.hid (blk_below R3.out hb4)
      have S4 := Lib.hid (blk_below R4.out hb4)
      have S5 := Lib.hid (blk_below R5.out hb4)
      have HO3 := Lib.hid (own_below HO.out hb4)
      have HB3 := Lib.hid (HBr.out.trans (hb4.mono HBr.out.size))
      have hz3 : w2.heap.size + 1 < w3.heap.size := Nat.lt_of_lt_of_le HZ.out hb4.size
      clear hV hb3 hb4 a1 a2 a3 a4 a5 b1 b2 b3 b4 b5 z1 z2 z3 z4 z5
      refine hK.out _ _ ⟨(blk3 S1.out).1, (blk3 S2.out).1, (blk3 S3.out).1, (blk3 S5.out).1⟩ (fun hHeld => ?_)
      clear hK K
      refine HL.step_ (i := 13) (o := { dst := some 124, op := .buildSlice 44 1 #[(0, .tmp 123)], type := 44, pos := "ref.go:336", after := #[{ on := 12, ground := .data }], guard := none }) rfl (by decide) (by kernel_rfl) (fun K hK => ?_)
      go_simp
      refine hK.out _ _ ⟨(blk3 (blk_alloc S1.out _)).1, (blk3 (blk_alloc S2.out _)).1, (blk3 (blk_alloc S3.out _)).1, (blk3 (blk_alloc S5.out _)).1⟩ (fun hHeld => ?_)
      clear hK K
      try simp only [Act.put, List.setIfInBounds_toArray, List.set_cons_zero, List.set_cons_succ]
      refine HL.step_ (i := 14) (o := { dst := some 125, op := .call { callee := .builtin .append, args := #[.tmp 112, .tmp 124], argTypes := #[44, 44] }, type := 44, pos := "ref.go:336", after := #[{ on := 1, ground := .data }, { on := 13, ground := .data }, { on := 12, ground := .chain }], guard := none }) rfl (by decide) (by kernel_rfl) (fun K hK => ?_)
      rw [if_pos (by rfl)]
      refine append_step (B := w2.heap.size + 1 + 1) (w0 := w3.alloc (.cells #[.int .u8 Vk, .int .i64 Vi] 43)) _ _ 44 43 (.agg #[.int .u8 0, .int .i64 0]) 2 16 rfl Try.underlying44 info43 rfl (by decide) (.slice A i cp) i _ rfl (own_below HO3.out ((Below.refl _ _).alloc (Nat.le_refl _) _)) ⟨w3.heap.size, 0, none⟩ 1 1 [.int .u8 Vk, .int .i64 Vi] rfl rfl (new_cells _ _ _ _) ?_ ?_ (Below.refl _ _) (by omega) (by omega) ?_
      · intro u hu
        rcases List.mem_cons.1 hu with rfl | hu
        · rfl
        · obtain rfl : u = .int .i64 Vi := by simpa using hu
          rfl
      · simp
        omega
      intro v' w4 hown hbel _
      obtain ⟨A', cp', rfl, _, _⟩ := own_shape hown
      have T1 := Lib.hid ((hbel.block _ (by have := HB2.out.size; omega)).trans (blk_alloc S1.out _))
      have T2 := Lib.hid ((hbel.block _ (by have := blk_lt Q2.out; have := HZ2.out; omega)).trans (blk_alloc S2.out _))
      have T3 := Lib.hid ((hbel.block _ (by have := blk_lt Q3.out; have := HZ2.out; omega)).trans (blk_alloc S3.out _))
      have T4 := Lib.hid ((hbel.block _ (by have := blk_lt Q4.out; have := HZ2.out; omega)).trans (blk_alloc S4.out _))
      have T5 := Lib.hid ((hbel.block _ (by omega)).trans (blk_alloc S5.out _))
      obtain ⟨a5, b5, z5⟩ := blk3 T5.out
      have HO4 := Lib.hid hown
      have HB4 := Lib.hid (show Below w.heap.size w w4 from (HB3.out.alloc HB3.out.size _).trans (hbel.mono (by have := HB2.out.size; omega)))
      have hz4 : w2.heap.size + 1 < w4.heap.size := z5
      clear hown hbel
      refine hK.out _ _ ⟨(blk3 T1.out).1, (blk3 T2.out).1, (blk3 T3.out).1, (blk3 T5.out).1⟩ (fun hHeld => ?_)
      clear hK K hHeld
      try simp only [Act.put, List.setIfInBounds_toArray, List.set_cons_zero, List.set_cons_succ]
      refine HL.done_ (by kernel_rfl) ?_
      simp only [List.drop_succ_cons, List.drop_zero]
      go_wp2
      refine ⟨⟨i + 1, A', cp', by omega, by go_num, ?_, blk_far T1.out (p := ⟨w2.heap.size + 1, 5, none⟩) (by have := HB2.out.size; show w.heap.size ≠ w2.heap.size + 1; omega) _, blk_far T2.out (p := ⟨w2.heap.size + 1, 5, none⟩) (by have := blk_lt Q2.out; have := HZ2.out; show w.heap.size + 1 ≠ w2.heap.size + 1; omega) _, blk_far T3.out (p := ⟨w2.heap.size + 1, 5, none⟩) (by have := blk_lt Q3.out; have := HZ2.out; show w.heap.size + 1 + 1 ≠ w2.heap.size + 1; omega) _, blk_far T4.out (p := ⟨w2.heap.size + 1, 5, none⟩) (by have := blk_lt Q4.out; have := HZ2.out; show w.heap.size + 1 + 1 + 1 ≠ w2.heap.size + 1; omega) _, ?_, ?_, ?_⟩, by simp [intOf]; omega⟩
      · exact HB4.out.setCell (p := ⟨w2.heap.size + 1, 5, none⟩) (by have := HB2.out.size; show w.heap.size ≤ w2.heap.size + 1; omega) _
      · exact blk_set T5.out 5 _
      · have h1 := own_setCell HO4.out (p := ⟨w2.heap.size + 1, 5, none⟩) (fun e => by have : w2.heap.size + 1 + 1 ≤ w2.heap.size + 1 := (World.ownsRow.lt HO4.out _ e.symm).1; omega) (.slice A' (i + 1) cp')
        rw [List.range_succ, List.map_append, List.map_cons, List.map_nil, refCells_snoc, ← HV.out]
        exact h1
      · show _ < _
        simp
        omega
    · obtain rfl : i = N := by omega
      go_wp2
      refine bodyPost_ret (v := .agg #[.int .u8 5, .int .u8 Ak, .int .i64 Ai, .int .u8 3, .int .i64 (r : Int), .slice A i cp, .slice none 0 0]) (by rw [results_cell rfl]; go_simp) rfl ?_
      refine ⟨_, rfl, fun bs hbs => ?_, ?_⟩
      · rw [HST.out, ← HA.out]
        refine (cells7_def _ _ _ _ _ _ _ _ _).2 ⟨A, i, cp, none, 0, 0, rfl, ?_, readsBody_nil _ none⟩
        refine ReadsRefs.own (B := w2.heap.size + 1 + 1) (cp := cp) ?_ (by rw [List.length_map, List.length_range]) (by omega) (fun b hb => by have := hbs b hb; have := HB2.out.size; omega)
        exact own_set7 HO.out (by have := blk_lt Q4.out; have := HZ2.out; omega) _ _ _ _ _ _ _
      · exact below_set7 HBr.out (by omega) _ _ _ _ _ _ _
end Go.Proofs.Ytjgijbaboekghaa

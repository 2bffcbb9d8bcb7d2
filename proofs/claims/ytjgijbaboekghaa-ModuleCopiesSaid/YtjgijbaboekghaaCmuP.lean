/-
  ModuleCopies, as plain lemmas: a copy changed cell by cell; what a module of numbers has at least. No statement of its own.
-/
import Derived.Test.YtjgijbaboekghaaCpy
set_option linter.unusedSimpArgs false
set_option linter.unusedVariables false
namespace Go.Proofs.Ytjgijbaboekghaa
open Go.RowKit
/-- A value of the same kind. -/
def kinV (v v' : Value) : Prop := v' = v ∨ (∃ k x y, v = .int k x ∧ v' = .int k y) ∨ (∃ s t, v = .string s ∧ v' = .string t)
/-- What the copy's cells hold has kept its kind; all else is as it was. -/
structure Kin (RW w5 wr : World) (B pc : Nat) : Prop where
  cell : ∀ p v, RW.cell? p = some v → (∃ v', wr.cell? p = some v' ∧ kinV v v') ∧ wr.frozen? p = false ∧ B ≤ p.block ∧ p.block < pc
  os : wr.os = w5.os
  tape : wr.tape = w5.tape
  output : wr.output = w5.output
  size : wr.heap.size = w5.heap.size
  block : ∀ k, k < B ∨ pc ≤ k → wr.heap[k]? = w5.heap[k]?
theorem Kin.start {Wc w5 : World} {B : Nat} (hb : Below Wc.heap.size Wc w5) : Kin (TH Wc (List.range B)) w5 w5 B Wc.heap.size :=
  ⟨fun p v h => by
    obtain ⟨h1, h2, h3, h4⟩ := th_cell h
    have e := hb.block p.block h3
    refine ⟨⟨v, (World.cell?_of_block e).trans h1, .inl rfl⟩, (World.frozen?_of_block e).trans h4, ?_, h3⟩
    rcases Nat.lt_or_ge p.block B with h | h
    · exact absurd (List.mem_range.2 h) h2
    · exact h, rfl, rfl, rfl, rfl, fun _ _ => rfl⟩
section
variable {RW w5 wr : World} {B pc : Nat}
theorem Kin.set (h : Kin RW w5 wr B pc) {p : Addr} {v u : Value} (hp : RW.cell? p = some v) (hk : ∀ v', kinV v v' → kinV v u) : Kin RW w5 (wr.setCell p u) B pc := by
  obtain ⟨⟨v', h1, h2⟩, h3, h4, h5⟩ := h.cell p v hp
  refine ⟨fun q x hq => ?_, h.os, h.tape, h.output, (World.size_setCell _ _ _).trans h.size, fun k hk => (Below.heap_setCell wr p u k (fun e => by omega)).trans (h.block k hk)⟩
  obtain ⟨⟨x', k1, k2⟩, k3, k4, k5⟩ := h.cell q x hq
  refine ⟨?_, by rw [World.frozen?_setCell]; exact k3, k4, k5⟩
  by_cases hpq : p = q
  · subst hpq
    rw [hp] at hq
    injection hq with hq
    subst hq
    exact ⟨u, World.cell?_setCell_same _ _ _ h1, hk v' h2⟩
  · exact ⟨x', (World.cell?_setCell_other _ _ _ _ hpq).trans k1, k2⟩
theorem Kin.setInt (h : Kin RW w5 wr B pc) {p : Addr} {k : IntKind} {x : Int} (hp : RW.cell? p = some (.int k x)) (y : Int) : Kin RW w5 (wr.setCell p (.int k y)) B pc :=
  h.set hp fun _ _ => .inr (.inl ⟨k, x, y, rfl, rfl⟩)
theorem Kin.setStr (h : Kin RW w5 wr B pc) {p : Addr} {s : ByteArray} (hp : RW.cell? p = some (.string s)) (t : ByteArray) : Kin RW w5 (wr.setCell p (.string t)) B pc :=
  h.set hp fun _ _ => .inr (.inr ⟨s, t, rfl, rfl⟩)
theorem Kin.slice (h : Kin RW w5 wr B pc) {p : Addr} {a : Option Addr} {n c : Nat} (hp : RW.cell? p = some (.slice a n c)) : wr.cell? p = some (.slice a n c) := by
  obtain ⟨⟨v', h1, h2⟩, _⟩ := h.cell p _ hp
  rcases h2 with rfl | ⟨_, _, _, e, _⟩ | ⟨_, _, e, _⟩
  · exact h1
  · cases e
  · cases e
theorem Kin.num (h : Kin RW w5 wr B pc) {p : Addr} {k : IntKind} {x : Int} (hp : RW.cell? p = some (.int k x)) : ∃ y, wr.cell? p = some (.int k y) := by
  obtain ⟨⟨v', h1, h2⟩, _⟩ := h.cell p _ hp
  rcases h2 with rfl | ⟨k', x', y, e, rfl⟩ | ⟨_, _, e, _⟩
  · exact ⟨x, h1⟩
  · injection e with e1 e2
    subst e1
    exact ⟨y, h1⟩
  · cases e
theorem Kin.str (h : Kin RW w5 wr B pc) {p : Addr} {s : ByteArray} (hp : RW.cell? p = some (.string s)) : ∃ t, wr.cell? p = some (.string t) := by
  obtain ⟨⟨v', h1, h2⟩, _⟩ := h.cell p _ hp
  rcases h2 with rfl | ⟨_, _, _, e, _⟩ | ⟨_, t, e, rfl⟩
  · exact ⟨s, h1⟩
  · cases e
  · exact ⟨t, h1⟩
theorem Kin.thaw (h : Kin RW w5 wr B pc) {p : Addr} {v : Value} (hp : RW.cell? p = some v) : wr.frozen? p = false := (h.cell p v hp).2.1
theorem Kin.old (h : Kin RW w5 wr B pc) {w0 : World} (hb : Below w0.heap.size w0 w5) (hz : w0.heap.size ≤ B) : Below w0.heap.size w0 wr :=
  ⟨h.os.trans hb.os, h.tape.trans hb.tape, h.output.trans hb.output, by rw [h.size]; exact hb.size, fun k hk => (h.block k (.inl (by omega))).trans (hb.block k hk)⟩
theorem Kin.late (h : Kin RW w5 wr B pc) {z : Nat} (hz : pc ≤ z) : Sub (sans w5 (List.range z)) (sans wr (List.range z)) := sub_sans fun k hk hkb =>
  ⟨hkb, h.block k (.inr (by
    rcases Nat.lt_or_ge k z with h1 | h1
    · exact absurd (List.mem_range.2 h1) hkb
    · omega))⟩
theorem Kin.blk (h : Kin RW w5 wr B pc) {k : Nat} {o : Obj} (hk : k < B ∨ pc ≤ k) (ho : w5.heap[k]? = some o) : wr.heap[k]? = some o := (h.block k hk).trans ho
end
/-! What a module of numbers has at least. -/
theorem addTo_keeps {fs : List Fn} {j q : Nat} {s : St} {y : Fn} (h : fs[q]? = some y) : ∃ x, (addTo fs j s)[q]? = some x ∧ x.name = y.name ∧ x.locals = y.locals := by
  unfold addTo
  rw [List.getElem?_modify, h]
  by_cases hj : j = q
  · refine ⟨{ y with body := y.body ++ [s] }, by simp [hj], rfl, rfl⟩
  · exact ⟨y, by simp [hj], rfl, rfl⟩
theorem mk2_first (g f i : Nat) (hi : 0 < i) : (mk2 g f i).2[0]? = some (fnOf f (g % 4) 0) := by
  induction i with
  | zero => omega
  | succ i ih =>
    rw [mk2]
    rcases Nat.eq_zero_or_pos i with h | h
    · subst h
      show ([] ++ [fnOf f (mk2 g f 0).1.length 0] : List Fn)[0]? = _
      have : (mk2 g f 0).1.length = g % 4 := by rw [mk2]; show (globStrs g (g % 4)).length = _; unfold globStrs; rw [List.length_map, List.length_range]
      rw [this]; rfl
    · have hl := mk2_length g f i
      show ((mk2 g f i).2 ++ _)[0]? = _
      rw [List.getElem?_append_left (by omega)]
      exact ih h
theorem bodD_first (d : Dr) (i : Nat) : ∃ x, (bodD d i)[0]? = some x ∧ x.name = ((d.g % 4 : Nat) : Int) ∧ x.locals.length = nlD d.f 0 := by
  induction i with
  | zero =>
    refine ⟨_, mk2_first d.g d.f (nD d.f) (by unfold nD; omega), rfl, ?_⟩
    show (List.map _ _).length = _
    rw [List.length_map, List.length_range]
  | succ i ih =>
    obtain ⟨y, h1, h2, h3⟩ := ih
    rw [bodD]
    obtain ⟨x, k1, k2, k3⟩ := addTo_keeps (j := jD (nD d.f) d.acts.length i) (s := stOf d.g d.f (jD (nD d.f) d.acts.length i) (actAt d.acts i)) h1
    exact ⟨x, k1, k2.trans h2, by rw [k3]; exact h3⟩
theorem makeM_first (d : Dr) : ∃ x, (makeM d).funcs[0]? = some x ∧ 0 < x.locals.length := by
  obtain ⟨x, h1, h2, h3⟩ := bodD_first d d.acts.length
  refine ⟨canonF (canonL (rawM d) (rawM d).strings.length) (rawM d).strings x, ?_, ?_⟩
  · show (((rawM d).funcs).map _)[0]? = _
    rw [List.getElem?_map]
    show Option.map _ (bodD d d.acts.length)[0]? = _
    rw [h1]; rfl
  · show 0 < (List.map _ x.locals).length
    rw [List.length_map, h3]
    unfold nlD
    omega
theorem canonL_pos {m : Mod} {i : Nat} (hu : usedIn m i = true) : ∀ k, i < k → canonL m k ≠ [] := by
  have hstep : ∀ k, canonL m k ≠ [] → canonL m (k + 1) ≠ [] := fun k h => by
    rw [canonL]
    split
    · intro e
      have := congrArg List.length e
      rw [bub_length, List.length_append] at this
      simp at this
    · exact h
  intro k hk
  induction k with
  | zero => omega
  | succ k ih =>
    rcases Nat.lt_or_ge i k with h | h
    · exact hstep k (ih h)
    · obtain rfl : i = k := by omega
      rw [canonL]
      split
      · intro e
        have := congrArg List.length e
        rw [bub_length, List.length_append] at this
        simp at this
      · rename_i hn
        intro e
        refine hn ⟨hu, ?_⟩
        rw [e]
        show (-1 : Int) < 0
        decide
theorem makeM_strs (d : Dr) : 0 < (makeM d).strings.length := by
  obtain ⟨x, h1, h2, h3⟩ := bodD_first d d.acts.length
  have hu : usedIn (rawM d) ((d.g % 4 : Nat) : Int) = true := by
    unfold usedIn
    rw [Bool.or_eq_true]
    right
    rw [List.any_eq_true]
    exact ⟨x, List.mem_of_getElem? h1, by simp [h2]⟩
  have hlen : d.g % 4 < (rawM d).strings.length := by
    show d.g % 4 < (mk2 d.g d.f (nD d.f)).1.length
    have : ∀ i, 0 < i → d.g % 4 < (mk2 d.g d.f i).1.length := by
      intro i hi
      induction i with
      | zero => omega
      | succ i ih =>
        rw [mk2]
        show _ < ((mk2 d.g d.f i).1 ++ fnStrs d.f i).length
        rw [List.length_append, fnStrs_length]
        rcases Nat.eq_zero_or_pos i with h | h
        · subst h
          have : (mk2 d.g d.f 0).1.length = d.g % 4 := by rw [mk2]; show (globStrs d.g (d.g % 4)).length = _; unfold globStrs; rw [List.length_map, List.length_range]
          omega
        · have := ih h
          omega
    exact this _ (by unfold nD; omega)
  have := canonL_pos hu _ hlen
  show 0 < (canonL (rawM d) (rawM d).strings.length).length
  exact List.length_pos_iff.2 this
end Go.Proofs.Ytjgijbaboekghaa

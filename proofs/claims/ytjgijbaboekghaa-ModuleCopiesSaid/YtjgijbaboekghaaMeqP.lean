/-
  ModuleEqual (function 5): what is behind its walk. No statement of its own.
-/
import Derived.Test.YtjgijbaboekghaaMakeS
import Derived.Test.YtjgijbaboekghaaSameM
import Derived.Test.YtjgijbaboekghaaCame
import Derived.Laws.OwnMore
set_option linter.unusedSimpArgs false
set_option linter.unusedVariables false
namespace Go.Proofs.Ytjgijbaboekghaa
open Go.RowKit
/-- A module whose row of functions is the call's own, laid behind B. -/
structure Fresh (B p : Nat) (w : World) (sv gv ev : Value) (g n cp : Nat) (xs : List Value) (Y : Mod) : Prop where
  len : n = Y.funcs.length
  le : n ≤ 1000
  pos : 0 < n
  base : B ≤ g
  row : w.ownsRow B 35 5 (.slice (some ⟨g, 0, none⟩) n cp) n xs
  fns : FnsAt (sans w [g, p]) xs Y.funcs
  strs : ReadsS (sans w [g, p]) sv Y.strings
  globals : ReadsI (sans w [g, p]) gv Y.globals
  entries : ReadsI (sans w [g, p]) ev Y.entries
theorem fresh_of {w w' : World} {B p : Nat} {sv gv ev : Value} {A : Option Addr} {n cp : Nat} {xs : List Value} {d : Dr} (hB : B ≤ w.heap.size) (hpw : w'.heap.size ≤ p) (hn : n = (makeM d).funcs.length) (hn1 : n ≤ 1000) (ho : w'.ownsRow w.heap.size 35 5 (.slice A n cp) n xs)
    (hf : FnsAt (sans w' ((Value.slice A n cp).ownBlock.toList ++ [])) xs (makeM d).funcs) (hs : ReadsS (sans w' ((Value.slice A n cp).ownBlock.toList ++ [])) sv (makeM d).strings) (hg : ReadsI (sans w' ((Value.slice A n cp).ownBlock.toList ++ [])) gv (makeM d).globals) (he : ReadsI (sans w' ((Value.slice A n cp).ownBlock.toList ++ [])) ev (makeM d).entries) :
    ∃ g, A = some ⟨g, 0, none⟩ ∧ Fresh B p w' sv gv ev g n cp xs (makeM d) := by
  have hp : 0 < n := by rw [hn, makeM_len]; unfold nD; omega
  obtain ⟨g, rfl, hg1, hg2⟩ := own_addr ho hp
  have hsub : Sub (sans w' ([g] ++ [])) (sans w' [g, p]) := sub_sans fun k hk hkb => ⟨fun hm => by
    simp at hkb hm
    omega, rfl⟩
  exact ⟨g, rfl, hn, hn1, hp, by omega, own_base ho hB, hf.sub hsub, hs.sub hsub, hg.sub hsub, he.sub hsub⟩
theorem fresh_of4 {w w' : World} {B p : Nat} {sv gv ev : Value} {A : Option Addr} {n cp : Nat} {xs : List Value} {d : Dr} (hB : B ≤ w.heap.size) (hpw : p < w.heap.size) (hn : n = (makeM d).funcs.length) (hn1 : n ≤ 1000) (ho : w'.ownsRow w.heap.size 35 5 (.slice A n cp) n xs)
    (hf : FnsAt (sans w' ((Value.slice A n cp).ownBlock.toList ++ [p])) xs (makeM d).funcs) (hs : ReadsS (sans w' ((Value.slice A n cp).ownBlock.toList ++ [p])) sv (makeM d).strings) (hg : ReadsI (sans w' ((Value.slice A n cp).ownBlock.toList ++ [p])) gv (makeM d).globals) (he : ReadsI (sans w' ((Value.slice A n cp).ownBlock.toList ++ [p])) ev (makeM d).entries) :
    ∃ g, A = some ⟨g, 0, none⟩ ∧ g ≠ p ∧ ∀ v0 v1 v2 v3, Fresh B p ((((w'.setCell ⟨p, 0, none⟩ v0).setCell ⟨p, 1, none⟩ v1).setCell ⟨p, 2, none⟩ v2).setCell ⟨p, 3, none⟩ v3) sv gv ev g n cp xs (makeM d) := by
  have hp : 0 < n := by rw [hn, makeM_len]; unfold nD; omega
  obtain ⟨g, rfl, hg1, hg2⟩ := own_addr ho hp
  refine ⟨g, rfl, by omega, fun v0 v1 v2 v3 => ?_⟩
  have hsub : Sub (sans w' ([g] ++ [p])) (sans ((((w'.setCell ⟨p, 0, none⟩ v0).setCell ⟨p, 1, none⟩ v1).setCell ⟨p, 2, none⟩ v2).setCell ⟨p, 3, none⟩ v3) [g, p]) :=
    set4_sub w' p ([g] ++ [p]) v0 v1 v2 v3 (by simp)
  exact ⟨hn, hn1, hp, by omega, own_base (own_set4 ho hpw v0 v1 v2 v3) hB, hf.sub hsub, hs.sub hsub, hg.sub hsub, he.sub hsub⟩
theorem Fresh.reads {B p : Nat} {w : World} {sv gv ev : Value} {g n cp : Nat} {xs : List Value} {Y : Mod} (h : Fresh B p w sv gv ev g n cp xs Y) : ReadsM w (.agg #[sv, gv, .slice (some ⟨g, 0, none⟩) n cp, ev]) Y :=
  ⟨sv, gv, _, ev, rfl, h.strs.sub (sans_sub _ _), h.globals.sub (sans_sub _ _), ReadsF.own h.row h.len.symm h.le (h.fns.sub (sans_sub _ _)), h.entries.sub (sans_sub _ _)⟩
theorem Fresh.below {B p : Nat} {w w' : World} {sv gv ev : Value} {g n cp : Nat} {xs : List Value} {Y : Mod} (h : Fresh B p w sv gv ev g n cp xs Y) (hb : Below w.heap.size w w') : Fresh B p w' sv gv ev g n cp xs Y :=
  ⟨h.len, h.le, h.pos, h.base, own_below h.row hb, h.fns.sub (sub_sans_below hb), h.strs.sub (sub_sans_below hb), h.globals.sub (sub_sans_below hb), h.entries.sub (sub_sans_below hb)⟩
/-- The first function's five cells. -/
theorem Fresh.five {B p : Nat} {w : World} {sv gv ev : Value} {g n cp : Nat} {xs : List Value} {Y : Mod} {f : Fn} {r : List Fn} (h : Fresh B p w sv gv ev g n cp xs Y) (hf : Y.funcs = f :: r) :
    ∃ la lc ka kc ba bl bc ys, xs = [.int .i64 f.name, .int .i64 (f.params : Nat), .slice la f.locals.length lc, .slice ka f.sites.length kc, .slice ba bl bc] ++ ys ∧
      ReadsI (sans w [g, p]) (.slice la f.locals.length lc) f.locals ∧ ReadsI (sans w [g, p]) (.slice ka f.sites.length kc) f.sites ∧ bl ≤ 1000 ∧ ReadsBody (sans w [g, p]) ba bl f.body ∧ f.locals.length ≤ 1000 ∧ FnsAt (sans w [g, p]) ys r ∧
      (w.cell? ⟨g, 0, none⟩ = some (.int .i64 f.name) ∧ w.cell? ⟨g, 1, none⟩ = some (.int .i64 (f.params : Nat)) ∧ w.cell? ⟨g, 2, none⟩ = some (.slice la f.locals.length lc) ∧ w.cell? ⟨g, 3, none⟩ = some (.slice ka f.sites.length kc) ∧ w.cell? ⟨g, 4, none⟩ = some (.slice ba bl bc)) ∧ (∀ o, o < 5 → w.frozen? ⟨g, o, none⟩ = false) ∧ g < w.heap.size := by
  have hfn := h.fns
  rw [hf] at hfn
  obtain ⟨vs, ys, e, ⟨lv, sv, bv, rfl, k1, k2, ⟨ba, bl, bc, rfl, k3, k4⟩⟩, hy⟩ := hfn
  obtain ⟨la, lc, rfl, i1⟩ := k1.shape
  obtain ⟨ka, kc, rfl, i2⟩ := k2.shape
  have hc : ∀ o v, xs[o]? = some v → w.cell? ⟨g, o, none⟩ = some v ∧ w.frozen? ⟨g, o, none⟩ = false := fun o v hv => row_cell h.row hv
  refine ⟨la, lc, ka, kc, ba, bl, bc, ys, e, k1, k2, k3, k4, i1, hy, ⟨(hc 0 _ (by rw [e]; rfl)).1, (hc 1 _ (by rw [e]; rfl)).1, (hc 2 _ (by rw [e]; rfl)).1, (hc 3 _ (by rw [e]; rfl)).1, (hc 4 _ (by rw [e]; rfl)).1⟩, fun o ho => ?_, (own_addr h.row h.pos).elim fun g' hg => by
    have h1 := hg.1
    injection h1 with h1
    injection h1 with h1
    rw [h1]; exact hg.2.2⟩
  have hl : o < xs.length := by rw [e]; simp; omega
  exact (hc o _ (List.getElem?_eq_getElem hl)).2
/-- A cell of the first function is stored into. -/
theorem Fresh.set {B p : Nat} {w : World} {sv gv ev : Value} {g n cp : Nat} {xs ys : List Value} {Y : Mod} {f f' : Fn} {r : List Fn} (h : Fresh B p w sv gv ev g n cp xs Y) (hf : Y.funcs = f :: r) {vs : List Value} (hx : xs = vs ++ ys) (hvs : vs.length = 5) (hy : FnsAt (sans w [g, p]) ys r) (k : Nat) (u : Value)
    (hk : k < 5) (h5 : Cells5 (sans w [g, p]) (vs.set k u) f') : Fresh B p (w.setCell ⟨g, k, none⟩ u) sv gv ev g n cp (vs.set k u ++ ys) { Y with funcs := f' :: r } := by
  have hsub : Sub (sans w [g, p]) (sans (w.setCell ⟨g, k, none⟩ u) [g, p]) := sub_store (p := ⟨g, k, none⟩) (by simp)
  refine ⟨by rw [h.len, hf]; rfl, h.le, h.pos, h.base, ?_, ⟨_, _, rfl, h5.sub hsub, hy.sub hsub⟩, h.strs.sub hsub, h.globals.sub hsub, h.entries.sub hsub⟩
  have := own_set h.row (i := k) u
  rw [hx, List.set_append, if_pos (by omega)] at this
  exact this
/-- A cell of the module's own box is stored into. -/
theorem Fresh.box {B p : Nat} {w : World} {sv gv ev : Value} {g n cp : Nat} {xs : List Value} {Y : Mod} (h : Fresh B p w sv gv ev g n cp xs Y) (hgp : p ≠ g) (k : Nat) (u : Value) : Fresh B p (w.setCell ⟨p, k, none⟩ u) sv gv ev g n cp xs Y :=
  have hsub : Sub (sans w [g, p]) (sans (w.setCell ⟨p, k, none⟩ u) [g, p]) := sub_store (p := ⟨p, k, none⟩) (by simp)
  ⟨h.len, h.le, h.pos, h.base, own_setCell h.row (by simpa [Value.ownBlock] using hgp) u, h.fns.sub hsub, h.strs.sub hsub, h.globals.sub hsub, h.entries.sub hsub⟩
theorem Fresh.reads' {B p : Nat} {w : World} {sv gv ev sv' : Value} {g n cp : Nat} {xs : List Value} {Y : Mod} {S : List ByteArray} (h : Fresh B p w sv gv ev g n cp xs Y) (hs : ReadsS w sv' S) : ReadsM w (.agg #[sv', gv, .slice (some ⟨g, 0, none⟩) n cp, ev]) { Y with strings := S } :=
  ⟨sv', gv, _, ev, rfl, hs, h.globals.sub (sans_sub _ _), ReadsF.own h.row h.len.symm h.le (h.fns.sub (sans_sub _ _)), h.entries.sub (sans_sub _ _)⟩
theorem strs_one (xs : List ByteArray) : ∀ u ∈ strs xs, u.oneCell' = true := by
  intro u hu
  unfold strs at hu
  obtain ⟨x, _, rfl⟩ := List.mem_map.1 hu
  rfl
theorem ints_one (xs : List Int) : ∀ u ∈ ints xs, u.oneCell' = true := by
  intro u hu
  unfold ints at hu
  obtain ⟨x, _, rfl⟩ := List.mem_map.1 hu
  rfl
theorem tail_ints {xs : List Int} {w : World} {a : Option Addr} {n c : Nat} (h : ReadsI w (.slice a n c) xs) (hp : 0 < n) : ∃ b off, a = some ⟨b, off, none⟩ ∧ xs.tail.length = n - 1 ∧ ∀ j u, (ints xs.tail)[j]? = some u → w.cell? ((⟨b, off + 1, none⟩ : Addr).add j) = some u := by
  obtain ⟨a', n', c', e, h1, h2, h3⟩ := h
  injection e with e1 e2 e3
  subst e1 e2 e3
  obtain ⟨b, off, rfl, hc⟩ := h3 hp
  refine ⟨b, off, rfl, by rw [List.length_tail, h1], fun j u hu => ?_⟩
  cases xs with
  | nil => simp [ints] at hu
  | cons x t =>
    have hj : j < t.length := by have := (List.getElem?_eq_some_iff.1 hu).1; simpa [ints] using this
    have h1' : t.length + 1 = n := h1
    have := hc (j + 1) (by omega)
    rw [add_none, show off + 1 + j = off + (j + 1) by omega, this]
    unfold ints at hu
    rw [List.getElem?_map] at hu
    simp only [List.tail_cons] at hu
    rw [List.getD_cons_succ, List.getD_eq_getElem?_getD]
    cases ht : t[j]? with
    | none => rw [ht] at hu; cases hu
    | some y => rw [ht] at hu; injection hu with hu; rw [← hu]; rfl
theorem tail_strs {xs : List ByteArray} {w : World} {a : Option Addr} {n c : Nat} (h : ReadsS w (.slice a n c) xs) (hp : 0 < n) : ∃ b off, a = some ⟨b, off, none⟩ ∧ xs.tail.length = n - 1 ∧ ∀ j u, (strs xs.tail)[j]? = some u → w.cell? ((⟨b, off + 1, none⟩ : Addr).add j) = some u := by
  obtain ⟨a', n', c', e, h1, h2, h3⟩ := h
  injection e with e1 e2 e3
  subst e1 e2 e3
  obtain ⟨b, off, rfl, hc⟩ := h3 hp
  refine ⟨b, off, rfl, by rw [List.length_tail, h1], fun j u hu => ?_⟩
  cases xs with
  | nil => simp [strs] at hu
  | cons x t =>
    have hj : j < t.length := by have := (List.getElem?_eq_some_iff.1 hu).1; simpa [strs] using this
    have h1' : t.length + 1 = n := h1
    have := hc (j + 1) (by omega)
    rw [add_none, show off + 1 + j = off + (j + 1) by omega, this]
    unfold strs at hu
    rw [List.getElem?_map] at hu
    simp only [List.tail_cons] at hu
    rw [List.getD_cons_succ, List.getD_eq_getElem?_getD]
    cases ht : t[j]? with
    | none => rw [ht] at hu; cases hu
    | some y => rw [ht] at hu; injection hu with hu; rw [← hu]; rfl
theorem StsAt.cons {w : World} {vs xs : List Value} {l : List St} {s : St} (hv : Cells7 w vs s) (h : StsAt w xs l) : StsAt w (vs ++ xs) (s :: l) := by
  have h7 := hv.length
  refine ⟨by rw [List.length_append, h7, h.1, List.length_cons]; omega, fun i t hi => ?_⟩
  cases i with
  | zero =>
    simp at hi
    subst hi
    refine ⟨vs, hv, fun j v hj => ?_⟩
    have := (List.getElem?_eq_some_iff.1 hj).1
    rw [Nat.zero_mul, Nat.zero_add, List.getElem?_append_left this]
    exact hj
  | succ i =>
    obtain ⟨us, h1, h2⟩ := h.2 i t (by simpa using hi)
    refine ⟨us, h1, fun j v hj => ?_⟩
    rw [List.getElem?_append_right (by omega), h7, show (i + 1) * 7 + j - 7 = i * 7 + j by omega]
    exact h2 j v hj
/-- The cells of statements, as a list. -/
theorem body_cells {w : World} {b off : Nat} {l : List St} (h : CellsAll w b off l) : ∃ xs : List Value, StsAt w xs l ∧ (∀ (j : Nat) u, xs[j]? = some u → w.cell? ⟨b, off + j, none⟩ = some u) ∧ ∀ u ∈ xs, u.oneCell' = true := by
  induction l generalizing off with
  | nil => exact ⟨[], ⟨rfl, fun i s hi => by simp at hi⟩, fun j u hu => by simp at hu, fun u hu => by simp at hu⟩
  | cons s r ih =>
    rw [CellsAll] at h
    obtain ⟨⟨vs, h1, h2⟩, h3⟩ := h
    obtain ⟨xs, k1, k2, k3⟩ := ih h3
    have h7 := h1.length
    refine ⟨vs ++ xs, StsAt.cons h1 k1, fun j u hu => ?_, fun u hu => ?_⟩
    · rcases Nat.lt_or_ge j vs.length with hj | hj
      · rw [List.getElem?_append_left hj] at hu
        exact h2 j u hu
      · rw [List.getElem?_append_right hj] at hu
        have := k2 _ u hu
        rw [show off + j = off + 7 + (j - vs.length) by omega]
        exact this
    · rcases List.mem_append.1 hu with hu | hu
      · obtain ⟨k, ak, ai, bk, bi, args, body⟩ := s
        obtain ⟨aa, al, ac, ba, bl, bc, rfl, _⟩ := (cells7_def _ _ _ _ _ _ _ _ _).1 h1
        exact one7 _ _ _ _ _ _ _ _ _ _ _ u hu
      · exact k3 u hu
theorem body_list {w : World} {a : Option Addr} {n : Nat} {l : List St} (h : ReadsBody w a n l) (hn : 0 < n) : ∃ b off xs, a = some ⟨b, off, none⟩ ∧ StsAt w xs l ∧ xs.length = n * 7 ∧ (∀ (j : Nat) u, xs[j]? = some u → w.cell? ((⟨b, off, none⟩ : Addr).add j) = some u) ∧ ∀ u ∈ xs, u.oneCell' = true := by
  obtain ⟨b, off, e, hc⟩ := h.2.2 hn
  obtain ⟨xs, k1, k2, k3⟩ := body_cells hc
  exact ⟨b, off, xs, e, k1, by rw [k1.1, h.1], fun j u hu => by rw [add_none]; exact k2 j u hu, k3⟩
theorem ret_cells (w : World) : Cells7 w [.int .u8 6, .int .u8 0, .int .i64 0, .int .u8 0, .int .i64 0, .slice none 0 0, .slice none 0 0] (.mk 6 0 0 0 0 [] []) :=
  (cells7_def _ _ _ _ _ _ _ _ _).2 ⟨none, 0, 0, none, 0, 0, rfl, ⟨rfl, by decide, fun h => absurd h (Nat.lt_irrefl _)⟩, ⟨rfl, by decide, fun h => absurd h (Nat.lt_irrefl _)⟩⟩
theorem blk_cells {w : World} {ba : Option Addr} {bl bc : Nat} {l : List St} (h : ReadsBody w ba bl l) : Cells7 w [.int .u8 7, .int .u8 0, .int .i64 0, .int .u8 0, .int .i64 0, .slice none 0 0, .slice ba bl bc] (.mk 7 0 0 0 0 [] l) :=
  (cells7_def _ _ _ _ _ _ _ _ _).2 ⟨none, 0, 0, ba, bl, bc, rfl, ⟨rfl, by decide, fun h => absurd h (Nat.lt_irrefl _)⟩, h⟩
theorem ReadsBody.nil (w : World) (a : Option Addr) : ReadsBody w a 0 [] := ⟨rfl, by decide, fun h => absurd h (Nat.lt_irrefl _)⟩
theorem run_append_empty {P : Program} {w : World} (base : Nat) (t ty e : TypeId) (i : TypeInfo) (size : Nat) (ht : P.underlying t = some (.slice e)) (hi : P.info? e = some i)
    (v : Value) (n : Nat) (xs : List Value) (hown : w.ownsRow base e size v n xs) (A : Option Addr) (c : Nat) :
    (Builtin.append_ #[t, t] ty #[v, .slice A 0 c]).run P w = .ok v w := by
  cases A with
  | none =>
    rcases hown.2 with ⟨rfl, rfl⟩ | ⟨g, cap, cur, rfl, _, _, hnc, _⟩
    · simp [Builtin.append_, run_underlying ht, sizeOf, typeInfo, hi, Builtin.lenOf, Builtin.firstCells]
    · simp [Builtin.append_, run_underlying ht, sizeOf, typeInfo, hi, Builtin.lenOf, Builtin.firstCells, hnc, storeCells]
  | some a =>
    rcases hown.2 with ⟨rfl, rfl⟩ | ⟨g, cap, cur, rfl, _, _, hnc, _⟩
    · simp [Builtin.append_, run_underlying ht, sizeOf, typeInfo, hi, Builtin.lenOf, Builtin.firstCells, loadCells, loadCellsFrom]
    · simp [Builtin.append_, run_underlying ht, sizeOf, typeInfo, hi, Builtin.lenOf, Builtin.firstCells, hnc, storeCells, loadCells, loadCellsFrom]
theorem append_empty {P : Program} {w : World} {ops : Array Oper} {rest : List Oper} {o : Oper} {a : Act} {Q : Exit → Act → World → Prop} (hgd : o.guard = none) (s x : Operand) (t e : TypeId) (z : Value) (size bytes : Nat)
    (ho : o.op = .call { callee := .builtin .append, args := #[s, x], argTypes := #[t, t] }) (ht : P.underlying t = some (.slice e)) (hinfo : (P.info? e).map (fun i => (i.zero, i.size, i.bytes)) = some (some z, size, bytes))
    (base : Nat) (v : Value) (n : Nat) (xs : List Value) (hs : a.eval s = v) (hown : w.ownsRow base e size v n xs) (A : Option Addr) (c : Nat) (hx : a.eval x = .slice A 0 c)
    (h : wpList P ops Q rest (a.put o.dst v) w) : wpList P ops Q (o :: rest) a w := by
  obtain ⟨i0, hi, hzz⟩ := Option.map_eq_some_iff.1 hinfo
  refine wpList_plain hgd fun K hK => ?_
  have hrun := run_append_empty (P := P) (w := w) base t o.type e i0 size ht hi v n xs hown A c
  unfold Oper.wp
  simp [execOp, ho, resolve, invoke, builtin, hs, hx, hrun, Result.andThen]
  exact hK _ _ h
theorem append_empty_step {P : Program} {w : World} {o : Oper} {a : Act} {K : Act → World → Prop} {Q : Exit → Act → World → Prop} (s x : Operand) (t e : TypeId) (z : Value) (size bytes : Nat)
    (ho : o.op = .call { callee := .builtin .append, args := #[s, x], argTypes := #[t, t] }) (ht : P.underlying t = some (.slice e)) (hinfo : (P.info? e).map (fun i => (i.zero, i.size, i.bytes)) = some (some z, size, bytes))
    (base : Nat) (v : Value) (n : Nat) (xs : List Value) (hs : a.eval s = v) (hown : w.ownsRow base e size v n xs) (A : Option Addr) (c : Nat) (hx : a.eval x = .slice A 0 c)
    (h : K (a.put o.dst v) w) : o.wp P a w K Q := by
  obtain ⟨i0, hi, hzz⟩ := Option.map_eq_some_iff.1 hinfo
  have hrun := run_append_empty (P := P) (w := w) base t o.type e i0 size ht hi v n xs hown A c
  unfold Oper.wp
  simp [execOp, ho, resolve, invoke, builtin, hs, hx, hrun, Result.andThen]
  exact h
end Go.Proofs.Ytjgijbaboekghaa

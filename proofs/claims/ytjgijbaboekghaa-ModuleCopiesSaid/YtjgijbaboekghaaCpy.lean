/-
  module.Copy (function 16): a module, copied. No statement of its own.
-/
import Derived.Test.YtjgijbaboekghaaBdy
import Derived.Test.YtjgijbaboekghaaEqM
set_option linter.unusedSimpArgs false
set_option linter.unusedVariables false
namespace Go.Proofs.Ytjgijbaboekghaa
open Go.RowKit
theorem ints_list {w : World} {a : Option Addr} {n c : Nat} {xs : List Int} (h : ReadsI w (.slice a n c) xs) : xs.length = n ∧ n ≤ 1000 ∧ (0 < n → ∃ b off, a = some ⟨b, off, none⟩ ∧ ∀ (j : Nat) u, (ints xs)[j]? = some u → w.cell? ⟨b, off + j, none⟩ = some u) := by
  obtain ⟨a', n', c', e, h1, h2, h3⟩ := h
  injection e with e1 e2 e3
  subst e1 e2 e3
  refine ⟨h1, h2.1, fun hp => ?_⟩
  obtain ⟨b, off, e, hc⟩ := h3 hp
  refine ⟨b, off, e, fun j u hu => ?_⟩
  unfold ints at hu
  rw [List.getElem?_map] at hu
  cases hx : xs[j]? with
  | none => rw [hx] at hu; cases hu
  | some x =>
    rw [hx] at hu
    injection hu with hu
    have hj := (List.getElem?_eq_some_iff.1 hx).1
    have := hc j (by omega)
    rw [List.getD_eq_getElem?_getD, hx] at this
    rw [← hu]; exact this
theorem strs_list {w : World} {a : Option Addr} {n c : Nat} {xs : List ByteArray} (h : ReadsS w (.slice a n c) xs) : xs.length = n ∧ n ≤ 1000 ∧ (0 < n → ∃ b off, a = some ⟨b, off, none⟩ ∧ ∀ (j : Nat) u, (strs xs)[j]? = some u → w.cell? ⟨b, off + j, none⟩ = some u) := by
  obtain ⟨a', n', c', e, h1, h2, h3⟩ := h
  injection e with e1 e2 e3
  subst e1 e2 e3
  refine ⟨h1, h2.1, fun hp => ?_⟩
  obtain ⟨b, off, e, hc⟩ := h3 hp
  refine ⟨b, off, e, fun j u hu => ?_⟩
  unfold strs at hu
  rw [List.getElem?_map] at hu
  cases hx : xs[j]? with
  | none => rw [hx] at hu; cases hu
  | some x =>
    rw [hx] at hu
    injection hu with hu
    have hj := (List.getElem?_eq_some_iff.1 hx).1
    have := hc j (by omega)
    rw [List.getD_eq_getElem?_getD, hx] at this
    rw [← hu]; exact this
theorem clone_readsI {w w' : World} {n : Nat} {xs : List Int} {v : Value} {bs : List Nat} (h : Cloned w 3 1 n (ints xs) v w') (hl : xs.length = n) (hn : n ≤ 1000) (hbs : ∀ b ∈ bs, b < w.heap.size) : ReadsI (TH w' bs) v xs := by
  obtain ⟨b, c, rfl, hle⟩ := h.shape
  rcases Nat.eq_zero_or_pos n with h0 | h0
  · subst h0
    exact ⟨b, 0, c, rfl, hl, ⟨by omega, by omega⟩, fun h => absurd h (Nat.lt_irrefl _)⟩
  · have ho := h.own h0
    exact ReadsI.own ho hl hn fun k hk g hg e => by
      subst hg e
      exact own_thaw ho (fun b hb e => by have := (World.ownsRow.lt ho k rfl).1; have := hbs b hb; omega) hk
theorem clone_readsS {w w' : World} {n : Nat} {xs : List ByteArray} {v : Value} {bs : List Nat} (h : Cloned w 9 1 n (strs xs) v w') (hl : xs.length = n) (hn : n ≤ 1000) (hbs : ∀ b ∈ bs, b < w.heap.size) : ReadsS (TH w' bs) v xs := by
  obtain ⟨b, c, rfl, hle⟩ := h.shape
  rcases Nat.eq_zero_or_pos n with h0 | h0
  · subst h0
    exact ⟨b, 0, c, rfl, hl, ⟨by omega, by omega⟩, fun h => absurd h (Nat.lt_irrefl _)⟩
  · have ho := h.own h0
    exact ReadsS.own ho hl hn fun k hk g hg e => by
      subst hg e
      exact own_thaw ho (fun b hb e => by have := (World.ownsRow.lt ho k rfl).1; have := hbs b hb; omega) hk
theorem five_one (f : Fn) {lv sv bv : Value} (h1 : lv.oneCell' = true) (h2 : sv.oneCell' = true) (h3 : bv.oneCell' = true) : ∀ u ∈ [Value.int .i64 f.name, .int .i64 (f.params : Nat), lv, sv, bv], u.oneCell' = true := by
  intro u hu
  simp only [List.mem_cons, List.not_mem_nil, or_false] at hu
  rcases hu with rfl | rfl | rfl | rfl | rfl
  · rfl
  · rfl
  · exact h1
  · exact h2
  · exact h3
theorem fns_cells {w : World} {b : Nat} : ∀ (fs : List Fn) (off : Nat), (∀ (i : Nat) f, fs[i]? = some f → ∃ vs, Cells5 w vs f ∧ ∀ (j : Nat) v, vs[j]? = some v → w.cell? ⟨b, off + i * 5 + j, none⟩ = some v) → ∃ xs, FnsAt w xs fs ∧ (∀ (j : Nat) u, xs[j]? = some u → w.cell? ⟨b, off + j, none⟩ = some u) ∧ ∀ u ∈ xs, u.oneCell' = true
  | [], off, _ => ⟨[], rfl, fun j u hu => by simp at hu, fun u hu => by simp at hu⟩
  | f :: r, off, h => by
    obtain ⟨vs, h1, h2⟩ := h 0 f rfl
    obtain ⟨xs, k1, k2, k3⟩ := fns_cells r (off + 5) (fun i g hg => by
      obtain ⟨vs, p1, p2⟩ := h (i + 1) g (by simpa using hg)
      exact ⟨vs, p1, fun j v hv => by have := p2 j v hv; rwa [show off + (i + 1) * 5 + j = off + 5 + i * 5 + j by omega] at this⟩)
    have h5 := h1.length
    refine ⟨vs ++ xs, ⟨vs, xs, rfl, h1, k1⟩, fun j u hu => ?_, fun u hu => ?_⟩
    · rcases Nat.lt_or_ge j vs.length with hj | hj
      · rw [List.getElem?_append_left hj] at hu
        have := h2 j u hu
        rwa [show off + 0 * 5 + j = off + j by omega] at this
      · rw [List.getElem?_append_right hj] at hu
        have := k2 _ u hu
        rwa [show off + 5 + (j - vs.length) = off + j by omega] at this
    · rcases List.mem_append.1 hu with hu | hu
      · obtain ⟨lv, sv, bv, rfl, ⟨_, _, _, rfl, _⟩, ⟨_, _, _, rfl, _⟩, ⟨_, _, _, rfl, _⟩⟩ := h1
        exact five_one f rfl rfl rfl u hu
      · exact k3 u hu
theorem fns_list {w : World} {a : Option Addr} {n c : Nat} {fs : List Fn} (h : ReadsF w (.slice a n c) fs) (hp : 0 < n) : fs.length = n ∧ n ≤ 1000 ∧ ∃ b off xs, a = some ⟨b, off, none⟩ ∧ FnsAt w xs fs ∧ (∀ (j : Nat) u, xs[j]? = some u → w.cell? ⟨b, off + j, none⟩ = some u) ∧ ∀ u ∈ xs, u.oneCell' = true := by
  obtain ⟨a', n', c', e, h1, h2, h3⟩ := h
  injection e with e1 e2 e3
  subst e1 e2 e3
  obtain ⟨b, off, e, hc⟩ := h3 hp
  obtain ⟨xs, k1, k2, k3⟩ := fns_cells fs off hc
  exact ⟨h1, h2, b, off, xs, e, k1, k2, k3⟩
theorem own_lower {w : World} {B B' size n : Nat} {e : TypeId} {v : Value} {xs : List Value} (h : w.ownsRow B e size v n xs) (hB : B' ≤ B) : w.ownsRow B' e size v n xs := by
  refine ⟨h.1, ?_⟩
  rcases h.2 with h0 | ⟨g, cap, cur, hv, hb, r⟩
  · exact .inl h0
  · exact .inr ⟨g, cap, cur, hv, Nat.le_trans hB hb, r⟩
theorem grown_refl (w : World) (row : Option Nat) : w.grownBy w row := ⟨rfl, rfl, rfl, Nat.le_refl _, fun _ _ _ => rfl⟩
theorem grown_set {w w' : World} {g : Nat} (h : w.grownBy w' (some g)) (o : Nat) (v : Value) : w.grownBy (w'.setCell ⟨g, o, none⟩ v) (some g) :=
  ⟨h.os, h.tape, h.output, by rw [World.size_setCell]; exact h.size, fun k hk hn => (Below.heap_setCell w' ⟨g, o, none⟩ v k (fun e => hn (by rw [e]))).trans (h.block k hk hn)⟩
theorem below_grown0 {w W W' : World} (h : Below w.heap.size w W) (k : W.grownBy W' (some w.heap.size)) : Below w.heap.size w W' :=
  ⟨k.os.trans h.os, k.tape.trans h.tape, k.output.trans h.output, Nat.le_trans h.size k.size, fun b hb => (k.block b (Nat.lt_of_lt_of_le hb h.size) (fun e => by injection e with e; omega)).trans (h.block b hb)⟩
theorem set4_th (w : World) (g : Nat) (bs : List Nat) (v0 v1 v2 v3 : Value) (hg : g ∈ bs) : Sub (TH w bs) (TH ((((w.setCell ⟨g, 0, none⟩ v0).setCell ⟨g, 1, none⟩ v1).setCell ⟨g, 2, none⟩ v2).setCell ⟨g, 3, none⟩ v3) bs) :=
  th_of fun k _ hkb => ⟨hkb, set4_heap w g k (fun e => hkb (e ▸ hg)) v0 v1 v2 v3⟩
/-- While Copy goes on: i functions are the copy's own. -/
structure MixF (w0 wr : World) (B g n cp i : Nat) (ys : List Value) (fs : List Fn) : Prop where
  own : wr.ownsRow B 35 5 (.slice (some ⟨g, 0, none⟩) n cp) n ys
  at_ : ∀ (j : Nat) f, fs[j]? = some f → ∃ vs, Cells5 (if j < i then TH wr (g :: List.range B) else w0) vs f ∧ ∀ (k : Nat) v, vs[k]? = some v → ys[j * 5 + k]? = some v
theorem MixF.step {w0 wr w6 : World} {B g n cp i : Nat} {ys : List Value} {fs : List Fn} {f : Fn} {lv sv bv lv' sv' bv' : Value} (h : MixF w0 wr B g n cp i ys fs)
    (hs : fs[i]? = some f) (hy : ∀ (q : Nat) v, ([.int .i64 f.name, .int .i64 (f.params : Nat), lv, sv, bv] : List Value)[q]? = some v → ys[i * 5 + q]? = some v)
    (hb : Below wr.heap.size wr w6) (h1 : ReadsI (TH w6 (g :: List.range B)) lv' f.locals) (h2 : ReadsI (TH w6 (g :: List.range B)) sv' f.sites) (h3 : ReadsB (TH w6 (g :: List.range B)) bv' f.body) :
    MixF w0 (((w6.setCell ⟨g, i * 5 + 2, none⟩ lv').setCell ⟨g, i * 5 + 3, none⟩ sv').setCell ⟨g, i * 5 + 4, none⟩ bv') B g n cp (i + 1) (((ys.set (i * 5 + 2) lv').set (i * 5 + 3) sv').set (i * 5 + 4) bv') fs ∧
    Sub (TH w6 (g :: List.range B)) (TH (((w6.setCell ⟨g, i * 5 + 2, none⟩ lv').setCell ⟨g, i * 5 + 3, none⟩ sv').setCell ⟨g, i * 5 + 4, none⟩ bv') (g :: List.range B)) := by
  have hsub : Sub (TH w6 (g :: List.range B)) (TH (((w6.setCell ⟨g, i * 5 + 2, none⟩ lv').setCell ⟨g, i * 5 + 3, none⟩ sv').setCell ⟨g, i * 5 + 4, none⟩ bv') (g :: List.range B)) :=
    ((th_store (p := ⟨g, i * 5 + 2, none⟩) List.mem_cons_self).trans (th_store (p := ⟨g, i * 5 + 3, none⟩) List.mem_cons_self)).trans (th_store (p := ⟨g, i * 5 + 4, none⟩) List.mem_cons_self)
  have hy0 := (List.getElem?_eq_some_iff.1 (hy 4 _ rfl)).1
  refine ⟨⟨(((own_below h.own hb).stored _ _).1.stored _ _ |>.1).stored _ _ |>.1, fun j s hj => ?_⟩, hsub⟩
  by_cases hji : j = i
  · subst hji
    rw [hs] at hj
    injection hj with hj
    subst hj
    refine ⟨[.int .i64 f.name, .int .i64 (f.params : Nat), lv', sv', bv'], ?_, ?_⟩
    · rw [if_pos (Nat.lt_succ_self j)]
      exact ⟨lv', sv', bv', rfl, h1.sub hsub, h2.sub hsub, h3.sub hsub⟩
    · intro q v hv
      rw [List.getElem?_set, List.getElem?_set, List.getElem?_set]
      match q, hv with
      | 0, hv => rw [if_neg (by omega), if_neg (by omega), if_neg (by omega)]; exact hy 0 v hv
      | 1, hv => rw [if_neg (by omega), if_neg (by omega), if_neg (by omega)]; exact hy 1 v hv
      | 2, hv => rw [if_neg (by omega), if_neg (by omega), if_pos rfl, if_pos (by omega)]; exact hv
      | 3, hv => rw [if_neg (by omega), if_pos rfl, if_pos (by rw [List.length_set]; omega)]; exact hv
      | 4, hv => rw [if_pos rfl, if_pos (by rw [List.length_set, List.length_set]; omega)]; exact hv
      | q + 5, hv => simp at hv
  · obtain ⟨vs, k1, k2⟩ := h.at_ j s hj
    have h7 := k1.length
    refine ⟨vs, ?_, fun q v hv => ?_⟩
    · by_cases hlt : j < i
      · rw [if_pos hlt] at k1
        rw [if_pos (by omega)]
        exact (k1.sub (th_below hb)).sub hsub
      · rw [if_neg hlt] at k1
        rw [if_neg (by omega)]
        exact k1
    · have hq := (List.getElem?_eq_some_iff.1 hv).1
      rw [List.getElem?_set, List.getElem?_set, List.getElem?_set, if_neg (by omega), if_neg (by omega), if_neg (by omega)]
      exact k2 q v hv
theorem MixF.done {w0 wr : World} {B b0 g n cp : Nat} {ys : List Value} {fs : List Fn} (h : MixF w0 wr B g n cp n ys fs) (hl : fs.length = n) (hn : n ≤ 1000) (hb0 : b0 ≤ B) : ReadsF (TH wr (List.range b0)) (.slice (some ⟨g, 0, none⟩) n cp) fs := by
  have hg := World.ownsRow.lt h.own g rfl
  refine ⟨_, n, cp, rfl, hl, hn, fun _ => ⟨g, 0, rfl, fun i f hi => ?_⟩⟩
  obtain ⟨vs, k1, k2⟩ := h.at_ i f hi
  rw [if_pos (by have := (List.getElem?_eq_some_iff.1 hi).1; omega)] at k1
  refine ⟨vs, k1.sub (th_less fun b hb => List.mem_cons_of_mem _ (List.mem_range.2 (by have := List.mem_range.1 hb; omega))), fun j v hv => ?_⟩
  refine Sub.sans ?_ (own_thaw (g := g) h.own (fun b hb e => by have := List.mem_range.1 hb; omega))
  rw [Nat.zero_add]
  exact own_cell h.own (k2 j v hv)
/-- What Copy hands back. -/
def CopiedM (w : World) (m : Mod) (e : Ending) (w' : World) : Prop := ∃ v', e = .returned v' ∧ ReadsM (TH w' (List.range w.heap.size)) v' m ∧ Below w.heap.size w w'
set_option maxRecDepth 20000 in
set_option maxHeartbeats 4000000 in
theorem copy_calls (w : World) (v : Value) (m : Mod) (h : ReadsM w v m) (hsm : ∀ f ∈ m.funcs, smallAll f.body) (hf0 : 0 < m.funcs.length) : Calls Try.prog 16 #[v] w (CopiedM w m) := by
  obtain ⟨sv, gv, fv, ev, rfl, h1, h2, h3, h4⟩ := h
  obtain ⟨sa, sc, rfl, _⟩ := h1.shape
  obtain ⟨ga, gc, rfl, _⟩ := h2.shape
  obtain ⟨fa, fc, rfl, hfn⟩ := h3.shape
  obtain ⟨ea, ec, rfl, _⟩ := h4.shape
  obtain ⟨sn, hsn⟩ : ∃ n, n = m.strings.length := ⟨_, rfl⟩
  obtain ⟨gn, hgn⟩ : ∃ n, n = m.globals.length := ⟨_, rfl⟩
  obtain ⟨n, hnn⟩ : ∃ n, n = m.funcs.length := ⟨_, rfl⟩
  obtain ⟨en, hen⟩ : ∃ n, n = m.entries.length := ⟨_, rfl⟩
  rw [← hsn] at h1 ⊢
  rw [← hgn] at h2 ⊢
  rw [← hnn] at h3 hf0 hfn ⊢
  rw [← hen] at h4 ⊢
  have R1 := Lib.hid h1
  have R2 := Lib.hid h2
  have R3 := Lib.hid h3
  have R4 := Lib.hid h4
  have HSM := Lib.hid hsm
  have HNN := Lib.hid hnn.symm
  obtain ⟨q1, q2, q3⟩ := strs_list h1
  obtain ⟨p1, p2, p3⟩ := ints_list h2
  obtain ⟨r1, r2, r3⟩ := ints_list h4
  obtain ⟨t1, t2, fb, fo, xs, ha, t3, t4, t5⟩ := fns_list h3 hf0
  have Q1 := Lib.hid q1; have Q3 := Lib.hid q3
  have P1 := Lib.hid p1; have P3 := Lib.hid p3
  have E1 := Lib.hid r1; have E3 := Lib.hid r3
  have T3 := Lib.hid t3; have T4 := Lib.hid t4; have T5 := Lib.hid t5; have HA := Lib.hid ha
  clear h1 h2 h3 h4 hsm hsn hgn hnn hen q1 q3 p1 p3 r1 r3 t1 t3 t4 t5 ha
  go_enter Try.func16, Try.ntmps16
  go_upto_region 1 with (fail)
  obtain ⟨W1, hW1⟩ : ∃ W1, W1 = (w.alloc (.cells #[.slice sa sn sc, .slice ga gn gc, .slice fa n fc, .slice ea en ec] 32)).alloc (.cells #[.slice none 0 0, .slice none 0 0, .slice none 0 0, .slice none 0 0] 32) := ⟨_, rfl⟩
  have B1 : Hid (Below w.heap.size w W1) := Lib.hid (by rw [hW1]; exact ((Below.refl _ _).alloc (Nat.le_refl _) _).alloc (by simp) _)
  have hz1 : W1.heap.size = w.heap.size + 2 := by rw [hW1]; simp
  have X1 : Hid (W1.heap[w.heap.size]? = some (.cells #[.slice sa sn sc, .slice ga gn gc, .slice fa n fc, .slice ea en ec] 32)) := Lib.hid (by rw [hW1]; exact blk_alloc (heap_alloc_new w _) _)
  have Y1 : Hid (W1.heap[w.heap.size + 1]? = some (.cells #[.slice none 0 0, .slice none 0 0, .slice none 0 0, .slice none 0 0] 32)) := Lib.hid (by
    rw [hW1]
    have := heap_alloc_new (w.alloc (.cells #[.slice sa sn sc, .slice ga gn gc, .slice fa n fc, .slice ea en ec] 32)) (.cells #[.slice none 0 0, .slice none 0 0, .slice none 0 0, .slice none 0 0] 32)
    rwa [World.size_alloc] at this)
  rw [← hW1]
  clear hW1
  have HZ1 := Lib.hid hz1
  have D1 : Hid (Below w.heap.size w W1.drew) := Lib.hid ⟨B1.out.os, B1.out.tape, B1.out.output, B1.out.size, B1.out.block⟩
  have hC : W1.drew.heap[w.heap.size]? = some (.cells #[.slice sa sn sc, .slice ga gn gc, .slice fa n fc, .slice ea en ec] 32) := X1.out
  have HY : Hid (W1.drew.heap[w.heap.size + 1]? = some (.cells #[.slice none 0 0, .slice none 0 0, .slice none 0 0, .slice none 0 0] 32)) := Y1
  have HZD : Hid (W1.drew.heap.size = w.heap.size + 2) := Lib.hid hz1
  refine wp_region_HM (C := (fun w' => w'.heap[w.heap.size]? = some (.cells #[.slice sa sn sc, .slice ga gn gc, .slice fa n fc, .slice ea en ec] 32))) 18 13 (by kernel_rfl) (by kernel_rfl) (by kernel_rfl) (by kernel_rfl) (by decide) ?_
  refine Go.HM.take_ (i := 0) (oi := { dst := some 5, op := .fieldAddr 32 (.tmp 1) 0, type := 0, pos := "module.go:56", after := #[], guard := none }) (v := ?_) rfl (by decide) (by decide) (by kernel_rfl) (by kernel_rfl) (fun _ _ _ h => h) (by first | exact Or.inl (by assumption) | exact Or.inr (by kernel_rfl)) (Or.inl ⟨by rfl, ?_⟩) ?_
  rotate_left
  · intro w hSw
    (try dsimp only at hSw)
    (go_simp; try (with_reducible rfl))
  try simp only [Act.put, List.setIfInBounds_toArray, List.set_cons_zero, List.set_cons_succ]
  refine Go.HM.take_ (i := 3) (oi := { dst := some 8, op := .fieldAddr 32 (.tmp 1) 1, type := 0, pos := "module.go:56", after := #[], guard := none }) (v := ?_) rfl (by decide) (by decide) (by kernel_rfl) (by kernel_rfl) (fun _ _ _ h => h) (by first | exact Or.inl (by assumption) | exact Or.inr (by kernel_rfl)) (Or.inl ⟨by rfl, ?_⟩) ?_
  rotate_left
  · intro w hSw
    (try dsimp only at hSw)
    (go_simp; try (with_reducible rfl))
  try simp only [Act.put, List.setIfInBounds_toArray, List.set_cons_zero, List.set_cons_succ]
  refine Go.HM.take_ (i := 6) (oi := { dst := some 11, op := .fieldAddr 32 (.tmp 1) 3, type := 0, pos := "module.go:56", after := #[], guard := none }) (v := ?_) rfl (by decide) (by decide) (by kernel_rfl) (by kernel_rfl) (fun _ _ _ h => h) (by first | exact Or.inl (by assumption) | exact Or.inr (by kernel_rfl)) (Or.inl ⟨by rfl, ?_⟩) ?_
  rotate_left
  · intro w hSw
    (try dsimp only at hSw)
    (go_simp; try (with_reducible rfl))
  try simp only [Act.put, List.setIfInBounds_toArray, List.set_cons_zero, List.set_cons_succ]
  refine Go.HM.take_ (i := 9) (oi := { dst := some 14, op := .fieldAddr 32 (.tmp 1) 2, type := 0, pos := "module.go:56", after := #[], guard := none }) (v := ?_) rfl (by decide) (by decide) (by kernel_rfl) (by kernel_rfl) (fun _ _ _ h => h) (by first | exact Or.inl (by assumption) | exact Or.inr (by kernel_rfl)) (Or.inl ⟨by rfl, ?_⟩) ?_
  rotate_left
  · intro w hSw
    (try dsimp only at hSw)
    (go_simp; try (with_reducible rfl))
  try simp only [Act.put, List.setIfInBounds_toArray, List.set_cons_zero, List.set_cons_succ]
  refine Go.HM.load_ (i := 1) (oi := { dst := some 6, op := .load 28 (.tmp 5), type := 28, pos := "module.go:56", after := #[{ on := 0, ground := .data }], guard := none }) (v := ?_) rfl (by decide) (by decide) (by kernel_rfl) (by kernel_rfl) (by kernel_rfl) (fun _ _ _ h => h) (by first | exact Or.inl (by assumption) | exact Or.inr (by kernel_rfl)) (Or.inl ⟨by rfl, ?_⟩) ?_
  rotate_left
  · intro w hSw
    (try dsimp only at hSw)
    have y := (blk3 hSw).1; (go_simp; try (with_reducible rfl))
  try simp only [Act.put, List.setIfInBounds_toArray, List.set_cons_zero, List.set_cons_succ]
  refine Go.HM.load_ (i := 4) (oi := { dst := some 9, op := .load 29 (.tmp 8), type := 29, pos := "module.go:56", after := #[{ on := 3, ground := .data }], guard := none }) (v := ?_) rfl (by decide) (by decide) (by kernel_rfl) (by kernel_rfl) (by kernel_rfl) (fun _ _ _ h => h) (by first | exact Or.inl (by assumption) | exact Or.inr (by kernel_rfl)) (Or.inl ⟨by rfl, ?_⟩) ?_
  rotate_left
  · intro w hSw
    (try dsimp only at hSw)
    have y := (blk3 hSw).1; (go_simp; try (with_reducible rfl))
  try simp only [Act.put, List.setIfInBounds_toArray, List.set_cons_zero, List.set_cons_succ]
  refine Go.HM.load_ (i := 7) (oi := { dst := some 12, op := .load 29 (.tmp 11), type := 29, pos := "module.go:56", after := #[{ on := 6, ground := .data }], guard := none }) (v := ?_) rfl (by decide) (by decide) (by kernel_rfl) (by kernel_rfl) (by kernel_rfl) (fun _ _ _ h => h) (by first | exact Or.inl (by assumption) | exact Or.inr (by kernel_rfl)) (Or.inl ⟨by rfl, ?_⟩) ?_
  rotate_left
  · intro w hSw
    (try dsimp only at hSw)
    have y := (blk3 hSw).1; (go_simp; try (with_reducible rfl))
  try simp only [Act.put, List.setIfInBounds_toArray, List.set_cons_zero, List.set_cons_succ]
  refine Go.HM.load_ (i := 10) (oi := { dst := some 15, op := .load 30 (.tmp 14), type := 30, pos := "module.go:56", after := #[{ on := 9, ground := .data }], guard := none }) (v := ?_) rfl (by decide) (by decide) (by kernel_rfl) (by kernel_rfl) (by kernel_rfl) (fun _ _ _ h => h) (by first | exact Or.inl (by assumption) | exact Or.inr (by kernel_rfl)) (Or.inl ⟨by rfl, ?_⟩) ?_
  rotate_left
  · intro w hSw
    (try dsimp only at hSw)
    have y := (blk3 hSw).1; (go_simp; try (with_reducible rfl))
  try simp only [Act.put, List.setIfInBounds_toArray, List.set_cons_zero, List.set_cons_succ]
  refine Go.HM.step_ (i := 2) (o := { dst := some 7, op := .call { callee := .value (.func 32), args := #[.tmp 6], argTypes := #[28] }, type := 28, pos := "module.go:56", after := #[{ on := 1, ground := .data }], guard := none }) rfl (by decide) (by kernel_rfl) (fun K hK => ?_)
  go_simp
  refine (clone32_calls W1.drew sa sn sc (strs m.strings) (by unfold strs; rw [List.length_map, Q1.out, Nat.mul_one]) (fun hp => by obtain ⟨b, off, e, hc⟩ := Q3.out hp; exact ⟨b, off, e, fun j u hu => (D1.out.cell (p := ⟨b, off + j, none⟩) (World.block_lt_of_cell? w _ (hc j u hu))).trans (hc j u hu)⟩) (strs_one _) q2).mono ?_
  rintro e w2 ⟨v1, rfl, hcl⟩
  obtain ⟨b1, c1, rfl, hl1⟩ := hcl.shape
  dsimp only
  have S1 : Hid (ReadsS (TH w2 (List.range (w.heap.size + 2))) (.slice b1 sn c1) m.strings) := Lib.hid (clone_readsS hcl Q1.out q2 (fun b hb => by have := List.mem_range.1 hb; have := HZD.out; omega))
  have hC1 : w2.heap[w.heap.size]? = some (.cells #[.slice sa sn sc, .slice ga gn gc, .slice fa n fc, .slice ea en ec] 32) := blk_below hC hcl.below
  have HY1 := Lib.hid (blk_below HY.out hcl.below)
  have D2 : Hid (Below w.heap.size w w2) := Lib.hid (D1.out.trans (hcl.below.mono D1.out.size))
  have Z1 : Hid (w.heap.size + 2 ≤ w2.heap.size) := Lib.hid (by have := hcl.below.size; have := HZD.out; omega)
  clear hC hcl
  refine hK.out _ _ (.inl hC1) ?_
  clear hK K
  try simp only [Act.put, List.setIfInBounds_toArray, List.set_cons_zero, List.set_cons_succ]
  refine Go.HM.take_ (i := 12) (oi := { dst := some 17, op := .fieldAddr 32 (.tmp 1) 0, type := 0, pos := "module.go:56", after := #[{ on := 0, ground := .phase }, { on := 1, ground := .phase }, { on := 2, ground := .phase }, { on := 3, ground := .phase }, { on := 4, ground := .phase }, { on := 5, ground := .textOnly .lateStoresUnsure }, { on := 6, ground := .phase }, { on := 7, ground := .phase }, { on := 8, ground := .textOnly .lateStoresUnsure }, { on := 9, ground := .phase }, { on := 10, ground := .phase }, { on := 11, ground := .textOnly .lateStoresUnsure }], guard := none }) (v := ?_) rfl (by decide) (by decide) (by kernel_rfl) (by kernel_rfl) (fun _ _ _ h => h) (by first | exact Or.inl (by assumption) | exact Or.inr (by kernel_rfl)) (Or.inl ⟨by rfl, ?_⟩) ?_
  rotate_left
  · intro w hSw
    (try dsimp only at hSw)
    (go_simp; try (with_reducible rfl))
  try simp only [Act.put, List.setIfInBounds_toArray, List.set_cons_zero, List.set_cons_succ]
  refine Go.HM.step_ (i := 5) (o := { dst := some 10, op := .call { callee := .value (.func 33), args := #[.tmp 9], argTypes := #[29] }, type := 29, pos := "module.go:56", after := #[{ on := 4, ground := .data }, { on := 2, ground := .chain }], guard := none }) rfl (by decide) (by kernel_rfl) (fun K hK => ?_)
  go_simp
  refine (clone33_calls w2 ga gn gc (ints m.globals) (by unfold ints; rw [List.length_map, P1.out, Nat.mul_one]) (fun hp => by obtain ⟨b, off, e, hc⟩ := P3.out hp; exact ⟨b, off, e, fun j u hu => (D2.out.cell (p := ⟨b, off + j, none⟩) (World.block_lt_of_cell? w _ (hc j u hu))).trans (hc j u hu)⟩) (ints_one _) p2).mono ?_
  rintro e w3 ⟨v2, rfl, hcl⟩
  obtain ⟨b2, c2, rfl, hl2⟩ := hcl.shape
  dsimp only
  have S2 := Lib.hid (S1.out.sub (th_below hcl.below))
  have G2 : Hid (ReadsI (TH w3 (List.range (w.heap.size + 2))) (.slice b2 gn c2) m.globals) := Lib.hid (clone_readsI hcl P1.out p2 (fun b hb => by have := List.mem_range.1 hb; have := Z1.out; omega))
  have hC2 : w3.heap[w.heap.size]? = some (.cells #[.slice sa sn sc, .slice ga gn gc, .slice fa n fc, .slice ea en ec] 32) := blk_below hC1 hcl.below
  have HY2 := Lib.hid (blk_below HY1.out hcl.below)
  have D3 : Hid (Below w.heap.size w w3) := Lib.hid (D2.out.trans (hcl.below.mono D2.out.size))
  have Z2 : Hid (w.heap.size + 2 ≤ w3.heap.size) := Lib.hid (by have := hcl.below.size; have := Z1.out; omega)
  clear hC1 hcl
  refine hK.out _ _ (.inl hC2) ?_
  clear hK K
  try simp only [Act.put, List.setIfInBounds_toArray, List.set_cons_zero, List.set_cons_succ]
  refine Go.HM.step_ (i := 8) (o := { dst := some 13, op := .call { callee := .value (.func 33), args := #[.tmp 12], argTypes := #[29] }, type := 29, pos := "module.go:56", after := #[{ on := 7, ground := .data }, { on := 5, ground := .chain }], guard := none }) rfl (by decide) (by kernel_rfl) (fun K hK => ?_)
  go_simp
  refine (clone33_calls w3 ea en ec (ints m.entries) (by unfold ints; rw [List.length_map, E1.out, Nat.mul_one]) (fun hp => by obtain ⟨b, off, e, hc⟩ := E3.out hp; exact ⟨b, off, e, fun j u hu => (D3.out.cell (p := ⟨b, off + j, none⟩) (World.block_lt_of_cell? w _ (hc j u hu))).trans (hc j u hu)⟩) (ints_one _) r2).mono ?_
  rintro e w4 ⟨v3, rfl, hcl⟩
  obtain ⟨b3, c3, rfl, hl3⟩ := hcl.shape
  dsimp only
  have S3 := Lib.hid (S2.out.sub (th_below hcl.below))
  have G3 := Lib.hid (G2.out.sub (th_below hcl.below))
  have E3' : Hid (ReadsI (TH w4 (List.range (w.heap.size + 2))) (.slice b3 en c3) m.entries) := Lib.hid (clone_readsI hcl E1.out r2 (fun b hb => by have := List.mem_range.1 hb; have := Z2.out; omega))
  have hC3 : w4.heap[w.heap.size]? = some (.cells #[.slice sa sn sc, .slice ga gn gc, .slice fa n fc, .slice ea en ec] 32) := blk_below hC2 hcl.below
  have HY3 := Lib.hid (blk_below HY2.out hcl.below)
  have D4 : Hid (Below w.heap.size w w4) := Lib.hid (D3.out.trans (hcl.below.mono D3.out.size))
  have Z3 : Hid (w.heap.size + 2 ≤ w4.heap.size) := Lib.hid (by have := hcl.below.size; have := Z2.out; omega)
  clear hC2 hcl
  refine hK.out _ _ (.inl hC3) ?_
  clear hK K
  try simp only [Act.put, List.setIfInBounds_toArray, List.set_cons_zero, List.set_cons_succ]
  refine Go.HM.step_ (i := 11) (o := { dst := some 16, op := .call { callee := .value (.func 34), args := #[.tmp 15], argTypes := #[30] }, type := 30, pos := "module.go:56", after := #[{ on := 10, ground := .data }, { on := 8, ground := .chain }], guard := none }) rfl (by decide) (by kernel_rfl) (fun K hK => ?_)
  go_simp
  refine (clone34_calls w4 fa n fc (xs) (by rw [T3.out.length, HNN.out]) (fun _ => ⟨fb, fo, HA.out, fun j u hu => (D4.out.cell (p := ⟨fb, fo + j, none⟩) (World.block_lt_of_cell? w _ (T4.out j u hu))).trans (T4.out j u hu)⟩) T5.out t2).mono ?_
  rintro e w5 ⟨v4, rfl, hcl⟩
  obtain ⟨b4, c4, rfl, hl4⟩ := hcl.shape
  dsimp only
  have hown := hcl.own hf0
  obtain ⟨g, rfl⟩ : ∃ g, b4 = some ⟨g, 0, none⟩ := by
    rcases hown.2 with ⟨e, hz⟩ | ⟨g, cap, cur, e, _⟩
    · omega
    · injection e with e1; exact ⟨g, e1⟩
  have hg5 := World.ownsRow.lt hown g rfl
  have HG5 := Lib.hid hg5
  have fresh : Sub (TH w4 (List.range (w.heap.size + 2))) (TH w5 (g :: List.range (w.heap.size + 2))) := th_of fun k hk hkb => ⟨fun hm => by
    rcases List.mem_cons.1 hm with h | h
    · omega
    · exact hkb h, hcl.below.block k hk⟩
  have S4 := Lib.hid (S3.out.sub fresh)
  have G4 := Lib.hid (G3.out.sub fresh)
  have E4 := Lib.hid (E3'.out.sub fresh)
  have MX : Hid (MixF w w5 (w.heap.size + 2) g n c4 0 xs m.funcs) := Lib.hid ⟨own_lower hown (by have := Z3.out; omega), fun j f hj => by
    obtain ⟨vs, k1, k2⟩ := T3.out.at hj
    exact ⟨vs, by rw [if_neg (Nat.not_lt_zero _)]; exact k1, k2⟩⟩
  clear hown hg5 fresh
  have hC4 : w5.heap[w.heap.size]? = some (.cells #[.slice sa sn sc, .slice ga gn gc, .slice fa n fc, .slice ea en ec] 32) := blk_below hC3 hcl.below
  have HY4 := Lib.hid (blk_below HY3.out hcl.below)
  have D5 : Hid (Below w.heap.size w w5) := Lib.hid (D4.out.trans (hcl.below.mono D4.out.size))
  have Z4 : Hid (w.heap.size + 2 ≤ w5.heap.size) := Lib.hid (by have := hcl.below.size; have := Z3.out; omega)
  clear hC3 hcl
  refine hK.out _ _ (.inl hC4) ?_
  clear hK K
  try simp only [Act.put, List.setIfInBounds_toArray, List.set_cons_zero, List.set_cons_succ]
  obtain ⟨cb, fb', zb⟩ := blk3 hC4
  refine Go.HM.step_ (i := 13) (o := { dst := none, op := .store 28 (.tmp 17) (.tmp 7), type := 0, pos := "module.go:56", after := #[{ on := 12, ground := .data }, { on := 2, ground := .data }, { on := 11, ground := .chain }, { on := 0, ground := .phase }, { on := 1, ground := .phase }, { on := 2, ground := .phase }, { on := 3, ground := .phase }, { on := 4, ground := .phase }, { on := 5, ground := .textOnly .lateStoresUnsure }, { on := 6, ground := .phase }, { on := 7, ground := .phase }, { on := 8, ground := .textOnly .lateStoresUnsure }, { on := 9, ground := .phase }, { on := 10, ground := .phase }, { on := 11, ground := .textOnly .lateStoresUnsure }], guard := none }) rfl (by decide) (by kernel_rfl) (fun K hK => ?_)
  go_simp
  refine hK.out _ _ (.inr (by kernel_rfl)) ?_
  clear hK K
  try simp only [Act.put, List.setIfInBounds_toArray, List.set_cons_zero, List.set_cons_succ]
  have X5 := blk_set hC4 0 (.slice b1 sn c1)
  obtain ⟨W6, hW6⟩ : ∃ W6, W6 = w5.setCell ⟨w.heap.size, 0, none⟩ (.slice b1 sn c1) := ⟨_, rfl⟩
  rw [← hW6] at X5 ⊢
  have HW6 := Lib.hid hW6
  clear cb fb' zb hW6
  obtain ⟨cb, fb', zb⟩ := blk3 X5
  refine Go.HM.take_ (i := 14) (oi := { dst := some 18, op := .fieldAddr 32 (.tmp 1) 1, type := 0, pos := "module.go:56", after := #[{ on := 0, ground := .phase }, { on := 1, ground := .phase }, { on := 2, ground := .phase }, { on := 3, ground := .phase }, { on := 4, ground := .phase }, { on := 5, ground := .phase }, { on := 6, ground := .phase }, { on := 7, ground := .phase }, { on := 8, ground := .textOnly .lateStoresUnsure }, { on := 9, ground := .phase }, { on := 10, ground := .phase }, { on := 11, ground := .textOnly .lateStoresUnsure }, { on := 12, ground := .phase }, { on := 13, ground := .phase }], guard := none }) (v := ?_) rfl (by decide) (by decide) (by kernel_rfl) (by kernel_rfl) (fun _ _ _ h => h) (by first | exact Or.inl (by assumption) | exact Or.inr (by kernel_rfl)) (Or.inl ⟨by rfl, ?_⟩) ?_
  rotate_left
  · intro w hSw
    (try dsimp only at hSw)
    (go_simp; try (with_reducible rfl))
  try simp only [Act.put, List.setIfInBounds_toArray, List.set_cons_zero, List.set_cons_succ]
  refine Go.HM.step_ (i := 15) (o := { dst := none, op := .store 29 (.tmp 18) (.tmp 10), type := 0, pos := "module.go:56", after := #[{ on := 14, ground := .data }, { on := 5, ground := .data }, { on := 13, ground := .chain }, { on := 0, ground := .phase }, { on := 1, ground := .phase }, { on := 2, ground := .phase }, { on := 3, ground := .phase }, { on := 4, ground := .phase }, { on := 5, ground := .phase }, { on := 6, ground := .phase }, { on := 7, ground := .phase }, { on := 8, ground := .textOnly .lateStoresUnsure }, { on := 9, ground := .phase }, { on := 10, ground := .phase }, { on := 11, ground := .textOnly .lateStoresUnsure }, { on := 12, ground := .phase }, { on := 13, ground := .phase }], guard := none }) rfl (by decide) (by kernel_rfl) (fun K hK => ?_)
  go_simp
  refine hK.out _ _ (.inr (by kernel_rfl)) ?_
  clear hK K
  try simp only [Act.put, List.setIfInBounds_toArray, List.set_cons_zero, List.set_cons_succ]
  have X6 := blk_set X5 1 (.slice b2 gn c2)
  obtain ⟨W7, hW7⟩ : ∃ W7, W7 = W6.setCell ⟨w.heap.size, 1, none⟩ (.slice b2 gn c2) := ⟨_, rfl⟩
  rw [← hW7] at X6 ⊢
  have HW7 := Lib.hid hW7
  clear cb fb' zb hW7
  obtain ⟨cb, fb', zb⟩ := blk3 X6
  refine Go.HM.take_ (i := 16) (oi := { dst := some 19, op := .fieldAddr 32 (.tmp 1) 3, type := 0, pos := "module.go:56", after := #[{ on := 0, ground := .phase }, { on := 1, ground := .phase }, { on := 2, ground := .phase }, { on := 3, ground := .phase }, { on := 4, ground := .phase }, { on := 5, ground := .phase }, { on := 6, ground := .phase }, { on := 7, ground := .phase }, { on := 8, ground := .phase }, { on := 9, ground := .phase }, { on := 10, ground := .phase }, { on := 11, ground := .textOnly .lateStoresUnsure }, { on := 12, ground := .phase }, { on := 13, ground := .phase }, { on := 14, ground := .phase }, { on := 15, ground := .phase }], guard := none }) (v := ?_) rfl (by decide) (by decide) (by kernel_rfl) (by kernel_rfl) (fun _ _ _ h => h) (by first | exact Or.inl (by assumption) | exact Or.inr (by kernel_rfl)) (Or.inl ⟨by rfl, ?_⟩) ?_
  rotate_left
  · intro w hSw
    (try dsimp only at hSw)
    (go_simp; try (with_reducible rfl))
  try simp only [Act.put, List.setIfInBounds_toArray, List.set_cons_zero, List.set_cons_succ]
  refine Go.HM.step_ (i := 17) (o := { dst := none, op := .store 29 (.tmp 19) (.tmp 13), type := 0, pos := "module.go:56", after := #[{ on := 16, ground := .data }, { on := 8, ground := .data }, { on := 15, ground := .chain }, { on := 0, ground := .phase }, { on := 1, ground := .phase }, { on := 2, ground := .phase }, { on := 3, ground := .phase }, { on := 4, ground := .phase }, { on := 5, ground := .phase }, { on := 6, ground := .phase }, { on := 7, ground := .phase }, { on := 8, ground := .phase }, { on := 9, ground := .phase }, { on := 10, ground := .phase }, { on := 11, ground := .textOnly .lateStoresUnsure }, { on := 12, ground := .phase }, { on := 13, ground := .phase }, { on := 14, ground := .phase }, { on := 15, ground := .phase }], guard := none }) rfl (by decide) (by kernel_rfl) (fun K hK => ?_)
  go_simp
  refine hK.out _ _ (.inr (by kernel_rfl)) ?_
  clear hK K
  try simp only [Act.put, List.setIfInBounds_toArray, List.set_cons_zero, List.set_cons_succ]
  refine Go.HM.done_ (by kernel_rfl) ?_
  simp only [List.drop_succ_cons, List.drop_zero]
  have X7 := blk_set X6 3 (.slice b3 en c3)
  obtain ⟨W8, hW8⟩ : ∃ W8, W8 = W7.setCell ⟨w.heap.size, 3, none⟩ (.slice b3 en c3) := ⟨_, rfl⟩
  rw [← hW8] at X7 ⊢
  have HW8 := Lib.hid hW8
  clear cb fb' zb hW8
  obtain ⟨cb, fb', zb⟩ := blk3 X7
  have X8 := blk_set X7 2 (.slice (some ⟨g, 0, none⟩) n c4)
  go_upto_region 2 with (fail)
  obtain ⟨W9, hW9⟩ : ∃ W9, W9 = W8.setCell ⟨w.heap.size, 2, none⟩ (.slice (some ⟨g, 0, none⟩) n c4) := ⟨_, rfl⟩
  rw [← hW9] at X8 ⊢
  have hgr : w5.grownBy W9 (some w.heap.size) := by
    rw [hW9, HW8.out, HW7.out, HW6.out]
    exact grown_set (grown_set (grown_set (grown_set (grown_refl _ _) 0 _) 1 _) 3 _) 2 _
  have hbox : ∀ (bs : List Nat), w.heap.size ∈ bs → Sub (TH w5 bs) (TH W9 bs) := fun bs hm => th_of fun k hk hkb => ⟨hkb, hgr.block k hk (fun e => hkb (by injection e with e; rw [e]; exact hm))⟩
  have hin : w.heap.size ∈ g :: List.range (w.heap.size + 2) := List.mem_cons_of_mem _ (List.mem_range.2 (by omega))
  have SR := Lib.hid (S4.out.sub (hbox _ hin))
  have GR := Lib.hid (G4.out.sub (hbox _ hin))
  have ER := Lib.hid (E4.out.sub (hbox _ hin))
  have MR : Hid (MixF w W9 (w.heap.size + 2) g n c4 0 xs m.funcs) := Lib.hid ⟨MX.out.own.kept hgr (.inr fun e => by
    have := (World.ownsRow.lt MX.out.own _ e).1
    omega), fun j f hj => by
    obtain ⟨vs, k1, k2⟩ := MX.out.at_ j f hj
    rw [if_neg (Nat.not_lt_zero _)] at k1
    exact ⟨vs, by rw [if_neg (Nat.not_lt_zero _)]; exact k1, k2⟩⟩
  have YR : Hid (W9.heap[w.heap.size + 1]? = some (.cells #[.slice none 0 0, .slice none 0 0, .slice none 0 0, .slice none 0 0] 32)) := Lib.hid ((hgr.block _ (blk_lt HY4.out) (fun e => by injection e with e; omega)).trans HY4.out)
  have BR : Hid (Below w.heap.size w W9) := Lib.hid (below_grown0 D5.out hgr)
  have XR : Hid (W9.heap[w.heap.size]? = some (.cells #[.slice b1 sn c1, .slice b2 gn c2, .slice (some ⟨g, 0, none⟩) n c4, .slice b3 en c3] 32)) := Lib.hid X8
  clear cb fb' zb hW9 X7 X8 hgr hbox X6 X5 hC4
  obtain ⟨cb, fb', zb⟩ := blk3 XR.out
  go_wp2_with fail
  go_loopg [24] n (fun gk s24 wr => ∃ (i : Nat) (ys : List Value), s24 = .int .i64 (i : Nat) ∧ i ≤ n ∧ Hid (gk = n - i) ∧ Hid (MixF w wr (w.heap.size + 2) g n c4 i ys m.funcs) ∧ Hid (ReadsS (TH wr (g :: List.range (w.heap.size + 2))) (.slice b1 sn c1) m.strings) ∧ Hid (ReadsI (TH wr (g :: List.range (w.heap.size + 2))) (.slice b2 gn c2) m.globals) ∧ Hid (ReadsI (TH wr (g :: List.range (w.heap.size + 2))) (.slice b3 en c3) m.entries) ∧ Hid (wr.heap[w.heap.size]? = some (.cells #[.slice b1 sn c1, .slice b2 gn c2, .slice (some ⟨g, 0, none⟩) n c4, .slice b3 en c3] 32)) ∧ Hid (wr.heap[w.heap.size + 1]? = some (.cells #[.slice none 0 0, .slice none 0 0, .slice none 0 0, .slice none 0 0] 32)) ∧ Hid (Below w.heap.size w wr))
  case atStart => exact ⟨0, xs, rfl, Nat.zero_le _, rfl, MR, SR, GR, ER, XR, YR, BR⟩
  case round =>
    clear cb fb' zb
    obtain ⟨i, ys, rfl, hi, HK, HM, HS, HG, HE, HX, HY9, HB⟩ := hrel
    obtain ⟨cb, fb', zb⟩ := blk3 HX.out
    by_cases hlt : i < n
    · have hltI : (i : Int) < (n : Int) := by omega
      have hi0 : (0 : Int) ≤ (i : Int) := by omega
      obtain ⟨f, hf⟩ : ∃ f, m.funcs[i]? = some f := ⟨_, List.getElem?_eq_getElem (by rw [HNN.out]; exact hlt)⟩
      obtain ⟨vs, hc5, hvs⟩ := HM.out.at_ i f hf
      rw [if_neg (Nat.lt_irrefl _)] at hc5
      obtain ⟨lv, sv, bv, rfl, hlv, hsv, hbv⟩ := hc5
      obtain ⟨la, lc, rfl, _⟩ := hlv.shape
      obtain ⟨ia, ic, rfl, _⟩ := hsv.shape
      obtain ⟨ba, bl, bc, rfl, hbl, hbd⟩ := hbv
      obtain ⟨ln, hln⟩ : ∃ k, k = f.locals.length := ⟨_, rfl⟩
      obtain ⟨inn, hin2⟩ : ∃ k, k = f.sites.length := ⟨_, rfl⟩
      rw [← hln] at hlv hvs
      rw [← hin2] at hsv hvs
      obtain ⟨l1, l2, l3⟩ := ints_list hlv
      obtain ⟨i1, i2, i3⟩ := ints_list hsv
      have HF := Lib.hid hf
      have HVS := Lib.hid hvs
      have HL1 := Lib.hid l1; have HL3 := Lib.hid l3; have HI1 := Lib.hid i1; have HI3 := Lib.hid i3
      have HBD := Lib.hid hbd
      have HSB := Lib.hid (HSM.out f (List.mem_of_getElem? hf))
      have c2' : wr.cell? ⟨g, i * 5 + 2, none⟩ = some (.slice la ln lc) := own_cell HM.out.own (hvs 2 _ rfl)
      have c3' : wr.cell? ⟨g, i * 5 + 3, none⟩ = some (.slice ia inn ic) := own_cell HM.out.own (hvs 3 _ rfl)
      have c4' : wr.cell? ⟨g, i * 5 + 4, none⟩ = some (.slice ba bl bc) := own_cell HM.out.own (hvs 4 _ rfl)
      have hgz := World.ownsRow.lt HM.out.own g rfl
      clear hf hlv hsv hln hin2 l1 l3 i1 i3 hbd hvs
      go_upto_region 6 with (fail)
      clear cb fb' zb
      have HWD : Hid (Below wr.heap.size wr wr.drew) := Lib.hid ⟨rfl, rfl, rfl, Nat.le_refl _, fun _ _ => rfl⟩
      have HBW : Hid (Below w.heap.size w wr.drew) := Lib.hid ⟨HB.out.os, HB.out.tape, HB.out.output, HB.out.size, HB.out.block⟩
      have hC : wr.drew.cell? ⟨g, i * 5 + 2, none⟩ = some (.slice la ln lc) ∧ wr.drew.cell? ⟨g, i * 5 + 3, none⟩ = some (.slice ia inn ic) ∧ wr.drew.cell? ⟨g, i * 5 + 4, none⟩ = some (.slice ba bl bc) := ⟨c2', c3', c4'⟩
      refine wp_region_HM (C := (fun w' => w'.cell? ⟨g, i * 5 + 2, none⟩ = some (.slice la ln lc) ∧ w'.cell? ⟨g, i * 5 + 3, none⟩ = some (.slice ia inn ic) ∧ w'.cell? ⟨g, i * 5 + 4, none⟩ = some (.slice ba bl bc))) 24 20 (by kernel_rfl) (by kernel_rfl) (by kernel_rfl) (by kernel_rfl) (by decide) ?_
      refine Go.HM.take_ (i := 0) (oi := { dst := some 31, op := .move (.tmp 4), type := 57, pos := "module.go:59", after := #[], guard := none }) (v := ?_) rfl (by decide) (by decide) (by kernel_rfl) (by kernel_rfl) (fun _ _ _ h => h) (by first | exact Or.inl (by assumption) | exact Or.inr (by kernel_rfl)) (Or.inl ⟨by rfl, ?_⟩) ?_
      rotate_left
      · intro w hSw
        (try dsimp only at hSw)
        (go_simp; try (with_reducible rfl))
      try simp only [Act.put, List.setIfInBounds_toArray, List.set_cons_zero, List.set_cons_succ]
      refine Go.HM.take_ (i := 1) (oi := { dst := some 32, op := .move (.tmp 4), type := 57, pos := "module.go:59", after := #[{ on := 20, ground := .gcOnly .lateStores }], guard := none }) (v := ?_) rfl (by decide) (by decide) (by kernel_rfl) (by kernel_rfl) (fun _ _ _ h => h) (by first | exact Or.inl (by assumption) | exact Or.inr (by kernel_rfl)) (Or.inl ⟨by rfl, ?_⟩) ?_
      rotate_left
      · intro w hSw
        (try dsimp only at hSw)
        (go_simp; try (with_reducible rfl))
      try simp only [Act.put, List.setIfInBounds_toArray, List.set_cons_zero, List.set_cons_succ]
      refine Go.HM.take_ (i := 2) (oi := { dst := some 33, op := .move (.tmp 4), type := 57, pos := "module.go:59", after := #[{ on := 23, ground := .gcOnly .lateStores }], guard := none }) (v := ?_) rfl (by decide) (by decide) (by kernel_rfl) (by kernel_rfl) (fun _ _ _ h => h) (by first | exact Or.inl (by assumption) | exact Or.inr (by kernel_rfl)) (Or.inl ⟨by rfl, ?_⟩) ?_
      rotate_left
      · intro w hSw
        (try dsimp only at hSw)
        (go_simp; try (with_reducible rfl))
      try simp only [Act.put, List.setIfInBounds_toArray, List.set_cons_zero, List.set_cons_succ]
      refine Go.HM.take_ (i := 3) (oi := { dst := some 34, op := .move (.tmp 4), type := 57, pos := "module.go:59", after := #[], guard := none }) (v := ?_) rfl (by decide) (by decide) (by kernel_rfl) (by kernel_rfl) (fun _ _ _ h => h) (by first | exact Or.inl (by assumption) | exact Or.inr (by kernel_rfl)) (Or.inl ⟨by rfl, ?_⟩) ?_
      rotate_left
      · intro w hSw
        (try dsimp only at hSw)
        (go_simp; try (with_reducible rfl))
      try simp only [Act.put, List.setIfInBounds_toArray, List.set_cons_zero, List.set_cons_succ]
      refine Go.HM.take_ (i := 4) (oi := { dst := some 35, op := .nilCheck (.tmp 34), type := 0, pos := "module.go:59", after := #[{ on := 3, ground := .data }], guard := none }) (v := ?_) rfl (by decide) (by decide) (by kernel_rfl) (by kernel_rfl) (fun _ _ _ h => h) (by first | exact Or.inl (by assumption) | exact Or.inr (by kernel_rfl)) (Or.inl ⟨by rfl, ?_⟩) ?_
      rotate_left
      · intro w hSw
        (try dsimp only at hSw)
        (go_simp; try (with_reducible rfl))
      try simp only [Act.put, List.setIfInBounds_toArray, List.set_cons_zero, List.set_cons_succ]
      refine Go.HM.take_ (i := 5) (oi := { dst := some 36, op := .fieldAddr 35 (.tmp 35) 2, type := 0, pos := "module.go:59", after := #[{ on := 4, ground := .data }], guard := none }) (v := ?_) rfl (by decide) (by decide) (by kernel_rfl) (by kernel_rfl) (fun _ _ _ h => h) (by first | exact Or.inl (by assumption) | exact Or.inr (by kernel_rfl)) (Or.inl ⟨by rfl, ?_⟩) ?_
      rotate_left
      · intro w hSw
        (try dsimp only at hSw)
        (go_simp; try (with_reducible rfl))
      try simp only [Act.put, List.setIfInBounds_toArray, List.set_cons_zero, List.set_cons_succ]
      refine Go.HM.load_ (i := 6) (oi := { dst := some 37, op := .load 29 (.tmp 36), type := 29, pos := "module.go:59", after := #[{ on := 5, ground := .data }], guard := none }) (v := ?_) rfl (by decide) (by decide) (by kernel_rfl) (by kernel_rfl) (by kernel_rfl) (fun _ _ _ h => h) (by first | exact Or.inl (by assumption) | exact Or.inr (by kernel_rfl)) (Or.inl ⟨by rfl, ?_⟩) ?_
      rotate_left
      · intro w hSw
        (try dsimp only at hSw)
        obtain ⟨y2, y3, y4⟩ := hSw; (go_simp; try (with_reducible rfl))
      try simp only [Act.put, List.setIfInBounds_toArray, List.set_cons_zero, List.set_cons_succ]
      refine Go.HM.take_ (i := 8) (oi := { dst := some 39, op := .move (.tmp 4), type := 57, pos := "module.go:59", after := #[], guard := none }) (v := ?_) rfl (by decide) (by decide) (by kernel_rfl) (by kernel_rfl) (fun _ _ _ h => h) (by first | exact Or.inl (by assumption) | exact Or.inr (by kernel_rfl)) (Or.inl ⟨by rfl, ?_⟩) ?_
      rotate_left
      · intro w hSw
        (try dsimp only at hSw)
        (go_simp; try (with_reducible rfl))
      try simp only [Act.put, List.setIfInBounds_toArray, List.set_cons_zero, List.set_cons_succ]
      refine Go.HM.take_ (i := 9) (oi := { dst := some 40, op := .nilCheck (.tmp 39), type := 0, pos := "module.go:59", after := #[{ on := 8, ground := .data }], guard := none }) (v := ?_) rfl (by decide) (by decide) (by kernel_rfl) (by kernel_rfl) (fun _ _ _ h => h) (by first | exact Or.inl (by assumption) | exact Or.inr (by kernel_rfl)) (Or.inl ⟨by rfl, ?_⟩) ?_
      rotate_left
      · intro w hSw
        (try dsimp only at hSw)
        (go_simp; try (with_reducible rfl))
      try simp only [Act.put, List.setIfInBounds_toArray, List.set_cons_zero, List.set_cons_succ]
      refine Go.HM.take_ (i := 10) (oi := { dst := some 41, op := .fieldAddr 35 (.tmp 40) 3, type := 0, pos := "module.go:59", after := #[{ on := 9, ground := .data }], guard := none }) (v := ?_) rfl (by decide) (by decide) (by kernel_rfl) (by kernel_rfl) (fun _ _ _ h => h) (by first | exact Or.inl (by assumption) | exact Or.inr (by kernel_rfl)) (Or.inl ⟨by rfl, ?_⟩) ?_
      rotate_left
      · intro w hSw
        (try dsimp only at hSw)
        (go_simp; try (with_reducible rfl))
      try simp only [Act.put, List.setIfInBounds_toArray, List.set_cons_zero, List.set_cons_succ]
      refine Go.HM.load_ (i := 11) (oi := { dst := some 42, op := .load 29 (.tmp 41), type := 29, pos := "module.go:59", after := #[{ on := 10, ground := .data }], guard := none }) (v := ?_) rfl (by decide) (by decide) (by kernel_rfl) (by kernel_rfl) (by kernel_rfl) (fun _ _ _ h => h) (by first | exact Or.inl (by assumption) | exact Or.inr (by kernel_rfl)) (Or.inl ⟨by rfl, ?_⟩) ?_
      rotate_left
      · intro w hSw
        (try dsimp only at hSw)
        obtain ⟨y2, y3, y4⟩ := hSw; (go_simp; try (with_reducible rfl))
      try simp only [Act.put, List.setIfInBounds_toArray, List.set_cons_zero, List.set_cons_succ]
      refine Go.HM.take_ (i := 13) (oi := { dst := some 44, op := .move (.tmp 4), type := 57, pos := "module.go:59", after := #[], guard := none }) (v := ?_) rfl (by decide) (by decide) (by kernel_rfl) (by kernel_rfl) (fun _ _ _ h => h) (by first | exact Or.inl (by assumption) | exact Or.inr (by kernel_rfl)) (Or.inl ⟨by rfl, ?_⟩) ?_
      rotate_left
      · intro w hSw
        (try dsimp only at hSw)
        (go_simp; try (with_reducible rfl))
      try simp only [Act.put, List.setIfInBounds_toArray, List.set_cons_zero, List.set_cons_succ]
      refine Go.HM.take_ (i := 14) (oi := { dst := some 45, op := .nilCheck (.tmp 44), type := 0, pos := "module.go:59", after := #[{ on := 13, ground := .data }], guard := none }) (v := ?_) rfl (by decide) (by decide) (by kernel_rfl) (by kernel_rfl) (fun _ _ _ h => h) (by first | exact Or.inl (by assumption) | exact Or.inr (by kernel_rfl)) (Or.inl ⟨by rfl, ?_⟩) ?_
      rotate_left
      · intro w hSw
        (try dsimp only at hSw)
        (go_simp; try (with_reducible rfl))
      try simp only [Act.put, List.setIfInBounds_toArray, List.set_cons_zero, List.set_cons_succ]
      refine Go.HM.take_ (i := 15) (oi := { dst := some 46, op := .fieldAddr 35 (.tmp 45) 4, type := 0, pos := "module.go:59", after := #[{ on := 14, ground := .data }], guard := none }) (v := ?_) rfl (by decide) (by decide) (by kernel_rfl) (by kernel_rfl) (fun _ _ _ h => h) (by first | exact Or.inl (by assumption) | exact Or.inr (by kernel_rfl)) (Or.inl ⟨by rfl, ?_⟩) ?_
      rotate_left
      · intro w hSw
        (try dsimp only at hSw)
        (go_simp; try (with_reducible rfl))
      try simp only [Act.put, List.setIfInBounds_toArray, List.set_cons_zero, List.set_cons_succ]
      refine Go.HM.load_ (i := 16) (oi := { dst := some 47, op := .load 22 (.tmp 46), type := 22, pos := "module.go:59", after := #[{ on := 15, ground := .data }], guard := none }) (v := ?_) rfl (by decide) (by decide) (by kernel_rfl) (by kernel_rfl) (by kernel_rfl) (fun _ _ _ h => h) (by first | exact Or.inl (by assumption) | exact Or.inr (by kernel_rfl)) (Or.inl ⟨by rfl, ?_⟩) ?_
      rotate_left
      · intro w hSw
        (try dsimp only at hSw)
        obtain ⟨y2, y3, y4⟩ := hSw; (go_simp; try (with_reducible rfl))
      try simp only [Act.put, List.setIfInBounds_toArray, List.set_cons_zero, List.set_cons_succ]
      have UZ : Hid (wr.heap.size ≤ wr.drew.heap.size) := Lib.hid (Nat.le_refl _)
      refine Go.HM.step_ (i := 7) (o := { dst := some 38, op := .call { callee := .value (.func 33), args := #[.tmp 37], argTypes := #[29] }, type := 29, pos := "module.go:59", after := #[{ on := 6, ground := .data }], guard := none }) rfl (by decide) (by kernel_rfl) (fun K hK => ?_)
      go_simp
      refine (clone33_calls wr.drew la ln lc (ints f.locals) (by unfold ints; rw [List.length_map, HL1.out, Nat.mul_one]) (fun hp => by obtain ⟨b, off, e, hc⟩ := HL3.out hp; exact ⟨b, off, e, fun j u hu => (HBW.out.cell (p := ⟨b, off + j, none⟩) (World.block_lt_of_cell? w _ (hc j u hu))).trans (hc j u hu)⟩) (ints_one _) l2).mono ?_
      rintro e u5 ⟨v5, rfl, hcl⟩
      obtain ⟨d5, e5, rfl, hl5⟩ := hcl.shape
      dsimp only
      have LR : Hid (ReadsI (TH u5 (g :: List.range (w.heap.size + 2))) (.slice d5 ln e5) f.locals) := Lib.hid (clone_readsI hcl HL1.out l2 (fun b hb => by
          have h2 := blk_lt HY9.out
          have h3 := UZ.out
          rcases List.mem_cons.1 hb with h | h
          · rw [h]; have := hgz.2; omega
          · have := List.mem_range.1 h; omega))
      have hbb := hcl.below
      have hgb : g < wr.drew.heap.size := hgz.2
      have hC5 : u5.cell? ⟨g, i * 5 + 2, none⟩ = some (.slice la ln lc) ∧ u5.cell? ⟨g, i * 5 + 3, none⟩ = some (.slice ia inn ic) ∧ u5.cell? ⟨g, i * 5 + 4, none⟩ = some (.slice ba bl bc) := ⟨(hbb.cell (p := ⟨g, i * 5 + 2, none⟩) hgb).trans hC.1, (hbb.cell (p := ⟨g, i * 5 + 3, none⟩) hgb).trans hC.2.1, (hbb.cell (p := ⟨g, i * 5 + 4, none⟩) hgb).trans hC.2.2⟩
      have U5 : Hid (Below wr.heap.size wr u5) := Lib.hid (HWD.out.trans hbb)
      have V5 : Hid (Below w.heap.size w u5) := Lib.hid (HBW.out.trans (hbb.mono HBW.out.size))
      have UZ5 : Hid (wr.heap.size ≤ u5.heap.size) := Lib.hid U5.out.size
      clear hbb hgb hcl hC
      refine hK.out _ _ (.inl hC5) ?_
      clear hK K
      try simp only [Act.put, List.setIfInBounds_toArray, List.set_cons_zero, List.set_cons_succ]
      refine Go.HM.step_ (i := 12) (o := { dst := some 43, op := .call { callee := .value (.func 33), args := #[.tmp 42], argTypes := #[29] }, type := 29, pos := "module.go:59", after := #[{ on := 11, ground := .data }, { on := 7, ground := .chain }], guard := none }) rfl (by decide) (by kernel_rfl) (fun K hK => ?_)
      go_simp
      refine (clone33_calls u5 ia inn ic (ints f.sites) (by unfold ints; rw [List.length_map, HI1.out, Nat.mul_one]) (fun hp => by obtain ⟨b, off, e, hc⟩ := HI3.out hp; exact ⟨b, off, e, fun j u hu => (V5.out.cell (p := ⟨b, off + j, none⟩) (World.block_lt_of_cell? w _ (hc j u hu))).trans (hc j u hu)⟩) (ints_one _) i2).mono ?_
      rintro e u6 ⟨v6, rfl, hcl⟩
      obtain ⟨d6, e6, rfl, hl6⟩ := hcl.shape
      dsimp only
      have LR6 := Lib.hid (LR.out.sub (th_below hcl.below))
      have IR : Hid (ReadsI (TH u6 (g :: List.range (w.heap.size + 2))) (.slice d6 inn e6) f.sites) := Lib.hid (clone_readsI hcl HI1.out i2 (fun b hb => by
          have h2 := blk_lt HY9.out
          have h3 := UZ5.out
          rcases List.mem_cons.1 hb with h | h
          · rw [h]; have := hgz.2; omega
          · have := List.mem_range.1 h; omega))
      have hbb := hcl.below
      have hgb : g < u5.heap.size := by have := UZ5.out; have := hgz.2; omega
      have hC6 : u6.cell? ⟨g, i * 5 + 2, none⟩ = some (.slice la ln lc) ∧ u6.cell? ⟨g, i * 5 + 3, none⟩ = some (.slice ia inn ic) ∧ u6.cell? ⟨g, i * 5 + 4, none⟩ = some (.slice ba bl bc) := ⟨(hbb.cell (p := ⟨g, i * 5 + 2, none⟩) hgb).trans hC5.1, (hbb.cell (p := ⟨g, i * 5 + 3, none⟩) hgb).trans hC5.2.1, (hbb.cell (p := ⟨g, i * 5 + 4, none⟩) hgb).trans hC5.2.2⟩
      have U6 : Hid (Below wr.heap.size wr u6) := Lib.hid (U5.out.trans (hbb.mono UZ5.out))
      have V6 : Hid (Below w.heap.size w u6) := Lib.hid (V5.out.trans (hbb.mono V5.out.size))
      have UZ6 : Hid (wr.heap.size ≤ u6.heap.size) := Lib.hid U6.out.size
      clear hbb hgb hcl hC5
      refine hK.out _ _ (.inl hC6) ?_
      clear hK K
      try simp only [Act.put, List.setIfInBounds_toArray, List.set_cons_zero, List.set_cons_succ]
      refine Go.HM.step_ (i := 17) (o := { dst := some 48, op := .call { callee := .value (.func 35), args := #[.tmp 47], argTypes := #[22] }, type := 22, pos := "module.go:59", after := #[{ on := 16, ground := .data }, { on := 12, ground := .chain }], guard := none }) rfl (by decide) (by kernel_rfl) (fun K hK => ?_)
      go_simp
      refine (body_calls _ f.body (Nat.le_refl _) u6 ba bl bc (HBD.out.below V6.out) HSB.out hbl).mono ?_
      rintro e u7 ⟨d7, e7, rfl, hl7, hrb, hb7⟩
      dsimp only
      have LR7 := Lib.hid (LR6.out.sub (th_below hb7))
      have IR7 := Lib.hid (IR.out.sub (th_below hb7))
      have BR7 : Hid (ReadsB (TH u7 (g :: List.range (w.heap.size + 2))) (.slice d7 bl e7) f.body) := Lib.hid ⟨d7, bl, e7, rfl, hbl, hrb.sub (th_less (fun b hb => by
        have h2 := blk_lt HY9.out
        have h3 := UZ6.out
        rcases List.mem_cons.1 hb with h | h
        · rw [h]; exact List.mem_range.2 (by have := hgz.2; omega)
        · have := List.mem_range.1 h; exact List.mem_range.2 (by omega)))⟩
      have hbb := hb7
      have hgb : g < u6.heap.size := by have := UZ6.out; have := hgz.2; omega
      have hC7 : u7.cell? ⟨g, i * 5 + 2, none⟩ = some (.slice la ln lc) ∧ u7.cell? ⟨g, i * 5 + 3, none⟩ = some (.slice ia inn ic) ∧ u7.cell? ⟨g, i * 5 + 4, none⟩ = some (.slice ba bl bc) := ⟨(hbb.cell (p := ⟨g, i * 5 + 2, none⟩) hgb).trans hC6.1, (hbb.cell (p := ⟨g, i * 5 + 3, none⟩) hgb).trans hC6.2.1, (hbb.cell (p := ⟨g, i * 5 + 4, none⟩) hgb).trans hC6.2.2⟩
      have U7 : Hid (Below wr.heap.size wr u7) := Lib.hid (U6.out.trans (hbb.mono UZ6.out))
      have V7 : Hid (Below w.heap.size w u7) := Lib.hid (V6.out.trans (hbb.mono V6.out.size))
      have S7 := Lib.hid (HS.out.sub (th_below U7.out))
      have G7 := Lib.hid (HG.out.sub (th_below U7.out))
      have E7 := Lib.hid (HE.out.sub (th_below U7.out))
      have HOW7 := Lib.hid (own_below HM.out.own U7.out)
      clear hbb hgb hb7 hrb hC6
      refine hK.out _ _ (.inl hC7) ?_
      clear hK K
      try simp only [Act.put, List.setIfInBounds_toArray, List.set_cons_zero, List.set_cons_succ]
      have fz := own_frozen HOW7.out
      have y2 := hC7.1
      have y3 := hC7.2.1
      have y4 := hC7.2.2
      refine Go.HM.take_ (i := 18) (oi := { dst := some 49, op := .nilCheck (.tmp 31), type := 0, pos := "module.go:59", after := #[{ on := 0, ground := .data }, { on := 0, ground := .phase }, { on := 1, ground := .textOnly .lateStores }, { on := 2, ground := .textOnly .lateStores }, { on := 3, ground := .phase }, { on := 4, ground := .phase }, { on := 5, ground := .phase }, { on := 6, ground := .phase }, { on := 7, ground := .phase }, { on := 8, ground := .textOnly .lateStores }, { on := 9, ground := .textOnly .lateStoresUnsure }, { on := 10, ground := .textOnly .lateStoresUnsure }, { on := 11, ground := .phase }, { on := 12, ground := .phase }, { on := 13, ground := .textOnly .lateStores }, { on := 14, ground := .textOnly .lateStoresUnsure }, { on := 15, ground := .textOnly .lateStoresUnsure }, { on := 16, ground := .phase }, { on := 17, ground := .phase }], guard := none }) (v := ?_) rfl (by decide) (by decide) (by kernel_rfl) (by kernel_rfl) (fun _ _ _ h => h) (by first | exact Or.inl (by assumption) | exact Or.inr (by kernel_rfl)) (Or.inl ⟨by rfl, ?_⟩) ?_
      rotate_left
      · intro w hSw
        (try dsimp only at hSw)
        (go_simp; try (with_reducible rfl))
      try simp only [Act.put, List.setIfInBounds_toArray, List.set_cons_zero, List.set_cons_succ]
      refine Go.HM.take_ (i := 19) (oi := { dst := some 50, op := .fieldAddr 35 (.tmp 49) 2, type := 0, pos := "module.go:59", after := #[{ on := 18, ground := .data }, { on := 0, ground := .phase }, { on := 1, ground := .textOnly .lateStores }, { on := 2, ground := .textOnly .lateStores }, { on := 3, ground := .phase }, { on := 4, ground := .phase }, { on := 5, ground := .phase }, { on := 6, ground := .phase }, { on := 7, ground := .phase }, { on := 8, ground := .textOnly .lateStores }, { on := 9, ground := .textOnly .lateStoresUnsure }, { on := 10, ground := .textOnly .lateStoresUnsure }, { on := 11, ground := .phase }, { on := 12, ground := .phase }, { on := 13, ground := .textOnly .lateStores }, { on := 14, ground := .textOnly .lateStoresUnsure }, { on := 15, ground := .textOnly .lateStoresUnsure }, { on := 16, ground := .phase }, { on := 17, ground := .phase }], guard := none }) (v := ?_) rfl (by decide) (by decide) (by kernel_rfl) (by kernel_rfl) (fun _ _ _ h => h) (by first | exact Or.inl (by assumption) | exact Or.inr (by kernel_rfl)) (Or.inl ⟨by rfl, ?_⟩) ?_
      rotate_left
      · intro w hSw
        (try dsimp only at hSw)
        (go_simp; try (with_reducible rfl))
      try simp only [Act.put, List.setIfInBounds_toArray, List.set_cons_zero, List.set_cons_succ]
      refine Go.HM.step_ (i := 20) (o := { dst := none, op := .store 29 (.tmp 50) (.tmp 38), type := 0, pos := "module.go:59", after := #[{ on := 19, ground := .data }, { on := 7, ground := .data }, { on := 17, ground := .chain }, { on := 0, ground := .phase }, { on := 1, ground := .textOnly .lateStores }, { on := 2, ground := .textOnly .lateStores }, { on := 3, ground := .phase }, { on := 4, ground := .phase }, { on := 5, ground := .phase }, { on := 6, ground := .phase }, { on := 7, ground := .phase }, { on := 8, ground := .textOnly .lateStores }, { on := 9, ground := .textOnly .lateStoresUnsure }, { on := 10, ground := .textOnly .lateStoresUnsure }, { on := 11, ground := .phase }, { on := 12, ground := .phase }, { on := 13, ground := .textOnly .lateStores }, { on := 14, ground := .textOnly .lateStoresUnsure }, { on := 15, ground := .textOnly .lateStoresUnsure }, { on := 16, ground := .phase }, { on := 17, ground := .phase }], guard := none }) rfl (by decide) (by kernel_rfl) (fun K hK => ?_)
      go_simp
      refine hK.out _ _ (.inr (by kernel_rfl)) ?_
      clear hK K
      try simp only [Act.put, List.setIfInBounds_toArray, List.set_cons_zero, List.set_cons_succ]
      have HOW8 := Lib.hid (HOW7.out.stored (i * 5 + 2) (.slice d5 ln e5)).1
      obtain ⟨W8', hW8'⟩ : ∃ W, W = u7.setCell ⟨g, i * 5 + 2, none⟩ (.slice d5 ln e5) := ⟨_, rfl⟩
      rw [← hW8'] at HOW8 ⊢
      have HW8' := Lib.hid hW8'
      clear hW8' fz y2 y3 y4 hC7
      have fz := own_frozen HOW8.out
      have y3 : W8'.cell? ⟨g, i * 5 + 3, none⟩ = some (.slice ia inn ic) := own_cell HOW8.out (by rw [List.getElem?_set, if_neg (by omega)]; exact HVS.out 3 _ rfl)
      have y4 : W8'.cell? ⟨g, i * 5 + 4, none⟩ = some (.slice ba bl bc) := own_cell HOW8.out (by rw [List.getElem?_set, if_neg (by omega)]; exact HVS.out 4 _ rfl)
      refine Go.HM.take_ (i := 21) (oi := { dst := some 51, op := .nilCheck (.tmp 32), type := 0, pos := "module.go:59", after := #[{ on := 1, ground := .data }, { on := 0, ground := .phase }, { on := 1, ground := .phase }, { on := 2, ground := .textOnly .lateStores }, { on := 3, ground := .phase }, { on := 4, ground := .phase }, { on := 5, ground := .phase }, { on := 6, ground := .phase }, { on := 7, ground := .phase }, { on := 8, ground := .phase }, { on := 9, ground := .phase }, { on := 10, ground := .phase }, { on := 11, ground := .phase }, { on := 12, ground := .phase }, { on := 13, ground := .textOnly .lateStores }, { on := 14, ground := .textOnly .lateStoresUnsure }, { on := 15, ground := .textOnly .lateStoresUnsure }, { on := 16, ground := .phase }, { on := 17, ground := .phase }, { on := 18, ground := .phase }, { on := 19, ground := .phase }, { on := 20, ground := .phase }], guard := none }) (v := ?_) rfl (by decide) (by decide) (by kernel_rfl) (by kernel_rfl) (fun _ _ _ h => h) (by first | exact Or.inl (by assumption) | exact Or.inr (by kernel_rfl)) (Or.inl ⟨by rfl, ?_⟩) ?_
      rotate_left
      · intro w hSw
        (try dsimp only at hSw)
        (go_simp; try (with_reducible rfl))
      try simp only [Act.put, List.setIfInBounds_toArray, List.set_cons_zero, List.set_cons_succ]
      refine Go.HM.take_ (i := 22) (oi := { dst := some 52, op := .fieldAddr 35 (.tmp 51) 3, type := 0, pos := "module.go:59", after := #[{ on := 21, ground := .data }, { on := 0, ground := .phase }, { on := 1, ground := .phase }, { on := 2, ground := .textOnly .lateStores }, { on := 3, ground := .phase }, { on := 4, ground := .phase }, { on := 5, ground := .phase }, { on := 6, ground := .phase }, { on := 7, ground := .phase }, { on := 8, ground := .phase }, { on := 9, ground := .phase }, { on := 10, ground := .phase }, { on := 11, ground := .phase }, { on := 12, ground := .phase }, { on := 13, ground := .textOnly .lateStores }, { on := 14, ground := .textOnly .lateStoresUnsure }, { on := 15, ground := .textOnly .lateStoresUnsure }, { on := 16, ground := .phase }, { on := 17, ground := .phase }, { on := 18, ground := .phase }, { on := 19, ground := .phase }, { on := 20, ground := .phase }], guard := none }) (v := ?_) rfl (by decide) (by decide) (by kernel_rfl) (by kernel_rfl) (fun _ _ _ h => h) (by first | exact Or.inl (by assumption) | exact Or.inr (by kernel_rfl)) (Or.inl ⟨by rfl, ?_⟩) ?_
      rotate_left
      · intro w hSw
        (try dsimp only at hSw)
        (go_simp; try (with_reducible rfl))
      try simp only [Act.put, List.setIfInBounds_toArray, List.set_cons_zero, List.set_cons_succ]
      refine Go.HM.step_ (i := 23) (o := { dst := none, op := .store 29 (.tmp 52) (.tmp 43), type := 0, pos := "module.go:59", after := #[{ on := 22, ground := .data }, { on := 12, ground := .data }, { on := 20, ground := .chain }, { on := 0, ground := .phase }, { on := 1, ground := .phase }, { on := 2, ground := .textOnly .lateStores }, { on := 3, ground := .phase }, { on := 4, ground := .phase }, { on := 5, ground := .phase }, { on := 6, ground := .phase }, { on := 7, ground := .phase }, { on := 8, ground := .phase }, { on := 9, ground := .phase }, { on := 10, ground := .phase }, { on := 11, ground := .phase }, { on := 12, ground := .phase }, { on := 13, ground := .textOnly .lateStores }, { on := 14, ground := .textOnly .lateStoresUnsure }, { on := 15, ground := .textOnly .lateStoresUnsure }, { on := 16, ground := .phase }, { on := 17, ground := .phase }, { on := 18, ground := .phase }, { on := 19, ground := .phase }, { on := 20, ground := .phase }], guard := none }) rfl (by decide) (by kernel_rfl) (fun K hK => ?_)
      go_simp
      refine hK.out _ _ (.inr (by kernel_rfl)) ?_
      clear hK K
      try simp only [Act.put, List.setIfInBounds_toArray, List.set_cons_zero, List.set_cons_succ]
      have HOW9 := Lib.hid (HOW8.out.stored (i * 5 + 3) (.slice d6 inn e6)).1
      obtain ⟨W9', hW9'⟩ : ∃ W, W = W8'.setCell ⟨g, i * 5 + 3, none⟩ (.slice d6 inn e6) := ⟨_, rfl⟩
      rw [← hW9'] at HOW9 ⊢
      have HW9' := Lib.hid hW9'
      clear hW9' fz y3 y4
      have fz := own_frozen HOW9.out
      have y4 : W9'.cell? ⟨g, i * 5 + 4, none⟩ = some (.slice ba bl bc) := own_cell HOW9.out (by rw [List.getElem?_set, if_neg (by omega), List.getElem?_set, if_neg (by omega)]; exact HVS.out 4 _ rfl)
      refine Go.HM.done_ (by kernel_rfl) ?_
      simp only [List.drop_succ_cons, List.drop_zero]
      go_wp2_with fail
      obtain ⟨hms, hsub⟩ := HM.out.step HF.out HVS.out U7.out LR7.out IR7.out BR7.out
      rw [← HW8'.out, ← HW9'.out] at hms hsub
      have hgr : u7.grownBy (W9'.setCell ⟨g, i * 5 + 4, none⟩ (.slice d7 bl e7)) (some g) := by
        rw [HW9'.out, HW8'.out]
        exact grown_set (grown_set (grown_set (grown_refl _ _) _ _) _ _) _ _
      have HMS := Lib.hid hms
      have SS := Lib.hid (S7.out.sub hsub)
      have GG := Lib.hid (G7.out.sub hsub)
      have EE := Lib.hid (E7.out.sub hsub)
      have XX := Lib.hid ((hgr.block _ (blk_lt (blk_below HX.out U7.out)) (fun e => by injection e with e; omega)).trans (blk_below HX.out U7.out))
      have YY := Lib.hid ((hgr.block _ (blk_lt (blk_below HY9.out U7.out)) (fun e => by injection e with e; omega)).trans (blk_below HY9.out U7.out))
      have BB : Hid (Below w.heap.size w (W9'.setCell ⟨g, i * 5 + 4, none⟩ (.slice d7 bl e7))) := Lib.hid (V7.out.grown hgr V7.out.size (fun k hk => by injection hk with hk; omega))
      clear hms hsub hgr
      go_roundg (n - (i + 1))
      case measure => have := HK.out; omega
      case rel => exact ⟨i + 1, _, by go_num, by omega, rfl, HMS, SS, GG, EE, XX, YY, BB⟩
    · obtain rfl : n = i := by omega
      have hnn : ¬ (n : Int) < (n : Int) := by omega
      obtain ⟨cy, fy, zy⟩ := blk3 HY9.out
      have hgz := World.ownsRow.lt HM.out.own g rfl
      go_wp2_with fail
      have hlen2 : ∀ b ∈ List.range w.heap.size, b ∈ g :: List.range (w.heap.size + 2) := fun b hb => List.mem_cons_of_mem _ (List.mem_range.2 (by have := List.mem_range.1 hb; omega))
      have hres := set4_blk HY9.out (.slice b1 sn c1) (.slice b2 gn c2) (.slice (some ⟨g, 0, none⟩) n c4) (.slice b3 en c3)
      have hbl := set4_below HB.out (show w.heap.size ≤ w.heap.size + 1 by omega) (.slice b1 sn c1) (.slice b2 gn c2) (.slice (some ⟨g, 0, none⟩) n c4) (.slice b3 en c3)
      have hrs := set4_th wr (w.heap.size + 1) (g :: List.range (w.heap.size + 2)) (.slice b1 sn c1) (.slice b2 gn c2) (.slice (some ⟨g, 0, none⟩) n c4) (.slice b3 en c3) (List.mem_cons_of_mem _ (List.mem_range.2 (by omega)))
      have hfn := HM.out.done HNN.out t2 (Nat.le_refl _)
      have hrs2 := set4_th wr (w.heap.size + 1) (List.range (w.heap.size + 2)) (.slice b1 sn c1) (.slice b2 gn c2) (.slice (some ⟨g, 0, none⟩) n c4) (.slice b3 en c3) (List.mem_range.2 (by omega))
      have hl0 : ∀ b ∈ List.range w.heap.size, b ∈ List.range (w.heap.size + 2) := fun b hb => List.mem_range.2 (by have := List.mem_range.1 hb; omega)
      obtain ⟨W', hW'⟩ : ∃ W', W' = ((((wr.setCell ⟨w.heap.size + 1, 0, none⟩ (.slice b1 sn c1)).setCell ⟨w.heap.size + 1, 1, none⟩ (.slice b2 gn c2)).setCell ⟨w.heap.size + 1, 2, none⟩ (.slice (some ⟨g, 0, none⟩) n c4)).setCell ⟨w.heap.size + 1, 3, none⟩ (.slice b3 en c3)) := ⟨_, rfl⟩
      rw [← hW'] at hres hbl hrs hrs2 ⊢
      have hrd : ReadsM (TH W' (List.range w.heap.size)) (.agg #[.slice b1 sn c1, .slice b2 gn c2, .slice (some ⟨g, 0, none⟩) n c4, .slice b3 en c3]) m :=
        ⟨_, _, _, _, rfl, (HS.out.sub hrs).sub (th_less hlen2), (HG.out.sub hrs).sub (th_less hlen2), (hfn.sub hrs2).sub (th_less hl0), (HE.out.sub hrs).sub (th_less hlen2)⟩
      have HRD := Lib.hid hrd
      have HBL := Lib.hid hbl
      clear cy fy zy hW' hrs hrs2 hfn hrd hbl
      obtain ⟨cy, fy, zy⟩ := blk3 hres
      refine bodyPost_ret (v := .agg #[.slice b1 sn c1, .slice b2 gn c2, .slice (some ⟨g, 0, none⟩) n c4, .slice b3 en c3]) ?_ rfl ⟨_, rfl, HRD.out, HBL.out⟩
      rw [results_cell rfl]
      go_simp
end Go.Proofs.Ytjgijbaboekghaa

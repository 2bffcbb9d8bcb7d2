/-
  ROWS THAT GROW BESIDE DATA THAT ONLY READS. No statement of its own.
-/
import Derived.Test.YtjgijbaboekghaaUsed
set_option linter.unusedSimpArgs false
set_option linter.unusedVariables false
namespace Go.Proofs.Ytjgijbaboekghaa
open Go.RowKit
/-- What lay in w reads in w' though blocks laid since are taken away. -/
theorem sub_new {w w' : World} {bs : List Nat} (hb : Below w.heap.size w w') (hbs : ∀ b ∈ bs, w.heap.size ≤ b) : Sub w (sans w' bs) := fun p v hv => by
  have hlt := World.block_lt_of_cell? w p hv
  exact Sub.sans ((hb.cell hlt).trans hv) fun hm => by have := hbs _ hm; omega
theorem sub_sans_below {w w' : World} {bs : List Nat} (hb : Below w.heap.size w w') : Sub (sans w bs) (sans w' bs) := sub_sans fun k hk hkb => ⟨hkb, hb.block k hk⟩
theorem sub_sans_less {w : World} {bs bs' : List Nat} (h : ∀ b ∈ bs', b ∈ bs) : Sub (sans w bs) (sans w bs') := sub_sans fun _ _ hkb => ⟨fun hm => hkb (h _ hm), rfl⟩
/-- A row has grown. -/
theorem sub_grow {W w' : World} {v v' : Value} {bs : List Nat} (hg : W.grownBy w' v.ownBlock) (hn : v'.ownBlock = v.ownBlock ∨ ∀ k, v'.ownBlock = some k → W.heap.size ≤ k) :
    Sub (sans W (v.ownBlock.toList ++ bs)) (sans w' (v'.ownBlock.toList ++ bs)) := sub_sans fun k hk hkb => by
  simp only [List.mem_append, Option.mem_toList, not_or] at hkb ⊢
  obtain ⟨h1, h2⟩ := hkb
  refine ⟨⟨fun h => ?_, h2⟩, hg.block k hk (fun e => h1 e.symm)⟩
  rcases hn with hn | hn
  · exact h1 (hn ▸ h)
  · have := hn k h; omega
/-- A cell is stored into. -/
theorem sub_store {w : World} {p : Addr} {u : Value} {bs : List Nat} (hp : p.block ∈ bs) : Sub (sans w bs) (sans (w.setCell p u) bs) := sub_sans fun k _ hkb =>
  ⟨hkb, Below.heap_setCell w p u k (fun e => hkb (e ▸ hp))⟩
section
variable {P : Program}
theorem append_step2 {o : Oper} {a : Act} {K : Act → World → Prop} {Q : Exit → Act → World → Prop} {B : Nat} {w0 W : World} (s x : Operand) (t e : TypeId) (z : Value) (size bytes : Nat)
    (ho : o.op = .call { callee := .builtin .append, args := #[s, x], argTypes := #[t, t] }) (ht : P.underlying t = some (.slice e)) (hinfo : (P.info? e).map (fun i => (i.zero, i.size, i.bytes)) = some (some z, size, bytes)) (hz : z.cells.size = size) (hsz : 0 < size)
    (v : Value) (n : Nat) (xs : List Value) (hs : a.eval s = v) (hown : W.ownsRow B e size v n xs)
    (ad : Addr) (m c : Nat) (news : List Value) (hx : a.eval x = .slice (some ad) m c) (hl : news.length = m * size) (hnews : ∀ j u, news[j]? = some u → W.cell? (ad.add j) = some u) (h1 : ∀ u ∈ news, u.oneCell' = true)
    (hB : B ≤ W.heap.size) (hb : Below B w0 W) (h63 : n + m ≤ 9223372036854775807) (hlen : (n + m) * bytes ≤ 140737488355328)
    (h : ∀ v' w', w'.ownsRow B e size v' (n + m) (xs ++ news) → Below B w0 w' → W.grownBy w' v.ownBlock → (v'.ownBlock = v.ownBlock ∨ ∀ k, v'.ownBlock = some k → W.heap.size ≤ k) → K (a.put o.dst v') w') : o.wp P a W K Q := by
  obtain ⟨i0, hi, hzz⟩ := Option.map_eq_some_iff.1 hinfo
  simp only [Prod.mk.injEq] at hzz
  obtain ⟨hz0, hz1, hz2⟩ := hzz
  obtain ⟨v', w', hr, h2, h3, h4⟩ := run_append_where (P := P) (w := W) B t o.type e i0 z size bytes ht hi hz0 hz1 hz2 hz hsz v n xs hown ad m c news hl hnews h1 (by unfold maxLen; omega) hlen hB
  unfold Oper.wp execOp
  simp only [ho, resolve, invoke, builtin, Sem.run_bind, Sem.run_pure, Result.andThen_ok, List.map_toArray, List.map_cons, List.map_nil, hs, hx, hr]
  exact h v' w' h2 (hb.grown h3 hB (fun k hk => (World.ownsRow.lt hown k hk).1)) h3 h4
theorem append_list2 {ops : Array Oper} {rest : List Oper} {o : Oper} {a : Act} {Q : Exit → Act → World → Prop} {B : Nat} {w0 W : World} (hgd : o.guard = none) (s x : Operand) (t e : TypeId) (z : Value) (size bytes : Nat)
    (ho : o.op = .call { callee := .builtin .append, args := #[s, x], argTypes := #[t, t] }) (ht : P.underlying t = some (.slice e)) (hinfo : (P.info? e).map (fun i => (i.zero, i.size, i.bytes)) = some (some z, size, bytes)) (hz : z.cells.size = size) (hsz : 0 < size)
    (v : Value) (n : Nat) (xs : List Value) (hs : a.eval s = v) (hown : W.ownsRow B e size v n xs)
    (ad : Addr) (m c : Nat) (news : List Value) (hx : a.eval x = .slice (some ad) m c) (hl : news.length = m * size) (hnews : ∀ j u, news[j]? = some u → W.cell? (ad.add j) = some u) (h1 : ∀ u ∈ news, u.oneCell' = true)
    (hB : B ≤ W.heap.size) (hb : Below B w0 W) (h63 : n + m ≤ 9223372036854775807) (hlen : (n + m) * bytes ≤ 140737488355328)
    (h : ∀ v' w', w'.ownsRow B e size v' (n + m) (xs ++ news) → Below B w0 w' → W.grownBy w' v.ownBlock → (v'.ownBlock = v.ownBlock ∨ ∀ k, v'.ownBlock = some k → W.heap.size ≤ k) → wpList P ops Q rest (a.put o.dst v') w') : wpList P ops Q (o :: rest) a W :=
  wpList_plain hgd fun K hK => append_step2 s x t e z size bytes ho ht hinfo hz hsz v n xs hs hown ad m c news hx hl hnews h1 hB hb h63 hlen fun v' w' h2 h3 h4 h5 => hK _ _ (h v' w' h2 h3 h4 h5)
end
def strs (l : List ByteArray) : List Value := l.map Value.string
theorem info9 : (Try.prog.info? 9).map (fun i => (i.zero, i.size, i.bytes)) = some (some (.string ⟨#[]⟩), 1, 16) := by kernel_rfl
theorem info35 : (Try.prog.info? 35).map (fun i => (i.zero, i.size, i.bytes)) = some (some (.agg #[.int .i64 0, .int .i64 0, .slice none 0 0, .slice none 0 0, .slice none 0 0]), 5, 88) := by kernel_rfl
theorem info46 : (Try.prog.info? 46).map (fun i => (i.zero, i.size, i.bytes)) = some (some (.agg #[.int .u8 0, .int .u8 0, .int .i64 0, .int .u8 0, .int .i64 0, .slice none 0 0, .slice none 0 0]), 7, 88) := by kernel_rfl
/-- Strings in a row of the call's own. -/
theorem ReadsS.own {w : World} {B n : Nat} {A : Option Addr} {cp : Nat} {xs : List ByteArray} {bs : List Nat} (h : w.ownsRow B 9 1 (.slice A n cp) n (strs xs)) (hl : xs.length = n) (hn : n ≤ 1000) (hbs : ∀ b ∈ bs, ∀ g, A = some ⟨g, 0, none⟩ → b ≠ g) : ReadsS (sans w bs) (.slice A n cp) xs := by
  refine ⟨A, n, cp, rfl, hl, ⟨hn, by obtain ⟨_, _, e, hc, _⟩ := own_shape h; injection e with _ _ e3; omega⟩, fun hp => ?_⟩
  rcases h.2 with ⟨e, h0⟩ | ⟨g, cap, cur, e, hb, hh, h1, h2, h3, h4⟩
  · omega
  · injection e with e1 e2 e3
    subst e1
    refine ⟨g, 0, rfl, fun i hi => ?_⟩
    refine Sub.sans ?_ (fun hm => hbs _ hm g rfl rfl)
    rw [(blk3 hh).1, Nat.zero_add]
    have : (cur.toList.take (n * 1))[i]? = some (.string (xs.getD i ⟨#[]⟩)) := by
      rw [h4, strs, List.getElem?_map, List.getElem?_eq_getElem (by omega), List.getD_eq_getElem?_getD, List.getElem?_eq_getElem (by omega)]; rfl
    rw [Nat.mul_one, List.getElem?_take_of_lt hi] at this
    simpa using this
/-- The cells of functions, one behind another. -/
def FnsAt (w : World) : List Value → List Fn → Prop
  | xs, [] => xs = []
  | xs, f :: r => ∃ vs ys, xs = vs ++ ys ∧ Cells5 w vs f ∧ FnsAt w ys r
theorem Cells5.length {w : World} {vs : List Value} {f : Fn} (h : Cells5 w vs f) : vs.length = 5 := by
  obtain ⟨lv, sv, bv, rfl, _⟩ := h
  rfl
theorem FnsAt.sub {w w' : World} (hb : Sub w w') {xs : List Value} {fs : List Fn} (h : FnsAt w xs fs) : FnsAt w' xs fs := by
  induction fs generalizing xs with
  | nil => exact h
  | cons f r ih =>
    obtain ⟨vs, ys, e, h1, h2⟩ := h
    exact ⟨vs, ys, e, h1.sub hb, ih h2⟩
theorem FnsAt.snoc {w : World} {xs vs : List Value} {fs : List Fn} {f : Fn} (h : FnsAt w xs fs) (hv : Cells5 w vs f) : FnsAt w (xs ++ vs) (fs ++ [f]) := by
  induction fs generalizing xs with
  | nil =>
    rw [FnsAt] at h
    subst h
    exact ⟨vs, [], by simp, hv, rfl⟩
  | cons x r ih =>
    obtain ⟨vs', ys, rfl, h1, h2⟩ := h
    exact ⟨vs', _, by simp, h1, ih h2⟩
theorem FnsAt.length {w : World} {xs : List Value} {fs : List Fn} (h : FnsAt w xs fs) : xs.length = fs.length * 5 := by
  induction fs generalizing xs with
  | nil => rw [FnsAt] at h; subst h; rfl
  | cons f r ih =>
    obtain ⟨vs, ys, rfl, h1, h2⟩ := h
    have := ih h2
    have := h1.length
    simp
    omega
theorem FnsAt.at {w : World} {xs : List Value} {fs : List Fn} (h : FnsAt w xs fs) {i : Nat} {f : Fn} (hf : fs[i]? = some f) : ∃ vs, Cells5 w vs f ∧ ∀ j v, vs[j]? = some v → xs[i * 5 + j]? = some v := by
  induction fs generalizing xs i with
  | nil => simp at hf
  | cons x r ih =>
    obtain ⟨vs, ys, rfl, h1, h2⟩ := h
    have hl := h1.length
    cases i with
    | zero =>
      simp at hf
      subst hf
      refine ⟨vs, h1, fun j v hv => ?_⟩
      have hj := (List.getElem?_eq_some_iff.1 hv).1
      rw [Nat.zero_mul, Nat.zero_add, List.getElem?_append_left hj]
      exact hv
    | succ i =>
      obtain ⟨vs', k1, k2⟩ := ih h2 (by simpa using hf)
      refine ⟨vs', k1, fun j v hv => ?_⟩
      rw [List.getElem?_append_right (by omega), hl, show (i + 1) * 5 + j - 5 = i * 5 + j by omega]
      exact k2 j v hv
/-- Functions in a row of the call's own. -/
theorem ReadsF.own {w : World} {B n : Nat} {A : Option Addr} {cp : Nat} {xs : List Value} {fs : List Fn} (h : w.ownsRow B 35 5 (.slice A n cp) n xs) (hl : fs.length = n) (hn : n ≤ 1000) (hf : FnsAt w xs fs) : ReadsF w (.slice A n cp) fs := by
  refine ⟨A, n, cp, rfl, hl, hn, fun hp => ?_⟩
  rcases h.2 with ⟨e, h0⟩ | ⟨g, cap, cur, e, hb, hh, h1, h2, h3, h4⟩
  · omega
  · injection e with e1 e2 e3
    subst e1
    refine ⟨g, 0, rfl, fun i f hi => ?_⟩
    obtain ⟨vs, k1, k2⟩ := hf.at hi
    refine ⟨vs, k1, fun j v hv => ?_⟩
    have h5 := k2 j v hv
    rw [← h4] at h5
    have h6 := (List.getElem?_eq_some_iff.1 h5).1
    rw [List.getElem?_take_of_lt (by rw [List.length_take] at h6; omega)] at h5
    rw [(blk3 hh).1, Nat.zero_add]
    simpa using h5
end Go.Proofs.Ytjgijbaboekghaa

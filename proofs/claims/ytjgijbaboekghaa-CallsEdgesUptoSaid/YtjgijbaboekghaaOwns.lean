/-
  MANY ROWS OF THE CALL'S OWN, no two of one block. No statement of its own.
-/
import Derived.Test.YtjgijbaboekghaaBase
set_option linter.unusedVariables false
set_option linter.unusedSimpArgs false
namespace Go.Proofs.Ytjgijbaboekghaa
open Go.RowKit
/-- A row: its elements' type and size, the slice, its length, its cells. A variable in memory is one of length 1. -/
structure Row where
  e : TypeId
  size : Nat
  v : Value
  n : Nat
  xs : List Value
def Apart (a b : Row) : Prop := a.v.ownBlock = none ∨ a.v.ownBlock ≠ b.v.ownBlock
theorem Apart.symm {a b : Row} (h : Apart a b) : Apart b a := by
  rcases h with h | h
  · by_cases hb : b.v.ownBlock = none
    · exact .inl hb
    · exact .inr (by rw [h]; exact hb)
  · exact .inr (Ne.symm h)
structure Owns (w : World) (B : Nat) (rs : List Row) : Prop where
  own : ∀ r ∈ rs, w.ownsRow B r.e r.size r.v r.n r.xs
  apart : rs.Pairwise Apart
theorem Owns.nil (w : World) (B : Nat) : Owns w B [] := ⟨fun r h => (by cases h), .nil⟩
theorem Owns.perm {w : World} {B : Nat} {rs rs' : List Row} (h : Owns w B rs) (hp : rs.Perm rs') : Owns w B rs' :=
  ⟨fun r hr => h.own r (hp.mem_iff.2 hr), (hp.pairwise_iff (fun {_ _} h => h.symm)).1 h.apart⟩
theorem Owns.head {w : World} {B : Nat} {r : Row} {rs : List Row} (h : Owns w B (r :: rs)) : w.ownsRow B r.e r.size r.v r.n r.xs := h.own r List.mem_cons_self
theorem Owns.tail {w : World} {B : Nat} {r : Row} {rs : List Row} (h : Owns w B (r :: rs)) : Owns w B rs := ⟨fun x hx => h.own x (List.mem_cons_of_mem _ hx), (List.pairwise_cons.1 h.apart).2⟩
theorem Owns.below {w w' : World} {B : Nat} {rs : List Row} (h : Owns w B rs) (hb : Below w.heap.size w w') : Owns w' B rs := ⟨fun r hr => own_below (h.own r hr) hb, h.apart⟩
/-- A slice that is nil. -/
theorem Owns.none_ {w : World} {B : Nat} {rs : List Row} (h : Owns w B rs) (e : TypeId) (size : Nat) : Owns w B (⟨e, size, .slice none 0 0, 0, []⟩ :: rs) :=
  ⟨fun r hr => by
    rcases List.mem_cons.1 hr with rfl | hr
    · exact World.ownsRow_nil _ _ _ _
    · exact h.own r hr, List.pairwise_cons.2 ⟨fun r _ => .inl rfl, h.apart⟩⟩
/-- Something new is laid. -/
theorem Owns.new {w w' : World} {B : Nat} {rs : List Row} (h : Owns w B rs) (hb : Below w.heap.size w w') {r : Row} (hr : w'.ownsRow w.heap.size r.e r.size r.v r.n r.xs) (hB : B ≤ w.heap.size) : Owns w' B (r :: rs) := by
  refine ⟨fun x hx => ?_, List.pairwise_cons.2 ⟨fun x hx => ?_, h.apart⟩⟩
  · rcases List.mem_cons.1 hx with rfl | hx
    · obtain ⟨h1, h2⟩ := hr
      refine ⟨h1, ?_⟩
      rcases h2 with h2 | ⟨g, cap, cur, e, hg, r⟩
      · exact .inl h2
      · exact .inr ⟨g, cap, cur, e, by omega, r⟩
    · exact own_below (h.own x hx) hb
  · by_cases hn : r.v.ownBlock = none
    · exact .inl hn
    · refine .inr fun e => ?_
      obtain ⟨k, hk⟩ := Option.ne_none_iff_exists'.1 hn
      have h1 := (World.ownsRow.lt hr k hk).1
      have h2 := (World.ownsRow.lt (h.own x hx) k (by rw [← e]; exact hk)).2
      omega
/-- One row grows. -/
theorem Owns.grow {w w' : World} {B : Nat} {r : Row} {rs : List Row} (h : Owns w B (r :: rs)) {v' : Value} {n' : Nat} {xs' : List Value} (ho : w'.ownsRow B r.e r.size v' n' xs') (hg : w.grownBy w' r.v.ownBlock) (hn : v'.ownBlock = r.v.ownBlock ∨ ∀ k, v'.ownBlock = some k → w.heap.size ≤ k) : Owns w' B (⟨r.e, r.size, v', n', xs'⟩ :: rs) := by
  obtain ⟨ha, hp⟩ := List.pairwise_cons.1 h.apart
  refine ⟨fun x hx => ?_, List.pairwise_cons.2 ⟨fun x hx => ?_, hp⟩⟩
  · rcases List.mem_cons.1 hx with rfl | hx
    · exact ho
    · have hx' := h.own x (List.mem_cons_of_mem _ hx)
      refine hx'.kept hg ?_
      rcases (ha x hx).symm with h1 | h1
      · exact .inl h1
      · exact .inr h1
  · rcases hn with hn | hn
    · rcases ha x hx with h1 | h1
      · exact .inl (by show v'.ownBlock = none; rw [hn, h1])
      · exact .inr (by show v'.ownBlock ≠ _; rw [hn]; exact h1)
    · by_cases hv : v'.ownBlock = none
      · exact .inl hv
      · obtain ⟨k, hk⟩ := Option.ne_none_iff_exists'.1 hv
        refine .inr fun e => ?_
        have h1 := hn k hk
        have h2 := (World.ownsRow.lt (h.own x (List.mem_cons_of_mem _ hx)) k (by rw [← e]; exact hk)).2
        omega
/-- A cell of one row is stored into. -/
theorem Owns.store {w : World} {B : Nat} {r : Row} {rs : List Row} (h : Owns w B (r :: rs)) {g i : Nat} (hg : r.v.ownBlock = some g) (u : Value) : Owns (w.setCell ⟨g, i, none⟩ u) B (⟨r.e, r.size, r.v, r.n, r.xs.set i u⟩ :: rs) := by
  obtain ⟨ha, hp⟩ := List.pairwise_cons.1 h.apart
  refine ⟨fun x hx => ?_, List.pairwise_cons.2 ⟨fun x hx => ha x hx, hp⟩⟩
  rcases List.mem_cons.1 hx with rfl | hx
  · obtain ⟨h1, h2⟩ := h.head
    refine ⟨by simpa using h1, ?_⟩
    rcases h2 with ⟨e, _⟩ | ⟨g', cap, cur, e, hb, hh, q1, q2, q3, q4⟩
    · rw [e] at hg; simp [Value.ownBlock] at hg
    · have : g' = g := by rw [e] at hg; simpa [Value.ownBlock] using hg
      subst this
      refine .inr ⟨g', cap, _, e, hb, blk_set hh i u, q1, q2, by simpa using q3, ?_⟩
      simp only [Array.toList_setIfInBounds, ← q4]
      rw [List.take_set]
  · refine own_setCell (h.own x (List.mem_cons_of_mem _ hx)) ?_ u
    rcases ha x hx with h1 | h1
    · rw [hg] at h1; cases h1
    · rw [hg] at h1; exact h1
section
variable {P : Program} {w : World}
theorem run_append_where (base : Nat) (t ty e : TypeId) (i : TypeInfo) (z : Value) (size bytes : Nat) (ht : P.underlying t = some (.slice e)) (hi : P.info? e = some i) (hz : i.zero = some z)
    (hsize : i.size = size) (hby : i.bytes = bytes) (hzs : z.cells.size = size) (hsz : 0 < size)
    (v : Value) (n : Nat) (xs : List Value) (hown : w.ownsRow base e size v n xs)
    (a : Addr) (m c : Nat) (news : List Value) (hl : news.length = m * size) (hnews : ∀ j u, news[j]? = some u → w.cell? (a.add j) = some u) (h1 : ∀ u ∈ news, u.oneCell' = true)
    (h63 : n + m ≤ maxLen) (hbytes : (n + m) * bytes ≤ 140737488355328) (hbase : base ≤ w.heap.size) :
    ∃ v' w', (Builtin.append_ #[t, t] ty #[v, .slice (some a) m c]).run P w = .ok v' w' ∧ w'.ownsRow base e size v' (n + m) (xs ++ news) ∧ w.grownBy w' v.ownBlock ∧
      (v'.ownBlock = v.ownBlock ∨ ∀ k, v'.ownBlock = some k → w.heap.size ≤ k) := by
  obtain ⟨v', w', hr, ho, hg, hn⟩ := run_append_own (P := P) w base t ty e i z size bytes ht hi hz hsize hby hzs hsz v n xs hown a m c news hl hnews h1 h63 hbytes hbase
  refine ⟨v', w', hr, ho, hg, ?_⟩
  have hsmall : n + m ≤ 9223372036854775807 := by simp only [maxLen] at h63; omega
  rcases hown.2 with ⟨rfl, rfl⟩ | ⟨g, cap, cur, rfl, hbg, hh, hnc, hcm, hcs, htake⟩
  · have hx : xs = [] := List.eq_nil_of_length_eq_zero (by simpa using hown.1)
    obtain ⟨v2, w2, hr2, ho2, _, _⟩ := run_append_own (P := P) w w.heap.size t ty e i z size bytes ht hi hz hsize hby hzs hsz (.slice none 0 0) 0 xs (by rw [hx]; exact World.ownsRow_nil _ _ _ _) a m c news hl hnews h1 h63 hbytes (Nat.le_refl _)
    rw [hr] at hr2
    injection hr2 with e1 e2
    exact .inr fun k hk => (World.ownsRow.lt ho2 k (by rw [← e1]; exact hk)).1
  · subst hsize
    by_cases hroom : n + m ≤ cap
    · have hfit : n * i.size + news.length ≤ cur.size := by rw [hl, hcs, ← Nat.add_mul]; exact Nat.mul_le_mul_right _ hroom
      have hr2 := run_append_room (P := P) w t ty e i ht hi g n cap cur hh a m c news hl hnews h1 hroom hfit
      rw [hr] at hr2
      injection hr2 with e1 e2
      exact .inl (by rw [e1]; rfl)
    · have holds : ∀ j u, xs[j]? = some u → w.cell? ((⟨g, 0, none⟩ : Addr).add j) = some u := hown.cells (g := g) rfl
      have hr2 := run_append_grow (P := P) w t ty e i z ht hi hz ⟨g, 0, none⟩ n cap xs hown.1 holds a m c news hl hnews (by omega) (by omega) (growslice_fits (by omega) (by rw [hby]; exact hbytes))
      rw [hr] at hr2
      injection hr2 with e1 e2
      refine .inr fun k hk => ?_
      rw [e1] at hk
      simp [Value.ownBlock] at hk
      omega
end
section
variable {P : Program}
/-- append(v, x...) where v is one of many rows. -/
theorem append_owns {ops : Array Oper} {rest : List Oper} {o : Oper} {a : Act} {Q : Exit → Act → World → Prop} {B : Nat} {w0 W : World} (hgd : o.guard = none) (s x : Operand) (t e : TypeId) (z : Value) (size bytes : Nat)
    (ho : o.op = .call { callee := .builtin .append, args := #[s, x], argTypes := #[t, t] }) (ht : P.underlying t = some (.slice e)) (hinfo : (P.info? e).map (fun i => (i.zero, i.size, i.bytes)) = some (some z, size, bytes)) (hz : z.cells.size = size) (hsz : 0 < size)
    (v : Value) (n : Nat) (xs : List Value) (rs : List Row) (hs : a.eval s = v) (hown : Owns W B (⟨e, size, v, n, xs⟩ :: rs))
    (ad : Addr) (m c : Nat) (news : List Value) (hx : a.eval x = .slice (some ad) m c) (hl : news.length = m * size) (hnews : ∀ j u, news[j]? = some u → W.cell? (ad.add j) = some u) (h1 : ∀ u ∈ news, u.oneCell' = true)
    (hB : B ≤ W.heap.size) (hb : Below B w0 W) (h63 : n + m ≤ 9223372036854775807) (hlen : (n + m) * bytes ≤ 140737488355328)
    (h : ∀ v' w', Owns w' B (⟨e, size, v', n + m, xs ++ news⟩ :: rs) → Below B w0 w' → wpList P ops Q rest (a.put o.dst v') w') : wpList P ops Q (o :: rest) a W := by
  obtain ⟨i0, hi, hzz⟩ := Option.map_eq_some_iff.1 hinfo
  simp only [Prod.mk.injEq] at hzz
  obtain ⟨hz0, hz1, hz2⟩ := hzz
  refine wpList_plain hgd fun K hK => ?_
  obtain ⟨v', w', hr, h2, h3, h4⟩ := run_append_where (P := P) (w := W) B t o.type e i0 z size bytes ht hi hz0 hz1 hz2 hz hsz v n xs hown.head ad m c news hl hnews h1 (by unfold maxLen; omega) hlen hB
  unfold Oper.wp execOp
  simp only [ho, resolve, invoke, builtin, Sem.run_bind, Sem.run_pure, Result.andThen_ok, List.map_toArray, List.map_cons, List.map_nil, hs, hx, hr]
  exact hK _ _ (h v' w' (hown.grow h2 h3 h4) (hb.grown h3 hB (fun k hk => (World.ownsRow.lt hown.head k hk).1)))
end
end Go.Proofs.Ytjgijbaboekghaa

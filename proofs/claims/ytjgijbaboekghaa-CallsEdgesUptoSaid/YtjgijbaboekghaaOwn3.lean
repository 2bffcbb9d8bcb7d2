/-
  MANY ROWS OF THE CALL'S OWN, told by their places in a list, beside data that only reads. No statement of its own.
-/
import Derived.Test.YtjgijbaboekghaaCanon
import Derived.Test.YtjgijbaboekghaaOwns
set_option linter.unusedSimpArgs false
set_option linter.unusedVariables false
namespace Go.Proofs.Ytjgijbaboekghaa
open Go.RowKit
theorem Owns.at {w : World} {B i : Nat} {rs : List Row} {r : Row} (h : Owns w B rs) (hr : rs[i]? = some r) : w.ownsRow B r.e r.size r.v r.n r.xs := h.own r (List.mem_of_getElem? hr)
theorem perm_pull {α : Type} {l : List α} {i : Nat} {r : α} (hr : l[i]? = some r) : l.Perm (r :: l.eraseIdx i) := by
  induction l generalizing i with
  | nil => simp at hr
  | cons x t ih =>
    cases i with
    | zero =>
      simp at hr
      subst hr
      exact List.Perm.refl _
    | succ i =>
      have h := ih (i := i) (by simpa using hr)
      exact (h.cons x).trans (List.Perm.swap r x _)
theorem perm_set {α : Type} {l : List α} {i : Nat} {r r' : α} (hr : l[i]? = some r) : (r' :: l.eraseIdx i).Perm (l.set i r') := by
  obtain ⟨hi, rfl⟩ := List.getElem?_eq_some_iff.1 hr
  have h1 : (l.set i r')[i]? = some r' := by rw [List.getElem?_set_self (by simpa using hi)]
  have h2 := perm_pull h1
  rw [List.eraseIdx_set_eq] at h2
  exact h2.symm
theorem Owns.set_grow {w w' : World} {B i : Nat} {r : Row} {rs : List Row} (h : Owns w B rs) (hr : rs[i]? = some r) {v' : Value} {n' : Nat} {xs' : List Value} (ho : w'.ownsRow B r.e r.size v' n' xs') (hg : w.grownBy w' r.v.ownBlock) (hn : v'.ownBlock = r.v.ownBlock ∨ ∀ k, v'.ownBlock = some k → w.heap.size ≤ k) :
    Owns w' B (rs.set i ⟨r.e, r.size, v', n', xs'⟩) :=
  ((h.perm (perm_pull hr)).grow ho hg hn).perm (perm_set hr)
theorem Owns.set_store {w : World} {B i : Nat} {r : Row} {rs : List Row} (h : Owns w B rs) (hr : rs[i]? = some r) {g : Nat} (hg : r.v.ownBlock = some g) (j : Nat) (u : Value) :
    Owns (w.setCell ⟨g, j, none⟩ u) B (rs.set i ⟨r.e, r.size, r.v, r.n, r.xs.set j u⟩) :=
  ((h.perm (perm_pull hr)).store hg u).perm (perm_set hr)
theorem Owns.far_store {w : World} {B : Nat} {rs : List Row} (h : Owns w B rs) {p : Addr} (hp : p.block < B) (u : Value) : Owns (w.setCell p u) B rs :=
  ⟨fun r hr => own_setCell (h.own r hr) (fun e => by have := (World.ownsRow.lt (h.own r hr) _ e.symm).1; omega) u, h.apart⟩
/-- The blocks of rows. -/
def rblk (rs : List Row) : List Nat := rs.flatMap fun r => r.v.ownBlock.toList
theorem mem_rblk {rs : List Row} {k : Nat} : k ∈ rblk rs ↔ ∃ r ∈ rs, r.v.ownBlock = some k := by
  unfold rblk
  rw [List.mem_flatMap]
  constructor
  · rintro ⟨r, hr, h⟩; exact ⟨r, hr, by simpa using h⟩
  · rintro ⟨r, hr, h⟩; exact ⟨r, hr, by simpa using h⟩
theorem Owns.rblk_lt {w : World} {B k : Nat} {rs : List Row} (h : Owns w B rs) (hk : k ∈ rblk rs) : B ≤ k ∧ k < w.heap.size := by
  obtain ⟨r, hr, e⟩ := mem_rblk.1 hk
  exact World.ownsRow.lt (h.own r hr) k e
theorem sub_grow_at {W w' : World} {rs : List Row} {i : Nat} {r r' : Row} {bs : List Nat} (hr : rs[i]? = some r) (hg : W.grownBy w' r.v.ownBlock) (hn : r'.v.ownBlock = r.v.ownBlock ∨ ∀ k, r'.v.ownBlock = some k → W.heap.size ≤ k) :
    Sub (sans W (rblk rs ++ bs)) (sans w' (rblk (rs.set i r') ++ bs)) := sub_sans fun k hk hkb => by
  simp only [List.mem_append, not_or] at hkb ⊢
  obtain ⟨h1, h2⟩ := hkb
  have hr1 : r ∈ rs := List.mem_of_getElem? hr
  refine ⟨⟨fun h => ?_, h2⟩, hg.block k hk (fun e => h1 (mem_rblk.2 ⟨r, hr1, e.symm⟩))⟩
  obtain ⟨x, hx, e⟩ := mem_rblk.1 h
  rcases List.mem_or_eq_of_mem_set hx with hx | rfl
  · exact h1 (mem_rblk.2 ⟨x, hx, e⟩)
  · rcases hn with hn | hn
    · exact h1 (mem_rblk.2 ⟨r, hr1, by rw [← hn]; exact e⟩)
    · have := hn k e; omega
theorem sub_store_at {w : World} {rs : List Row} {i g j : Nat} {r r' : Row} {bs : List Nat} {u : Value} (hr : rs[i]? = some r) (hg : r.v.ownBlock = some g) (hv : r'.v.ownBlock = r.v.ownBlock) :
    Sub (sans w (rblk rs ++ bs)) (sans (w.setCell ⟨g, j, none⟩ u) (rblk (rs.set i r') ++ bs)) := sub_sans fun k hk hkb => by
  simp only [List.mem_append, not_or] at hkb ⊢
  obtain ⟨h1, h2⟩ := hkb
  have hr1 : r ∈ rs := List.mem_of_getElem? hr
  refine ⟨⟨fun h => ?_, h2⟩, Below.heap_setCell w ⟨g, j, none⟩ u k (fun e => h1 (mem_rblk.2 ⟨r, hr1, by rw [e]; exact hg⟩))⟩
  obtain ⟨x, hx, e⟩ := mem_rblk.1 h
  rcases List.mem_or_eq_of_mem_set hx with hx | rfl
  · exact h1 (mem_rblk.2 ⟨x, hx, e⟩)
  · exact h1 (mem_rblk.2 ⟨r, hr1, by rw [← hv]; exact e⟩)
/-- What an append to the i-th row leaves. -/
structure Grown (W w' : World) (B : Nat) (rs : List Row) (i : Nat) (r' : Row) : Prop where
  owns : Owns w' B (rs.set i r')
  below : Below B W w'
  sub : ∀ bs, Sub (sans W (rblk rs ++ bs)) (sans w' (rblk (rs.set i r') ++ bs))
section
variable {P : Program}
theorem append_at {o : Oper} {a : Act} {K : Act → World → Prop} {Q : Exit → Act → World → Prop} {B : Nat} {W : World} (i : Nat) (rs : List Row) (s x : Operand) (t e : TypeId) (z : Value) (size bytes : Nat)
    (ho : o.op = .call { callee := .builtin .append, args := #[s, x], argTypes := #[t, t] }) (ht : P.underlying t = some (.slice e)) (hinfo : (P.info? e).map (fun i => (i.zero, i.size, i.bytes)) = some (some z, size, bytes)) (hz : z.cells.size = size) (hsz : 0 < size)
    (v : Value) (n : Nat) (xs : List Value) (hs : a.eval s = v) (hown : Owns W B rs) (hr : rs[i]? = some ⟨e, size, v, n, xs⟩)
    (ad : Addr) (m c : Nat) (news : List Value) (hx : a.eval x = .slice (some ad) m c) (hl : news.length = m * size) (hnews : ∀ j u, news[j]? = some u → W.cell? (ad.add j) = some u) (h1 : ∀ u ∈ news, u.oneCell' = true)
    (hB : B ≤ W.heap.size) (h63 : n + m ≤ 9223372036854775807) (hlen : (n + m) * bytes ≤ 140737488355328)
    (h : ∀ A' c' w', Grown W w' B rs i ⟨e, size, .slice A' (n + m) c', n + m, xs ++ news⟩ → K (a.put o.dst (.slice A' (n + m) c')) w') : o.wp P a W K Q := by
  refine append_step2 (B := B) (w0 := W) s x t e z size bytes ho ht hinfo hz hsz v n xs hs (hown.at hr) ad m c news hx hl hnews h1 hB (Below.refl _ _) h63 hlen ?_
  intro v' w' h2 h3 h4 h5
  obtain ⟨A', c', rfl, _, _⟩ := own_shape h2
  exact h A' c' w' ⟨hown.set_grow hr h2 h4 h5, h3, fun bs => sub_grow_at hr h4 h5⟩
theorem append_at_list {ops : Array Oper} {rest : List Oper} {o : Oper} {a : Act} {Q : Exit → Act → World → Prop} {B : Nat} {W : World} (hgd : o.guard = none) (i : Nat) (rs : List Row) (s x : Operand) (t e : TypeId) (z : Value) (size bytes : Nat)
    (ho : o.op = .call { callee := .builtin .append, args := #[s, x], argTypes := #[t, t] }) (ht : P.underlying t = some (.slice e)) (hinfo : (P.info? e).map (fun i => (i.zero, i.size, i.bytes)) = some (some z, size, bytes)) (hz : z.cells.size = size) (hsz : 0 < size)
    (v : Value) (n : Nat) (xs : List Value) (hs : a.eval s = v) (hown : Owns W B rs) (hr : rs[i]? = some ⟨e, size, v, n, xs⟩)
    (ad : Addr) (m c : Nat) (news : List Value) (hx : a.eval x = .slice (some ad) m c) (hl : news.length = m * size) (hnews : ∀ j u, news[j]? = some u → W.cell? (ad.add j) = some u) (h1 : ∀ u ∈ news, u.oneCell' = true)
    (hB : B ≤ W.heap.size) (h63 : n + m ≤ 9223372036854775807) (hlen : (n + m) * bytes ≤ 140737488355328)
    (h : ∀ A' c' w', Grown W w' B rs i ⟨e, size, .slice A' (n + m) c', n + m, xs ++ news⟩ → wpList P ops Q rest (a.put o.dst (.slice A' (n + m) c')) w') : wpList P ops Q (o :: rest) a W :=
  wpList_plain hgd fun K hK => append_at i rs s x t e z size bytes ho ht hinfo hz hsz v n xs hs hown hr ad m c news hx hl hnews h1 hB h63 hlen fun A' c' w' hg => hK _ _ (h A' c' w' hg)
end
/-- A slice of one cell's literal. -/
theorem one_cell (v : Value) (hv : v.oneCell' = true) : ∀ u ∈ [v], u.oneCell' = true := by
  intro u hu
  rw [List.mem_singleton] at hu
  rw [hu]; exact hv
end Go.Proofs.Ytjgijbaboekghaa

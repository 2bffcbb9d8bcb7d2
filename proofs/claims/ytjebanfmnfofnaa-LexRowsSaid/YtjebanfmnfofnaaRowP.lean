/-
  NAMES AND SIGNS IN A ROW, AS THEY ARE WRITTEN. No program in sight; no statement of its own.
-/
import Derived.Test.YtjebanfmnfofnaaNam
import Derived.Test.YtjebanfmnfofnaaRefT
set_option linter.unusedSimpArgs false
set_option linter.unusedVariables false
namespace Go.Proofs.Ytjebanfmnfofnaa
/-- The sign behind a name. -/
def signP (G : List Nat) (i : Nat) : List Nat := match G[i]? with
  | some k => [sg (k % 9)]
  | none => []
def piece (L : List (List Nat)) (G : List Nat) (i : Nat) : List Nat := 64 :: quoteL (L.getD i []) ++ signP G i
def rowT (L : List (List Nat)) (G : List Nat) (i : Nat) : List Nat := (List.range i).flatMap (piece L G)
theorem rowT_succ (L : List (List Nat)) (G : List Nat) (i : Nat) : rowT L G (i + 1) = rowT L G i ++ piece L G i := by
  unfold rowT
  rw [List.range_succ, List.flatMap_append, List.flatMap_cons, List.flatMap_nil, List.append_nil]
theorem rowT_rest (L : List (List Nat)) (G : List Nat) (n d i : Nat) (h : i + d = n) : ∃ R, rowT L G n = rowT L G i ++ R ∧ ∀ y, R.head? = some y → y = 64 := by
  induction d generalizing i with
  | zero => exact ⟨[], by rw [← h, Nat.add_zero, List.append_nil], fun y hy => by cases hy⟩
  | succ d ih =>
    obtain ⟨R, hR, _⟩ := ih (i + 1) (by omega)
    refine ⟨piece L G i ++ R, by rw [hR, rowT_succ, List.append_assoc], fun y hy => ?_⟩
    unfold piece at hy
    simp at hy
    exact hy.symm
theorem sg_lt {k : Nat} (h : k < 9) : sg k < 128 ∧ isNameC (sg k) = false := by
  have : ∀ j : Fin 9, sg j.val < 128 ∧ isNameC (sg j.val) = false := by decide
  exact this ⟨k, h⟩
theorem getD_of {α : Type} {L : List α} {i : Nat} {x d : α} (h : L[i]? = some x) : L.getD i d = x := by rw [List.getD_eq_getElem?_getD, h]; rfl
section
variable {L : List (List Nat)} {G : List Nat} {n : Nat}
theorem row_name {i : Nat} {s : List Nat} (hb : ∀ s ∈ L, ∀ u ∈ s, u < 256) (hi : i < n) (h : L[i]? = some s) :
    nextM (rowT L G n) (rowT L G i).length = .ok (⟨2, 64, s, (rowT L G i).length⟩, (rowT L G i).length + 1 + (quoteL s).length) := by
  obtain ⟨R, hR, h64⟩ := rowT_rest L G n (n - (i + 1)) (i + 1) (by omega)
  refine next_name (A := rowT L G i) (R := signP G i ++ R) rfl (hb s (List.mem_of_getElem? h)) ?_ rfl ?_
  · rw [hR, rowT_succ]
    unfold piece
    rw [getD_of h]
    simp only [List.append_assoc]
  · intro y hy
    unfold signP at hy
    cases hg : G[i]? with
    | none =>
      rw [hg] at hy
      have := h64 y hy
      subst this
      rfl
    | some k =>
      rw [hg] at hy
      have : sg (k % 9) = y := by simpa using hy
      subst this
      exact (sg_lt (by omega)).2
theorem row_sign {i k : Nat} {s : List Nat} (hi : i < n) (h : L[i]? = some s) (hg : G[i]? = some k) :
    nextM (rowT L G n) ((rowT L G i).length + 1 + (quoteL s).length) = .ok (⟨3, 0, [sg (k % 9)], (rowT L G i).length + 1 + (quoteL s).length⟩, (rowT L G (i + 1)).length) := by
  obtain ⟨R, hR, h64⟩ := rowT_rest L G n (n - (i + 1)) (i + 1) (by omega)
  have e : piece L G i = 64 :: quoteL s ++ [sg (k % 9)] := by unfold piece signP; rw [getD_of h, hg]
  have hlen : (rowT L G (i + 1)).length = (rowT L G i).length + 1 + (quoteL s).length + 1 := by
    rw [rowT_succ, e]
    simp only [List.length_append, List.length_cons, List.length_nil]
    omega
  rw [hlen]
  refine next_sign (A := rowT L G i ++ 64 :: quoteL s) (R := R) (sg_sign (by omega)) ?_ ?_
  · rw [hR, rowT_succ, e]
    simp only [List.append_assoc, List.cons_append, List.nil_append]
  · simp only [List.length_append, List.length_cons]
    omega
theorem row_none {i : Nat} {s : List Nat} (h : L[i]? = some s) (hg : G[i]? = none) : (rowT L G (i + 1)).length = (rowT L G i).length + 1 + (quoteL s).length := by
  rw [rowT_succ]
  unfold piece signP
  rw [getD_of h, hg]
  simp only [List.length_append, List.length_cons, List.length_nil]
  omega
theorem row_byte (hb : ∀ s ∈ L, ∀ u ∈ s, u < 256) (i : Nat) (hi : i ≤ L.length) : ∀ u ∈ rowT L G i, u < 256 := by
  induction i with
  | zero => intro u hu; simp [rowT] at hu
  | succ i ih =>
    intro u hu
    rw [rowT_succ] at hu
    rcases List.mem_append.1 hu with h | h
    · exact ih (by omega) u h
    · have hx := List.getElem?_eq_getElem (show i < L.length by omega)
      unfold piece signP at h
      rw [getD_of hx] at h
      rcases List.mem_append.1 h with h | h
      · rcases List.mem_cons.1 h with rfl | h
        · decide
        · exact (quoteL_byte (hb _ (List.getElem_mem _))).1 u h
      · cases hg : G[i]? with
        | none => rw [hg] at h; simp at h
        | some k =>
          rw [hg] at h
          have : u = sg (k % 9) := by simpa using h
          have := (sg_lt (k := k % 9) (by omega)).1
          omega
theorem row_len (i : Nat) (hi : i ≤ L.length) (hs : ∀ s ∈ L.take i, s.length ≤ 30) (hb : ∀ s ∈ L, ∀ u ∈ s, u < 256) : (rowT L G i).length ≤ 124 * i := by
  induction i with
  | zero => simp [rowT]
  | succ i ih =>
    have hx := List.getElem?_eq_getElem (show i < L.length by omega)
    have h1 := ih (by omega) (fun s hs' => hs s ((List.take_subset_take_left L (Nat.le_succ i)) hs'))
    have h2 : (L[i]).length ≤ 30 := hs _ (by rw [List.take_add_one, hx]; exact List.mem_append_right _ (List.mem_singleton.2 rfl))
    have h3 := (quoteL_byte (hb _ (List.getElem_mem (show i < L.length by omega)))).2
    rw [rowT_succ]
    unfold piece
    rw [getD_of hx]
    have h4 : (signP G i).length ≤ 1 := by unfold signP; split <;> simp
    simp only [List.length_append, List.length_cons]
    omega
end
/-- From a place on, tokens up to the end. -/
inductive Chain (P : List Nat) : Nat → Prop
  | done {i : Nat} (h : P.length ≤ i) : Chain P i
  | step {i nx : Nat} {t : Tok} (h : nextM P i = .ok (t, nx)) (ht : t.kind ≠ 0) (hc : Chain P nx) : Chain P i
theorem chain_toks {P : List Nat} {i : Nat} {l : List Tok} {b : Int} (hc : Chain P i) (ht : Toks P i l b) : b = -1 ∧ l.getLast? = some ⟨0, 0, [], P.length⟩ := by
  induction ht with
  | bad h =>
    cases hc with
    | done hd => rw [skip_end hd] at h; cases h
    | step hn _ _ => rw [nextM_bad h] at hn; cases hn
  | fin h hk => exact ⟨rfl, rfl⟩
  | err h hk ht =>
    cases hc with
    | done hd => rw [skip_end hd] at h; injection h with h; omega
    | step hn _ _ => rw [nextM_ok h hk, ht] at hn; cases hn
  | cons h hk ht hl ih =>
    cases hc with
    | done hd => rw [skip_end hd] at h; injection h with h; omega
    | step hn _ hc' =>
      rw [nextM_ok h hk, ht] at hn
      injection hn with hn
      injection hn with h1 h2
      subst h1 h2
      obtain ⟨e1, e2⟩ := ih hc'
      refine ⟨e1, ?_⟩
      cases hl with
      | bad => cases e2
      | err => cases e2
      | fin => exact e2
      | cons => exact e2
theorem row_chain {L : List (List Nat)} {G : List Nat} {n : Nat} (hb : ∀ s ∈ L, ∀ u ∈ s, u < 256) (hn : L.length = n) (d i : Nat) (h : i + d = n) : Chain (rowT L G n) (rowT L G i).length := by
  induction d generalizing i with
  | zero =>
    obtain rfl : i = n := by omega
    exact .done (Nat.le_refl _)
  | succ d ih =>
    have hx := List.getElem?_eq_getElem (show i < L.length by omega)
    have h1 := row_name (G := G) hb (show i < n by omega) hx
    cases hg : G[i]? with
    | none =>
      have := ih (i + 1) (by omega)
      rw [row_none hx hg] at this
      exact .step h1 (show (2 : Nat) ≠ 0 by decide) this
    | some k => exact .step h1 (show (2 : Nat) ≠ 0 by decide) (.step (row_sign (show i < n by omega) hx hg) (show (3 : Nat) ≠ 0 by decide) (ih (i + 1) (by omega)))
end Go.Proofs.Ytjebanfmnfofnaa

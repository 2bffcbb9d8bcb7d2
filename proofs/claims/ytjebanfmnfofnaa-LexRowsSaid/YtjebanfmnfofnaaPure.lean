/-
  LEX, AS PLAIN FUNCTIONS OF A LIST OF BYTES AND A PLACE. No statement of its own; no program in sight.
-/
set_option linter.unusedSimpArgs false
set_option linter.unusedVariables false
namespace Go.Proofs.Ytjebanfmnfofnaa
def isBlank (c : Nat) : Bool := c == 32 || c == 9 || c == 13 || c == 10
def isSign (c : Nat) : Bool := c == 59 || c == 61 || c == 38 || c == 42 || c == 40 || c == 41 || c == 44 || c == 123 || c == 125
def isMark (c : Nat) : Bool := c == 37 || c == 36 || c == 64 || c == 35
def isLower (c : Nat) : Bool := decide (97 ≤ c) && decide (c ≤ 122)
def isLetter (c : Nat) : Bool := decide (97 ≤ c ∧ c ≤ 122) || decide (65 ≤ c ∧ c ≤ 90) || c == 95
def isDigit (c : Nat) : Bool := decide (48 ≤ c) && decide (c ≤ 57)
def isNameC (c : Nat) : Bool := isLetter c || isDigit c || c == 46
def isHex (c : Nat) : Bool := isDigit c || (decide (97 ≤ c) && decide (c ≤ 102))
def hexV (c : Nat) : Nat := if c ≤ 57 then c - 48 else c - 87
/-- The first place from i on at which q fails. -/
def run (q : Nat → Bool) (P : List Nat) (i : Nat) : Nat := i + ((P.drop i).takeWhile q).length
theorem drop_of {P : List Nat} {i x : Nat} (h : P[i]? = some x) : P.drop i = x :: P.drop (i + 1) := by
  obtain ⟨hi, rfl⟩ := List.getElem?_eq_some_iff.1 h
  exact List.drop_eq_getElem_cons hi
theorem run_end {q : Nat → Bool} {P : List Nat} {i : Nat} (h : P.length ≤ i) : run q P i = i := by
  unfold run
  rw [List.drop_eq_nil_of_le h]
  rfl
theorem run_step {q : Nat → Bool} {P : List Nat} {i x : Nat} (h : P[i]? = some x) (hq : q x = true) : run q P i = run q P (i + 1) := by
  unfold run
  rw [drop_of h, List.takeWhile_cons_of_pos hq, List.length_cons]
  omega
theorem run_no {q : Nat → Bool} {P : List Nat} {i x : Nat} (h : P[i]? = some x) (hq : q x = false) : run q P i = i := by
  unfold run
  rw [drop_of h, List.takeWhile_cons_of_neg (by rw [hq]; decide)]
  rfl
theorem run_ge (q : Nat → Bool) (P : List Nat) (i : Nat) : i ≤ run q P i := Nat.le_add_right _ _
theorem run_le {q : Nat → Bool} {P : List Nat} {i : Nat} (h : i ≤ P.length) : run q P i ≤ P.length := by
  unfold run
  have h1 := (List.takeWhile_sublist q (l := P.drop i)).length_le
  rw [List.length_drop] at h1
  omega
/-- Where "*/" stands in a list; it doesn't: the list's length. -/
def findL : List Nat → Nat
  | [] => 0
  | x :: r => if x = 42 ∧ r.head? = some 47 then 0 else findL r + 1
def findEnd (P : List Nat) (i : Nat) : Nat := i + findL (P.drop i)
theorem findL_le (l : List Nat) : findL l ≤ l.length := by
  induction l with
  | nil => exact Nat.le_refl _
  | cons x r ih =>
    rw [findL]
    split
    · exact Nat.zero_le _
    · simp; exact ih
theorem findEnd_ge (P : List Nat) (i : Nat) : i ≤ findEnd P i := Nat.le_add_right _ _
theorem findEnd_le {P : List Nat} {i : Nat} (h : i ≤ P.length) : findEnd P i ≤ P.length := by
  unfold findEnd
  have := findL_le (P.drop i)
  rw [List.length_drop] at this
  omega
theorem findEnd_end {P : List Nat} {i : Nat} (h : P.length ≤ i) : findEnd P i = i := by
  unfold findEnd
  rw [List.drop_eq_nil_of_le h]
  rfl
theorem head_drop (P : List Nat) (i : Nat) : (P.drop i).head? = P[i]? := List.head?_drop
theorem findEnd_yes {P : List Nat} {i : Nat} (h : P[i]? = some 42) (h2 : P[i + 1]? = some 47) : findEnd P i = i := by
  unfold findEnd
  rw [drop_of h, findL, if_pos ⟨rfl, by rw [head_drop]; exact h2⟩]
  rfl
theorem findEnd_no {P : List Nat} {i x : Nat} (h : P[i]? = some x) (h2 : ¬ (x = 42 ∧ P[i + 1]? = some 47)) : findEnd P i = findEnd P (i + 1) := by
  unfold findEnd
  rw [drop_of h, findL, if_neg (by rw [head_drop]; exact h2)]
  omega
/-- Past blanks and comments: the place; a comment that doesn't end: its place. -/
def skip (P : List Nat) (i : Nat) : Except Nat Nat :=
  if h : i < P.length then
    if isBlank P[i] = true then skip P (i + 1)
    else if P[i] = 47 ∧ P[i + 1]? = some 47 then skip P (run (fun c => c != 10) P (i + 2))
    else if P[i] = 47 ∧ P[i + 1]? = some 42 then (if findEnd P (i + 2) + 1 < P.length then skip P (findEnd P (i + 2) + 2) else .error i)
    else .ok i
  else .ok i
termination_by P.length - i
decreasing_by
  · omega
  · have := run_ge (fun c => c != 10) P (i + 2); omega
  · have := findEnd_ge P (i + 2); omega
section
variable {P : List Nat} {i x : Nat}
theorem skip_end (h : P.length ≤ i) : skip P i = .ok i := by rw [skip, dif_neg (by omega)]
theorem get_of (h : P[i]? = some x) : ∃ hi : i < P.length, P[i] = x := List.getElem?_eq_some_iff.1 h
theorem skip_blank (h : P[i]? = some x) (hb : isBlank x = true) : skip P i = skip P (i + 1) := by
  obtain ⟨hi, rfl⟩ := get_of h
  rw [skip, dif_pos hi, if_pos hb]
theorem skip_line (h : P[i]? = some 47) (h2 : P[i + 1]? = some 47) : skip P i = skip P (run (fun c => c != 10) P (i + 2)) := by
  obtain ⟨hi, e⟩ := get_of h
  rw [skip, dif_pos hi, if_neg (by rw [e]; decide), if_pos ⟨e, h2⟩]
theorem skip_long (h : P[i]? = some 47) (h2 : P[i + 1]? = some 42) (he : findEnd P (i + 2) + 1 < P.length) : skip P i = skip P (findEnd P (i + 2) + 2) := by
  obtain ⟨hi, e⟩ := get_of h
  rw [skip, dif_pos hi, if_neg (by rw [e]; decide), if_neg (by rw [h2]; rintro ⟨_, h⟩; injection h with h; exact absurd h (by decide)), if_pos ⟨e, h2⟩, if_pos he]
theorem skip_open (h : P[i]? = some 47) (h2 : P[i + 1]? = some 42) (he : ¬ findEnd P (i + 2) + 1 < P.length) : skip P i = .error i := by
  obtain ⟨hi, e⟩ := get_of h
  rw [skip, dif_pos hi, if_neg (by rw [e]; decide), if_neg (by rw [h2]; rintro ⟨_, h⟩; injection h with h; exact absurd h (by decide)), if_pos ⟨e, h2⟩, if_neg he]
theorem skip_no (h : P[i]? = some x) (hb : isBlank x = false) (h2 : ¬ (x = 47 ∧ (P[i + 1]? = some 47 ∨ P[i + 1]? = some 42))) : skip P i = .ok i := by
  obtain ⟨hi, rfl⟩ := get_of h
  rw [skip, dif_pos hi, if_neg (by rw [hb]; decide), if_neg (fun e => h2 ⟨e.1, .inl e.2⟩), if_neg (fun e => h2 ⟨e.1, .inr e.2⟩)]
theorem run_line (h : P[i]? = some 47) (h2 : P[i + 1]? = some 47) : run (fun c => c != 10) P i = run (fun c => c != 10) P (i + 2) := by
  rw [run_step h (by decide), run_step h2 (by decide)]
/-- What skip hands back. -/
theorem skip_spec (P : List Nat) (i : Nat) (hi : i ≤ P.length) : (∀ k, skip P i = .ok k → i ≤ k ∧ k ≤ P.length ∧ ∀ x, P[k]? = some x → isBlank x = false ∧ ¬ (x = 47 ∧ (P[k + 1]? = some 47 ∨ P[k + 1]? = some 42))) ∧ (∀ b, skip P i = .error b → i ≤ b ∧ b < P.length) := by
  induction hm : P.length - i using Nat.strongRecOn generalizing i with
  | ind m ih =>
  subst hm
  rcases Nat.lt_or_ge i P.length with h | h
  · have hx := List.getElem?_eq_getElem h
    cases hb : isBlank P[i] with
    | true =>
      have := ih (P.length - (i + 1)) (by omega) (i + 1) (by omega) rfl
      rw [← skip_blank hx hb] at this
      exact ⟨fun k hk => by have := this.1 k hk; exact ⟨by omega, this.2⟩, fun b hk => by have := this.2 b hk; omega⟩
    | false =>
      by_cases h47 : P[i] = 47
      · rw [h47] at hx
        by_cases h2 : P[i + 1]? = some 47
        · have hlen := (List.getElem?_eq_some_iff.1 h2).1
          have hr := run_ge (fun c => c != 10) P (i + 2)
          have := ih (P.length - run (fun c => c != 10) P (i + 2)) (by omega) _ (run_le (by omega)) rfl
          rw [← skip_line hx h2] at this
          exact ⟨fun k hk => by have := this.1 k hk; exact ⟨by omega, this.2⟩, fun b hk => by have := this.2 b hk; omega⟩
        · by_cases h3 : P[i + 1]? = some 42
          · have hlen := (List.getElem?_eq_some_iff.1 h3).1
            by_cases he : findEnd P (i + 2) + 1 < P.length
            · have hr := findEnd_ge P (i + 2)
              have := ih (P.length - (findEnd P (i + 2) + 2)) (by omega) _ (by omega) rfl
              rw [← skip_long hx h3 he] at this
              exact ⟨fun k hk => by have := this.1 k hk; exact ⟨by omega, this.2⟩, fun b hk => by have := this.2 b hk; omega⟩
            · rw [skip_open hx h3 he]
              exact ⟨(fun k hk => by cases hk), fun b hk => by injection hk with hk; omega⟩
          · have hn : ¬ (47 = 47 ∧ (P[i + 1]? = some 47 ∨ P[i + 1]? = some 42)) := fun e => e.2.elim h2 h3
            rw [skip_no hx (by decide) hn]
            exact ⟨fun k hk => by injection hk with hk; subst hk; exact ⟨Nat.le_refl _, by omega, fun x h => by rw [hx] at h; injection h with h; subst h; exact ⟨by decide, hn⟩⟩, fun b hk => by cases hk⟩
      · rw [skip_no hx hb (fun e => h47 e.1)]
        exact ⟨fun k hk => by injection hk with hk; subst hk; exact ⟨Nat.le_refl _, by omega, fun x h => by rw [hx] at h; injection h with h; subst h; exact ⟨hb, fun e => h47 e.1⟩⟩, fun b hk => by cases hk⟩
  · rw [skip_end h]
    exact ⟨fun k hk => by injection hk with hk; subst hk; exact ⟨Nat.le_refl _, hi, fun x hx => by rw [List.getElem?_eq_none h] at hx; cases hx⟩, fun b hk => by cases hk⟩
end
/-- The byte that an escape tells, and how many bytes tell it; none: (0, 0). -/
def esc (P : List Nat) (j : Nat) : Nat × Nat :=
  match P[j]? with
  | some x => if x = 34 ∨ x = 92 then (x, 1) else
      match P[j + 1]?, P[j + 2]? with
      | some a, some b => if x = 120 ∧ isHex a = true ∧ isHex b = true then (16 * hexV a + hexV b, 3) else (0, 0)
      | _, _ => (0, 0)
  | none => (0, 0)
/-- A name in quotes, behind the first one: its bytes, and the place behind; or where the fault is. -/
def quoted (P : List Nat) (i : Nat) (acc : List Nat) : Except Nat (List Nat × Nat) :=
  if h : i < P.length then
    if P[i] = 34 then .ok (acc, i + 1)
    else if P[i] = 92 then (if (esc P (i + 1)).2 = 0 then .error i else quoted P (i + 1 + (esc P (i + 1)).2) (acc ++ [(esc P (i + 1)).1]))
    else if P[i] < 32 ∨ 126 < P[i] then .error i
    else quoted P (i + 1) (acc ++ [P[i]])
  else .error i
termination_by P.length - i
section
variable {P : List Nat} {i x : Nat} {acc : List Nat}
theorem quoted_end (h : P.length ≤ i) : quoted P i acc = .error i := by rw [quoted, dif_neg (by omega)]
theorem quoted_close (h : P[i]? = some 34) : quoted P i acc = .ok (acc, i + 1) := by
  obtain ⟨hi, e⟩ := get_of h
  rw [quoted, dif_pos hi, if_pos e]
theorem quoted_esc (h : P[i]? = some 92) (hk : ¬ (esc P (i + 1)).2 = 0) : quoted P i acc = quoted P (i + 1 + (esc P (i + 1)).2) (acc ++ [(esc P (i + 1)).1]) := by
  obtain ⟨hi, e⟩ := get_of h
  rw [quoted, dif_pos hi, if_neg (by rw [e]; decide), if_pos e, if_neg hk]
theorem quoted_bad (h : P[i]? = some 92) (hk : (esc P (i + 1)).2 = 0) : quoted P i acc = .error i := by
  obtain ⟨hi, e⟩ := get_of h
  rw [quoted, dif_pos hi, if_neg (by rw [e]; decide), if_pos e, if_pos hk]
theorem quoted_out (h : P[i]? = some x) (hx : x < 32 ∨ 126 < x) : quoted P i acc = .error i := by
  obtain ⟨hi, rfl⟩ := get_of h
  rw [quoted, dif_pos hi, if_neg (by omega), if_neg (by omega), if_pos hx]
theorem quoted_in (h : P[i]? = some x) (h1 : x ≠ 34) (h2 : x ≠ 92) (hx : ¬ (x < 32 ∨ 126 < x)) : quoted P i acc = quoted P (i + 1) (acc ++ [x]) := by
  obtain ⟨hi, rfl⟩ := get_of h
  rw [quoted, dif_pos hi, if_neg h1, if_neg h2, if_neg hx]
end
/-- A name behind its mark. -/
def nameAt (P : List Nat) (i : Nat) : Except Nat (List Nat × Nat) :=
  match P[i]? with
  | some x => if x = 34 then quoted P (i + 1) [] else if isLetter x = true then .ok ((P.drop i).take (run isNameC P i - i), run isNameC P i) else .error i
  | none => .error i
structure Tok where
  kind : Nat
  mark : Nat
  text : List Nat
  at_ : Nat
/-- The token that begins at a place. -/
def tokAt (P : List Nat) (k : Nat) : Except Nat (Tok × Nat) :=
  match P[k]? with
  | some c =>
    if isSign c = true then .ok (⟨3, 0, [c], k⟩, k + 1)
    else if isMark c = true then (match nameAt P (k + 1) with | .ok (s, e) => .ok (⟨2, c, s, k⟩, e) | .error e => .error e)
    else if isLower c = true then .ok (⟨1, 0, (P.drop k).take (run isLower P k - k), k⟩, run isLower P k)
    else .error k
  | none => .error k
/-- All tokens from a place on; the place at which none stands, or -1. -/
inductive Toks (P : List Nat) : Nat → List Tok → Int → Prop
  | bad {i b : Nat} (h : skip P i = .error b) : Toks P i [] b
  | fin {i k : Nat} (h : skip P i = .ok k) (hk : P.length ≤ k) : Toks P i [⟨0, 0, [], P.length⟩] (-1)
  | err {i k e : Nat} (h : skip P i = .ok k) (hk : k < P.length) (ht : tokAt P k = .error e) : Toks P i [] e
  | cons {i k nx : Nat} {t : Tok} {l : List Tok} {b : Int} (h : skip P i = .ok k) (hk : k < P.length) (ht : tokAt P k = .ok (t, nx)) (hl : Toks P nx l b) : Toks P i (t :: l) b
end Go.Proofs.Ytjebanfmnfofnaa

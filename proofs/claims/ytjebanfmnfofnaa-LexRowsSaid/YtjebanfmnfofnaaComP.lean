/-
  What LexComments' texts come to: a comment to the line's end, a long one that ends or doesn't. No program in sight.
-/
import Derived.Test.YtjebanfmnfofnaaAwake
set_option linter.unusedSimpArgs false
set_option linter.unusedVariables false
namespace Go.Proofs.Ytjebanfmnfofnaa
theorem run_all {q : Nat → Bool} (A P B : List Nat) (i : Nat) (hi : A.length = i) (hP : ∀ x ∈ P, q x = true) (hB : ∀ x, B.head? = some x → q x = false) : run q (A ++ P ++ B) i = i + P.length := by
  unfold run
  rw [List.append_assoc, ← hi, List.drop_left]
  congr 1
  induction P with
  | nil =>
    cases B with
    | nil => rfl
    | cons x r => rw [List.nil_append, List.takeWhile_cons_of_neg (by rw [hB x rfl]; decide)]
  | cons x r ih =>
    rw [List.cons_append, List.takeWhile_cons_of_pos (hP x (List.mem_cons_self ..)), List.length_cons, ih (fun y hy => hP y (List.mem_cons_of_mem _ hy)), List.length_cons]
theorem get_mid (A P B : List Nat) (j : Nat) (h : A.length + P.length ≤ j) : (A ++ P ++ B)[j]? = B[j - (A.length + P.length)]? := by
  rw [List.getElem?_append_right (by rw [List.length_append]; exact h), List.length_append]
theorem get_fst (A R : List Nat) (j : Nat) (h : j < A.length) : (A ++ R)[j]? = A[j]? := List.getElem?_append_left h
/-- A place of P at which a long comment ends. -/
def ends2 (P : List Nat) (i : Nat) : Prop := P[i]? = some 42 ∧ P[i + 1]? = some 47
theorem findL_no {l r : List Nat} (h : ∀ i, ¬ ends2 l i) (hlast : l.getLast? = some 42 → r.head? ≠ some 47) : findL (l ++ r) = l.length + findL r := by
  induction l with
  | nil => simp
  | cons x t ih =>
    have h0 := h 0
    have ht : ∀ i, ¬ ends2 t i := fun i e => h (i + 1) ⟨by simpa using e.1, by simpa using e.2⟩
    have hl : t.getLast? = some 42 → r.head? ≠ some 47 := fun e => hlast (by
      cases t with
      | nil => simp at e
      | cons y s => simpa using e)
    rw [List.cons_append, findL, if_neg (by
      rintro ⟨rfl, e⟩
      cases t with
      | nil => exact hlast rfl (by simpa using e)
      | cons y s => exact h0 ⟨rfl, by simpa using e⟩), ih ht hl, List.length_cons]
    omega
theorem findL_all {l : List Nat} (h : ∀ i, ¬ ends2 l i) : findL l = l.length := by
  have := findL_no (r := []) h (fun _ => by simp)
  simpa [findL] using this
def lineQ (P : List Nat) : List Nat := [32, 32, 47, 47] ++ P ++ [10, 59]
def openQ (P : List Nat) : List Nat := [10, 32, 47, 42] ++ P
def longQ (P : List Nat) : List Nat := [47, 42] ++ P ++ [42, 47, 32, 119, 111, 114, 100]
theorem lineQ_next (P : List Nat) (h : ∀ x ∈ P, x ≠ 10) : nextM (lineQ P) 0 = .ok (⟨3, 0, [59], P.length + 5⟩, P.length + 6) := by
  have hl : (lineQ P).length = P.length + 6 := by simp [lineQ]
  have g0 : (lineQ P)[0]? = some 32 := rfl
  have g1 : (lineQ P)[1]? = some 32 := rfl
  have g2 : (lineQ P)[2]? = some 47 := rfl
  have g3 : (lineQ P)[3]? = some 47 := rfl
  have g4 : (lineQ P)[P.length + 4]? = some 10 := by unfold lineQ; rw [get_mid _ _ _ _ (by simp; omega)]; simp [show P.length + 4 - (4 + P.length) = 0 by omega]
  have g5 : (lineQ P)[P.length + 5]? = some 59 := by unfold lineQ; rw [get_mid _ _ _ _ (by simp; omega)]; simp [show P.length + 5 - (4 + P.length) = 1 by omega]
  have hr : run (fun c => c != 10) (lineQ P) 4 = P.length + 4 := by
    have := run_all (q := fun c => c != 10) [32, 32, 47, 47] P [10, 59] 4 rfl (fun x hx => by simpa using h x hx) (fun x hx => by simp at hx; subst hx; rfl)
    unfold lineQ; rw [this]; omega
  have hs : skip (lineQ P) 0 = .ok (P.length + 5) := by
    rw [skip_blank g0 rfl, skip_blank g1 rfl, skip_line g2 g3, hr, skip_blank g4 rfl, skip_no g5 rfl (by rintro ⟨e, _⟩; exact absurd e (by decide))]
  rw [nextM_ok hs (by omega)]
  unfold tokAt
  rw [g5]
  rfl
theorem openQ_next (P : List Nat) (h : ∀ i, ¬ ends2 P i) : nextM (openQ P) 0 = .error 2 := by
  have hl : (openQ P).length = P.length + 4 := by simp [openQ]
  have hf : findEnd (openQ P) 4 = 4 + P.length := by unfold findEnd; rw [show (openQ P).drop 4 = P from rfl, findL_all h]
  have hs : skip (openQ P) 0 = .error 2 := by
    rw [skip_blank (show (openQ P)[0]? = some 10 from rfl) rfl, skip_blank (show (openQ P)[1]? = some 32 from rfl) rfl, skip_open (show (openQ P)[2]? = some 47 from rfl) (show (openQ P)[3]? = some 42 from rfl) (by rw [hf]; omega)]
  exact nextM_bad hs
theorem longQ_next (P : List Nat) (h : ∀ i, ¬ ends2 P i) (hlast : P.getLast? ≠ some 42) : nextM (longQ P) 0 = .ok (⟨1, 0, [119, 111, 114, 100], P.length + 5⟩, P.length + 9) := by
  have hl : (longQ P).length = P.length + 9 := by simp [longQ]
  have hf : findEnd (longQ P) 2 = 2 + P.length := by
    unfold findEnd
    rw [show (longQ P).drop 2 = P ++ [42, 47, 32, 119, 111, 114, 100] from rfl, findL_no h (fun e => absurd e hlast)]
    rfl
  have g4 : (longQ P)[P.length + 4]? = some 32 := by unfold longQ; rw [get_mid _ _ _ _ (by simp; omega)]; simp [show P.length + 4 - (2 + P.length) = 2 by omega]
  have g5 : (longQ P)[P.length + 5]? = some 119 := by unfold longQ; rw [get_mid _ _ _ _ (by simp; omega)]; simp [show P.length + 5 - (2 + P.length) = 3 by omega]
  have hlt : findEnd (longQ P) (0 + 2) + 1 < (longQ P).length := by rw [Nat.zero_add, hf, hl]; omega
  have hs : skip (longQ P) 0 = .ok (P.length + 5) := by
    rw [skip_long (show (longQ P)[0]? = some 47 from rfl) (show (longQ P)[1]? = some 42 from rfl) hlt, Nat.zero_add, hf, show 2 + P.length + 2 = P.length + 4 by omega, skip_blank g4 rfl, skip_no g5 rfl (by rintro ⟨e, _⟩; exact absurd e (by decide))]
  have hw : run isLower (longQ P) (P.length + 5) = P.length + 9 := by
    have := run_all (q := isLower) ([47, 42] ++ P ++ [42, 47, 32]) [119, 111, 114, 100] [] (P.length + 5) (by simp <;> omega) (fun x hx => by simp at hx; rcases hx with rfl | rfl | rfl | rfl <;> rfl) (fun x hx => by simp at hx)
    rw [show longQ P = [47, 42] ++ P ++ [42, 47, 32] ++ [119, 111, 114, 100] ++ [] by simp [longQ], this]
    rfl
  have hd : (longQ P).drop (P.length + 5) = [119, 111, 114, 100] := by
    rw [show longQ P = ([47, 42] ++ P ++ [42, 47, 32]) ++ [119, 111, 114, 100] by simp [longQ]]
    exact List.drop_left' (by simp <;> omega)
  rw [nextM_ok hs (by omega)]
  unfold tokAt
  rw [g5]
  show (if isSign 119 = true then _ else if isMark 119 = true then _ else if isLower 119 = true then _ else _) = _
  rw [if_neg (by decide), if_neg (by decide), if_pos (by decide), hw, hd, show P.length + 9 - (P.length + 5) = 4 by omega]
  rfl
end Go.Proofs.Ytjebanfmnfofnaa

/-
  A NAME, AS IT IS WRITTEN, IS READ AS THAT NAME. No program in sight; no statement of its own.
-/
import Derived.Test.YtjebanfmnfofnaaQuo1
import Derived.Test.YtjebanfmnfofnaaRefO
set_option linter.unusedSimpArgs false
set_option linter.unusedVariables false
namespace Go.Proofs.Ytjebanfmnfofnaa
theorem mid0 {A R : List Nat} {i x : Nat} (hA : A.length = i) : (A ++ x :: R)[i]? = some x := by
  rw [List.getElem?_append_right (by omega), hA, Nat.sub_self]; rfl
theorem mid1 {A R : List Nat} {i x y : Nat} (hA : A.length = i) : (A ++ x :: y :: R)[i + 1]? = some y := by
  rw [List.getElem?_append_right (by omega), hA, Nat.add_sub_cancel_left]; rfl
theorem mid2 {A R : List Nat} {i x y z : Nat} (hA : A.length = i) : (A ++ x :: y :: z :: R)[i + 2]? = some z := by
  rw [List.getElem?_append_right (by omega), hA, Nat.add_sub_cancel_left]; rfl
theorem mid3 {A R : List Nat} {i x y z u : Nat} (hA : A.length = i) : (A ++ x :: y :: z :: u :: R)[i + 3]? = some u := by
  rw [List.getElem?_append_right (by omega), hA, Nat.add_sub_cancel_left]; rfl
/-- What stands in quotes is read as what was quoted. -/
theorem quoted_all (R : List Nat) : ∀ (s A acc P : List Nat) (i : Nat), (∀ u ∈ s, u < 256) → P = A ++ (s.flatMap quoteB ++ 34 :: R) → A.length = i → quoted P i acc = .ok (acc ++ s, i + (s.flatMap quoteB).length + 1) := by
  intro s
  induction s with
  | nil =>
    intro A acc P i _ hP hA
    subst hP
    rw [List.flatMap_nil, List.nil_append, List.append_nil]
    exact quoted_close (mid0 hA)
  | cons x r ih =>
    intro A acc P i hb hP hA
    have hx := hb x List.mem_cons_self
    have hr : ∀ u ∈ r, u < 256 := fun u hu => hb u (List.mem_cons_of_mem _ hu)
    have step : ∀ (B : List Nat), quoteB x = B → quoted P i acc = quoted P (i + B.length) (acc ++ [x]) → quoted P i acc = .ok (acc ++ x :: r, i + ((x :: r).flatMap quoteB).length + 1) := by
      intro B hB hq
      rw [hq]
      have := ih (A ++ B) (acc ++ [x]) P (i + B.length) hr (by rw [hP, List.flatMap_cons, hB]; simp only [List.append_assoc]) (by rw [List.length_append, hA])
      rw [this, List.flatMap_cons, hB, List.length_append, List.append_assoc]
      congr 2
      omega
    by_cases h1 : x = 34 ∨ x = 92
    · have hB : quoteB x = [92, x] := by unfold quoteB; rw [if_pos h1]
      refine step _ hB ?_
      have e : P = A ++ 92 :: x :: (r.flatMap quoteB ++ 34 :: R) := by rw [hP, List.flatMap_cons, hB]; simp
      have g0 : P[i]? = some 92 := by rw [e]; exact mid0 hA
      have g1 : P[i + 1]? = some x := by rw [e]; exact mid1 hA
      have he := esc_one g1 h1
      have := quoted_esc (acc := acc) g0 (by rw [he]; exact Nat.succ_ne_zero 0)
      rw [he] at this
      exact this
    · by_cases h2 : x < 32 ∨ 126 < x
      · have hB : quoteB x = [92, 120, hexd (x / 16), hexd (x % 16)] := by unfold quoteB; rw [if_neg h1, if_pos h2]
        refine step _ hB ?_
        obtain ⟨p1, p2, _⟩ := hexd_ok ⟨x / 16, by omega⟩
        obtain ⟨p3, p4, _⟩ := hexd_ok ⟨x % 16, by omega⟩
        dsimp only at p1 p2 p3 p4
        have e : P = A ++ 92 :: 120 :: hexd (x / 16) :: hexd (x % 16) :: (r.flatMap quoteB ++ 34 :: R) := by rw [hP, List.flatMap_cons, hB]; simp
        have g0 : P[i]? = some 92 := by rw [e]; exact mid0 hA
        have g1 : P[i + 1]? = some 120 := by rw [e]; exact mid1 hA
        have g2 : P[i + 1 + 1]? = some (hexd (x / 16)) := by rw [e]; exact mid2 hA
        have g3 : P[i + 1 + 2]? = some (hexd (x % 16)) := by rw [e]; exact mid3 hA
        have he := esc_hex g1 g2 g3 p1 p3
        rw [p2, p4, show 16 * (x / 16) + x % 16 = x by omega] at he
        have := quoted_esc (acc := acc) g0 (by rw [he]; exact Nat.succ_ne_zero 2)
        rw [he] at this
        exact this
      · have hB : quoteB x = [x] := by unfold quoteB; rw [if_neg h1, if_neg h2]
        refine step _ hB ?_
        have e : P = A ++ x :: (r.flatMap quoteB ++ 34 :: R) := by rw [hP, List.flatMap_cons, hB]; simp
        have g0 : P[i]? = some x := by rw [e]; exact mid0 hA
        exact quoted_in g0 (fun h => h1 (.inl h)) (fun h => h1 (.inr h)) h2
theorem takeWhile_all {q : Nat → Bool} {s R : List Nat} (h : s.all q = true) (hR : ∀ y, R.head? = some y → q y = false) : (s ++ R).takeWhile q = s := by
  induction s with
  | nil =>
    cases R with
    | nil => rfl
    | cons y t => rw [List.nil_append, List.takeWhile_cons_of_neg (by rw [hR y rfl]; decide)]
  | cons x r ih =>
    rw [List.all_cons, Bool.and_eq_true] at h
    rw [List.cons_append, List.takeWhile_cons_of_pos h.1, ih h.2]
/-- What no name has. -/
def endsName (R : List Nat) : Prop := ∀ y, R.head? = some y → isNameC y = false
/-- A name behind its mark, as it is written. -/
theorem nameAt_quote {A s R P : List Nat} {i : Nat} (hb : ∀ u ∈ s, u < 256) (hP : P = A ++ (quoteL s ++ R)) (hA : A.length = i) (hR : endsName R) : nameAt P i = .ok (s, i + (quoteL s).length) := by
  unfold quoteL at hP ⊢
  by_cases hbr : bareL s = true
  · rw [if_pos hbr] at hP ⊢
    cases s with
    | nil => cases hbr
    | cons x r =>
      have hbr' : (isLetter x && r.all isNameC) = true := hbr
      rw [Bool.and_eq_true] at hbr'
      have g0 : P[i]? = some x := by rw [hP]; exact mid0 hA
      have hall : (x :: r).all isNameC = true := by rw [List.all_cons, letter_nameC hbr'.1, hbr'.2]; rfl
      have hd : P.drop i = (x :: r) ++ R := by rw [hP, List.drop_append_of_le_length (by omega), ← hA, List.drop_length, List.nil_append]
      have hrun : run isNameC P i = i + (x :: r).length := by unfold run; rw [hd, takeWhile_all hall hR]
      unfold nameAt
      rw [g0]
      show (if x = 34 then _ else if isLetter x = true then _ else _) = _
      rw [if_neg (by rintro rfl; have := hbr'.1; cases this), if_pos hbr'.1, hrun, Nat.add_sub_cancel_left, hd, List.take_left]
  · rw [if_neg hbr] at hP ⊢
    have e : P = (A ++ [34]) ++ (s.flatMap quoteB ++ 34 :: R) := by rw [hP]; simp
    have g0 : P[i]? = some 34 := by rw [hP]; simp only [List.cons_append]; exact mid0 hA
    have := quoted_all R s (A ++ [34]) [] P (i + 1) hb e (by rw [List.length_append, hA]; rfl)
    unfold nameAt
    rw [g0]
    show (if 34 = 34 then quoted P (i + 1) [] else _) = _
    rw [if_pos rfl, this, List.nil_append]
    congr 2
    simp
    omega
theorem mark_blank {m : Nat} (h : isMark m = true) : isBlank m = false ∧ m ≠ 47 ∧ isSign m = false ∧ m < 128 := by
  unfold isMark at h
  simp at h
  rcases h with ((rfl | rfl) | rfl) | rfl <;> decide
/-- A mark and a name, as they are written, are that token. -/
theorem next_name {A s R P : List Nat} {m i : Nat} (hm : isMark m = true) (hb : ∀ u ∈ s, u < 256) (hP : P = A ++ (m :: quoteL s ++ R)) (hA : A.length = i) (hR : endsName R) : nextM P i = .ok (⟨2, m, s, i⟩, i + 1 + (quoteL s).length) := by
  obtain ⟨h1, h2, h3, _⟩ := mark_blank hm
  have g0 : P[i]? = some m := by rw [hP]; exact mid0 hA
  rw [nextM_ok (skip_no g0 h1 (fun e => h2 e.1)) (List.getElem?_eq_some_iff.1 g0).1]
  exact tokAt_mark g0 h3 hm (nameAt_quote (A := A ++ [m]) hb (by rw [hP]; simp) (by rw [List.length_append, hA]; rfl) hR)
theorem next_sign {A R P : List Nat} {c i : Nat} (hc : isSign c = true) (hP : P = A ++ c :: R) (hA : A.length = i) : nextM P i = .ok (⟨3, 0, [c], i⟩, i + 1) := by
  have g0 : P[i]? = some c := by rw [hP]; exact mid0 hA
  have hbl : isBlank c = false ∧ c ≠ 47 := by
    unfold isSign at hc
    simp at hc
    unfold isBlank
    simp
    omega
  rw [nextM_ok (skip_no g0 hbl.1 (fun e => hbl.2 e.1)) (List.getElem?_eq_some_iff.1 g0).1]
  unfold tokAt
  rw [g0]
  show (if isSign c = true then _ else _) = _
  rw [if_pos hc]
end Go.Proofs.Ytjebanfmnfofnaa

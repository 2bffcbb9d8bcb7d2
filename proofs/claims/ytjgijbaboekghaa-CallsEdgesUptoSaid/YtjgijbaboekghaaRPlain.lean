/-
  PLAIN MATHEMATICS OF WHO IS COME TO: a search with a list of work finds just those that are reached. No program in sight.
-/
namespace Go.Proofs.Ytjgijbaboekghaa.R
abbrev Edge := Int × Int × Int
inductive Reaches (k : Nat) (es : List Int) (l : List Edge) : Nat → Prop
  | entry {n : Nat} : n < k → (n : Int) ∈ es → Reaches k es l n
  | step {m n : Nat} {c : Int} : Reaches k es l m → ((m : Int), c, (n : Int)) ∈ l → n < k → Reaches k es l n
theorem Reaches.lt {k : Nat} {es : List Int} {l : List Edge} {n : Nat} (h : Reaches k es l n) : n < k := by cases h <;> assumption
def come (s : List Bool) (wk : List Int) (n : Int) : List Bool × List Int := if 0 ≤ n ∧ n < s.length ∧ s.getD n.toNat false = false then (s.set n.toNat true, wk ++ [n]) else (s, wk)
theorem come_length (s : List Bool) (wk : List Int) (n : Int) : (come s wk n).1.length = s.length := by unfold come; split <;> simp
theorem set_getD (s : List Bool) (i m : Nat) (hi : i < s.length) : (s.set i true).getD m false = (decide (m = i) || s.getD m false) := by
  rw [List.getD_eq_getElem?_getD, List.getD_eq_getElem?_getD, List.getElem?_set]
  by_cases h : i = m
  · subst h; simp [hi]
  · rw [if_neg h]; simp [Ne.symm h]
theorem come_seen (s : List Bool) (wk : List Int) (n : Int) (m : Nat) : (come s wk n).1.getD m false = true ↔ s.getD m false = true ∨ (n = m ∧ m < s.length) := by
  unfold come
  split
  · rename_i h
    obtain ⟨h0, h1, h2⟩ := h
    rw [set_getD _ _ _ (by omega), Bool.or_eq_true, decide_eq_true_eq]
    constructor
    · rintro (h | h)
      · exact .inr ⟨by omega, by omega⟩
      · exact .inl h
    · rintro (h | h)
      · exact .inr h
      · exact .inl (by omega)
  · rename_i h
    constructor
    · exact .inl
    · rintro (h' | ⟨rfl, h'⟩)
      · exact h'
      · simp only
        by_cases hs : s.getD m false = true
        · exact hs
        · exact absurd ⟨by omega, by omega, by rw [Int.toNat_natCast]; simpa using hs⟩ h
theorem come_work (s : List Bool) (wk : List Int) (n x : Int) : x ∈ (come s wk n).2 ↔ x ∈ wk ∨ (x = n ∧ 0 ≤ n ∧ n < s.length ∧ s.getD n.toNat false = false) := by
  unfold come
  split
  · rename_i h
    simp only [List.mem_append, List.mem_singleton]
    constructor
    · rintro (h1 | h1)
      · exact .inl h1
      · exact .inr ⟨h1, h⟩
    · rintro (h1 | h1)
      · exact .inl h1
      · exact .inr h1.1
  · rename_i h
    constructor
    · exact .inl
    · rintro (h' | ⟨_, h'⟩)
      · exact h'
      · exact absurd h' h
def cost (s : List Bool) (wk : List Int) : Nat := 2 * s.count false + wk.length
theorem count_set (s : List Bool) (i : Nat) (hi : i < s.length) (h : s.getD i false = false) : (s.set i true).count false + 1 = s.count false := by
  have e : s[i] = false := by rw [List.getD_eq_getElem?_getD, List.getElem?_eq_getElem hi] at h; simpa using h
  rw [List.count_set hi]
  have : 0 < s.count false := List.count_pos_iff.2 (by rw [← e]; exact List.getElem_mem hi)
  simp [e]
  omega
theorem come_cost (s : List Bool) (wk : List Int) (n : Int) : cost (come s wk n).1 (come s wk n).2 ≤ cost s wk := by
  unfold come
  split
  · rename_i h
    have := count_set s n.toNat (by omega) h.2.2
    simp only [cost, List.length_append, List.length_singleton]
    omega
  · exact Nat.le_refl _
/-- What holds of who is seen, and of the work, all the time. -/
structure Inv (k : Nat) (es : List Int) (l : List Edge) (s : List Bool) (wk : List Int) : Prop where
  len : s.length = k
  sound : ∀ n, s.getD n false = true → Reaches k es l n
  work : ∀ x ∈ wk, ∃ m : Nat, x = m ∧ s.getD m false = true
theorem Inv.come_ {k : Nat} {es : List Int} {l : List Edge} {s : List Bool} {wk : List Int} (h : Inv k es l s wk) (n : Int) (hn : ∀ m : Nat, n = m → m < k → Reaches k es l m) : Inv k es l (come s wk n).1 (come s wk n).2 where
  len := by rw [come_length, h.len]
  sound := fun m hm => by
    rcases (come_seen s wk n m).1 hm with h1 | ⟨h1, h2⟩
    · exact h.sound m h1
    · exact hn m h1 (by rw [← h.len]; exact h2)
  work := fun x hx => by
    rcases (come_work s wk n x).1 hx with h1 | ⟨rfl, h1, h2, _⟩
    · obtain ⟨m, e, hm⟩ := h.work x h1
      exact ⟨m, e, (come_seen s wk n m).2 (.inl hm)⟩
    · exact ⟨x.toNat, by omega, (come_seen s wk x _).2 (.inr ⟨by omega, by omega⟩)⟩
/-- All whom the seen ones call are seen, but of those in the work, and of m's calls from the j-th on. -/
def Closed (k : Nat) (l : List Edge) (s : List Bool) (wk : List Int) (m j : Nat) : Prop :=
  ∀ (a : Nat), s.getD a false = true → (a : Int) ∉ wk → ∀ (i : Nat) (c : Int) (b : Nat), l[i]? = some ((a : Int), c, (b : Int)) → b < k → (a = m → i < j) → s.getD b false = true
theorem Closed.come_ {k : Nat} {l : List Edge} {s : List Bool} {wk : List Int} {m j : Nat} (h : Closed k l s wk m j) (n : Int) : Closed k l (come s wk n).1 (come s wk n).2 m j := by
  intro a ha hw i c b hl hb hj
  have hw' : (a : Int) ∉ wk := fun hx => hw ((come_work s wk n _).2 (.inl hx))
  rcases (come_seen s wk n a).1 ha with h1 | ⟨h1, h2⟩
  · exact (come_seen s wk n b).2 (.inl (h a h1 hw' i c b hl hb hj))
  · by_cases hs : s.getD a false = true
    · exact (come_seen s wk n b).2 (.inl (h a hs hw' i c b hl hb hj))
    · exact absurd ((come_work s wk n _).2 (.inr ⟨h1.symm, by omega, by omega, by rw [h1, Int.toNat_natCast]; simpa using hs⟩)) hw
/-- One call more has been looked at. -/
theorem Closed.next {k : Nat} {l : List Edge} {s : List Bool} {wk : List Int} {m j : Nat} (h : Closed k l s wk m j) (hn : ∀ (c : Int) (b : Nat), l[j]? = some ((m : Int), c, (b : Int)) → b < k → s.getD b false = true) : Closed k l s wk m (j + 1) := by
  intro a ha hw i c b hl hb hj
  by_cases hm : a = m
  · subst hm
    have := hj rfl
    by_cases hi : i = j
    · subst hi; exact hn c b hl hb
    · exact h a ha hw i c b hl hb (fun _ => by omega)
  · exact h a ha hw i c b hl hb (fun e => absurd e hm)
/-- One is taken out of the work. -/
theorem Closed.pop {k : Nat} {l : List Edge} {s : List Bool} {wk : List Int} {n m : Nat} {x : Int} (h : ∀ j, Closed k l s (wk ++ [x]) m j) (hx : x = n) : Closed k l s wk n 0 := by
  intro a ha hw i c b hl hb hj
  by_cases hn : a = n
  · have := hj hn; omega
  · refine h (i + 1) a ha ?_ i c b hl hb (fun _ => by omega)
    simp only [List.mem_append, List.mem_singleton, hx]
    rintro (h1 | h1)
    · exact hw h1
    · exact hn (by omega)
/-- All its calls have been looked at. -/
theorem Closed.all {k : Nat} {l : List Edge} {s : List Bool} {wk : List Int} {m : Nat} (h : Closed k l s wk m l.length) : ∀ m' j, Closed k l s wk m' j := by
  intro m' j a ha hw i c b hl hb _
  refine h a ha hw i c b hl hb (fun _ => ?_)
  exact (List.getElem?_eq_some_iff.1 hl).1
/-- Nothing is left to be done: just those that are reached are seen. -/
theorem seen_iff {k : Nat} {es : List Int} {l : List Edge} {s : List Bool} (h : Inv k es l s []) (hc : ∀ m j, Closed k l s [] m j) (he : ∀ n : Nat, (n : Int) ∈ es → n < k → s.getD n false = true) (n : Nat) : s.getD n false = true ↔ Reaches k es l n := by
  constructor
  · exact h.sound n
  · intro hr
    induction hr with
    | entry h1 h2 => exact he _ h2 h1
    | step _ h2 h3 ih =>
      obtain ⟨i, hi⟩ := List.getElem?_of_mem h2
      exact hc 0 (i + 1) _ ih (by simp) i _ _ hi h3 (fun _ => Nat.lt_succ_self i)
open Classical in
/-- Those that are come to, rising. -/
noncomputable def reachList (k : Nat) (es : List Int) (l : List Edge) : List Nat := (List.range k).filter fun n => decide (Reaches k es l n)
def seenList (s : List Bool) : List Nat := (List.range s.length).filter fun n => s.getD n false
open Classical in
theorem seenList_eq {k : Nat} {es : List Int} {l : List Edge} {s : List Bool} (hk : s.length = k) (h : ∀ n, s.getD n false = true ↔ Reaches k es l n) : seenList s = reachList k es l := by
  unfold seenList reachList
  rw [hk]
  apply List.filter_congr
  intro n _
  rw [Bool.eq_iff_iff, decide_eq_true_eq]
  exact h n
end Go.Proofs.Ytjgijbaboekghaa.R

/-
  PLAIN MATHEMATICS OF REPEATED PASSES: after as many passes as there are functions nothing is left to be found. No program in sight.
-/
import Derived.Test.YtjabffnehodkfaaPlain
namespace Go.Proofs.Ytjabffnehodkfaa
/-- What the i-th call asks. -/
def ClosedAt (k : Nat) (l : List Edge) (s : List Bool) (i : Nat) : Prop :=
  ∀ (a : Nat) (c : Int) (b : Nat), l[i]? = some ((a : Int), c, (b : Int)) → b < k → s.getD a false = true → s.getD b false = true
/-- After r passes. -/
def Passed (k : Nat) (l : List Edge) (s : List Bool) (r : Nat) : Prop := (∀ i, ClosedAt k l s i) ∨ s.count false + r ≤ k
/-- In the pass behind r passes, j calls have been looked at. -/
def Passing (k : Nat) (l : List Edge) (s : List Bool) (r j : Nat) : Prop := (∀ i, ClosedAt k l s i) ∨ s.count false + (r + 1) ≤ k ∨ (s.count false + r ≤ k ∧ ∀ i, i < j → ClosedAt k l s i)
theorem Passed.start {k : Nat} {l : List Edge} {s : List Bool} {r : Nat} (h : Passed k l s r) : Passing k l s r 0 := by
  rcases h with h | h
  · exact .inl h
  · exact .inr (.inr ⟨h, fun i hi => by omega⟩)
theorem Passing.end_ {k : Nat} {l : List Edge} {s : List Bool} {r : Nat} (h : Passing k l s r l.length) : Passed k l s (r + 1) := by
  rcases h with h | h | ⟨_, h⟩
  · exact .inl h
  · exact .inr h
  · refine .inl fun i a c b hl => h i ?_ a c b hl
    exact (List.getElem?_eq_some_iff.1 hl).1
theorem set_same (s : List Bool) (i : Nat) (h : s.getD i false = true) : s.set i true = s := by
  apply List.ext_getElem?
  intro m
  rw [List.getElem?_set]
  split
  · rename_i e
    subst e
    rw [List.getD_eq_getElem?_getD] at h
    by_cases hi : i < s.length
    · rw [List.getElem?_eq_getElem hi] at h ⊢
      simp at h
      simp [hi, h]
    · rw [List.getElem?_eq_none (by omega)] at h; simp at h
  · rfl
/-- The call looked at marks somebody. -/
theorem Passing.mark {k : Nat} {l : List Edge} {s : List Bool} {r j : Nat} (h : Passing k l s r j) (hk : s.length = k) (a : Nat) (c : Int) (b : Nat) (hl : l[j]? = some ((a : Int), c, (b : Int))) (hb : b < k) (ha : s.getD a false = true) : Passing k l (s.set b true) r (j + 1) := by
  by_cases hs : s.getD b false = true
  · rw [set_same s b hs]
    rcases h with h | h | ⟨h, h'⟩
    · exact .inl h
    · exact .inr (.inl h)
    · refine .inr (.inr ⟨h, fun i hi => ?_⟩)
      by_cases e : i = j
      · subst e
        intro a' c' b' hl' hb' ha'
        rw [hl] at hl'
        injection hl' with hl'
        injection hl' with h1 h2
        injection h2 with _ h2
        have : b = b' := by omega
        rw [← this]; exact hs
      · exact h' i (by omega)
  · have hs' : s.getD b false = false := by simpa using hs
    have hc := count_set s b (by omega) hs'
    rcases h with h | h | ⟨h, h'⟩
    · exact absurd (h j a c b hl hb ha) hs
    · exact .inr (.inl (by omega))
    · exact .inr (.inl (by omega))
/-- The call looked at marks nobody. -/
theorem Passing.skip {k : Nat} {l : List Edge} {s : List Bool} {r j : Nat} (h : Passing k l s r j) (hn : ClosedAt k l s j) : Passing k l s r (j + 1) := by
  rcases h with h | h | ⟨h, h'⟩
  · exact .inl h
  · exact .inr (.inl h)
  · refine .inr (.inr ⟨h, fun i hi => ?_⟩)
    by_cases e : i = j
    · subst e; exact hn
    · exact h' i (by omega)
theorem Passed.closed {k : Nat} {l : List Edge} {s : List Bool} (h : Passed k l s k) (hk : s.length = k) : ∀ m j, Closed k l s [] m j := by
  intro m j a ha _ i c b hl hb _
  rcases h with h | h
  · exact h i a c b hl hb ha
  · have : s.count false = 0 := by omega
    rw [List.count_eq_zero] at this
    rw [List.getD_eq_getElem?_getD, List.getElem?_eq_getElem (by omega)]
    have hm : s[b]'(by omega) ∈ s := List.getElem_mem _
    cases e : s[b]'(by omega) with
    | true => rfl
    | false => rw [e] at hm; exact absurd hm this
end Go.Proofs.Ytjabffnehodkfaa

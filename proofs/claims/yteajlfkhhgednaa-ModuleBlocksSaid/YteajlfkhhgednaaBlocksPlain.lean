/-
  ModuleBlocks: what is plain about it; rows of statements of the call's own.
-/
import Derived.Test.YteajlfkhhgednaaCount
import Derived.Test.YteajlfkhhgednaaSameB
namespace Go.Proofs.Yteajlfkhhgednaa
open Go.RowKit
theorem info46 : (Try.prog.info? 46).map (fun i => (i.zero, i.size, i.bytes)) = some (some (.agg #[.int .u8 0, .int .u8 0, .int .i64 0, .int .u8 0, .int .i64 0, .slice none 0 0, .slice none 0 0]), 7, 88) := by kernel_rfl
mutual
theorem sameSt_refl : (s : St) → sameSt s s = true
  | .mk k ak ai bk bi args body => by
    rw [sameSt, sameAll_refl body]
    simp
theorem sameAll_refl : (l : List St) → sameSt.sameAll l l = true
  | [] => by rw [sameSt.sameAll]
  | s :: r => by rw [sameSt.sameAll, sameSt_refl s, sameAll_refl r]; rfl
end
theorem sameB_refl (l : List St) : sameB l l = true := sameAll_refl l
/-- Cells that read as statements, one behind another. -/
def RowOf (w : World) : List Value → List St → Prop
  | xs, [] => xs = []
  | xs, s :: r => ∃ vs ys, xs = vs ++ ys ∧ Cells7 w vs s ∧ RowOf w ys r
theorem RowOf.length {w : World} {xs : List Value} {l : List St} (h : RowOf w xs l) : xs.length = l.length * 7 := by
  induction l generalizing xs with
  | nil => rw [RowOf] at h; subst h; rfl
  | cons s r ih =>
    obtain ⟨vs, ys, rfl, h1, h2⟩ := h
    have := ih h2
    have := h1.length
    simp
    omega
theorem RowOf.append {w : World} {xs ys : List Value} {l r : List St} (h : RowOf w xs l) (k : RowOf w ys r) : RowOf w (xs ++ ys) (l ++ r) := by
  induction l generalizing xs with
  | nil => rw [RowOf] at h; subst h; exact k
  | cons s l ih =>
    obtain ⟨vs, zs, rfl, h1, h2⟩ := h
    exact ⟨vs, zs ++ ys, by simp, h1, ih h2⟩
theorem RowOf.one {w : World} {vs : List Value} {s : St} (h : Cells7 w vs s) : RowOf w vs [s] := ⟨vs, [], by simp, h, rfl⟩
theorem RowOf.below {w w' : World} {xs : List Value} {l : List St} (h : RowOf w xs l) (hb : Below w.heap.size w w') : RowOf w' xs l := by
  induction l generalizing xs with
  | nil => exact h
  | cons s l ih =>
    obtain ⟨vs, zs, rfl, h1, h2⟩ := h
    exact ⟨vs, zs, rfl, h1.below hb, ih h2⟩
theorem RowOf.at {w : World} {xs : List Value} {l : List St} (h : RowOf w xs l) {i : Nat} {s : St} (hs : l[i]? = some s) : ∃ vs, Cells7 w vs s ∧ ∀ (j : Nat) (v : Value), vs[j]? = some v → xs[i * 7 + j]? = some v := by
  induction l generalizing xs i with
  | nil => simp at hs
  | cons x l ih =>
    obtain ⟨vs, zs, rfl, h1, h2⟩ := h
    have hl := h1.length
    cases i with
    | zero =>
      simp at hs
      subst hs
      refine ⟨vs, h1, fun j v hv => ?_⟩
      have hj := (List.getElem?_eq_some_iff.1 hv).1
      rw [Nat.zero_mul, Nat.zero_add, List.getElem?_append_left hj]
      exact hv
    | succ i =>
      obtain ⟨us, g1, g2⟩ := ih h2 (by simpa using hs)
      refine ⟨us, g1, fun j v hv => ?_⟩
      rw [List.getElem?_append_right (by omega), show (i + 1) * 7 + j - vs.length = i * 7 + j by omega]
      exact g2 j v hv
/-- A row of the call's own reads as its statements. -/
theorem ReadsBody.own {w : World} {B n : Nat} {A : Option Addr} {cp : Nat} {xs : List Value} {l : List St} (h : w.ownsRow B 46 7 (.slice A n cp) n xs) (hx : RowOf w xs l) (hl : l.length = n) (hn : n ≤ maxLen) : ReadsBody w A n l := by
  rcases h.2 with ⟨e, h0⟩ | ⟨g, cap, cur, e, hb, hh, h1, h2, h3, h4⟩
  · exact ⟨hl, hn, fun hp => by omega⟩
  · injection e with e1 e2 e3
    subst e1
    refine ReadsBody.block hh hl hn fun i s hs => ?_
    obtain ⟨vs, g1, g2⟩ := hx.at hs
    refine ⟨vs, g1, fun j v hv => ?_⟩
    have := g2 j v hv
    rw [← h4] at this
    rw [List.getElem?_take] at this
    split at this
    · simpa using this
    · simp at this
theorem flat_plain (m d : Nat) (l : List St) (h : ∀ s ∈ l, s.body = []) : (flatT m d l).length = l.length := by
  induction l with
  | nil => rw [flatT_nil]; rfl
  | cons s r ih =>
    have := flatT_append m d [s] r
    rw [List.singleton_append] at this
    rw [this, flatT_cons, List.length_append, ih (fun s hs => h s (List.mem_cons_of_mem _ hs))]
    have : kidsT m d s = [] := by
      cases m with
      | zero => rfl
      | succ m => rw [kidsT, h s List.mem_cons_self, flatT_nil]; split <;> rfl
    rw [this]
    simp
    omega
def blk (l : List St) : St := .mk 7 0 0 0 0 [] l
theorem count_in (l : List St) (h : ∀ s ∈ l, s.body = []) : (flatT 1000 0 [blk l]).length = l.length + 1 := by
  rw [flatT_cons, List.length_cons, show kidsT 1000 0 (blk l) = flatT 999 1 l from rfl, flat_plain _ _ _ h]
theorem count_out (l : List St) (h : ∀ s ∈ l, s.body = []) : (flatT 1000 0 (blk [] :: l)).length = l.length + 1 := by
  rw [flat_plain _ _ _ (fun s hs => by
    rcases List.mem_cons.1 hs with rfl | hs
    · rfl
    · exact h s hs)]
  rfl
theorem same_in_out (l : List St) : sameB [blk l] (blk [] :: l) = decide (l.length = 0) := by
  cases l with
  | nil => rw [sameB_refl]; rfl
  | cons s r => rw [sameB_len (by simp)]; simp
end Go.Proofs.Yteajlfkhhgednaa

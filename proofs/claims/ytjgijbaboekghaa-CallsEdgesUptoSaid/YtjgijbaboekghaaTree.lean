/-
  STATEMENTS AS THEY LIE IN MEMORY, and as plain trees. No statement of its own.
-/
import Derived.Test.YtjgijbaboekghaaRows
import Derived.WalkKit
import Derived.LoopTactic
import Derived.OwnWalk
import Derived.Lib.Hide
import Derived.Laws.AppendOwnNone
import Derived.Deep.OwnRows
import Derived.Below
set_option linter.unusedSimpArgs false
set_option linter.unusedVariables false
namespace Go.Proofs.Ytjgijbaboekghaa
open Go.RowKit
/-- A statement: its kind, A, B, its arguments, what is in it. -/
inductive St where
  | mk (k ak ai bk bi : Int) (args : List (Int × Int)) (body : List St)
def St.kind : St → Int | .mk k _ _ _ _ _ _ => k
def St.body : St → List St | .mk _ _ _ _ _ _ b => b
/-- References that a slice reads as. -/
def ReadsRefs (w : World) (a : Option Addr) (len : Nat) (l : List (Int × Int)) : Prop :=
  l.length = len ∧ len ≤ maxLen ∧ (0 < len → ∃ b off, a = some ⟨b, off, none⟩ ∧ ∀ i, i < len → w.cell? ⟨b, off + i * 2, none⟩ = some (.int .u8 (l.getD i (0, 0)).1) ∧ w.cell? ⟨b, off + i * 2 + 1, none⟩ = some (.int .i64 (l.getD i (0, 0)).2))
mutual
/-- The seven cells that read as a statement. -/
def Cells7 (w : World) (vs : List Value) : St → Prop
  | .mk k ak ai bk bi args body => ∃ aa al ac ba bl bc, vs = [.int .u8 k, .int .u8 ak, .int .i64 ai, .int .u8 bk, .int .i64 bi, .slice aa al ac, .slice ba bl bc] ∧ ReadsRefs w aa al args ∧ body.length = bl ∧ bl ≤ maxLen ∧
      (0 < bl → ∃ b off, ba = some ⟨b, off, none⟩ ∧ CellsAll w b off body)
/-- Statements, one behind another. -/
def CellsAll (w : World) (b off : Nat) : List St → Prop
  | [] => True
  | s :: r => (∃ vs, Cells7 w vs s ∧ ∀ j v, vs[j]? = some v → w.cell? ⟨b, off + j, none⟩ = some v) ∧ CellsAll w b (off + 7) r
end
/-- Statements that a slice reads as. -/
def ReadsBody (w : World) (a : Option Addr) (len : Nat) (l : List St) : Prop :=
  l.length = len ∧ len ≤ maxLen ∧ (0 < len → ∃ b off, a = some ⟨b, off, none⟩ ∧ CellsAll w b off l)
theorem cells7_def (w : World) (vs : List Value) (k ak ai bk bi : Int) (args : List (Int × Int)) (body : List St) : Cells7 w vs (.mk k ak ai bk bi args body) ↔ ∃ aa al ac ba bl bc, vs = [.int .u8 k, .int .u8 ak, .int .i64 ai, .int .u8 bk, .int .i64 bi, .slice aa al ac, .slice ba bl bc] ∧ ReadsRefs w aa al args ∧ ReadsBody w ba bl body := by
  rw [Cells7]; rfl
theorem ReadsRefs.below {w w' : World} {a : Option Addr} {len : Nat} {l : List (Int × Int)} (h : ReadsRefs w a len l) (hb : Below w.heap.size w w') : ReadsRefs w' a len l :=
  ⟨h.1, h.2.1, fun hp => by
    obtain ⟨b, off, e, hc⟩ := h.2.2 hp
    have k : ∀ p v, w.cell? p = some v → w'.cell? p = some v := fun p v hv => (hb.cell (World.block_lt_of_cell? w p hv)).trans hv
    exact ⟨b, off, e, fun i hi => ⟨k _ _ (hc i hi).1, k _ _ (hc i hi).2⟩⟩⟩
mutual
theorem Cells7.below {w w' : World} (hb : Below w.heap.size w w') {vs : List Value} : (s : St) → Cells7 w vs s → Cells7 w' vs s
  | .mk k ak ai bk bi args body => by
    rw [Cells7, Cells7]
    rintro ⟨aa, al, ac, ba, bl, bc, h1, h2, h3, h4, h5⟩
    refine ⟨aa, al, ac, ba, bl, bc, h1, h2.below hb, h3, h4, fun hp => ?_⟩
    obtain ⟨b, off, e, h⟩ := h5 hp
    exact ⟨b, off, e, CellsAll.below hb body h⟩
theorem CellsAll.below {w w' : World} (hb : Below w.heap.size w w') {b off : Nat} : (l : List St) → CellsAll w b off l → CellsAll w' b off l
  | [] => fun _ => by rw [CellsAll]; trivial
  | s :: r => by
    rw [CellsAll, CellsAll]
    rintro ⟨⟨vs, h1, h2⟩, h3⟩
    exact ⟨⟨vs, Cells7.below hb s h1, fun j v hv => (hb.cell (World.block_lt_of_cell? w _ (h2 j v hv))).trans (h2 j v hv)⟩, CellsAll.below hb r h3⟩
end
theorem ReadsBody.below {w w' : World} {a : Option Addr} {len : Nat} {l : List St} (h : ReadsBody w a len l) (hb : Below w.heap.size w w') : ReadsBody w' a len l :=
  ⟨h.1, h.2.1, fun hp => by
    obtain ⟨b, off, e, hc⟩ := h.2.2 hp
    exact ⟨b, off, e, hc.below hb _⟩⟩
theorem CellsAll.at {w : World} {b off i : Nat} {l : List St} {s : St} (h : CellsAll w b off l) (hs : l[i]? = some s) : ∃ vs, Cells7 w vs s ∧ ∀ j v, vs[j]? = some v → w.cell? ⟨b, off + i * 7 + j, none⟩ = some v := by
  induction l generalizing off i with
  | nil => simp at hs
  | cons x r ih =>
    rw [CellsAll] at h
    cases i with
    | zero =>
      simp at hs
      subst hs
      simpa using h.1
    | succ i =>
      obtain ⟨vs, h1, h2⟩ := ih h.2 (by simpa using hs)
      refine ⟨vs, h1, fun j v hv => ?_⟩
      rw [show off + (i + 1) * 7 + j = off + 7 + i * 7 + j by omega]
      exact h2 j v hv
/-- The cells of the i-th statement. -/
theorem ReadsBody.at {w : World} {a : Option Addr} {len i : Nat} {l : List St} (h : ReadsBody w a len l) (hi : i < len) : ∃ b off k ak ai bk bi args body aa al ac ba bl bc, a = some ⟨b, off, none⟩ ∧ l[i]? = some (.mk k ak ai bk bi args body) ∧
    (w.cell? ⟨b, off + i * 7, none⟩ = some (.int .u8 k) ∧ w.cell? ⟨b, off + i * 7 + 1, none⟩ = some (.int .u8 ak) ∧ w.cell? ⟨b, off + i * 7 + 2, none⟩ = some (.int .i64 ai) ∧ w.cell? ⟨b, off + i * 7 + 3, none⟩ = some (.int .u8 bk) ∧ w.cell? ⟨b, off + i * 7 + 4, none⟩ = some (.int .i64 bi) ∧
      w.cell? ⟨b, off + i * 7 + 5, none⟩ = some (.slice aa al ac) ∧ w.cell? ⟨b, off + i * 7 + 6, none⟩ = some (.slice ba bl bc)) ∧ ReadsRefs w aa al args ∧ ReadsBody w ba bl body := by
  obtain ⟨b, off, e, hc⟩ := h.2.2 (by omega)
  have hi' : i < l.length := by rw [h.1]; exact hi
  obtain ⟨vs, h1, h2⟩ := hc.at (List.getElem?_eq_getElem hi')
  generalize hs : l[i] = s at h1
  obtain ⟨k, ak, ai, bk, bi, args, body⟩ := s
  obtain ⟨aa, al, ac, ba, bl, bc, rfl, h4, h5⟩ := (cells7_def _ _ _ _ _ _ _ _ _).1 h1
  refine ⟨b, off, k, ak, ai, bk, bi, args, body, aa, al, ac, ba, bl, bc, e, by rw [List.getElem?_eq_getElem hi', hs], ⟨?_, ?_, ?_, ?_, ?_, ?_, ?_⟩, h4, h5⟩
  · exact h2 0 _ rfl
  · exact h2 1 _ rfl
  · exact h2 2 _ rfl
  · exact h2 3 _ rfl
  · exact h2 4 _ rfl
  · exact h2 5 _ rfl
  · exact h2 6 _ rfl
/-- What lies as written in memory: how a body is read off cells. -/
theorem CellsAll.of {w : World} {b off : Nat} {l : List St} (h : ∀ i s, l[i]? = some s → ∃ vs, Cells7 w vs s ∧ ∀ j v, vs[j]? = some v → w.cell? ⟨b, off + i * 7 + j, none⟩ = some v) : CellsAll w b off l := by
  induction l generalizing off with
  | nil => rw [CellsAll]; trivial
  | cons x r ih =>
    rw [CellsAll]
    refine ⟨by simpa using h 0 x rfl, ih fun i s hs => ?_⟩
    obtain ⟨vs, h1, h2⟩ := h (i + 1) s (by simpa using hs)
    refine ⟨vs, h1, fun j v hv => ?_⟩
    rw [show off + 7 + i * 7 + j = off + (i + 1) * 7 + j by omega]
    exact h2 j v hv
/-- All statements with how many blocks they stand in; m more of blocks are gone into. -/
def flatT : Nat → Nat → List St → List (Nat × St)
  | 0, d, l => l.map fun s => (d, s)
  | m + 1, d, l => l.flatMap fun s => (d, s) :: (if s.kind = 7 then flatT m (d + 1) s.body else [])
/-- What a statement's own block holds. -/
def kidsT : Nat → Nat → St → List (Nat × St)
  | 0, _, _ => []
  | m + 1, d, s => if s.kind = 7 then flatT m (d + 1) s.body else []
theorem flatT_cons (m d : Nat) (s : St) : flatT m d [s] = (d, s) :: kidsT m d s := by cases m <;> simp [flatT, kidsT]
theorem flatT_append (m d : Nat) (l r : List St) : flatT m d (l ++ r) = flatT m d l ++ flatT m d r := by
  cases m <;> simp [flatT]
theorem flatT_nil (m d : Nat) : flatT m d [] = [] := by cases m <;> rfl
theorem flatT_snoc (m d i : Nat) (l : List St) (s : St) (h : l[i]? = some s) : flatT m d (l.take (i + 1)) = flatT m d (l.take i) ++ (d, s) :: kidsT m d s := by
  obtain ⟨hi, rfl⟩ := List.getElem?_eq_some_iff.1 h
  rw [List.take_succ_eq_append_getElem hi, flatT_append, flatT_cons]
theorem flatT_take_le (m d i : Nat) (l : List St) : (flatT m d (l.take i)).length ≤ (flatT m d l).length := by
  have := flatT_append m d (l.take i) (l.drop i)
  rw [List.take_append_drop] at this
  rw [this, List.length_append]
  omega
/-- Items, as they lie in memory, from the n-th on. -/
def ItemsAt (w : World) : Nat → List Value → List (Nat × St) → Prop
  | _, xs, [] => xs = []
  | n, xs, (d, s) :: r => ∃ vs ys, xs = .int .i64 n :: .int .i64 d :: (vs ++ ys) ∧ Cells7 w vs s ∧ ItemsAt w (n + 1) ys r
theorem Cells7.length {w : World} {vs : List Value} {s : St} (h : Cells7 w vs s) : vs.length = 7 := by
  obtain ⟨k, ak, ai, bk, bi, args, body⟩ := s
  obtain ⟨aa, al, ac, ba, bl, bc, rfl, _⟩ := (cells7_def _ _ _ _ _ _ _ _ _).1 h
  rfl
theorem ItemsAt.snoc {w : World} {n : Nat} {xs : List Value} {l : List (Nat × St)} {d : Nat} {s : St} {vs : List Value} (h : ItemsAt w n xs l) (hv : Cells7 w vs s) : ItemsAt w n (xs ++ (.int .i64 ((n + l.length : Nat) : Int) :: .int .i64 (d : Int) :: vs)) (l ++ [(d, s)]) := by
  induction l generalizing n xs with
  | nil =>
    rw [ItemsAt] at h
    subst h
    exact ⟨vs, [], by simp, hv, rfl⟩
  | cons x r ih =>
    obtain ⟨d', s'⟩ := x
    obtain ⟨vs', ys, rfl, h1, h2⟩ := h
    refine ⟨vs', _, ?_, h1, ih h2⟩
    simp
    omega
theorem ItemsAt.length {w : World} {n : Nat} {xs : List Value} {l : List (Nat × St)} (h : ItemsAt w n xs l) : xs.length = l.length * 9 := by
  induction l generalizing n xs with
  | nil => rw [ItemsAt] at h; subst h; rfl
  | cons x r ih =>
    obtain ⟨d', s'⟩ := x
    obtain ⟨vs', ys, rfl, h1, h2⟩ := h
    have := ih h2
    have := h1.length
    simp
    omega
end Go.Proofs.Ytjgijbaboekghaa

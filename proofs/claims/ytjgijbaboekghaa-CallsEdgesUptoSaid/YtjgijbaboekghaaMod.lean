/-
  MODULES AS THEY LIE IN MEMORY, and as plain data. No statement of its own.
-/
import Derived.Test.YtjgijbaboekghaaSans
set_option linter.unusedSimpArgs false
set_option linter.unusedVariables false
namespace Go.Proofs.Ytjgijbaboekghaa
open Go.RowKit
structure Fn where
  name : Int
  params : Nat
  locals : List Int
  sites : List Int
  body : List St
structure Mod where
  strings : List ByteArray
  globals : List Int
  funcs : List Fn
  entries : List Int
/-- Numbers that a slice reads as. -/
def ReadsI (w : World) (v : Value) (xs : List Int) : Prop :=
  ∃ (a : Option Addr) (n c : Nat), v = .slice a n c ∧ xs.length = n ∧ (n ≤ 1000 ∧ n ≤ c) ∧ (0 < n → ∃ b off, a = some ⟨b, off, none⟩ ∧ ∀ i, i < n → w.cell? ⟨b, off + i, none⟩ = some (.int .i64 (xs.getD i 0)))
/-- Strings that a slice reads as. -/
def ReadsS (w : World) (v : Value) (xs : List ByteArray) : Prop :=
  ∃ (a : Option Addr) (n c : Nat), v = .slice a n c ∧ xs.length = n ∧ (n ≤ 1000 ∧ n ≤ c) ∧ (0 < n → ∃ b off, a = some ⟨b, off, none⟩ ∧ ∀ i, i < n → w.cell? ⟨b, off + i, none⟩ = some (.string (xs.getD i ⟨#[]⟩)))
def ReadsB (w : World) (v : Value) (l : List St) : Prop := ∃ (a : Option Addr) (n c : Nat), v = .slice a n c ∧ n ≤ 1000 ∧ ReadsBody w a n l
/-- The five cells of a function. -/
def Cells5 (w : World) (vs : List Value) (f : Fn) : Prop := ∃ lv sv bv, vs = [.int .i64 f.name, .int .i64 (f.params : Nat), lv, sv, bv] ∧ ReadsI w lv f.locals ∧ ReadsI w sv f.sites ∧ ReadsB w bv f.body
/-- Functions that a slice reads as. -/
def ReadsF (w : World) (v : Value) (fs : List Fn) : Prop :=
  ∃ (a : Option Addr) (n c : Nat), v = .slice a n c ∧ fs.length = n ∧ n ≤ 1000 ∧ (0 < n → ∃ b off, a = some ⟨b, off, none⟩ ∧ ∀ i f, fs[i]? = some f → ∃ vs, Cells5 w vs f ∧ ∀ j v, vs[j]? = some v → w.cell? ⟨b, off + i * 5 + j, none⟩ = some v)
def ReadsM (w : World) (v : Value) (m : Mod) : Prop := ∃ sv gv fv ev, v = .agg #[sv, gv, fv, ev] ∧ ReadsS w sv m.strings ∧ ReadsI w gv m.globals ∧ ReadsF w fv m.funcs ∧ ReadsI w ev m.entries
section
variable {w w' : World} (hb : Sub w w')
include hb
theorem ReadsI.sub {v : Value} {xs : List Int} (h : ReadsI w v xs) : ReadsI w' v xs := by
  obtain ⟨a, n, c, e, h1, h2, h3⟩ := h
  exact ⟨a, n, c, e, h1, h2, fun hp => by obtain ⟨b, off, e, h⟩ := h3 hp; exact ⟨b, off, e, fun i hi => hb _ _ (h i hi)⟩⟩
theorem ReadsS.sub {v : Value} {xs : List ByteArray} (h : ReadsS w v xs) : ReadsS w' v xs := by
  obtain ⟨a, n, c, e, h1, h2, h3⟩ := h
  exact ⟨a, n, c, e, h1, h2, fun hp => by obtain ⟨b, off, e, h⟩ := h3 hp; exact ⟨b, off, e, fun i hi => hb _ _ (h i hi)⟩⟩
theorem ReadsB.sub {v : Value} {l : List St} (h : ReadsB w v l) : ReadsB w' v l := by
  obtain ⟨a, n, c, e, h1, h2⟩ := h
  exact ⟨a, n, c, e, h1, h2.sub hb⟩
theorem Cells5.sub {vs : List Value} {f : Fn} (h : Cells5 w vs f) : Cells5 w' vs f := by
  obtain ⟨lv, sv, bv, e, h1, h2, h3⟩ := h
  exact ⟨lv, sv, bv, e, h1.sub hb, h2.sub hb, h3.sub hb⟩
theorem ReadsF.sub {v : Value} {fs : List Fn} (h : ReadsF w v fs) : ReadsF w' v fs := by
  obtain ⟨a, n, c, e, h1, h2, h3⟩ := h
  refine ⟨a, n, c, e, h1, h2, fun hp => ?_⟩
  obtain ⟨b, off, e, h⟩ := h3 hp
  exact ⟨b, off, e, fun i f hi => by obtain ⟨vs, k1, k2⟩ := h i f hi; exact ⟨vs, k1.sub hb, fun j v hv => hb _ _ (k2 j v hv)⟩⟩
theorem ReadsM.sub {v : Value} {m : Mod} (h : ReadsM w v m) : ReadsM w' v m := by
  obtain ⟨sv, gv, fv, ev, e, h1, h2, h3, h4⟩ := h
  exact ⟨sv, gv, fv, ev, e, h1.sub hb, h2.sub hb, h3.sub hb, h4.sub hb⟩
end
/-- The i-th function's cells. -/
theorem ReadsF.at {w : World} {a : Option Addr} {n c i : Nat} {fs : List Fn} (h : ReadsF w (.slice a n c) fs) (hi : i < n) : ∃ b off f lv sv bv, a = some ⟨b, off, none⟩ ∧ fs[i]? = some f ∧
    (w.cell? ⟨b, off + i * 5, none⟩ = some (.int .i64 f.name) ∧ w.cell? ⟨b, off + i * 5 + 1, none⟩ = some (.int .i64 (f.params : Nat)) ∧ w.cell? ⟨b, off + i * 5 + 2, none⟩ = some lv ∧ w.cell? ⟨b, off + i * 5 + 3, none⟩ = some sv ∧ w.cell? ⟨b, off + i * 5 + 4, none⟩ = some bv) ∧
    ReadsI w lv f.locals ∧ ReadsI w sv f.sites ∧ ReadsB w bv f.body := by
  obtain ⟨a', n', c', e, h1, h2, h3⟩ := h
  injection e with e1 e2 e3
  subst e1 e2 e3
  obtain ⟨b, off, e, h⟩ := h3 (by omega)
  have hf := List.getElem?_eq_getElem (show i < fs.length by omega)
  obtain ⟨vs, ⟨lv, sv, bv, rfl, k1, k2, k3⟩, hc⟩ := h i _ hf
  exact ⟨b, off, fs[i], lv, sv, bv, e, hf, ⟨hc 0 _ rfl, hc 1 _ rfl, hc 2 _ rfl, hc 3 _ rfl, hc 4 _ rfl⟩, k1, k2, k3⟩
theorem ReadsI.shape {w : World} {v : Value} {xs : List Int} (h : ReadsI w v xs) : ∃ a c, v = .slice a xs.length c ∧ xs.length ≤ 1000 := by
  obtain ⟨a, n, c, e, h1, h2, _⟩ := h
  exact ⟨a, c, by rw [h1]; exact e, by omega⟩
theorem ReadsS.shape {w : World} {v : Value} {xs : List ByteArray} (h : ReadsS w v xs) : ∃ a c, v = .slice a xs.length c ∧ xs.length ≤ 1000 := by
  obtain ⟨a, n, c, e, h1, h2, _⟩ := h
  exact ⟨a, c, by rw [h1]; exact e, by omega⟩
theorem ReadsI.cap {w : World} {a : Option Addr} {n c : Nat} {xs : List Int} (h : ReadsI w (.slice a n c) xs) : n ≤ c := by
  obtain ⟨a', n', c', e, h1, h2, _⟩ := h
  injection e with e1 e2 e3
  omega
theorem ReadsS.cap {w : World} {a : Option Addr} {n c : Nat} {xs : List ByteArray} (h : ReadsS w (.slice a n c) xs) : n ≤ c := by
  obtain ⟨a', n', c', e, h1, h2, _⟩ := h
  injection e with e1 e2 e3
  omega
theorem ReadsF.shape {w : World} {v : Value} {xs : List Fn} (h : ReadsF w v xs) : ∃ a c, v = .slice a xs.length c ∧ xs.length ≤ 1000 := by
  obtain ⟨a, n, c, e, h1, h2, _⟩ := h
  exact ⟨a, c, by rw [h1]; exact e, by omega⟩
theorem ReadsI.at {w : World} {a : Option Addr} {n c i : Nat} {xs : List Int} (h : ReadsI w (.slice a n c) xs) (hi : i < n) : ∃ b off x, a = some ⟨b, off, none⟩ ∧ xs[i]? = some x ∧ w.cell? ⟨b, off + i, none⟩ = some (.int .i64 x) := by
  obtain ⟨a', n', c', e, h1, h2, h3⟩ := h
  injection e with e1 e2 e3
  subst e1 e2 e3
  obtain ⟨b, off, e, h⟩ := h3 (by omega)
  have hx := List.getElem?_eq_getElem (show i < xs.length by omega)
  have := h i hi
  rw [List.getD_eq_getElem?_getD, hx] at this
  exact ⟨b, off, _, e, hx, this⟩
theorem ReadsS.at {w : World} {a : Option Addr} {n c i : Nat} {xs : List ByteArray} (h : ReadsS w (.slice a n c) xs) (hi : i < n) : ∃ b off x, a = some ⟨b, off, none⟩ ∧ xs[i]? = some x ∧ w.cell? ⟨b, off + i, none⟩ = some (.string x) := by
  obtain ⟨a', n', c', e, h1, h2, h3⟩ := h
  injection e with e1 e2 e3
  subst e1 e2 e3
  obtain ⟨b, off, e, h⟩ := h3 (by omega)
  have hx := List.getElem?_eq_getElem (show i < xs.length by omega)
  have := h i hi
  rw [List.getD_eq_getElem?_getD, hx] at this
  exact ⟨b, off, _, e, hx, this⟩
/-- Is a string used? -/
def usedIn (m : Mod) (n : Int) : Bool := m.globals.contains n || m.funcs.any fun f => f.name == n || f.locals.contains n || f.sites.contains n
/-- The number of a string among others; -1: they don't have it. -/
def numberOf (l : List ByteArray) (s : ByteArray) : Int := match l.findIdx? (fun x => x.toList == s.toList) with | some i => i | none => -1
def strAt (l : List ByteArray) (i : Int) : ByteArray := l.getD i.toNat ⟨#[]⟩
def numbersOf (l src : List ByteArray) (xs : List Int) : List Int := xs.map fun i => numberOf l (strAt src i)
end Go.Proofs.Ytjgijbaboekghaa

/-
  ModuleFlat: what came in, as a tree, and how many statements it has; short (function 10). No statement of its own.
-/
import Derived.Test.YtjgijbaboekghaaCame
import Derived.Test.YtjgijbaboekghaaCount
set_option linter.unusedSimpArgs false
set_option linter.unusedVariables false
namespace Go.Proofs.Ytjgijbaboekghaa
open Go.ChangeShapes Go.WideShapes Go.ChangeAt Go.RowKit
mutual
/-- How many statements a tree has. -/
def szS : St → Nat
  | .mk _ _ _ _ _ _ body => szL body + 1
def szL : List St → Nat
  | [] => 0
  | s :: r => szS s + szL r
end
theorem szL_at {l : List St} {i : Nat} {s : St} (h : l[i]? = some s) : szS s ≤ szL l := by
  induction l generalizing i with
  | nil => simp at h
  | cons x r ih =>
    rw [szL]
    cases i with
    | zero => simp at h; subst h; omega
    | succ i => have := ih (i := i) (by simpa using h); omega
theorem flatT_sz : (m d : Nat) → (l : List St) → (flatT m d l).length ≤ szL l
  | 0, d, l => by
    rw [flatT, List.length_map]
    induction l with
    | nil => exact Nat.zero_le _
    | cons s r ih => obtain ⟨_, _, _, _, _, _, _⟩ := s; rw [szL, szS, List.length_cons]; omega
  | m + 1, d, l => by
    induction l with
    | nil => rw [flatT_nil]; exact Nat.zero_le _
    | cons s r ih =>
      rw [show s :: r = [s] ++ r from rfl, flatT_append, flatT_cons, List.length_append, List.length_cons]
      have hk : (kidsT (m + 1) d s).length ≤ szL s.body := by
        rw [kidsT]
        split
        · exact flatT_sz m (d + 1) s.body
        · exact Nat.zero_le _
      have hs : szS s = szL s.body + 1 := by obtain ⟨_, _, _, _, _, _, _⟩ := s; rw [szS]; rfl
      show _ ≤ szL (s :: r)
      rw [szL]
      omega
section
variable {H : Type} {enc : TypeId × Value → H} {w : World} {held : Bool}
theorem bulk_part {d : DataW H} {l : List (DataW H)} {i : Nat} (h : l[i]? = some d) : Rows.uptoBulk d ≤ Rows.uptoBulkAll l := by
  induction l generalizing i with
  | nil => simp at h
  | cons x r ih =>
    simp only [Rows.uptoBulkAll]
    cases i with
    | zero => simp at h; subst h; omega
    | succ i => have := ih (i := i) (by simpa using h); omega
theorem szL_bulk {T : List St} {l : List (DataW H)} (hl : T.length ≤ l.length) (h : ∀ (i : Nat) s d, T[i]? = some s → l[i]? = some d → szS s ≤ Rows.uptoBulk d) : szL T ≤ Rows.uptoBulkAll l := by
  induction T generalizing l with
  | nil => rw [szL]; exact Nat.zero_le _
  | cons s r ih =>
    cases l with
    | nil => simp at hl
    | cons d l =>
      rw [szL]
      simp only [Rows.uptoBulkAll]
      have h1 := h 0 s d rfl rfl
      have h2 := ih (l := l) (by simpa using hl) (fun i s d hs hd => h (i + 1) s d (by simpa using hs) (by simpa using hd))
      omega
theorem bulk_append (l r : List (DataW H)) : Rows.uptoBulkAll (l ++ r) = Rows.uptoBulkAll l + Rows.uptoBulkAll r := by
  induction l with
  | nil => simp [Rows.uptoBulkAll]
  | cons x l ih => simp only [List.cons_append, Rows.uptoBulkAll, ih]; omega
set_option maxRecDepth 100000 in
/-- A slice of statements that came in reads as a tree, of no more statements than the reading's bulk. -/
theorem came_body (fuel : Nat) : ∀ (a : Option Addr) (len cap : Nat) (x : DataW H × List MemPlace), DataW.trod enc Try.prog w 0 (fun _ => true) held fuel 22 [.slice a len cap] = some x →
    len ≤ maxLen ∧ ∃ T, ReadsBody w a len T ∧ szL T ≤ Rows.uptoBulk x.1 := by
  induction fuel using Nat.strongRecOn with
  | ind fuel ih =>
  intro a len cap x h
  rcases DataW.trod_slice Try.underlying22 h with ⟨hcs, _⟩ | ⟨ad, l, c, elems, rest, n, hfu, hcs, rfl, _, hl, hm, hel, hi, _⟩
  · simp only [List.cons.injEq, Value.slice.injEq] at hcs
    obtain ⟨⟨rfl, rfl, rfl⟩, _⟩ := hcs
    exact ⟨by unfold maxLen; omega, [], readsBody_nil w none, by rw [szL]; exact Nat.zero_le _⟩
  · simp only [List.cons.injEq, Value.slice.injEq] at hcs
    obtain ⟨⟨rfl, rfl, rfl⟩, _⟩ := hcs
    have each : ∀ i, i < len → ∃ s : St, (∃ vs, Cells7 w vs s ∧ ∀ j v, vs[j]? = some v → w.cell? ((ad.add (i * 7)).add j) = some v) ∧ ∀ d, elems[i]? = some d → szS s ≤ Rows.uptoBulk d.1 := by
      intro i him
      have h1 := hi i him
      rw [cells46] at h1
      rw [List.getElem?_eq_getElem (by omega)] at h1
      obtain ⟨cs', h2, h3⟩ := Option.bind_eq_some_iff.1 h1
      obtain ⟨_, hlen, hcell⟩ := World.cells?_some h2
      obtain ⟨k, ak, ai, bk, bi, va, vb, n', ya, yb, rfl, ha, hb, hn', ys, hys⟩ := came_stmt h3 hlen
      obtain ⟨aa, al, ac, rfl, _⟩ := came_slice Try.underlying44 ha
      obtain ⟨ba, bl, bc, rfl, _⟩ := came_slice Try.underlying22 hb
      obtain ⟨_, refs, hra⟩ := came_refs ha
      obtain ⟨_, T', hT, hsz⟩ := ih n' (by omega) ba bl bc yb hb
      refine ⟨.mk k ak ai bk bi refs T', ⟨_, (cells7_def _ _ _ _ _ _ _ _ _).2 ⟨aa, al, ac, ba, bl, bc, rfl, hra, hT⟩, fun j v hv => ?_⟩, fun d hd => ?_⟩
      · have hj := (List.getElem?_eq_some_iff.1 hv).1
        have := hcell j (by simpa using hj)
        rw [this, hv]
      · rw [List.getElem?_eq_getElem (by omega)] at hd
        injection hd with hd
        rw [← hd, hys, szS]
        simp only [Rows.uptoBulk, bulk_append, Rows.uptoBulkAll]
        omega
    have hI : Inhabited St := ⟨.mk 0 0 0 0 0 [] []⟩
    obtain ⟨f, hf⟩ := Deep.choose_lt each
    refine ⟨by omega, (List.range len).map f, ⟨by simp, by omega, fun hp => ?_⟩, ?_⟩
    · obtain ⟨b, off, spot⟩ := ad
      obtain ⟨⟨vs, hv1, hv2⟩, _⟩ := hf 0 hp
      have h7 := hv1.length
      have hs : spot = none := by
        have := World.cell?_spot (hv2 0 _ (List.getElem?_eq_getElem (by omega)))
        simpa [Addr.add] using this
      subst hs
      refine ⟨b, off, rfl, CellsAll.of fun i s hs => ?_⟩
      have hi' : i < len := by have := (List.getElem?_eq_some_iff.1 hs).1; simpa using this
      rw [List.getElem?_map, List.getElem?_range hi'] at hs
      simp at hs
      subst hs
      obtain ⟨⟨vs, k1, k2⟩, _⟩ := hf i hi'
      refine ⟨vs, k1, fun j v hj => ?_⟩
      have := k2 j v hj
      rwa [add_none, add_none] at this
    · simp only [Rows.uptoBulk]
      have := szL_bulk (T := (List.range len).map f) (l := elems.map (·.1)) (by simp [hel]) (fun i s d hs hd => by
        have hi' : i < len := by have := (List.getElem?_eq_some_iff.1 hs).1; simpa using this
        rw [List.getElem?_map, List.getElem?_range hi'] at hs
        simp at hs
        subst hs
        rw [List.getElem?_map, List.getElem?_eq_getElem (by omega)] at hd
        simp at hd
        rw [← hd]
        exact (hf i hi').2 _ (List.getElem?_eq_getElem (by omega)))
      omega
end
end Go.Proofs.Ytjgijbaboekghaa

/-
  What came in, opened: a reference, a slice of references, a statement.
-/
import Derived.Test.YtjgijbaboekghaaOpen
import Derived.Test.YtjgijbaboekghaaTree
import Derived.Deep.Slices
set_option linter.unusedSimpArgs false
set_option linter.unusedVariables false
namespace Go.Proofs.Ytjgijbaboekghaa
open Go.ChangeShapes Go.WideShapes Go.ChangeAt Go.RowKit
theorem add_none {b off i : Nat} : ((⟨b, off, none⟩ : Addr).add i) = ⟨b, off + i, none⟩ := by unfold Addr.add; split <;> simp_all
theorem cells43 : Try.prog.cellsOf 43 = 2 := by kernel_rfl
theorem cells5 : Try.prog.cellsOf 5 = 1 := by kernel_rfl
theorem cells3 : Try.prog.cellsOf 3 = 1 := by kernel_rfl
theorem cells44 : Try.prog.cellsOf 44 = 1 := by kernel_rfl
theorem cells22 : Try.prog.cellsOf 22 = 1 := by kernel_rfl
theorem cells46 : Try.prog.cellsOf 46 = 7 := by kernel_rfl
section
variable {H : Type} {enc : TypeId × Value → H} {w : World} {base : Nat} {sp : Nat → Bool} {held : Bool}
/-- Two cells that read as a reference. -/
theorem came_ref {fuel : Nat} {v0 v1 : Value} {x : DataW H × List MemPlace} (h : DataW.trod enc Try.prog w base sp held fuel 43 [v0, v1] = some x) : ∃ k n : Int, v0 = .int .u8 k ∧ v1 = .int .i64 n := by
  obtain ⟨xs, k, _, _, _, hxl, hf⟩ := DataW.trod_struct Try.underlying43 h
  have p0 : DataW.trod enc Try.prog w base sp held k 5 (([v0, v1].drop 0).take (Try.prog.cellsOf 5)) = xs[0]? := hf 0 _ rfl
  have p1 : DataW.trod enc Try.prog w base sp held k 3 (([v0, v1].drop 1).take (Try.prog.cellsOf 3)) = xs[1]? := hf 1 _ rfl
  have hx : xs.length = 2 := hxl
  rw [cells5] at p0
  rw [cells3] at p1
  rw [List.getElem?_eq_getElem (by omega)] at p0 p1
  obtain ⟨n0, q0, _⟩ := DataW.trod_int Try.underlying5 p0
  obtain ⟨n1, q1, _⟩ := DataW.trod_int Try.underlying3 p1
  exact ⟨n0, n1, by simpa using q0, by simpa using q1⟩
theorem came_refs {a : Option Addr} {len cap fuel : Nat} {x : DataW H × List MemPlace} (h : DataW.trod enc Try.prog w 0 (fun _ => true) held fuel 44 [.slice a len cap] = some x) : len ≤ maxLen ∧ ∃ l, ReadsRefs w a len l := by
  rcases Deep.open_slice Try.underlying44 h with ⟨hcs, _⟩ | ⟨ad, l, c, m, n, D, Pl, hcs, _, hl, hm, hmm, _, hi⟩
  · simp only [List.cons.injEq, Value.slice.injEq] at hcs
    obtain ⟨⟨rfl, rfl, rfl⟩, _⟩ := hcs
    exact ⟨by unfold maxLen; omega, [], rfl, by unfold maxLen; omega, fun h => by omega⟩
  · simp only [List.cons.injEq, Value.slice.injEq] at hcs
    obtain ⟨⟨rfl, rfl, rfl⟩, _⟩ := hcs
    simp only [if_true] at hmm
    subst hmm
    have each : ∀ i, i < m → ∃ e : Int × Int, w.cell? (ad.add (i * 2)) = some (.int .u8 e.1) ∧ w.cell? (ad.add (i * 2 + 1)) = some (.int .i64 e.2) := by
      intro i him
      obtain ⟨cs', h1, h2⟩ := hi i him
      rw [cells43] at h1
      obtain ⟨_, hlen, hcell⟩ := World.cells?_some h1
      match cs', hlen with
      | [v0, v1], _ =>
        obtain ⟨k, n, rfl, rfl⟩ := came_ref h2
        have g0 := hcell 0 (by omega)
        have g1 := hcell 1 (by omega)
        rw [Deep.add_add] at g0 g1
        exact ⟨(k, n), by simpa using g0, by simpa using g1⟩
    obtain ⟨f, hf⟩ := Deep.choose_lt each
    refine ⟨by omega, (List.range len).map f, by simp, by omega, fun hp => ?_⟩
    obtain ⟨b, off, spot⟩ := ad
    have h0 := (hf 0 (by omega)).1
    have hs : spot = none := by simpa [Addr.add] using World.cell?_spot h0
    subst hs
    refine ⟨b, off, rfl, fun i hi => ?_⟩
    have := hf i (by omega)
    rw [add_none, add_none] at this
    rw [List.getD_eq_getElem?_getD, List.getElem?_map, List.getElem?_range hi]
    simpa [Nat.add_assoc] using this
theorem came_slice {t e : TypeId} (ht : Try.prog.underlying t = some (.slice e)) {v : Value} {fuel : Nat} {x : DataW H × List MemPlace} (h : DataW.trod enc Try.prog w base sp held fuel t [v] = some x) : ∃ a len cap, v = .slice a len cap ∧ len ≤ maxLen := by
  rcases Deep.open_slice ht h with ⟨hcs, _⟩ | ⟨ad, l, c, m, n, D, Pl, hcs, _, hl, hm, _⟩
  · exact ⟨none, 0, 0, by simpa using hcs, by unfold maxLen; omega⟩
  · exact ⟨some ad, l, c, by simpa using hcs, by omega⟩
set_option maxRecDepth 100000 in
/-- Seven cells that read as a statement: what they are; how the two slices read. -/
theorem came_stmt {fuel : Nat} {cs : List Value} {x : DataW H × List MemPlace} (h : DataW.trod enc Try.prog w base sp held fuel 46 cs = some x) (hl : cs.length = 7) : ∃ (k ak ai bk bi : Int) (va vb : Value) (n : Nat) (ya yb : DataW H × List MemPlace),
    cs = [.int .u8 k, .int .u8 ak, .int .i64 ai, .int .u8 bk, .int .i64 bi, va, vb] ∧ DataW.trod enc Try.prog w base sp held n 44 [va] = some ya ∧ DataW.trod enc Try.prog w base sp held n 22 [vb] = some yb ∧ n + 1 = fuel ∧ ∃ ys, x.1 = .agg (ys ++ [ya.1, yb.1]) := by
  obtain ⟨xs, k, hk, hx, _, hxl, hf⟩ := DataW.trod_struct Try.underlying46 h
  match cs, hl with
  | [v0, v1, v2, v3, v4, v5, v6], _ =>
    have p0 : DataW.trod enc Try.prog w base sp held k 5 (([v0, v1, v2, v3, v4, v5, v6].drop 0).take (Try.prog.cellsOf 5)) = xs[0]? := hf 0 _ rfl
    have p1 : DataW.trod enc Try.prog w base sp held k 43 (([v0, v1, v2, v3, v4, v5, v6].drop 1).take (Try.prog.cellsOf 43)) = xs[1]? := hf 1 _ rfl
    have p2 : DataW.trod enc Try.prog w base sp held k 43 (([v0, v1, v2, v3, v4, v5, v6].drop 3).take (Try.prog.cellsOf 43)) = xs[2]? := hf 2 _ rfl
    have p3 : DataW.trod enc Try.prog w base sp held k 44 (([v0, v1, v2, v3, v4, v5, v6].drop 5).take (Try.prog.cellsOf 44)) = xs[3]? := hf 3 _ rfl
    have p4 : DataW.trod enc Try.prog w base sp held k 22 (([v0, v1, v2, v3, v4, v5, v6].drop 6).take (Try.prog.cellsOf 22)) = xs[4]? := hf 4 _ rfl
    have hx5 : xs.length = 5 := hxl
    match xs, hx5 with
    | [y0, y1, y2, y3, y4], _ =>
      rw [cells5] at p0
      rw [cells43] at p1 p2
      rw [cells44] at p3
      rw [cells22] at p4
      obtain ⟨n0, q0, _⟩ := DataW.trod_int Try.underlying5 p0
      obtain ⟨k1, n1, q1, q1'⟩ := came_ref (show DataW.trod enc Try.prog w base sp held k 43 [v1, v2] = some y1 from p1)
      obtain ⟨k2, n2, q2, q2'⟩ := came_ref (show DataW.trod enc Try.prog w base sp held k 43 [v3, v4] = some y2 from p2)
      have q0 : v0 = .int .u8 n0 := by simpa using q0
      refine ⟨n0, k1, n1, k2, n2, v5, v6, k, y3, y4, by rw [q0, q1, q1', q2, q2'], p3, p4, hk.symm, [y0.1, y1.1, y2.1], by rw [hx]; rfl⟩
end
end Go.Proofs.Ytjgijbaboekghaa

/-
  What came in, opened: a slice of numbers, a slice of calls.
-/
import Derived.Test.YtjabffnehodkfaaCr
import Derived.ProofKit
import Derived.OpenShut
import Derived.ChangeOld
import Derived.Deep.Slices
import Derived.Below
namespace Go.Proofs.Ytjabffnehodkfaa
open Go.ChangeShapes Go.WideShapes Go.ChangeAt Go.RowKit
theorem own : ownKnob Try.prog.godebug = none := by kernel_rfl
theorem laidOut : laidOutB Try.prog = true := by kernel_rfl
theorem add_none {b off i : Nat} : ((⟨b, off, none⟩ : Addr).add i) = ⟨b, off + i, none⟩ := by unfold Addr.add; split <;> simp_all
section
variable {H : Type} {enc : TypeId × Value → H} {w : World}
theorem came_ints {a : Option Addr} {len cap fuel : Nat} {x : DataW H × List MemPlace} (h : DataW.trod enc Try.prog w 0 (fun _ => true) true fuel 22 [.slice a len cap] = some x) : CameI w a len ∧ len ≤ maxLen := by
  rcases open_ints Try.underlying22 Try.underlying3 (by kernel_rfl) h with ⟨hcs, _⟩ | ⟨ad, l, c, zs, hcs, _, hl, hm, hz, _, hcell, _⟩
  · simp only [List.cons.injEq, Value.slice.injEq] at hcs
    obtain ⟨⟨rfl, rfl, rfl⟩, _⟩ := hcs
    exact ⟨fun _ => ⟨[], rfl, by omega, fun h => by omega⟩, by unfold maxLen; omega⟩
  · simp only [List.cons.injEq, Value.slice.injEq] at hcs
    obtain ⟨⟨rfl, rfl, rfl⟩, _⟩ := hcs
    simp only [if_true] at hz
    refine ⟨fun h1 => ⟨zs.take len, by rw [List.length_take]; omega, h1, fun hp => ?_⟩, by omega⟩
    obtain ⟨b, off, spot⟩ := ad
    have h0 := hcell 0 (by omega)
    have hs : spot = none := by simpa [Addr.add] using World.cell?_spot h0
    subst hs
    refine ⟨b, off, rfl, fun i hi => ?_⟩
    have := hcell i (by omega)
    rw [add_none] at this
    rw [this, List.getD_eq_getElem?_getD, List.getD_eq_getElem?_getD, List.getElem?_take_of_lt hi]
theorem came_edges {a : Option Addr} {len cap fuel : Nat} {x : DataW H × List MemPlace} (h : DataW.trod enc Try.prog w 0 (fun _ => true) true fuel 23 [.slice a len cap] = some x) : CameE w a len ∧ len ≤ maxLen := by
  have hC : Try.prog.cellsOf 27 = 3 := by kernel_rfl
  have c3 : Try.prog.cellsOf 3 = 1 := by kernel_rfl
  rcases Deep.open_slice Try.underlying23 h with ⟨hcs, _⟩ | ⟨ad, l, c, m, n, D, Pl, hcs, _, hl, hm, hmm, _, hi⟩
  · simp only [List.cons.injEq, Value.slice.injEq] at hcs
    obtain ⟨⟨rfl, rfl, rfl⟩, _⟩ := hcs
    exact ⟨fun _ => ⟨[], rfl, by omega, fun h => by omega⟩, by unfold maxLen; omega⟩
  · simp only [List.cons.injEq, Value.slice.injEq] at hcs
    obtain ⟨⟨rfl, rfl, rfl⟩, _⟩ := hcs
    simp only [if_true] at hmm
    subst hmm
    have each : ∀ i, i < m → ∃ e : Edge, w.cell? (ad.add (i * 3)) = some (.int .i64 e.1) ∧ w.cell? (ad.add (i * 3 + 1)) = some (.int .i64 e.2.1) ∧ w.cell? (ad.add (i * 3 + 2)) = some (.int .i64 e.2.2) := by
      intro i him
      obtain ⟨cs', h1, h2⟩ := hi i him
      rw [hC] at h1
      obtain ⟨_, hlen, hcell⟩ := World.cells?_some h1
      obtain ⟨xs, k, _, _, _, hxl, hf⟩ := DataW.trod_struct Try.underlying27 h2
      match cs', hlen with
      | [v0, v1, v2], _ =>
        have p0 : DataW.trod enc Try.prog w 0 (fun _ => true) true k 3 (([v0, v1, v2].drop 0).take (Try.prog.cellsOf 3)) = xs[0]? := hf 0 _ rfl
        have p1 : DataW.trod enc Try.prog w 0 (fun _ => true) true k 3 (([v0, v1, v2].drop 1).take (Try.prog.cellsOf 3)) = xs[1]? := hf 1 _ rfl
        have p2 : DataW.trod enc Try.prog w 0 (fun _ => true) true k 3 (([v0, v1, v2].drop 2).take (Try.prog.cellsOf 3)) = xs[2]? := hf 2 _ rfl
        rw [c3] at p0 p1 p2
        have hx : xs.length = 3 := hxl
        rw [List.getElem?_eq_getElem (by omega)] at p0 p1 p2
        obtain ⟨n0, q0, _⟩ := DataW.trod_int Try.underlying3 p0
        obtain ⟨n1, q1, _⟩ := DataW.trod_int Try.underlying3 p1
        obtain ⟨n2, q2, _⟩ := DataW.trod_int Try.underlying3 p2
        have q0 : v0 = .int .i64 n0 := by simpa using q0
        have q1 : v1 = .int .i64 n1 := by simpa using q1
        have q2 : v2 = .int .i64 n2 := by simpa using q2
        have g0 := hcell 0 (by omega)
        have g1 := hcell 1 (by omega)
        have g2 := hcell 2 (by omega)
        rw [Deep.add_add] at g0 g1 g2
        refine ⟨(n0, n1, n2), ?_, ?_, ?_⟩
        · simpa [q0] using g0
        · simpa [q1] using g1
        · simpa [q2] using g2
    have hex : ∃ f : Nat → Edge, ∀ i, i < m → w.cell? (ad.add (i * 3)) = some (.int .i64 (f i).1) ∧ w.cell? (ad.add (i * 3 + 1)) = some (.int .i64 (f i).2.1) ∧ w.cell? (ad.add (i * 3 + 2)) = some (.int .i64 (f i).2.2) :=
      Deep.choose_lt each
    obtain ⟨f, hf⟩ := hex
    refine ⟨fun h1 => ⟨(List.range len).map f, by simp, h1, fun hp => ?_⟩, by omega⟩
    obtain ⟨b, off, spot⟩ := ad
    have h0 := (hf 0 (by omega)).1
    have hs : spot = none := by simpa [Addr.add] using World.cell?_spot h0
    subst hs
    refine ⟨b, off, rfl, fun i hi => ?_⟩
    have := hf i (by omega)
    rw [add_none, add_none, add_none] at this
    rw [List.getD_eq_getElem?_getD, List.getElem?_map, List.getElem?_range hi]
    simpa [Nat.add_assoc] using this
end
end Go.Proofs.Ytjabffnehodkfaa

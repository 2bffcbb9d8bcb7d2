/-
  A draft that came in, opened. No statement of its own.
-/
import Derived.Test.YtjgijbaboekghaaCame
import Derived.Test.YtjgijbaboekghaaMakeQ
set_option linter.unusedSimpArgs false
set_option linter.unusedVariables false
namespace Go.Proofs.Ytjgijbaboekghaa
open Go.ChangeShapes Go.WideShapes Go.ChangeAt Go.RowKit
theorem cells73 : Try.prog.cellsOf 73 = 4 := by kernel_rfl
theorem cells25 : Try.prog.cellsOf 25 = 4 := by kernel_rfl
theorem cells23 : Try.prog.cellsOf 23 = 1 := by kernel_rfl
section
variable {H : Type} {enc : TypeId × Value → H} {w : World} {base : Nat} {sp : Nat → Bool} {held : Bool}
theorem u8_of {fuel : Nat} {v : Value} {x : DataW H × List MemPlace} (h : DataW.trod enc Try.prog w base sp held fuel 5 [v] = some x) : ∃ n : Nat, v = .int .u8 (n : Nat) ∧ n < 256 := by
  obtain ⟨n0, q0, q1⟩ := DataW.trod_int Try.underlying5 h
  have w0 : 0 ≤ n0 ∧ n0 ≤ 255 := by simpa [Lit.wf, IntKind.min, IntKind.max, IntKind.signed, IntKind.bits] using q1.2
  refine ⟨n0.toNat, ?_, by omega⟩
  rw [show ((n0.toNat : Nat) : Int) = n0 by omega]
  simpa using q0
set_option maxRecDepth 100000 in
theorem came_act {fuel : Nat} {cs : List Value} {x : DataW H × List MemPlace} (h : DataW.trod enc Try.prog w base sp held fuel 73 cs = some x) (hl : cs.length = 4) : ∃ a b c d : Nat, cs = [.int .u8 (a : Nat), .int .u8 (b : Nat), .int .u8 (c : Nat), .int .u8 (d : Nat)] ∧ a < 256 ∧ b < 256 ∧ c < 256 ∧ d < 256 := by
  obtain ⟨xs, k, _, _, _, hxl, hf⟩ := DataW.trod_struct Try.underlying73 h
  match cs, hl with
  | [v0, v1, v2, v3], _ =>
    have p0 : DataW.trod enc Try.prog w base sp held k 5 (([v0, v1, v2, v3].drop 0).take (Try.prog.cellsOf 5)) = xs[0]? := hf 0 _ rfl
    have p1 : DataW.trod enc Try.prog w base sp held k 5 (([v0, v1, v2, v3].drop 1).take (Try.prog.cellsOf 5)) = xs[1]? := hf 1 _ rfl
    have p2 : DataW.trod enc Try.prog w base sp held k 5 (([v0, v1, v2, v3].drop 2).take (Try.prog.cellsOf 5)) = xs[2]? := hf 2 _ rfl
    have p3 : DataW.trod enc Try.prog w base sp held k 5 (([v0, v1, v2, v3].drop 3).take (Try.prog.cellsOf 5)) = xs[3]? := hf 3 _ rfl
    have hx : xs.length = 4 := hxl
    rw [cells5] at p0 p1 p2 p3
    rw [List.getElem?_eq_getElem (by omega)] at p0 p1 p2 p3
    obtain ⟨a, e0, h0⟩ := u8_of (v := v0) p0
    obtain ⟨b, e1, h1⟩ := u8_of (v := v1) p1
    obtain ⟨c, e2, h2⟩ := u8_of (v := v2) p2
    obtain ⟨d, e3, h3⟩ := u8_of (v := v3) p3
    exact ⟨a, b, c, d, by rw [e0, e1, e2, e3], h0, h1, h2, h3⟩
theorem came_acts {a : Option Addr} {len cap fuel : Nat} {x : DataW H × List MemPlace} (h : DataW.trod enc Try.prog w 0 (fun _ => true) held fuel 23 [.slice a len cap] = some x) : len ≤ maxLen ∧ (len ≤ 60 → ∃ l, ReadsActs w a len l) := by
  rcases Deep.open_slice Try.underlying23 h with ⟨hcs, _⟩ | ⟨ad, l, c, m, n, D, Pl, hcs, _, hl, hm, hmm, _, hi⟩
  · simp only [List.cons.injEq, Value.slice.injEq] at hcs
    obtain ⟨⟨rfl, rfl, rfl⟩, _⟩ := hcs
    exact ⟨by unfold maxLen; omega, fun _ => ⟨[], rfl, by omega, fun i hi => by omega, fun h => by omega⟩⟩
  · simp only [List.cons.injEq, Value.slice.injEq] at hcs
    obtain ⟨⟨rfl, rfl, rfl⟩, _⟩ := hcs
    simp only [if_true] at hmm
    subst hmm
    have each : ∀ i, i < m → ∃ e : Nat × Nat × Nat × Nat, (w.cell? (ad.add (i * 4)) = some (.int .u8 (e.1 : Nat)) ∧ w.cell? (ad.add (i * 4 + 1)) = some (.int .u8 (e.2.1 : Nat)) ∧ w.cell? (ad.add (i * 4 + 2)) = some (.int .u8 (e.2.2.1 : Nat)) ∧ w.cell? (ad.add (i * 4 + 3)) = some (.int .u8 (e.2.2.2 : Nat))) ∧ e.1 < 256 ∧ e.2.1 < 256 ∧ e.2.2.1 < 256 ∧ e.2.2.2 < 256 := by
      intro i him
      obtain ⟨cs', h1, h2⟩ := hi i him
      rw [cells73] at h1
      obtain ⟨_, hlen, hcell⟩ := World.cells?_some h1
      obtain ⟨a, b, c, d, rfl, k0, k1, k2, k3⟩ := came_act h2 hlen
      have g0 := hcell 0 (by omega)
      have g1 := hcell 1 (by omega)
      have g2 := hcell 2 (by omega)
      have g3 := hcell 3 (by omega)
      rw [Deep.add_add] at g0 g1 g2 g3
      exact ⟨(a, b, c, d), ⟨by simpa using g0, by simpa using g1, by simpa using g2, by simpa using g3⟩, k0, k1, k2, k3⟩
    obtain ⟨f, hf⟩ := Deep.choose_lt each
    have hat : ∀ i, i < len → actAt ((List.range len).map f) i = f i := fun i hi => by
      unfold actAt
      rw [List.getD_eq_getElem?_getD, List.getElem?_map, List.getElem?_range hi]; rfl
    refine ⟨by omega, fun h60 => ⟨(List.range len).map f, by simp, h60, fun i hi => by rw [hat i hi]; exact (hf i (by omega)).2, fun hp => ?_⟩⟩
    obtain ⟨b, off, spot⟩ := ad
    have h0 := (hf 0 (by omega)).1.1
    have hs : spot = none := by simpa [Addr.add] using World.cell?_spot h0
    subst hs
    refine ⟨b, off, rfl, fun i hi => ?_⟩
    have := (hf i (by omega)).1
    rw [add_none, add_none, add_none, add_none] at this
    rw [hat i hi]
    exact this
set_option maxRecDepth 100000 in
theorem came_draft {fuel : Nat} {cs : List Value} {x : DataW H × List MemPlace} (h : DataW.trod enc Try.prog w 0 (fun _ => true) held fuel 25 cs = some x) (hl : cs.length = 4) :
    ∃ (g f e : Nat) (aa : Option Addr) (an ac : Nat), cs = [.int .u8 (g : Nat), .int .u8 (f : Nat), .int .u8 (e : Nat), .slice aa an ac] ∧ g < 256 ∧ f < 256 ∧ e < 256 ∧ an ≤ maxLen ∧ (an ≤ 60 → ∃ l, ReadsActs w aa an l) := by
  obtain ⟨xs, k, _, _, _, hxl, hf⟩ := DataW.trod_struct Try.underlying25 h
  match cs, hl with
  | [v0, v1, v2, v3], _ =>
    have p0 : DataW.trod enc Try.prog w 0 (fun _ => true) held k 5 (([v0, v1, v2, v3].drop 0).take (Try.prog.cellsOf 5)) = xs[0]? := hf 0 _ rfl
    have p1 : DataW.trod enc Try.prog w 0 (fun _ => true) held k 5 (([v0, v1, v2, v3].drop 1).take (Try.prog.cellsOf 5)) = xs[1]? := hf 1 _ rfl
    have p2 : DataW.trod enc Try.prog w 0 (fun _ => true) held k 5 (([v0, v1, v2, v3].drop 2).take (Try.prog.cellsOf 5)) = xs[2]? := hf 2 _ rfl
    have p3 : DataW.trod enc Try.prog w 0 (fun _ => true) held k 23 (([v0, v1, v2, v3].drop 3).take (Try.prog.cellsOf 23)) = xs[3]? := hf 3 _ rfl
    have hx : xs.length = 4 := hxl
    rw [cells5] at p0 p1 p2
    rw [cells23] at p3
    rw [List.getElem?_eq_getElem (by omega)] at p0 p1 p2 p3
    obtain ⟨a, e0, h0⟩ := u8_of (v := v0) p0
    obtain ⟨b, e1, h1⟩ := u8_of (v := v1) p1
    obtain ⟨c, e2, h2⟩ := u8_of (v := v2) p2
    obtain ⟨aa, an, ac, rfl, han⟩ := came_slice (v := v3) Try.underlying23 p3
    exact ⟨a, b, c, aa, an, ac, by rw [e0, e1, e2], h0, h1, h2, han, (came_acts p3).2⟩
end
end Go.Proofs.Ytjgijbaboekghaa

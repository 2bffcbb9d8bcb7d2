/-
  Bytes that came in, opened. No statement of its own.
-/
import Derived.Test.YtjebanfmnfofnaaMem
import Derived.ProofKit
import Derived.OpenShut
import Derived.ChangeOld
import Derived.Below
import Derived.Deep.Slices
import Derived.HandedShaped
set_option linter.unusedSimpArgs false
set_option linter.unusedVariables false
namespace Go.Proofs.Ytjebanfmnfofnaa
open Go.ChangeShapes Go.WideShapes Go.ChangeAt Go.RowKit
theorem own : ownKnob Try.prog.godebug = none := by kernel_rfl
theorem laidOut : laidOutB Try.prog = true := by kernel_rfl
theorem add_none {b off i : Nat} : ((⟨b, off, none⟩ : Addr).add i) = ⟨b, off + i, none⟩ := by unfold Addr.add; split <;> simp_all
theorem cells5 : Try.prog.cellsOf 5 = 1 := by kernel_rfl
section
variable {H : Type} {enc : TypeId × Value → H} {w : World} {base : Nat} {sp : Nat → Bool} {held : Bool}
theorem u8_of {fuel : Nat} {v : Value} {x : DataW H × List MemPlace} (h : DataW.trod enc Try.prog w base sp held fuel 5 [v] = some x) : ∃ n : Nat, v = .int .u8 (n : Nat) ∧ n < 256 := by
  obtain ⟨n0, q0, q1⟩ := DataW.trod_int Try.underlying5 h
  have w0 : 0 ≤ n0 ∧ n0 ≤ 255 := by simpa [Lit.wf, IntKind.min, IntKind.max, IntKind.signed, IntKind.bits] using q1.2
  refine ⟨n0.toNat, ?_, by omega⟩
  rw [show ((n0.toNat : Nat) : Int) = n0 by omega]
  simpa using q0
theorem came_bytes {a : Option Addr} {len cap fuel : Nat} {x : DataW H × List MemPlace} (h : DataW.trod enc Try.prog w 0 (fun _ => true) held fuel 22 [.slice a len cap] = some x) : len ≤ cap ∧ len ≤ maxLen ∧ ∃ l, ReadsU w a len l := by
  rcases Deep.open_slice Try.underlying22 h with ⟨hcs, _⟩ | ⟨ad, l, c, m, n, D, Pl, hcs, _, hl, hm, hmm, _, hi⟩
  · simp only [List.cons.injEq, Value.slice.injEq] at hcs
    obtain ⟨⟨rfl, rfl, rfl⟩, _⟩ := hcs
    exact ⟨Nat.le_refl _, by unfold maxLen; omega, [], rfl, fun u hu => by simp at hu, fun h => by omega⟩
  · simp only [List.cons.injEq, Value.slice.injEq] at hcs
    obtain ⟨⟨rfl, rfl, rfl⟩, _⟩ := hcs
    simp only [if_true] at hmm
    subst hmm
    have each : ∀ i, i < m → ∃ e : Nat, w.cell? (ad.add i) = some (.int .u8 (e : Nat)) ∧ e < 256 := by
      intro i him
      obtain ⟨cs', h1, h2⟩ := hi i him
      rw [cells5] at h1
      obtain ⟨_, hlen, hcell⟩ := World.cells?_some h1
      match cs', hlen with
      | [v0], _ =>
        obtain ⟨k, rfl, hk⟩ := u8_of h2
        have g0 := hcell 0 (by omega)
        rw [Deep.add_add] at g0
        exact ⟨k, by simpa using g0, hk⟩
    obtain ⟨f, hf⟩ := Deep.choose_lt each
    refine ⟨hl, by omega, (List.range len).map f, by simp, ?_, fun hp => ?_⟩
    · intro u hu
      obtain ⟨i, hi, rfl⟩ := List.mem_map.1 hu
      exact (hf i (by have := List.mem_range.1 hi; omega)).2
    · obtain ⟨b, off, spot⟩ := ad
      have h0 := (hf 0 (by omega)).1
      have hs : spot = none := by simpa [Addr.add] using World.cell?_spot h0
      subst hs
      refine ⟨b, off, rfl, fun j u hu => ?_⟩
      obtain ⟨hj, e⟩ := List.getElem?_eq_some_iff.1 hu
      have hj' : j < len := by simpa using hj
      have := (hf j (by omega)).1
      rw [add_none] at this
      simp only [List.getElem_map, List.getElem_range] at e
      rw [this, e]
end
/-- True, and nothing that lay there has turned. -/
def Yes (w : World) (e : Ending) (w' : World) : Prop := e = .returned (.bool true) ∧ Below w.heap.size w w'
end Go.Proofs.Ytjebanfmnfofnaa

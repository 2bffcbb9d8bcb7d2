/-
  module.Flat (function 12), module.Count (function 14), awake (function 9).
-/
import Derived.Test.YtjgijbaboekghaaFlat
set_option linter.unusedVariables false
set_option linter.unusedSimpArgs false
namespace Go.Proofs.Ytjgijbaboekghaa
open Go.RowKit
theorem Fl.start (w : World) : Fl w w (.slice none 0 0) 0 [] := ⟨rfl, Below.refl _ _, [], World.ownsRow_nil _ _ _ _, rfl⟩
set_option maxRecDepth 20000 in
theorem flat11_calls (w : World) (l : List St) (a : Option Addr) (len cap : Nat) (hr : ReadsBody w a len l) (hN : (flatT 1000 0 l).length ≤ 1048576) :
    Calls Try.prog 12 #[.slice a len cap] w (Flatted w (flatT 1000 0 l)) := by
  have HR := Lib.hid hr
  have HN := Lib.hid hN
  clear hr hN
  go_enter Try.func12, Try.ntmps12
  go_wp2_with fail
  refine (flat_calls w 1000 0 rfl l a len cap HR.out w _ 0 [] (Fl.start w) (by have := HN.out; omega)).mono ?_
  rintro e w2 ⟨v, n, rfl, hf⟩
  have HF := Lib.hid hf
  clear hf
  go_wp2
  go_ret
  exact ⟨_, n, rfl, HF.out⟩
set_option maxRecDepth 20000 in
theorem count_calls (w : World) (l : List St) (a : Option Addr) (len cap n : Nat) (hr : ReadsBody w a len l) (hn : (flatT 1000 0 l).length = n) (hN : n ≤ 1048576) :
    Calls Try.prog 14 #[.slice a len cap] w fun e w' => e = .returned (.int .i64 n) ∧ Below w.heap.size w w' := by
  have HR := Lib.hid hr
  have HN := Lib.hid hn
  clear hr hn
  go_enter Try.func14, Try.ntmps14
  go_wp2_with fail
  refine (flat11_calls w l a len cap HR.out (by have := HN.out; omega)).mono ?_
  rintro e w2 ⟨v, m, rfl, hf⟩
  obtain rfl : m = n := by rw [← hf.len, HN.out]
  obtain ⟨A, c, rfl⟩ := hf.shape
  have HF := Lib.hid hf.below
  clear hf
  go_wp2
  go_ret
  exact ⟨rfl, HF.out⟩
/-- The cells of a statement that lies in a block of its own. -/
theorem ReadsBody.block {w : World} {g : Nat} {cs : Array Value} {t : TypeId} {fr : Nat × Nat} {l : List St} {n : Nat} (hh : w.heap[g]? = some (.cells cs t fr)) (hl : l.length = n) (hn : n ≤ maxLen) (h : ∀ i s, l[i]? = some s → ∃ vs, Cells7 w vs s ∧ ∀ j v, vs[j]? = some v → cs[i * 7 + j]? = some v) : ReadsBody w (some ⟨g, 0, none⟩) n l := by
  refine ⟨hl, hn, fun _ => ⟨g, 0, rfl, CellsAll.of fun i s hs => ?_⟩⟩
  obtain ⟨vs, h1, h2⟩ := h i s hs
  exact ⟨vs, h1, fun j v hv => by rw [blk_cell hh, Nat.zero_add]; exact h2 j v hv⟩
theorem readsRefs_nil (w : World) : ReadsRefs w none 0 [] := ⟨rfl, by decide, fun h => by omega⟩
theorem readsBody_nil (w : World) (a : Option Addr) : ReadsBody w a 0 [] := ⟨rfl, by decide, fun h => by omega⟩
theorem cells7_plain (w : World) (k : Int) : Cells7 w [.int .u8 k, .int .u8 0, .int .i64 0, .int .u8 0, .int .i64 0, .slice none 0 0, .slice none 0 0] (.mk k 0 0 0 0 [] []) :=
  (cells7_def _ _ _ _ _ _ _ _ _).2 ⟨none, 0, 0, none, 0, 0, rfl, readsRefs_nil w, readsBody_nil w none⟩
theorem cells7_block (w : World) {a : Option Addr} {len cap : Nat} {l : List St} (h : ReadsBody w a len l) : Cells7 w [.int .u8 7, .int .u8 0, .int .i64 0, .int .u8 0, .int .i64 0, .slice none 0 0, .slice a len cap] (.mk 7 0 0 0 0 [] l) :=
  (cells7_def _ _ _ _ _ _ _ _ _).2 ⟨none, 0, 0, a, len, cap, rfl, readsRefs_nil w, h⟩
/-- One statement alone, in a block just laid. -/
theorem readsBody_one {w : World} {vs : List Value} {t : TypeId} {s : St} (h : Cells7 w vs s) : ReadsBody (w.alloc (.cells vs.toArray t)) (some ⟨w.heap.size, 0, none⟩) 1 [s] := by
  refine ReadsBody.block (heap_alloc_new _ _) rfl (by decide) fun i x hx => ?_
  match i, hx with
  | 0, hx =>
    simp at hx
    subst hx
    exact ⟨vs, h.below ((Below.refl _ _).alloc (Nat.le_refl _) _), fun j v hv => by simpa using hv⟩
  | i + 1, hx => simp at hx
set_option maxRecDepth 20000 in
theorem awake_calls (w : World) : Calls Try.prog 9 #[] w fun e w' => e = .returned (.bool true) ∧ Below w.heap.size w w' := by
  go_enter Try.func9, Try.ntmps9
  go_wp2_with fail
  refine (count_calls _ [.mk 7 0 0 0 0 [] [.mk 2 0 0 0 0 [] []]] _ 1 1 2 ?_ rfl (by omega)).mono ?_
  · have := readsBody_one (t := 46) (cells7_block _ (cap := 1) (readsBody_one (w := w) (t := 46) (cells7_plain w 2)))
    rwa [show (w.alloc (.cells [Value.int .u8 2, .int .u8 0, .int .i64 0, .int .u8 0, .int .i64 0, .slice none 0 0, .slice none 0 0].toArray 46)).heap.size = w.heap.size + 1 by simp] at this
  rintro e w2 ⟨rfl, hb⟩
  have HB := Lib.hid (((Below.refl w.heap.size w).alloc (Nat.le_refl _) _).alloc (by simp) _ |>.trans (hb.mono (by simp; omega)))
  clear hb
  go_wp2
  go_ret
  exact ⟨rfl, HB.out⟩
end Go.Proofs.Ytjgijbaboekghaa

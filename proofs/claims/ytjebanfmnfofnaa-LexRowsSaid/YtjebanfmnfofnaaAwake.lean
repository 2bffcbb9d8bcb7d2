/-
  LexX's awake (function 10): the document's example.
-/
import Derived.Test.YtjebanfmnfofnaaNext
import Derived.Lib.SlBytesConst
import Derived.HandedShaped
set_option linter.unusedSimpArgs false
set_option linter.unusedVariables false
namespace Go.Proofs.Ytjebanfmnfofnaa
open Go.RowKit
theorem nextM_ok {P : List Nat} {i k : Nat} (h : skip P i = .ok k) (hk : k < P.length) : nextM P i = tokAt P k := by
  unfold nextM
  rw [h]
  exact if_neg (by omega)
theorem nextM_end {P : List Nat} {i k : Nat} (h : skip P i = .ok k) (hk : P.length ≤ k) : nextM P i = .ok (⟨0, 0, [], k⟩, k) := by
  unfold nextM
  rw [h]
  exact if_pos hk
theorem nextM_bad {P : List Nat} {i b : Nat} (h : skip P i = .error b) : nextM P i = .error b := by
  unfold nextM
  rw [h]
theorem tokAt_mark {P : List Nat} {k x e : Nat} {s : List Nat} (h : P[k]? = some x) (h1 : isSign x = false) (h2 : isMark x = true) (hn : nameAt P (k + 1) = .ok (s, e)) : tokAt P k = .ok (⟨2, x, s, k⟩, e) := by
  unfold tokAt
  rw [h]
  show (if isSign x = true then _ else if isMark x = true then _ else _) = _
  rw [if_neg (by rw [h1]; decide), if_pos h2, hn]
theorem tokAt_mark_bad {P : List Nat} {k x e : Nat} (h : P[k]? = some x) (h1 : isSign x = false) (h2 : isMark x = true) (hn : nameAt P (k + 1) = .error e) : tokAt P k = .error e := by
  unfold tokAt
  rw [h]
  show (if isSign x = true then _ else if isMark x = true then _ else _) = _
  rw [if_neg (by rw [h1]; decide), if_pos h2, hn]
def exP : List Nat := [37, 34, 97, 32, 98, 34]
theorem exP_next : nextM exP 0 = .ok (⟨2, 37, [97, 32, 98], 0⟩, 6) := by
  have hq : quoted exP 2 [] = .ok ([97, 32, 98], 6) := by
    rw [quoted_in (x := 97) rfl (by decide) (by decide) (by decide), quoted_in (x := 32) rfl (by decide) (by decide) (by decide), quoted_in (x := 98) rfl (by decide) (by decide) (by decide), quoted_close rfl]
    rfl
  have hs : skip exP 0 = .ok 0 := skip_no (x := 37) rfl (by decide) (by decide)
  rw [nextM_ok hs (by decide), tokAt_mark (x := 37) rfl (by decide) (by decide) (show nameAt exP 1 = .ok ([97, 32, 98], 6) from hq)]
/-- A lexer that has just been laid over bytes. -/
theorem Lx.fresh {w : World} {a : Option Addr} {n c : Nat} {P : List Nat} (hl : P.length = n) (hn : n ≤ 4000) (hc : n ≤ c) (hb : ∀ u ∈ P, u < 256)
    (hr : 0 < n → ∃ b off, a = some ⟨b, off, none⟩ ∧ ∀ j u, P[j]? = some u → w.cell? ⟨b, off + j, none⟩ = some (.int .u8 (u : Nat))) : Lx (w.alloc (.cells #[.slice a n c, .int .i64 0] 51)) w.heap.size a n c P 0 :=
  ⟨hl, hn, hc, Nat.zero_le _, hb, heap_alloc_new w _, fun hp => by
    obtain ⟨b, off, e, h⟩ := hr hp
    have hlt : b < w.heap.size := World.block_lt_of_cell? w _ (h 0 _ (List.getElem?_eq_getElem (show 0 < P.length by omega)))
    exact ⟨b, off, e, by omega, fun j u hu => (((Below.refl w.heap.size w).alloc (Nat.le_refl _) _).cell (p := ⟨b, off + j, none⟩) hlt).trans (h j u hu)⟩⟩
theorem ml_below {w w' : World} {ml : Int} (h : w.cell? ⟨0, 0, none⟩ = some (.int .i64 ml)) (hb : Below w.heap.size w w') : w'.cell? ⟨0, 0, none⟩ = some (.int .i64 ml) :=
  (hb.cell (p := ⟨0, 0, none⟩) (World.block_lt_of_cell? w _ h)).trans h
theorem below_grown {w W W' : World} {g : Nat} (h : Below w.heap.size w W) (hg : w.heap.size ≤ g) (k : W.grownBy W' (some g)) : Below w.heap.size w W' :=
  ⟨k.os.trans h.os, k.tape.trans h.tape, k.output.trans h.output, Nat.le_trans h.size k.size, fun b hb => (k.block b (Nat.lt_of_lt_of_le hb h.size) (fun e => by injection e with e; omega)).trans (h.block b hb)⟩
set_option maxRecDepth 20000 in
theorem awake_calls (w : World) (ml : Int) (hml : w.cell? ⟨0, 0, none⟩ = some (.int .i64 ml)) : Calls Try.prog 10 #[] w fun e w' => e = .returned (.bool true) ∧ Below w.heap.size w w' := by
  have HML := Lib.hid hml
  clear hml
  have kc := fun (w : World) (C : Array Value) (n c : Nat) => Lib.run_convert_bytes_const (P := Try.prog) w 22 5 C n c Try.underlying22 Try.underlying5
  go_enter Try.func10, Try.ntmps10
  go_wp2_with fail
  refine (new_calls _ _ _ _).mono ?_
  rintro e w1 ⟨rfl, rfl⟩
  have hL : Lx ((w.alloc (.cells #[.int .u8 37, .int .u8 34, .int .u8 97, .int .u8 32, .int .u8 98, .int .u8 34] 5 (6, 7))).alloc (.cells #[.slice (some ⟨w.heap.size, 0, none⟩) 6 6, .int .i64 0] 51)) (w.alloc (.cells #[.int .u8 37, .int .u8 34, .int .u8 97, .int .u8 32, .int .u8 98, .int .u8 34] 5 (6, 7))).heap.size (some ⟨w.heap.size, 0, none⟩) 6 6 exP 0 :=
    Lx.fresh rfl (by decide) (Nat.le_refl _) (by decide) (fun _ => ⟨w.heap.size, 0, rfl, fun j u hu => by
      rw [blk_cell (heap_alloc_new w _), Nat.zero_add]
      rcases j with _ | _ | _ | _ | _ | _ | j
      · injection hu with hu; subst hu; rfl
      · injection hu with hu; subst hu; rfl
      · injection hu with hu; subst hu; rfl
      · injection hu with hu; subst hu; rfl
      · injection hu with hu; subst hu; rfl
      · injection hu with hu; subst hu; rfl
      · simp [exP] at hu⟩)
  have hb2 : Below w.heap.size w ((w.alloc (.cells #[.int .u8 37, .int .u8 34, .int .u8 97, .int .u8 32, .int .u8 98, .int .u8 34] 5 (6, 7))).alloc (.cells #[.slice (some ⟨w.heap.size, 0, none⟩) 6 6, .int .i64 0] 51)) := ((Below.refl _ _).alloc (Nat.le_refl _) _).alloc (by simp) _
  have HL := Lib.hid hL
  have HB2 := Lib.hid hb2
  clear hL hb2
  go_wp2_with fail
  simp only [World.size_alloc] at HL
  refine (next_calls _ _ _ _ _ _ exP ml HL.out (by omega) (ml_below HML.out HB2.out)).mono ?_
  rw [exP_next]
  rintro e w2 ⟨rfl, -, -, hg⟩
  have HB3 := Lib.hid (below_grown HB2.out (by omega) hg)
  clear hg
  rw [show (⟨2, 37, [97, 32, 98], 0⟩ : Tok).val = .agg #[.int .u8 2, .int .u8 37, .string ⟨#[97, 32, 98]⟩, .int .i64 0] from rfl]
  go_wp2_with fail
  go_ret
  exact ⟨rfl, HB3.out.alloc HB3.out.size _⟩
end Go.Proofs.Ytjebanfmnfofnaa

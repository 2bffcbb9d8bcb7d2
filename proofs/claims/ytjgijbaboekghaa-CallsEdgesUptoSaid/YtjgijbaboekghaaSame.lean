/-
  module.SameBody (function 20), its own function (26), slices.EqualFunc (25), slices.Equal over references (27): one just if all of them is.
-/
import Derived.Test.YtjgijbaboekghaaBase
import Derived.Test.YtjgijbaboekghaaTree
import Derived.Outline
import Derived.StillTactics
set_option linter.unusedVariables false
set_option linter.unusedSimpArgs false
namespace Go.Proofs.Ytjgijbaboekghaa
open Go.RowKit
theorem ReadsRefs.at {w : World} {a : Option Addr} {len i : Nat} {l : List (Int × Int)} (h : ReadsRefs w a len l) (hi : i < len) : ∃ b off k n, a = some ⟨b, off, none⟩ ∧ l[i]? = some (k, n) ∧ w.cell? ⟨b, off + i * 2, none⟩ = some (.int .u8 k) ∧ w.cell? ⟨b, off + i * 2 + 1, none⟩ = some (.int .i64 n) := by
  obtain ⟨b, off, e, hc⟩ := h.2.2 (by omega)
  have hi' : i < l.length := by rw [h.1]; exact hi
  have hg : l[i]? = some (l.getD i (0, 0)) := by rw [List.getElem?_eq_getElem hi', List.getD_eq_getElem?_getD, List.getElem?_eq_getElem hi']; rfl
  exact ⟨b, off, _, _, e, hg, (hc i hi).1, (hc i hi).2⟩
theorem refs_ne {l1 l2 : List (Int × Int)} {i : Nat} {x y : Int × Int} (h1 : l1[i]? = some x) (h2 : l2[i]? = some y) (h : x ≠ y) : (l1 == l2) = false := by
  rw [beq_eq_false_iff_ne]
  rintro rfl
  rw [h1] at h2
  exact h (by injection h2)
set_option maxRecDepth 20000 in
theorem refs_calls (w : World) (a1 a2 : Option Addr) (n1 n2 c1 c2 : Nat) (l1 l2 : List (Int × Int)) (h1 : ReadsRefs w a1 n1 l1) (h2 : ReadsRefs w a2 n2 l2) :
    Calls Try.prog 43 #[.slice a1 n1 c1, .slice a2 n2 c2] w fun e w' => e = .returned (.bool (l1 == l2)) ∧ Below w.heap.size w w' := by
  have H1 := Lib.hid h1
  have H2 := Lib.hid h2
  have hn1 := h1.2.1
  have hn2 := h2.2.1
  unfold maxLen at hn1 hn2
  clear h1 h2
  by_cases hn : n1 = n2
  · subst hn
    go_enter Try.func43, Try.ntmps43
    go_wp2
    go_loopw [13] (fun iv wr => ∃ i : Nat, i ≤ n1 ∧ iv = .int .i64 i ∧ Hid (∀ j, j < i → l1[j]? = l2[j]?) ∧ Hid (Below w.heap.size w wr)) (fun iv _ => n1 - (intOf iv).toNat)
    case atStart => exact ⟨0, Nat.zero_le _, rfl, fun j hj => by omega, Below.refl _ _⟩
    case round =>
      obtain ⟨i, hi, rfl, HE, HB⟩ := hrel
      by_cases hlt : i < n1
      · obtain ⟨b1, o1, k1, m1, rfl, e1, x1, y1⟩ := (H1.out.below HB.out).at hlt
        obtain ⟨b2, o2, k2, m2, rfl, e2, x2, y2⟩ := (H2.out.below HB.out).at hlt
        have E1 := Lib.hid e1
        have E2 := Lib.hid e2
        clear e1 e2
        by_cases hk : k1 = k2
        · subst hk
          by_cases hm : m1 = m2
          · subst hm
            go_wp2_with fail
            go_still (by kernel_rfl)
            go_wp2
            refine ⟨⟨i + 1, by omega, by go_num, fun j hj => ?_, HB.out.drew⟩, by simp [intOf]; omega⟩
            by_cases e : j = i
            · rw [e, E1.out, E2.out]
            · exact HE.out j (by omega)
          · go_wp2_with fail
            go_still (by kernel_rfl)
            go_wp2
            go_ret
            refine ⟨?_, HB.out.drew⟩
            rw [refs_ne E1.out E2.out (fun e => hm (by injection e))]; rfl
        · go_wp2_with fail
          go_still (by kernel_rfl)
          go_wp2
          go_ret
          refine ⟨?_, HB.out.drew⟩
          rw [refs_ne E1.out E2.out (fun e => hk (by injection e))]; rfl
      · obtain rfl : i = n1 := by omega
        have hl : (l1 == l2) = true := by
          rw [beq_iff_eq]
          apply List.ext_getElem?
          intro j
          by_cases hj : j < i
          · exact HE.out j hj
          · rw [List.getElem?_eq_none (by rw [H1.out.1]; omega), List.getElem?_eq_none (by rw [H2.out.1]; omega)]
        have HLL := Lib.hid hl
        clear hl
        go_wp2
        go_ret
        exact ⟨by rw [HLL.out]; rfl, HB.out⟩
  · have hl : (l1 == l2) = false := by
      rw [beq_eq_false_iff_ne]
      intro e
      exact hn (by rw [← H1.out.1, ← H2.out.1, e])
    rw [hl]
    go_enter Try.func43, Try.ntmps43
    go_wp2
    go_ret
    exact ⟨rfl, Below.refl _ _⟩
/-- Are two statements one? -/
def sameSt : St → St → Bool
  | .mk k ak ai bk bi args body, .mk k' ak' ai' bk' bi' args' body' => k == k' && (ak == ak' && ai == ai') && (bk == bk' && bi == bi') && args == args' && sameAll body body'
where
  sameAll : List St → List St → Bool
    | [], [] => true
    | x :: r, y :: s => sameSt x y && sameAll r s
    | _, _ => false
def sameB (l r : List St) : Bool := sameSt.sameAll l r
theorem sameB_true {l r : List St} : sameB l r = true ↔ l.length = r.length ∧ ∀ (i : Nat) (x y : St), l[i]? = some x → r[i]? = some y → sameSt x y = true := by
  induction l generalizing r with
  | nil =>
    cases r with
    | nil => simp [sameB, sameSt.sameAll]
    | cons y r => simp [sameB, sameSt.sameAll]
  | cons x l ih =>
    cases r with
    | nil => simp [sameB, sameSt.sameAll]
    | cons y r =>
      rw [sameB, sameSt.sameAll, Bool.and_eq_true]
      have := @ih r
      rw [sameB] at this
      rw [this]
      constructor
      · rintro ⟨h1, h2, h3⟩
        refine ⟨by simp [h2], fun i a b ha hb => ?_⟩
        cases i with
        | zero => simp at ha hb; subst ha hb; exact h1
        | succ i => exact h3 i a b (by simpa using ha) (by simpa using hb)
      · rintro ⟨h1, h2⟩
        exact ⟨h2 0 x y rfl rfl, by simpa using h1, fun i a b ha hb => h2 (i + 1) a b (by simpa using ha) (by simpa using hb)⟩
theorem sameB_len {l r : List St} (h : l.length ≠ r.length) : sameB l r = false := by
  cases e : sameB l r with
  | false => rfl
  | true => exact absurd (sameB_true.1 e).1 h
theorem sameB_at {l r : List St} {i : Nat} {x y : St} (h1 : l[i]? = some x) (h2 : r[i]? = some y) (h : sameSt x y = false) : sameB l r = false := by
  cases e : sameB l r with
  | false => rfl
  | true => rw [(sameB_true.1 e).2 i x y h1 h2] at h; cases h
theorem body_lt {l : List St} {i : Nat} {k ak ai bk bi : Int} {args : List (Int × Int)} {body : List St} (h : l[i]? = some (.mk k ak ai bk bi args body)) : SizeOf.sizeOf body < SizeOf.sizeOf l := by
  have := List.sizeOf_lt_of_mem (List.mem_of_getElem? h)
  rw [St.mk.sizeOf_spec] at this
  omega
theorem two_blocks {w w2 : World} {o1 o2 : Obj} (hb : Below ((w.alloc o1).alloc o2).heap.size ((w.alloc o1).alloc o2) w2) : w2.heap[w.heap.size]? = some o1 ∧ w2.heap[w.heap.size + 1]? = some o2 := by
  have h2 := heap_alloc_new (w.alloc o1) o2
  rw [show (w.alloc o1).heap.size = w.heap.size + 1 by simp] at h2
  exact ⟨blk_below (blk_alloc (heap_alloc_new w o1) o2) hb, blk_below h2 hb⟩
/-- What module.SameBody does at statements smaller than n. -/
def SameP (n : Nat) : Prop := ∀ (l1 l2 : List St), SizeOf.sizeOf l1 < n → ∀ (w : World) (a1 a2 : Option Addr) (n1 n2 c1 c2 : Nat), ReadsBody w a1 n1 l1 → ReadsBody w a2 n2 l2 →
    Calls Try.prog 20 #[.slice a1 n1 c1, .slice a2 n2 c2] w fun e w' => e = .returned (.bool (sameB l1 l2)) ∧ Below w.heap.size w w'
set_option maxRecDepth 20000 in
theorem same26_calls (n : Nat) (ih : SameP n) (w : World) (k ak ai bk bi k' ak' ai' bk' bi' : Int) (args args' : List (Int × Int)) (body body' : List St) (aa aa' ba ba' : Option Addr) (al al' ac ac' bl bl' bc bc' : Nat)
    (hn : SizeOf.sizeOf body < n) (h1 : ReadsRefs w aa al args) (h2 : ReadsRefs w aa' al' args') (h3 : ReadsBody w ba bl body) (h4 : ReadsBody w ba' bl' body') :
    Calls Try.prog 42 #[.agg #[.int .u8 k, .int .u8 ak, .int .i64 ai, .int .u8 bk, .int .i64 bi, .slice aa al ac, .slice ba bl bc], .agg #[.int .u8 k', .int .u8 ak', .int .i64 ai', .int .u8 bk', .int .i64 bi', .slice aa' al' ac', .slice ba' bl' bc']] w
      fun e w' => e = .returned (.bool (sameSt (.mk k ak ai bk bi args body) (.mk k' ak' ai' bk' bi' args' body'))) ∧ Below w.heap.size w w' := by
  have H1 := Lib.hid h1
  have H2 := Lib.hid h2
  have H3 := Lib.hid h3
  have H4 := Lib.hid h4
  have IH := Lib.hid ih
  have HN := Lib.hid hn
  clear h1 h2 h3 h4 ih hn
  have hb0 : ∀ o1 o2, Below w.heap.size w ((w.alloc o1).alloc o2) := fun o1 o2 => ((Below.refl _ _).alloc (Nat.le_refl _) _).alloc (by simp) _
  have HB0 := Lib.hid hb0
  clear hb0
  go_enter Try.func42, Try.ntmps42
  go_wp2_with fail
  · refine (refs_calls _ _ _ _ _ _ _ args args' (H1.out.below (HB0.out _ _)) (H2.out.below (HB0.out _ _))).mono ?_
    rintro e w2 ⟨rfl, hb⟩
    obtain ⟨q1, q2⟩ := two_blocks hb
    have d6 : w2.cell? ⟨w.heap.size, 6, none⟩ = some (.slice ba bl bc) := by rw [blk_cell q1]; rfl
    have e6 : w2.cell? ⟨w.heap.size + 1, 6, none⟩ = some (.slice ba' bl' bc') := by rw [blk_cell q2]; rfl
    have HB2 := Lib.hid ((HB0.out _ _).trans (hb.mono (HB0.out _ _).size))
    clear hb q1 q2
    subst_vars
    cases hA : (args == args') with
    | false =>
      have HA := Lib.hid hA
      clear hA
      go_wp2
      go_ret
      refine ⟨?_, HB2.out⟩
      rw [sameSt, HA.out]
      simp
    | true =>
      have HA := Lib.hid hA
      clear hA
      go_wp2_with fail
      refine (IH.out body body' HN.out w2 _ _ _ _ _ _ (H3.out.below HB2.out) (H4.out.below HB2.out)).mono ?_
      rintro e w3 ⟨rfl, hb⟩
      have HB3 := Lib.hid (HB2.out.trans (hb.mono HB2.out.size))
      clear hb
      cases hS : sameB body body' with
      | false =>
        have HS := Lib.hid hS
        clear hS
        go_wp2
        go_ret
        refine ⟨?_, HB3.out⟩
        rw [sameSt, HA.out, show sameSt.sameAll body body' = false from HS.out]
        simp
      | true =>
        have HS := Lib.hid hS
        clear hS
        go_wp2
        go_ret
        refine ⟨?_, HB3.out⟩
        rw [sameSt, HA.out, show sameSt.sameAll body body' = true from HS.out]
        simp
  all_goals
    go_ret
    refine ⟨?_, HB0.out _ _⟩
    simp_all [sameSt]
end Go.Proofs.Ytjgijbaboekghaa

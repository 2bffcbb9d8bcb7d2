/-
  slices.EqualFunc over statements (function 41), module.SameBody (function 20).
-/
import Derived.Test.YtjgijbaboekghaaSame
set_option linter.unusedVariables false
set_option linter.unusedSimpArgs false
namespace Go.Proofs.Ytjgijbaboekghaa
open Go.RowKit
set_option maxRecDepth 20000 in
theorem equalFunc_calls (n : Nat) (ih : SameP n) (l1 l2 : List St) (hn : SizeOf.sizeOf l1 < n + 1) (w : World) (a1 a2 : Option Addr) (n1 n2 c1 c2 : Nat) (h1 : ReadsBody w a1 n1 l1) (h2 : ReadsBody w a2 n2 l2) :
    Calls Try.prog 41 #[.slice a1 n1 c1, .slice a2 n2 c2, .func (.func 42) #[] #[]] w fun e w' => e = .returned (.bool (sameB l1 l2)) ∧ Below w.heap.size w w' := by
  have H1 := Lib.hid h1
  have H2 := Lib.hid h2
  have IH := Lib.hid ih
  have HN := Lib.hid hn
  have hn1 := h1.2.1
  have hn2 := h2.2.1
  unfold maxLen at hn1 hn2
  clear h1 h2 ih hn
  by_cases hn : n1 = n2
  · subst hn
    go_enter Try.func41, Try.ntmps41
    go_wp2
    go_loopw [17] (fun iv wr => ∃ i : Nat, i ≤ n1 ∧ iv = .int .i64 i ∧ Hid (∀ (j : Nat) (x y : St), j < i → l1[j]? = some x → l2[j]? = some y → sameSt x y = true) ∧ Hid (Below w.heap.size w wr)) (fun iv _ => n1 - (intOf iv).toNat)
    case atStart => exact ⟨0, Nat.zero_le _, rfl, fun j x y hj => by omega, Below.refl _ _⟩
    case round =>
      obtain ⟨i, hi, rfl, HE, HB⟩ := hrel
      by_cases hlt : i < n1
      · obtain ⟨b, off, k, ak, ai, bk, bi, args, body, aa, al, ac, ba, bl, bc, rfl, hs, ⟨x0, x1, x2, x3, x4, x5, x6⟩, hra, hrb⟩ := (H1.out.below HB.out).at hlt
        obtain ⟨b', off', k', ak', ai', bk', bi', args', body', aa', al', ac', ba', bl', bc', rfl, hs', ⟨y0, y1, y2, y3, y4, y5, y6⟩, hra', hrb'⟩ := ((H2.out.below HB.out).below ((Below.refl _ _).alloc (Nat.le_refl _) (.cells #[.int .u8 k, .int .u8 ak, .int .i64 ai, .int .u8 bk, .int .i64 bi, .slice aa al ac, .slice ba bl bc] 46))).at hlt
        have HS := Lib.hid hs
        have HS' := Lib.hid hs'
        have HA := Lib.hid hra
        have HA' := Lib.hid hra'
        have HY := Lib.hid hrb
        have HY' := Lib.hid hrb'
        have hsz : SizeOf.sizeOf body < n := by have := body_lt hs; have := HN.out; omega
        have HZ := Lib.hid hsz
        clear hs hs' hra hra' hrb hrb' hsz
        go_wp2_with fail
        have hb2 : ∀ o1 o2, Below wr.heap.size wr ((wr.alloc o1).alloc o2) := fun o1 o2 => ((Below.refl _ _).alloc (Nat.le_refl _) _).alloc (by simp) _
        have hb3 : ∀ o1 o2, Below (wr.alloc o1).heap.size (wr.alloc o1) ((wr.alloc o1).alloc o2) := fun o1 o2 => (Below.refl _ _).alloc (Nat.le_refl _) _
        refine (same26_calls n IH.out _ k ak ai bk bi k' ak' ai' bk' bi' args args' body body' aa aa' ba ba' al al' ac ac' bl bl' bc bc' HZ.out (HA.out.below (hb2 _ _)) (HA'.out.below (hb3 _ _)) (HY.out.below (hb2 _ _)) (HY'.out.below (hb3 _ _))).mono ?_
        rintro e w2 ⟨rfl, hb⟩
        have HB2 := Lib.hid (HB.out.trans (((hb2 _ _).trans (hb.mono (hb2 _ _).size)).mono HB.out.size))
        clear hb2 hb3 hb
        cases hS : sameSt (.mk k ak ai bk bi args body) (.mk k' ak' ai' bk' bi' args' body') with
        | true =>
          have HSS := Lib.hid hS
          clear hS
          go_wp2
          refine ⟨⟨i + 1, by omega, by go_num, ?_, HB2⟩, by simp [intOf]; omega⟩
          show ∀ (j : Nat) (x y : St), _
          intro j x y hj hx hy
          by_cases e : j = i
          · subst e
            rw [HS.out] at hx
            rw [HS'.out] at hy
            injection hx with hx
            injection hy with hy
            rw [← hx, ← hy]
            exact HSS.out
          · exact HE.out j x y (by omega) hx hy
        | false =>
          have HLL := Lib.hid (sameB_at HS.out HS'.out hS)
          clear hS
          go_wp2
          go_ret
          exact ⟨by rw [HLL.out]; rfl, HB2.out⟩
      · obtain rfl : i = n1 := by omega
        have hl : sameB l1 l2 = true := sameB_true.2 ⟨by rw [H1.out.1, H2.out.1], fun j x y hx hy => HE.out j x y (by rw [← H1.out.1]; exact (List.getElem?_eq_some_iff.1 hx).1) hx hy⟩
        have HLL := Lib.hid hl
        clear hl
        go_wp2
        go_ret
        exact ⟨by rw [HLL.out]; rfl, HB.out⟩
  · have hl : sameB l1 l2 = false := sameB_len (by rw [H1.out.1, H2.out.1]; exact hn)
    have HLL := Lib.hid hl
    clear hl
    go_enter Try.func41, Try.ntmps41
    go_wp2
    go_ret
    exact ⟨by rw [HLL.out]; rfl, Below.refl _ _⟩
set_option maxRecDepth 20000 in
theorem same_step (n : Nat) (ih : SameP n) : SameP (n + 1) := by
  intro l1 l2 hn w a1 a2 n1 n2 c1 c2 h1 h2
  have H1 := Lib.hid h1
  have H2 := Lib.hid h2
  have IH := Lib.hid ih
  have HN := Lib.hid hn
  clear h1 h2 ih hn
  go_enter Try.func20, Try.ntmps20
  go_wp2_with fail
  refine (equalFunc_calls n IH.out l1 l2 HN.out w _ _ _ _ _ _ H1.out H2.out).mono ?_
  rintro e w2 ⟨rfl, hb⟩
  have HB := Lib.hid hb
  clear hb
  go_wp2
  go_ret
  exact ⟨rfl, HB.out⟩
theorem sameP (n : Nat) : SameP n := by
  induction n with
  | zero => intro l1 l2 hn; omega
  | succ n ih => exact same_step n ih
/-- module.SameBody -/
theorem same15_calls (w : World) (l1 l2 : List St) (a1 a2 : Option Addr) (n1 n2 c1 c2 : Nat) (h1 : ReadsBody w a1 n1 l1) (h2 : ReadsBody w a2 n2 l2) :
    Calls Try.prog 20 #[.slice a1 n1 c1, .slice a2 n2 c2] w fun e w' => e = .returned (.bool (sameB l1 l2)) ∧ Below w.heap.size w w' :=
  sameP (SizeOf.sizeOf l1 + 1) l1 l2 (Nat.lt_succ_self _) w a1 a2 n1 n2 c1 c2 h1 h2
end Go.Proofs.Ytjgijbaboekghaa

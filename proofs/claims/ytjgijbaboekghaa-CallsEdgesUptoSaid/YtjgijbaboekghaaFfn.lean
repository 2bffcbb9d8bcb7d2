/-
  gen.Map's Function (function 67): whose object a number is. No statement of its own.
-/
import Derived.Test.YtjgijbaboekghaaVfn
set_option linter.unusedSimpArgs false
set_option linter.unusedVariables false
namespace Go.Proofs.Ytjgijbaboekghaa
open Go.RowKit
/-- The first place of o among xs; -1: it is not there. -/
def placeI (xs : List Int) (o : Int) : Int := match xs.findIdx? (fun x => x == o) with | some i => (i : Int) | none => -1
theorem placeI_some {xs : List Int} {o : Int} {i : Nat} (h : xs[i]? = some o) (hn : ∀ j x, j < i → xs[j]? = some x → x ≠ o) : placeI xs o = (i : Int) := by
  have hlt := (List.getElem?_eq_some_iff.1 h).1
  have : xs.findIdx? (fun x => x == o) = some i := by
    rw [List.findIdx?_eq_some_iff_getElem]
    refine ⟨hlt, ?_, fun j hj => ?_⟩
    · have := (List.getElem?_eq_some_iff.1 h).2
      simp [this]
    · have := hn j _ hj (List.getElem?_eq_getElem (by omega))
      simpa using this
  unfold placeI
  rw [this]
theorem placeI_none {xs : List Int} {o : Int} (hn : ∀ (j : Nat) x, xs[j]? = some x → x ≠ o) : placeI xs o = -1 := by
  have : xs.findIdx? (fun x => x == o) = none := by
    rw [List.findIdx?_eq_none_iff]
    intro x hx
    obtain ⟨j, hj⟩ := List.mem_iff_getElem?.1 hx
    simpa using hn j x hj
  unfold placeI
  rw [this]
set_option maxRecDepth 20000 in
set_option maxHeartbeats 4000000 in
theorem function_calls (w : World) (X : Value) (M : Mod) (o : Int) (hm : MapAt w X M) : Calls Try.prog 67 #[X, .int .i64 o] w fun e w' => e = .returned (.int .i64 (placeI (firsts M M.funcs.length) o)) ∧ Below w.heap.size w w' := by
  obtain ⟨sv, gv, fv, ev, vv, cv, rfl, h0, hv, hc⟩ := hm.shape
  clear hm
  obtain ⟨sv', gv', fv', ev', e, h1, h2, h3, h4⟩ := h0
  obtain ⟨rfl, rfl, rfl, rfl⟩ : sv = sv' ∧ gv = gv' ∧ fv = fv' ∧ ev = ev' := by simpa using e
  clear e
  obtain ⟨sa, sc, rfl, _⟩ := h1.shape
  obtain ⟨ga, gc, rfl, hg1⟩ := h2.shape
  obtain ⟨fa, fc, rfl, hfn⟩ := h3.shape
  obtain ⟨ea, ec, rfl, _⟩ := h4.shape
  obtain ⟨va, vc, rfl, hvl⟩ := hv.shape
  obtain ⟨ca, cc, rfl, _⟩ := hc.shape
  rw [firsts_length] at hc ⊢
  obtain ⟨all, hall⟩ : ∃ a, a = firstN M M.funcs.length := ⟨_, rfl⟩
  rw [← hall]
  have hl := firsts_length M M.funcs.length
  generalize firsts M M.funcs.length = xs at *
  generalize M.strings.length = sn at *
  generalize M.globals.length = gn at *
  generalize M.entries.length = en at *
  generalize M.funcs.length = n at *
  have HC := Lib.hid hc
  have HL := Lib.hid hl
  clear h1 h2 h3 h4 hv hc hvl hall hl
  go_enter Try.func67, Try.ntmps67
  go_upto_region 2 with (fail)
  have bw : Below w.heap.size w (w.alloc (.cells #[.slice sa sn sc, .slice ga gn gc, .slice fa n fc, .slice ea en ec, .slice va n vc, .slice ca n cc, .int .i64 (all : Nat), .int .i64 (all : Nat)] 95)) := (Below.refl _ _).alloc (Nat.le_refl _) _
  obtain ⟨W, hW⟩ : ∃ W, W = (w.alloc (.cells #[.slice sa sn sc, .slice ga gn gc, .slice fa n fc, .slice ea en ec, .slice va n vc, .slice ca n cc, .int .i64 (all : Nat), .int .i64 (all : Nat)] 95)) := ⟨_, rfl⟩
  rw [← hW] at bw ⊢
  have HB := Lib.hid bw
  have HC1 : Hid (ReadsI W (.slice ca n cc) xs) := Lib.hid (HC.out.sub (sub_below bw))
  clear hW bw HC
  go_wp2_with fail
  go_loop [10] (fun s10 => ∃ i : Nat, i ≤ n ∧ s10 = .int .i64 (i : Nat) ∧ Hid (∀ j x, j < i → xs[j]? = some x → x ≠ o)) (fun s10 => n - (intOf s10).toNat)
  case atStart => exact ⟨0, Nat.zero_le _, rfl, Lib.hid (fun j x hj => absurd hj (Nat.not_lt_zero _))⟩
  case round =>
    obtain ⟨i, hi, rfl, HI⟩ := hrel
    by_cases hlt : i < n
    · have hltI : (i : Int) < (n : Int) := by omega
      have hi0 : (0 : Int) ≤ (i : Int) := by omega
      obtain ⟨b, off, x, rfl, hx, kx⟩ := HC1.out.at hlt
      have HX := Lib.hid hx
      clear hx
      by_cases h0 : x = o
      · subst h0
        have HR := Lib.hid (placeI_some HX.out HI.out)
        go_wp2_with fail
        go_ret
        exact ⟨by rw [HR.out]; rfl, HB.out⟩
      · have h0' : (x == o) = false := by simpa using h0
        go_wp2_with fail
        go_round
        case measure => simp [intOf]; omega
        case rel => exact ⟨i + 1, by omega, by go_num, Lib.hid (fun j y hj hy => by
          rcases Nat.lt_or_ge j i with h | h
          · exact HI.out j y h hy
          · obtain rfl : i = j := by omega
            rw [HX.out] at hy
            injection hy with hy
            rw [← hy]
            exact h0)⟩
    · obtain rfl : n = i := by omega
      have hnn : ¬ (n : Int) < (n : Int) := by omega
      have HR : Hid (placeI xs o = -1) := Lib.hid (placeI_none (fun j x hx => HI.out j x (by have := (List.getElem?_eq_some_iff.1 hx).1; rw [HL.out] at this; exact this) hx))
      go_wp2_with fail
      go_ret
      exact ⟨by rw [HR.out]; rfl, HB.out⟩
end Go.Proofs.Ytjgijbaboekghaa

/-
  calls.whom (function 48): those that a call calls. No statement of its own.
-/
import Derived.Test.YtjgijbaboekghaaFfn
set_option linter.unusedSimpArgs false
set_option linter.unusedVariables false
namespace Go.Proofs.Ytjgijbaboekghaa
open Go.RowKit
/-- Numbers that a slice reads as, of which there may be many. -/
def ReadsJ (w : World) (v : Value) (xs : List Int) : Prop :=
  ∃ (a : Option Addr) (n c : Nat), v = .slice a n c ∧ xs.length = n ∧ n ≤ 1048576 ∧ (0 < n → ∃ b off, a = some ⟨b, off, none⟩ ∧ ∀ i, i < n → w.cell? ⟨b, off + i, none⟩ = some (.int .i64 (xs.getD i 0)))
def ReadsP (w : World) (v : Value) (ps : List (List Int)) : Prop :=
  ∃ (a : Option Addr) (n c : Nat), v = .slice a n c ∧ ps.length = n ∧ n ≤ 1048576 ∧ (0 < n → ∃ b off, a = some ⟨b, off, none⟩ ∧ ∀ (i : Nat) xs, ps[i]? = some xs → ∃ u, w.cell? ⟨b, off + i, none⟩ = some u ∧ ReadsJ w u xs)
theorem ReadsJ.sub {w w' : World} {v : Value} {xs : List Int} (h : ReadsJ w v xs) (hb : Sub w w') : ReadsJ w' v xs := by
  obtain ⟨a, n, c, e, h1, h2, h3⟩ := h
  exact ⟨a, n, c, e, h1, h2, fun hp => by obtain ⟨b, off, e, h⟩ := h3 hp; exact ⟨b, off, e, fun i hi => hb _ _ (h i hi)⟩⟩
theorem ReadsP.sub {w w' : World} {v : Value} {ps : List (List Int)} (h : ReadsP w v ps) (hb : Sub w w') : ReadsP w' v ps := by
  obtain ⟨a, n, c, e, h1, h2, h3⟩ := h
  exact ⟨a, n, c, e, h1, h2, fun hp => by obtain ⟨b, off, e, h⟩ := h3 hp; exact ⟨b, off, e, fun i xs hi => by obtain ⟨u, k1, k2⟩ := h i xs hi; exact ⟨u, hb _ _ k1, k2.sub hb⟩⟩⟩
theorem ReadsJ.at {w : World} {a : Option Addr} {n c i : Nat} {xs : List Int} (h : ReadsJ w (.slice a n c) xs) (hi : i < n) : ∃ b off x, a = some ⟨b, off, none⟩ ∧ xs[i]? = some x ∧ w.cell? ⟨b, off + i, none⟩ = some (.int .i64 x) := by
  obtain ⟨a', n', c', e, h1, h2, h3⟩ := h
  injection e with e1 e2 e3
  subst e1 e2 e3
  obtain ⟨b, off, e, h⟩ := h3 (by omega)
  refine ⟨b, off, xs.getD i 0, e, ?_, h i hi⟩
  rw [List.getD_eq_getElem?_getD, List.getElem?_eq_getElem (by omega)]
  rfl
theorem MapAt.shapes {w : World} {X : Value} {M : Mod} (h : MapAt w X M) : ∃ sa sn sc ga gn gc fa n fc ea en ec va vn vc ca cn cc q, X = .agg #[.slice sa sn sc, .slice ga gn gc, .slice fa n fc, .slice ea en ec, .slice va vn vc, .slice ca cn cc, .int .i64 ((q : Nat) : Int), .int .i64 ((q : Nat) : Int)] := by
  obtain ⟨sv, gv, fv, ev, vv, cv, rfl, h0, hv, hc⟩ := h.shape
  obtain ⟨sv', gv', fv', ev', e, h1, h2, h3, h4⟩ := h0
  obtain ⟨rfl, rfl, rfl, rfl⟩ : sv = sv' ∧ gv = gv' ∧ fv = fv' ∧ ev = ev' := by simpa using e
  obtain ⟨sa, sc, rfl, _⟩ := h1.shape
  obtain ⟨ga, gc, rfl, hg1⟩ := h2.shape
  obtain ⟨fa, fc, rfl, hfn⟩ := h3.shape
  obtain ⟨ea, ec, rfl, _⟩ := h4.shape
  obtain ⟨va, vc, rfl, hvl⟩ := hv.shape
  obtain ⟨ca, cc, rfl, _⟩ := hc.shape
  exact ⟨_, _, _, _, _, _, _, _, _, _, _, _, _, _, _, _, _, _, _, rfl⟩
/-- Whose objects some numbers are. -/
def whose (M : Mod) (xs : List Int) : List Int := (xs.map (placeI (firsts M M.funcs.length))).filter fun t => decide (0 ≤ t)
theorem whose_snoc {M : Mod} {xs : List Int} {i : Nat} {x : Int} (h : xs[i]? = some x) : whose M (xs.take (i + 1)) = whose M (xs.take i) ++ (if 0 ≤ placeI (firsts M M.funcs.length) x then [placeI (firsts M M.funcs.length) x] else []) := by
  obtain ⟨hi, e⟩ := List.getElem?_eq_some_iff.1 h
  unfold whose
  rw [List.take_succ_eq_append_getElem hi, e, List.map_append, List.filter_append]
  congr 1
  by_cases hk : 0 ≤ placeI (firsts M M.funcs.length) x
  · rw [if_pos hk]; simp [hk]
  · rw [if_neg hk]; simp [hk]
theorem whose_len {M : Mod} (xs : List Int) : (whose M xs).length ≤ xs.length := by
  unfold whose
  exact Nat.le_trans (List.length_filter_le _ _) (by simp)
def whomN (M : Mod) (fn : Nat) (f : Fn) (bk bi : Int) (ps : List (List Int)) : List Int :=
  if bk = 3 then [bi] else if 0 ≤ varN M fn f bk bi ∧ varN M fn f bk bi < (ps.length : Int) then whose M (ps.getD (varN M fn f bk bi).toNat []) else []
def Whomed (w : World) (l : List Int) (e : Ending) (w' : World) : Prop := ∃ A n c, e = .returned (.slice A n c) ∧ n = l.length ∧ n ≤ 1048576 ∧ w'.ownsRow w.heap.size 3 1 (.slice A n c) n (ints l) ∧ Below w.heap.size w w'
theorem own_made3 {W : World} {B g : Nat} (x : Int) (hg : g = W.heap.size) (hB : B ≤ g) : (W.alloc (.cells #[.int .i64 x] 3)).ownsRow B 3 1 (.slice (some ⟨g, 0, none⟩) 1 1) 1 (ints [x]) := by
  subst hg
  exact ⟨rfl, .inr ⟨_, 1, _, rfl, hB, heap_alloc_new W _, Nat.le_refl _, by decide, rfl, rfl⟩⟩
set_option maxRecDepth 20000 in
set_option maxHeartbeats 4000000 in
theorem whom_calls (w : World) (X : Value) (M : Mod) (fn : Nat) (f : Fn) (k ak ai bk bi : Int) (aa ba : Option Addr) (al ac bl bc : Nat) (pv : Value) (ps : List (List Int)) (hm : MapAt w X M) (hf : M.funcs[fn]? = some f) (hp : ReadsP w pv ps) :
    Calls Try.prog 48 #[X, .int .i64 (fn : Nat), .agg #[.int .u8 k, .int .u8 ak, .int .i64 ai, .int .u8 bk, .int .i64 bi, .slice aa al ac, .slice ba bl bc], pv] w (Whomed w (whomN M fn f bk bi ps)) := by
  obtain ⟨sa, sn, sc, ga, gn, gc, fa, n, fc, ea, en, ec, va, vn, vc, ca, cn, cc, q, rfl⟩ := hm.shapes
  obtain ⟨pa, pn, pc, rfl, hpn, hpl, hpp⟩ := hp
  have HP := Lib.hid hpp
  have HPN := Lib.hid hpn
  have HM := Lib.hid hm
  have HF := Lib.hid hf
  clear hm hf hpp hpn
  have m0 := blk_alloc (heap_alloc_new w (.cells #[.slice sa sn sc, .slice ga gn gc, .slice fa n fc, .slice ea en ec, .slice va vn vc, .slice ca cn cc, .int .i64 (q : Nat), .int .i64 (q : Nat)] 95)) (.cells #[.int .u8 k, .int .u8 ak, .int .i64 ai, .int .u8 bk, .int .i64 bi, .slice aa al ac, .slice ba bl bc] 46)
  have m1 : (((w.alloc (.cells #[.slice sa sn sc, .slice ga gn gc, .slice fa n fc, .slice ea en ec, .slice va vn vc, .slice ca cn cc, .int .i64 (q : Nat), .int .i64 (q : Nat)] 95)).alloc (.cells #[.int .u8 k, .int .u8 ak, .int .i64 ai, .int .u8 bk, .int .i64 bi, .slice aa al ac, .slice ba bl bc] 46))).heap[w.heap.size + 1]? = some (.cells #[.int .u8 k, .int .u8 ak, .int .i64 ai, .int .u8 bk, .int .i64 bi, .slice aa al ac, .slice ba bl bc] 46) := by
    have := heap_alloc_new (w.alloc (.cells #[.slice sa sn sc, .slice ga gn gc, .slice fa n fc, .slice ea en ec, .slice va vn vc, .slice ca cn cc, .int .i64 (q : Nat), .int .i64 (q : Nat)] 95)) (.cells #[.int .u8 k, .int .u8 ak, .int .i64 ai, .int .u8 bk, .int .i64 bi, .slice aa al ac, .slice ba bl bc] 46)
    rwa [World.size_alloc] at this
  have bw : Below w.heap.size w ((w.alloc (.cells #[.slice sa sn sc, .slice ga gn gc, .slice fa n fc, .slice ea en ec, .slice va vn vc, .slice ca cn cc, .int .i64 (q : Nat), .int .i64 (q : Nat)] 95)).alloc (.cells #[.int .u8 k, .int .u8 ak, .int .i64 ai, .int .u8 bk, .int .i64 bi, .slice aa al ac, .slice ba bl bc] 46)) := ((Below.refl _ _).alloc (Nat.le_refl _) _).alloc (by simp) _
  have zw : (((w.alloc (.cells #[.slice sa sn sc, .slice ga gn gc, .slice fa n fc, .slice ea en ec, .slice va vn vc, .slice ca cn cc, .int .i64 (q : Nat), .int .i64 (q : Nat)] 95)).alloc (.cells #[.int .u8 k, .int .u8 ak, .int .i64 ai, .int .u8 bk, .int .i64 bi, .slice aa al ac, .slice ba bl bc] 46))).heap.size = w.heap.size + 2 := by simp
  obtain ⟨W, hW⟩ : ∃ W, W = ((w.alloc (.cells #[.slice sa sn sc, .slice ga gn gc, .slice fa n fc, .slice ea en ec, .slice va vn vc, .slice ca cn cc, .int .i64 (q : Nat), .int .i64 (q : Nat)] 95)).alloc (.cells #[.int .u8 k, .int .u8 ak, .int .i64 ai, .int .u8 bk, .int .i64 bi, .slice aa al ac, .slice ba bl bc] 46)) := ⟨_, rfl⟩
  rw [← hW] at m0 m1 bw zw
  have HB := Lib.hid bw
  have HW := Lib.hid hW
  have H0 := Lib.hid m0
  have H1 := Lib.hid m1
  have HZ := Lib.hid zw
  clear hW bw m0 m1 zw
  by_cases hb3 : bk = 3
  · subst hb3
    have HR : Hid (whomN M fn f 3 bi ps = [bi]) := Lib.hid (by unfold whomN; rw [if_pos rfl])
    rw [HR.out]
    go_enter Try.func48, Try.ntmps48
    go_wp2_with fail
    rw [← HW.out]
    go_ret
    refine ⟨some ⟨w.heap.size + 1 + 1, 0, none⟩, 1, 1, rfl, rfl, by decide, own_made3 bi HZ.out.symm (by omega), HB.out.alloc HB.out.size _⟩
  · have hb3' : (bk == 3) = false := by simpa using hb3
    have HR : Hid (whomN M fn f bk bi ps = if 0 ≤ varN M fn f bk bi ∧ varN M fn f bk bi < (ps.length : Int) then whose M (ps.getD (varN M fn f bk bi).toNat []) else []) := Lib.hid (by unfold whomN; rw [if_neg hb3])
    obtain ⟨L, hL⟩ : ∃ L, L = whomN M fn f bk bi ps := ⟨_, rfl⟩
    rw [← hL] at HR ⊢
    clear hL hb3
    go_enter Try.func48, Try.ntmps48
    go_upto_region 4 with (fail)
    rw [← HW.out]
    obtain ⟨c0, f0, z0⟩ := blk3 H0.out
    obtain ⟨c1, f1, z1⟩ := blk3 H1.out
    clear hb3'
    go_wp2_with fail
    refine (var_calls W _ M fn f bk bi (HM.out.sub (sub_below HB.out)) HF.out).mono ?_
    rintro e w1 ⟨rfl, hb1⟩
    obtain ⟨v, hv⟩ : ∃ v, v = varN M fn f bk bi := ⟨_, rfl⟩
    rw [← hv] at HR ⊢
    have H01 := Lib.hid (blk_below H0.out hb1)
    have HBW : Hid (Below w.heap.size w w1) := Lib.hid (HB.out.trans (hb1.mono HB.out.size))
    have HM1 := Lib.hid (HM.out.sub (sub_below HBW.out))
    clear hb1 hv c0 f0 z0 c1 f1 z1 HZ HW H0 H1 HM HB
    by_cases hv0 : 0 ≤ v
    · by_cases hv1 : v < (pn : Int)
      · obtain ⟨j, rfl⟩ : ∃ j : Nat, v = (j : Int) := ⟨v.toNat, by omega⟩
        have hj : j < pn := by omega
        obtain ⟨pb, poff, rfl, hcell⟩ := HP.out (by omega)
        obtain ⟨xs, hxs⟩ : ∃ x, ps[j]? = some x := ⟨_, List.getElem?_eq_getElem (by rw [HPN.out]; exact hj)⟩
        obtain ⟨u, ku, hju⟩ := hcell j xs hxs
        obtain ⟨ja, jn, jc, rfl, hjl, hjn, hjj⟩ := id hju
        have ku1 := lift HBW.out ku
        have HJ : Hid (ReadsJ w1 (.slice ja jn jc) xs) := Lib.hid (hju.sub (sub_below HBW.out))
        have HJL := Lib.hid hjl
        have HRR : Hid (L = whose M xs) := Lib.hid (by rw [HR.out, if_pos ⟨hv0, by rw [HPN.out]; exact hv1⟩, Int.toNat_natCast, List.getD_eq_getElem?_getD, hxs]; rfl)
        clear hcell hxs ku hju hjl hjj HR
        go_wp2_with fail
        go_loopw [9, 40] (fun v9 iv wr => ∃ (i m : Nat) (A : Option Addr) (cp : Nat), i ≤ jn ∧ m ≤ i ∧ iv = .int .i64 (i : Nat) ∧ v9 = .slice A m cp ∧ Hid (m = (whose M (xs.take i)).length) ∧ Hid (wr.ownsRow w1.heap.size 3 1 (.slice A m cp) m (ints (whose M (xs.take i)))) ∧ Hid (Below w1.heap.size w1 wr)) (fun _ iv _ => jn - (intOf iv).toNat)
        case atStart => exact ⟨0, 0, none, 0, Nat.zero_le _, Nat.le_refl _, rfl, rfl, rfl, World.ownsRow_nil _ _ _ _, Below.refl _ _⟩
        case round =>
          obtain ⟨i, m, A, cp, hi, hmi, rfl, rfl, HMM, HOR, HBR⟩ := hrel
          obtain ⟨c0, f0, z0⟩ := blk3 (blk_below H01.out HBR.out)
          by_cases hlt : i < jn
          · have hltI : (i : Int) < (jn : Int) := by omega
            have hi0 : (0 : Int) ≤ (i : Int) := by omega
            obtain ⟨b, off, x, rfl, hx, kx⟩ := (HJ.out.sub (sub_below HBR.out)).at hlt
            have HS := Lib.hid (whose_snoc (M := M) hx)
            clear hx
            go_wp2_with fail
            refine (function_calls wr _ M x (HM1.out.sub (sub_below HBR.out))).mono ?_
            rintro e w3 ⟨rfl, hb3⟩
            obtain ⟨t, ht⟩ : ∃ t, t = placeI (firsts M M.funcs.length) x := ⟨_, rfl⟩
            rw [← ht] at HS ⊢
            have HB3 := Lib.hid (HBR.out.trans (hb3.mono HBR.out.size))
            have HO3 := Lib.hid (own_below HOR.out hb3)
            clear ht hb3 c0 f0 z0 kx
            by_cases ht0 : 0 ≤ t
            · rw [if_pos ht0] at HS
              go_wp2_with (at_builtin; refine append_list2 (B := w1.heap.size) (w0 := w1) rfl _ _ 29 3 (.int .i64 0) 1 8 rfl Try.underlying29 info3 rfl (by decide) (.slice A m cp) m _ rfl (own_below HO3.out ((Below.refl _ _).alloc (Nat.le_refl _) _)) ⟨w3.heap.size, 0, none⟩ 1 1 [.int .i64 t] rfl rfl (new_cells _ _ _ _) (one_cell _ rfl) (by have := HB3.out.size; simp; omega) (HB3.out.alloc HB3.out.size _) (by omega) (by omega) ?_; intro v' w4 hown hbel _ _; obtain ⟨A1, cp1, rfl, _, _⟩ := own_shape hown; have HOR1 := Lib.hid hown; have HBR1 := Lib.hid hbel; clear hown hbel)
              refine ⟨⟨i + 1, m + 1, A1, cp1, by omega, by omega, by go_num, rfl, ?_, ?_, HBR1.out⟩, by simp [intOf]; omega⟩
              · show _ = _
                rw [HS.out, List.length_append, ← HMM.out]; rfl
              · show World.ownsRow _ _ _ _ _ _ _
                rw [HS.out, ints_append]
                exact HOR1.out
            · rw [if_neg ht0, List.append_nil] at HS
              go_wp2_with fail
              refine ⟨⟨i + 1, m, A, cp, by omega, by omega, by go_num, rfl, ?_, ?_, HB3.out⟩, by simp [intOf]; omega⟩
              · show _ = _
                rw [HS.out]; exact HMM.out
              · show World.ownsRow _ _ _ _ _ _ _
                rw [HS.out]; exact HO3.out
          · obtain rfl : jn = i := by omega
            have hnn : ¬ (jn : Int) < (jn : Int) := by omega
            go_wp2_with fail
            go_ret
            have htk : xs.take jn = xs := List.take_of_length_le (by rw [HJL.out]; exact Nat.le_refl _)
            have h1 := HMM.out
            have h2 := HOR.out
            rw [htk] at h1 h2
            rw [HRR.out]
            exact ⟨A, m, cp, rfl, h1, by omega, own_base h2 HBW.out.size, HBW.out.trans (HBR.out.mono HBW.out.size)⟩
      · have HRR : Hid (L = []) := Lib.hid (by rw [HR.out, if_neg (fun h => hv1 (by rw [← HPN.out]; exact h.2))])
        clear HR
        go_wp2_with fail
        go_ret
        exact ⟨none, 0, 0, rfl, (by rw [HRR.out]; rfl), by decide, (by rw [HRR.out]; exact World.ownsRow_nil _ _ _ _), HBW.out⟩
    · have HRR : Hid (L = []) := Lib.hid (by rw [HR.out, if_neg (fun h => hv0 h.1)])
      clear HR
      go_wp2_with fail
      go_ret
      exact ⟨none, 0, 0, rfl, (by rw [HRR.out]; rfl), by decide, (by rw [HRR.out]; exact World.ownsRow_nil _ _ _ _), HBW.out⟩
end Go.Proofs.Ytjgijbaboekghaa

/-
  CallsNames (function 8): calls by name are called whatever variables point to; others are not, where nothing is pointed to.
-/
import Derived.Test.YtjgijbaboekghaaEdg
import Derived.Test.YtjgijbaboekghaaSitesWalk
set_option linter.unusedSimpArgs false
set_option linter.unusedVariables false
namespace Go.Proofs.Ytjgijbaboekghaa
open Go.RowKit
/-! ### where nothing is pointed to -/
theorem whomN_nil (M : Mod) (fn : Nat) (f : Fn) (bk bi : Int) : whomN M fn f bk bi [] = if bk = 3 then [bi] else [] := by
  unfold whomN
  split
  · rfl
  · rw [if_neg (by intro h; have h1 := h.1; have h2 := h.2; simp at h2; omega)]
theorem oneCall_nil (M : Mod) (fn : Nat) (f : Fn) (j : Nat) : oneCall M [] fn f j = [] ∨ ∃ t, oneCall M [] fn f j = [((fn : Int), (j : Int), t)] := by
  unfold oneCall
  split
  · rw [whomN_nil]
    split
    · exact .inr ⟨_, rfl⟩
    · exact .inl rfl
  · exact .inl rfl
theorem callsE_in {M : Mod} {fn : Nat} {f : Fn} {k : Nat} {x : Ed} (h : x ∈ callsE M [] fn f k) : x.1 = (fn : Int) ∧ x.2.1 < (k : Int) := by
  unfold callsE at h
  obtain ⟨j, hj, hx⟩ := List.mem_flatMap.1 h
  have hjk := List.mem_range.1 hj
  rcases oneCall_nil M fn f j with e | ⟨t, e⟩
  · rw [e] at hx; cases hx
  · rw [e] at hx
    rw [List.mem_singleton] at hx
    subst hx
    exact ⟨rfl, by show (j : Int) < _; omega⟩
theorem callsE_sorted (M : Mod) (fn : Nat) (f : Fn) (k : Nat) : (callsE M [] fn f k).Pairwise ltE := by
  induction k with
  | zero => exact .nil
  | succ k ih =>
    have e : callsE M [] fn f (k + 1) = callsE M [] fn f k ++ oneCall M [] fn f k := fm_succ _ _
    rw [e, List.pairwise_append]
    refine ⟨ih, ?_, fun x hx y hy => ?_⟩
    · rcases oneCall_nil M fn f k with e | ⟨t, e⟩
      · rw [e]; exact .nil
      · rw [e]; exact List.pairwise_singleton _ _
    · obtain ⟨h1, h2⟩ := callsE_in hx
      rcases oneCall_nil M fn f k with e | ⟨t, e⟩
      · rw [e] at hy; cases hy
      · rw [e, List.mem_singleton] at hy
        subst hy
        exact .inr ⟨h1, .inl h2⟩
theorem callsE_len (M : Mod) (fn : Nat) (f : Fn) (k : Nat) : (callsE M [] fn f k).length ≤ k := by
  induction k with
  | zero => exact Nat.le_refl _
  | succ k ih =>
    have e : callsE M [] fn f (k + 1) = callsE M [] fn f k ++ oneCall M [] fn f k := fm_succ _ _
    rw [e, List.length_append]
    have : (oneCall M [] fn f k).length ≤ 1 := by rcases oneCall_nil M fn f k with e | ⟨t, e⟩ <;> rw [e] <;> simp
    omega
theorem oneFn_in {M : Mod} {fn : Nat} {x : Ed} (h : x ∈ oneFn M [] fn) : x.1 = (fn : Int) := by
  unfold oneFn at h
  split at h
  · exact (callsE_in h).1
  · cases h
theorem oneFn_sorted (M : Mod) (fn : Nat) : (oneFn M [] fn).Pairwise ltE := by
  unfold oneFn
  split
  · exact callsE_sorted _ _ _ _
  · exact .nil
theorem rawE_sorted (M : Mod) (k : Nat) : (rawE M [] k).Pairwise ltE := by
  induction k with
  | zero => exact .nil
  | succ k ih =>
    have e : rawE M [] (k + 1) = rawE M [] k ++ oneFn M [] k := fm_succ _ _
    rw [e, List.pairwise_append]
    refine ⟨ih, oneFn_sorted M k, fun x hx y hy => ?_⟩
    have h1 := oneFn_in hy
    unfold rawE at hx
    obtain ⟨j, hj, hx⟩ := List.mem_flatMap.1 hx
    have h2 := oneFn_in hx
    have h3 := List.mem_range.1 hj
    exact .inl (by rw [h1, h2]; omega)
theorem rawE_len {M : Mod} {B : Nat} (hB : ∀ f ∈ M.funcs, (flatT 1000 0 f.body).length ≤ B) (k : Nat) : (rawE M [] k).length ≤ k * B := by
  induction k with
  | zero => exact Nat.zero_le _
  | succ k ih =>
    have e : rawE M [] (k + 1) = rawE M [] k ++ oneFn M [] k := fm_succ _ _
    rw [e, List.length_append]
    have : (oneFn M [] k).length ≤ B := by
      unfold oneFn
      split
      · rename_i f hf
        have h1 := callsE_len M k f (sitesOf (flatT 1000 0 f.body)).length
        have h2 := sitesOf_len (flatT 1000 0 f.body) (flatT 1000 0 f.body).length
        rw [List.take_length] at h2
        have h3 := hB f (List.mem_of_getElem? hf)
        omega
      · exact Nat.zero_le _
    rw [Nat.add_mul, Nat.one_mul]
    omega
theorem ltE_ne {x y : Ed} (h : ltE x y) : y ≠ x := fun e => by
  subst e
  unfold ltE at h
  omega
theorem sorted_next {l : List Ed} (h : l.Pairwise ltE) (j : Nat) (x y : Ed) (hx : l[j]? = some x) (hy : l[j + 1]? = some y) : y ≠ x := by
  obtain ⟨h1, rfl⟩ := List.getElem?_eq_some_iff.1 hx
  obtain ⟨h2, rfl⟩ := List.getElem?_eq_some_iff.1 hy
  exact ltE_ne (List.pairwise_iff_getElem.1 h j (j + 1) h1 h2 (Nat.lt_succ_self j))
theorem fm_split {α : Type} (g : Nat → List α) {i n : Nat} (h : i ≤ n) : ∃ r, (List.range n).flatMap g = (List.range i).flatMap g ++ r := by
  induction n with
  | zero => obtain rfl : i = 0 := by omega
            exact ⟨[], (List.append_nil _).symm⟩
  | succ n ih =>
    rcases Nat.lt_or_ge i (n + 1) with h1 | h1
    · obtain ⟨r, hr⟩ := ih (by omega)
      exact ⟨r ++ g n, by rw [fm_succ, hr, List.append_assoc]⟩
    · obtain rfl : i = n + 1 := by omega
      exact ⟨[], (List.append_nil _).symm⟩
theorem rawE_next {M : Mod} {ps : List (List Int)} {i k n : Nat} {f : Fn} (hi : i < n) (hf : M.funcs[i]? = some f) (hk : k ≤ (sitesOf (flatT 1000 0 f.body)).length) : ∃ r, rawE M ps n = rawE M ps i ++ callsE M ps i f k ++ r := by
  obtain ⟨r, hr⟩ := fm_split (oneFn M ps) (show i + 1 ≤ n by omega)
  obtain ⟨q, hq⟩ := fm_split (oneCall M ps i f) hk
  have h2 := rawE_succ (ps := ps) hf
  refine ⟨q ++ r, ?_⟩
  unfold rawE callsE at *
  rw [hr, h2, hq]
  simp only [List.append_assoc]
theorem siteB_of7 {w : World} {k ak ai bk bi : Int} {v1 v2 : Value} {s : St} (h : Cells7 w [.int .u8 k, .int .u8 ak, .int .i64 ai, .int .u8 bk, .int .i64 bi, v1, v2] s) : siteB s = (bk, bi) := by
  obtain ⟨k', ak', ai', bk', bi', args, body⟩ := s
  obtain ⟨aa, al, ac, ba, bl, bc, e, _, _⟩ := (cells7_def _ _ _ _ _ _ _ _ _).1 h
  simp only [List.cons.injEq, Value.int.injEq, true_and] at e
  obtain ⟨_, _, _, e1, e2, _⟩ := e
  show (bk', bi') = (bk, bi)
  rw [e1, e2]
theorem hrf4 {w w' : World} {a b c d : Value} {M : Mod} (h : ReadsM w (.agg #[a, b, c, d]) M) (hb : Sub w w') : ReadsF w' c M.funcs := by
  obtain ⟨a', b', c', d', e, _, _, h3, _⟩ := h
  obtain ⟨rfl, rfl, rfl, rfl⟩ : a = a' ∧ b = b' ∧ c = c' ∧ d = d' := by simpa using e
  exact h3.sub hb
set_option maxRecDepth 100000 in
set_option maxHeartbeats 4000000 in
theorem callsNames_walk (w : World) (g f e : Nat) (aa : Option Addr) (an ac : Nat) (acts : List (Nat × Nat × Nat × Nat)) (hg : g < 256) (hf : f < 256) (he : e < 256) (ha : ReadsActs w aa an acts) :
    Calls Try.prog 8 #[.agg #[.int .u8 g, .int .u8 f, .int .u8 e, .slice aa an ac]] w (Yes w) := by
  have HA := Lib.hid ha
  have han := ha.2.1
  clear ha
  go_enter Try.func8, Try.ntmps8
  go_wp2_with fail
  refine (R.awake_calls _).mono ?_
  rintro e1 w1 ⟨rfl, hb1⟩
  have hbx := ((Below.refl w.heap.size w).alloc (Nat.le_refl _) (.cells #[.int .u8 g, .int .u8 f, .int .u8 e, .slice aa an ac] 25)).trans (hb1.mono (by simp))
  obtain ⟨c1, f1, z1⟩ := blk3 (blk_below (heap_alloc_new w (.cells #[.int .u8 g, .int .u8 f, .int .u8 e, .slice aa an ac] 25)) hb1)
  have HB1 := Lib.hid hbx
  clear hb1 hbx
  go_wp2_with fail
  refine (make_calls _ g f e aa an ac acts [] (by simp) hg hf he (HA.out.sub (sub_below HB1.out))).mono ?_
  rintro e2 w2 ⟨sv, gv, A, n, cp, ev, xs, rfl, hn, hn1, hb2, ho, hfn, hs, hgl, hen⟩
  obtain ⟨sa, sc, rfl, _⟩ := hs.shape
  obtain ⟨ga, gc, rfl, _⟩ := hgl.shape
  obtain ⟨ea, ec, rfl, _⟩ := hen.shape
  have hrf := ReadsF.own ho hn.symm hn1 (hfn.sub (sans_sub _ _))
  obtain ⟨M, hM⟩ : ∃ M, M = makeM ⟨g, f, e, acts⟩ := ⟨_, rfl⟩
  have HFL := Lib.hid (makeM_flat ⟨g, f, e, acts⟩ (by rw [show (Dr.mk g f e acts).acts.length = an from HA.out.1]; exact han))
  rw [← hM] at hrf hn HFL hs hgl hen ⊢
  have hrm : ReadsM w2 (.agg #[.slice sa M.strings.length sc, .slice ga M.globals.length gc, .slice A n cp, .slice ea M.entries.length ec]) M := ⟨_, _, _, _, rfl, hs.sub (sans_sub _ _), hgl.sub (sans_sub _ _), hrf, hen.sub (sans_sub _ _)⟩
  have HRM := Lib.hid hrm
  have HN := Lib.hid hn.symm
  have HB2 := Lib.hid (HB1.out.trans (hb2.mono HB1.out.size))
  clear hb2 ho hfn hs hgl hen hrf hrm hn hM c1 f1 z1
  go_upto_region 4 with (fail)
  obtain ⟨MB, hMB⟩ : ∃ o, o = Obj.cells #[.slice sa M.strings.length sc, .slice ga M.globals.length gc, .slice A n cp, .slice ea M.entries.length ec] 32 := ⟨_, rfl⟩
  have m3 := heap_alloc_new w2 MB
  have b3 : Below w2.heap.size w2 (w2.alloc MB) := (Below.refl _ _).alloc (Nat.le_refl _) _
  obtain ⟨W3, hW3⟩ : ∃ W, W = w2.alloc MB := ⟨_, rfl⟩
  rw [← hMB, ← hW3]
  rw [← hW3] at m3 b3
  rw [hMB] at m3
  have HB3 := Lib.hid (HB2.out.trans (b3.mono HB2.out.size))
  have HRM3 := Lib.hid (HRM.out.sub (sub_below b3))
  have H3 := Lib.hid m3
  clear m3 b3 hW3 hMB HRM HB2
  obtain ⟨c3, f3, z3⟩ := blk3 H3.out
  go_wp2_with fail
  refine (edges_calls W3 _ _ M [] HRM3.out ⟨none, 0, 0, rfl, rfl, by decide, fun h => absurd h (Nat.lt_irrefl 0)⟩ (fun f hf => by have := (HFL.out f hf).1; omega) (by
    have h1 := rawE_len (fun f hf => (HFL.out f hf).1) M.funcs.length
    rw [HN.out] at h1 ⊢
    have h2 : n * 180 ≤ 1000 * 180 := Nat.mul_le_mul_right _ hn1
    omega) (fun j x y hx hy => by
    rw [sortE_sorted (rawE_sorted M _)] at hx hy
    exact sorted_next (rawE_sorted M _) j x y hx hy)).mono ?_
  rintro e4 w4 ⟨lA, ln, lcp, rfl, hln, hlo, hb4⟩
  rw [sortE_sorted (rawE_sorted M _), HN.out] at hln hlo
  have HLN := Lib.hid hln
  have HLO := Lib.hid hlo
  have H4 := Lib.hid (blk_below H3.out hb4)
  have HF4 := Lib.hid (hrf4 HRM3.out (sub_below hb4))
  have HB4 := Lib.hid (HB3.out.trans (hb4.mono HB3.out.size))
  have hlnb : ln ≤ 180000 := by
    have h1 := rawE_len (fun f hf => (HFL.out f hf).1) n
    have h2 : n * 180 ≤ 1000 * 180 := Nat.mul_le_mul_right _ hn1
    omega
  clear hln hlo hb4 c3 f3 z3 H3 HRM3 HB3
  go_wp2_with fail
  go_loopw [5, 6] (fun v5 v6 wr => ∃ (i m : Nat), i ≤ n ∧ v6 = .int .i64 (i : Nat) ∧ v5 = .int .i64 (m : Nat) ∧ Hid (m = (rawE M [] i).length) ∧ Hid (Below w4.heap.size w4 wr)) (fun _ v6 _ => n - (intOf v6).toNat)
  case atStart => exact ⟨0, 0, Nat.zero_le _, rfl, rfl, rfl, Below.refl _ _⟩
  case round =>
    obtain ⟨i, m, hi, rfl, rfl, HM, HB⟩ := hrel
    obtain ⟨c3, f3, z3⟩ := blk3 (blk_below H4.out HB.out)
    by_cases hlt : i < n
    · have hltI : (i : Int) < (n : Int) := by omega
      have hi0 : (0 : Int) ≤ (i : Int) := by omega
      obtain ⟨b, off, fn, lv, sv2, bv, rfl, hff, ⟨x0, x1, x2, x3, x4⟩, rl, rs, rb⟩ := (HF4.out.sub (sub_below HB.out)).at hlt
      obtain ⟨ba, bn, bc, rfl, hbn, rb⟩ := rb
      have hfl := HFL.out fn (List.mem_of_getElem? hff)
      have RB := Lib.hid rb
      have HFN := Lib.hid hfl.1
      have HFF := Lib.hid hff
      clear hff rl rs rb hfl
      go_wp2_with fail
      refine (rflat12_calls wr fn.body ba bn bc RB.out (by have := HFN.out; omega)).mono ?_
      rintro e5 w5 ⟨v5, K, rfl, hrl⟩
      obtain ⟨ixs, ho, hI⟩ := hrl.own
      obtain ⟨iA, icp, rfl, _, _⟩ := own_shape ho
      obtain ⟨L, hL⟩ : ∃ L, L = flatT 1000 0 fn.body := ⟨_, rfl⟩
      have hlen := hrl.len
      have hb5 := hrl.below
      rw [← hL] at hI hlen
      have HLL := Lib.hid hL
      have HLEN := Lib.hid hlen
      have HI := Lib.hid hI
      have HO := Lib.hid ho
      have HB5 := Lib.hid (HB.out.trans (hb5.mono HB.out.size))
      have HBF := Lib.hid hb5
      have hKb : K ≤ 180 := by have := HFN.out; rw [← HLL.out, HLEN.out] at this; omega
      clear hrl ho hI hlen hb5 hL x0 x1 x2 x3 x4 c3 f3 z3
      go_wp2_with fail
      go_loopw [5, 7, 9] (fun v5 v7 v9 wr' => ∃ (t m k : Nat), t ≤ K ∧ k ≤ t ∧ m ≤ ln ∧ v9 = .int .i64 (t : Nat) ∧ v7 = .int .i64 (k : Nat) ∧ v5 = .int .i64 (m : Nat) ∧ Hid (k = (sitesOf (L.take t)).length) ∧ Hid (m = (rawE M [] i ++ callsE M [] i fn k).length) ∧ Hid (Below w5.heap.size w5 wr')) (fun _ _ v9 _ => K - (intOf v9).toNat)
      case atStart => exact ⟨0, m, 0, Nat.zero_le _, Nat.le_refl _, by
        obtain ⟨r, hr⟩ := fm_split (oneFn M []) (show i ≤ n by omega)
        have h1 := congrArg List.length hr
        rw [List.length_append] at h1
        have h2 := HLN.out
        have h3 := HM.out
        unfold rawE at h2 h3
        omega, rfl, rfl, rfl, rfl, (by show m = _; rw [callsE_zero, List.append_nil]; exact HM.out), Below.refl _ _⟩
      case round =>
        clear HM
        obtain ⟨t, m, k, ht, hkt, hml, rfl, rfl, rfl, HK, HM, HBQ⟩ := hrel
        by_cases hltt : t < K
        · obtain ⟨gI, rfl, _, _⟩ := own_addr HO.out (by omega)
          have hltT : (t : Int) < (K : Int) := by omega
          have ht0 : (0 : Int) ≤ (t : Int) := by omega
          obtain ⟨⟨d, s⟩, hs⟩ : ∃ x, L[t]? = some x := ⟨_, List.getElem?_eq_getElem (by rw [HLEN.out]; exact hltt)⟩
          obtain ⟨sk, ak, ai, bk, bi, aa2, b2, al, ac2, bl, b2c, h7, hkk, x0, x1, x2, x3, x4, x5, x6, x7, x8⟩ := nine_cells (own_below HO.out HBQ.out) HI.out hs
          have HS := Lib.hid hs
          have HKK := Lib.hid hkk
          have HSB := Lib.hid (siteB_of7 h7)
          clear h7 hs hkk
          by_cases hk5 : sk = 5
          · subst hk5
            have HSN := Lib.hid (show sitesOf (L.take (t + 1)) = sitesOf (L.take t) ++ [s] by rw [sitesOf_snoc HS.out, HKK.out]; rfl)
            have HSK : Hid ((sitesOf (flatT 1000 0 fn.body))[k]? = some s) := Lib.hid (by rw [← HLL.out]; exact sitesOf_at HSN.out HK.out)
            have HCS := Lib.hid (callsE_succ (M := M) (ps := []) (i := i) HSK.out)
            obtain ⟨r, hr⟩ := rawE_next (ps := []) hlt HFF.out (k := k + 1) (List.getElem?_eq_some_iff.1 HSK.out).1
            by_cases hb3 : bk = 3
            · subst hb3
              have HC1 : Hid (callsE M [] i fn (k + 1) = callsE M [] i fn k ++ [((i : Int), (k : Int), bi)]) := Lib.hid (by rw [HCS.out, HSB.out, whomN_nil, if_pos rfl]; rfl)
              have hx : (rawE M [] n)[m]? = some ((i : Int), (k : Int), bi) := by
                rw [hr, HC1.out, ← List.append_assoc, HM.out, List.append_assoc, List.getElem?_append_right (Nat.le_refl _), Nat.sub_self]
                rfl
              have hmlt : m < ln := by rw [HLN.out]; exact (List.getElem?_eq_some_iff.1 hx).1
              obtain ⟨gL, rfl, _, _⟩ := own_addr HLO.out (by omega)
              have hbl := HB5.out.trans (HBQ.out.mono HB5.out.size)
              obtain ⟨a1, a2, a3⟩ := edge_cells (own_below HLO.out hbl) hx
              have hge1 : decide (ln ≤ m) = false := decide_eq_false (by omega)
              have hge2 : decide ((ln : Int) ≤ (m : Int)) = false := decide_eq_false (by omega)
              have hltM : (m : Int) < (ln : Int) := by omega
              have hw0 : 0 ≤ (m : Int) := Int.natCast_nonneg _
              clear hx hr hbl
              go_upto_region 17 with (fail)
              have hva : Below wr.heap.size wr (wr.alloc (.cells #[.int .u8 5, .int .u8 ak, .int .i64 ai, .int .u8 3, .int .i64 bi, .slice aa2 al ac2, .slice b2 bl b2c] 46)) := (Below.refl _ _).alloc (Nat.le_refl _) _
              have v0 := heap_alloc_new wr (.cells #[.int .u8 5, .int .u8 ak, .int .i64 ai, .int .u8 3, .int .i64 bi, .slice aa2 al ac2, .slice b2 bl b2c] 46)
              obtain ⟨V, hV⟩ : ∃ V, V = wr.alloc (.cells #[.int .u8 5, .int .u8 ak, .int .i64 ai, .int .u8 3, .int .i64 bi, .slice aa2 al ac2, .slice b2 bl b2c] 46) := ⟨_, rfl⟩
              rw [← hV] at hva v0 ⊢
              replace a1 := lift hva a1
              replace a2 := lift hva a2
              replace a3 := lift hva a3
              have HVB := Lib.hid (HBQ.out.trans (hva.mono HBQ.out.size))
              obtain ⟨v1, v2, v3⟩ := blk3 v0
              clear hV hva v0 x0 x1 x2 x3 x4 x5 x6 x7 x8
              go_quiet (fail)
              go_wp2_with fail
              refine ⟨⟨t + 1, m + 1, k + 1, by omega, by omega, by omega, by go_num, by go_num, by go_num, ?_, ?_, ?_⟩, by simp [intOf]; omega⟩
              · show _ = _
                rw [HSN.out, List.length_append, ← HK.out]; rfl
              · show _ = _
                rw [HC1.out, ← List.append_assoc, List.length_append, ← HM.out]; rfl
              · exact below_drewN' HVB.out _
            · have hb3' : (bk == 3) = false := by rw [beq_eq_false_iff_ne]; exact hb3
              have HC1 : Hid (callsE M [] i fn (k + 1) = callsE M [] i fn k) := Lib.hid (by rw [HCS.out, HSB.out, whomN_nil, if_neg hb3]; exact List.append_nil _)
              clear hr
              go_wp2_with fail
              refine ⟨⟨t + 1, m, k + 1, by omega, by omega, hml, by go_num, by go_num, rfl, ?_, ?_, HBQ.out.alloc HBQ.out.size _⟩, by simp [intOf]; omega⟩
              · show _ = _
                rw [HSN.out, List.length_append, ← HK.out]; rfl
              · show _ = _
                rw [HC1.out]; exact HM.out
          · have hkf : (sk == 5) = false := by rw [beq_eq_false_iff_ne]; exact hk5
            have hkn : (sk != 5) = true := by rw [bne, hkf]; rfl
            have HSN := Lib.hid (show sitesOf (L.take (t + 1)) = sitesOf (L.take t) by rw [sitesOf_snoc HS.out, HKK.out, hkf]; simp)
            go_wp2_with fail
            refine ⟨⟨t + 1, m, k, by omega, by omega, hml, by go_num, rfl, rfl, ?_, HM.out, HBQ.out.alloc HBQ.out.size _⟩, by simp [intOf]; omega⟩
            show _ = _
            rw [HSN.out]; exact HK.out
        · obtain rfl : K = t := by omega
          have hnn : ¬ (K : Int) < (K : Int) := by omega
          have htk : L.take K = L := List.take_of_length_le (by rw [HLEN.out]; exact Nat.le_refl _)
          have HKE : Hid (k = (sitesOf (flatT 1000 0 fn.body)).length) := Lib.hid (by rw [← HLL.out, HK.out, htk])
          have HR := Lib.hid (rawE_succ (ps := []) HFF.out)
          have HBE := Lib.hid (HB5.out.trans (HBQ.out.mono HB5.out.size))
          clear htk
          go_wp2_with fail
          refine ⟨⟨i + 1, m, by omega, by go_num, rfl, ?_, HBE.out⟩, by simp [intOf]; omega⟩
          show _ = _
          rw [HR.out, ← HKE.out]; exact HM.out
    · obtain rfl : n = i := by omega
      have hnn : ¬ (n : Int) < (n : Int) := by omega
      have hml : m = ln := by rw [HM.out, HLN.out]
      subst hml
      have HBE := Lib.hid (HB4.out.trans (HB.out.mono HB4.out.size))
      go_wp2_with fail
      go_ret
      exact ⟨by simp, HBE.out⟩
set_option maxRecDepth 20000 in
theorem callsNames_no (w : World) (g f e : Nat) (aa : Option Addr) (an ac : Nat) (hm : an ≤ maxLen) (ha : ¬ an ≤ 60) :
    Calls Try.prog 8 #[.agg #[.int .u8 g, .int .u8 f, .int .u8 e, .slice aa an ac]] w (Yes w) := by
  unfold maxLen at hm
  go_enter Try.func8, Try.ntmps8
  go_wp2_with fail
  refine (R.awake_calls _).mono ?_
  rintro e1 w1 ⟨rfl, hb1⟩
  have HB1 := Lib.hid (((Below.refl w.heap.size w).alloc (Nat.le_refl _) (.cells #[.int .u8 g, .int .u8 f, .int .u8 e, .slice aa an ac] 25)).trans (hb1.mono (by simp)))
  obtain ⟨c1, f1, z1⟩ := blk3 (blk_below (heap_alloc_new w (.cells #[.int .u8 g, .int .u8 f, .int .u8 e, .slice aa an ac] 25)) hb1)
  clear hb1
  have hgt : (60 : Int) < (an : Int) := by omega
  go_wp2_with fail
  refine (R.awake_calls _).mono ?_
  rintro e2 w2 ⟨rfl, hb2⟩
  have HB2 := Lib.hid (HB1.out.trans (hb2.mono HB1.out.size))
  clear hb2
  go_wp2
  go_ret
  exact ⟨rfl, HB2.out⟩
end Go.Proofs.Ytjgijbaboekghaa

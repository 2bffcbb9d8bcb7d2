/-
  calls.Edges (function 25): who is called by which call. No statement of its own.
-/
import Derived.Test.YtjgijbaboekghaaSrt
import Derived.Test.YtjgijbaboekghaaSites
set_option linter.unusedSimpArgs false
set_option linter.unusedVariables false
namespace Go.Proofs.Ytjgijbaboekghaa
open Go.RowKit
def siteB : St → Int × Int
  | .mk _ _ _ bk bi _ _ => (bk, bi)
def edgesOf (fn j : Nat) (ws : List Int) : List Ed := ws.map fun t => ((fn : Int), (j : Int), t)
def oneCall (M : Mod) (ps : List (List Int)) (fn : Nat) (f : Fn) (j : Nat) : List Ed := match (sitesOf (flatT 1000 0 f.body))[j]? with
  | some s => edgesOf fn j (whomN M fn f (siteB s).1 (siteB s).2 ps)
  | none => []
def callsE (M : Mod) (ps : List (List Int)) (fn : Nat) (f : Fn) (k : Nat) : List Ed := (List.range k).flatMap (oneCall M ps fn f)
def oneFn (M : Mod) (ps : List (List Int)) (fn : Nat) : List Ed := match M.funcs[fn]? with
  | some f => callsE M ps fn f (sitesOf (flatT 1000 0 f.body)).length
  | none => []
/-- Who is called by which call, as they come. -/
def rawE (M : Mod) (ps : List (List Int)) (k : Nat) : List Ed := (List.range k).flatMap (oneFn M ps)
theorem fm_succ {α : Type} (g : Nat → List α) (k : Nat) : (List.range (k + 1)).flatMap g = (List.range k).flatMap g ++ g k := by rw [List.range_succ, List.flatMap_append]; simp
theorem fm_le {α : Type} (g : Nat → List α) {i n : Nat} (h : i ≤ n) : ((List.range i).flatMap g).length ≤ ((List.range n).flatMap g).length := by
  induction n with
  | zero => obtain rfl : i = 0 := by omega
            exact Nat.le_refl _
  | succ n ih =>
    rcases Nat.lt_or_ge i (n + 1) with h1 | h1
    · rw [fm_succ, List.length_append]
      have := ih (by omega)
      omega
    · obtain rfl : i = n + 1 := by omega
      exact Nat.le_refl _
theorem rawE_succ {M : Mod} {ps : List (List Int)} {i : Nat} {f : Fn} (h : M.funcs[i]? = some f) : rawE M ps (i + 1) = rawE M ps i ++ callsE M ps i f (sitesOf (flatT 1000 0 f.body)).length := by
  unfold rawE
  rw [fm_succ]
  congr 1
  unfold oneFn
  rw [h]
theorem callsE_succ {M : Mod} {ps : List (List Int)} {i j : Nat} {f : Fn} {s : St} (h : (sitesOf (flatT 1000 0 f.body))[j]? = some s) : callsE M ps i f (j + 1) = callsE M ps i f j ++ edgesOf i j (whomN M i f (siteB s).1 (siteB s).2 ps) := by
  unfold callsE
  rw [fm_succ]
  congr 1
  unfold oneCall
  rw [h]
theorem edgesOf_snoc {fn j k : Nat} {ws : List Int} {t : Int} (h : ws[k]? = some t) : edgesOf fn j (ws.take (k + 1)) = edgesOf fn j (ws.take k) ++ [((fn : Int), (j : Int), t)] := by
  obtain ⟨hi, e⟩ := List.getElem?_eq_some_iff.1 h
  unfold edgesOf
  rw [List.take_succ_eq_append_getElem hi, e, List.map_append]
  rfl
theorem rawE_room {M : Mod} {ps : List (List Int)} {i j k n N : Nat} {f : Fn} {s : St} (hR : (rawE M ps n).length ≤ N) (hi : i < n) (hf : M.funcs[i]? = some f) (hs : (sitesOf (flatT 1000 0 f.body))[j]? = some s) (hk : k ≤ (whomN M i f (siteB s).1 (siteB s).2 ps).length) :
    (rawE M ps i ++ callsE M ps i f j ++ edgesOf i j ((whomN M i f (siteB s).1 (siteB s).2 ps).take k)).length ≤ N := by
  have h1 := fm_le (oneFn M ps) (show i + 1 ≤ n by omega)
  have h2 := congrArg List.length (rawE_succ (ps := ps) hf)
  have hj := (List.getElem?_eq_some_iff.1 hs).1
  have h3 := fm_le (oneCall M ps i f) (show j + 1 ≤ _ from hj)
  have h4 := congrArg List.length (callsE_succ (M := M) (ps := ps) (i := i) hs)
  unfold rawE at h2 hR ⊢
  unfold callsE at h2 h4 ⊢
  rw [List.length_append] at h2 h4
  rw [List.length_append, List.length_append]
  have h5 : (edgesOf i j ((whomN M i f (siteB s).1 (siteB s).2 ps).take k)).length ≤ (edgesOf i j (whomN M i f (siteB s).1 (siteB s).2 ps)).length := by
    unfold edgesOf
    simp
    omega
  omega
theorem callsE_zero (M : Mod) (ps : List (List Int)) (i : Nat) (f : Fn) : callsE M ps i f 0 = [] := rfl
theorem edgesOf_zero (i j : Nat) (ws : List Int) : edgesOf i j (ws.take 0) = [] := rfl
theorem info68e : (Try.prog.info? 68).map (fun i => (i.zero, i.size, i.bytes)) = some (some (.agg #[.int .i64 0, .int .i64 0, .int .i64 0]), 3, 24) := by kernel_rfl
/-- The seven cells of a site. -/
theorem seven_cells {w0 w : World} {B n c g i : Nat} {xs : List Value} {l : List St} {s : St} (h : w.ownsRow B 46 7 (.slice (some ⟨g, 0, none⟩) n c) n xs) (hI : StsAt w0 xs l) (hi : l[i]? = some s) :
    ∃ (k ak ai bk bi : Int) (aa ba : Option Addr) (al ac bl bc : Nat), siteB s = (bk, bi) ∧
      w.cell? ⟨g, i * 7, none⟩ = some (.int .u8 k) ∧ w.cell? ⟨g, i * 7 + 1, none⟩ = some (.int .u8 ak) ∧ w.cell? ⟨g, i * 7 + 2, none⟩ = some (.int .i64 ai) ∧
      w.cell? ⟨g, i * 7 + 3, none⟩ = some (.int .u8 bk) ∧ w.cell? ⟨g, i * 7 + 4, none⟩ = some (.int .i64 bi) ∧ w.cell? ⟨g, i * 7 + 5, none⟩ = some (.slice aa al ac) ∧ w.cell? ⟨g, i * 7 + 6, none⟩ = some (.slice ba bl bc) := by
  obtain ⟨vs, k3, k4⟩ := hI.2 i s hi
  obtain ⟨k, ak, ai, bk, bi, args, body⟩ := s
  obtain ⟨aa, al, ac, ba, bl, bc, rfl, h1, h2⟩ := (cells7_def _ _ _ _ _ _ _ _ _).1 k3
  exact ⟨k, ak, ai, bk, bi, aa, ba, al, ac, bl, bc, rfl, (row_cell h (k4 0 _ rfl)).1, (row_cell h (k4 1 _ rfl)).1, (row_cell h (k4 2 _ rfl)).1, (row_cell h (k4 3 _ rfl)).1, (row_cell h (k4 4 _ rfl)).1, (row_cell h (k4 5 _ rfl)).1, (row_cell h (k4 6 _ rfl)).1⟩
/-- What Edges hands back, where no two of them are one. -/
def Edged (w : World) (l : List Ed) (e : Ending) (w' : World) : Prop := ∃ A n c, e = .returned (.slice A n c) ∧ n = l.length ∧ w'.ownsRow w.heap.size 68 3 (.slice A n c) n (encE l) ∧ Below w.heap.size w w'
set_option maxRecDepth 20000 in
set_option maxHeartbeats 4000000 in
theorem edges_calls (w : World) (mv pv : Value) (M : Mod) (ps : List (List Int)) (hm : ReadsM w mv M) (hp : ReadsP w pv ps) (hN : ∀ f ∈ M.funcs, (flatT 1000 0 f.body).length ≤ 1048576) (hR : (rawE M ps M.funcs.length).length ≤ 1099511627776)
    (hne : ∀ (j : Nat) x y, (sortE (rawE M ps M.funcs.length))[j]? = some x → (sortE (rawE M ps M.funcs.length))[j + 1]? = some y → y ≠ x) : Calls Try.prog 25 #[mv, pv] w (Edged w (sortE (rawE M ps M.funcs.length))) := by
  obtain ⟨sv, gv, fv, ev, rfl, h1, h2, h3, h4⟩ := id hm
  obtain ⟨sa, sc, rfl, _⟩ := h1.shape
  obtain ⟨ga, gc, rfl, hg1⟩ := h2.shape
  obtain ⟨fa, fc, rfl, hfn⟩ := h3.shape
  obtain ⟨ea, ec, rfl, _⟩ := h4.shape
  obtain ⟨pa, pn, pc, rfl, hpn, hpl, hpp⟩ := id hp
  have HM := Lib.hid hm
  have HP := Lib.hid hp
  have HNN := Lib.hid hN
  have HRR := Lib.hid hR
  have HNE := Lib.hid hne
  have HF := Lib.hid h3
  obtain ⟨L, hL⟩ : ∃ L, L = sortE (rawE M ps M.funcs.length) := ⟨_, rfl⟩
  rw [← hL] at HNE ⊢
  have HL := Lib.hid hL
  clear hm hp hN hR hne h1 h2 h3 h4 hpn hpp hL
  obtain ⟨sn, hsn⟩ : ∃ n, n = M.strings.length := ⟨_, rfl⟩
  obtain ⟨gn, hgn⟩ : ∃ n, n = M.globals.length := ⟨_, rfl⟩
  obtain ⟨n, hnn⟩ : ∃ n, n = M.funcs.length := ⟨_, rfl⟩
  obtain ⟨en, hen⟩ : ∃ n, n = M.entries.length := ⟨_, rfl⟩
  rw [← hnn] at hfn HF HRR HL HM ⊢
  rw [← hgn] at hg1 HM ⊢
  rw [← hsn] at HM ⊢
  rw [← hen] at HM ⊢
  have HNL := Lib.hid hnn.symm
  clear hnn hgn hsn hen
  go_enter Try.func25, Try.ntmps25
  have m0 := heap_alloc_new w (.cells #[.slice sa sn sc, .slice ga gn gc, .slice fa n fc, .slice ea en ec] 32)
  have bw : Below w.heap.size w (w.alloc (.cells #[.slice sa sn sc, .slice ga gn gc, .slice fa n fc, .slice ea en ec] 32)) := (Below.refl _ _).alloc (Nat.le_refl _) _
  go_wp2_with fail
  refine (newMap_calls (w.alloc (.cells #[.slice sa sn sc, .slice ga gn gc, .slice fa n fc, .slice ea en ec] 32)) _ _ _ _ M (HM.out.sub (sub_below bw))).mono ?_
  rintro e w1 ⟨vv, cv, rfl, hv, hc, hb1⟩
  have hwb : Below w.heap.size w w1 := bw.trans (hb1.mono (by simp))
  have hX : MapAt w1 (.agg #[.slice sa sn sc, .slice ga gn gc, .slice fa n fc, .slice ea en ec, vv, cv, .int .i64 (firstN M M.funcs.length : Nat), .int .i64 (firstN M M.funcs.length : Nat)]) M := ⟨_, _, _, _, _, _, rfl, HM.out.sub (sub_below hwb), hv, hc⟩
  obtain ⟨va, vc, rfl, _⟩ := hv.shape
  obtain ⟨ca, cc, rfl, _⟩ := hc.shape
  rw [firsts_length] at hX ⊢
  obtain ⟨q, hq⟩ : ∃ q, q = firstN M M.funcs.length := ⟨_, rfl⟩
  rw [← hq, HNL.out] at hX ⊢
  clear hq
  have m0' := blk_below m0 hb1
  go_upto_region 3 with (fail)
  have m5 := heap_alloc_new w1 (.cells #[.slice sa sn sc, .slice ga gn gc, .slice fa n fc, .slice ea en ec, .slice va n vc, .slice ca n cc, .int .i64 (q : Nat), .int .i64 (q : Nat)] 95)
  have m00 := blk_alloc m0' (.cells #[.slice sa sn sc, .slice ga gn gc, .slice fa n fc, .slice ea en ec, .slice va n vc, .slice ca n cc, .int .i64 (q : Nat), .int .i64 (q : Nat)] 95)
  have hb0 : Below w.heap.size w (w1.alloc (.cells #[.slice sa sn sc, .slice ga gn gc, .slice fa n fc, .slice ea en ec, .slice va n vc, .slice ca n cc, .int .i64 (q : Nat), .int .i64 (q : Nat)] 95)) := hwb.alloc hwb.size _
  have hX0 := hX.sub (sub_below ((Below.refl w1.heap.size w1).alloc (Nat.le_refl _) (.cells #[.slice sa sn sc, .slice ga gn gc, .slice fa n fc, .slice ea en ec, .slice va n vc, .slice ca n cc, .int .i64 (q : Nat), .int .i64 (q : Nat)] 95)))
  obtain ⟨W0, hW0⟩ : ∃ W0, W0 = w1.alloc (.cells #[.slice sa sn sc, .slice ga gn gc, .slice fa n fc, .slice ea en ec, .slice va n vc, .slice ca n cc, .int .i64 (q : Nat), .int .i64 (q : Nat)] 95) := ⟨_, rfl⟩
  rw [← hW0] at m5 m00 hb0 hX0 ⊢
  have H0 := Lib.hid m00
  have H5 := Lib.hid m5
  have HB0 := Lib.hid hb0
  have HX0 := Lib.hid hX0
  have HF0 := Lib.hid (HF.out.sub (sub_below hb0))
  have HP0 := Lib.hid (HP.out.sub (sub_below hb0))
  clear m0 bw hwb hX m0' m5 m00 hb0 hX0 hW0 hv hc hb1 HF HP HM
  obtain ⟨c0, f0, z0⟩ := blk3 H0.out
  go_wp2_with fail
  clear c0 f0 z0
  go_loopw [6, 18] (fun v6 v18 wr => ∃ (i m : Nat) (A : Option Addr) (cp : Nat), i ≤ n ∧ v18 = .int .i64 (i : Nat) ∧ v6 = .slice A m cp ∧ Hid (m = (rawE M ps i).length) ∧ Hid (Owns wr W0.heap.size [⟨68, 3, .slice A m cp, m, encE (rawE M ps i)⟩]) ∧ Hid (Below W0.heap.size W0 wr)) (fun _ iv _ => n - (intOf iv).toNat)
  case atStart => exact ⟨0, 0, none, 0, Nat.zero_le _, rfl, rfl, rfl, (Owns.nil _ _).none_ 68 3, Below.refl _ _⟩
  case round =>
    obtain ⟨i, m, A, cp, hi, rfl, rfl, HMM, HO, HB⟩ := hrel
    by_cases hlt : i < n
    · have hltI : (i : Int) < (n : Int) := by omega
      have hi0 : (0 : Int) ≤ (i : Int) := by omega
      obtain ⟨b, off, f, lv, sv, bv, rfl, hf, ⟨k0, k1, k2, k3, k4⟩, hlv, hsv, hbv⟩ := (HF0.out.sub (sub_below HB.out)).at hlt
      obtain ⟨ba, bl, bc, rfl, _, hbb⟩ := hbv
      have HFF := Lib.hid hf
      have HBB := Lib.hid hbb
      have HFM := Lib.hid (List.mem_of_getElem? hf)
      obtain ⟨la, lc, rfl, _⟩ := hlv.shape
      obtain ⟨ia, ic, rfl, _⟩ := hsv.shape
      clear hlv hsv hf hbb
      go_wp2_with fail
      refine (sites_calls _ _ _ _ _ ba bl bc f.body (HBB.out.below ((Below.refl _ _).alloc (Nat.le_refl _) _)) (HNN.out f HFM.out)).mono ?_
      rintro e w2 ⟨SA, SN, SC, xs, rfl, hsn, hso, hst, hb2⟩
      have HB2 : Hid (Below W0.heap.size W0 w2) := Lib.hid ((HB.out.alloc HB.out.size _).trans (hb2.mono (by have := HB.out.size; simp; omega)))
      have HO2 : Hid (Owns w2 W0.heap.size [⟨46, 7, .slice SA SN SC, SN, xs⟩, ⟨68, 3, .slice A m cp, m, encE (rawE M ps i)⟩]) := Lib.hid ((HO.out.below ((Below.refl _ _).alloc (Nat.le_refl _) _)).new hb2 (r := ⟨46, 7, .slice SA SN SC, SN, xs⟩) hso (by have := HB.out.size; simp; omega))
      have HST := Lib.hid hst
      have HSN := Lib.hid hsn
      have hN6 : SN ≤ 1048576 := by
        have h1 := HNN.out f HFM.out
        have h2 := sitesOf_len (flatT 1000 0 f.body) (flatT 1000 0 f.body).length
        rw [List.take_length] at h2
        omega
      clear hso hst hsn hb2 k0 k1 k2 k3 k4 HO HB HBB
      go_wp2_with fail
      go_loopw [6, 26] (fun v6 v26 wr => ∃ (j m : Nat) (A : Option Addr) (cp : Nat), j ≤ SN ∧ v26 = .int .i64 (j : Nat) ∧ v6 = .slice A m cp ∧ Hid (m = (rawE M ps i ++ callsE M ps i f j).length) ∧ Hid (Owns wr W0.heap.size [⟨46, 7, .slice SA SN SC, SN, xs⟩, ⟨68, 3, .slice A m cp, m, encE (rawE M ps i ++ callsE M ps i f j)⟩]) ∧ Hid (Below W0.heap.size W0 wr)) (fun _ iv _ => SN - (intOf iv).toNat)
      case atStart => exact ⟨0, m, A, cp, Nat.zero_le _, rfl, rfl, (by show m = _; rw [callsE_zero, List.append_nil]; exact HMM.out), (by show Owns _ _ _; rw [callsE_zero, List.append_nil]; exact HO2.out), HB2.out⟩
      case round =>
        clear HMM HO2 HB2
        obtain ⟨j, m, A, cp, hj, rfl, rfl, HMM, HO, HB⟩ := hrel
        by_cases hltj : j < SN
        · have hltJ : (j : Int) < (SN : Int) := by omega
          have hj0 : (0 : Int) ≤ (j : Int) := by omega
          obtain ⟨gS, rfl, _, _⟩ := own_addr (HO.out.at (i := 0) rfl) (by omega)
          obtain ⟨s, hs⟩ : ∃ s, (sitesOf (flatT 1000 0 f.body))[j]? = some s := ⟨_, List.getElem?_eq_getElem (by rw [← HSN.out]; exact hltj)⟩
          obtain ⟨sk, ak, ai, bk, bi, aa, b2, al, ac, l2, c2, hsb, x0, x1, x2, x3, x4, x5, x6⟩ := seven_cells (HO.out.at (i := 0) rfl) HST.out hs
          have HS := Lib.hid hs
          have HSB := Lib.hid hsb
          obtain ⟨c5, f5, z5⟩ := blk3 (blk_below H5.out HB.out)
          clear hs hsb
          go_wp2_with fail
          refine (whom_calls _ _ M i f sk ak ai bk bi aa b2 al ac l2 c2 (.slice pa pn pc) ps (HX0.out.sub (sub_below (HB.out.alloc HB.out.size _))) HFF.out (HP0.out.sub (sub_below (HB.out.alloc HB.out.size _)))).mono ?_
          rintro e w3 ⟨WA, WN, WC, rfl, hwn, hwN, hwo, hb3⟩
          obtain ⟨ws, hws⟩ : ∃ ws, ws = whomN M i f bk bi ps := ⟨_, rfl⟩
          have HWS : Hid (ws = whomN M i f (siteB s).1 (siteB s).2 ps) := Lib.hid (by rw [HSB.out]; exact hws)
          rw [← hws] at hwn hwo
          have HB3 : Hid (Below W0.heap.size W0 w3) := Lib.hid ((HB.out.alloc HB.out.size _).trans (hb3.mono (by have := HB.out.size; simp; omega)))
          have HO3 : Hid (Owns w3 W0.heap.size [⟨3, 1, .slice WA WN WC, WN, ints ws⟩, ⟨46, 7, .slice (some ⟨gS, 0, none⟩) SN SC, SN, xs⟩, ⟨68, 3, .slice A m cp, m, encE (rawE M ps i ++ callsE M ps i f j)⟩]) := Lib.hid ((HO.out.below ((Below.refl _ _).alloc (Nat.le_refl _) _)).new hb3 (r := ⟨3, 1, .slice WA WN WC, WN, ints ws⟩) hwo (by have := HB.out.size; simp; omega))
          have HWN := Lib.hid hwn
          clear hwo hwn hb3 hws x0 x1 x2 x3 x4 x5 x6 c5 f5 z5 HO HB
          go_wp2_with fail
          go_loopw [6, 37] (fun v6 v37 wr => ∃ (k m : Nat) (A : Option Addr) (cp : Nat), k ≤ WN ∧ v37 = .int .i64 (k : Nat) ∧ v6 = .slice A m cp ∧ Hid (m = (rawE M ps i ++ callsE M ps i f j ++ edgesOf i j (ws.take k)).length) ∧ Hid (Owns wr W0.heap.size [⟨3, 1, .slice WA WN WC, WN, ints ws⟩, ⟨46, 7, .slice (some ⟨gS, 0, none⟩) SN SC, SN, xs⟩, ⟨68, 3, .slice A m cp, m, encE (rawE M ps i ++ callsE M ps i f j ++ edgesOf i j (ws.take k))⟩]) ∧ Hid (Below W0.heap.size W0 wr)) (fun _ iv _ => WN - (intOf iv).toNat)
          case atStart => exact ⟨0, m, A, cp, Nat.zero_le _, rfl, rfl, (by show m = _; rw [edgesOf_zero, List.append_nil]; exact HMM.out), (by show Owns _ _ _; rw [edgesOf_zero, List.append_nil]; exact HO3.out), HB3.out⟩
          case round =>
            clear HMM HO3 HB3
            obtain ⟨k, m, A, cp, hk, rfl, rfl, HMM, HO, HB⟩ := hrel
            by_cases hltk : k < WN
            · have hltK : (k : Int) < (WN : Int) := by omega
              have hk0 : (0 : Int) ≤ (k : Int) := by omega
              obtain ⟨gW, rfl, _, _⟩ := own_addr (HO.out.at (i := 0) rfl) (by omega)
              obtain ⟨t, ht⟩ : ∃ t, ws[k]? = some t := ⟨_, List.getElem?_eq_getElem (by rw [← HWN.out]; exact hltk)⟩
              have kt := (row_cell (HO.out.at (i := 0) rfl) (k := k) (v := .int .i64 t) (by show (ints ws)[k]? = _; unfold ints; rw [List.getElem?_map, ht]; rfl)).1
              have HT := Lib.hid (edgesOf_snoc (fn := i) (j := j) ht)
              have hroom : m ≤ 1099511627776 := by
                have h1 := rawE_room (k := k) HRR.out hlt HFF.out HS.out (by rw [← HWS.out, ← HWN.out]; omega)
                rw [← HWS.out, ← HMM.out] at h1
                exact h1
              clear ht
              go_wp2_with (at_builtin; refine append_at_list (B := W0.heap.size) (W := wr.alloc (.cells #[.int .i64 (i : Nat), .int .i64 (j : Nat), .int .i64 t] 68)) rfl 2 _ _ _ 64 68 (.agg #[.int .i64 0, .int .i64 0, .int .i64 0]) 3 24 rfl Try.underlying64 info68e rfl (by decide) (.slice A m cp) m _ rfl (HO.out.below ((Below.refl _ _).alloc (Nat.le_refl _) _)) rfl ⟨wr.heap.size, 0, none⟩ 1 1 (edV ((i : Int), (j : Int), t)) rfl rfl (new_cells _ _ _ _) (edV_one _) (by have := HB.out.size; simp; omega) (by omega) (by omega) ?_; intro A1 cp1 w6 hg; have HB6 := Lib.hid ((HB.out.alloc HB.out.size _).trans hg.below); have HO6 := Lib.hid hg.owns; clear hg kt)
              refine ⟨⟨k + 1, m + 1, A1, cp1, by omega, by go_num, rfl, ?_, ?_, HB6.out⟩, by simp [intOf]; omega⟩
              · show _ = _
                rw [HT.out, ← List.append_assoc, List.length_append, ← HMM.out]; rfl
              · show Owns _ _ _
                rw [HT.out, ← List.append_assoc, encE_append]
                exact HO6.out
            · obtain rfl : WN = k := by omega
              have hnn : ¬ (WN : Int) < (WN : Int) := by omega
              have HC := Lib.hid (callsE_succ (M := M) (ps := ps) (i := i) HS.out)
              have HTK : Hid (ws.take WN = ws) := Lib.hid (List.take_of_length_le (by rw [← HWN.out]; exact Nat.le_refl _))
              go_wp2_with fail
              refine ⟨⟨j + 1, m, A, cp, by omega, by go_num, rfl, ?_, ?_, HB.out⟩, by simp [intOf]; omega⟩
              · show _ = _
                rw [HC.out, ← HWS.out, ← List.append_assoc, HMM.out, HTK.out]
              · show Owns _ _ _
                have h1 := HO.out.tail
                rw [HTK.out] at h1
                rw [HC.out, ← HWS.out, ← List.append_assoc]
                exact h1
        · obtain rfl : SN = j := by omega
          have hnn : ¬ (SN : Int) < (SN : Int) := by omega
          have HR := Lib.hid (rawE_succ (ps := ps) HFF.out)
          go_wp2_with fail
          refine ⟨⟨i + 1, m, A, cp, by omega, by go_num, rfl, ?_, ?_, HB.out⟩, by simp [intOf]; omega⟩
          · show _ = _
            rw [HR.out, ← HSN.out]; exact HMM.out
          · show Owns _ _ _
            rw [HR.out, ← HSN.out]; exact HO.out.tail
    · obtain rfl : n = i := by omega
      have hnn : ¬ (n : Int) < (n : Int) := by omega
      have hm40 : m ≤ 1099511627776 := by have h1 := HRR.out; rw [← HMM.out] at h1; exact h1
      go_wp2_with fail
      refine (sortE_calls wr W0.heap.size A m cp (rawE M ps n) HMM.out.symm hm40 HO.out.head).mono ?_
      rintro e w4 ⟨rfl, ho4, hg4⟩
      rw [← HL.out] at ho4
      have HB4 : Hid (Below W0.heap.size W0 w4) := Lib.hid (HB.out.grown hg4 HB.out.size (fun k hk => (World.ownsRow.lt HO.out.head k hk).1))
      have HO4 := Lib.hid ho4
      have HLN : Hid (L.length = m) := Lib.hid (by rw [HL.out, sortE_len]; exact HMM.out.symm)
      clear ho4 hg4 HO HB
      go_wp2_with fail
      refine (compact_none w4 W0.heap.size A m cp L HLN.out (by omega) HO4.out HNE.out).mono ?_
      rintro e w5 ⟨rfl, mm, rfl⟩
      go_wp2_with fail
      go_ret
      exact ⟨A, m, cp, rfl, HLN.out.symm, own_base (own_below HO4.out ⟨rfl, rfl, rfl, Nat.le_refl _, fun _ _ => rfl⟩) HB0.out.size, below_drewN' (HB0.out.trans (HB4.out.mono HB0.out.size)) mm⟩
end Go.Proofs.Ytjgijbaboekghaa

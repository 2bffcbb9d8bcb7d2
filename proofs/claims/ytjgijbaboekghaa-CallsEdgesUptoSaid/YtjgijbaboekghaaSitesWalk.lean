/-
  CallsSites (function 6): a function's calls, in order, those in blocks too.
-/
import Derived.Test.YtjgijbaboekghaaMake
import Derived.Test.YtjgijbaboekghaaMakeR
import Derived.Test.YtjgijbaboekghaaSites
import Derived.Test.YtjgijbaboekghaaRAwake
import Derived.Test.YtjgijbaboekghaaRefFlat
import Derived.Test.YtjgijbaboekghaaRefSame
import Derived.IntWalk
set_option linter.unusedSimpArgs false
set_option linter.unusedVariables false
namespace Go.Proofs.Ytjgijbaboekghaa
open Go.RowKit
theorem ReadsBody.part {w : World} {B n c g m : Nat} {xs : List Value} {l : List St} {s : St} (h : w.ownsRow B 46 7 (.slice (some ⟨g, 0, none⟩) n c) n xs) (hs : StsAt w xs l) (hm : l[m]? = some s) : ReadsBody w (some ⟨g, m * 7, none⟩) 1 [s] := by
  refine ⟨rfl, by decide, fun _ => ⟨g, m * 7, rfl, CellsAll.of fun i t hi => ?_⟩⟩
  match i, hi with
  | 0, hi =>
    simp at hi
    subst hi
    obtain ⟨vs, h1, h2⟩ := hs.2 m s hm
    exact ⟨vs, h1, fun j v hv => by rw [Nat.zero_mul, Nat.add_zero]; exact (row_cell h (h2 j v hv)).1⟩
  | i + 1, hi => simp at hi
theorem sitesOf_at {l : List (Nat × St)} {k m : Nat} {s : St} (h : sitesOf (l.take (k + 1)) = sitesOf (l.take k) ++ [s]) (hm : m = (sitesOf (l.take k)).length) : (sitesOf l)[m]? = some s := by
  have e : sitesOf l = sitesOf (l.take (k + 1)) ++ sitesOf (l.drop (k + 1)) := by
    have := congrArg sitesOf (List.take_append_drop (k + 1) l)
    rw [← this]
    unfold sitesOf
    rw [List.filter_append, List.map_append]
  rw [e, h, hm, List.append_assoc, List.getElem?_append_right (Nat.le_refl _), Nat.sub_self]
  rfl
theorem sitesOf_take_le (l : List (Nat × St)) (i : Nat) : (sitesOf (l.take i)).length ≤ (sitesOf l).length := by
  have h := congrArg List.length (congrArg sitesOf (List.take_append_drop i l))
  unfold sitesOf at h ⊢
  rw [List.filter_append, List.map_append, List.length_append] at h
  omega
/-- True, and nothing that lay there has turned. -/
def Yes (w : World) (e : Ending) (w' : World) : Prop := e = .returned (.bool true) ∧ Below w.heap.size w w'
set_option maxRecDepth 100000 in
set_option maxHeartbeats 4000000 in
theorem callsSites_walk (w : World) (g f e : Nat) (aa : Option Addr) (an ac : Nat) (acts : List (Nat × Nat × Nat × Nat)) (hg : g < 256) (hf : f < 256) (he : e < 256) (ha : ReadsActs w aa an acts) :
    Calls Try.prog 6 #[.agg #[.int .u8 g, .int .u8 f, .int .u8 e, .slice aa an ac]] w (Yes w) := by
  have HA := Lib.hid ha
  have han := ha.2.1
  clear ha
  go_enter Try.func6, Try.ntmps6
  go_wp2_with fail
  refine (R.awake_calls _).mono ?_
  rintro e1 w1 ⟨rfl, hb1⟩
  have hbx := ((Below.refl w.heap.size w).alloc (Nat.le_refl _) (.cells #[.int .u8 g, .int .u8 f, .int .u8 e, .slice aa an ac] 25)).trans (hb1.mono (by simp))
  obtain ⟨c1, f1, z1⟩ := blk3 (blk_below (heap_alloc_new w (.cells #[.int .u8 g, .int .u8 f, .int .u8 e, .slice aa an ac] 25)) hb1)
  have HB1 := Lib.hid hbx
  clear hb1 hbx
  go_wp2_with fail
  refine (make_calls _ g f e aa an ac acts [] (by simp) hg hf he (HA.out.sub (sub_below HB1.out))).mono ?_
  rintro e2 w2 ⟨sv, gv, A, n, cp, ev, xs, rfl, hn, hn1, hb2, ho, hfn, hs, hgl, hen⟩
  obtain ⟨sa, sc, rfl, _⟩ := hs.shape
  obtain ⟨ga, gc, rfl, _⟩ := hgl.shape
  obtain ⟨ea, ec, rfl, _⟩ := hen.shape
  have hrf := ReadsF.own ho hn.symm hn1 (hfn.sub (sans_sub _ _))
  obtain ⟨M, hM⟩ : ∃ M, M = makeM ⟨g, f, e, acts⟩ := ⟨_, rfl⟩
  have HFL := Lib.hid (makeM_flat ⟨g, f, e, acts⟩ (by rw [show (Dr.mk g f e acts).acts.length = an from HA.out.1]; exact han))
  rw [← hM] at hrf hn HFL ⊢
  have HRF := Lib.hid hrf
  have HN := Lib.hid hn
  have HB2 := Lib.hid (HB1.out.trans (hb2.mono HB1.out.size))
  clear hb2 ho hfn hs hgl hen hrf hn hM c1 f1 z1
  go_wp2
  have H3 := Lib.hid (heap_alloc_new w2 (.cells #[.slice sa M.strings.length sc, .slice ga M.globals.length gc, .slice A n cp, .slice ea M.entries.length ec] 32))
  have HR3 := Lib.hid (ReadsF.sub (sub_below ((Below.refl w2.heap.size w2).alloc (Nat.le_refl _) (.cells #[.slice sa M.strings.length sc, .slice ga M.globals.length gc, .slice A n cp, .slice ea M.entries.length ec] 32))) HRF.out)
  have HB3 := Lib.hid (HB2.out.alloc HB2.out.size (.cells #[.slice sa M.strings.length sc, .slice ga M.globals.length gc, .slice A n cp, .slice ea M.entries.length ec] 32))
  clear HRF HB2
  go_loopw [4] (fun iv wr => ∃ i : Nat, i ≤ n ∧ iv = .int .i64 i ∧ Hid (wr.heap[w2.heap.size]? = some (.cells #[.slice sa M.strings.length sc, .slice ga M.globals.length gc, .slice A n cp, .slice ea M.entries.length ec] 32)) ∧ Hid (ReadsF wr (.slice A n cp) M.funcs) ∧ Hid (Below w.heap.size w wr)) (fun iv _ => n - (intOf iv).toNat)
  case atStart => exact ⟨0, Nat.zero_le _, rfl, H3.out, HR3.out, HB3.out⟩
  case round =>
    clear H3 HR3 HB3
    obtain ⟨i, hi, rfl, H3, HR, HB⟩ := hrel
    obtain ⟨c3, f3, z3⟩ := blk3 H3.out
    by_cases hlt : i < n
    · obtain ⟨b, off, fn, lv, sv2, bv, rfl, hff, ⟨x0, x1, x2, x3, x4⟩, rl, rs, rb⟩ := HR.out.at hlt
      obtain ⟨la, lc, rfl, _⟩ := rl.shape
      obtain ⟨ta, tc, rfl, _⟩ := rs.shape
      obtain ⟨ba, bn, bc, rfl, hbn, rb⟩ := rb
      have hfl := HFL.out fn (List.mem_of_getElem? hff)
      have RB := Lib.hid rb
      have HFN := Lib.hid hfl.1
      clear hff rl rs rb hfl
      go_wp2_with fail
      refine (sites_calls wr _ _ _ _ ba bn bc fn.body RB.out (by have := HFN.out; omega)).mono ?_
      rintro e3 w3 ⟨lA, ln, lcp, lxs, rfl, hln, hlo, hlst, hb3⟩
      have hcap : ln ≤ lcp := by obtain ⟨_, _, e, h, _⟩ := own_shape hlo; injection e with _ _ e3; omega
      have hsub := sub_below hb3
      have y4 := hsub _ _ x4
      obtain ⟨c3', f3', z3'⟩ := blk3 (blk_below H3.out hb3)
      have HLO := Lib.hid hlo
      have HLST := Lib.hid hlst
      have HLN := Lib.hid hln
      have HB4 := Lib.hid hb3
      have RB3 := Lib.hid (RB.out.sub hsub)
      clear hlo hlst hln hsub hb3 x0 x1 x2 x3 x4 c3 f3 z3
      go_wp2_with fail
      refine (rflat12_calls w3 fn.body ba bn bc RB3.out (by have := HFN.out; omega)).mono ?_
      rintro e4 w4 ⟨v4, K, rfl, hrl⟩
      obtain ⟨ixs, ho, hI⟩ := hrl.own
      obtain ⟨iA, icp, rfl, _, _⟩ := own_shape ho
      obtain ⟨L, hL⟩ : ∃ L, L = flatT 1000 0 fn.body := ⟨_, rfl⟩
      have hlen := hrl.len
      have hb5 := hrl.below
      rw [← hL] at hI hlen
      have HLL := Lib.hid hL
      have HLEN := Lib.hid hlen
      have HI := Lib.hid hI
      have HO := Lib.hid ho
      have HLO4 := Lib.hid (own_below HLO.out hb5)
      have HLST4 := Lib.hid (HLST.out.sub (sub_below hb5))
      have HB5 := Lib.hid hb5
      have hKb : K ≤ 180 := by have := HFN.out; rw [← HLL.out, HLEN.out] at this; omega
      have HLN2 := Lib.hid (show ln = (sitesOf L).length by rw [HLN.out, HLL.out])
      have hln180 : ln ≤ 180 := by have := sitesOf_len L K; rw [List.take_of_length_le (by rw [HLEN.out]; exact Nat.le_refl _)] at this; have := HLN2.out; omega
      clear hrl ho hI hlen hb5 hL y4 c3' f3' z3'
      go_wp2
      go_loopw [6, 8] (fun v6 v8 wr => ∃ (k m : Nat), k ≤ K ∧ v8 = .int .i64 k ∧ v6 = .int .i64 m ∧ Hid (m = (sitesOf (L.take k)).length) ∧ Hid (Below w4.heap.size w4 wr)) (fun _ v8 _ => K - (intOf v8).toNat)
      case atStart => exact ⟨0, 0, Nat.zero_le _, rfl, rfl, rfl, Below.refl _ _⟩
      case round =>
        obtain ⟨k, m, hk, rfl, rfl, HM, HBQ⟩ := hrel
        by_cases hltk : k < K
        · obtain ⟨gI, rfl, _, _⟩ := own_addr HO.out (by omega)
          obtain ⟨⟨d, s⟩, hs⟩ : ∃ x, L[k]? = some x := ⟨_, List.getElem?_eq_getElem (by rw [HLEN.out]; exact hltk)⟩
          obtain ⟨sk, ak, ai, bk, bi, aa2, b2, al, ac2, bl, b2c, h7, hkk, x0, x1, x2, x3, x4, x5, x6, x7, x8⟩ := nine_cells (own_below HO.out HBQ.out) HI.out hs
          have H7 := Lib.hid h7
          have HS := Lib.hid hs
          have HK := Lib.hid hkk
          clear h7 hs hkk
          by_cases hk5 : sk = 5
          · subst hk5
            have HSN := Lib.hid (show sitesOf (L.take (k + 1)) = sitesOf (L.take k) ++ [s] by rw [sitesOf_snoc HS.out, HK.out]; rfl)
            have hm : m < ln := by
              have h1 := sitesOf_take_le L (k + 1)
              rw [HSN.out, List.length_append, ← HM.out, ← HLN2.out] at h1
              simp at h1
              omega
            have hge1 : decide (ln ≤ m) = false := decide_eq_false (by omega)
            have hge2 : decide ((ln : Int) ≤ (m : Int)) = false := decide_eq_false (by omega)
            have hw0 : 0 ≤ (m : Int) := Int.natCast_nonneg _
            have hadd : IntKind.i64.wrap ((m : Int) + 1) = (m : Int) + 1 := IntWalk.i64_in _ (by omega)
            obtain ⟨gL, rfl, _, _⟩ := own_addr HLO4.out (by omega)
            have hc1 : 0 ≤ (m : Int) + 1 ∧ (m : Int) + 1 ≤ (lcp : Int) := by omega
            have hc2 : ¬ lcp = m := by omega
            go_wp2
            refine wp_region_HL (S := (fun w' => (w'.cell? ⟨gI, k * 9 + 2, none⟩ = some (.int .u8 5) ∧ w'.cell? ⟨gI, k * 9 + 3, none⟩ = some (.int .u8 ak) ∧ w'.cell? ⟨gI, k * 9 + 4, none⟩ = some (.int .i64 ai) ∧ w'.cell? ⟨gI, k * 9 + 5, none⟩ = some (.int .u8 bk) ∧ w'.cell? ⟨gI, k * 9 + 6, none⟩ = some (.int .i64 bi) ∧ w'.cell? ⟨gI, k * 9 + 7, none⟩ = some (.slice aa2 al ac2) ∧ w'.cell? ⟨gI, k * 9 + 8, none⟩ = some (.slice b2 bl b2c)))) 18 (by kernel_rfl) (by kernel_rfl) (by kernel_rfl) (by kernel_rfl) (by decide) ⟨x2, x3, x4, x5, x6, x7, x8⟩ (fun hHeld => ?_)
            refine HL.take_ (i := 0) (oi := { dst := some 53, op := .move (.tmp 6), type := 3, pos := "law.go:56", after := #[], guard := none }) (v := ?_) rfl (by decide) (by kernel_rfl) (by kernel_rfl) (fun _ _ _ h => h) (Or.inl ⟨by rfl, ?_⟩) (by assumption) ?_
            rotate_left
            · intro w hSw
              (try dsimp only at hSw)
              obtain ⟨h1, h2, h3, h4, h5, h6, h7⟩ := hSw; (go_simp; try (with_reducible rfl))
            try simp only [Act.put, List.setIfInBounds_toArray, List.set_cons_zero, List.set_cons_succ]
            refine HL.take_ (i := 1) (oi := { dst := some 54, op := .move (.tmp 5), type := 22, pos := "law.go:56", after := #[], guard := none }) (v := ?_) rfl (by decide) (by kernel_rfl) (by kernel_rfl) (fun _ _ _ h => h) (Or.inl ⟨by rfl, ?_⟩) (by assumption) ?_
            rotate_left
            · intro w hSw
              (try dsimp only at hSw)
              obtain ⟨h1, h2, h3, h4, h5, h6, h7⟩ := hSw; (go_simp; try (with_reducible rfl))
            try simp only [Act.put, List.setIfInBounds_toArray, List.set_cons_zero, List.set_cons_succ]
            refine HL.take_ (i := 2) (oi := { dst := some 55, op := .call { callee := .builtin .len, args := #[.tmp 54], argTypes := #[22] }, type := 3, pos := "law.go:56", after := #[{ on := 1, ground := .data }], guard := none }) (v := ?_) rfl (by decide) (by kernel_rfl) (by kernel_rfl) (fun _ _ _ h => h) (Or.inl ⟨by rfl, ?_⟩) (by assumption) ?_
            rotate_left
            · intro w hSw
              (try dsimp only at hSw)
              obtain ⟨h1, h2, h3, h4, h5, h6, h7⟩ := hSw; (go_simp; try (with_reducible rfl))
            try simp only [Act.put, List.setIfInBounds_toArray, List.set_cons_zero, List.set_cons_succ]
            refine HL.take_ (i := 3) (oi := { dst := some 56, op := .binOp .geq 3 (.tmp 53) (.tmp 55) 3, type := 4, pos := "law.go:56", after := #[{ on := 0, ground := .data }, { on := 2, ground := .data }], guard := none }) (v := ?_) rfl (by decide) (by kernel_rfl) (by kernel_rfl) (fun _ _ _ h => h) (Or.inl ⟨by rfl, ?_⟩) (by assumption) ?_
            rotate_left
            · intro w hSw
              (try dsimp only at hSw)
              obtain ⟨h1, h2, h3, h4, h5, h6, h7⟩ := hSw; (go_simp; try (with_reducible rfl))
            try simp only [Act.put, List.setIfInBounds_toArray, List.set_cons_zero, List.set_cons_succ]
            refine HL.take_ (i := 4) (oi := { dst := some 57, op := .move (.tmp 56), type := 4, pos := "law.go:56", after := #[{ on := 3, ground := .data }], guard := none }) (v := ?_) rfl (by decide) (by kernel_rfl) (by kernel_rfl) (fun _ _ _ h => h) (Or.inl ⟨by rfl, ?_⟩) (by assumption) ?_
            rotate_left
            · intro w hSw
              (try dsimp only at hSw)
              obtain ⟨h1, h2, h3, h4, h5, h6, h7⟩ := hSw; (go_simp; try (with_reducible rfl))
            try simp only [Act.put, List.setIfInBounds_toArray, List.set_cons_zero, List.set_cons_succ]
            refine HL.take_ (i := 5) (oi := { dst := some 58, op := .move (.tmp 5), type := 22, pos := "law.go:56", after := #[{ on := 4, ground := .guard }], guard := some (4, false) }) (v := ?_) rfl (by decide) (by kernel_rfl) (by kernel_rfl) (fun _ _ _ h => h) (Or.inl ⟨by rfl, ?_⟩) (by assumption) ?_
            rotate_left
            · intro w hSw
              (try dsimp only at hSw)
              obtain ⟨h1, h2, h3, h4, h5, h6, h7⟩ := hSw; (go_simp; try (with_reducible rfl))
            try simp only [Act.put, List.setIfInBounds_toArray, List.set_cons_zero, List.set_cons_succ]
            refine HL.take_ (i := 6) (oi := { dst := some 59, op := .move (.tmp 6), type := 3, pos := "law.go:56", after := #[{ on := 4, ground := .guard }], guard := some (4, false) }) (v := ?_) rfl (by decide) (by kernel_rfl) (by kernel_rfl) (fun _ _ _ h => h) (Or.inl ⟨by rfl, ?_⟩) (by assumption) ?_
            rotate_left
            · intro w hSw
              (try dsimp only at hSw)
              obtain ⟨h1, h2, h3, h4, h5, h6, h7⟩ := hSw; (go_simp; try (with_reducible rfl))
            try simp only [Act.put, List.setIfInBounds_toArray, List.set_cons_zero, List.set_cons_succ]
            refine HL.take_ (i := 7) (oi := { dst := some 60, op := .move (.tmp 6), type := 3, pos := "law.go:56", after := #[{ on := 4, ground := .guard }], guard := some (4, false) }) (v := ?_) rfl (by decide) (by kernel_rfl) (by kernel_rfl) (fun _ _ _ h => h) (Or.inl ⟨by rfl, ?_⟩) (by assumption) ?_
            rotate_left
            · intro w hSw
              (try dsimp only at hSw)
              obtain ⟨h1, h2, h3, h4, h5, h6, h7⟩ := hSw; (go_simp; try (with_reducible rfl))
            try simp only [Act.put, List.setIfInBounds_toArray, List.set_cons_zero, List.set_cons_succ]
            refine HL.take_ (i := 8) (oi := { dst := some 61, op := .binOp .add 3 (.tmp 60) (.const (.int .i64 1)) 3, type := 3, pos := "law.go:56", after := #[{ on := 7, ground := .data }, { on := 4, ground := .guard }], guard := some (4, false) }) (v := ?_) rfl (by decide) (by kernel_rfl) (by kernel_rfl) (fun _ _ _ h => h) (Or.inl ⟨by rfl, ?_⟩) (by assumption) ?_
            rotate_left
            · intro w hSw
              (try dsimp only at hSw)
              obtain ⟨h1, h2, h3, h4, h5, h6, h7⟩ := hSw; (go_simp; try (with_reducible rfl))
            try simp only [Act.put, List.setIfInBounds_toArray, List.set_cons_zero, List.set_cons_succ]
            refine HL.take_ (i := 9) (oi := { dst := some 62, op := .slice 22 (.tmp 58) (some (.tmp 59)) (some (.tmp 61)) none, type := 22, pos := "law.go:56", after := #[{ on := 5, ground := .data }, { on := 6, ground := .data }, { on := 8, ground := .data }, { on := 4, ground := .guard }], guard := some (4, false) }) (v := ?_) rfl (by decide) (by kernel_rfl) (by kernel_rfl) (fun _ _ _ h => h) (Or.inl ⟨by rfl, ?_⟩) (by assumption) ?_
            rotate_left
            · intro w hSw
              (try dsimp only at hSw)
              obtain ⟨h1, h2, h3, h4, h5, h6, h7⟩ := hSw; (go_simp; try (with_reducible rfl))
            try simp only [Act.put, List.setIfInBounds_toArray, List.set_cons_zero, List.set_cons_succ]
            refine HL.take_ (i := 10) (oi := { dst := some 63, op := .move (.tmp 7), type := 39, pos := "law.go:56", after := #[{ on := 4, ground := .guard }], guard := some (4, false) }) (v := ?_) rfl (by decide) (by kernel_rfl) (by kernel_rfl) (fun _ _ _ h => h) (Or.inl ⟨by rfl, ?_⟩) (by assumption) ?_
            rotate_left
            · intro w hSw
              (try dsimp only at hSw)
              obtain ⟨h1, h2, h3, h4, h5, h6, h7⟩ := hSw; (go_simp; try (with_reducible rfl))
            try simp only [Act.put, List.setIfInBounds_toArray, List.set_cons_zero, List.set_cons_succ]
            refine HL.take_ (i := 11) (oi := { dst := some 64, op := .move (.tmp 8), type := 3, pos := "law.go:56", after := #[{ on := 4, ground := .guard }], guard := some (4, false) }) (v := ?_) rfl (by decide) (by kernel_rfl) (by kernel_rfl) (fun _ _ _ h => h) (Or.inl ⟨by rfl, ?_⟩) (by assumption) ?_
            rotate_left
            · intro w hSw
              (try dsimp only at hSw)
              obtain ⟨h1, h2, h3, h4, h5, h6, h7⟩ := hSw; (go_simp; try (with_reducible rfl))
            try simp only [Act.put, List.setIfInBounds_toArray, List.set_cons_zero, List.set_cons_succ]
            refine HL.take_ (i := 12) (oi := { dst := some 65, op := .indexAddr 39 (.tmp 63) (.tmp 64), type := 0, pos := "law.go:56", after := #[{ on := 10, ground := .data }, { on := 11, ground := .data }, { on := 4, ground := .guard }], guard := some (4, false) }) (v := ?_) rfl (by decide) (by kernel_rfl) (by kernel_rfl) (fun _ _ _ h => h) (Or.inl ⟨by rfl, ?_⟩) (by assumption) ?_
            rotate_left
            · intro w hSw
              (try dsimp only at hSw)
              obtain ⟨h1, h2, h3, h4, h5, h6, h7⟩ := hSw; (go_simp; try (with_reducible rfl))
            try simp only [Act.put, List.setIfInBounds_toArray, List.set_cons_zero, List.set_cons_succ]
            refine HL.take_ (i := 13) (oi := { dst := some 66, op := .fieldAddr 49 (.tmp 65) 2, type := 0, pos := "law.go:56", after := #[{ on := 12, ground := .data }, { on := 4, ground := .guard }], guard := some (4, false) }) (v := ?_) rfl (by decide) (by kernel_rfl) (by kernel_rfl) (fun _ _ _ h => h) (Or.inl ⟨by rfl, ?_⟩) (by assumption) ?_
            rotate_left
            · intro w hSw
              (try dsimp only at hSw)
              obtain ⟨h1, h2, h3, h4, h5, h6, h7⟩ := hSw; (go_simp; try (with_reducible rfl))
            try simp only [Act.put, List.setIfInBounds_toArray, List.set_cons_zero, List.set_cons_succ]
            refine HL.take_ (i := 14) (oi := { dst := some 67, op := .load 46 (.tmp 66), type := 46, pos := "law.go:56", after := #[{ on := 13, ground := .data }, { on := 4, ground := .guard }], guard := some (4, false) }) (v := ?_) rfl (by decide) (by kernel_rfl) (by kernel_rfl) (fun _ _ _ h => h) (Or.inl ⟨by rfl, ?_⟩) (by assumption) ?_
            rotate_left
            · intro w hSw
              (try dsimp only at hSw)
              obtain ⟨h1, h2, h3, h4, h5, h6, h7⟩ := hSw; (go_simp; try (with_reducible rfl))
            try simp only [Act.put, List.setIfInBounds_toArray, List.set_cons_zero, List.set_cons_succ]
            refine HL.step_ (i := 15) (o := { dst := some 68, op := .buildSlice 22 1 #[(0, .tmp 67)], type := 22, pos := "law.go:56", after := #[{ on := 14, ground := .data }, { on := 4, ground := .guard }], guard := some (4, false) }) rfl (by decide) (by kernel_rfl) (fun K hK => ?_)
            go_simp
            have hz8 : wr.heap.size < (wr.alloc (.cells #[.int .u8 5, .int .u8 ak, .int .i64 ai, .int .u8 bk, .int .i64 bi, .slice aa2 al ac2, .slice b2 bl b2c] 46)).heap.size := by simp
            have hsubA : Sub wr (wr.alloc (.cells #[.int .u8 5, .int .u8 ak, .int .i64 ai, .int .u8 bk, .int .i64 bi, .slice aa2 al ac2, .slice b2 bl b2c] 46)) := sub_below ((Below.refl _ _).alloc (Nat.le_refl _) _)
            have y2 := hsubA _ _ x2
            have y3 := hsubA _ _ x3
            have y4 := hsubA _ _ x4
            have y5 := hsubA _ _ x5
            have y6 := hsubA _ _ x6
            have y7 := hsubA _ _ x7
            have y8 := hsubA _ _ x8
            refine hK.out _ _ ⟨y2, y3, y4, y5, y6, y7, y8⟩ (fun hHeld => ?_)
            clear hK K
            try simp only [Act.put, List.setIfInBounds_toArray, List.set_cons_zero, List.set_cons_succ]
            refine HL.step_ (i := 16) (o := { dst := some 69, op := .call { callee := .value (.func 15), args := #[.tmp 62, .tmp 68], argTypes := #[22, 22] }, type := 4, pos := "law.go:56", after := #[{ on := 9, ground := .data }, { on := 15, ground := .data }, { on := 4, ground := .chain }, { on := 4, ground := .guard }], guard := some (4, false) }) rfl (by decide) (by kernel_rfl) (fun K hK => ?_)
            go_simp
            have hsm : (sitesOf L)[m]? = some s := sitesOf_at HSN.out HM.out
            have hb8 : Below w4.heap.size w4 (wr.alloc (.cells #[.int .u8 5, .int .u8 ak, .int .i64 ai, .int .u8 bk, .int .i64 bi, .slice aa2 al ac2, .slice b2 bl b2c] 46)) := HBQ.out.alloc HBQ.out.size _
            have hrb1 := ReadsBody.part (own_below HLO4.out hb8) ((HLST4.out.sub (sub_below hb8)) : StsAt _ lxs _) (by rw [← HLL.out]; exact hsm)
            have h7q : Cells7 wr [.int .u8 5, .int .u8 ak, .int .i64 ai, .int .u8 bk, .int .i64 bi, .slice aa2 al ac2, .slice b2 bl b2c] s := H7.out.sub (sub_below (HB5.out.trans (HBQ.out.mono HB5.out.size)))
            refine (same14_calls (wr.alloc (.cells #[.int .u8 5, .int .u8 ak, .int .i64 ai, .int .u8 bk, .int .i64 bi, .slice aa2 al ac2, .slice b2 bl b2c] 46)).drew [s] [s] _ _ 1 1 _ _ ?_ ?_).mono ?_
            · exact hrb1.sub (Sub.refl _)
            · exact (readsBody_one (t := 46) h7q).sub (Sub.refl _)
            rw [sameB_refl]
            rintro e8 w8 ⟨rfl, dm, rfl⟩
            refine hK.out _ _ ⟨y2, y3, y4, y5, y6, y7, y8⟩ (fun hHeld => ?_)
            clear hK K hsm hrb1 h7q
            try simp only [Act.put, List.setIfInBounds_toArray, List.set_cons_zero, List.set_cons_succ]
            refine HL.take_ (i := 17) (oi := { dst := some 70, op := .unOp .not 4 (.tmp 69), type := 4, pos := "law.go:56", after := #[{ on := 16, ground := .data }, { on := 4, ground := .guard }], guard := some (4, false) }) (v := ?_) rfl (by decide) (by kernel_rfl) (by kernel_rfl) (fun _ _ _ h => h) (Or.inl ⟨by rfl, ?_⟩) (by assumption) ?_
            rotate_left
            · intro w hSw
              (try dsimp only at hSw)
              obtain ⟨h1, h2, h3, h4, h5, h6, h7⟩ := hSw; (go_simp; try (with_reducible rfl))
            try simp only [Act.put, List.setIfInBounds_toArray, List.set_cons_zero, List.set_cons_succ]
            refine HL.done_ (by kernel_rfl) ?_
            simp only [List.drop_succ_cons, List.drop_zero]
            clear hHeld
            go_wp2
            refine ⟨⟨k + 1, m + 1, by omega, by go_num, by go_num, ?_, ?_⟩, by simp [intOf]; omega⟩
            · show _ = _
              rw [HSN.out, List.length_append, ← HM.out]; rfl
            · exact ⟨hb8.os, hb8.tape, hb8.output, hb8.size, hb8.block⟩
          · have hkf : (sk == 5) = false := by rw [beq_eq_false_iff_ne]; exact hk5
            have hkn : (sk != 5) = true := by rw [bne, hkf]; rfl
            have HSN := Lib.hid (show sitesOf (L.take (k + 1)) = sitesOf (L.take k) by rw [sitesOf_snoc HS.out, HK.out, hkf]; simp)
            go_wp2
            refine ⟨⟨k + 1, m, by omega, by go_num, rfl, ?_, HBQ.out⟩, by simp [intOf]; omega⟩
            show _ = _
            rw [HSN.out]; exact HM.out
        · obtain rfl : K = k := by omega
          have htk : L.take K = L := List.take_of_length_le (by rw [HLEN.out]; exact Nat.le_refl _)
          have hmm : m = ln := by rw [HM.out, htk, HLN2.out]
          subst hmm
          clear htk
          have HBE := Lib.hid ((HB4.out.trans (HB5.out.mono HB4.out.size)).trans (HBQ.out.mono (HB4.out.trans (HB5.out.mono HB4.out.size)).size))
          go_wp2
          exact ⟨⟨i + 1, by omega, by go_num, blk_below H3.out HBE.out, ReadsF.sub (sub_below HBE.out) HR.out, HB.out.trans (HBE.out.mono HB.out.size)⟩, by simp [intOf]; omega⟩
    · go_wp2
      go_ret
      exact ⟨rfl, HB.out⟩
set_option maxRecDepth 20000 in
theorem callsSites_no (w : World) (g f e : Nat) (aa : Option Addr) (an ac : Nat) (hm : an ≤ maxLen) (ha : ¬ an ≤ 60) :
    Calls Try.prog 6 #[.agg #[.int .u8 g, .int .u8 f, .int .u8 e, .slice aa an ac]] w (Yes w) := by
  unfold maxLen at hm
  go_enter Try.func6, Try.ntmps6
  go_wp2_with fail
  refine (R.awake_calls _).mono ?_
  rintro e1 w1 ⟨rfl, hb1⟩
  have HB1 := Lib.hid (((Below.refl w.heap.size w).alloc (Nat.le_refl _) (.cells #[.int .u8 g, .int .u8 f, .int .u8 e, .slice aa an ac] 25)).trans (hb1.mono (by simp)))
  obtain ⟨c1, f1, z1⟩ := blk3 (blk_below (heap_alloc_new w (.cells #[.int .u8 g, .int .u8 f, .int .u8 e, .slice aa an ac] 25)) hb1)
  clear hb1
  have hgt : (60 : Int) < (an : Int) := by omega
  go_wp2_with fail
  refine (R.awake_calls _).mono ?_
  rintro e2 w2 ⟨rfl, hb2⟩
  have HB2 := Lib.hid (HB1.out.trans (hb2.mono HB1.out.size))
  clear hb2
  go_wp2
  go_ret
  exact ⟨rfl, HB2.out⟩
end Go.Proofs.Ytjgijbaboekghaa

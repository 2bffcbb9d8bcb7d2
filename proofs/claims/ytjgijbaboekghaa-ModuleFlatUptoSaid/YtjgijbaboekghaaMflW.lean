/-
  ModuleFlat (function 3), walked.
-/
import Derived.Test.YtjgijbaboekghaaShort
import Derived.Test.YtjgijbaboekghaaMake
import Derived.Test.YtjgijbaboekghaaMeqP
import Derived.Test.YtjgijbaboekghaaMakeR
import Derived.Test.YtjgijbaboekghaaSites
import Derived.Test.YtjgijbaboekghaaRefFlat
import Derived.Test.YtjgijbaboekghaaRefSame
import Derived.Deep.CutRange
import Derived.IntWalk
set_option linter.unusedSimpArgs false
set_option linter.unusedVariables false
namespace Go.Proofs.Ytjgijbaboekghaa
open Go.RowKit
def YesF (w : World) (e : Ending) (w' : World) : Prop := e = .returned (.bool true) ∧ Below w.heap.size w w'
theorem below_drawn {B : Nat} {w w' : World} (h : Below B w w') (n : Nat) : Below B w (w'.drewN n).drew := ⟨h.os, h.tape, h.output, h.size, h.block⟩
set_option maxRecDepth 100000 in
set_option maxHeartbeats 4000000 in
theorem moduleFlat_walk (w : World) (T : List St) (ta : Option Addr) (tn tc g f e : Nat) (aa : Option Addr) (an ac : Nat) (acts : List (Nat × Nat × Nat × Nat)) (hT : ReadsBody w ta tn T) (hsz : szL T ≤ 1048576) (hg : g < 256) (hf : f < 256) (he : e < 256) (ha : ReadsActs w aa an acts) :
    Calls Try.prog 3 #[.slice ta tn tc, .agg #[.int .u8 g, .int .u8 f, .int .u8 e, .slice aa an ac]] w (YesF w) := by
  have HT := Lib.hid hT
  have HA := Lib.hid ha
  have han := ha.2.1
  have HSZ := Lib.hid hsz
  clear ha hT hsz
  go_enter Try.func3, Try.ntmps3
  go_wp2_with fail
  refine (awake_calls _).mono ?_
  rintro e1 w1 ⟨rfl, hb1⟩
  have hq := blk_below (heap_alloc_new w (.cells #[.int .u8 g, .int .u8 f, .int .u8 e, .slice aa an ac] 25)) hb1
  obtain ⟨c1, f1, z1⟩ := blk3 hq
  have HB1 := Lib.hid (((Below.refl w.heap.size w).alloc (Nat.le_refl _) (.cells #[.int .u8 g, .int .u8 f, .int .u8 e, .slice aa an ac] 25)).trans (hb1.mono (by simp)))
  have Q := Lib.hid hq
  clear hb1 hq
  go_wp2_with fail
  refine (short_calls w1 13 0 rfl T ta tn tc (HT.out.below HB1.out)).mono ?_
  rintro e2 w2 ⟨bb, rfl, rfl⟩
  cases bb with
  | false =>
    go_wp2_with fail
    refine (awake_calls _).mono ?_
    rintro e2 w2 ⟨rfl, hb2⟩
    have HB2 := Lib.hid (HB1.out.trans (hb2.mono HB1.out.size))
    clear hb2
    go_wp2
    go_ret
    exact ⟨rfl, HB2.out⟩
  | true =>
    go_wp2_with fail
    refine (make_calls _ g f e aa an ac acts [] (by simp) hg hf he (HA.out.sub (sub_below HB1.out))).mono ?_
    rintro e2 w2 ⟨sv, gv, A, n, cp, ev, xs, rfl, hn, hn1, hb2, ho, hfn, hs, hgl, hen⟩
    obtain ⟨sa, sc, rfl, i1⟩ := hs.shape
    obtain ⟨ga, gc, rfl, i2⟩ := hgl.shape
    obtain ⟨ea, ec, rfl, i3⟩ := hen.shape
    obtain ⟨gx, rfl, hfr⟩ := fresh_of (Nat.le_refl _) (Nat.le_refl _) hn hn1 ho hfn hs hgl hen
    have HFX := Lib.hid hfr
    have HB2 := Lib.hid (HB1.out.trans (hb2.mono HB1.out.size))
    clear hfr hb2 ho hfn hs hgl hen hn c1 f1 z1
    obtain ⟨X, hX⟩ : ∃ X, X = makeM ⟨g, f, e, acts⟩ := ⟨_, rfl⟩
    have hfl := makeM_flat ⟨g, f, e, acts⟩ (by show acts.length ≤ 60; rw [HA.out.1]; exact han)
    obtain ⟨fz, rz, hfz, -⟩ := makeM_zero ⟨g, f, e, acts⟩
    rw [← hX] at HFX i1 i2 i3 hfl hfz ⊢
    obtain ⟨la, lc, ka, kc, ba, bl, bc, ys, ex, k1, k2, k3, k4, k5, ky, ⟨x0, x1, x2, x3, x4⟩, xf, xz0⟩ := HFX.out.five hfz
    have HBD := Lib.hid (k4.sub (sans_sub _ _))
    have HFL := Lib.hid (hfl fz (by rw [hfz]; exact List.mem_cons_self)).1
    have hpn := HFX.out.pos
    have hn0 : ¬ n = 0 := by omega
    clear hX hfl hfz ex k1 k2 k4 ky x0 x1 x2 x3 xf k5
    go_wp2_with fail
    obtain ⟨V, hV⟩ : ∃ V, V = (w2.alloc (.cells #[.slice sa X.strings.length sc, .slice ga X.globals.length gc, .slice (some ⟨gx, 0, none⟩) n cp, .slice ea X.entries.length ec] 32)).alloc (.cells #[.slice ta tn tc, .slice ba bl bc] 22) := ⟨_, rfl⟩
    have hbV : Below w2.heap.size w2 V := by rw [hV]; exact ((Below.refl _ _).alloc (Nat.le_refl _) _).alloc (by simp) _
    have hqV : V.heap[w2.heap.size + 1]? = some (.cells #[.slice ta tn tc, .slice ba bl bc] 22) := by
      have := heap_alloc_new (w2.alloc (.cells #[.slice sa X.strings.length sc, .slice ga X.globals.length gc, .slice (some ⟨gx, 0, none⟩) n cp, .slice ea X.entries.length ec] 32)) (.cells #[.slice ta tn tc, .slice ba bl bc] 22)
      rw [← hV] at this
      simpa using this
    rw [← hV]
    have HQV := Lib.hid hqV
    have HBV := Lib.hid (HB2.out.trans (hbV.mono HB2.out.size))
    have HEL : Hid (∀ wr, Below V.heap.size V wr → ∀ i, i < 2 → ∃ A N C L, wr.cell? ⟨w2.heap.size + 1, i, none⟩ = some (.slice A N C) ∧ ReadsBody wr A N L ∧ (flatT 1000 0 L).length ≤ 1048576) := Lib.hid (by
      intro wr hb i hi
      have hq := blk_below hqV hb
      rcases (show i = 0 ∨ i = 1 by omega) with rfl | rfl
      · exact ⟨ta, tn, tc, T, by rw [(blk3 hq).1]; rfl, (HT.out.below HBV.out).below hb, Nat.le_trans (flatT_sz 1000 0 T) HSZ.out⟩
      · exact ⟨ba, bl, bc, fz.body, by rw [(blk3 hq).1]; rfl, (HBD.out.below hbV).below hb, by have := HFL.out; omega⟩)
    clear hV hbV hqV
    go_loopw [35] (fun iv wr => ∃ i : Nat, i ≤ 2 ∧ iv = .int .i64 i ∧ Hid (Below V.heap.size V wr)) (fun iv _ => 2 - (intOf iv).toNat)
    case atStart => exact ⟨0, by decide, rfl, Below.refl _ _⟩
    case round =>
      obtain ⟨j, hj, rfl, HB⟩ := hrel
      obtain ⟨wo, rfl⟩ : ∃ wo : World, wo = wr := ⟨_, rfl⟩
      by_cases hlt : j < 2
      · obtain ⟨A, N, C, L, hcell, hrd, hbd⟩ := HEL.out wo HB.out j hlt
        have hN : N ≤ 9223372036854775807 := by have := hrd.2.1; unfold maxLen at this; omega
        have RD := Lib.hid hrd
        have BD := Lib.hid hbd
        clear hrd hbd
        go_wp2_with fail
        refine (flat11_calls wo L A N C RD.out BD.out).mono ?_
        rintro e3 w3 ⟨v3, K, rfl, hfl3⟩
        obtain ⟨ixs, ho3, hI3⟩ := hfl3.own
        obtain ⟨iA, icp, rfl, _, _⟩ := own_shape ho3
        have hb3 := hfl3.below
        have HLEN := Lib.hid hfl3.len
        have HI := Lib.hid hI3
        have HO := Lib.hid ho3
        have HB3 := Lib.hid hb3
        have RD3 := Lib.hid (RD.out.below hb3)
        clear hfl3 ho3 hI3 hb3 hcell
        go_wp2_with fail
        refine (rflat12_calls w3 L A N C RD3.out BD.out).mono ?_
        rintro e4 w4 ⟨v4, K', rfl, hfl4⟩
        obtain ⟨jxs, ho4, hI4⟩ := hfl4.own
        obtain ⟨jA, jcp, rfl, _, _⟩ := own_shape ho4
        have hb4 := hfl4.below
        obtain rfl : K = K' := by have h1 := hfl4.len; have h2 := HLEN.out; omega
        have HI4 := Lib.hid hI4
        have HO4 := Lib.hid ho4
        have HOa := Lib.hid (own_below HO.out hb4)
        have HB4 := Lib.hid hb4
        have RD4 := Lib.hid (RD3.out.below hb4)
        have hK : K ≤ 1048576 := by have h2 := HLEN.out; have := BD.out; omega
        clear hfl4 ho4 hI4 hb4
        go_wp2_with fail
        refine (count_calls w4 L A N C K RD4.out HLEN.out hK).mono ?_
        rintro e5 w5 ⟨rfl, hb5⟩
        obtain ⟨F, hF⟩ : ∃ F, F = flatT 1000 0 L := ⟨_, rfl⟩
        rw [← hF] at HLEN HI HI4
        have HOb := Lib.hid (own_below HOa.out hb5)
        have HOc := Lib.hid (own_below HO4.out hb5)
        have HB5 := Lib.hid ((HB3.out.trans ((HB4.out.trans (hb5.mono HB4.out.size)).mono HB3.out.size)))
        have HB35 := Lib.hid (HB4.out.trans (hb5.mono HB4.out.size))
        clear hb5 hF
        go_wp2_with fail
        go_loopw [10] (fun iv wr => ∃ i : Nat, i ≤ K ∧ iv = .int .i64 i ∧ Hid (Below w5.heap.size w5 wr)) (fun iv _ => K - (intOf iv).toNat)
        case atStart => exact ⟨0, Nat.zero_le _, rfl, Below.refl _ _⟩
        case round =>
          obtain ⟨i, hi, rfl, BQ⟩ := hrel
          by_cases hlti : i < K
          · obtain ⟨gI, rfl, _, _⟩ := own_addr HOb.out (by omega)
            obtain ⟨gJ, rfl, _, _⟩ := own_addr HOc.out (by omega)
            obtain ⟨⟨dp, s⟩, hs⟩ : ∃ x, F[i]? = some x := ⟨_, List.getElem?_eq_getElem (by rw [HLEN.out]; exact hlti)⟩
            obtain ⟨k1, ak1, ai1, bk1, bi1, aa1, ba1, al1, ac1, bl1, bc1, h71, hkk, x0, x1, x2, x3, x4, x5, x6, x7, x8⟩ := nine_cells (own_below HOb.out BQ.out) HI.out hs
            obtain ⟨k2, ak2, ai2, bk2, bi2, aa2, ba2, al2, ac2, bl2, bc2, h72, hkk2, y0, y1, y2, y3, y4, y5, y6, y7, y8⟩ := nine_cells (own_below HOc.out BQ.out) HI4.out hs
            have J1 : Hid (Cells7 wr _ s) := Lib.hid ((h71.sub (sub_below HB5.out)).sub (sub_below BQ.out))
            have J2 : Hid (Cells7 wr _ s) := Lib.hid ((h72.sub (sub_below HB35.out)).sub (sub_below BQ.out))
            clear h71 h72 hkk hkk2 hs y0
            have hn1 : ¬ K = 0 := by omega
            go_upto_region 14 with (fail)
            go_cut [96] from 61 to 96 (fun s96 wx => s96 = .bool false ∧ Hid (Below w5.heap.size w5 wx))
            case first =>
              refine wp_region_HL (S := (fun w' => w'.cell? ⟨gI, i * 9, none⟩ = some (.int .i64 (i : Nat)) ∧ w'.cell? ⟨gI, i * 9 + 1, none⟩ = some (.int .i64 (dp : Nat)) ∧ w'.cell? ⟨gI, i * 9 + 2, none⟩ = some (.int .u8 k1) ∧ w'.cell? ⟨gI, i * 9 + 3, none⟩ = some (.int .u8 ak1) ∧ w'.cell? ⟨gI, i * 9 + 4, none⟩ = some (.int .i64 ai1) ∧ w'.cell? ⟨gI, i * 9 + 5, none⟩ = some (.int .u8 bk1) ∧ w'.cell? ⟨gI, i * 9 + 6, none⟩ = some (.int .i64 bi1) ∧ w'.cell? ⟨gI, i * 9 + 7, none⟩ = some (.slice aa1 al1 ac1) ∧ w'.cell? ⟨gI, i * 9 + 8, none⟩ = some (.slice ba1 bl1 bc1) ∧ w'.cell? ⟨gJ, i * 9 + 1, none⟩ = some (.int .i64 (dp : Nat)) ∧ w'.cell? ⟨gJ, i * 9 + 2, none⟩ = some (.int .u8 k2) ∧ w'.cell? ⟨gJ, i * 9 + 3, none⟩ = some (.int .u8 ak2) ∧ w'.cell? ⟨gJ, i * 9 + 4, none⟩ = some (.int .i64 ai2) ∧ w'.cell? ⟨gJ, i * 9 + 5, none⟩ = some (.int .u8 bk2) ∧ w'.cell? ⟨gJ, i * 9 + 6, none⟩ = some (.int .i64 bi2) ∧ w'.cell? ⟨gJ, i * 9 + 7, none⟩ = some (.slice aa2 al2 ac2) ∧ w'.cell? ⟨gJ, i * 9 + 8, none⟩ = some (.slice ba2 bl2 bc2))) 35 (by kernel_rfl) (by kernel_rfl) (by kernel_rfl) (by kernel_rfl) (by decide) ⟨x0, x1, x2, x3, x4, x5, x6, x7, x8, y1, y2, y3, y4, y5, y6, y7, y8⟩ (fun hHeld => ?_)
              refine HL.take_ (i := 0) (oi := { dst := some 61, op := .move (.tmp 8), type := 37, pos := "law.go:41", after := #[], guard := none }) (v := ?_) rfl (by decide) (by kernel_rfl) (by kernel_rfl) (fun _ _ _ h => h) (Or.inl ⟨by rfl, ?_⟩) (by assumption) ?_
              rotate_left
              · intro w hSw
                (try dsimp only at hSw)
                obtain ⟨h0, h1, h2, h3, h4, h5, h6, h7, h8, h9, h10, h11, h12, h13, h14, h15, h16⟩ := hSw; (go_simp; try (with_reducible rfl))
              try simp only [Act.put, List.setIfInBounds_toArray, List.set_cons_zero, List.set_cons_succ]
              refine HL.take_ (i := 1) (oi := { dst := some 62, op := .move (.tmp 10), type := 3, pos := "law.go:41", after := #[], guard := none }) (v := ?_) rfl (by decide) (by kernel_rfl) (by kernel_rfl) (fun _ _ _ h => h) (Or.inl ⟨by rfl, ?_⟩) (by assumption) ?_
              rotate_left
              · intro w hSw
                (try dsimp only at hSw)
                obtain ⟨h0, h1, h2, h3, h4, h5, h6, h7, h8, h9, h10, h11, h12, h13, h14, h15, h16⟩ := hSw; (go_simp; try (with_reducible rfl))
              try simp only [Act.put, List.setIfInBounds_toArray, List.set_cons_zero, List.set_cons_succ]
              refine HL.take_ (i := 2) (oi := { dst := some 63, op := .indexAddr 37 (.tmp 61) (.tmp 62), type := 0, pos := "law.go:41", after := #[{ on := 0, ground := .data }, { on := 1, ground := .data }], guard := none }) (v := ?_) rfl (by decide) (by kernel_rfl) (by kernel_rfl) (fun _ _ _ h => h) (Or.inl ⟨by rfl, ?_⟩) (by assumption) ?_
              rotate_left
              · intro w hSw
                (try dsimp only at hSw)
                obtain ⟨h0, h1, h2, h3, h4, h5, h6, h7, h8, h9, h10, h11, h12, h13, h14, h15, h16⟩ := hSw; (go_simp; try (with_reducible rfl))
              try simp only [Act.put, List.setIfInBounds_toArray, List.set_cons_zero, List.set_cons_succ]
              refine HL.take_ (i := 3) (oi := { dst := some 64, op := .fieldAddr 48 (.tmp 63) 0, type := 0, pos := "law.go:41", after := #[{ on := 2, ground := .data }], guard := none }) (v := ?_) rfl (by decide) (by kernel_rfl) (by kernel_rfl) (fun _ _ _ h => h) (Or.inl ⟨by rfl, ?_⟩) (by assumption) ?_
              rotate_left
              · intro w hSw
                (try dsimp only at hSw)
                obtain ⟨h0, h1, h2, h3, h4, h5, h6, h7, h8, h9, h10, h11, h12, h13, h14, h15, h16⟩ := hSw; (go_simp; try (with_reducible rfl))
              try simp only [Act.put, List.setIfInBounds_toArray, List.set_cons_zero, List.set_cons_succ]
              refine HL.take_ (i := 4) (oi := { dst := some 65, op := .load 3 (.tmp 64), type := 3, pos := "law.go:41", after := #[{ on := 3, ground := .data }], guard := none }) (v := ?_) rfl (by decide) (by kernel_rfl) (by kernel_rfl) (fun _ _ _ h => h) (Or.inl ⟨by rfl, ?_⟩) (by assumption) ?_
              rotate_left
              · intro w hSw
                (try dsimp only at hSw)
                obtain ⟨h0, h1, h2, h3, h4, h5, h6, h7, h8, h9, h10, h11, h12, h13, h14, h15, h16⟩ := hSw; (go_simp; try (with_reducible rfl))
              try simp only [Act.put, List.setIfInBounds_toArray, List.set_cons_zero, List.set_cons_succ]
              refine HL.take_ (i := 5) (oi := { dst := some 66, op := .move (.tmp 10), type := 3, pos := "law.go:41", after := #[], guard := none }) (v := ?_) rfl (by decide) (by kernel_rfl) (by kernel_rfl) (fun _ _ _ h => h) (Or.inl ⟨by rfl, ?_⟩) (by assumption) ?_
              rotate_left
              · intro w hSw
                (try dsimp only at hSw)
                obtain ⟨h0, h1, h2, h3, h4, h5, h6, h7, h8, h9, h10, h11, h12, h13, h14, h15, h16⟩ := hSw; (go_simp; try (with_reducible rfl))
              try simp only [Act.put, List.setIfInBounds_toArray, List.set_cons_zero, List.set_cons_succ]
              refine HL.take_ (i := 6) (oi := { dst := some 67, op := .binOp .neq 3 (.tmp 65) (.tmp 66) 3, type := 4, pos := "law.go:41", after := #[{ on := 4, ground := .data }, { on := 5, ground := .data }], guard := none }) (v := ?_) rfl (by decide) (by kernel_rfl) (by kernel_rfl) (fun _ _ _ h => h) (Or.inl ⟨by rfl, ?_⟩) (by assumption) ?_
              rotate_left
              · intro w hSw
                (try dsimp only at hSw)
                obtain ⟨h0, h1, h2, h3, h4, h5, h6, h7, h8, h9, h10, h11, h12, h13, h14, h15, h16⟩ := hSw; (go_simp; try (with_reducible rfl))
              try simp only [Act.put, List.setIfInBounds_toArray, List.set_cons_zero, List.set_cons_succ]
              refine HL.take_ (i := 7) (oi := { dst := some 68, op := .move (.tmp 67), type := 4, pos := "law.go:41", after := #[{ on := 6, ground := .data }], guard := none }) (v := ?_) rfl (by decide) (by kernel_rfl) (by kernel_rfl) (fun _ _ _ h => h) (Or.inl ⟨by rfl, ?_⟩) (by assumption) ?_
              rotate_left
              · intro w hSw
                (try dsimp only at hSw)
                obtain ⟨h0, h1, h2, h3, h4, h5, h6, h7, h8, h9, h10, h11, h12, h13, h14, h15, h16⟩ := hSw; (go_simp; try (with_reducible rfl))
              try simp only [Act.put, List.setIfInBounds_toArray, List.set_cons_zero, List.set_cons_succ]
              refine HL.take_ (i := 8) (oi := { dst := some 69, op := .move (.tmp 8), type := 37, pos := "law.go:41", after := #[{ on := 7, ground := .guard }], guard := some (7, false) }) (v := ?_) rfl (by decide) (by kernel_rfl) (by kernel_rfl) (fun _ _ _ h => h) (Or.inl ⟨by rfl, ?_⟩) (by assumption) ?_
              rotate_left
              · intro w hSw
                (try dsimp only at hSw)
                obtain ⟨h0, h1, h2, h3, h4, h5, h6, h7, h8, h9, h10, h11, h12, h13, h14, h15, h16⟩ := hSw; (go_simp; try (with_reducible rfl))
              try simp only [Act.put, List.setIfInBounds_toArray, List.set_cons_zero, List.set_cons_succ]
              refine HL.take_ (i := 9) (oi := { dst := some 70, op := .move (.tmp 10), type := 3, pos := "law.go:41", after := #[{ on := 7, ground := .guard }], guard := some (7, false) }) (v := ?_) rfl (by decide) (by kernel_rfl) (by kernel_rfl) (fun _ _ _ h => h) (Or.inl ⟨by rfl, ?_⟩) (by assumption) ?_
              rotate_left
              · intro w hSw
                (try dsimp only at hSw)
                obtain ⟨h0, h1, h2, h3, h4, h5, h6, h7, h8, h9, h10, h11, h12, h13, h14, h15, h16⟩ := hSw; (go_simp; try (with_reducible rfl))
              try simp only [Act.put, List.setIfInBounds_toArray, List.set_cons_zero, List.set_cons_succ]
              refine HL.take_ (i := 10) (oi := { dst := some 71, op := .indexAddr 37 (.tmp 69) (.tmp 70), type := 0, pos := "law.go:41", after := #[{ on := 8, ground := .data }, { on := 9, ground := .data }, { on := 7, ground := .guard }], guard := some (7, false) }) (v := ?_) rfl (by decide) (by kernel_rfl) (by kernel_rfl) (fun _ _ _ h => h) (Or.inl ⟨by rfl, ?_⟩) (by assumption) ?_
              rotate_left
              · intro w hSw
                (try dsimp only at hSw)
                obtain ⟨h0, h1, h2, h3, h4, h5, h6, h7, h8, h9, h10, h11, h12, h13, h14, h15, h16⟩ := hSw; (go_simp; try (with_reducible rfl))
              try simp only [Act.put, List.setIfInBounds_toArray, List.set_cons_zero, List.set_cons_succ]
              refine HL.take_ (i := 11) (oi := { dst := some 72, op := .fieldAddr 48 (.tmp 71) 1, type := 0, pos := "law.go:41", after := #[{ on := 10, ground := .data }, { on := 7, ground := .guard }], guard := some (7, false) }) (v := ?_) rfl (by decide) (by kernel_rfl) (by kernel_rfl) (fun _ _ _ h => h) (Or.inl ⟨by rfl, ?_⟩) (by assumption) ?_
              rotate_left
              · intro w hSw
                (try dsimp only at hSw)
                obtain ⟨h0, h1, h2, h3, h4, h5, h6, h7, h8, h9, h10, h11, h12, h13, h14, h15, h16⟩ := hSw; (go_simp; try (with_reducible rfl))
              try simp only [Act.put, List.setIfInBounds_toArray, List.set_cons_zero, List.set_cons_succ]
              refine HL.take_ (i := 12) (oi := { dst := some 73, op := .load 3 (.tmp 72), type := 3, pos := "law.go:41", after := #[{ on := 11, ground := .data }, { on := 7, ground := .guard }], guard := some (7, false) }) (v := ?_) rfl (by decide) (by kernel_rfl) (by kernel_rfl) (fun _ _ _ h => h) (Or.inl ⟨by rfl, ?_⟩) (by assumption) ?_
              rotate_left
              · intro w hSw
                (try dsimp only at hSw)
                obtain ⟨h0, h1, h2, h3, h4, h5, h6, h7, h8, h9, h10, h11, h12, h13, h14, h15, h16⟩ := hSw; (go_simp; try (with_reducible rfl))
              try simp only [Act.put, List.setIfInBounds_toArray, List.set_cons_zero, List.set_cons_succ]
              refine HL.take_ (i := 13) (oi := { dst := some 74, op := .move (.tmp 9), type := 39, pos := "law.go:41", after := #[{ on := 7, ground := .guard }], guard := some (7, false) }) (v := ?_) rfl (by decide) (by kernel_rfl) (by kernel_rfl) (fun _ _ _ h => h) (Or.inl ⟨by rfl, ?_⟩) (by assumption) ?_
              rotate_left
              · intro w hSw
                (try dsimp only at hSw)
                obtain ⟨h0, h1, h2, h3, h4, h5, h6, h7, h8, h9, h10, h11, h12, h13, h14, h15, h16⟩ := hSw; (go_simp; try (with_reducible rfl))
              try simp only [Act.put, List.setIfInBounds_toArray, List.set_cons_zero, List.set_cons_succ]
              refine HL.take_ (i := 14) (oi := { dst := some 75, op := .move (.tmp 10), type := 3, pos := "law.go:41", after := #[{ on := 7, ground := .guard }], guard := some (7, false) }) (v := ?_) rfl (by decide) (by kernel_rfl) (by kernel_rfl) (fun _ _ _ h => h) (Or.inl ⟨by rfl, ?_⟩) (by assumption) ?_
              rotate_left
              · intro w hSw
                (try dsimp only at hSw)
                obtain ⟨h0, h1, h2, h3, h4, h5, h6, h7, h8, h9, h10, h11, h12, h13, h14, h15, h16⟩ := hSw; (go_simp; try (with_reducible rfl))
              try simp only [Act.put, List.setIfInBounds_toArray, List.set_cons_zero, List.set_cons_succ]
              refine HL.take_ (i := 15) (oi := { dst := some 76, op := .indexAddr 39 (.tmp 74) (.tmp 75), type := 0, pos := "law.go:41", after := #[{ on := 13, ground := .data }, { on := 14, ground := .data }, { on := 7, ground := .guard }], guard := some (7, false) }) (v := ?_) rfl (by decide) (by kernel_rfl) (by kernel_rfl) (fun _ _ _ h => h) (Or.inl ⟨by rfl, ?_⟩) (by assumption) ?_
              rotate_left
              · intro w hSw
                (try dsimp only at hSw)
                obtain ⟨h0, h1, h2, h3, h4, h5, h6, h7, h8, h9, h10, h11, h12, h13, h14, h15, h16⟩ := hSw; (go_simp; try (with_reducible rfl))
              try simp only [Act.put, List.setIfInBounds_toArray, List.set_cons_zero, List.set_cons_succ]
              refine HL.take_ (i := 16) (oi := { dst := some 77, op := .fieldAddr 49 (.tmp 76) 1, type := 0, pos := "law.go:41", after := #[{ on := 15, ground := .data }, { on := 7, ground := .guard }], guard := some (7, false) }) (v := ?_) rfl (by decide) (by kernel_rfl) (by kernel_rfl) (fun _ _ _ h => h) (Or.inl ⟨by rfl, ?_⟩) (by assumption) ?_
              rotate_left
              · intro w hSw
                (try dsimp only at hSw)
                obtain ⟨h0, h1, h2, h3, h4, h5, h6, h7, h8, h9, h10, h11, h12, h13, h14, h15, h16⟩ := hSw; (go_simp; try (with_reducible rfl))
              try simp only [Act.put, List.setIfInBounds_toArray, List.set_cons_zero, List.set_cons_succ]
              refine HL.take_ (i := 17) (oi := { dst := some 78, op := .load 3 (.tmp 77), type := 3, pos := "law.go:41", after := #[{ on := 16, ground := .data }, { on := 7, ground := .guard }], guard := some (7, false) }) (v := ?_) rfl (by decide) (by kernel_rfl) (by kernel_rfl) (fun _ _ _ h => h) (Or.inl ⟨by rfl, ?_⟩) (by assumption) ?_
              rotate_left
              · intro w hSw
                (try dsimp only at hSw)
                obtain ⟨h0, h1, h2, h3, h4, h5, h6, h7, h8, h9, h10, h11, h12, h13, h14, h15, h16⟩ := hSw; (go_simp; try (with_reducible rfl))
              try simp only [Act.put, List.setIfInBounds_toArray, List.set_cons_zero, List.set_cons_succ]
              refine HL.take_ (i := 18) (oi := { dst := some 79, op := .binOp .neq 3 (.tmp 73) (.tmp 78) 3, type := 4, pos := "law.go:41", after := #[{ on := 12, ground := .data }, { on := 17, ground := .data }, { on := 7, ground := .guard }], guard := some (7, false) }) (v := ?_) rfl (by decide) (by kernel_rfl) (by kernel_rfl) (fun _ _ _ h => h) (Or.inl ⟨by rfl, ?_⟩) (by assumption) ?_
              rotate_left
              · intro w hSw
                (try dsimp only at hSw)
                obtain ⟨h0, h1, h2, h3, h4, h5, h6, h7, h8, h9, h10, h11, h12, h13, h14, h15, h16⟩ := hSw; (go_simp; try (with_reducible rfl))
              try simp only [Act.put, List.setIfInBounds_toArray, List.set_cons_zero, List.set_cons_succ]
              refine HL.take_ (i := 19) (oi := { dst := some 80, op := .pick (.tmp 68) (.const (.bool true)) (.tmp 79), type := 4, pos := "law.go:41", after := #[{ on := 7, ground := .data }, { on := 18, ground := .data }], guard := none }) (v := ?_) rfl (by decide) (by kernel_rfl) (by kernel_rfl) (fun _ _ _ h => h) (Or.inl ⟨by rfl, ?_⟩) (by assumption) ?_
              rotate_left
              · intro w hSw
                (try dsimp only at hSw)
                obtain ⟨h0, h1, h2, h3, h4, h5, h6, h7, h8, h9, h10, h11, h12, h13, h14, h15, h16⟩ := hSw; (go_simp; try (with_reducible rfl))
              try simp only [Act.put, List.setIfInBounds_toArray, List.set_cons_zero, List.set_cons_succ]
              refine HL.take_ (i := 20) (oi := { dst := some 81, op := .move (.tmp 80), type := 4, pos := "law.go:41", after := #[{ on := 19, ground := .data }, { on := 7, ground := .chain }], guard := none }) (v := ?_) rfl (by decide) (by kernel_rfl) (by kernel_rfl) (fun _ _ _ h => h) (Or.inl ⟨by rfl, ?_⟩) (by assumption) ?_
              rotate_left
              · intro w hSw
                (try dsimp only at hSw)
                obtain ⟨h0, h1, h2, h3, h4, h5, h6, h7, h8, h9, h10, h11, h12, h13, h14, h15, h16⟩ := hSw; (go_simp; try (with_reducible rfl))
              try simp only [Act.put, List.setIfInBounds_toArray, List.set_cons_zero, List.set_cons_succ]
              refine HL.take_ (i := 21) (oi := { dst := some 82, op := .move (.tmp 8), type := 37, pos := "law.go:41", after := #[{ on := 20, ground := .guard }], guard := some (20, false) }) (v := ?_) rfl (by decide) (by kernel_rfl) (by kernel_rfl) (fun _ _ _ h => h) (Or.inl ⟨by rfl, ?_⟩) (by assumption) ?_
              rotate_left
              · intro w hSw
                (try dsimp only at hSw)
                obtain ⟨h0, h1, h2, h3, h4, h5, h6, h7, h8, h9, h10, h11, h12, h13, h14, h15, h16⟩ := hSw; (go_simp; try (with_reducible rfl))
              try simp only [Act.put, List.setIfInBounds_toArray, List.set_cons_zero, List.set_cons_succ]
              refine HL.take_ (i := 22) (oi := { dst := some 83, op := .move (.tmp 10), type := 3, pos := "law.go:41", after := #[{ on := 20, ground := .guard }], guard := some (20, false) }) (v := ?_) rfl (by decide) (by kernel_rfl) (by kernel_rfl) (fun _ _ _ h => h) (Or.inl ⟨by rfl, ?_⟩) (by assumption) ?_
              rotate_left
              · intro w hSw
                (try dsimp only at hSw)
                obtain ⟨h0, h1, h2, h3, h4, h5, h6, h7, h8, h9, h10, h11, h12, h13, h14, h15, h16⟩ := hSw; (go_simp; try (with_reducible rfl))
              try simp only [Act.put, List.setIfInBounds_toArray, List.set_cons_zero, List.set_cons_succ]
              refine HL.take_ (i := 23) (oi := { dst := some 84, op := .indexAddr 37 (.tmp 82) (.tmp 83), type := 0, pos := "law.go:41", after := #[{ on := 21, ground := .data }, { on := 22, ground := .data }, { on := 20, ground := .guard }], guard := some (20, false) }) (v := ?_) rfl (by decide) (by kernel_rfl) (by kernel_rfl) (fun _ _ _ h => h) (Or.inl ⟨by rfl, ?_⟩) (by assumption) ?_
              rotate_left
              · intro w hSw
                (try dsimp only at hSw)
                obtain ⟨h0, h1, h2, h3, h4, h5, h6, h7, h8, h9, h10, h11, h12, h13, h14, h15, h16⟩ := hSw; (go_simp; try (with_reducible rfl))
              try simp only [Act.put, List.setIfInBounds_toArray, List.set_cons_zero, List.set_cons_succ]
              refine HL.take_ (i := 24) (oi := { dst := some 85, op := .fieldAddr 48 (.tmp 84) 2, type := 0, pos := "law.go:41", after := #[{ on := 23, ground := .data }, { on := 20, ground := .guard }], guard := some (20, false) }) (v := ?_) rfl (by decide) (by kernel_rfl) (by kernel_rfl) (fun _ _ _ h => h) (Or.inl ⟨by rfl, ?_⟩) (by assumption) ?_
              rotate_left
              · intro w hSw
                (try dsimp only at hSw)
                obtain ⟨h0, h1, h2, h3, h4, h5, h6, h7, h8, h9, h10, h11, h12, h13, h14, h15, h16⟩ := hSw; (go_simp; try (with_reducible rfl))
              try simp only [Act.put, List.setIfInBounds_toArray, List.set_cons_zero, List.set_cons_succ]
              refine HL.take_ (i := 25) (oi := { dst := some 86, op := .load 46 (.tmp 85), type := 46, pos := "law.go:41", after := #[{ on := 24, ground := .data }, { on := 20, ground := .guard }], guard := some (20, false) }) (v := ?_) rfl (by decide) (by kernel_rfl) (by kernel_rfl) (fun _ _ _ h => h) (Or.inl ⟨by rfl, ?_⟩) (by assumption) ?_
              rotate_left
              · intro w hSw
                (try dsimp only at hSw)
                obtain ⟨h0, h1, h2, h3, h4, h5, h6, h7, h8, h9, h10, h11, h12, h13, h14, h15, h16⟩ := hSw; (go_simp; try (with_reducible rfl))
              try simp only [Act.put, List.setIfInBounds_toArray, List.set_cons_zero, List.set_cons_succ]
              refine HL.take_ (i := 27) (oi := { dst := some 88, op := .move (.tmp 9), type := 39, pos := "law.go:41", after := #[{ on := 20, ground := .guard }], guard := some (20, false) }) (v := ?_) rfl (by decide) (by kernel_rfl) (by kernel_rfl) (fun _ _ _ h => h) (Or.inl ⟨by rfl, ?_⟩) (by assumption) ?_
              rotate_left
              · intro w hSw
                (try dsimp only at hSw)
                obtain ⟨h0, h1, h2, h3, h4, h5, h6, h7, h8, h9, h10, h11, h12, h13, h14, h15, h16⟩ := hSw; (go_simp; try (with_reducible rfl))
              try simp only [Act.put, List.setIfInBounds_toArray, List.set_cons_zero, List.set_cons_succ]
              refine HL.take_ (i := 28) (oi := { dst := some 89, op := .move (.tmp 10), type := 3, pos := "law.go:41", after := #[{ on := 20, ground := .guard }], guard := some (20, false) }) (v := ?_) rfl (by decide) (by kernel_rfl) (by kernel_rfl) (fun _ _ _ h => h) (Or.inl ⟨by rfl, ?_⟩) (by assumption) ?_
              rotate_left
              · intro w hSw
                (try dsimp only at hSw)
                obtain ⟨h0, h1, h2, h3, h4, h5, h6, h7, h8, h9, h10, h11, h12, h13, h14, h15, h16⟩ := hSw; (go_simp; try (with_reducible rfl))
              try simp only [Act.put, List.setIfInBounds_toArray, List.set_cons_zero, List.set_cons_succ]
              refine HL.take_ (i := 29) (oi := { dst := some 90, op := .indexAddr 39 (.tmp 88) (.tmp 89), type := 0, pos := "law.go:41", after := #[{ on := 27, ground := .data }, { on := 28, ground := .data }, { on := 20, ground := .guard }], guard := some (20, false) }) (v := ?_) rfl (by decide) (by kernel_rfl) (by kernel_rfl) (fun _ _ _ h => h) (Or.inl ⟨by rfl, ?_⟩) (by assumption) ?_
              rotate_left
              · intro w hSw
                (try dsimp only at hSw)
                obtain ⟨h0, h1, h2, h3, h4, h5, h6, h7, h8, h9, h10, h11, h12, h13, h14, h15, h16⟩ := hSw; (go_simp; try (with_reducible rfl))
              try simp only [Act.put, List.setIfInBounds_toArray, List.set_cons_zero, List.set_cons_succ]
              refine HL.take_ (i := 30) (oi := { dst := some 91, op := .fieldAddr 49 (.tmp 90) 2, type := 0, pos := "law.go:41", after := #[{ on := 29, ground := .data }, { on := 20, ground := .guard }], guard := some (20, false) }) (v := ?_) rfl (by decide) (by kernel_rfl) (by kernel_rfl) (fun _ _ _ h => h) (Or.inl ⟨by rfl, ?_⟩) (by assumption) ?_
              rotate_left
              · intro w hSw
                (try dsimp only at hSw)
                obtain ⟨h0, h1, h2, h3, h4, h5, h6, h7, h8, h9, h10, h11, h12, h13, h14, h15, h16⟩ := hSw; (go_simp; try (with_reducible rfl))
              try simp only [Act.put, List.setIfInBounds_toArray, List.set_cons_zero, List.set_cons_succ]
              refine HL.take_ (i := 31) (oi := { dst := some 92, op := .load 46 (.tmp 91), type := 46, pos := "law.go:41", after := #[{ on := 30, ground := .data }, { on := 20, ground := .guard }], guard := some (20, false) }) (v := ?_) rfl (by decide) (by kernel_rfl) (by kernel_rfl) (fun _ _ _ h => h) (Or.inl ⟨by rfl, ?_⟩) (by assumption) ?_
              rotate_left
              · intro w hSw
                (try dsimp only at hSw)
                obtain ⟨h0, h1, h2, h3, h4, h5, h6, h7, h8, h9, h10, h11, h12, h13, h14, h15, h16⟩ := hSw; (go_simp; try (with_reducible rfl))
              try simp only [Act.put, List.setIfInBounds_toArray, List.set_cons_zero, List.set_cons_succ]
              refine HL.step2_ (i := 26) (j := 32) (o := { dst := some 87, op := .buildSlice 22 1 #[(0, .tmp 86)], type := 22, pos := "law.go:41", after := #[{ on := 25, ground := .data }, { on := 20, ground := .guard }], guard := some (20, false) }) (o2 := { dst := some 93, op := .buildSlice 22 1 #[(0, .tmp 92)], type := 22, pos := "law.go:41", after := #[{ on := 31, ground := .data }, { on := 20, ground := .guard }], guard := some (20, false) }) rfl rfl (by decide) (by decide) (by kernel_rfl) (fun K hK => ?_) (fun K hK => ?_)
              · go_simp
                have hsA : Sub wr (wr.alloc (.cells #[.int .u8 k1, .int .u8 ak1, .int .i64 ai1, .int .u8 bk1, .int .i64 bi1, .slice aa1 al1 ac1, .slice ba1 bl1 bc1] 46)) := sub_below ((Below.refl _ _).alloc (Nat.le_refl _) _)
                have x0a := hsA _ _ x0
                have x1a := hsA _ _ x1
                have x2a := hsA _ _ x2
                have x3a := hsA _ _ x3
                have x4a := hsA _ _ x4
                have x5a := hsA _ _ x5
                have x6a := hsA _ _ x6
                have x7a := hsA _ _ x7
                have x8a := hsA _ _ x8
                have y1a := hsA _ _ y1
                have y2a := hsA _ _ y2
                have y3a := hsA _ _ y3
                have y4a := hsA _ _ y4
                have y5a := hsA _ _ y5
                have y6a := hsA _ _ y6
                have y7a := hsA _ _ y7
                have y8a := hsA _ _ y8
                refine hK.out _ _ ⟨x0a, x1a, x2a, x3a, x4a, x5a, x6a, x7a, x8a, y1a, y2a, y3a, y4a, y5a, y6a, y7a, y8a⟩ (fun hHeld => ?_)
                clear hK K
                try simp only [Act.put, List.setIfInBounds_toArray, List.set_cons_zero, List.set_cons_succ]
                refine HL.step_ (i := 32) (o := { dst := some 93, op := .buildSlice 22 1 #[(0, .tmp 92)], type := 22, pos := "law.go:41", after := #[{ on := 31, ground := .data }, { on := 20, ground := .guard }], guard := some (20, false) }) rfl (by decide) (by kernel_rfl) (fun K hK => ?_)
                go_simp
                have hsB : Sub (wr.alloc (.cells #[.int .u8 k1, .int .u8 ak1, .int .i64 ai1, .int .u8 bk1, .int .i64 bi1, .slice aa1 al1 ac1, .slice ba1 bl1 bc1] 46)) ((wr.alloc (.cells #[.int .u8 k1, .int .u8 ak1, .int .i64 ai1, .int .u8 bk1, .int .i64 bi1, .slice aa1 al1 ac1, .slice ba1 bl1 bc1] 46)).alloc (.cells #[.int .u8 k2, .int .u8 ak2, .int .i64 ai2, .int .u8 bk2, .int .i64 bi2, .slice aa2 al2 ac2, .slice ba2 bl2 bc2] 46)) := sub_below ((Below.refl _ _).alloc (Nat.le_refl _) _)
                have x0b := hsB _ _ x0a
                have x1b := hsB _ _ x1a
                have x2b := hsB _ _ x2a
                have x3b := hsB _ _ x3a
                have x4b := hsB _ _ x4a
                have x5b := hsB _ _ x5a
                have x6b := hsB _ _ x6a
                have x7b := hsB _ _ x7a
                have x8b := hsB _ _ x8a
                have y1b := hsB _ _ y1a
                have y2b := hsB _ _ y2a
                have y3b := hsB _ _ y3a
                have y4b := hsB _ _ y4a
                have y5b := hsB _ _ y5a
                have y6b := hsB _ _ y6a
                have y7b := hsB _ _ y7a
                have y8b := hsB _ _ y8a
                refine hK.out _ _ ⟨x0b, x1b, x2b, x3b, x4b, x5b, x6b, x7b, x8b, y1b, y2b, y3b, y4b, y5b, y6b, y7b, y8b⟩ (fun hHeld => ?_)
                clear hK K
                try simp only [Act.put, List.setIfInBounds_toArray, List.set_cons_zero, List.set_cons_succ]
                refine HL.step_ (i := 33) (o := { dst := some 94, op := .call { callee := .value (.func 15), args := #[.tmp 87, .tmp 93], argTypes := #[22, 22] }, type := 4, pos := "law.go:41", after := #[{ on := 26, ground := .data }, { on := 32, ground := .data }, { on := 20, ground := .chain }, { on := 20, ground := .guard }], guard := some (20, false) }) rfl (by decide) (by kernel_rfl) (fun K hK => ?_)
                go_simp
                have hr1 := ((readsBody_one (t := 46) J1.out).sub hsB)
                have hr2 := (readsBody_one (t := 46) (J2.out.sub hsA))
                simp only [World.size_alloc] at hr1 hr2
                refine (same14_calls (((wr.alloc (.cells #[.int .u8 k1, .int .u8 ak1, .int .i64 ai1, .int .u8 bk1, .int .i64 bi1, .slice aa1 al1 ac1, .slice ba1 bl1 bc1] 46)).alloc (.cells #[.int .u8 k2, .int .u8 ak2, .int .i64 ai2, .int .u8 bk2, .int .i64 bi2, .slice aa2 al2 ac2, .slice ba2 bl2 bc2] 46)).drew) [s] [s] _ _ 1 1 _ _ (hr1.sub (fun _ _ hv => hv)) (hr2.sub (fun _ _ hv => hv))).mono ?_
                rw [sameB_refl]
                rintro e8 w8 ⟨rfl, dm, rfl⟩
                refine hK.out _ _ ⟨x0b, x1b, x2b, x3b, x4b, x5b, x6b, x7b, x8b, y1b, y2b, y3b, y4b, y5b, y6b, y7b, y8b⟩ (fun hHeld => ?_)
                clear hK K
                try simp only [Act.put, List.setIfInBounds_toArray, List.set_cons_zero, List.set_cons_succ]
                refine HL.take_ (i := 34) (oi := { dst := some 95, op := .unOp .not 4 (.tmp 94), type := 4, pos := "law.go:41", after := #[{ on := 33, ground := .data }, { on := 20, ground := .guard }], guard := some (20, false) }) (v := ?_) rfl (by decide) (by kernel_rfl) (by kernel_rfl) (fun _ _ _ h => h) (Or.inl ⟨by rfl, ?_⟩) (by assumption) ?_
                rotate_left
                · intro w hSw
                  (try dsimp only at hSw)
                  obtain ⟨h0, h1, h2, h3, h4, h5, h6, h7, h8, h9, h10, h11, h12, h13, h14, h15, h16⟩ := hSw; (go_simp; try (with_reducible rfl))
                try simp only [Act.put, List.setIfInBounds_toArray, List.set_cons_zero, List.set_cons_succ]
                refine HL.done_ (by kernel_rfl) ?_
                simp only [List.drop_succ_cons, List.drop_zero]
                clear hHeld
                go_wp2_with fail
                go_meet
                case rel =>
                  exact ⟨rfl, pw_below_drewN (BQ.out.trans ((((Below.refl _ _).alloc (Nat.le_refl _) _).alloc (by simp) _).mono BQ.out.size)) _⟩
              · go_simp
                have hsA : Sub wr (wr.alloc (.cells #[.int .u8 k2, .int .u8 ak2, .int .i64 ai2, .int .u8 bk2, .int .i64 bi2, .slice aa2 al2 ac2, .slice ba2 bl2 bc2] 46)) := sub_below ((Below.refl _ _).alloc (Nat.le_refl _) _)
                have x0a := hsA _ _ x0
                have x1a := hsA _ _ x1
                have x2a := hsA _ _ x2
                have x3a := hsA _ _ x3
                have x4a := hsA _ _ x4
                have x5a := hsA _ _ x5
                have x6a := hsA _ _ x6
                have x7a := hsA _ _ x7
                have x8a := hsA _ _ x8
                have y1a := hsA _ _ y1
                have y2a := hsA _ _ y2
                have y3a := hsA _ _ y3
                have y4a := hsA _ _ y4
                have y5a := hsA _ _ y5
                have y6a := hsA _ _ y6
                have y7a := hsA _ _ y7
                have y8a := hsA _ _ y8
                refine hK.out _ _ ⟨x0a, x1a, x2a, x3a, x4a, x5a, x6a, x7a, x8a, y1a, y2a, y3a, y4a, y5a, y6a, y7a, y8a⟩ (fun hHeld => ?_)
                clear hK K
                try simp only [Act.put, List.setIfInBounds_toArray, List.set_cons_zero, List.set_cons_succ]
                refine HL.step_ (i := 26) (o := { dst := some 87, op := .buildSlice 22 1 #[(0, .tmp 86)], type := 22, pos := "law.go:41", after := #[{ on := 25, ground := .data }, { on := 20, ground := .guard }], guard := some (20, false) }) rfl (by decide) (by kernel_rfl) (fun K hK => ?_)
                go_simp
                have hsB : Sub (wr.alloc (.cells #[.int .u8 k2, .int .u8 ak2, .int .i64 ai2, .int .u8 bk2, .int .i64 bi2, .slice aa2 al2 ac2, .slice ba2 bl2 bc2] 46)) ((wr.alloc (.cells #[.int .u8 k2, .int .u8 ak2, .int .i64 ai2, .int .u8 bk2, .int .i64 bi2, .slice aa2 al2 ac2, .slice ba2 bl2 bc2] 46)).alloc (.cells #[.int .u8 k1, .int .u8 ak1, .int .i64 ai1, .int .u8 bk1, .int .i64 bi1, .slice aa1 al1 ac1, .slice ba1 bl1 bc1] 46)) := sub_below ((Below.refl _ _).alloc (Nat.le_refl _) _)
                have x0b := hsB _ _ x0a
                have x1b := hsB _ _ x1a
                have x2b := hsB _ _ x2a
                have x3b := hsB _ _ x3a
                have x4b := hsB _ _ x4a
                have x5b := hsB _ _ x5a
                have x6b := hsB _ _ x6a
                have x7b := hsB _ _ x7a
                have x8b := hsB _ _ x8a
                have y1b := hsB _ _ y1a
                have y2b := hsB _ _ y2a
                have y3b := hsB _ _ y3a
                have y4b := hsB _ _ y4a
                have y5b := hsB _ _ y5a
                have y6b := hsB _ _ y6a
                have y7b := hsB _ _ y7a
                have y8b := hsB _ _ y8a
                refine hK.out _ _ ⟨x0b, x1b, x2b, x3b, x4b, x5b, x6b, x7b, x8b, y1b, y2b, y3b, y4b, y5b, y6b, y7b, y8b⟩ (fun hHeld => ?_)
                clear hK K
                try simp only [Act.put, List.setIfInBounds_toArray, List.set_cons_zero, List.set_cons_succ]
                refine HL.step_ (i := 33) (o := { dst := some 94, op := .call { callee := .value (.func 15), args := #[.tmp 87, .tmp 93], argTypes := #[22, 22] }, type := 4, pos := "law.go:41", after := #[{ on := 26, ground := .data }, { on := 32, ground := .data }, { on := 20, ground := .chain }, { on := 20, ground := .guard }], guard := some (20, false) }) rfl (by decide) (by kernel_rfl) (fun K hK => ?_)
                go_simp
                have hr1 := (readsBody_one (t := 46) (J1.out.sub hsA))
                have hr2 := ((readsBody_one (t := 46) J2.out).sub hsB)
                simp only [World.size_alloc] at hr1 hr2
                refine (same14_calls (((wr.alloc (.cells #[.int .u8 k2, .int .u8 ak2, .int .i64 ai2, .int .u8 bk2, .int .i64 bi2, .slice aa2 al2 ac2, .slice ba2 bl2 bc2] 46)).alloc (.cells #[.int .u8 k1, .int .u8 ak1, .int .i64 ai1, .int .u8 bk1, .int .i64 bi1, .slice aa1 al1 ac1, .slice ba1 bl1 bc1] 46)).drew) [s] [s] _ _ 1 1 _ _ (hr1.sub (fun _ _ hv => hv)) (hr2.sub (fun _ _ hv => hv))).mono ?_
                rw [sameB_refl]
                rintro e8 w8 ⟨rfl, dm, rfl⟩
                refine hK.out _ _ ⟨x0b, x1b, x2b, x3b, x4b, x5b, x6b, x7b, x8b, y1b, y2b, y3b, y4b, y5b, y6b, y7b, y8b⟩ (fun hHeld => ?_)
                clear hK K
                try simp only [Act.put, List.setIfInBounds_toArray, List.set_cons_zero, List.set_cons_succ]
                refine HL.take_ (i := 34) (oi := { dst := some 95, op := .unOp .not 4 (.tmp 94), type := 4, pos := "law.go:41", after := #[{ on := 33, ground := .data }, { on := 20, ground := .guard }], guard := some (20, false) }) (v := ?_) rfl (by decide) (by kernel_rfl) (by kernel_rfl) (fun _ _ _ h => h) (Or.inl ⟨by rfl, ?_⟩) (by assumption) ?_
                rotate_left
                · intro w hSw
                  (try dsimp only at hSw)
                  obtain ⟨h0, h1, h2, h3, h4, h5, h6, h7, h8, h9, h10, h11, h12, h13, h14, h15, h16⟩ := hSw; (go_simp; try (with_reducible rfl))
                try simp only [Act.put, List.setIfInBounds_toArray, List.set_cons_zero, List.set_cons_succ]
                refine HL.done_ (by kernel_rfl) ?_
                simp only [List.drop_succ_cons, List.drop_zero]
                clear hHeld
                go_wp2_with fail
                go_meet
                case rel =>
                  exact ⟨rfl, pw_below_drewN (BQ.out.trans ((((Below.refl _ _).alloc (Nat.le_refl _) _).alloc (by simp) _).mono BQ.out.size)) _⟩
            case rest =>
              obtain ⟨rfl, HBR⟩ := hcut
              go_wp2_with fail
              refine ⟨⟨i + 1, by omega, by go_num, ?_⟩, by simp [intOf]; omega⟩
              exact HBR.out
          · obtain rfl : K = i := by omega
            go_wp2_with fail
            refine ⟨⟨j + 1, by omega, by go_num, ?_⟩, by simp [intOf]; omega⟩
            exact HB.out.trans ((HB5.out.trans (BQ.out.mono HB5.out.size)).mono HB.out.size)
      · obtain rfl : j = 2 := by omega
        go_wp2_with fail
        go_ret
        exact ⟨rfl, HBV.out.trans (HB.out.mono HBV.out.size)⟩
set_option maxRecDepth 20000 in
theorem moduleFlat_no (w : World) (T : List St) (ta : Option Addr) (tn tc g f e : Nat) (aa : Option Addr) (an ac : Nat) (hT : ReadsBody w ta tn T) (hm : an ≤ maxLen) (ha : ¬ an ≤ 60) :
    Calls Try.prog 3 #[.slice ta tn tc, .agg #[.int .u8 g, .int .u8 f, .int .u8 e, .slice aa an ac]] w (YesF w) := by
  have HT := Lib.hid hT
  unfold maxLen at hm
  have hgt : (60 : Int) < (an : Int) := by omega
  clear hT ha
  go_enter Try.func3, Try.ntmps3
  go_wp2_with fail
  refine (awake_calls _).mono ?_
  rintro e1 w1 ⟨rfl, hb1⟩
  have hq := blk_below (heap_alloc_new w (.cells #[.int .u8 g, .int .u8 f, .int .u8 e, .slice aa an ac] 25)) hb1
  obtain ⟨c1, f1, z1⟩ := blk3 hq
  have HB1 := Lib.hid (((Below.refl w.heap.size w).alloc (Nat.le_refl _) (.cells #[.int .u8 g, .int .u8 f, .int .u8 e, .slice aa an ac] 25)).trans (hb1.mono (by simp)))
  clear hb1 hq
  go_wp2_with fail
  refine (short_calls w1 13 0 rfl T ta tn tc (HT.out.below HB1.out)).mono ?_
  rintro e2 w2 ⟨bb, rfl, rfl⟩
  cases bb
  all_goals
    go_wp2_with fail
    refine (awake_calls _).mono ?_
    rintro e2 w2 ⟨rfl, hb2⟩
    have HB2 := Lib.hid (HB1.out.trans (hb2.mono HB1.out.size))
    clear hb2
    go_wp2
    go_ret
    exact ⟨rfl, HB2.out⟩
end Go.Proofs.Ytjgijbaboekghaa

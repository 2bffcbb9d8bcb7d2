/-
  weathervanelaw02.SumBursts: whatever bytes, place and pattern it is handed, it returns true; its arguments read behind the call as they did. Condition: the table of the half bytes lies as start-up lays it (tied to the program's text by the card).
-/
import Derived.Test.YtfkagmngblkbbaaDoorAwake
import Derived.Test.YtfkagmngblkbbaaDoorLiftc
import Derived.Test.YtfkagmngblkbbaaDoorMore
import Derived.StillTailTactics
set_option linter.unusedSimpArgs false
set_option linter.unusedVariables false
namespace Go.Proofs.YtfkagmngblkbbaaDoor.lawSumBursts
open Go.ChangeShapes Go.WideShapes Go.ChangeAt Go.RowKit Crc
theorem own_frozen {B g n cap : Nat} {w : World} {xs : List Nat} (h : OwnB B w (.slice (some ⟨g, 0, none⟩) n cap) xs) (h0 : 0 < xs.length) (i : Nat) : w.frozen? ⟨g, i, none⟩ = false := by
  obtain ⟨g', cap', cur, e, _, hh, _⟩ := h.at_ h0
  injection e with e1 _ _
  injection e1 with e1
  injection e1 with e1 _ _
  subst e1
  exact blk_frozen hh i
theorem bit_int (p i : Nat) : (((p : Int) / 2 ^ i).tmod 2) = ((p / 2 ^ i % 2 : Nat) : Int) := by
  have e : ((p : Int) / 2 ^ i) = ((p / 2 ^ i : Nat) : Int) := by push_cast; rfl
  rw [e]
  rfl
set_option maxHeartbeats 1000000 in
theorem walk_yes (w : World) (a : Option Addr) (len cap : Nat) (xs : List Nat) (m p : Nat) (hx : Came w a len cap xs) (ht : Table w) (h : len ≤ 300) (hm : m < 65536) :
    Calls Tryd.prog 7 #[.slice a len cap, .int .u16 m, .int .u32 p] w fun e w' => e = .returned (.bool true) ∧ Below w.heap.size w w' := by
  obtain rfl := hx.1.1
  have HT := Lib.hid ht
  have HX := Lib.hid hx
  clear ht hx
  go_enter Tryd.func7, Tryd.ntmps7
  go_wp2_with fail
  refine (awake_calls _ HT.out).mono ?_
  rintro e w1 ⟨rfl, hb⟩
  have HB := Lib.hid hb
  clear hb
  go_wp2_with fail
  refine (seal_calls _ _ _ _ xs (HX.out.1.below HB.out) HX.out.2.1 (by omega) (HT.out.below HB.out)).mono ?_
  rintro e w2 ⟨v, rfl, hown, hb⟩
  obtain ⟨ss, hss⟩ : ∃ ss, ss = xs ++ be4 (sumOf xs) := ⟨_, rfl⟩
  have hsl : ss.length = xs.length + 4 := by rw [hss, List.length_append]; rfl
  have hsb : ∀ s ∈ ss, s < 256 := by rw [hss]; exact sealed_lt xs HX.out.1.2.1 _
  have hs0 : sumOf ss = 0 := by rw [hss]; exact sumOf_seal xs
  rw [← hss] at hown
  obtain ⟨g, cp, cur, rfl, hg, hh, hle, hmx, hx1, hx2⟩ := hown.at_ (by omega)
  clear hx1 hx2
  obtain ⟨n, hn⟩ : ∃ n, n = ss.length := ⟨_, rfl⟩
  rw [← hn] at hown hle hsl ⊢
  have HO := Lib.hid hown
  have HB2 := Lib.hid hb
  have HSL := Lib.hid hn
  have HSB := Lib.hid hsb
  have HS0 := Lib.hid hs0
  have hn1 : 4 ≤ n := by omega
  have hn2 : n ≤ 304 := by omega
  clear hss hb hown hh hn hsb hs0 hsl
  go_wp2_with fail
  have ek : (m : Int) % (8 * (n : Int)) = ((m % (8 * n) : Nat) : Int) := by push_cast; rfl
  have hk0 := Nat.mod_lt m (show 8 * n > 0 by omega)
  rw [ek]
  generalize m % (8 * n) = k at hk0 ⊢
  clear ek
  go_loopw [9, 10] (fun tv iv wr => ∃ i : Nat, i ≤ 32 ∧ k + i ≤ 8 * n ∧ iv = .int .i64 i ∧ tv = .bool (anyBit p i) ∧ Hid (OwnB w1.heap.size wr (.slice (some ⟨g, 0, none⟩) n cp) (turnedBy ss k p i)) ∧ Hid (Below w1.heap.size w1 wr)) (fun _ iv _ => 32 - (intOf iv).toNat)
  case atStart => exact ⟨0, by omega, by omega, rfl, rfl, HO.out, HB2.out⟩
  case round =>
    obtain ⟨i, hi, hki, rfl, rfl, HOi, HBi⟩ := hrel
    by_cases h1 : i < 32
    · by_cases h2 : k + i < 8 * n
      · by_cases h3 : p / 2 ^ i % 2 = 1
        · have t3 : (((p : Int) / 2 ^ i).tmod 2 == 1) = true := by rw [bit_int, h3]; rfl
          obtain ⟨j, hj⟩ : ∃ j, j = k + i := ⟨_, rfl⟩
          have hj8 : j / 8 < n := by omega
          have hjn : j < 8 * n := by omega
          have hl := turnedBy_length ss k p i
          have cq := own_cell HOi.out (j / 8) (by rw [hl, ← HSL.out]; exact hj8)
          obtain ⟨q, hq, hq2, cq⟩ : ∃ q, q = (turnedBy ss k p i).getD (j / 8) 0 ∧ q < 256 ∧ wr.cell? ⟨g, j / 8, none⟩ = some (.int .u8 ((q : Nat) : Int)) := ⟨_, rfl, getD_lt _ (turnedBy_lt ss k p HSB.out i) _, cq⟩
          have fq := own_frozen HOi.out (by rw [hl, ← HSL.out]; omega) (j / 8)
          have qa : IntKind.i64.wrap ((k : Int) + (i : Int)) = (j : Int) := by rw [IntWalk.i64_in _ (by omega)]; omega
          obtain ⟨d, hd⟩ : ∃ d, d = j / 8 := ⟨_, rfl⟩
          obtain ⟨r, hr⟩ : ∃ r, r = j % 8 := ⟨_, rfl⟩
          have hr8 : r < 8 := by omega
          have qb : IntKind.i64.wrap ((j : Int) / 8) = (d : Int) := by rw [IntWalk.i64_in _ (by omega)]; omega
          have qr1 : IntKind.i64.wrap ((j : Int) % 8) = (r : Int) := by rw [IntWalk.i64_in _ (by omega)]; omega
          have qr2 : IntKind.i64.wrap ((j : Int).tmod 8) = (r : Int) := by rw [Int.tmod_eq_emod_of_nonneg (by omega)]; exact qr1
          have qr3 : (j : Int).tmod 8 = (r : Int) := by rw [Int.tmod_eq_emod_of_nonneg (by omega)]; omega
          clear qr1 qr2
          rw [← hd] at cq fq hj8
          obtain ⟨x, hx⟩ : ∃ x, x = 128 / 2 ^ r := ⟨_, rfl⟩
          have hx2 : x < 256 := by rw [hx]; have := Nat.div_le_self 128 (2 ^ r); omega
          have qx : (128 : Int) / 2 ^ r = (x : Int) := by rw [hx]; push_cast; rfl
          have xq := xor_u8 q x hq2 hx2
          have HQ := Lib.hid (show flipAt (turnedBy ss k p i) (k + i) = (turnedBy ss k p i).set d (q ^^^ x) by rw [flipAt, hq, hx, hr, hd, hj])
          clear hj hl hq hd hr hx
          go_wp2
          go_still_tail 19, (by kernel_rfl)
          change wpList _ _ _ _ _ wr.drew
          clear qa qb qr3
          go_wp2
          refine ⟨⟨i + 1, by omega, by omega, by go_num, ?_, ?_, (HBi.out.setCell (p := ⟨g, d, none⟩) hg _).drew⟩, by simp [intOf]; omega⟩
          · rw [anyBit, decide_eq_true h3, Bool.or_true]
          · have := ownB_set HOi.out d (q ^^^ x)
            rw [← HQ.out] at this
            unfold turnedBy
            rw [if_pos h3]
            exact this
        · have t3 : (((p : Int) / 2 ^ i).tmod 2 == 1) = false := by rw [bit_int, beq_eq_false_iff_ne]; omega
          go_wp2
          refine ⟨⟨i + 1, by omega, by omega, by go_num, ?_, ?_, HBi⟩, by simp [intOf]; omega⟩
          · rw [anyBit, decide_eq_false h3, Bool.or_false]
          · unfold turnedBy
            rw [if_neg h3]
            exact HOi
      · go_wp2_with fail
        refine (opened_calls _ _ _ _ (turnedBy ss k p i) (own_reads HOi.out (turnedBy_lt ss k p HSB.out i) (by rw [turnedBy_length, ← HSL.out])) hle (by omega) (HT.out.below (HB.out.trans (HBi.out.mono HB.out.size)))).mono ?_
        rintro e w7 ⟨A7, n7, c7, f7, rfl, hb, h7⟩
        have hbs := burst_sum ss k p i HSB.out HS0.out (by rw [← HSL.out]; exact hki) hi
        have HB7 := Lib.hid ((HB.out.trans (HBi.out.mono HB.out.size)).trans (hb.mono (Nat.le_trans HB.out.size HBi.out.size)))
        obtain ⟨rfl, ha⟩ | ⟨rfl, ha⟩ : f7 = 6 ∧ anyBit p i = true ∨ f7 = 0 ∧ anyBit p i = false := by
          rcases h7 with ⟨h', _⟩ | ⟨_, h', _, h6⟩ | ⟨_, h', h6, _⟩
          · omega
          · refine .inl ⟨h6, ?_⟩
            cases hc : anyBit p i with
            | true => rfl
            | false => exact absurd (hbs.2 hc) h'
          · exact .inr ⟨h6, hbs.1 h'⟩
        · rw [ha]
          clear hbs h7 hb
          go_wp2
          go_ret
          exact ⟨rfl, HB7.out⟩
        · rw [ha]
          clear hbs h7 hb
          go_wp2
          go_ret
          exact ⟨rfl, HB7.out⟩
    · go_wp2_with fail
      refine (opened_calls _ _ _ _ (turnedBy ss k p i) (own_reads HOi.out (turnedBy_lt ss k p HSB.out i) (by rw [turnedBy_length, ← HSL.out])) hle (by omega) (HT.out.below (HB.out.trans (HBi.out.mono HB.out.size)))).mono ?_
      rintro e w7 ⟨A7, n7, c7, f7, rfl, hb, h7⟩
      have hbs := burst_sum ss k p i HSB.out HS0.out (by rw [← HSL.out]; exact hki) hi
      have HB7 := Lib.hid ((HB.out.trans (HBi.out.mono HB.out.size)).trans (hb.mono (Nat.le_trans HB.out.size HBi.out.size)))
      obtain ⟨rfl, ha⟩ | ⟨rfl, ha⟩ : f7 = 6 ∧ anyBit p i = true ∨ f7 = 0 ∧ anyBit p i = false := by
        rcases h7 with ⟨h', _⟩ | ⟨_, h', _, h6⟩ | ⟨_, h', h6, _⟩
        · omega
        · refine .inl ⟨h6, ?_⟩
          cases hc : anyBit p i with
          | true => rfl
          | false => exact absurd (hbs.2 hc) h'
        · exact .inr ⟨h6, hbs.1 h'⟩
      · rw [ha]
        clear hbs h7 hb
        go_wp2
        go_ret
        exact ⟨rfl, HB7.out⟩
      · rw [ha]
        clear hbs h7 hb
        go_wp2
        go_ret
        exact ⟨rfl, HB7.out⟩
set_option maxHeartbeats 400000 in
theorem walk_no (w : World) (a : Option Addr) (len cap : Nat) (m t : Int) (hm : len ≤ 9223372036854775807) (ht : Table w) (h : 300 < len) :
    Calls Tryd.prog 7 #[.slice a len cap, .int .u16 m, .int .u32 t] w fun e w' => e = .returned (.bool true) ∧ Below w.heap.size w w' := by
  have HT := Lib.hid ht
  clear ht
  go_enter Tryd.func7, Tryd.ntmps7
  go_wp2_with fail
  refine (awake_calls _ HT.out).mono ?_
  rintro e w1 ⟨rfl, hb⟩
  have HB := Lib.hid hb
  clear hb
  go_wp2_with fail
  refine (awake_calls _ (HT.out.below HB.out)).mono ?_
  rintro e w2 ⟨rfl, hb⟩
  have HB2 := Lib.hid hb
  clear hb
  go_wp2
  go_ret
  exact ⟨rfl, HB.out.trans (HB2.out.mono HB.out.size)⟩
theorem walk (w : World) (a0 : Option Addr) (l0 c0 : Nat) (x0 : List Nat) (m t : Int) (h0 : Came w a0 l0 c0 x0) (hm : (Lit.int .u16 m).wf = true) (h2 : (Lit.int .u32 t).wf = true) (ht : Table w) :
    Calls Tryd.prog 7 #[.slice a0 l0 c0, .int .u16 m, .int .u32 t] w fun e w' => e = .returned (.bool true) ∧ Below w.heap.size w w' := by
  have hm' : 0 ≤ m ∧ m ≤ 65535 := by simpa [Lit.wf, IntKind.min, IntKind.max, IntKind.signed, IntKind.bits] using hm
  have h2' : 0 ≤ t ∧ t ≤ 4294967295 := by simpa [Lit.wf, IntKind.min, IntKind.max, IntKind.signed, IntKind.bits] using h2
  by_cases h : l0 ≤ 300
  · obtain ⟨m', rfl⟩ := Int.eq_ofNat_of_zero_le hm'.1
    obtain ⟨t', rfl⟩ := Int.eq_ofNat_of_zero_le h2'.1
    exact walk_yes w a0 l0 c0 x0 m' t' h0 ht h (by omega)
  · exact walk_no w a0 l0 c0 m t h0.1.2.2.1 ht (by omega)

theorem laid_met (os : Os) : laidMet Tryd.prog Rows.sumBurstsRow.laid ((laidWorld os).forCall (fun _ _ => 0) ⟨#[], #[.slice none 0 0, .int .u16 0, .int .u32 0], []⟩).memory :=
  laidMet_of_run' 8 (by kernel_rfl) (by kernel_rfl)
theorem reads (os : Os) {H : Type} (enc : TypeId × Value → H) : ∃ places, DataW.whole enc Tryd.prog ((laidWorld os).forCall (fun _ _ => 0) ⟨#[], #[.slice none 0 0, .int .u16 0, .int .u32 0], []⟩).memory Tryd.f7.params.toList Rows.sumBurstsSpec.vars false #[(.slice none 0 0 : Value), (.int .u16 0 : Value), (.int .u32 0 : Value)].toList 8 = some ([.nil, .lit (.int .u16 0), .lit (.int .u32 0)], [], places) :=
  ⟨[], by kernel_rfl⟩

set_option maxRecDepth 100000 in
theorem lifted (os : Os) (started : os.Started) (H : Type) (enc : TypeId × Value → H) (F : Stop.Interp) :
    ReturnsInHanded {} Tryd.checked os 7 .any ((OpenSpec.ofChange Rows.sumBurstsSpec).preRow enc Tryd.prog Tryd.f7 Rows.sumBurstsRow.domain false Rows.sumBurstsRow.laid) (((OpenSpec.ofChange Rows.sumBurstsSpec).at F).post enc Tryd.prog Tryd.f7 false true false false) := by
  obtain ⟨places, hx⟩ := reads os enc
  refine returnsInHanded_of_row (C := Tryd.checked) (s := OpenSpec.ofChange Rows.sumBurstsSpec) own started (by kernel_rfl) Tryd.func7
    (witness_row_at (enc := enc) (C := Tryd.checked) false (laidWorld os) #[.slice none 0 0, .int .u16 0, .int .u32 0] rfl (by kernel_rfl) (by kernel_rfl) (by kernel_rfl)
      (OpenSpec.preRow_of_cond 8 hx (by kernel_rfl) (fun k hk => by cases hk) (by kernel_rfl) (laid_met os))) ?_
  intro W base args ds gs before hval0 hW _ _ _ hL _ _
  have hval : ∀ (j : Nat) t v, Tryd.f7.params[j]? = some t → args[j]? = some v → Value.okWide Tryd.prog W .any base t v := hval0
  have hW' := hW
  obtain ⟨p, q, hA0, hV, rfl, hfz, hnd⟩ := hW
  have hA : DataW.TrodAll enc Tryd.prog W 0 (fun _ => true) true Tryd.f7.params.toList args.toList ds p := hA0
  rw [Tryd.params7] at hA hval
  obtain ⟨v0, vs0, d0, ds0, p0, q0, hargs, rfl, rfl, h0, r0⟩ := trodAll_cons hA
  obtain ⟨v1, vs1, d1, ds1, p1, q1, rfl, rfl, rfl, h1, r1⟩ := trodAll_cons r0
  obtain ⟨v2, vs2, d2, ds2, p2, q2, rfl, rfl, rfl, h2, r2⟩ := trodAll_cons r1
  obtain ⟨rfl, rfl, rfl⟩ := trodAll_nil r2
  obtain rfl : args = #[v0, v1, v2] := by cases args; simp_all
  obtain ⟨rfl, rfl⟩ := trodVars_none hV
  obtain ⟨a0, len0, cap0, rfl⟩ := okWide_slice Tryd.underlying22 (hval 0 22 v0 rfl rfl)
  have k0 := h0
  have lt0 : ∀ x ∈ p0, x.block < W.heap.size := by obtain ⟨m, hm⟩ := k0; exact DataW.trod_lt m _ _ _ hm
  obtain ⟨x0, w0⟩ := open_came h0
  obtain ⟨a1, rfl, rfl, rfl, w1⟩ := open_int Tryd.underlying32 (hval 1 32 v1 rfl rfl) h1
  obtain ⟨a2, rfl, rfl, rfl, w2⟩ := open_int Tryd.underlying24 (hval 2 24 v2 rfl rfl) h2
  clear hA0 hval0
  refine (walk W a0 len0 cap0 x0 a1 a2 w0 w1 w2 (table_of hL)).mono fun e W' ⟨he, bel⟩ => ?_
  subst he
  exact ⟨_, rfl, _, _, _, [], _, [], hW', trodAll_mk1 (shut_bool Tryd.underlying4 _), (trodAll_cons_mk (Below.trod laidOut (by kernel_rfl) (of_decide_eq_true (by kernel_rfl)) k0 bel lt0) (trodAll_cons_mk (shut_int Tryd.underlying32 w1) (trodAll_cons_mk (shut_int Tryd.underlying24 w2) trodAll_mk0))), rfl, bel.frame _, fun h => by cases h⟩

theorem said : Rows.SumBurstsSaid :=
  OpenClaim.holds_of_cond 7 Tryd.f7 rfl rfl rfl rfl rfl rfl rfl ⟨rfl, rfl, rfl, rfl, rfl⟩ rfl rfl rfl rfl rfl (by kernel_rfl) Tryd.func7 (by kernel_rfl)
    (of_decide_eq_true (by kernel_rfl)) (by unfold Func.isWrapper; first | (rw [if_pos (by decide +kernel)]; kernel_rfl) | (rw [if_neg (by decide +kernel)]; exact ⟨rfl, rfl⟩))
    (fun os started H enc _ F => by rw [OpenClaim.pre_eq_preRow]; exact lifted os started H enc F)

/-- No parameter wants a stand-in; the program's own looks are off. -/
theorem plain (f : FuncId) (fn : Func) (hf : Tryd.pinned.checked.prog.funcNamed "weathervane/weathervanelaw02.SumBursts" = some f) (hfn : Tryd.pinned.checked.prog.funcs[f]? = some fn) :
    false = Tryd.pinned.checked.prog.looks [] ∧ ∀ (j : Nat) t, fn.params[j]? = some t → Tryd.pinned.checked.prog.wantsStandIn t = false := by
  obtain rfl : f = 7 := Option.some.inj ((show Tryd.prog.funcNamed "weathervane/weathervanelaw02.SumBursts" = some 7 by kernel_rfl).symm.trans hf) |>.symm
  obtain rfl : fn = Tryd.f7 := (Option.some.inj (Tryd.func7.symm.trans hfn)).symm
  refine ⟨by kernel_rfl, fun j t ht => ?_⟩
  rw [Tryd.params7] at ht
  have ht := Array.mem_of_getElem? ht
  simp at ht
  rcases ht with rfl | rfl | rfl
  · exact (show Tryd.prog.wantsStandIn 22 = false by kernel_rfl)
  · exact (show Tryd.prog.wantsStandIn 32 = false by kernel_rfl)
  · exact (show Tryd.prog.wantsStandIn 24 = false by kernel_rfl)

theorem card : Rows.SumBurstsCardSaid :=
  Claim7.holds_tied_plain_at .later [] _ _ _ _ said (fun _ h => by cases h) (by kernel_rfl) (fun _ h => by cases h) sumBursts_row_tie rfl ⟨rfl, rfl⟩ (by kernel_rfl) rfl plain (by kernel_rfl)
#print axioms card

end Go.Proofs.YtfkagmngblkbbaaDoor.lawSumBursts

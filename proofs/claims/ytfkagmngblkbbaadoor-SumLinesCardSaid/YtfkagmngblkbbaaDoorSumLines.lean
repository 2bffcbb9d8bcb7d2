/-
  weathervanelaw02.SumLines: whatever three rows of bytes it is handed, it returns true; its arguments read behind the call as they did. Condition: the table of the half bytes lies as start-up lays it (tied to the program's text by the card).
-/
import Derived.Test.YtfkagmngblkbbaaDoorAwake
import Derived.Test.YtfkagmngblkbbaaDoorLift
import Derived.StillTailTactics
import Derived.Deep.OwnRows
namespace Go.Proofs.YtfkagmngblkbbaaDoor.lawSumLines
open Go.ChangeShapes Go.WideShapes Go.ChangeAt Go.RowKit Crc
def xor3 (a b c : List Nat) (i : Nat) : Nat := a.getD i 0 ^^^ b.getD i 0 ^^^ c.getD i 0
def part3 (a b c : List Nat) (n k : Nat) : List Nat := (List.range n).map fun i => if i < k then xor3 a b c i else 0
theorem part3_zero (a b c : List Nat) (n : Nat) : madeCells #[Value.int .u8 0] n = bytesArr (part3 a b c n 0) := by
  apply Array.ext'
  simp only [madeCells, bytesArr, part3, Array.toList_map, Array.toList_range, List.map_map]
  apply List.map_congr_left
  intro i _
  simp [Nat.mod_one]
theorem part3_set (a b c : List Nat) (n k : Nat) : (part3 a b c n k).set k (xor3 a b c k) = part3 a b c n (k + 1) := by
  apply List.ext_getElem
  · simp [part3]
  intro i h1 h2
  simp only [part3, List.length_set, List.length_map, List.length_range] at h1
  simp only [part3, List.getElem_set, List.getElem_map, List.getElem_range]
  by_cases hi : k = i
  · subst hi; simp
  · rw [if_neg hi]
    by_cases h : i < k
    · rw [if_pos h, if_pos (by omega)]
    · rw [if_neg h, if_neg (by omega)]
theorem part3_all (a b c : List Nat) (n : Nat) (ha : a.length = n) (hb : b.length = n) (hc : c.length = n) : part3 a b c n n = zipX (zipX a b) c := by
  apply List.ext_getElem
  · simp [part3, zipX, ha, hb, hc]
  intro i h1 h2
  simp only [part3, List.length_map, List.length_range] at h1
  simp only [part3, zipX, List.getElem_map, List.getElem_range, List.getElem_zipWith, if_pos h1, xor3]
  simp [ha, hb, hc, h1]
theorem part3_length (a b c : List Nat) (n k : Nat) : (part3 a b c n k).length = n := by simp [part3]
theorem zipX_lt (a b : List Nat) (ha : ∀ x ∈ a, x < 256) (hb : ∀ x ∈ b, x < 256) : ∀ x ∈ zipX a b, x < 256 := by
  intro x hx
  simp only [zipX] at hx
  obtain ⟨i, hi, rfl⟩ := List.mem_iff_getElem.1 hx
  rw [List.getElem_zipWith]
  exact Nat.xor_lt_two_pow (n := 8) (ha _ (List.getElem_mem _)) (hb _ (List.getElem_mem _))
theorem sumOf_three (a b c : List Nat) (h1 : a.length = b.length) (h2 : a.length = c.length) : sumOf (zipX (zipX a b) c) = sumOf a ^^^ sumOf b ^^^ sumOf c := by
  rw [sumOf, crc_xor3 a b c h1 h2, BitVec.toNat_xor, BitVec.toNat_xor]
  rfl
theorem info5 : (Tryd.prog.info? 5).map (fun i => (i.zero, i.size, i.bytes)) = some (some (.int .u8 0), 1, 1) := by kernel_rfl
set_option maxHeartbeats 400000 in
theorem sumLines_walk (w : World) (a b c : Option Addr) (len cap capb capc : Nat) (xs ys zs : List Nat) (hx : Reads w a len xs) (hy : Reads w b len ys) (hz : Reads w c len zs) (ht : Table w) (h : len ≤ 200) :
    Calls Tryd.prog 4 #[.slice a len cap, .slice b len capb, .slice c len capc] w fun e w' => e = .returned (.bool true) ∧ Below w.heap.size w w' := by
  have HT := Lib.hid ht
  have HX := Lib.hid hx
  have HY := Lib.hid hy
  have HZ := Lib.hid hz
  have hmk := run_make_row' (P := Tryd.prog) 22 5 (.int .u8 0) 1 Tryd.underlying22 info5 rfl .i64 .i64 len (by omega) (by omega)
  clear ht hx hy hz
  go_enter Tryd.func4, Tryd.ntmps4
  go_wp2_with fail
  refine (awake_calls _ HT.out).mono ?_
  rintro e w1 ⟨rfl, hb⟩
  have HB := Lib.hid hb
  clear hb
  go_wp2_with fail
  go_loopw [8] (fun i wr => ∃ k : Nat, k ≤ len ∧ i = .int .i64 k ∧ wr.heap[w1.heap.size]? = some (.cells (bytesArr (part3 xs ys zs len k)) 5 (0, 0)) ∧ Below w1.heap.size w1 wr) (fun i _ => len - (intOf i).toNat)
  case atStart => exact ⟨0, Nat.zero_le _, rfl, by rw [heap_alloc_new, part3_zero], (Below.refl _ _).alloc (Nat.le_refl _) _⟩
  case round =>
    obtain ⟨k, hk, rfl, hrow, hbel⟩ := hrel
    have HR := Lib.hid hrow
    have HL := Lib.hid hbel
    clear hrow hbel
    by_cases hlt : k < len
    · obtain ⟨xa, xo, rfl, hxa⟩ := (HX.out.below (HB.out.trans (HL.out.mono HB.out.size))).2.2.2 (by omega)
      obtain ⟨ya, yo, rfl, hya⟩ := (HY.out.below (HB.out.trans (HL.out.mono HB.out.size))).2.2.2 (by omega)
      obtain ⟨za, zo, rfl, hza⟩ := (HZ.out.below (HB.out.trans (HL.out.mono HB.out.size))).2.2.2 (by omega)
      obtain ⟨x, hx, cx⟩ : ∃ x : Nat, x = xs.getD k 0 ∧ wr.cell? ⟨xa, xo + k, none⟩ = some (.int .u8 (x : Int)) := ⟨_, rfl, hxa k hlt⟩
      obtain ⟨y, hy, cy⟩ : ∃ x : Nat, x = ys.getD k 0 ∧ wr.cell? ⟨ya, yo + k, none⟩ = some (.int .u8 (x : Int)) := ⟨_, rfl, hya k hlt⟩
      obtain ⟨z, hz, cz⟩ : ∃ x : Nat, x = zs.getD k 0 ∧ wr.cell? ⟨za, zo + k, none⟩ = some (.int .u8 (x : Int)) := ⟨_, rfl, hza k hlt⟩
      have bx : x < 256 := by rw [hx]; exact getD_lt xs HX.out.2.1 k
      have by_ : y < 256 := by rw [hy]; exact getD_lt ys HY.out.2.1 k
      have bz : z < 256 := by rw [hz]; exact getD_lt zs HZ.out.2.1 k
      have e1 := xor_u8 x y bx by_
      obtain ⟨u, hu⟩ : ∃ u, u = x ^^^ y := ⟨_, rfl⟩
      have bu : u < 256 := by rw [hu]; exact Nat.xor_lt_two_pow (n := 8) bx by_
      rw [← hu] at e1
      have e2 := xor_u8 u z bu bz
      have hv : xor3 xs ys zs k = u ^^^ z := by rw [hu, hx, hy, hz]; rfl
      have Hx := Lib.hid hx
      have Hy := Lib.hid hy
      have Hz := Lib.hid hz
      have Hu := Lib.hid hu
      have Hv := Lib.hid hv
      clear hx hy hz hu hv hxa hya hza
      have cg : wr.cell? ⟨w1.heap.size, k, none⟩ = some (.int .u8 (((part3 xs ys zs len k).getD k 0 : Nat) : Int)) := (cell_of_row wr _ k _ _ _ HR.out).trans (bytesArr_at _ _ (by simp [part3]; omega))
      have fg := blk_frozen HR.out k
      go_wp2
      go_still_tail 17, (by kernel_rfl)
      change wpList _ _ _ _ _ wr.drew
      go_wp2
      refine ⟨⟨k + 1, by omega, by go_num, ?_, ?_⟩, by simp [intOf]; omega⟩
      · rw [← Hv.out]
        have := blk_set HR.out k (.int .u8 ((xor3 xs ys zs k : Nat) : Int))
        rw [bytesArr_set, part3_set] at this
        exact this
      · exact (HL.out.setCell (p := ⟨w1.heap.size, k, none⟩) (Nat.le_refl _) _).drew
    · have hlt' : len ≤ k := by omega
      obtain rfl : k = len := by omega
      have hrd : Reads wr (some ⟨w1.heap.size, 0, none⟩) k (zipX (zipX xs ys) zs) := by
        have e := part3_all xs ys zs k HX.out.1 HY.out.1 HZ.out.1
        have hl : (zipX (zipX xs ys) zs).length = k := by rw [← e]; exact part3_length ..
        have := Reads.row (xs := zipX (zipX xs ys) zs) HR.out (fun i hi => by rw [e]; exact bytesArr_at _ i hi) (zipX_lt _ _ (zipX_lt _ _ HX.out.2.1 HY.out.2.1) HZ.out.2.1) (by omega)
        rwa [hl] at this
      have HD := Lib.hid hrd
      clear hrd
      have hbw : Below w.heap.size w wr := HB.out.trans (HL.out.mono HB.out.size)
      have HW := Lib.hid hbw
      clear hbw
      go_wp2_with fail
      refine (of_calls _ _ _ _ _ HD.out (HT.out.below HW.out)).mono ?_
      rintro e w2 ⟨rfl, rfl⟩
      go_wp2_with fail
      refine (of_calls _ _ _ _ _ (HX.out.below HW.out) (HT.out.below HW.out)).mono ?_
      rintro e w2 ⟨rfl, rfl⟩
      go_wp2_with fail
      refine (of_calls _ _ _ _ _ (HY.out.below HW.out) (HT.out.below HW.out)).mono ?_
      rintro e w2 ⟨rfl, rfl⟩
      go_wp2_with fail
      refine (of_calls _ _ _ _ _ (HZ.out.below HW.out) (HT.out.below HW.out)).mono ?_
      rintro e w2 ⟨rfl, rfl⟩
      have e0 := Lib.hid (sumOf_three xs ys zs (by rw [HX.out.1, HY.out.1]) (by rw [HX.out.1, HZ.out.1]))
      have l1 := sumOf_lt xs
      have l2 := sumOf_lt ys
      have l3 := sumOf_lt zs
      generalize sumOf xs = r1 at *
      generalize sumOf ys = r2 at *
      generalize sumOf zs = r3 at *
      rw [e0.out]
      have e1 := xor_u32 r1 r2 l1 l2
      have e2 := xor_u32 (r1 ^^^ r2) r3 (Nat.xor_lt_two_pow (n := 32) l1 l2) l3
      go_wp2
      go_ret
      exact ⟨by simp, HW.out⟩
set_option maxHeartbeats 400000 in
theorem sumLines_no (w : World) (a b c : Option Addr) (la lb lc cap capb capc : Nat) (ht : Table w) (ha : la ≤ 9223372036854775807) (hb : lb ≤ 9223372036854775807) (h : 200 < la ∨ la ≤ 200 ∧ (lb ≠ la ∨ lb = la ∧ lc ≠ la)) :
    Calls Tryd.prog 4 #[.slice a la cap, .slice b lb capb, .slice c lc capc] w fun e w' => e = .returned (.bool true) ∧ Below w.heap.size w w' := by
  have HT := Lib.hid ht
  clear ht
  rcases h with h | ⟨h, h1 | ⟨h1, h2⟩⟩
  · go_enter Tryd.func4, Tryd.ntmps4
    go_wp2_with fail
    refine (awake_calls _ HT.out).mono ?_
    rintro e w1 ⟨rfl, hb⟩
    have HB := Lib.hid hb
    clear hb
    go_wp2_with fail
    refine (awake_calls _ (HT.out.below HB.out)).mono ?_
    rintro e w2 ⟨rfl, hb⟩
    have HB2 := Lib.hid hb
    clear hb
    go_wp2
    go_ret
    exact ⟨rfl, HB.out.trans (HB2.out.mono HB.out.size)⟩
  · have n1 : ((lb : Int) != (la : Int)) = true := by rw [bne_iff_ne]; omega
    go_enter Tryd.func4, Tryd.ntmps4
    go_wp2_with fail
    refine (awake_calls _ HT.out).mono ?_
    rintro e w1 ⟨rfl, hb⟩
    have HB := Lib.hid hb
    clear hb
    go_wp2_with fail
    refine (awake_calls _ (HT.out.below HB.out)).mono ?_
    rintro e w2 ⟨rfl, hb⟩
    have HB2 := Lib.hid hb
    clear hb
    go_wp2
    go_ret
    exact ⟨rfl, HB.out.trans (HB2.out.mono HB.out.size)⟩
  · subst h1
    have n2 : ((lc : Int) != (lb : Int)) = true := by rw [bne_iff_ne]; omega
    go_enter Tryd.func4, Tryd.ntmps4
    go_wp2_with fail
    refine (awake_calls _ HT.out).mono ?_
    rintro e w1 ⟨rfl, hb⟩
    have HB := Lib.hid hb
    clear hb
    go_wp2_with fail
    refine (awake_calls _ (HT.out.below HB.out)).mono ?_
    rintro e w2 ⟨rfl, hb⟩
    have HB2 := Lib.hid hb
    clear hb
    go_wp2
    go_ret
    exact ⟨rfl, HB.out.trans (HB2.out.mono HB.out.size)⟩
theorem walk (w : World) (a0 : Option Addr) (l0 c0 : Nat) (x0 : List Nat) (a1 : Option Addr) (l1 c1 : Nat) (x1 : List Nat) (a2 : Option Addr) (l2 c2 : Nat) (x2 : List Nat) (h0 : Reads w a0 l0 x0) (h1 : Reads w a1 l1 x1) (h2 : Reads w a2 l2 x2) (ht : Table w) :
    Calls Tryd.prog 4 #[.slice a0 l0 c0, .slice a1 l1 c1, .slice a2 l2 c2] w fun e w' => e = .returned (.bool true) ∧ Below w.heap.size w w' := by
  by_cases h : l0 ≤ 200 ∧ l1 = l0 ∧ l2 = l0
  · obtain ⟨h, rfl, rfl⟩ := h
    exact sumLines_walk w a0 a1 a2 _ c0 c1 c2 x0 x1 x2 h0 h1 h2 ht h
  · exact sumLines_no w a0 a1 a2 l0 l1 l2 c0 c1 c2 ht h0.2.2.1 h1.2.2.1 (by omega)

theorem laid_met (os : Os) : laidMet Tryd.prog Rows.sumLinesRow.laid ((laidWorld os).forCall (fun _ _ => 0) ⟨#[], #[.slice none 0 0, .slice none 0 0, .slice none 0 0], []⟩).memory :=
  laidMet_of_run' 8 (by kernel_rfl) (by kernel_rfl)
theorem reads (os : Os) {H : Type} (enc : TypeId × Value → H) : ∃ places, DataW.whole enc Tryd.prog ((laidWorld os).forCall (fun _ _ => 0) ⟨#[], #[.slice none 0 0, .slice none 0 0, .slice none 0 0], []⟩).memory Tryd.f4.params.toList Rows.sumLinesSpec.vars false #[(.slice none 0 0 : Value), (.slice none 0 0 : Value), (.slice none 0 0 : Value)].toList 8 = some ([.nil, .nil, .nil], [], places) :=
  ⟨[], by kernel_rfl⟩

set_option maxRecDepth 100000 in
theorem lifted (os : Os) (started : os.Started) (H : Type) (enc : TypeId × Value → H) (F : Stop.Interp) :
    ReturnsInHanded {} Tryd.checked os 4 .any ((OpenSpec.ofChange Rows.sumLinesSpec).preRow enc Tryd.prog Tryd.f4 Rows.sumLinesRow.domain false Rows.sumLinesRow.laid) (((OpenSpec.ofChange Rows.sumLinesSpec).at F).post enc Tryd.prog Tryd.f4 false true false false) := by
  obtain ⟨places, hx⟩ := reads os enc
  refine returnsInHanded_of_row (C := Tryd.checked) (s := OpenSpec.ofChange Rows.sumLinesSpec) own started (by kernel_rfl) Tryd.func4
    (witness_row_at (enc := enc) (C := Tryd.checked) false (laidWorld os) #[.slice none 0 0, .slice none 0 0, .slice none 0 0] rfl (by kernel_rfl) (by kernel_rfl) (by kernel_rfl)
      (OpenSpec.preRow_of_cond 8 hx (by kernel_rfl) (fun k hk => by cases hk) (by kernel_rfl) (laid_met os))) ?_
  intro W base args ds gs before hval0 hW _ _ _ hL _ _
  have hval : ∀ (j : Nat) t v, Tryd.f4.params[j]? = some t → args[j]? = some v → Value.okWide Tryd.prog W .any base t v := hval0
  have hW' := hW
  obtain ⟨p, q, hA0, hV, rfl, hfz, hnd⟩ := hW
  have hA : DataW.TrodAll enc Tryd.prog W 0 (fun _ => true) true Tryd.f4.params.toList args.toList ds p := hA0
  rw [Tryd.params4] at hA hval
  obtain ⟨v0, vs0, d0, ds0, p0, q0, hargs, rfl, rfl, h0, r0⟩ := trodAll_cons hA
  obtain ⟨v1, vs1, d1, ds1, p1, q1, rfl, rfl, rfl, h1, r1⟩ := trodAll_cons r0
  obtain ⟨v2, vs2, d2, ds2, p2, q2, rfl, rfl, rfl, h2, r2⟩ := trodAll_cons r1
  obtain ⟨rfl, rfl, rfl⟩ := trodAll_nil r2
  obtain rfl : args = #[v0, v1, v2] := by cases args; simp_all
  obtain ⟨rfl, rfl⟩ := trodVars_none hV
  obtain ⟨a0, len0, cap0, rfl⟩ := okWide_slice Tryd.underlying22 (hval 0 22 v0 rfl rfl)
  have k0 := h0
  have lt0 : ∀ x ∈ p0, x.block < W.heap.size := by obtain ⟨m, hm⟩ := k0; exact DataW.trod_lt m _ _ _ hm
  obtain ⟨x0, w0⟩ := open_bytes h0
  obtain ⟨a1, len1, cap1, rfl⟩ := okWide_slice Tryd.underlying22 (hval 1 22 v1 rfl rfl)
  have k1 := h1
  have lt1 : ∀ x ∈ p1, x.block < W.heap.size := by obtain ⟨m, hm⟩ := k1; exact DataW.trod_lt m _ _ _ hm
  obtain ⟨x1, w1⟩ := open_bytes h1
  obtain ⟨a2, len2, cap2, rfl⟩ := okWide_slice Tryd.underlying22 (hval 2 22 v2 rfl rfl)
  have k2 := h2
  have lt2 : ∀ x ∈ p2, x.block < W.heap.size := by obtain ⟨m, hm⟩ := k2; exact DataW.trod_lt m _ _ _ hm
  obtain ⟨x2, w2⟩ := open_bytes h2
  clear hA0 hval0
  refine (walk W a0 len0 cap0 x0 a1 len1 cap1 x1 a2 len2 cap2 x2 w0 w1 w2 (table_of hL)).mono fun e W' ⟨he, bel⟩ => ?_
  subst he
  exact ⟨_, rfl, _, _, _, [], _, [], hW', trodAll_mk1 (shut_bool Tryd.underlying4 _), (trodAll_cons_mk (Below.trod laidOut (by kernel_rfl) (of_decide_eq_true (by kernel_rfl)) k0 bel lt0) (trodAll_cons_mk (Below.trod laidOut (by kernel_rfl) (of_decide_eq_true (by kernel_rfl)) k1 bel lt1) (trodAll_cons_mk (Below.trod laidOut (by kernel_rfl) (of_decide_eq_true (by kernel_rfl)) k2 bel lt2) trodAll_mk0))), rfl, bel.frame _, fun h => by cases h⟩

theorem said : Rows.SumLinesSaid :=
  OpenClaim.holds_of_cond 4 Tryd.f4 rfl rfl rfl rfl rfl rfl rfl ⟨rfl, rfl, rfl, rfl, rfl⟩ rfl rfl rfl rfl rfl (by kernel_rfl) Tryd.func4 (by kernel_rfl)
    (of_decide_eq_true (by kernel_rfl)) (by unfold Func.isWrapper; first | (rw [if_pos (by decide +kernel)]; kernel_rfl) | (rw [if_neg (by decide +kernel)]; exact ⟨rfl, rfl⟩))
    (fun os started H enc _ F => by rw [OpenClaim.pre_eq_preRow]; exact lifted os started H enc F)

/-- No parameter wants a stand-in; the program's own looks are off. -/
theorem plain (f : FuncId) (fn : Func) (hf : Tryd.pinned.checked.prog.funcNamed "weathervane/weathervanelaw02.SumLines" = some f) (hfn : Tryd.pinned.checked.prog.funcs[f]? = some fn) :
    false = Tryd.pinned.checked.prog.looks [] ∧ ∀ (j : Nat) t, fn.params[j]? = some t → Tryd.pinned.checked.prog.wantsStandIn t = false := by
  obtain rfl : f = 4 := Option.some.inj ((show Tryd.prog.funcNamed "weathervane/weathervanelaw02.SumLines" = some 4 by kernel_rfl).symm.trans hf) |>.symm
  obtain rfl : fn = Tryd.f4 := (Option.some.inj (Tryd.func4.symm.trans hfn)).symm
  refine ⟨by kernel_rfl, fun j t ht => ?_⟩
  rw [Tryd.params4] at ht
  have ht := Array.mem_of_getElem? ht
  simp at ht
  subst ht
  exact (show Tryd.prog.wantsStandIn 22 = false by kernel_rfl)

theorem card : Rows.SumLinesCardSaid :=
  Claim7.holds_tied_plain_at .later [] _ _ _ _ said (fun _ h => by cases h) (by kernel_rfl) (fun _ h => by cases h) sumLines_row_tie rfl ⟨rfl, rfl⟩ (by kernel_rfl) rfl plain (by kernel_rfl)
#print axioms card

end Go.Proofs.YtfkagmngblkbbaaDoor.lawSumLines

/-
  The document's one (function 21): the token that begins at a place.
-/
import Derived.Test.YtjebanfmnfofnaaRefL
import Derived.Test.YtjebanfmnfofnaaLay
import Derived.Deep.CutRange
set_option linter.unusedSimpArgs false
set_option linter.unusedVariables false
namespace Go.Proofs.Ytjebanfmnfofnaa
open Go.RowKit
/-- What one hands back. -/
def Oned (w : World) (P : List Nat) (k : Nat) (e : Ending) (w' : World) : Prop :=
  (match tokAt P k with
    | .ok (t, nx) => e = .returned (.tuple #[t.val, .int .i64 (nx : Nat), .int .i64 0])
    | .error b => e = .returned (.tuple #[noTok, .int .i64 (-1), .int .i64 (b : Nat)])) ∧ Below w.heap.size w w'
theorem oned_ok {w w' : World} {P : List Nat} {k nx : Nat} {t : Tok} {e : Ending} (h : tokAt P k = .ok (t, nx)) (he : e = .returned (.tuple #[t.val, .int .i64 (nx : Nat), .int .i64 0])) (hb : Below w.heap.size w w') : Oned w P k e w' := by
  unfold Oned; rw [h]; exact ⟨he, hb⟩
theorem oned_err {w w' : World} {P : List Nat} {k b : Nat} {e : Ending} (h : tokAt P k = .error b) (he : e = .returned (.tuple #[noTok, .int .i64 (-1), .int .i64 (b : Nat)])) (hb : Below w.heap.size w w') : Oned w P k e w' := by
  unfold Oned; rw [h]; exact ⟨he, hb⟩
/-- The nine signs. -/
def sg (i : Nat) : Nat := ([59, 61, 38, 42, 40, 41, 44, 123, 125] : List Nat).getD i 0
theorem sg_get (i : Nat) (hi : i < 9) (j : Nat) (e : j = i) (h : j < (⟨#[59, 61, 38, 42, 40, 41, 44, 123, 125]⟩ : ByteArray).size) : ((⟨#[59, 61, 38, 42, 40, 41, 44, 123, 125]⟩ : ByteArray)[j]'h).toNat = sg i := by
  subst e
  have : ∀ j : Fin 9, ((#[59, 61, 38, 42, 40, 41, 44, 123, 125] : Array UInt8)[j.val]'j.isLt).toNat = sg j.val := by decide
  exact this ⟨j, hi⟩
theorem sg_all {c : Nat} (h : ∀ i, i < 9 → sg i ≠ c) : isSign c = false := by
  have h0 := h 0 (by decide); have h1 := h 1 (by decide); have h2 := h 2 (by decide); have h3 := h 3 (by decide); have h4 := h 4 (by decide)
  have h5 := h 5 (by decide); have h6 := h 6 (by decide); have h7 := h 7 (by decide); have h8 := h 8 (by decide)
  simp [sg] at h0 h1 h2 h3 h4 h5 h6 h7 h8
  unfold isSign
  simp
  omega
theorem sg_sign {i : Nat} (h : i < 9) : isSign (sg i) = true := by
  have : ∀ j : Fin 9, isSign (sg j.val) = true := by decide
  exact this ⟨i, h⟩
/-- Two blocks of the call's own: the result's; the token's. -/
structure Two (w W : World) (k kd mk : Nat) (s : ByteArray) : Prop where
  bel : Below w.heap.size w W
  res : W.heap[w.heap.size]? = some (.cells #[.int .u8 0, .int .u8 0, .string ⟨#[]⟩, .int .i64 0] 34)
  tok : W.heap[w.heap.size + 1]? = some (.cells #[.int .u8 (kd : Nat), .int .u8 (mk : Nat), .string s, .int .i64 (k : Nat)] 34)
theorem mark_not (x : Nat) : ((x : Int) != 37 && (x : Int) != 36 && (x : Int) != 64 && (x : Int) != 35) = !isMark x := by
  rw [Bool.eq_iff_iff]
  simp [isMark]
  omega
section
variable {w W : World} {k kd mk : Nat} {s : ByteArray}
theorem Two.set0 (h : Two w W k kd mk s) (v : Nat) : Two w (W.setCell ⟨w.heap.size + 1, 0, none⟩ (.int .u8 (v : Nat))) k v mk s :=
  ⟨below_grown h.bel (Nat.le_succ _) (grown_set (grown_refl W _) 0 _), blk_far h.res (by simp) _, blk_set h.tok 0 _⟩
theorem Two.set1 (h : Two w W k kd mk s) (v : Nat) : Two w (W.setCell ⟨w.heap.size + 1, 1, none⟩ (.int .u8 (v : Nat))) k kd v s :=
  ⟨below_grown h.bel (Nat.le_succ _) (grown_set (grown_refl W _) 1 _), blk_far h.res (by simp) _, blk_set h.tok 1 _⟩
theorem Two.set2 (h : Two w W k kd mk s) (v : ByteArray) : Two w (W.setCell ⟨w.heap.size + 1, 2, none⟩ (.string v)) k kd mk v :=
  ⟨below_grown h.bel (Nat.le_succ _) (grown_set (grown_refl W _) 2 _), blk_far h.res (by simp) _, blk_set h.tok 2 _⟩
end
theorem Two.below {w W W' : World} {k kd mk : Nat} {s : ByteArray} (h : Two w W k kd mk s) (hb : Below W.heap.size W W') : Two w W' k kd mk s :=
  ⟨h.bel.trans (hb.mono h.bel.size), blk_below h.res hb, blk_below h.tok hb⟩
theorem wrap_small (i k : Nat) (hi : i ≤ 5000) (hk : k ≤ 10) : IntKind.i64.wrap ((i : Int) + (k : Int)) = (i : Int) + (k : Int) := by
  unfold IntKind.wrap
  simp [IntKind.signed, IntKind.bits]
  omega
theorem esc_zero {P : List Nat} {j : Nat} (h : ∀ x, P[j]? = some x → ¬ (x = 34 ∨ x = 92) ∧ (∀ a b, P[j + 1]? = some a → P[j + 2]? = some b → ¬ (x = 120 ∧ isHex a = true ∧ isHex b = true))) : (esc P j).2 = 0 := by
  unfold esc
  cases hx : P[j]? with
  | none => rfl
  | some x =>
    obtain ⟨h1, h2⟩ := h x hx
    show (if x = 34 ∨ x = 92 then (x, 1) else _).2 = 0
    rw [if_neg h1]
    cases ha : P[j + 1]? with
    | none => rfl
    | some a =>
      cases hb : P[j + 2]? with
      | none => rfl
      | some b =>
        show (if x = 120 ∧ isHex a = true ∧ isHex b = true then _ else (0, 0)).2 = 0
        rw [if_neg (h2 a b ha hb)]
theorem esc_one {P : List Nat} {j x : Nat} (h : P[j]? = some x) (hx : x = 34 ∨ x = 92) : esc P j = (x, 1) := by
  unfold esc
  rw [h]
  exact if_pos hx
theorem esc_hex {P : List Nat} {j a b : Nat} (h : P[j]? = some 120) (ha : P[j + 1]? = some a) (hb : P[j + 2]? = some b) (h1 : isHex a = true) (h2 : isHex b = true) : esc P j = (16 * hexV a + hexV b, 3) := by
  unfold esc
  rw [h, ha, hb]
  show (if 120 = 34 ∨ 120 = 92 then _ else if 120 = 120 ∧ isHex a = true ∧ isHex b = true then _ else _) = _
  rw [if_neg (by decide), if_pos ⟨rfl, h1, h2⟩]
theorem set4_34 {w : World} {g : Nat} {t : TypeId} {u0 u1 u2 u3 : Value} (h : w.heap[g]? = some (.cells #[u0, u1, u2, u3] t)) (v0 v1 v2 v3 : Value) : ((((w.setCell ⟨g, 0, none⟩ v0).setCell ⟨g, 1, none⟩ v1).setCell ⟨g, 2, none⟩ v2).setCell ⟨g, 3, none⟩ v3).heap[g]? = some (.cells #[v0, v1, v2, v3] t) := set4_30 h v0 v1 v2 v3
theorem ReadsU.cellsAt {w W : World} {n b off : Nat} {P : List Nat} (h : ReadsU w (some ⟨b, off, none⟩) n P) (hb : Below w.heap.size w W) : ∀ j u, P[j]? = some u → W.cell? ⟨b, off + j, none⟩ = some (.int .u8 (u : Nat)) := fun j u hu => by
  obtain ⟨hl, _, hr⟩ := h.below hb
  have := (List.getElem?_eq_some_iff.1 hu).1
  obtain ⟨b', off', e, hc⟩ := hr (by omega)
  injection e with e
  injection e with e1 e2
  subst e1 e2
  exact hc j u hu
set_option maxRecDepth 20000 in
set_option maxHeartbeats 8000000 in
theorem one_calls (w : World) (a : Option Addr) (n c k : Nat) (P : List Nat) (h : ReadsU w a n P) (hn : n ≤ 4000) (hnc : n ≤ c) (hk : k < n) :
    Calls Try.prog 21 #[.slice a n c, .int .i64 (k : Nat)] w (Oned w P k) := by
  have H := Lib.hid h
  obtain ⟨b, off, x, rfl, hx, x256, xc⟩ := h.at hk
  have HX := Lib.hid hx
  have HLEN := Lib.hid h.1
  have xa : ∀ o, (w.alloc o).cell? ⟨b, off + k, none⟩ = some (.int .u8 (x : Nat)) := fun o => (((Below.refl w.heap.size w).alloc (Nat.le_refl _) o).cell (p := ⟨b, off + k, none⟩) (World.block_lt_of_cell? w _ xc)).trans xc
  clear h hx
  go_enter Try.func21, Try.ntmps21
  go_upto_region 3 with (fail)
  obtain ⟨W1, hW1⟩ : ∃ W1, W1 = (w.alloc (.cells #[.int .u8 0, .int .u8 0, .string ⟨#[]⟩, .int .i64 0] 34)).alloc (.cells #[.int .u8 0, .int .u8 0, .string ⟨#[]⟩, .int .i64 (k : Nat)] 34) := ⟨_, rfl⟩
  have T1 : Hid (Two w W1 k 0 0 ⟨#[]⟩) := Lib.hid (by
    rw [hW1]
    refine ⟨((Below.refl _ _).alloc (Nat.le_refl _) _).alloc (by simp) _, blk_alloc (heap_alloc_new w _) _, ?_⟩
    have := heap_alloc_new (w.alloc (.cells #[.int .u8 0, .int .u8 0, .string ⟨#[]⟩, .int .i64 0] 34)) (.cells #[.int .u8 0, .int .u8 0, .string ⟨#[]⟩, .int .i64 (k : Nat)] 34)
    rwa [World.size_alloc] at this)
  rw [← hW1]
  clear hW1 xa xc
  go_wp2_with fail
  go_loop [9] (fun s9 => ∃ i : Nat, i ≤ 9 ∧ s9 = .int .i64 (i : Nat) ∧ Hid (∀ j, j < i → sg j ≠ x)) (fun s9 => 9 - (intOf s9).toNat)
  case atStart => exact ⟨0, Nat.zero_le _, rfl, fun j hj => absurd hj (Nat.not_lt_zero _)⟩
  case round =>
    obtain ⟨i, hi, rfl, HI⟩ := hrel
    by_cases hlt : i < 9
    · have hlt' : (i : Int) < 9 := by omega
      have hx1 : ∀ h, ((⟨#[59, 61, 38, 42, 40, 41, 44, 123, 125]⟩ : ByteArray)[((i : Int)).toNat]'h).toNat = sg i := fun h => sg_get i hlt _ (by omega) h
      have hx2 : ∀ h, ((⟨#[59, 61, 38, 42, 40, 41, 44, 123, 125]⟩ : ByteArray)[i]'h).toNat = sg i := fun h => sg_get i hlt _ rfl h
      by_cases he : sg i = x
      · have ke : ((x : Int) == (sg i : Int)) = true := by rw [beq_iff_eq]; omega
        obtain ⟨ct, ft, zt⟩ := blk3 T1.out.tok
        go_upto_region 8 with (fail)
        obtain ⟨W2, hW2⟩ : ∃ W2, W2 = W1.setCell ⟨w.heap.size + 1, 0, none⟩ (.int .u8 3) := ⟨_, rfl⟩
        have T2 : Hid (Two w W2 k 3 0 ⟨#[]⟩) := Lib.hid (by rw [hW2]; exact T1.out.set0 3)
        rw [← hW2]
        clear hW2 ct ft zt
        have kc := fun dst hd => conv_part (W := W2) (P := P) (b := b) (off := off) (i := k) (j := k + 1) (c := c - (k)) (by rw [HLEN.out]; omega) (H.out.cellsAt T2.out.bel) dst hd
        rw [show k + 1 - k = 1 by omega] at kc
        obtain ⟨S, hS⟩ : ∃ S, S = bstr ((P.drop k).take 1) := ⟨_, rfl⟩
        rw [← hS] at kc
        have HS := Lib.hid hS
        clear hS
        obtain ⟨ct, ft, zt⟩ := blk3 T2.out.tok
        go_upto_region 9 with (fail)
        obtain ⟨W3, hW3⟩ : ∃ W3, W3 = W2.setCell ⟨w.heap.size + 1, 2, none⟩ (.string S) := ⟨_, rfl⟩
        have T3 : Hid (Two w W3 k 3 0 S) := Lib.hid (by rw [hW3]; exact T2.out.set2 S)
        rw [← hW3]
        clear hW3 ct ft zt
        have HT : Hid (tokAt P k = .ok (⟨3, 0, [x], k⟩, k + 1)) := Lib.hid (by unfold tokAt; rw [HX.out]; show (if isSign x = true then _ else _) = _; rw [if_pos (by rw [← he]; exact sg_sign hlt)])
        have hSx : S = bstr [x] := by rw [HS.out, drop_of HX.out]; rfl
        subst hSx
        clear he ke kc
        obtain ⟨ct, ft, zt⟩ := blk3 T3.out.tok
        obtain ⟨cr, fr, zr⟩ := blk3 T3.out.res
        go_wp2_with fail
        have hres := set4_34 T3.out.res (.int .u8 3) (.int .u8 0) (.string (bstr [x])) (.int .i64 (k : Nat))
        have hgr := set4_grown W3 w.heap.size (.int .u8 3) (.int .u8 0) (.string (bstr [x])) (.int .i64 (k : Nat))
        clear cr fr zr ct ft zt
        obtain ⟨W', hW'⟩ : ∃ W', W' = (((((W3).setCell ⟨w.heap.size, 0, none⟩ (.int .u8 3)).setCell ⟨w.heap.size, 1, none⟩ (.int .u8 0)).setCell ⟨w.heap.size, 2, none⟩ (.string (bstr [x]))).setCell ⟨w.heap.size, 3, none⟩ (.int .i64 (k : Nat))) := ⟨_, rfl⟩
        rw [← hW'] at hres hgr ⊢
        obtain ⟨cr, fr, zr⟩ := blk3 hres
        have HB := Lib.hid (below_grown T3.out.bel (Nat.le_refl _) hgr)
        clear hres hgr hW'
        refine bodyPost_ret (v := .tuple #[(⟨3, 0, [x], k⟩ : Tok).val, .int .i64 ((k + 1 : Nat) : Int), .int .i64 0]) ?_ rfl (oned_ok HT.out rfl HB.out)
        simp [results, Try.results21, go_sem, Tok.val, cr]
      · have ke : ((x : Int) == (sg i : Int)) = false := by rw [beq_eq_false_iff_ne]; omega
        go_wp2
        go_round
        case measure => simp [intOf]; omega
        case rel => exact ⟨i + 1, by omega, by go_num, fun j hj => by
          rcases Nat.lt_or_ge j i with h | h
          · exact HI.out j h
          · obtain rfl : j = i := by omega
            exact he⟩
    · obtain rfl : i = 9 := by omega
      have HSG : Hid (isSign x = false) := Lib.hid (sg_all (fun j hj => HI.out j hj))
      clear HI hi hlt
      go_upto_region 10 with (fail)
      go_cut [43] from 38 to 43 (fun s43 wx => s43 = .bool (isLower x) ∧ wx = W1)
      case first =>
        by_cases h97 : 97 ≤ x
        · have k97 : (97 : Int) ≤ (x : Int) := by omega
          by_cases h122 : x ≤ 122
          · have k122 : (x : Int) ≤ 122 := by omega
            have HE : Hid (isLower x = true) := Lib.hid (by simp [isLower, h97, h122])
            go_wp2_with fail
            go_meet
            case rel => exact ⟨by rw [HE.out], rfl⟩
          · have k122 : ¬ (x : Int) ≤ 122 := by omega
            have HE : Hid (isLower x = false) := Lib.hid (by simp [isLower, h97, h122])
            go_wp2_with fail
            go_meet
            case rel => exact ⟨by rw [HE.out], rfl⟩
        · have k97 : ¬ (97 : Int) ≤ (x : Int) := by omega
          have HE : Hid (isLower x = false) := Lib.hid (by simp [isLower, h97])
          go_wp2_with fail
          go_meet
          case rel => exact ⟨by rw [HE.out], rfl⟩
      case rest =>
        obtain ⟨rfl, rfl⟩ := hcut
        cases hlow : isLower x with
        | true =>
          have HLOW := Lib.hid hlow
          clear hlow
          go_wp2_with fail
          go_loop [10] (fun s10 => ∃ j : Nat, k ≤ j ∧ j ≤ n ∧ s10 = .int .i64 (j : Nat) ∧ Hid (run isLower P j = run isLower P k)) (fun s10 => n - (intOf s10).toNat)
          case atStart => exact ⟨k, Nat.le_refl _, by omega, rfl, rfl⟩
          case round =>
            obtain ⟨j, hkj, hj, rfl, HR⟩ := hrel
            go_upto_region 12 with (fail)
            go_cut [62] from 45 to 62 (fun s62 wx => ∃ yes : Bool, s62 = .bool yes ∧ wx = wc ∧ Hid (yes = true → j < n ∧ run isLower P (j + 1) = run isLower P k) ∧ Hid (yes = false → run isLower P k = j))
            case first =>
              by_cases hlt : j < n
              · obtain ⟨y, hy⟩ : ∃ y, P[j]? = some y := ⟨_, List.getElem?_eq_getElem (by rw [HLEN.out]; omega)⟩
                have y256 : y < 256 := H.out.2.1 y (List.mem_of_getElem? hy)
                have yc := H.out.cellsAt T1.out.bel j y hy
                have hlt2 : (j : Int) < (n : Int) := by omega
                have HY := Lib.hid hy
                clear hy
                by_cases h97 : 97 ≤ y
                · have k97 : (97 : Int) ≤ (y : Int) := by omega
                  by_cases h122 : y ≤ 122
                  · have k122 : (y : Int) ≤ 122 := by omega
                    have HQ : Hid (run isLower P (j + 1) = run isLower P k) := Lib.hid (by rw [← HR.out]; exact (run_step HY.out (by unfold isLower; simp [h97, h122])).symm)
                    go_wp2_with fail
                    go_meet
                    case rel => exact ⟨true, rfl, rfl, fun _ => ⟨hlt, HQ.out⟩, fun h => (by cases h)⟩
                  · have k122 : ¬ (y : Int) ≤ 122 := by omega
                    have HQ : Hid (run isLower P k = j) := Lib.hid (by rw [← HR.out]; exact run_no HY.out (by unfold isLower; simp [h97, h122]))
                    go_wp2_with fail
                    go_meet
                    case rel => exact ⟨false, rfl, rfl, fun h => (by cases h), fun _ => HQ.out⟩
                · have k97 : ¬ (97 : Int) ≤ (y : Int) := by omega
                  have HQ : Hid (run isLower P k = j) := Lib.hid (by rw [← HR.out]; exact run_no HY.out (by unfold isLower; simp [h97]))
                  go_wp2_with fail
                  go_meet
                  case rel => exact ⟨false, rfl, rfl, fun h => (by cases h), fun _ => HQ.out⟩
              · have hlt2 : ¬ (j : Int) < (n : Int) := by omega
                have HQ : Hid (run isLower P k = j) := Lib.hid (by rw [← HR.out]; exact run_end (by rw [HLEN.out]; omega))
                go_wp2_with fail
                go_meet
                case rel => exact ⟨false, rfl, rfl, fun h => (by cases h), fun _ => HQ.out⟩
            case rest =>
              obtain ⟨yes, rfl, rfl, HYES, HNO⟩ := hcut
              cases yes with
              | true =>
                obtain ⟨hlt, hq⟩ := HYES.out rfl
                have HQ := Lib.hid hq
                clear hq HYES HNO
                go_wp2_with fail
                go_round
                case measure => simp [intOf]; omega
                case rel => exact ⟨j + 1, by omega, by omega, by go_num, HQ.out⟩
              | false =>
                have HQ := Lib.hid (HNO.out rfl)
                clear HYES HNO
                obtain ⟨ct, ft, zt⟩ := blk3 T1.out.tok
                go_upto_region 15 with (fail)
                obtain ⟨W2, hW2⟩ : ∃ W2, W2 = wc.setCell ⟨w.heap.size + 1, 0, none⟩ (.int .u8 1) := ⟨_, rfl⟩
                have T2 : Hid (Two w W2 k 1 0 ⟨#[]⟩) := Lib.hid (by rw [hW2]; exact T1.out.set0 1)
                rw [← hW2]
                clear hW2 ct ft zt
                have kc := fun dst hd => conv_part (W := W2) (P := P) (b := b) (off := off) (i := k) (j := j) (c := c - (k)) (by rw [HLEN.out]; omega) (H.out.cellsAt T2.out.bel) dst hd
                obtain ⟨S, hS⟩ : ∃ S, S = bstr ((P.drop k).take (j - k)) := ⟨_, rfl⟩
                rw [← hS] at kc
                have HS := Lib.hid hS
                clear hS
                obtain ⟨ct, ft, zt⟩ := blk3 T2.out.tok
                go_upto_region 16 with (fail)
                obtain ⟨W3, hW3⟩ : ∃ W3, W3 = W2.setCell ⟨w.heap.size + 1, 2, none⟩ (.string S) := ⟨_, rfl⟩
                have T3 : Hid (Two w W3 k 1 0 S) := Lib.hid (by rw [hW3]; exact T2.out.set2 S)
                rw [← hW3]
                clear hW3 ct ft zt
                have HT : Hid (tokAt P k = .ok (⟨1, 0, (P.drop k).take (j - k), k⟩, j)) := Lib.hid (by
                  unfold tokAt
                  rw [HX.out]
                  have hm : isMark x = false := by have := HLOW.out; simp [isLower] at this; simp [isMark]; omega
                  show (if isSign x = true then _ else if isMark x = true then _ else if isLower x = true then _ else _) = _
                  rw [if_neg (by rw [HSG.out]; decide), if_neg (by rw [hm]; decide), if_pos HLOW.out, HQ.out])
                have hSx := HS.out
                subst hSx
                clear kc
                obtain ⟨ct, ft, zt⟩ := blk3 T3.out.tok
                obtain ⟨cr, fr, zr⟩ := blk3 T3.out.res
                go_wp2_with fail
                have hres := set4_34 T3.out.res (.int .u8 1) (.int .u8 0) (.string (bstr ((P.drop k).take (j - k)))) (.int .i64 (k : Nat))
                have hgr := set4_grown W3 w.heap.size (.int .u8 1) (.int .u8 0) (.string (bstr ((P.drop k).take (j - k)))) (.int .i64 (k : Nat))
                clear cr fr zr ct ft zt
                obtain ⟨W', hW'⟩ : ∃ W', W' = (((((W3).setCell ⟨w.heap.size, 0, none⟩ (.int .u8 1)).setCell ⟨w.heap.size, 1, none⟩ (.int .u8 0)).setCell ⟨w.heap.size, 2, none⟩ (.string (bstr ((P.drop k).take (j - k))))).setCell ⟨w.heap.size, 3, none⟩ (.int .i64 (k : Nat))) := ⟨_, rfl⟩
                rw [← hW'] at hres hgr ⊢
                obtain ⟨cr, fr, zr⟩ := blk3 hres
                have HB := Lib.hid (below_grown T3.out.bel (Nat.le_refl _) hgr)
                clear hres hgr hW'
                refine bodyPost_ret (v := .tuple #[(⟨1, 0, (P.drop k).take (j - k), k⟩ : Tok).val, .int .i64 (j : Nat), .int .i64 0]) ?_ rfl (oned_ok HT.out rfl HB.out)
                simp [results, Try.results21, go_sem, Tok.val, cr]
        | false =>
          have HLOW := Lib.hid hlow
          clear hlow
          go_upto_region 17 with (fail)
          go_cut [87] from 74 to 87 (fun s87 wx => s87 = .bool (!isMark x) ∧ wx = wc)
          case first =>
            go_wp2_with fail
            all_goals
              first
              | (have e : (37 : Int) = (x : Int) := by omega
                 have HE : Hid (isMark x = true) := Lib.hid (by simp [isMark]; omega)
                 rw [e]
                 clear e
                 go_meet
                 case rel => exact ⟨by rw [HE.out]; rfl, rfl⟩)
              | (have e : (36 : Int) = (x : Int) := by omega
                 have HE : Hid (isMark x = true) := Lib.hid (by simp [isMark]; omega)
                 rw [e]
                 clear e
                 go_meet
                 case rel => exact ⟨by rw [HE.out]; rfl, rfl⟩)
              | (have e : (64 : Int) = (x : Int) := by omega
                 have HE : Hid (isMark x = true) := Lib.hid (by simp [isMark]; omega)
                 rw [e]
                 clear e
                 go_meet
                 case rel => exact ⟨by rw [HE.out]; rfl, rfl⟩)
              | (have e : (35 : Int) = (x : Int) := by omega
                 have HE : Hid (isMark x = true) := Lib.hid (by simp [isMark]; omega)
                 rw [e]
                 clear e
                 go_meet
                 case rel => exact ⟨by rw [HE.out]; rfl, rfl⟩)
              | (go_meet
                 case rel => exact ⟨by rw [mark_not], rfl⟩)
          case rest =>
            obtain ⟨rfl, rfl⟩ := hcut
            cases hmk : isMark x with
            | false =>
              have HT : Hid (tokAt P k = .error k) := Lib.hid (by
                unfold tokAt
                rw [HX.out]
                show (if isSign x = true then _ else if isMark x = true then _ else if isLower x = true then _ else _) = _
                rw [if_neg (by rw [HSG.out]; decide), if_neg (by rw [hmk]; decide), if_neg (by rw [HLOW.out]; decide)])
              clear hmk
              obtain ⟨ct, ft, zt⟩ := blk3 T1.out.tok
              obtain ⟨cr, fr, zr⟩ := blk3 T1.out.res
              go_wp2_with fail
              have hres := set4_34 T1.out.res (.int .u8 0) (.int .u8 0) (.string ⟨#[]⟩) (.int .i64 0)
              have hgr := set4_grown wc w.heap.size (.int .u8 0) (.int .u8 0) (.string ⟨#[]⟩) (.int .i64 0)
              clear cr fr zr ct ft zt
              obtain ⟨W', hW'⟩ : ∃ W', W' = (((((wc).setCell ⟨w.heap.size, 0, none⟩ (.int .u8 0)).setCell ⟨w.heap.size, 1, none⟩ (.int .u8 0)).setCell ⟨w.heap.size, 2, none⟩ (.string ⟨#[]⟩)).setCell ⟨w.heap.size, 3, none⟩ (.int .i64 0)) := ⟨_, rfl⟩
              rw [← hW'] at hres hgr ⊢
              obtain ⟨cr, fr, zr⟩ := blk3 hres
              have HB := Lib.hid (below_grown T1.out.bel (Nat.le_refl _) hgr)
              clear hres hgr hW'
              refine bodyPost_ret (v := .tuple #[noTok, .int .i64 (-1), .int .i64 (k : Nat)]) ?_ rfl (oned_err HT.out rfl HB.out)
              simp [results, Try.results21, go_sem, noTok, cr]
            | true =>
              have HMK := Lib.hid hmk
              clear hmk
              obtain ⟨ct, ft, zt⟩ := blk3 T1.out.tok
              go_upto_region 20 with (fail)
              obtain ⟨W2, hW2⟩ : ∃ W2, W2 = wc.setCell ⟨w.heap.size + 1, 0, none⟩ (.int .u8 2) := ⟨_, rfl⟩
              have T2 : Hid (Two w W2 k 2 0 ⟨#[]⟩) := Lib.hid (by rw [hW2]; exact T1.out.set0 2)
              rw [← hW2]
              clear hW2 ct ft zt
              obtain ⟨ct, ft, zt⟩ := blk3 T2.out.tok
              go_upto_region 21 with (fail)
              obtain ⟨W3, hW3⟩ : ∃ W3, W3 = W2.setCell ⟨w.heap.size + 1, 1, none⟩ (.int .u8 (x : Nat)) := ⟨_, rfl⟩
              have T3 : Hid (Two w W3 k 2 x ⟨#[]⟩) := Lib.hid (by rw [hW3]; exact T2.out.set1 x)
              rw [← hW3]
              clear hW3 ct ft zt
              go_upto_region 22 with (fail)
              by_cases hi : k + 1 < n
              · obtain ⟨y, hy⟩ : ∃ y, P[k + 1]? = some y := ⟨_, List.getElem?_eq_getElem (by rw [HLEN.out]; omega)⟩
                have y256 : y < 256 := H.out.2.1 y (List.mem_of_getElem? hy)
                have yc := H.out.cellsAt T3.out.bel (k + 1) y hy
                have hi2 : (k : Int) + 1 < (n : Int) := by omega
                have HY := Lib.hid hy
                clear hy
                cases hlt : isLetter y with
                | true =>
                  have HL := Lib.hid hlt
                  clear hlt
                  go_wp2_with fail
                  refine (rletter_yes W3 y y256 HL.out).mono ?_
                  rintro e wl ⟨rfl, rfl⟩
                  go_wp2_with fail
                  go_loop [11] (fun s11 => ∃ j : Nat, k + 1 ≤ j ∧ j ≤ n ∧ s11 = .int .i64 (j : Nat) ∧ Hid (run isNameC P j = run isNameC P (k + 1))) (fun s11 => n - (intOf s11).toNat)
                  case atStart => exact ⟨k + 1, Nat.le_refl _, by omega, by go_num, rfl⟩
                  case round =>
                    obtain ⟨j, hkj, hj, rfl, HR⟩ := hrel
                    go_upto_region 23 with (fail)
                    go_cut [130] from 106 to 130 (fun s130 wx => ∃ yes : Bool, s130 = .bool yes ∧ wx = W3 ∧ Hid (yes = true → j < n ∧ run isNameC P (j + 1) = run isNameC P (k + 1)) ∧ Hid (yes = false → run isNameC P (k + 1) = j))
                    case first =>
                      by_cases hlt : j < n
                      · obtain ⟨z, hz⟩ : ∃ z, P[j]? = some z := ⟨_, List.getElem?_eq_getElem (by rw [HLEN.out]; omega)⟩
                        have z256 : z < 256 := H.out.2.1 z (List.mem_of_getElem? hz)
                        have zc := H.out.cellsAt T3.out.bel j z hz
                        have hlt2 : (j : Int) < (n : Int) := by omega
                        have HZ := Lib.hid hz
                        have HGO : Hid (isNameC z = true → run isNameC P (j + 1) = run isNameC P (k + 1)) := Lib.hid (fun hq => by rw [← HR.out]; exact (run_step HZ.out hq).symm)
                        have HST : Hid (isNameC z = false → run isNameC P (k + 1) = j) := Lib.hid (fun hq => by rw [← HR.out]; exact run_no HZ.out hq)
                        clear hz
                        cases hl : isLetter z with
                        | true =>
                          have HLZ := Lib.hid hl
                          clear hl
                          go_wp2_with fail
                          refine (rletter_yes W3 z z256 HLZ.out).mono ?_
                          rintro e wl ⟨rfl, rfl⟩
                          go_wp2_with fail
                          go_meet
                          case rel => exact ⟨true, rfl, rfl, fun _ => ⟨hlt, HGO.out (letter_nameC HLZ.out)⟩, fun h => (by cases h)⟩
                        | false =>
                          have HLZ := Lib.hid hl
                          clear hl
                          cases hd : isDigit z with
                          | true =>
                            have HDZ := Lib.hid hd
                            clear hd
                            go_wp2_with fail
                            refine (rletter_no W3 z z256 HLZ.out).mono ?_
                            rintro e wl ⟨rfl, rfl⟩
                            go_wp2_with fail
                            refine (rdigit_yes W3 z z256 HDZ.out).mono ?_
                            rintro e wl ⟨rfl, rfl⟩
                            go_wp2_with fail
                            go_meet
                            case rel => exact ⟨true, rfl, rfl, fun _ => ⟨hlt, HGO.out (by unfold isNameC; rw [HDZ.out]; simp)⟩, fun h => (by cases h)⟩
                          | false =>
                            have HDZ := Lib.hid hd
                            clear hd
                            by_cases h46 : z = 46
                            · subst h46
                              go_wp2_with fail
                              refine (rletter_no W3 46 z256 HLZ.out).mono ?_
                              rintro e wl ⟨rfl, rfl⟩
                              go_wp2_with fail
                              refine (rdigit_no W3 46 z256 HDZ.out).mono ?_
                              rintro e wl ⟨rfl, rfl⟩
                              go_wp2_with fail
                              go_meet
                              case rel => exact ⟨true, rfl, rfl, fun _ => ⟨hlt, HGO.out rfl⟩, fun h => (by cases h)⟩
                            · have k46 : ((z : Int) == 46) = false := by rw [beq_eq_false_iff_ne]; omega
                              have HNC : Hid (isNameC z = false) := Lib.hid (nameC_not HLZ.out HDZ.out h46)
                              go_wp2_with fail
                              refine (rletter_no W3 z z256 HLZ.out).mono ?_
                              rintro e wl ⟨rfl, rfl⟩
                              go_wp2_with fail
                              refine (rdigit_no W3 z z256 HDZ.out).mono ?_
                              rintro e wl ⟨rfl, rfl⟩
                              go_wp2_with fail
                              go_meet
                              case rel => exact ⟨false, rfl, rfl, fun h => (by cases h), fun _ => HST.out HNC.out⟩
                      · have hlt2 : ¬ (j : Int) < (n : Int) := by omega
                        have HQ : Hid (run isNameC P (k + 1) = j) := Lib.hid (by rw [← HR.out]; exact run_end (by rw [HLEN.out]; omega))
                        go_wp2_with fail
                        go_meet
                        case rel => exact ⟨false, rfl, rfl, fun h => (by cases h), fun _ => HQ.out⟩
                    case rest =>
                      obtain ⟨yes, rfl, rfl, HYES, HNO⟩ := hcut
                      cases yes with
                      | true =>
                        obtain ⟨hlt, hq⟩ := HYES.out rfl
                        have HQ := Lib.hid hq
                        clear hq HYES HNO
                        go_wp2_with fail
                        go_round
                        case measure => simp [intOf]; omega
                        case rel => exact ⟨j + 1, by omega, by omega, by go_num, HQ.out⟩
                      | false =>
                        have HQ := Lib.hid (HNO.out rfl)
                        clear HYES HNO
                        have kc := fun dst hd => conv_part (W := wc) (P := P) (b := b) (off := off) (i := k + 1) (j := j) (c := c - (k + 1)) (by rw [HLEN.out]; omega) (H.out.cellsAt T3.out.bel) dst hd
                        obtain ⟨S, hS⟩ : ∃ S, S = bstr ((P.drop (k + 1)).take (j - (k + 1))) := ⟨_, rfl⟩
                        rw [← hS] at kc
                        have HS := Lib.hid hS
                        clear hS
                        obtain ⟨ct, ft, zt⟩ := blk3 T3.out.tok
                        go_upto_region 26 with (fail)
                        obtain ⟨W4, hW4⟩ : ∃ W4, W4 = wc.setCell ⟨w.heap.size + 1, 2, none⟩ (.string S) := ⟨_, rfl⟩
                        have T4 : Hid (Two w W4 k 2 x S) := Lib.hid (by rw [hW4]; exact T3.out.set2 S)
                        rw [← hW4]
                        clear hW4 ct ft zt
                        have HT : Hid (tokAt P k = .ok (⟨2, x, (P.drop (k + 1)).take (j - (k + 1)), k⟩, j)) := Lib.hid (tokAt_mark HX.out HSG.out HMK.out (by
                          unfold nameAt
                          rw [HY.out]
                          show (if y = 34 then _ else if isLetter y = true then _ else _) = _
                          rw [if_neg (by rintro rfl; have := HL.out; cases this), if_pos HL.out, HQ.out]))
                        have hSx := HS.out
                        subst hSx
                        clear kc
                        obtain ⟨ct, ft, zt⟩ := blk3 T4.out.tok
                        obtain ⟨cr, fr, zr⟩ := blk3 T4.out.res
                        go_wp2_with fail
                        have hres := set4_34 T4.out.res (.int .u8 2) (.int .u8 (x : Nat)) (.string (bstr ((P.drop (k + 1)).take (j - (k + 1))))) (.int .i64 (k : Nat))
                        have hgr := set4_grown W4 w.heap.size (.int .u8 2) (.int .u8 (x : Nat)) (.string (bstr ((P.drop (k + 1)).take (j - (k + 1))))) (.int .i64 (k : Nat))
                        clear cr fr zr ct ft zt
                        obtain ⟨W', hW'⟩ : ∃ W', W' = (((((W4).setCell ⟨w.heap.size, 0, none⟩ (.int .u8 2)).setCell ⟨w.heap.size, 1, none⟩ (.int .u8 (x : Nat))).setCell ⟨w.heap.size, 2, none⟩ (.string (bstr ((P.drop (k + 1)).take (j - (k + 1)))))).setCell ⟨w.heap.size, 3, none⟩ (.int .i64 (k : Nat))) := ⟨_, rfl⟩
                        rw [← hW'] at hres hgr ⊢
                        obtain ⟨cr, fr, zr⟩ := blk3 hres
                        have HB := Lib.hid (below_grown T4.out.bel (Nat.le_refl _) hgr)
                        clear hres hgr hW'
                        refine bodyPost_ret (v := .tuple #[(⟨2, x, (P.drop (k + 1)).take (j - (k + 1)), k⟩ : Tok).val, .int .i64 (j : Nat), .int .i64 0]) ?_ rfl (oned_ok HT.out rfl HB.out)
                        simp [results, Try.results21, go_sem, Tok.val, cr]
                | false =>
                  have HL := Lib.hid hlt
                  clear hlt
                  by_cases h34 : y = 34
                  · subst h34
                    go_wp2_with fail
                    refine (rletter_no W3 34 y256 HL.out).mono ?_
                    rintro e wl ⟨rfl, rfl⟩
                    go_wp2_with fail
                    go_loopg [11, 12] (n - (k + 1 + 1)) (fun gk s11 s12 wr => ∃ (i m cp : Nat) (A : Option Addr) (acc : List Nat), s11 = .int .i64 (i : Nat) ∧ s12 = .slice A m cp ∧ i ≤ n ∧ Hid (gk = n - i) ∧ m ≤ i ∧ Hid (acc.length = m) ∧ Hid (∀ u ∈ acc, u < 256) ∧ Hid (quoted P i acc = quoted P (k + 1 + 1) []) ∧ Hid (wr.ownsRow W3.heap.size 5 1 (.slice A m cp) m (bytes acc)) ∧ Hid (Below W3.heap.size W3 wr))
                    case atStart => exact ⟨k + 1 + 1, 0, 0, none, [], by go_num, rfl, by omega, rfl, by omega, rfl, fun u hu => (by simp at hu), rfl, World.ownsRow_nil _ _ _ _, Below.refl _ _⟩
                    case round =>
                      obtain ⟨i, m, cp, A, acc, rfl, rfl, hi2, HK, hm, HM, HA, HQ, Owr, Bwr⟩ := hrel
                      have TW := Lib.hid (T3.out.below Bwr.out)
                      clear yc
                      by_cases hlt : i < n
                      · obtain ⟨z, hz⟩ : ∃ z, P[i]? = some z := ⟨_, List.getElem?_eq_getElem (by rw [HLEN.out]; omega)⟩
                        have z256 : z < 256 := H.out.2.1 z (List.mem_of_getElem? hz)
                        have zc := H.out.cellsAt TW.out.bel i z hz
                        have hlt2 : (i : Int) < (n : Int) := by omega
                        have hlt3 : ¬ (n : Int) ≤ (i : Int) := by omega
                        have HZ := Lib.hid hz
                        have HWZ : Hid (∀ o, W3.heap.size ≤ (wr.alloc o).heap.size) := Lib.hid (fun o => by have := Bwr.out.size; simp; omega)
                        have HWB : Hid (∀ o, Below W3.heap.size W3 (wr.alloc o)) := Lib.hid (fun o => Bwr.out.alloc Bwr.out.size _)
                        clear hz
                        by_cases h34 : z = 34
                        · subst h34
                          have kc := fun dst hd => conv_own Owr.out HM.out dst hd
                          obtain ⟨S, hS⟩ : ∃ S, S = bstr acc := ⟨_, rfl⟩
                          rw [← hS] at kc
                          have HS := Lib.hid hS
                          clear hS
                          obtain ⟨ct, ft, zt⟩ := blk3 TW.out.tok
                          go_upto_region 47 with (fail)
                          obtain ⟨W4, hW4⟩ : ∃ W4, W4 = wr.setCell ⟨w.heap.size + 1, 2, none⟩ (.string S) := ⟨_, rfl⟩
                          have T4 : Hid (Two w W4 k 2 x S) := Lib.hid (by rw [hW4]; exact TW.out.set2 S)
                          rw [← hW4]
                          clear hW4 ct ft zt
                          have HT : Hid (tokAt P k = .ok (⟨2, x, acc, k⟩, i + 1)) := Lib.hid (tokAt_mark HX.out HSG.out HMK.out (by unfold nameAt; rw [HY.out]; show (if 34 = 34 then quoted P (k + 1 + 1) [] else _) = _; rw [if_pos rfl, ← HQ.out]; exact quoted_close HZ.out))
                          have hSx := HS.out
                          subst hSx
                          clear kc zc
                          obtain ⟨ct, ft, zt⟩ := blk3 T4.out.tok
                          obtain ⟨cr, fr, zr⟩ := blk3 T4.out.res
                          go_wp2_with fail
                          have hres := set4_34 T4.out.res (.int .u8 2) (.int .u8 (x : Nat)) (.string (bstr acc)) (.int .i64 (k : Nat))
                          have hgr := set4_grown W4 w.heap.size (.int .u8 2) (.int .u8 (x : Nat)) (.string (bstr acc)) (.int .i64 (k : Nat))
                          clear cr fr zr ct ft zt
                          obtain ⟨W', hW'⟩ : ∃ W', W' = (((((W4).setCell ⟨w.heap.size, 0, none⟩ (.int .u8 2)).setCell ⟨w.heap.size, 1, none⟩ (.int .u8 (x : Nat))).setCell ⟨w.heap.size, 2, none⟩ (.string (bstr acc))).setCell ⟨w.heap.size, 3, none⟩ (.int .i64 (k : Nat))) := ⟨_, rfl⟩
                          rw [← hW'] at hres hgr ⊢
                          obtain ⟨cr, fr, zr⟩ := blk3 hres
                          have HB := Lib.hid (below_grown T4.out.bel (Nat.le_refl _) hgr)
                          clear hres hgr hW'
                          refine bodyPost_ret (v := .tuple #[(⟨2, x, acc, k⟩ : Tok).val, .int .i64 ((i + 1 : Nat) : Int), .int .i64 0]) ?_ rfl (oned_ok HT.out rfl HB.out)
                          simp [results, Try.results21, go_sem, Tok.val, cr]
                        · have k34 : ¬ (z : Int) = 34 := by omega
                          have k34' : ((z : Int) != 34) = true := by rw [bne_iff_ne]; exact k34
                          by_cases hlo : z < 32
                          · have klo : (z : Int) < 32 := by omega
                            have HT : Hid (tokAt P k = .error i) := Lib.hid (tokAt_mark_bad HX.out HSG.out HMK.out (by unfold nameAt; rw [HY.out]; show (if 34 = 34 then quoted P (k + 1 + 1) [] else _) = _; rw [if_pos rfl, ← HQ.out]; exact quoted_out HZ.out (.inl hlo)))
                            obtain ⟨ct, ft, zt⟩ := blk3 TW.out.tok
                            obtain ⟨cr, fr, zr⟩ := blk3 TW.out.res
                            go_wp2_with fail
                            have hres := set4_34 TW.out.res (.int .u8 0) (.int .u8 0) (.string ⟨#[]⟩) (.int .i64 0)
                            have hgr := set4_grown wr w.heap.size (.int .u8 0) (.int .u8 0) (.string ⟨#[]⟩) (.int .i64 0)
                            clear cr fr zr ct ft zt
                            obtain ⟨W', hW'⟩ : ∃ W', W' = (((((wr).setCell ⟨w.heap.size, 0, none⟩ (.int .u8 0)).setCell ⟨w.heap.size, 1, none⟩ (.int .u8 0)).setCell ⟨w.heap.size, 2, none⟩ (.string ⟨#[]⟩)).setCell ⟨w.heap.size, 3, none⟩ (.int .i64 0)) := ⟨_, rfl⟩
                            rw [← hW'] at hres hgr ⊢
                            obtain ⟨cr, fr, zr⟩ := blk3 hres
                            have HB := Lib.hid (below_grown TW.out.bel (Nat.le_refl _) hgr)
                            clear hres hgr hW'
                            refine bodyPost_ret (v := .tuple #[noTok, .int .i64 (-1), .int .i64 (i : Nat)]) ?_ rfl (oned_err HT.out rfl HB.out)
                            simp [results, Try.results21, go_sem, noTok, cr]
                          · have klo : ¬ (z : Int) < 32 := by omega
                            by_cases hhi : 126 < z
                            · have khi : (126 : Int) < (z : Int) := by omega
                              have HT : Hid (tokAt P k = .error i) := Lib.hid (tokAt_mark_bad HX.out HSG.out HMK.out (by unfold nameAt; rw [HY.out]; show (if 34 = 34 then quoted P (k + 1 + 1) [] else _) = _; rw [if_pos rfl, ← HQ.out]; exact quoted_out HZ.out (.inr hhi)))
                              obtain ⟨ct, ft, zt⟩ := blk3 TW.out.tok
                              obtain ⟨cr, fr, zr⟩ := blk3 TW.out.res
                              go_wp2_with fail
                              have hres := set4_34 TW.out.res (.int .u8 0) (.int .u8 0) (.string ⟨#[]⟩) (.int .i64 0)
                              have hgr := set4_grown wr w.heap.size (.int .u8 0) (.int .u8 0) (.string ⟨#[]⟩) (.int .i64 0)
                              clear cr fr zr ct ft zt
                              obtain ⟨W', hW'⟩ : ∃ W', W' = (((((wr).setCell ⟨w.heap.size, 0, none⟩ (.int .u8 0)).setCell ⟨w.heap.size, 1, none⟩ (.int .u8 0)).setCell ⟨w.heap.size, 2, none⟩ (.string ⟨#[]⟩)).setCell ⟨w.heap.size, 3, none⟩ (.int .i64 0)) := ⟨_, rfl⟩
                              rw [← hW'] at hres hgr ⊢
                              obtain ⟨cr, fr, zr⟩ := blk3 hres
                              have HB := Lib.hid (below_grown TW.out.bel (Nat.le_refl _) hgr)
                              clear hres hgr hW'
                              refine bodyPost_ret (v := .tuple #[noTok, .int .i64 (-1), .int .i64 (i : Nat)]) ?_ rfl (oned_err HT.out rfl HB.out)
                              simp [results, Try.results21, go_sem, noTok, cr]
                            · have khi : ¬ (126 : Int) < (z : Int) := by omega
                              by_cases h92 : z = 92
                              · subst h92
                                clear h34 hlo hhi
                                by_cases hi1 : i + 1 < n
                                · have hi1' : (i : Int) + 1 < (n : Int) := by omega
                                  obtain ⟨y2, hy2⟩ : ∃ y2, P[i + 1]? = some y2 := ⟨_, List.getElem?_eq_getElem (by rw [HLEN.out]; omega)⟩
                                  have y2256 : y2 < 256 := H.out.2.1 y2 (List.mem_of_getElem? hy2)
                                  have y2c := H.out.cellsAt TW.out.bel (i + 1) y2 hy2
                                  have HY2 := Lib.hid hy2
                                  clear hy2
                                  by_cases q34 : y2 = 34
                                  · subst q34
                                    have HQI : Hid (quoted P (i + 2) (acc ++ [34]) = quoted P (k + 1 + 1) []) := Lib.hid (by
                                      rw [← HQ.out]
                                      have he := esc_one HY2.out (show 34 = 34 ∨ 34 = 92 by decide)
                                      have := quoted_esc (acc := acc) HZ.out (by rw [he]; decide)
                                      rw [he] at this
                                      exact this.symm)
                                    go_wp2_with (at_builtin; refine append_row (B := W3.heap.size) (w0 := W3) rfl _ _ 22 5 (.int .u8 0) 1 1 rfl Try.underlying22 info5 rfl (by decide) _ m _ rfl (own_below Owr.out ((Below.refl _ _).alloc (Nat.le_refl _) _)) ⟨wr.heap.size, 0, none⟩ 1 1 [.int .u8 (34 : Nat)] rfl rfl (new_cells _ _ _ _) (one_u8 _) (HWZ.out _) (HWB.out _) (by omega) (by omega) ?_; intro v1 w9 hown hb9 hg9; obtain ⟨A1, cp1, rfl, _, _⟩ := own_shape hown; have HO9 := Lib.hid hown; have HB9 := Lib.hid hb9; clear hown hb9 hg9)
                                    go_roundg (n - (i + 2))
                                    case measure => have := HK.out; omega
                                    case rel =>
                                      refine ⟨i + 2, m + 1, cp1, A1, acc ++ [34], by go_num, rfl, by omega, rfl, by omega, ?_, ?_, HQI.out, ?_, HB9.out⟩
                                      · show (acc ++ [34]).length = m + 1
                                        rw [List.length_append, HM.out]; rfl
                                      · show ∀ u ∈ acc ++ [34], u < 256
                                        intro u hu
                                        rcases List.mem_append.1 hu with hu | hu
                                        · exact HA.out u hu
                                        · rw [List.mem_singleton] at hu; omega
                                      · have := HO9.out
                                        rwa [show bytes acc ++ [Value.int .u8 (34 : Nat)] = bytes (acc ++ [34]) by simp [bytes]] at this
                                  · by_cases q92 : y2 = 92
                                    · subst q92
                                      have HQI : Hid (quoted P (i + 2) (acc ++ [92]) = quoted P (k + 1 + 1) []) := Lib.hid (by
                                        rw [← HQ.out]
                                        have he := esc_one HY2.out (show 92 = 34 ∨ 92 = 92 by decide)
                                        have := quoted_esc (acc := acc) HZ.out (by rw [he]; decide)
                                        rw [he] at this
                                        exact this.symm)
                                      go_wp2_with (at_builtin; refine append_row (B := W3.heap.size) (w0 := W3) rfl _ _ 22 5 (.int .u8 0) 1 1 rfl Try.underlying22 info5 rfl (by decide) _ m _ rfl (own_below Owr.out ((Below.refl _ _).alloc (Nat.le_refl _) _)) ⟨wr.heap.size, 0, none⟩ 1 1 [.int .u8 (92 : Nat)] rfl rfl (new_cells _ _ _ _) (one_u8 _) (HWZ.out _) (HWB.out _) (by omega) (by omega) ?_; intro v1 w9 hown hb9 hg9; obtain ⟨A1, cp1, rfl, _, _⟩ := own_shape hown; have HO9 := Lib.hid hown; have HB9 := Lib.hid hb9; clear hown hb9 hg9)
                                      go_roundg (n - (i + 2))
                                      case measure => have := HK.out; omega
                                      case rel =>
                                        refine ⟨i + 2, m + 1, cp1, A1, acc ++ [92], by go_num, rfl, by omega, rfl, by omega, ?_, ?_, HQI.out, ?_, HB9.out⟩
                                        · show (acc ++ [92]).length = m + 1
                                          rw [List.length_append, HM.out]; rfl
                                        · show ∀ u ∈ acc ++ [92], u < 256
                                          intro u hu
                                          rcases List.mem_append.1 hu with hu | hu
                                          · exact HA.out u hu
                                          · rw [List.mem_singleton] at hu; omega
                                        · have := HO9.out
                                          rwa [show bytes acc ++ [Value.int .u8 (92 : Nat)] = bytes (acc ++ [92]) by simp [bytes]] at this
                                    · have k234 : ((y2 : Int) == 34) = false := by rw [beq_eq_false_iff_ne]; omega
                                      have k292 : ((y2 : Int) == 92) = false := by rw [beq_eq_false_iff_ne]; omega
                                      have HNO := Lib.hid (show ¬ (y2 = 34 ∨ y2 = 92) by omega)
                                      clear q34 q92
                                      by_cases hi3 : i + 3 < n
                                      · have hi3' : ¬ (n : Int) ≤ (i : Int) + 3 := by omega
                                        obtain ⟨y3, hy3⟩ : ∃ y3, P[i + 2]? = some y3 := ⟨_, List.getElem?_eq_getElem (by rw [HLEN.out]; omega)⟩
                                        have y3256 : y3 < 256 := H.out.2.1 y3 (List.mem_of_getElem? hy3)
                                        have y3c := H.out.cellsAt TW.out.bel (i + 2) y3 hy3
                                        have HY3 := Lib.hid hy3
                                        clear hy3
                                        obtain ⟨y4, hy4⟩ : ∃ y4, P[i + 3]? = some y4 := ⟨_, List.getElem?_eq_getElem (by rw [HLEN.out]; omega)⟩
                                        have y4256 : y4 < 256 := H.out.2.1 y4 (List.mem_of_getElem? hy4)
                                        have y4c := H.out.cellsAt TW.out.bel (i + 3) y4 hy4
                                        have HY4 := Lib.hid hy4
                                        clear hy4
                                        by_cases h120 : y2 = 120
                                        · subst h120
                                          cases hx3 : isHex y3 with
                                          | false =>
                                            have HX3 := Lib.hid hx3
                                            have kn3 : (15 : Int) < (nib y3 : Nat) := by have : nib y3 = 16 := if_neg (by rw [hx3]; decide); omega
                                            clear hx3
                                            go_wp2_with fail
                                            refine (nibble_calls wr y3 y3256).mono ?_
                                            rintro e wl ⟨rfl, rfl⟩
                                            have HT : Hid (tokAt P k = .error i) := Lib.hid (tokAt_mark_bad HX.out HSG.out HMK.out (by unfold nameAt; rw [HY.out]; show (if 34 = 34 then quoted P (k + 1 + 1) [] else _) = _; rw [if_pos rfl, ← HQ.out]; exact quoted_bad HZ.out (esc_zero (fun q hq => by rw [HY2.out] at hq; injection hq with hq; subst hq; exact ⟨by decide, fun a' b' ha hb e => by have h9 : P[i + 2]? = some a' := ha; rw [HY3.out] at h9; injection h9 with h9; have h8 := e.2.1; rw [← h9, HX3.out] at h8; cases h8⟩))))
                                            obtain ⟨ct, ft, zt⟩ := blk3 TW.out.tok
                                            obtain ⟨cr, fr, zr⟩ := blk3 TW.out.res
                                            go_wp2_with fail
                                            have hres := set4_34 TW.out.res (.int .u8 0) (.int .u8 0) (.string ⟨#[]⟩) (.int .i64 0)
                                            have hgr := set4_grown wr w.heap.size (.int .u8 0) (.int .u8 0) (.string ⟨#[]⟩) (.int .i64 0)
                                            clear cr fr zr ct ft zt
                                            obtain ⟨W', hW'⟩ : ∃ W', W' = (((((wr).setCell ⟨w.heap.size, 0, none⟩ (.int .u8 0)).setCell ⟨w.heap.size, 1, none⟩ (.int .u8 0)).setCell ⟨w.heap.size, 2, none⟩ (.string ⟨#[]⟩)).setCell ⟨w.heap.size, 3, none⟩ (.int .i64 0)) := ⟨_, rfl⟩
                                            rw [← hW'] at hres hgr ⊢
                                            obtain ⟨cr, fr, zr⟩ := blk3 hres
                                            have HB := Lib.hid (below_grown TW.out.bel (Nat.le_refl _) hgr)
                                            clear hres hgr hW'
                                            refine bodyPost_ret (v := .tuple #[noTok, .int .i64 (-1), .int .i64 (i : Nat)]) ?_ rfl (oned_err HT.out rfl HB.out)
                                            simp [results, Try.results21, go_sem, noTok, cr]
                                          | true =>
                                            have HX3 := Lib.hid hx3
                                            have v3 := hexV_lt ⟨y3, y3256⟩ hx3
                                            dsimp only at v3
                                            have n3 : nib y3 = hexV y3 := if_pos hx3
                                            have kn3 : ¬ (15 : Int) < (nib y3 : Nat) := by omega
                                            clear hx3
                                            cases hx4 : isHex y4 with
                                            | false =>
                                              have HX4 := Lib.hid hx4
                                              have kn4 : (15 : Int) < (nib y4 : Nat) := by have : nib y4 = 16 := if_neg (by rw [hx4]; decide); omega
                                              clear hx4 n3 v3
                                              go_wp2_with fail
                                              refine (nibble_calls wr y3 y3256).mono ?_
                                              rintro e wl ⟨rfl, rfl⟩
                                              go_wp2_with fail
                                              refine (nibble_calls wr y4 y4256).mono ?_
                                              rintro e wl ⟨rfl, rfl⟩
                                              have HT : Hid (tokAt P k = .error i) := Lib.hid (tokAt_mark_bad HX.out HSG.out HMK.out (by unfold nameAt; rw [HY.out]; show (if 34 = 34 then quoted P (k + 1 + 1) [] else _) = _; rw [if_pos rfl, ← HQ.out]; exact quoted_bad HZ.out (esc_zero (fun q hq => by rw [HY2.out] at hq; injection hq with hq; subst hq; exact ⟨by decide, fun a' b' ha hb e => by have h9 : P[i + 3]? = some b' := hb; rw [HY4.out] at h9; injection h9 with h9; have h8 := e.2.2; rw [← h9, HX4.out] at h8; cases h8⟩))))
                                              obtain ⟨ct, ft, zt⟩ := blk3 TW.out.tok
                                              obtain ⟨cr, fr, zr⟩ := blk3 TW.out.res
                                              go_wp2_with fail
                                              have hres := set4_34 TW.out.res (.int .u8 0) (.int .u8 0) (.string ⟨#[]⟩) (.int .i64 0)
                                              have hgr := set4_grown wr w.heap.size (.int .u8 0) (.int .u8 0) (.string ⟨#[]⟩) (.int .i64 0)
                                              clear cr fr zr ct ft zt
                                              obtain ⟨W', hW'⟩ : ∃ W', W' = (((((wr).setCell ⟨w.heap.size, 0, none⟩ (.int .u8 0)).setCell ⟨w.heap.size, 1, none⟩ (.int .u8 0)).setCell ⟨w.heap.size, 2, none⟩ (.string ⟨#[]⟩)).setCell ⟨w.heap.size, 3, none⟩ (.int .i64 0)) := ⟨_, rfl⟩
                                              rw [← hW'] at hres hgr ⊢
                                              obtain ⟨cr, fr, zr⟩ := blk3 hres
                                              have HB := Lib.hid (below_grown TW.out.bel (Nat.le_refl _) hgr)
                                              clear hres hgr hW'
                                              refine bodyPost_ret (v := .tuple #[noTok, .int .i64 (-1), .int .i64 (i : Nat)]) ?_ rfl (oned_err HT.out rfl HB.out)
                                              simp [results, Try.results21, go_sem, noTok, cr]
                                            | true =>
                                              have HX4 := Lib.hid hx4
                                              have v4 := hexV_lt ⟨y4, y4256⟩ hx4
                                              dsimp only at v4
                                              have n4 : nib y4 = hexV y4 := if_pos hx4
                                              have kn4 : ¬ (15 : Int) < (nib y4 : Nat) := by omega
                                              obtain ⟨v, hv⟩ : ∃ v, v = 16 * nib y3 + nib y4 := ⟨_, rfl⟩
                                              have hw1 : IntKind.u8.wrap (16 * (nib y3 : Int)) = 16 * (nib y3 : Int) := by unfold IntKind.wrap; simp [IntKind.signed, IntKind.bits]; omega
                                              have hw2 : IntKind.u8.wrap (16 * (nib y3 : Int) + (nib y4 : Int)) = (v : Int) := by unfold IntKind.wrap; simp [IntKind.signed, IntKind.bits]; omega
                                              have hw3 : 16 * (nib y3 : Int) + (nib y4 : Int) = (v : Int) := by omega
                                              have hv256 : v < 256 := by omega
                                              have hw4 : IntKind.u8.wrap (v : Int) = (v : Int) := by unfold IntKind.wrap; simp [IntKind.signed, IntKind.bits]; omega
                                              have HQI : Hid (quoted P (i + 4) (acc ++ [v]) = quoted P (k + 1 + 1) []) := Lib.hid (by
                                                rw [← HQ.out]
                                                have he := esc_hex HY2.out HY3.out HY4.out HX3.out HX4.out
                                                rw [← n3, ← n4, ← hv] at he
                                                have := quoted_esc (acc := acc) HZ.out (by rw [he]; exact Nat.succ_ne_zero 2)
                                                rw [he] at this
                                                exact this.symm)
                                              have HV := Lib.hid hv
                                              clear hx4 n3 v3 n4 v4 hv
                                              go_wp2_with fail
                                              refine (nibble_calls wr y3 y3256).mono ?_
                                              rintro e wl ⟨rfl, rfl⟩
                                              go_wp2_with fail
                                              refine (nibble_calls wr y4 y4256).mono ?_
                                              rintro e wl ⟨rfl, rfl⟩
                                              go_upto_region 42 with (fail)
                                              have hi22 : (i : Int) + 2 < (n : Int) := by omega
                                              have hi33 : (i : Int) + 3 < (n : Int) := by omega
                                              have hw22 : IntKind.i64.wrap ((i : Int) + 2) = (i : Int) + 2 := wrap_small i 2 (by omega) (by omega)
                                              have hw33 : IntKind.i64.wrap ((i : Int) + 3) = (i : Int) + 3 := wrap_small i 3 (by omega) (by omega)
                                              have hg22 : 0 ≤ (i : Int) + 2 := by omega
                                              have hg33 : 0 ≤ (i : Int) + 3 := by omega
                                              have ht22 : ((i : Int) + 2).toNat = i + 2 := by omega
                                              have ht33 : ((i : Int) + 3).toNat = i + 3 := by omega
                                              have hcells : ∀ q u, P[q]? = some u → wr.drew.cell? ⟨b, off + q, none⟩ = some (.int .u8 (u : Nat)) := fun q u hq => H.out.cellsAt TW.out.bel q u hq
                                              have hcells2 : ∀ q u, P[q]? = some u → (wr.drew.alloc (.cells #[.int .u8 (v : Nat)] 5)).cell? ⟨b, off + q, none⟩ = some (.int .u8 (u : Nat)) := by
                                                have h0 : Below w.heap.size w wr.drew := ⟨TW.out.bel.os, TW.out.bel.tape, TW.out.bel.output, TW.out.bel.size, TW.out.bel.block⟩
                                                exact fun q u hq => H.out.cellsAt (h0.alloc h0.size _) q u hq
                                              have HO : Hid (wr.drew.ownsRow W3.heap.size 5 1 (.slice A m cp) m (bytes acc)) := Lib.hid Owr.out
                                              have HBD : Hid (Below W3.heap.size W3 wr.drew) := Lib.hid ⟨Bwr.out.os, Bwr.out.tape, Bwr.out.output, Bwr.out.size, Bwr.out.block⟩
                                              have HWZ2 : Hid (∀ o, W3.heap.size ≤ (wr.drew.alloc o).heap.size) := Lib.hid (fun o => by have := HBD.out.size; simp only [World.size_alloc]; omega)
                                              have HWB2 : Hid (∀ o, Below W3.heap.size W3 (wr.drew.alloc o)) := Lib.hid (fun o => HBD.out.alloc HBD.out.size _)
                                              refine wp_region_HL (S := (fun w' => ∀ q u, P[q]? = some u → w'.cell? ⟨b, off + q, none⟩ = some (.int .u8 (u : Nat)))) 16 (by kernel_rfl) (by kernel_rfl) (by kernel_rfl) (by kernel_rfl) (by decide) hcells (fun hHeld => ?_)
                                              refine Go.HL.take_ (i := 0) (oi := { dst := some 260, op := .move (.tmp 12), type := 22, pos := "ref.go:119", after := #[], guard := none }) (v := ?_) rfl (by decide) (by kernel_rfl) (by kernel_rfl) (fun _ _ _ h => h) (Or.inl ⟨by rfl, ?_⟩) (by assumption) ?_
                                              rotate_left
                                              · intro w hSw
                                                (try dsimp only at hSw)
                                                (go_simp; try (with_reducible rfl))
                                              try simp only [Act.put, List.setIfInBounds_toArray, List.set_cons_zero, List.set_cons_succ]
                                              refine Go.HL.take_ (i := 1) (oi := { dst := some 261, op := .move (.tmp 0), type := 22, pos := "ref.go:119", after := #[], guard := none }) (v := ?_) rfl (by decide) (by kernel_rfl) (by kernel_rfl) (fun _ _ _ h => h) (Or.inl ⟨by rfl, ?_⟩) (by assumption) ?_
                                              rotate_left
                                              · intro w hSw
                                                (try dsimp only at hSw)
                                                (go_simp; try (with_reducible rfl))
                                              try simp only [Act.put, List.setIfInBounds_toArray, List.set_cons_zero, List.set_cons_succ]
                                              refine Go.HL.take_ (i := 2) (oi := { dst := some 262, op := .move (.tmp 11), type := 3, pos := "ref.go:119", after := #[], guard := none }) (v := ?_) rfl (by decide) (by kernel_rfl) (by kernel_rfl) (fun _ _ _ h => h) (Or.inl ⟨by rfl, ?_⟩) (by assumption) ?_
                                              rotate_left
                                              · intro w hSw
                                                (try dsimp only at hSw)
                                                (go_simp; try (with_reducible rfl))
                                              try simp only [Act.put, List.setIfInBounds_toArray, List.set_cons_zero, List.set_cons_succ]
                                              refine Go.HL.take_ (i := 3) (oi := { dst := some 263, op := .binOp .add 3 (.tmp 262) (.const (.int .i64 2)) 3, type := 3, pos := "ref.go:119", after := #[{ on := 2, ground := .data }], guard := none }) (v := ?_) rfl (by decide) (by kernel_rfl) (by kernel_rfl) (fun _ _ _ h => h) (Or.inl ⟨by rfl, ?_⟩) (by assumption) ?_
                                              rotate_left
                                              · intro w hSw
                                                (try dsimp only at hSw)
                                                (go_simp; try (with_reducible rfl))
                                              try simp only [Act.put, List.setIfInBounds_toArray, List.set_cons_zero, List.set_cons_succ]
                                              refine Go.HL.take_ (i := 4) (oi := { dst := some 264, op := .indexAddr 22 (.tmp 261) (.tmp 263), type := 0, pos := "ref.go:119", after := #[{ on := 1, ground := .data }, { on := 3, ground := .data }], guard := none }) (v := ?_) rfl (by decide) (by kernel_rfl) (by kernel_rfl) (fun _ _ _ h => h) (Or.inl ⟨by rfl, ?_⟩) (by assumption) ?_
                                              rotate_left
                                              · intro w hSw
                                                (try dsimp only at hSw)
                                                (go_simp; try (with_reducible rfl))
                                              try simp only [Act.put, List.setIfInBounds_toArray, List.set_cons_zero, List.set_cons_succ]
                                              refine Go.HL.take_ (i := 5) (oi := { dst := some 265, op := .load 5 (.tmp 264), type := 5, pos := "ref.go:119", after := #[{ on := 4, ground := .data }], guard := none }) (v := ?_) rfl (by decide) (by kernel_rfl) (by kernel_rfl) (fun _ _ _ h => h) (Or.inl ⟨by rfl, ?_⟩) (by assumption) ?_
                                              rotate_left
                                              · intro w hSw
                                                (try dsimp only at hSw)
                                                have yw := hSw _ _ HY3.out; (go_simp; try (with_reducible rfl))
                                              try simp only [Act.put, List.setIfInBounds_toArray, List.set_cons_zero, List.set_cons_succ]
                                              refine Go.HL.take_ (i := 8) (oi := { dst := some 268, op := .move (.tmp 0), type := 22, pos := "ref.go:119", after := #[], guard := none }) (v := ?_) rfl (by decide) (by kernel_rfl) (by kernel_rfl) (fun _ _ _ h => h) (Or.inl ⟨by rfl, ?_⟩) (by assumption) ?_
                                              rotate_left
                                              · intro w hSw
                                                (try dsimp only at hSw)
                                                (go_simp; try (with_reducible rfl))
                                              try simp only [Act.put, List.setIfInBounds_toArray, List.set_cons_zero, List.set_cons_succ]
                                              refine Go.HL.take_ (i := 9) (oi := { dst := some 269, op := .move (.tmp 11), type := 3, pos := "ref.go:119", after := #[], guard := none }) (v := ?_) rfl (by decide) (by kernel_rfl) (by kernel_rfl) (fun _ _ _ h => h) (Or.inl ⟨by rfl, ?_⟩) (by assumption) ?_
                                              rotate_left
                                              · intro w hSw
                                                (try dsimp only at hSw)
                                                (go_simp; try (with_reducible rfl))
                                              try simp only [Act.put, List.setIfInBounds_toArray, List.set_cons_zero, List.set_cons_succ]
                                              refine Go.HL.take_ (i := 10) (oi := { dst := some 270, op := .binOp .add 3 (.tmp 269) (.const (.int .i64 3)) 3, type := 3, pos := "ref.go:119", after := #[{ on := 9, ground := .data }], guard := none }) (v := ?_) rfl (by decide) (by kernel_rfl) (by kernel_rfl) (fun _ _ _ h => h) (Or.inl ⟨by rfl, ?_⟩) (by assumption) ?_
                                              rotate_left
                                              · intro w hSw
                                                (try dsimp only at hSw)
                                                (go_simp; try (with_reducible rfl))
                                              try simp only [Act.put, List.setIfInBounds_toArray, List.set_cons_zero, List.set_cons_succ]
                                              refine Go.HL.take_ (i := 11) (oi := { dst := some 271, op := .indexAddr 22 (.tmp 268) (.tmp 270), type := 0, pos := "ref.go:119", after := #[{ on := 8, ground := .data }, { on := 10, ground := .data }], guard := none }) (v := ?_) rfl (by decide) (by kernel_rfl) (by kernel_rfl) (fun _ _ _ h => h) (Or.inl ⟨by rfl, ?_⟩) (by assumption) ?_
                                              rotate_left
                                              · intro w hSw
                                                (try dsimp only at hSw)
                                                (go_simp; try (with_reducible rfl))
                                              try simp only [Act.put, List.setIfInBounds_toArray, List.set_cons_zero, List.set_cons_succ]
                                              refine Go.HL.take_ (i := 12) (oi := { dst := some 272, op := .load 5 (.tmp 271), type := 5, pos := "ref.go:119", after := #[{ on := 11, ground := .data }], guard := none }) (v := ?_) rfl (by decide) (by kernel_rfl) (by kernel_rfl) (fun _ _ _ h => h) (Or.inl ⟨by rfl, ?_⟩) (by assumption) ?_
                                              rotate_left
                                              · intro w hSw
                                                (try dsimp only at hSw)
                                                have yw := hSw _ _ HY4.out; (go_simp; try (with_reducible rfl))
                                              try simp only [Act.put, List.setIfInBounds_toArray, List.set_cons_zero, List.set_cons_succ]
                                              refine Go.HL.step_ (i := 6) (o := { dst := some 266, op := .call { callee := .value (.func 32), args := #[.tmp 265], argTypes := #[5] }, type := 5, pos := "ref.go:119", after := #[{ on := 5, ground := .data }], guard := none }) rfl (by decide) (by kernel_rfl) (fun K hK => ?_)
                                              go_simp
                                              refine (nibble_calls _ y3 y3256).mono ?_
                                              rintro e wl ⟨rfl, rfl⟩
                                              dsimp only
                                              refine hK.out _ _ hcells (fun hHeld => ?_)
                                              clear hK K
                                              try simp only [Act.put, List.setIfInBounds_toArray, List.set_cons_zero, List.set_cons_succ]
                                              refine Go.HL.take_ (i := 7) (oi := { dst := some 267, op := .binOp .mul 5 (.const (.int .u8 16)) (.tmp 266) 5, type := 5, pos := "ref.go:119", after := #[{ on := 6, ground := .data }], guard := none }) (v := ?_) rfl (by decide) (by kernel_rfl) (by kernel_rfl) (fun _ _ _ h => h) (Or.inl ⟨by rfl, ?_⟩) (by assumption) ?_
                                              rotate_left
                                              · intro w hSw
                                                (try dsimp only at hSw)
                                                (go_simp; try (with_reducible rfl))
                                              try simp only [Act.put, List.setIfInBounds_toArray, List.set_cons_zero, List.set_cons_succ]
                                              refine Go.HL.step_ (i := 13) (o := { dst := some 273, op := .call { callee := .value (.func 32), args := #[.tmp 272], argTypes := #[5] }, type := 5, pos := "ref.go:119", after := #[{ on := 12, ground := .data }, { on := 6, ground := .chain }], guard := none }) rfl (by decide) (by kernel_rfl) (fun K hK => ?_)
                                              go_simp
                                              refine (nibble_calls _ y4 y4256).mono ?_
                                              rintro e wl ⟨rfl, rfl⟩
                                              dsimp only
                                              refine hK.out _ _ hcells (fun hHeld => ?_)
                                              clear hK K
                                              try simp only [Act.put, List.setIfInBounds_toArray, List.set_cons_zero, List.set_cons_succ]
                                              refine Go.HL.take_ (i := 14) (oi := { dst := some 274, op := .binOp .add 5 (.tmp 267) (.tmp 273) 5, type := 5, pos := "ref.go:119", after := #[{ on := 7, ground := .data }, { on := 13, ground := .data }], guard := none }) (v := ?_) rfl (by decide) (by kernel_rfl) (by kernel_rfl) (fun _ _ _ h => h) (Or.inl ⟨by rfl, ?_⟩) (by assumption) ?_
                                              rotate_left
                                              · intro w hSw
                                                (try dsimp only at hSw)
                                                (go_simp; try (with_reducible rfl))
                                              try simp only [Act.put, List.setIfInBounds_toArray, List.set_cons_zero, List.set_cons_succ]
                                              refine Go.HL.step_ (i := 15) (o := { dst := some 275, op := .buildSlice 22 1 #[(0, .tmp 274)], type := 22, pos := "ref.go:119", after := #[{ on := 14, ground := .data }], guard := none }) rfl (by decide) (by kernel_rfl) (fun K hK => ?_)
                                              go_simp
                                              show K _ (wr.drew.alloc (.cells #[.int .u8 (v : Int)] 5))
                                              refine hK.out _ _ hcells2 (fun hHeld => ?_)
                                              clear hK K
                                              try simp only [Act.put, List.setIfInBounds_toArray, List.set_cons_zero, List.set_cons_succ]

                                              refine Go.HL.done_ (by kernel_rfl) ?_
                                              simp only [List.drop_succ_cons, List.drop_zero]
                                              clear hHeld
                                              go_wp2_with (at_builtin; refine append_row (B := W3.heap.size) (w0 := W3) rfl _ _ 22 5 (.int .u8 0) 1 1 rfl Try.underlying22 info5 rfl (by decide) _ m _ rfl (own_below HO.out ((Below.refl _ _).alloc (Nat.le_refl _) _)) ⟨_, 0, none⟩ 1 1 [.int .u8 (v : Nat)] rfl rfl (new_cells _ _ _ _) (one_u8 _) (HWZ2.out _) (HWB2.out _) (by omega) (by omega) ?_; intro v1 w9 hown hb9 hg9; obtain ⟨A1, cp1, rfl, _, _⟩ := own_shape hown; have HO9 := Lib.hid hown; have HB9 := Lib.hid hb9; clear hown hb9 hg9)
                                              go_roundg (n - (i + 4))
                                              case measure => have := HK.out; omega
                                              case rel =>
                                                refine ⟨i + 4, m + 1, cp1, A1, acc ++ [v], by go_num, rfl, by omega, rfl, by omega, ?_, ?_, HQI.out, ?_, HB9.out⟩
                                                · show (acc ++ [v]).length = m + 1
                                                  rw [List.length_append, HM.out]; rfl
                                                · show ∀ u ∈ acc ++ [v], u < 256
                                                  intro u hu
                                                  rcases List.mem_append.1 hu with hu | hu
                                                  · exact HA.out u hu
                                                  · rw [List.mem_singleton] at hu; omega
                                                · have := HO9.out
                                                  rwa [show bytes acc ++ [Value.int .u8 (v : Nat)] = bytes (acc ++ [v]) by simp [bytes]] at this
                                        · have k120 : ¬ (y2 : Int) = 120 := by omega
                                          have k120' : ((y2 : Int) != 120) = true := by rw [bne_iff_ne]; exact k120
                                          have HN120 := Lib.hid h120
                                          clear h120
                                          have HT : Hid (tokAt P k = .error i) := Lib.hid (tokAt_mark_bad HX.out HSG.out HMK.out (by unfold nameAt; rw [HY.out]; show (if 34 = 34 then quoted P (k + 1 + 1) [] else _) = _; rw [if_pos rfl, ← HQ.out]; exact quoted_bad HZ.out (esc_zero (fun q hq => by rw [HY2.out] at hq; injection hq with hq; subst hq; exact ⟨HNO.out, fun _ _ _ _ e => HN120.out e.1⟩))))
                                          obtain ⟨ct, ft, zt⟩ := blk3 TW.out.tok
                                          obtain ⟨cr, fr, zr⟩ := blk3 TW.out.res
                                          go_wp2_with fail
                                          have hres := set4_34 TW.out.res (.int .u8 0) (.int .u8 0) (.string ⟨#[]⟩) (.int .i64 0)
                                          have hgr := set4_grown wr w.heap.size (.int .u8 0) (.int .u8 0) (.string ⟨#[]⟩) (.int .i64 0)
                                          clear cr fr zr ct ft zt
                                          obtain ⟨W', hW'⟩ : ∃ W', W' = (((((wr).setCell ⟨w.heap.size, 0, none⟩ (.int .u8 0)).setCell ⟨w.heap.size, 1, none⟩ (.int .u8 0)).setCell ⟨w.heap.size, 2, none⟩ (.string ⟨#[]⟩)).setCell ⟨w.heap.size, 3, none⟩ (.int .i64 0)) := ⟨_, rfl⟩
                                          rw [← hW'] at hres hgr ⊢
                                          obtain ⟨cr, fr, zr⟩ := blk3 hres
                                          have HB := Lib.hid (below_grown TW.out.bel (Nat.le_refl _) hgr)
                                          clear hres hgr hW'
                                          refine bodyPost_ret (v := .tuple #[noTok, .int .i64 (-1), .int .i64 (i : Nat)]) ?_ rfl (oned_err HT.out rfl HB.out)
                                          simp [results, Try.results21, go_sem, noTok, cr]
                                      · have hi3' : (n : Int) ≤ (i : Int) + 3 := by omega
                                        have HT : Hid (tokAt P k = .error i) := Lib.hid (tokAt_mark_bad HX.out HSG.out HMK.out (by unfold nameAt; rw [HY.out]; show (if 34 = 34 then quoted P (k + 1 + 1) [] else _) = _; rw [if_pos rfl, ← HQ.out]; exact quoted_bad HZ.out (esc_zero (fun q hq => by rw [HY2.out] at hq; injection hq with hq; subst hq; exact ⟨HNO.out, fun _ _ _ hb _ => by have := (List.getElem?_eq_some_iff.1 hb).1; rw [HLEN.out] at this; omega⟩))))
                                        obtain ⟨ct, ft, zt⟩ := blk3 TW.out.tok
                                        obtain ⟨cr, fr, zr⟩ := blk3 TW.out.res
                                        go_wp2_with fail
                                        have hres := set4_34 TW.out.res (.int .u8 0) (.int .u8 0) (.string ⟨#[]⟩) (.int .i64 0)
                                        have hgr := set4_grown wr w.heap.size (.int .u8 0) (.int .u8 0) (.string ⟨#[]⟩) (.int .i64 0)
                                        clear cr fr zr ct ft zt
                                        obtain ⟨W', hW'⟩ : ∃ W', W' = (((((wr).setCell ⟨w.heap.size, 0, none⟩ (.int .u8 0)).setCell ⟨w.heap.size, 1, none⟩ (.int .u8 0)).setCell ⟨w.heap.size, 2, none⟩ (.string ⟨#[]⟩)).setCell ⟨w.heap.size, 3, none⟩ (.int .i64 0)) := ⟨_, rfl⟩
                                        rw [← hW'] at hres hgr ⊢
                                        obtain ⟨cr, fr, zr⟩ := blk3 hres
                                        have HB := Lib.hid (below_grown TW.out.bel (Nat.le_refl _) hgr)
                                        clear hres hgr hW'
                                        refine bodyPost_ret (v := .tuple #[noTok, .int .i64 (-1), .int .i64 (i : Nat)]) ?_ rfl (oned_err HT.out rfl HB.out)
                                        simp [results, Try.results21, go_sem, noTok, cr]
                                · have hi1' : ¬ (i : Int) + 1 < (n : Int) := by omega
                                  have hi3' : (n : Int) ≤ (i : Int) + 3 := by omega
                                  have HT : Hid (tokAt P k = .error i) := Lib.hid (tokAt_mark_bad HX.out HSG.out HMK.out (by unfold nameAt; rw [HY.out]; show (if 34 = 34 then quoted P (k + 1 + 1) [] else _) = _; rw [if_pos rfl, ← HQ.out]; exact quoted_bad HZ.out (esc_zero (fun q hq => by have := (List.getElem?_eq_some_iff.1 hq).1; rw [HLEN.out] at this; omega))))
                                  obtain ⟨ct, ft, zt⟩ := blk3 TW.out.tok
                                  obtain ⟨cr, fr, zr⟩ := blk3 TW.out.res
                                  go_wp2_with fail
                                  have hres := set4_34 TW.out.res (.int .u8 0) (.int .u8 0) (.string ⟨#[]⟩) (.int .i64 0)
                                  have hgr := set4_grown wr w.heap.size (.int .u8 0) (.int .u8 0) (.string ⟨#[]⟩) (.int .i64 0)
                                  clear cr fr zr ct ft zt
                                  obtain ⟨W', hW'⟩ : ∃ W', W' = (((((wr).setCell ⟨w.heap.size, 0, none⟩ (.int .u8 0)).setCell ⟨w.heap.size, 1, none⟩ (.int .u8 0)).setCell ⟨w.heap.size, 2, none⟩ (.string ⟨#[]⟩)).setCell ⟨w.heap.size, 3, none⟩ (.int .i64 0)) := ⟨_, rfl⟩
                                  rw [← hW'] at hres hgr ⊢
                                  obtain ⟨cr, fr, zr⟩ := blk3 hres
                                  have HB := Lib.hid (below_grown TW.out.bel (Nat.le_refl _) hgr)
                                  clear hres hgr hW'
                                  refine bodyPost_ret (v := .tuple #[noTok, .int .i64 (-1), .int .i64 (i : Nat)]) ?_ rfl (oned_err HT.out rfl HB.out)
                                  simp [results, Try.results21, go_sem, noTok, cr]
                              · have k92 : ¬ (z : Int) = 92 := by omega
                                have k92' : ((z : Int) != 92) = true := by rw [bne_iff_ne]; exact k92
                                have HQI : Hid (quoted P (i + 1) (acc ++ [z]) = quoted P (k + 1 + 1) []) := Lib.hid (by rw [← HQ.out]; exact (quoted_in HZ.out h34 h92 (by omega)).symm)
                                clear h34 h92 hlo hhi
                                go_wp2_with (at_builtin; refine append_row (B := W3.heap.size) (w0 := W3) rfl _ _ 22 5 (.int .u8 0) 1 1 rfl Try.underlying22 info5 rfl (by decide) _ m _ rfl (own_below Owr.out ((Below.refl _ _).alloc (Nat.le_refl _) _)) ⟨wr.heap.size, 0, none⟩ 1 1 [.int .u8 (z : Nat)] rfl rfl (new_cells _ _ _ _) (one_u8 _) (HWZ.out _) (HWB.out _) (by omega) (by omega) ?_; intro v1 w9 hown hb9 hg9; obtain ⟨A1, cp1, rfl, _, _⟩ := own_shape hown; have HO9 := Lib.hid hown; have HB9 := Lib.hid hb9; clear hown hb9 hg9)
                                go_roundg (n - (i + 1))
                                case measure => have := HK.out; omega
                                case rel =>
                                  refine ⟨i + 1, m + 1, cp1, A1, acc ++ [z], by go_num, rfl, by omega, rfl, by omega, ?_, ?_, HQI.out, ?_, HB9.out⟩
                                  · show (acc ++ [z]).length = m + 1
                                    rw [List.length_append, HM.out]; rfl
                                  · show ∀ u ∈ acc ++ [z], u < 256
                                    intro u hu
                                    rcases List.mem_append.1 hu with hu | hu
                                    · exact HA.out u hu
                                    · rw [List.mem_singleton] at hu; omega
                                  · have := HO9.out
                                    rwa [show bytes acc ++ [Value.int .u8 (z : Nat)] = bytes (acc ++ [z]) by simp [bytes]] at this
                      · have hlt2 : ¬ (i : Int) < (n : Int) := by omega
                        have hlt3 : (n : Int) ≤ (i : Int) := by omega
                        have HT : Hid (tokAt P k = .error i) := Lib.hid (tokAt_mark_bad HX.out HSG.out HMK.out (by unfold nameAt; rw [HY.out]; show (if 34 = 34 then quoted P (k + 1 + 1) [] else _) = _; rw [if_pos rfl, ← HQ.out]; exact quoted_end (by rw [HLEN.out]; omega)))
                        obtain ⟨ct, ft, zt⟩ := blk3 TW.out.tok
                        obtain ⟨cr, fr, zr⟩ := blk3 TW.out.res
                        go_wp2_with fail
                        have hres := set4_34 TW.out.res (.int .u8 0) (.int .u8 0) (.string ⟨#[]⟩) (.int .i64 0)
                        have hgr := set4_grown wr w.heap.size (.int .u8 0) (.int .u8 0) (.string ⟨#[]⟩) (.int .i64 0)
                        clear cr fr zr ct ft zt
                        obtain ⟨W', hW'⟩ : ∃ W', W' = (((((wr).setCell ⟨w.heap.size, 0, none⟩ (.int .u8 0)).setCell ⟨w.heap.size, 1, none⟩ (.int .u8 0)).setCell ⟨w.heap.size, 2, none⟩ (.string ⟨#[]⟩)).setCell ⟨w.heap.size, 3, none⟩ (.int .i64 0)) := ⟨_, rfl⟩
                        rw [← hW'] at hres hgr ⊢
                        obtain ⟨cr, fr, zr⟩ := blk3 hres
                        have HB := Lib.hid (below_grown TW.out.bel (Nat.le_refl _) hgr)
                        clear hres hgr hW'
                        refine bodyPost_ret (v := .tuple #[noTok, .int .i64 (-1), .int .i64 (i : Nat)]) ?_ rfl (oned_err HT.out rfl HB.out)
                        simp [results, Try.results21, go_sem, noTok, cr]
                  · have k34 : ¬ (y : Int) = 34 := by omega
                    have k34' : ((y : Int) != 34) = true := by rw [bne_iff_ne]; exact k34
                    have HT : Hid (tokAt P k = .error (k + 1)) := Lib.hid (tokAt_mark_bad HX.out HSG.out HMK.out (by unfold nameAt; rw [HY.out]; show (if y = 34 then _ else if isLetter y = true then _ else _) = _; rw [if_neg h34, if_neg (by rw [HL.out]; decide)]))
                    have HK1 := Lib.hid (show (k : Int) + 1 = ((k + 1 : Nat) : Int) by omega)
                    clear h34
                    go_wp2_with fail
                    refine (rletter_no W3 y y256 HL.out).mono ?_
                    rintro e wl ⟨rfl, rfl⟩
                    obtain ⟨ct, ft, zt⟩ := blk3 T3.out.tok
                    obtain ⟨cr, fr, zr⟩ := blk3 T3.out.res
                    go_wp2_with fail
                    have hres := set4_34 T3.out.res (.int .u8 0) (.int .u8 0) (.string ⟨#[]⟩) (.int .i64 0)
                    have hgr := set4_grown W3 w.heap.size (.int .u8 0) (.int .u8 0) (.string ⟨#[]⟩) (.int .i64 0)
                    clear cr fr zr ct ft zt
                    obtain ⟨W', hW'⟩ : ∃ W', W' = (((((W3).setCell ⟨w.heap.size, 0, none⟩ (.int .u8 0)).setCell ⟨w.heap.size, 1, none⟩ (.int .u8 0)).setCell ⟨w.heap.size, 2, none⟩ (.string ⟨#[]⟩)).setCell ⟨w.heap.size, 3, none⟩ (.int .i64 0)) := ⟨_, rfl⟩
                    rw [← hW'] at hres hgr ⊢
                    obtain ⟨cr, fr, zr⟩ := blk3 hres
                    have HB := Lib.hid (below_grown T3.out.bel (Nat.le_refl _) hgr)
                    clear hres hgr hW'
                    refine bodyPost_ret (v := .tuple #[noTok, .int .i64 (-1), .int .i64 ((k + 1 : Nat) : Int)]) ?_ rfl (oned_err HT.out rfl HB.out)
                    simp [results, Try.results21, go_sem, noTok, cr]
              · have hi2 : ¬ (k : Int) + 1 < (n : Int) := by omega
                have hi3 : (n : Int) ≤ (k : Int) + 1 := by omega
                have HT : Hid (tokAt P k = .error (k + 1)) := Lib.hid (tokAt_mark_bad HX.out HSG.out HMK.out (by unfold nameAt; rw [List.getElem?_eq_none (by rw [HLEN.out]; omega)]))
                obtain ⟨ct, ft, zt⟩ := blk3 T3.out.tok
                obtain ⟨cr, fr, zr⟩ := blk3 T3.out.res
                go_wp2_with fail
                have hres := set4_34 T3.out.res (.int .u8 0) (.int .u8 0) (.string ⟨#[]⟩) (.int .i64 0)
                have hgr := set4_grown W3 w.heap.size (.int .u8 0) (.int .u8 0) (.string ⟨#[]⟩) (.int .i64 0)
                clear cr fr zr ct ft zt
                obtain ⟨W', hW'⟩ : ∃ W', W' = (((((W3).setCell ⟨w.heap.size, 0, none⟩ (.int .u8 0)).setCell ⟨w.heap.size, 1, none⟩ (.int .u8 0)).setCell ⟨w.heap.size, 2, none⟩ (.string ⟨#[]⟩)).setCell ⟨w.heap.size, 3, none⟩ (.int .i64 0)) := ⟨_, rfl⟩
                rw [← hW'] at hres hgr ⊢
                obtain ⟨cr, fr, zr⟩ := blk3 hres
                have HB := Lib.hid (below_grown T3.out.bel (Nat.le_refl _) hgr)
                clear hres hgr hW'
                refine bodyPost_ret (v := .tuple #[noTok, .int .i64 (-1), .int .i64 ((k + 1 : Nat) : Int)]) ?_ rfl (oned_err HT.out rfl HB.out)
                simp [results, Try.results21, go_sem, noTok, cr]
end Go.Proofs.Ytjebanfmnfofnaa

/-
  LexComments (function 6): a comment that doesn't end has no token; one that ends is passed.
-/
import Derived.Test.YtjebanfmnfofnaaLay
import Derived.Test.YtjebanfmnfofnaaComP
import Derived.Deep.CutRange
set_option linter.unusedSimpArgs false
set_option linter.unusedVariables false
namespace Go.Proofs.Ytjebanfmnfofnaa
open Go.RowKit
attribute [-go_sem] run_string_add_if
/-- '+' on strings, told by their bytes. -/
theorem add_bytes {a b : ByteArray} {l r : List Nat} (ha : a = bstr l) (hb : b = bstr r) (h : l.length + r.length ≤ 9223372036854775807) : ∀ W : World, (Op.stringOp .add a b).run Try.prog W = .ok (.string (bstr (l ++ r))) W := fun W => by
  rw [run_string_add_sum W a b (by rw [ha, hb, bstr_size, bstr_size]; exact h), ha, hb, bstr_append]
theorem bytes_mid {A P B : List Nat} (hA : ∀ u ∈ A, u < 256) (hP : ∀ u ∈ P, u < 256) (hB : ∀ u ∈ B, u < 256) : ∀ u ∈ A ++ P ++ B, u < 256 := fun u hu => by
  rw [List.mem_append, List.mem_append] at hu
  rcases hu with (h | h) | h
  · exact hA u h
  · exact hP u h
  · exact hB u h
set_option maxRecDepth 20000 in
set_option maxHeartbeats 1000000 in
theorem lexComments_line (w : World) (a : Option Addr) (n c : Nat) (P : List Nat) (ml : Int) (hml : w.cell? ⟨0, 0, none⟩ = some (.int .i64 ml)) (h : ReadsU w a n P) (hn : n ≤ 100) (hnc : n ≤ c) :
    Calls Try.prog 6 #[.slice a n c, .bool true] w (Yes w) := by
  have H := Lib.hid h
  have HML := Lib.hid hml
  have hn' : ¬ (100 : Int) < (n : Int) := by omega
  have HP := Lib.hid h.2.1
  have HLEN := Lib.hid h.1
  clear h hml
  go_enter Try.func6, Try.ntmps6
  go_wp2_with fail
  refine (awake_calls _ ml HML.out).mono ?_
  rintro e w1 ⟨rfl, hb1⟩
  have HB1 := Lib.hid hb1
  have H1 := Lib.hid (H.out.below hb1)
  have HM1 := Lib.hid (ml_below HML.out hb1)
  clear hb1
  go_wp2_with fail
  go_loop [5, 6] (fun s5 s6 => ∃ (j : Nat) (b : Bool), j ≤ n ∧ s6 = .int .i64 j ∧ s5 = .bool b ∧ (b = false → ∀ i, i < j → P[i]? ≠ some 10)) (fun _ s6 => n - (intOf s6).toNat)
  case atStart => exact ⟨0, false, Nat.zero_le _, rfl, rfl, fun _ i hi => absurd hi (Nat.not_lt_zero _)⟩
  case round =>
    obtain ⟨j, b, hj, rfl, rfl, hbs⟩ := hrel
    have HBS := Lib.hid hbs
    clear hbs
    by_cases hlt : j < n
    · obtain ⟨b0, off, x, rfl, hx, x256, xc⟩ := H1.out.at (j := j) (by omega)
      have HX := Lib.hid hx
      clear hx
      by_cases h10 : x = 10
      · subst h10
        go_wp2
        go_round
        case rel => exact ⟨j + 1, true, by omega, by go_num, rfl, fun e => by cases e⟩
        case measure => simp [intOf]; omega
      · have k10 : ((x : Int) == 10) = false := by rw [beq_eq_false_iff_ne]; omega
        go_wp2
        go_round
        case rel => exact ⟨j + 1, b, by omega, by go_num, rfl, fun e i hi => by
          rcases Nat.lt_or_ge i j with h | h
          · exact HBS.out e i h
          · obtain rfl : i = j := by omega
            rw [HX.out]; intro e2; injection e2 with e2; exact h10 e2⟩
        case measure => simp [intOf]; omega
    · obtain rfl : n = j := by omega
      cases b with
      | true =>
        go_wp2
        go_ret
        exact ⟨rfl, HB1.out⟩
      | false =>
        have HNO := Lib.hid (show ∀ x ∈ P, x ≠ 10 from fun x hx e => by
          obtain ⟨i, hi, e2⟩ := List.getElem_of_mem hx
          exact HBS.out rfl i (by rw [← HLEN.out]; exact hi) (by rw [List.getElem?_eq_getElem hi, e2, e]))
        have kc := fun dst hd => conv_came H1.out (c := c) dst hd
        have kb := conv_laid
        obtain ⟨S1, hS1⟩ : ∃ S1, S1 = bstr ([32, 32, 47, 47] ++ P) := ⟨_, rfl⟩
        obtain ⟨S, hS⟩ : ∃ S, S = bstr (lineQ P) := ⟨_, rfl⟩
        have k1 : ∀ W : World, (Op.stringOp .add ⟨#[32, 32, 47, 47]⟩ (bstr P)).run Try.prog W = .ok (.string S1) W := by rw [hS1]; exact add_bytes rfl rfl (by rw [HLEN.out]; simp; omega)
        have k2 : ∀ W : World, (Op.stringOp .add S1 ⟨#[10, 59]⟩).run Try.prog W = .ok (.string S) W := by rw [hS]; exact add_bytes (r := [10, 59]) hS1 rfl (by simp; rw [HLEN.out]; omega)
        have HS := Lib.hid hS
        clear hS hS1
        have HQ := Lib.hid (bytes_mid (A := [32, 32, 47, 47]) (B := [10, 59]) (by decide) HP.out (by decide))
        have HQL : Hid ((lineQ P).length = n + 6) := Lib.hid (by simp [lineQ]; exact HLEN.out)
        go_wp2_with fail
        refine (new_calls _ _ _ _).mono ?_
        rintro e w2 ⟨rfl, rfl⟩
        go_wp2_with fail
        refine (next_laid_ok w1 S (lineQ P) ml HM1.out HS.out HQ.out (by rw [HQL.out]; omega) _ _ (lineQ_next P HNO.out)).mono ?_
        rintro e w2 ⟨rfl, hb2⟩
        have HB2 := Lib.hid (HB1.out.trans (hb2.mono HB1.out.size))
        clear hb2 k1 k2 kb kc
        have hn5 : P.length = n := HLEN.out
        rw [show (⟨3, 0, [59], P.length + 5⟩ : Tok).val = .agg #[.int .u8 3, .int .u8 0, .string ⟨#[59]⟩, .int .i64 ((n + 5 : Nat) : Int)] from by rw [hn5]; rfl]
        clear hn5
        go_wp2_with fail
        go_ret
        exact ⟨rfl, HB2.out.alloc HB2.out.size _⟩
theorem last_at {P : List Nat} {n : Nat} (hl : P.length = n) (hn : 0 < n) : P.getLast? = P[n - 1]? := by rw [List.getLast?_eq_getElem?, hl]
set_option maxRecDepth 20000 in
set_option maxHeartbeats 1000000 in
theorem lexComments_long (w : World) (a : Option Addr) (n c : Nat) (P : List Nat) (ml : Int) (hml : w.cell? ⟨0, 0, none⟩ = some (.int .i64 ml)) (h : ReadsU w a n P) (hn : n ≤ 100) (hnc : n ≤ c) :
    Calls Try.prog 6 #[.slice a n c, .bool false] w (Yes w) := by
  have H := Lib.hid h
  have HML := Lib.hid hml
  have hn' : ¬ (100 : Int) < (n : Int) := by omega
  have HP := Lib.hid h.2.1
  have HLEN := Lib.hid h.1
  clear h hml
  go_enter Try.func6, Try.ntmps6
  go_wp2_with fail
  refine (awake_calls _ ml HML.out).mono ?_
  rintro e w1 ⟨rfl, hb1⟩
  have HB1 := Lib.hid hb1
  have H1 := Lib.hid (H.out.below hb1)
  have HM1 := Lib.hid (ml_below HML.out hb1)
  clear hb1
  go_wp2_with fail
  go_loop [5, 6] (fun s5 s6 => ∃ (j : Nat) (b : Bool), j ≤ n ∧ s6 = .int .i64 j ∧ s5 = .bool b ∧ (b = false → ∀ i, i < j → ¬ ends2 P i)) (fun _ s6 => n - (intOf s6).toNat)
  case atStart => exact ⟨0, false, Nat.zero_le _, rfl, rfl, fun _ i hi => absurd hi (Nat.not_lt_zero _)⟩
  case round =>
    obtain ⟨j, b, hj, rfl, rfl, hbs⟩ := hrel
    have HBS := Lib.hid hbs
    clear hbs
    by_cases hlt : j < n
    · obtain ⟨b0, off, x, rfl, hx, x256, xc⟩ := H1.out.at (j := j) (by omega)
      have HX := Lib.hid hx
      clear hx
      have hstep : ¬ ends2 P j → (b = false → ∀ i, i < j + 1 → ¬ ends2 P i) := fun hno e i hi => by
        rcases Nat.lt_or_ge i j with h | h
        · exact HBS.out e i h
        · obtain rfl : i = j := by omega
          exact hno
      have HST := Lib.hid hstep
      clear hstep
      by_cases h42 : x = 42
      · subst h42
        by_cases hj1 : j + 1 < n
        · obtain ⟨b1, off1, y, e1, hy, y256, yc⟩ := H1.out.at (j := j + 1) (by omega)
          injection e1 with e1
          injection e1 with e2 e3
          subst e2 e3
          have HY := Lib.hid hy
          clear hy
          have hj1' : (j : Int) + 1 < (n : Int) := by omega
          by_cases h47 : y = 47
          · subst h47
            go_wp2
            go_round
            case rel => exact ⟨j + 1, true, by omega, by go_num, rfl, fun e => by cases e⟩
            case measure => simp [intOf]; omega
          · have k47 : ((y : Int) == 47) = false := by rw [beq_eq_false_iff_ne]; omega
            go_wp2
            go_round
            case rel => exact ⟨j + 1, b, by omega, by go_num, rfl, HST.out fun e => by have := e.2; rw [HY.out] at this; injection this with this; exact h47 this⟩
            case measure => simp [intOf]; omega
        · have hj1' : ¬ (j : Int) + 1 < (n : Int) := by omega
          go_wp2
          go_round
          case rel => exact ⟨j + 1, b, by omega, by go_num, rfl, HST.out fun e => by have := (List.getElem?_eq_some_iff.1 e.2).1; rw [HLEN.out] at this; omega⟩
          case measure => simp [intOf]; omega
      · have k42 : ((x : Int) == 42) = false := by rw [beq_eq_false_iff_ne]; omega
        go_wp2
        go_round
        case rel => exact ⟨j + 1, b, by omega, by go_num, rfl, HST.out fun e => by have := e.1; rw [HX.out] at this; injection this with this; exact h42 this⟩
        case measure => simp [intOf]; omega
    · obtain rfl : n = j := by omega
      cases b with
      | true =>
        go_wp2
        go_ret
        exact ⟨rfl, HB1.out⟩
      | false =>
        have HNO := Lib.hid (show ∀ i, ¬ ends2 P i from fun i e => HBS.out rfl i (by have := (List.getElem?_eq_some_iff.1 e.1).1; rw [HLEN.out] at this; exact this) e)
        have kc := fun dst hd => conv_came H1.out (c := c) dst hd
        have kb := conv_laid
        obtain ⟨S, hS⟩ : ∃ S, S = bstr (openQ P) := ⟨_, rfl⟩
        have k1 : ∀ W : World, (Op.stringOp .add ⟨#[10, 32, 47, 42]⟩ (bstr P)).run Try.prog W = .ok (.string S) W := by rw [hS]; exact add_bytes (l := [10, 32, 47, 42]) rfl rfl (by rw [HLEN.out]; simp; omega)
        have HS := Lib.hid hS
        have HQ := Lib.hid (show ∀ u ∈ openQ P, u < 256 from by have := bytes_mid (A := [10, 32, 47, 42]) (B := []) (by decide) HP.out (by simp); simpa [openQ] using this)
        have HQL : Hid ((openQ P).length = n + 4) := Lib.hid (by simp [openQ]; exact HLEN.out)
        clear hS
        go_wp2_with fail
        refine (new_calls _ _ _ _).mono ?_
        rintro e w2 ⟨rfl, rfl⟩
        go_wp2_with fail
        refine (next_laid_err w1 S (openQ P) ml HM1.out HS.out HQ.out (by rw [HQL.out]; omega) _ (openQ_next P HNO.out)).mono ?_
        rintro e w2 ⟨rfl, hb2⟩
        have HB2 := Lib.hid (HB1.out.trans (hb2.mono HB1.out.size))
        have H2 := Lib.hid (H1.out.below hb2)
        have HM2 := Lib.hid (ml_below HM1.out hb2)
        clear hb2 k1 kc
        unfold noTok
        obtain ⟨w3, hw3⟩ : ∃ w3, w3 = w2.alloc (.cells #[.int .u8 0, .int .u8 0, .string ⟨#[]⟩, .int .i64 0] 30) := ⟨_, rfl⟩
        have hb3 : Below w2.heap.size w2 w3 := by rw [hw3]; exact (Below.refl _ _).alloc (Nat.le_refl _) _
        have HB3 := Lib.hid (HB2.out.trans (hb3.mono HB2.out.size))
        have H3 := Lib.hid (H2.out.below hb3)
        have HM3 := Lib.hid (ml_below HM2.out hb3)
        go_upto_region 15 with (fail)
        rw [← hw3]
        clear hw3 hb3
        have kc := fun dst hd => conv_came H3.out (c := c) dst hd
        rcases Nat.eq_zero_or_pos n with h0 | hpos
        · have hpos' : ¬ (0 : Int) < (n : Int) := by omega
          have hla : P.getLast? ≠ some 42 := by rw [List.eq_nil_of_length_eq_zero (HLEN.out.trans h0)]; simp
          clear h0
          obtain ⟨S1, hS1⟩ : ∃ S1, S1 = bstr ([47, 42] ++ P) := ⟨_, rfl⟩
          obtain ⟨S2, hS2⟩ : ∃ S2, S2 = bstr (longQ P) := ⟨_, rfl⟩
          have k1 : ∀ W : World, (Op.stringOp .add ⟨#[47, 42]⟩ (bstr P)).run Try.prog W = .ok (.string S1) W := by rw [hS1]; exact add_bytes rfl rfl (by rw [HLEN.out]; simp; omega)
          have k2 : ∀ W : World, (Op.stringOp .add S1 ⟨#[42, 47, 32, 119, 111, 114, 100]⟩).run Try.prog W = .ok (.string S2) W := by rw [hS2]; exact add_bytes (r := [42, 47, 32, 119, 111, 114, 100]) hS1 rfl (by simp; rw [HLEN.out]; omega)
          have HS2 := Lib.hid hS2
          have HQ2 := Lib.hid (bytes_mid (A := [47, 42]) (B := [42, 47, 32, 119, 111, 114, 100]) (by decide) HP.out (by decide))
          have HQL2 : Hid ((longQ P).length = n + 9) := Lib.hid (by simp [longQ]; exact HLEN.out)
          have HLA := Lib.hid hla
          clear hS1 hS2 hla
          go_wp2_with fail
          refine (new_calls _ _ _ _).mono ?_
          rintro e w4 ⟨rfl, rfl⟩
          go_wp2_with fail
          refine (next_laid_ok w3 S2 (longQ P) ml HM3.out HS2.out HQ2.out (by rw [HQL2.out]; omega) _ _ (longQ_next P HNO.out HLA.out)).mono ?_
          rintro e w4 ⟨rfl, hb4⟩
          have HB4 := Lib.hid (HB3.out.trans (hb4.mono HB3.out.size))
          clear hb4 k1 k2 kc kb
          rw [show (⟨1, 0, [119, 111, 114, 100], P.length + 5⟩ : Tok).val = .agg #[.int .u8 1, .int .u8 0, .string ⟨#[119, 111, 114, 100]⟩, .int .i64 ((P.length + 5 : Nat) : Int)] from rfl]
          go_wp2_with fail
          go_ret
          exact ⟨rfl, HB4.out.alloc HB4.out.size _⟩
        · obtain ⟨b0, off, x, rfl, hx, x256, xc⟩ := H3.out.at (j := n - 1) (by omega)
          have hpos' : (0 : Int) < (n : Int) := by omega
          have hm1 : (n : Int) - 1 = ((n - 1 : Nat) : Int) := by omega
          by_cases h42 : x = 42
          · subst h42
            clear kc hx
            go_wp2_with fail
            go_ret
            exact ⟨rfl, HB3.out⟩
          · have k42 : ((x : Int) == 42) = false := by rw [beq_eq_false_iff_ne]; omega
            have hla : P.getLast? ≠ some 42 := by rw [last_at HLEN.out hpos, hx]; intro e; injection e with e; exact h42 e
            clear hx
            obtain ⟨S1, hS1⟩ : ∃ S1, S1 = bstr ([47, 42] ++ P) := ⟨_, rfl⟩
            obtain ⟨S2, hS2⟩ : ∃ S2, S2 = bstr (longQ P) := ⟨_, rfl⟩
            have k1 : ∀ W : World, (Op.stringOp .add ⟨#[47, 42]⟩ (bstr P)).run Try.prog W = .ok (.string S1) W := by rw [hS1]; exact add_bytes rfl rfl (by rw [HLEN.out]; simp; omega)
            have k2 : ∀ W : World, (Op.stringOp .add S1 ⟨#[42, 47, 32, 119, 111, 114, 100]⟩).run Try.prog W = .ok (.string S2) W := by rw [hS2]; exact add_bytes (r := [42, 47, 32, 119, 111, 114, 100]) hS1 rfl (by simp; rw [HLEN.out]; omega)
            have HS2 := Lib.hid hS2
            have HQ2 := Lib.hid (bytes_mid (A := [47, 42]) (B := [42, 47, 32, 119, 111, 114, 100]) (by decide) HP.out (by decide))
            have HQL2 : Hid ((longQ P).length = n + 9) := Lib.hid (by simp [longQ]; exact HLEN.out)
            have HLA := Lib.hid hla
            clear hS1 hS2 hla
            go_wp2_with fail
            refine (new_calls _ _ _ _).mono ?_
            rintro e w4 ⟨rfl, rfl⟩
            go_wp2_with fail
            refine (next_laid_ok w3 S2 (longQ P) ml HM3.out HS2.out HQ2.out (by rw [HQL2.out]; omega) _ _ (longQ_next P HNO.out HLA.out)).mono ?_
            rintro e w4 ⟨rfl, hb4⟩
            have HB4 := Lib.hid (HB3.out.trans (hb4.mono HB3.out.size))
            clear hb4 k1 k2 kc kb
            rw [show (⟨1, 0, [119, 111, 114, 100], P.length + 5⟩ : Tok).val = .agg #[.int .u8 1, .int .u8 0, .string ⟨#[119, 111, 114, 100]⟩, .int .i64 ((P.length + 5 : Nat) : Int)] from rfl]
            go_wp2_with fail
            go_ret
            exact ⟨rfl, HB4.out.alloc HB4.out.size _⟩
theorem lexComments_no (w : World) (a : Option Addr) (n c : Nat) (b : Bool) (ml : Int) (hml : w.cell? ⟨0, 0, none⟩ = some (.int .i64 ml)) (hm : n ≤ maxLen) (hn : ¬ n ≤ 100) : Calls Try.prog 6 #[.slice a n c, .bool b] w (Yes w) := by
  have HML := Lib.hid hml
  unfold maxLen at hm
  have hgt : (100 : Int) < (n : Int) := by omega
  clear hml hn
  go_enter Try.func6, Try.ntmps6
  go_wp2_with fail
  refine (awake_calls _ ml HML.out).mono ?_
  rintro e w1 ⟨rfl, hb1⟩
  have HB1 := Lib.hid hb1
  have HM1 := Lib.hid (ml_below HML.out hb1)
  clear hb1
  go_wp2_with fail
  refine (awake_calls _ ml HM1.out).mono ?_
  rintro e w2 ⟨rfl, hb2⟩
  have HB2 := Lib.hid (HB1.out.trans (hb2.mono HB1.out.size))
  clear hb2
  go_wp2
  go_ret
  exact ⟨rfl, HB2.out⟩
end Go.Proofs.Ytjebanfmnfofnaa

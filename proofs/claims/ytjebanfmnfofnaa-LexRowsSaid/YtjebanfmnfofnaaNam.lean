/-
  LexNames (function 8): any name, quoted, is that name; bare ones stand as they are.
-/
import Derived.Test.YtjebanfmnfofnaaNamP
import Derived.Test.YtjebanfmnfofnaaQuo2
set_option linter.unusedSimpArgs false
set_option linter.unusedVariables false
namespace Go.Proofs.Ytjebanfmnfofnaa
open Go.RowKit
attribute [-go_sem] run_string_add_if
/-- The four marks. -/
def mk (i : Nat) : Nat := ([37, 36, 64, 35] : List Nat).getD i 0
theorem mk_get {z : Int} {i : Nat} (hi : i < 4) (hz : z = (i : Nat)) (h : z.toNat < (⟨#[37, 36, 64, 35]⟩ : ByteArray).size) : ((⟨#[37, 36, 64, 35]⟩ : ByteArray)[z.toNat]'h).toNat = mk i := by
  subst hz
  have : ∀ j : Fin 4, ((#[37, 36, 64, 35] : Array UInt8)[j.val]'j.isLt).toNat = mk j.val := by decide
  exact this ⟨i, hi⟩
theorem mk_mark {i : Nat} (h : i < 4) : isMark (mk i) = true := by
  have : ∀ j : Fin 4, isMark (mk j.val) = true := by decide
  exact this ⟨i, h⟩
theorem quoteL_byte {l : List Nat} (hb : ∀ u ∈ l, u < 256) : (∀ u ∈ quoteL l, u < 256) ∧ (quoteL l).length ≤ 4 * l.length + 2 := by
  unfold quoteL
  split
  · exact ⟨hb, by omega⟩
  · have h := quotes_byte hb
    refine ⟨fun u hu => ?_, ?_⟩
    · rcases List.mem_append.1 hu with h1 | h1
      · rcases List.mem_cons.1 h1 with rfl | h1
        · decide
        · exact h.1 u h1
      · rw [List.mem_singleton] at h1; omega
    · simp only [List.length_append, List.length_cons, List.length_nil]
      omega
theorem conv_one (W : World) (m : Nat) (hm : m < 256) : ∀ dst, Try.prog.underlying dst = some .string → (convert 22 dst (.slice (some ⟨W.heap.size, 0, none⟩) 1 1)).run Try.prog (W.alloc (.cells #[.int .u8 (m : Nat)] 5)) = .ok (.string (bstr [m])) (W.alloc (.cells #[.int .u8 (m : Nat)] 5)) := by
  intro dst hd
  refine conv_came (P := [m]) ⟨rfl, fun u hu => by rw [List.mem_singleton] at hu; omega, fun _ => ⟨W.heap.size, 0, rfl, fun j u hu => ?_⟩⟩ dst hd
  rw [blk_cell (heap_alloc_new W _), Nat.zero_add]
  match j, hu with
  | 0, hu => injection hu with hu; subst hu; rfl
set_option maxRecDepth 20000 in
set_option maxHeartbeats 2000000 in
theorem lexNames_walk (w : World) (s r : List Nat) (k : Nat) (ml : Int) (hml : w.cell? ⟨0, 0, none⟩ = some (.int .i64 ml)) (hs : ∀ u ∈ s, u < 256) (hr : ∀ u ∈ r, u < 256) (hk : k < 256) (hn : s.length ≤ 100) (hn2 : r.length ≤ 20) :
    Calls Try.prog 8 #[.string (bstr s), .int .u8 (k : Nat), .string (bstr r)] w (Yes w) := by
  have HML := Lib.hid hml
  have HSB := Lib.hid hs
  have HRB := Lib.hid hr
  obtain ⟨n1, hl1⟩ : ∃ n, n = s.length := ⟨_, rfl⟩
  obtain ⟨n2, hl2⟩ : ∃ n, n = r.length := ⟨_, rfl⟩
  have HL1 := Lib.hid hl1.symm
  have HL2 := Lib.hid hl2.symm
  rw [← hl1] at hn
  rw [← hl2] at hn2
  obtain ⟨S, hS⟩ : ∃ S, S = bstr s := ⟨_, rfl⟩
  obtain ⟨R, hR⟩ : ∃ R, R = bstr r := ⟨_, rfl⟩
  have hsz1 : S.size = n1 := by rw [hS, bstr_size, hl1]
  have hsz2 : R.size = n2 := by rw [hR, bstr_size, hl2]
  rw [← hS, ← hR]
  have HS := Lib.hid hS
  have HR := Lib.hid hR
  clear hml hs hr hl1 hl2 hS hR
  have h100 : ¬ (100 : Int) < (n1 : Int) := by omega
  have h20 : ¬ (20 : Int) < (n2 : Int) := by omega
  have tm : (k : Int).tmod 4 = (k : Int) % 4 := Int.tmod_eq_emod_of_nonneg (by omega)
  have hwk : IntKind.u8.wrap ((k : Int) % 4) = (k : Int) % 4 := by unfold IntKind.wrap; simp [IntKind.signed, IntKind.bits]; omega
  have lt4 : (k : Int) % 4 < 4 := by omega
  have ge4 : 0 ≤ (k : Int) % 4 := by omega
  have hm1 : ∀ h, ((⟨#[37, 36, 64, 35]⟩ : ByteArray)[((k : Int) % 4).toNat]'h).toNat = mk (k % 4) := fun h => mk_get (by omega) (by omega) h
  have hmk := mk_mark (show k % 4 < 4 by omega)
  obtain ⟨m, hm⟩ : ∃ m, m = mk (k % 4) := ⟨_, rfl⟩
  rw [← hm] at hm1 hmk
  have hm128 := (mark_blank hmk).2.2.2
  have HMK := Lib.hid hmk
  clear hm hmk
  obtain ⟨QS, hQS⟩ : ∃ Q, Q = bstr (quoteL s) := ⟨_, rfl⟩
  obtain ⟨S1, hS1⟩ : ∃ Q, Q = bstr ([m] ++ quoteL s) := ⟨_, rfl⟩
  obtain ⟨S2, hS2⟩ : ∃ Q, Q = bstr (([m] ++ quoteL s) ++ [32]) := ⟨_, rfl⟩
  obtain ⟨S3, hS3⟩ : ∃ Q, Q = bstr ((([m] ++ quoteL s) ++ [32]) ++ r) := ⟨_, rfl⟩
  have HQB := Lib.hid (quoteL_byte HSB.out)
  have hq4 : (quoteL s).length ≤ 402 := by have := HQB.out.2; rw [HL1.out] at this; omega
  have k1 : ∀ W : World, (Op.stringOp .add (bstr [m]) QS).run Try.prog W = .ok (.string S1) W := by rw [hS1]; exact add_bytes rfl hQS (by simp only [List.length_cons, List.length_nil]; omega)
  have k2 : ∀ W : World, (Op.stringOp .add S1 ⟨#[32]⟩).run Try.prog W = .ok (.string S2) W := by rw [hS2]; exact add_bytes (r := [32]) hS1 rfl (by simp only [List.length_append, List.length_cons, List.length_nil]; omega)
  have k3 : ∀ W : World, (Op.stringOp .add S2 R).run Try.prog W = .ok (.string S3) W := by rw [hS3]; exact add_bytes hS2 HR.out (by have := HL2.out; simp only [List.length_append, List.length_cons, List.length_nil]; omega)
  have HQS := Lib.hid hQS
  have HS3 := Lib.hid hS3
  have HP : Hid (∀ u ∈ (([m] ++ quoteL s) ++ [32]) ++ r, u < 256) := Lib.hid (fun u hu => by
    rcases List.mem_append.1 hu with h | h
    · rcases List.mem_append.1 h with h | h
      · rcases List.mem_append.1 h with h | h
        · rw [List.mem_singleton] at h; omega
        · exact HQB.out.1 u h
      · rw [List.mem_singleton] at h; omega
    · exact HRB.out u h)
  have HPL : Hid (((([m] ++ quoteL s) ++ [32]) ++ r).length ≤ 4000) := Lib.hid (by have := HL2.out; simp only [List.length_append, List.length_cons, List.length_nil]; omega)
  have HNX : Hid (nextM ((([m] ++ quoteL s) ++ [32]) ++ r) 0 = .ok (⟨2, m, s, 0⟩, 0 + 1 + (quoteL s).length)) := Lib.hid (next_name (A := []) (R := 32 :: r) HMK.out HSB.out (by simp) rfl (fun y hy => by injection hy with hy; subst hy; rfl))
  clear hq4 hQS hS1 hS2 hS3
  go_enter Try.func8, Try.ntmps8
  go_wp2_with fail
  refine (awake_calls _ ml HML.out).mono ?_
  rintro e w1 ⟨rfl, hb1⟩
  have HB1 := Lib.hid hb1
  have HM1 := Lib.hid (ml_below HML.out hb1)
  clear hb1
  go_wp2_with fail
  refine (quote_calls _ S s HS.out HSB.out (by rw [HL1.out]; omega)).mono ?_
  rw [← HQS.out]
  rintro e w2 ⟨rfl, hb2⟩
  have HB2 := Lib.hid (HB1.out.trans (hb2.mono HB1.out.size))
  have HM2 := Lib.hid (ml_below HM1.out hb2)
  clear hb2 HB1 HM1
  have kc := fun dst hd => conv_one w2 m (by omega) dst hd
  have kb := conv_laid
  go_wp2_with fail
  refine (new_calls _ _ _ _).mono ?_
  rintro e w3 ⟨rfl, rfl⟩
  obtain ⟨W4, hW4⟩ : ∃ W4, W4 = w2.alloc (.cells #[.int .u8 (m : Nat)] 5) := ⟨_, rfl⟩
  have HB4 : Hid (Below w.heap.size w W4) := Lib.hid (by rw [hW4]; exact HB2.out.alloc HB2.out.size _)
  have HM4 : Hid (W4.cell? ⟨0, 0, none⟩ = some (.int .i64 ml)) := Lib.hid (by rw [hW4]; exact ml_below HM2.out ((Below.refl _ _).alloc (Nat.le_refl _) _))
  have hz4 : W4.heap.size = w2.heap.size + 1 := by rw [hW4]; simp
  rw [← hz4, ← hW4]
  clear k1 k2 k3 kb kc hW4 hz4
  go_wp2_with fail
  refine (next_laid_ok W4 S3 _ ml HM4.out HS3.out HP.out HPL.out _ _ HNX.out).mono ?_
  rintro e w5 ⟨rfl, hb5⟩
  have HB5 := Lib.hid (HB4.out.trans (hb5.mono HB4.out.size))
  clear hb5
  rw [show (⟨2, m, s, 0⟩ : Tok).val = .agg #[.int .u8 2, .int .u8 (m : Nat), .string S, .int .i64 0] from by rw [HS.out]; rfl]
  go_upto_region 6 with (fail)
  obtain ⟨W6, hW6⟩ : ∃ W6, W6 = w5.alloc (.cells #[.int .u8 2, .int .u8 (m : Nat), .string S, .int .i64 0] 30) := ⟨_, rfl⟩
  have HB6 : Hid (Below w.heap.size w W6) := Lib.hid (by rw [hW6]; exact HB5.out.alloc HB5.out.size _)
  have T6 : W6.heap[w5.heap.size]? = some (.cells #[.int .u8 2, .int .u8 (m : Nat), .string S, .int .i64 0] 30) := by rw [hW6]; exact heap_alloc_new _ _
  rw [← hW6]
  clear hW6
  go_wp2_with fail
  refine (bare_calls _ S s HS.out HSB.out (by rw [HL1.out]; omega)).mono ?_
  rintro e w7 ⟨rfl, rfl⟩
  go_wp2_with fail
  refine (rbare_calls _ S s HS.out HSB.out (by rw [HL1.out]; omega)).mono ?_
  rintro e w7 ⟨rfl, rfl⟩
  go_wp2_with fail
  refine (rquote_calls _ S s HS.out HSB.out (by rw [HL1.out]; omega)).mono ?_
  rw [← HQS.out]
  rintro e w7 ⟨rfl, hb7⟩
  have T7 := blk_below T6 hb7
  have HB7 := Lib.hid (HB6.out.trans (hb7.mono HB6.out.size))
  clear T6 hb7
  obtain ⟨c7, f7, z7⟩ := blk3 T7
  go_wp2_with fail
  go_ret
  exact ⟨rfl, HB7.out⟩
theorem lexNames_no (w : World) (s r : List Nat) (k : Nat) (ml : Int) (hml : w.cell? ⟨0, 0, none⟩ = some (.int .i64 ml)) (S R : ByteArray) (h1 : S.size ≤ maxLen) (h2 : R.size ≤ maxLen) (hn : ¬ (S.size ≤ 100 ∧ R.size ≤ 20)) : Calls Try.prog 8 #[.string S, .int .u8 (k : Nat), .string R] w (Yes w) := by
  have HML := Lib.hid hml
  unfold maxLen at h1 h2
  obtain ⟨n1, hn1⟩ : ∃ n1, S.size = n1 := ⟨_, rfl⟩
  obtain ⟨n2, hn2⟩ : ∃ n2, R.size = n2 := ⟨_, rfl⟩
  rw [hn1] at h1 hn
  rw [hn2] at h2 hn
  have hor : (100 : Int) < (n1 : Int) ∨ (¬ (100 : Int) < (n1 : Int) ∧ (20 : Int) < (n2 : Int)) := by omega
  clear hml hn
  rcases hor with hgt | ⟨hgt1, hgt⟩
  · go_enter Try.func8, Try.ntmps8
    go_wp2_with fail
    refine (awake_calls _ ml HML.out).mono ?_
    rintro e w1 ⟨rfl, hb1⟩
    have HB1 := Lib.hid hb1
    have HM1 := Lib.hid (ml_below HML.out hb1)
    clear hb1
    go_wp2_with fail
    refine (awake_calls _ ml HM1.out).mono ?_
    rintro e w2 ⟨rfl, hb2⟩
    have HB2 := Lib.hid (HB1.out.trans (hb2.mono HB1.out.size))
    clear hb2
    go_wp2
    go_ret
    exact ⟨rfl, HB2.out⟩
  · go_enter Try.func8, Try.ntmps8
    go_wp2_with fail
    refine (awake_calls _ ml HML.out).mono ?_
    rintro e w1 ⟨rfl, hb1⟩
    have HB1 := Lib.hid hb1
    have HM1 := Lib.hid (ml_below HML.out hb1)
    clear hb1
    go_wp2_with fail
    refine (awake_calls _ ml HM1.out).mono ?_
    rintro e w2 ⟨rfl, hb2⟩
    have HB2 := Lib.hid (HB1.out.trans (hb2.mono HB1.out.size))
    clear hb2
    go_wp2
    go_ret
    exact ⟨rfl, HB2.out⟩
/-- Every string is a list of bytes. -/
theorem bstr_of (S : ByteArray) : ∃ l : List Nat, S = bstr l ∧ (∀ u ∈ l, u < 256) ∧ l.length = S.size := by
  refine ⟨S.data.toList.map UInt8.toNat, ?_, ?_, ?_⟩
  · apply ByteArray.ext
    apply Array.toList_inj.1
    rw [bstr_data, List.map_map]
    conv => lhs; rw [← List.map_id S.data.toList]
    exact List.map_congr_left fun u _ => by simp
  · intro u hu
    obtain ⟨x, _, rfl⟩ := List.mem_map.1 hu
    exact x.toNat_lt
  · rw [List.length_map]; rfl
end Go.Proofs.Ytjebanfmnfofnaa

/-
  LexRows (function 9): names and signs in a row, with blanks between or not.
-/
import Derived.Test.YtjebanfmnfofnaaRowP
import Derived.Test.YtjebanfmnfofnaaTokL
set_option linter.unusedSimpArgs false
set_option linter.unusedVariables false
namespace Go.Proofs.Ytjebanfmnfofnaa
open Go.RowKit
attribute [-go_sem] run_string_add_if
/-- Strings that a slice reads as. -/
structure ReadsR (w : World) (a : Option Addr) (n : Nat) (L : List (List Nat)) : Prop where
  len : L.length = n
  byte : ∀ s ∈ L, ∀ u ∈ s, u < 256
  small : ∀ s ∈ L, s.length ≤ maxLen
  read : 0 < n → ∃ b off, a = some ⟨b, off, none⟩ ∧ ∀ j s, L[j]? = some s → w.cell? ⟨b, off + j, none⟩ = some (.string (bstr s))
theorem ReadsR.below {w W : World} {a : Option Addr} {n : Nat} {L : List (List Nat)} (h : ReadsR w a n L) (hb : Below w.heap.size w W) : ReadsR W a n L :=
  ⟨h.len, h.byte, h.small, fun hp => by
    obtain ⟨b, off, e, hr⟩ := h.read hp
    exact ⟨b, off, e, fun j s hs => (hb.cell (p := ⟨b, off + j, none⟩) (World.block_lt_of_cell? w _ (hr j s hs))).trans (hr j s hs)⟩⟩
theorem ReadsR.at {w : World} {a : Option Addr} {n i : Nat} {L : List (List Nat)} (h : ReadsR w a n L) (hi : i < n) : ∃ b off s, a = some ⟨b, off, none⟩ ∧ L[i]? = some s ∧ w.cell? ⟨b, off + i, none⟩ = some (.string (bstr s)) ∧ (∀ u ∈ s, u < 256) ∧ s.length ≤ maxLen := by
  obtain ⟨b, off, e, hr⟩ := h.read (by omega)
  have hx := List.getElem?_eq_getElem (show i < L.length by rw [h.len]; exact hi)
  exact ⟨b, off, _, e, hx, hr i _ hx, h.byte _ (List.getElem_mem _), h.small _ (List.getElem_mem _)⟩
theorem cut_sign {z : Int} (k : Nat) (hk : k < 9) (hz : z = (k : Nat)) : ∀ W : World, (Instr.slice 9 (.string ⟨#[59, 61, 38, 42, 40, 41, 44, 123, 125]⟩) (some (.int .u8 z)) (some (.int .u8 (z + 1))) none).run Try.prog W = .ok (.string (bstr [sg k])) W := fun W => by
  subst hz
  have hS : (⟨#[59, 61, 38, 42, 40, 41, 44, 123, 125]⟩ : ByteArray) = bstr [59, 61, 38, 42, 40, 41, 44, 123, 125] := by decide
  have h : ([59, 61, 38, 42, 40, 41, 44, 123, 125] : List Nat)[k]? = some (sg k) := by
    have : ∀ k : Fin 9, ([59, 61, 38, 42, 40, 41, 44, 123, 125] : List Nat)[k.val]? = some (sg k.val) := by decide
    exact this ⟨k, hk⟩
  rw [run_slice_string W 9 _ .u8 .u8 (k : Nat) ((k : Nat) + 1) Try.underlying9 (by omega) (by omega) (by rw [hS, bstr_size]; simp; omega), hS]
  have := cut_bstr h
  rw [show (((k : Nat) : Int)).toNat = k by omega, show (((k : Nat) : Int) + 1).toNat = k + 1 by omega, this]
set_option maxRecDepth 20000 in
set_option maxHeartbeats 4000000 in
theorem lexRows_walk (w : World) (a a2 : Option Addr) (n c n2 c2 : Nat) (L : List (List Nat)) (G : List Nat) (ml : Int) (hml : w.cell? ⟨0, 0, none⟩ = some (.int .i64 ml)) (h : ReadsR w a n L) (h2 : ReadsU w a2 n2 G) (hn : n ≤ 12) (hnc : n ≤ c) (hnc2 : n2 ≤ c2) (hm2 : n2 ≤ maxLen) :
    Calls Try.prog 9 #[.slice a n c, .slice a2 n2 c2] w (Yes w) := by
  have HML := Lib.hid hml
  have H := Lib.hid h
  have H2 := Lib.hid h2
  have HLEN := Lib.hid h.len
  have HGL := Lib.hid h2.1
  have HBY := Lib.hid h.byte
  have HM2 := Lib.hid hm2
  have h12 : ¬ (12 : Int) < (n : Int) := by omega
  clear hml h h2 hm2
  go_enter Try.func9, Try.ntmps9
  go_wp2_with fail
  refine (awake_calls _ ml HML.out).mono ?_
  rintro e w1 ⟨rfl, hb1⟩
  have HB1 := Lib.hid hb1
  have HM1 := Lib.hid (ml_below HML.out hb1)
  have HR := Lib.hid (H.out.below hb1)
  have HG := Lib.hid (H2.out.below hb1)
  clear hb1 H H2 HML
  go_wp2_with fail
  go_loopg [5, 6] n (fun gk s5 s6 wr => ∃ (i : Nat) (T : ByteArray), s6 = .int .i64 (i : Nat) ∧ s5 = .string T ∧ i ≤ n ∧ Hid (gk = n - i) ∧ Hid (T = bstr (rowT L G i)) ∧ Hid (∀ s ∈ L.take i, s.length ≤ 30) ∧ Hid (Below w1.heap.size w1 wr))
  case atStart => exact ⟨0, _, rfl, rfl, Nat.zero_le _, rfl, rfl, fun s hs => by simp at hs, Below.refl _ _⟩
  case round =>
    obtain ⟨i, T, rfl, rfl, hi, HK, HT, HSM, Bwr⟩ := hrel
    have HLN : Hid ((rowT L G i).length ≤ 2000) := Lib.hid (by have := row_len (G := G) i (by rw [HLEN.out]; exact hi) HSM.out HBY.out; omega)
    by_cases hlt : i < n
    · have hltI : (i : Int) < (n : Int) := by omega
      obtain ⟨b, off, s, rfl, hx, hxc, hsb, hsm⟩ := (HR.out.below Bwr.out).at hlt
      have HX := Lib.hid hx
      obtain ⟨X, hXe⟩ : ∃ X, X = bstr s := ⟨_, rfl⟩
      rw [← hXe] at hxc
      obtain ⟨m, hm⟩ : ∃ m, m = s.length := ⟨_, rfl⟩
      have hsz : X.size = m := by rw [hXe, bstr_size, hm]
      rw [← hm] at hsm
      unfold maxLen at hsm
      have HXE := Lib.hid hXe
      have HM := Lib.hid hm.symm
      have HSB := Lib.hid hsb
      clear hx hXe hm hsb
      by_cases h30 : m ≤ 30
      · have h30I : ¬ (30 : Int) < (m : Int) := by omega
        have HQB := Lib.hid (quoteL_byte HSB.out)
        have HQL : Hid ((quoteL s).length ≤ 122) := Lib.hid (by have := HQB.out.2; rw [HM.out] at this; omega)
        obtain ⟨QS, hQS⟩ : ∃ Q, Q = bstr (quoteL s) := ⟨_, rfl⟩
        obtain ⟨S1, hS1⟩ : ∃ Q, Q = bstr ([64] ++ quoteL s) := ⟨_, rfl⟩
        obtain ⟨T1, hT1⟩ : ∃ Q, Q = bstr (rowT L G i ++ ([64] ++ quoteL s)) := ⟨_, rfl⟩
        have k1 : ∀ W : World, (Op.stringOp .add ⟨#[64]⟩ QS).run Try.prog W = .ok (.string S1) W := by rw [hS1]; exact add_bytes (l := [64]) rfl hQS (by have := HQL.out; simp only [List.length_cons, List.length_nil]; omega)
        have k2 : ∀ W : World, (Op.stringOp .add T S1).run Try.prog W = .ok (.string T1) W := by rw [hT1]; exact add_bytes HT.out hS1 (by have := HQL.out; have := HLN.out; simp only [List.length_append, List.length_cons, List.length_nil]; omega)
        have HQS := Lib.hid hQS
        have HT1 := Lib.hid hT1
        have HSM2 : Hid (∀ t ∈ L.take (i + 1), t.length ≤ 30) := Lib.hid (fun t ht => by
          rw [List.take_add_one, HX.out] at ht
          rcases List.mem_append.1 ht with h | h
          · exact HSM.out t h
          · have : t = s := by simpa using h
            rw [this, HM.out]; exact h30)
        clear hQS hS1 hT1
        go_upto_region 9 with (fail)
        go_wp2_with fail
        refine (quote_calls _ X s HXE.out HSB.out (by rw [HM.out]; omega)).mono ?_
        rw [← HQS.out]
        rintro e w5 ⟨rfl, hb5⟩
        have BW5 := Lib.hid (Bwr.out.trans (hb5.mono Bwr.out.size))
        clear hb5 hxc
        by_cases hg : i < n2
        · have hgI : (i : Int) < (n2 : Int) := by omega
          obtain ⟨b2, o2, k, rfl, hk, k256, kc⟩ := (HG.out.below BW5.out).at hg
          have HKG := Lib.hid hk
          clear hk
          obtain ⟨T2, hT2⟩ : ∃ Q, Q = bstr ((rowT L G i ++ ([64] ++ quoteL s)) ++ [sg (k % 9)]) := ⟨_, rfl⟩
          have k3 : ∀ W : World, (Op.stringOp .add T1 (bstr [sg (k % 9)])).run Try.prog W = .ok (.string T2) W := by rw [hT2]; exact add_bytes HT1.out rfl (by have := HQL.out; have := HLN.out; simp only [List.length_append, List.length_cons, List.length_nil]; omega)
          have HT2 : Hid (T2 = bstr (rowT L G (i + 1))) := Lib.hid (by
            rw [hT2, rowT_succ]
            unfold piece signP
            rw [getD_of HX.out, HKG.out]
            simp only [List.append_assoc, List.cons_append, List.nil_append])
          have q1 := cut_sign (z := (k : Int) % 9) (k % 9) (by omega) (by omega)
          have hw2 : IntKind.u8.wrap ((k : Int) % 9) = (k : Int) % 9 := by unfold IntKind.wrap; simp [IntKind.signed, IntKind.bits]; omega
          have tm : (k : Int).tmod 9 = (k : Int) % 9 := Int.tmod_eq_emod_of_nonneg (by omega)
          have hw4 : IntKind.u8.wrap ((k : Int) % 9 + 1) = (k : Int) % 9 + 1 := by unfold IntKind.wrap; simp [IntKind.signed, IntKind.bits]; omega
          clear hT2
          go_upto_region 11 with (fail)
          have kc9 : w5.drew.cell? ⟨b2, o2 + i, none⟩ = some (.int .u8 (k : Nat)) := kc
          clear k1 k2
          refine wp_region_HL (S := (fun w' => w'.cell? ⟨b2, o2 + i, none⟩ = some (.int .u8 (k : Nat)))) 14 (by kernel_rfl) (by kernel_rfl) (by kernel_rfl) (by kernel_rfl) (by decide) kc9 (fun hHeld => ?_)
          refine Go.HL.take_ (i := 0) (oi := { dst := some 52, op := .move (.tmp 5), type := 9, pos := "more.go:59", after := #[], guard := none }) (v := ?_) rfl (by decide) (by kernel_rfl) (by kernel_rfl) (fun _ _ _ h => h) (Or.inl ⟨by rfl, ?_⟩) (by assumption) ?_
          rotate_left
          · intro w hSw
            (try dsimp only at hSw)
            (go_simp; try (with_reducible rfl))
          try simp only [Act.put, List.setIfInBounds_toArray, List.set_cons_zero, List.set_cons_succ]
          refine Go.HL.take_ (i := 1) (oi := { dst := some 53, op := .move (.tmp 1), type := 22, pos := "more.go:59", after := #[], guard := none }) (v := ?_) rfl (by decide) (by kernel_rfl) (by kernel_rfl) (fun _ _ _ h => h) (Or.inl ⟨by rfl, ?_⟩) (by assumption) ?_
          rotate_left
          · intro w hSw
            (try dsimp only at hSw)
            (go_simp; try (with_reducible rfl))
          try simp only [Act.put, List.setIfInBounds_toArray, List.set_cons_zero, List.set_cons_succ]
          refine Go.HL.take_ (i := 2) (oi := { dst := some 54, op := .move (.tmp 6), type := 3, pos := "more.go:59", after := #[], guard := none }) (v := ?_) rfl (by decide) (by kernel_rfl) (by kernel_rfl) (fun _ _ _ h => h) (Or.inl ⟨by rfl, ?_⟩) (by assumption) ?_
          rotate_left
          · intro w hSw
            (try dsimp only at hSw)
            (go_simp; try (with_reducible rfl))
          try simp only [Act.put, List.setIfInBounds_toArray, List.set_cons_zero, List.set_cons_succ]
          refine Go.HL.take_ (i := 3) (oi := { dst := some 55, op := .indexAddr 22 (.tmp 53) (.tmp 54), type := 0, pos := "more.go:59", after := #[{ on := 1, ground := .data }, { on := 2, ground := .data }], guard := none }) (v := ?_) rfl (by decide) (by kernel_rfl) (by kernel_rfl) (fun _ _ _ h => h) (Or.inl ⟨by rfl, ?_⟩) (by assumption) ?_
          rotate_left
          · intro w hSw
            (try dsimp only at hSw)
            (go_simp; try (with_reducible rfl))
          try simp only [Act.put, List.setIfInBounds_toArray, List.set_cons_zero, List.set_cons_succ]
          refine Go.HL.take_ (i := 4) (oi := { dst := some 56, op := .load 5 (.tmp 55), type := 5, pos := "more.go:59", after := #[{ on := 3, ground := .data }], guard := none }) (v := ?_) rfl (by decide) (by kernel_rfl) (by kernel_rfl) (fun _ _ _ h => h) (Or.inl ⟨by rfl, ?_⟩) (by assumption) ?_
          rotate_left
          · intro w hSw
            (try dsimp only at hSw)
            have yw := hSw; (go_simp; try (with_reducible rfl))
          try simp only [Act.put, List.setIfInBounds_toArray, List.set_cons_zero, List.set_cons_succ]
          refine Go.HL.take_ (i := 5) (oi := { dst := some 57, op := .binOp .rem 5 (.tmp 56) (.const (.int .u8 9)) 5, type := 5, pos := "more.go:59", after := #[{ on := 4, ground := .data }], guard := none }) (v := .int .u8 ((k % 9 : Nat) : Int)) rfl (by decide) (by kernel_rfl) (by kernel_rfl) (fun _ _ _ h => h) (Or.inl ⟨by rfl, ?_⟩) (by assumption) ?_
          · intro w hSw
            (try dsimp only at hSw)
            (go_simp; try (with_reducible rfl))
          try simp only [Act.put, List.setIfInBounds_toArray, List.set_cons_zero, List.set_cons_succ]
          refine Go.HL.take_ (i := 6) (oi := { dst := some 58, op := .move (.tmp 1), type := 22, pos := "more.go:59", after := #[], guard := none }) (v := ?_) rfl (by decide) (by kernel_rfl) (by kernel_rfl) (fun _ _ _ h => h) (Or.inl ⟨by rfl, ?_⟩) (by assumption) ?_
          rotate_left
          · intro w hSw
            (try dsimp only at hSw)
            (go_simp; try (with_reducible rfl))
          try simp only [Act.put, List.setIfInBounds_toArray, List.set_cons_zero, List.set_cons_succ]
          refine Go.HL.take_ (i := 7) (oi := { dst := some 59, op := .move (.tmp 6), type := 3, pos := "more.go:59", after := #[], guard := none }) (v := ?_) rfl (by decide) (by kernel_rfl) (by kernel_rfl) (fun _ _ _ h => h) (Or.inl ⟨by rfl, ?_⟩) (by assumption) ?_
          rotate_left
          · intro w hSw
            (try dsimp only at hSw)
            (go_simp; try (with_reducible rfl))
          try simp only [Act.put, List.setIfInBounds_toArray, List.set_cons_zero, List.set_cons_succ]
          refine Go.HL.take_ (i := 8) (oi := { dst := some 60, op := .indexAddr 22 (.tmp 58) (.tmp 59), type := 0, pos := "more.go:59", after := #[{ on := 6, ground := .data }, { on := 7, ground := .data }], guard := none }) (v := ?_) rfl (by decide) (by kernel_rfl) (by kernel_rfl) (fun _ _ _ h => h) (Or.inl ⟨by rfl, ?_⟩) (by assumption) ?_
          rotate_left
          · intro w hSw
            (try dsimp only at hSw)
            (go_simp; try (with_reducible rfl))
          try simp only [Act.put, List.setIfInBounds_toArray, List.set_cons_zero, List.set_cons_succ]
          refine Go.HL.take_ (i := 9) (oi := { dst := some 61, op := .load 5 (.tmp 60), type := 5, pos := "more.go:59", after := #[{ on := 8, ground := .data }], guard := none }) (v := ?_) rfl (by decide) (by kernel_rfl) (by kernel_rfl) (fun _ _ _ h => h) (Or.inl ⟨by rfl, ?_⟩) (by assumption) ?_
          rotate_left
          · intro w hSw
            (try dsimp only at hSw)
            have yw := hSw; (go_simp; try (with_reducible rfl))
          try simp only [Act.put, List.setIfInBounds_toArray, List.set_cons_zero, List.set_cons_succ]
          refine Go.HL.take_ (i := 10) (oi := { dst := some 62, op := .binOp .rem 5 (.tmp 61) (.const (.int .u8 9)) 5, type := 5, pos := "more.go:59", after := #[{ on := 9, ground := .data }], guard := none }) (v := .int .u8 ((k % 9 : Nat) : Int)) rfl (by decide) (by kernel_rfl) (by kernel_rfl) (fun _ _ _ h => h) (Or.inl ⟨by rfl, ?_⟩) (by assumption) ?_
          · intro w hSw
            (try dsimp only at hSw)
            (go_simp; try (with_reducible rfl))
          try simp only [Act.put, List.setIfInBounds_toArray, List.set_cons_zero, List.set_cons_succ]
          refine Go.HL.take_ (i := 11) (oi := { dst := some 63, op := .binOp .add 5 (.tmp 62) (.const (.int .u8 1)) 5, type := 5, pos := "more.go:59", after := #[{ on := 10, ground := .data }], guard := none }) (v := .int .u8 ((k % 9 + 1 : Nat) : Int)) rfl (by decide) (by kernel_rfl) (by kernel_rfl) (fun _ _ _ h => h) (Or.inl ⟨by rfl, ?_⟩) (by assumption) ?_
          · intro w hSw
            (try dsimp only at hSw)
            (go_simp; try (with_reducible rfl))
          try simp only [Act.put, List.setIfInBounds_toArray, List.set_cons_zero, List.set_cons_succ]
          refine Go.HL.take_ (i := 12) (oi := { dst := some 64, op := .slice 9 (.const (.string { data := #[59, 61, 38, 42, 40, 41, 44, 123, 125] })) (some (.tmp 57)) (some (.tmp 63)) none, type := 9, pos := "more.go:59", after := #[{ on := 5, ground := .data }, { on := 11, ground := .data }], guard := none }) (v := .string (bstr [sg (k % 9)])) rfl (by decide) (by kernel_rfl) (by kernel_rfl) (fun _ _ _ h => h) (Or.inl ⟨by rfl, ?_⟩) (by assumption) ?_
          · intro w hSw
            (try dsimp only at hSw)
            (go_simp; try (with_reducible rfl))
          try simp only [Act.put, List.setIfInBounds_toArray, List.set_cons_zero, List.set_cons_succ]
          refine Go.HL.take_ (i := 13) (oi := { dst := some 65, op := .binOp .add 9 (.tmp 52) (.tmp 64) 9, type := 9, pos := "more.go:59", after := #[{ on := 0, ground := .data }, { on := 12, ground := .data }], guard := none }) (v := .string T2) rfl (by decide) (by kernel_rfl) (by kernel_rfl) (fun _ _ _ h => h) (Or.inl ⟨by rfl, ?_⟩) (by assumption) ?_
          · intro w hSw
            (try dsimp only at hSw)
            (go_simp; try (with_reducible rfl))
          try simp only [Act.put, List.setIfInBounds_toArray, List.set_cons_zero, List.set_cons_succ]
          refine Go.HL.done_ (by kernel_rfl) ?_
          simp only [List.drop_succ_cons, List.drop_zero]
          clear hHeld
          go_wp2_with fail
          go_roundg (n - (i + 1))
          case measure => have := HK.out; omega
          case rel => exact ⟨i + 1, T2, by go_num, rfl, by omega, rfl, HT2, HSM2, (show Below w1.heap.size w1 w5.drew from ⟨BW5.out.os, BW5.out.tape, BW5.out.output, BW5.out.size, BW5.out.block⟩)⟩
        · have hgI : ¬ (i : Int) < (n2 : Int) := by omega
          have HT2 : Hid (T1 = bstr (rowT L G (i + 1))) := Lib.hid (by
            rw [HT1.out, rowT_succ]
            unfold piece signP
            rw [getD_of HX.out, List.getElem?_eq_none (by rw [HGL.out]; omega)]
            simp only [List.append_assoc, List.cons_append, List.nil_append, List.append_nil])
          go_wp2_with fail
          go_roundg (n - (i + 1))
          case measure => have := HK.out; omega
          case rel => exact ⟨i + 1, T1, by go_num, rfl, by omega, rfl, HT2, HSM2, BW5⟩
      · have h30I : (30 : Int) < (m : Int) := by omega
        go_wp2_with fail
        go_ret
        exact ⟨rfl, HB1.out.trans (Bwr.out.mono HB1.out.size)⟩
    · obtain rfl : n = i := by omega
      have hnn : ¬ (n : Int) < (n : Int) := by omega
      have HP := Lib.hid (row_byte (L := L) (G := G) HBY.out n (by rw [HLEN.out]; exact Nat.le_refl _))
      have HPL : Hid ((rowT L G n).length ≤ 4000) := Lib.hid (by have := HLN.out; omega)
      have HTZ : Hid (T.size = (rowT L G n).length) := Lib.hid (by rw [HT.out, bstr_size])
      have kb := conv_laid
      go_wp2_with fail
      refine (new_calls _ _ _ _).mono ?_
      rintro e w3 ⟨rfl, rfl⟩
      have hL := Lx.laid (w := wr) HT.out HP.out HPL.out
      have hb2 := laid2_below wr T (.cells #[.slice (some ⟨wr.heap.size, 0, none⟩) T.size (grownCap wr T.size 0 5), .int .i64 0] 51)
      obtain ⟨g, hg⟩ : ∃ g, g = (laid wr T).heap.size := ⟨_, rfl⟩
      have hgz : g = wr.heap.size + 1 := by rw [hg, laid_size]
      obtain ⟨W2, hW2⟩ : ∃ W2, W2 = (laid wr T).alloc (.cells #[.slice (some ⟨wr.heap.size, 0, none⟩) T.size (grownCap wr T.size 0 5), .int .i64 0] 51) := ⟨_, rfl⟩
      rw [← hW2] at hL hb2 ⊢
      rw [← hg] at hL ⊢
      obtain ⟨q, hq⟩ : ∃ q, q = T.size := ⟨_, rfl⟩
      obtain ⟨cp, hcp⟩ : ∃ cp, cp = grownCap wr T.size 0 5 := ⟨_, rfl⟩
      rw [← hcp] at hL ⊢
      rw [← hq] at hL HTZ ⊢
      have HB2 : Hid (Below w1.heap.size w1 W2) := Lib.hid (Bwr.out.trans (hb2.mono Bwr.out.size))
      have hgw : w1.heap.size ≤ g := by have := Bwr.out.size; omega
      have hg0 : g ≠ 0 := by omega
      have HL0 := Lib.hid hL
      have HM2' := Lib.hid (ml_below HM1.out HB2.out)
      obtain ⟨A2, hA2⟩ : ∃ A2, A2 = some (⟨wr.heap.size, 0, none⟩ : Addr) := ⟨_, rfl⟩
      rw [← hA2] at HL0 ⊢
      have HQZ := Lib.hid hq
      clear hL hb2 hg hgz hW2 hq hcp hA2 kb
      go_wp2_with fail
      go_loopg [8] n (fun gk s8 wr => ∃ i : Nat, s8 = .int .i64 (i : Nat) ∧ i ≤ n ∧ Hid (gk = n - i) ∧ Hid (Lx wr g A2 q cp (rowT L G n) (rowT L G i).length) ∧ Hid (W2.grownBy wr (some g)))
      case atStart => exact ⟨0, rfl, Nat.zero_le _, rfl, HL0, grown_refl _ _⟩
      case round =>
        obtain ⟨i, rfl, hi, HKI, HLX, HGR⟩ := hrel
        have hmr : wr.cell? ⟨0, 0, none⟩ = some (.int .i64 ml) := grown_cell HGR.out (Ne.symm hg0) HM2'.out
        have HMR := Lib.hid hmr
        clear hmr
        by_cases hlt : i < n
        · have hltI : (i : Int) < (n : Int) := by omega
          have HBW : Hid (∀ W5, W2.grownBy W5 (some g) → ReadsR W5 a n L) := Lib.hid (fun W5 h5 => HR.out.below (below_grown HB2.out hgw h5))
          obtain ⟨s, hx⟩ : ∃ s, L[i]? = some s := ⟨_, List.getElem?_eq_getElem (by rw [HLEN.out]; exact hlt)⟩
          obtain ⟨X, hXe⟩ : ∃ X, X = bstr s := ⟨_, rfl⟩
          have HNX := Lib.hid (row_name (G := G) HBY.out hlt hx)
          have HX := Lib.hid hx
          have HXE := Lib.hid hXe
          clear hx hXe
          go_wp2_with fail
          refine (next_calls wr g q cp _ A2 _ ml HLX.out hg0 HMR.out).mono ?_
          rw [HNX.out]
          rintro e w5 ⟨rfl, -, hL5, hg5⟩
          have HL5 := Lib.hid hL5
          have HG5 := Lib.hid (grown_trans HGR.out hg5)
          clear hL5 hg5
          obtain ⟨pl, hpl⟩ : ∃ pl, pl = (rowT L G i).length := ⟨_, rfl⟩
          rw [show (⟨2, 64, s, (rowT L G i).length⟩ : Tok).val = .agg #[.int .u8 2, .int .u8 64, .string X, .int .i64 (pl : Nat)] from by rw [HXE.out, hpl]; rfl]
          clear hpl
          go_upto_region 17 with (fail)
          obtain ⟨W6, hW6⟩ : ∃ W6, W6 = w5.alloc (.cells #[.int .u8 2, .int .u8 64, .string X, .int .i64 (pl : Nat)] 30) := ⟨_, rfl⟩
          have HG6 : Hid (W2.grownBy W6 (some g)) := Lib.hid (by rw [hW6]; exact grown_trans HG5.out (grown_below ((Below.refl _ _).alloc (Nat.le_refl _) _)))
          have HL6 := Lib.hid (show Lx W6 g A2 q cp (rowT L G n) ((rowT L G i).length + 1 + (quoteL s).length) by rw [hW6]; exact HL5.out.below ((Below.refl _ _).alloc (Nat.le_refl _) _))
          have T6 : W6.heap[w5.heap.size]? = some (.cells #[.int .u8 2, .int .u8 64, .string X, .int .i64 (pl : Nat)] 30) := by rw [hW6]; exact heap_alloc_new _ _
          rw [← hW6]
          clear hW6
          obtain ⟨ct, ft, zt⟩ := blk3 T6
          clear T6
          obtain ⟨b, off, s', ea, hx', hxc, -, -⟩ := (HBW.out _ HG6.out).at hlt
          have hss : s' = s := by rw [HX.out] at hx'; injection hx' with e; exact e.symm
          rw [hss, ← HXE.out] at hxc
          have HEA := Lib.hid ea
          clear hx' hss
          subst ea
          go_quiet (fail)
          clear ct ft zt hxc
          obtain ⟨W7, hW7⟩ : ∃ W7, W7 = W6.drewN nq := ⟨_, rfl⟩
          have HG7 : Hid (W2.grownBy W7 (some g)) := Lib.hid (by rw [hW7]; exact grown_drewN HG6.out _)
          have HL7 := Lib.hid (show Lx W7 g A2 q cp (rowT L G n) ((rowT L G i).length + 1 + (quoteL s).length) by rw [hW7]; exact HL6.out.drewN _)
          rw [← hW7]
          clear hW7 HG6 HL6
          have HM7 : Hid (W7.cell? ⟨0, 0, none⟩ = some (.int .i64 ml)) := Lib.hid (grown_cell HG7.out (Ne.symm hg0) HM2'.out)
          by_cases hg : i < n2
          · have hgI : (i : Int) < (n2 : Int) := by omega
            obtain ⟨k, hk⟩ : ∃ k, G[i]? = some k := ⟨_, List.getElem?_eq_getElem (by rw [HGL.out]; exact hg)⟩
            have HNY := Lib.hid (row_sign (L := L) (G := G) hlt HX.out hk)
            clear hk
            go_wp2_with fail
            refine (next_calls W7 g q cp _ A2 _ ml HL7.out hg0 HM7.out).mono ?_
            rw [HNY.out]
            rintro e w8 ⟨rfl, -, hL8, hg8⟩
            have HL8 := Lib.hid hL8
            have HG8 := Lib.hid (grown_trans HG7.out hg8)
            clear hL8 hg8
            obtain ⟨pl2, hpl⟩ : ∃ pl2, pl2 = (rowT L G i).length + 1 + (quoteL s).length := ⟨_, rfl⟩
            obtain ⟨Y, hY⟩ : ∃ Y, Y = bstr [sg (k % 9)] := ⟨_, rfl⟩
            rw [show (⟨3, 0, [sg (k % 9)], (rowT L G i).length + 1 + (quoteL s).length⟩ : Tok).val = .agg #[.int .u8 3, .int .u8 0, .string Y, .int .i64 (pl2 : Nat)] from by rw [hY, hpl]; rfl]
            clear hpl hY
            go_wp2_with fail
            go_roundg (n - (i + 1))
            case measure => have := HKI.out; omega
            case rel => exact ⟨i + 1, by go_num, by omega, rfl, HL8.out.below ((Below.refl _ _).alloc (Nat.le_refl _) _), grown_trans HG8.out (grown_below ((Below.refl _ _).alloc (Nat.le_refl _) _))⟩
          · have hgI : ¬ (i : Int) < (n2 : Int) := by omega
            have HPE := Lib.hid (row_none (L := L) (G := G) HX.out (List.getElem?_eq_none (by rw [HGL.out]; omega)))
            have HL8 : Hid (Lx W7 g A2 q cp (rowT L G n) (rowT L G (i + 1)).length) := Lib.hid (by rw [HPE.out]; exact HL7.out)
            go_wp2_with fail
            go_roundg (n - (i + 1))
            case measure => have := HKI.out; omega
            case rel => exact ⟨i + 1, by go_num, by omega, rfl, HL8, HG7⟩
        · obtain rfl : n = i := by omega
          have hnn : ¬ (n : Int) < (n : Int) := by omega
          have kb := conv_laid
          go_wp2_with fail
          have hTs : T.size ≤ 4000 := by have := HPL.out; have := HTZ.out; have := HQZ.out; omega
          refine (tokens_calls (laid wr T) _ _ _ (rowT L G n) (laid_reads HT.out HP.out) hTs (grownCap_ge _ _ _ _)).mono ?_
          rintro e w3 ⟨l, bad, A3, cp3, ht, hm, rfl, hown, hb3⟩
          obtain ⟨hbad, hlast⟩ := chain_toks (row_chain (G := G) HBY.out HLEN.out n 0 (by omega)) ht
          subst hbad
          obtain ⟨m, hlm⟩ : ∃ m, m = l.length := ⟨_, rfl⟩
          rw [← hlm] at hm hown ⊢
          have hlb := laid_below wr T
          have HL3 := Lib.hid ((HLX.out.below hlb).below hb3)
          have HG3 := Lib.hid (grown_trans (grown_trans HGR.out (grown_below hlb)) (grown_below hb3))
          have HM3 : Hid (w3.cell? ⟨0, 0, none⟩ = some (.int .i64 ml)) := Lib.hid (grown_cell HG3.out (Ne.symm hg0) HM2'.out)
          have hm0 : 0 < m := by
            rcases Nat.eq_zero_or_pos m with h0 | h0
            · rw [List.length_eq_zero_iff.1 (hlm.symm.trans h0)] at hlast; cases hlast
            · exact h0
          obtain ⟨k, hkm⟩ : ∃ k, m = k + 1 := ⟨m - 1, by omega⟩
          have hl9 : l[k]? = some ⟨0, 0, [], (rowT L G n).length⟩ := by
            rw [List.getLast?_eq_getElem?, ← hlm, hkm, Nat.add_sub_cancel] at hlast
            exact hlast
          have HL9 := Lib.hid hl9
          have HLM := Lib.hid hlm.symm
          have HOW := Lib.hid hown
          have hgl : g < (laid wr T).heap.size := by have := blk_lt HLX.out.box; rw [laid_size]; omega
          have HGL' := Lib.hid hgl
          have HKM := Lib.hid hkm
          have hmk : (m : Int) - 1 = (k : Int) := by omega
          have HMK := Lib.hid hmk
          have HTS := Lib.hid hTs
          have HMS := Lib.hid hm
          have HN : Hid (nextM (rowT L G n) (rowT L G n).length = .ok (⟨0, 0, [], (rowT L G n).length⟩, (rowT L G n).length)) := Lib.hid (nextM_end (skip_end (Nat.le_refl _)) (Nat.le_refl _))
          clear ht hb3 hlast hlm hm hown hm0 hkm hl9 hgl hmk hTs kb hlb
          go_wp2_with fail
          refine (next_calls w3 g q cp _ A2 _ ml HL3.out hg0 HM3.out).mono ?_
          rw [HN.out]
          rintro e w5 ⟨rfl, -, hL5, hg5⟩
          have HG5 := Lib.hid (grown_trans HG3.out hg5)
          have HO5 := Lib.hid (HOW.out.kept hg5 (by
            refine .inr fun e => ?_
            have := (World.ownsRow.lt HOW.out _ e).1
            have := HGL'.out
            omega))
          clear hL5 hg5
          obtain ⟨pl, hpl⟩ : ∃ pl, pl = (rowT L G n).length := ⟨_, rfl⟩
          rw [show (⟨0, 0, [], (rowT L G n).length⟩ : Tok).val = .agg #[.int .u8 0, .int .u8 0, .string ⟨#[]⟩, .int .i64 (pl : Nat)] from by rw [hpl]; rfl]
          clear hpl
          go_upto_region 25 with (fail)
          obtain ⟨W6, hW6⟩ : ∃ W6, W6 = w5.alloc (.cells #[.int .u8 0, .int .u8 0, .string ⟨#[]⟩, .int .i64 (pl : Nat)] 30) := ⟨_, rfl⟩
          have HG6 : Hid (W2.grownBy W6 (some g)) := Lib.hid (by rw [hW6]; exact grown_trans HG5.out (grown_below ((Below.refl _ _).alloc (Nat.le_refl _) _)))
          have T6 : W6.heap[w5.heap.size]? = some (.cells #[.int .u8 0, .int .u8 0, .string ⟨#[]⟩, .int .i64 (pl : Nat)] 30) := by rw [hW6]; exact heap_alloc_new _ _
          have HO6 : Hid (W6.ownsRow (laid wr T).heap.size 34 4 (.slice A3 m cp3) m (toks l)) := Lib.hid (by rw [hW6]; exact own_below HO5.out ((Below.refl _ _).alloc (Nat.le_refl _) _))
          rw [← hW6]
          clear hW6
          obtain ⟨ct, ft, zt⟩ := blk3 T6
          clear T6
          obtain ⟨gr, rfl, hgr, hmc, hcells⟩ := own_tok HO6.out HLM.out HL9.out
          have c3 : W6.cell? ⟨gr, k * 4 + 3, none⟩ = some (.int .i64 (T.size : Nat)) := by
            have := hcells 3 (by decide)
            rw [this, ← HQZ.out, HTZ.out]
            rfl
          have hmk : (m : Int) - 1 = (k : Int) := HMK.out
          have hk1 : k < m := by have := HKM.out; omega
          have hk2 : (k : Int) < (m : Int) := by omega
          have hwk : wrap64 (k : Int) = (k : Int) := IntWalk.wrap64_in _ (by have := HMS.out; have := HPL.out; omega)
          clear hcells
          go_wp2_with fail
          go_ret
          exact ⟨rfl, HB1.out.trans ((below_grown HB2.out hgw HG6.out).mono HB1.out.size)⟩
theorem lexRows_no (w : World) (a a2 : Option Addr) (n c n2 c2 : Nat) (ml : Int) (hml : w.cell? ⟨0, 0, none⟩ = some (.int .i64 ml)) (hm : n ≤ maxLen) (hn : ¬ n ≤ 12) : Calls Try.prog 9 #[.slice a n c, .slice a2 n2 c2] w (Yes w) := by
  have HML := Lib.hid hml
  unfold maxLen at hm
  have hgt : (12 : Int) < (n : Int) := by omega
  clear hml hn
  go_enter Try.func9, Try.ntmps9
  go_wp2_with fail
  refine (awake_calls _ ml HML.out).mono ?_
  rintro e w1 ⟨rfl, hb1⟩
  have HB1 := Lib.hid hb1
  have HM1 := Lib.hid (ml_below HML.out hb1)
  clear hb1
  go_wp2_with fail
  refine (awake_calls _ ml HM1.out).mono ?_
  rintro e w2 ⟨rfl, hb2⟩
  have HB2 := Lib.hid (HB1.out.trans (hb2.mono HB1.out.size))
  clear hb2
  go_wp2
  go_ret
  exact ⟨rfl, HB2.out⟩
end Go.Proofs.Ytjebanfmnfofnaa

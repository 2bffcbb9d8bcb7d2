/-
  The document's Quote (function 20). No statement of its own.
-/
import Derived.Test.YtjebanfmnfofnaaQuo1
set_option linter.unusedSimpArgs false
set_option linter.unusedVariables false
namespace Go.Proofs.Ytjebanfmnfofnaa
open Go.RowKit
attribute [-go_sem] run_string_add_if
theorem cut_bstr {l : List Nat} {i x : Nat} (h : l[i]? = some x) : (bstr l).extract i (i + 1) = bstr [x] := by
  have hi := (List.getElem?_eq_some_iff.1 h).1
  apply ByteArray.ext
  apply Array.toList_inj.1
  rw [ByteArray.data_extract, Array.toList_extract, bstr_data, bstr_data]
  rw [List.extract_eq_take_drop, Nat.add_sub_cancel_left, ← List.map_drop, ← List.map_take, drop_of h]
  rfl
theorem cut_at {S : ByteArray} {l : List Nat} (hS : S = bstr l) {i x : Nat} (h : l[i]? = some x) : ∀ W : World, (Instr.slice 9 (.string S) (some (.int .i64 (i : Int))) (some (.int .i64 ((i : Int) + 1))) none).run Try.prog W = .ok (.string (bstr [x])) W := fun W => by
  have hi := (List.getElem?_eq_some_iff.1 h).1
  rw [run_slice_string W 9 S .i64 .i64 i (i + 1) Try.underlying9 (by omega) (by omega) (by rw [hS, bstr_size]; omega), hS]
  have := cut_bstr h
  rw [show ((i : Int)).toNat = i by omega, show ((i : Int) + 1).toNat = i + 1 by omega, this]
theorem cut_hex {z : Int} (k : Nat) (hk : k < 16) (hz : z = (k : Nat)) : ∀ W : World, (Instr.slice 9 (.string ⟨#[48, 49, 50, 51, 52, 53, 54, 55, 56, 57, 97, 98, 99, 100, 101, 102]⟩) (some (.int .u8 z)) (some (.int .u8 (z + 1))) none).run Try.prog W = .ok (.string (bstr [hexd k])) W := fun W => by
  subst hz
  have hS : (⟨#[48, 49, 50, 51, 52, 53, 54, 55, 56, 57, 97, 98, 99, 100, 101, 102]⟩ : ByteArray) = bstr [48, 49, 50, 51, 52, 53, 54, 55, 56, 57, 97, 98, 99, 100, 101, 102] := by decide
  have h : ([48, 49, 50, 51, 52, 53, 54, 55, 56, 57, 97, 98, 99, 100, 101, 102] : List Nat)[k]? = some (hexd k) := by
    have : ∀ k : Fin 16, ([48, 49, 50, 51, 52, 53, 54, 55, 56, 57, 97, 98, 99, 100, 101, 102] : List Nat)[k.val]? = some (hexd k.val) := by decide
    exact this ⟨k, hk⟩
  rw [run_slice_string W 9 _ .u8 .u8 (k : Nat) ((k : Nat) + 1) Try.underlying9 (by omega) (by omega) (by rw [hS, bstr_size]; simp; omega), hS]
  have := cut_bstr h
  rw [show (((k : Nat) : Int)).toNat = k by omega, show (((k : Nat) : Int) + 1).toNat = k + 1 by omega, this]
set_option maxRecDepth 20000 in
set_option maxHeartbeats 2000000 in
theorem rquote_calls (w : World) (S : ByteArray) (l : List Nat) (hS : S = bstr l) (hb : ∀ u ∈ l, u < 256) (hn : l.length ≤ 4000) :
    Calls Try.prog 20 #[.string S] w fun e w' => e = .returned (.string (bstr (quoteL l))) ∧ Below w.heap.size w w' := by
  have HS := Lib.hid hS
  have HB := Lib.hid hb
  obtain ⟨n, hl⟩ : ∃ n, n = l.length := ⟨_, rfl⟩
  have hsz : S.size = n := by rw [hS, bstr_size, hl]
  have HL := Lib.hid hl.symm
  rw [← hl] at hn
  clear hS hb hl
  cases hbr : bareL l with
  | true =>
    have HBR := Lib.hid hbr
    have HQ : Hid (S = bstr (quoteL l)) := Lib.hid (by unfold quoteL; rw [if_pos hbr]; exact HS.out)
    clear hbr
    go_enter Try.func20, Try.ntmps20
    go_wp2_with fail
    refine (rbare_calls w S l HS.out HB.out (by rw [HL.out]; exact hn)).mono ?_
    rw [HBR.out]
    rintro e wl ⟨rfl, rfl⟩
    go_wp2_with fail
    go_ret
    exact ⟨by rw [← HQ.out]; rfl, Below.refl _ _⟩
  | false =>
    have HBR := Lib.hid hbr
    have HQ : Hid (quoteL l = 34 :: l.flatMap quoteB ++ [34]) := Lib.hid (by unfold quoteL; rw [if_neg (by rw [hbr]; decide)])
    clear hbr
    go_enter Try.func20, Try.ntmps20
    go_wp2_with fail
    refine (rbare_calls w S l HS.out HB.out (by rw [HL.out]; exact hn)).mono ?_
    rw [HBR.out]
    rintro e wl ⟨rfl, rfl⟩
    go_wp2_with fail
    go_loopg [3, 4] n (fun gk s3 s4 wr => ∃ (i : Nat) (T : ByteArray), s4 = .int .i64 (i : Nat) ∧ s3 = .string T ∧ i ≤ n ∧ Hid (gk = n - i) ∧ Hid (T = bstr (34 :: (l.take i).flatMap quoteB)) ∧ Hid (Below w.heap.size w wr))
    case atStart => exact ⟨0, _, rfl, rfl, Nat.zero_le _, rfl, rfl, Below.refl _ _⟩
    case round =>
      obtain ⟨i, T, rfl, rfl, hi, HK, HT, Bwr⟩ := hrel
      have HLN : Hid ((34 :: (l.take i).flatMap quoteB).length ≤ 20000) := Lib.hid (by have := quote_len HB.out i; rw [HL.out] at this; omega)
      by_cases hlt : i < n
      · have hltI : (i : Int) < (n : Int) := by omega
        obtain ⟨x, hx⟩ : ∃ x, l[i]? = some x := ⟨_, List.getElem?_eq_getElem (by rw [HL.out]; exact hlt)⟩
        have x256 : x < 256 := HB.out x (List.mem_of_getElem? hx)
        obtain ⟨hx1, hx2⟩ := str_at HB.out HS.out hx
        have hi0 : (0 : Int) ≤ (i : Int) := by omega
        have HN := Lib.hid (quote_next hx)
        have kcut := cut_at HS.out hx
        clear hx
        by_cases he : x = 34 ∨ x = 92
        · have HQB : Hid (quoteB x = [92, x]) := Lib.hid (by unfold quoteB; rw [if_pos he])
          obtain ⟨S1, hS1⟩ : ∃ S1, S1 = bstr ([92] ++ [x]) := ⟨_, rfl⟩
          obtain ⟨T3, hT3⟩ : ∃ T3, T3 = bstr (34 :: (l.take i).flatMap quoteB ++ ([92] ++ [x])) := ⟨_, rfl⟩
          have k1 : ∀ W : World, (Op.stringOp .add ⟨#[92]⟩ (bstr [x])).run Try.prog W = .ok (.string S1) W := by rw [hS1]; exact add_bytes rfl rfl (by simp)
          have k2 : ∀ W : World, (Op.stringOp .add T S1).run Try.prog W = .ok (.string T3) W := by rw [hT3]; exact add_bytes HT.out hS1 (by have := HLN.out; simp only [List.length_cons, List.length_nil, List.length_append] at this ⊢; omega)
          have HT3 : Hid (T3 = bstr (34 :: (l.take (i + 1)).flatMap quoteB)) := Lib.hid (by rw [HN.out, HQB.out]; exact hT3)
          have hor : (x : Int) = 34 ∨ (((x : Int) == 34) = false ∧ (x : Int) = 92) := by
            rcases he with h | h
            · exact .inl (by omega)
            · exact .inr ⟨by rw [beq_eq_false_iff_ne]; omega, by omega⟩
          clear he hS1 hT3
          rcases hor with h34 | ⟨k34, h92⟩
          · obtain rfl : x = 34 := by omega
            clear h34
            go_wp2_with fail
            go_roundg (n - (i + 1))
            case measure => have := HK.out; omega
            case rel => exact ⟨i + 1, T3, by go_num, rfl, by omega, rfl, HT3, Bwr⟩
          · obtain rfl : x = 92 := by omega
            clear k34 h92
            go_wp2_with fail
            go_roundg (n - (i + 1))
            case measure => have := HK.out; omega
            case rel => exact ⟨i + 1, T3, by go_num, rfl, by omega, rfl, HT3, Bwr⟩
        · have HE := Lib.hid he
          have k34 : ((x : Int) == 34) = false := by rw [beq_eq_false_iff_ne]; omega
          have k92 : ((x : Int) == 92) = false := by rw [beq_eq_false_iff_ne]; omega
          clear he
          by_cases ho : x < 32 ∨ 126 < x
          · have HQB : Hid (quoteB x = [92, 120, hexd (x / 16), hexd (x % 16)]) := Lib.hid (by unfold quoteB; rw [if_neg HE.out, if_pos ho])
            obtain ⟨S1, hS1⟩ : ∃ S1, S1 = bstr ([92, 120] ++ [hexd (x / 16)]) := ⟨_, rfl⟩
            obtain ⟨S2, hS2⟩ : ∃ S2, S2 = bstr (([92, 120] ++ [hexd (x / 16)]) ++ [hexd (x % 16)]) := ⟨_, rfl⟩
            obtain ⟨T3, hT3⟩ : ∃ T3, T3 = bstr (34 :: (l.take i).flatMap quoteB ++ (([92, 120] ++ [hexd (x / 16)]) ++ [hexd (x % 16)])) := ⟨_, rfl⟩
            have k1 : ∀ W : World, (Op.stringOp .add ⟨#[92, 120]⟩ (bstr [hexd (x / 16)])).run Try.prog W = .ok (.string S1) W := by rw [hS1]; exact add_bytes rfl rfl (by simp)
            have k2 : ∀ W : World, (Op.stringOp .add S1 (bstr [hexd (x % 16)])).run Try.prog W = .ok (.string S2) W := by rw [hS2]; exact add_bytes hS1 rfl (by simp)
            have k3 : ∀ W : World, (Op.stringOp .add T S2).run Try.prog W = .ok (.string T3) W := by rw [hT3]; exact add_bytes HT.out hS2 (by have := HLN.out; simp only [List.length_cons, List.length_nil, List.length_append] at this ⊢; omega)
            have HT3 : Hid (T3 = bstr (34 :: (l.take (i + 1)).flatMap quoteB)) := Lib.hid (by rw [HN.out, HQB.out]; exact hT3)
            have q1 := cut_hex (z := (x : Int) / 16) (x / 16) (by omega) (by omega)
            have q2 := cut_hex (z := (x : Int) % 16) (x % 16) (by omega) (by omega)
            have hw1 : IntKind.u8.wrap ((x : Int) / 16) = (x : Int) / 16 := by unfold IntKind.wrap; simp [IntKind.signed, IntKind.bits]; omega
            have hw2 : IntKind.u8.wrap ((x : Int) % 16) = (x : Int) % 16 := by unfold IntKind.wrap; simp [IntKind.signed, IntKind.bits]; omega
            have tm : (x : Int).tmod 16 = (x : Int) % 16 := Int.tmod_eq_emod_of_nonneg (by omega)
            have hw3 : IntKind.u8.wrap ((x : Int) / 16 + 1) = (x : Int) / 16 + 1 := by unfold IntKind.wrap; simp [IntKind.signed, IntKind.bits]; omega
            have hw4 : IntKind.u8.wrap ((x : Int) % 16 + 1) = (x : Int) % 16 + 1 := by unfold IntKind.wrap; simp [IntKind.signed, IntKind.bits]; omega
            have hor : (x : Int) < 32 ∨ (¬ (x : Int) < 32 ∧ (126 : Int) < (x : Int)) := by omega
            clear hS1 hS2 hT3 ho
            rcases hor with hlo | ⟨hlo, hhi⟩
            · go_upto_region 12 with (fail)
              refine wp_region_HL (S := (fun w' => w' = wr.drew)) 18 (by kernel_rfl) (by kernel_rfl) (by kernel_rfl) (by kernel_rfl) (by decide) rfl (fun hHeld => ?_)
              refine Go.HL.take_ (i := 0) (oi := { dst := some 39, op := .move (.tmp 3), type := 9, pos := "ref.go:56", after := #[], guard := none }) (v := ?_) rfl (by decide) (by kernel_rfl) (by kernel_rfl) (fun _ _ _ h => h) (Or.inl ⟨by rfl, ?_⟩) (by assumption) ?_
              rotate_left
              · intro w hSw
                (try dsimp only at hSw)
                (go_simp; try (with_reducible rfl))
              try simp only [Act.put, List.setIfInBounds_toArray, List.set_cons_zero, List.set_cons_succ]
              refine Go.HL.take_ (i := 1) (oi := { dst := some 40, op := .move (.tmp 6), type := 9, pos := "ref.go:56", after := #[], guard := none }) (v := ?_) rfl (by decide) (by kernel_rfl) (by kernel_rfl) (fun _ _ _ h => h) (Or.inl ⟨by rfl, ?_⟩) (by assumption) ?_
              rotate_left
              · intro w hSw
                (try dsimp only at hSw)
                (go_simp; try (with_reducible rfl))
              try simp only [Act.put, List.setIfInBounds_toArray, List.set_cons_zero, List.set_cons_succ]
              refine Go.HL.take_ (i := 2) (oi := { dst := some 41, op := .move (.tmp 5), type := 5, pos := "ref.go:56", after := #[], guard := none }) (v := ?_) rfl (by decide) (by kernel_rfl) (by kernel_rfl) (fun _ _ _ h => h) (Or.inl ⟨by rfl, ?_⟩) (by assumption) ?_
              rotate_left
              · intro w hSw
                (try dsimp only at hSw)
                (go_simp; try (with_reducible rfl))
              try simp only [Act.put, List.setIfInBounds_toArray, List.set_cons_zero, List.set_cons_succ]
              refine Go.HL.take_ (i := 3) (oi := { dst := some 42, op := .binOp .quo 5 (.tmp 41) (.const (.int .u8 16)) 5, type := 5, pos := "ref.go:56", after := #[{ on := 2, ground := .data }], guard := none }) (v := .int .u8 ((x / 16 : Nat) : Int)) rfl (by decide) (by kernel_rfl) (by kernel_rfl) (fun _ _ _ h => h) (Or.inl ⟨by rfl, ?_⟩) (by assumption) ?_
              · intro w hSw
                (try dsimp only at hSw)
                (go_simp; try (with_reducible rfl))
              try simp only [Act.put, List.setIfInBounds_toArray, List.set_cons_zero, List.set_cons_succ]
              refine Go.HL.take_ (i := 4) (oi := { dst := some 43, op := .move (.tmp 5), type := 5, pos := "ref.go:56", after := #[], guard := none }) (v := ?_) rfl (by decide) (by kernel_rfl) (by kernel_rfl) (fun _ _ _ h => h) (Or.inl ⟨by rfl, ?_⟩) (by assumption) ?_
              rotate_left
              · intro w hSw
                (try dsimp only at hSw)
                (go_simp; try (with_reducible rfl))
              try simp only [Act.put, List.setIfInBounds_toArray, List.set_cons_zero, List.set_cons_succ]
              refine Go.HL.take_ (i := 5) (oi := { dst := some 44, op := .binOp .quo 5 (.tmp 43) (.const (.int .u8 16)) 5, type := 5, pos := "ref.go:56", after := #[{ on := 4, ground := .data }], guard := none }) (v := .int .u8 ((x / 16 : Nat) : Int)) rfl (by decide) (by kernel_rfl) (by kernel_rfl) (fun _ _ _ h => h) (Or.inl ⟨by rfl, ?_⟩) (by assumption) ?_
              · intro w hSw
                (try dsimp only at hSw)
                (go_simp; try (with_reducible rfl))
              try simp only [Act.put, List.setIfInBounds_toArray, List.set_cons_zero, List.set_cons_succ]
              refine Go.HL.take_ (i := 6) (oi := { dst := some 45, op := .binOp .add 5 (.tmp 44) (.const (.int .u8 1)) 5, type := 5, pos := "ref.go:56", after := #[{ on := 5, ground := .data }], guard := none }) (v := .int .u8 ((x / 16 + 1 : Nat) : Int)) rfl (by decide) (by kernel_rfl) (by kernel_rfl) (fun _ _ _ h => h) (Or.inl ⟨by rfl, ?_⟩) (by assumption) ?_
              · intro w hSw
                (try dsimp only at hSw)
                (go_simp; try (with_reducible rfl))
              try simp only [Act.put, List.setIfInBounds_toArray, List.set_cons_zero, List.set_cons_succ]
              refine Go.HL.take_ (i := 7) (oi := { dst := some 46, op := .slice 9 (.tmp 40) (some (.tmp 42)) (some (.tmp 45)) none, type := 9, pos := "ref.go:56", after := #[{ on := 1, ground := .data }, { on := 3, ground := .data }, { on := 6, ground := .data }], guard := none }) (v := .string (bstr [hexd (x / 16)])) rfl (by decide) (by kernel_rfl) (by kernel_rfl) (fun _ _ _ h => h) (Or.inl ⟨by rfl, ?_⟩) (by assumption) ?_
              · intro w hSw
                (try dsimp only at hSw)
                (go_simp; try (with_reducible rfl))
              try simp only [Act.put, List.setIfInBounds_toArray, List.set_cons_zero, List.set_cons_succ]
              refine Go.HL.take_ (i := 8) (oi := { dst := some 47, op := .binOp .add 9 (.const (.string { data := #[92, 120] })) (.tmp 46) 9, type := 9, pos := "ref.go:56", after := #[{ on := 7, ground := .data }], guard := none }) (v := .string S1) rfl (by decide) (by kernel_rfl) (by kernel_rfl) (fun _ _ _ h => h) (Or.inl ⟨by rfl, ?_⟩) (by assumption) ?_
              · intro w hSw
                (try dsimp only at hSw)
                (go_simp; try (with_reducible rfl))
              try simp only [Act.put, List.setIfInBounds_toArray, List.set_cons_zero, List.set_cons_succ]
              refine Go.HL.take_ (i := 9) (oi := { dst := some 48, op := .move (.tmp 6), type := 9, pos := "ref.go:56", after := #[], guard := none }) (v := ?_) rfl (by decide) (by kernel_rfl) (by kernel_rfl) (fun _ _ _ h => h) (Or.inl ⟨by rfl, ?_⟩) (by assumption) ?_
              rotate_left
              · intro w hSw
                (try dsimp only at hSw)
                (go_simp; try (with_reducible rfl))
              try simp only [Act.put, List.setIfInBounds_toArray, List.set_cons_zero, List.set_cons_succ]
              refine Go.HL.take_ (i := 10) (oi := { dst := some 49, op := .move (.tmp 5), type := 5, pos := "ref.go:56", after := #[], guard := none }) (v := ?_) rfl (by decide) (by kernel_rfl) (by kernel_rfl) (fun _ _ _ h => h) (Or.inl ⟨by rfl, ?_⟩) (by assumption) ?_
              rotate_left
              · intro w hSw
                (try dsimp only at hSw)
                (go_simp; try (with_reducible rfl))
              try simp only [Act.put, List.setIfInBounds_toArray, List.set_cons_zero, List.set_cons_succ]
              refine Go.HL.take_ (i := 11) (oi := { dst := some 50, op := .binOp .rem 5 (.tmp 49) (.const (.int .u8 16)) 5, type := 5, pos := "ref.go:56", after := #[{ on := 10, ground := .data }], guard := none }) (v := .int .u8 ((x % 16 : Nat) : Int)) rfl (by decide) (by kernel_rfl) (by kernel_rfl) (fun _ _ _ h => h) (Or.inl ⟨by rfl, ?_⟩) (by assumption) ?_
              · intro w hSw
                (try dsimp only at hSw)
                (go_simp; try (with_reducible rfl))
              try simp only [Act.put, List.setIfInBounds_toArray, List.set_cons_zero, List.set_cons_succ]
              refine Go.HL.take_ (i := 12) (oi := { dst := some 51, op := .move (.tmp 5), type := 5, pos := "ref.go:56", after := #[], guard := none }) (v := ?_) rfl (by decide) (by kernel_rfl) (by kernel_rfl) (fun _ _ _ h => h) (Or.inl ⟨by rfl, ?_⟩) (by assumption) ?_
              rotate_left
              · intro w hSw
                (try dsimp only at hSw)
                (go_simp; try (with_reducible rfl))
              try simp only [Act.put, List.setIfInBounds_toArray, List.set_cons_zero, List.set_cons_succ]
              refine Go.HL.take_ (i := 13) (oi := { dst := some 52, op := .binOp .rem 5 (.tmp 51) (.const (.int .u8 16)) 5, type := 5, pos := "ref.go:56", after := #[{ on := 12, ground := .data }], guard := none }) (v := .int .u8 ((x % 16 : Nat) : Int)) rfl (by decide) (by kernel_rfl) (by kernel_rfl) (fun _ _ _ h => h) (Or.inl ⟨by rfl, ?_⟩) (by assumption) ?_
              · intro w hSw
                (try dsimp only at hSw)
                (go_simp; try (with_reducible rfl))
              try simp only [Act.put, List.setIfInBounds_toArray, List.set_cons_zero, List.set_cons_succ]
              refine Go.HL.take_ (i := 14) (oi := { dst := some 53, op := .binOp .add 5 (.tmp 52) (.const (.int .u8 1)) 5, type := 5, pos := "ref.go:56", after := #[{ on := 13, ground := .data }], guard := none }) (v := .int .u8 ((x % 16 + 1 : Nat) : Int)) rfl (by decide) (by kernel_rfl) (by kernel_rfl) (fun _ _ _ h => h) (Or.inl ⟨by rfl, ?_⟩) (by assumption) ?_
              · intro w hSw
                (try dsimp only at hSw)
                (go_simp; try (with_reducible rfl))
              try simp only [Act.put, List.setIfInBounds_toArray, List.set_cons_zero, List.set_cons_succ]
              refine Go.HL.take_ (i := 15) (oi := { dst := some 54, op := .slice 9 (.tmp 48) (some (.tmp 50)) (some (.tmp 53)) none, type := 9, pos := "ref.go:56", after := #[{ on := 9, ground := .data }, { on := 11, ground := .data }, { on := 14, ground := .data }], guard := none }) (v := .string (bstr [hexd (x % 16)])) rfl (by decide) (by kernel_rfl) (by kernel_rfl) (fun _ _ _ h => h) (Or.inl ⟨by rfl, ?_⟩) (by assumption) ?_
              · intro w hSw
                (try dsimp only at hSw)
                (go_simp; try (with_reducible rfl))
              try simp only [Act.put, List.setIfInBounds_toArray, List.set_cons_zero, List.set_cons_succ]
              refine Go.HL.take_ (i := 16) (oi := { dst := some 55, op := .binOp .add 9 (.tmp 47) (.tmp 54) 9, type := 9, pos := "ref.go:56", after := #[{ on := 8, ground := .data }, { on := 15, ground := .data }], guard := none }) (v := .string S2) rfl (by decide) (by kernel_rfl) (by kernel_rfl) (fun _ _ _ h => h) (Or.inl ⟨by rfl, ?_⟩) (by assumption) ?_
              · intro w hSw
                (try dsimp only at hSw)
                (go_simp; try (with_reducible rfl))
              try simp only [Act.put, List.setIfInBounds_toArray, List.set_cons_zero, List.set_cons_succ]
              refine Go.HL.take_ (i := 17) (oi := { dst := some 56, op := .binOp .add 9 (.tmp 39) (.tmp 55) 9, type := 9, pos := "ref.go:56", after := #[{ on := 0, ground := .data }, { on := 16, ground := .data }], guard := none }) (v := .string T3) rfl (by decide) (by kernel_rfl) (by kernel_rfl) (fun _ _ _ h => h) (Or.inl ⟨by rfl, ?_⟩) (by assumption) ?_
              · intro w hSw
                (try dsimp only at hSw)
                (go_simp; try (with_reducible rfl))
              try simp only [Act.put, List.setIfInBounds_toArray, List.set_cons_zero, List.set_cons_succ]
              refine Go.HL.done_ (by kernel_rfl) ?_
              simp only [List.drop_succ_cons, List.drop_zero]
              clear hHeld
              go_wp2_with fail
              go_roundg (n - (i + 1))
              case measure => have := HK.out; omega
              case rel => exact ⟨i + 1, T3, by go_num, rfl, by omega, rfl, HT3, (show Below w.heap.size w wr.drew from ⟨Bwr.out.os, Bwr.out.tape, Bwr.out.output, Bwr.out.size, Bwr.out.block⟩)⟩
            · go_upto_region 12 with (fail)
              refine wp_region_HL (S := (fun w' => w' = wr.drew)) 18 (by kernel_rfl) (by kernel_rfl) (by kernel_rfl) (by kernel_rfl) (by decide) rfl (fun hHeld => ?_)
              refine Go.HL.take_ (i := 0) (oi := { dst := some 39, op := .move (.tmp 3), type := 9, pos := "ref.go:56", after := #[], guard := none }) (v := ?_) rfl (by decide) (by kernel_rfl) (by kernel_rfl) (fun _ _ _ h => h) (Or.inl ⟨by rfl, ?_⟩) (by assumption) ?_
              rotate_left
              · intro w hSw
                (try dsimp only at hSw)
                (go_simp; try (with_reducible rfl))
              try simp only [Act.put, List.setIfInBounds_toArray, List.set_cons_zero, List.set_cons_succ]
              refine Go.HL.take_ (i := 1) (oi := { dst := some 40, op := .move (.tmp 6), type := 9, pos := "ref.go:56", after := #[], guard := none }) (v := ?_) rfl (by decide) (by kernel_rfl) (by kernel_rfl) (fun _ _ _ h => h) (Or.inl ⟨by rfl, ?_⟩) (by assumption) ?_
              rotate_left
              · intro w hSw
                (try dsimp only at hSw)
                (go_simp; try (with_reducible rfl))
              try simp only [Act.put, List.setIfInBounds_toArray, List.set_cons_zero, List.set_cons_succ]
              refine Go.HL.take_ (i := 2) (oi := { dst := some 41, op := .move (.tmp 5), type := 5, pos := "ref.go:56", after := #[], guard := none }) (v := ?_) rfl (by decide) (by kernel_rfl) (by kernel_rfl) (fun _ _ _ h => h) (Or.inl ⟨by rfl, ?_⟩) (by assumption) ?_
              rotate_left
              · intro w hSw
                (try dsimp only at hSw)
                (go_simp; try (with_reducible rfl))
              try simp only [Act.put, List.setIfInBounds_toArray, List.set_cons_zero, List.set_cons_succ]
              refine Go.HL.take_ (i := 3) (oi := { dst := some 42, op := .binOp .quo 5 (.tmp 41) (.const (.int .u8 16)) 5, type := 5, pos := "ref.go:56", after := #[{ on := 2, ground := .data }], guard := none }) (v := .int .u8 ((x / 16 : Nat) : Int)) rfl (by decide) (by kernel_rfl) (by kernel_rfl) (fun _ _ _ h => h) (Or.inl ⟨by rfl, ?_⟩) (by assumption) ?_
              · intro w hSw
                (try dsimp only at hSw)
                (go_simp; try (with_reducible rfl))
              try simp only [Act.put, List.setIfInBounds_toArray, List.set_cons_zero, List.set_cons_succ]
              refine Go.HL.take_ (i := 4) (oi := { dst := some 43, op := .move (.tmp 5), type := 5, pos := "ref.go:56", after := #[], guard := none }) (v := ?_) rfl (by decide) (by kernel_rfl) (by kernel_rfl) (fun _ _ _ h => h) (Or.inl ⟨by rfl, ?_⟩) (by assumption) ?_
              rotate_left
              · intro w hSw
                (try dsimp only at hSw)
                (go_simp; try (with_reducible rfl))
              try simp only [Act.put, List.setIfInBounds_toArray, List.set_cons_zero, List.set_cons_succ]
              refine Go.HL.take_ (i := 5) (oi := { dst := some 44, op := .binOp .quo 5 (.tmp 43) (.const (.int .u8 16)) 5, type := 5, pos := "ref.go:56", after := #[{ on := 4, ground := .data }], guard := none }) (v := .int .u8 ((x / 16 : Nat) : Int)) rfl (by decide) (by kernel_rfl) (by kernel_rfl) (fun _ _ _ h => h) (Or.inl ⟨by rfl, ?_⟩) (by assumption) ?_
              · intro w hSw
                (try dsimp only at hSw)
                (go_simp; try (with_reducible rfl))
              try simp only [Act.put, List.setIfInBounds_toArray, List.set_cons_zero, List.set_cons_succ]
              refine Go.HL.take_ (i := 6) (oi := { dst := some 45, op := .binOp .add 5 (.tmp 44) (.const (.int .u8 1)) 5, type := 5, pos := "ref.go:56", after := #[{ on := 5, ground := .data }], guard := none }) (v := .int .u8 ((x / 16 + 1 : Nat) : Int)) rfl (by decide) (by kernel_rfl) (by kernel_rfl) (fun _ _ _ h => h) (Or.inl ⟨by rfl, ?_⟩) (by assumption) ?_
              · intro w hSw
                (try dsimp only at hSw)
                (go_simp; try (with_reducible rfl))
              try simp only [Act.put, List.setIfInBounds_toArray, List.set_cons_zero, List.set_cons_succ]
              refine Go.HL.take_ (i := 7) (oi := { dst := some 46, op := .slice 9 (.tmp 40) (some (.tmp 42)) (some (.tmp 45)) none, type := 9, pos := "ref.go:56", after := #[{ on := 1, ground := .data }, { on := 3, ground := .data }, { on := 6, ground := .data }], guard := none }) (v := .string (bstr [hexd (x / 16)])) rfl (by decide) (by kernel_rfl) (by kernel_rfl) (fun _ _ _ h => h) (Or.inl ⟨by rfl, ?_⟩) (by assumption) ?_
              · intro w hSw
                (try dsimp only at hSw)
                (go_simp; try (with_reducible rfl))
              try simp only [Act.put, List.setIfInBounds_toArray, List.set_cons_zero, List.set_cons_succ]
              refine Go.HL.take_ (i := 8) (oi := { dst := some 47, op := .binOp .add 9 (.const (.string { data := #[92, 120] })) (.tmp 46) 9, type := 9, pos := "ref.go:56", after := #[{ on := 7, ground := .data }], guard := none }) (v := .string S1) rfl (by decide) (by kernel_rfl) (by kernel_rfl) (fun _ _ _ h => h) (Or.inl ⟨by rfl, ?_⟩) (by assumption) ?_
              · intro w hSw
                (try dsimp only at hSw)
                (go_simp; try (with_reducible rfl))
              try simp only [Act.put, List.setIfInBounds_toArray, List.set_cons_zero, List.set_cons_succ]
              refine Go.HL.take_ (i := 9) (oi := { dst := some 48, op := .move (.tmp 6), type := 9, pos := "ref.go:56", after := #[], guard := none }) (v := ?_) rfl (by decide) (by kernel_rfl) (by kernel_rfl) (fun _ _ _ h => h) (Or.inl ⟨by rfl, ?_⟩) (by assumption) ?_
              rotate_left
              · intro w hSw
                (try dsimp only at hSw)
                (go_simp; try (with_reducible rfl))
              try simp only [Act.put, List.setIfInBounds_toArray, List.set_cons_zero, List.set_cons_succ]
              refine Go.HL.take_ (i := 10) (oi := { dst := some 49, op := .move (.tmp 5), type := 5, pos := "ref.go:56", after := #[], guard := none }) (v := ?_) rfl (by decide) (by kernel_rfl) (by kernel_rfl) (fun _ _ _ h => h) (Or.inl ⟨by rfl, ?_⟩) (by assumption) ?_
              rotate_left
              · intro w hSw
                (try dsimp only at hSw)
                (go_simp; try (with_reducible rfl))
              try simp only [Act.put, List.setIfInBounds_toArray, List.set_cons_zero, List.set_cons_succ]
              refine Go.HL.take_ (i := 11) (oi := { dst := some 50, op := .binOp .rem 5 (.tmp 49) (.const (.int .u8 16)) 5, type := 5, pos := "ref.go:56", after := #[{ on := 10, ground := .data }], guard := none }) (v := .int .u8 ((x % 16 : Nat) : Int)) rfl (by decide) (by kernel_rfl) (by kernel_rfl) (fun _ _ _ h => h) (Or.inl ⟨by rfl, ?_⟩) (by assumption) ?_
              · intro w hSw
                (try dsimp only at hSw)
                (go_simp; try (with_reducible rfl))
              try simp only [Act.put, List.setIfInBounds_toArray, List.set_cons_zero, List.set_cons_succ]
              refine Go.HL.take_ (i := 12) (oi := { dst := some 51, op := .move (.tmp 5), type := 5, pos := "ref.go:56", after := #[], guard := none }) (v := ?_) rfl (by decide) (by kernel_rfl) (by kernel_rfl) (fun _ _ _ h => h) (Or.inl ⟨by rfl, ?_⟩) (by assumption) ?_
              rotate_left
              · intro w hSw
                (try dsimp only at hSw)
                (go_simp; try (with_reducible rfl))
              try simp only [Act.put, List.setIfInBounds_toArray, List.set_cons_zero, List.set_cons_succ]
              refine Go.HL.take_ (i := 13) (oi := { dst := some 52, op := .binOp .rem 5 (.tmp 51) (.const (.int .u8 16)) 5, type := 5, pos := "ref.go:56", after := #[{ on := 12, ground := .data }], guard := none }) (v := .int .u8 ((x % 16 : Nat) : Int)) rfl (by decide) (by kernel_rfl) (by kernel_rfl) (fun _ _ _ h => h) (Or.inl ⟨by rfl, ?_⟩) (by assumption) ?_
              · intro w hSw
                (try dsimp only at hSw)
                (go_simp; try (with_reducible rfl))
              try simp only [Act.put, List.setIfInBounds_toArray, List.set_cons_zero, List.set_cons_succ]
              refine Go.HL.take_ (i := 14) (oi := { dst := some 53, op := .binOp .add 5 (.tmp 52) (.const (.int .u8 1)) 5, type := 5, pos := "ref.go:56", after := #[{ on := 13, ground := .data }], guard := none }) (v := .int .u8 ((x % 16 + 1 : Nat) : Int)) rfl (by decide) (by kernel_rfl) (by kernel_rfl) (fun _ _ _ h => h) (Or.inl ⟨by rfl, ?_⟩) (by assumption) ?_
              · intro w hSw
                (try dsimp only at hSw)
                (go_simp; try (with_reducible rfl))
              try simp only [Act.put, List.setIfInBounds_toArray, List.set_cons_zero, List.set_cons_succ]
              refine Go.HL.take_ (i := 15) (oi := { dst := some 54, op := .slice 9 (.tmp 48) (some (.tmp 50)) (some (.tmp 53)) none, type := 9, pos := "ref.go:56", after := #[{ on := 9, ground := .data }, { on := 11, ground := .data }, { on := 14, ground := .data }], guard := none }) (v := .string (bstr [hexd (x % 16)])) rfl (by decide) (by kernel_rfl) (by kernel_rfl) (fun _ _ _ h => h) (Or.inl ⟨by rfl, ?_⟩) (by assumption) ?_
              · intro w hSw
                (try dsimp only at hSw)
                (go_simp; try (with_reducible rfl))
              try simp only [Act.put, List.setIfInBounds_toArray, List.set_cons_zero, List.set_cons_succ]
              refine Go.HL.take_ (i := 16) (oi := { dst := some 55, op := .binOp .add 9 (.tmp 47) (.tmp 54) 9, type := 9, pos := "ref.go:56", after := #[{ on := 8, ground := .data }, { on := 15, ground := .data }], guard := none }) (v := .string S2) rfl (by decide) (by kernel_rfl) (by kernel_rfl) (fun _ _ _ h => h) (Or.inl ⟨by rfl, ?_⟩) (by assumption) ?_
              · intro w hSw
                (try dsimp only at hSw)
                (go_simp; try (with_reducible rfl))
              try simp only [Act.put, List.setIfInBounds_toArray, List.set_cons_zero, List.set_cons_succ]
              refine Go.HL.take_ (i := 17) (oi := { dst := some 56, op := .binOp .add 9 (.tmp 39) (.tmp 55) 9, type := 9, pos := "ref.go:56", after := #[{ on := 0, ground := .data }, { on := 16, ground := .data }], guard := none }) (v := .string T3) rfl (by decide) (by kernel_rfl) (by kernel_rfl) (fun _ _ _ h => h) (Or.inl ⟨by rfl, ?_⟩) (by assumption) ?_
              · intro w hSw
                (try dsimp only at hSw)
                (go_simp; try (with_reducible rfl))
              try simp only [Act.put, List.setIfInBounds_toArray, List.set_cons_zero, List.set_cons_succ]
              refine Go.HL.done_ (by kernel_rfl) ?_
              simp only [List.drop_succ_cons, List.drop_zero]
              clear hHeld
              go_wp2_with fail
              go_roundg (n - (i + 1))
              case measure => have := HK.out; omega
              case rel => exact ⟨i + 1, T3, by go_num, rfl, by omega, rfl, HT3, (show Below w.heap.size w wr.drew from ⟨Bwr.out.os, Bwr.out.tape, Bwr.out.output, Bwr.out.size, Bwr.out.block⟩)⟩
          · have hlo : ¬ (x : Int) < 32 := by omega
            have hhi : ¬ (126 : Int) < (x : Int) := by omega
            have HQB : Hid (quoteB x = [x]) := Lib.hid (by unfold quoteB; rw [if_neg HE.out, if_neg ho])
            clear ho
            obtain ⟨T3, hT3⟩ : ∃ T3, T3 = bstr (34 :: (l.take i).flatMap quoteB ++ [x]) := ⟨_, rfl⟩
            have k2 : ∀ W : World, (Op.stringOp .add T (bstr [x])).run Try.prog W = .ok (.string T3) W := by rw [hT3]; exact add_bytes HT.out rfl (by have := HLN.out; simp only [List.length_cons, List.length_nil, List.length_append] at this ⊢; omega)
            have HT3 : Hid (T3 = bstr (34 :: (l.take (i + 1)).flatMap quoteB)) := Lib.hid (by rw [HN.out, HQB.out]; exact hT3)
            clear hT3
            go_wp2_with fail
            go_roundg (n - (i + 1))
            case measure => have := HK.out; omega
            case rel => exact ⟨i + 1, T3, by go_num, rfl, by omega, rfl, HT3, Bwr⟩
      · obtain rfl : n = i := by omega
        have hnn : ¬ (n : Int) < (n : Int) := by omega
        have HQ2 : Hid (34 :: (l.take n).flatMap quoteB ++ [34] = quoteL l) := Lib.hid (by rw [HQ.out, List.take_of_length_le (by rw [HL.out]; exact Nat.le_refl _)])
        obtain ⟨T2, hT2⟩ : ∃ T2, T2 = bstr (34 :: (l.take n).flatMap quoteB ++ [34]) := ⟨_, rfl⟩
        have k1 : ∀ W : World, (Op.stringOp .add T ⟨#[34]⟩).run Try.prog W = .ok (.string T2) W := by rw [hT2]; exact add_bytes HT.out rfl (by have := HLN.out; simp only [List.length_cons, List.length_nil] at this ⊢; omega)
        have HT2 := Lib.hid hT2
        clear hT2
        go_wp2_with fail
        go_ret
        exact ⟨by rw [← HQ2.out, ← HT2.out]; rfl, Bwr.out⟩
end Go.Proofs.Ytjebanfmnfofnaa

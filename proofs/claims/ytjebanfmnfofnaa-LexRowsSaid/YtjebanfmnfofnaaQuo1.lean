/-
  lex.Quote (function 17). No statement of its own.
-/
import Derived.Test.YtjebanfmnfofnaaBare
import Derived.Test.YtjebanfmnfofnaaBld
import Derived.Test.YtjebanfmnfofnaaCom
import Derived.Test.YtjebanfmnfofnaaEscR
import Derived.Laws.BitsLemmas
set_option linter.unusedSimpArgs false
set_option linter.unusedVariables false
namespace Go.Proofs.Ytjebanfmnfofnaa
open Go.RowKit
attribute [-go_sem] run_string_add_if
def quoteB (x : Nat) : List Nat := if x = 34 ∨ x = 92 then [92, x] else if x < 32 ∨ 126 < x then [92, 120, hexd (x / 16), hexd (x % 16)] else [x]
def quoteL (l : List Nat) : List Nat := if bareL l = true then l else 34 :: l.flatMap quoteB ++ [34]
theorem hexd_lt {v : Nat} (h : v < 16) : hexd v < 128 := by
  have := (hexd_ok ⟨v, h⟩)
  have e : ∀ v : Fin 16, hexd v.val < 128 := by decide
  exact e ⟨v, h⟩
theorem quoteB_byte {x : Nat} (hx : x < 256) : (∀ u ∈ quoteB x, u < 256) ∧ (quoteB x).length ≤ 4 := by
  have h1 := hexd_lt (v := x / 16) (by omega)
  have h2 := hexd_lt (v := x % 16) (by omega)
  unfold quoteB
  split
  · exact ⟨fun u hu => by simp at hu; omega, by simp⟩
  · split
    · exact ⟨fun u hu => by simp at hu; omega, by simp⟩
    · exact ⟨fun u hu => by simp at hu; omega, by simp⟩
theorem quotes_byte {l : List Nat} (hb : ∀ u ∈ l, u < 256) : (∀ u ∈ l.flatMap quoteB, u < 256) ∧ (l.flatMap quoteB).length ≤ 4 * l.length := by
  induction l with
  | nil => exact ⟨fun u hu => by simp at hu, by simp⟩
  | cons x r ih =>
    have h1 := quoteB_byte (hb x List.mem_cons_self)
    have h2 := ih (fun u hu => hb u (List.mem_cons_of_mem _ hu))
    rw [List.flatMap_cons]
    refine ⟨fun u hu => ?_, ?_⟩
    · rcases List.mem_append.1 hu with h | h
      · exact h1.1 u h
      · exact h2.1 u h
    · rw [List.length_append, List.length_cons]
      omega
theorem quote_next {l : List Nat} {i x : Nat} (h : l[i]? = some x) : 34 :: (l.take (i + 1)).flatMap quoteB = 34 :: (l.take i).flatMap quoteB ++ quoteB x := by
  rw [List.take_add_one, h, List.flatMap_append]
  simp
theorem quote_len {l : List Nat} (hb : ∀ u ∈ l, u < 256) (i : Nat) : (34 :: (l.take i).flatMap quoteB).length ≤ 4 * l.length + 1 := by
  have h := (quotes_byte (l := l.take i) (fun u hu => hb u (List.mem_of_mem_take hu))).2
  have h2 : (l.take i).length ≤ l.length := by rw [List.length_take]; omega
  rw [List.length_cons]
  omega
theorem hex_at {z : Int} {k : Nat} (hk : k < 16) (hx : z = (k : Nat)) : (∀ h, (hexS[z.toNat]'h).toNat = hexd k) := fun h => hex_get k hk _ (by omega) h
set_option maxRecDepth 20000 in
set_option maxHeartbeats 2000000 in
theorem quote_calls (w : World) (S : ByteArray) (l : List Nat) (hS : S = bstr l) (hb : ∀ u ∈ l, u < 256) (hn : l.length ≤ 4000) :
    Calls Try.prog 17 #[.string S] w fun e w' => e = .returned (.string (bstr (quoteL l))) ∧ Below w.heap.size w w' := by
  have HS := Lib.hid hS
  have HB := Lib.hid hb
  obtain ⟨n, hl⟩ : ∃ n, n = l.length := ⟨_, rfl⟩
  have hsz : S.size = n := by rw [hS, bstr_size, hl]
  have HL := Lib.hid hl.symm
  rw [← hl] at hn
  clear hS hb hl
  cases hbr : bareL l with
  | true =>
    have HBR := Lib.hid hbr
    have HQ : Hid (S = bstr (quoteL l)) := Lib.hid (by unfold quoteL; rw [if_pos hbr]; exact HS.out)
    clear hbr
    go_enter Try.func17, Try.ntmps17
    go_wp2_with fail
    refine (bare_calls w S l HS.out HB.out (by rw [HL.out]; exact hn)).mono ?_
    rw [HBR.out]
    rintro e wl ⟨rfl, rfl⟩
    go_wp2_with fail
    go_ret
    exact ⟨by rw [← HQ.out]; rfl, Below.refl _ _⟩
  | false =>
    have HBR := Lib.hid hbr
    have HQ : Hid (quoteL l = 34 :: l.flatMap quoteB ++ [34]) := Lib.hid (by unfold quoteL; rw [if_neg (by rw [hbr]; decide)])
    clear hbr
    go_enter Try.func17, Try.ntmps17
    go_wp2_with fail
    refine (bare_calls w S l HS.out HB.out (by rw [HL.out]; exact hn)).mono ?_
    rw [HBR.out]
    rintro e wl ⟨rfl, rfl⟩
    obtain ⟨b, hbz⟩ : ∃ b, b = w.heap.size := ⟨_, rfl⟩
    go_upto_region 4 with (fail)
    obtain ⟨W1, hW1⟩ : ∃ W1, W1 = w.alloc (.cells #[.pointer none, .slice none 0 0] 60) := ⟨_, rfl⟩
    have BW1 : Hid (Below w.heap.size w W1) := Lib.hid (by rw [hW1]; exact (Below.refl _ _).alloc (Nat.le_refl _) _)
    have IB : Hid (Lib.IsBuilder 60 5 b b (bytes []) W1) := Lib.hid (builder_new w W1 b b (by rw [hW1, hbz]; exact heap_alloc_new _ _) (Nat.le_refl _))
    have hz1 : b ≤ W1.heap.size := by have := BW1.out.size; omega
    rw [← hW1]
    have HBZ := Lib.hid hbz
    rw [← hbz] at BW1 ⊢
    clear hW1 hbz
    go_wp2_with fail
    refine (writeByte_calls b b [] 34 W1 IB.out (by simp) hz1).mono ?_
    rintro e w2 ⟨rfl, hib, hb2⟩
    have IB2 : Hid (Lib.IsBuilder 60 5 b b (bytes (34 :: (l.take 0).flatMap quoteB)) w2) := Lib.hid hib
    have BW2 := Lib.hid (BW1.out.trans hb2)
    clear hib hb2
    go_wp2_with fail
    go_loopg [12] n (fun gk s12 wr => ∃ i : Nat, s12 = .int .i64 (i : Nat) ∧ i ≤ n ∧ Hid (gk = n - i) ∧ Hid (Lib.IsBuilder 60 5 b b (bytes (34 :: (l.take i).flatMap quoteB)) wr) ∧ Hid (Below b w wr))
    case atStart => exact ⟨0, rfl, Nat.zero_le _, rfl, IB2, BW2⟩
    case round =>
      obtain ⟨i, rfl, hi, HK, IBr, Bwr⟩ := hrel
      have hbr : b ≤ wr.heap.size := by have := Bwr.out.size; have := HBZ.out; omega
      have HLN : Hid ((34 :: (l.take i).flatMap quoteB).length ≤ 20000) := Lib.hid (by have := quote_len HB.out i; rw [HL.out] at this; omega)
      by_cases hlt : i < n
      · have hltI : (i : Int) < (n : Int) := by omega
        obtain ⟨x, hx⟩ : ∃ x, l[i]? = some x := ⟨_, List.getElem?_eq_getElem (by rw [HL.out]; exact hlt)⟩
        have x256 : x < 256 := HB.out x (List.mem_of_getElem? hx)
        obtain ⟨hx1, hx2⟩ := str_at HB.out HS.out hx
        have hi0 : (0 : Int) ≤ (i : Int) := by omega
        have HN := Lib.hid (quote_next hx)
        clear hx
        by_cases he : x = 34 ∨ x = 92
        · have HQB : Hid (quoteB x = [92, x]) := Lib.hid (by unfold quoteB; rw [if_pos he])
          have kc := conv_ascii wr x (by omega) 9 Try.underlying9
          obtain ⟨S1, hS1⟩ : ∃ S1, S1 = bstr ([92] ++ [x]) := ⟨_, rfl⟩
          have k1 : ∀ W : World, (Op.stringOp .add ⟨#[92]⟩ (bstr [x])).run Try.prog W = .ok (.string S1) W := by rw [hS1]; exact add_bytes rfl rfl (by simp)
          have HS1 := Lib.hid hS1
          clear hS1
          have hor : (x : Int) = 34 ∨ (((x : Int) == 34) = false ∧ (x : Int) = 92) := by
            rcases he with h | h
            · exact .inl (by omega)
            · exact .inr ⟨by rw [beq_eq_false_iff_ne]; omega, by omega⟩
          have HX256 := Lib.hid x256
          clear he
          rcases hor with h34 | ⟨k34, h92⟩
          · obtain rfl : x = 34 := by omega
            have k2 : ∀ W : World, (Op.stringOp .add ⟨#[92]⟩ (Utf8.encode 34)).run Try.prog W = .ok (.string S1) W := k1
            clear h34
            go_wp2_with fail
            refine (writeString_calls b b _ [92, 34] S1 wr IBr.out HS1.out (fun u hu => by simp at hu; omega) (by have := HLN.out; simp only [List.length_cons, List.length_nil] at this ⊢; omega) hbr).mono ?_
            rintro e w5 ⟨⟨z, rfl⟩, hib, hb5⟩
            have IB5 : Hid (Lib.IsBuilder 60 5 b b (bytes (34 :: (l.take (i + 1)).flatMap quoteB)) w5) := Lib.hid (by rw [HN.out, HQB.out]; exact hib)
            have BW5 := Lib.hid (Bwr.out.trans hb5)
            clear hib hb5 hx1 hx2 k1 k2 kc
            go_wp2_with fail
            go_roundg (n - (i + 1))
            case measure => have := HK.out; omega
            case rel => exact ⟨i + 1, by go_num, by omega, rfl, IB5, BW5⟩
          · obtain rfl : x = 92 := by omega
            have k2 : ∀ W : World, (Op.stringOp .add ⟨#[92]⟩ (Utf8.encode 92)).run Try.prog W = .ok (.string S1) W := k1
            clear k34 h92
            go_wp2_with fail
            refine (writeString_calls b b _ [92, 92] S1 wr IBr.out HS1.out (fun u hu => by simp at hu; omega) (by have := HLN.out; simp only [List.length_cons, List.length_nil] at this ⊢; omega) hbr).mono ?_
            rintro e w5 ⟨⟨z, rfl⟩, hib, hb5⟩
            have IB5 : Hid (Lib.IsBuilder 60 5 b b (bytes (34 :: (l.take (i + 1)).flatMap quoteB)) w5) := Lib.hid (by rw [HN.out, HQB.out]; exact hib)
            have BW5 := Lib.hid (Bwr.out.trans hb5)
            clear hib hb5 hx1 hx2 k1 k2 kc
            go_wp2_with fail
            go_roundg (n - (i + 1))
            case measure => have := HK.out; omega
            case rel => exact ⟨i + 1, by go_num, by omega, rfl, IB5, BW5⟩
        · have HE := Lib.hid he
          have k34 : ((x : Int) == 34) = false := by rw [beq_eq_false_iff_ne]; omega
          have k92 : ((x : Int) == 92) = false := by rw [beq_eq_false_iff_ne]; omega
          clear he
          by_cases ho : x < 32 ∨ 126 < x
          · have HQB : Hid (quoteB x = [92, 120, hexd (x / 16), hexd (x % 16)]) := Lib.hid (by unfold quoteB; rw [if_neg HE.out, if_pos ho])
            have hd1 := hexd_lt (v := x / 16) (by omega)
            have hd2 := hexd_lt (v := x % 16) (by omega)
            have HBY : Hid (∀ u ∈ [92, 120, hexd (x / 16), hexd (x % 16)], u < 256) := Lib.hid (fun u hu => by simp at hu; omega)
            have kc1 := fun W => conv_ascii W (hexd (x / 16)) hd1 9 Try.underlying9
            have kc2 := fun W => conv_ascii W (hexd (x % 16)) hd2 9 Try.underlying9
            obtain ⟨S1, hS1⟩ : ∃ S1, S1 = bstr ([92, 120] ++ [hexd (x / 16)]) := ⟨_, rfl⟩
            obtain ⟨S2, hS2⟩ : ∃ S2, S2 = bstr (([92, 120] ++ [hexd (x / 16)]) ++ [hexd (x % 16)]) := ⟨_, rfl⟩
            have k1 : ∀ W : World, (Op.stringOp .add ⟨#[92, 120]⟩ (bstr [hexd (x / 16)])).run Try.prog W = .ok (.string S1) W := by rw [hS1]; exact add_bytes rfl rfl (by simp)
            have k2 : ∀ W : World, (Op.stringOp .add S1 (bstr [hexd (x % 16)])).run Try.prog W = .ok (.string S2) W := by rw [hS2]; exact add_bytes hS1 rfl (by simp)
            have HS2 : Hid (S2 = bstr [92, 120, hexd (x / 16), hexd (x % 16)]) := Lib.hid hS2
            have hxx1 := hex_at (z := (x : Int) / 16) (k := x / 16) (by omega) (by omega)
            have hxx2 := hex_at (z := (x : Int) % 16) (k := x % 16) (by omega) (by omega)
            have hor : (x : Int) < 32 ∨ (¬ (x : Int) < 32 ∧ (126 : Int) < (x : Int)) := by omega
            have lt1 : (x : Int) / 16 < 16 := by omega
            have ge1 : 0 ≤ (x : Int) / 16 := by omega
            have lt2 : (x : Int) % 16 < 16 := by omega
            have ge2 : 0 ≤ (x : Int) % 16 := by omega
            have hand : bits .and .u8 (x : Int) 15 = (x : Int) % 16 := u8_and15 (x := (x : Int)) (by omega) (by omega)
            clear hS1 hS2 ho
            rcases hor with hlo | ⟨hlo, hhi⟩
            · go_upto_region 13 with (fail)
              refine wp_region_HL (S := (fun w' => w' = wr.drew)) 10 (by kernel_rfl) (by kernel_rfl) (by kernel_rfl) (by kernel_rfl) (by decide) rfl (fun hHeld => ?_)
              refine Go.HL.take_ (i := 0) (oi := { dst := some 38, op := .move (.tmp 5), type := 5, pos := "lex.go:80", after := #[], guard := none }) (v := ?_) rfl (by decide) (by kernel_rfl) (by kernel_rfl) (fun _ _ _ h => h) (Or.inl ⟨by rfl, ?_⟩) (by assumption) ?_
              rotate_left
              · intro w hSw
                (try dsimp only at hSw)
                (go_simp; try (with_reducible rfl))
              try simp only [Act.put, List.setIfInBounds_toArray, List.set_cons_zero, List.set_cons_succ]
              refine Go.HL.take_ (i := 1) (oi := { dst := some 39, op := .binOp .shr 5 (.tmp 38) (.const (.int .u64 4)) 66, type := 5, pos := "lex.go:80", after := #[{ on := 0, ground := .data }], guard := none }) (v := .int .u8 ((x / 16 : Nat) : Int)) rfl (by decide) (by kernel_rfl) (by kernel_rfl) (fun _ _ _ h => h) (Or.inl ⟨by rfl, ?_⟩) (by assumption) ?_
              · intro w hSw
                (try dsimp only at hSw)
                (go_simp; try (with_reducible rfl))
              try simp only [Act.put, List.setIfInBounds_toArray, List.set_cons_zero, List.set_cons_succ]
              refine Go.HL.take_ (i := 2) (oi := { dst := some 40, op := .index 9 (.const (.string { data := #[48, 49, 50, 51, 52, 53, 54, 55, 56, 57, 97, 98, 99, 100, 101, 102] })) (.tmp 39), type := 5, pos := "lex.go:80", after := #[{ on := 1, ground := .data }], guard := none }) (v := .int .u8 (hexd (x / 16) : Nat)) rfl (by decide) (by kernel_rfl) (by kernel_rfl) (fun _ _ _ h => h) (Or.inl ⟨by rfl, ?_⟩) (by assumption) ?_
              · intro w hSw
                (try dsimp only at hSw)
                (go_simp; try (with_reducible rfl))
              try simp only [Act.put, List.setIfInBounds_toArray, List.set_cons_zero, List.set_cons_succ]
              refine Go.HL.take_ (i := 3) (oi := { dst := some 41, op := .convert 5 9 (.tmp 40), type := 9, pos := "lex.go:80", after := #[{ on := 2, ground := .data }], guard := none }) (v := .string (bstr [hexd (x / 16)])) rfl (by decide) (by kernel_rfl) (by kernel_rfl) (fun _ _ _ h => h) (Or.inl ⟨by rfl, ?_⟩) (by assumption) ?_
              · intro w hSw
                (try dsimp only at hSw)
                (go_simp; try exact kc1 w)
              try simp only [Act.put, List.setIfInBounds_toArray, List.set_cons_zero, List.set_cons_succ]
              refine Go.HL.take_ (i := 4) (oi := { dst := some 42, op := .binOp .add 9 (.const (.string { data := #[92, 120] })) (.tmp 41) 9, type := 9, pos := "lex.go:80", after := #[{ on := 3, ground := .data }], guard := none }) (v := .string S1) rfl (by decide) (by kernel_rfl) (by kernel_rfl) (fun _ _ _ h => h) (Or.inl ⟨by rfl, ?_⟩) (by assumption) ?_
              · intro w hSw
                (try dsimp only at hSw)
                (go_simp; try (with_reducible rfl))
              try simp only [Act.put, List.setIfInBounds_toArray, List.set_cons_zero, List.set_cons_succ]
              refine Go.HL.take_ (i := 5) (oi := { dst := some 43, op := .move (.tmp 5), type := 5, pos := "lex.go:80", after := #[], guard := none }) (v := ?_) rfl (by decide) (by kernel_rfl) (by kernel_rfl) (fun _ _ _ h => h) (Or.inl ⟨by rfl, ?_⟩) (by assumption) ?_
              rotate_left
              · intro w hSw
                (try dsimp only at hSw)
                (go_simp; try (with_reducible rfl))
              try simp only [Act.put, List.setIfInBounds_toArray, List.set_cons_zero, List.set_cons_succ]
              refine Go.HL.take_ (i := 6) (oi := { dst := some 44, op := .binOp .and 5 (.tmp 43) (.const (.int .u8 15)) 5, type := 5, pos := "lex.go:80", after := #[{ on := 5, ground := .data }], guard := none }) (v := .int .u8 ((x % 16 : Nat) : Int)) rfl (by decide) (by kernel_rfl) (by kernel_rfl) (fun _ _ _ h => h) (Or.inl ⟨by rfl, ?_⟩) (by assumption) ?_
              · intro w hSw
                (try dsimp only at hSw)
                (go_simp; try (with_reducible rfl))
              try simp only [Act.put, List.setIfInBounds_toArray, List.set_cons_zero, List.set_cons_succ]
              refine Go.HL.take_ (i := 7) (oi := { dst := some 45, op := .index 9 (.const (.string { data := #[48, 49, 50, 51, 52, 53, 54, 55, 56, 57, 97, 98, 99, 100, 101, 102] })) (.tmp 44), type := 5, pos := "lex.go:80", after := #[{ on := 6, ground := .data }], guard := none }) (v := .int .u8 (hexd (x % 16) : Nat)) rfl (by decide) (by kernel_rfl) (by kernel_rfl) (fun _ _ _ h => h) (Or.inl ⟨by rfl, ?_⟩) (by assumption) ?_
              · intro w hSw
                (try dsimp only at hSw)
                (go_simp; try (with_reducible rfl))
              try simp only [Act.put, List.setIfInBounds_toArray, List.set_cons_zero, List.set_cons_succ]
              refine Go.HL.take_ (i := 8) (oi := { dst := some 46, op := .convert 5 9 (.tmp 45), type := 9, pos := "lex.go:80", after := #[{ on := 7, ground := .data }], guard := none }) (v := .string (bstr [hexd (x % 16)])) rfl (by decide) (by kernel_rfl) (by kernel_rfl) (fun _ _ _ h => h) (Or.inl ⟨by rfl, ?_⟩) (by assumption) ?_
              · intro w hSw
                (try dsimp only at hSw)
                (go_simp; try exact kc2 w)
              try simp only [Act.put, List.setIfInBounds_toArray, List.set_cons_zero, List.set_cons_succ]
              refine Go.HL.take_ (i := 9) (oi := { dst := some 47, op := .binOp .add 9 (.tmp 42) (.tmp 46) 9, type := 9, pos := "lex.go:80", after := #[{ on := 4, ground := .data }, { on := 8, ground := .data }], guard := none }) (v := .string S2) rfl (by decide) (by kernel_rfl) (by kernel_rfl) (fun _ _ _ h => h) (Or.inl ⟨by rfl, ?_⟩) (by assumption) ?_
              · intro w hSw
                (try dsimp only at hSw)
                (go_simp; try (with_reducible rfl))
              try simp only [Act.put, List.setIfInBounds_toArray, List.set_cons_zero, List.set_cons_succ]
              refine Go.HL.done_ (by kernel_rfl) ?_
              simp only [List.drop_succ_cons, List.drop_zero]
              clear hHeld
              go_wp2_with fail
              refine (writeString_calls b b _ [92, 120, hexd (x / 16), hexd (x % 16)] S2 wr.drew IBr.out HS2.out HBY.out (by have := HLN.out; simp only [List.length_cons, List.length_nil] at this ⊢; omega) hbr).mono ?_
              rintro e w5 ⟨⟨z, rfl⟩, hib, hb5⟩
              have IB5 : Hid (Lib.IsBuilder 60 5 b b (bytes (34 :: (l.take (i + 1)).flatMap quoteB)) w5) := Lib.hid (by rw [HN.out, HQB.out]; exact hib)
              have BW5 : Hid (Below b w w5) := Lib.hid ((show Below b w wr.drew from ⟨Bwr.out.os, Bwr.out.tape, Bwr.out.output, Bwr.out.size, Bwr.out.block⟩).trans hb5)
              clear hib hb5 hx1 hx2 k1 k2 kc1 kc2 hxx1 hxx2
              go_wp2_with fail
              go_roundg (n - (i + 1))
              case measure => have := HK.out; omega
              case rel => exact ⟨i + 1, by go_num, by omega, rfl, IB5, BW5⟩
            · go_upto_region 13 with (fail)
              refine wp_region_HL (S := (fun w' => w' = wr.drew)) 10 (by kernel_rfl) (by kernel_rfl) (by kernel_rfl) (by kernel_rfl) (by decide) rfl (fun hHeld => ?_)
              refine Go.HL.take_ (i := 0) (oi := { dst := some 38, op := .move (.tmp 5), type := 5, pos := "lex.go:80", after := #[], guard := none }) (v := ?_) rfl (by decide) (by kernel_rfl) (by kernel_rfl) (fun _ _ _ h => h) (Or.inl ⟨by rfl, ?_⟩) (by assumption) ?_
              rotate_left
              · intro w hSw
                (try dsimp only at hSw)
                (go_simp; try (with_reducible rfl))
              try simp only [Act.put, List.setIfInBounds_toArray, List.set_cons_zero, List.set_cons_succ]
              refine Go.HL.take_ (i := 1) (oi := { dst := some 39, op := .binOp .shr 5 (.tmp 38) (.const (.int .u64 4)) 66, type := 5, pos := "lex.go:80", after := #[{ on := 0, ground := .data }], guard := none }) (v := .int .u8 ((x / 16 : Nat) : Int)) rfl (by decide) (by kernel_rfl) (by kernel_rfl) (fun _ _ _ h => h) (Or.inl ⟨by rfl, ?_⟩) (by assumption) ?_
              · intro w hSw
                (try dsimp only at hSw)
                (go_simp; try (with_reducible rfl))
              try simp only [Act.put, List.setIfInBounds_toArray, List.set_cons_zero, List.set_cons_succ]
              refine Go.HL.take_ (i := 2) (oi := { dst := some 40, op := .index 9 (.const (.string { data := #[48, 49, 50, 51, 52, 53, 54, 55, 56, 57, 97, 98, 99, 100, 101, 102] })) (.tmp 39), type := 5, pos := "lex.go:80", after := #[{ on := 1, ground := .data }], guard := none }) (v := .int .u8 (hexd (x / 16) : Nat)) rfl (by decide) (by kernel_rfl) (by kernel_rfl) (fun _ _ _ h => h) (Or.inl ⟨by rfl, ?_⟩) (by assumption) ?_
              · intro w hSw
                (try dsimp only at hSw)
                (go_simp; try (with_reducible rfl))
              try simp only [Act.put, List.setIfInBounds_toArray, List.set_cons_zero, List.set_cons_succ]
              refine Go.HL.take_ (i := 3) (oi := { dst := some 41, op := .convert 5 9 (.tmp 40), type := 9, pos := "lex.go:80", after := #[{ on := 2, ground := .data }], guard := none }) (v := .string (bstr [hexd (x / 16)])) rfl (by decide) (by kernel_rfl) (by kernel_rfl) (fun _ _ _ h => h) (Or.inl ⟨by rfl, ?_⟩) (by assumption) ?_
              · intro w hSw
                (try dsimp only at hSw)
                (go_simp; try exact kc1 w)
              try simp only [Act.put, List.setIfInBounds_toArray, List.set_cons_zero, List.set_cons_succ]
              refine Go.HL.take_ (i := 4) (oi := { dst := some 42, op := .binOp .add 9 (.const (.string { data := #[92, 120] })) (.tmp 41) 9, type := 9, pos := "lex.go:80", after := #[{ on := 3, ground := .data }], guard := none }) (v := .string S1) rfl (by decide) (by kernel_rfl) (by kernel_rfl) (fun _ _ _ h => h) (Or.inl ⟨by rfl, ?_⟩) (by assumption) ?_
              · intro w hSw
                (try dsimp only at hSw)
                (go_simp; try (with_reducible rfl))
              try simp only [Act.put, List.setIfInBounds_toArray, List.set_cons_zero, List.set_cons_succ]
              refine Go.HL.take_ (i := 5) (oi := { dst := some 43, op := .move (.tmp 5), type := 5, pos := "lex.go:80", after := #[], guard := none }) (v := ?_) rfl (by decide) (by kernel_rfl) (by kernel_rfl) (fun _ _ _ h => h) (Or.inl ⟨by rfl, ?_⟩) (by assumption) ?_
              rotate_left
              · intro w hSw
                (try dsimp only at hSw)
                (go_simp; try (with_reducible rfl))
              try simp only [Act.put, List.setIfInBounds_toArray, List.set_cons_zero, List.set_cons_succ]
              refine Go.HL.take_ (i := 6) (oi := { dst := some 44, op := .binOp .and 5 (.tmp 43) (.const (.int .u8 15)) 5, type := 5, pos := "lex.go:80", after := #[{ on := 5, ground := .data }], guard := none }) (v := .int .u8 ((x % 16 : Nat) : Int)) rfl (by decide) (by kernel_rfl) (by kernel_rfl) (fun _ _ _ h => h) (Or.inl ⟨by rfl, ?_⟩) (by assumption) ?_
              · intro w hSw
                (try dsimp only at hSw)
                (go_simp; try (with_reducible rfl))
              try simp only [Act.put, List.setIfInBounds_toArray, List.set_cons_zero, List.set_cons_succ]
              refine Go.HL.take_ (i := 7) (oi := { dst := some 45, op := .index 9 (.const (.string { data := #[48, 49, 50, 51, 52, 53, 54, 55, 56, 57, 97, 98, 99, 100, 101, 102] })) (.tmp 44), type := 5, pos := "lex.go:80", after := #[{ on := 6, ground := .data }], guard := none }) (v := .int .u8 (hexd (x % 16) : Nat)) rfl (by decide) (by kernel_rfl) (by kernel_rfl) (fun _ _ _ h => h) (Or.inl ⟨by rfl, ?_⟩) (by assumption) ?_
              · intro w hSw
                (try dsimp only at hSw)
                (go_simp; try (with_reducible rfl))
              try simp only [Act.put, List.setIfInBounds_toArray, List.set_cons_zero, List.set_cons_succ]
              refine Go.HL.take_ (i := 8) (oi := { dst := some 46, op := .convert 5 9 (.tmp 45), type := 9, pos := "lex.go:80", after := #[{ on := 7, ground := .data }], guard := none }) (v := .string (bstr [hexd (x % 16)])) rfl (by decide) (by kernel_rfl) (by kernel_rfl) (fun _ _ _ h => h) (Or.inl ⟨by rfl, ?_⟩) (by assumption) ?_
              · intro w hSw
                (try dsimp only at hSw)
                (go_simp; try exact kc2 w)
              try simp only [Act.put, List.setIfInBounds_toArray, List.set_cons_zero, List.set_cons_succ]
              refine Go.HL.take_ (i := 9) (oi := { dst := some 47, op := .binOp .add 9 (.tmp 42) (.tmp 46) 9, type := 9, pos := "lex.go:80", after := #[{ on := 4, ground := .data }, { on := 8, ground := .data }], guard := none }) (v := .string S2) rfl (by decide) (by kernel_rfl) (by kernel_rfl) (fun _ _ _ h => h) (Or.inl ⟨by rfl, ?_⟩) (by assumption) ?_
              · intro w hSw
                (try dsimp only at hSw)
                (go_simp; try (with_reducible rfl))
              try simp only [Act.put, List.setIfInBounds_toArray, List.set_cons_zero, List.set_cons_succ]
              refine Go.HL.done_ (by kernel_rfl) ?_
              simp only [List.drop_succ_cons, List.drop_zero]
              clear hHeld
              go_wp2_with fail
              refine (writeString_calls b b _ [92, 120, hexd (x / 16), hexd (x % 16)] S2 wr.drew IBr.out HS2.out HBY.out (by have := HLN.out; simp only [List.length_cons, List.length_nil] at this ⊢; omega) hbr).mono ?_
              rintro e w5 ⟨⟨z, rfl⟩, hib, hb5⟩
              have IB5 : Hid (Lib.IsBuilder 60 5 b b (bytes (34 :: (l.take (i + 1)).flatMap quoteB)) w5) := Lib.hid (by rw [HN.out, HQB.out]; exact hib)
              have BW5 : Hid (Below b w w5) := Lib.hid ((show Below b w wr.drew from ⟨Bwr.out.os, Bwr.out.tape, Bwr.out.output, Bwr.out.size, Bwr.out.block⟩).trans hb5)
              clear hib hb5 hx1 hx2 k1 k2 kc1 kc2 hxx1 hxx2
              go_wp2_with fail
              go_roundg (n - (i + 1))
              case measure => have := HK.out; omega
              case rel => exact ⟨i + 1, by go_num, by omega, rfl, IB5, BW5⟩
          · have hlo : ¬ (x : Int) < 32 := by omega
            have hhi : ¬ (126 : Int) < (x : Int) := by omega
            have HQB : Hid (quoteB x = [x]) := Lib.hid (by unfold quoteB; rw [if_neg HE.out, if_neg ho])
            clear ho
            go_wp2_with fail
            refine (writeByte_calls b b _ x wr IBr.out (by have := HLN.out; omega) hbr).mono ?_
            rintro e w5 ⟨rfl, hib, hb5⟩
            have IB5 : Hid (Lib.IsBuilder 60 5 b b (bytes (34 :: (l.take (i + 1)).flatMap quoteB)) w5) := Lib.hid (by rw [HN.out, HQB.out]; exact hib)
            have BW5 := Lib.hid (Bwr.out.trans hb5)
            clear hib hb5 hx1 hx2
            go_wp2_with fail
            go_roundg (n - (i + 1))
            case measure => have := HK.out; omega
            case rel => exact ⟨i + 1, by go_num, by omega, rfl, IB5, BW5⟩
      · obtain rfl : n = i := by omega
        have hnn : ¬ (n : Int) < (n : Int) := by omega
        have HQ2 : Hid (34 :: (l.take n).flatMap quoteB ++ [34] = quoteL l) := Lib.hid (by rw [HQ.out, List.take_of_length_le (by rw [HL.out]; exact Nat.le_refl _)])
        have HQB : Hid (∀ u ∈ quoteL l, u < 256) := Lib.hid (fun u hu => by
          rw [HQ.out] at hu
          rcases List.mem_append.1 hu with h | h
          · rcases List.mem_cons.1 h with rfl | h
            · decide
            · exact (quotes_byte HB.out).1 u h
          · rw [List.mem_singleton] at h; omega)
        go_wp2_with fail
        refine (writeByte_calls b b _ 34 wr IBr.out (by have := HLN.out; omega) hbr).mono ?_
        rintro e w5 ⟨rfl, hib, hb5⟩
        have IB5 : Hid (Lib.IsBuilder 60 5 b b (bytes (quoteL l)) w5) := Lib.hid (by rw [← HQ2.out]; exact hib)
        have BW5 := Lib.hid (Bwr.out.trans hb5)
        clear hib hb5
        go_wp2_with fail
        refine (string_calls b b (quoteL l) w5 IB5.out HQB.out (by have := BW5.out.size; have := HBZ.out; omega)).mono ?_
        rintro e w6 ⟨rfl, hb6⟩
        have BW6 : Hid (Below w.heap.size w w6) := Lib.hid (by rw [← HBZ.out]; exact BW5.out.trans hb6)
        clear hb6
        go_wp2_with fail
        go_ret
        exact ⟨rfl, BW6.out⟩
end Go.Proofs.Ytjebanfmnfofnaa

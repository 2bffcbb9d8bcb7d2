/-
  LexEscapes (function 5): each byte, told by its number; what isn't told so.
-/
import Derived.Test.YtjebanfmnfofnaaEscR
import Derived.Deep.CutRange
set_option linter.unusedSimpArgs false
set_option linter.unusedVariables false
namespace Go.Proofs.Ytjebanfmnfofnaa
open Go.RowKit
/-- What a lexer's Next hands back, whatever it is. -/
theorem nexted_any {w w' : World} {g n c : Nat} {a : Option Addr} {P : List Nat} {e : Ending} (h : Nexted w g a n c P (nextM P 0) e w') : ∃ (x y : Nat) (s : ByteArray) (z at_ f : Int), e = .returned (.tuple #[.agg #[.int .u8 (x : Nat), .int .u8 (y : Nat), .string s, .int .i64 z], .int .i64 at_, .int .i64 f]) ∧ w.grownBy w' (some g) ∧ (nextM P 0 = .error 3 → at_ = 3 ∧ f = 7) := by
  cases hn : nextM P 0 with
  | ok r =>
    rw [hn] at h
    obtain ⟨t, k⟩ := r
    exact ⟨_, _, _, _, _, _, h.1, h.2.2.2, fun e => by cases e⟩
  | error k =>
    rw [hn] at h
    exact ⟨0, 0, ⟨#[]⟩, 0, k, 7, h.1, h.2.2, fun e => by injection e with e; subst e; exact ⟨rfl, rfl⟩⟩
theorem badQ_reads {w : World} {a b : Nat} (ha : a < 256) (hb : b < 256) : ReadsU (w.alloc (.cells #[.int .u8 36, .int .u8 34, .int .u8 122, .int .u8 92, .int .u8 (a : Nat), .int .u8 (b : Nat), .int .u8 49, .int .u8 34] 5)) (some ⟨w.heap.size, 0, none⟩) 8 (badQ a b) :=
  ⟨rfl, fun u hu => by simp [badQ] at hu; omega, fun _ => ⟨w.heap.size, 0, rfl, fun j u hu => by
    rw [blk_cell (heap_alloc_new w _), Nat.zero_add]
    match j, hu with
    | 0, hu => injection hu with hu; subst hu; rfl
    | 1, hu => injection hu with hu; subst hu; rfl
    | 2, hu => injection hu with hu; subst hu; rfl
    | 3, hu => injection hu with hu; subst hu; rfl
    | 4, hu => injection hu with hu; subst hu; rfl
    | 5, hu => injection hu with hu; subst hu; rfl
    | 6, hu => injection hu with hu; subst hu; rfl
    | 7, hu => injection hu with hu; subst hu; rfl⟩⟩
set_option maxRecDepth 20000 in
set_option maxHeartbeats 1000000 in
theorem lexEscapes_walk (w : World) (c a b : Nat) (ml : Int) (hml : w.cell? ⟨0, 0, none⟩ = some (.int .i64 ml)) (hc : c < 256) (ha : a < 256) (hb : b < 256) :
    Calls Try.prog 5 #[.int .u8 (c : Nat), .int .u8 (a : Nat), .int .u8 (b : Nat)] w (Yes w) := by
  have HML := Lib.hid hml
  clear hml
  go_enter Try.func5, Try.ntmps5
  go_upto_region 2 with (fail)
  refine escReg HML.out hc ⟨fun dst _ _ _ _ h => by cases dst <;> exact h, fun r W t24 t25 t26 t27 t28 t29 t30 t15 t31 t32 t33 hr hz hS => ?_⟩
  have HZ := Lib.hid hz
  have HS := Lib.hid hS
  have hr0 : r < W.heap.size := blk_lt hz
  clear hz hS
  go_wp2_with fail
  refine (new_calls _ _ _ _).mono ?_
  rintro e w2 ⟨rfl, rfl⟩
  go_wp2_with fail
  have hb2 : Below W.heap.size W ((W.alloc (.cells #[.int .u8 36, .int .u8 34, .int .u8 122, .int .u8 92, .int .u8 (a : Nat), .int .u8 (b : Nat), .int .u8 49, .int .u8 34] 5)).alloc (.cells #[.slice (some ⟨W.heap.size, 0, none⟩) 8 8, .int .i64 0] 51)) := ((Below.refl _ _).alloc (Nat.le_refl _) _).alloc (by simp) _
  have hR := badQ_reads (w := W) ha hb
  have hL := Lx.fresh (c := 8) hR.1 (by decide) (by decide) hR.2.1 hR.2.2
  simp only [World.size_alloc] at hL
  refine (next_calls _ (W.heap.size + 1) 8 8 0 _ (badQ a b) ml hL (by omega) (ml_below (ml_below HML.out HS.out) hb2)).mono ?_
  intro e w3 hN
  obtain ⟨x, y, s, z, at_, f, rfl, hg, hat⟩ := nexted_any hN
  have hb3 : Below W.heap.size W w3 := below_grown hb2 (by omega) hg
  have HB3 := Lib.hid (HS.out.trans (hb3.mono HS.out.size))
  have HZ3 := Lib.hid (blk_below HZ.out hb3)
  have HAT := Lib.hid hat
  clear hN hg hat hb3 hb2 hR hL
  obtain ⟨w4, hw4⟩ : ∃ w4, w4 = w3.alloc (.cells #[.int .u8 (x : Nat), .int .u8 (y : Nat), .string s, .int .i64 z] 30) := ⟨_, rfl⟩
  have hb4 : Below w3.heap.size w3 w4 := by rw [hw4]; exact (Below.refl _ _).alloc (Nat.le_refl _) _
  have HB4 := Lib.hid (HB3.out.trans (hb4.mono HB3.out.size))
  have HZ4 := Lib.hid (blk_below HZ3.out hb4)
  go_upto_region 4 with (fail)
  rw [← hw4]
  clear hw4 hb4
  go_cut [14] from 43 to 68 (fun s14 wx => s14 = .bool (right a b) ∧ wx = w4)
  case first =>
    by_cases h34 : a = 34
    · subst h34
      go_wp2_with fail
      go_meet
      case rel => exact ⟨rfl, rfl⟩
    · have k34 : ((a : Int) == 34) = false := by rw [beq_eq_false_iff_ne]; omega
      by_cases h92 : a = 92
      · subst h92
        go_wp2_with fail
        go_meet
        case rel => exact ⟨rfl, rfl⟩
      · have k92 : ((a : Int) == 92) = false := by rw [beq_eq_false_iff_ne]; omega
        by_cases h120 : a = 120
        · subst h120
          by_cases h48 : 48 ≤ b
          · have k48 : (48 : Int) ≤ (b : Int) := by omega
            by_cases h57 : b ≤ 57
            · have k57 : (b : Int) ≤ 57 := by omega
              have HE : Hid (right 120 b = true) := Lib.hid (by simp [right, isHex, isDigit, h48, h57])
              clear h34 h92
              go_wp2_with fail
              go_meet
              case rel => exact ⟨by rw [HE.out], rfl⟩
            · have k57 : ¬ (b : Int) ≤ 57 := by omega
              by_cases h97 : 97 ≤ b
              · have k97 : (97 : Int) ≤ (b : Int) := by omega
                by_cases h102 : b ≤ 102
                · have k102 : (b : Int) ≤ 102 := by omega
                  have HE : Hid (right 120 b = true) := Lib.hid (by simp [right, isHex, isDigit, h48, h57, h97, h102])
                  clear h34 h92
                  go_wp2_with fail
                  go_meet
                  case rel => exact ⟨by rw [HE.out], rfl⟩
                · have k102 : ¬ (b : Int) ≤ 102 := by omega
                  have HE : Hid (right 120 b = false) := Lib.hid (by simp [right, isHex, isDigit, h48, h57, h97, h102])
                  clear h34 h92
                  go_wp2_with fail
                  go_meet
                  case rel => exact ⟨by rw [HE.out], rfl⟩
              · have k97 : ¬ (97 : Int) ≤ (b : Int) := by omega
                have HE : Hid (right 120 b = false) := Lib.hid (by simp [right, isHex, isDigit, h48, h57, h97])
                clear h34 h92
                go_wp2_with fail
                go_meet
                case rel => exact ⟨by rw [HE.out], rfl⟩
          · have k48 : ¬ (48 : Int) ≤ (b : Int) := by omega
            have k97 : ¬ (97 : Int) ≤ (b : Int) := by omega
            have HE : Hid (right 120 b = false) := Lib.hid (by simp [right, isHex, isDigit, h48]; omega)
            clear h34 h92
            go_wp2_with fail
            go_meet
            case rel => exact ⟨by rw [HE.out], rfl⟩
        · have k120 : ((a : Int) == 120) = false := by rw [beq_eq_false_iff_ne]; omega
          have HE : Hid (right a b = false) := Lib.hid (by simp [right, h34, h92, h120])
          clear h34 h92 h120
          go_wp2_with fail
          go_meet
          case rel => exact ⟨by rw [HE.out], rfl⟩
  case rest =>
    obtain ⟨rfl, rfl⟩ := hcut
    have HR : Hid (right a b = false → at_ = 3 ∧ f = 7) := Lib.hid (fun e => HAT.out (badQ_next a b e))
    obtain ⟨S, hS⟩ : ∃ S, S = bstr [c] := ⟨_, rfl⟩
    have kc : ∀ W : World, (convert 22 9 (.slice (some ⟨W.heap.size, 0, none⟩) 1 1)).run Try.prog (W.alloc (.cells #[.int .u8 (c : Nat)] 5)) = .ok (.string S) (W.alloc (.cells #[.int .u8 (c : Nat)] 5)) := fun W => by
      rw [hS]
      refine conv_came (P := [c]) ⟨rfl, fun u hu => by rw [List.mem_singleton] at hu; omega, fun _ => ⟨W.heap.size, 0, rfl, fun j u hu => ?_⟩⟩ 9 Try.underlying9
      rw [blk_cell (heap_alloc_new W _), Nat.zero_add]
      match j, hu with
      | 0, hu => injection hu with hu; subst hu; rfl
    have hz4 := HZ4.out
    rw [← hS] at hz4
    have HZ5 := Lib.hid hz4
    clear hS hz4 HZ4
    have fin : ∀ w6, Below wc.heap.size wc w6 → Below w.heap.size w w6 ∧ w6.heap[r]? = some (.cells #[.int .u8 2, .int .u8 36, .string S, .int .i64 0] 30) := fun w6 h => ⟨HB4.out.trans (h.mono HB4.out.size), blk_below HZ5.out h⟩
    have FIN := Lib.hid fin
    clear fin
    have HM4 := Lib.hid (ml_below HML.out HB4.out)
    cases hr : right a b with
    | true =>
      clear hr
      go_wp2_with fail
      refine (awake_calls _ ml HM4.out).mono ?_
      rintro e w6 ⟨rfl, hb6⟩
      have HF := Lib.hid (FIN.out w6 hb6)
      obtain ⟨c6, f6, z6⟩ := blk3 HF.out.2
      clear hb6
      go_wp2_with fail
      go_ret
      exact ⟨rfl, HF.out.1.alloc HF.out.1.size _⟩
    | false =>
      obtain ⟨rfl, rfl⟩ := HR.out hr
      clear hr
      go_wp2_with fail
      refine (awake_calls _ ml HM4.out).mono ?_
      rintro e w6 ⟨rfl, hb6⟩
      have HF := Lib.hid (FIN.out w6 hb6)
      obtain ⟨c6, f6, z6⟩ := blk3 HF.out.2
      clear hb6
      go_wp2_with fail
      go_ret
      exact ⟨rfl, HF.out.1.alloc HF.out.1.size _⟩
end Go.Proofs.Ytjebanfmnfofnaa

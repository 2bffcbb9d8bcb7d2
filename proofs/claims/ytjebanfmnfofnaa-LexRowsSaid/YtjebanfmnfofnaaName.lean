/-
  (*Lexer).name (function 24): a name behind its mark.
-/
import Derived.Test.YtjebanfmnfofnaaQuoted
import Derived.Deep.CutRange
set_option linter.unusedSimpArgs false
set_option linter.unusedVariables false
namespace Go.Proofs.Ytjebanfmnfofnaa
open Go.RowKit
theorem letter_yes (w : World) (c : Nat) (hc : c < 256) (h : isLetter c = true) : Calls Try.prog 28 #[.int .u8 c] w fun e w' => e = .returned (.bool true) ∧ w = w' := by have := letter_calls w c hc; rwa [h] at this
theorem letter_no (w : World) (c : Nat) (hc : c < 256) (h : isLetter c = false) : Calls Try.prog 28 #[.int .u8 c] w fun e w' => e = .returned (.bool false) ∧ w = w' := by have := letter_calls w c hc; rwa [h] at this
theorem digit_yes (w : World) (c : Nat) (hc : c < 256) (h : isDigit c = true) : Calls Try.prog 29 #[.int .u8 c] w fun e w' => e = .returned (.bool true) ∧ w = w' := by have := digit_calls w c hc; rwa [h] at this
theorem digit_no (w : World) (c : Nat) (hc : c < 256) (h : isDigit c = false) : Calls Try.prog 29 #[.int .u8 c] w fun e w' => e = .returned (.bool false) ∧ w = w' := by have := digit_calls w c hc; rwa [h] at this
theorem letter_nameC {x : Nat} (h : isLetter x = true) : isNameC x = true := by unfold isNameC; rw [h]; rfl
theorem nameC_not {x : Nat} (h1 : isLetter x = false) (h2 : isDigit x = false) (h3 : x ≠ 46) : isNameC x = false := by unfold isNameC; rw [h1, h2]; simpa using h3
/-- string(p[i:j]). -/
theorem conv_part {W : World} {P : List Nat} {b off i j c : Nat} (hij : j ≤ P.length) (hc : ∀ k u, P[k]? = some u → W.cell? ⟨b, off + k, none⟩ = some (.int .u8 (u : Nat))) :
    ∀ dst, Try.prog.underlying dst = some .string → (convert 22 dst (.slice (some ⟨b, off + i, none⟩) (j - i) c)).run Try.prog W = .ok (.string (bstr ((P.drop i).take (j - i)))) W := by
  refine run_convert_bytes_arg W 22 5 Try.underlying22 Try.underlying5 b (off + i) (j - i) c (((P.drop i).take (j - i)).map fun u : Nat => (u : Int)) (by rw [List.length_map, List.length_take, List.length_drop]; omega) fun k hk => ?_
  have hk' : i + k < P.length := by omega
  rw [show off + i + k = off + (i + k) by omega, hc (i + k) _ (List.getElem?_eq_getElem hk'), List.getD_eq_getElem?_getD, List.getElem?_map, List.getElem?_take_of_lt hk, List.getElem?_drop, List.getElem?_eq_getElem hk']
  rfl
theorem Lx.cells {w : World} {g n c i b off : Nat} {P : List Nat} (h : Lx w g (some ⟨b, off, none⟩) n c P i) : ∀ k u, P[k]? = some u → w.cell? ⟨b, off + k, none⟩ = some (.int .u8 (u : Nat)) := by
  intro k u hu
  have := (List.getElem?_eq_some_iff.1 hu).1
  obtain ⟨b', off', e, _, hc⟩ := h.read (by have := h.len; omega)
  injection e with e
  injection e with e1 e2
  subst e1 e2
  exact hc k u hu
theorem part_byte {P : List Nat} (hP : ∀ u ∈ P, u < 256) (i k : Nat) : ∀ u ∈ (P.drop i).take k, u < 256 := fun u hu => hP u (List.mem_of_mem_drop (List.mem_of_mem_take hu))
set_option maxRecDepth 20000 in
set_option maxHeartbeats 1000000 in
theorem name_calls (w : World) (g n c i : Nat) (a : Option Addr) (P : List Nat) (h : Lx w g a n c P i) : Calls Try.prog 24 #[.pointer (some ⟨g, 0, none⟩)] w (Quoted w g a n c P (nameAt P i)) := by
  have hn := h.small
  have hcap := h.cap
  have hi := h.le
  have Lw := Lib.hid h
  have Gw := Lib.hid (grown_refl w (some g))
  have HLEN := Lib.hid h.len
  obtain ⟨c1, f1, z1⟩ := blk3 h.box
  clear h
  by_cases hq : P[i]? = some 34
  · have hlt : i < n := by rw [← HLEN.out]; exact (List.getElem?_eq_some_iff.1 hq).1
    obtain ⟨b, off, x, rfl, hx, x256, xw⟩ := Lw.out.at hlt
    obtain rfl : x = 34 := by rw [hq] at hx; injection hx with hx; exact hx.symm
    have HQ : Hid (nameAt P i = quoted P (i + 1) []) := Lib.hid (by unfold nameAt; rw [hq]; exact if_pos rfl)
    have hi1 : (i : Int) + 1 = ((i + 1 : Nat) : Int) := by omega
    have HI1 := Lib.hid hi1
    clear hx hq hi1
    go_enter Try.func24, Try.ntmps24
    go_wp2_with fail
    go_still (by kernel_rfl)
    obtain ⟨W1, hW1⟩ : ∃ W, W = w.drew := ⟨_, rfl⟩
    rw [show ({ heap := w.heap, tape := w.tape, drawn := w.drawn + 1, os := w.os, output := w.output } : World) = w.drew from rfl, ← hW1]
    have LW1 : Hid (Lx W1 g (some ⟨b, off, none⟩) n c P i) := Lib.hid (by rw [hW1]; exact Lw.out.drew)
    have GW1 : Hid (w.grownBy W1 (some g)) := Lib.hid (by rw [hW1]; exact grown_drew Gw.out)
    have xW1 : W1.cell? ⟨b, off + i, none⟩ = some (.int .u8 (34 : Nat)) := by rw [hW1]; exact xw
    clear hW1 c1 f1 z1 Lw Gw xw
    obtain ⟨c1, f1, z1⟩ := blk3 LW1.out.box
    go_wp2_with fail
    have LW2 := Lib.hid (LW1.out.set (j := i + 1) (by omega))
    rw [← HI1.out] at LW2
    refine (quoted_calls _ g n c (i + 1) (some ⟨b, off, none⟩) P (by rw [HI1.out]; exact LW1.out.set (by omega))).mono ?_
    intro e w2 hQ2
    cases hr : quoted P (i + 1) [] with
    | ok sk =>
      obtain ⟨s, k⟩ := sk
      rw [hr] at hQ2
      obtain ⟨rfl, hs, hl2, hg2⟩ := hQ2
      have HR := Lib.hid (HQ.out.trans hr)
      have HF := Lib.hid (And.intro hs (And.intro hl2 (grown_trans (grown_set GW1.out 1 (.int .i64 ((i : Int) + 1))) hg2)))
      clear hs hl2 hg2 hr
      go_wp2
      go_ret2
      exact quoted_ok HR.out rfl HF.out.1 HF.out.2.1 HF.out.2.2
    | error k =>
      rw [hr] at hQ2
      obtain ⟨rfl, hl2, hg2⟩ := hQ2
      have HR := Lib.hid (HQ.out.trans hr)
      have HF := Lib.hid (And.intro hl2 (grown_trans (grown_set GW1.out 1 (.int .i64 ((i : Int) + 1))) hg2))
      clear hl2 hg2 hr
      go_wp2
      go_ret2
      exact quoted_err HR.out rfl HF.out.1 HF.out.2
  · have HNQ := Lib.hid hq
    clear hq
    go_enter Try.func24, Try.ntmps24
    go_upto_region 1 with (fail)
    go_cut [27] from 5 to 27 (fun s27 wx => s27 = .bool false ∧ Hid (Lx wx g a n c P i) ∧ Hid (w.grownBy wx (some g)))
    case first =>
      by_cases hlt : i < n
      · obtain ⟨b, off, x, rfl, hx, x256, xw⟩ := Lw.out.at hlt
        have hlt2 : (i : Int) < (n : Int) := by omega
        have hx34 : ((x : Int) == 34) = false := by
          rw [beq_eq_false_iff_ne]
          intro e
          exact HNQ.out (by rw [hx]; congr 1; omega)
        clear hx
        go_still (by kernel_rfl)
        go_wp2_with fail
        go_meet
        case rel => exact ⟨rfl, Lw.out.drew, grown_drew Gw.out⟩
      · obtain rfl : n = i := by omega
        have hd : decide ((n : Int) < (n : Int)) = false := decide_eq_false (Int.lt_irrefl _)
        go_quiet (fail)
        go_wp2_with fail
        go_meet
        case rel => exact ⟨rfl, Lw.out.drewN _, grown_drewN Gw.out _⟩
    case rest =>
      obtain ⟨rfl, Lc, Gc⟩ := hcut
      clear c1 f1 z1
      obtain ⟨c1, f1, z1⟩ := blk3 Lc.out.box
      go_wp2_with fail
      clear c1 f1 z1
      go_loopg [] (n - i) (fun gk wr => ∃ j : Nat, i ≤ j ∧ j ≤ n ∧ Hid (gk = n - j) ∧ Hid (i < j → run isNameC P j = run isNameC P i ∧ ∃ x, P[i]? = some x ∧ isLetter x = true ∧ x ≠ 34) ∧ Hid (Lx wr g a n c P j) ∧ Hid (w.grownBy wr (some g)))
      case atStart => exact ⟨i, Nat.le_refl _, hi, rfl, fun h => absurd h (Nat.lt_irrefl _), Lc.out, Gc.out⟩
      case round =>
        obtain ⟨j, hij, hj, HK, HR, Lwr, Gwr⟩ := hrel
        obtain ⟨c1, f1, z1⟩ := blk3 Lwr.out.box
        go_upto_region 5 with (fail)
        go_cut [99] from 43 to 99 (fun s99 wx => ∃ yes : Bool, s99 = .bool yes ∧ Hid (Lx wx g a n c P j) ∧ Hid (w.grownBy wx (some g)) ∧ Hid (yes = true → j < n ∧ run isNameC P (j + 1) = run isNameC P i ∧ ∃ x, P[i]? = some x ∧ isLetter x = true ∧ x ≠ 34) ∧ Hid (yes = false → nameAt P i = if j = i then .error i else .ok ((P.drop i).take (j - i), j)))
        case first =>
          by_cases hlt : j < n
          · obtain ⟨b, off, x, rfl, hx, x256, xw⟩ := Lwr.out.at hlt
            have hlt2 : (j : Int) < (n : Int) := by omega
            have HX := Lib.hid hx
            clear hx
            cases hl : isLetter x with
            | true =>
              have HLT := Lib.hid hl
              have HFIN : Hid (run isNameC P (j + 1) = run isNameC P i ∧ ∃ x, P[i]? = some x ∧ isLetter x = true ∧ x ≠ 34) := Lib.hid (by
                by_cases hji : j = i
                · subst hji
                  exact ⟨(run_step HX.out (letter_nameC HLT.out)).symm, x, HX.out, HLT.out, fun e => HNQ.out (by rw [HX.out, e])⟩
                · have := HR.out (by omega)
                  exact ⟨(run_step HX.out (letter_nameC HLT.out)).symm.trans this.1, this.2⟩)
              clear hl
              go_quiet ((go_at_call 28; exact (letter_yes _ x x256 HLT.out).mono (fun _ _ h => ⟨h.1, _, h.2.symm⟩)))
              go_wp2_with fail
              go_meet
              case rel => exact ⟨true, rfl, Lwr.out.drewN _, grown_drewN Gwr.out _, fun _ => ⟨hlt, HFIN.out⟩, fun h => (by cases h)⟩
            | false =>
              have HLT := Lib.hid hl
              clear hl
              by_cases hji : j = i
              · subst hji
                have HFIN : Hid (nameAt P j = .error j) := Lib.hid (by
                  unfold nameAt
                  rw [HX.out]
                  show (if x = 34 then _ else if isLetter x = true then _ else _) = _
                  rw [if_neg (fun e => HNQ.out (by rw [HX.out, e])), if_neg (by rw [HLT.out]; decide)])
                have hd : decide ((j : Int) < (j : Int)) = false := decide_eq_false (Int.lt_irrefl _)
                go_quiet ((go_at_call 28; exact (letter_no _ x x256 HLT.out).mono (fun _ _ h => ⟨h.1, _, h.2.symm⟩)))
                go_wp2_with fail
                go_meet
                case rel => exact ⟨false, rfl, Lwr.out.drewN _, grown_drewN Gwr.out _, fun h => (by cases h), fun _ => (by simp [HFIN.out])⟩
              · have hgt : (i : Int) < (j : Int) := by omega
                have hgt2 : decide ((i : Int) < (j : Int)) = true := decide_eq_true hgt
                cases hdg : isDigit x with
                | true =>
                  have HDG := Lib.hid hdg
                  have HFIN : Hid (run isNameC P (j + 1) = run isNameC P i ∧ ∃ x, P[i]? = some x ∧ isLetter x = true ∧ x ≠ 34) := Lib.hid (by
                    have := HR.out (by omega)
                    exact ⟨(run_step HX.out (by unfold isNameC; rw [HDG.out]; simp)).symm.trans this.1, this.2⟩)
                  clear hdg
                  go_quiet ((first | (go_at_call 28; exact (letter_no _ x x256 HLT.out).mono (fun _ _ h => ⟨h.1, _, h.2.symm⟩)) | (go_at_call 29; exact (digit_yes _ x x256 HDG.out).mono (fun _ _ h => ⟨h.1, _, h.2.symm⟩))))
                  go_wp2_with fail
                  go_meet
                  case rel => exact ⟨true, rfl, Lwr.out.drewN _, grown_drewN Gwr.out _, fun _ => ⟨hlt, HFIN.out⟩, fun h => (by cases h)⟩
                | false =>
                  have HDG := Lib.hid hdg
                  clear hdg
                  by_cases h46 : x = 46
                  · subst h46
                    have HFIN : Hid (run isNameC P (j + 1) = run isNameC P i ∧ ∃ x, P[i]? = some x ∧ isLetter x = true ∧ x ≠ 34) := Lib.hid (by
                      have := HR.out (by omega)
                      exact ⟨(run_step HX.out (by decide)).symm.trans this.1, this.2⟩)
                    go_quiet ((first | (go_at_call 28; exact (letter_no _ 46 x256 HLT.out).mono (fun _ _ h => ⟨h.1, _, h.2.symm⟩)) | (go_at_call 29; exact (digit_no _ 46 x256 HDG.out).mono (fun _ _ h => ⟨h.1, _, h.2.symm⟩))))
                    go_wp2_with fail
                    go_meet
                    case rel => exact ⟨true, rfl, Lwr.out.drewN _, grown_drewN Gwr.out _, fun _ => ⟨hlt, HFIN.out⟩, fun h => (by cases h)⟩
                  · have k46 : ((x : Int) == 46) = false := by rw [beq_eq_false_iff_ne]; omega
                    have HFIN : Hid (nameAt P i = .ok ((P.drop i).take (j - i), j)) := Lib.hid (by
                      obtain ⟨h1, y, hy, hly, hy34⟩ := HR.out (by omega)
                      have h2 := run_no HX.out (nameC_not HLT.out HDG.out h46)
                      unfold nameAt
                      rw [hy]
                      show (if y = 34 then _ else if isLetter y = true then _ else _) = _
                      rw [if_neg hy34, if_pos hly, ← h1, h2])
                    clear h46
                    go_quiet ((first | (go_at_call 28; exact (letter_no _ x x256 HLT.out).mono (fun _ _ h => ⟨h.1, _, h.2.symm⟩)) | (go_at_call 29; exact (digit_no _ x x256 HDG.out).mono (fun _ _ h => ⟨h.1, _, h.2.symm⟩))))
                    go_wp2_with fail
                    go_meet
                    case rel => exact ⟨false, rfl, Lwr.out.drewN _, grown_drewN Gwr.out _, fun h => (by cases h), fun _ => (by simp [hji, HFIN.out])⟩
          · obtain rfl : n = j := by omega
            have HFIN : Hid (nameAt P i = if n = i then .error i else .ok ((P.drop i).take (n - i), n)) := Lib.hid (by
              by_cases hji : n = i
              · rw [if_pos hji]
                unfold nameAt
                rw [List.getElem?_eq_none (by rw [HLEN.out]; omega)]
              · rw [if_neg hji]
                obtain ⟨h1, y, hy, hly, hy34⟩ := HR.out (by omega)
                have h2 := run_end (q := isNameC) (P := P) (i := n) (by rw [HLEN.out]; exact Nat.le_refl _)
                unfold nameAt
                rw [hy]
                show (if y = 34 then _ else if isLetter y = true then _ else _) = _
                rw [if_neg hy34, if_pos hly, ← h1, h2])
            have hd : decide ((n : Int) < (n : Int)) = false := decide_eq_false (Int.lt_irrefl _)
            go_quiet (fail)
            go_wp2_with fail
            go_meet
            case rel => exact ⟨false, rfl, Lwr.out.drewN _, grown_drewN Gwr.out _, fun h => (by cases h), fun _ => HFIN.out⟩
        case rest =>
          obtain ⟨yes, rfl, Lx2, Gx2, HY, HN⟩ := hcut
          clear c1 f1 z1
          obtain ⟨c1, f1, z1⟩ := blk3 Lx2.out.box
          cases yes with
          | true =>
            obtain ⟨hjn, hrun, hlet⟩ := HY.out rfl
            have HRUN := Lib.hid (And.intro hrun hlet)
            clear hrun hlet
            go_wp2_with fail
            have hi1 : (j : Int) + 1 = ((j + 1 : Nat) : Int) := by omega
            go_roundg (n - (j + 1))
            case measure => have := HK.out; omega
            case rel =>
              rw [hi1]
              exact ⟨j + 1, by omega, by omega, rfl, fun _ => HRUN.out, Lx2.out.set (j := j + 1) (by omega), grown_set Gx2.out _ _⟩
          | false =>
            by_cases hji : j = i
            · subst hji
              go_wp2_with fail
              go_ret2
              exact quoted_err (by have := HN.out (by first | rfl | trivial); simpa using this) rfl Lx2.out Gx2.out
            · have k1 : ((j : Int) == (i : Int)) = false := by rw [beq_eq_false_iff_ne]; omega
              have HNE := Lib.hid hji
              have hRES : nameAt P i = .ok ((P.drop i).take (j - i), j) := by have := HN.out (by first | rfl | trivial); rwa [if_neg hji] at this
              have HRES := Lib.hid hRES
              have hlt : i < j := by omega
              obtain ⟨b, off, rfl, _, _⟩ := Lx2.out.read (by omega)
              have hcv : ∀ nq, ∀ dst, Try.prog.underlying dst = some .string → (convert 22 dst (.slice (some ⟨b, off + i, none⟩) (j - i) (c - i))).run Try.prog (wc.drewN nq) = .ok (.string (bstr ((P.drop i).take (j - i)))) (wc.drewN nq) := fun nq => conv_part (by rw [HLEN.out]; exact hj) (Lx2.out.drewN nq).cells
              have hci : ¬ i = c := by omega
              have hci2 : ¬ c = i := by omega
              have hcj : (j : Int) ≤ (c : Int) := by omega
              have hij2 : (i : Int) ≤ (j : Int) := by omega
              clear hRES hji
              go_wp2_with fail
              go_quiet (fail)
              go_wp2_with fail
              go_ret2
              exact quoted_ok HRES.out rfl (part_byte Lw.out.byte _ _) (Lx2.out.drewN _) (grown_drewN Gx2.out _)
end Go.Proofs.Ytjebanfmnfofnaa

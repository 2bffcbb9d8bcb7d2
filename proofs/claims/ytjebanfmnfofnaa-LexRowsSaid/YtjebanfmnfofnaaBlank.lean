/-
  (*Lexer).blank (function 22): past blanks and comments.
-/
import Derived.Test.YtjebanfmnfofnaaName
set_option linter.unusedSimpArgs false
set_option linter.unusedVariables false
namespace Go.Proofs.Ytjebanfmnfofnaa
open Go.RowKit
theorem min2_i (k k' : IntKind) (x y : Int) : Builtin.min2 (.int k x) (.int k' y) = pure (.int k (if y < x then y else x)) := by simp only [Builtin.min2, gt_iff_lt]
theorem min_pair (ats : Array TypeId) (ty : TypeId) (a b : Value) : Builtin.min_ ats ty #[a, b] = (Builtin.min2 a b >>= fun s => pure s) := by simp only [Builtin.min_, List.foldlM_cons, List.foldlM_nil]
attribute [local go_sem] min2_i min_pair
theorem u8_eq {x y : Nat} (hx : x < 256) (hy : y < 256) : (UInt8.ofNat x == UInt8.ofNat y) = decide (x = y) := by
  rw [Bool.eq_iff_iff, beq_iff_eq, decide_eq_true_iff]
  constructor
  · intro h
    have := congrArg UInt8.toNat h
    simp at this
    omega
  · rintro rfl; rfl
theorem prefix_two {x y z : Nat} (hx : x < 256) (hy : y < 256) (hz : z < 256) : Lib.hasPrefix (bstr [x, y]).data.toList (bstr [47, z]).data.toList = (decide (x = 47) && decide (y = z)) := by
  rw [bstr_data, bstr_data]
  unfold Lib.hasPrefix
  simp only [List.map_cons, List.map_nil, List.isPrefixOf, Bool.and_true]
  rw [u8_eq (by decide) hx, u8_eq hz hy]
  congr 1
  · rw [Bool.eq_iff_iff, decide_eq_true_iff, decide_eq_true_iff]; exact eq_comm
  · rw [Bool.eq_iff_iff, decide_eq_true_iff, decide_eq_true_iff]; exact eq_comm
theorem prefix_one {x z : Nat} : Lib.hasPrefix (bstr [x]).data.toList (bstr [47, z]).data.toList = false := by
  rw [bstr_data, bstr_data]
  unfold Lib.hasPrefix
  simp [List.isPrefixOf]
theorem index_end (l : List Nat) (hl : ∀ u ∈ l, u < 256) : Lib.index (l.map fun u => UInt8.ofNat u) [42, 47] = if findL l + 1 < l.length then (findL l : Int) else -1 := by
  induction l with
  | nil => rfl
  | cons x r ih =>
    have ihr := ih (fun u hu => hl u (List.mem_cons_of_mem _ hu))
    have hx := hl x List.mem_cons_self
    rw [List.map_cons, Lib.index]
    have hp : ([42, 47] : List UInt8).isPrefixOf (UInt8.ofNat x :: r.map fun u => UInt8.ofNat u) = decide (x = 42 ∧ r.head? = some 47) := by
      cases r with
      | nil => simp [List.isPrefixOf]
      | cons y t =>
        have hy := hl y (by simp)
        show ((UInt8.ofNat 42 == UInt8.ofNat x) && ((UInt8.ofNat 47 == UInt8.ofNat y) && true)) = decide (x = 42 ∧ some y = some 47)
        rw [u8_eq (by decide) hx, u8_eq (by decide) hy, Bool.and_true, Bool.eq_iff_iff, Bool.and_eq_true, decide_eq_true_iff, decide_eq_true_iff, decide_eq_true_iff]
        constructor
        · rintro ⟨rfl, rfl⟩; exact ⟨rfl, rfl⟩
        · rintro ⟨rfl, h⟩; injection h with h; exact ⟨rfl, h.symm⟩
    rw [hp, ihr, findL]
    by_cases h : x = 42 ∧ r.head? = some 47
    · have hr : 0 < r.length := by
        cases r with
        | nil => simp at h
        | cons y t => simp
      rw [if_pos (by simpa using h), if_pos h, if_pos (by simp; omega)]
      rfl
    · rw [if_neg (by simpa using h), if_neg h]
      by_cases h2 : findL r + 1 < r.length
      · rw [if_pos h2, if_neg (by rw [beq_iff_eq]; omega), if_pos (by rw [List.length_cons]; omega)]
        omega
      · rw [if_neg h2, if_pos (by decide), if_neg (by rw [List.length_cons]; omega)]
def Blanked (w : World) (g : Nat) (a : Option Addr) (n c : Nat) (P : List Nat) (r : Except Nat Nat) (e : Ending) (w' : World) : Prop :=
  match r with
  | .ok k => e = .returned (.int .i64 (-1)) ∧ Lx w' g a n c P k ∧ w.grownBy w' (some g)
  | .error k => e = .returned (.int .i64 (k : Nat)) ∧ Lx w' g a n c P k ∧ w.grownBy w' (some g)
theorem blanked_ok {w w' : World} {g n c k : Nat} {a : Option Addr} {P : List Nat} {r : Except Nat Nat} {e : Ending} (hr : r = .ok k) (he : e = .returned (.int .i64 (-1))) (hl : Lx w' g a n c P k) (hg : w.grownBy w' (some g)) : Blanked w g a n c P r e w' := by
  subst hr; exact ⟨he, hl, hg⟩
theorem blanked_err {w w' : World} {g n c k : Nat} {a : Option Addr} {P : List Nat} {r : Except Nat Nat} {e : Ending} (hr : r = .error k) (he : e = .returned (.int .i64 (k : Nat))) (hl : Lx w' g a n c P k) (hg : w.grownBy w' (some g)) : Blanked w g a n c P r e w' := by
  subst hr; exact ⟨he, hl, hg⟩
theorem prefix_calls (w : World) (s p : ByteArray) (z : Nat) (yes : Bool) (hp : p = bstr [47, z]) (h : Lib.hasPrefix s.data.toList (bstr [47, z]).data.toList = yes) : Calls Try.prog 33 #[.string s, .string p] w fun e w' => e = .returned (.bool yes) ∧ w = w' := by
  subst hp
  exact (Try.strings_HasPrefix s (bstr [47, z]) w).mono fun e w' ⟨h1, h2⟩ => ⟨by rw [h1, h], h2.symm⟩
theorem lit_line : (⟨#[47, 47]⟩ : ByteArray) = bstr [47, 47] := by decide
theorem lit_star : (⟨#[47, 42]⟩ : ByteArray) = bstr [47, 42] := by decide
theorem idx_yes {w : World} {c : Nat} (hc : c < 256) (h : isBlank c = true) : Calls Try.prog 23 #[.string ⟨#[32, 9, 13, 10]⟩, .int .u8 c] w fun e w' => ∃ z : Int, e = .returned (.int .i64 z) ∧ 0 ≤ z ∧ z ≤ 100 ∧ w = w' :=
  (blank_calls w c hc).mono fun e w' ⟨z, h1, h2, h3, h4, h5⟩ => ⟨z, h1, by rw [h] at h2; exact of_decide_eq_true h2, h4, h5⟩
theorem idx_no {w : World} {c : Nat} (hc : c < 256) (h : isBlank c = false) : Calls Try.prog 23 #[.string ⟨#[32, 9, 13, 10]⟩, .int .u8 c] w fun e w' => ∃ z : Int, e = .returned (.int .i64 z) ∧ z < 0 ∧ -1 ≤ z ∧ w = w' :=
  (blank_calls w c hc).mono fun e w' ⟨z, h1, h2, h3, h4, h5⟩ => ⟨z, h1, by rw [h] at h2; have := of_decide_eq_false h2; omega, h3, h5⟩
theorem index_calls (w : World) (L : List Nat) (ml : Int) (hL : ∀ u ∈ L, u < 256) (hn : L.length ≤ 4000) (hm : w.cell? ⟨0, 0, none⟩ = some (.int .i64 ml)) :
    Calls Try.prog 34 #[.string (bstr L), .string ⟨#[42, 47]⟩] w fun e w' => e = .returned (.int .i64 (if findL L + 1 < L.length then (findL L : Int) else -1)) ∧ w = w' :=
  (Try.strings_Index (bstr L) ⟨#[42, 47]⟩ ml w (by rw [bstr_size]; omega) hm).mono fun e w' ⟨h1, h2⟩ => ⟨by rw [h1, bstr_data]; congr 2; exact index_end L hL, h2.symm⟩
set_option maxRecDepth 20000 in
set_option maxHeartbeats 2000000 in
theorem blank_walk (w : World) (g n c i : Nat) (a : Option Addr) (P : List Nat) (ml : Int) (h : Lx w g a n c P i) (hg0 : g ≠ 0) (hml : w.cell? ⟨0, 0, none⟩ = some (.int .i64 ml)) : Calls Try.prog 22 #[.pointer (some ⟨g, 0, none⟩)] w (Blanked w g a n c P (skip P i)) := by
  have hn := h.small
  have hcap := h.cap
  have hi := h.le
  have Lw := Lib.hid h
  have HML := Lib.hid hml
  have HLEN := Lib.hid h.len
  clear h hml
  go_enter Try.func22, Try.ntmps22
  go_wp2_with fail
  go_loopg [] (n - i) (fun gk wr => ∃ j : Nat, j ≤ n ∧ Hid (gk = n - j) ∧ Hid (skip P j = skip P i) ∧ Hid (Lx wr g a n c P j) ∧ Hid (w.grownBy wr (some g)))
  case atStart => exact ⟨i, hi, rfl, rfl, Lw.out, grown_refl _ _⟩
  case round =>
    obtain ⟨j, hj, HK, HS, Lwr, Gwr⟩ := hrel
    obtain ⟨c1, f1, z1⟩ := blk3 Lwr.out.box
    by_cases hlt : j < n
    · obtain ⟨b, off, x, rfl, hx, x256, xwr⟩ := Lwr.out.at hlt
      have hlt2 : (j : Int) < (n : Int) := by omega
      have HX := Lib.hid hx
      have hjc : ¬ j = c := by omega
      have hjc2 : ¬ c = j := by omega
      have hjc3 : (j : Int) ≤ (c : Int) := by omega
      have hnc3 : (n : Int) ≤ (c : Int) := by omega
      have hp1 : 0 < n - j := by omega
      clear hx
      go_wp2_with fail
      go_still (by kernel_rfl)
      obtain ⟨W1, hW1⟩ : ∃ W, W = wr.drew := ⟨_, rfl⟩
      rw [show ({ heap := wr.heap, tape := wr.tape, drawn := wr.drawn + 1, os := wr.os, output := wr.output } : World) = wr.drew from rfl, ← hW1]
      have LW1 : Hid (Lx W1 g (some ⟨b, off, none⟩) n c P j) := Lib.hid (by rw [hW1]; exact Lwr.out.drew)
      have GW1 : Hid (w.grownBy W1 (some g)) := Lib.hid (by rw [hW1]; exact grown_drew Gwr.out)
      have xW1 : W1.cell? ⟨b, off + j, none⟩ = some (.int .u8 (x : Nat)) := by rw [hW1]; exact xwr
      clear hW1 c1 f1 z1 Lwr Gwr xwr
      obtain ⟨c1, f1, z1⟩ := blk3 LW1.out.box
      go_wp2_with fail
      go_still (by kernel_rfl)
      obtain ⟨W2, hW2⟩ : ∃ W, W = W1.drew := ⟨_, rfl⟩
      rw [show ({ heap := W1.heap, tape := W1.tape, drawn := W1.drawn + 1, os := W1.os, output := W1.output } : World) = W1.drew from rfl, ← hW2]
      have LW2 : Hid (Lx W2 g (some ⟨b, off, none⟩) n c P j) := Lib.hid (by rw [hW2]; exact LW1.out.drew)
      have GW2 : Hid (w.grownBy W2 (some g)) := Lib.hid (by rw [hW2]; exact grown_drew GW1.out)
      have xW2 : W2.cell? ⟨b, off + j, none⟩ = some (.int .u8 (x : Nat)) := by rw [hW2]; exact xW1
      clear hW2 c1 f1 z1 LW1 GW1 xW1
      obtain ⟨c1, f1, z1⟩ := blk3 LW2.out.box
      cases hb : isBlank x with
      | true =>
        have HB := Lib.hid hb
        have hi1 : (j : Int) + 1 = ((j + 1 : Nat) : Int) := by omega
        have HI1 := Lib.hid hi1
        clear hb hi1
        go_wp2_with fail
        refine (idx_yes x256 HB.out).mono ?_
        rintro e w3 ⟨z, rfl, hz0, hz1, rfl⟩
        go_wp2_with fail
        go_roundg (n - (j + 1))
        case measure => have := HK.out; omega
        case rel =>
          rw [HI1.out]
          exact ⟨j + 1, by omega, rfl, by rw [← HS.out]; exact (skip_blank HX.out HB.out).symm, LW2.out.set (j := j + 1) (by omega), grown_set GW2.out _ _⟩
      | false =>
        have HB := Lib.hid hb
        clear hb
        go_wp2_with fail
        refine (idx_no x256 HB.out).mono ?_
        rintro e w3 ⟨z, rfl, hz0, hz1, rfl⟩
        by_cases h1 : j + 1 = n
        · obtain rfl : n = j + 1 := h1.symm
          have hcv : ∀ dst, Try.prog.underlying dst = some .string → (convert 22 dst (.slice (some ⟨b, off + j, none⟩) 1 (c - j))).run Try.prog W2 = .ok (.string (bstr [x])) W2 :=
            run_convert_bytes_arg W2 22 5 Try.underlying22 Try.underlying5 b (off + j) 1 (c - j) [(x : Int)] rfl (fun k hk => by
              have hk0 : k = 0 := by omega
              subst hk0
              exact xW2)
          have HSK : Hid (skip P i = .ok j) := Lib.hid (by
            rw [← HS.out]
            exact skip_no HX.out HB.out (fun e => by
              have hnone : P[j + 1]? = none := List.getElem?_eq_none (by rw [HLEN.out]; exact Nat.le_refl _)
              rw [hnone] at e
              exact e.2.elim (fun h => by cases h) (fun h => by cases h)))
          go_wp2_with fail
          refine (prefix_calls _ _ _ 47 false lit_line (prefix_one)).mono ?_
          rintro e w3 ⟨rfl, rfl⟩
          go_wp2_with fail
          refine (prefix_calls _ _ _ 42 false lit_star (prefix_one)).mono ?_
          rintro e w3 ⟨rfl, rfl⟩
          go_wp2
          go_ret
          exact blanked_ok HSK.out rfl LW2.out GW2.out
        · obtain ⟨y, hy⟩ : ∃ y, P[j + 1]? = some y := ⟨_, List.getElem?_eq_getElem (by rw [HLEN.out]; omega)⟩
          have y256 : y < 256 := Lw.out.byte y (List.mem_of_getElem? hy)
          have hcell := LW2.out.cells
          have yW2 : W2.cell? ⟨b, off + j + 1, none⟩ = some (.int .u8 (y : Nat)) := hcell (j + 1) y hy
          have hcv : ∀ dst, Try.prog.underlying dst = some .string → (convert 22 dst (.slice (some ⟨b, off + j, none⟩) 2 (c - j))).run Try.prog W2 = .ok (.string (bstr [x, y])) W2 :=
            run_convert_bytes_arg W2 22 5 Try.underlying22 Try.underlying5 b (off + j) 2 (c - j) [(x : Int), (y : Int)] rfl (fun k hk => by
              rcases (show k = 0 ∨ k = 1 by omega) with rfl | rfl
              · exact xW2
              · exact yW2)
          have HY := Lib.hid hy
          have hn2 : 2 ≤ n - j := by omega
          have hn3 : ¬ n - j < 2 := by omega
          have hn4 : ¬ ((n : Int) - (j : Int)) < 2 := by omega
          clear hy hcell h1
          by_cases hsl : x = 47 ∧ (y = 47 ∨ y = 42)
          · obtain ⟨rfl, hyy⟩ := hsl
            rcases hyy with rfl | rfl
            · have HP1 : Hid (Lib.hasPrefix (bstr [47, 47]).data.toList (bstr [47, 47]).data.toList = true) := Lib.hid (by rw [prefix_two (by decide) (by decide) (by decide)]; decide)
              go_wp2_with fail
              refine (prefix_calls _ _ _ 47 true lit_line (HP1.out)).mono ?_
              rintro e w3 ⟨rfl, rfl⟩
              clear hcv c1 f1 z1 xW2 yW2
              go_wp2_with fail
              go_loopg [] (n - j) (fun gk2 wr => ∃ k : Nat, j ≤ k ∧ k ≤ n ∧ Hid (gk2 = n - k) ∧ Hid (run (fun u => u != 10) P k = run (fun u => u != 10) P j) ∧ Hid (j = k ∨ j < k) ∧ Hid (Lx wr g (some ⟨b, off, none⟩) n c P k) ∧ Hid (w.grownBy wr (some g)))
              case atStart => exact ⟨j, Nat.le_refl _, hj, rfl, rfl, .inl rfl, LW2.out, GW2.out⟩
              case round =>
                obtain ⟨k, hjk, hk, HK2, HR, HJ, Lwr, Gwr⟩ := hrel
                obtain ⟨c1, f1, z1⟩ := blk3 Lwr.out.box
                by_cases hltk : k < n
                · obtain ⟨u, hu⟩ : ∃ u, P[k]? = some u := ⟨_, List.getElem?_eq_getElem (by rw [HLEN.out]; omega)⟩
                  have u256 : u < 256 := Lw.out.byte u (List.mem_of_getElem? hu)
                  have uwr : wr.cell? ⟨b, off + k, none⟩ = some (.int .u8 (u : Nat)) := Lwr.out.cells k u hu
                  have HU := Lib.hid hu
                  have hltk2 : (k : Int) < (n : Int) := by omega
                  clear hu
                  by_cases h10 : u = 10
                  · subst h10
                    have HE : Hid (skip P k = skip P i) := Lib.hid (by
                      rw [← HS.out, skip_line HX.out HY.out, ← run_line HX.out HY.out, ← HR.out, run_no HU.out (by decide)])
                    have hjk2 : j < k := by
                      rcases HJ.out with h | h
                      · subst h; have := HU.out; rw [HX.out] at this; injection this with this; omega
                      · exact h
                    go_wp2_with fail
                    go_still (by kernel_rfl)
                    go_wp2_with fail
                    go_roundg (n - k)
                    case measure => have := HK.out; omega
                    case rel => exact ⟨k, hk, rfl, HE.out, Lwr.out.drew, grown_drew Gwr.out⟩
                  · have hu10 : ((u : Int) != 10) = true := by rw [bne_iff_ne]; omega
                    have HR2 : Hid (run (fun u => u != 10) P (k + 1) = run (fun u => u != 10) P j) := Lib.hid (by rw [← HR.out, ← run_step HU.out (by simpa using h10)])
                    have hk1 : (k : Int) + 1 = ((k + 1 : Nat) : Int) := by omega
                    have HK1 := Lib.hid hk1
                    clear h10 hk1
                    go_wp2_with fail
                    go_still (by kernel_rfl)
                    go_wp2_with fail
                    go_roundg (n - (k + 1))
                    case measure => have := HK2.out; omega
                    case rel =>
                      rw [HK1.out]
                      exact ⟨k + 1, by omega, by omega, rfl, HR2.out, .inr (by omega), Lwr.out.drew.set (j := k + 1) (by omega), grown_set (grown_drew Gwr.out) _ _⟩
                · obtain rfl : n = k := by omega
                  have HE : Hid (skip P n = skip P i) := Lib.hid (by
                    rw [← HS.out, skip_line HX.out HY.out, ← run_line HX.out HY.out, ← HR.out, run_end (by rw [HLEN.out]; exact Nat.le_refl _)])
                  have hd : decide ((n : Int) < (n : Int)) = false := decide_eq_false (Int.lt_irrefl _)
                  go_wp2_with fail
                  go_quiet (fail)
                  go_wp2_with fail
                  go_roundg (n - n)
                  case measure => have := HK.out; omega
                  case rel => exact ⟨n, Nat.le_refl _, rfl, HE.out, Lwr.out.drewN _, grown_drewN Gwr.out _⟩
            · have HP1 : Hid (Lib.hasPrefix (bstr [47, 42]).data.toList (bstr [47, 47]).data.toList = false) := Lib.hid (by rw [prefix_two (by decide) (by decide) (by decide)]; decide)
              have HP2 : Hid (Lib.hasPrefix (bstr [47, 42]).data.toList (bstr [47, 42]).data.toList = true) := Lib.hid (by rw [prefix_two (by decide) (by decide) (by decide)]; decide)
              go_wp2_with fail
              refine (prefix_calls _ _ _ 47 false lit_line (HP1.out)).mono ?_
              rintro e w3 ⟨rfl, rfl⟩
              go_wp2_with fail
              refine (prefix_calls _ _ _ 42 true lit_star (HP2.out)).mono ?_
              rintro e w3 ⟨rfl, rfl⟩
              clear hcv
              have hcell := LW2.out.cells
              have hlen2 : (P.drop (j + 2)).length = n - j - 2 := by rw [List.length_drop, HLEN.out]; omega
              have hcv2 : ∀ A2 c2, (0 < n - j - 2 → A2 = some ⟨b, off + j + 2, none⟩) → (∃ b2 o2, A2 = some ⟨b2, o2, none⟩) → ∀ dst, Try.prog.underlying dst = some .string → (convert 22 dst (.slice A2 (n - j - 2) c2)).run Try.prog W2 = .ok (.string (bstr (P.drop (j + 2)))) W2 := by
                intro A2 c2 hA2 hA3
                obtain ⟨b2, o2, rfl⟩ := hA3
                refine run_convert_bytes_arg W2 22 5 Try.underlying22 Try.underlying5 b2 o2 (n - j - 2) c2 ((P.drop (j + 2)).map fun u : Nat => (u : Int)) (by rw [List.length_map]; exact hlen2) fun k hk => ?_
                have hA4 := hA2 (by omega)
                injection hA4 with hA4
                injection hA4 with e1 e2
                subst e1 e2
                have hk' : j + 2 + k < P.length := by rw [HLEN.out]; omega
                rw [show off + j + 2 + k = off + (j + 2 + k) by omega, hcell (j + 2 + k) _ (List.getElem?_eq_getElem hk'), List.getD_eq_getElem?_getD, List.getElem?_map, List.getElem?_drop, List.getElem?_eq_getElem hk']
                rfl
              have hml2 : W2.cell? ⟨0, 0, none⟩ = some (.int .i64 ml) := grown_cell GW2.out (fun e => hg0 e.symm) HML.out
              have HML2 := Lib.hid hml2
              have HCV2 := Lib.hid hcv2
              have hb2 : ∀ u ∈ P.drop (j + 2), u < 256 := fun u hu => Lw.out.byte u (List.mem_of_mem_drop hu)
              have HIX := Lib.hid (index_calls W2 (P.drop (j + 2)) ml hb2 (by omega) hml2)
              have HLEN2 := Lib.hid hlen2
              clear hcv2 hml2 hb2 hcell hlen2
              obtain ⟨q, hq⟩ : ∃ q, q = findL (P.drop (j + 2)) := ⟨_, rfl⟩
              have HQ := Lib.hid hq
              rw [← hq, HLEN2.out] at HIX
              clear hq
              by_cases hcj : c = j + 2
              · have hnj : n = j + 2 := by omega
                subst hcj
                subst hnj
                have hcv3 := HCV2.out (some ⟨b, off + j, none⟩) 0 (fun h => absurd h (by omega)) ⟨_, _, rfl⟩
                rw [show j + 2 - j - 2 = 0 by omega] at hcv3
                have HSK : Hid (skip P i = .error j) := Lib.hid (by
                  rw [← HS.out]
                  exact skip_open HX.out HY.out (by have := findEnd_ge P (j + 2); rw [HLEN.out]; omega))
                rw [if_neg (by omega)] at HIX
                go_wp2_with fail
                refine HIX.out.mono ?_
                rintro e w3 ⟨rfl, rfl⟩
                go_wp2
                go_ret
                exact blanked_err HSK.out rfl LW2.out GW2.out
              · have hcj1 : ¬ c - j = 2 := by omega
                have hcj2 : ¬ (c : Int) - j = 2 := by omega
                have hcv3 := HCV2.out (some ⟨b, off + j + 2, none⟩) (c - j - 2) (fun h => rfl) ⟨_, _, rfl⟩
                have hge2 : 2 ≤ c - j := by omega
                clear hcj
                by_cases hfe : q + 1 < n - j - 2
                · rw [if_pos hfe] at HIX
                  have HSK : Hid (skip P (j + (q + 4)) = skip P i) := Lib.hid (by
                    rw [← HS.out, skip_long HX.out HY.out (by unfold findEnd; rw [← HQ.out, HLEN.out]; omega)]
                    unfold findEnd
                    rw [← HQ.out]
                    congr 1
                    omega)
                  have hjn : j + (q + 4) ≤ n := by omega
                  have hjq : (j : Int) + ((q : Int) + 4) = ((j + (q + 4) : Nat) : Int) := by omega
                  have HJQ := Lib.hid hjq
                  clear hjq
                  go_wp2_with fail
                  refine HIX.out.mono ?_
                  rintro e w3 ⟨rfl, rfl⟩
                  go_wp2_with fail
                  go_roundg (n - (j + (q + 4)))
                  case measure => have := HK.out; omega
                  case rel =>
                    rw [HJQ.out]
                    exact ⟨j + (q + 4), hjn, rfl, HSK.out, LW2.out.set (j := j + (q + 4)) hjn, grown_set GW2.out _ _⟩
                · rw [if_neg hfe] at HIX
                  have HSK : Hid (skip P i = .error j) := Lib.hid (by
                    rw [← HS.out]
                    exact skip_open HX.out HY.out (by unfold findEnd; rw [← HQ.out, HLEN.out]; omega))
                  go_wp2_with fail
                  refine HIX.out.mono ?_
                  rintro e w3 ⟨rfl, rfl⟩
                  go_wp2
                  go_ret
                  exact blanked_err HSK.out rfl LW2.out GW2.out
          · have HP1 : Hid (Lib.hasPrefix (bstr [x, y]).data.toList (bstr [47, 47]).data.toList = false) := Lib.hid (by
              rw [prefix_two x256 y256 (by decide)]
              rw [Bool.and_eq_false_iff, decide_eq_false_iff_not, decide_eq_false_iff_not]
              by_cases h : x = 47
              · exact .inr fun e => hsl ⟨h, .inl e⟩
              · exact .inl h)
            have HP2 : Hid (Lib.hasPrefix (bstr [x, y]).data.toList (bstr [47, 42]).data.toList = false) := Lib.hid (by
              rw [prefix_two x256 y256 (by decide)]
              rw [Bool.and_eq_false_iff, decide_eq_false_iff_not, decide_eq_false_iff_not]
              by_cases h : x = 47
              · exact .inr fun e => hsl ⟨h, .inr e⟩
              · exact .inl h)
            have HSK : Hid (skip P i = .ok j) := Lib.hid (by
              rw [← HS.out]
              exact skip_no HX.out HB.out (fun e => hsl ⟨e.1, e.2.elim (fun h => .inl (by rw [HY.out] at h; injection h)) (fun h => .inr (by rw [HY.out] at h; injection h))⟩))
            clear hsl
            go_wp2_with fail
            refine (prefix_calls _ _ _ 47 false lit_line (HP1.out)).mono ?_
            rintro e w3 ⟨rfl, rfl⟩
            go_wp2_with fail
            refine (prefix_calls _ _ _ 42 false lit_star (HP2.out)).mono ?_
            rintro e w3 ⟨rfl, rfl⟩
            go_wp2
            go_ret
            exact blanked_ok HSK.out rfl LW2.out GW2.out
    · obtain rfl : n = j := by omega
      go_wp2_with fail
      go_still (by kernel_rfl)
      go_wp2
      go_ret
      exact blanked_ok (by rw [← HS.out]; exact skip_end (by rw [HLEN.out]; exact Nat.le_refl _)) rfl Lwr.out.drew (grown_drew Gwr.out)
end Go.Proofs.Ytjebanfmnfofnaa

/-
  LexTokens (function 3): the document's tokens beside the lexer's. No statement of its own.
-/
import Derived.Test.YtjebanfmnfofnaaRefT
set_option linter.unusedSimpArgs false
set_option linter.unusedVariables false
namespace Go.Proofs.Ytjebanfmnfofnaa
open Go.RowKit
/-- What is left of the document's tokens, at a place. -/
def LeftT (P : List Nat) (n p : Nat) (r : List Tok) (bad : Int) : Prop := Toks P p r bad ∨ (r = [] ∧ bad = -1 ∧ p = n)
theorem left_step {P : List Nat} {n p : Nat} {t : Tok} {r : List Tok} {bad : Int} (h : LeftT P n p (t :: r) bad) (hl : P.length = n) (hp : p ≤ n) : ∃ nx, nextM P p = .ok (t, nx) ∧ nx ≤ n ∧ LeftT P n nx r bad := by
  rcases h with h | ⟨h, _⟩
  · cases h with
    | fin hs hk =>
      rename_i k
      have hle := ((skip_spec P p (by omega)).1 k hs).2.1
      obtain rfl : k = P.length := by omega
      exact ⟨P.length, nextM_end hs (Nat.le_refl _), by omega, .inr ⟨rfl, rfl, hl⟩⟩
    | cons hs hk ht hr =>
      rename_i k nx
      have := tokAt_bound ht
      exact ⟨nx, (nextM_ok hs hk).trans ht, by omega, .inl hr⟩
  · cases h
theorem left_end {P : List Nat} {n p : Nat} {bad : Int} (h : LeftT P n p [] bad) (hl : P.length = n) : (∃ b : Nat, bad = (b : Nat) ∧ nextM P p = .error b) ∨ (bad = -1 ∧ nextM P p = .ok (⟨0, 0, [], n⟩, n)) := by
  rcases h with h | ⟨_, hb, rfl⟩
  · cases h with
    | bad hs => exact .inl ⟨_, rfl, nextM_bad hs⟩
    | err hs hk ht => exact .inl ⟨_, rfl, (nextM_ok hs hk).trans ht⟩
  · exact .inr ⟨hb, nextM_end (skip_end (by omega)) (by omega)⟩
theorem toks_get {l : List Tok} {i : Nat} {t : Tok} (h : l[i]? = some t) (k : Nat) (hk : k < 4) : (toks l)[i * 4 + k]? = ([.int .u8 (t.kind : Nat), .int .u8 (t.mark : Nat), .string (bstr t.text), .int .i64 (t.at_ : Nat)] : List Value)[k]? := by
  induction l generalizing i with
  | nil => simp at h
  | cons x r ih =>
    have e : toks (x :: r) = [.int .u8 (x.kind : Nat), .int .u8 (x.mark : Nat), .string (bstr x.text), .int .i64 (x.at_ : Nat)] ++ toks r := by unfold toks; rw [List.flatMap_cons]
    rw [e]
    cases i with
    | zero =>
      obtain rfl : x = t := by simpa using h
      rw [Nat.zero_mul, Nat.zero_add, List.getElem?_append_left (by simpa using hk)]
    | succ j =>
      rw [List.getElem?_append_right (by simp; omega)]
      have := ih (i := j) (by simpa using h)
      rw [← this]
      congr 1
      simp
      omega
/-- A token of a row of the call's own. -/
theorem own_tok {W : World} {B m cp i : Nat} {A : Option Addr} {l : List Tok} {t : Tok} (h : W.ownsRow B 34 4 (.slice A m cp) m (toks l)) (hl : l.length = m) (hi : l[i]? = some t) :
    ∃ g, A = some ⟨g, 0, none⟩ ∧ B ≤ g ∧ m ≤ cp ∧ ∀ k, k < 4 → W.cell? ⟨g, i * 4 + k, none⟩ = ([.int .u8 (t.kind : Nat), .int .u8 (t.mark : Nat), .string (bstr t.text), .int .i64 (t.at_ : Nat)] : List Value)[k]? := by
  have him : i < m := by rw [← hl]; exact (List.getElem?_eq_some_iff.1 hi).1
  rcases h.2 with ⟨e, h0⟩ | ⟨g, cap, cur, e, hb, hh, h1, h2, h3, h4⟩
  · omega
  · injection e with e1 e2 e3
    subst e1 e3
    refine ⟨g, rfl, hb, h1, fun k hk => ?_⟩
    rw [(blk3 hh).1, ← toks_get hi k hk, ← h4, List.getElem?_take_of_lt (by omega)]
    simp
set_option maxRecDepth 20000 in
set_option maxHeartbeats 2000000 in
theorem lexTokens_walk (w : World) (a : Option Addr) (n c : Nat) (P : List Nat) (ml : Int) (hml : w.cell? ⟨0, 0, none⟩ = some (.int .i64 ml)) (h : ReadsU w a n P) (hn : n ≤ 400) (hnc : n ≤ c) :
    Calls Try.prog 3 #[.slice a n c] w (Yes w) := by
  have H := Lib.hid h
  have HML := Lib.hid hml
  have hn' : ¬ (400 : Int) < (n : Int) := by omega
  have HLEN := Lib.hid h.1
  clear h hml
  go_enter Try.func3, Try.ntmps3
  go_wp2_with fail
  refine (awake_calls _ ml HML.out).mono ?_
  rintro e w1 ⟨rfl, hb1⟩
  have HB1 := Lib.hid hb1
  have H1 := Lib.hid (H.out.below hb1)
  have HM1 := Lib.hid (ml_below HML.out hb1)
  clear hb1
  go_wp2_with fail
  refine (new_calls _ _ _ _).mono ?_
  rintro e w2 ⟨rfl, rfl⟩
  have hL0 := Lx.fresh H1.out.1 (show n ≤ 4000 by omega) hnc H1.out.2.1 H1.out.2.2
  have hb2 : Below w1.heap.size w1 (w1.alloc (.cells #[.slice a n c, .int .i64 0] 51)) := (Below.refl _ _).alloc (Nat.le_refl _) _
  have hsz2 : (w1.alloc (.cells #[.slice a n c, .int .i64 0] 51)).heap.size = w1.heap.size + 1 := by simp
  obtain ⟨g, hg⟩ : ∃ g, g = w1.heap.size := ⟨_, rfl⟩
  obtain ⟨W2, hW2⟩ : ∃ W2, W2 = w1.alloc (.cells #[.slice a n c, .int .i64 0] 51) := ⟨_, rfl⟩
  have hg0 : g ≠ 0 := by have := World.block_lt_of_cell? w1 _ HM1.out; omega
  rw [← hW2] at hL0 hb2 hsz2 ⊢
  rw [← hg] at hL0 hsz2 ⊢
  have H2 := Lib.hid (H1.out.below hb2)
  have HL0 := Lib.hid hL0
  have HM2 := Lib.hid (ml_below HM1.out hb2)
  have HB2 : Hid (Below w1.heap.size w1 W2) := Lib.hid hb2
  have HG := Lib.hid hg
  clear hW2 hg hL0 hb2
  go_wp2_with fail
  refine (tokens_calls _ _ _ _ P H2.out (by omega) hnc).mono ?_
  rintro e w3 ⟨l, bad, A, cp, ht, hm, rfl, hown, hb3⟩
  obtain ⟨m, hlm⟩ : ∃ m, m = l.length := ⟨_, rfl⟩
  rw [← hlm] at hm hown ⊢
  rw [HLEN.out] at hm
  have HLM := Lib.hid hlm.symm
  have HT := Lib.hid ht
  have HO := Lib.hid hown
  have HB3 := Lib.hid hb3
  have HL3 := Lib.hid (HL0.out.below hb3)
  have HM3 := Lib.hid (ml_below HM2.out hb3)
  clear ht hown hb3 hlm
  go_wp2_with fail
  go_loopg [6] (m) (fun gk s6 wr => ∃ i p : Nat, s6 = .int .i64 (i : Nat) ∧ i ≤ m ∧ p ≤ n ∧ Hid (gk = m - i) ∧ Hid (LeftT P n p (l.drop i) bad) ∧ Hid (Lx wr g a n c P p) ∧ Hid (w3.grownBy wr (some g)))
  case atStart => exact ⟨0, 0, rfl, Nat.zero_le _, Nat.zero_le _, rfl, .inl HT.out, HL3.out, grown_refl _ _⟩
  case round =>
    obtain ⟨i, p, rfl, hi, hp, HK, HLF, HLX, HGR⟩ := hrel
    by_cases hlt : i < m
    · have hltI : (i : Int) < (m : Int) := by omega
      obtain ⟨t, htl⟩ : ∃ t, l[i]? = some t := ⟨_, List.getElem?_eq_getElem (by rw [HLM.out]; exact hlt)⟩
      obtain ⟨nx, hnm, hnx, hlf⟩ := left_step (by have := HLF.out; rwa [show l.drop i = t :: l.drop (i + 1) from by obtain ⟨h1, rfl⟩ := List.getElem?_eq_some_iff.1 htl; exact List.drop_eq_getElem_cons h1] at this) HLEN.out hp
      have HNM := Lib.hid hnm
      have HLF2 := Lib.hid hlf
      have HTL := Lib.hid htl
      have hmr : wr.cell? ⟨0, 0, none⟩ = some (.int .i64 ml) := grown_cell HGR.out (Ne.symm hg0) HM3.out
      have HMR := Lib.hid hmr
      clear hnm hlf htl hmr
      go_wp2_with fail
      refine (next_calls wr g n c p a P ml HLX.out hg0 HMR.out).mono ?_
      rw [HNM.out]
      rintro e w5 ⟨rfl, -, hL5, hg5⟩
      have HL5 := Lib.hid hL5
      have HG5 := Lib.hid (grown_trans HGR.out hg5)
      clear hL5 hg5
      obtain ⟨kd, mk, tx, ps⟩ := t
      unfold Tok.val
      dsimp only
      go_upto_region 9 with (fail)
      obtain ⟨W6, hW6⟩ : ∃ W6, W6 = w5.alloc (.cells #[.int .u8 (kd : Nat), .int .u8 (mk : Nat), .string (bstr tx), .int .i64 (ps : Nat)] 30) := ⟨_, rfl⟩
      have HG6 : Hid (w3.grownBy W6 (some g)) := Lib.hid (by rw [hW6]; exact grown_trans HG5.out (grown_below ((Below.refl _ _).alloc (Nat.le_refl _) _)))
      have HL6 : Hid (Lx W6 g a n c P nx) := Lib.hid (by rw [hW6]; exact HL5.out.below ((Below.refl _ _).alloc (Nat.le_refl _) _))
      have T6 : W6.heap[w5.heap.size]? = some (.cells #[.int .u8 (kd : Nat), .int .u8 (mk : Nat), .string (bstr tx), .int .i64 (ps : Nat)] 30) := by rw [hW6]; exact heap_alloc_new _ _
      rw [← hW6]
      clear hW6
      obtain ⟨ct, ft, zt⟩ := blk3 T6
      clear T6
      have HO6 : Hid (W6.ownsRow W2.heap.size 34 4 (.slice A m cp) m (toks l)) := Lib.hid (HO.out.kept HG6.out (by
        refine .inr fun e => ?_
        have := (World.ownsRow.lt HO.out _ e).1
        omega))
      obtain ⟨gr, rfl, hgr, hmc, hcells⟩ := own_tok HO6.out HLM.out HTL.out
      have c0 := hcells 0 (by decide)
      have c1 := hcells 1 (by decide)
      have c2 := hcells 2 (by decide)
      have c3 := hcells 3 (by decide)
      rw [Nat.add_zero] at c0
      simp only [List.getElem?_cons_zero, List.getElem?_cons_succ] at c0 c1 c2 c3
      clear hcells
      go_quiet (fail)
      clear ct ft zt c0 c1 c2 c3
      go_wp2_with fail
      go_roundg (m - (i + 1))
      case measure => have := HK.out; omega
      case rel => exact ⟨i + 1, nx, by go_num, by omega, hnx, rfl, HLF2, HL6.out.drewN _, grown_drewN HG6.out _⟩
    · obtain rfl : m = i := by omega
      have hmr : wr.cell? ⟨0, 0, none⟩ = some (.int .i64 ml) := grown_cell HGR.out (Ne.symm hg0) HM3.out
      have HMR := Lib.hid hmr
      have hlf := HLF.out
      rw [List.drop_eq_nil_of_le (by rw [HLM.out]; exact Nat.le_refl _)] at hlf
      have hmm : ¬ (m : Int) < (m : Int) := by omega
      have HBR : Hid (∀ W5, wr.grownBy W5 (some g) → Below w.heap.size w W5) := Lib.hid (fun W5 h5 => HB1.out.trans ((below_grown (HB2.out.trans (HB3.out.mono HB2.out.size)) (by rw [HG.out]; exact Nat.le_refl _) (grown_trans HGR.out h5)).mono HB1.out.size))
      clear hmr
      rcases left_end hlf HLEN.out with ⟨b, rfl, hnm⟩ | ⟨rfl, hnm⟩
      · have HNM := Lib.hid hnm
        clear hnm hlf
        have hb0 : (0 : Int) ≤ (b : Int) := by omega
        go_wp2_with fail
        refine (next_calls wr g n c p a P ml HLX.out hg0 HMR.out).mono ?_
        rw [HNM.out]
        rintro e w5 ⟨rfl, hL5, hg5⟩
        have HB5 := Lib.hid (HBR.out _ hg5)
        clear hL5 hg5
        unfold noTok
        go_wp2_with fail
        go_ret
        exact ⟨rfl, HB5.out.alloc HB5.out.size _⟩
      · have HNM := Lib.hid hnm
        clear hnm hlf
        go_wp2_with fail
        refine (next_calls wr g n c p a P ml HLX.out hg0 HMR.out).mono ?_
        rw [HNM.out]
        rintro e w5 ⟨rfl, -, hL5, hg5⟩
        have HB5 := Lib.hid (HBR.out _ hg5)
        clear hL5 hg5
        rw [show (⟨0, 0, [], n⟩ : Tok).val = .agg #[.int .u8 0, .int .u8 0, .string ⟨#[]⟩, .int .i64 (n : Nat)] from rfl]
        go_wp2_with fail
        go_ret
        exact ⟨rfl, HB5.out.alloc HB5.out.size _⟩
theorem lexTokens_no (w : World) (a : Option Addr) (n c : Nat) (ml : Int) (hml : w.cell? ⟨0, 0, none⟩ = some (.int .i64 ml)) (hm : n ≤ maxLen) (hn : ¬ n ≤ 400) : Calls Try.prog 3 #[.slice a n c] w (Yes w) := by
  have HML := Lib.hid hml
  unfold maxLen at hm
  have hgt : (400 : Int) < (n : Int) := by omega
  clear hml hn
  go_enter Try.func3, Try.ntmps3
  go_wp2_with fail
  refine (awake_calls _ ml HML.out).mono ?_
  rintro e w1 ⟨rfl, hb1⟩
  have HB1 := Lib.hid hb1
  have HM1 := Lib.hid (ml_below HML.out hb1)
  clear hb1
  go_wp2_with fail
  refine (awake_calls _ ml HM1.out).mono ?_
  rintro e w2 ⟨rfl, hb2⟩
  have HB2 := Lib.hid (HB1.out.trans (hb2.mono HB1.out.size))
  clear hb2
  go_wp2
  go_ret
  exact ⟨rfl, HB2.out⟩
end Go.Proofs.Ytjebanfmnfofnaa

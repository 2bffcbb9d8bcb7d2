/-
  lex.Place (function 14), the document's Place (15), lex.Syntax (16): line and column of a place.
-/
import Derived.Test.YtjebanfmnfofnaaAwake
import Derived.Test.YtjebanfmnfofnaaCame
import Derived.Deep.CutRange
set_option linter.unusedSimpArgs false
set_option linter.unusedVariables false
namespace Go.Proofs.Ytjebanfmnfofnaa
open Go.RowKit
theorem max2_i (k k' : IntKind) (x y : Int) : Builtin.max2 (.int k x) (.int k' y) = pure (.int k (if x < y then y else x)) := by simp only [Builtin.max2, gt_iff_lt]
theorem max_pair (ats : Array TypeId) (ty : TypeId) (a b : Value) : Builtin.max_ ats ty #[a, b] = (Builtin.max2 a b >>= fun s => pure s) := by simp only [Builtin.max_, List.foldlM_cons, List.foldlM_nil]
attribute [local go_sem] min2_i min_pair max2_i max_pair
/-- A result that lies in memory. -/
theorem results_cell {fn : Func} {a : Tmp} {t : TypeId} (h : fn.results = #[.cell a t]) (tmps : Array Value) (P : Program) (w : World) : (results fn tmps).run P w = ((asAddr (tmps.getD a undef)) >>= fun p => loadVar t p).run P w := by
  simp [results, h]
/-- Line and column of a place. -/
def placeM (P : List Nat) : Nat → Nat × Nat
  | 0 => (1, 1)
  | k + 1 => if P[k]? = some 10 then ((placeM P k).1 + 1, 1) else ((placeM P k).1, (placeM P k).2 + 1)
theorem placeM_le (P : List Nat) (k : Nat) : (placeM P k).1 ≤ k + 1 ∧ (placeM P k).2 ≤ k + 1 := by
  induction k with
  | zero => exact ⟨Nat.le_refl _, Nat.le_refl _⟩
  | succ k ih =>
    rw [placeM]
    split
    · exact ⟨by show (placeM P k).1 + 1 ≤ _; omega, by show 1 ≤ _; omega⟩
    · exact ⟨by show (placeM P k).1 ≤ _; omega, by show (placeM P k).2 + 1 ≤ _; omega⟩
theorem ReadsU.at {w : World} {a : Option Addr} {n j : Nat} {L : List Nat} (h : ReadsU w a n L) (hj : j < n) : ∃ b off x, a = some ⟨b, off, none⟩ ∧ L[j]? = some x ∧ x < 256 ∧ w.cell? ⟨b, off + j, none⟩ = some (.int .u8 (x : Nat)) := by
  obtain ⟨hl, hb, hr⟩ := h
  obtain ⟨b, off, e, hc⟩ := hr (by omega)
  have hx := List.getElem?_eq_getElem (show j < L.length by omega)
  exact ⟨b, off, _, e, hx, hb _ (List.getElem_mem _), hc j _ hx⟩
theorem ReadsU.below {w w' : World} {a : Option Addr} {n : Nat} {L : List Nat} (h : ReadsU w a n L) (hb : Below w.heap.size w w') : ReadsU w' a n L :=
  ⟨h.1, h.2.1, fun hp => by
    obtain ⟨b, off, e, hc⟩ := h.2.2 hp
    exact ⟨b, off, e, fun j u hu => (hb.cell (p := ⟨b, off + j, none⟩) (World.block_lt_of_cell? w _ (hc j u hu))).trans (hc j u hu)⟩⟩
set_option maxRecDepth 20000 in
set_option maxHeartbeats 1000000 in
theorem place_calls (w : World) (a : Option Addr) (n c K : Nat) (at_ : Int) (P : List Nat) (h : ReadsU w a n P) (hn : n ≤ 4000) (hnc : n ≤ c) (hK : (at_ < 0 ∧ K = 0) ∨ ((n : Int) < at_ ∧ K = n) ∨ (at_ = (K : Int) ∧ K ≤ n)) :
    Calls Try.prog 14 #[.slice a n c, .int .i64 at_] w fun e w' => e = .returned (.tuple #[.int .i64 ((placeM P K).1 : Nat), .int .i64 ((placeM P K).2 : Nat)]) ∧ w = w' := by
  have H := Lib.hid h
  have hKn : K ≤ n := by omega
  clear h
  go_enter Try.func14, Try.ntmps14
  go_upto_region 1 with (fail)
  go_cut [1] from 10 to 14 (fun s1 wx => s1 = .int .i64 (K : Nat) ∧ wx = w)
  case first =>
    rcases hK with ⟨h0, rfl⟩ | ⟨h1, rfl⟩ | ⟨rfl, h2⟩
    · go_wp2_with fail
      go_meet
      case rel => exact ⟨rfl, rfl⟩
    · have h0 : ¬ at_ < 0 := by omega
      go_wp2_with fail
      go_meet
      case rel => exact ⟨rfl, rfl⟩
    · go_wp2_with fail
      all_goals
        go_meet
        case rel => exact ⟨by go_num, rfl⟩
  case rest =>
    obtain ⟨rfl, rfl⟩ := hcut
    clear hK
    go_wp2_with fail
    go_loop [6, 7, 19] (fun s6 s7 s19 => ∃ j : Nat, j ≤ K ∧ s19 = .int .i64 j ∧ s6 = .int .i64 ((placeM P j).1 : Nat) ∧ s7 = .int .i64 ((placeM P j).2 : Nat)) (fun _ _ s19 => K - (intOf s19).toNat)
    case atStart => exact ⟨0, Nat.zero_le _, rfl, rfl, rfl⟩
    case round =>
      obtain ⟨j, hj, rfl, rfl, rfl⟩ := hrel
      by_cases hlt : j < K
      · obtain ⟨b, off, x, rfl, hx, x256, xc⟩ := H.out.at (j := j) (by omega)
        obtain ⟨hl1, hl2⟩ := placeM_le P j
        obtain ⟨l, hl⟩ : ∃ l, l = (placeM P j).1 := ⟨_, rfl⟩
        obtain ⟨q, hq⟩ : ∃ q, q = (placeM P j).2 := ⟨_, rfl⟩
        rw [← hl] at hl1 ⊢
        rw [← hq] at hl2 ⊢
        have HX := Lib.hid hx
        have HLQ := Lib.hid (And.intro hl hq)
        clear hx hl hq
        by_cases h10 : x = 10
        · subst h10
          have HP : Hid (placeM P (j + 1) = (l + 1, 1)) := Lib.hid (by rw [placeM, if_pos HX.out, ← HLQ.out.1])
          go_wp2
          go_round
          case rel => exact ⟨j + 1, by omega, by go_num, by rw [HP.out]; go_num, by rw [HP.out]; rfl⟩
          case measure => simp [intOf]; omega
        · have k10 : ((x : Int) == 10) = false := by rw [beq_eq_false_iff_ne]; omega
          have HP : Hid (placeM P (j + 1) = (l, q + 1)) := Lib.hid (by rw [placeM, if_neg (by rw [HX.out]; intro e; injection e with e; exact h10 e), ← HLQ.out.1, ← HLQ.out.2])
          go_wp2
          go_round
          case rel => exact ⟨j + 1, by omega, by go_num, by rw [HP.out], by rw [HP.out]; go_num⟩
          case measure => simp [intOf]; omega
      · obtain rfl : K = j := by omega
        go_wp2
        go_ret2
        exact ⟨rfl, rfl⟩
set_option maxRecDepth 20000 in
set_option maxHeartbeats 1000000 in
theorem rplace_calls (w : World) (a : Option Addr) (n c K : Nat) (P : List Nat) (h : ReadsU w a n P) (hn : n ≤ 4000) (hK : K ≤ n) :
    Calls Try.prog 15 #[.slice a n c, .int .i64 (K : Nat)] w fun e w' => e = .returned (.tuple #[.int .i64 ((placeM P K).1 : Nat), .int .i64 ((placeM P K).2 : Nat)]) ∧ w = w' := by
  have H := Lib.hid h
  clear h
  go_enter Try.func15, Try.ntmps15
  go_wp2_with fail
  go_loop [6, 7, 8] (fun s6 s7 s8 => ∃ j : Nat, j ≤ K ∧ s8 = .int .i64 j ∧ s6 = .int .i64 ((placeM P j).1 : Nat) ∧ s7 = .int .i64 ((placeM P j).2 : Nat)) (fun _ _ s8 => K - (intOf s8).toNat)
  case atStart => exact ⟨0, Nat.zero_le _, rfl, rfl, rfl⟩
  case round =>
    obtain ⟨j, hj, rfl, rfl, rfl⟩ := hrel
    by_cases hlt : j < K
    · obtain ⟨b, off, x, rfl, hx, x256, xc⟩ := H.out.at (j := j) (by omega)
      obtain ⟨hl1, hl2⟩ := placeM_le P j
      obtain ⟨l, hl⟩ : ∃ l, l = (placeM P j).1 := ⟨_, rfl⟩
      obtain ⟨q, hq⟩ : ∃ q, q = (placeM P j).2 := ⟨_, rfl⟩
      rw [← hl] at hl1 ⊢
      rw [← hq] at hl2 ⊢
      have HX := Lib.hid hx
      have HLQ := Lib.hid (And.intro hl hq)
      have hjn : (j : Int) < (n : Int) := by omega
      have hjK : (j : Int) < (K : Int) := by omega
      clear hx hl hq
      by_cases h10 : x = 10
      · subst h10
        have HP : Hid (placeM P (j + 1) = (l + 1, 1)) := Lib.hid (by rw [placeM, if_pos HX.out, ← HLQ.out.1])
        go_wp2
        go_round
        case rel => exact ⟨j + 1, by omega, by go_num, by rw [HP.out]; go_num, by rw [HP.out]; rfl⟩
        case measure => simp [intOf]; omega
      · have k10 : ((x : Int) == 10) = false := by rw [beq_eq_false_iff_ne]; omega
        have HP : Hid (placeM P (j + 1) = (l, q + 1)) := Lib.hid (by rw [placeM, if_neg (by rw [HX.out]; intro e; injection e with e; exact h10 e), ← HLQ.out.1, ← HLQ.out.2])
        go_wp2
        go_round
        case rel => exact ⟨j + 1, by omega, by go_num, by rw [HP.out], by rw [HP.out]; go_num⟩
        case measure => simp [intOf]; omega
    · obtain rfl : K = j := by omega
      by_cases hKn : K < n
      · have k1 : (K : Int) < (n : Int) := by omega
        go_wp2
        go_ret2
        exact ⟨rfl, rfl⟩
      · obtain rfl : n = K := by omega
        go_wp2
        go_ret2
        exact ⟨rfl, rfl⟩
def faultV (K l q : Nat) : Value := .agg #[.int .i64 7, .int .i64 (K : Nat), .int .i64 (l : Nat), .int .i64 (q : Nat), .int .i64 0, .int .i64 (-1), .int .i64 (-1)]
set_option maxRecDepth 20000 in
set_option maxHeartbeats 1000000 in
theorem syntax_calls (w : World) (a : Option Addr) (n c K : Nat) (P : List Nat) (h : ReadsU w a n P) (hn : n ≤ 4000) (hnc : n ≤ c) (hK : K ≤ n) :
    Calls Try.prog 16 #[.slice a n c, .int .i64 (K : Nat)] w fun e w' => e = .returned (faultV K (placeM P K).1 (placeM P K).2) ∧ Below w.heap.size w w' := by
  have H := Lib.hid h
  have hb2 : ∀ o1 o2, Below w.heap.size w ((w.alloc o1).alloc o2) := fun o1 o2 => ((Below.refl _ _).alloc (Nat.le_refl _) _).alloc (by simp) _
  have HB2 := Lib.hid hb2
  clear h hb2
  go_enter Try.func16, Try.ntmps16
  go_wp2_with fail
  refine (place_calls _ a n c K (K : Int) P (H.out.below (HB2.out _ _)) hn hnc (.inr (.inr ⟨rfl, hK⟩))).mono ?_
  rintro e w2 ⟨rfl, rfl⟩
  go_wp2_with fail
  exact bodyPost_ret (v := .agg #[.int .i64 7, .int .i64 (K : Nat), .int .i64 ((placeM P K).1 : Nat), .int .i64 ((placeM P K).2 : Nat), .int .i64 0, .int .i64 (-1), .int .i64 (-1)]) (by rw [results_cell rfl]; go_simp) rfl ⟨rfl, HB2.out _ _⟩
set_option maxRecDepth 20000 in
set_option maxHeartbeats 1000000 in
theorem lexPlaces_walk (w : World) (a : Option Addr) (n c : Nat) (at_ : Int) (P : List Nat) (ml : Int) (hml : w.cell? ⟨0, 0, none⟩ = some (.int .i64 ml)) (h : ReadsU w a n P) (hn : n ≤ 300) (hnc : n ≤ c) (hat : -9223372036854775808 ≤ at_ ∧ at_ ≤ 9223372036854775807) :
    Calls Try.prog 7 #[.slice a n c, .int .i64 at_] w (Yes w) := by
  have H := Lib.hid h
  have HML := Lib.hid hml
  obtain ⟨hat1, hat2⟩ := hat
  clear h hml
  obtain ⟨K, hK, hKn⟩ : ∃ K : Nat, ((at_ < 0 ∧ K = 0) ∨ ((n : Int) < at_ ∧ K = n) ∨ (at_ = (K : Int) ∧ K ≤ n)) ∧ K ≤ n := by
    by_cases h1 : at_ < 0
    · exact ⟨0, .inl ⟨h1, rfl⟩, Nat.zero_le _⟩
    · by_cases h2 : (n : Int) < at_
      · exact ⟨n, .inr (.inl ⟨h2, rfl⟩), Nat.le_refl _⟩
      · exact ⟨at_.toNat, .inr (.inr ⟨by omega, by omega⟩), by omega⟩
  have HK := Lib.hid hK
  have hn' : ¬ (300 : Int) < (n : Int) := by omega
  clear hK
  go_enter Try.func7, Try.ntmps7
  go_wp2_with fail
  refine (awake_calls _ ml HML.out).mono ?_
  rintro e w1 ⟨rfl, hb1⟩
  have HB1 := Lib.hid hb1
  have H1 := Lib.hid (H.out.below hb1)
  clear hb1
  go_upto_region 3 with (fail)
  go_cut [5] from 19 to 23 (fun s5 wx => s5 = .int .i64 (K : Nat) ∧ wx = w1)
  case first =>
    have hK := HK.out
    rcases hK with ⟨h0, rfl⟩ | ⟨h1, rfl⟩ | ⟨rfl, h2⟩
    · go_wp2_with fail
      go_meet
      case rel => exact ⟨rfl, rfl⟩
    · have h0 : ¬ at_ < 0 := by omega
      go_wp2_with fail
      go_meet
      case rel => exact ⟨rfl, rfl⟩
    · go_wp2_with fail
      all_goals
        go_meet
        case rel => exact ⟨by go_num, rfl⟩
  case rest =>
    obtain ⟨rfl, rfl⟩ := hcut
    obtain ⟨l, hl⟩ : ∃ l, l = (placeM P K).1 := ⟨_, rfl⟩
    obtain ⟨q, hq⟩ : ∃ q, q = (placeM P K).2 := ⟨_, rfl⟩
    have hp1 := place_calls wc a n c K at_ P H1.out (by omega) hnc HK.out
    have hp2 := rplace_calls wc a n c K P H1.out (by omega) hKn
    have hp3 := syntax_calls wc a n c K P H1.out (by omega) hnc hKn
    rw [← hl, ← hq] at hp1 hp2 hp3
    have HP := Lib.hid (And.intro hp1 (And.intro hp2 hp3))
    clear hp1 hp2 hp3 hl hq
    go_wp2_with fail
    refine HP.out.1.mono ?_
    rintro e w2 ⟨rfl, rfl⟩
    go_wp2_with fail
    refine HP.out.2.1.mono ?_
    rintro e w2 ⟨rfl, rfl⟩
    go_wp2_with fail
    refine HP.out.2.2.mono ?_
    rintro e w2 ⟨rfl, hb2⟩
    have HB2 := Lib.hid (HB1.out.trans (hb2.mono HB1.out.size))
    clear hb2
    unfold faultV
    go_wp2_with fail
    go_ret
    exact ⟨rfl, HB2.out.alloc HB2.out.size _⟩
set_option maxRecDepth 20000 in
theorem lexPlaces_no (w : World) (a : Option Addr) (n c : Nat) (at_ : Int) (ml : Int) (hml : w.cell? ⟨0, 0, none⟩ = some (.int .i64 ml)) (hm : n ≤ maxLen) (hn : ¬ n ≤ 300) : Calls Try.prog 7 #[.slice a n c, .int .i64 at_] w (Yes w) := by
  have HML := Lib.hid hml
  unfold maxLen at hm
  have hgt : (300 : Int) < (n : Int) := by omega
  clear hml hn
  go_enter Try.func7, Try.ntmps7
  go_wp2_with fail
  refine (awake_calls _ ml HML.out).mono ?_
  rintro e w1 ⟨rfl, hb1⟩
  have HB1 := Lib.hid hb1
  have HM1 := Lib.hid (ml_below HML.out hb1)
  clear hb1
  go_wp2_with fail
  refine (awake_calls _ ml HM1.out).mono ?_
  rintro e w2 ⟨rfl, hb2⟩
  have HB2 := Lib.hid (HB1.out.trans (hb2.mono HB1.out.size))
  clear hb2
  go_wp2
  go_ret
  exact ⟨rfl, HB2.out⟩
end Go.Proofs.Ytjebanfmnfofnaa

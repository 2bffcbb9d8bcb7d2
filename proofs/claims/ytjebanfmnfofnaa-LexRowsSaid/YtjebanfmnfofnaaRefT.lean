/-
  The document's Tokens (function 12): all tokens of a text, and where none stands. No statement of its own.
-/
import Derived.Test.YtjebanfmnfofnaaRefO
set_option linter.unusedSimpArgs false
set_option linter.unusedVariables false
namespace Go.Proofs.Ytjebanfmnfofnaa
open Go.RowKit
theorem quoted_bound (P : List Nat) : ∀ m i acc s e, P.length - i = m → quoted P i acc = .ok (s, e) → i < e ∧ e ≤ P.length := by
  intro m
  induction m using Nat.strongRecOn with
  | ind m ih =>
  intro i acc s e hm h
  rw [quoted] at h
  split at h
  · rename_i hi
    split at h
    · injection h with h
      injection h with h1 h2
      omega
    · split at h
      · split at h
        · cases h
        · rename_i h0
          have := ih _ (by omega) _ _ _ _ rfl h
          omega
      · split at h
        · cases h
        · have := ih _ (by omega) _ _ _ _ rfl h
          omega
  · cases h
theorem run_gt {q : Nat → Bool} {P : List Nat} {i x : Nat} (h : P[i]? = some x) (hq : q x = true) : i < run q P i ∧ run q P i ≤ P.length := by
  have hi := (List.getElem?_eq_some_iff.1 h).1
  rw [run_step h hq]
  exact ⟨run_ge q P (i + 1), run_le (by omega)⟩
theorem nameAt_bound {P : List Nat} {i e : Nat} {s : List Nat} (h : nameAt P i = .ok (s, e)) : i < e ∧ e ≤ P.length := by
  unfold nameAt at h
  cases hx : P[i]? with
  | none => rw [hx] at h; cases h
  | some x =>
    rw [hx] at h
    replace h : (if x = 34 then quoted P (i + 1) [] else if isLetter x = true then Except.ok ((P.drop i).take (run isNameC P i - i), run isNameC P i) else Except.error i) = Except.ok (s, e) := h
    split at h
    · have := quoted_bound P _ _ _ _ _ rfl h
      omega
    · split at h
      · rename_i hl
        injection h with h
        injection h with h1 h2
        have := run_gt (q := isNameC) hx (by unfold isNameC; rw [hl]; rfl)
        omega
      · cases h
theorem tokAt_bound {P : List Nat} {k nx : Nat} {t : Tok} (h : tokAt P k = .ok (t, nx)) : k < nx ∧ nx ≤ P.length := by
  unfold tokAt at h
  cases hx : P[k]? with
  | none => rw [hx] at h; cases h
  | some x =>
    rw [hx] at h
    have hk := (List.getElem?_eq_some_iff.1 hx).1
    replace h : (if isSign x = true then Except.ok ((⟨3, 0, [x], k⟩ : Tok), k + 1) else if isMark x = true then (match nameAt P (k + 1) with | .ok (s, e) => Except.ok (⟨2, x, s, k⟩, e) | .error e => Except.error e) else if isLower x = true then Except.ok (⟨1, 0, (P.drop k).take (run isLower P k - k), k⟩, run isLower P k) else Except.error k) = Except.ok (t, nx) := h
    split at h
    · injection h with h
      injection h with h1 h2
      omega
    · split at h
      · cases hn : nameAt P (k + 1) with
        | error e => rw [hn] at h; cases h
        | ok r =>
          obtain ⟨s, e⟩ := r
          rw [hn] at h
          injection h with h
          injection h with h1 h2
          have := nameAt_bound hn
          omega
      · split at h
        · rename_i hl
          injection h with h
          injection h with h1 h2
          have := run_gt (q := isLower) hx hl
          omega
        · cases h
/-- Tokens, as they lie in a row. -/
def toks (l : List Tok) : List Value := l.flatMap fun t => [.int .u8 (t.kind : Nat), .int .u8 (t.mark : Nat), .string (bstr t.text), .int .i64 (t.at_ : Nat)]
theorem toks_snoc (l : List Tok) (t : Tok) : toks l ++ [.int .u8 (t.kind : Nat), .int .u8 (t.mark : Nat), .string (bstr t.text), .int .i64 (t.at_ : Nat)] = toks (l ++ [t]) := by
  unfold toks
  rw [List.flatMap_append, List.flatMap_cons, List.flatMap_nil, List.append_nil]
theorem info34 : (Try.prog.info? 34).map (fun i => (i.zero, i.size, i.bytes)) = some (some (.agg #[.int .u8 0, .int .u8 0, .string ⟨#[]⟩, .int .i64 0]), 4, 32) := by kernel_rfl
theorem four_cells (k m : Nat) (s : ByteArray) (p : Nat) : ∀ u ∈ [Value.int .u8 (k : Nat), .int .u8 (m : Nat), .string s, .int .i64 (p : Nat)], u.oneCell' = true := by
  intro u hu
  simp only [List.mem_cons, List.not_mem_nil, or_false] at hu
  rcases hu with rfl | rfl | rfl | rfl <;> rfl
/-- What Tokens hands back. -/
def Tokd (w : World) (P : List Nat) (e : Ending) (w' : World) : Prop :=
  ∃ (l : List Tok) (bad : Int) (A : Option Addr) (cp : Nat), Toks P 0 l bad ∧ l.length ≤ P.length + 1 ∧ e = .returned (.tuple #[.slice A l.length cp, .int .i64 bad]) ∧ w'.ownsRow w.heap.size 34 4 (.slice A l.length cp) l.length (toks l) ∧ Below w.heap.size w w'
theorem tokd_of {w w' : World} {P : List Nat} {e : Ending} {l : List Tok} {bad : Int} {A : Option Addr} {m cp : Nat} (hl : l.length = m) (hm : m ≤ P.length + 1) (ht : Toks P 0 l bad) (he : e = .returned (.tuple #[.slice A m cp, .int .i64 bad])) (ho : w'.ownsRow w.heap.size 34 4 (.slice A m cp) m (toks l)) (hb : Below w.heap.size w w') : Tokd w P e w' := by
  subst hl
  exact ⟨l, bad, A, cp, ht, hm, he, ho, hb⟩
/-- Does a comment begin? -/
def opensC (P : List Nat) (j x : Nat) : Prop := x = 47 ∧ (P[j + 1]? = some 47 ∨ P[j + 1]? = some 42)
theorem isBlank_no {x : Nat} (h1 : x ≠ 32) (h2 : x ≠ 9) (h3 : x ≠ 10) (h4 : x ≠ 13) : isBlank x = false := by
  unfold isBlank
  simp [h1, h2, h3, h4]
set_option maxRecDepth 20000 in
set_option maxHeartbeats 4000000 in
theorem tokens_calls (w : World) (a : Option Addr) (n c : Nat) (P : List Nat) (h : ReadsU w a n P) (hn : n ≤ 4000) (hnc : n ≤ c) : Calls Try.prog 12 #[.slice a n c] w (Tokd w P) := by
  have H := Lib.hid h
  have HLEN := Lib.hid h.1
  clear h
  go_enter Try.func12, Try.ntmps12
  go_wp2_with fail
  go_loopg [4, 5, 6] n (fun gk s4 s5 s6 wr => ∃ (i m cp : Nat) (A : Option Addr) (acc : List Tok), s4 = .slice A m cp ∧ s5 = .int .i64 (i : Nat) ∧ i ≤ n ∧ Hid (gk = n - i) ∧ m ≤ i ∧ Hid (acc.length = m) ∧ Hid (∀ l b, Toks P i l b → Toks P 0 (acc ++ l) b) ∧ Hid (wr.ownsRow w.heap.size 34 4 (.slice A m cp) m (toks acc)) ∧ Hid (Below w.heap.size w wr))
  case atStart => exact ⟨0, 0, 0, none, [], rfl, rfl, Nat.zero_le _, rfl, Nat.le_refl _, rfl, fun l b h => h, World.ownsRow_nil _ _ _ _, Below.refl _ _⟩
  case round =>
    obtain ⟨i, m, cp, A, acc, rfl, rfl, hi, HK, hm, HM, HT, Owr, Bwr⟩ := hrel
    have HR := Lib.hid (H.out.below Bwr.out)
    go_wp2_with fail
    go_loopg [5, 6] (n - i) (fun gk s5 s6 wx => ∃ j : Nat, s5 = .int .i64 (j : Nat) ∧ i ≤ j ∧ j ≤ n ∧ Hid (gk = n - j) ∧ Hid (skip P j = skip P i) ∧ wx = wr)
    case atStart => exact ⟨i, rfl, Nat.le_refl _, hi, rfl, rfl, rfl⟩
    case round =>
      obtain ⟨j, rfl, hij, hj, HKJ, HS, rfl⟩ := hrel
      by_cases hlt : j < n
      · have hltI : (j : Int) < (n : Int) := by omega
        obtain ⟨b, off, x, rfl, hx, x256, xc⟩ := HR.out.at hlt
        have HX := Lib.hid hx
        clear hx
        go_upto_region 4 with (fail)
        go_cut [39] from 14 to 39 (fun s39 wx => s39 = .bool (isBlank x) ∧ wx = wr)
        case first =>
          by_cases h32 : x = 32
          · subst h32
            go_wp2_with fail
            go_meet
            case rel => exact ⟨rfl, rfl⟩
          · have k32 : ((x : Int) == 32) = false := by rw [beq_eq_false_iff_ne]; omega
            by_cases h9 : x = 9
            · subst h9
              clear k32
              go_wp2_with fail
              go_meet
              case rel => exact ⟨rfl, rfl⟩
            · have k9 : ((x : Int) == 9) = false := by rw [beq_eq_false_iff_ne]; omega
              by_cases h10 : x = 10
              · subst h10
                clear k32 k9
                go_wp2_with fail
                go_meet
                case rel => exact ⟨rfl, rfl⟩
              · have k10 : ((x : Int) == 10) = false := by rw [beq_eq_false_iff_ne]; omega
                by_cases h13 : x = 13
                · subst h13
                  clear k32 k9 k10
                  go_wp2_with fail
                  go_meet
                  case rel => exact ⟨rfl, rfl⟩
                · have k13 : ((x : Int) == 13) = false := by rw [beq_eq_false_iff_ne]; omega
                  have HB := Lib.hid (isBlank_no h32 h9 h10 h13)
                  clear h32 h9 h10 h13
                  go_wp2_with fail
                  go_meet
                  case rel => exact ⟨by rw [HB.out], rfl⟩
        case rest =>
          obtain ⟨rfl, rfl⟩ := hcut
          cases hb : isBlank x with
          | true =>
            have HB := Lib.hid hb
            clear hb
            go_wp2_with fail
            go_roundg (n - (j + 1))
            case measure => have := HKJ.out; omega
            case rel => exact ⟨j + 1, by go_num, by omega, by omega, rfl, by rw [← HS.out]; exact (skip_blank HX.out HB.out).symm, rfl⟩
          | false =>
            have HB := Lib.hid hb
            clear hb
            go_upto_region 6 with (fail)
            go_cut [69] from 42 to 69 (fun s69 wy => ∃ yes : Bool, s69 = .bool (!yes) ∧ wy = wc ∧ Hid (yes = true → opensC P j x) ∧ Hid (yes = false → ¬ opensC P j x))
            case first =>
              by_cases h47 : x = 47
              · subst h47
                by_cases hj1 : j + 1 < n
                · have hj1I : ¬ (n : Int) ≤ (j : Int) + 1 := by omega
                  obtain ⟨b1, off1, y, e1, hy, y256, yc⟩ := HR.out.at hj1
                  injection e1 with e1
                  injection e1 with e2 e3
                  subst e2 e3
                  have HY := Lib.hid hy
                  clear hy
                  by_cases y47 : y = 47
                  · subst y47
                    go_wp2_with fail
                    go_meet
                    case rel => exact ⟨true, rfl, rfl, fun _ => ⟨rfl, .inl HY.out⟩, fun e => by cases e⟩
                  · have k47 : ¬ (y : Int) = 47 := by omega
                    have k47' : ((y : Int) != 47) = true := by rw [bne_iff_ne]; exact k47
                    by_cases y42 : y = 42
                    · subst y42
                      clear k47 k47'
                      go_wp2_with fail
                      go_meet
                      case rel => exact ⟨true, rfl, rfl, fun _ => ⟨rfl, .inr HY.out⟩, fun e => by cases e⟩
                    · have k42 : ¬ (y : Int) = 42 := by omega
                      have k42' : ((y : Int) != 42) = true := by rw [bne_iff_ne]; exact k42
                      have HN : Hid (¬ (P[j + 1]? = some 47 ∨ P[j + 1]? = some 42)) := Lib.hid (by rw [HY.out]; rintro (h | h) <;> (injection h with h; omega))
                      clear y47 y42
                      go_wp2_with fail
                      go_meet
                      case rel => exact ⟨false, rfl, rfl, (fun e => by cases e), fun _ h => HN.out h.2⟩
                · have hj1I : (n : Int) ≤ (j : Int) + 1 := by omega
                  have HN : Hid (¬ (P[j + 1]? = some 47 ∨ P[j + 1]? = some 42)) := Lib.hid (by rw [List.getElem?_eq_none (by rw [HLEN.out]; omega)]; rintro (h | h) <;> cases h)
                  go_wp2_with fail
                  go_meet
                  case rel => exact ⟨false, rfl, rfl, (fun e => by cases e), fun _ h => HN.out h.2⟩
              · have k47 : ¬ (x : Int) = 47 := by omega
                have k47' : ((x : Int) != 47) = true := by rw [bne_iff_ne]; exact k47
                have HN := Lib.hid h47
                clear h47
                go_wp2_with fail
                go_meet
                case rel => exact ⟨false, rfl, rfl, (fun e => by cases e), fun _ h => HN.out h.1⟩
            case rest =>
              obtain ⟨yes, rfl, rfl, HYES, HNO⟩ := hcut
              cases yes with
              | true =>
                obtain ⟨rfl, hy⟩ := HYES.out rfl
                clear HYES HNO
                have hj1 : j + 1 < n := by
                  rcases hy with h | h <;> (have := (List.getElem?_eq_some_iff.1 h).1; rw [HLEN.out] at this; exact this)
                obtain ⟨b1, off1, y, e1, hy1, y256, yc⟩ := HR.out.at hj1
                injection e1 with e1
                injection e1 with e2 e3
                subst e2 e3
                have hy2 : y = 47 ∨ y = 42 := by
                  rw [hy1] at hy
                  rcases hy with h | h <;> (injection h with h; omega)
                have HY := Lib.hid hy1
                clear hy hy1
                have hj1I : (j : Int) + 1 < (n : Int) := by omega
                rcases hy2 with rfl | rfl
                · go_wp2_with fail
                  go_loop [6] (fun s6 => ∃ e : Nat, j + 2 ≤ e ∧ e ≤ n ∧ s6 = .int .i64 (e : Nat) ∧ Hid (run (fun c => c != 10) P e = run (fun c => c != 10) P (j + 2))) (fun s6 => n - (intOf s6).toNat)
                  case atStart => exact ⟨j + 2, Nat.le_refl _, by omega, by go_num, rfl⟩
                  case round =>
                    obtain ⟨e, hje, he, rfl, HE⟩ := hrel
                    by_cases hlt2 : e < n
                    · have hlt2I : (e : Int) < (n : Int) := by omega
                      obtain ⟨b1, off1, z, e1, hz, z256, zc⟩ := HR.out.at hlt2
                      injection e1 with e1
                      injection e1 with e2 e3
                      subst e2 e3
                      have HZ := Lib.hid hz
                      clear hz
                      by_cases z10 : z = 10
                      · subst z10
                        have HQ : Hid (run (fun c => c != 10) P (j + 2) = e) := Lib.hid (HE.out.symm.trans (run_no HZ.out rfl))
                        go_wp2_with fail
                        go_roundg (n - e)
                        case measure => have := HKJ.out; omega
                        case rel => exact ⟨e, rfl, by omega, by omega, rfl, by rw [← HS.out, skip_line HX.out HY.out, HQ.out]; exact rfl, rfl⟩
                      · have k10 : ¬ (z : Int) = 10 := by omega
                        have k10' : ((z : Int) != 10) = true := by rw [bne_iff_ne]; exact k10
                        have HQ : Hid (run (fun c => c != 10) P (e + 1) = run (fun c => c != 10) P (j + 2)) := Lib.hid (by rw [← HE.out]; exact (run_step HZ.out (by simp; exact z10)).symm)
                        clear z10
                        go_wp2_with fail
                        go_round
                        case measure => simp [intOf]; omega
                        case rel => exact ⟨e + 1, by omega, by omega, by go_num, HQ.out⟩
                    · have hlt2I : ¬ (e : Int) < (n : Int) := by omega
                      have HQ : Hid (run (fun c => c != 10) P (j + 2) = e) := Lib.hid (HE.out.symm.trans (run_end (by rw [HLEN.out]; omega)))
                      go_wp2_with fail
                      go_roundg (n - e)
                      case measure => have := HKJ.out; omega
                      case rel => exact ⟨e, rfl, by omega, by omega, rfl, by rw [← HS.out, skip_line HX.out HY.out, HQ.out]; exact rfl, rfl⟩
                · go_wp2_with fail
                  go_loop [6] (fun s6 => ∃ e : Nat, j + 2 ≤ e ∧ e ≤ n ∧ s6 = .int .i64 (e : Nat) ∧ Hid (findEnd P e = findEnd P (j + 2))) (fun s6 => n - (intOf s6).toNat)
                  case atStart => exact ⟨j + 2, Nat.le_refl _, by omega, by go_num, rfl⟩
                  case round =>
                    obtain ⟨e, hje, he, rfl, HE⟩ := hrel
                    by_cases hlt2 : e + 1 < n
                    · have hlt2I : (e : Int) + 1 < (n : Int) := by omega
                      have hlt3I : ¬ (n : Int) ≤ (e : Int) + 1 := by omega
                      have hlt4I : (e : Int) < (n : Int) := by omega
                      obtain ⟨b1, off1, z, e1, hz, z256, zc⟩ := HR.out.at (show e < n by omega)
                      injection e1 with e1
                      injection e1 with e2 e3
                      subst e2 e3
                      obtain ⟨b1, off1, z2, e1, hz2, z2256, z2c⟩ := HR.out.at hlt2
                      injection e1 with e1
                      injection e1 with e2 e3
                      subst e2 e3
                      have HZ := Lib.hid hz
                      have HZ2 := Lib.hid hz2
                      clear hz hz2
                      by_cases z42 : z = 42
                      · subst z42
                        by_cases z47 : z2 = 47
                        · subst z47
                          have HQ : Hid (findEnd P (j + 2) = e) := Lib.hid (HE.out.symm.trans (findEnd_yes HZ.out HZ2.out))
                          go_wp2_with fail
                          go_roundg (n - (e + 2))
                          case measure => have := HKJ.out; omega
                          case rel => exact ⟨e + 2, by go_num, by omega, by omega, rfl, by rw [← HS.out, skip_long HX.out HY.out (by rw [HQ.out, HLEN.out]; exact hlt2), HQ.out]; exact rfl, rfl⟩
                        · have k47 : ¬ (z2 : Int) = 47 := by omega
                          have k47' : ((z2 : Int) != 47) = true := by rw [bne_iff_ne]; exact k47
                          have HQ : Hid (findEnd P (e + 1) = findEnd P (j + 2)) := Lib.hid (by rw [← HE.out]; exact (findEnd_no HZ.out (fun h => by have := h.2; rw [HZ2.out] at this; injection this with this; exact z47 this)).symm)
                          clear z47
                          go_wp2_with fail
                          go_round
                          case measure => simp [intOf]; omega
                          case rel => exact ⟨e + 1, by omega, by omega, by go_num, HQ.out⟩
                      · have k42 : ¬ (z : Int) = 42 := by omega
                        have k42' : ((z : Int) != 42) = true := by rw [bne_iff_ne]; exact k42
                        have HQ : Hid (findEnd P (e + 1) = findEnd P (j + 2)) := Lib.hid (by rw [← HE.out]; exact (findEnd_no HZ.out (fun h => z42 h.1)).symm)
                        clear z42
                        go_wp2_with fail
                        go_round
                        case measure => simp [intOf]; omega
                        case rel => exact ⟨e + 1, by omega, by omega, by go_num, HQ.out⟩
                    · have hlt2I : ¬ (e : Int) + 1 < (n : Int) := by omega
                      have hlt3I : (n : Int) ≤ (e : Int) + 1 := by omega
                      have HT2 : Hid (Toks P i [] (j : Nat)) := Lib.hid (.bad (HS.out.symm.trans (skip_open HX.out HY.out (by
                        have := findEnd_ge P e
                        rw [← HE.out, HLEN.out]
                        omega))))
                      go_wp2_with fail
                      refine bodyPost_ret (v := .tuple #[.slice A m cp, .int .i64 (j : Nat)]) ?_ rfl (tokd_of HM.out (by rw [HLEN.out]; omega) (by have := HT.out _ _ HT2.out; rwa [List.append_nil] at this) rfl Owr.out Bwr.out)
                      simp [results, Try.results12, go_sem]
              | false =>
                have HSK : Hid (skip P i = .ok j) := Lib.hid (HS.out.symm.trans (skip_no HX.out HB.out (HNO.out rfl)))
                clear HYES HNO
                have hjn2 : ¬ (n : Int) ≤ (j : Int) := by omega
                go_upto_region 19 with (fail)
                cases ht : tokAt P j with
                | error bd =>
                  have HTK := Lib.hid ht
                  have HT2 : Hid (Toks P i [] (bd : Nat)) := Lib.hid (.err HSK.out (by rw [HLEN.out]; exact hlt) ht)
                  clear ht
                  go_wp2_with fail
                  refine (one_calls _ _ _ _ _ P HR.out hn hnc hlt).mono ?_
                  rintro e w8 hon
                  obtain ⟨he, hb8⟩ := hon
                  rw [HTK.out] at he
                  dsimp only at he
                  subst he
                  have HB8 := Lib.hid hb8
                  clear hb8
                  unfold noTok
                  go_upto_region 20 with (fail)
                  obtain ⟨W7, hW7⟩ : ∃ W7, W7 = w8.alloc (.cells #[.int .u8 (0), .int .u8 (0), .string (⟨#[]⟩), .int .i64 (0)] 34) := ⟨_, rfl⟩
                  have BW7 : Hid (Below w.heap.size w W7) := Lib.hid (by rw [hW7]; exact (Bwr.out.trans (HB8.out.mono Bwr.out.size)).alloc (by have h1 := Bwr.out.size; have h2 := HB8.out.size; omega) _)
                  have OW7 : Hid (W7.ownsRow w.heap.size 34 4 (.slice A m cp) m (toks acc)) := Lib.hid (by rw [hW7]; exact own_below Owr.out (HB8.out.alloc HB8.out.size _))
                  first
                  | rw [← hW7]
                  | (show Code.wp _ _ _ _ _ ; rw [hW7.symm])
                  clear hW7
                  go_wp2_with fail
                  refine bodyPost_ret (v := .tuple #[.slice A m cp, .int .i64 (bd : Nat)]) ?_ rfl (tokd_of HM.out (by rw [HLEN.out]; omega) (by have := HT.out _ _ HT2.out; rwa [List.append_nil] at this) rfl OW7.out BW7.out)
                  simp [results, Try.results12, go_sem]
                | ok r =>
                  obtain ⟨⟨kd, mk, tx, p⟩, nx⟩ := r
                  have hbd := tokAt_bound ht
                  rw [HLEN.out] at hbd
                  have HTK := Lib.hid ht
                  have HT2 : Hid (∀ l b, Toks P nx l b → Toks P i (⟨kd, mk, tx, p⟩ :: l) b) := Lib.hid (fun l b hl => .cons HSK.out (by rw [HLEN.out]; exact hlt) ht hl)
                  clear ht
                  obtain ⟨hjx, hxn⟩ := hbd
                  go_wp2_with fail
                  refine (one_calls _ _ _ _ _ P HR.out hn hnc hlt).mono ?_
                  rintro e w8 hon
                  obtain ⟨he, hb8⟩ := hon
                  rw [HTK.out] at he
                  dsimp only [Tok.val] at he
                  subst he
                  have HB8 := Lib.hid hb8
                  clear hb8
                  go_upto_region 20 with (fail)
                  obtain ⟨W7, hW7⟩ : ∃ W7, W7 = w8.alloc (.cells #[.int .u8 ((kd : Nat) : Int), .int .u8 ((mk : Nat) : Int), .string (bstr tx), .int .i64 ((p : Nat) : Int)] 34) := ⟨_, rfl⟩
                  have BW7 : Hid (Below w.heap.size w W7) := Lib.hid (by rw [hW7]; exact (Bwr.out.trans (HB8.out.mono Bwr.out.size)).alloc (by have h1 := Bwr.out.size; have h2 := HB8.out.size; omega) _)
                  have OW7 : Hid (W7.ownsRow w.heap.size 34 4 (.slice A m cp) m (toks acc)) := Lib.hid (by rw [hW7]; exact own_below Owr.out (HB8.out.alloc HB8.out.size _))
                  have T7 : W7.heap[w8.heap.size]? = some (.cells #[.int .u8 (kd : Nat), .int .u8 (mk : Nat), .string (bstr tx), .int .i64 (p : Nat)] 34) := by rw [hW7]; exact heap_alloc_new _ _
                  rw [← hW7]
                  clear hW7
                  obtain ⟨ct, ft, zt⟩ := blk3 T7
                  clear T7
                  have HZ9 : Hid (∀ o, w.heap.size ≤ (W7.alloc o).heap.size) := Lib.hid (fun o => by have := BW7.out.size; simp; omega)
                  have HB9 : Hid (∀ o, Below w.heap.size w (W7.alloc o)) := Lib.hid (fun o => BW7.out.alloc BW7.out.size _)
                  go_wp2_with (at_builtin; refine append_row (B := w.heap.size) (w0 := w) rfl _ _ 26 34 (.agg #[.int .u8 0, .int .u8 0, .string ⟨#[]⟩, .int .i64 0]) 4 32 rfl Try.underlying26 info34 rfl (by decide) _ m _ rfl (own_below OW7.out ((Below.refl _ _).alloc (Nat.le_refl _) _)) ⟨W7.heap.size, 0, none⟩ 1 1 [.int .u8 (kd : Nat), .int .u8 (mk : Nat), .string (bstr tx), .int .i64 (p : Nat)] rfl rfl (new_cells _ _ _ _) (four_cells _ _ _ _) (HZ9.out _) (HB9.out _) (by omega) (by omega) ?_; intro v1 w9 hown hb9 hg9; obtain ⟨A1, cp1, rfl, _, _⟩ := own_shape hown; have HO1 := Lib.hid hown; have HB1 := Lib.hid hb9; clear hown hb9 hg9)
                  have HO2 : Hid (w9.ownsRow w.heap.size 34 4 (.slice A1 (m + 1) cp1) (m + 1) (toks (acc ++ [⟨kd, mk, tx, p⟩]))) := Lib.hid (by rw [← toks_snoc]; exact HO1.out)
                  go_roundg (n - nx)
                  case measure => have := HK.out; omega
                  case rel => exact ⟨nx, m + 1, cp1, A1, acc ++ [(⟨kd, mk, tx, p⟩ : Tok)], rfl, rfl, hxn, rfl, by omega, (by show (acc ++ [_]).length = m + 1; rw [List.length_append, HM.out]; rfl), (fun l b hl => by have := HT.out _ _ (HT2.out l b hl); rwa [List.append_assoc]), HO2, HB1⟩
      · obtain rfl : j = n := by omega
        have HT2 : Hid (Toks P i [⟨0, 0, [], j⟩] (-1)) := Lib.hid (by
          have := Toks.fin (P := P) (HS.out.symm.trans (skip_end (by rw [HLEN.out]; exact Nat.le_refl _))) (by rw [HLEN.out]; exact Nat.le_refl _)
          rwa [HLEN.out] at this)
        have hjj : ¬ (j : Int) < (j : Int) := by omega
        have hjj2 : (j : Int) ≤ (j : Int) := by omega
        have HZ9 : Hid (∀ o, w.heap.size ≤ (wr.alloc o).heap.size) := Lib.hid (fun o => by have := Bwr.out.size; simp; omega)
        have HB9 : Hid (∀ o, Below w.heap.size w (wr.alloc o)) := Lib.hid (fun o => Bwr.out.alloc Bwr.out.size _)
        go_wp2_with (at_builtin; refine append_row (B := w.heap.size) (w0 := w) rfl _ _ 26 34 (.agg #[.int .u8 0, .int .u8 0, .string ⟨#[]⟩, .int .i64 0]) 4 32 rfl Try.underlying26 info34 rfl (by decide) _ m _ rfl (own_below Owr.out ((Below.refl _ _).alloc (Nat.le_refl _) _)) ⟨wr.heap.size, 0, none⟩ 1 1 [.int .u8 ((0 : Nat) : Int), .int .u8 ((0 : Nat) : Int), .string (⟨#[]⟩), .int .i64 (j : Nat)] rfl rfl (new_cells _ _ _ _) (four_cells _ _ _ _) (HZ9.out _) (HB9.out _) (by omega) (by omega) ?_; intro v1 w9 hown hb9 hg9; obtain ⟨A1, cp1, rfl, _, _⟩ := own_shape hown; have HO1 := Lib.hid hown; have HB1 := Lib.hid hb9; clear hown hb9 hg9)
        have HO2 : Hid (w9.ownsRow w.heap.size 34 4 (.slice A1 (m + 1) cp1) (m + 1) (toks (acc ++ [⟨0, 0, [], j⟩]))) := Lib.hid (by rw [← toks_snoc]; exact HO1.out)
        refine bodyPost_ret (v := .tuple #[.slice A1 (m + 1) cp1, .int .i64 (-1)]) ?_ rfl (tokd_of (l := acc ++ [⟨0, 0, [], j⟩]) (m := m + 1) (by rw [List.length_append, HM.out]; rfl) (by rw [HLEN.out]; omega) (HT.out _ _ HT2.out) rfl HO2.out HB1.out)
        simp [results, Try.results12, go_sem]
end Go.Proofs.Ytjebanfmnfofnaa

/-
  lex.Bare (function 18), the document's Bare (19). No statement of its own.
-/
import Derived.Test.YtjebanfmnfofnaaRefL
import Derived.Test.YtjebanfmnfofnaaLay
import Derived.Deep.CutRange
set_option linter.unusedSimpArgs false
set_option linter.unusedVariables false
namespace Go.Proofs.Ytjebanfmnfofnaa
open Go.RowKit
/-- May a name stand as it is? -/
def bareL : List Nat → Bool
  | [] => false
  | x :: r => isLetter x && r.all isNameC
def okAt (j x : Nat) : Bool := if j = 0 then isLetter x else isNameC x
theorem bareL_false {l : List Nat} {j x : Nat} (h : l[j]? = some x) (hx : okAt j x = false) : bareL l = false := by
  cases l with
  | nil => rfl
  | cons y r =>
    show (isLetter y && r.all isNameC) = false
    cases j with
    | zero =>
      obtain rfl : y = x := by simpa using h
      rw [show isLetter y = false from hx]; rfl
    | succ k =>
      have hm : x ∈ r := List.mem_of_getElem? (i := k) (by simpa using h)
      have : r.all isNameC = false := by
        rw [List.all_eq_false]
        exact ⟨x, hm, by rw [show isNameC x = false from hx]; decide⟩
      rw [this, Bool.and_false]
theorem bareL_true {l : List Nat} (h0 : 0 < l.length) (h : ∀ j x, l[j]? = some x → okAt j x = true) : bareL l = true := by
  cases l with
  | nil => simp at h0
  | cons y r =>
    show (isLetter y && r.all isNameC) = true
    have h1 : isLetter y = true := h 0 y rfl
    have h2 : r.all isNameC = true := by
      rw [List.all_eq_true]
      intro x hx
      obtain ⟨k, hk⟩ := List.getElem?_of_mem hx
      exact h (k + 1) x (by simpa using hk)
    rw [h1, h2]; rfl
theorem str_at {l : List Nat} {S : ByteArray} (hb : ∀ u ∈ l, u < 256) (hS : S = bstr l) {j u : Nat} (h : l[j]? = some u) : (∀ h, (S[((j : Nat) : Int).toNat]'h).toNat = u) ∧ (∀ h, (S[j]'h).toNat = u) := by
  subst hS
  obtain ⟨hj, e⟩ := bstr_byte hb h
  exact ⟨fun _ => e, fun _ => e⟩
theorem bytes_ext {x y : ByteArray} (h : x.toList = y.toList) : x = y := by
  rw [ByteArray.toList_eq, ByteArray.toList_eq] at h
  exact ByteArray.ext (Array.toList_inj.mp h)
theorem toList_ne {S : ByteArray} (h : ¬ S = ⟨#[]⟩) : S.toList.isEmpty = false := by
  rw [ByteArray.toList_eq]
  cases hd : S.data.toList with
  | nil =>
    refine absurd (ByteArray.ext ?_) h
    exact Array.toList_inj.1 hd
  | cons a r => rfl
theorem str_ne {l : List Nat} {S : ByteArray} (hS : S = bstr l) (h : 0 < l.length) : ¬ S = ⟨#[]⟩ := by
  intro e
  have := congrArg ByteArray.size e
  rw [hS, bstr_size] at this
  have h0 : (⟨#[]⟩ : ByteArray).size = 0 := rfl
  omega
theorem str_empty {l : List Nat} {S : ByteArray} (hS : S = bstr l) (h : l.length = 0) : S = ⟨#[]⟩ := by
  have : l = [] := List.length_eq_zero_iff.1 h
  subst this
  exact hS
set_option maxRecDepth 20000 in
set_option maxHeartbeats 1000000 in
theorem bare_calls (w : World) (S : ByteArray) (l : List Nat) (hS : S = bstr l) (hb : ∀ u ∈ l, u < 256) (hn : l.length ≤ 4000) :
    Calls Try.prog 18 #[.string S] w fun e w' => e = .returned (.bool (bareL l)) ∧ w = w' := by
  have HS := Lib.hid hS
  have HB := Lib.hid hb
  obtain ⟨n, hl⟩ : ∃ n, n = l.length := ⟨_, rfl⟩
  have hsz : S.size = n := by rw [hS, bstr_size, hl]
  have HL := Lib.hid hl.symm
  rw [← hl] at hn
  clear hS hb hl
  go_enter Try.func18, Try.ntmps18
  go_wp2_with fail
  go_loop [6] (fun s6 => ∃ i : Nat, i ≤ n ∧ s6 = .int .i64 (i : Nat) ∧ Hid (∀ j x, j < i → l[j]? = some x → okAt j x = true)) (fun s6 => n - (intOf s6).toNat)
  case atStart => exact ⟨0, Nat.zero_le _, rfl, fun j x hj => absurd hj (Nat.not_lt_zero _)⟩
  case round =>
    obtain ⟨i, hi, rfl, HI⟩ := hrel
    by_cases hlt : i < n
    · have hltI : (i : Int) < (n : Int) := by omega
      obtain ⟨x, hx⟩ : ∃ x, l[i]? = some x := ⟨_, List.getElem?_eq_getElem (by rw [HL.out]; exact hlt)⟩
      have x256 : x < 256 := HB.out x (List.mem_of_getElem? hx)
      obtain ⟨hx1, hx2⟩ := str_at HB.out HS.out hx
      have HX := Lib.hid hx
      have HNEXT : Hid (okAt i x = true → ∀ j y, j < i + 1 → l[j]? = some y → okAt j y = true) := Lib.hid (fun ho j y hj hy => by
        rcases Nat.lt_or_ge j i with h | h
        · exact HI.out j y h hy
        · obtain rfl : i = j := by omega
          rw [HX.out] at hy
          injection hy with hy
          subst hy
          exact ho)
      clear hx
      have hi0 : (0 : Int) ≤ (i : Int) := by omega
      cases hlet : isLetter x with
      | true =>
        have HLET := Lib.hid hlet
        have HOK : Hid (okAt i x = true) := Lib.hid (by unfold okAt; split; exact hlet; exact letter_nameC hlet)
        clear hlet
        go_wp2_with fail
        refine (letter_calls w x x256).mono ?_
        rw [HLET.out]
        rintro e wl ⟨rfl, rfl⟩
        go_wp2_with fail
        go_round
        case measure => simp [intOf]; omega
        case rel => exact ⟨i + 1, by omega, by go_num, HNEXT.out HOK.out⟩
      | false =>
        have HLET := Lib.hid hlet
        clear hlet
        by_cases h0 : i = 0
        · subst h0
          have HRES := Lib.hid (bareL_false HX.out (show okAt 0 x = false from HLET.out))
          go_wp2_with fail
          refine (letter_calls w x x256).mono ?_
          rw [HLET.out]
          rintro e wl ⟨rfl, rfl⟩
          go_wp2_with fail
          go_ret
          exact ⟨by rw [HRES.out]; rfl, rfl⟩
        · have k0 : ((i : Int) == 0) = false := by rw [beq_eq_false_iff_ne]; omega
          have hoe : okAt i x = isNameC x := if_neg h0
          have HOE := Lib.hid hoe
          clear hoe
          cases hdig : isDigit x with
          | true =>
            have HDIG := Lib.hid hdig
            have HOK : Hid (okAt i x = true) := Lib.hid (by rw [HOE.out]; unfold isNameC; rw [hdig]; simp)
            clear hdig h0
            go_wp2_with fail
            refine (letter_calls w x x256).mono ?_
            rw [HLET.out]
            rintro e wl ⟨rfl, rfl⟩
            go_wp2_with fail
            refine (digit_calls w x x256).mono ?_
            rw [HDIG.out]
            rintro e wl ⟨rfl, rfl⟩
            go_wp2_with fail
            go_round
            case measure => simp [intOf]; omega
            case rel => exact ⟨i + 1, by omega, by go_num, HNEXT.out HOK.out⟩
          | false =>
            have HDIG := Lib.hid hdig
            clear hdig h0
            by_cases h46 : x = 46
            · subst h46
              have HOK : Hid (okAt i 46 = true) := Lib.hid (by rw [HOE.out]; rfl)
              go_wp2_with fail
              refine (letter_calls w 46 x256).mono ?_
              rw [HLET.out]
              rintro e wl ⟨rfl, rfl⟩
              go_wp2_with fail
              refine (digit_calls w 46 x256).mono ?_
              rw [HDIG.out]
              rintro e wl ⟨rfl, rfl⟩
              go_wp2_with fail
              go_round
              case measure => simp [intOf]; omega
              case rel => exact ⟨i + 1, by omega, by go_num, HNEXT.out HOK.out⟩
            · have k46 : ¬ (x : Int) = 46 := by omega
              have k46' : ((x : Int) != 46) = true := by rw [bne_iff_ne]; exact k46
              have HRES := Lib.hid (bareL_false HX.out (show okAt i x = false by rw [HOE.out]; exact nameC_not HLET.out HDIG.out h46))
              clear h46
              go_wp2_with fail
              refine (letter_calls w x x256).mono ?_
              rw [HLET.out]
              rintro e wl ⟨rfl, rfl⟩
              go_wp2_with fail
              refine (digit_calls w x x256).mono ?_
              rw [HDIG.out]
              rintro e wl ⟨rfl, rfl⟩
              go_wp2_with fail
              go_ret
              exact ⟨by rw [HRES.out]; rfl, rfl⟩
    · obtain rfl : n = i := by omega
      have hnn : ¬ (n : Int) < (n : Int) := by omega
      by_cases h0 : n = 0
      · subst h0
        obtain rfl := str_empty HS.out HL.out
        have HRES : Hid (bareL l = false) := Lib.hid (by rw [List.length_eq_zero_iff.1 HL.out]; rfl)
        go_wp2_with fail
        go_ret
        exact ⟨by rw [HRES.out]; rfl, rfl⟩
      · have hne := str_ne HS.out (by rw [HL.out]; omega)
        have hne2 : S.toList.isEmpty = false := toList_ne hne
        clear hne
        have HRES := Lib.hid (bareL_true (l := l) (by rw [HL.out]; omega) (fun j x h => HI.out j x (by have := (List.getElem?_eq_some_iff.1 h).1; rw [HL.out] at this; exact this) h))
        clear h0
        go_wp2_with fail
        go_ret
        exact ⟨by rw [HRES.out]; rfl, rfl⟩
set_option maxRecDepth 20000 in
set_option maxHeartbeats 1000000 in
theorem rbare_calls (w : World) (S : ByteArray) (l : List Nat) (hS : S = bstr l) (hb : ∀ u ∈ l, u < 256) (hn : l.length ≤ 4000) :
    Calls Try.prog 19 #[.string S] w fun e w' => e = .returned (.bool (bareL l)) ∧ w = w' := by
  have HS := Lib.hid hS
  have HB := Lib.hid hb
  obtain ⟨n, hl⟩ : ∃ n, n = l.length := ⟨_, rfl⟩
  have hsz : S.size = n := by rw [hS, bstr_size, hl]
  have HL := Lib.hid hl.symm
  rw [← hl] at hn
  clear hS hb hl
  by_cases h0 : n = 0
  · subst h0
    obtain rfl := str_empty HS.out HL.out
    have HRES : Hid (bareL l = false) := Lib.hid (by rw [List.length_eq_zero_iff.1 HL.out]; rfl)
    go_enter Try.func19, Try.ntmps19
    go_wp2_with fail
    go_ret
    exact ⟨by rw [HRES.out]; rfl, rfl⟩
  have hne := str_ne HS.out (by rw [HL.out]; omega)
  have hne2 : S.toList.isEmpty = false := toList_ne hne
  clear hne
  have hn0 : 0 < n := by omega
  clear h0
  obtain ⟨x, hx⟩ : ∃ x, l[0]? = some x := ⟨_, List.getElem?_eq_getElem (by rw [HL.out]; exact hn0)⟩
  have x256 : x < 256 := HB.out x (List.mem_of_getElem? hx)
  obtain ⟨hx1, hx2⟩ := str_at HB.out HS.out hx
  have HX := Lib.hid hx
  clear hx
  cases hlet : isLetter x with
  | false =>
    have HLET := Lib.hid hlet
    have HRES := Lib.hid (bareL_false HX.out (show okAt 0 x = false from hlet))
    clear hlet
    go_enter Try.func19, Try.ntmps19
    go_wp2_with fail
    refine (rletter_no w x x256 HLET.out).mono ?_
    rintro e wl ⟨rfl, rfl⟩
    go_wp2_with fail
    go_ret
    exact ⟨by rw [HRES.out]; rfl, rfl⟩
  | true =>
    have HLET := Lib.hid hlet
    clear hlet
    go_enter Try.func19, Try.ntmps19
    go_wp2_with fail
    refine (rletter_yes w x x256 HLET.out).mono ?_
    rintro e wl ⟨rfl, rfl⟩
    go_wp2_with fail
    clear hx1 hx2 hne2
    go_loop [3] (fun s3 => ∃ i : Nat, 1 ≤ i ∧ i ≤ n ∧ s3 = .int .i64 (i : Nat) ∧ Hid (∀ j x, j < i → l[j]? = some x → okAt j x = true)) (fun s3 => n - (intOf s3).toNat)
    case atStart => exact ⟨1, Nat.le_refl _, by omega, rfl, fun j y hj hy => by
      obtain rfl : j = 0 := by omega
      rw [HX.out] at hy
      injection hy with hy
      subst hy
      exact HLET.out⟩
    case round =>
      obtain ⟨i, hi1, hi, rfl, HI⟩ := hrel
      by_cases hlt : i < n
      · have hltI : (i : Int) < (n : Int) := by omega
        obtain ⟨z, hz⟩ : ∃ z, l[i]? = some z := ⟨_, List.getElem?_eq_getElem (by rw [HL.out]; exact hlt)⟩
        have z256 : z < 256 := HB.out z (List.mem_of_getElem? hz)
        obtain ⟨hz1, hz2⟩ := str_at HB.out HS.out hz
        have HZ := Lib.hid hz
        have HOE : Hid (okAt i z = isNameC z) := Lib.hid (if_neg (by omega))
        have HNEXT : Hid (isNameC z = true → ∀ j y, j < i + 1 → l[j]? = some y → okAt j y = true) := Lib.hid (fun ho j y hj hy => by
          rcases Nat.lt_or_ge j i with h | h
          · exact HI.out j y h hy
          · obtain rfl : i = j := by omega
            rw [HZ.out] at hy
            injection hy with hy
            subst hy
            rw [HOE.out]
            exact ho)
        clear hz
        have hi0 : (0 : Int) ≤ (i : Int) := by omega
        cases hlz : isLetter z with
        | true =>
          have HLZ := Lib.hid hlz
          clear hlz
          go_wp2_with fail
          refine (rletter_yes w z z256 HLZ.out).mono ?_
          rintro e wl ⟨rfl, rfl⟩
          go_wp2_with fail
          go_round
          case measure => simp [intOf]; omega
          case rel => exact ⟨i + 1, by omega, by omega, by go_num, HNEXT.out (letter_nameC HLZ.out)⟩
        | false =>
          have HLZ := Lib.hid hlz
          clear hlz
          cases hdz : isDigit z with
          | true =>
            have HDZ := Lib.hid hdz
            clear hdz
            go_wp2_with fail
            refine (rletter_no w z z256 HLZ.out).mono ?_
            rintro e wl ⟨rfl, rfl⟩
            go_wp2_with fail
            refine (rdigit_yes w z z256 HDZ.out).mono ?_
            rintro e wl ⟨rfl, rfl⟩
            go_wp2_with fail
            go_round
            case measure => simp [intOf]; omega
            case rel => exact ⟨i + 1, by omega, by omega, by go_num, HNEXT.out (by unfold isNameC; rw [HDZ.out]; simp)⟩
          | false =>
            have HDZ := Lib.hid hdz
            clear hdz
            by_cases h46 : z = 46
            · subst h46
              go_wp2_with fail
              refine (rletter_no w 46 z256 HLZ.out).mono ?_
              rintro e wl ⟨rfl, rfl⟩
              go_wp2_with fail
              refine (rdigit_no w 46 z256 HDZ.out).mono ?_
              rintro e wl ⟨rfl, rfl⟩
              go_wp2_with fail
              go_round
              case measure => simp [intOf]; omega
              case rel => exact ⟨i + 1, by omega, by omega, by go_num, HNEXT.out rfl⟩
            · have k46 : ¬ (z : Int) = 46 := by omega
              have k46' : ((z : Int) != 46) = true := by rw [bne_iff_ne]; exact k46
              have HRES := Lib.hid (bareL_false HZ.out (show okAt i z = false by rw [HOE.out]; exact nameC_not HLZ.out HDZ.out h46))
              clear h46
              go_wp2_with fail
              refine (rletter_no w z z256 HLZ.out).mono ?_
              rintro e wl ⟨rfl, rfl⟩
              go_wp2_with fail
              refine (rdigit_no w z z256 HDZ.out).mono ?_
              rintro e wl ⟨rfl, rfl⟩
              go_wp2_with fail
              go_ret
              exact ⟨by rw [HRES.out]; rfl, rfl⟩
      · obtain rfl : n = i := by omega
        have hnn : ¬ (n : Int) < (n : Int) := by omega
        have HRES := Lib.hid (bareL_true (l := l) (by rw [HL.out]; omega) (fun j x h => HI.out j x (by have := (List.getElem?_eq_some_iff.1 h).1; rw [HL.out] at this; exact this) h))
        go_wp2_with fail
        go_ret
        exact ⟨by rw [HRES.out]; rfl, rfl⟩
end Go.Proofs.Ytjebanfmnfofnaa

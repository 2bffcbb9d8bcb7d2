/-
  weathervanelaw02.SumSeals: whatever bytes it is handed, it returns true; its argument reads behind the call as it did. Condition: the table of the half bytes lies as start-up lays it (tied to the program's text by the card).
-/
import Derived.Test.YtfkagmngblkbbaaDoorAwake
import Derived.Test.YtfkagmngblkbbaaDoorLiftc
import Derived.Test.YtfkagmngblkbbaaDoorStr
import Derived.Test.YtfkagmngblkbbaaDoorReg
import Derived.BigQuiet
import Derived.Deep.QuietTactic
set_option linter.unusedSimpArgs false
set_option linter.unusedVariables false
namespace Go.Proofs.YtfkagmngblkbbaaDoor.lawSumSeals
open Go.ChangeShapes Go.WideShapes Go.ChangeAt Go.RowKit Crc
/-- A call handed back a slice that reads as that string, in a world that is the old one below. -/
def SealS (S : ByteArray) (w0 : World) (e : Ending) (w' : World) : Prop := ∃ A n c, e = .returned (.slice A n c) ∧ (convert 22 9 (.slice A n c)).run Tryd.prog w' = .ok (.string S) w' ∧ Below w0.heap.size w0 w'
theorem pw_below_drewN {B : Nat} {w W : World} (h : Below B w W) (n : Nat) : Below B w (W.drewN n) := ⟨h.os, h.tape, h.output, h.size, h.block⟩
/-- What sum.Open hands back. -/
def Opened (w : World) (len : Nat) (xs : List Nat) (e : Ending) (w' : World) : Prop := ∃ A n c f, e = .returned (.tuple #[.slice A n c, .int .i64 f]) ∧ Below w.heap.size w w' ∧
  (len < 4 ∧ n = 0 ∧ f = 3 ∨ 4 ≤ len ∧ sumOf xs ≠ 0 ∧ n = 0 ∧ f = 6 ∨ 4 ≤ len ∧ sumOf xs = 0 ∧ f = 0 ∧ Reads w' A n (xs.take (len - 4)))
theorem opened_calls (w : World) (a : Option Addr) (len cap : Nat) (xs : List Nat) (hx : Reads w a len xs) (hc : len ≤ cap) (hlen : len ≤ 1000000000) (ht : Table w) :
    Calls Tryd.prog 14 #[.slice a len cap] w (Opened w len xs) := by
  refine (open_calls w a len cap xs hx hc hlen ht).mono ?_
  rintro e w' (⟨h, rfl, rfl⟩ | ⟨h, h0, rfl, rfl⟩ | ⟨h, h0, v, rfl, hown, hb⟩)
  · exact ⟨none, 0, 0, 3, rfl, Below.refl _ _, .inl ⟨h, rfl, rfl⟩⟩
  · exact ⟨none, 0, 0, 6, rfl, Below.refl _ _, .inr (.inl ⟨h, h0, rfl, rfl⟩)⟩
  · obtain ⟨A, n, c, rfl, _, _, hr⟩ := hown.slice (fun x hm => hx.2.1 x (List.mem_of_mem_take hm))
    exact ⟨A, n, c, 0, rfl, hb, .inr (.inr ⟨h, h0, rfl, hr⟩)⟩
set_option maxHeartbeats 2000000 in
theorem walk_yes (w : World) (a : Option Addr) (len cap : Nat) (xs : List Nat) (hx : Came w a len cap xs) (ht : Table w) (h : len ≤ 300) :
    Calls Tryd.prog 6 #[.slice a len cap] w fun e w' => e = .returned (.bool true) ∧ Below w.heap.size w w' := by
  have HT := Lib.hid ht
  have HX := Lib.hid hx
  clear ht hx
  go_enter Tryd.func6, Tryd.ntmps6
  go_wp2_with fail
  refine (awake_calls _ HT.out).mono ?_
  rintro e w1 ⟨rfl, hb⟩
  have HB := Lib.hid hb
  clear hb
  go_wp2_with fail
  refine (seal_calls _ _ _ _ xs (HX.out.1.below HB.out) HX.out.2.1 (by omega) (HT.out.below HB.out)).mono ?_
  rintro e w2 ⟨v, rfl, hown, hb⟩
  obtain ⟨A, n, c, rfl, hAc, hnc, hr⟩ := hown.slice (sealed_lt xs HX.out.1.2.1 _)
  have HN := Lib.hid (show n = len + 4 from by rw [← hr.1, List.length_append, HX.out.1.1]; rfl)
  have hn := HN.out
  have HR := Lib.hid hr
  have HB2 := Lib.hid (HB.out.trans (hb.mono HB.out.size))
  have hn3 : n ≤ 1000 := by omega
  have hn4 : 4 ≤ n := by omega
  clear hb hr hown hAc hn
  go_wp2_with fail
  refine (opened_calls _ _ _ _ _ HR.out hnc (by omega) (HT.out.below HB2.out)).mono ?_
  rintro e w3 ⟨A3, n3, c3, f3, rfl, hb, h3⟩
  have hlen := HX.out.1.1
  obtain ⟨rfl, hr⟩ : f3 = 0 ∧ Reads w3 A3 n3 xs := by
    rcases h3 with ⟨h', _⟩ | ⟨_, h', _⟩ | ⟨_, _, rfl, hr⟩
    · omega
    · exact absurd (sumOf_seal xs) h'
    · refine ⟨rfl, ?_⟩
      rwa [HN.out, show len + 4 - 4 = xs.length by omega, List.take_left] at hr
  have HR3 := Lib.hid hr
  have HB3 := Lib.hid (HB2.out.trans (hb.mono HB2.out.size))
  have HRb := Lib.hid (HR.out.below hb)
  clear hb hr h3 hlen
  go_wp2_with fail
  refine (opened_calls _ _ _ _ xs (HX.out.1.below HB3.out) HX.out.2.2 (by omega) (HT.out.below HB3.out)).mono ?_
  rintro e w4 ⟨A4, n4, c4, f4, rfl, hb, h4⟩
  have H4 := Lib.hid h4
  have HB4 := Lib.hid (HB3.out.trans (hb.mono HB3.out.size))
  have HR4 := Lib.hid (HRb.out.below hb)
  have HR34 := Lib.hid (HR3.out.below hb)
  clear hb h4 HR3 HRb HR HB2
  go_wp2_with fail
  obtain ⟨S1, hS1⟩ : ∃ S, S = strN (xs ++ be4 (sumOf xs)) := ⟨_, rfl⟩
  obtain ⟨S2, hS2⟩ : ∃ S, S = strN xs := ⟨_, rfl⟩
  have HS1 := Lib.hid hS1
  have HS2 := Lib.hid hS2
  clear hS1 hS2
  have K1 := Lib.hid (show ∀ w', Below w4.heap.size w4 w' → (convert 22 9 (.slice A n c)).run Tryd.prog w' = .ok (.string S1) w' from fun w' hb => by rw [HS1.out]; exact run_string (HR4.out.below hb))
  have K2 := Lib.hid (show ∀ w', Below w4.heap.size w4 w' → (convert 22 9 (.slice a len cap)).run Tryd.prog w' = .ok (.string S2) w' from fun w' hb => by rw [HS2.out]; exact run_string ((HX.out.1.below HB4.out).below hb))
  have K3 := Lib.hid (show ∀ w', Below w4.heap.size w4 w' → (convert 22 9 (.slice A3 n3 c3)).run Tryd.prog w' = .ok (.string S2) w' from fun w' hb => by rw [HS2.out]; exact run_string (HR34.out.below hb))
  have KC := Lib.hid (show ∀ w', Below w4.heap.size w4 w' → Calls Tryd.prog 13 #[.slice a len cap] w' (SealS S1 w4) from fun w' hb => (refseal_calls _ a len cap xs ((HX.out.1.below HB4.out).below hb) HX.out.2.1 (by omega)).mono fun e w5 ⟨v, he, hown, hb5⟩ => by
    obtain ⟨A5, n5, c5, rfl, _, _, hr⟩ := hown.slice (sealed_lt xs HX.out.1.2.1 _)
    exact ⟨A5, n5, c5, he, by rw [HS1.out]; exact run_string hr, hb.trans (hb5.mono hb.size)⟩)
  refine wp_region_held_drew (S := fun w' => Below w4.heap.size w4 w' ∧ (convert 22 9 (.slice A n c)).run Tryd.prog w' = .ok (.string S1) w' ∧ (convert 22 9 (.slice a len cap)).run Tryd.prog w' = .ok (.string S2) w' ∧ (convert 22 9 (.slice A3 n3 c3)).run Tryd.prog w' = .ok (.string S2) w') (by kernel_rfl)
    ⟨(Below.refl _ _).drew, K1.out _ (Below.refl _ _).drew, K2.out _ (Below.refl _ _).drew, K3.out _ (Below.refl _ _).drew⟩ (fun hHeld => ?_)
  refine wpAnyH_take (i := 0) (oi := { dst := some 28, op := .move (.tmp 3), type := 22, pos := "law.go:29", after := #[], guard := none }) (v := ?_) rfl (by kernel_rfl) (by kernel_rfl) (by kernel_rfl) (fun _ _ _ h => h) (Or.inl ⟨by rfl, ?_⟩) (by assumption) ?_
  rotate_left
  · intro w hSw
    (try dsimp only at hSw)
    (go_simp; try (with_reducible rfl))
  try simp only [Act.put, List.setIfInBounds_toArray, List.set_cons_zero, List.set_cons_succ]
  refine wpAnyH_take (i := 1) (oi := { dst := some 29, op := .convert 22 9 (.tmp 28), type := 9, pos := "law.go:29", after := #[{ on := 0, ground := .data }], guard := none }) (v := ?_) rfl (by kernel_rfl) (by kernel_rfl) (by kernel_rfl) (fun _ _ _ h => h) (Or.inl ⟨by rfl, ?_⟩) (by assumption) ?_
  rotate_left
  · intro w hSw
    (try dsimp only at hSw)
    (go_simp; try (with_reducible rfl))
  try simp only [Act.put, List.setIfInBounds_toArray, List.set_cons_zero, List.set_cons_succ]
  refine wpAnyH_take (i := 2) (oi := { dst := some 30, op := .move (.tmp 0), type := 22, pos := "law.go:29", after := #[], guard := none }) (v := ?_) rfl (by kernel_rfl) (by kernel_rfl) (by kernel_rfl) (fun _ _ _ h => h) (Or.inl ⟨by rfl, ?_⟩) (by assumption) ?_
  rotate_left
  · intro w hSw
    (try dsimp only at hSw)
    (go_simp; try (with_reducible rfl))
  try simp only [Act.put, List.setIfInBounds_toArray, List.set_cons_zero, List.set_cons_succ]
  refine wpAnyH_ready (rs := [3]) (by kernel_rfl) (by simp) ?_
  refine AllReadyH.cons (o := { dst := some 31, op := .call { callee := .value (.func 13), args := #[.tmp 30], argTypes := #[22] }, type := 22, pos := "law.go:29", after := #[{ on := 2, ground := .data }], guard := none }) rfl (fun K hK => ?_) AllReadyH.nil
  go_simp
  refine (KC.out _ (Below.refl _ _).drew).mono ?_
  rintro e w5 ⟨A5, n5, c5, rfl, k5, hbel⟩
  have HB5 := Lib.hid hbel
  clear hbel
  refine hK.out _ _ ⟨HB5.out, K1.out _ HB5.out, K2.out _ HB5.out, K3.out _ HB5.out⟩ (fun hHeld => ?_)
  clear hK K hHeld
  try simp only [Act.put, List.setIfInBounds_toArray, List.set_cons_zero, List.set_cons_succ]
  refine wpAnyH_mono (S' := fun w' => w' = w5) (fun w' e => by rw [e]; exact ⟨HB5.out, K1.out _ HB5.out, K2.out _ HB5.out, K3.out _ HB5.out⟩) _ _ _ _ ?_
  have hHeld : w5 = w5 := rfl
  have k15 := K1.out _ HB5.out
  have k25 := K2.out _ HB5.out
  have k35 := K3.out _ HB5.out
  refine wpAnyH_take (i := 4) (oi := { dst := some 32, op := .convert 22 9 (.tmp 31), type := 9, pos := "law.go:29", after := #[{ on := 3, ground := .data }], guard := none }) (v := ?_) rfl (by kernel_rfl) (by kernel_rfl) (by kernel_rfl) (fun _ _ _ h => h) (Or.inl ⟨by rfl, ?_⟩) (by assumption) ?_
  rotate_left
  · intro w hSw
    (try dsimp only at hSw); subst hSw
    (go_simp; try (with_reducible rfl))
  try simp only [Act.put, List.setIfInBounds_toArray, List.set_cons_zero, List.set_cons_succ]
  refine wpAnyH_take (i := 5) (oi := { dst := some 33, op := .binOp .neq 9 (.tmp 29) (.tmp 32) 9, type := 4, pos := "law.go:29", after := #[{ on := 1, ground := .data }, { on := 4, ground := .data }], guard := none }) (v := ?_) rfl (by kernel_rfl) (by kernel_rfl) (by kernel_rfl) (fun _ _ _ h => h) (Or.inl ⟨by rfl, ?_⟩) (by assumption) ?_
  rotate_left
  · intro w hSw
    (try dsimp only at hSw); subst hSw
    (go_simp; try (with_reducible rfl))
  try simp only [Act.put, List.setIfInBounds_toArray, List.set_cons_zero, List.set_cons_succ]
  refine wpAnyH_take (i := 6) (oi := { dst := some 34, op := .move (.tmp 33), type := 4, pos := "law.go:29", after := #[{ on := 5, ground := .data }, { on := 3, ground := .chain }], guard := none }) (v := ?_) rfl (by kernel_rfl) (by kernel_rfl) (by kernel_rfl) (fun _ _ _ h => h) (Or.inl ⟨by rfl, ?_⟩) (by assumption) ?_
  rotate_left
  · intro w hSw
    (try dsimp only at hSw); subst hSw
    (go_simp; try (with_reducible rfl))
  try simp only [Act.put, List.setIfInBounds_toArray, List.set_cons_zero, List.set_cons_succ]
  refine wpAnyH_take (i := 7) (oi := { dst := some 35, op := .move (.tmp 5), type := 29, pos := "law.go:29", after := #[{ on := 6, ground := .guard }], guard := some (6, false) }) (v := ?_) rfl (by kernel_rfl) (by kernel_rfl) (by kernel_rfl) (fun _ _ _ h => h) (Or.inl ⟨by rfl, ?_⟩) (by assumption) ?_
  rotate_left
  · intro w hSw
    (try dsimp only at hSw); subst hSw
    (go_simp; try (with_reducible rfl))
  try simp only [Act.put, List.setIfInBounds_toArray, List.set_cons_zero, List.set_cons_succ]
  refine wpAnyH_take (i := 8) (oi := { dst := some 36, op := .binOp .neq 29 (.tmp 35) (.const (.int .i64 0)) 29, type := 4, pos := "law.go:29", after := #[{ on := 7, ground := .data }, { on := 6, ground := .guard }], guard := some (6, false) }) (v := ?_) rfl (by kernel_rfl) (by kernel_rfl) (by kernel_rfl) (fun _ _ _ h => h) (Or.inl ⟨by rfl, ?_⟩) (by assumption) ?_
  rotate_left
  · intro w hSw
    (try dsimp only at hSw); subst hSw
    (go_simp; try (with_reducible rfl))
  try simp only [Act.put, List.setIfInBounds_toArray, List.set_cons_zero, List.set_cons_succ]
  refine wpAnyH_take (i := 9) (oi := { dst := some 37, op := .pick (.tmp 34) (.const (.bool true)) (.tmp 36), type := 4, pos := "law.go:29", after := #[{ on := 6, ground := .data }, { on := 8, ground := .data }], guard := none }) (v := ?_) rfl (by kernel_rfl) (by kernel_rfl) (by kernel_rfl) (fun _ _ _ h => h) (Or.inl ⟨by rfl, ?_⟩) (by assumption) ?_
  rotate_left
  · intro w hSw
    (try dsimp only at hSw); subst hSw
    (go_simp; try (with_reducible rfl))
  try simp only [Act.put, List.setIfInBounds_toArray, List.set_cons_zero, List.set_cons_succ]
  refine wpAnyH_take (i := 10) (oi := { dst := some 38, op := .move (.tmp 37), type := 4, pos := "law.go:29", after := #[{ on := 9, ground := .data }, { on := 6, ground := .chain }], guard := none }) (v := ?_) rfl (by kernel_rfl) (by kernel_rfl) (by kernel_rfl) (fun _ _ _ h => h) (Or.inl ⟨by rfl, ?_⟩) (by assumption) ?_
  rotate_left
  · intro w hSw
    (try dsimp only at hSw); subst hSw
    (go_simp; try (with_reducible rfl))
  try simp only [Act.put, List.setIfInBounds_toArray, List.set_cons_zero, List.set_cons_succ]
  refine wpAnyH_take (i := 11) (oi := { dst := some 39, op := .move (.tmp 4), type := 22, pos := "law.go:29", after := #[{ on := 10, ground := .guard }], guard := some (10, false) }) (v := ?_) rfl (by kernel_rfl) (by kernel_rfl) (by kernel_rfl) (fun _ _ _ h => h) (Or.inl ⟨by rfl, ?_⟩) (by assumption) ?_
  rotate_left
  · intro w hSw
    (try dsimp only at hSw); subst hSw
    (go_simp; try (with_reducible rfl))
  try simp only [Act.put, List.setIfInBounds_toArray, List.set_cons_zero, List.set_cons_succ]
  refine wpAnyH_take (i := 12) (oi := { dst := some 40, op := .convert 22 9 (.tmp 39), type := 9, pos := "law.go:29", after := #[{ on := 11, ground := .data }, { on := 10, ground := .guard }], guard := some (10, false) }) (v := ?_) rfl (by kernel_rfl) (by kernel_rfl) (by kernel_rfl) (fun _ _ _ h => h) (Or.inl ⟨by rfl, ?_⟩) (by assumption) ?_
  rotate_left
  · intro w hSw
    (try dsimp only at hSw); subst hSw
    (go_simp; try (with_reducible rfl))
  try simp only [Act.put, List.setIfInBounds_toArray, List.set_cons_zero, List.set_cons_succ]
  refine wpAnyH_take (i := 13) (oi := { dst := some 41, op := .move (.tmp 0), type := 22, pos := "law.go:29", after := #[{ on := 10, ground := .guard }], guard := some (10, false) }) (v := ?_) rfl (by kernel_rfl) (by kernel_rfl) (by kernel_rfl) (fun _ _ _ h => h) (Or.inl ⟨by rfl, ?_⟩) (by assumption) ?_
  rotate_left
  · intro w hSw
    (try dsimp only at hSw); subst hSw
    (go_simp; try (with_reducible rfl))
  try simp only [Act.put, List.setIfInBounds_toArray, List.set_cons_zero, List.set_cons_succ]
  refine wpAnyH_take (i := 14) (oi := { dst := some 42, op := .convert 22 9 (.tmp 41), type := 9, pos := "law.go:29", after := #[{ on := 13, ground := .data }, { on := 10, ground := .guard }], guard := some (10, false) }) (v := ?_) rfl (by kernel_rfl) (by kernel_rfl) (by kernel_rfl) (fun _ _ _ h => h) (Or.inl ⟨by rfl, ?_⟩) (by assumption) ?_
  rotate_left
  · intro w hSw
    (try dsimp only at hSw); subst hSw
    (go_simp; try (with_reducible rfl))
  try simp only [Act.put, List.setIfInBounds_toArray, List.set_cons_zero, List.set_cons_succ]
  refine wpAnyH_take (i := 15) (oi := { dst := some 43, op := .binOp .neq 9 (.tmp 40) (.tmp 42) 9, type := 4, pos := "law.go:29", after := #[{ on := 12, ground := .data }, { on := 14, ground := .data }, { on := 10, ground := .guard }], guard := some (10, false) }) (v := ?_) rfl (by kernel_rfl) (by kernel_rfl) (by kernel_rfl) (fun _ _ _ h => h) (Or.inl ⟨by rfl, ?_⟩) (by assumption) ?_
  rotate_left
  · intro w hSw
    (try dsimp only at hSw); subst hSw
    (go_simp; try (with_reducible rfl))
  try simp only [Act.put, List.setIfInBounds_toArray, List.set_cons_zero, List.set_cons_succ]
  refine wpAnyH_take (i := 16) (oi := { dst := some 44, op := .pick (.tmp 38) (.const (.bool true)) (.tmp 43), type := 4, pos := "law.go:29", after := #[{ on := 10, ground := .data }, { on := 15, ground := .data }], guard := none }) (v := ?_) rfl (by kernel_rfl) (by kernel_rfl) (by kernel_rfl) (fun _ _ _ h => h) (Or.inl ⟨by rfl, ?_⟩) (by assumption) ?_
  rotate_left
  · intro w hSw
    (try dsimp only at hSw); subst hSw
    (go_simp; try (with_reducible rfl))
  try simp only [Act.put, List.setIfInBounds_toArray, List.set_cons_zero, List.set_cons_succ]
  refine wpAnyH_done (by kernel_rfl) ?_ _
  clear k15 k25 k35 k5 hHeld KC K1 K3
  have HB6 := Lib.hid (HB4.out.trans (HB5.out.mono HB4.out.size))
  rcases H4.out with ⟨hl, rfl, rfl⟩ | ⟨hl, hs, rfl, rfl⟩ | ⟨hl, hs, rfl, hr⟩
  · go_wp2
    go_ret
    exact ⟨rfl, HB6.out⟩
  · obtain ⟨b, off, rfl, _⟩ := HX.out.1.2.2.2 (by omega)
    have hln := HX.out.1.1
    have hrp := (((HX.out.1.below HB4.out).below HB5.out)).take_ (len - 4) (by omega)
    have HP := Lib.hid hrp
    clear hrp
    obtain ⟨S3, hS3⟩ : ∃ S, S = strN (xs.take (len - 4) ++ be4 (sumOf (xs.take (len - 4)))) := ⟨_, rfl⟩
    have HS3 := Lib.hid hS3
    clear hS3
    have hne : (S3.toList == S2.toList) = false := by
      rw [beq_eq_false_iff_ne, ByteArray.toList_eq, ByteArray.toList_eq, HS3.out, HS2.out]
      intro e
      have e1 := strN_inj _ _ (sealed_lt _ (fun x hm => HX.out.1.2.1 x (List.mem_of_mem_take hm)) _) HX.out.1.2.1 e
      rw [← hln] at e1
      exact hs ((sealed_iff xs HX.out.1.2.1 (by omega)).2 e1)
    have KC := Lib.hid (show ∀ w', Below w5.heap.size w5 w' → Calls Tryd.prog 13 #[.slice (some ⟨b, off, none⟩) (len - 4) cap] w' (SealS S3 w5) from fun w' hb => (refseal_calls _ _ (len - 4) cap _ (HP.out.below hb) (fun e => by cases e) (by omega)).mono fun e w5 ⟨v, he, hown, hb5⟩ => by
      obtain ⟨A5, n5, c5, rfl, _, _, hr⟩ := hown.slice (sealed_lt _ (fun x hm => HX.out.1.2.1 x (List.mem_of_mem_take hm)) _)
      refine ⟨A5, n5, c5, he, ?_, hb.trans (hb5.mono hb.size)⟩
      rw [HS3.out]; exact run_string hr)
    have K2' := Lib.hid (show ∀ w', Below w5.heap.size w5 w' → (convert 22 9 (.slice (some ⟨b, off, none⟩) len cap)).run Tryd.prog w' = .ok (.string S2) w' from fun w' hb => K2.out w' (HB5.out.trans (hb.mono HB5.out.size)))
    clear K2 hln
    have hcap := HX.out.2.2
    go_wp2_with fail
    have q2 : (0 : Int) ≤ (len : Int) - 4 := by omega
    have q3 : ((len : Int) - 4).toNat = len - 4 := by omega
    have q4 : (len : Int) - 4 ≤ (cap : Int) := by omega
    have q1 : IntKind.i64.wrap ((len : Int) - 4) = (len : Int) - 4 := IntWalk.i64_in _ (by omega)
    refine wp_region_held_drew (S := fun w' => Below w5.heap.size w5 w' ∧ (convert 22 9 (.slice (some ⟨b, off, none⟩) len cap)).run Tryd.prog w' = .ok (.string S2) w') (by kernel_rfl)
      ⟨(Below.refl _ _).drew, K2'.out _ (Below.refl _ _).drew⟩ (fun hHeld => ?_)
    refine wpAnyH_take (i := 0) (oi := { dst := some 55, op := .move (.tmp 0), type := 22, pos := "law.go:35", after := #[], guard := none }) (v := ?_) rfl (by kernel_rfl) (by kernel_rfl) (by kernel_rfl) (fun _ _ _ h => h) (Or.inl ⟨by rfl, ?_⟩) (by assumption) ?_
    rotate_left
    · intro w hSw
      (try dsimp only at hSw)
      (go_simp; try (with_reducible rfl))
    try simp only [Act.put, List.setIfInBounds_toArray, List.set_cons_zero, List.set_cons_succ]
    refine wpAnyH_take (i := 1) (oi := { dst := some 56, op := .move (.tmp 0), type := 22, pos := "law.go:35", after := #[], guard := none }) (v := ?_) rfl (by kernel_rfl) (by kernel_rfl) (by kernel_rfl) (fun _ _ _ h => h) (Or.inl ⟨by rfl, ?_⟩) (by assumption) ?_
    rotate_left
    · intro w hSw
      (try dsimp only at hSw)
      (go_simp; try (with_reducible rfl))
    try simp only [Act.put, List.setIfInBounds_toArray, List.set_cons_zero, List.set_cons_succ]
    refine wpAnyH_take (i := 2) (oi := { dst := some 57, op := .call { callee := .builtin .len, args := #[.tmp 56], argTypes := #[22] }, type := 3, pos := "law.go:35", after := #[{ on := 1, ground := .data }], guard := none }) (v := ?_) rfl (by kernel_rfl) (by kernel_rfl) (by kernel_rfl) (fun _ _ _ h => h) (Or.inl ⟨by rfl, ?_⟩) (by assumption) ?_
    rotate_left
    · intro w hSw
      (try dsimp only at hSw)
      (go_simp; try (with_reducible rfl))
    try simp only [Act.put, List.setIfInBounds_toArray, List.set_cons_zero, List.set_cons_succ]
    refine wpAnyH_take (i := 3) (oi := { dst := some 58, op := .binOp .sub 3 (.tmp 57) (.const (.int .i64 4)) 3, type := 3, pos := "law.go:35", after := #[{ on := 2, ground := .data }], guard := none }) (v := ?_) rfl (by kernel_rfl) (by kernel_rfl) (by kernel_rfl) (fun _ _ _ h => h) (Or.inl ⟨by rfl, ?_⟩) (by assumption) ?_
    rotate_left
    · intro w hSw
      (try dsimp only at hSw)
      (go_simp; try (with_reducible rfl))
    try simp only [Act.put, List.setIfInBounds_toArray, List.set_cons_zero, List.set_cons_succ]
    refine wpAnyH_take (i := 4) (oi := { dst := some 59, op := .slice 22 (.tmp 55) none (some (.tmp 58)) none, type := 22, pos := "law.go:35", after := #[{ on := 0, ground := .data }, { on := 3, ground := .data }], guard := none }) (v := ?_) rfl (by kernel_rfl) (by kernel_rfl) (by kernel_rfl) (fun _ _ _ h => h) (Or.inl ⟨by rfl, ?_⟩) (by assumption) ?_
    rotate_left
    · intro w hSw
      (try dsimp only at hSw)
      (go_simp; try (with_reducible rfl))
    try simp only [Act.put, List.setIfInBounds_toArray, List.set_cons_zero, List.set_cons_succ]
    refine wpAnyH_take (i := 7) (oi := { dst := some 62, op := .move (.tmp 0), type := 22, pos := "law.go:35", after := #[], guard := none }) (v := ?_) rfl (by kernel_rfl) (by kernel_rfl) (by kernel_rfl) (fun _ _ _ h => h) (Or.inl ⟨by rfl, ?_⟩) (by assumption) ?_
    rotate_left
    · intro w hSw
      (try dsimp only at hSw)
      (go_simp; try (with_reducible rfl))
    try simp only [Act.put, List.setIfInBounds_toArray, List.set_cons_zero, List.set_cons_succ]
    refine wpAnyH_take (i := 8) (oi := { dst := some 63, op := .convert 22 9 (.tmp 62), type := 9, pos := "law.go:35", after := #[{ on := 7, ground := .data }], guard := none }) (v := ?_) rfl (by kernel_rfl) (by kernel_rfl) (by kernel_rfl) (fun _ _ _ h => h) (Or.inl ⟨by rfl, ?_⟩) (by assumption) ?_
    rotate_left
    · intro w hSw
      (try dsimp only at hSw)
      (go_simp; try (with_reducible rfl))
    try simp only [Act.put, List.setIfInBounds_toArray, List.set_cons_zero, List.set_cons_succ]
    refine wpAnyH_ready (rs := [5]) (by kernel_rfl) (by simp) ?_
    refine AllReadyH.cons (o := { dst := some 60, op := .call { callee := .value (.func 13), args := #[.tmp 59], argTypes := #[22] }, type := 22, pos := "law.go:35", after := #[{ on := 4, ground := .data }], guard := none }) rfl (fun K hK => ?_) AllReadyH.nil
    go_simp
    refine (KC.out _ (Below.refl _ _).drew).mono ?_
    rintro e w6 ⟨A7, n7, c7, rfl, k7, hbel⟩
    have HB7 := Lib.hid hbel
    clear hbel
    refine hK.out _ _ ⟨HB7.out, K2'.out _ HB7.out⟩ (fun hHeld => ?_)
    clear hK K hHeld
    try simp only [Act.put, List.setIfInBounds_toArray, List.set_cons_zero, List.set_cons_succ]
    refine wpAnyH_mono (S' := fun w' => w' = w6) (fun w' e => by rw [e]; exact ⟨HB7.out, K2'.out _ HB7.out⟩) _ _ _ _ ?_
    have hHeld : w6 = w6 := rfl
    refine wpAnyH_take (i := 6) (oi := { dst := some 61, op := .convert 22 9 (.tmp 60), type := 9, pos := "law.go:35", after := #[{ on := 5, ground := .data }], guard := none }) (v := ?_) rfl (by kernel_rfl) (by kernel_rfl) (by kernel_rfl) (fun _ _ _ h => h) (Or.inl ⟨by rfl, ?_⟩) (by assumption) ?_
    rotate_left
    · intro w hSw
      (try dsimp only at hSw); subst hSw
      (go_simp; try (with_reducible rfl))
    try simp only [Act.put, List.setIfInBounds_toArray, List.set_cons_zero, List.set_cons_succ]
    refine wpAnyH_take (i := 9) (oi := { dst := some 64, op := .binOp .eql 9 (.tmp 61) (.tmp 63) 9, type := 4, pos := "law.go:35", after := #[{ on := 6, ground := .data }, { on := 8, ground := .data }], guard := none }) (v := ?_) rfl (by kernel_rfl) (by kernel_rfl) (by kernel_rfl) (fun _ _ _ h => h) (Or.inl ⟨by rfl, ?_⟩) (by assumption) ?_
    rotate_left
    · intro w hSw
      (try dsimp only at hSw); subst hSw
      (go_simp; try (with_reducible rfl))
    try simp only [Act.put, List.setIfInBounds_toArray, List.set_cons_zero, List.set_cons_succ]
    refine wpAnyH_done (by kernel_rfl) ?_ _
    clear hHeld KC q1 q2 q3 q4
    have HB8 := Lib.hid (HB6.out.trans (HB7.out.mono HB6.out.size))
    go_wp2
    go_ret
    exact ⟨rfl, HB8.out⟩
  · obtain ⟨b, off, rfl, _⟩ := HX.out.1.2.2.2 (by omega)
    have hln := HX.out.1.1
    have hrp := (((HX.out.1.below HB4.out).below HB5.out)).take_ (len - 4) (by omega)
    have HP := Lib.hid hrp
    clear hrp
    have KC := Lib.hid (show ∀ w', Below w5.heap.size w5 w' → Calls Tryd.prog 13 #[.slice (some ⟨b, off, none⟩) (len - 4) cap] w' (SealS S2 w5) from fun w' hb => (refseal_calls _ _ (len - 4) cap _ (HP.out.below hb) (fun e => by cases e) (by omega)).mono fun e w5 ⟨v, he, hown, hb5⟩ => by
      obtain ⟨A5, n5, c5, rfl, _, _, hr⟩ := hown.slice (sealed_lt _ (fun x hm => HX.out.1.2.1 x (List.mem_of_mem_take hm)) _)
      refine ⟨A5, n5, c5, he, ?_, hb.trans (hb5.mono hb.size)⟩
      have e1 := (sealed_iff xs HX.out.1.2.1 (by omega)).1 hs
      rw [hln] at e1
      rw [e1] at hr
      rw [HS2.out]; exact run_string hr)
    have K2' := Lib.hid (show ∀ w', Below w5.heap.size w5 w' → (convert 22 9 (.slice (some ⟨b, off, none⟩) len cap)).run Tryd.prog w' = .ok (.string S2) w' from fun w' hb => K2.out w' (HB5.out.trans (hb.mono HB5.out.size)))
    clear K2 hln
    have hcap := HX.out.2.2
    go_wp2_with fail
    have q2 : (0 : Int) ≤ (len : Int) - 4 := by omega
    have q3 : ((len : Int) - 4).toNat = len - 4 := by omega
    have q4 : (len : Int) - 4 ≤ (cap : Int) := by omega
    have q1 : IntKind.i64.wrap ((len : Int) - 4) = (len : Int) - 4 := IntWalk.i64_in _ (by omega)
    refine wp_region_held_drew (S := fun w' => Below w5.heap.size w5 w' ∧ (convert 22 9 (.slice (some ⟨b, off, none⟩) len cap)).run Tryd.prog w' = .ok (.string S2) w') (by kernel_rfl)
      ⟨(Below.refl _ _).drew, K2'.out _ (Below.refl _ _).drew⟩ (fun hHeld => ?_)
    refine wpAnyH_take (i := 0) (oi := { dst := some 55, op := .move (.tmp 0), type := 22, pos := "law.go:35", after := #[], guard := none }) (v := ?_) rfl (by kernel_rfl) (by kernel_rfl) (by kernel_rfl) (fun _ _ _ h => h) (Or.inl ⟨by rfl, ?_⟩) (by assumption) ?_
    rotate_left
    · intro w hSw
      (try dsimp only at hSw)
      (go_simp; try (with_reducible rfl))
    try simp only [Act.put, List.setIfInBounds_toArray, List.set_cons_zero, List.set_cons_succ]
    refine wpAnyH_take (i := 1) (oi := { dst := some 56, op := .move (.tmp 0), type := 22, pos := "law.go:35", after := #[], guard := none }) (v := ?_) rfl (by kernel_rfl) (by kernel_rfl) (by kernel_rfl) (fun _ _ _ h => h) (Or.inl ⟨by rfl, ?_⟩) (by assumption) ?_
    rotate_left
    · intro w hSw
      (try dsimp only at hSw)
      (go_simp; try (with_reducible rfl))
    try simp only [Act.put, List.setIfInBounds_toArray, List.set_cons_zero, List.set_cons_succ]
    refine wpAnyH_take (i := 2) (oi := { dst := some 57, op := .call { callee := .builtin .len, args := #[.tmp 56], argTypes := #[22] }, type := 3, pos := "law.go:35", after := #[{ on := 1, ground := .data }], guard := none }) (v := ?_) rfl (by kernel_rfl) (by kernel_rfl) (by kernel_rfl) (fun _ _ _ h => h) (Or.inl ⟨by rfl, ?_⟩) (by assumption) ?_
    rotate_left
    · intro w hSw
      (try dsimp only at hSw)
      (go_simp; try (with_reducible rfl))
    try simp only [Act.put, List.setIfInBounds_toArray, List.set_cons_zero, List.set_cons_succ]
    refine wpAnyH_take (i := 3) (oi := { dst := some 58, op := .binOp .sub 3 (.tmp 57) (.const (.int .i64 4)) 3, type := 3, pos := "law.go:35", after := #[{ on := 2, ground := .data }], guard := none }) (v := ?_) rfl (by kernel_rfl) (by kernel_rfl) (by kernel_rfl) (fun _ _ _ h => h) (Or.inl ⟨by rfl, ?_⟩) (by assumption) ?_
    rotate_left
    · intro w hSw
      (try dsimp only at hSw)
      (go_simp; try (with_reducible rfl))
    try simp only [Act.put, List.setIfInBounds_toArray, List.set_cons_zero, List.set_cons_succ]
    refine wpAnyH_take (i := 4) (oi := { dst := some 59, op := .slice 22 (.tmp 55) none (some (.tmp 58)) none, type := 22, pos := "law.go:35", after := #[{ on := 0, ground := .data }, { on := 3, ground := .data }], guard := none }) (v := ?_) rfl (by kernel_rfl) (by kernel_rfl) (by kernel_rfl) (fun _ _ _ h => h) (Or.inl ⟨by rfl, ?_⟩) (by assumption) ?_
    rotate_left
    · intro w hSw
      (try dsimp only at hSw)
      (go_simp; try (with_reducible rfl))
    try simp only [Act.put, List.setIfInBounds_toArray, List.set_cons_zero, List.set_cons_succ]
    refine wpAnyH_take (i := 7) (oi := { dst := some 62, op := .move (.tmp 0), type := 22, pos := "law.go:35", after := #[], guard := none }) (v := ?_) rfl (by kernel_rfl) (by kernel_rfl) (by kernel_rfl) (fun _ _ _ h => h) (Or.inl ⟨by rfl, ?_⟩) (by assumption) ?_
    rotate_left
    · intro w hSw
      (try dsimp only at hSw)
      (go_simp; try (with_reducible rfl))
    try simp only [Act.put, List.setIfInBounds_toArray, List.set_cons_zero, List.set_cons_succ]
    refine wpAnyH_take (i := 8) (oi := { dst := some 63, op := .convert 22 9 (.tmp 62), type := 9, pos := "law.go:35", after := #[{ on := 7, ground := .data }], guard := none }) (v := ?_) rfl (by kernel_rfl) (by kernel_rfl) (by kernel_rfl) (fun _ _ _ h => h) (Or.inl ⟨by rfl, ?_⟩) (by assumption) ?_
    rotate_left
    · intro w hSw
      (try dsimp only at hSw)
      (go_simp; try (with_reducible rfl))
    try simp only [Act.put, List.setIfInBounds_toArray, List.set_cons_zero, List.set_cons_succ]
    refine wpAnyH_ready (rs := [5]) (by kernel_rfl) (by simp) ?_
    refine AllReadyH.cons (o := { dst := some 60, op := .call { callee := .value (.func 13), args := #[.tmp 59], argTypes := #[22] }, type := 22, pos := "law.go:35", after := #[{ on := 4, ground := .data }], guard := none }) rfl (fun K hK => ?_) AllReadyH.nil
    go_simp
    refine (KC.out _ (Below.refl _ _).drew).mono ?_
    rintro e w6 ⟨A7, n7, c7, rfl, k7, hbel⟩
    have HB7 := Lib.hid hbel
    clear hbel
    refine hK.out _ _ ⟨HB7.out, K2'.out _ HB7.out⟩ (fun hHeld => ?_)
    clear hK K hHeld
    try simp only [Act.put, List.setIfInBounds_toArray, List.set_cons_zero, List.set_cons_succ]
    refine wpAnyH_mono (S' := fun w' => w' = w6) (fun w' e => by rw [e]; exact ⟨HB7.out, K2'.out _ HB7.out⟩) _ _ _ _ ?_
    have hHeld : w6 = w6 := rfl
    refine wpAnyH_take (i := 6) (oi := { dst := some 61, op := .convert 22 9 (.tmp 60), type := 9, pos := "law.go:35", after := #[{ on := 5, ground := .data }], guard := none }) (v := ?_) rfl (by kernel_rfl) (by kernel_rfl) (by kernel_rfl) (fun _ _ _ h => h) (Or.inl ⟨by rfl, ?_⟩) (by assumption) ?_
    rotate_left
    · intro w hSw
      (try dsimp only at hSw); subst hSw
      (go_simp; try (with_reducible rfl))
    try simp only [Act.put, List.setIfInBounds_toArray, List.set_cons_zero, List.set_cons_succ]
    refine wpAnyH_take (i := 9) (oi := { dst := some 64, op := .binOp .eql 9 (.tmp 61) (.tmp 63) 9, type := 4, pos := "law.go:35", after := #[{ on := 6, ground := .data }, { on := 8, ground := .data }], guard := none }) (v := ?_) rfl (by kernel_rfl) (by kernel_rfl) (by kernel_rfl) (fun _ _ _ h => h) (Or.inl ⟨by rfl, ?_⟩) (by assumption) ?_
    rotate_left
    · intro w hSw
      (try dsimp only at hSw); subst hSw
      (go_simp; try (with_reducible rfl))
    try simp only [Act.put, List.setIfInBounds_toArray, List.set_cons_zero, List.set_cons_succ]
    refine wpAnyH_done (by kernel_rfl) ?_ _
    clear hHeld KC q1 q2 q3 q4
    have HB8 := Lib.hid (HB6.out.trans (HB7.out.mono HB6.out.size))
    obtain ⟨S4, hS4⟩ : ∃ S, S = strN (xs.take (len - 4)) := ⟨_, rfl⟩
    have k1 : ∀ nq, (convert 22 9 (.slice A4 n4 c4)).run Tryd.prog (w6.drewN nq) = .ok (.string S4) (w6.drewN nq) := fun nq => by rw [hS4]; exact run_string ((hr.below HB5.out).below (pw_below_drewN HB7.out nq))
    have k2 : ∀ nq, (convert 22 9 (.slice (some ⟨b, off, none⟩) (len - 4) cap)).run Tryd.prog (w6.drewN nq) = .ok (.string S4) (w6.drewN nq) := fun nq => by rw [hS4]; exact run_string (HP.out.below (pw_below_drewN HB7.out nq))
    clear hS4 hr
    go_wp2_with fail
    have q2 : (0 : Int) ≤ (len : Int) - 4 := by omega
    have q3 : ((len : Int) - 4).toNat = len - 4 := by omega
    have q4 : (len : Int) - 4 ≤ (cap : Int) := by omega
    have q1 : IntKind.i64.wrap ((len : Int) - 4) = (len : Int) - 4 := IntWalk.i64_in _ (by omega)
    go_quiet (fail)
    clear q1 q2 q3 q4
    go_wp2
    go_ret
    exact ⟨rfl, pw_below_drewN HB8.out _⟩
set_option maxHeartbeats 400000 in
theorem walk_no (w : World) (a : Option Addr) (len cap : Nat) (hm : len ≤ 9223372036854775807) (ht : Table w) (h : ¬ len ≤ 300) :
    Calls Tryd.prog 6 #[.slice a len cap] w fun e w' => e = .returned (.bool true) ∧ Below w.heap.size w w' := by
  have HT := Lib.hid ht
  clear ht
  go_enter Tryd.func6, Tryd.ntmps6
  go_wp2_with fail
  refine (awake_calls _ HT.out).mono ?_
  rintro e w1 ⟨rfl, hb⟩
  have HB := Lib.hid hb
  clear hb
  go_wp2_with fail
  refine (awake_calls _ (HT.out.below HB.out)).mono ?_
  rintro e w2 ⟨rfl, hb⟩
  have HB2 := Lib.hid hb
  clear hb
  go_wp2
  go_ret
  exact ⟨rfl, HB.out.trans (HB2.out.mono HB.out.size)⟩
theorem walk (w : World) (a0 : Option Addr) (l0 c0 : Nat) (x0 : List Nat) (h0 : Came w a0 l0 c0 x0) (ht : Table w) :
    Calls Tryd.prog 6 #[.slice a0 l0 c0] w fun e w' => e = .returned (.bool true) ∧ Below w.heap.size w w' := by
  by_cases h : l0 ≤ 300
  · exact walk_yes w a0 l0 c0 x0 h0 ht h
  · exact walk_no w a0 l0 c0 h0.1.2.2.1 ht h


theorem laid_met (os : Os) : laidMet Tryd.prog Rows.sumSealsRow.laid ((laidWorld os).forCall (fun _ _ => 0) ⟨#[], #[.slice none 0 0], []⟩).memory :=
  laidMet_of_run' 8 (by kernel_rfl) (by kernel_rfl)
theorem reads (os : Os) {H : Type} (enc : TypeId × Value → H) : ∃ places, DataW.whole enc Tryd.prog ((laidWorld os).forCall (fun _ _ => 0) ⟨#[], #[.slice none 0 0], []⟩).memory Tryd.f6.params.toList Rows.sumSealsSpec.vars false #[(.slice none 0 0 : Value)].toList 8 = some ([.nil], [], places) :=
  ⟨[], by kernel_rfl⟩

set_option maxRecDepth 100000 in
theorem lifted (os : Os) (started : os.Started) (H : Type) (enc : TypeId × Value → H) (F : Stop.Interp) :
    ReturnsInHanded {} Tryd.checked os 6 .any ((OpenSpec.ofChange Rows.sumSealsSpec).preRow enc Tryd.prog Tryd.f6 Rows.sumSealsRow.domain false Rows.sumSealsRow.laid) (((OpenSpec.ofChange Rows.sumSealsSpec).at F).post enc Tryd.prog Tryd.f6 false true false false) := by
  obtain ⟨places, hx⟩ := reads os enc
  refine returnsInHanded_of_row (C := Tryd.checked) (s := OpenSpec.ofChange Rows.sumSealsSpec) own started (by kernel_rfl) Tryd.func6
    (witness_row_at (enc := enc) (C := Tryd.checked) false (laidWorld os) #[.slice none 0 0] rfl (by kernel_rfl) (by kernel_rfl) (by kernel_rfl)
      (OpenSpec.preRow_of_cond 8 hx (by kernel_rfl) (fun k hk => by cases hk) (by kernel_rfl) (laid_met os))) ?_
  intro W base args ds gs before hval0 hW _ _ _ hL _ _
  have hval : ∀ (j : Nat) t v, Tryd.f6.params[j]? = some t → args[j]? = some v → Value.okWide Tryd.prog W .any base t v := hval0
  have hW' := hW
  obtain ⟨p, q, hA0, hV, rfl, hfz, hnd⟩ := hW
  have hA : DataW.TrodAll enc Tryd.prog W 0 (fun _ => true) true Tryd.f6.params.toList args.toList ds p := hA0
  rw [Tryd.params6] at hA hval
  obtain ⟨v0, vs0, d0, ds0, p0, q0, hargs, rfl, rfl, h0, r0⟩ := trodAll_cons hA
  obtain ⟨rfl, rfl, rfl⟩ := trodAll_nil r0
  obtain rfl : args = #[v0] := by cases args; simp_all
  obtain ⟨rfl, rfl⟩ := trodVars_none hV
  obtain ⟨a0, len0, cap0, rfl⟩ := okWide_slice Tryd.underlying22 (hval 0 22 v0 rfl rfl)
  have k0 := h0
  have lt0 : ∀ x ∈ p0, x.block < W.heap.size := by obtain ⟨m, hm⟩ := k0; exact DataW.trod_lt m _ _ _ hm
  obtain ⟨x0, w0⟩ := open_came h0
  clear hA0 hval0
  refine (walk W a0 len0 cap0 x0 w0 (table_of hL)).mono fun e W' ⟨he, bel⟩ => ?_
  subst he
  exact ⟨_, rfl, _, _, _, [], _, [], hW', trodAll_mk1 (shut_bool Tryd.underlying4 _), (trodAll_cons_mk (Below.trod laidOut (by kernel_rfl) (of_decide_eq_true (by kernel_rfl)) k0 bel lt0) trodAll_mk0), rfl, bel.frame _, fun h => by cases h⟩

theorem said : Rows.SumSealsSaid :=
  OpenClaim.holds_of_cond 6 Tryd.f6 rfl rfl rfl rfl rfl rfl rfl ⟨rfl, rfl, rfl, rfl, rfl⟩ rfl rfl rfl rfl rfl (by kernel_rfl) Tryd.func6 (by kernel_rfl)
    (of_decide_eq_true (by kernel_rfl)) (by unfold Func.isWrapper; first | (rw [if_pos (by decide +kernel)]; kernel_rfl) | (rw [if_neg (by decide +kernel)]; exact ⟨rfl, rfl⟩))
    (fun os started H enc _ F => by rw [OpenClaim.pre_eq_preRow]; exact lifted os started H enc F)

/-- No parameter wants a stand-in; the program's own looks are off. -/
theorem plain (f : FuncId) (fn : Func) (hf : Tryd.pinned.checked.prog.funcNamed "weathervane/weathervanelaw02.SumSeals" = some f) (hfn : Tryd.pinned.checked.prog.funcs[f]? = some fn) :
    false = Tryd.pinned.checked.prog.looks [] ∧ ∀ (j : Nat) t, fn.params[j]? = some t → Tryd.pinned.checked.prog.wantsStandIn t = false := by
  obtain rfl : f = 6 := Option.some.inj ((show Tryd.prog.funcNamed "weathervane/weathervanelaw02.SumSeals" = some 6 by kernel_rfl).symm.trans hf) |>.symm
  obtain rfl : fn = Tryd.f6 := (Option.some.inj (Tryd.func6.symm.trans hfn)).symm
  refine ⟨by kernel_rfl, fun j t ht => ?_⟩
  rw [Tryd.params6] at ht
  have ht := Array.mem_of_getElem? ht
  simp at ht
  subst ht
  exact (show Tryd.prog.wantsStandIn 22 = false by kernel_rfl)

theorem card : Rows.SumSealsCardSaid :=
  Claim7.holds_tied_plain_at .later [] _ _ _ _ said (fun _ h => by cases h) (by kernel_rfl) (fun _ h => by cases h) sumSeals_row_tie rfl ⟨rfl, rfl⟩ (by kernel_rfl) rfl plain (by kernel_rfl)
#print axioms card

end Go.Proofs.YtfkagmngblkbbaaDoor.lawSumSeals

/-
  lex.escape (function 41): the byte that is meant, and how many bytes tell it.
-/
import Derived.Test.YtjebanfmnfofnaaMem
import Derived.Deep.QuietTactic
import Derived.BigQuiet
import Derived.StillTactics
import Derived.Outline
set_option linter.unusedSimpArgs false
set_option linter.unusedVariables false
namespace Go.Proofs.Ytjebanfmnfofnaa
open Go.RowKit
theorem esc_suffix (P : List Nat) (j : Nat) : esc P j = esc (P.drop j) 0 := by
  unfold esc
  simp only [List.getElem?_drop, Nat.add_zero, Nat.zero_add]
def Escaped (w : World) (L : List Nat) (e : Ending) (w' : World) : Prop := e = .returned (.tuple #[.int .u8 ((esc L 0).1 : Nat), .int .i64 ((esc L 0).2 : Nat)]) ∧ ∃ m, w' = w.drewN m
set_option maxRecDepth 20000 in
set_option maxHeartbeats 4000000 in
theorem escape_calls (w : World) (a : Option Addr) (n c : Nat) (L : List Nat) (h : ReadsU w a n L) (hn : n ≤ 4000) : Calls Try.prog 41 #[.slice a n c] w (Escaped w L) := by
  obtain ⟨hl, hb, hr⟩ := h
  rcases L with _ | ⟨x, L'⟩
  · obtain rfl : 0 = n := hl
    clear hb hr
    go_enter Try.func41, Try.ntmps41
    go_wp2
    go_ret2
    exact ⟨rfl, 0, rfl⟩
  · obtain rfl : L'.length + 1 = n := hl
    obtain ⟨b, off, rfl, hc⟩ := hr (by omega)
    have x256 : x < 256 := hb x List.mem_cons_self
    have c0 : w.cell? ⟨b, off, none⟩ = some (.int .u8 (x : Nat)) := hc 0 x rfl
    obtain ⟨m, hm⟩ : ∃ m, m = L'.length := ⟨_, rfl⟩
    rw [← hm] at hn ⊢
    by_cases h34 : x = 34
    · subst h34
      clear hc hb hr hm
      go_enter Try.func41, Try.ntmps41
      go_wp2
      go_ret2
      exact ⟨rfl, 0, rfl⟩
    · by_cases h92 : x = 92
      · subst h92
        clear hc hb hr h34 hm
        go_enter Try.func41, Try.ntmps41
        go_wp2
        go_ret2
        exact ⟨rfl, 0, rfl⟩
      · have k1 : ((x : Int) == 34) = false := by rw [beq_eq_false_iff_ne]; omega
        have k2 : ((x : Int) == 92) = false := by rw [beq_eq_false_iff_ne]; omega
        have H34 := Lib.hid (show ¬ (x = 34 ∨ x = 92) from fun h => h.elim h34 h92)
        clear h34 h92 hr
        rcases L' with _ | ⟨y, _ | ⟨z, r⟩⟩
        · --
          obtain rfl : m = 0 := hm
          clear hc hb hn
          show Calls Try.prog 41 #[.slice (some ⟨b, off, none⟩) 1 c] w _
          go_enter Try.func41, Try.ntmps41
          go_wp2
          go_ret2
          refine ⟨?_, 0, rfl⟩
          rw [show esc [x] 0 = (0, 0) from if_neg H34.out]
          rfl
        · --
          obtain rfl : m = 1 := hm
          clear hc hb hn
          show Calls Try.prog 41 #[.slice (some ⟨b, off, none⟩) 2 c] w _
          go_enter Try.func41, Try.ntmps41
          go_wp2
          go_ret2
          refine ⟨?_, 0, rfl⟩
          rw [show esc [x, y] 0 = (0, 0) from if_neg H34.out]
          rfl
        · --
          have hm2 : 1 < m := by rw [hm]; simp
          have c1 : w.cell? ⟨b, off + 1, none⟩ = some (.int .u8 (y : Nat)) := hc 1 y rfl
          have c2 : w.cell? ⟨b, off + 2, none⟩ = some (.int .u8 (z : Nat)) := hc 2 z rfl
          have y256 : y < 256 := hb y (by simp)
          have z256 : z < 256 := hb z (by simp)
          clear hc hb hm
          by_cases hx : x = 120
          · subst hx
            clear H34 k1 k2
            cases hy : isHex y with
            | true =>
              cases hz : isHex z with
              | true =>
                have E : Hid (esc (120 :: y :: z :: r) 0 = (16 * hexV y + hexV z, 3)) := Lib.hid (by
                  show (if (120 : Nat) = 34 ∨ (120 : Nat) = 92 then ((120 : Nat), 1) else if (120 : Nat) = 120 ∧ isHex y = true ∧ isHex z = true then (16 * hexV y + hexV z, 3) else (0, 0)) = _
                  rw [if_neg (by decide), if_pos ⟨rfl, hy, hz⟩])
                have vy : hexV y < 16 := hexV_lt ⟨y, y256⟩ hy
                have vz : hexV z < 16 := hexV_lt ⟨z, z256⟩ hz
                have HY := Lib.hid hy
                have HZ := Lib.hid hz
                clear hy hz
                go_enter Try.func41, Try.ntmps41
                go_wp2_with fail
                go_quiet ((first | (go_at_call 23; with_reducible exact Calls.quiet_of_same (hex_yes _ y y256 HY.out)) | (go_at_call 23; with_reducible exact Calls.quiet_of_same (hex_yes _ z z256 HZ.out))))
                go_wp2
                go_ret2
                refine ⟨?_, _, rfl⟩
                rw [E.out]
                show Ending.returned (.tuple #[.int .u8 (16 * (hexV y : Int) + (hexV z : Int)), .int .i64 3]) = _
                rw [show 16 * (hexV y : Int) + (hexV z : Int) = ((16 * hexV y + hexV z : Nat) : Int) by omega]
                rfl
              | false =>
                have E : Hid (esc (120 :: y :: z :: r) 0 = (0, 0)) := Lib.hid (by
                  show (if (120 : Nat) = 34 ∨ (120 : Nat) = 92 then ((120 : Nat), 1) else if (120 : Nat) = 120 ∧ isHex y = true ∧ isHex z = true then (16 * hexV y + hexV z, 3) else (0, 0)) = _
                  rw [if_neg (by decide), if_neg (by rw [hy, hz]; decide)])
                have vy : hexV y < 16 := hexV_lt ⟨y, y256⟩ hy
                have HY := Lib.hid hy
                have HZ := Lib.hid hz
                clear hy hz
                go_enter Try.func41, Try.ntmps41
                go_wp2_with fail
                go_quiet ((first | (go_at_call 23; with_reducible exact Calls.quiet_of_same (hex_yes _ y y256 HY.out)) | (go_at_call 23; with_reducible exact Calls.quiet_of_same (hex_no _ z z256 HZ.out))))
                go_wp2
                go_ret2
                refine ⟨?_, _, rfl⟩
                rw [E.out]
                rfl
            | false =>
              cases hz : isHex z with
              | true =>
                have E : Hid (esc (120 :: y :: z :: r) 0 = (0, 0)) := Lib.hid (by
                  show (if (120 : Nat) = 34 ∨ (120 : Nat) = 92 then ((120 : Nat), 1) else if (120 : Nat) = 120 ∧ isHex y = true ∧ isHex z = true then (16 * hexV y + hexV z, 3) else (0, 0)) = _
                  rw [if_neg (by decide), if_neg (by rw [hy, hz]; decide)])
                have vz : hexV z < 16 := hexV_lt ⟨z, z256⟩ hz
                have HY := Lib.hid hy
                have HZ := Lib.hid hz
                clear hy hz
                go_enter Try.func41, Try.ntmps41
                go_wp2_with fail
                go_quiet ((first | (go_at_call 23; with_reducible exact Calls.quiet_of_same (hex_no _ y y256 HY.out)) | (go_at_call 23; with_reducible exact Calls.quiet_of_same (hex_yes _ z z256 HZ.out))))
                go_wp2
                go_ret2
                refine ⟨?_, _, rfl⟩
                rw [E.out]
                rfl
              | false =>
                have E : Hid (esc (120 :: y :: z :: r) 0 = (0, 0)) := Lib.hid (by
                  show (if (120 : Nat) = 34 ∨ (120 : Nat) = 92 then ((120 : Nat), 1) else if (120 : Nat) = 120 ∧ isHex y = true ∧ isHex z = true then (16 * hexV y + hexV z, 3) else (0, 0)) = _
                  rw [if_neg (by decide), if_neg (by rw [hy, hz]; decide)])
                have HY := Lib.hid hy
                have HZ := Lib.hid hz
                clear hy hz
                go_enter Try.func41, Try.ntmps41
                go_wp2_with fail
                go_quiet ((first | (go_at_call 23; with_reducible exact Calls.quiet_of_same (hex_no _ y y256 HY.out)) | (go_at_call 23; with_reducible exact Calls.quiet_of_same (hex_no _ z z256 HZ.out))))
                go_wp2
                go_ret2
                refine ⟨?_, _, rfl⟩
                rw [E.out]
                rfl
          · have k3 : ((x : Int) == 120) = false := by rw [beq_eq_false_iff_ne]; omega
            have H120 := Lib.hid hx
            clear hx
            go_enter Try.func41, Try.ntmps41
            go_wp2
            go_ret2
            refine ⟨?_, 0, rfl⟩
            rw [show esc (x :: y :: z :: r) 0 = (0, 0) from by
              show (if x = 34 ∨ x = 92 then (x, 1) else if x = 120 ∧ isHex y = true ∧ isHex z = true then (16 * hexV y + hexV z, 3) else (0, 0)) = _
              rw [if_neg H34.out, if_neg (fun h => H120.out h.1)]]
            rfl
end Go.Proofs.Ytjebanfmnfofnaa

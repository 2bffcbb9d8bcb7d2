/-
  (*Lexer).quoted (function 36): a name in quotes, behind the first one.
-/
import Derived.Test.YtjebanfmnfofnaaEsc
import Derived.IntWalk
set_option linter.unusedSimpArgs false
set_option linter.unusedVariables false
namespace Go.Proofs.Ytjebanfmnfofnaa
open Go.RowKit
theorem grown_belowB {w W w' : World} {g : Nat} (h : w.grownBy W (some g)) (hb : Below w.heap.size W w') : w.grownBy w' (some g) :=
  ⟨hb.os.trans h.os, hb.tape.trans h.tape, hb.output.trans h.output, Nat.le_trans h.size hb.size, fun k hk hn => (hb.block k hk).trans (h.block k hk hn)⟩
def bytes (l : List Nat) : List Value := l.map fun u : Nat => Value.int .u8 (u : Int)
theorem esc_le {P : List Nat} {j : Nat} (h : ¬ (esc P j).2 = 0) : j + (esc P j).2 ≤ P.length := by
  unfold esc at h ⊢
  cases hx : P[j]? with
  | none => rw [hx] at h; exact absurd rfl h
  | some x =>
    have h0 := (List.getElem?_eq_some_iff.1 hx).1
    rw [hx] at h
    simp only at h ⊢
    split
    · show j + 1 ≤ _; omega
    · rename_i hn
      rw [if_neg hn] at h
      cases ha : P[j + 1]? with
      | none => rw [ha] at h; exact absurd rfl h
      | some y =>
        cases hb : P[j + 2]? with
        | none => rw [ha, hb] at h; exact absurd rfl h
        | some z =>
          have h2 := (List.getElem?_eq_some_iff.1 hb).1
          simp only
          split
          · show j + 3 ≤ _; omega
          · show j + 0 ≤ _; omega
theorem esc_byte {P : List Nat} {j : Nat} (hP : ∀ u ∈ P, u < 256) : (esc P j).1 < 256 := by
  unfold esc
  cases hx : P[j]? with
  | none => show (0 : Nat) < 256; decide
  | some x =>
    have h0 := hP x (List.mem_of_getElem? hx)
    simp only
    split
    · exact h0
    · cases ha : P[j + 1]? with
      | none => show (0 : Nat) < 256; decide
      | some y =>
        cases hb : P[j + 2]? with
        | none => show (0 : Nat) < 256; decide
        | some z =>
          simp only
          split
          · rename_i h
            have h1 : hexV y < 16 := hexV_lt ⟨y, hP y (List.mem_of_getElem? ha)⟩ h.2.1
            have h2 : hexV z < 16 := hexV_lt ⟨z, hP z (List.mem_of_getElem? hb)⟩ h.2.2
            show 16 * hexV y + hexV z < 256
            omega
          · show (0 : Nat) < 256; decide
theorem one_u8 (x : Int) : ∀ u ∈ [Value.int .u8 x], u.oneCell' = true := by
  intro u hu
  rw [List.mem_singleton] at hu
  rw [hu]; rfl
theorem Lx.drewN {w : World} {g n c i : Nat} {a : Option Addr} {P : List Nat} (h : Lx w g a n c P i) (m : Nat) : Lx (w.drewN m) g a n c P i := h.kept (grown_drewN (grown_refl w _) m) h.le h.box
/-- string(out), out a row of the call's own. -/
theorem conv_own {W : World} {B m cp : Nat} {A : Option Addr} {l : List Nat} (h : W.ownsRow B 5 1 (.slice A m cp) m (bytes l)) (hl : l.length = m) :
    ∀ dst, Try.prog.underlying dst = some .string → (convert 22 dst (.slice A m cp)).run Try.prog W = .ok (.string (bstr l)) W := by
  rcases h.2 with ⟨e, h0⟩ | ⟨g, cap, cur, e, hb, hh, h1, h2, h3, h4⟩
  · injection e with e1 e2 e3
    subst e1 e2 e3
    obtain rfl := List.eq_nil_of_length_eq_zero hl
    exact run_convert_bytes_nil W 22 5 Try.underlying22 Try.underlying5 0 0
  · injection e with e1 e2 e3
    subst e1
    refine run_convert_bytes_arg W 22 5 Try.underlying22 Try.underlying5 g 0 m cp (l.map fun u : Nat => (u : Int)) (by rw [List.length_map]; exact hl) fun i hi => ?_
    rw [Nat.zero_add, (blk3 hh).1]
    have hi' : i < l.length := by omega
    have h5 : (cur.toList.take (m * 1))[i]? = some (.int .u8 ((l.map fun u : Nat => (u : Int)).getD i 0)) := by
      rw [h4, bytes, List.getElem?_map, List.getElem?_eq_getElem hi', List.getD_eq_getElem?_getD, List.getElem?_map, List.getElem?_eq_getElem hi']
      rfl
    rw [Nat.mul_one, List.getElem?_take_of_lt hi] at h5
    simpa using h5
/-- What a name in quotes comes to. -/
def Quoted (w : World) (g : Nat) (a : Option Addr) (n c : Nat) (P : List Nat) (r : Except Nat (List Nat × Nat)) (e : Ending) (w' : World) : Prop :=
  match r with
  | .ok (s, k) => e = .returned (.tuple #[.string (bstr s), .int .i64 0]) ∧ (∀ u ∈ s, u < 256) ∧ Lx w' g a n c P k ∧ w.grownBy w' (some g)
  | .error k => e = .returned (.tuple #[.string ⟨#[]⟩, .int .i64 7]) ∧ Lx w' g a n c P k ∧ w.grownBy w' (some g)
theorem quoted_ok {w w' : World} {g n c k : Nat} {a : Option Addr} {P s : List Nat} {r : Except Nat (List Nat × Nat)} {e : Ending} (hr : r = .ok (s, k)) (he : e = .returned (.tuple #[.string (bstr s), .int .i64 0])) (hs : ∀ u ∈ s, u < 256) (hl : Lx w' g a n c P k) (hg : w.grownBy w' (some g)) : Quoted w g a n c P r e w' := by
  subst hr; exact ⟨he, hs, hl, hg⟩
theorem quoted_err {w w' : World} {g n c k : Nat} {a : Option Addr} {P : List Nat} {r : Except Nat (List Nat × Nat)} {e : Ending} (hr : r = .error k) (he : e = .returned (.tuple #[.string ⟨#[]⟩, .int .i64 7])) (hl : Lx w' g a n c P k) (hg : w.grownBy w' (some g)) : Quoted w g a n c P r e w' := by
  subst hr; exact ⟨he, hl, hg⟩
set_option maxRecDepth 20000 in
set_option maxHeartbeats 4000000 in
theorem quoted_calls (w : World) (g n c i0 : Nat) (a : Option Addr) (P : List Nat) (h : Lx w g a n c P i0) : Calls Try.prog 36 #[.pointer (some ⟨g, 0, none⟩)] w (Quoted w g a n c P (quoted P i0 [])) := by
  have hn := h.small
  have hcap := h.cap
  have HL := Lib.hid h
  have HLEN := Lib.hid h.len
  have hgw := (blk3 h.box).2.2
  clear h
  go_enter Try.func36, Try.ntmps36
  go_wp2_with fail
  go_loopg [4] (n - i0) (fun gk s4 wr => ∃ (i m cp : Nat) (A : Option Addr) (acc : List Nat), s4 = .slice A m cp ∧ i ≤ n ∧ Hid (gk = n - i) ∧ m ≤ i ∧ Hid (acc.length = m) ∧ Hid (∀ u ∈ acc, u < 256) ∧ Hid (Lx wr g a n c P i) ∧ Hid (quoted P i acc = quoted P i0 []) ∧ Hid (wr.ownsRow w.heap.size 5 1 (.slice A m cp) m (bytes acc)) ∧ Hid (w.grownBy wr (some g)))
  case atStart => exact ⟨i0, 0, 0, none, [], rfl, HL.out.le, rfl, Nat.zero_le _, rfl, fun u hu => (by simp at hu), HL.out, rfl, World.ownsRow_nil _ _ _ _, grown_refl _ _⟩
  case round =>
    obtain ⟨i, m, cp, A, acc, rfl, hi, HK, hmi, HM, HA, Lwr, HQ, Owr, Gwr⟩ := hrel
    obtain ⟨c1, f1, z1⟩ := blk3 Lwr.out.box
    by_cases hlt : i < n
    · obtain ⟨b, off, x, rfl, hx, x256, xwr⟩ := Lwr.out.at hlt
      have HX := Lib.hid hx
      have hlt2 : (i : Int) < (n : Int) := by omega
      have hi1 : (i : Int) + 1 = ((i + 1 : Nat) : Int) := by omega
      have HI1 := Lib.hid hi1
      clear hx hi1
      go_wp2_with fail
      go_still (by kernel_rfl)
      obtain ⟨W1, hW1⟩ : ∃ W, W = wr.drew := ⟨_, rfl⟩
      rw [show ({ heap := wr.heap, tape := wr.tape, drawn := wr.drawn + 1, os := wr.os, output := wr.output } : World) = wr.drew from rfl, ← hW1]
      have LW1 : Hid (Lx W1 g (some ⟨b, off, none⟩) n c P i) := Lib.hid (by rw [hW1]; exact Lwr.out.drew)
      have GW1 : Hid (w.grownBy W1 (some g)) := Lib.hid (by rw [hW1]; exact grown_drew Gwr.out)
      have OW1 : Hid (W1.ownsRow w.heap.size 5 1 (.slice A m cp) m (bytes acc)) := Lib.hid (by rw [hW1]; exact Owr.out)
      have xW1 : W1.cell? ⟨b, off + i, none⟩ = some (.int .u8 (x : Nat)) := by rw [hW1]; exact xwr
      clear hW1 c1 f1 z1 Lwr Gwr Owr xwr
      obtain ⟨c1, f1, z1⟩ := blk3 LW1.out.box
      go_wp2_with fail
      go_still (by kernel_rfl)
      obtain ⟨W2, hW2⟩ : ∃ W, W = W1.drew := ⟨_, rfl⟩
      rw [show ({ heap := W1.heap, tape := W1.tape, drawn := W1.drawn + 1, os := W1.os, output := W1.output } : World) = W1.drew from rfl, ← hW2]
      have LW2 : Hid (Lx W2 g (some ⟨b, off, none⟩) n c P i) := Lib.hid (by rw [hW2]; exact LW1.out.drew)
      have GW2 : Hid (w.grownBy W2 (some g)) := Lib.hid (by rw [hW2]; exact grown_drew GW1.out)
      have OW2 : Hid (W2.ownsRow w.heap.size 5 1 (.slice A m cp) m (bytes acc)) := Lib.hid (by rw [hW2]; exact OW1.out)
      have xW2 : W2.cell? ⟨b, off + i, none⟩ = some (.int .u8 (x : Nat)) := by rw [hW2]; exact xW1
      clear hW2 c1 f1 z1 LW1 GW1 OW1 xW1
      obtain ⟨c1, f1, z1⟩ := blk3 LW2.out.box
      have hne : ∀ o : Nat, some (⟨g, o, none⟩ : Addr).block ≠ (Value.slice A m cp).ownBlock := by
        intro o e
        have := (World.ownsRow.lt OW2.out _ e.symm).1
        simp at this
        omega
      have HNE := Lib.hid hne
      have HWZ : Hid (∀ o, w.heap.size ≤ (W2.alloc o).heap.size) := Lib.hid (fun o => by have := GW2.out.size; simp; omega)
      have HWB : Hid (∀ o, Below w.heap.size W2 (W2.alloc o)) := Lib.hid (fun o => (Below.refl _ _).alloc GW2.out.size _)
      have HBX : Hid (∀ W, Below w.heap.size W2 W → W.heap[g]? = some (.cells #[.slice (some ⟨b, off, none⟩) n c, .int .i64 (i : Nat)] 51)) := Lib.hid (fun W hb => (hb.block _ hgw).trans LW2.out.box)
      clear hne
      by_cases h34 : x = 34
      · subst h34
        have hcv := conv_own (own_setCell OW2.out (p := ⟨g, 1, none⟩) (HNE.out 1) (.int .i64 ((i : Int) + 1))) HM.out
        go_wp2
        go_ret2
        refine quoted_ok (k := i + 1) (by rw [← HQ.out]; exact quoted_close HX.out) rfl HA.out ?_ ?_
        · rw [HI1.out]; exact LW2.out.set (j := i + 1) (by omega)
        · exact grown_set GW2.out _ _
      · have k34 : ((x : Int) == 34) = false := by rw [beq_eq_false_iff_ne]; omega
        by_cases h92 : x = 92
        · subst h92
          have hri : i + 1 ≤ n := by omega
          have hE : ∀ A2 c2, (0 < n - (i + 1) → A2 = some ⟨b, off + (i + 1), none⟩) → ∀ nq, Calls Try.prog 41 #[.slice A2 (n - (i + 1)) c2] (W2.drewN nq) fun e w'' => e = .returned (.tuple #[.int .u8 ((esc P (i + 1)).1 : Nat), .int .i64 ((esc P (i + 1)).2 : Nat)]) ∧ ∃ m, w'' = (W2.drewN nq).drewN m := by
            intro A2 c2 hA2 nq
            rw [esc_suffix P (i + 1)]
            refine escape_calls _ _ _ _ (P.drop (i + 1)) ⟨by rw [List.length_drop, HLEN.out], fun u hu => HL.out.byte u (List.mem_of_mem_drop hu), fun hp => ⟨b, off + (i + 1), hA2 hp, fun j u hu => ?_⟩⟩ (by omega)
            rw [List.getElem?_drop] at hu
            obtain ⟨b', off', e, _, hc⟩ := LW2.out.read (by omega)
            injection e with e
            injection e with e1 e2
            subst e1 e2
            have := hc _ u hu
            rw [show off + (i + 1) + j = off + (i + 1 + j) by omega]
            exact this
          have HE := Lib.hid hE
          clear hE
          obtain ⟨eb, heb⟩ : ∃ z, z = (esc P (i + 1)).1 := ⟨_, rfl⟩
          obtain ⟨ek, hek⟩ : ∃ z, z = (esc P (i + 1)).2 := ⟨_, rfl⟩
          rw [← heb, ← hek] at HE
          have heb256 : eb < 256 := by rw [heb]; exact esc_byte HL.out.byte
          have hekn : ¬ ek = 0 → i + 1 + ek ≤ n := fun h => by rw [hek] at h ⊢; have := esc_le h; rw [HLEN.out] at this; exact this
          have HEB := Lib.hid (And.intro heb hek)
          clear heb hek
          have HE0 : Hid (∀ A2 c2 nq, Calls Try.prog 41 #[.slice A2 0 c2] (W2.drewN nq) fun e w'' => e = .returned (.tuple #[.int .u8 0, .int .i64 0]) ∧ ∃ m, w'' = (W2.drewN nq).drewN m) := Lib.hid (fun A2 c2 nq => escape_calls _ _ _ _ [] ⟨rfl, fun u hu => (by simp at hu), fun h => absurd h (Nat.lt_irrefl _)⟩ (by decide))
          by_cases hcc : i + 1 = c
          · have HBAD : Hid (quoted P i0 [] = .error i) := Lib.hid (by
              rw [← HQ.out]
              exact quoted_bad HX.out (by
                by_cases h : (esc P (i + 1)).2 = 0
                · exact h
                · have := esc_le h; have := HLEN.out; omega))
            obtain rfl : c = i + 1 := hcc.symm
            obtain rfl : n = i + 1 := by omega
            go_wp2_with fail
            refine wp_region_quiet_lit (by kernel_rfl) (by kernel_rfl) ?_
            repeat (go_big_quiet_step ((go_at_call 41; exact Calls.quiet_of (HE0.out _ _ _))))
            refine wpQuiet_nil ?_
            intro _ hw'
            obtain ⟨nq, hw''⟩ := hw'
            subst hw''
            go_wp2
            go_ret2
            exact quoted_err HBAD.out rfl (LW2.out.drewN nq) (grown_drewN GW2.out nq)
          · have hcc1 : ¬ c = i + 1 := fun e => hcc e.symm
            have hcc2 : ¬ (c : Int) = (i : Int) + 1 := by omega
            have hs1 : IntKind.i64.wrap ((i : Int) + 1) = (i : Int) + 1 := IntWalk.i64_in _ (by omega)
            have hs2 : 0 ≤ (i : Int) + 1 := by omega
            have hs3 : ((i : Int) + 1).toNat = i + 1 := by omega
            have hs4 : (i : Int) + 1 ≤ (n : Int) := by omega
            have hs5 : (n : Int) ≤ (c : Int) := by omega
            go_wp2_with fail
            refine wp_region_quiet_lit (by kernel_rfl) (by kernel_rfl) ?_
            repeat (go_big_quiet_step ((go_at_call 41; exact Calls.quiet_of (HE.out _ _ (fun _ => rfl) _))))
            refine wpQuiet_nil ?_
            intro _ hw'
            obtain ⟨nq, hw''⟩ := hw'
            obtain ⟨W3, hW3⟩ : ∃ W, W = W2.drewN nq := ⟨_, rfl⟩
            rw [hw'', ← hW3]
            have LW3 : Hid (Lx W3 g (some ⟨b, off, none⟩) n c P i) := Lib.hid (by rw [hW3]; exact LW2.out.drewN nq)
            have GW3 : Hid (w.grownBy W3 (some g)) := Lib.hid (by rw [hW3]; exact grown_drewN GW2.out nq)
            have OW3 : Hid (W3.ownsRow w.heap.size 5 1 (.slice A m cp) m (bytes acc)) := Lib.hid (by rw [hW3]; exact OW2.out)
            clear hW3 hw'' c1 f1 z1 LW2 GW2 OW2 xW2 hs1 hs2 hs3 hs4 hs5 HWZ HWB HBX HE HE0
            obtain ⟨c1, f1, z1⟩ := blk3 LW3.out.box
            by_cases hek0 : ek = 0
            · subst hek0
              go_wp2
              go_ret2
              exact quoted_err (by rw [← HQ.out]; exact quoted_bad HX.out HEB.out.2.symm) rfl LW3.out GW3.out
            · have hekn' := hekn hek0
              have hek1 : ¬ (ek : Int) = 0 := by omega
              have hek2 : ((ek : Int) == 0) = false := by rw [beq_eq_false_iff_ne]; exact hek1
              have HQI : Hid (quoted P (i + 1 + ek) (acc ++ [eb]) = quoted P i0 []) := Lib.hid (by rw [← HQ.out, HEB.out.1, HEB.out.2]; exact (quoted_esc HX.out (by rw [← HEB.out.2]; exact hek0)).symm)
              have HWZ : Hid (∀ o, w.heap.size ≤ (W3.alloc o).heap.size) := Lib.hid (fun o => by have := GW3.out.size; simp; omega)
              have HWB : Hid (∀ o, Below w.heap.size W3 (W3.alloc o)) := Lib.hid (fun o => (Below.refl _ _).alloc GW3.out.size _)
              have HBX : Hid (∀ W, Below w.heap.size W3 W → W.heap[g]? = some (.cells #[.slice (some ⟨b, off, none⟩) n c, .int .i64 (i : Nat)] 51)) := Lib.hid (fun W hb => (hb.block _ hgw).trans LW3.out.box)
              clear hekn
              go_wp2_with (at_builtin; refine append_row (B := w.heap.size) (w0 := W3) rfl _ _ 22 5 (.int .u8 0) 1 1 rfl Try.underlying22 info5 rfl (by decide) _ m _ rfl (own_below OW3.out ((Below.refl _ _).alloc (Nat.le_refl _) _)) ⟨W3.heap.size, 0, none⟩ 1 1 [.int .u8 (eb : Nat)] rfl rfl (new_cells _ _ _ _) (one_u8 _) (HWZ.out _) (HWB.out _) (by omega) (by omega) ?_; intro v1 w9 hown hb9 hg9; obtain ⟨A1, cp1, rfl, _, _⟩ := own_shape hown; have HO9 := Lib.hid hown; have HB9 := Lib.hid hb9; obtain ⟨c9, f9, z9⟩ := blk3 (HBX.out _ hb9); clear hown hb9 hg9)
              go_roundg (n - (i + 1 + ek))
              case measure => have := HK.out; omega
              case rel =>
                have hgw9 := grown_belowB GW3.out HB9.out
                have hbx := blk_set (blk_set (HBX.out _ HB9.out) 1 (.int .i64 ((i : Int) + ek))) 1 (.int .i64 ((i : Int) + ek + 1))
                have e1 : (i : Int) + ek + 1 = ((i + 1 + ek : Nat) : Int) := by omega
                rw [e1] at hbx ⊢
                refine ⟨i + 1 + ek, m + 1, cp1, A1, acc ++ [eb], rfl, hekn', rfl, by omega, ?_, ?_, ?_, HQI.out, ?_, grown_set (grown_set hgw9 _ _) _ _⟩
                · show (acc ++ [eb]).length = m + 1
                  rw [List.length_append, HM.out]; rfl
                · show ∀ u ∈ acc ++ [eb], u < 256
                  intro u hu
                  rcases List.mem_append.1 hu with hu | hu
                  · exact HA.out u hu
                  · rw [List.mem_singleton] at hu; rw [hu]; exact heb256
                · exact HL.out.kept (grown_set (grown_set hgw9 _ _) _ _) hekn' hbx
                · show World.ownsRow _ _ _ _ _ _ _
                  rw [bytes, List.map_append]
                  exact own_setCell (own_setCell HO9.out (fun e => by
                    have := (World.ownsRow.lt HO9.out _ e.symm).1
                    simp at this
                    omega) _) (fun e => by
                    have := (World.ownsRow.lt HO9.out _ e.symm).1
                    simp at this
                    omega) _
        · have k92 : ((x : Int) == 92) = false := by rw [beq_eq_false_iff_ne]; omega
          by_cases hout : x < 32 ∨ 126 < x
          · have hQE : quoted P i0 [] = .error i := by rw [← HQ.out]; exact quoted_out HX.out hout
            have HQE := Lib.hid hQE
            clear hQE h34 h92
            rcases hout with h | h
            · have kl : (x : Int) < 32 := by omega
              go_wp2
              go_ret2
              exact quoted_err HQE.out rfl LW2.out GW2.out
            · have kl : ¬ (x : Int) < 32 := by omega
              have kg : (126 : Int) < (x : Int) := by omega
              go_wp2
              go_ret2
              exact quoted_err HQE.out rfl LW2.out GW2.out
          · have kl : ¬ (x : Int) < 32 := by omega
            have kg : ¬ (126 : Int) < (x : Int) := by omega
            have hQI : quoted P (i + 1) (acc ++ [x]) = quoted P i0 [] := by rw [← HQ.out]; exact (quoted_in HX.out h34 h92 hout).symm
            have HQI := Lib.hid hQI
            clear hQI h34 h92 hout
            go_wp2_with (at_builtin; refine append_row (B := w.heap.size) (w0 := W2) rfl _ _ 22 5 (.int .u8 0) 1 1 rfl Try.underlying22 info5 rfl (by decide) _ m _ rfl (own_below OW2.out ((Below.refl _ _).alloc (Nat.le_refl _) _)) ⟨W2.heap.size, 0, none⟩ 1 1 [.int .u8 (x : Nat)] rfl rfl (new_cells _ _ _ _) (one_u8 _) (HWZ.out _) (HWB.out _) (by omega) (by omega) ?_; intro v1 w9 hown hb9 hg9; obtain ⟨A1, cp1, rfl, _, _⟩ := own_shape hown; have HO9 := Lib.hid hown; have HB9 := Lib.hid hb9; obtain ⟨c9, f9, z9⟩ := blk3 (HBX.out _ hb9); clear hown hb9 hg9)
            go_roundg (n - (i + 1))
            case measure => have := HK.out; omega
            case rel =>
              have hgw9 := grown_belowB GW2.out HB9.out
              have hbx := blk_set (HBX.out _ HB9.out) 1 (.int .i64 ((i : Int) + 1))
              rw [HI1.out] at hbx ⊢
              refine ⟨i + 1, m + 1, cp1, A1, acc ++ [x], rfl, by omega, rfl, by omega, ?_, ?_, ?_, HQI.out, ?_, grown_set hgw9 _ _⟩
              · show (acc ++ [x]).length = m + 1
                rw [List.length_append, HM.out]; rfl
              · show ∀ u ∈ acc ++ [x], u < 256
                intro u hu
                rcases List.mem_append.1 hu with hu | hu
                · exact HA.out u hu
                · rw [List.mem_singleton] at hu; rw [hu]; exact x256
              · exact HL.out.kept (grown_set hgw9 _ _) (by omega) hbx
              · show World.ownsRow _ _ _ _ _ _ _
                rw [bytes, List.map_append]
                exact own_setCell HO9.out (fun e => by
                  have := (World.ownsRow.lt HO9.out _ e.symm).1
                  simp at this
                  omega) _
    · obtain rfl : n = i := by omega
      go_wp2_with fail
      go_still (by kernel_rfl)
      go_wp2
      go_ret2
      exact quoted_err (by rw [← HQ.out]; exact quoted_end (by rw [HLEN.out]; exact Nat.le_refl _)) rfl Lwr.out.drew (grown_drew Gwr.out)
end Go.Proofs.Ytjebanfmnfofnaa

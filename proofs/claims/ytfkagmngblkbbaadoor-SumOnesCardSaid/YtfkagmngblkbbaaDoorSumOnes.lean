/-
  weathervanelaw02.SumOnes: whatever bytes, place and turn it is handed, it returns true; its arguments read behind the call as they did. Condition: the table of the half bytes lies as start-up lays it (tied to the program's text by the card).
-/
import Derived.Test.YtfkagmngblkbbaaDoorAwake
import Derived.Test.YtfkagmngblkbbaaDoorLiftc
import Derived.Test.YtfkagmngblkbbaaDoorSealc
import Derived.BigQuiet
import Derived.Deep.QuietTactic
import Derived.Deep.RegionWith
set_option linter.unusedSimpArgs false
set_option linter.unusedVariables false
namespace Go.Proofs.YtfkagmngblkbbaaDoor.lawSumOnes
open Go.ChangeShapes Go.WideShapes Go.ChangeAt Go.RowKit Crc
theorem pw_below_drewN {B : Nat} {w W : World} (h : Below B w W) (n : Nat) : Below B w (W.drewN n) := ⟨h.os, h.tape, h.output, h.size, h.block⟩
theorem bits8_zero (x : Nat) (hx : x < 256) (h : bits8 x = List.replicate 8 false) : x = 0 := by
  have : ∀ x : Fin 256, bits8 x.val = List.replicate 8 false → x.val = 0 := by decide +kernel
  exact this ⟨x, hx⟩ h
theorem bitsOf_zeros : ∀ n, bitsOf (List.replicate n 0) = zeros (8 * n)
  | 0 => rfl
  | n + 1 => by
    rw [List.replicate_succ, bitsOf_cons, bitsOf_zeros n, show bits8 0 = List.replicate 8 false by decide, zeros, zeros, List.replicate_append_replicate]
    congr 1
    omega
theorem zipX_self : ∀ xs : List Nat, zipX xs xs = List.replicate xs.length 0
  | [] => rfl
  | x :: xs => by
    have := zipX_self xs
    unfold zipX at *
    rw [List.zipWith_cons_cons, this, Nat.xor_self]
    rfl
theorem zipX_set (t : Nat) : ∀ (xs : List Nat) (i : Nat), i < xs.length → zipX xs (xs.set i (xs.getD i 0 ^^^ t)) = List.replicate i 0 ++ [t] ++ List.replicate (xs.length - i - 1) 0
  | [], i, h => by simp at h
  | x :: xs, 0, _ => by
    have := zipX_self xs
    unfold zipX at *
    simp only [List.set_cons_zero, List.zipWith_cons_cons, this, List.getD_cons_zero, ← Nat.xor_assoc, Nat.xor_self, Nat.zero_xor]
    simp
  | x :: xs, i + 1, h => by
    have := zipX_set t xs i (by simpa using h)
    unfold zipX at *
    simp only [List.set_cons_succ, List.zipWith_cons_cons, List.getD_cons_succ, this, Nat.xor_self]
    simp [List.replicate_succ]
/-- One byte turned: another sum. -/
theorem sumOf_one (xs : List Nat) (i t : Nat) (hi : i < xs.length) (ht : t < 256) (h0 : t ≠ 0) : sumOf xs ≠ sumOf (xs.set i (xs.getD i 0 ^^^ t)) := by
  intro e
  have hz := zipX_set t xs i hi
  have hx := crc_xor xs (xs.set i (xs.getD i 0 ^^^ t)) (BitVec.allOnes 32) (BitVec.allOnes 32) (by simp)
  have he : crc (BitVec.allOnes 32) xs = crc (BitVec.allOnes 32) (xs.set i (xs.getD i 0 ^^^ t)) := BitVec.eq_of_toNat_eq e
  rw [BitVec.xor_self, hz, ← he, BitVec.xor_self, crc, bitsOf_append, bitsOf_append, bitsOf_zeros, bitsOf_zeros, bitsOf_cons, show bitsOf [] = [] from rfl, List.append_nil] at hx
  have hb := burst_ne _ _ (bits8 t) (by rw [bits8_length]; omega) hx
  rw [bits8_length] at hb
  exact h0 (bits8_zero t ht hb)
theorem ownB_set {B g n cap : Nat} {w : World} {xs : List Nat} (h : OwnB B w (.slice (some ⟨g, 0, none⟩) n cap) xs) (i x : Nat) :
    OwnB B (w.setCell ⟨g, i, none⟩ (.int .u8 ((x : Nat) : Int))) (.slice (some ⟨g, 0, none⟩) n cap) (xs.set i x) := by
  obtain ⟨hl, hh⟩ := h
  rcases hh with ⟨h1, _⟩ | ⟨g', cap', cur, e, hb, hh, hle, hm, hs, ht⟩
  · cases h1
  · injection e with e1 e2 e3
    injection e1 with e1
    injection e1 with e1 _ _
    subst e1 e2 e3
    refine ⟨by rw [bytesL_length, Nat.mul_one], .inr ⟨g, cap, cur.setIfInBounds i (.int .u8 ((x : Nat) : Int)), by rw [List.length_set], hb, blk_set hh i _, by rw [List.length_set]; exact hle, hm, by simp; omega, ?_⟩⟩
    rw [List.length_set, Array.toList_setIfInBounds, List.take_set, ht]
    simp [bytesL, List.map_set]
theorem own_cell {B g n cap : Nat} {w : World} {xs : List Nat} (h : OwnB B w (.slice (some ⟨g, 0, none⟩) n cap) xs) (i : Nat) (hi : i < xs.length) : w.cell? ⟨g, i, none⟩ = some (.int .u8 ((xs.getD i 0 : Nat) : Int)) := by
  obtain ⟨g', cap', cur, e, _, hh, hle, _, hs, ht⟩ := h.at_ (by omega)
  injection e with e1 e2 e3
  injection e1 with e1
  injection e1 with e1 _ _
  subst e1
  rw [cell_of_row w g i _ _ _ hh]
  have h1 : (cur.toList.take xs.length)[i]? = some (.int .u8 ((xs.getD i 0 : Nat) : Int)) := by rw [ht]; simp [bytesL, hi]
  rw [List.getElem?_take_of_lt hi] at h1
  simpa using h1
/-- What sum.Open hands back. -/
def Opened (w : World) (len : Nat) (xs : List Nat) (e : Ending) (w' : World) : Prop := ∃ A n c f, e = .returned (.tuple #[.slice A n c, .int .i64 f]) ∧ Below w.heap.size w w' ∧
  (len < 4 ∧ n = 0 ∧ f = 3 ∨ 4 ≤ len ∧ sumOf xs ≠ 0 ∧ n = 0 ∧ f = 6 ∨ 4 ≤ len ∧ sumOf xs = 0 ∧ f = 0 ∧ Reads w' A n (xs.take (len - 4)))
theorem opened_calls (w : World) (a : Option Addr) (len cap : Nat) (xs : List Nat) (hx : Reads w a len xs) (hc : len ≤ cap) (hlen : len ≤ 1000000000) (ht : Table w) :
    Calls Tryd.prog 14 #[.slice a len cap] w (Opened w len xs) := by
  refine (open_calls w a len cap xs hx hc hlen ht).mono ?_
  rintro e w' (⟨h, rfl, rfl⟩ | ⟨h, h0, rfl, rfl⟩ | ⟨h, h0, v, rfl, hown, hb⟩)
  · exact ⟨none, 0, 0, 3, rfl, Below.refl _ _, .inl ⟨h, rfl, rfl⟩⟩
  · exact ⟨none, 0, 0, 6, rfl, Below.refl _ _, .inr (.inl ⟨h, h0, rfl, rfl⟩)⟩
  · obtain ⟨A, n, c, rfl, _, _, hr⟩ := hown.slice (fun x hm => hx.2.1 x (List.mem_of_mem_take hm))
    exact ⟨A, n, c, 0, rfl, hb, .inr (.inr ⟨h, h0, rfl, hr⟩)⟩
theorem turn_facts {B : Nat} {w : World} {v : Value} {xs : List Nat} (hown : OwnB B w v ([] ++ xs)) (h0 : 0 < xs.length) (hx : ∀ x ∈ xs, x < 256) (m t : Nat) (ht : t < 256) :
    ∃ g cp q, v = .slice (some ⟨g, 0, none⟩) xs.length cp ∧ B ≤ g ∧ xs.length ≤ cp ∧ cp ≤ maxLen ∧ Hid (OwnB B w (.slice (some ⟨g, 0, none⟩) xs.length cp) xs) ∧ Hid (q = xs.getD (m % xs.length) 0) ∧ q < 256 ∧
      w.cell? ⟨g, m % xs.length, none⟩ = some (.int .u8 ((q : Nat) : Int)) ∧ w.frozen? ⟨g, m % xs.length, none⟩ = false ∧ bits .xor .u8 (q : Int) (t : Int) = ((q ^^^ t : Nat) : Int) ∧
      (0 : Int) ≤ (m : Int) % (xs.length : Int) ∧ (m : Int) % (xs.length : Int) < (xs.length : Int) := by
  rw [List.nil_append] at hown
  obtain ⟨g, cp, cur, rfl, hg, hh, hle, hmx, _, _⟩ := hown.at_ h0
  have hml := Nat.mod_lt m h0
  have hi1 : (m : Int) % (xs.length : Int) < (xs.length : Int) := Int.emod_lt_of_pos _ (by omega)
  have hi0 : (0 : Int) ≤ (m : Int) % (xs.length : Int) := Int.emod_nonneg _ (by omega)
  exact ⟨g, cp, _, rfl, hg, hle, hmx, hown, rfl, getD_lt xs hx _, own_cell hown _ hml, blk_frozen hh _, xor_u8 _ t (getD_lt xs hx _) ht, hi0, hi1⟩
theorem own_reads {B g n cap : Nat} {w : World} {xs : List Nat} (h : OwnB B w (.slice (some ⟨g, 0, none⟩) n cap) xs) (hx : ∀ x ∈ xs, x < 256) {m : Nat} (hl : xs.length = m) : Reads w (some ⟨g, 0, none⟩) m xs := by
  subst hl
  obtain ⟨A, k, e, _, hr⟩ := h.reads hx
  injection e with e1 e2 e3
  rw [← e1] at hr
  exact hr
/-- The first byte of what is owned. -/
theorem first_facts {B : Nat} {w : World} {v : Value} {ys : List Nat} {m : Nat} (hown : OwnB B w v (ys ++ be4 m)) (h0 : 0 < ys.length) (hy : ∀ y ∈ ys, y < 256) :
    ∃ (g : Nat) (n : { n : Nat // 0 < n }) (cp y0 : Nat), v = .slice (some ⟨g, 0, none⟩) n.val cp ∧ B ≤ g ∧ Hid (OwnB B w v (ys ++ be4 m)) ∧ y0 = ys.getD 0 0 ∧ y0 < 256 ∧ w.cell? ⟨g, 0, none⟩ = some (.int .u8 ((y0 : Nat) : Int)) ∧ w.frozen? ⟨g, 0, none⟩ = false := by
  obtain ⟨g, cp, cur, rfl, hg, hh, hle, hmx, _, _⟩ := hown.at_ (by rw [List.length_append]; omega)
  refine ⟨g, ⟨_, by rw [List.length_append]; omega⟩, cp, _, rfl, hg, hown, rfl, getD_lt ys hy 0, ?_, blk_frozen hh _⟩
  rw [own_cell hown 0 (by rw [List.length_append]; omega)]
  congr 3
  rw [List.getD_eq_getElem?_getD, List.getD_eq_getElem?_getD, List.getElem?_append_left h0]
theorem cell_set {w : World} {g i : Nat} {u : Value} (h : w.cell? ⟨g, i, none⟩ = some u) (v : Value) : (w.setCell ⟨g, i, none⟩ v).cell? ⟨g, i, none⟩ = some v := World.cell?_setCell_same _ _ _ h
/-- What is sealed, cut at its end. -/
theorem seal_facts {B : Nat} {w : World} {v : Value} {xs : List Nat} {m : Nat} (hown : OwnB B w v (xs ++ be4 m)) (hx : ∀ x ∈ xs, x < 256) :
    ∃ (g n cp : Nat), v = .slice (some ⟨g, 0, none⟩) n cp ∧ n = xs.length + 4 ∧ n ≤ cp ∧ ∀ k, k ≤ xs.length + 4 → Reads w (some ⟨g, 0, none⟩) k ((xs ++ be4 m).take k) := by
  have hl : (xs ++ be4 m).length = xs.length + 4 := by rw [List.length_append]; rfl
  obtain ⟨g, cp, cur, rfl, hg, hh, hle, hmx, _, _⟩ := hown.at_ (by omega)
  refine ⟨g, _, cp, rfl, hl, hle, fun k hk => ?_⟩
  exact (own_reads hown (sealed_lt xs hx m) rfl).take_ k (by omega)
set_option maxHeartbeats 1000000 in
theorem walk_yes (w : World) (a : Option Addr) (len cap : Nat) (xs : List Nat) (m t : Nat) (hx : Came w a len cap xs) (ht : Table w) (h : len ≤ 300) (h0 : 0 < len) (hm : m < 65536) (ht1 : 0 < t) (ht2 : t < 256) :
    Calls Tryd.prog 8 #[.slice a len cap, .int .u16 m, .int .u8 t] w fun e w' => e = .returned (.bool true) ∧ Below w.heap.size w w' := by
  obtain rfl := hx.1.1
  have HT := Lib.hid ht
  have HX := Lib.hid hx
  have n1 : ((xs.length : Int) == 0) = false := by rw [beq_eq_false_iff_ne]; omega
  have n2 : ((t : Int) == 0) = false := by rw [beq_eq_false_iff_ne]; omega
  clear ht hx
  go_enter Tryd.func8, Tryd.ntmps8
  go_wp2_with fail
  refine (awake_calls _ HT.out).mono ?_
  rintro e w1 ⟨rfl, hb⟩
  have HB := Lib.hid hb
  clear hb
  go_wp2_with (at_builtin; refine append_bytes rfl _ _ rfl (.slice none 0 0) [] rfl (ownB_nil _ _) a xs.length cap xs rfl (HX.out.1.below HB.out) HX.out.2.1 (Nat.le_refl _) (Below.refl _ _) (by simp; omega) ?_; intro v1 w2 hown hb hsz; have HB1 := Lib.hid hb; clear hb; obtain ⟨g, cp, q, rfl, hg, hle, hmx, HO, HQ, hq2, cq, fq, xq, i0, i1⟩ := turn_facts hown h0 HX.out.1.2.1 m t ht2; clear hown)
  have HO3 := Lib.hid (ownB_set HO.out (m % xs.length) (q ^^^ t))
  have HB3 := Lib.hid ((HB1.out).setCell (p := ⟨g, m % xs.length, none⟩) hg (.int .u8 ((q ^^^ t : Nat) : Int)))
  generalize hw3 : w2.setCell ⟨g, m % xs.length, none⟩ (.int .u8 ((q ^^^ t : Nat) : Int)) = w3 at *
  have hsz3 : w2.heap.size = w3.heap.size := by rw [← hw3]; simp [World.setCell]
  clear hw3 cq fq
  obtain ⟨ys, hys⟩ : ∃ ys, ys = xs.set (m % xs.length) (q ^^^ t) := ⟨_, rfl⟩
  rw [← hys] at HO3
  have hyl : ys.length = xs.length := by rw [hys, List.length_set]
  have hyb : ∀ y ∈ ys, y < 256 := by
    rw [hys]
    intro y hy
    rcases List.mem_or_eq_of_mem_set hy with h1 | h1
    · exact HX.out.1.2.1 y h1
    · rw [h1]; exact Nat.xor_lt_two_pow (n := 8) hq2 ht2
  have hdif : sumOf xs ≠ sumOf ys := by rw [hys, HQ.out]; exact sumOf_one xs _ t (Nat.mod_lt m h0) ht2 (by omega)
  have HYS := Lib.hid hys
  have HYL := Lib.hid hyl
  have HYB := Lib.hid hyb
  have HD := Lib.hid hdif
  have HRQ := Lib.hid (own_reads HO3.out HYB.out HYL.out)
  clear hys hyl hyb hdif xq i0 i1
  refine (seal_calls _ _ _ _ ys HRQ.out (fun e => by cases e) (by omega) (HT.out.below (HB.out.trans (HB3.out.mono HB.out.size)))).mono ?_
  rintro e w4 ⟨v4, rfl, hown, hb⟩
  obtain ⟨g4, n4, c4, y0, rfl, hg4, HO4, hy0, hy2, cy, fy⟩ := first_facts hown (by rw [HYL.out]; omega) HYB.out
  have HY0 := Lib.hid hy0
  have HB4 := Lib.hid hb
  clear hown hb hy0
  have hn4 : 0 < n4.val := n4.2
  go_wp2_with fail
  have c0 : w3.cell? ⟨g, 0, none⟩ = some (.int .u8 ((y0 : Nat) : Int)) := by rw [HY0.out]; exact own_cell HO3.out 0 (by rw [HYL.out]; omega)
  have hgs := World.block_lt_of_cell? w3 _ c0
  have HB5 := Lib.hid (HB4.out.setCell (p := ⟨g4, 0, none⟩) hg4 (.int .u8 ((((y0 : Nat) : Int) + 1) % 256)))
  have c4 : (w4.setCell ⟨g4, 0, none⟩ (.int .u8 ((((y0 : Nat) : Int) + 1) % 256))).cell? ⟨g4, 0, none⟩ = some (.int .u8 ((((y0 : Nat) : Int) + 1) % 256)) := cell_set cy _
  generalize hw5 : w4.setCell ⟨g4, 0, none⟩ (.int .u8 ((((y0 : Nat) : Int) + 1) % 256)) = w5 at *
  clear hw5 cy fy
  have hb5 : Below w.heap.size w w5 := (HB.out.trans (HB3.out.mono HB.out.size)).trans (HB5.out.mono (Nat.le_trans HB.out.size HB3.out.size))
  have HB5' := Lib.hid hb5
  clear hb5
  refine (seal_calls _ _ _ _ xs (HX.out.1.below HB5'.out) HX.out.2.1 (by omega) (HT.out.below HB5'.out)).mono ?_
  rintro e w6 ⟨v6, rfl, hown, hb⟩
  obtain ⟨g6, n6, c6, rfl, hl6, hc6, hr6⟩ := seal_facts hown HX.out.1.2.1
  have HB6 := Lib.hid hb
  have HR6 := Lib.hid (hr6 (xs.length + 3) (by omega))
  clear hown hb hr6
  go_wp2_with fail
  refine (opened_calls _ _ _ _ _ HR6.out (by omega) (by omega) (HT.out.below (HB5'.out.trans (HB6.out.mono HB5'.out.size)))).mono ?_
  rintro e w7 ⟨A7, n7, c7, f7, rfl, hb, h7⟩
  have hf : f7 = 6 ∨ f7 = 0 := by
    rcases h7 with ⟨h', _⟩ | ⟨_, _, _, h'⟩ | ⟨_, _, h', _⟩
    · omega
    · exact .inl h'
    · exact .inr h'
  have hb57 : Below w5.heap.size w5 w7 := HB6.out.trans (hb.mono HB6.out.size)
  have HB7 := Lib.hid (HB5'.out.trans (hb57.mono HB5'.out.size))
  have hb37 : Below w3.heap.size w3 w7 := HB5.out.trans (hb57.mono HB5.out.size)
  have d0 : ∀ nq, (w7.drewN nq).cell? ⟨g, 0, none⟩ = some (.int .u8 ((y0 : Nat) : Int)) := fun nq => ((pw_below_drewN hb37 nq).cell (p := ⟨g, 0, none⟩) hgs).trans c0
  have d4 : ∀ nq, (w7.drewN nq).cell? ⟨g4, 0, none⟩ = some (.int .u8 ((((y0 : Nat) : Int) + 1) % 256)) := fun nq => ((pw_below_drewN hb57 nq).cell (p := ⟨g4, 0, none⟩) (World.block_lt_of_cell? w5 _ c4)).trans c4
  have KP := Lib.hid (show ∀ nq, Calls Tryd.prog 10 #[.slice a xs.length cap] (w7.drewN nq) fun e w' => e = .returned (.int .u32 ((sumOf xs : Nat) : Int)) ∧ w' = w7.drewN nq from fun nq => (of_calls _ _ _ _ xs (HX.out.1.below (pw_below_drewN HB7.out nq)) (HT.out.below (pw_below_drewN HB7.out nq))).mono fun _ _ h => ⟨h.1, h.2.symm⟩)
  have KQ := Lib.hid (show ∀ nq, Calls Tryd.prog 10 #[.slice (some ⟨g, 0, none⟩) xs.length cp] (w7.drewN nq) fun e w' => e = .returned (.int .u32 ((sumOf ys : Nat) : Int)) ∧ w' = w7.drewN nq from fun nq => (of_calls _ _ _ _ ys (HRQ.out.below (pw_below_drewN hb37 nq)) (HT.out.below (pw_below_drewN HB7.out nq))).mono fun _ _ h => ⟨h.1, h.2.symm⟩)
  have dif : (((sumOf xs : Nat) : Int) != ((sumOf ys : Nat) : Int)) = true := by rw [bne_iff_ne]; have := HD.out; omega
  generalize sumOf xs = s1 at KP dif
  generalize sumOf ys = s2 at KQ dif
  clear hb h7 hb57 hb37 c0 c4 hgs HB HB1 HO HQ HO3 HB3 HYS HYL HYB HD HRQ HO4 HY0 HB4 HB5 HB5' HB6 HR6
  go_wp2_with fail
  have z0 : (y0 : Int) = IntKind.u8.wrap (((y0 : Int) + 1) % 256 - 1) := by rw [IntKind.wrap_u8]; omega
  have z1 : ((y0 : Int) == IntKind.u8.wrap (((y0 : Int) + 1) % 256 - 1)) = true := beq_iff_eq.2 z0
  have Z0 := Lib.hid z0
  clear z0
  rcases hf with rfl | rfl
  · go_quiet (first | (go_at_call_of 10 (Value.slice a xs.length cap); exact Calls.quiet_of_same (KP.out _)) | (go_at_call_of 10 (Value.slice (some ⟨g, 0, none⟩) xs.length cp); exact Calls.quiet_of_same (KQ.out _)))
    go_wp2
    go_ret
    exact ⟨by simp, pw_below_drewN HB7.out _⟩
  · go_quiet (first | (go_at_call_of 10 (Value.slice a xs.length cap); exact Calls.quiet_of_same (KP.out _)) | (go_at_call_of 10 (Value.slice (some ⟨g, 0, none⟩) xs.length cp); exact Calls.quiet_of_same (KQ.out _)))
    go_wp2
    go_ret
    exact ⟨by simp, pw_below_drewN HB7.out _⟩
set_option maxHeartbeats 400000 in
theorem walk_no (w : World) (a : Option Addr) (len cap : Nat) (m t : Int) (hm : len ≤ 9223372036854775807) (ht : Table w) (h : len = 0 ∨ 0 < len ∧ (300 < len ∨ len ≤ 300 ∧ t = 0)) :
    Calls Tryd.prog 8 #[.slice a len cap, .int .u16 m, .int .u8 t] w fun e w' => e = .returned (.bool true) ∧ Below w.heap.size w w' := by
  have HT := Lib.hid ht
  clear ht
  rcases h with rfl | ⟨h, h1 | ⟨h1, rfl⟩⟩
  · go_enter Tryd.func8, Tryd.ntmps8
    go_wp2_with fail
    refine (awake_calls _ HT.out).mono ?_
    rintro e w1 ⟨rfl, hb⟩
    have HB := Lib.hid hb
    clear hb
    go_wp2_with fail
    refine (awake_calls _ (HT.out.below HB.out)).mono ?_
    rintro e w2 ⟨rfl, hb⟩
    have HB2 := Lib.hid hb
    clear hb
    go_wp2
    go_ret
    exact ⟨rfl, HB.out.trans (HB2.out.mono HB.out.size)⟩
  · have n1 : ((len : Int) == 0) = false := by rw [beq_eq_false_iff_ne]; omega
    go_enter Tryd.func8, Tryd.ntmps8
    go_wp2_with fail
    refine (awake_calls _ HT.out).mono ?_
    rintro e w1 ⟨rfl, hb⟩
    have HB := Lib.hid hb
    clear hb
    go_wp2_with fail
    refine (awake_calls _ (HT.out.below HB.out)).mono ?_
    rintro e w2 ⟨rfl, hb⟩
    have HB2 := Lib.hid hb
    clear hb
    go_wp2
    go_ret
    exact ⟨rfl, HB.out.trans (HB2.out.mono HB.out.size)⟩
  · have n1 : ((len : Int) == 0) = false := by rw [beq_eq_false_iff_ne]; omega
    go_enter Tryd.func8, Tryd.ntmps8
    go_wp2_with fail
    refine (awake_calls _ HT.out).mono ?_
    rintro e w1 ⟨rfl, hb⟩
    have HB := Lib.hid hb
    clear hb
    go_wp2_with fail
    refine (awake_calls _ (HT.out.below HB.out)).mono ?_
    rintro e w2 ⟨rfl, hb⟩
    have HB2 := Lib.hid hb
    clear hb
    go_wp2
    go_ret
    exact ⟨rfl, HB.out.trans (HB2.out.mono HB.out.size)⟩
theorem walk (w : World) (a0 : Option Addr) (l0 c0 : Nat) (x0 : List Nat) (m t : Int) (h0 : Came w a0 l0 c0 x0) (hm : (Lit.int .u16 m).wf = true) (h2 : (Lit.int .u8 t).wf = true) (ht : Table w) :
    Calls Tryd.prog 8 #[.slice a0 l0 c0, .int .u16 m, .int .u8 t] w fun e w' => e = .returned (.bool true) ∧ Below w.heap.size w w' := by
  have hm' : 0 ≤ m ∧ m ≤ 65535 := by simpa [Lit.wf, IntKind.min, IntKind.max, IntKind.signed, IntKind.bits] using hm
  have h2' := u8_of_wf h2
  by_cases h : 0 < l0 ∧ l0 ≤ 300 ∧ t ≠ 0
  · obtain ⟨hl, hl2, ht0⟩ := h
    obtain ⟨m', rfl⟩ := Int.eq_ofNat_of_zero_le hm'.1
    obtain ⟨t', rfl⟩ := Int.eq_ofNat_of_zero_le h2'.1
    exact walk_yes w a0 l0 c0 x0 m' t' h0 ht hl2 hl (by omega) (by omega) (by omega)
  · exact walk_no w a0 l0 c0 m t h0.1.2.2.1 ht (by omega)

theorem laid_met (os : Os) : laidMet Tryd.prog Rows.sumOnesRow.laid ((laidWorld os).forCall (fun _ _ => 0) ⟨#[], #[.slice none 0 0, .int .u16 0, .int .u8 0], []⟩).memory :=
  laidMet_of_run' 8 (by kernel_rfl) (by kernel_rfl)
theorem reads (os : Os) {H : Type} (enc : TypeId × Value → H) : ∃ places, DataW.whole enc Tryd.prog ((laidWorld os).forCall (fun _ _ => 0) ⟨#[], #[.slice none 0 0, .int .u16 0, .int .u8 0], []⟩).memory Tryd.f8.params.toList Rows.sumOnesSpec.vars false #[(.slice none 0 0 : Value), (.int .u16 0 : Value), (.int .u8 0 : Value)].toList 8 = some ([.nil, .lit (.int .u16 0), .lit (.int .u8 0)], [], places) :=
  ⟨[], by kernel_rfl⟩

set_option maxRecDepth 100000 in
theorem lifted (os : Os) (started : os.Started) (H : Type) (enc : TypeId × Value → H) (F : Stop.Interp) :
    ReturnsInHanded {} Tryd.checked os 8 .any ((OpenSpec.ofChange Rows.sumOnesSpec).preRow enc Tryd.prog Tryd.f8 Rows.sumOnesRow.domain false Rows.sumOnesRow.laid) (((OpenSpec.ofChange Rows.sumOnesSpec).at F).post enc Tryd.prog Tryd.f8 false true false false) := by
  obtain ⟨places, hx⟩ := reads os enc
  refine returnsInHanded_of_row (C := Tryd.checked) (s := OpenSpec.ofChange Rows.sumOnesSpec) own started (by kernel_rfl) Tryd.func8
    (witness_row_at (enc := enc) (C := Tryd.checked) false (laidWorld os) #[.slice none 0 0, .int .u16 0, .int .u8 0] rfl (by kernel_rfl) (by kernel_rfl) (by kernel_rfl)
      (OpenSpec.preRow_of_cond 8 hx (by kernel_rfl) (fun k hk => by cases hk) (by kernel_rfl) (laid_met os))) ?_
  intro W base args ds gs before hval0 hW _ _ _ hL _ _
  have hval : ∀ (j : Nat) t v, Tryd.f8.params[j]? = some t → args[j]? = some v → Value.okWide Tryd.prog W .any base t v := hval0
  have hW' := hW
  obtain ⟨p, q, hA0, hV, rfl, hfz, hnd⟩ := hW
  have hA : DataW.TrodAll enc Tryd.prog W 0 (fun _ => true) true Tryd.f8.params.toList args.toList ds p := hA0
  rw [Tryd.params8] at hA hval
  obtain ⟨v0, vs0, d0, ds0, p0, q0, hargs, rfl, rfl, h0, r0⟩ := trodAll_cons hA
  obtain ⟨v1, vs1, d1, ds1, p1, q1, rfl, rfl, rfl, h1, r1⟩ := trodAll_cons r0
  obtain ⟨v2, vs2, d2, ds2, p2, q2, rfl, rfl, rfl, h2, r2⟩ := trodAll_cons r1
  obtain ⟨rfl, rfl, rfl⟩ := trodAll_nil r2
  obtain rfl : args = #[v0, v1, v2] := by cases args; simp_all
  obtain ⟨rfl, rfl⟩ := trodVars_none hV
  obtain ⟨a0, len0, cap0, rfl⟩ := okWide_slice Tryd.underlying22 (hval 0 22 v0 rfl rfl)
  have k0 := h0
  have lt0 : ∀ x ∈ p0, x.block < W.heap.size := by obtain ⟨m, hm⟩ := k0; exact DataW.trod_lt m _ _ _ hm
  obtain ⟨x0, w0⟩ := open_came h0
  obtain ⟨a1, rfl, rfl, rfl, w1⟩ := open_int Tryd.underlying32 (hval 1 32 v1 rfl rfl) h1
  obtain ⟨a2, rfl, rfl, rfl, w2⟩ := open_int Tryd.underlying5 (hval 2 5 v2 rfl rfl) h2
  clear hA0 hval0
  refine (walk W a0 len0 cap0 x0 a1 a2 w0 w1 w2 (table_of hL)).mono fun e W' ⟨he, bel⟩ => ?_
  subst he
  exact ⟨_, rfl, _, _, _, [], _, [], hW', trodAll_mk1 (shut_bool Tryd.underlying4 _), (trodAll_cons_mk (Below.trod laidOut (by kernel_rfl) (of_decide_eq_true (by kernel_rfl)) k0 bel lt0) (trodAll_cons_mk (shut_int Tryd.underlying32 w1) (trodAll_cons_mk (shut_int Tryd.underlying5 w2) trodAll_mk0))), rfl, bel.frame _, fun h => by cases h⟩

theorem said : Rows.SumOnesSaid :=
  OpenClaim.holds_of_cond 8 Tryd.f8 rfl rfl rfl rfl rfl rfl rfl ⟨rfl, rfl, rfl, rfl, rfl⟩ rfl rfl rfl rfl rfl (by kernel_rfl) Tryd.func8 (by kernel_rfl)
    (of_decide_eq_true (by kernel_rfl)) (by unfold Func.isWrapper; first | (rw [if_pos (by decide +kernel)]; kernel_rfl) | (rw [if_neg (by decide +kernel)]; exact ⟨rfl, rfl⟩))
    (fun os started H enc _ F => by rw [OpenClaim.pre_eq_preRow]; exact lifted os started H enc F)

/-- No parameter wants a stand-in; the program's own looks are off. -/
theorem plain (f : FuncId) (fn : Func) (hf : Tryd.pinned.checked.prog.funcNamed "weathervane/weathervanelaw02.SumOnes" = some f) (hfn : Tryd.pinned.checked.prog.funcs[f]? = some fn) :
    false = Tryd.pinned.checked.prog.looks [] ∧ ∀ (j : Nat) t, fn.params[j]? = some t → Tryd.pinned.checked.prog.wantsStandIn t = false := by
  obtain rfl : f = 8 := Option.some.inj ((show Tryd.prog.funcNamed "weathervane/weathervanelaw02.SumOnes" = some 8 by kernel_rfl).symm.trans hf) |>.symm
  obtain rfl : fn = Tryd.f8 := (Option.some.inj (Tryd.func8.symm.trans hfn)).symm
  refine ⟨by kernel_rfl, fun j t ht => ?_⟩
  rw [Tryd.params8] at ht
  have ht := Array.mem_of_getElem? ht
  simp at ht
  rcases ht with rfl | rfl | rfl
  · exact (show Tryd.prog.wantsStandIn 22 = false by kernel_rfl)
  · exact (show Tryd.prog.wantsStandIn 32 = false by kernel_rfl)
  · exact (show Tryd.prog.wantsStandIn 5 = false by kernel_rfl)

theorem card : Rows.SumOnesCardSaid :=
  Claim7.holds_tied_plain_at .later [] _ _ _ _ said (fun _ h => by cases h) (by kernel_rfl) (fun _ h => by cases h) sumOnes_row_tie rfl ⟨rfl, rfl⟩ (by kernel_rfl) rfl plain (by kernel_rfl)
#print axioms card

end Go.Proofs.YtfkagmngblkbbaaDoor.lawSumOnes

/-
  BYTES AS THEY LIE IN MEMORY; a lexer; letter, digit, IndexByte at the texts that lex asks. No statement of its own.
-/
import Derived.Test.YtjebanfmnfofnaaBase
import Derived.Test.YtjebanfmnfofnaaPure
import Derived.Test.YtjebanfmnfofnaaShelf
import Derived.Laws.BytesArg
import Derived.Outline
set_option linter.unusedSimpArgs false
set_option linter.unusedVariables false
namespace Go.Proofs.Ytjebanfmnfofnaa
open Go.RowKit
/-- Bytes that a slice reads as. -/
def ReadsU (w : World) (a : Option Addr) (n : Nat) (L : List Nat) : Prop :=
  L.length = n ∧ (∀ u ∈ L, u < 256) ∧ (0 < n → ∃ b off, a = some ⟨b, off, none⟩ ∧ ∀ j u, L[j]? = some u → w.cell? ⟨b, off + j, none⟩ = some (.int .u8 (u : Nat)))
/-- A string's bytes. -/
def bstr (l : List Nat) : ByteArray := strOfNums (l.map fun u : Nat => (u : Int))
theorem bstr_data (l : List Nat) : (bstr l).data.toList = l.map fun u => UInt8.ofNat u := by
  unfold bstr
  rw [strOfNums_data, List.map_map]
  rfl
theorem bstr_size (l : List Nat) : (bstr l).size = l.length := by unfold bstr; rw [strOfNums_size, List.length_map]
theorem bstr_inj {l r : List Nat} (hl : ∀ u ∈ l, u < 256) (hr : ∀ u ∈ r, u < 256) (h : bstr l = bstr r) : l = r := by
  have h1 : (bstr l).data.toList = (bstr r).data.toList := by rw [h]
  rw [bstr_data, bstr_data] at h1
  have h2 : (l.map fun u => UInt8.ofNat u).map UInt8.toNat = (r.map fun u => UInt8.ofNat u).map UInt8.toNat := by rw [h1]
  rw [List.map_map, List.map_map] at h2
  have e : ∀ x : List Nat, (∀ u ∈ x, u < 256) → x.map (UInt8.toNat ∘ fun u => UInt8.ofNat u) = x := fun x hx => by
    conv => rhs; rw [← List.map_id x]
    exact List.map_congr_left fun u hu => by have := hx u hu; simp; omega
  rw [e l hl, e r hr] at h2
  exact h2
/-- A lexer over bytes, at a place. -/
structure Lx (w : World) (g : Nat) (a : Option Addr) (n c : Nat) (P : List Nat) (i : Nat) : Prop where
  len : P.length = n
  small : n ≤ 4000
  cap : n ≤ c
  le : i ≤ n
  byte : ∀ u ∈ P, u < 256
  box : w.heap[g]? = some (.cells #[.slice a n c, .int .i64 (i : Nat)] 51)
  read : 0 < n → ∃ b off, a = some ⟨b, off, none⟩ ∧ b ≠ g ∧ ∀ j u, P[j]? = some u → w.cell? ⟨b, off + j, none⟩ = some (.int .u8 (u : Nat))
theorem grown_refl (w : World) (row : Option Nat) : w.grownBy w row := ⟨rfl, rfl, rfl, Nat.le_refl _, fun _ _ _ => rfl⟩
theorem grown_drew {w w' : World} {row : Option Nat} (h : w.grownBy w' row) : w.grownBy w'.drew row := ⟨h.os, h.tape, h.output, h.size, h.block⟩
theorem grown_drewN {w w' : World} {row : Option Nat} (h : w.grownBy w' row) (m : Nat) : w.grownBy (w'.drewN m) row := ⟨h.os, h.tape, h.output, h.size, h.block⟩
theorem grown_set {w w' : World} {g : Nat} (h : w.grownBy w' (some g)) (o : Nat) (v : Value) : w.grownBy (w'.setCell ⟨g, o, none⟩ v) (some g) :=
  ⟨h.os, h.tape, h.output, by rw [World.size_setCell]; exact h.size, fun k hk hn => (Below.heap_setCell w' ⟨g, o, none⟩ v k (fun e => hn (by rw [e]))).trans (h.block k hk hn)⟩
theorem grown_trans {w1 w2 w3 : World} {row : Option Nat} (h : w1.grownBy w2 row) (k : w2.grownBy w3 row) : w1.grownBy w3 row :=
  ⟨k.os.trans h.os, k.tape.trans h.tape, k.output.trans h.output, Nat.le_trans h.size k.size, fun b hb hn => (k.block b (Nat.lt_of_lt_of_le hb h.size) hn).trans (h.block b hb hn)⟩
theorem grown_below {w w' : World} {row : Option Nat} (hb : Below w.heap.size w w') : w.grownBy w' row := ⟨hb.os, hb.tape, hb.output, hb.size, fun k hk _ => hb.block k hk⟩
theorem grown_cell {w w' : World} {g b o : Nat} {v : Value} (h : w.grownBy w' (some g)) (hb : b ≠ g) (hc : w.cell? ⟨b, o, none⟩ = some v) : w'.cell? ⟨b, o, none⟩ = some v := by
  have := h.block b (World.block_lt_of_cell? w _ hc) (fun e => hb (by injection e))
  exact (World.cell?_of_block (a := ⟨b, o, none⟩) this).trans hc
/-- A block known whole, as the walk reads it. -/
theorem blk3 {w : World} {g : Nat} {cs : Array Value} {t : TypeId} (h : w.heap[g]? = some (.cells cs t)) : (∀ o, w.cell? ⟨g, o, none⟩ = cs[o]?) ∧ (∀ o, w.frozen? ⟨g, o, none⟩ = false) ∧ g < w.heap.size := by
  refine ⟨fun o => ?_, fun o => ?_, ?_⟩
  · simp [World.cell?, h]
  · simp [World.frozen?, h]
  · rcases Nat.lt_or_ge g w.heap.size with h1 | h1
    · exact h1
    · rw [Array.getElem?_eq_none h1] at h; cases h
section
variable {w : World} {g n c i : Nat} {a : Option Addr} {P : List Nat}
theorem Lx.kept {w' : World} (h : Lx w g a n c P i) (hg : w.grownBy w' (some g)) {j : Nat} (hj : j ≤ n) (hb : w'.heap[g]? = some (.cells #[.slice a n c, .int .i64 (j : Nat)] 51)) : Lx w' g a n c P j :=
  ⟨h.len, h.small, h.cap, hj, h.byte, hb, fun hp => by
    obtain ⟨b, off, e, hne, hc⟩ := h.read hp
    exact ⟨b, off, e, hne, fun j u hu => grown_cell hg hne (hc j u hu)⟩⟩
theorem Lx.drew (h : Lx w g a n c P i) : Lx w.drew g a n c P i := h.kept (grown_drew (grown_refl w _)) h.le h.box
theorem Lx.set (h : Lx w g a n c P i) {j : Nat} (hj : j ≤ n) : Lx (w.setCell ⟨g, 1, none⟩ (.int .i64 (j : Nat))) g a n c P j :=
  h.kept (grown_set (grown_refl w _) 1 _) hj (blk_set h.box 1 _)
theorem Lx.below {w' : World} (h : Lx w g a n c P i) (hb : Below w.heap.size w w') : Lx w' g a n c P i := h.kept (grown_below hb) h.le (blk_below h.box hb)
/-- The byte at hand. -/
theorem Lx.at (h : Lx w g a n c P i) {j : Nat} (hj : j < n) : ∃ b off x, a = some ⟨b, off, none⟩ ∧ P[j]? = some x ∧ x < 256 ∧ w.cell? ⟨b, off + j, none⟩ = some (.int .u8 (x : Nat)) := by
  obtain ⟨b, off, e, _, hc⟩ := h.read (by omega)
  have hx := List.getElem?_eq_getElem (show j < P.length by rw [h.len]; exact hj)
  exact ⟨b, off, P[j]'(by rw [h.len]; exact hj), e, hx, h.byte _ (List.getElem_mem _), hc j _ hx⟩
end
theorem isLower_eq (c : Nat) : (decide (97 ≤ c) && decide (c ≤ 122)) = isLower c := rfl
set_option maxRecDepth 20000 in
theorem letter_calls (w : World) (c : Nat) (hc : c < 256) : Calls Try.prog 28 #[.int .u8 c] w fun e w' => e = .returned (.bool (isLetter c)) ∧ w = w' := by
  by_cases h1 : 97 ≤ c ∧ c ≤ 122
  · obtain ⟨h1, h2⟩ := h1
    have HL := Lib.hid (show isLetter c = true by unfold isLetter; simp [h1, h2])
    have k1 : (97 : Int) ≤ (c : Int) := by omega
    have k2 : (c : Int) ≤ 122 := by omega
    go_enter Try.func28, Try.ntmps28
    go_wp2
    go_ret
    exact ⟨by rw [HL.out]; rfl, rfl⟩
  · by_cases h2 : 65 ≤ c ∧ c ≤ 90
    · have HL := Lib.hid (show isLetter c = true by unfold isLetter; simp [h2])
      have k1 : (65 : Int) ≤ (c : Int) := by omega
      have k2 : (c : Int) ≤ 90 := by omega
      have k3 : ¬ (97 : Int) ≤ (c : Int) := by omega
      clear h1 h2
      go_enter Try.func28, Try.ntmps28
      go_wp2
      go_ret
      exact ⟨by rw [HL.out]; rfl, rfl⟩
    · by_cases h3 : c = 95
      · subst h3
        go_enter Try.func28, Try.ntmps28
        go_wp2
        go_ret
        exact ⟨rfl, rfl⟩
      · have HL := Lib.hid (show isLetter c = false by unfold isLetter; simp [h1, h2, h3])
        have k3 : ((c : Int) == 95) = false := by rw [beq_eq_false_iff_ne]; omega
        by_cases a1 : 97 ≤ c
        · have k1 : (97 : Int) ≤ (c : Int) := by omega
          have k2 : ¬ (c : Int) ≤ 122 := by omega
          have k4 : ¬ (c : Int) ≤ 90 := by omega
          have k5 : (65 : Int) ≤ (c : Int) := by omega
          clear h1 h2 h3
          go_enter Try.func28, Try.ntmps28
          go_wp2
          go_ret
          exact ⟨by rw [HL.out]; rfl, rfl⟩
        · have k1 : ¬ (97 : Int) ≤ (c : Int) := by omega
          by_cases a2 : 65 ≤ c
          · have k4 : ¬ (c : Int) ≤ 90 := by omega
            have k5 : (65 : Int) ≤ (c : Int) := by omega
            clear h1 h2 h3
            go_enter Try.func28, Try.ntmps28
            go_wp2
            go_ret
            exact ⟨by rw [HL.out]; rfl, rfl⟩
          · have k5 : ¬ (65 : Int) ≤ (c : Int) := by omega
            clear h1 h2 h3
            go_enter Try.func28, Try.ntmps28
            go_wp2
            go_ret
            exact ⟨by rw [HL.out]; rfl, rfl⟩
set_option maxRecDepth 20000 in
theorem digit_calls (w : World) (c : Nat) (hc : c < 256) : Calls Try.prog 29 #[.int .u8 c] w fun e w' => e = .returned (.bool (isDigit c)) ∧ w = w' := by
  by_cases h1 : 48 ≤ c
  · have k1 : (48 : Int) ≤ (c : Int) := by omega
    by_cases h2 : c ≤ 57
    · have HL := Lib.hid (show isDigit c = true by unfold isDigit; simp [h1, h2])
      have k2 : (c : Int) ≤ 57 := by omega
      go_enter Try.func29, Try.ntmps29
      go_wp2
      go_ret
      exact ⟨by rw [HL.out]; rfl, rfl⟩
    · have HL := Lib.hid (show isDigit c = false by unfold isDigit; simp [h1, h2])
      have k2 : ¬ (c : Int) ≤ 57 := by omega
      go_enter Try.func29, Try.ntmps29
      go_wp2
      go_ret
      exact ⟨by rw [HL.out]; rfl, rfl⟩
  · have HL := Lib.hid (show isDigit c = false by unfold isDigit; simp [h1])
    have k2 : ¬ (48 : Int) ≤ (c : Int) := by omega
    go_enter Try.func29, Try.ntmps29
    go_wp2
    go_ret
    exact ⟨by rw [HL.out]; rfl, rfl⟩
theorem toUInt8_nat (c : Nat) : ((c : Int)).toNat.toUInt8 = UInt8.ofNat c := rfl
set_option maxRecDepth 100000 in
theorem hex_index : ∀ c : Fin 256, Lib.indexByte [48, 49, 50, 51, 52, 53, 54, 55, 56, 57, 97, 98, 99, 100, 101, 102] (UInt8.ofNat c.val) = if isHex c.val = true then (hexV c.val : Int) else -1 := by decide
set_option maxRecDepth 100000 in
theorem sign_index : ∀ c : Fin 256, decide (0 ≤ Lib.indexByte [59, 61, 38, 42, 40, 41, 44, 123, 125] (UInt8.ofNat c.val)) = isSign c.val := by decide
set_option maxRecDepth 100000 in
theorem mark_index : ∀ c : Fin 256, decide (0 ≤ Lib.indexByte [37, 36, 64, 35] (UInt8.ofNat c.val)) = isMark c.val := by decide
set_option maxRecDepth 100000 in
theorem blank_index : ∀ c : Fin 256, decide (0 ≤ Lib.indexByte [32, 9, 13, 10] (UInt8.ofNat c.val)) = isBlank c.val := by decide
set_option maxRecDepth 100000 in
theorem hexV_lt : ∀ c : Fin 256, isHex c.val = true → hexV c.val < 16 := by decide
section
variable (w : World) (c : Nat) (hc : c < 256)
include hc
theorem hex_yes (h : isHex c = true) : Calls Try.prog 23 #[.string ⟨#[48, 49, 50, 51, 52, 53, 54, 55, 56, 57, 97, 98, 99, 100, 101, 102]⟩, .int .u8 c] w fun e w' => e = .returned (.int .i64 (hexV c : Nat)) ∧ w' = w :=
  (Try.strings_IndexByte ⟨#[48, 49, 50, 51, 52, 53, 54, 55, 56, 57, 97, 98, 99, 100, 101, 102]⟩ c w).mono fun e w' ⟨h1, h2⟩ => ⟨by
    have := hex_index ⟨c, hc⟩
    rw [if_pos h] at this
    rw [h1, toUInt8_nat, ← this], h2⟩
theorem hex_no (h : isHex c = false) : Calls Try.prog 23 #[.string ⟨#[48, 49, 50, 51, 52, 53, 54, 55, 56, 57, 97, 98, 99, 100, 101, 102]⟩, .int .u8 c] w fun e w' => e = .returned (.int .i64 (-1)) ∧ w' = w :=
  (Try.strings_IndexByte ⟨#[48, 49, 50, 51, 52, 53, 54, 55, 56, 57, 97, 98, 99, 100, 101, 102]⟩ c w).mono fun e w' ⟨h1, h2⟩ => ⟨by
    have := hex_index ⟨c, hc⟩
    rw [if_neg (by rw [h]; decide)] at this
    rw [h1, toUInt8_nat, ← this], h2⟩
/-- IndexByte at a text of signs: below 0 or not. -/
def Idx (yes : Bool) (w : World) (e : Ending) (w' : World) : Prop := ∃ z : Int, e = .returned (.int .i64 z) ∧ decide (0 ≤ z) = yes ∧ -1 ≤ z ∧ z ≤ 100 ∧ w = w'
end
theorem index_le (l : List UInt8) (c : UInt8) : Lib.indexByte l c ≤ (l.length : Int) := by
  induction l with
  | nil => simp [Lib.indexByte]
  | cons b l ih =>
    rw [Lib.indexByte]
    split
    · simp; omega
    · split
      · simp; omega
      · simp; omega
theorem sign_calls (w : World) (c : Nat) (hc : c < 256) : Calls Try.prog 23 #[.string ⟨#[59, 61, 38, 42, 40, 41, 44, 123, 125]⟩, .int .u8 c] w (Idx (isSign c) w) :=
  (Try.strings_IndexByte ⟨#[59, 61, 38, 42, 40, 41, 44, 123, 125]⟩ c w).mono fun e w' ⟨h1, h2⟩ => ⟨_, h1, sign_index ⟨c, hc⟩, Lib.indexByte_ge _ _, Int.le_trans (index_le _ _) (by decide), h2.symm⟩
theorem mark_calls (w : World) (c : Nat) (hc : c < 256) : Calls Try.prog 23 #[.string ⟨#[37, 36, 64, 35]⟩, .int .u8 c] w (Idx (isMark c) w) :=
  (Try.strings_IndexByte ⟨#[37, 36, 64, 35]⟩ c w).mono fun e w' ⟨h1, h2⟩ => ⟨_, h1, mark_index ⟨c, hc⟩, Lib.indexByte_ge _ _, Int.le_trans (index_le _ _) (by decide), h2.symm⟩
theorem blank_calls (w : World) (c : Nat) (hc : c < 256) : Calls Try.prog 23 #[.string ⟨#[32, 9, 13, 10]⟩, .int .u8 c] w (Idx (isBlank c) w) :=
  (Try.strings_IndexByte ⟨#[32, 9, 13, 10]⟩ c w).mono fun e w' ⟨h1, h2⟩ => ⟨_, h1, blank_index ⟨c, hc⟩, Lib.indexByte_ge _ _, Int.le_trans (index_le _ _) (by decide), h2.symm⟩
end Go.Proofs.Ytjebanfmnfofnaa

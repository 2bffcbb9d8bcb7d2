/-
  slices.Clone (functions 32, 33, 34, 62, 63): a row of the call's own, of the same elements. No statement of its own.
-/
import Derived.Test.YtjgijbaboekghaaCpyP
import Derived.Lib.SliceRun
set_option linter.unusedSimpArgs false
set_option linter.unusedVariables false
namespace Go.Proofs.Ytjgijbaboekghaa
open Go.RowKit
/-- What a clone is: as long; where it isn't empty, a row of the call's own. -/
structure Cloned (w : World) (e : TypeId) (size n : Nat) (news : List Value) (v' : Value) (w' : World) : Prop where
  shape : ∃ b' cp', v' = .slice b' n cp' ∧ n ≤ cp'
  own : 0 < n → w'.ownsRow w.heap.size e size v' n news
  below : Below w.heap.size w w'
theorem cadd_none {b off i : Nat} : ((⟨b, off, none⟩ : Addr).add i) = ⟨b, off + i, none⟩ := by unfold Addr.add; split <;> simp_all
theorem cell_alloc {w : World} {o : Obj} {p : Addr} {v : Value} (h : w.cell? p = some v) : (w.alloc o).cell? p = some v :=
  (((Below.refl w.heap.size w).alloc (Nat.le_refl _) o).cell (p := p) (World.block_lt_of_cell? w p h)).trans h
set_option maxRecDepth 20000 in
theorem clone32_calls (w : World) (a : Option Addr) (n c : Nat) (news : List Value) (hl : news.length = n * 1) (ha : 0 < n → ∃ b off, a = some ⟨b, off, none⟩ ∧ ∀ (j : Nat) u, news[j]? = some u → w.cell? ⟨b, off + j, none⟩ = some u) (h1 : ∀ u ∈ news, u.oneCell' = true) (hn : n ≤ 1000) :
    Calls Try.prog 32 #[.slice a n c] w fun e w' => ∃ v', e = .returned v' ∧ Cloned w 9 1 n news v' w' := by
  have HA := Lib.hid ha
  have HL := Lib.hid hl
  have H1 := Lib.hid h1
  clear ha hl h1
  have q : ∀ (w : World) (a : Option Addr) (n c n' c' : Nat), (binOp .eql 28 (.slice a n c) (.slice none n' c')).run Try.prog w = .ok (.bool a.isNone) w := fun w a n c n' c' => Lib.run_eql_slice_nil w _ _ a n c n' c' Try.underlying28
  cases a with
  | none =>
    have h0 : n = 0 := by
      rcases Nat.eq_zero_or_pos n with h | h
      · exact h
      · obtain ⟨b, off, e, _⟩ := HA.out h; cases e
    subst h0
    go_enter Try.func32, Try.ntmps32
    go_wp2_with fail
    go_ret
    exact ⟨_, rfl, ⟨none, 0, rfl, Nat.le_refl _⟩, fun h => absurd h (Nat.lt_irrefl _), Below.refl _ _⟩
  | some p =>
    have HC : Hid (∀ (j : Nat) u, news[j]? = some u → (w.alloc (.cells #[] 9)).cell? (p.add j) = some u) := Lib.hid (fun j u hu => by
      have hj := (List.getElem?_eq_some_iff.1 hu).1
      obtain ⟨b, off, e, h⟩ := HA.out (by have := HL.out; rcases Nat.eq_zero_or_pos n with h | h; · subst h; omega
                                          · exact h)
      injection e with e
      subst e
      rw [cadd_none]
      exact cell_alloc (h j u hu))
    have HB : Hid (Below w.heap.size w (w.alloc (.cells #[] 9))) := Lib.hid ((Below.refl _ _).alloc (Nat.le_refl _) _)
    have HZ : Hid (w.heap.size ≤ (w.alloc (.cells #[] 9)).heap.size) := Lib.hid (by simp)
    go_enter Try.func32, Try.ntmps32
    go_wp2_with (at_builtin; refine append_row (B := w.heap.size) (w0 := w) rfl _ _ 28 9 (.string ⟨#[]⟩) 1 16 rfl Try.underlying28 info9 rfl (by decide) _ 0 [] rfl (World.ownsRow_made w #[] 0 (Nat.le_refl _) (Nat.zero_le _) rfl) p n c news rfl HL.out HC.out H1.out HZ.out HB.out (by omega) (by omega) ?_; intro v1 w9 hown hb9 hg9; rw [Nat.zero_add, List.nil_append] at hown; obtain ⟨A1, cp1, rfl, hle, _⟩ := own_shape hown; have HO9 := Lib.hid hown; have HB9 := Lib.hid hb9; clear hown hb9 hg9)
    go_ret
    exact ⟨_, rfl, ⟨_, _, rfl, hle⟩, fun _ => HO9.out, HB9.out⟩
set_option maxRecDepth 20000 in
theorem clone33_calls (w : World) (a : Option Addr) (n c : Nat) (news : List Value) (hl : news.length = n * 1) (ha : 0 < n → ∃ b off, a = some ⟨b, off, none⟩ ∧ ∀ (j : Nat) u, news[j]? = some u → w.cell? ⟨b, off + j, none⟩ = some u) (h1 : ∀ u ∈ news, u.oneCell' = true) (hn : n ≤ 1000) :
    Calls Try.prog 33 #[.slice a n c] w fun e w' => ∃ v', e = .returned v' ∧ Cloned w 3 1 n news v' w' := by
  have HA := Lib.hid ha
  have HL := Lib.hid hl
  have H1 := Lib.hid h1
  clear ha hl h1
  have q : ∀ (w : World) (a : Option Addr) (n c n' c' : Nat), (binOp .eql 29 (.slice a n c) (.slice none n' c')).run Try.prog w = .ok (.bool a.isNone) w := fun w a n c n' c' => Lib.run_eql_slice_nil w _ _ a n c n' c' Try.underlying29
  cases a with
  | none =>
    have h0 : n = 0 := by
      rcases Nat.eq_zero_or_pos n with h | h
      · exact h
      · obtain ⟨b, off, e, _⟩ := HA.out h; cases e
    subst h0
    go_enter Try.func33, Try.ntmps33
    go_wp2_with fail
    go_ret
    exact ⟨_, rfl, ⟨none, 0, rfl, Nat.le_refl _⟩, fun h => absurd h (Nat.lt_irrefl _), Below.refl _ _⟩
  | some p =>
    have HC : Hid (∀ (j : Nat) u, news[j]? = some u → (w.alloc (.cells #[] 3)).cell? (p.add j) = some u) := Lib.hid (fun j u hu => by
      have hj := (List.getElem?_eq_some_iff.1 hu).1
      obtain ⟨b, off, e, h⟩ := HA.out (by have := HL.out; rcases Nat.eq_zero_or_pos n with h | h; · subst h; omega
                                          · exact h)
      injection e with e
      subst e
      rw [cadd_none]
      exact cell_alloc (h j u hu))
    have HB : Hid (Below w.heap.size w (w.alloc (.cells #[] 3))) := Lib.hid ((Below.refl _ _).alloc (Nat.le_refl _) _)
    have HZ : Hid (w.heap.size ≤ (w.alloc (.cells #[] 3)).heap.size) := Lib.hid (by simp)
    go_enter Try.func33, Try.ntmps33
    go_wp2_with (at_builtin; refine append_row (B := w.heap.size) (w0 := w) rfl _ _ 29 3 (.int .i64 0) 1 8 rfl Try.underlying29 info3 rfl (by decide) _ 0 [] rfl (World.ownsRow_made w #[] 0 (Nat.le_refl _) (Nat.zero_le _) rfl) p n c news rfl HL.out HC.out H1.out HZ.out HB.out (by omega) (by omega) ?_; intro v1 w9 hown hb9 hg9; rw [Nat.zero_add, List.nil_append] at hown; obtain ⟨A1, cp1, rfl, hle, _⟩ := own_shape hown; have HO9 := Lib.hid hown; have HB9 := Lib.hid hb9; clear hown hb9 hg9)
    go_ret
    exact ⟨_, rfl, ⟨_, _, rfl, hle⟩, fun _ => HO9.out, HB9.out⟩
set_option maxRecDepth 20000 in
theorem clone34_calls (w : World) (a : Option Addr) (n c : Nat) (news : List Value) (hl : news.length = n * 5) (ha : 0 < n → ∃ b off, a = some ⟨b, off, none⟩ ∧ ∀ (j : Nat) u, news[j]? = some u → w.cell? ⟨b, off + j, none⟩ = some u) (h1 : ∀ u ∈ news, u.oneCell' = true) (hn : n ≤ 1000) :
    Calls Try.prog 34 #[.slice a n c] w fun e w' => ∃ v', e = .returned v' ∧ Cloned w 35 5 n news v' w' := by
  have HA := Lib.hid ha
  have HL := Lib.hid hl
  have H1 := Lib.hid h1
  clear ha hl h1
  have q : ∀ (w : World) (a : Option Addr) (n c n' c' : Nat), (binOp .eql 30 (.slice a n c) (.slice none n' c')).run Try.prog w = .ok (.bool a.isNone) w := fun w a n c n' c' => Lib.run_eql_slice_nil w _ _ a n c n' c' Try.underlying30
  cases a with
  | none =>
    have h0 : n = 0 := by
      rcases Nat.eq_zero_or_pos n with h | h
      · exact h
      · obtain ⟨b, off, e, _⟩ := HA.out h; cases e
    subst h0
    go_enter Try.func34, Try.ntmps34
    go_wp2_with fail
    go_ret
    exact ⟨_, rfl, ⟨none, 0, rfl, Nat.le_refl _⟩, fun h => absurd h (Nat.lt_irrefl _), Below.refl _ _⟩
  | some p =>
    have HC : Hid (∀ (j : Nat) u, news[j]? = some u → (w.alloc (.cells #[] 35)).cell? (p.add j) = some u) := Lib.hid (fun j u hu => by
      have hj := (List.getElem?_eq_some_iff.1 hu).1
      obtain ⟨b, off, e, h⟩ := HA.out (by have := HL.out; rcases Nat.eq_zero_or_pos n with h | h; · subst h; omega
                                          · exact h)
      injection e with e
      subst e
      rw [cadd_none]
      exact cell_alloc (h j u hu))
    have HB : Hid (Below w.heap.size w (w.alloc (.cells #[] 35))) := Lib.hid ((Below.refl _ _).alloc (Nat.le_refl _) _)
    have HZ : Hid (w.heap.size ≤ (w.alloc (.cells #[] 35)).heap.size) := Lib.hid (by simp)
    go_enter Try.func34, Try.ntmps34
    go_wp2_with (at_builtin; refine append_row (B := w.heap.size) (w0 := w) rfl _ _ 30 35 (.agg #[.int .i64 0, .int .i64 0, .slice none 0 0, .slice none 0 0, .slice none 0 0]) 5 88 rfl Try.underlying30 info35 rfl (by decide) _ 0 [] rfl (World.ownsRow_made w #[] 0 (Nat.le_refl _) (Nat.zero_le _) rfl) p n c news rfl HL.out HC.out H1.out HZ.out HB.out (by omega) (by omega) ?_; intro v1 w9 hown hb9 hg9; rw [Nat.zero_add, List.nil_append] at hown; obtain ⟨A1, cp1, rfl, hle, _⟩ := own_shape hown; have HO9 := Lib.hid hown; have HB9 := Lib.hid hb9; clear hown hb9 hg9)
    go_ret
    exact ⟨_, rfl, ⟨_, _, rfl, hle⟩, fun _ => HO9.out, HB9.out⟩
set_option maxRecDepth 20000 in
theorem clone62_calls (w : World) (a : Option Addr) (n c : Nat) (news : List Value) (hl : news.length = n * 7) (ha : 0 < n → ∃ b off, a = some ⟨b, off, none⟩ ∧ ∀ (j : Nat) u, news[j]? = some u → w.cell? ⟨b, off + j, none⟩ = some u) (h1 : ∀ u ∈ news, u.oneCell' = true) (hn : n ≤ 1000) :
    Calls Try.prog 62 #[.slice a n c] w fun e w' => ∃ v', e = .returned v' ∧ Cloned w 46 7 n news v' w' := by
  have HA := Lib.hid ha
  have HL := Lib.hid hl
  have H1 := Lib.hid h1
  clear ha hl h1
  have q : ∀ (w : World) (a : Option Addr) (n c n' c' : Nat), (binOp .eql 22 (.slice a n c) (.slice none n' c')).run Try.prog w = .ok (.bool a.isNone) w := fun w a n c n' c' => Lib.run_eql_slice_nil w _ _ a n c n' c' Try.underlying22
  cases a with
  | none =>
    have h0 : n = 0 := by
      rcases Nat.eq_zero_or_pos n with h | h
      · exact h
      · obtain ⟨b, off, e, _⟩ := HA.out h; cases e
    subst h0
    go_enter Try.func62, Try.ntmps62
    go_wp2_with fail
    go_ret
    exact ⟨_, rfl, ⟨none, 0, rfl, Nat.le_refl _⟩, fun h => absurd h (Nat.lt_irrefl _), Below.refl _ _⟩
  | some p =>
    have HC : Hid (∀ (j : Nat) u, news[j]? = some u → (w.alloc (.cells #[] 46)).cell? (p.add j) = some u) := Lib.hid (fun j u hu => by
      have hj := (List.getElem?_eq_some_iff.1 hu).1
      obtain ⟨b, off, e, h⟩ := HA.out (by have := HL.out; rcases Nat.eq_zero_or_pos n with h | h; · subst h; omega
                                          · exact h)
      injection e with e
      subst e
      rw [cadd_none]
      exact cell_alloc (h j u hu))
    have HB : Hid (Below w.heap.size w (w.alloc (.cells #[] 46))) := Lib.hid ((Below.refl _ _).alloc (Nat.le_refl _) _)
    have HZ : Hid (w.heap.size ≤ (w.alloc (.cells #[] 46)).heap.size) := Lib.hid (by simp)
    go_enter Try.func62, Try.ntmps62
    go_wp2_with (at_builtin; refine append_row (B := w.heap.size) (w0 := w) rfl _ _ 22 46 (.agg #[.int .u8 0, .int .u8 0, .int .i64 0, .int .u8 0, .int .i64 0, .slice none 0 0, .slice none 0 0]) 7 88 rfl Try.underlying22 info46 rfl (by decide) _ 0 [] rfl (World.ownsRow_made w #[] 0 (Nat.le_refl _) (Nat.zero_le _) rfl) p n c news rfl HL.out HC.out H1.out HZ.out HB.out (by omega) (by omega) ?_; intro v1 w9 hown hb9 hg9; rw [Nat.zero_add, List.nil_append] at hown; obtain ⟨A1, cp1, rfl, hle, _⟩ := own_shape hown; have HO9 := Lib.hid hown; have HB9 := Lib.hid hb9; clear hown hb9 hg9)
    go_ret
    exact ⟨_, rfl, ⟨_, _, rfl, hle⟩, fun _ => HO9.out, HB9.out⟩
set_option maxRecDepth 20000 in
theorem clone63_calls (w : World) (a : Option Addr) (n c : Nat) (news : List Value) (hl : news.length = n * 2) (ha : 0 < n → ∃ b off, a = some ⟨b, off, none⟩ ∧ ∀ (j : Nat) u, news[j]? = some u → w.cell? ⟨b, off + j, none⟩ = some u) (h1 : ∀ u ∈ news, u.oneCell' = true) (hn : n ≤ 1000) :
    Calls Try.prog 63 #[.slice a n c] w fun e w' => ∃ v', e = .returned v' ∧ Cloned w 43 2 n news v' w' := by
  have HA := Lib.hid ha
  have HL := Lib.hid hl
  have H1 := Lib.hid h1
  clear ha hl h1
  have q : ∀ (w : World) (a : Option Addr) (n c n' c' : Nat), (binOp .eql 44 (.slice a n c) (.slice none n' c')).run Try.prog w = .ok (.bool a.isNone) w := fun w a n c n' c' => Lib.run_eql_slice_nil w _ _ a n c n' c' Try.underlying44
  cases a with
  | none =>
    have h0 : n = 0 := by
      rcases Nat.eq_zero_or_pos n with h | h
      · exact h
      · obtain ⟨b, off, e, _⟩ := HA.out h; cases e
    subst h0
    go_enter Try.func63, Try.ntmps63
    go_wp2_with fail
    go_ret
    exact ⟨_, rfl, ⟨none, 0, rfl, Nat.le_refl _⟩, fun h => absurd h (Nat.lt_irrefl _), Below.refl _ _⟩
  | some p =>
    have HC : Hid (∀ (j : Nat) u, news[j]? = some u → (w.alloc (.cells #[] 43)).cell? (p.add j) = some u) := Lib.hid (fun j u hu => by
      have hj := (List.getElem?_eq_some_iff.1 hu).1
      obtain ⟨b, off, e, h⟩ := HA.out (by have := HL.out; rcases Nat.eq_zero_or_pos n with h | h; · subst h; omega
                                          · exact h)
      injection e with e
      subst e
      rw [cadd_none]
      exact cell_alloc (h j u hu))
    have HB : Hid (Below w.heap.size w (w.alloc (.cells #[] 43))) := Lib.hid ((Below.refl _ _).alloc (Nat.le_refl _) _)
    have HZ : Hid (w.heap.size ≤ (w.alloc (.cells #[] 43)).heap.size) := Lib.hid (by simp)
    go_enter Try.func63, Try.ntmps63
    go_wp2_with (at_builtin; refine append_row (B := w.heap.size) (w0 := w) rfl _ _ 44 43 (.agg #[.int .u8 0, .int .i64 0]) 2 16 rfl Try.underlying44 info43 rfl (by decide) _ 0 [] rfl (World.ownsRow_made w #[] 0 (Nat.le_refl _) (Nat.zero_le _) rfl) p n c news rfl HL.out HC.out H1.out HZ.out HB.out (by omega) (by omega) ?_; intro v1 w9 hown hb9 hg9; rw [Nat.zero_add, List.nil_append] at hown; obtain ⟨A1, cp1, rfl, hle, _⟩ := own_shape hown; have HO9 := Lib.hid hown; have HB9 := Lib.hid hb9; clear hown hb9 hg9)
    go_ret
    exact ⟨_, rfl, ⟨_, _, rfl, hle⟩, fun _ => HO9.out, HB9.out⟩
end Go.Proofs.Ytjgijbaboekghaa

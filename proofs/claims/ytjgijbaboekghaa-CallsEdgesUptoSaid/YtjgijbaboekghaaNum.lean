/-
  r05.number (function 60), r05.numbers (61): a string among others.
-/
import Derived.Test.YtjgijbaboekghaaMod
import Derived.Test.YtjgijbaboekghaaOwns
set_option linter.unusedVariables false

set_option linter.unusedSimpArgs false
namespace Go.Proofs.Ytjgijbaboekghaa
open Go.RowKit
theorem numberOf_none {l : List ByteArray} {s : ByteArray} (h : ∀ (j : Nat) x, l[j]? = some x → (x.toList == s.toList) = false) : numberOf l s = -1 := by
  unfold numberOf
  rw [List.findIdx?_eq_none_iff.2 fun x hx => by
    obtain ⟨j, hj⟩ := List.mem_iff_getElem?.1 hx
    exact h j x hj]
theorem numberOf_some {l : List ByteArray} {s x : ByteArray} {i : Nat} (h : ∀ (j : Nat) x, j < i → l[j]? = some x → (x.toList == s.toList) = false) (hi : l[i]? = some x) (hx : (x.toList == s.toList) = true) : numberOf l s = (i : Int) := by
  obtain ⟨hlt, e⟩ := List.getElem?_eq_some_iff.1 hi
  unfold numberOf
  rw [List.findIdx?_eq_some_iff_getElem.2 ⟨hlt, by rw [e]; exact hx, fun j hj => by
    have := h j l[j] hj (List.getElem?_eq_getElem (by omega))
    rw [this]; decide⟩]
set_option maxRecDepth 20000 in
theorem number_calls (w : World) (v : Value) (l : List ByteArray) (s : ByteArray) (h : ReadsS w v l) :
    Calls Try.prog 60 #[v, .string s] w fun e w' => e = .returned (.int .i64 (numberOf l s)) ∧ w = w' := by
  obtain ⟨a, c, rfl, hn⟩ := h.shape
  obtain ⟨n, hl⟩ : ∃ n, n = l.length := ⟨_, rfl⟩
  rw [← hl] at h hn ⊢
  have HR := Lib.hid h
  have HL := Lib.hid hl
  clear h hl
  go_enter Try.func60, Try.ntmps60
  go_wp2
  go_loop [5] (fun iv => ∃ i : Nat, i ≤ n ∧ iv = .int .i64 i ∧ Hid (∀ (j : Nat) x, j < i → l[j]? = some x → (x.toList == s.toList) = false)) (fun iv => n - (intOf iv).toNat)
  case atStart => exact ⟨0, Nat.zero_le _, rfl, fun j x hj => by omega⟩
  case round =>
    obtain ⟨i, hi, rfl, HE⟩ := hrel
    by_cases hlt : i < n
    · obtain ⟨b, off, x, rfl, hx, cx⟩ := HR.out.at hlt
      have HX := Lib.hid hx
      clear hx
      cases ht : x.toList == s.toList with
      | true =>
        have HT := Lib.hid ht
        go_wp2
        go_ret
        exact ⟨by rw [numberOf_some HE.out HX.out HT.out]; rfl, rfl⟩
      | false =>
        go_wp2
        refine ⟨⟨i + 1, by omega, by go_num, ?_⟩, by simp [intOf]; omega⟩
        show ∀ (j : Nat) y, _
        intro j y hj hy
        by_cases e : j = i
        · subst e
          rw [HX.out] at hy
          injection hy with hy
          rw [← hy]; exact ht
        · exact HE.out j y (by omega) hy
    · go_wp2
      go_ret
      exact ⟨by rw [numberOf_none fun j x hx => HE.out j x (by have := (List.getElem?_eq_some_iff.1 hx).1; have := HL.out; omega) hx]; rfl, rfl⟩
/-- Numbers in a row of the call's own, whatever blocks below its base are taken away. -/
theorem ReadsI.own {w : World} {B n : Nat} {A : Option Addr} {cp : Nat} {xs : List Int} {bs : List Nat} (h : w.ownsRow B 3 1 (.slice A n cp) n (ints xs)) (hl : xs.length = n) (hn : n ≤ 1000) (hbs : ∀ b ∈ bs, ∀ g, A = some ⟨g, 0, none⟩ → b ≠ g) : ReadsI (sans w bs) (.slice A n cp) xs := by
  refine ⟨A, n, cp, rfl, hl, ⟨hn, by obtain ⟨_, _, e, hc, _⟩ := own_shape h; injection e with _ _ e3; omega⟩, fun hp => ?_⟩
  rcases h.2 with ⟨e, h0⟩ | ⟨g, cap, cur, e, hb, hh, h1, h2, h3, h4⟩
  · omega
  · injection e with e1 e2 e3
    subst e1
    refine ⟨g, 0, rfl, fun i hi => ?_⟩
    refine Sub.sans ?_ (fun hm => hbs _ hm g rfl rfl)
    rw [(blk3 hh).1, Nat.zero_add]
    have : (cur.toList.take (n * 1))[i]? = some (.int .i64 (xs.getD i 0)) := by
      rw [h4, ints, List.getElem?_map, List.getElem?_eq_getElem (by omega), List.getD_eq_getElem?_getD, List.getElem?_eq_getElem (by omega)]; rfl
    rw [Nat.mul_one, List.getElem?_take_of_lt hi] at this
    simpa using this
def Numbered (w : World) (xs : List Int) (e : Ending) (w' : World) : Prop := ∃ v, e = .returned v ∧ (∀ bs, (∀ b ∈ bs, b < w.heap.size) → ReadsI (sans w' bs) v xs) ∧ Below w.heap.size w w'
set_option maxRecDepth 20000 in
theorem numbers_calls (w : World) (v u x : Value) (l src : List ByteArray) (xs : List Int) (h : ReadsS w v l) (hu : ReadsS w u src) (hx : ReadsI w x xs) (hxs : ∀ y ∈ xs, 0 ≤ y ∧ y.toNat < src.length) :
    Calls Try.prog 61 #[v, u, x] w (Numbered w (numbersOf l src xs)) := by
  obtain ⟨a, c, rfl, hn⟩ := h.shape
  obtain ⟨a2, c2, rfl, hn2⟩ := hu.shape
  obtain ⟨a3, c3, rfl, hn3⟩ := hx.shape
  obtain ⟨n2, hl2⟩ : ∃ n, n = src.length := ⟨_, rfl⟩
  obtain ⟨n3, hl3⟩ : ∃ n, n = xs.length := ⟨_, rfl⟩
  rw [← hl2] at hu hxs hn2 ⊢
  rw [← hl3] at hx hn3 ⊢
  have HR := Lib.hid h
  have HU := Lib.hid hu
  have HX := Lib.hid hx
  have HXS := Lib.hid hxs
  have HL2 := Lib.hid hl2
  have HL3 := Lib.hid hl3
  clear h hu hx hxs hl2 hl3
  go_enter Try.func61, Try.ntmps61
  go_wp2
  go_loopw [7, 8] (fun v7 iv wr => ∃ (i : Nat) (A : Option Addr) (cp : Nat), i ≤ n3 ∧ iv = .int .i64 i ∧ v7 = .slice A i cp ∧ Hid (wr.ownsRow w.heap.size 3 1 (.slice A i cp) i (ints (numbersOf l src (xs.take i)))) ∧ Hid (Below w.heap.size w wr)) (fun _ iv _ => n3 - (intOf iv).toNat)
  case atStart => exact ⟨0, none, 0, Nat.zero_le _, rfl, rfl, World.ownsRow_nil _ _ _ _, Below.refl _ _⟩
  case round =>
    obtain ⟨i, A, cp, hi, rfl, rfl, HO, HB⟩ := hrel
    by_cases hlt : i < n3
    · obtain ⟨b, off, y, rfl, hy, cy⟩ := (HX.out.sub (sub_below HB.out)).at hlt
      obtain ⟨hy0, hy1⟩ := HXS.out y (List.mem_of_getElem? hy)
      obtain ⟨z, rfl⟩ : ∃ z : Nat, y = z := ⟨y.toNat, by omega⟩
      have hy1 : z < n2 := by simpa using hy1
      obtain ⟨b2, off2, s, rfl, hs, cs⟩ := (HU.out.sub (sub_below HB.out)).at hy1
      have HY := Lib.hid hy
      have HS := Lib.hid hs
      clear hy hs
      go_wp2_with fail
      refine (number_calls wr _ l s (HR.out.sub (sub_below HB.out))).mono ?_
      rintro e w2 ⟨rfl, rfl⟩
      go_wp2_with (at_builtin; refine append_row (B := w.heap.size) (w0 := w) rfl _ _ 29 3 (.int .i64 0) 1 8 rfl Try.underlying29 info3 rfl (by decide) _ i _ rfl (own_below HO.out ((Below.refl _ _).alloc (Nat.le_refl _) _)) ⟨wr.heap.size, 0, none⟩ 1 1 [.int .i64 (numberOf l s)] rfl rfl (new_cells _ _ _ _) ?h1 ?hB ?hb (by omega) (by omega) ?_; rotate_right; intro v1 w1 hown hb1 hg1; obtain ⟨A1, cp1, rfl, _, _⟩ := own_shape hown; have HO1 := Lib.hid hown; have HB1 := Lib.hid hb1; clear hown hb1 hg1)
      · refine ⟨⟨i + 1, A1, cp1, by omega, by go_num, rfl, ?_, HB1⟩, by simp [intOf]; omega⟩
        have h9 : strAt src (z : Int) = s := by unfold strAt; rw [Int.toNat_natCast, List.getD_eq_getElem?_getD, HS.out]; rfl
        have hi' : i < xs.length := by have := HL3.out; omega
        have hxi : xs[i] = (z : Int) := by have := HY.out; rw [List.getElem?_eq_getElem hi'] at this; injection this
        show World.ownsRow _ _ _ _ _ _ _
        rw [List.take_succ_eq_append_getElem hi', hxi, numbersOf, List.map_append, List.map_cons, List.map_nil, h9, ints, List.map_append]
        exact HO1.out
      case h1 =>
        intro u hu
        obtain rfl : u = .int .i64 (numberOf l s) := by simpa using hu
        rfl
      case hB =>
        have := HB.out.size
        simp
        omega
      case hb => exact HB.out.alloc HB.out.size _
    · obtain rfl : i = n3 := by omega
      go_wp2
      go_ret
      refine ⟨_, rfl, fun bs hbs => ?_, HB.out⟩
      have h9 := HO.out
      rw [List.take_of_length_le (by have := HL3.out; omega)] at h9
      refine ReadsI.own h9 (by unfold numbersOf; rw [List.length_map]; exact HL3.out.symm) hn3 (fun b hb g hg e => ?_)
      subst hg e
      have h1 := hbs b hb
      have h2 : w.heap.size ≤ b := (World.ownsRow.lt h9 _ rfl).1
      omega
end Go.Proofs.Ytjgijbaboekghaa

/-
  slices.Equal over strings (function 37).
-/
import Derived.Test.YtjgijbaboekghaaEqI
import Derived.Test.YtjgijbaboekghaaBase
import Derived.Test.YtjgijbaboekghaaTree
import Derived.StillTactics
import Derived.Deep.Draws
set_option linter.unusedSimpArgs false
set_option linter.unusedVariables false
namespace Go.Proofs.Ytjgijbaboekghaa
open Go.RowKit
theorem bytes_ext {x y : ByteArray} (h : x.toList = y.toList) : x = y := by
  rw [ByteArray.toList_eq, ByteArray.toList_eq] at h
  exact ByteArray.ext (Array.toList_inj.mp h)
theorem els_ne {l1 l2 : List ByteArray} {i : Nat} {x y : ByteArray} (h1 : l1[i]? = some x) (h2 : l2[i]? = some y) (h : x ≠ y) : (decide (l1 = l2)) = false := by
  rw [decide_eq_false_iff_not]
  rintro rfl
  rw [h1] at h2
  exact h (by injection h2)
theorem els_eq {l1 l2 : List ByteArray} (hl : l1.length = l2.length) (h : ∀ j, j < l1.length → l1[j]? = l2[j]?) : (decide (l1 = l2)) = true := by
  rw [decide_eq_true_iff]
  apply List.ext_getElem?
  intro j
  rcases Nat.lt_or_ge j l1.length with hj | hj
  · exact h j hj
  · rw [List.getElem?_eq_none hj, List.getElem?_eq_none (by omega)]
theorem els_len {l1 l2 : List ByteArray} (h : l1.length ≠ l2.length) : (decide (l1 = l2)) = false := by
  rw [decide_eq_false_iff_not]
  rintro rfl
  exact h rfl
set_option maxRecDepth 20000 in
theorem equalStrs_calls (w : World) (v1 v2 : Value) (l1 l2 : List ByteArray) (h1 : ReadsS w v1 l1) (h2 : ReadsS w v2 l2) :
    Calls Try.prog 37 #[v1, v2] w fun e w' => e = .returned (.bool (decide (l1 = l2))) ∧ ∃ m, w' = w.drewN m := by
  obtain ⟨a1, c1, rfl, hn1⟩ := h1.shape
  obtain ⟨a2, c2, rfl, hn2⟩ := h2.shape
  obtain ⟨n1, hl1⟩ : ∃ n, n = l1.length := ⟨_, rfl⟩
  obtain ⟨n2, hl2⟩ : ∃ n, n = l2.length := ⟨_, rfl⟩
  rw [← hl1] at h1 hn1 ⊢
  rw [← hl2] at h2 hn2 ⊢
  have H1 := Lib.hid h1
  have H2 := Lib.hid h2
  have L1 := Lib.hid hl1
  have L2 := Lib.hid hl2
  clear h1 h2 hl1 hl2
  by_cases hn : n1 = n2
  · subst hn
    go_enter Try.func37, Try.ntmps37
    go_wp2
    go_loopw [13] (fun iv wr => ∃ i : Nat, i ≤ n1 ∧ iv = .int .i64 i ∧ Hid (∀ j, j < i → l1[j]? = l2[j]?) ∧ Hid (∃ m, wr = w.drewN m)) (fun iv _ => n1 - (intOf iv).toNat)
    case atStart => exact ⟨0, Nat.zero_le _, rfl, fun j hj => by omega, 0, rfl⟩
    case round =>
      obtain ⟨i, hi, rfl, HE, HW⟩ := hrel
      have HB : Hid (Below w.heap.size w wr) := Lib.hid (by obtain ⟨m, hm⟩ := HW.out; rw [hm]; exact below_drewN _ _ _)
      by_cases hlt : i < n1
      · obtain ⟨b1, o1, x, rfl, e1, x1⟩ := (H1.out.sub (sub_below HB.out)).at hlt
        obtain ⟨b2, o2, y, rfl, e2, x2⟩ := (H2.out.sub (sub_below HB.out)).at hlt
        have E1 := Lib.hid e1
        have E2 := Lib.hid e2
        clear e1 e2
        by_cases hk : x = y
        · subst hk
          go_wp2_with fail
          go_still (by kernel_rfl)
          go_wp2
          refine ⟨⟨i + 1, by omega, by go_num, fun j hj => ?_, drewS HW.out⟩, by simp [intOf]; omega⟩
          by_cases e : j = i
          · rw [e, E1.out, E2.out]
          · exact HE.out j (by omega)
        · have hkn : (x.toList == y.toList) = false := by rw [beq_eq_false_iff_ne]; exact fun e => hk (bytes_ext e)
          have HK := Lib.hid hk
          clear hk
          go_wp2_with fail
          go_still (by kernel_rfl)
          go_wp2
          go_ret
          refine ⟨?_, drewS HW.out⟩
          rw [els_ne E1.out E2.out HK.out]; rfl
      · obtain rfl : n1 = i := by omega
        go_wp2
        go_ret
        refine ⟨?_, HW.out⟩
        rw [els_eq (L1.out.symm.trans L2.out) (fun j hj => HE.out j (by rw [L1.out]; exact hj))]; rfl
  · go_enter Try.func37, Try.ntmps37
    have hne : ¬ (n1 : Int) = (n2 : Int) := by omega
    go_wp2
    go_ret
    refine ⟨?_, 0, rfl⟩
    rw [els_len (by rw [← L1.out, ← L2.out]; exact hn)]; rfl
end Go.Proofs.Ytjgijbaboekghaa

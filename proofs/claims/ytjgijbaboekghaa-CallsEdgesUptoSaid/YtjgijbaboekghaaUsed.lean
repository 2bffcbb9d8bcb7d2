/-
  r05.Used (function 59): is a string used?
-/
import Derived.Test.YtjgijbaboekghaaNum
set_option linter.unusedVariables false
set_option linter.unusedSimpArgs false
namespace Go.Proofs.Ytjgijbaboekghaa
open Go.RowKit
def usedF (f : Fn) (n : Int) : Bool := f.name == n || f.locals.contains n || f.sites.contains n
theorem usedIn_eq (m : Mod) (n : Int) : usedIn m n = (m.globals.contains n || m.funcs.any fun f => usedF f n) := rfl
theorem contains_yes {xs : List Int} {i : Nat} {x n : Int} (h : xs[i]? = some x) (e : (x == n) = true) : xs.contains n = true := by
  rw [List.contains_iff_exists_mem_beq]
  refine ⟨x, List.mem_of_getElem? h, ?_⟩
  rw [beq_iff_eq] at e ⊢
  exact e.symm
theorem contains_no {xs : List Int} {n : Int} (h : ∀ (j : Nat) x, xs[j]? = some x → (x == n) = false) : xs.contains n = false := by
  rw [Bool.eq_false_iff]
  intro hc
  rw [List.contains_iff_exists_mem_beq] at hc
  obtain ⟨x, hx, e⟩ := hc
  obtain ⟨j, hj⟩ := List.mem_iff_getElem?.1 hx
  have := h j x hj
  rw [beq_iff_eq] at e
  subst e
  simp at this
theorem any_yes {fs : List Fn} {i : Nat} {f : Fn} {n : Int} (h : fs[i]? = some f) (e : usedF f n = true) : (fs.any fun f => usedF f n) = true := List.any_eq_true.2 ⟨f, List.mem_of_getElem? h, e⟩
theorem any_no {fs : List Fn} {n : Int} (h : ∀ (j : Nat) f, fs[j]? = some f → usedF f n = false) : (fs.any fun f => usedF f n) = false := by
  rw [List.any_eq_false]
  intro f hf
  obtain ⟨j, hj⟩ := List.mem_iff_getElem?.1 hf
  rw [h j f hj]; decide
theorem next_no {xs : List Int} {i : Nat} {x n : Int} (h : ∀ (j : Nat) x, j < i → xs[j]? = some x → (x == n) = false) (hi : xs[i]? = some x) (e : (x == n) = false) : ∀ (j : Nat) x, j < i + 1 → xs[j]? = some x → (x == n) = false := by
  intro j y hj hy
  by_cases ej : j = i
  · subst ej
    rw [hi] at hy
    injection hy with hy
    rw [← hy]; exact e
  · exact h j y (by omega) hy
def UsedB (w : World) (b : Bool) (e : Ending) (w' : World) : Prop := e = .returned (.bool b) ∧ Below w.heap.size w w'
set_option maxRecDepth 20000 in
set_option maxHeartbeats 1000000 in
theorem used_calls (w : World) (v : Value) (m : Mod) (n : Int) (h : ReadsM w v m) : Calls Try.prog 59 #[v, .int .i64 n] w (UsedB w (usedIn m n)) := by
  obtain ⟨sv, gv, fv, ev, rfl, hs, hg, hf, he⟩ := h
  obtain ⟨ga, gc, rfl, hgn⟩ := hg.shape
  obtain ⟨fa, fc, rfl, hfn⟩ := hf.shape
  obtain ⟨G, hG⟩ : ∃ n, n = m.globals.length := ⟨_, rfl⟩
  obtain ⟨F, hF⟩ : ∃ n, n = m.funcs.length := ⟨_, rfl⟩
  rw [← hG] at hg hgn ⊢
  rw [← hF] at hf hfn ⊢
  have HGl := Lib.hid hG
  have HFl := Lib.hid hF
  have HG := Lib.hid hg
  have HF := Lib.hid hf
  clear hG hF hg hf hs he
  go_enter Try.func59, Try.ntmps59
  go_wp2
  have c1 := fun o => (blk3 (heap_alloc_new w (.cells #[sv, .slice ga G gc, .slice fa F fc, ev] 32))).1 o
  have z1 : w.heap.size < (w.alloc (.cells #[sv, .slice ga G gc, .slice fa F fc, ev] 32)).heap.size := by simp
  have hb1 : Below w.heap.size w (w.alloc (.cells #[sv, .slice ga G gc, .slice fa F fc, ev] 32)) := (Below.refl _ _).alloc (Nat.le_refl _) _
  have H1 := Lib.hid (heap_alloc_new w (.cells #[sv, .slice ga G gc, .slice fa F fc, ev] 32))
  obtain ⟨W, hW⟩ : ∃ W, W = w.alloc (.cells #[sv, .slice ga G gc, .slice fa F fc, ev] 32) := ⟨_, rfl⟩
  rw [← hW] at c1 z1 hb1 H1 ⊢
  have HB := Lib.hid hb1
  have HG1 := Lib.hid (HG.out.sub (sub_below hb1))
  clear hW hb1 HG
  go_loop [5] (fun iv => ∃ i : Nat, i ≤ G ∧ iv = .int .i64 i ∧ Hid (∀ (j : Nat) x, j < i → m.globals[j]? = some x → (x == n) = false)) (fun iv => G - (intOf iv).toNat)
  case atStart => exact ⟨0, Nat.zero_le _, rfl, fun j x hj => by omega⟩
  case round =>
    obtain ⟨i, hi, rfl, HE⟩ := hrel
    by_cases hlt : i < G
    · obtain ⟨b, off, x, rfl, hx, cx⟩ := HG1.out.at hlt
      have HX := Lib.hid hx
      clear hx
      cases ht : x == n with
      | true =>
        go_wp2
        go_ret
        refine ⟨?_, HB.out⟩
        rw [usedIn_eq, contains_yes HX.out ht, Bool.true_or]; rfl
      | false =>
        have HT := Lib.hid (next_no HE.out HX.out ht)
        go_wp2
        exact ⟨⟨i + 1, by omega, by go_num, HT⟩, by simp [intOf]; omega⟩
    · obtain rfl : i = G := by omega
      have HNO := Lib.hid (contains_no fun j x hx => HE.out j x (by have := (List.getElem?_eq_some_iff.1 hx).1; have := HGl.out; omega) hx)
      clear HE
      go_wp2
      go_loopw [6] (fun iv wr => ∃ k : Nat, k ≤ F ∧ iv = .int .i64 k ∧ Hid (∀ (j : Nat) f, j < k → m.funcs[j]? = some f → usedF f n = false) ∧ Hid (wr.heap[w.heap.size]? = some (.cells #[sv, .slice ga i gc, .slice fa F fc, ev] 32)) ∧ Hid (Below w.heap.size w wr)) (fun iv _ => F - (intOf iv).toNat)
      case atStart => exact ⟨0, Nat.zero_le _, rfl, fun j x hj => by omega, H1, HB⟩
      case round =>
        clear c1 z1 H1 HB HG1
        obtain ⟨k, hk, rfl, HE, H1, HB⟩ := hrel
        obtain ⟨c1, f1, z1⟩ := blk3 H1.out
        by_cases hlt : k < F
        · obtain ⟨b, off, f, lv, sv2, bv, rfl, hff, ⟨x0, x1, x2, x3, x4⟩, rl, rs, rb⟩ := (HF.out.sub (sub_below HB.out)).at hlt
          obtain ⟨la, lc, rfl, hln⟩ := rl.shape
          obtain ⟨sa, sc, rfl, hsn⟩ := rs.shape
          obtain ⟨ba, bn, bc, rfl, _⟩ := rb
          obtain ⟨L, hL⟩ : ∃ n, n = f.locals.length := ⟨_, rfl⟩
          obtain ⟨S, hS⟩ : ∃ n, n = f.sites.length := ⟨_, rfl⟩
          rw [← hL] at rl hln x2
          rw [← hS] at rs hsn x3
          have HLl := Lib.hid hL
          have HSl := Lib.hid hS
          have HFF := Lib.hid hff
          have RL := Lib.hid rl
          have RS := Lib.hid rs
          have hbW : ∀ o, Below w.heap.size w (wr.alloc o) := fun o => HB.out.alloc HB.out.size o
          have HBW := Lib.hid hbW
          have HZ := Lib.hid HB.out.size
          clear hL hS hff rl rs hbW
          cases hnm : f.name == n with
          | true =>
            go_wp2
            go_ret
            refine ⟨?_, HBW.out _⟩
            rw [usedIn_eq, any_yes HFF.out (by unfold usedF; rw [hnm]; rfl), Bool.or_true]; rfl
          | false =>
            have HNM := Lib.hid hnm
            go_wp2
            have n1 := fun o => (blk3 (heap_alloc_new wr (.cells #[.int .i64 f.name, .int .i64 (f.params : Nat), .slice la L lc, .slice sa S sc, .slice ba bn bc] 35))).1 o
            have N1 := Lib.hid (RL.out.sub (sub_below ((Below.refl _ _).alloc (Nat.le_refl _) (.cells #[.int .i64 f.name, .int .i64 (f.params : Nat), .slice la L lc, .slice sa S sc, .slice ba bn bc] 35))))
            have N2 := Lib.hid (RS.out.sub (sub_below ((Below.refl _ _).alloc (Nat.le_refl _) (.cells #[.int .i64 f.name, .int .i64 (f.params : Nat), .slice la L lc, .slice sa S sc, .slice ba bn bc] 35))))
            have N3 := Lib.hid (HBW.out (.cells #[.int .i64 f.name, .int .i64 (f.params : Nat), .slice la L lc, .slice sa S sc, .slice ba bn bc] 35))
            have N4 := Lib.hid (blk_alloc H1.out (.cells #[.int .i64 f.name, .int .i64 (f.params : Nat), .slice la L lc, .slice sa S sc, .slice ba bn bc] 35))
            obtain ⟨W2, hW2⟩ : ∃ W2, W2 = wr.alloc (.cells #[.int .i64 f.name, .int .i64 (f.params : Nat), .slice la L lc, .slice sa S sc, .slice ba bn bc] 35) := ⟨_, rfl⟩
            rw [← hW2] at n1 N1 N2 N3 N4 ⊢
            clear hW2 c1 f1 x0 x1 x2 x3 x4
            go_loop [8] (fun iv => ∃ i : Nat, i ≤ L ∧ iv = .int .i64 i ∧ Hid (∀ (j : Nat) x, j < i → f.locals[j]? = some x → (x == n) = false)) (fun iv => L - (intOf iv).toNat)
            case atStart => exact ⟨0, Nat.zero_le _, rfl, fun j x hj => by omega⟩
            case round =>
              obtain ⟨p, hp, rfl, HP⟩ := hrel
              by_cases hlt2 : p < L
              · obtain ⟨b2, off2, x, rfl, hx, cx⟩ := N1.out.at hlt2
                have HX := Lib.hid hx
                clear hx
                cases ht : x == n with
                | true =>
                  go_wp2
                  go_ret
                  refine ⟨?_, N3.out⟩
                  rw [usedIn_eq, any_yes HFF.out (by unfold usedF; rw [contains_yes HX.out ht, Bool.or_true, Bool.true_or]), Bool.or_true]; rfl
                | false =>
                  have HT := Lib.hid (next_no HP.out HX.out ht)
                  go_wp2
                  exact ⟨⟨p + 1, by omega, by go_num, HT⟩, by simp [intOf]; omega⟩
              · obtain rfl : p = L := by omega
                have HNL := Lib.hid (contains_no fun j x hx => HP.out j x (by have := (List.getElem?_eq_some_iff.1 hx).1; have := HLl.out; omega) hx)
                clear HP
                go_wp2
                go_loop [9] (fun iv => ∃ i : Nat, i ≤ S ∧ iv = .int .i64 i ∧ Hid (∀ (j : Nat) x, j < i → f.sites[j]? = some x → (x == n) = false)) (fun iv => S - (intOf iv).toNat)
                case atStart => exact ⟨0, Nat.zero_le _, rfl, fun j x hj => by omega⟩
                case round =>
                  obtain ⟨q, hq, rfl, HP⟩ := hrel
                  by_cases hlt3 : q < S
                  · obtain ⟨b3, off3, x, rfl, hx, cx⟩ := N2.out.at hlt3
                    have HX := Lib.hid hx
                    clear hx
                    cases ht : x == n with
                    | true =>
                      go_wp2
                      go_ret
                      refine ⟨?_, N3.out⟩
                      rw [usedIn_eq, any_yes HFF.out (by unfold usedF; rw [contains_yes HX.out ht, Bool.or_true]), Bool.or_true]; rfl
                    | false =>
                      have HT := Lib.hid (next_no HP.out HX.out ht)
                      go_wp2
                      exact ⟨⟨q + 1, by omega, by go_num, HT⟩, by simp [intOf]; omega⟩
                  · obtain rfl : q = S := by omega
                    have HNS := Lib.hid (contains_no fun j x hx => HP.out j x (by have := (List.getElem?_eq_some_iff.1 hx).1; have := HSl.out; omega) hx)
                    clear HP
                    go_wp2
                    refine ⟨⟨k + 1, by omega, by go_num, ?_, N4, N3⟩, by simp [intOf]; omega⟩
                    show ∀ (j : Nat) f, _
                    intro j g hj hg
                    by_cases e : j = k
                    · subst e
                      rw [HFF.out] at hg
                      injection hg with hg
                      rw [← hg]; unfold usedF; rw [HNM.out, HNL.out, HNS.out]; rfl
                    · exact HE.out j g (by omega) hg
        · go_wp2
          go_ret
          refine ⟨?_, HB.out⟩
          rw [usedIn_eq, HNO.out, any_no fun j f hf => HE.out j f (by have := (List.getElem?_eq_some_iff.1 hf).1; have := HFl.out; omega) hf]; rfl
end Go.Proofs.Ytjgijbaboekghaa

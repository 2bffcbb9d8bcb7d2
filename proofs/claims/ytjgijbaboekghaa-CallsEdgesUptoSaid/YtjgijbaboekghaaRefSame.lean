/-
  r05.SameBody (function 15): the same answer as module.SameBody.
-/
import Derived.Test.YtjgijbaboekghaaSame
import Derived.Deep.RegionWith
import Derived.BigQuiet
set_option linter.unusedVariables false
set_option linter.unusedSimpArgs false
namespace Go.Proofs.Ytjgijbaboekghaa
open Go.RowKit
/-- What r05.SameBody does at statements smaller than n. -/
def RSameP (n : Nat) : Prop := ∀ (l1 l2 : List St), SizeOf.sizeOf l1 < n → ∀ (w : World) (a1 a2 : Option Addr) (n1 n2 c1 c2 : Nat), ReadsBody w a1 n1 l1 → ReadsBody w a2 n2 l2 →
    Calls Try.prog 15 #[.slice a1 n1 c1, .slice a2 n2 c2] w fun e w' => e = .returned (.bool (sameB l1 l2)) ∧ ∃ m, w' = w.drewN m
set_option maxRecDepth 100000 in
set_option maxHeartbeats 10000000 in
theorem rsame_step (n : Nat) (ih : RSameP n) : RSameP (n + 1) := by
  intro l1 l2 hn w a1 a2 n1 n2 c1 c2 h1 h2
  have H1 := Lib.hid h1
  have H2 := Lib.hid h2
  have IH := Lib.hid ih
  have HN := Lib.hid hn
  have hn1 := h1.2.1
  have hn2 := h2.2.1
  unfold maxLen at hn1 hn2
  clear h1 h2 ih hn
  by_cases hn : n1 = n2
  · subst hn
    go_enter Try.func15, Try.ntmps15
    go_wp2
    go_loopw [5] (fun iv wr => ∃ i : Nat, i ≤ n1 ∧ iv = .int .i64 i ∧ Hid (∀ (j : Nat) (x y : St), j < i → l1[j]? = some x → l2[j]? = some y → sameSt x y = true) ∧ Hid (∃ m, wr = w.drewN m)) (fun iv _ => n1 - (intOf iv).toNat)
    case atStart => exact ⟨0, Nat.zero_le _, rfl, fun j x y hj => by omega, 0, rfl⟩
    case round =>
      obtain ⟨i, hi, rfl, HE, HD⟩ := hrel
      by_cases hlt : i < n1
      · have hbel : Below w.heap.size w wr := by obtain ⟨m, e⟩ := HD.out; rw [e]; exact pw_below_drewN (Below.refl _ _) m
        obtain ⟨b, off, k, ak, ai, bk, bi, args, body, aa, al, ac, ba, bl, bc, rfl, hs, ⟨x0, x1, x2, x3, x4, x5, x6⟩, hra, hrb⟩ := (H1.out.below hbel).at hlt
        obtain ⟨b', off', k', ak', ai', bk', bi', args', body', aa', al', ac', ba', bl', bc', rfl, hs', ⟨y0, y1, y2, y3, y4, y5, y6⟩, hra', hrb'⟩ := (H2.out.below hbel).at hlt
        have HS := Lib.hid hs
        have HS' := Lib.hid hs'
        have HA := Lib.hid hra
        have HA' := Lib.hid hra'
        have HY := Lib.hid hrb
        have HY' := Lib.hid hrb'
        have hsz : SizeOf.sizeOf body < n := by have := body_lt hs; have := HN.out; omega
        have KC := Lib.hid (show ∀ nq, Calls Try.prog 15 #[.slice ba bl bc, .slice ba' bl' bc'] (wr.drewN nq) fun e w'' => e = .returned (.bool (sameB body body')) ∧ ∃ m, w'' = (wr.drewN nq).drewN m from
          fun nq => IH.out body body' hsz _ _ _ _ _ _ _ (hrb.below (pw_below_drewN (Below.refl _ _) nq)) (hrb'.below (pw_below_drewN (Below.refl _ _) nq)))
        have hdd : ∀ m, ∃ m', wr.drewN m = w.drewN m' := fun m => by obtain ⟨m0, e⟩ := HD.out; exact ⟨m0 + m, by rw [e, World.drewN_drewN]⟩
        have HDD := Lib.hid hdd
        clear hs hs' hra hra' hrb hrb' hsz hbel hdd
        by_cases hk : k = k'
        · subst hk
          by_cases hak : ak = ak'
          · subst hak
            by_cases hai : ai = ai'
            · subst hai
              by_cases hbk : bk = bk'
              · subst hbk
                by_cases hbi : bi = bi'
                · subst hbi
                  by_cases hal : al = al'
                  · subst hal
                    cases hS : sameB body body' with
                    | false =>
                      rw [hS] at KC
                      have HX := Lib.hid (show sameSt (.mk k ak ai bk bi args body) (.mk k ak ai bk bi args' body') = false from by rw [sameSt, show sameSt.sameAll body body' = false from hS]; simp)
                      clear hS
                      go_wp2_with fail
                      refine wp_region_quiet_lit (by kernel_rfl) (by kernel_rfl) ?_
                      dsimp only [List.append]
                      repeat (go_big_quiet_step ((go_at_call_of 15 (Value.slice ba bl bc); exact Calls.quiet_of (KC.out _))))
                      refine wpQuiet_nil ?_
                      intro _ hw'
                      obtain ⟨nq, hw''⟩ := hw'
                      subst hw''
                      go_wp2
                      go_ret
                      refine ⟨?_, HDD.out _⟩
                      rw [sameB_at HS.out HS'.out HX.out]
                      rfl
                    | true =>
                      rw [hS] at KC
                      have HSB := Lib.hid hS
                      clear hS
                      go_wp2_with fail
                      refine wp_region_quiet_lit (by kernel_rfl) (by kernel_rfl) ?_
                      dsimp only [List.append]
                      repeat (go_big_quiet_step ((go_at_call_of 15 (Value.slice ba bl bc); exact Calls.quiet_of (KC.out _))))
                      refine wpQuiet_nil ?_
                      intro _ hw'
                      obtain ⟨nq, hw''⟩ := hw'
                      subst hw''
                      go_wp2
                      obtain ⟨wr0, hwr0⟩ : ∃ wr0, wr0 = wr := ⟨_, rfl⟩
                      rw [← hwr0] at x0 x1 x2 x3 x4 x5 x6 y0 y1 y2 y3 y4 y5 y6 HA HA' HY HY' KC HD HDD ⊢
                      clear hwr0
                      have HD1 := Lib.hid (HDD.out nq)
                      generalize hwq : wr0.drewN nq = wq at *
                      have HQ := Lib.hid (show ∃ m, wq = wr0.drewN m from ⟨nq, hwq.symm⟩)
                      clear hwq
                      go_loopw [6] (fun jv wr2 => ∃ j : Nat, j ≤ al ∧ jv = .int .i64 j ∧ Hid (∀ t, t < j → args[t]? = args'[t]?) ∧ Hid (∃ m, wr2 = wr0.drewN m)) (fun jv _ => al - (intOf jv).toNat)
                      case atStart => exact ⟨0, Nat.zero_le _, rfl, fun t ht => by omega, HQ⟩
                      case round =>
                        obtain ⟨j, hj, rfl, HAR, HDR⟩ := hrel
                        obtain ⟨mm, hmm⟩ := HDR.out
                        have hbw := pw_below_drewN (Below.refl wr0.heap.size wr0) mm
                        have HAj := Lib.hid (HA.out.below hbw)
                        have HAj' := Lib.hid (HA'.out.below hbw)
                        have HDE := Lib.hid (HDD.out mm)
                        rw [← hmm] at HAj HAj' HDE
                        have z5 : wr.cell? ⟨b, off + i * 7 + 5, none⟩ = some (.slice aa al ac) := by rw [hmm]; exact x5
                        have z5' : wr.cell? ⟨b', off' + i * 7 + 5, none⟩ = some (.slice aa' al ac') := by rw [hmm]; exact y5
                        have HDRW := Lib.hid (show ∀ q, ∃ m, wr.drewN q = wr0.drewN m from fun q => ⟨mm + q, by rw [hmm, World.drewN_drewN]⟩)
                        have HDD2 := Lib.hid (show ∀ q, ∃ m, wr.drewN q = w.drewN m from fun q => by obtain ⟨m0, e⟩ := HDD.out mm; exact ⟨m0 + q, by rw [hmm, e, World.drewN_drewN]⟩)
                        clear hbw hmm
                        have hal9 : al ≤ 9223372036854775807 := by have := HA.out.2.1; unfold maxLen at this; omega
                        by_cases hlj : j < al
                        · obtain ⟨g1, o1, p1, m1, rfl, e1, u1, v1⟩ := HAj.out.at hlj
                          obtain ⟨g2, o2, p2, m2, rfl, e2, u2, v2⟩ := HAj'.out.at hlj
                          have E1 := Lib.hid e1
                          have E2 := Lib.hid e2
                          clear e1 e2
                          by_cases hp : p1 = p2
                          · subst hp
                            by_cases hm : m1 = m2
                            · subst hm
                              go_wp2_with fail
                              go_quiet (fail)
                              go_wp2
                              refine ⟨⟨j + 1, by omega, by go_num, fun t ht => ?_, HDRW.out _⟩, by simp [intOf]; omega⟩
                              by_cases e : t = j
                              · rw [e, E1.out, E2.out]
                              · exact HAR.out t (by omega)
                            · have HX := Lib.hid (show sameSt (.mk k ak ai bk bi args body) (.mk k ak ai bk bi args' body') = false from by rw [sameSt, refs_ne E1.out E2.out (fun e => hm (by injection e))]; simp)
                              go_wp2_with fail
                              go_quiet (fail)
                              go_wp2
                              go_ret
                              refine ⟨?_, HDD2.out _⟩
                              rw [sameB_at HS.out HS'.out HX.out]
                              rfl
                          · have HX := Lib.hid (show sameSt (.mk k ak ai bk bi args body) (.mk k ak ai bk bi args' body') = false from by rw [sameSt, refs_ne E1.out E2.out (fun e => hp (by injection e))]; simp)
                            go_wp2_with fail
                            go_quiet (fail)
                            go_wp2
                            go_ret
                            refine ⟨?_, HDD2.out _⟩
                            rw [sameB_at HS.out HS'.out HX.out]
                            rfl
                        · obtain rfl : j = al := by omega
                          have hss : sameSt (.mk k ak ai bk bi args body) (.mk k ak ai bk bi args' body') = true := by
                            have : (args == args') = true := by
                              rw [beq_iff_eq]
                              apply List.ext_getElem?
                              intro t
                              by_cases ht : t < j
                              · exact HAR.out t ht
                              · rw [List.getElem?_eq_none (by rw [HA.out.1]; omega), List.getElem?_eq_none (by rw [HA'.out.1]; omega)]
                            rw [sameSt, this, show sameSt.sameAll body body' = true from HSB.out]
                            simp
                          have HSS := Lib.hid hss
                          clear hss
                          go_wp2
                          refine ⟨⟨i + 1, by omega, by go_num, ?_, HDE⟩, by simp [intOf]; omega⟩
                          show ∀ (t : Nat) (x y : St), _
                          intro t x y ht hx hy
                          by_cases e : t = i
                          · subst e
                            rw [HS.out] at hx
                            rw [HS'.out] at hy
                            injection hx with hx
                            injection hy with hy
                            rw [← hx, ← hy]
                            exact HSS.out
                          · exact HE.out t x y (by omega) hx hy
                  · have hbal : ((al : Int) != (al' : Int)) = true := by rw [bne_iff_ne]; omega
                    have HX := Lib.hid (show sameSt (.mk k ak ai bk bi args body) (.mk k ak ai bk bi args' body') = false from by rw [sameSt, beq_eq_false_iff_ne.2 (show ¬ args = args' from fun e => hal (by rw [← HA.out.1, ← HA'.out.1, e]))]; simp)
                    go_wp2_with fail
                    refine wp_region_quiet_lit (by kernel_rfl) (by kernel_rfl) ?_
                    dsimp only [List.append]
                    repeat (go_big_quiet_step (fail))
                    refine wpQuiet_nil ?_
                    intro _ hw'
                    obtain ⟨nq, hw''⟩ := hw'
                    subst hw''
                    go_wp2
                    go_ret
                    refine ⟨?_, HDD.out _⟩
                    rw [sameB_at HS.out HS'.out HX.out]
                    rfl
                · have hbbi : (bi != bi') = true := bne_iff_ne.2 hbi
                  have HX := Lib.hid (show sameSt (.mk k ak ai bk bi args body) (.mk k ak ai bk bi' args' body') = false from by rw [sameSt, beq_eq_false_iff_ne.2 hbi]; simp)
                  go_wp2_with fail
                  refine wp_region_quiet_lit (by kernel_rfl) (by kernel_rfl) ?_
                  dsimp only [List.append]
                  repeat (go_big_quiet_step (fail))
                  refine wpQuiet_nil ?_
                  intro _ hw'
                  obtain ⟨nq, hw''⟩ := hw'
                  subst hw''
                  go_wp2
                  go_ret
                  refine ⟨?_, HDD.out _⟩
                  rw [sameB_at HS.out HS'.out HX.out]
                  rfl
              · have hbbk : (bk != bk') = true := bne_iff_ne.2 hbk
                have HX := Lib.hid (show sameSt (.mk k ak ai bk bi args body) (.mk k ak ai bk' bi' args' body') = false from by rw [sameSt, beq_eq_false_iff_ne.2 hbk]; simp)
                go_wp2_with fail
                refine wp_region_quiet_lit (by kernel_rfl) (by kernel_rfl) ?_
                dsimp only [List.append]
                repeat (go_big_quiet_step (fail))
                refine wpQuiet_nil ?_
                intro _ hw'
                obtain ⟨nq, hw''⟩ := hw'
                subst hw''
                go_wp2
                go_ret
                refine ⟨?_, HDD.out _⟩
                rw [sameB_at HS.out HS'.out HX.out]
                rfl
            · have hbai : (ai != ai') = true := bne_iff_ne.2 hai
              have HX := Lib.hid (show sameSt (.mk k ak ai bk bi args body) (.mk k ak ai' bk' bi' args' body') = false from by rw [sameSt, beq_eq_false_iff_ne.2 hai]; simp)
              go_wp2_with fail
              refine wp_region_quiet_lit (by kernel_rfl) (by kernel_rfl) ?_
              dsimp only [List.append]
              repeat (go_big_quiet_step (fail))
              refine wpQuiet_nil ?_
              intro _ hw'
              obtain ⟨nq, hw''⟩ := hw'
              subst hw''
              go_wp2
              go_ret
              refine ⟨?_, HDD.out _⟩
              rw [sameB_at HS.out HS'.out HX.out]
              rfl
          · have hbak : (ak != ak') = true := bne_iff_ne.2 hak
            have HX := Lib.hid (show sameSt (.mk k ak ai bk bi args body) (.mk k ak' ai' bk' bi' args' body') = false from by rw [sameSt, beq_eq_false_iff_ne.2 hak]; simp)
            go_wp2_with fail
            refine wp_region_quiet_lit (by kernel_rfl) (by kernel_rfl) ?_
            dsimp only [List.append]
            repeat (go_big_quiet_step (fail))
            refine wpQuiet_nil ?_
            intro _ hw'
            obtain ⟨nq, hw''⟩ := hw'
            subst hw''
            go_wp2
            go_ret
            refine ⟨?_, HDD.out _⟩
            rw [sameB_at HS.out HS'.out HX.out]
            rfl
        · have hbk : (k != k') = true := bne_iff_ne.2 hk
          have HX := Lib.hid (show sameSt (.mk k ak ai bk bi args body) (.mk k' ak' ai' bk' bi' args' body') = false from by rw [sameSt, beq_eq_false_iff_ne.2 hk]; simp)
          go_wp2_with fail
          refine wp_region_quiet_lit (by kernel_rfl) (by kernel_rfl) ?_
          dsimp only [List.append]
          repeat (go_big_quiet_step (fail))
          refine wpQuiet_nil ?_
          intro _ hw'
          obtain ⟨nq, hw''⟩ := hw'
          subst hw''
          go_wp2
          go_ret
          refine ⟨?_, HDD.out _⟩
          rw [sameB_at HS.out HS'.out HX.out]
          rfl
      · obtain rfl : i = n1 := by omega
        have hl : sameB l1 l2 = true := sameB_true.2 ⟨by rw [H1.out.1, H2.out.1], fun j x y hx hy => HE.out j x y (by rw [← H1.out.1]; exact (List.getElem?_eq_some_iff.1 hx).1) hx hy⟩
        have HLL := Lib.hid hl
        clear hl
        go_wp2
        go_ret
        exact ⟨by rw [HLL.out]; rfl, HD.out⟩
  · have hl : sameB l1 l2 = false := sameB_len (by rw [H1.out.1, H2.out.1]; exact hn)
    have HLL := Lib.hid hl
    clear hl
    go_enter Try.func15, Try.ntmps15
    go_wp2
    go_ret
    exact ⟨by rw [HLL.out]; rfl, 0, rfl⟩
theorem rsameP (n : Nat) : RSameP n := by
  induction n with
  | zero => intro l1 l2 hn; omega
  | succ n ih => exact rsame_step n ih
/-- r05.SameBody -/
theorem same14_calls (w : World) (l1 l2 : List St) (a1 a2 : Option Addr) (n1 n2 c1 c2 : Nat) (h1 : ReadsBody w a1 n1 l1) (h2 : ReadsBody w a2 n2 l2) :
    Calls Try.prog 15 #[.slice a1 n1 c1, .slice a2 n2 c2] w fun e w' => e = .returned (.bool (sameB l1 l2)) ∧ ∃ m, w' = w.drewN m :=
  rsameP (SizeOf.sizeOf l1 + 1) l1 l2 (Nat.lt_succ_self _) w a1 a2 n1 n2 c1 c2 h1 h2
end Go.Proofs.Ytjgijbaboekghaa

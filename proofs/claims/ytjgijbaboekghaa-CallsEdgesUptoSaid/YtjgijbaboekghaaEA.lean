/-
  r14.Vars, Cells, Find, Of, Edges (functions 54, 55, 56, 57, 26), weathervanelaw21.same (24). No statement of its own.
-/
import Derived.Test.YtjgijbaboekghaaEdg
import Derived.Test.YtjgijbaboekghaaNmW
set_option linter.unusedSimpArgs false
set_option linter.unusedVariables false
namespace Go.Proofs.Ytjgijbaboekghaa
open Go.RowKit
/-- A variable, or an object: what it is, of which function, which. -/
abbrev Th := Int × Int × Int
def thV (x : Th) : List Value := [.int .u8 x.1, .int .i64 x.2.1, .int .i64 x.2.2]
def encT (l : List Th) : List Value := l.flatMap thV
theorem encT_append (l r : List Th) : encT (l ++ r) = encT l ++ encT r := by unfold encT; rw [List.flatMap_append]
theorem thV_one (x : Th) : ∀ v ∈ thV x, v.oneCell' = true := fun v hv => by
  simp only [thV, List.mem_cons, List.not_mem_nil, or_false] at hv
  rcases hv with rfl | rfl | rfl <;> rfl
theorem encT_at {l : List Th} {i : Nat} {x : Th} (h : l[i]? = some x) : (encT l)[i * 3]? = some (.int .u8 x.1) ∧ (encT l)[i * 3 + 1]? = some (.int .i64 x.2.1) ∧ (encT l)[i * 3 + 2]? = some (.int .i64 x.2.2) := by
  induction l generalizing i with
  | nil => simp at h
  | cons y l ih =>
    have hc : encT (y :: l) = .int .u8 y.1 :: .int .i64 y.2.1 :: .int .i64 y.2.2 :: encT l := rfl
    cases i with
    | zero => simp at h; subst h; rw [hc]; exact ⟨rfl, rfl, rfl⟩
    | succ i =>
      obtain ⟨h1, h2, h3⟩ := ih (i := i) (by simpa using h)
      rw [hc, show (i + 1) * 3 = i * 3 + 1 + 1 + 1 by omega]
      refine ⟨?_, ?_, ?_⟩
      · simpa using h1
      · rw [show i * 3 + 1 + 1 + 1 + 1 = (i * 3 + 1) + 1 + 1 + 1 by omega]; simpa using h2
      · rw [show i * 3 + 1 + 1 + 1 + 2 = (i * 3 + 2) + 1 + 1 + 1 by omega]; simpa using h3
theorem thing_cells {w : World} {B n c g i : Nat} {l : List Th} {x : Th} (h : w.ownsRow B 107 3 (.slice (some ⟨g, 0, none⟩) n c) n (encT l)) (hx : l[i]? = some x) :
    w.cell? ⟨g, i * 3, none⟩ = some (.int .u8 x.1) ∧ w.cell? ⟨g, i * 3 + 1, none⟩ = some (.int .i64 x.2.1) ∧ w.cell? ⟨g, i * 3 + 2, none⟩ = some (.int .i64 x.2.2) :=
  ⟨(row_cell h (encT_at hx).1).1, (row_cell h (encT_at hx).2.1).1, (row_cell h (encT_at hx).2.2).1⟩
theorem info107 : (Try.prog.info? 107).map (fun i => (i.zero, i.size, i.bytes)) = some (some (.agg #[.int .u8 0, .int .i64 0, .int .i64 0]), 3, 24) := by kernel_rfl
def globT (g : Nat) : List Th := (List.range g).flatMap fun (i : Nat) => [(2, 0, (i : Int))]
def locT (f l : Nat) : List Th := (List.range l).flatMap fun (i : Nat) => [(1, (f : Int), (i : Int))]
def siteT (f s : Nat) : List Th := (List.range s).flatMap fun (i : Nat) => [(4, (f : Int), (i : Int))]
def oneV (M : Mod) (f : Nat) : List Th := match M.funcs[f]? with | some x => locT f x.locals.length ++ [(3, (f : Int), 0)] ++ siteT f x.sites.length | none => []
def oneC (M : Mod) (f : Nat) : List Th := match M.funcs[f]? with | some x => [(3, (f : Int), 0)] ++ locT f x.locals.length ++ siteT f x.sites.length | none => []
def varsT (M : Mod) (k : Nat) : List Th := globT M.globals.length ++ (List.range k).flatMap (oneV M)
def cellsT (M : Mod) (k : Nat) : List Th := globT M.globals.length ++ (List.range k).flatMap (oneC M)
theorem varsT_succ {M : Mod} {i : Nat} {f : Fn} (h : M.funcs[i]? = some f) : varsT M (i + 1) = varsT M i ++ locT i f.locals.length ++ [(3, (i : Int), 0)] ++ siteT i f.sites.length := by
  have e : oneV M i = locT i f.locals.length ++ [(3, (i : Int), 0)] ++ siteT i f.sites.length := by unfold oneV; rw [h]
  unfold varsT
  rw [fm_succ, e]
  simp only [List.append_assoc]
theorem cellsT_succ {M : Mod} {i : Nat} {f : Fn} (h : M.funcs[i]? = some f) : cellsT M (i + 1) = cellsT M i ++ [(3, (i : Int), 0)] ++ locT i f.locals.length ++ siteT i f.sites.length := by
  have e : oneC M i = [(3, (i : Int), 0)] ++ locT i f.locals.length ++ siteT i f.sites.length := by unfold oneC; rw [h]
  unfold cellsT
  rw [fm_succ, e]
  simp only [List.append_assoc]
def Things (w : World) (l : List Th) (e : Ending) (w' : World) : Prop := ∃ A n c, e = .returned (.slice A n c) ∧ n = l.length ∧ n ≤ 4000000 ∧ w'.ownsRow w.heap.size 107 3 (.slice A n c) n (encT l) ∧ Below w.heap.size w w'
set_option maxRecDepth 20000 in
set_option maxHeartbeats 4000000 in
theorem vars_calls (w : World) (mv : Value) (M : Mod) (hm : ReadsM w mv M) : Calls Try.prog 54 #[mv] w (Things w (varsT M M.funcs.length)) := by
  obtain ⟨sv, gv, fv, ev, rfl, h1, h2, h3, h4⟩ := id hm
  obtain ⟨sa, sc, rfl, _⟩ := h1.shape
  obtain ⟨ga, gc, rfl, hg1⟩ := h2.shape
  obtain ⟨fa, fc, rfl, hfn⟩ := h3.shape
  obtain ⟨ea, ec, rfl, _⟩ := h4.shape
  have HF := Lib.hid h3
  obtain ⟨sn, hsn⟩ : ∃ n, n = M.strings.length := ⟨_, rfl⟩
  obtain ⟨gn, hgn⟩ : ∃ n, n = M.globals.length := ⟨_, rfl⟩
  obtain ⟨n, hnn⟩ : ∃ n, n = M.funcs.length := ⟨_, rfl⟩
  obtain ⟨en, hen⟩ : ∃ n, n = M.entries.length := ⟨_, rfl⟩
  rw [← hnn] at hfn HF ⊢
  rw [← hgn] at hg1 ⊢
  rw [← hsn, ← hen]
  have HG0 : Hid (varsT M 0 = globT gn) := Lib.hid (by unfold varsT; rw [hgn]; exact List.append_nil _)
  clear hm h1 h2 h3 h4 hnn hgn hsn hen
  have m0 := heap_alloc_new w (.cells #[.slice sa sn sc, .slice ga gn gc, .slice fa n fc, .slice ea en ec] 32)
  have bw : Below w.heap.size w (w.alloc (.cells #[.slice sa sn sc, .slice ga gn gc, .slice fa n fc, .slice ea en ec] 32)) := (Below.refl _ _).alloc (Nat.le_refl _) _
  go_enter Try.func54, Try.ntmps54
  go_upto_region 1 with (fail)
  obtain ⟨W, hW⟩ : ∃ W, W = w.alloc (.cells #[.slice sa sn sc, .slice ga gn gc, .slice fa n fc, .slice ea en ec] 32) := ⟨_, rfl⟩
  rw [← hW] at m0 bw ⊢
  have H0 := Lib.hid m0
  have HBW := Lib.hid bw
  have HF0 := Lib.hid (HF.out.sub (sub_below bw))
  clear hW m0 bw HF
  go_wp2_with fail
  go_loopw [3, 4] (fun v3 v4 wr => ∃ (i : Nat) (A : Option Addr) (cp : Nat), i ≤ gn ∧ v4 = .int .i64 (i : Nat) ∧ v3 = .slice A i cp ∧ Hid (i = (globT i).length) ∧ Hid (wr.ownsRow W.heap.size 107 3 (.slice A i cp) i (encT (globT i))) ∧ Hid (Below W.heap.size W wr)) (fun _ v4 _ => gn - (intOf v4).toNat)
  case atStart => exact ⟨0, none, 0, Nat.zero_le _, rfl, rfl, rfl, World.ownsRow_nil _ _ _ _, Below.refl _ _⟩
  case round =>
    obtain ⟨i, A, cp, hi, rfl, rfl, HM, HO, HB⟩ := hrel
    obtain ⟨c0, f0, z0⟩ := blk3 (blk_below H0.out HB.out)
    by_cases hlt : i < gn
    · have hltI : (i : Int) < (gn : Int) := by omega
      have HT : Hid (globT (i + 1) = globT i ++ [(2, 0, (i : Int))]) := Lib.hid (fm_succ _ _)
      go_wp2_with (at_builtin; refine append_list2 (B := W.heap.size) (w0 := W) rfl _ _ 103 107 (.agg #[.int .u8 0, .int .i64 0, .int .i64 0]) 3 24 rfl Try.underlying103 info107 rfl (by decide) (.slice A i cp) i _ rfl (own_below HO.out ((Below.refl _ _).alloc (Nat.le_refl _) _)) ⟨wr.heap.size, 0, none⟩ 1 1 (thV (2, 0, (i : Int))) rfl rfl (new_cells wr #[.int .u8 2, .int .i64 0, .int .i64 (i : Nat)] _ _) (thV_one _) (by have := HB.out.size; simp; omega) (HB.out.alloc HB.out.size _) (by omega) (by omega) ?_; intro v' w4 hown hbel _ _; obtain ⟨A1, cp1, rfl, _, _⟩ := own_shape hown; have HO1 := Lib.hid hown; have HB1 := Lib.hid hbel; clear hown hbel)
      refine ⟨⟨i + 1, A1, cp1, by omega, by go_num, rfl, ?_, ?_, HB1.out⟩, by simp [intOf]; omega⟩
      · show _ = _
        rw [HT.out, List.length_append, ← HM.out]; rfl
      · show World.ownsRow _ _ _ _ _ _ _
        rw [HT.out, encT_append]; exact HO1.out
    · obtain rfl : gn = i := by omega
      have hnn : ¬ (gn : Int) < (gn : Int) := by omega
      have HOG : Hid (wr.ownsRow W.heap.size 107 3 (.slice A gn cp) gn (encT (varsT M 0))) := Lib.hid (by rw [HG0.out]; exact HO.out)
      have HMG : Hid (gn = (varsT M 0).length) := Lib.hid (by rw [HG0.out]; exact HM.out)
      go_wp2_with fail
      clear c0 f0 z0
      go_loopw [3, 5] (fun v3 v5 wr => ∃ (i m : Nat) (A : Option Addr) (cp : Nat), i ≤ n ∧ m ≤ gn + 2001 * i ∧ v5 = .int .i64 (i : Nat) ∧ v3 = .slice A m cp ∧ Hid (m = (varsT M i).length) ∧ Hid (wr.ownsRow W.heap.size 107 3 (.slice A m cp) m (encT (varsT M i))) ∧ Hid (Below W.heap.size W wr)) (fun _ v5 _ => n - (intOf v5).toNat)
      case atStart => exact ⟨0, gn, A, cp, Nat.zero_le _, by omega, rfl, rfl, HMG.out, HOG.out, HB.out⟩
      case round =>
        clear HM HO HB HMG HOG hi hlt
        obtain ⟨i, m, A, cp, hi, hm, rfl, rfl, HM, HO, HB⟩ := hrel
        obtain ⟨c0, f0, z0⟩ := blk3 (blk_below H0.out HB.out)
        by_cases hlt : i < n
        · have hltI : (i : Int) < (n : Int) := by omega
          have hi0 : (0 : Int) ≤ (i : Int) := by omega
          obtain ⟨b, off, f, lv, sv, bv, rfl, hff, ⟨k0, k1, k2, k3, k4⟩, hlv, hsv, hbv⟩ := HF0.out.at hlt
          obtain ⟨la, lc, rfl, hl1⟩ := hlv.shape
          obtain ⟨ia, ic, rfl, hs1⟩ := hsv.shape
          have HT := Lib.hid (varsT_succ hff)
          generalize f.locals.length = ln at *
          generalize f.sites.length = inn at *
          have K2 := Lib.hid k2
          have K3 := Lib.hid k3
          clear hlv hsv hbv hff k0 k1 k2 k3 k4
          have y2 := lift HB.out K2.out
          have y3 := lift HB.out K3.out
          go_wp2_with fail
          clear c0 f0 z0 y2 y3
          go_loopw [3, 6] (fun v3 v6 wr => ∃ (j m : Nat) (A : Option Addr) (cp : Nat), j ≤ ln ∧ m ≤ gn + 2001 * i + j ∧ v6 = .int .i64 (j : Nat) ∧ v3 = .slice A m cp ∧ Hid (m = (varsT M i ++ locT i j).length) ∧ Hid (wr.ownsRow W.heap.size 107 3 (.slice A m cp) m (encT (varsT M i ++ locT i j))) ∧ Hid (Below W.heap.size W wr)) (fun _ v6 _ => ln - (intOf v6).toNat)
          case atStart => exact ⟨0, _, A, cp, Nat.zero_le _, by omega, rfl, rfl, (by show _ = _; rw [show locT i 0 = [] from rfl, List.append_nil]; exact HM.out), (by show World.ownsRow _ _ _ _ _ _ _; rw [show locT i 0 = [] from rfl, List.append_nil]; exact HO.out), HB.out⟩
          case round =>
            clear HM HO HB
            obtain ⟨j, m, A, cp, hj, hm, rfl, rfl, HM, HO, HB⟩ := hrel
            obtain ⟨c0, f0, z0⟩ := blk3 (blk_below H0.out HB.out)
            have y2 := lift HB.out K2.out
            have y3 := lift HB.out K3.out
            by_cases hltj : j < ln
            · have hltJ : (j : Int) < (ln : Int) := by omega
              have HTJ : Hid (locT i (j + 1) = locT i j ++ [(1, (i : Int), (j : Int))]) := Lib.hid (fm_succ _ _)
              go_wp2_with (at_builtin; refine append_list2 (B := W.heap.size) (w0 := W) rfl _ _ 103 107 (.agg #[.int .u8 0, .int .i64 0, .int .i64 0]) 3 24 rfl Try.underlying103 info107 rfl (by decide) (.slice A m cp) m _ rfl (own_below HO.out ((Below.refl _ _).alloc (Nat.le_refl _) _)) ⟨wr.heap.size, 0, none⟩ 1 1 (thV (1, (i : Int), (j : Int))) rfl rfl (new_cells wr #[.int .u8 1, .int .i64 (i : Nat), .int .i64 (j : Nat)] _ _) (thV_one _) (by have := HB.out.size; simp; omega) (HB.out.alloc HB.out.size _) (by omega) (by omega) ?_; intro v' w4 hown hbel _ _; obtain ⟨A1, cp1, rfl, _, _⟩ := own_shape hown; have HO1 := Lib.hid hown; have HB1 := Lib.hid hbel; clear hown hbel)
              refine ⟨⟨j + 1, m + 1, A1, cp1, by omega, by omega, by go_num, rfl, ?_, ?_, HB1.out⟩, by simp [intOf]; omega⟩
              · show _ = _
                rw [HTJ.out, ← List.append_assoc, List.length_append, ← HM.out]; rfl
              · show World.ownsRow _ _ _ _ _ _ _
                rw [HTJ.out, ← List.append_assoc, encT_append]; exact HO1.out
            · obtain rfl : ln = j := by omega
              have hnn : ¬ (ln : Int) < (ln : Int) := by omega
              go_wp2_with (at_builtin; refine append_list2 (B := W.heap.size) (w0 := W) rfl _ _ 103 107 (.agg #[.int .u8 0, .int .i64 0, .int .i64 0]) 3 24 rfl Try.underlying103 info107 rfl (by decide) (.slice A m cp) m _ rfl (own_below HO.out ((Below.refl _ _).alloc (Nat.le_refl _) _)) ⟨wr.heap.size, 0, none⟩ 1 1 (thV (3, (i : Int), 0)) rfl rfl (new_cells wr #[.int .u8 3, .int .i64 (i : Nat), .int .i64 0] _ _) (thV_one _) (by have := HB.out.size; simp; omega) (HB.out.alloc HB.out.size _) (by omega) (by omega) ?_; intro v' w4 hown hbel _ _; obtain ⟨A1, cp1, rfl, _, _⟩ := own_shape hown; have HO1 := Lib.hid hown; have HB1 := Lib.hid hbel; clear hown hbel)
              have HM1 : Hid (m + 1 = (varsT M i ++ locT i ln ++ [(3, (i : Int), 0)]).length) := Lib.hid (by rw [List.length_append, ← HM.out]; rfl)
              have HO2 : Hid (w4.ownsRow W.heap.size 107 3 (.slice A1 (m + 1) cp1) (m + 1) (encT (varsT M i ++ locT i ln ++ [(3, (i : Int), 0)]))) := Lib.hid (by rw [encT_append]; exact HO1.out)
              clear HM HO HB HO1 c0 f0 z0 y2 y3
              have HM := HM1
              have HO := HO2
              have HB := HB1
              clear HM1 HO2 HB1
              go_loopw [3, 7] (fun v3 v7 wr => ∃ (j m : Nat) (A : Option Addr) (cp : Nat), j ≤ inn ∧ m ≤ gn + 2001 * i + ln + 1 + j ∧ v7 = .int .i64 (j : Nat) ∧ v3 = .slice A m cp ∧ Hid (m = (varsT M i ++ locT i ln ++ [(3, (i : Int), 0)] ++ siteT i j).length) ∧ Hid (wr.ownsRow W.heap.size 107 3 (.slice A m cp) m (encT (varsT M i ++ locT i ln ++ [(3, (i : Int), 0)] ++ siteT i j))) ∧ Hid (Below W.heap.size W wr)) (fun _ v7 _ => inn - (intOf v7).toNat)
              case atStart => exact ⟨0, m + 1, A1, cp1, Nat.zero_le _, by omega, rfl, rfl, (by show _ = _; rw [show siteT i 0 = [] from rfl, List.append_nil]; exact HM.out), (by show World.ownsRow _ _ _ _ _ _ _; rw [show siteT i 0 = [] from rfl, List.append_nil]; exact HO.out), HB.out⟩
              case round =>
                clear HM HO HB
                obtain ⟨j, m, A, cp, hj, hm, rfl, rfl, HM, HO, HB⟩ := hrel
                obtain ⟨c0, f0, z0⟩ := blk3 (blk_below H0.out HB.out)
                have y2 := lift HB.out K2.out
                have y3 := lift HB.out K3.out
                by_cases hltj : j < inn
                · have hltJ : (j : Int) < (inn : Int) := by omega
                  have HTJ : Hid (siteT i (j + 1) = siteT i j ++ [(4, (i : Int), (j : Int))]) := Lib.hid (fm_succ _ _)
                  go_wp2_with (at_builtin; refine append_list2 (B := W.heap.size) (w0 := W) rfl _ _ 103 107 (.agg #[.int .u8 0, .int .i64 0, .int .i64 0]) 3 24 rfl Try.underlying103 info107 rfl (by decide) (.slice A m cp) m _ rfl (own_below HO.out ((Below.refl _ _).alloc (Nat.le_refl _) _)) ⟨wr.heap.size, 0, none⟩ 1 1 (thV (4, (i : Int), (j : Int))) rfl rfl (new_cells wr #[.int .u8 4, .int .i64 (i : Nat), .int .i64 (j : Nat)] _ _) (thV_one _) (by have := HB.out.size; simp; omega) (HB.out.alloc HB.out.size _) (by omega) (by omega) ?_; intro v' w4 hown hbel _ _; obtain ⟨A1, cp1, rfl, _, _⟩ := own_shape hown; have HO1 := Lib.hid hown; have HB1 := Lib.hid hbel; clear hown hbel)
                  refine ⟨⟨j + 1, m + 1, A1, cp1, by omega, by omega, by go_num, rfl, ?_, ?_, HB1.out⟩, by simp [intOf]; omega⟩
                  · show _ = _
                    rw [HTJ.out, ← List.append_assoc, List.length_append, ← HM.out]; rfl
                  · show World.ownsRow _ _ _ _ _ _ _
                    rw [HTJ.out, ← List.append_assoc, encT_append]; exact HO1.out
                · obtain rfl : inn = j := by omega
                  have hnn : ¬ (inn : Int) < (inn : Int) := by omega
                  go_wp2_with fail
                  refine ⟨⟨i + 1, m, A, cp, by omega, by omega, by go_num, rfl, ?_, ?_, HB.out⟩, by simp [intOf]; omega⟩
                  · show _ = _
                    rw [HT.out]; exact HM.out
                  · show World.ownsRow _ _ _ _ _ _ _
                    rw [HT.out]; exact HO.out
        · obtain rfl : n = i := by omega
          have hnn : ¬ (n : Int) < (n : Int) := by omega
          go_wp2_with fail
          go_ret
          exact ⟨A, m, cp, rfl, HM.out, by omega, own_base HO.out HBW.out.size, HBW.out.trans (HB.out.mono HBW.out.size)⟩
set_option maxRecDepth 20000 in
set_option maxHeartbeats 4000000 in
theorem cells_calls (w : World) (mv : Value) (M : Mod) (hm : ReadsM w mv M) : Calls Try.prog 55 #[mv] w (Things w (cellsT M M.funcs.length)) := by
  obtain ⟨sv, gv, fv, ev, rfl, h1, h2, h3, h4⟩ := id hm
  obtain ⟨sa, sc, rfl, _⟩ := h1.shape
  obtain ⟨ga, gc, rfl, hg1⟩ := h2.shape
  obtain ⟨fa, fc, rfl, hfn⟩ := h3.shape
  obtain ⟨ea, ec, rfl, _⟩ := h4.shape
  have HF := Lib.hid h3
  obtain ⟨sn, hsn⟩ : ∃ n, n = M.strings.length := ⟨_, rfl⟩
  obtain ⟨gn, hgn⟩ : ∃ n, n = M.globals.length := ⟨_, rfl⟩
  obtain ⟨n, hnn⟩ : ∃ n, n = M.funcs.length := ⟨_, rfl⟩
  obtain ⟨en, hen⟩ : ∃ n, n = M.entries.length := ⟨_, rfl⟩
  rw [← hnn] at hfn HF ⊢
  rw [← hgn] at hg1 ⊢
  rw [← hsn, ← hen]
  have HG0 : Hid (cellsT M 0 = globT gn) := Lib.hid (by unfold cellsT; rw [hgn]; exact List.append_nil _)
  clear hm h1 h2 h3 h4 hnn hgn hsn hen
  have m0 := heap_alloc_new w (.cells #[.slice sa sn sc, .slice ga gn gc, .slice fa n fc, .slice ea en ec] 32)
  have bw : Below w.heap.size w (w.alloc (.cells #[.slice sa sn sc, .slice ga gn gc, .slice fa n fc, .slice ea en ec] 32)) := (Below.refl _ _).alloc (Nat.le_refl _) _
  go_enter Try.func55, Try.ntmps55
  go_upto_region 1 with (fail)
  obtain ⟨W, hW⟩ : ∃ W, W = w.alloc (.cells #[.slice sa sn sc, .slice ga gn gc, .slice fa n fc, .slice ea en ec] 32) := ⟨_, rfl⟩
  rw [← hW] at m0 bw ⊢
  have H0 := Lib.hid m0
  have HBW := Lib.hid bw
  have HF0 := Lib.hid (HF.out.sub (sub_below bw))
  clear hW m0 bw HF
  go_wp2_with fail
  go_loopw [3, 4] (fun v3 v4 wr => ∃ (i : Nat) (A : Option Addr) (cp : Nat), i ≤ gn ∧ v4 = .int .i64 (i : Nat) ∧ v3 = .slice A i cp ∧ Hid (i = (globT i).length) ∧ Hid (wr.ownsRow W.heap.size 107 3 (.slice A i cp) i (encT (globT i))) ∧ Hid (Below W.heap.size W wr)) (fun _ v4 _ => gn - (intOf v4).toNat)
  case atStart => exact ⟨0, none, 0, Nat.zero_le _, rfl, rfl, rfl, World.ownsRow_nil _ _ _ _, Below.refl _ _⟩
  case round =>
    obtain ⟨i, A, cp, hi, rfl, rfl, HM, HO, HB⟩ := hrel
    obtain ⟨c0, f0, z0⟩ := blk3 (blk_below H0.out HB.out)
    by_cases hlt : i < gn
    · have hltI : (i : Int) < (gn : Int) := by omega
      have HT : Hid (globT (i + 1) = globT i ++ [(2, 0, (i : Int))]) := Lib.hid (fm_succ _ _)
      go_wp2_with (at_builtin; refine append_list2 (B := W.heap.size) (w0 := W) rfl _ _ 103 107 (.agg #[.int .u8 0, .int .i64 0, .int .i64 0]) 3 24 rfl Try.underlying103 info107 rfl (by decide) (.slice A i cp) i _ rfl (own_below HO.out ((Below.refl _ _).alloc (Nat.le_refl _) _)) ⟨wr.heap.size, 0, none⟩ 1 1 (thV (2, 0, (i : Int))) rfl rfl (new_cells wr #[.int .u8 2, .int .i64 0, .int .i64 (i : Nat)] _ _) (thV_one _) (by have := HB.out.size; simp; omega) (HB.out.alloc HB.out.size _) (by omega) (by omega) ?_; intro v' w4 hown hbel _ _; obtain ⟨A1, cp1, rfl, _, _⟩ := own_shape hown; have HO1 := Lib.hid hown; have HB1 := Lib.hid hbel; clear hown hbel)
      refine ⟨⟨i + 1, A1, cp1, by omega, by go_num, rfl, ?_, ?_, HB1.out⟩, by simp [intOf]; omega⟩
      · show _ = _
        rw [HT.out, List.length_append, ← HM.out]; rfl
      · show World.ownsRow _ _ _ _ _ _ _
        rw [HT.out, encT_append]; exact HO1.out
    · obtain rfl : gn = i := by omega
      have hnn : ¬ (gn : Int) < (gn : Int) := by omega
      have HOG : Hid (wr.ownsRow W.heap.size 107 3 (.slice A gn cp) gn (encT (cellsT M 0))) := Lib.hid (by rw [HG0.out]; exact HO.out)
      have HMG : Hid (gn = (cellsT M 0).length) := Lib.hid (by rw [HG0.out]; exact HM.out)
      go_wp2_with fail
      clear c0 f0 z0
      go_loopw [3, 5] (fun v3 v5 wr => ∃ (i m : Nat) (A : Option Addr) (cp : Nat), i ≤ n ∧ m ≤ gn + 2001 * i ∧ v5 = .int .i64 (i : Nat) ∧ v3 = .slice A m cp ∧ Hid (m = (cellsT M i).length) ∧ Hid (wr.ownsRow W.heap.size 107 3 (.slice A m cp) m (encT (cellsT M i))) ∧ Hid (Below W.heap.size W wr)) (fun _ v5 _ => n - (intOf v5).toNat)
      case atStart => exact ⟨0, gn, A, cp, Nat.zero_le _, by omega, rfl, rfl, HMG.out, HOG.out, HB.out⟩
      case round =>
        clear HM HO HB HMG HOG hi hlt
        obtain ⟨i, m, A, cp, hi, hm, rfl, rfl, HM, HO, HB⟩ := hrel
        obtain ⟨c0, f0, z0⟩ := blk3 (blk_below H0.out HB.out)
        by_cases hlt : i < n
        · have hltI : (i : Int) < (n : Int) := by omega
          have hi0 : (0 : Int) ≤ (i : Int) := by omega
          obtain ⟨b, off, f, lv, sv, bv, rfl, hff, ⟨k0, k1, k2, k3, k4⟩, hlv, hsv, hbv⟩ := HF0.out.at hlt
          obtain ⟨la, lc, rfl, hl1⟩ := hlv.shape
          obtain ⟨ia, ic, rfl, hs1⟩ := hsv.shape
          have HT := Lib.hid (cellsT_succ hff)
          generalize f.locals.length = ln at *
          generalize f.sites.length = inn at *
          have K2 := Lib.hid k2
          have K3 := Lib.hid k3
          clear hlv hsv hbv hff k0 k1 k2 k3 k4
          have y2 := lift HB.out K2.out
          have y3 := lift HB.out K3.out
          go_wp2_with (at_builtin; refine append_list2 (B := W.heap.size) (w0 := W) rfl _ _ 103 107 (.agg #[.int .u8 0, .int .i64 0, .int .i64 0]) 3 24 rfl Try.underlying103 info107 rfl (by decide) (.slice A m cp) m _ rfl (own_below HO.out ((Below.refl _ _).alloc (Nat.le_refl _) _)) ⟨wr.heap.size, 0, none⟩ 1 1 (thV (3, (i : Int), 0)) rfl rfl (new_cells wr #[.int .u8 3, .int .i64 (i : Nat), .int .i64 0] _ _) (thV_one _) (by have := HB.out.size; simp; omega) (HB.out.alloc HB.out.size _) (by omega) (by omega) ?_; intro v' w4 hown hbel _ _; obtain ⟨A1, cp1, rfl, _, _⟩ := own_shape hown; have HO1 := Lib.hid hown; have HB1 := Lib.hid hbel; clear hown hbel)
          have HM1 : Hid (m + 1 = (cellsT M i ++ [(3, (i : Int), 0)]).length) := Lib.hid (by rw [List.length_append, ← HM.out]; rfl)
          have HO2 : Hid (w4.ownsRow W.heap.size 107 3 (.slice A1 (m + 1) cp1) (m + 1) (encT (cellsT M i ++ [(3, (i : Int), 0)]))) := Lib.hid (by rw [encT_append]; exact HO1.out)
          clear HM HO HB HO1 c0 f0 z0 y2 y3
          have HM := HM1
          have HO := HO2
          have HB := HB1
          clear HM1 HO2 HB1
          go_loopw [3, 6] (fun v3 v6 wr => ∃ (j m : Nat) (A : Option Addr) (cp : Nat), j ≤ ln ∧ m ≤ gn + 2001 * i + 1 + j ∧ v6 = .int .i64 (j : Nat) ∧ v3 = .slice A m cp ∧ Hid (m = (cellsT M i ++ [(3, (i : Int), 0)] ++ locT i j).length) ∧ Hid (wr.ownsRow W.heap.size 107 3 (.slice A m cp) m (encT (cellsT M i ++ [(3, (i : Int), 0)] ++ locT i j))) ∧ Hid (Below W.heap.size W wr)) (fun _ v6 _ => ln - (intOf v6).toNat)
          case atStart => exact ⟨0, m + 1, A1, cp1, Nat.zero_le _, by omega, rfl, rfl, (by show _ = _; rw [show locT i 0 = [] from rfl, List.append_nil]; exact HM.out), (by show World.ownsRow _ _ _ _ _ _ _; rw [show locT i 0 = [] from rfl, List.append_nil]; exact HO.out), HB.out⟩
          case round =>
            clear HM HO HB
            obtain ⟨j, m, A, cp, hj, hm, rfl, rfl, HM, HO, HB⟩ := hrel
            obtain ⟨c0, f0, z0⟩ := blk3 (blk_below H0.out HB.out)
            have y2 := lift HB.out K2.out
            have y3 := lift HB.out K3.out
            by_cases hltj : j < ln
            · have hltJ : (j : Int) < (ln : Int) := by omega
              have HTJ : Hid (locT i (j + 1) = locT i j ++ [(1, (i : Int), (j : Int))]) := Lib.hid (fm_succ _ _)
              go_wp2_with (at_builtin; refine append_list2 (B := W.heap.size) (w0 := W) rfl _ _ 103 107 (.agg #[.int .u8 0, .int .i64 0, .int .i64 0]) 3 24 rfl Try.underlying103 info107 rfl (by decide) (.slice A m cp) m _ rfl (own_below HO.out ((Below.refl _ _).alloc (Nat.le_refl _) _)) ⟨wr.heap.size, 0, none⟩ 1 1 (thV (1, (i : Int), (j : Int))) rfl rfl (new_cells wr #[.int .u8 1, .int .i64 (i : Nat), .int .i64 (j : Nat)] _ _) (thV_one _) (by have := HB.out.size; simp; omega) (HB.out.alloc HB.out.size _) (by omega) (by omega) ?_; intro v' w4 hown hbel _ _; obtain ⟨A1, cp1, rfl, _, _⟩ := own_shape hown; have HO1 := Lib.hid hown; have HB1 := Lib.hid hbel; clear hown hbel)
              refine ⟨⟨j + 1, m + 1, A1, cp1, by omega, by omega, by go_num, rfl, ?_, ?_, HB1.out⟩, by simp [intOf]; omega⟩
              · show _ = _
                rw [HTJ.out, ← List.append_assoc, List.length_append, ← HM.out]; rfl
              · show World.ownsRow _ _ _ _ _ _ _
                rw [HTJ.out, ← List.append_assoc, encT_append]; exact HO1.out
            · obtain rfl : ln = j := by omega
              have hnn : ¬ (ln : Int) < (ln : Int) := by omega
              go_wp2_with fail
              clear c0 f0 z0 y2 y3
              go_loopw [3, 7] (fun v3 v7 wr => ∃ (j m : Nat) (A : Option Addr) (cp : Nat), j ≤ inn ∧ m ≤ gn + 2001 * i + 1 + ln + j ∧ v7 = .int .i64 (j : Nat) ∧ v3 = .slice A m cp ∧ Hid (m = (cellsT M i ++ [(3, (i : Int), 0)] ++ locT i ln ++ siteT i j).length) ∧ Hid (wr.ownsRow W.heap.size 107 3 (.slice A m cp) m (encT (cellsT M i ++ [(3, (i : Int), 0)] ++ locT i ln ++ siteT i j))) ∧ Hid (Below W.heap.size W wr)) (fun _ v7 _ => inn - (intOf v7).toNat)
              case atStart => exact ⟨0, _, A, cp, Nat.zero_le _, by omega, rfl, rfl, (by show _ = _; rw [show siteT i 0 = [] from rfl, List.append_nil]; exact HM.out), (by show World.ownsRow _ _ _ _ _ _ _; rw [show siteT i 0 = [] from rfl, List.append_nil]; exact HO.out), HB.out⟩
              case round =>
                clear HM HO HB
                obtain ⟨j, m, A, cp, hj, hm, rfl, rfl, HM, HO, HB⟩ := hrel
                obtain ⟨c0, f0, z0⟩ := blk3 (blk_below H0.out HB.out)
                have y2 := lift HB.out K2.out
                have y3 := lift HB.out K3.out
                by_cases hltj : j < inn
                · have hltJ : (j : Int) < (inn : Int) := by omega
                  have HTJ : Hid (siteT i (j + 1) = siteT i j ++ [(4, (i : Int), (j : Int))]) := Lib.hid (fm_succ _ _)
                  go_wp2_with (at_builtin; refine append_list2 (B := W.heap.size) (w0 := W) rfl _ _ 103 107 (.agg #[.int .u8 0, .int .i64 0, .int .i64 0]) 3 24 rfl Try.underlying103 info107 rfl (by decide) (.slice A m cp) m _ rfl (own_below HO.out ((Below.refl _ _).alloc (Nat.le_refl _) _)) ⟨wr.heap.size, 0, none⟩ 1 1 (thV (4, (i : Int), (j : Int))) rfl rfl (new_cells wr #[.int .u8 4, .int .i64 (i : Nat), .int .i64 (j : Nat)] _ _) (thV_one _) (by have := HB.out.size; simp; omega) (HB.out.alloc HB.out.size _) (by omega) (by omega) ?_; intro v' w4 hown hbel _ _; obtain ⟨A1, cp1, rfl, _, _⟩ := own_shape hown; have HO1 := Lib.hid hown; have HB1 := Lib.hid hbel; clear hown hbel)
                  refine ⟨⟨j + 1, m + 1, A1, cp1, by omega, by omega, by go_num, rfl, ?_, ?_, HB1.out⟩, by simp [intOf]; omega⟩
                  · show _ = _
                    rw [HTJ.out, ← List.append_assoc, List.length_append, ← HM.out]; rfl
                  · show World.ownsRow _ _ _ _ _ _ _
                    rw [HTJ.out, ← List.append_assoc, encT_append]; exact HO1.out
                · obtain rfl : inn = j := by omega
                  have hnn : ¬ (inn : Int) < (inn : Int) := by omega
                  go_wp2_with fail
                  refine ⟨⟨i + 1, m, A, cp, by omega, by omega, by go_num, rfl, ?_, ?_, HB.out⟩, by simp [intOf]; omega⟩
                  · show _ = _
                    rw [HT.out]; exact HM.out
                  · show World.ownsRow _ _ _ _ _ _ _
                    rw [HT.out]; exact HO.out
        · obtain rfl : n = i := by omega
          have hnn : ¬ (n : Int) < (n : Int) := by omega
          go_wp2_with fail
          go_ret
          exact ⟨A, m, cp, rfl, HM.out, by omega, own_base HO.out HBW.out.size, HBW.out.trans (HB.out.mono HBW.out.size)⟩
end Go.Proofs.Ytjgijbaboekghaa

set_option linter.unusedSimpArgs false
set_option linter.unusedVariables false
namespace Go.Proofs.Ytjgijbaboekghaa
open Go.RowKit
/-- The first place of a thing; -1: it is not there. -/
def placeT (l : List Th) (x : Th) : Int := match l.findIdx? (fun y => y == x) with | some i => (i : Int) | none => -1
theorem placeT_some {xs : List Th} {o : Th} {i : Nat} (h : xs[i]? = some o) (hn : ∀ j x, j < i → xs[j]? = some x → x ≠ o) : placeT xs o = (i : Int) := by
  have hlt := (List.getElem?_eq_some_iff.1 h).1
  have : xs.findIdx? (fun x => x == o) = some i := by
    rw [List.findIdx?_eq_some_iff_getElem]
    refine ⟨hlt, ?_, fun j hj => ?_⟩
    · have := (List.getElem?_eq_some_iff.1 h).2
      simp [this]
    · have := hn j _ hj (List.getElem?_eq_getElem (by omega))
      simpa using this
  unfold placeT
  rw [this]
theorem placeT_none {xs : List Th} {o : Th} (hn : ∀ (j : Nat) x, xs[j]? = some x → x ≠ o) : placeT xs o = -1 := by
  have : xs.findIdx? (fun x => x == o) = none := by
    rw [List.findIdx?_eq_none_iff]
    intro x hx
    obtain ⟨j, hj⟩ := List.mem_iff_getElem?.1 hx
    simpa using hn j x hj
  unfold placeT
  rw [this]
def ofT (fn k id : Int) : Th := if k = 2 then (2, 0, id) else if k = 3 then (3, id, 0) else (k, fn, id)
set_option maxRecDepth 20000 in
theorem of_calls (w : World) (fn k id : Int) : Calls Try.prog 57 #[.int .i64 fn, .agg #[.int .u8 k, .int .i64 id]] w fun e w' => e = .returned (.agg (thV (ofT fn k id)).toArray) ∧ Below w.heap.size w w' := by
  by_cases hk2 : k = 2
  · subst hk2
    rw [show ofT fn 2 id = (2, 0, id) from if_pos rfl]
    go_enter Try.func57, Try.ntmps57
    go_wp2_with fail
    refine bodyPost_ret (v := .agg #[.int .u8 2, .int .i64 0, .int .i64 id]) ?_ rfl ⟨rfl, ((Below.refl _ _).alloc (Nat.le_refl _) _).alloc (by simp) _⟩
    rw [results_cell rfl]
    go_simp
  · have hk2' : (k == 2) = false := by simpa using hk2
    by_cases hk3 : k = 3
    · subst hk3
      rw [show ofT fn 3 id = (3, id, 0) from rfl]
      go_enter Try.func57, Try.ntmps57
      go_wp2_with fail
      refine bodyPost_ret (v := .agg #[.int .u8 3, .int .i64 id, .int .i64 0]) ?_ rfl ⟨rfl, ((Below.refl _ _).alloc (Nat.le_refl _) _).alloc (by simp) _⟩
      rw [results_cell rfl]
      go_simp
    · have hk3' : (k == 3) = false := by simpa using hk3
      rw [show ofT fn k id = (k, fn, id) from by unfold ofT; rw [if_neg hk2, if_neg hk3]]
      clear hk2 hk3
      go_enter Try.func57, Try.ntmps57
      go_wp2_with fail
      refine bodyPost_ret (v := .agg #[.int .u8 k, .int .i64 fn, .int .i64 id]) ?_ rfl ⟨rfl, ((Below.refl _ _).alloc (Nat.le_refl _) _).alloc (by simp) _⟩
      rw [results_cell rfl]
      go_simp
set_option maxRecDepth 20000 in
set_option maxHeartbeats 4000000 in
theorem find_calls (w : World) (B : Nat) (A : Option Addr) (n c : Nat) (l : List Th) (x : Th) (hO : w.ownsRow B 107 3 (.slice A n c) n (encT l)) (hl : n = l.length) (hn : n ≤ 4000000) : Calls Try.prog 56 #[.slice A n c, .agg (thV x).toArray] w fun e w' => e = .returned (.int .i64 (placeT l x)) ∧ Below w.heap.size w w' := by
  obtain ⟨x1, x2, x3⟩ := x
  show Calls Try.prog 56 #[.slice A n c, .agg #[.int .u8 x1, .int .i64 x2, .int .i64 x3]] w _
  have m0 := heap_alloc_new w (.cells #[.int .u8 x1, .int .i64 x2, .int .i64 x3] 107)
  have bw : Below w.heap.size w (w.alloc (.cells #[.int .u8 x1, .int .i64 x2, .int .i64 x3] 107)) := (Below.refl _ _).alloc (Nat.le_refl _) _
  obtain ⟨r, hr⟩ : ∃ r, r = placeT l (x1, x2, x3) := ⟨_, rfl⟩
  have HR := Lib.hid hr
  rw [← hr]
  clear hr
  go_enter Try.func56, Try.ntmps56
  go_upto_region 1 with (fail)
  obtain ⟨W, hW⟩ : ∃ W, W = w.alloc (.cells #[.int .u8 x1, .int .i64 x2, .int .i64 x3] 107) := ⟨_, rfl⟩
  rw [← hW] at m0 bw ⊢
  have H0 := Lib.hid m0
  have HBW := Lib.hid bw
  have HO := Lib.hid (own_below hO bw)
  have HL := Lib.hid hl
  clear hW m0 bw hO hl
  obtain ⟨c0, f0, z0⟩ := blk3 H0.out
  go_wp2_with fail
  go_loopw [5] (fun v5 wr => ∃ i : Nat, i ≤ n ∧ v5 = .int .i64 (i : Nat) ∧ Hid (∀ j y, j < i → l[j]? = some y → y ≠ (x1, x2, x3)) ∧ ∃ m, wr = W.drewN m) (fun v5 _ => n - (intOf v5).toNat)
  case atStart => exact ⟨0, Nat.zero_le _, rfl, Lib.hid (fun j y hj => absurd hj (Nat.not_lt_zero _)), 0, rfl⟩
  case round =>
    obtain ⟨i, hi, rfl, HI, m, rfl⟩ := hrel
    by_cases hlt : i < n
    · have hltI : (i : Int) < (n : Int) := by omega
      have hi0 : (0 : Int) ≤ (i : Int) := by omega
      obtain ⟨g, rfl, _, _⟩ := own_addr HO.out (by omega)
      obtain ⟨⟨y1, y2, y3⟩, hy⟩ : ∃ y, l[i]? = some y := ⟨_, List.getElem?_eq_getElem (by rw [← HL.out]; exact hlt)⟩
      obtain ⟨a1, a2, a3⟩ := thing_cells HO.out hy
      have HY := Lib.hid hy
      clear hy
      by_cases he : (y1, y2, y3) = (x1, x2, x3)
      · obtain ⟨rfl, rfl, rfl⟩ : y1 = x1 ∧ y2 = x2 ∧ y3 = x3 := by simpa using he
        have HP : Hid (r = (i : Int)) := Lib.hid (by rw [HR.out]; exact placeT_some HY.out HI.out)
        clear he
        go_upto_region 4 with (fail)
        go_quiet (fail)
        go_wp2_with fail
        go_ret
        exact ⟨by rw [HP.out]; rfl, below_drewN' HBW.out _⟩
      · have HE := Lib.hid he
        clear he
        go_upto_region 4 with (fail)
        go_quiet ((rw [edge_if HE.out]; exact ⟨rfl, rfl⟩))
        go_wp2_with fail
        refine ⟨⟨i + 1, by omega, by go_num, Lib.hid (fun j y hj hy => ?_), m + nq, rfl⟩, by simp [intOf]; omega⟩
        rcases Nat.lt_or_ge j i with h | h
        · exact HI.out j y h hy
        · obtain rfl : i = j := by omega
          rw [HY.out] at hy
          injection hy with hy
          rw [← hy]
          exact HE.out
    · obtain rfl : n = i := by omega
      have hnn : ¬ (n : Int) < (n : Int) := by omega
      have HP : Hid (r = -1) := Lib.hid (by rw [HR.out]; exact placeT_none (fun j y hy => HI.out j y (by rw [HL.out]; exact (List.getElem?_eq_some_iff.1 hy).1) hy))
      go_wp2_with fail
      go_ret
      exact ⟨by rw [HP.out]; rfl, below_drewN' HBW.out m⟩
set_option maxRecDepth 20000 in
set_option maxHeartbeats 4000000 in
/-- Two lists of edges that are one. -/
theorem same_calls (w : World) (B B' : Nat) (A A' : Option Addr) (n c c' : Nat) (l : List Ed) (hO : w.ownsRow B 68 3 (.slice A n c) n (encE l)) (hO' : w.ownsRow B' 68 3 (.slice A' n c') n (encE l)) (hl : n = l.length) (hn : n ≤ 1099511627776) : Calls Try.prog 24 #[.slice A n c, .slice A' n c'] w fun e w' => e = .returned (.bool true) ∧ ∃ m, w' = w.drewN m := by
  have HO := Lib.hid hO
  have HO' := Lib.hid hO'
  have HL := Lib.hid hl
  clear hO hO' hl
  go_enter Try.func24, Try.ntmps24
  go_wp2_with fail
  go_loopw [5] (fun v5 wr => ∃ i : Nat, i ≤ n ∧ v5 = .int .i64 (i : Nat) ∧ ∃ m, wr = w.drewN m) (fun v5 _ => n - (intOf v5).toNat)
  case atStart => exact ⟨0, Nat.zero_le _, rfl, 0, rfl⟩
  case round =>
    obtain ⟨i, hi, rfl, m, rfl⟩ := hrel
    by_cases hlt : i < n
    · have hltI : (i : Int) < (n : Int) := by omega
      have hi0 : (0 : Int) ≤ (i : Int) := by omega
      obtain ⟨g, rfl, _, _⟩ := own_addr HO.out (by omega)
      obtain ⟨g', rfl, _, _⟩ := own_addr HO'.out (by omega)
      obtain ⟨⟨y1, y2, y3⟩, hy⟩ : ∃ y, l[i]? = some y := ⟨_, List.getElem?_eq_getElem (by rw [← HL.out]; exact hlt)⟩
      obtain ⟨a1, a2, a3⟩ := edge_cells HO.out hy
      obtain ⟨b1, b2, b3⟩ := edge_cells HO'.out hy
      clear hy
      go_upto_region 6 with (fail)
      go_quiet (fail)
      go_wp2_with fail
      refine ⟨⟨i + 1, by omega, by go_num, m + nq, rfl⟩, by simp [intOf]; omega⟩
    · obtain rfl : n = i := by omega
      have hnn : ¬ (n : Int) < (n : Int) := by omega
      go_wp2_with fail
      go_ret
      exact ⟨rfl, m, rfl⟩
end Go.Proofs.Ytjgijbaboekghaa

set_option linter.unusedSimpArgs false
set_option linter.unusedVariables false
namespace Go.Proofs.Ytjgijbaboekghaa
open Go.RowKit
/-- Is an object that function's? -/
def hitT (cs : List Th) (tg : Nat) (o : Int) : Bool := decide (0 ≤ o) && decide (cs[o.toNat]? = some (3, (tg : Int), 0))
def callB (M : Mod) (ps : List (List Int)) (f : Nat) (bk bi : Int) (tg : Nat) : Bool :=
  if bk = 3 then decide (bi = (tg : Int)) else
  if 0 ≤ placeT (varsT M M.funcs.length) (ofT f bk bi) ∧ placeT (varsT M M.funcs.length) (ofT f bk bi) < (ps.length : Int) then (ps.getD (placeT (varsT M M.funcs.length) (ofT f bk bi)).toNat []).any (hitT (cellsT M M.funcs.length) tg) else false
def toE (M : Mod) (ps : List (List Int)) (f j : Nat) (bk bi : Int) (tg : Nat) : List Ed := if callB M ps f bk bi tg = true then [((f : Int), (j : Int), (tg : Int))] else []
def tosE (M : Mod) (ps : List (List Int)) (f j : Nat) (bk bi : Int) (k : Nat) : List Ed := (List.range k).flatMap (toE M ps f j bk bi)
def refCall (M : Mod) (ps : List (List Int)) (f : Nat) (fn : Fn) (j : Nat) : List Ed := match (sitesOf (flatT 1000 0 fn.body))[j]? with
  | some s => tosE M ps f j (siteB s).1 (siteB s).2 M.funcs.length
  | none => []
def refCalls (M : Mod) (ps : List (List Int)) (f : Nat) (fn : Fn) (k : Nat) : List Ed := (List.range k).flatMap (refCall M ps f fn)
def refFn (M : Mod) (ps : List (List Int)) (f : Nat) : List Ed := match M.funcs[f]? with
  | some fn => refCalls M ps f fn (sitesOf (flatT 1000 0 fn.body)).length
  | none => []
def refE (M : Mod) (ps : List (List Int)) (k : Nat) : List Ed := (List.range k).flatMap (refFn M ps)
theorem refE_succ {M : Mod} {ps : List (List Int)} {i : Nat} {f : Fn} (h : M.funcs[i]? = some f) : refE M ps (i + 1) = refE M ps i ++ refCalls M ps i f (sitesOf (flatT 1000 0 f.body)).length := by
  unfold refE
  rw [fm_succ]
  congr 1
  unfold refFn
  rw [h]
theorem refCalls_succ {M : Mod} {ps : List (List Int)} {i j : Nat} {f : Fn} {s : St} (h : (sitesOf (flatT 1000 0 f.body))[j]? = some s) : refCalls M ps i f (j + 1) = refCalls M ps i f j ++ tosE M ps i j (siteB s).1 (siteB s).2 M.funcs.length := by
  unfold refCalls
  rw [fm_succ]
  congr 1
  unfold refCall
  rw [h]
theorem toE_len (M : Mod) (ps : List (List Int)) (f j : Nat) (bk bi : Int) (tg : Nat) : (toE M ps f j bk bi tg).length ≤ 1 := by unfold toE; split <;> simp
theorem tosE_len (M : Mod) (ps : List (List Int)) (f j : Nat) (bk bi : Int) (k : Nat) : (tosE M ps f j bk bi k).length ≤ k := by
  induction k with
  | zero => exact Nat.le_refl _
  | succ k ih =>
    have e : tosE M ps f j bk bi (k + 1) = tosE M ps f j bk bi k ++ toE M ps f j bk bi k := fm_succ _ _
    have := toE_len M ps f j bk bi k
    rw [e, List.length_append]
    omega
theorem refCalls_len (M : Mod) (ps : List (List Int)) (f : Nat) (fn : Fn) (k : Nat) : (refCalls M ps f fn k).length ≤ k * M.funcs.length := by
  induction k with
  | zero => exact Nat.zero_le _
  | succ k ih =>
    have e : refCalls M ps f fn (k + 1) = refCalls M ps f fn k ++ refCall M ps f fn k := fm_succ _ _
    have : (refCall M ps f fn k).length ≤ M.funcs.length := by
      unfold refCall
      split
      · exact tosE_len _ _ _ _ _ _ _
      · exact Nat.zero_le _
    rw [e, List.length_append, Nat.add_mul]
    omega
theorem refE_len {M : Mod} (ps : List (List Int)) (hB : ∀ f ∈ M.funcs, (flatT 1000 0 f.body).length ≤ 1000) (hn : M.funcs.length ≤ 1000) (k : Nat) : (refE M ps k).length ≤ k * 1000000 := by
  induction k with
  | zero => exact Nat.zero_le _
  | succ k ih =>
    have e : refE M ps (k + 1) = refE M ps k ++ refFn M ps k := fm_succ _ _
    have : (refFn M ps k).length ≤ 1000000 := by
      unfold refFn
      split
      · rename_i f hf
        have h1 := refCalls_len M ps k f (sitesOf (flatT 1000 0 f.body)).length
        have h2 := sitesOf_len (flatT 1000 0 f.body) (flatT 1000 0 f.body).length
        rw [List.take_length] at h2
        have h3 := hB f (List.mem_of_getElem? hf)
        have h4 : (sitesOf (flatT 1000 0 f.body)).length * M.funcs.length ≤ 1000 * 1000 := Nat.mul_le_mul (by omega) hn
        omega
      · exact Nat.zero_le _
    rw [e, List.length_append, Nat.add_mul]
    omega
theorem points_at {w : World} {a : Option Addr} {n c : Nat} {ps : List (List Int)} (h : ReadsP w (.slice a n c) ps) : 0 < n → ∃ b off, a = some ⟨b, off, none⟩ ∧ ∀ (i : Nat) xs, ps[i]? = some xs → ∃ u, w.cell? ⟨b, off + i, none⟩ = some u ∧ ReadsJ w u xs := by
  obtain ⟨a', n', c', e, h1, h2, h3⟩ := h
  injection e with e1 e2 e3
  subst e1 e2 e3
  exact h3
theorem any_take {α : Type} {p : α → Bool} {xs : List α} {k : Nat} {x : α} (h : xs[k]? = some x) : (xs.take (k + 1)).any p = ((xs.take k).any p || p x) := by
  obtain ⟨hi, e⟩ := List.getElem?_eq_some_iff.1 h
  rw [List.take_succ_eq_append_getElem hi, e, List.any_append]
  simp
set_option maxRecDepth 100000 in
set_option maxHeartbeats 8000000 in
theorem refEdges_calls (w : World) (mv pv : Value) (M : Mod) (ps : List (List Int)) (hm : ReadsM w mv M) (hp : ReadsP w pv ps) (hN : ∀ f ∈ M.funcs, (flatT 1000 0 f.body).length ≤ 1000) : Calls Try.prog 26 #[mv, pv] w (Edged w (refE M ps M.funcs.length)) := by
  obtain ⟨sv, gv, fv, ev, rfl, h1, h2, h3, h4⟩ := id hm
  obtain ⟨sa, sc, rfl, _⟩ := h1.shape
  obtain ⟨ga, gc, rfl, hg1⟩ := h2.shape
  obtain ⟨fa, fc, rfl, hfn⟩ := h3.shape
  obtain ⟨ea, ec, rfl, _⟩ := h4.shape
  obtain ⟨pa, pn, pc, rfl, hpn, hpl, hpp⟩ := id hp
  have HM := Lib.hid hm
  have HP := Lib.hid hp
  have HNN := Lib.hid hN
  have HRL := Lib.hid (refE_len ps hN hfn)
  have HF := Lib.hid h3
  have HPN := Lib.hid hpn
  clear hm hp hN h1 h2 h3 h4 hpn hpp
  obtain ⟨sn, hsn⟩ : ∃ n, n = M.strings.length := ⟨_, rfl⟩
  obtain ⟨gn, hgn⟩ : ∃ n, n = M.globals.length := ⟨_, rfl⟩
  obtain ⟨n, hnn⟩ : ∃ n, n = M.funcs.length := ⟨_, rfl⟩
  obtain ⟨en, hen⟩ : ∃ n, n = M.entries.length := ⟨_, rfl⟩
  rw [← hnn] at hfn HF HM ⊢
  rw [← hgn] at hg1 HM ⊢
  rw [← hsn] at HM ⊢
  rw [← hen] at HM ⊢
  have HNL := Lib.hid hnn.symm
  clear hnn hgn hsn hen
  have m0 := heap_alloc_new w (.cells #[.slice sa sn sc, .slice ga gn gc, .slice fa n fc, .slice ea en ec] 32)
  have bw : Below w.heap.size w (w.alloc (.cells #[.slice sa sn sc, .slice ga gn gc, .slice fa n fc, .slice ea en ec] 32)) := (Below.refl _ _).alloc (Nat.le_refl _) _
  go_enter Try.func26, Try.ntmps26
  go_upto_region 1 with (fail)
  obtain ⟨W, hW⟩ : ∃ W, W = w.alloc (.cells #[.slice sa sn sc, .slice ga gn gc, .slice fa n fc, .slice ea en ec] 32) := ⟨_, rfl⟩
  rw [← hW] at m0 bw ⊢
  have HBW := Lib.hid bw
  have HMW := Lib.hid (HM.out.sub (sub_below bw))
  have H0 := Lib.hid m0
  clear hW m0 bw HM
  obtain ⟨c0, f0, z0⟩ := blk3 H0.out
  go_wp2_with fail
  refine (vars_calls W _ M HMW.out).mono ?_
  rintro e w1 ⟨VA, VN, VC, rfl, hvn, hvN, hvo, hb1⟩
  have HB1 := Lib.hid (HBW.out.trans (hb1.mono HBW.out.size))
  have HVO := Lib.hid hvo
  have HVN := Lib.hid hvn
  have HMW1 := Lib.hid (HMW.out.sub (sub_below hb1))
  have H01 := Lib.hid (blk_below H0.out hb1)
  clear c0 f0 z0 hvo hvn hb1
  obtain ⟨c0, f0, z0⟩ := blk3 H01.out
  go_wp2_with fail
  refine (cells_calls w1 _ M HMW1.out).mono ?_
  rintro e W0 ⟨CA, CN, CC, rfl, hcn, hcN, hco, hb2⟩
  have HB0 := Lib.hid (HB1.out.trans (hb2.mono HB1.out.size))
  have HV0 := Lib.hid (own_below HVO.out hb2)
  have HC0 := Lib.hid hco
  have HCN := Lib.hid hcn
  have H00 := Lib.hid (blk_below H01.out hb2)
  have HF0 := Lib.hid (hrf4 HMW1.out (sub_below hb2))
  have HP0 := Lib.hid (HP.out.sub (sub_below HB0.out))
  have HPP : Hid (Hid (0 < pn → ∃ b off, pa = some ⟨b, off, none⟩ ∧ ∀ (i : Nat) xs, ps[i]? = some xs → ∃ u, W0.cell? ⟨b, off + i, none⟩ = some u ∧ ReadsJ W0 u xs)) := Lib.hid (Lib.hid (points_at HP0.out))
  clear c0 f0 z0 hco hcn hb2 HVO H01 H0 HMW HMW1 HF HB1 HBW HP
  obtain ⟨c0, f0, z0⟩ := blk3 H00.out
  go_wp2_with fail
  clear c0 f0 z0
  go_loopw [7, 8] (fun v7 v8 wr => ∃ (i m : Nat) (A : Option Addr) (cp : Nat), i ≤ n ∧ v8 = .int .i64 (i : Nat) ∧ v7 = .slice A m cp ∧ Hid (m = (refE M ps i).length) ∧ Hid (Owns wr W0.heap.size [⟨68, 3, .slice A m cp, m, encE (refE M ps i)⟩]) ∧ Hid (Below W0.heap.size W0 wr)) (fun _ iv _ => n - (intOf iv).toNat)
  case atStart => exact ⟨0, 0, none, 0, Nat.zero_le _, rfl, rfl, rfl, (Owns.nil _ _).none_ 68 3, Below.refl _ _⟩
  case round =>
    obtain ⟨i, m, A, cp, hi, rfl, rfl, HMM, HO, HB⟩ := hrel
    obtain ⟨c0, f0, z0⟩ := blk3 (blk_below H00.out HB.out)
    by_cases hlt : i < n
    · have hltI : (i : Int) < (n : Int) := by omega
      have hi0 : (0 : Int) ≤ (i : Int) := by omega
      obtain ⟨b, off, f, lv, sv, bv, rfl, hf, ⟨k0, k1, k2, k3, k4⟩, hlv, hsv, hbv⟩ := (HF0.out.sub (sub_below HB.out)).at hlt
      obtain ⟨ba, bl, bc, rfl, _, hbb⟩ := hbv
      have HFF := Lib.hid hf
      have HBB := Lib.hid hbb
      have HFM := Lib.hid (List.mem_of_getElem? hf)
      clear hlv hsv hf hbb
      go_wp2_with fail
      refine (rflat12_calls wr f.body ba bl bc HBB.out (by have := HNN.out f HFM.out; omega)).mono ?_
      rintro e w2 ⟨v2, K, rfl, hrl⟩
      obtain ⟨ixs, ho, hI⟩ := hrl.own
      obtain ⟨iA, icp, rfl, _, _⟩ := own_shape ho
      obtain ⟨L, hL⟩ : ∃ L, L = flatT 1000 0 f.body := ⟨_, rfl⟩
      have hlen := hrl.len
      have hb5 := hrl.below
      rw [← hL] at hI hlen
      have HLL := Lib.hid hL
      have HLEN := Lib.hid hlen
      have HI := Lib.hid hI
      have hKb : K ≤ 1000 := by have := HNN.out f HFM.out; rw [← HLL.out, HLEN.out] at this; omega
      have HB2 : Hid (Below W0.heap.size W0 w2) := Lib.hid (HB.out.trans (hb5.mono HB.out.size))
      have HO2 : Hid (Owns w2 W0.heap.size [⟨49, 9, .slice iA K icp, K, ixs⟩, ⟨68, 3, .slice A m cp, m, encE (refE M ps i)⟩]) := Lib.hid (HO.out.new hb5 (r := ⟨49, 9, .slice iA K icp, K, ixs⟩) ho (by have := HB.out.size; omega))
      clear hrl ho hI hlen hb5 hL k0 k1 k2 k3 k4 c0 f0 z0 HO HB HBB
      go_wp2_with fail
      go_loopw [7, 9, 11] (fun v7 v9 v11 wr => ∃ (t j m : Nat) (A : Option Addr) (cp : Nat), t ≤ K ∧ j ≤ t ∧ v11 = .int .i64 (t : Nat) ∧ v9 = .int .i64 (j : Nat) ∧ v7 = .slice A m cp ∧ Hid (j = (sitesOf (L.take t)).length) ∧ Hid (m = (refE M ps i ++ refCalls M ps i f j).length) ∧ Hid (Owns wr W0.heap.size [⟨49, 9, .slice iA K icp, K, ixs⟩, ⟨68, 3, .slice A m cp, m, encE (refE M ps i ++ refCalls M ps i f j)⟩]) ∧ Hid (Below W0.heap.size W0 wr)) (fun _ _ v11 _ => K - (intOf v11).toNat)
      case atStart => exact ⟨0, 0, m, A, cp, Nat.zero_le _, Nat.le_refl _, rfl, rfl, rfl, rfl, (by show m = _; rw [show refCalls M ps i f 0 = [] from rfl, List.append_nil]; exact HMM.out), (by show Owns _ _ _; rw [show refCalls M ps i f 0 = [] from rfl, List.append_nil]; exact HO2.out), HB2.out⟩
      case round =>
        clear HMM HO2 HB2
        obtain ⟨t, j, m, A, cp, ht, hjt, rfl, rfl, rfl, HJ, HMM, HO, HB⟩ := hrel
        by_cases hltt : t < K
        · have hltT : (t : Int) < (K : Int) := by omega
          have ht0 : (0 : Int) ≤ (t : Int) := by omega
          obtain ⟨gI, rfl, _, _⟩ := own_addr (HO.out.at (i := 0) rfl) (by omega)
          obtain ⟨⟨d, s⟩, hs⟩ : ∃ x, L[t]? = some x := ⟨_, List.getElem?_eq_getElem (by rw [HLEN.out]; exact hltt)⟩
          obtain ⟨sk, ak, ai, bk, bi, aa2, b2, al, ac2, bl2, b2c, h7, hkk, x0, x1, x2, x3, x4, x5, x6, x7, x8⟩ := nine_cells (HO.out.at (i := 0) rfl) HI.out hs
          have HS := Lib.hid hs
          have HKK := Lib.hid hkk
          have HSB := Lib.hid (siteB_of7 h7)
          clear h7 hs hkk
          by_cases hk5 : sk = 5
          · subst hk5
            have HSN := Lib.hid (show sitesOf (L.take (t + 1)) = sitesOf (L.take t) ++ [s] by rw [sitesOf_snoc HS.out, HKK.out]; rfl)
            have HSK : Hid ((sitesOf (flatT 1000 0 f.body))[j]? = some s) := Lib.hid (by rw [← HLL.out]; exact sitesOf_at HSN.out HJ.out)
            have HCS : Hid (refCalls M ps i f (j + 1) = refCalls M ps i f j ++ tosE M ps i j bk bi n) := Lib.hid (by rw [refCalls_succ HSK.out, HSB.out, HNL.out])
            have HSJ : Hid (j + 1 = (sitesOf (L.take (t + 1))).length) := Lib.hid (by rw [HSN.out, List.length_append, ← HJ.out]; rfl)
            have hrm : (refE M ps i ++ refCalls M ps i f j).length ≤ 2000000000 := by
              have h1 := HRL.out i
              have h2 := refCalls_len M ps i f j
              rw [HNL.out] at h2
              have h3 : j * n ≤ 1000 * 1000 := Nat.mul_le_mul (by omega) hfn
              rw [List.length_append]
              omega
            rw [← HMM.out] at hrm
            go_upto_region 14 with (fail)
            have hva : Below wr.heap.size wr (wr.alloc (.cells #[.int .u8 5, .int .u8 ak, .int .i64 ai, .int .u8 bk, .int .i64 bi, .slice aa2 al ac2, .slice b2 bl2 b2c] 46)) := (Below.refl _ _).alloc (Nat.le_refl _) _
            have hnew : (wr.alloc (.cells #[.int .u8 5, .int .u8 ak, .int .i64 ai, .int .u8 bk, .int .i64 bi, .slice aa2 al ac2, .slice b2 bl2 b2c] 46)).ownsRow wr.heap.size 46 7 (.slice (some ⟨wr.heap.size, 0, none⟩) 1 1) 1 [.int .u8 5, .int .u8 ak, .int .i64 ai, .int .u8 bk, .int .i64 bi, .slice aa2 al ac2, .slice b2 bl2 b2c] := ⟨rfl, .inr ⟨_, 1, _, rfl, Nat.le_refl _, heap_alloc_new wr _, Nat.le_refl _, by decide, rfl, rfl⟩⟩
            have HOV : Hid (Owns (wr.alloc (.cells #[.int .u8 5, .int .u8 ak, .int .i64 ai, .int .u8 bk, .int .i64 bi, .slice aa2 al ac2, .slice b2 bl2 b2c] 46)) W0.heap.size [⟨46, 7, .slice (some ⟨wr.heap.size, 0, none⟩) 1 1, 1, [.int .u8 5, .int .u8 ak, .int .i64 ai, .int .u8 bk, .int .i64 bi, .slice aa2 al ac2, .slice b2 bl2 b2c]⟩, ⟨49, 9, .slice (some ⟨gI, 0, none⟩) K icp, K, ixs⟩, ⟨68, 3, .slice A m cp, m, encE (refE M ps i ++ refCalls M ps i f j)⟩]) := Lib.hid (HO.out.new hva (r := ⟨46, 7, .slice (some ⟨wr.heap.size, 0, none⟩) 1 1, 1, [.int .u8 5, .int .u8 ak, .int .i64 ai, .int .u8 bk, .int .i64 bi, .slice aa2 al ac2, .slice b2 bl2 b2c]⟩) hnew (by have := HB.out.size; omega))
            have HBV : Hid (Below W0.heap.size W0 (wr.alloc (.cells #[.int .u8 5, .int .u8 ak, .int .i64 ai, .int .u8 bk, .int .i64 bi, .slice aa2 al ac2, .slice b2 bl2 b2c] 46))) := Lib.hid (HB.out.alloc HB.out.size _)
            obtain ⟨wb, hwb⟩ : ∃ b, b = wr.heap.size := ⟨_, rfl⟩
            obtain ⟨V, hV⟩ : ∃ V, V = wr.alloc (.cells #[.int .u8 5, .int .u8 ak, .int .i64 ai, .int .u8 bk, .int .i64 bi, .slice aa2 al ac2, .slice b2 bl2 b2c] 46) := ⟨_, rfl⟩
            rw [← hV] at HOV HBV ⊢
            rw [← hwb] at HOV ⊢
            clear hV hwb hva hnew x0 x1 x2 x3 x4 x5 x6 x7 x8 HO HB
            go_wp2_with fail
            go_loopw [7, 13] (fun v7 v13 wr => ∃ (tg m : Nat) (A : Option Addr) (cp : Nat), tg ≤ n ∧ m ≤ 2000000000 + tg ∧ v13 = .int .i64 (tg : Nat) ∧ v7 = .slice A m cp ∧ Hid (m = (refE M ps i ++ refCalls M ps i f j ++ tosE M ps i j bk bi tg).length) ∧ Hid (Owns wr W0.heap.size [⟨46, 7, .slice (some ⟨wb, 0, none⟩) 1 1, 1, [.int .u8 5, .int .u8 ak, .int .i64 ai, .int .u8 bk, .int .i64 bi, .slice aa2 al ac2, .slice b2 bl2 b2c]⟩, ⟨49, 9, .slice (some ⟨gI, 0, none⟩) K icp, K, ixs⟩, ⟨68, 3, .slice A m cp, m, encE (refE M ps i ++ refCalls M ps i f j ++ tosE M ps i j bk bi tg)⟩]) ∧ Hid (Below W0.heap.size W0 wr)) (fun _ iv _ => n - (intOf iv).toNat)
            case atStart => exact ⟨0, m, A, cp, Nat.zero_le _, by omega, rfl, rfl, (by show m = _; rw [show tosE M ps i j bk bi 0 = [] from rfl, List.append_nil]; exact HMM.out), (by show Owns _ _ _; rw [show tosE M ps i j bk bi 0 = [] from rfl, List.append_nil]; exact HOV.out), HBV.out⟩
            case round =>
              clear HMM HOV HBV hrm
              obtain ⟨tg, m, A, cp, htg, hrm, rfl, rfl, HMM, HO, HB⟩ := hrel
              obtain ⟨c0, f0, z0⟩ := blk3 (blk_below H00.out HB.out)
              have x3 := (row_cell (HO.out.at (i := 0) rfl) (k := 3) (v := .int .u8 bk) rfl).1
              have x4 := (row_cell (HO.out.at (i := 0) rfl) (k := 4) (v := .int .i64 bi) rfl).1
              by_cases hltg : tg < n
              · have hltG : (tg : Int) < (n : Int) := by omega
                by_cases hb3 : bk = 3
                · subst hb3
                  by_cases hbt : bi = (tg : Int)
                  · have hbt' : (bi == (tg : Int)) = true := by rw [beq_iff_eq]; exact hbt
                    have HC : Hid (callB M ps i 3 bi tg = true) := Lib.hid (by unfold callB; rw [if_pos rfl, decide_eq_true_iff]; exact hbt)
                    clear hbt
                    go_wp2_with fail
                    refine (of_calls wr (i : Int) 3 bi).mono ?_
                    rintro e w3 ⟨rfl, hb3⟩
                    have HB3 := Lib.hid (HB.out.trans (hb3.mono HB.out.size))
                    have HO3 := Lib.hid (HO.out.below hb3)
                    obtain ⟨q3, g3, z3⟩ := blk3 (blk_below H00.out HB3.out)
                    have y3 := (row_cell (HO3.out.at (i := 0) rfl) (k := 3) (v := .int .u8 3) rfl).1
                    have y4 := (row_cell (HO3.out.at (i := 0) rfl) (k := 4) (v := .int .i64 bi) rfl).1
                    clear hb3 c0 f0 z0 x3 x4 HO HB
                    go_wp2_with fail
                    refine (find_calls w3 _ VA VN VC (varsT M M.funcs.length) (ofT i 3 bi) (own_below HV0.out HB3.out) HVN.out hvN).mono ?_
                    rintro e w4 ⟨rfl, hb4⟩
                    have HB4 := Lib.hid (HB3.out.trans (hb4.mono HB3.out.size))
                    have HO4 := Lib.hid (HO3.out.below hb4)
                    have y3' := (row_cell (HO4.out.at (i := 0) rfl) (k := 3) (v := .int .u8 3) rfl).1
                    have y4' := (row_cell (HO4.out.at (i := 0) rfl) (k := 4) (v := .int .i64 bi) rfl).1
                    obtain ⟨c4, f4, z4⟩ := blk3 (blk_below H00.out HB4.out)
                    obtain ⟨v, hv⟩ : ∃ v, v = placeT (varsT M M.funcs.length) (ofT i 3 bi) := ⟨_, rfl⟩
                    rw [← hv]
                    have HV := Lib.hid hv
                    clear hv hb4 q3 g3 z3 y3 y4 HO3 HB3
                    go_wp2_with fail
                    refine wp_loop_rounds 1 ?_
                    rw [rounds_succ]
                    have HT1 : Hid (tosE M ps i j 3 bi (tg + 1) = tosE M ps i j 3 bi tg ++ [((i : Int), (j : Int), (tg : Int))]) := Lib.hid ((fm_succ _ _).trans (by unfold tosE toE; rw [HC.out, if_pos rfl]))
                    go_wp2_with (at_builtin; refine append_at_list (B := W0.heap.size) (W := w4.alloc (.cells #[.int .i64 (i : Nat), .int .i64 (j : Nat), .int .i64 (tg : Nat)] 68)) rfl 2 _ _ _ 64 68 (.agg #[.int .i64 0, .int .i64 0, .int .i64 0]) 3 24 rfl Try.underlying64 info68e rfl (by decide) (.slice A m cp) m _ rfl (HO4.out.below ((Below.refl _ _).alloc (Nat.le_refl _) _)) rfl ⟨w4.heap.size, 0, none⟩ 1 1 (edV ((i : Int), (j : Int), (tg : Int))) rfl rfl (new_cells _ _ _ _) (edV_one _) (by have := HB4.out.size; simp; omega) (by omega) (by omega) ?_; intro A1 cp1 w6 hg; have HB6 := Lib.hid ((HB4.out.alloc HB4.out.size _).trans hg.below); have HO6 := Lib.hid hg.owns; clear hg)
                    refine ⟨⟨tg + 1, m + 1, A1, cp1, by omega, by omega, by go_num, rfl, ?_, ?_, HB6.out⟩, by simp [intOf]; omega⟩
                    · show _ = _
                      rw [HT1.out, ← List.append_assoc, List.length_append, ← HMM.out]; rfl
                    · show Owns _ _ _
                      rw [HT1.out, ← List.append_assoc, encE_append]
                      exact HO6.out
                  · have hbt' : (bi == (tg : Int)) = false := by rw [beq_eq_false_iff_ne]; exact hbt
                    have HC : Hid (callB M ps i 3 bi tg = false) := Lib.hid (by unfold callB; rw [if_pos rfl, decide_eq_false_iff_not]; exact hbt)
                    clear hbt
                    go_wp2_with fail
                    refine (of_calls wr (i : Int) 3 bi).mono ?_
                    rintro e w3 ⟨rfl, hb3⟩
                    have HB3 := Lib.hid (HB.out.trans (hb3.mono HB.out.size))
                    have HO3 := Lib.hid (HO.out.below hb3)
                    obtain ⟨q3, g3, z3⟩ := blk3 (blk_below H00.out HB3.out)
                    have y3 := (row_cell (HO3.out.at (i := 0) rfl) (k := 3) (v := .int .u8 3) rfl).1
                    have y4 := (row_cell (HO3.out.at (i := 0) rfl) (k := 4) (v := .int .i64 bi) rfl).1
                    clear hb3 c0 f0 z0 x3 x4 HO HB
                    go_wp2_with fail
                    refine (find_calls w3 _ VA VN VC (varsT M M.funcs.length) (ofT i 3 bi) (own_below HV0.out HB3.out) HVN.out hvN).mono ?_
                    rintro e w4 ⟨rfl, hb4⟩
                    have HB4 := Lib.hid (HB3.out.trans (hb4.mono HB3.out.size))
                    have HO4 := Lib.hid (HO3.out.below hb4)
                    have y3' := (row_cell (HO4.out.at (i := 0) rfl) (k := 3) (v := .int .u8 3) rfl).1
                    have y4' := (row_cell (HO4.out.at (i := 0) rfl) (k := 4) (v := .int .i64 bi) rfl).1
                    obtain ⟨c4, f4, z4⟩ := blk3 (blk_below H00.out HB4.out)
                    obtain ⟨v, hv⟩ : ∃ v, v = placeT (varsT M M.funcs.length) (ofT i 3 bi) := ⟨_, rfl⟩
                    rw [← hv]
                    have HV := Lib.hid hv
                    clear hv hb4 q3 g3 z3 y3 y4 HO3 HB3
                    go_wp2_with fail
                    refine wp_loop_rounds 1 ?_
                    rw [rounds_succ]
                    have HT1 : Hid (tosE M ps i j 3 bi (tg + 1) = tosE M ps i j 3 bi tg) := Lib.hid ((fm_succ _ _).trans (by unfold tosE toE; rw [HC.out, if_neg (by decide), List.append_nil]))
                    go_wp2_with fail
                    refine ⟨⟨tg + 1, m, A, cp, by omega, by omega, by go_num, rfl, ?_, ?_, HB4.out⟩, by simp [intOf]; omega⟩
                    · show _ = _
                      rw [HT1.out]; exact HMM.out
                    · show Owns _ _ _
                      rw [HT1.out]; exact HO4.out
                · have hb3' : (bk == 3) = false := by rw [beq_eq_false_iff_ne]; exact hb3
                  have hb3n : (bk != 3) = true := by rw [bne, hb3']; rfl
                  have HCB : Hid (callB M ps i bk bi tg = if 0 ≤ placeT (varsT M M.funcs.length) (ofT i bk bi) ∧ placeT (varsT M M.funcs.length) (ofT i bk bi) < (ps.length : Int) then (ps.getD (placeT (varsT M M.funcs.length) (ofT i bk bi)).toNat []).any (hitT (cellsT M M.funcs.length) tg) else false) := Lib.hid (by unfold callB; rw [if_neg hb3])
                  clear hb3
                  go_wp2_with fail
                  refine (of_calls wr (i : Int) bk bi).mono ?_
                  rintro e w3 ⟨rfl, hb3⟩
                  have HB3 := Lib.hid (HB.out.trans (hb3.mono HB.out.size))
                  have HO3 := Lib.hid (HO.out.below hb3)
                  obtain ⟨q3, g3, z3⟩ := blk3 (blk_below H00.out HB3.out)
                  have y3 := (row_cell (HO3.out.at (i := 0) rfl) (k := 3) (v := .int .u8 bk) rfl).1
                  have y4 := (row_cell (HO3.out.at (i := 0) rfl) (k := 4) (v := .int .i64 bi) rfl).1
                  clear hb3 c0 f0 z0 x3 x4 HO HB
                  go_wp2_with fail
                  refine (find_calls w3 _ VA VN VC (varsT M M.funcs.length) (ofT i bk bi) (own_below HV0.out HB3.out) HVN.out hvN).mono ?_
                  rintro e w4 ⟨rfl, hb4⟩
                  have HB4 := Lib.hid (HB3.out.trans (hb4.mono HB3.out.size))
                  have HO4 := Lib.hid (HO3.out.below hb4)
                  have y3' := (row_cell (HO4.out.at (i := 0) rfl) (k := 3) (v := .int .u8 bk) rfl).1
                  have y4' := (row_cell (HO4.out.at (i := 0) rfl) (k := 4) (v := .int .i64 bi) rfl).1
                  obtain ⟨c4, f4, z4⟩ := blk3 (blk_below H00.out HB4.out)
                  obtain ⟨v, hv⟩ : ∃ v, v = placeT (varsT M M.funcs.length) (ofT i bk bi) := ⟨_, rfl⟩
                  rw [← hv]
                  have HV := Lib.hid hv
                  clear hv hb4 q3 g3 z3 y3 y4 HO3 HB3
                  go_wp2_with fail
                  rw [← HV.out, HPN.out] at HCB
                  by_cases hv0 : 0 ≤ v
                  · by_cases hv1 : v < (pn : Int)
                    · obtain ⟨vj, rfl⟩ : ∃ j : Nat, v = (j : Int) := ⟨v.toNat, by omega⟩
                      have hvj : vj < pn := by omega
                      obtain ⟨pb, poff, rfl, hcell⟩ := (HPP.out).out (by omega)
                      obtain ⟨row, hrow⟩ : ∃ x, ps[vj]? = some x := ⟨_, List.getElem?_eq_getElem (by rw [HPN.out]; exact hvj)⟩
                      obtain ⟨u, ku, hju⟩ := hcell vj row hrow
                      obtain ⟨ja, jn, jc, rfl, hjl, hjn, hjj⟩ := id hju
                      have ku1 := lift HB4.out ku
                      have HJ : Hid (ReadsJ w4 (.slice ja jn jc) row) := Lib.hid (hju.sub (sub_below HB4.out))
                      have HJL := Lib.hid hjl
                      have HC0' : Hid (callB M ps i bk bi tg = row.any (hitT (cellsT M M.funcs.length) tg)) := Lib.hid (by rw [HCB.out, if_pos ⟨hv0, hv1⟩, Int.toNat_natCast, List.getD_eq_getElem?_getD, hrow]; rfl)
                      clear hcell hrow ku hju hjl hjj HCB
                      go_loop [14, 16] (fun s14 s16 => ∃ (k : Nat) (c : Bool), k ≤ jn ∧ s16 = .int .i64 (k : Nat) ∧ s14 = .bool c ∧ Hid (c = (row.take k).any (hitT (cellsT M M.funcs.length) tg))) (fun _ s16 => jn - (intOf s16).toNat)
                      case atStart => exact ⟨0, false, Nat.zero_le _, rfl, rfl, rfl⟩
                      case round =>
                        obtain ⟨k, c, hk, rfl, rfl, HK⟩ := hrel
                        by_cases hltk : k < jn
                        · have hltK : (k : Int) < (jn : Int) := by omega
                          have hk0 : (0 : Int) ≤ (k : Int) := by omega
                          obtain ⟨jb, joff, o, rfl, hx, kx⟩ := HJ.out.at hltk
                          have HA := Lib.hid (any_take (p := hitT (cellsT M M.funcs.length) tg) hx)
                          clear hx
                          cases c with
                          | true =>
                            go_wp2_with fail
                            go_round
                            case measure => simp [intOf]; omega
                            case rel => exact ⟨k + 1, true, by omega, by go_num, rfl, Lib.hid (by rw [HA.out, ← HK.out]; rfl)⟩
                          | false =>
                            by_cases ho0 : 0 ≤ o
                            · obtain ⟨ob, rfl⟩ : ∃ q : Nat, o = (q : Int) := ⟨o.toNat, by omega⟩
                              by_cases ho1 : ob < CN
                              · have ho1I : (ob : Int) < (CN : Int) := by omega
                                obtain ⟨gC, rfl, _, _⟩ := own_addr HC0.out (by omega)
                                obtain ⟨⟨y1, y2, y5⟩, hy⟩ : ∃ y, (cellsT M M.funcs.length)[ob]? = some y := ⟨_, List.getElem?_eq_getElem (by rw [← HCN.out]; exact ho1)⟩
                                obtain ⟨a1, a2, a3⟩ := thing_cells (own_below HC0.out HB4.out) hy
                                have HY := Lib.hid hy
                                clear hy
                                by_cases e1 : y1 = 3
                                · by_cases e2 : y2 = (tg : Int)
                                  · by_cases e3 : y5 = 0
                                    · subst e1 e2 e3
                                      have HH : Hid (hitT (cellsT M M.funcs.length) tg (ob : Int) = true) := Lib.hid (by unfold hitT; rw [Int.toNat_natCast, HY.out]; simp)
                                      go_wp2_with fail
                                      go_round
                                      case measure => simp [intOf]; omega
                                      case rel => exact ⟨k + 1, true, by omega, by go_num, rfl, Lib.hid (by rw [HA.out, ← HK.out, HH.out]; rfl)⟩
                                    · have HH : Hid (hitT (cellsT M M.funcs.length) tg (ob : Int) = false) := Lib.hid (by unfold hitT; rw [Int.toNat_natCast, HY.out]; simp [e3])
                                      go_wp2_with fail
                                      go_round
                                      case measure => simp [intOf]; omega
                                      case rel => exact ⟨k + 1, false, by omega, by go_num, rfl, Lib.hid (by rw [HA.out, ← HK.out, HH.out]; rfl)⟩
                                  · have HH : Hid (hitT (cellsT M M.funcs.length) tg (ob : Int) = false) := Lib.hid (by unfold hitT; rw [Int.toNat_natCast, HY.out]; simp [e2])
                                    go_wp2_with fail
                                    go_round
                                    case measure => simp [intOf]; omega
                                    case rel => exact ⟨k + 1, false, by omega, by go_num, rfl, Lib.hid (by rw [HA.out, ← HK.out, HH.out]; rfl)⟩
                                · have HH : Hid (hitT (cellsT M M.funcs.length) tg (ob : Int) = false) := Lib.hid (by unfold hitT; rw [Int.toNat_natCast, HY.out]; simp [e1])
                                  go_wp2_with fail
                                  go_round
                                  case measure => simp [intOf]; omega
                                  case rel => exact ⟨k + 1, false, by omega, by go_num, rfl, Lib.hid (by rw [HA.out, ← HK.out, HH.out]; rfl)⟩
                              · have HH : Hid (hitT (cellsT M M.funcs.length) tg (ob : Int) = false) := Lib.hid (by unfold hitT; rw [Int.toNat_natCast, List.getElem?_eq_none (by rw [← HCN.out]; omega)]; simp)
                                go_wp2_with fail
                                go_round
                                case measure => simp [intOf]; omega
                                case rel => exact ⟨k + 1, false, by omega, by go_num, rfl, Lib.hid (by rw [HA.out, ← HK.out, HH.out]; rfl)⟩
                            · have HH : Hid (hitT (cellsT M M.funcs.length) tg o = false) := Lib.hid (by unfold hitT; simp [ho0])
                              go_wp2_with fail
                              go_round
                              case measure => simp [intOf]; omega
                              case rel => exact ⟨k + 1, false, by omega, by go_num, rfl, Lib.hid (by rw [HA.out, ← HK.out, HH.out]; rfl)⟩
                        · obtain rfl : jn = k := by omega
                          have hnn : ¬ (jn : Int) < (jn : Int) := by omega
                          have htk : row.take jn = row := List.take_of_length_le (by rw [HJL.out]; exact Nat.le_refl _)
                          have HC : Hid (callB M ps i bk bi tg = c) := Lib.hid (by rw [HC0'.out, HK.out, htk])
                          clear htk
                          cases c with
                          | true =>
                            have HT1 : Hid (tosE M ps i j bk bi (tg + 1) = tosE M ps i j bk bi tg ++ [((i : Int), (j : Int), (tg : Int))]) := Lib.hid ((fm_succ _ _).trans (by unfold tosE toE; rw [HC.out, if_pos rfl]))
                            go_wp2_with (at_builtin; refine append_at_list (B := W0.heap.size) (W := w4.alloc (.cells #[.int .i64 (i : Nat), .int .i64 (j : Nat), .int .i64 (tg : Nat)] 68)) rfl 2 _ _ _ 64 68 (.agg #[.int .i64 0, .int .i64 0, .int .i64 0]) 3 24 rfl Try.underlying64 info68e rfl (by decide) (.slice A m cp) m _ rfl (HO4.out.below ((Below.refl _ _).alloc (Nat.le_refl _) _)) rfl ⟨w4.heap.size, 0, none⟩ 1 1 (edV ((i : Int), (j : Int), (tg : Int))) rfl rfl (new_cells _ _ _ _) (edV_one _) (by have := HB4.out.size; simp; omega) (by omega) (by omega) ?_; intro A1 cp1 w6 hg; have HB6 := Lib.hid ((HB4.out.alloc HB4.out.size _).trans hg.below); have HO6 := Lib.hid hg.owns; clear hg)
                            refine ⟨⟨tg + 1, m + 1, A1, cp1, by omega, by omega, by go_num, rfl, ?_, ?_, HB6.out⟩, by simp [intOf]; omega⟩
                            · show _ = _
                              rw [HT1.out, ← List.append_assoc, List.length_append, ← HMM.out]; rfl
                            · show Owns _ _ _
                              rw [HT1.out, ← List.append_assoc, encE_append]
                              exact HO6.out
                          | false =>
                            have HT1 : Hid (tosE M ps i j bk bi (tg + 1) = tosE M ps i j bk bi tg) := Lib.hid ((fm_succ _ _).trans (by unfold tosE toE; rw [HC.out, if_neg (by decide), List.append_nil]))
                            go_wp2_with fail
                            refine ⟨⟨tg + 1, m, A, cp, by omega, by omega, by go_num, rfl, ?_, ?_, HB4.out⟩, by simp [intOf]; omega⟩
                            · show _ = _
                              rw [HT1.out]; exact HMM.out
                            · show Owns _ _ _
                              rw [HT1.out]; exact HO4.out
                    · have HC : Hid (callB M ps i bk bi tg = false) := Lib.hid (by rw [HCB.out, if_neg (fun h => hv1 h.2)])
                      clear HCB
                      refine wp_loop_rounds 1 ?_
                      rw [rounds_succ]
                      have HT1 : Hid (tosE M ps i j bk bi (tg + 1) = tosE M ps i j bk bi tg) := Lib.hid ((fm_succ _ _).trans (by unfold tosE toE; rw [HC.out, if_neg (by decide), List.append_nil]))
                      go_wp2_with fail
                      refine ⟨⟨tg + 1, m, A, cp, by omega, by omega, by go_num, rfl, ?_, ?_, HB4.out⟩, by simp [intOf]; omega⟩
                      · show _ = _
                        rw [HT1.out]; exact HMM.out
                      · show Owns _ _ _
                        rw [HT1.out]; exact HO4.out
                  · have HC : Hid (callB M ps i bk bi tg = false) := Lib.hid (by rw [HCB.out, if_neg (fun h => hv0 h.1)])
                    clear HCB
                    refine wp_loop_rounds 1 ?_
                    rw [rounds_succ]
                    have HT1 : Hid (tosE M ps i j bk bi (tg + 1) = tosE M ps i j bk bi tg) := Lib.hid ((fm_succ _ _).trans (by unfold tosE toE; rw [HC.out, if_neg (by decide), List.append_nil]))
                    go_wp2_with fail
                    refine ⟨⟨tg + 1, m, A, cp, by omega, by omega, by go_num, rfl, ?_, ?_, HB4.out⟩, by simp [intOf]; omega⟩
                    · show _ = _
                      rw [HT1.out]; exact HMM.out
                    · show Owns _ _ _
                      rw [HT1.out]; exact HO4.out
              · obtain rfl : n = tg := by omega
                have hnn : ¬ (n : Int) < (n : Int) := by omega
                go_wp2_with fail
                refine ⟨⟨t + 1, j + 1, m, A, cp, by omega, by omega, by go_num, by go_num, rfl, HSJ.out, ?_, ?_, HB.out⟩, by simp [intOf]; omega⟩
                · show _ = _
                  rw [HCS.out, ← List.append_assoc]; exact HMM.out
                · show Owns _ _ _
                  rw [HCS.out, ← List.append_assoc]; exact HO.out.tail
          · have hkf : (sk == 5) = false := by rw [beq_eq_false_iff_ne]; exact hk5
            have hkn : (sk != 5) = true := by rw [bne, hkf]; rfl
            have HSN := Lib.hid (show sitesOf (L.take (t + 1)) = sitesOf (L.take t) by rw [sitesOf_snoc HS.out, HKK.out, hkf]; simp)
            go_wp2_with fail
            refine ⟨⟨t + 1, j, m, A, cp, by omega, by omega, by go_num, rfl, rfl, ?_, HMM.out, HO.out.below ((Below.refl _ _).alloc (Nat.le_refl _) _), HB.out.alloc HB.out.size _⟩, by simp [intOf]; omega⟩
            show _ = _
            rw [HSN.out]; exact HJ.out
        · obtain rfl : K = t := by omega
          have hnn : ¬ (K : Int) < (K : Int) := by omega
          have htk : L.take K = L := List.take_of_length_le (by rw [HLEN.out]; exact Nat.le_refl _)
          have HKE : Hid (j = (sitesOf (flatT 1000 0 f.body)).length) := Lib.hid (by rw [← HLL.out, HJ.out, htk])
          have HR := Lib.hid (refE_succ (ps := ps) HFF.out)
          clear htk
          go_wp2_with fail
          refine ⟨⟨i + 1, m, A, cp, by omega, by go_num, rfl, ?_, ?_, HB.out⟩, by simp [intOf]; omega⟩
          · show _ = _
            rw [HR.out, ← HKE.out]; exact HMM.out
          · show Owns _ _ _
            rw [HR.out, ← HKE.out]; exact HO.out.tail
    · obtain rfl : n = i := by omega
      have hnn : ¬ (n : Int) < (n : Int) := by omega
      go_wp2_with fail
      go_ret
      exact ⟨A, m, cp, rfl, HMM.out, own_base HO.out.head HB0.out.size, HB0.out.trans (HB.out.mono HB0.out.size)⟩
end Go.Proofs.Ytjgijbaboekghaa

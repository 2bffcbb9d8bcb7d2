/-
  r14.System (function 46): what a module asks of what its variables point to. No statement of its own.
-/
import Derived.Test.YtjgijbaboekghaaED
set_option linter.unusedSimpArgs false
set_option linter.unusedVariables false
namespace Go.Proofs.Ytjgijbaboekghaa
open Go.RowKit
def Systemed (M : Mod) (w : World) (e : Ending) (w' : World) : Prop := ∃ sv K, e = .returned sv ∧ SysOk w' sv (varsT M M.funcs.length).length (cellsT M M.funcs.length).length K ∧ Below w.heap.size w w'
set_option maxRecDepth 100000 in
set_option maxHeartbeats 16000000 in
theorem system_calls (w : World) (mv : Value) (M : Mod) (hm : ReadsM w mv M) (hM : SysM M) : Calls Try.prog 46 #[mv] w (Systemed M w) := by
  obtain ⟨sv, gv, fv, ev, rfl, h1, h2, h3, h4⟩ := id hm
  obtain ⟨sa, sc, rfl, _⟩ := h1.shape
  obtain ⟨ga, gc, rfl, hg1⟩ := h2.shape
  obtain ⟨fa, fc, rfl, hfn⟩ := h3.shape
  obtain ⟨ea, ec, rfl, _⟩ := h4.shape
  have HM := Lib.hid hm
  have HF := Lib.hid h3
  have HMM := Lib.hid hM
  have hvl := hM.vlen
  have hcl := hM.clen
  obtain ⟨L, hL⟩ : ∃ L, L = varsT M M.funcs.length := ⟨_, rfl⟩
  obtain ⟨D, hD⟩ : ∃ D, D = cellsT M M.funcs.length := ⟨_, rfl⟩
  unfold Systemed
  rw [← hL] at hvl ⊢
  rw [← hD] at hcl ⊢
  have HLE := Lib.hid hL
  have HDE := Lib.hid hD
  obtain ⟨sn, hsn⟩ : ∃ n, n = M.strings.length := ⟨_, rfl⟩
  obtain ⟨gn, hgn⟩ : ∃ n, n = M.globals.length := ⟨_, rfl⟩
  obtain ⟨n, hnn⟩ : ∃ n, n = M.funcs.length := ⟨_, rfl⟩
  obtain ⟨en, hen⟩ : ∃ n, n = M.entries.length := ⟨_, rfl⟩
  rw [← hnn] at hfn HF HM ⊢
  rw [← hgn] at hg1 HM ⊢
  rw [← hsn] at HM ⊢
  rw [← hen] at HM ⊢
  have HNL := Lib.hid hnn
  clear hm hM h1 h2 h3 h4 hnn hgn hsn hen hL hD
  have m0 := blk_alloc (heap_alloc_new w (.cells #[.slice sa sn sc, .slice ga gn gc, .slice fa n fc, .slice ea en ec] 32)) (.cells #[.int .i64 0, .slice none 0 0, .slice none 0 0] 92)
  have m1 := heap_alloc_new (w.alloc (.cells #[.slice sa sn sc, .slice ga gn gc, .slice fa n fc, .slice ea en ec] 32)) (.cells #[.int .i64 0, .slice none 0 0, .slice none 0 0] 92)
  have bw : Below w.heap.size w ((w.alloc (.cells #[.slice sa sn sc, .slice ga gn gc, .slice fa n fc, .slice ea en ec] 32)).alloc (.cells #[.int .i64 0, .slice none 0 0, .slice none 0 0] 92)) := ((Below.refl _ _).alloc (Nat.le_refl _) _).alloc (by simp) _
  rw [World.size_alloc] at m1
  go_enter Try.func46, Try.ntmps46
  obtain ⟨c0, f0, z0⟩ := blk3 m0
  go_upto_region 1 with (fail)
  obtain ⟨W, hW⟩ : ∃ W, W = (w.alloc (.cells #[.slice sa sn sc, .slice ga gn gc, .slice fa n fc, .slice ea en ec] 32)).alloc (.cells #[.int .i64 0, .slice none 0 0, .slice none 0 0] 92) := ⟨_, rfl⟩
  rw [← hW] at m0 m1 bw c0 f0 z0 ⊢
  clear hW
  go_wp2_with fail
  refine (vars_calls W _ M (HM.out.sub (sub_below bw))).mono ?_
  rintro e w1 ⟨VA, V, VC, rfl, hVl, hV4, hVo, hb1⟩
  rw [← HLE.out] at hVl hVo
  have HVL := Lib.hid hVl
  have hV6 : V ≤ 1048576 := by omega
  clear hVl
  have n0 := blk_below m0 hb1
  have n1 := blk_below m1 hb1
  have bw1 := bw.trans (hb1.mono bw.size)
  clear c0 f0 z0 m0 m1
  obtain ⟨c0, f0, z0⟩ := blk3 n0
  go_wp2_with fail
  refine (cells_calls w1 _ M (HM.out.sub (sub_below bw1))).mono ?_
  rintro e W0 ⟨DA, nC, DC, rfl, hDl, hD4, hDo, hb2⟩
  rw [← HDE.out] at hDl hDo
  have HMB := Lib.hid (blk_below n0 hb2)
  have HRB := Lib.hid (blk_below n1 hb2)
  have hRB : w.heap.size + 1 < W0.heap.size := blk_lt HRB.out
  have HBW := Lib.hid (bw1.trans (hb2.mono bw1.size))
  have HVO := Lib.hid (own_below hVo hb2)
  have HDO := Lib.hid hDo
  have HDL := Lib.hid hDl
  have HF0 := Lib.hid (HF.out.sub (sub_below HBW.out))
  have hC6 : nC ≤ 1048576 := by omega
  clear c0 f0 z0 n0 n1 hb1 hb2 bw bw1 hVo hDo hDl HF HM hvl hcl
  have HSY := Lib.hid (Sy.start V nC (w.heap.size + 1) W0)
  obtain ⟨sb, hsb⟩ : ∃ b, b = W0.heap.size := ⟨_, rfl⟩
  go_upto_region 4 with (fail)
  rw [← hsb] at HSY ⊢
  clear hsb
  obtain ⟨W3, hW3⟩ : ∃ W, W = W0.alloc (.cells #[.int .i64 (V : Nat), .slice none 0 0, .slice none 0 0] 92) := ⟨_, rfl⟩
  rw [← hW3] at HSY ⊢
  clear hW3
  go_wp2_with fail
  go_loopw [6] (fun v6 wr => ∃ (i : Nat) (d : SyD), i ≤ nC ∧ v6 = .int .i64 (i : Nat) ∧ Hid (d.C = i ∧ d.K = 0) ∧ Hid (Sy W0 V nC sb (w.heap.size + 1) d [] wr)) (fun v6 _ => nC - (intOf v6).toNat)
  case atStart => exact ⟨0, ⟨0, 0, none, 0, none, 0, [], []⟩, Nat.zero_le _, rfl, ⟨rfl, rfl⟩, HSY.out⟩
  case round =>
    clear HSY
    obtain ⟨i, d, hi, rfl, HDC, HSY⟩ := hrel
    by_cases hlt : i < nC
    · have hltI : (i : Int) < (nC : Int) := by omega
      have hi0 : (0 : Int) ≤ (i : Int) := by omega
      obtain ⟨gD, rfl, _, _⟩ := own_addr HDO.out (by omega)
      obtain ⟨⟨x1, x2, x3⟩, hx⟩ : ∃ y, D[i]? = some y := ⟨_, List.getElem?_eq_getElem (by rw [← HDL.out]; exact hlt)⟩
      obtain ⟨k1, k2, k3⟩ := thing_cells (own_below HDO.out HSY.out.below) hx
      have HX := Lib.hid hx
      clear hx
      go_wp2_with fail
      refine (find_calls wr _ VA V VC L (x1, x2, x3) (own_below HVO.out HSY.out.below) HVL.out hV4).mono ?_
      rintro e w3 ⟨rfl, hb3⟩
      have hp := placeT_range L (x1, x2, x3)
      rw [← HVL.out] at hp
      obtain ⟨p, hpe⟩ : ∃ p, p = placeT L (x1, x2, x3) := ⟨_, rfl⟩
      rw [← hpe] at hp ⊢
      have HPR := Lib.hid hp
      have HSY3 := Lib.hid (HSY.out.next hb3)
      have HSY4 := Lib.hid ((HSY3.out.new ((Below.refl _ _).alloc (Nat.le_refl _) (.cells #[.bool false, .int .i64 p, .slice none 0 0] 119)) (r := ⟨119, 3, .slice (some ⟨w3.heap.size, 0, none⟩) 1 1, 1, [.bool false, .int .i64 p, .slice none 0 0]⟩) (own_one w3 119 3 #[.bool false, .int .i64 p, .slice none 0 0] rfl)).nilrow 3 1)
      clear hp hpe hb3 k1 k2 k3 HSY
      go_upto_region 8 with (fail)
      obtain ⟨cb, hcb⟩ : ∃ b, b = w3.heap.size := ⟨_, rfl⟩
      obtain ⟨W4, hW4⟩ : ∃ W, W = w3.alloc (.cells #[.bool false, .int .i64 p, .slice none 0 0] 119) := ⟨_, rfl⟩
      rw [← hW4] at HSY4 ⊢
      rw [← hcb] at HSY4 ⊢
      clear hcb hW4 HSY3
      obtain ⟨k1, k2, k3⟩ := thing_cells (own_below HDO.out HSY4.out.below) HX.out
      have hblk := own_block #[.bool false, .int .i64 p, .slice none 0 0] (HSY4.out.owns.at (i := 4) rfl) rfl
      obtain ⟨b0c, b0f, b0z⟩ := blk3 hblk
      by_cases h3 : x1 = 3
      · subst h3
        obtain ⟨f, fn, hfn', hfx⟩ := cells_kind (M := M) (by rw [← HDE.out]; exact HX.out) rfl
        subst hfx
        have hfl : f < n := by rw [HNL.out]; exact (List.getElem?_eq_some_iff.1 hfn').1
        have hfI : (f : Int) < (n : Int) := by omega
        have hf0 : (0 : Int) ≤ (f : Int) := by omega
        obtain ⟨fb, foff, fn2, lv, sv, bv, rfl, hff, ⟨j0, j1, j2, j3, j4⟩, _, _, _⟩ := HF0.out.at hfl
        obtain rfl : fn = fn2 := by rw [hfn'] at hff; exact Option.some.inj hff
        have hpm := HMM.out.par fn (List.mem_of_getElem? hfn')
        obtain ⟨P, hP⟩ : ∃ P, P = fn.params := ⟨_, rfl⟩
        rw [← hP] at hpm j1
        have HJ1 := Lib.hid j1
        clear hP hff j0 j1 j2 j3 j4 hfn'
        go_upto_region 10 with (fail)
        have HSY5 := Lib.hid (HSY4.out.store4 0 (.bool true))
        obtain ⟨W5, hW5⟩ : ∃ W, W = W4.setCell ⟨cb, 0, none⟩ (.bool true) := ⟨_, rfl⟩
        rw [← hW5] at HSY5 ⊢
        clear hW5 b0c b0f b0z hblk k1 k2 k3 HSY4
        go_wp2_with fail
        go_loopw [8] (fun v8 wr => ∃ (k : Nat) (A : Option Addr) (c : Nat) (zs : List Int), k ≤ P ∧ v8 = .int .i64 (k : Nat) ∧ Hid (zs.length = k ∧ ∀ z ∈ zs, -1 ≤ z ∧ z < (V : Int)) ∧ Hid (Sy W0 V nC sb (w.heap.size + 1) d [⟨3, 1, .slice A k c, k, ints zs⟩, ⟨119, 3, .slice (some ⟨cb, 0, none⟩) 1 1, 1, [.bool true, .int .i64 p, .slice A k c]⟩] wr)) (fun v8 _ => P - (intOf v8).toNat)
        case atStart => exact ⟨0, none, 0, [], Nat.zero_le _, rfl, ⟨rfl, fun z hz => by cases hz⟩, HSY5.out⟩
        case round =>
          clear HSY5
          obtain ⟨k, A, c, zs, hk, rfl, HZ, HSY⟩ := hrel
          obtain ⟨c0, f0, z0⟩ := blk3 (blk_below HMB.out HSY.out.below)
          obtain ⟨k1, k2, k3⟩ := thing_cells (own_below HDO.out HSY.out.below) HX.out
          have j1 := lift HSY.out.below HJ1.out
          by_cases hltk : k < P
          · have hltK : (k : Int) < (P : Int) := by omega
            have hk0 : (0 : Int) ≤ (k : Int) := by omega
            go_upto_region 11 with (fail)
            go_quiet (fail)
            go_upto_region 13 with (fail)
            have HSYU := Lib.hid (HSY.out.next (drew_below wr nq))
            obtain ⟨U, hU⟩ : ∃ U, U = wr.drewN nq := ⟨_, rfl⟩
            rw [← hU] at HSYU ⊢
            clear hU HSY c0 f0 z0 k1 k2 k3 j1
            have hS0 : (fun w' => w'.heap[cb]? = some (.cells #[.bool true, .int .i64 p, .slice A k c] 119) ∧ w'.cell? ⟨gD, i * 3 + 1, none⟩ = some (.int .i64 (f : Nat))) U := ⟨own_block #[.bool true, .int .i64 p, .slice A k c] (HSYU.out.owns.at (i := 4) rfl) rfl, (thing_cells (own_below HDO.out HSYU.out.below) HX.out).2.1⟩
            refine wp_region_HL (S := (fun w' => w'.heap[cb]? = some (.cells #[.bool true, .int .i64 p, .slice A k c] 119) ∧ w'.cell? ⟨gD, i * 3 + 1, none⟩ = some (.int .i64 (f : Nat)))) 13 (by kernel_rfl) (by kernel_rfl) (by kernel_rfl) (by kernel_rfl) (by decide) hS0 (fun hHeld => ?_)
            refine HL.take_ (i := 0) (oi := { dst := some 60, op := .fieldAddr 119 (.tmp 7) 2, type := 0, pos := "ref.go:82", after := #[], guard := none }) (v := ?_) rfl (by decide) (by kernel_rfl) (by kernel_rfl) (fun _ _ _ h => h) (Or.inl ⟨by rfl, ?_⟩) (by assumption) ?_
            rotate_left
            · intro w hSw
              (try dsimp only at hSw)
              (go_simp; try (with_reducible rfl))
            try simp only [Act.put, List.setIfInBounds_toArray, List.set_cons_zero, List.set_cons_succ]
            refine HL.take_ (i := 2) (oi := { dst := some 62, op := .move (.tmp 3), type := 103, pos := "ref.go:82", after := #[], guard := none }) (v := ?_) rfl (by decide) (by kernel_rfl) (by kernel_rfl) (fun _ _ _ h => h) (Or.inl ⟨by rfl, ?_⟩) (by assumption) ?_
            rotate_left
            · intro w hSw
              (try dsimp only at hSw)
              (go_simp; try (with_reducible rfl))
            try simp only [Act.put, List.setIfInBounds_toArray, List.set_cons_zero, List.set_cons_succ]
            refine HL.take_ (i := 3) (oi := { dst := some 63, op := .move (.tmp 4), type := 103, pos := "ref.go:82", after := #[], guard := none }) (v := ?_) rfl (by decide) (by kernel_rfl) (by kernel_rfl) (fun _ _ _ h => h) (Or.inl ⟨by rfl, ?_⟩) (by assumption) ?_
            rotate_left
            · intro w hSw
              (try dsimp only at hSw)
              (go_simp; try (with_reducible rfl))
            try simp only [Act.put, List.setIfInBounds_toArray, List.set_cons_zero, List.set_cons_succ]
            refine HL.take_ (i := 4) (oi := { dst := some 64, op := .move (.tmp 6), type := 3, pos := "ref.go:82", after := #[], guard := none }) (v := ?_) rfl (by decide) (by kernel_rfl) (by kernel_rfl) (fun _ _ _ h => h) (Or.inl ⟨by rfl, ?_⟩) (by assumption) ?_
            rotate_left
            · intro w hSw
              (try dsimp only at hSw)
              (go_simp; try (with_reducible rfl))
            try simp only [Act.put, List.setIfInBounds_toArray, List.set_cons_zero, List.set_cons_succ]
            refine HL.take_ (i := 8) (oi := { dst := some 68, op := .move (.tmp 8), type := 3, pos := "ref.go:82", after := #[], guard := none }) (v := ?_) rfl (by decide) (by kernel_rfl) (by kernel_rfl) (fun _ _ _ h => h) (Or.inl ⟨by rfl, ?_⟩) (by assumption) ?_
            rotate_left
            · intro w hSw
              (try dsimp only at hSw)
              (go_simp; try (with_reducible rfl))
            try simp only [Act.put, List.setIfInBounds_toArray, List.set_cons_zero, List.set_cons_succ]
            refine HL.take_ (i := 1) (oi := { dst := some 61, op := .load 29 (.tmp 60), type := 29, pos := "ref.go:82", after := #[{ on := 0, ground := .data }], guard := none }) (v := ?_) rfl (by decide) (by kernel_rfl) (by kernel_rfl) (fun _ _ _ h => h) (Or.inl ⟨by rfl, ?_⟩) (by assumption) ?_
            rotate_left
            · intro w hSw
              (try dsimp only at hSw)
              obtain ⟨s1, s2⟩ := hSw; have s3 := (blk3 s1).1; (go_simp; try (with_reducible rfl))
            try simp only [Act.put, List.setIfInBounds_toArray, List.set_cons_zero, List.set_cons_succ]
            refine HL.take_ (i := 5) (oi := { dst := some 65, op := .indexAddr 103 (.tmp 63) (.tmp 64), type := 0, pos := "ref.go:82", after := #[{ on := 3, ground := .data }, { on := 4, ground := .data }], guard := none }) (v := ?_) rfl (by decide) (by kernel_rfl) (by kernel_rfl) (fun _ _ _ h => h) (Or.inl ⟨by rfl, ?_⟩) (by assumption) ?_
            rotate_left
            · intro w hSw
              (try dsimp only at hSw)
              obtain ⟨s1, s2⟩ := hSw; have s3 := (blk3 s1).1; (go_simp; try (with_reducible rfl))
            try simp only [Act.put, List.setIfInBounds_toArray, List.set_cons_zero, List.set_cons_succ]
            refine HL.take_ (i := 6) (oi := { dst := some 66, op := .fieldAddr 107 (.tmp 65) 1, type := 0, pos := "ref.go:82", after := #[{ on := 5, ground := .data }], guard := none }) (v := ?_) rfl (by decide) (by kernel_rfl) (by kernel_rfl) (fun _ _ _ h => h) (Or.inl ⟨by rfl, ?_⟩) (by assumption) ?_
            rotate_left
            · intro w hSw
              (try dsimp only at hSw)
              obtain ⟨s1, s2⟩ := hSw; have s3 := (blk3 s1).1; (go_simp; try (with_reducible rfl))
            try simp only [Act.put, List.setIfInBounds_toArray, List.set_cons_zero, List.set_cons_succ]
            refine HL.take_ (i := 7) (oi := { dst := some 67, op := .load 3 (.tmp 66), type := 3, pos := "ref.go:82", after := #[{ on := 6, ground := .data }], guard := none }) (v := ?_) rfl (by decide) (by kernel_rfl) (by kernel_rfl) (fun _ _ _ h => h) (Or.inl ⟨by rfl, ?_⟩) (by assumption) ?_
            rotate_left
            · intro w hSw
              (try dsimp only at hSw)
              obtain ⟨s1, s2⟩ := hSw; have s3 := (blk3 s1).1; (go_simp; try (with_reducible rfl))
            try simp only [Act.put, List.setIfInBounds_toArray, List.set_cons_zero, List.set_cons_succ]
            refine HL.take_ (i := 9) (oi := { dst := some 69, op := .build 107 #[(0, .const (.int .u8 1)), (1, .tmp 67), (2, .tmp 68)], type := 107, pos := "ref.go:82", after := #[{ on := 7, ground := .data }, { on := 8, ground := .data }], guard := none }) (v := ?_) rfl (by decide) (by kernel_rfl) (by kernel_rfl) (fun _ _ _ h => h) (Or.inl ⟨by rfl, ?_⟩) (by assumption) ?_
            rotate_left
            · intro w hSw
              (try dsimp only at hSw)
              obtain ⟨s1, s2⟩ := hSw; have s3 := (blk3 s1).1; (go_simp; try (with_reducible rfl))
            try simp only [Act.put, List.setIfInBounds_toArray, List.set_cons_zero, List.set_cons_succ]
            refine HL.step_ (i := 10) (o := { dst := some 70, op := .call { callee := .value (.func 56), args := #[.tmp 62, .tmp 69], argTypes := #[103, 107] }, type := 3, pos := "ref.go:82", after := #[{ on := 2, ground := .data }, { on := 9, ground := .data }], guard := none }) rfl (by decide) (by kernel_rfl) (fun K hK => ?_)
            go_simp
            refine (find_calls U.drew _ VA V VC L (1, (f : Int), (k : Int)) (own_below HVO.out (HSYU.out.below.trans (Below.refl _ _).drew)) HVL.out hV4).mono ?_
            rintro e w6 ⟨rfl, hb6⟩
            have hq := placeT_range L (1, (f : Int), (k : Int))
            rw [← HVL.out] at hq
            obtain ⟨q, hqe⟩ : ∃ q, q = placeT L (1, (f : Int), (k : Int)) := ⟨_, rfl⟩
            rw [← hqe] at hq ⊢
            have HQ := Lib.hid hq
            have HSY6 := Lib.hid ((HSYU.out.next ((Below.refl _ _).drew)).next hb6)
            have hS1 : (fun w' => w'.heap[cb]? = some (.cells #[.bool true, .int .i64 p, .slice A k c] 119) ∧ w'.cell? ⟨gD, i * 3 + 1, none⟩ = some (.int .i64 (f : Nat))) w6 := ⟨own_block #[.bool true, .int .i64 p, .slice A k c] (HSY6.out.owns.at (i := 4) rfl) rfl, (thing_cells (own_below HDO.out HSY6.out.below) HX.out).2.1⟩
            clear hq hqe hb6
            refine hK.out _ _ hS1 (fun hHeld => ?_)
            clear hK K
            try simp only [Act.put, List.setIfInBounds_toArray, List.set_cons_zero, List.set_cons_succ]
            refine HL.step_ (i := 11) (o := { dst := some 71, op := .buildSlice 29 1 #[(0, .tmp 70)], type := 29, pos := "ref.go:82", after := #[{ on := 10, ground := .data }], guard := none }) rfl (by decide) (by kernel_rfl) (fun K hK => ?_)
            go_simp
            refine hK.out _ _ ⟨blk_alloc hS1.1 _, lift ((Below.refl _ _).alloc (Nat.le_refl _) _) hS1.2⟩ (fun hHeld => ?_)
            clear hK K
            try simp only [Act.put, List.setIfInBounds_toArray, List.set_cons_zero, List.set_cons_succ]
            refine HL.step_ (i := 12) (o := { dst := some 72, op := .call { callee := .builtin .append, args := #[.tmp 61, .tmp 71], argTypes := #[29, 29] }, type := 29, pos := "ref.go:82", after := #[{ on := 1, ground := .data }, { on := 11, ground := .data }, { on := 10, ground := .chain }], guard := none }) rfl (by decide) (by kernel_rfl) (fun K hK => ?_)
            rw [if_pos (by rfl)]
            refine append_at (B := W0.heap.size) (W := w6.alloc (.cells #[.int .i64 q] 3)) 3 (sRows V sb d ++ [⟨3, 1, .slice A k c, k, ints zs⟩, ⟨119, 3, .slice (some ⟨cb, 0, none⟩) 1 1, 1, [.bool true, .int .i64 p, .slice A k c]⟩]) _ _ 29 3 (.int .i64 0) 1 8 rfl Try.underlying29 info3s rfl (by decide) (.slice A k c) k _ rfl (HSY6.out.owns.below ((Below.refl _ _).alloc (Nat.le_refl _) _)) rfl ⟨w6.heap.size, 0, none⟩ 1 1 [.int .i64 q] rfl rfl (new_cells _ _ _ _) (one_cell _ rfl) (by have := HSY6.out.below.size; simp; omega) (by omega) (by omega) ?_
            intro A8 c8 w8 hg
            have hS2 : (fun w' => w'.heap[cb]? = some (.cells #[.bool true, .int .i64 p, .slice A k c] 119) ∧ w'.cell? ⟨gD, i * 3 + 1, none⟩ = some (.int .i64 (f : Nat))) w8 := ⟨own_block #[.bool true, .int .i64 p, .slice A k c] (hg.owns.at (i := 4) rfl) rfl, (thing_cells (own_below HDO.out ((HSY6.out.below.alloc HSY6.out.below.size _).trans hg.below)) HX.out).2.1⟩
            have HSY8 := Lib.hid ((HSY6.out.next ((Below.refl _ _).alloc (Nat.le_refl _) (.cells #[.int .i64 q] 3))).grown hg)
            clear hg hS1
            refine hK.out _ _ hS2 (fun hHeld => ?_)
            clear hK K
            try simp only [Act.put, List.setIfInBounds_toArray, List.set_cons_zero, List.set_cons_succ]
            refine HL.done_ (by kernel_rfl) ?_
            simp only [List.drop_succ_cons, List.drop_zero]
            obtain ⟨b8c, b8f, b8z⟩ := blk3 hS2.1
            clear hHeld hS0 hS2
            go_wp2_with fail
            refine ⟨⟨k + 1, A8, c8, zs ++ [q], by omega, by go_num, ⟨by rw [List.length_append, HZ.out.1]; rfl, fun z hz => ?_⟩, ?_⟩, by simp [intOf]; omega⟩
            · rcases List.mem_append.1 hz with hz | hz
              · exact HZ.out.2 z hz
              · rw [List.mem_singleton] at hz; rw [hz]; exact HQ.out
            · show Sy _ _ _ _ _ _ _ _
              rw [ints_snoc]
              exact HSY8.out.store4 2 (.slice A8 (k + 1) c8)
          · obtain rfl : P = k := by omega
            have hnn : ¬ (P : Int) < (P : Int) := by omega
            go_upto_region 11 with (fail)
            go_quiet (fail)
            go_upto_region 14 with (fail)
            have HSYU := Lib.hid (HSY.out.next (drew_below wr nq))
            obtain ⟨U, hU⟩ : ∃ U, U = wr.drewN nq := ⟨_, rfl⟩
            rw [← hU] at HSYU ⊢
            clear hU HSY c0 f0 z0 k1 k2 k3 j1
            have HSY := HSYU
            clear HSYU
            obtain ⟨s0c, s0f, s0z⟩ := blk3 HSY.out.box
            obtain ⟨b0c, b0f, b0z⟩ := blk3 (own_block #[.bool true, .int .i64 p, .slice A P c] (HSY.out.owns.at (i := 4) rfl) rfl)
            have HAO := Lib.hid ((HSY.out.args hRB HZ.out.1 (by omega) HZ.out.2).sub rows_less)
            have HSYD := Lib.hid HSY.out.drop.drop
            clear HSY
            go_wp2_with (at_builtin; refine append_at_list (B := W0.heap.size) (W := U.alloc (.cells #[.bool true, .int .i64 p, .slice A P c] 119)) rfl 1 (sRows V sb d ++ []) _ _ 89 119 (.agg #[.bool false, .int .i64 0, .slice none 0 0]) 3 40 rfl Try.underlying89 info119s rfl (by decide) (.slice d.CA d.C d.CC) d.C _ rfl (HSYD.out.owns.below ((Below.refl _ _).alloc (Nat.le_refl _) _)) rfl ⟨U.heap.size, 0, none⟩ 1 1 [.bool true, .int .i64 p, .slice A P c] rfl rfl (new_cells _ _ _ _) (cell_one _ _ _ _ _) (by have := HSYD.out.below.size; simp; omega) (by rw [HDC.out.1]; omega) (by rw [HDC.out.1]; omega) ?_; intro A9 c9 w9 hg; have HSY9 := Lib.hid ((HSYD.out.next ((Below.refl _ _).alloc (Nat.le_refl _) (.cells #[.bool true, .int .i64 p, .slice A P c] 119))).cell hg rfl ⟨true, p, A, P, c, rfl, HPR.out.1, HPR.out.2, HAO.out.sub (sub_sans_below ((Below.refl _ _).alloc (Nat.le_refl _) _))⟩); obtain ⟨s9c, s9f, s9z⟩ := blk3 (own_block #[.int .i64 (V : Nat), .slice d.CA d.C d.CC, .slice d.KA d.K d.KC] (hg.owns.at (i := 0) rfl) rfl); clear hg s0c s0f s0z b0c b0f b0z)
            refine ⟨⟨i + 1, { d with C := d.C + 1, CA := A9, CC := c9, cxs := d.cxs ++ [.bool true, .int .i64 p, .slice A P c] }, by omega, by go_num, ⟨by show d.C + 1 = i + 1; rw [HDC.out.1], HDC.out.2⟩, HSY9.out⟩, by simp [intOf]; omega⟩
      · have h3' : (x1 == 3) = false := by rw [beq_eq_false_iff_ne]; exact h3
        go_upto_region 14 with (fail)
        have HSY := HSY4
        clear HSY4 b0c b0f b0z hblk k1 k2 k3
        have HZ : Hid (([] : List Int).length = 0 ∧ ∀ z ∈ ([] : List Int), -1 ≤ z ∧ z < (V : Int)) := Lib.hid ⟨rfl, fun z hz => by cases hz⟩
        obtain ⟨s0c, s0f, s0z⟩ := blk3 HSY.out.box
        obtain ⟨b0c, b0f, b0z⟩ := blk3 (own_block #[.bool false, .int .i64 p, .slice none 0 0] (HSY.out.owns.at (i := 4) rfl) rfl)
        have HAO := Lib.hid ((HSY.out.args hRB HZ.out.1 (by omega) HZ.out.2).sub rows_less)
        have HSYD := Lib.hid HSY.out.drop.drop
        clear HSY
        go_wp2_with (at_builtin; refine append_at_list (B := W0.heap.size) (W := W4.alloc (.cells #[.bool false, .int .i64 p, .slice none 0 0] 119)) rfl 1 (sRows V sb d ++ []) _ _ 89 119 (.agg #[.bool false, .int .i64 0, .slice none 0 0]) 3 40 rfl Try.underlying89 info119s rfl (by decide) (.slice d.CA d.C d.CC) d.C _ rfl (HSYD.out.owns.below ((Below.refl _ _).alloc (Nat.le_refl _) _)) rfl ⟨W4.heap.size, 0, none⟩ 1 1 [.bool false, .int .i64 p, .slice none 0 0] rfl rfl (new_cells _ _ _ _) (cell_one _ _ _ _ _) (by have := HSYD.out.below.size; simp; omega) (by rw [HDC.out.1]; omega) (by rw [HDC.out.1]; omega) ?_; intro A9 c9 w9 hg; have HSY9 := Lib.hid ((HSYD.out.next ((Below.refl _ _).alloc (Nat.le_refl _) (.cells #[.bool false, .int .i64 p, .slice none 0 0] 119))).cell hg rfl ⟨false, p, none, 0, 0, rfl, HPR.out.1, HPR.out.2, HAO.out.sub (sub_sans_below ((Below.refl _ _).alloc (Nat.le_refl _) _))⟩); obtain ⟨s9c, s9f, s9z⟩ := blk3 (own_block #[.int .i64 (V : Nat), .slice d.CA d.C d.CC, .slice d.KA d.K d.KC] (hg.owns.at (i := 0) rfl) rfl); clear hg s0c s0f s0z b0c b0f b0z)
        refine ⟨⟨i + 1, { d with C := d.C + 1, CA := A9, CC := c9, cxs := d.cxs ++ [.bool false, .int .i64 p, .slice none 0 0] }, by omega, by go_num, ⟨by show d.C + 1 = i + 1; rw [HDC.out.1], HDC.out.2⟩, HSY9.out⟩, by simp [intOf]; omega⟩
    · obtain rfl : nC = i := by omega
      have hnn : ¬ (nC : Int) < (nC : Int) := by omega
      go_wp2_with fail
      go_loopw [9] (fun v9 wr => ∃ (f : Nat) (d : SyD), f ≤ n ∧ v9 = .int .i64 (f : Nat) ∧ Hid (d.C = nC ∧ d.K ≤ f * 1002000) ∧ Hid (Sy W0 V nC sb (w.heap.size + 1) d [] wr)) (fun v9 _ => n - (intOf v9).toNat)
      case atStart => exact ⟨0, d, Nat.zero_le _, rfl, ⟨HDC.out.1, by rw [HDC.out.2]; exact Nat.zero_le _⟩, HSY.out⟩
      case round =>
        clear HSY HDC
        obtain ⟨f, d, hf, rfl, HDC, HSY⟩ := hrel
        obtain ⟨c0, f0, z0⟩ := blk3 (blk_below HMB.out HSY.out.below)
        by_cases hltf : f < n
        · have hltF : (f : Int) < (n : Int) := by omega
          have hf0 : (0 : Int) ≤ (f : Int) := by omega
          obtain ⟨fb, foff, fn, lv, sv, bv, rfl, hff, ⟨j0, j1, j2, j3, j4⟩, _, _, hbv⟩ := HF0.out.at hltf
          obtain ⟨ba, bl, bc, rfl, _, hbb⟩ := hbv
          have hfl := HMM.out.flat fn (List.mem_of_getElem? hff)
          have HFF := Lib.hid hff
          have HBB := Lib.hid hbb
          replace j4 := lift HSY.out.below j4
          clear hff hbb j0 j1 j2 j3
          go_wp2_with fail
          refine (rflat12G_calls W0 wr (sub_below HSY.out.below) fn.body ba bl bc HBB.out (by omega)).mono ?_
          rintro e w2 ⟨v, SN, rfl, hf2⟩
          have hlen := hf2.len
          obtain ⟨ixs, ho, hI⟩ := hf2.own
          obtain ⟨SA, SC, rfl, _, _⟩ := own_shape ho
          have HSY2 := Lib.hid (HSY.out.new hf2.below (r := ⟨49, 9, .slice SA SN SC, SN, ixs⟩) ho)
          have HI := Lib.hid hI
          have hSN : SN ≤ 1000 := by omega
          have HLEN := Lib.hid hlen
          clear ho hI hf2 hlen hfl HSY c0 f0 z0 j4 HBB
          go_wp2_with fail
          go_loopw [11] (fun v11 wr => ∃ (i : Nat) (d : SyD), i ≤ SN ∧ v11 = .int .i64 (i : Nat) ∧ Hid (d.C = nC ∧ d.K ≤ f * 1002000 + i * 1002) ∧ Hid (Sy W0 V nC sb (w.heap.size + 1) d [⟨49, 9, .slice SA SN SC, SN, ixs⟩] wr)) (fun v11 _ => SN - (intOf v11).toNat)
          case atStart =>
            have h9 : d.K ≤ f * 1002000 + 0 * 1002 := by rw [Nat.zero_mul, Nat.add_zero]; exact HDC.out.2
            refine ⟨0, d, Nat.zero_le _, rfl, ⟨HDC.out.1, ?_⟩, HSY2.out⟩
            exact h9
          case round =>
            clear HSY2 HDC
            obtain ⟨i, d, hi, rfl, HDC, HSY⟩ := hrel
            by_cases hlti : i < SN
            · have hltI : (i : Int) < (SN : Int) := by omega
              have hi0 : (0 : Int) ≤ (i : Int) := by omega
              have hKb : d.K ≤ 2000000000 := by have := HDC.out.2; omega
              obtain ⟨gS, rfl, _, _⟩ := own_addr (HSY.out.owns.at (i := 3) rfl) (by omega)
              obtain ⟨⟨dp, s⟩, hs⟩ : ∃ y, (flatT 1000 0 fn.body)[i]? = some y := ⟨_, List.getElem?_eq_getElem (by rw [HLEN.out]; exact hlti)⟩
              obtain ⟨k, ak, ai, bk, bi, args, body, aa, b2, al, ac, l2, c2, rfl, hra, x2, x3, x4, x5, x6, x7, x8⟩ := item9 (HSY.out.owns.at (i := 3) rfl) HI.out hs
              have hmemS := List.mem_of_getElem? hs
              have hok := HMM.out.ok f fn HFF.out _ hmemS
              have hal : al ≤ 1000 := by
                have h1 := HMM.out.args fn (List.mem_of_getElem? HFF.out) _ hmemS _ _ _ _ _ _ _ rfl
                have h2 := hra.1
                omega
              have HOK : Hid (okS M.globals.length fn.locals.length fn.sites.length M.funcs.length (.mk k ak ai bk bi args body)) := Lib.hid hok
              have HRA := Lib.hid hra
              clear hra hok hmemS hs
              have HSYX := Lib.hid (HSY.out.new ((Below.refl _ _).alloc (Nat.le_refl _) (.cells #[.int .u8 k, .int .u8 ak, .int .i64 ai, .int .u8 bk, .int .i64 bi, .slice aa al ac, .slice b2 l2 c2] 46)) (r := ⟨46, 7, .slice (some ⟨wr.heap.size, 0, none⟩) 1 1, 1, [.int .u8 k, .int .u8 ak, .int .i64 ai, .int .u8 bk, .int .i64 bi, .slice aa al ac, .slice b2 l2 c2]⟩) (own_one wr 46 7 #[.int .u8 k, .int .u8 ak, .int .i64 ai, .int .u8 bk, .int .i64 bi, .slice aa al ac, .slice b2 l2 c2] rfl))
              go_upto_region 23 with (fail)
              obtain ⟨xb, hxb⟩ : ∃ b, b = wr.heap.size := ⟨_, rfl⟩
              obtain ⟨W1, hW1⟩ : ∃ W, W = wr.alloc (.cells #[.int .u8 k, .int .u8 ak, .int .i64 ai, .int .u8 bk, .int .i64 bi, .slice aa al ac, .slice b2 l2 c2] 46) := ⟨_, rfl⟩
              rw [← hW1] at HSYX ⊢
              rw [← hxb] at HSYX ⊢
              clear hxb hW1 HSY x2 x3 x4 x5 x6 x7 x8
              obtain ⟨x0c, x0f, x0z⟩ := blk3 (own_block #[.int .u8 k, .int .u8 ak, .int .i64 ai, .int .u8 bk, .int .i64 bi, .slice aa al ac, .slice b2 l2 c2] (HSYX.out.owns.at (i := 3) rfl) rfl)
              go_wp2_with fail
              refine (of_calls W1 f ak ai).mono ?_
              rintro e w2' ⟨rfl, hb2⟩
              have HSY2 := Lib.hid (HSYX.out.next hb2)
              clear hb2 HSYX x0c x0f x0z
              go_wp2_with fail
              refine (find_calls w2' _ VA V VC L (ofT f ak ai) (own_below HVO.out HSY2.out.below) HVL.out hV4).mono ?_
              rintro e w3 ⟨rfl, hb3⟩
              have ha := placeT_range L (ofT (f : Int) ak ai)
              rw [← HVL.out] at ha
              obtain ⟨a, hae⟩ : ∃ q, q = placeT L (ofT (f : Int) ak ai) := ⟨_, rfl⟩
              rw [← hae] at ha ⊢
              have HAR := Lib.hid ha
              have HA0 : Hid (okV M.globals.length fn.locals.length ak ai → 0 ≤ a) := Lib.hid (fun h => by rw [hae]; exact placeT_mem (by rw [HLE.out]; exact in_vars HFF.out h))
              have HSY3 := Lib.hid (HSY2.out.next hb3)
              clear hb3 hae ha HSY2
              obtain ⟨x0c, x0f, x0z⟩ := blk3 (own_block #[.int .u8 k, .int .u8 ak, .int .i64 ai, .int .u8 bk, .int .i64 bi, .slice aa al ac, .slice b2 l2 c2] (HSY3.out.owns.at (i := 3) rfl) rfl)
              go_wp2_with fail
              refine (of_calls w3 f bk bi).mono ?_
              rintro e w4 ⟨rfl, hb4⟩
              have HSY4 := Lib.hid (HSY3.out.next hb4)
              clear hb4 HSY3 x0c x0f x0z
              go_wp2_with fail
              refine (find_calls w4 _ VA V VC L (ofT f bk bi) (own_below HVO.out HSY4.out.below) HVL.out hV4).mono ?_
              rintro e w5 ⟨rfl, hb5⟩
              have hb := placeT_range L (ofT (f : Int) bk bi)
              rw [← HVL.out] at hb
              obtain ⟨b, hbe⟩ : ∃ q, q = placeT L (ofT (f : Int) bk bi) := ⟨_, rfl⟩
              rw [← hbe] at hb ⊢
              have HBR := Lib.hid hb
              have HB0 : Hid (okV M.globals.length fn.locals.length bk bi → 0 ≤ b) := Lib.hid (fun h => by rw [hbe]; exact placeT_mem (by rw [HLE.out]; exact in_vars HFF.out h))
              have HSY5 := Lib.hid (HSY4.out.next hb5)
              clear hb5 hbe hb HSY4
              go_wp2_with fail
              refine (find_calls w5 _ VA V VC L (3, (f : Int), 0) (own_below HVO.out HSY5.out.below) HVL.out hV4).mono ?_
              rintro e W5 ⟨rfl, hb6⟩
              have hr := placeT_range L (3, (f : Int), 0)
              rw [← HVL.out] at hr
              obtain ⟨r, hre⟩ : ∃ q, q = placeT L (3, (f : Int), 0) := ⟨_, rfl⟩
              rw [← hre] at hr ⊢
              have HRR := Lib.hid hr
              have HSY := Lib.hid (HSY5.out.next hb6)
              clear hb6 hre hr HSY5
              obtain ⟨s0c, s0f, s0z⟩ := blk3 HSY.out.box
              obtain ⟨x0c, x0f, x0z⟩ := blk3 (own_block #[.int .u8 k, .int .u8 ak, .int .i64 ai, .int .u8 bk, .int .i64 bi, .slice aa al ac, .slice b2 l2 c2] (HSY.out.owns.at (i := 3) rfl) rfl)
              go_upto_region 27 with (fail)
              by_cases h1 : k = 1
              · as_aux_lemma =>
                  subst h1
                  have hok1 := HOK.out.1 rfl
                  have ha1 := HA0.out hok1.1
                  have HCQ := Lib.hid (placeT_mem (in_cells HFF.out hok1.2))
                  rw [← HDE.out] at HCQ
                  clear hok1
                  go_upto_region 28 with (fail)
                  have hS0 : (fun w' => w'.heap[sb]? = some (.cells #[.int .i64 (V : Nat), .slice d.CA d.C d.CC, .slice d.KA d.K d.KC] 92) ∧ w'.heap[xb]? = some (.cells #[.int .u8 1, .int .u8 ak, .int .i64 ai, .int .u8 bk, .int .i64 bi, .slice aa al ac, .slice b2 l2 c2] 46)) W5 := ⟨HSY.out.box, own_block #[.int .u8 1, .int .u8 ak, .int .i64 ai, .int .u8 bk, .int .i64 bi, .slice aa al ac, .slice b2 l2 c2] (HSY.out.owns.at (i := 3) rfl) rfl⟩
                  refine wp_region_HL (S := (fun w' => w'.heap[sb]? = some (.cells #[.int .i64 (V : Nat), .slice d.CA d.C d.CC, .slice d.KA d.K d.KC] 92) ∧ w'.heap[xb]? = some (.cells #[.int .u8 1, .int .u8 ak, .int .i64 ai, .int .u8 bk, .int .i64 bi, .slice aa al ac, .slice b2 l2 c2] 46))) 12 (by kernel_rfl) (by kernel_rfl) (by kernel_rfl) (by kernel_rfl) (by decide) hS0 (fun hHeld => ?_)
                  refine HL.take_ (i := 0) (oi := { dst := some 125, op := .fieldAddr 92 (.tmp 5) 2, type := 0, pos := "ref.go:96", after := #[], guard := none }) (v := ?_) rfl (by decide) (by kernel_rfl) (by kernel_rfl) (fun _ _ _ h => h) (Or.inl ⟨by rfl, ?_⟩) (by assumption) ?_
                  rotate_left
                  · intro w hSw
                    (try dsimp only at hSw)
                    (go_simp; try (with_reducible rfl))
                  try simp only [Act.put, List.setIfInBounds_toArray, List.set_cons_zero, List.set_cons_succ]
                  refine HL.take_ (i := 2) (oi := { dst := some 127, op := .move (.tmp 13), type := 3, pos := "ref.go:96", after := #[], guard := none }) (v := ?_) rfl (by decide) (by kernel_rfl) (by kernel_rfl) (fun _ _ _ h => h) (Or.inl ⟨by rfl, ?_⟩) (by assumption) ?_
                  rotate_left
                  · intro w hSw
                    (try dsimp only at hSw)
                    (go_simp; try (with_reducible rfl))
                  try simp only [Act.put, List.setIfInBounds_toArray, List.set_cons_zero, List.set_cons_succ]
                  refine HL.take_ (i := 3) (oi := { dst := some 128, op := .move (.tmp 4), type := 103, pos := "ref.go:96", after := #[], guard := none }) (v := ?_) rfl (by decide) (by kernel_rfl) (by kernel_rfl) (fun _ _ _ h => h) (Or.inl ⟨by rfl, ?_⟩) (by assumption) ?_
                  rotate_left
                  · intro w hSw
                    (try dsimp only at hSw)
                    (go_simp; try (with_reducible rfl))
                  try simp only [Act.put, List.setIfInBounds_toArray, List.set_cons_zero, List.set_cons_succ]
                  refine HL.take_ (i := 4) (oi := { dst := some 129, op := .move (.tmp 9), type := 3, pos := "ref.go:96", after := #[], guard := none }) (v := ?_) rfl (by decide) (by kernel_rfl) (by kernel_rfl) (fun _ _ _ h => h) (Or.inl ⟨by rfl, ?_⟩) (by assumption) ?_
                  rotate_left
                  · intro w hSw
                    (try dsimp only at hSw)
                    (go_simp; try (with_reducible rfl))
                  try simp only [Act.put, List.setIfInBounds_toArray, List.set_cons_zero, List.set_cons_succ]
                  refine HL.take_ (i := 5) (oi := { dst := some 130, op := .fieldAddr 46 (.tmp 12) 2, type := 0, pos := "ref.go:96", after := #[], guard := none }) (v := ?_) rfl (by decide) (by kernel_rfl) (by kernel_rfl) (fun _ _ _ h => h) (Or.inl ⟨by rfl, ?_⟩) (by assumption) ?_
                  rotate_left
                  · intro w hSw
                    (try dsimp only at hSw)
                    (go_simp; try (with_reducible rfl))
                  try simp only [Act.put, List.setIfInBounds_toArray, List.set_cons_zero, List.set_cons_succ]
                  refine HL.take_ (i := 1) (oi := { dst := some 126, op := .load 90 (.tmp 125), type := 90, pos := "ref.go:96", after := #[{ on := 0, ground := .data }], guard := none }) (v := ?_) rfl (by decide) (by kernel_rfl) (by kernel_rfl) (fun _ _ _ h => h) (Or.inl ⟨by rfl, ?_⟩) (by assumption) ?_
                  rotate_left
                  · intro w hSw
                    (try dsimp only at hSw)
                    obtain ⟨s1, s2⟩ := hSw; have s3 := (blk3 s1).1; have s4 := (blk3 s2).1; (go_simp; try (with_reducible rfl))
                  try simp only [Act.put, List.setIfInBounds_toArray, List.set_cons_zero, List.set_cons_succ]
                  refine HL.take_ (i := 6) (oi := { dst := some 131, op := .load 43 (.tmp 130), type := 43, pos := "ref.go:96", after := #[{ on := 5, ground := .data }], guard := none }) (v := ?_) rfl (by decide) (by kernel_rfl) (by kernel_rfl) (fun _ _ _ h => h) (Or.inl ⟨by rfl, ?_⟩) (by assumption) ?_
                  rotate_left
                  · intro w hSw
                    (try dsimp only at hSw)
                    obtain ⟨s1, s2⟩ := hSw; have s3 := (blk3 s1).1; have s4 := (blk3 s2).1; (go_simp; try (with_reducible rfl))
                  try simp only [Act.put, List.setIfInBounds_toArray, List.set_cons_zero, List.set_cons_succ]
                  refine HL.step_ (i := 7) (o := { dst := some 132, op := .call { callee := .value (.func 57), args := #[.tmp 129, .tmp 131], argTypes := #[3, 43] }, type := 107, pos := "ref.go:96", after := #[{ on := 4, ground := .data }, { on := 6, ground := .data }], guard := none }) rfl (by decide) (by kernel_rfl) (fun K hK => ?_)
                  go_simp
                  refine (of_calls W5.drew f bk bi).mono ?_
                  rintro e w6 ⟨rfl, hb6⟩
                  have HSY6 := Lib.hid ((HSY.out.next ((Below.refl _ _).drew)).next hb6)
                  have hS1 : (fun w' => w'.heap[sb]? = some (.cells #[.int .i64 (V : Nat), .slice d.CA d.C d.CC, .slice d.KA d.K d.KC] 92) ∧ w'.heap[xb]? = some (.cells #[.int .u8 1, .int .u8 ak, .int .i64 ai, .int .u8 bk, .int .i64 bi, .slice aa al ac, .slice b2 l2 c2] 46)) w6 := ⟨HSY6.out.box, own_block #[.int .u8 1, .int .u8 ak, .int .i64 ai, .int .u8 bk, .int .i64 bi, .slice aa al ac, .slice b2 l2 c2] (HSY6.out.owns.at (i := 3) rfl) rfl⟩
                  clear hb6
                  refine hK.out _ _ hS1 (fun hHeld => ?_)
                  clear hK K
                  try simp only [Act.put, List.setIfInBounds_toArray, List.set_cons_zero, List.set_cons_succ]
                  refine HL.step_ (i := 8) (o := { dst := some 133, op := .call { callee := .value (.func 56), args := #[.tmp 128, .tmp 132], argTypes := #[103, 107] }, type := 3, pos := "ref.go:96", after := #[{ on := 3, ground := .data }, { on := 7, ground := .data }, { on := 7, ground := .chain }], guard := none }) rfl (by decide) (by kernel_rfl) (fun K hK => ?_)
                  go_simp
                  refine (find_calls w6 _ DA nC DC D (ofT f bk bi) (own_below HDO.out HSY6.out.below) HDL.out hD4).mono ?_
                  rintro e w7 ⟨rfl, hb7⟩
                  have hq := placeT_range D (ofT (f : Int) bk bi)
                  rw [← HDL.out] at hq
                  obtain ⟨q, hqe⟩ : ∃ q, q = placeT D (ofT (f : Int) bk bi) := ⟨_, rfl⟩
                  rw [← hqe] at hq ⊢
                  have HQ := Lib.hid hq
                  have HQ0 : Hid (0 ≤ q) := Lib.hid (by rw [hqe]; exact HCQ.out)
                  have HSY7 := Lib.hid (HSY6.out.next hb7)
                  have hS2 : (fun w' => w'.heap[sb]? = some (.cells #[.int .i64 (V : Nat), .slice d.CA d.C d.CC, .slice d.KA d.K d.KC] 92) ∧ w'.heap[xb]? = some (.cells #[.int .u8 1, .int .u8 ak, .int .i64 ai, .int .u8 bk, .int .i64 bi, .slice aa al ac, .slice b2 l2 c2] 46)) w7 := ⟨HSY7.out.box, own_block #[.int .u8 1, .int .u8 ak, .int .i64 ai, .int .u8 bk, .int .i64 bi, .slice aa al ac, .slice b2 l2 c2] (HSY7.out.owns.at (i := 3) rfl) rfl⟩
                  clear hb7 hqe hq
                  refine hK.out _ _ hS2 (fun hHeld => ?_)
                  clear hK K
                  try simp only [Act.put, List.setIfInBounds_toArray, List.set_cons_zero, List.set_cons_succ]
                  refine HL.take_ (i := 9) (oi := { dst := some 134, op := .build 121 #[(0, .const (.int .u8 1)), (1, .tmp 127), (2, .tmp 133)], type := 121, pos := "ref.go:96", after := #[{ on := 2, ground := .data }, { on := 8, ground := .data }], guard := none }) (v := ?_) rfl (by decide) (by kernel_rfl) (by kernel_rfl) (fun _ _ _ h => h) (Or.inl ⟨by rfl, ?_⟩) (by assumption) ?_
                  rotate_left
                  · intro w hSw
                    (try dsimp only at hSw)
                    (go_simp; try (with_reducible rfl))
                  try simp only [Act.put, List.setIfInBounds_toArray, List.set_cons_zero, List.set_cons_succ]
                  refine HL.step_ (i := 10) (o := { dst := some 135, op := .buildSlice 90 1 #[(0, .tmp 134)], type := 90, pos := "ref.go:96", after := #[{ on := 9, ground := .data }], guard := none }) rfl (by decide) (by kernel_rfl) (fun K hK => ?_)
                  go_simp
                  refine hK.out _ _ ⟨blk_alloc hS2.1 _, blk_alloc hS2.2 _⟩ (fun hHeld => ?_)
                  clear hK K
                  try simp only [Act.put, List.setIfInBounds_toArray, List.set_cons_zero, List.set_cons_succ]
                  refine HL.step_ (i := 11) (o := { dst := some 136, op := .call { callee := .builtin .append, args := #[.tmp 126, .tmp 135], argTypes := #[90, 90] }, type := 90, pos := "ref.go:96", after := #[{ on := 1, ground := .data }, { on := 10, ground := .data }, { on := 8, ground := .chain }], guard := none }) rfl (by decide) (by kernel_rfl) (fun K hK => ?_)
                  rw [if_pos (by rfl)]
                  refine append_at (B := W0.heap.size) (W := w7.alloc (.cells #[.int .u8 1, .int .i64 a, .int .i64 q, .slice none 0 0] 121)) 2 (sRows V sb d ++ [⟨46, 7, .slice (some ⟨xb, 0, none⟩) 1 1, 1, [.int .u8 1, .int .u8 ak, .int .i64 ai, .int .u8 bk, .int .i64 bi, .slice aa al ac, .slice b2 l2 c2]⟩, ⟨49, 9, .slice (some ⟨gS, 0, none⟩) SN SC, SN, ixs⟩]) _ _ 90 121 (.agg #[.int .u8 0, .int .i64 0, .int .i64 0, .slice none 0 0]) 4 48 rfl Try.underlying90 info121s rfl (by decide) (.slice d.KA d.K d.KC) d.K _ rfl (HSY7.out.owns.below ((Below.refl _ _).alloc (Nat.le_refl _) _)) rfl ⟨w7.heap.size, 0, none⟩ 1 1 [.int .u8 1, .int .i64 a, .int .i64 q, .slice none 0 0] rfl rfl (new_cells _ _ _ _) (con_one _ _ _ _ _ _) (by have := HSY7.out.below.size; simp; omega) (by omega) (by omega) ?_
                  intro A9 c9 w9 hg
                  have hS3 : (fun w' => w'.heap[sb]? = some (.cells #[.int .i64 (V : Nat), .slice d.CA d.C d.CC, .slice d.KA d.K d.KC] 92) ∧ w'.heap[xb]? = some (.cells #[.int .u8 1, .int .u8 ak, .int .i64 ai, .int .u8 bk, .int .i64 bi, .slice aa al ac, .slice b2 l2 c2] 46)) w9 := ⟨own_block #[.int .i64 (V : Nat), .slice d.CA d.C d.CC, .slice d.KA d.K d.KC] (hg.owns.at (i := 0) rfl) rfl, own_block #[.int .u8 1, .int .u8 ak, .int .i64 ai, .int .u8 bk, .int .i64 bi, .slice aa al ac, .slice b2 l2 c2] (hg.owns.at (i := 3) rfl) rfl⟩
                  have HSY9 := Lib.hid ((HSY7.out.next ((Below.refl _ _).alloc (Nat.le_refl _) (.cells #[.int .u8 1, .int .i64 a, .int .i64 q, .slice none 0 0] 121))).con hg rfl (conOk1 ⟨ha1, HAR.out.2⟩ ⟨HQ0.out, HQ.out.2⟩))
                  clear hg hS1 hS2
                  refine hK.out _ _ hS3 (fun hHeld => ?_)
                  clear hK K
                  try simp only [Act.put, List.setIfInBounds_toArray, List.set_cons_zero, List.set_cons_succ]
                  refine HL.done_ (by kernel_rfl) ?_
                  simp only [List.drop_succ_cons, List.drop_zero]
                  obtain ⟨s9c, s9f, s9z⟩ := blk3 hS3.1
                  clear hHeld hS0 hS3
                  go_wp2_with fail
                  refine ⟨⟨i + 1, { d with K := d.K + 1, KA := A9, KC := c9, kxs := d.kxs ++ [.int .u8 1, .int .i64 a, .int .i64 q, .slice none 0 0] }, by omega, by go_num, ⟨HDC.out.1, by show d.K + 1 ≤ _; have := HDC.out.2; omega⟩, HSY9.out.drop⟩, by simp [intOf]; omega⟩
              · have h1' : (k == 1) = false := by rw [beq_eq_false_iff_ne]; exact h1
                by_cases h2 : k = 2
                · as_aux_lemma =>
                    subst h2
                    go_wp2_with (at_builtin; refine append_at_list (B := W0.heap.size) (W := W5.alloc (.cells #[.int .u8 2, .int .i64 a, .int .i64 b, .slice none 0 0] 121)) rfl 2 (sRows V sb d ++ [⟨46, 7, .slice (some ⟨xb, 0, none⟩) 1 1, 1, [.int .u8 2, .int .u8 ak, .int .i64 ai, .int .u8 bk, .int .i64 bi, .slice aa al ac, .slice b2 l2 c2]⟩, ⟨49, 9, .slice (some ⟨gS, 0, none⟩) SN SC, SN, ixs⟩]) _ _ 90 121 (.agg #[.int .u8 0, .int .i64 0, .int .i64 0, .slice none 0 0]) 4 48 rfl Try.underlying90 info121s rfl (by decide) (.slice d.KA d.K d.KC) d.K _ rfl (HSY.out.owns.below ((Below.refl _ _).alloc (Nat.le_refl _) _)) rfl ⟨W5.heap.size, 0, none⟩ 1 1 [.int .u8 2, .int .i64 a, .int .i64 b, .slice none 0 0] rfl rfl (new_cells _ _ _ _) (con_one _ _ _ _ _ _) (by have := HSY.out.below.size; simp; omega) (by omega) (by omega) ?_; intro A9 c9 w9 hg; have HSY9 := Lib.hid ((HSY.out.next ((Below.refl _ _).alloc (Nat.le_refl _) (.cells #[.int .u8 2, .int .i64 a, .int .i64 b, .slice none 0 0] 121))).con hg rfl (conOk2 HAR.out HBR.out)); obtain ⟨s9c, s9f, s9z⟩ := blk3 (own_block #[.int .i64 (V : Nat), .slice d.CA d.C d.CC, .slice d.KA d.K d.KC] (hg.owns.at (i := 0) rfl) rfl); clear hg s0c s0f s0z x0c x0f x0z)
                    refine ⟨⟨i + 1, { d with K := d.K + 1, KA := A9, KC := c9, kxs := d.kxs ++ [.int .u8 2, .int .i64 a, .int .i64 b, .slice none 0 0] }, by omega, by go_num, ⟨HDC.out.1, by show d.K + 1 ≤ _; have := HDC.out.2; omega⟩, HSY9.out.drop⟩, by simp [intOf]; omega⟩
                · have h2' : (k == 2) = false := by rw [beq_eq_false_iff_ne]; exact h2
                  by_cases h3 : k = 3
                  · as_aux_lemma =>
                      subst h3
                      have hb3 := HB0.out (HOK.out.2.1 rfl)
                      go_wp2_with (at_builtin; refine append_at_list (B := W0.heap.size) (W := W5.alloc (.cells #[.int .u8 3, .int .i64 a, .int .i64 b, .slice none 0 0] 121)) rfl 2 (sRows V sb d ++ [⟨46, 7, .slice (some ⟨xb, 0, none⟩) 1 1, 1, [.int .u8 3, .int .u8 ak, .int .i64 ai, .int .u8 bk, .int .i64 bi, .slice aa al ac, .slice b2 l2 c2]⟩, ⟨49, 9, .slice (some ⟨gS, 0, none⟩) SN SC, SN, ixs⟩]) _ _ 90 121 (.agg #[.int .u8 0, .int .i64 0, .int .i64 0, .slice none 0 0]) 4 48 rfl Try.underlying90 info121s rfl (by decide) (.slice d.KA d.K d.KC) d.K _ rfl (HSY.out.owns.below ((Below.refl _ _).alloc (Nat.le_refl _) _)) rfl ⟨W5.heap.size, 0, none⟩ 1 1 [.int .u8 3, .int .i64 a, .int .i64 b, .slice none 0 0] rfl rfl (new_cells _ _ _ _) (con_one _ _ _ _ _ _) (by have := HSY.out.below.size; simp; omega) (by omega) (by omega) ?_; intro A9 c9 w9 hg; have HSY9 := Lib.hid ((HSY.out.next ((Below.refl _ _).alloc (Nat.le_refl _) (.cells #[.int .u8 3, .int .i64 a, .int .i64 b, .slice none 0 0] 121))).con hg rfl (conOk3 HAR.out HBR.out hb3)); obtain ⟨s9c, s9f, s9z⟩ := blk3 (own_block #[.int .i64 (V : Nat), .slice d.CA d.C d.CC, .slice d.KA d.K d.KC] (hg.owns.at (i := 0) rfl) rfl); clear hg s0c s0f s0z x0c x0f x0z)
                      refine ⟨⟨i + 1, { d with K := d.K + 1, KA := A9, KC := c9, kxs := d.kxs ++ [.int .u8 3, .int .i64 a, .int .i64 b, .slice none 0 0] }, by omega, by go_num, ⟨HDC.out.1, by show d.K + 1 ≤ _; have := HDC.out.2; omega⟩, HSY9.out.drop⟩, by simp [intOf]; omega⟩
                  · have h3' : (k == 3) = false := by rw [beq_eq_false_iff_ne]; exact h3
                    by_cases h4 : k = 4
                    · as_aux_lemma =>
                        subst h4
                        have ha4 := HA0.out (HOK.out.2.2.1 rfl)
                        go_wp2_with (at_builtin; refine append_at_list (B := W0.heap.size) (W := W5.alloc (.cells #[.int .u8 4, .int .i64 a, .int .i64 b, .slice none 0 0] 121)) rfl 2 (sRows V sb d ++ [⟨46, 7, .slice (some ⟨xb, 0, none⟩) 1 1, 1, [.int .u8 4, .int .u8 ak, .int .i64 ai, .int .u8 bk, .int .i64 bi, .slice aa al ac, .slice b2 l2 c2]⟩, ⟨49, 9, .slice (some ⟨gS, 0, none⟩) SN SC, SN, ixs⟩]) _ _ 90 121 (.agg #[.int .u8 0, .int .i64 0, .int .i64 0, .slice none 0 0]) 4 48 rfl Try.underlying90 info121s rfl (by decide) (.slice d.KA d.K d.KC) d.K _ rfl (HSY.out.owns.below ((Below.refl _ _).alloc (Nat.le_refl _) _)) rfl ⟨W5.heap.size, 0, none⟩ 1 1 [.int .u8 4, .int .i64 a, .int .i64 b, .slice none 0 0] rfl rfl (new_cells _ _ _ _) (con_one _ _ _ _ _ _) (by have := HSY.out.below.size; simp; omega) (by omega) (by omega) ?_; intro A9 c9 w9 hg; have HSY9 := Lib.hid ((HSY.out.next ((Below.refl _ _).alloc (Nat.le_refl _) (.cells #[.int .u8 4, .int .i64 a, .int .i64 b, .slice none 0 0] 121))).con hg rfl (conOk4 HAR.out HBR.out ha4)); obtain ⟨s9c, s9f, s9z⟩ := blk3 (own_block #[.int .i64 (V : Nat), .slice d.CA d.C d.CC, .slice d.KA d.K d.KC] (hg.owns.at (i := 0) rfl) rfl); clear hg s0c s0f s0z x0c x0f x0z)
                        refine ⟨⟨i + 1, { d with K := d.K + 1, KA := A9, KC := c9, kxs := d.kxs ++ [.int .u8 4, .int .i64 a, .int .i64 b, .slice none 0 0] }, by omega, by go_num, ⟨HDC.out.1, by show d.K + 1 ≤ _; have := HDC.out.2; omega⟩, HSY9.out.drop⟩, by simp [intOf]; omega⟩
                    · have h4' : (k == 4) = false := by rw [beq_eq_false_iff_ne]; exact h4
                      by_cases h6 : k = 6
                      · as_aux_lemma =>
                          subst h6
                          go_wp2_with (at_builtin; refine append_at_list (B := W0.heap.size) (W := W5.alloc (.cells #[.int .u8 2, .int .i64 r, .int .i64 b, .slice none 0 0] 121)) rfl 2 (sRows V sb d ++ [⟨46, 7, .slice (some ⟨xb, 0, none⟩) 1 1, 1, [.int .u8 6, .int .u8 ak, .int .i64 ai, .int .u8 bk, .int .i64 bi, .slice aa al ac, .slice b2 l2 c2]⟩, ⟨49, 9, .slice (some ⟨gS, 0, none⟩) SN SC, SN, ixs⟩]) _ _ 90 121 (.agg #[.int .u8 0, .int .i64 0, .int .i64 0, .slice none 0 0]) 4 48 rfl Try.underlying90 info121s rfl (by decide) (.slice d.KA d.K d.KC) d.K _ rfl (HSY.out.owns.below ((Below.refl _ _).alloc (Nat.le_refl _) _)) rfl ⟨W5.heap.size, 0, none⟩ 1 1 [.int .u8 2, .int .i64 r, .int .i64 b, .slice none 0 0] rfl rfl (new_cells _ _ _ _) (con_one _ _ _ _ _ _) (by have := HSY.out.below.size; simp; omega) (by omega) (by omega) ?_; intro A9 c9 w9 hg; have HSY9 := Lib.hid ((HSY.out.next ((Below.refl _ _).alloc (Nat.le_refl _) (.cells #[.int .u8 2, .int .i64 r, .int .i64 b, .slice none 0 0] 121))).con hg rfl (conOk2 HRR.out HBR.out)); obtain ⟨s9c, s9f, s9z⟩ := blk3 (own_block #[.int .i64 (V : Nat), .slice d.CA d.C d.CC, .slice d.KA d.K d.KC] (hg.owns.at (i := 0) rfl) rfl); clear hg s0c s0f s0z x0c x0f x0z)
                          refine ⟨⟨i + 1, { d with K := d.K + 1, KA := A9, KC := c9, kxs := d.kxs ++ [.int .u8 2, .int .i64 r, .int .i64 b, .slice none 0 0] }, by omega, by go_num, ⟨HDC.out.1, by show d.K + 1 ≤ _; have := HDC.out.2; omega⟩, HSY9.out.drop⟩, by simp [intOf]; omega⟩
                      · have h6' : (k == 6) = false := by rw [beq_eq_false_iff_ne]; exact h6
                        by_cases h5 : k = 5
                        · as_aux_lemma =>
                            subst h5
                            go_wp2_with fail
                            clear s0c s0f s0z x0c x0f x0z
                            go_loopw [16, 17] (fun v16 v17 wr => ∃ (j : Nat) (A : Option Addr) (c : Nat) (zs : List Int), j ≤ al ∧ v17 = .int .i64 (j : Nat) ∧ v16 = .slice A j c ∧ Hid (zs.length = j ∧ ∀ z ∈ zs, -1 ≤ z ∧ z < (V : Int)) ∧ Hid (Sy W0 V nC sb (w.heap.size + 1) d [⟨3, 1, .slice A j c, j, ints zs⟩, ⟨46, 7, .slice (some ⟨xb, 0, none⟩) 1 1, 1, [.int .u8 5, .int .u8 ak, .int .i64 ai, .int .u8 bk, .int .i64 bi, .slice aa al ac, .slice b2 l2 c2]⟩, ⟨49, 9, .slice (some ⟨gS, 0, none⟩) SN SC, SN, ixs⟩] wr)) (fun _ v17 _ => al - (intOf v17).toNat)
                            case atStart => exact ⟨0, none, 0, [], Nat.zero_le _, rfl, rfl, ⟨rfl, fun z hz => by cases hz⟩, HSY.out.nilrow 3 1⟩
                            case round =>
                              clear HSY
                              obtain ⟨j, A, c, zs, hj, rfl, rfl, HZ, HSY⟩ := hrel
                              obtain ⟨x0c, x0f, x0z⟩ := blk3 (own_block #[.int .u8 5, .int .u8 ak, .int .i64 ai, .int .u8 bk, .int .i64 bi, .slice aa al ac, .slice b2 l2 c2] (HSY.out.owns.at (i := 4) rfl) rfl)
                              by_cases hltj : j < al
                              · have hltJ : (j : Int) < (al : Int) := by omega
                                have hj0 : (0 : Int) ≤ (j : Int) := by omega
                                obtain ⟨ab, ao, rfl, hac⟩ := HRA.out.2.2 (by omega)
                                obtain ⟨y1, y2⟩ := hac j hltj
                                obtain ⟨⟨rk, ri⟩, hrk⟩ : ∃ y, y = args.getD j (0, 0) := ⟨_, rfl⟩
                                rw [← hrk] at y1 y2
                                replace y1 := lift HSY.out.below y1
                                replace y2 := lift HSY.out.below y2
                                clear hac hrk
                                go_wp2_with fail
                                refine (of_calls wr f rk ri).mono ?_
                                rintro e w6 ⟨rfl, hb6⟩
                                have HSY6 := Lib.hid (HSY.out.next hb6)
                                clear hb6 HSY x0c x0f x0z y1 y2
                                go_wp2_with fail
                                refine (find_calls w6 _ VA V VC L (ofT f rk ri) (own_below HVO.out HSY6.out.below) HVL.out hV4).mono ?_
                                rintro e w7 ⟨rfl, hb7⟩
                                have hq := placeT_range L (ofT (f : Int) rk ri)
                                rw [← HVL.out] at hq
                                obtain ⟨q, hqe⟩ : ∃ q, q = placeT L (ofT (f : Int) rk ri) := ⟨_, rfl⟩
                                rw [← hqe] at hq ⊢
                                have HQ := Lib.hid hq
                                have HSY7 := Lib.hid (HSY6.out.next hb7)
                                clear hb7 hqe hq HSY6
                                go_wp2_with (at_builtin; refine append_at_list (B := W0.heap.size) (W := w7.alloc (.cells #[.int .i64 q] 3)) rfl 3 (sRows V sb d ++ [⟨3, 1, .slice A j c, j, ints zs⟩, ⟨46, 7, .slice (some ⟨xb, 0, none⟩) 1 1, 1, [.int .u8 5, .int .u8 ak, .int .i64 ai, .int .u8 bk, .int .i64 bi, .slice (some ⟨ab, ao, none⟩) al ac, .slice b2 l2 c2]⟩, ⟨49, 9, .slice (some ⟨gS, 0, none⟩) SN SC, SN, ixs⟩]) _ _ 29 3 (.int .i64 0) 1 8 rfl Try.underlying29 info3s rfl (by decide) (.slice A j c) j _ rfl (HSY7.out.owns.below ((Below.refl _ _).alloc (Nat.le_refl _) _)) rfl ⟨w7.heap.size, 0, none⟩ 1 1 [.int .i64 q] rfl rfl (new_cells _ _ _ _) (one_cell _ rfl) (by have := HSY7.out.below.size; simp; omega) (by omega) (by omega) ?_; intro A8 c8 w8 hg; have HSY8 := Lib.hid ((HSY7.out.next ((Below.refl _ _).alloc (Nat.le_refl _) (.cells #[.int .i64 q] 3))).grown hg); clear hg)
                                refine ⟨⟨j + 1, A8, c8, zs ++ [q], by omega, by go_num, rfl, ⟨by rw [List.length_append, HZ.out.1]; rfl, fun z hz => ?_⟩, ?_⟩, by simp [intOf]; omega⟩
                                · rcases List.mem_append.1 hz with hz | hz
                                  · exact HZ.out.2 z hz
                                  · rw [List.mem_singleton] at hz; rw [hz]; exact HQ.out
                                · show Sy _ _ _ _ _ _ _ _
                                  rw [ints_snoc]
                                  exact HSY8.out
                              · obtain rfl : al = j := by omega
                                have hnn : ¬ (al : Int) < (al : Int) := by omega
                                go_upto_if 202 with (fail)
                                go_cut [13] from 94 to 253 (fun v13 wx => ∃ a' : Int, v13 = .int .i64 a' ∧ Hid (-1 ≤ a' ∧ a' < (V : Int)) ∧ wx = wr)
                                case first =>
                                  by_cases hak : ak = 0
                                  · subst hak
                                    go_wp2_with fail
                                    go_meet
                                    case rel => exact ⟨-1, rfl, ⟨by omega, by omega⟩, rfl⟩
                                  · have hak' : (ak == 0) = false := by rw [beq_eq_false_iff_ne]; exact hak
                                    go_wp2_with fail
                                    go_meet
                                    case rel => exact ⟨a, rfl, HAR.out, rfl⟩
                                case rest =>
                                  obtain ⟨a', rfl, HA', hwc⟩ := hcut
                                  rw [hwc]
                                  clear hwc
                                  by_cases hbk : bk = 3
                                  · as_aux_lemma =>
                                      subst hbk
                                      go_wp2_with fail
                                      clear x0c x0f x0z
                                      go_loopw [18] (fun v18 wr => ∃ (j : Nat) (d' : SyD), j ≤ al ∧ v18 = .int .i64 (j : Nat) ∧ Hid (d'.C = nC ∧ d'.K = d.K + j) ∧ Hid (Sy W0 V nC sb (w.heap.size + 1) d' [⟨3, 1, .slice A al c, al, ints zs⟩, ⟨46, 7, .slice (some ⟨xb, 0, none⟩) 1 1, 1, [.int .u8 5, .int .u8 ak, .int .i64 ai, .int .u8 3, .int .i64 bi, .slice aa al ac, .slice b2 l2 c2]⟩, ⟨49, 9, .slice (some ⟨gS, 0, none⟩) SN SC, SN, ixs⟩] wr)) (fun v18 _ => al - (intOf v18).toNat)
                                      case atStart => exact ⟨0, d, Nat.zero_le _, rfl, ⟨HDC.out.1, rfl⟩, HSY.out⟩
                                      case round =>
                                        clear HSY
                                        obtain ⟨j, d', hj, rfl, HE, HSY⟩ := hrel
                                        have hKe : d'.K ≤ 3000000000 := by have := HE.out.2; omega
                                        by_cases hltj : j < al
                                        · as_aux_lemma =>
                                          have hltJ : (j : Int) < (al : Int) := by omega
                                          have hj0 : (0 : Int) ≤ (j : Int) := by omega
                                          obtain ⟨gA, rfl, _, _⟩ := own_addr (HSY.out.owns.at (i := 3) rfl) (by omega)
                                          obtain ⟨z, hz⟩ : ∃ z, zs[j]? = some z := ⟨_, List.getElem?_eq_getElem (by rw [HZ.out.1]; exact hltj)⟩
                                          have HZR := Lib.hid (HZ.out.2 z (List.mem_of_getElem? hz))
                                          have HZJ : Hid ((ints zs)[j]? = some (.int .i64 z)) := Lib.hid (by unfold ints; rw [List.getElem?_map, hz]; rfl)
                                          clear hz
                                          go_upto_region 50 with (fail)
                                          have hS0 : (fun w' => w'.heap[sb]? = some (.cells #[.int .i64 (V : Nat), .slice d'.CA d'.C d'.CC, .slice d'.KA d'.K d'.KC] 92) ∧ w'.heap[xb]? = some (.cells #[.int .u8 5, .int .u8 ak, .int .i64 ai, .int .u8 3, .int .i64 bi, .slice aa al ac, .slice b2 l2 c2] 46) ∧ w'.cell? ⟨gA, j, none⟩ = some (.int .i64 z)) wr := ⟨HSY.out.box, own_block #[.int .u8 5, .int .u8 ak, .int .i64 ai, .int .u8 3, .int .i64 bi, .slice aa al ac, .slice b2 l2 c2] (HSY.out.owns.at (i := 4) rfl) rfl, (row_cell (HSY.out.owns.at (i := 3) rfl) HZJ.out).1⟩
                                          refine wp_region_HL (S := (fun w' => w'.heap[sb]? = some (.cells #[.int .i64 (V : Nat), .slice d'.CA d'.C d'.CC, .slice d'.KA d'.K d'.KC] 92) ∧ w'.heap[xb]? = some (.cells #[.int .u8 5, .int .u8 ak, .int .i64 ai, .int .u8 3, .int .i64 bi, .slice aa al ac, .slice b2 l2 c2] 46) ∧ w'.cell? ⟨gA, j, none⟩ = some (.int .i64 z))) 16 (by kernel_rfl) (by kernel_rfl) (by kernel_rfl) (by kernel_rfl) (by decide) hS0 (fun hHeld => ?_)
                                          refine HL.take_ (i := 0) (oi := { dst := some 222, op := .fieldAddr 92 (.tmp 5) 2, type := 0, pos := "ref.go:118", after := #[], guard := none }) (v := ?_) rfl (by decide) (by kernel_rfl) (by kernel_rfl) (fun _ _ _ h => h) (Or.inl ⟨by rfl, ?_⟩) (by assumption) ?_
                                          rotate_left
                                          · intro w hSw
                                            (try dsimp only at hSw)
                                            (go_simp; try (with_reducible rfl))
                                          try simp only [Act.put, List.setIfInBounds_toArray, List.set_cons_zero, List.set_cons_succ]
                                          refine HL.take_ (i := 2) (oi := { dst := some 224, op := .move (.tmp 3), type := 103, pos := "ref.go:118", after := #[], guard := none }) (v := ?_) rfl (by decide) (by kernel_rfl) (by kernel_rfl) (fun _ _ _ h => h) (Or.inl ⟨by rfl, ?_⟩) (by assumption) ?_
                                          rotate_left
                                          · intro w hSw
                                            (try dsimp only at hSw)
                                            (go_simp; try (with_reducible rfl))
                                          try simp only [Act.put, List.setIfInBounds_toArray, List.set_cons_zero, List.set_cons_succ]
                                          refine HL.take_ (i := 3) (oi := { dst := some 225, op := .fieldAddr 46 (.tmp 12) 2, type := 0, pos := "ref.go:118", after := #[], guard := none }) (v := ?_) rfl (by decide) (by kernel_rfl) (by kernel_rfl) (fun _ _ _ h => h) (Or.inl ⟨by rfl, ?_⟩) (by assumption) ?_
                                          rotate_left
                                          · intro w hSw
                                            (try dsimp only at hSw)
                                            (go_simp; try (with_reducible rfl))
                                          try simp only [Act.put, List.setIfInBounds_toArray, List.set_cons_zero, List.set_cons_succ]
                                          refine HL.take_ (i := 4) (oi := { dst := some 226, op := .fieldAddr 43 (.tmp 225) 1, type := 0, pos := "ref.go:118", after := #[{ on := 3, ground := .data }], guard := none }) (v := ?_) rfl (by decide) (by kernel_rfl) (by kernel_rfl) (fun _ _ _ h => h) (Or.inl ⟨by rfl, ?_⟩) (by assumption) ?_
                                          rotate_left
                                          · intro w hSw
                                            (try dsimp only at hSw)
                                            (go_simp; try (with_reducible rfl))
                                          try simp only [Act.put, List.setIfInBounds_toArray, List.set_cons_zero, List.set_cons_succ]
                                          refine HL.take_ (i := 6) (oi := { dst := some 228, op := .move (.tmp 18), type := 3, pos := "ref.go:118", after := #[], guard := none }) (v := ?_) rfl (by decide) (by kernel_rfl) (by kernel_rfl) (fun _ _ _ h => h) (Or.inl ⟨by rfl, ?_⟩) (by assumption) ?_
                                          rotate_left
                                          · intro w hSw
                                            (try dsimp only at hSw)
                                            (go_simp; try (with_reducible rfl))
                                          try simp only [Act.put, List.setIfInBounds_toArray, List.set_cons_zero, List.set_cons_succ]
                                          refine HL.take_ (i := 9) (oi := { dst := some 231, op := .move (.tmp 16), type := 29, pos := "ref.go:118", after := #[], guard := none }) (v := ?_) rfl (by decide) (by kernel_rfl) (by kernel_rfl) (fun _ _ _ h => h) (Or.inl ⟨by rfl, ?_⟩) (by assumption) ?_
                                          rotate_left
                                          · intro w hSw
                                            (try dsimp only at hSw)
                                            (go_simp; try (with_reducible rfl))
                                          try simp only [Act.put, List.setIfInBounds_toArray, List.set_cons_zero, List.set_cons_succ]
                                          refine HL.take_ (i := 10) (oi := { dst := some 232, op := .move (.tmp 18), type := 3, pos := "ref.go:118", after := #[], guard := none }) (v := ?_) rfl (by decide) (by kernel_rfl) (by kernel_rfl) (fun _ _ _ h => h) (Or.inl ⟨by rfl, ?_⟩) (by assumption) ?_
                                          rotate_left
                                          · intro w hSw
                                            (try dsimp only at hSw)
                                            (go_simp; try (with_reducible rfl))
                                          try simp only [Act.put, List.setIfInBounds_toArray, List.set_cons_zero, List.set_cons_succ]
                                          refine HL.take_ (i := 11) (oi := { dst := some 233, op := .indexAddr 29 (.tmp 231) (.tmp 232), type := 0, pos := "ref.go:118", after := #[{ on := 9, ground := .data }, { on := 10, ground := .data }], guard := none }) (v := ?_) rfl (by decide) (by kernel_rfl) (by kernel_rfl) (fun _ _ _ h => h) (Or.inl ⟨by rfl, ?_⟩) (by assumption) ?_
                                          rotate_left
                                          · intro w hSw
                                            (try dsimp only at hSw)
                                            (go_simp; try (with_reducible rfl))
                                          try simp only [Act.put, List.setIfInBounds_toArray, List.set_cons_zero, List.set_cons_succ]
                                          refine HL.take_ (i := 1) (oi := { dst := some 223, op := .load 90 (.tmp 222), type := 90, pos := "ref.go:118", after := #[{ on := 0, ground := .data }], guard := none }) (v := ?_) rfl (by decide) (by kernel_rfl) (by kernel_rfl) (fun _ _ _ h => h) (Or.inl ⟨by rfl, ?_⟩) (by assumption) ?_
                                          rotate_left
                                          · intro w hSw
                                            (try dsimp only at hSw)
                                            obtain ⟨s1, s2, s5⟩ := hSw; have s3 := (blk3 s1).1; have s4 := (blk3 s2).1; (go_simp; try (with_reducible rfl))
                                          try simp only [Act.put, List.setIfInBounds_toArray, List.set_cons_zero, List.set_cons_succ]
                                          refine HL.take_ (i := 5) (oi := { dst := some 227, op := .load 3 (.tmp 226), type := 3, pos := "ref.go:118", after := #[{ on := 4, ground := .data }], guard := none }) (v := ?_) rfl (by decide) (by kernel_rfl) (by kernel_rfl) (fun _ _ _ h => h) (Or.inl ⟨by rfl, ?_⟩) (by assumption) ?_
                                          rotate_left
                                          · intro w hSw
                                            (try dsimp only at hSw)
                                            obtain ⟨s1, s2, s5⟩ := hSw; have s3 := (blk3 s1).1; have s4 := (blk3 s2).1; (go_simp; try (with_reducible rfl))
                                          try simp only [Act.put, List.setIfInBounds_toArray, List.set_cons_zero, List.set_cons_succ]
                                          refine HL.take_ (i := 12) (oi := { dst := some 234, op := .load 3 (.tmp 233), type := 3, pos := "ref.go:118", after := #[{ on := 11, ground := .data }], guard := none }) (v := ?_) rfl (by decide) (by kernel_rfl) (by kernel_rfl) (fun _ _ _ h => h) (Or.inl ⟨by rfl, ?_⟩) (by assumption) ?_
                                          rotate_left
                                          · intro w hSw
                                            (try dsimp only at hSw)
                                            obtain ⟨s1, s2, s5⟩ := hSw; have s3 := (blk3 s1).1; have s4 := (blk3 s2).1; (go_simp; try (with_reducible rfl))
                                          try simp only [Act.put, List.setIfInBounds_toArray, List.set_cons_zero, List.set_cons_succ]
                                          refine HL.take_ (i := 7) (oi := { dst := some 229, op := .build 107 #[(0, .const (.int .u8 1)), (1, .tmp 227), (2, .tmp 228)], type := 107, pos := "ref.go:118", after := #[{ on := 5, ground := .data }, { on := 6, ground := .data }], guard := none }) (v := ?_) rfl (by decide) (by kernel_rfl) (by kernel_rfl) (fun _ _ _ h => h) (Or.inl ⟨by rfl, ?_⟩) (by assumption) ?_
                                          rotate_left
                                          · intro w hSw
                                            (try dsimp only at hSw)
                                            obtain ⟨s1, s2, s5⟩ := hSw; have s3 := (blk3 s1).1; have s4 := (blk3 s2).1; (go_simp; try (with_reducible rfl))
                                          try simp only [Act.put, List.setIfInBounds_toArray, List.set_cons_zero, List.set_cons_succ]
                                          refine HL.step_ (i := 8) (o := { dst := some 230, op := .call { callee := .value (.func 56), args := #[.tmp 224, .tmp 229], argTypes := #[103, 107] }, type := 3, pos := "ref.go:118", after := #[{ on := 2, ground := .data }, { on := 7, ground := .data }], guard := none }) rfl (by decide) (by kernel_rfl) (fun K hK => ?_)
                                          go_simp
                                          refine (find_calls wr.drew _ VA V VC L (1, bi, (j : Int)) (own_below HVO.out (HSY.out.below.trans (Below.refl _ _).drew)) HVL.out hV4).mono ?_
                                          rintro e w6 ⟨rfl, hb6⟩
                                          have hq := placeT_range L (1, bi, (j : Int))
                                          rw [← HVL.out] at hq
                                          obtain ⟨q, hqe⟩ : ∃ q, q = placeT L (1, bi, (j : Int)) := ⟨_, rfl⟩
                                          rw [← hqe] at hq ⊢
                                          have HQ := Lib.hid hq
                                          have HSY6 := Lib.hid ((HSY.out.next ((Below.refl _ _).drew)).next hb6)
                                          have hS1 : (fun w' => w'.heap[sb]? = some (.cells #[.int .i64 (V : Nat), .slice d'.CA d'.C d'.CC, .slice d'.KA d'.K d'.KC] 92) ∧ w'.heap[xb]? = some (.cells #[.int .u8 5, .int .u8 ak, .int .i64 ai, .int .u8 3, .int .i64 bi, .slice aa al ac, .slice b2 l2 c2] 46) ∧ w'.cell? ⟨gA, j, none⟩ = some (.int .i64 z)) w6 := ⟨HSY6.out.box, own_block #[.int .u8 5, .int .u8 ak, .int .i64 ai, .int .u8 3, .int .i64 bi, .slice aa al ac, .slice b2 l2 c2] (HSY6.out.owns.at (i := 4) rfl) rfl, (row_cell (HSY6.out.owns.at (i := 3) rfl) HZJ.out).1⟩
                                          clear hb6 hqe hq
                                          refine hK.out _ _ hS1 (fun hHeld => ?_)
                                          clear hK K
                                          try simp only [Act.put, List.setIfInBounds_toArray, List.set_cons_zero, List.set_cons_succ]
                                          refine HL.take_ (i := 13) (oi := { dst := some 235, op := .build 121 #[(0, .const (.int .u8 2)), (1, .tmp 230), (2, .tmp 234)], type := 121, pos := "ref.go:118", after := #[{ on := 8, ground := .data }, { on := 12, ground := .data }], guard := none }) (v := ?_) rfl (by decide) (by kernel_rfl) (by kernel_rfl) (fun _ _ _ h => h) (Or.inl ⟨by rfl, ?_⟩) (by assumption) ?_
                                          rotate_left
                                          · intro w hSw
                                            (try dsimp only at hSw)
                                            (go_simp; try (with_reducible rfl))
                                          try simp only [Act.put, List.setIfInBounds_toArray, List.set_cons_zero, List.set_cons_succ]
                                          refine HL.step_ (i := 14) (o := { dst := some 236, op := .buildSlice 90 1 #[(0, .tmp 235)], type := 90, pos := "ref.go:118", after := #[{ on := 13, ground := .data }], guard := none }) rfl (by decide) (by kernel_rfl) (fun K hK => ?_)
                                          go_simp
                                          refine hK.out _ _ ⟨blk_alloc hS1.1 _, blk_alloc hS1.2.1 _, lift ((Below.refl _ _).alloc (Nat.le_refl _) _) hS1.2.2⟩ (fun hHeld => ?_)
                                          clear hK K
                                          try simp only [Act.put, List.setIfInBounds_toArray, List.set_cons_zero, List.set_cons_succ]
                                          refine HL.step_ (i := 15) (o := { dst := some 237, op := .call { callee := .builtin .append, args := #[.tmp 223, .tmp 236], argTypes := #[90, 90] }, type := 90, pos := "ref.go:118", after := #[{ on := 1, ground := .data }, { on := 14, ground := .data }, { on := 8, ground := .chain }], guard := none }) rfl (by decide) (by kernel_rfl) (fun K hK => ?_)
                                          rw [if_pos (by rfl)]
                                          refine append_at (B := W0.heap.size) (W := w6.alloc (.cells #[.int .u8 2, .int .i64 q, .int .i64 z, .slice none 0 0] 121)) 2 (sRows V sb d' ++ [⟨3, 1, .slice (some ⟨gA, 0, none⟩) al c, al, ints zs⟩, ⟨46, 7, .slice (some ⟨xb, 0, none⟩) 1 1, 1, [.int .u8 5, .int .u8 ak, .int .i64 ai, .int .u8 3, .int .i64 bi, .slice aa al ac, .slice b2 l2 c2]⟩, ⟨49, 9, .slice (some ⟨gS, 0, none⟩) SN SC, SN, ixs⟩]) _ _ 90 121 (.agg #[.int .u8 0, .int .i64 0, .int .i64 0, .slice none 0 0]) 4 48 rfl Try.underlying90 info121s rfl (by decide) (.slice d'.KA d'.K d'.KC) d'.K _ rfl (HSY6.out.owns.below ((Below.refl _ _).alloc (Nat.le_refl _) _)) rfl ⟨w6.heap.size, 0, none⟩ 1 1 [.int .u8 2, .int .i64 q, .int .i64 z, .slice none 0 0] rfl rfl (new_cells _ _ _ _) (con_one _ _ _ _ _ _) (by have := HSY6.out.below.size; simp; omega) (by omega) (by omega) ?_
                                          intro A9 c9 w9 hg
                                          have hS2 : (fun w' => w'.heap[sb]? = some (.cells #[.int .i64 (V : Nat), .slice d'.CA d'.C d'.CC, .slice d'.KA d'.K d'.KC] 92) ∧ w'.heap[xb]? = some (.cells #[.int .u8 5, .int .u8 ak, .int .i64 ai, .int .u8 3, .int .i64 bi, .slice aa al ac, .slice b2 l2 c2] 46) ∧ w'.cell? ⟨gA, j, none⟩ = some (.int .i64 z)) w9 := ⟨own_block #[.int .i64 (V : Nat), .slice d'.CA d'.C d'.CC, .slice d'.KA d'.K d'.KC] (hg.owns.at (i := 0) rfl) rfl, own_block #[.int .u8 5, .int .u8 ak, .int .i64 ai, .int .u8 3, .int .i64 bi, .slice aa al ac, .slice b2 l2 c2] (hg.owns.at (i := 4) rfl) rfl, (row_cell (hg.owns.at (i := 3) rfl) HZJ.out).1⟩
                                          have HSY9 := Lib.hid ((HSY6.out.next ((Below.refl _ _).alloc (Nat.le_refl _) (.cells #[.int .u8 2, .int .i64 q, .int .i64 z, .slice none 0 0] 121))).con hg rfl (conOk2 HQ.out HZR.out))
                                          clear hg hS1
                                          refine hK.out _ _ hS2 (fun hHeld => ?_)
                                          clear hK K
                                          try simp only [Act.put, List.setIfInBounds_toArray, List.set_cons_zero, List.set_cons_succ]
                                          refine HL.done_ (by kernel_rfl) ?_
                                          simp only [List.drop_succ_cons, List.drop_zero]
                                          obtain ⟨s9c, s9f, s9z⟩ := blk3 hS2.1
                                          clear hHeld hS0 hS2
                                          go_wp2_with fail
                                          refine ⟨⟨j + 1, { d' with K := d'.K + 1, KA := A9, KC := c9, kxs := d'.kxs ++ [.int .u8 2, .int .i64 q, .int .i64 z, .slice none 0 0] }, by omega, by go_num, ⟨HE.out.1, by show d'.K + 1 = _; have := HE.out.2; omega⟩, HSY9.out⟩, by simp [intOf]; omega⟩
                                        · obtain rfl : al = j := by omega
                                          have hnn : ¬ (al : Int) < (al : Int) := by omega
                                          by_cases ha0 : 0 ≤ a'
                                          · as_aux_lemma =>
                                            have ha0' : a' ≥ 0 := ha0
                                            go_upto_region 52 with (fail)
                                            have hS0 : (fun w' => w'.heap[sb]? = some (.cells #[.int .i64 (V : Nat), .slice d'.CA d'.C d'.CC, .slice d'.KA d'.K d'.KC] 92) ∧ w'.heap[xb]? = some (.cells #[.int .u8 5, .int .u8 ak, .int .i64 ai, .int .u8 3, .int .i64 bi, .slice aa al ac, .slice b2 l2 c2] 46)) wr := ⟨HSY.out.box, own_block #[.int .u8 5, .int .u8 ak, .int .i64 ai, .int .u8 3, .int .i64 bi, .slice aa al ac, .slice b2 l2 c2] (HSY.out.owns.at (i := 4) rfl) rfl⟩
                                            refine wp_region_HL (S := (fun w' => w'.heap[sb]? = some (.cells #[.int .i64 (V : Nat), .slice d'.CA d'.C d'.CC, .slice d'.KA d'.K d'.KC] 92) ∧ w'.heap[xb]? = some (.cells #[.int .u8 5, .int .u8 ak, .int .i64 ai, .int .u8 3, .int .i64 bi, .slice aa al ac, .slice b2 l2 c2] 46))) 12 (by kernel_rfl) (by kernel_rfl) (by kernel_rfl) (by kernel_rfl) (by decide) hS0 (fun hHeld => ?_)
                                            refine HL.take_ (i := 0) (oi := { dst := some 241, op := .fieldAddr 92 (.tmp 5) 2, type := 0, pos := "ref.go:121", after := #[], guard := none }) (v := ?_) rfl (by decide) (by kernel_rfl) (by kernel_rfl) (fun _ _ _ h => h) (Or.inl ⟨by rfl, ?_⟩) (by assumption) ?_
                                            rotate_left
                                            · intro w hSw
                                              (try dsimp only at hSw)
                                              (go_simp; try (with_reducible rfl))
                                            try simp only [Act.put, List.setIfInBounds_toArray, List.set_cons_zero, List.set_cons_succ]
                                            refine HL.take_ (i := 2) (oi := { dst := some 243, op := .move (.tmp 13), type := 3, pos := "ref.go:121", after := #[], guard := none }) (v := ?_) rfl (by decide) (by kernel_rfl) (by kernel_rfl) (fun _ _ _ h => h) (Or.inl ⟨by rfl, ?_⟩) (by assumption) ?_
                                            rotate_left
                                            · intro w hSw
                                              (try dsimp only at hSw)
                                              (go_simp; try (with_reducible rfl))
                                            try simp only [Act.put, List.setIfInBounds_toArray, List.set_cons_zero, List.set_cons_succ]
                                            refine HL.take_ (i := 3) (oi := { dst := some 244, op := .move (.tmp 3), type := 103, pos := "ref.go:121", after := #[], guard := none }) (v := ?_) rfl (by decide) (by kernel_rfl) (by kernel_rfl) (fun _ _ _ h => h) (Or.inl ⟨by rfl, ?_⟩) (by assumption) ?_
                                            rotate_left
                                            · intro w hSw
                                              (try dsimp only at hSw)
                                              (go_simp; try (with_reducible rfl))
                                            try simp only [Act.put, List.setIfInBounds_toArray, List.set_cons_zero, List.set_cons_succ]
                                            refine HL.take_ (i := 4) (oi := { dst := some 245, op := .fieldAddr 46 (.tmp 12) 2, type := 0, pos := "ref.go:121", after := #[], guard := none }) (v := ?_) rfl (by decide) (by kernel_rfl) (by kernel_rfl) (fun _ _ _ h => h) (Or.inl ⟨by rfl, ?_⟩) (by assumption) ?_
                                            rotate_left
                                            · intro w hSw
                                              (try dsimp only at hSw)
                                              (go_simp; try (with_reducible rfl))
                                            try simp only [Act.put, List.setIfInBounds_toArray, List.set_cons_zero, List.set_cons_succ]
                                            refine HL.take_ (i := 5) (oi := { dst := some 246, op := .fieldAddr 43 (.tmp 245) 1, type := 0, pos := "ref.go:121", after := #[{ on := 4, ground := .data }], guard := none }) (v := ?_) rfl (by decide) (by kernel_rfl) (by kernel_rfl) (fun _ _ _ h => h) (Or.inl ⟨by rfl, ?_⟩) (by assumption) ?_
                                            rotate_left
                                            · intro w hSw
                                              (try dsimp only at hSw)
                                              (go_simp; try (with_reducible rfl))
                                            try simp only [Act.put, List.setIfInBounds_toArray, List.set_cons_zero, List.set_cons_succ]
                                            refine HL.take_ (i := 1) (oi := { dst := some 242, op := .load 90 (.tmp 241), type := 90, pos := "ref.go:121", after := #[{ on := 0, ground := .data }], guard := none }) (v := ?_) rfl (by decide) (by kernel_rfl) (by kernel_rfl) (fun _ _ _ h => h) (Or.inl ⟨by rfl, ?_⟩) (by assumption) ?_
                                            rotate_left
                                            · intro w hSw
                                              (try dsimp only at hSw)
                                              obtain ⟨s1, s2⟩ := hSw; have s3 := (blk3 s1).1; have s4 := (blk3 s2).1; (go_simp; try (with_reducible rfl))
                                            try simp only [Act.put, List.setIfInBounds_toArray, List.set_cons_zero, List.set_cons_succ]
                                            refine HL.take_ (i := 6) (oi := { dst := some 247, op := .load 3 (.tmp 246), type := 3, pos := "ref.go:121", after := #[{ on := 5, ground := .data }], guard := none }) (v := ?_) rfl (by decide) (by kernel_rfl) (by kernel_rfl) (fun _ _ _ h => h) (Or.inl ⟨by rfl, ?_⟩) (by assumption) ?_
                                            rotate_left
                                            · intro w hSw
                                              (try dsimp only at hSw)
                                              obtain ⟨s1, s2⟩ := hSw; have s3 := (blk3 s1).1; have s4 := (blk3 s2).1; (go_simp; try (with_reducible rfl))
                                            try simp only [Act.put, List.setIfInBounds_toArray, List.set_cons_zero, List.set_cons_succ]
                                            refine HL.take_ (i := 7) (oi := { dst := some 248, op := .build 107 #[(0, .const (.int .u8 3)), (1, .tmp 247), (2, .const (.int .i64 0))], type := 107, pos := "ref.go:121", after := #[{ on := 6, ground := .data }], guard := none }) (v := ?_) rfl (by decide) (by kernel_rfl) (by kernel_rfl) (fun _ _ _ h => h) (Or.inl ⟨by rfl, ?_⟩) (by assumption) ?_
                                            rotate_left
                                            · intro w hSw
                                              (try dsimp only at hSw)
                                              obtain ⟨s1, s2⟩ := hSw; have s3 := (blk3 s1).1; have s4 := (blk3 s2).1; (go_simp; try (with_reducible rfl))
                                            try simp only [Act.put, List.setIfInBounds_toArray, List.set_cons_zero, List.set_cons_succ]
                                            refine HL.step_ (i := 8) (o := { dst := some 249, op := .call { callee := .value (.func 56), args := #[.tmp 244, .tmp 248], argTypes := #[103, 107] }, type := 3, pos := "ref.go:121", after := #[{ on := 3, ground := .data }, { on := 7, ground := .data }], guard := none }) rfl (by decide) (by kernel_rfl) (fun K hK => ?_)
                                            go_simp
                                            refine (find_calls wr.drew _ VA V VC L (3, bi, 0) (own_below HVO.out (HSY.out.below.trans (Below.refl _ _).drew)) HVL.out hV4).mono ?_
                                            rintro e w6 ⟨rfl, hb6⟩
                                            have hq := placeT_range L (3, bi, 0)
                                            rw [← HVL.out] at hq
                                            obtain ⟨q, hqe⟩ : ∃ q, q = placeT L (3, bi, 0) := ⟨_, rfl⟩
                                            rw [← hqe] at hq ⊢
                                            have HQ := Lib.hid hq
                                            have HSY6 := Lib.hid ((HSY.out.next ((Below.refl _ _).drew)).next hb6)
                                            have hS1 : (fun w' => w'.heap[sb]? = some (.cells #[.int .i64 (V : Nat), .slice d'.CA d'.C d'.CC, .slice d'.KA d'.K d'.KC] 92) ∧ w'.heap[xb]? = some (.cells #[.int .u8 5, .int .u8 ak, .int .i64 ai, .int .u8 3, .int .i64 bi, .slice aa al ac, .slice b2 l2 c2] 46)) w6 := ⟨HSY6.out.box, own_block #[.int .u8 5, .int .u8 ak, .int .i64 ai, .int .u8 3, .int .i64 bi, .slice aa al ac, .slice b2 l2 c2] (HSY6.out.owns.at (i := 4) rfl) rfl⟩
                                            clear hb6 hqe hq
                                            refine hK.out _ _ hS1 (fun hHeld => ?_)
                                            clear hK K
                                            try simp only [Act.put, List.setIfInBounds_toArray, List.set_cons_zero, List.set_cons_succ]
                                            refine HL.take_ (i := 9) (oi := { dst := some 250, op := .build 121 #[(0, .const (.int .u8 2)), (1, .tmp 243), (2, .tmp 249)], type := 121, pos := "ref.go:121", after := #[{ on := 2, ground := .data }, { on := 8, ground := .data }], guard := none }) (v := ?_) rfl (by decide) (by kernel_rfl) (by kernel_rfl) (fun _ _ _ h => h) (Or.inl ⟨by rfl, ?_⟩) (by assumption) ?_
                                            rotate_left
                                            · intro w hSw
                                              (try dsimp only at hSw)
                                              (go_simp; try (with_reducible rfl))
                                            try simp only [Act.put, List.setIfInBounds_toArray, List.set_cons_zero, List.set_cons_succ]
                                            refine HL.step_ (i := 10) (o := { dst := some 251, op := .buildSlice 90 1 #[(0, .tmp 250)], type := 90, pos := "ref.go:121", after := #[{ on := 9, ground := .data }], guard := none }) rfl (by decide) (by kernel_rfl) (fun K hK => ?_)
                                            go_simp
                                            refine hK.out _ _ ⟨blk_alloc hS1.1 _, blk_alloc hS1.2 _⟩ (fun hHeld => ?_)
                                            clear hK K
                                            try simp only [Act.put, List.setIfInBounds_toArray, List.set_cons_zero, List.set_cons_succ]
                                            refine HL.step_ (i := 11) (o := { dst := some 252, op := .call { callee := .builtin .append, args := #[.tmp 242, .tmp 251], argTypes := #[90, 90] }, type := 90, pos := "ref.go:121", after := #[{ on := 1, ground := .data }, { on := 10, ground := .data }, { on := 8, ground := .chain }], guard := none }) rfl (by decide) (by kernel_rfl) (fun K hK => ?_)
                                            rw [if_pos (by rfl)]
                                            refine append_at (B := W0.heap.size) (W := w6.alloc (.cells #[.int .u8 2, .int .i64 a', .int .i64 q, .slice none 0 0] 121)) 2 (sRows V sb d' ++ [⟨3, 1, .slice A al c, al, ints zs⟩, ⟨46, 7, .slice (some ⟨xb, 0, none⟩) 1 1, 1, [.int .u8 5, .int .u8 ak, .int .i64 ai, .int .u8 3, .int .i64 bi, .slice aa al ac, .slice b2 l2 c2]⟩, ⟨49, 9, .slice (some ⟨gS, 0, none⟩) SN SC, SN, ixs⟩]) _ _ 90 121 (.agg #[.int .u8 0, .int .i64 0, .int .i64 0, .slice none 0 0]) 4 48 rfl Try.underlying90 info121s rfl (by decide) (.slice d'.KA d'.K d'.KC) d'.K _ rfl (HSY6.out.owns.below ((Below.refl _ _).alloc (Nat.le_refl _) _)) rfl ⟨w6.heap.size, 0, none⟩ 1 1 [.int .u8 2, .int .i64 a', .int .i64 q, .slice none 0 0] rfl rfl (new_cells _ _ _ _) (con_one _ _ _ _ _ _) (by have := HSY6.out.below.size; simp; omega) (by omega) (by omega) ?_
                                            intro A9 c9 w9 hg
                                            have hS2 : (fun w' => w'.heap[sb]? = some (.cells #[.int .i64 (V : Nat), .slice d'.CA d'.C d'.CC, .slice d'.KA d'.K d'.KC] 92) ∧ w'.heap[xb]? = some (.cells #[.int .u8 5, .int .u8 ak, .int .i64 ai, .int .u8 3, .int .i64 bi, .slice aa al ac, .slice b2 l2 c2] 46)) w9 := ⟨own_block #[.int .i64 (V : Nat), .slice d'.CA d'.C d'.CC, .slice d'.KA d'.K d'.KC] (hg.owns.at (i := 0) rfl) rfl, own_block #[.int .u8 5, .int .u8 ak, .int .i64 ai, .int .u8 3, .int .i64 bi, .slice aa al ac, .slice b2 l2 c2] (hg.owns.at (i := 4) rfl) rfl⟩
                                            have HSY9 := Lib.hid ((HSY6.out.next ((Below.refl _ _).alloc (Nat.le_refl _) (.cells #[.int .u8 2, .int .i64 a', .int .i64 q, .slice none 0 0] 121))).con hg rfl (conOk2 HA'.out HQ.out))
                                            clear hg hS1
                                            refine hK.out _ _ hS2 (fun hHeld => ?_)
                                            clear hK K
                                            try simp only [Act.put, List.setIfInBounds_toArray, List.set_cons_zero, List.set_cons_succ]
                                            refine HL.done_ (by kernel_rfl) ?_
                                            simp only [List.drop_succ_cons, List.drop_zero]
                                            obtain ⟨s9c, s9f, s9z⟩ := blk3 hS2.1
                                            clear hHeld hS0 hS2
                                            go_wp2_with fail
                                            go_roundw
                                            case measure => simp [intOf]; omega
                                            case rel => exact ⟨i + 1, { d' with K := d'.K + 1, KA := A9, KC := c9, kxs := d'.kxs ++ [.int .u8 2, .int .i64 a', .int .i64 q, .slice none 0 0] }, by omega, by go_num, ⟨HE.out.1, by show d'.K + 1 ≤ _; have := HE.out.2; have := HDC.out.2; omega⟩, HSY9.out.drop.drop⟩
                                          · have ha0' : ¬ a' ≥ 0 := ha0
                                            go_wp2_with fail
                                            go_roundw
                                            case measure => simp [intOf]; omega
                                            case rel => exact ⟨i + 1, d', by omega, by go_num, ⟨HE.out.1, by have := HE.out.2; have := HDC.out.2; omega⟩, HSY.out.drop.drop⟩
                                  · as_aux_lemma =>
                                      have hbk' : (bk == 3) = false := by rw [beq_eq_false_iff_ne]; exact hbk
                                      have hb5 : 0 ≤ b := by
                                        rcases HOK.out.2.2.2 rfl with h | h
                                        · exact absurd h.1 hbk
                                        · exact HB0.out h
                                      have HAO := Lib.hid (HSY.out.args hRB HZ.out.1 (by omega) HZ.out.2)
                                      have HSYD := Lib.hid HSY.out.drop
                                      obtain ⟨s0c, s0f, s0z⟩ := blk3 HSY.out.box
                                      clear HSY
                                      go_wp2_with (at_builtin; refine append_at_list (B := W0.heap.size) (W := wr.alloc (.cells #[.int .u8 5, .int .i64 a', .int .i64 b, .slice A al c] 121)) rfl 2 (sRows V sb d ++ [⟨46, 7, .slice (some ⟨xb, 0, none⟩) 1 1, 1, [.int .u8 5, .int .u8 ak, .int .i64 ai, .int .u8 bk, .int .i64 bi, .slice aa al ac, .slice b2 l2 c2]⟩, ⟨49, 9, .slice (some ⟨gS, 0, none⟩) SN SC, SN, ixs⟩]) _ _ 90 121 (.agg #[.int .u8 0, .int .i64 0, .int .i64 0, .slice none 0 0]) 4 48 rfl Try.underlying90 info121s rfl (by decide) (.slice d.KA d.K d.KC) d.K _ rfl (HSYD.out.owns.below ((Below.refl _ _).alloc (Nat.le_refl _) _)) rfl ⟨wr.heap.size, 0, none⟩ 1 1 [.int .u8 5, .int .i64 a', .int .i64 b, .slice A al c] rfl rfl (new_cells _ _ _ _) (con_one _ _ _ _ _ _) (by have := HSYD.out.below.size; simp; omega) (by omega) (by omega) ?_; intro A9 c9 w9 hg; have HSY9 := Lib.hid ((HSYD.out.next ((Below.refl _ _).alloc (Nat.le_refl _) (.cells #[.int .u8 5, .int .i64 a', .int .i64 b, .slice A al c] 121))).con hg rfl (conOk5 HA'.out HBR.out hb5 (HAO.out.sub (sub_sans_below ((Below.refl _ _).alloc (Nat.le_refl _) _))))); obtain ⟨s9c, s9f, s9z⟩ := blk3 (own_block #[.int .i64 (V : Nat), .slice d.CA d.C d.CC, .slice d.KA d.K d.KC] (hg.owns.at (i := 0) rfl) rfl); clear hg s0c s0f s0z x0c x0f x0z)
                                      go_roundw
                                      case measure => simp [intOf]; omega
                                      case rel => exact ⟨i + 1, { d with K := d.K + 1, KA := A9, KC := c9, kxs := d.kxs ++ [.int .u8 5, .int .i64 a', .int .i64 b, .slice A al c] }, by omega, by go_num, ⟨HDC.out.1, by show d.K + 1 ≤ _; have := HDC.out.2; omega⟩, HSY9.out.drop⟩
                        · have h5' : (k == 5) = false := by rw [beq_eq_false_iff_ne]; exact h5
                          go_wp2_with fail
                          refine ⟨⟨i + 1, d, by omega, by go_num, ⟨HDC.out.1, by have := HDC.out.2; omega⟩, HSY.out.drop⟩, by simp [intOf]; omega⟩
            · obtain rfl : SN = i := by omega
              have hnn : ¬ (SN : Int) < (SN : Int) := by omega
              go_wp2_with fail
              refine ⟨⟨f + 1, d, by omega, by go_num, ⟨HDC.out.1, by have := HDC.out.2; omega⟩, HSY.out.drop⟩, by simp [intOf]; omega⟩
        · obtain rfl : n = f := by omega
          have hnn : ¬ (n : Int) < (n : Int) := by omega
          obtain ⟨s0c, s0f, s0z⟩ := blk3 HSY.out.box
          have hrb := blk_below HRB.out HSY.out.below
          obtain ⟨r0c, r0f, r0z⟩ := blk3 hrb
          have HSO := Lib.hid (HSY.out.sysOk hRB HDC.out.1 hV4 hD4 (by have := HDC.out.2; omega))
          go_wp2_with fail
          have hm1 : w.heap.size + 1 ∈ [w.heap.size + 1] := List.mem_cons_self
          refine bodyPost_ret (v := .agg #[.int .i64 (V : Nat), .slice d.CA d.C d.CC, .slice d.KA d.K d.KC]) (by rw [results_cell rfl]; go_simp; try rfl) rfl ⟨_, rfl, ⟨d.K, ?_⟩, ?_⟩
          · rw [← HVL.out, ← HDL.out]
            exact HSO.out.sub ((((sub_store hm1).trans (sub_store hm1)).trans (sub_store hm1)).trans (sans_sub _ _))
          · exact (((HBW.out.trans (HSY.out.below.mono HBW.out.size)).setCell (by show w.heap.size ≤ w.heap.size + 1; omega) _).setCell (by show w.heap.size ≤ w.heap.size + 1; omega) _).setCell (by show w.heap.size ≤ w.heap.size + 1; omega) _
end Go.Proofs.Ytjgijbaboekghaa

/-
  gen.Map's in (function 72), Var (66), Function (67). No statement of its own.
-/
import Derived.Test.YtjgijbaboekghaaNMap
set_option linter.unusedSimpArgs false
set_option linter.unusedVariables false
namespace Go.Proofs.Ytjgijbaboekghaa
open Go.RowKit
/-- A map of a module, in memory. -/
structure MapAt (w : World) (X : Value) (M : Mod) : Prop where
  shape : ∃ sv gv fv ev vv cv, X = .agg #[sv, gv, fv, ev, vv, cv, .int .i64 (firstN M M.funcs.length : Nat), .int .i64 (firstN M M.funcs.length : Nat)] ∧ ReadsM w (.agg #[sv, gv, fv, ev]) M ∧ ReadsI w vv (firsts M M.funcs.length) ∧ ReadsI w cv (firsts M M.funcs.length)
theorem MapAt.sub {w w' : World} {X : Value} {M : Mod} (h : MapAt w X M) (hb : Sub w w') : MapAt w' X M := by
  obtain ⟨sv, gv, fv, ev, vv, cv, e, h1, h2, h3⟩ := h.shape
  exact ⟨sv, gv, fv, ev, vv, cv, e, h1.sub hb, h2.sub hb, h3.sub hb⟩
/-- The variable that a reference names in a function. -/
def varN (M : Mod) (fn : Nat) (f : Fn) (k id : Int) : Int :=
  if k = 2 ∧ 0 ≤ id ∧ id < (M.globals.length : Int) then id
  else if k = 1 ∧ 0 ≤ id ∧ id < (f.locals.length : Int) then (firstN M fn : Int) + id
  else -1
set_option maxRecDepth 20000 in
theorem in_calls (w : World) (sa ga fa ea va ca : Option Addr) (sn sc gn gc n fc en ec vn vc cn cc : Nat) (last all : Int) (fn : Nat) (h : fn < n) : Calls Try.prog 72 #[.agg #[.slice sa sn sc, .slice ga gn gc, .slice fa n fc, .slice ea en ec, .slice va vn vc, .slice ca cn cc, .int .i64 last, .int .i64 all], .int .i64 (fn : Nat)] w fun e w' => e = .returned (.bool true) ∧ Below w.heap.size w w' := by
  have h0 : (0 : Int) ≤ (fn : Int) := by omega
  have h1 : (fn : Int) < (n : Int) := by omega
  go_enter Try.func72, Try.ntmps72
  go_wp2_with fail
  go_ret
  exact ⟨rfl, (Below.refl _ _).alloc (Nat.le_refl _) _⟩
theorem below_drewN' {B : Nat} {a w : World} (h : Below B a w) (n : Nat) : Below B a (w.drewN n) := h.trans ⟨rfl, rfl, rfl, Nat.le_refl _, fun _ _ => rfl⟩
theorem firsts_get {M : Mod} {i n : Nat} (h : i < n) : (firsts M n)[i]? = some (firstN M i : Int) := by unfold firsts; simp [h]
theorem reads_lens {w : World} {v : Value} {fs : List Fn} (h : ReadsF w v fs) {f : Fn} (hf : f ∈ fs) : f.locals.length ≤ 1000 ∧ f.sites.length ≤ 1000 := by
  obtain ⟨i, hi⟩ := List.mem_iff_getElem?.1 hf
  have hlt := (List.getElem?_eq_some_iff.1 hi).1
  obtain ⟨a, c, rfl, _⟩ := h.shape
  obtain ⟨b, off, f', lv, sv', bv, _, hf', _, k1, k2, _⟩ := h.at hlt
  rw [hi] at hf'
  injection hf' with hf'
  subst hf'
  obtain ⟨_, _, _, l1⟩ := k1.shape
  obtain ⟨_, _, _, l2⟩ := k2.shape
  exact ⟨l1, l2⟩
set_option maxRecDepth 20000 in
set_option maxHeartbeats 4000000 in
theorem var_calls (w : World) (X : Value) (M : Mod) (fn : Nat) (f : Fn) (k id : Int) (hm : MapAt w X M) (hf : M.funcs[fn]? = some f) : Calls Try.prog 66 #[X, .int .i64 (fn : Nat), .agg #[.int .u8 k, .int .i64 id]] w fun e w' => e = .returned (.int .i64 (varN M fn f k id)) ∧ Below w.heap.size w w' := by
  obtain ⟨sv, gv, fv, ev, vv, cv, rfl, h0, hv, hc⟩ := hm.shape
  clear hm
  obtain ⟨sv', gv', fv', ev', e, h1, h2, h3, h4⟩ := h0
  obtain ⟨rfl, rfl, rfl, rfl⟩ : sv = sv' ∧ gv = gv' ∧ fv = fv' ∧ ev = ev' := by simpa using e
  clear e
  have hlt := (List.getElem?_eq_some_iff.1 hf).1
  obtain ⟨sa, sc, rfl, _⟩ := h1.shape
  obtain ⟨ga, gc, rfl, hg1⟩ := h2.shape
  obtain ⟨fa, fc, rfl, hfn⟩ := h3.shape
  obtain ⟨b, off, f', lv, sv', bv, rfl, hf', ⟨k0, k1, k2, k3, k4⟩, hlv, hsv, hbv⟩ := h3.at hlt
  obtain ⟨ea, ec, rfl, _⟩ := h4.shape
  obtain ⟨va, vc, rfl, hvl⟩ := hv.shape
  obtain ⟨vb, voff, x, rfl, hx, kx⟩ := hv.at (by rw [firsts_length]; exact hlt)
  obtain ⟨ca, cc, rfl, _⟩ := hc.shape
  obtain ⟨la, lc, rfl, hl1⟩ := hlv.shape
  rw [hf] at hf'
  injection hf' with hf'
  subst hf'
  obtain ⟨q, rfl, hq⟩ : ∃ q : Nat, x = (q : Int) ∧ q = firstN M fn := ⟨firstN M fn, by
    have h9 := firsts_get (M := M) hlt
    rw [h9] at hx
    injection hx with hx
    exact hx.symm, rfl⟩
  have hq1 : q ≤ 1000 + 2001 * 1000 := by
    have := firstN_le (M := M) hg1 (fun f hf => reads_lens h3 hf) fn (by omega)
    omega
  have HV : Hid (varN M fn f k id = if k = 2 ∧ 0 ≤ id ∧ id < (M.globals.length : Int) then id else if k = 1 ∧ 0 ≤ id ∧ id < (f.locals.length : Int) then (q : Int) + id else -1) := Lib.hid (by unfold varN; rw [hq])
  obtain ⟨r, hr⟩ : ∃ r, r = varN M fn f k id := ⟨_, rfl⟩
  rw [← hr] at HV ⊢
  obtain ⟨all, hall⟩ : ∃ a, a = firstN M M.funcs.length := ⟨_, rfl⟩
  rw [← hall]
  rw [firsts_length]
  generalize M.strings.length = sn at *
  generalize M.globals.length = gn at *
  generalize M.entries.length = en at *
  generalize f.locals.length = ln at *
  generalize M.funcs.length = n at *
  clear hr h1 h2 h3 h4 hv hc hf hlv hsv hbv hx hq hvl hall
  have hfn0 : (0 : Int) ≤ (fn : Int) := by omega
  have hfn1 : (fn : Int) < (n : Int) := by omega
  by_cases hk2 : k = 2
  · subst hk2
    by_cases hi0 : 0 ≤ id
    · by_cases hi1 : id < (gn : Int)
      · have HR : Hid (r = id) := Lib.hid (by rw [HV.out, if_pos ⟨rfl, hi0, hi1⟩])
        clear HV
        go_enter Try.func66, Try.ntmps66
        go_wp2_with fail
        go_ret
        exact ⟨by rw [HR.out]; rfl, ((Below.refl _ _).alloc (Nat.le_refl _) _).alloc (by simp) _⟩
      · have HR : Hid (r = -1) := Lib.hid (by rw [HV.out, if_neg (by omega), if_neg (by omega)])
        clear HV
        go_enter Try.func66, Try.ntmps66
        go_upto_region 3 with (fail)
        go_quiet (fail)
        go_wp2_with fail
        go_ret
        exact ⟨by rw [HR.out]; rfl, below_drewN' (((Below.refl _ _).alloc (Nat.le_refl _) _).alloc (by simp) _) _⟩
    · have HR : Hid (r = -1) := Lib.hid (by rw [HV.out, if_neg (by omega), if_neg (by omega)])
      clear HV
      go_enter Try.func66, Try.ntmps66
      go_upto_region 3 with (fail)
      go_quiet (fail)
      go_wp2_with fail
      go_ret
      exact ⟨by rw [HR.out]; rfl, below_drewN' (((Below.refl _ _).alloc (Nat.le_refl _) _).alloc (by simp) _) _⟩
  · have hk2' : (k == 2) = false := by simpa using hk2
    by_cases hk1 : k = 1
    · subst hk1
      by_cases hi0 : 0 ≤ id
      · by_cases hi1 : id < (ln : Int)
        · have HR : Hid (r = (q : Int) + id) := Lib.hid (by rw [HV.out, if_neg (by omega), if_pos ⟨rfl, hi0, hi1⟩])
          clear HV
          go_enter Try.func66, Try.ntmps66
          go_upto_region 3 with (fail)
          have m0 := blk_alloc (heap_alloc_new w (.cells #[.slice sa sn sc, .slice ga gn gc, .slice (some ⟨b, off, none⟩) n fc, .slice ea en ec, .slice (some ⟨vb, voff, none⟩) n vc, .slice ca n cc, .int .i64 (all : Nat), .int .i64 (all : Nat)] 95)) (.cells #[.int .u8 1, .int .i64 id] 43)
          have m1 : ((w.alloc (.cells #[.slice sa sn sc, .slice ga gn gc, .slice (some ⟨b, off, none⟩) n fc, .slice ea en ec, .slice (some ⟨vb, voff, none⟩) n vc, .slice ca n cc, .int .i64 (all : Nat), .int .i64 (all : Nat)] 95)).alloc (.cells #[.int .u8 1, .int .i64 id] 43)).heap[w.heap.size + 1]? = some (.cells #[.int .u8 1, .int .i64 id] 43) := by
            have := heap_alloc_new (w.alloc (.cells #[.slice sa sn sc, .slice ga gn gc, .slice (some ⟨b, off, none⟩) n fc, .slice ea en ec, .slice (some ⟨vb, voff, none⟩) n vc, .slice ca n cc, .int .i64 (all : Nat), .int .i64 (all : Nat)] 95)) (.cells #[.int .u8 1, .int .i64 id] 43)
            rwa [World.size_alloc] at this
          have bw : Below w.heap.size w ((w.alloc (.cells #[.slice sa sn sc, .slice ga gn gc, .slice (some ⟨b, off, none⟩) n fc, .slice ea en ec, .slice (some ⟨vb, voff, none⟩) n vc, .slice ca n cc, .int .i64 (all : Nat), .int .i64 (all : Nat)] 95)).alloc (.cells #[.int .u8 1, .int .i64 id] 43)) := ((Below.refl _ _).alloc (Nat.le_refl _) _).alloc (by simp) _
          obtain ⟨W, hW⟩ : ∃ W, W = ((w.alloc (.cells #[.slice sa sn sc, .slice ga gn gc, .slice (some ⟨b, off, none⟩) n fc, .slice ea en ec, .slice (some ⟨vb, voff, none⟩) n vc, .slice ca n cc, .int .i64 (all : Nat), .int .i64 (all : Nat)] 95)).alloc (.cells #[.int .u8 1, .int .i64 id] 43)) := ⟨_, rfl⟩
          rw [← hW] at m0 m1 bw ⊢
          have HB := Lib.hid bw
          have KX : Hid (W.cell? ⟨vb, voff + fn, none⟩ = some (.int .i64 (q : Nat))) := Lib.hid ((bw.cell (p := ⟨vb, voff + fn, none⟩) (World.block_lt_of_cell? _ _ kx)).trans kx)
          have hS0 : (fun w' => w'.heap[w.heap.size]? = some (.cells #[.slice sa sn sc, .slice ga gn gc, .slice (some ⟨b, off, none⟩) n fc, .slice ea en ec, .slice (some ⟨vb, voff, none⟩) n vc, .slice ca n cc, .int .i64 (all : Nat), .int .i64 (all : Nat)] 95) ∧ w'.heap[w.heap.size + 1]? = some (.cells #[.int .u8 1, .int .i64 id] 43) ∧ w'.cell? ⟨b, off + fn * 5 + 2, none⟩ = some (.slice la ln lc)) W := ⟨m0, m1, (bw.cell (p := ⟨b, off + fn * 5 + 2, none⟩) (World.block_lt_of_cell? _ _ k2)).trans k2⟩
          clear hW bw m0 m1 k0 k1 k2 k3 k4 kx
          refine wp_region_HL (S := (fun w' => w'.heap[w.heap.size]? = some (.cells #[.slice sa sn sc, .slice ga gn gc, .slice (some ⟨b, off, none⟩) n fc, .slice ea en ec, .slice (some ⟨vb, voff, none⟩) n vc, .slice ca n cc, .int .i64 (all : Nat), .int .i64 (all : Nat)] 95) ∧ w'.heap[w.heap.size + 1]? = some (.cells #[.int .u8 1, .int .i64 id] 43) ∧ w'.cell? ⟨b, off + fn * 5 + 2, none⟩ = some (.slice la ln lc))) 26 (by kernel_rfl) (by kernel_rfl) (by kernel_rfl) (by kernel_rfl) (by decide) hS0 (fun hHeld => ?_)
          refine HL.take_ (i := 0) (oi := { dst := some 28, op := .fieldAddr 43 (.tmp 5) 0, type := 0, pos := "gen.go:40", after := #[], guard := none }) (v := ?_) rfl (by decide) (by kernel_rfl) (by kernel_rfl) (fun _ _ _ h => h) (Or.inl ⟨by rfl, ?_⟩) (by assumption) ?_
          rotate_left
          · intro w hSw
            (try dsimp only at hSw)
            obtain ⟨s1, s2, s3⟩ := hSw; have z1 := (blk3 s1).1; have z2 := (blk3 s2).1; (go_simp; try (with_reducible rfl))
          try simp only [Act.put, List.setIfInBounds_toArray, List.set_cons_zero, List.set_cons_succ]
          refine HL.take_ (i := 1) (oi := { dst := some 29, op := .load 5 (.tmp 28), type := 5, pos := "gen.go:40", after := #[{ on := 0, ground := .data }], guard := none }) (v := ?_) rfl (by decide) (by kernel_rfl) (by kernel_rfl) (fun _ _ _ h => h) (Or.inl ⟨by rfl, ?_⟩) (by assumption) ?_
          rotate_left
          · intro w hSw
            (try dsimp only at hSw)
            obtain ⟨s1, s2, s3⟩ := hSw; have z1 := (blk3 s1).1; have z2 := (blk3 s2).1; (go_simp; try (with_reducible rfl))
          try simp only [Act.put, List.setIfInBounds_toArray, List.set_cons_zero, List.set_cons_succ]
          refine HL.take_ (i := 2) (oi := { dst := some 30, op := .binOp .eql 5 (.tmp 29) (.const (.int .u8 1)) 5, type := 4, pos := "gen.go:40", after := #[{ on := 1, ground := .data }], guard := none }) (v := ?_) rfl (by decide) (by kernel_rfl) (by kernel_rfl) (fun _ _ _ h => h) (Or.inl ⟨by rfl, ?_⟩) (by assumption) ?_
          rotate_left
          · intro w hSw
            (try dsimp only at hSw)
            obtain ⟨s1, s2, s3⟩ := hSw; have z1 := (blk3 s1).1; have z2 := (blk3 s2).1; (go_simp; try (with_reducible rfl))
          try simp only [Act.put, List.setIfInBounds_toArray, List.set_cons_zero, List.set_cons_succ]
          refine HL.take_ (i := 3) (oi := { dst := some 31, op := .move (.tmp 30), type := 4, pos := "gen.go:40", after := #[{ on := 2, ground := .data }], guard := none }) (v := ?_) rfl (by decide) (by kernel_rfl) (by kernel_rfl) (fun _ _ _ h => h) (Or.inl ⟨by rfl, ?_⟩) (by assumption) ?_
          rotate_left
          · intro w hSw
            (try dsimp only at hSw)
            obtain ⟨s1, s2, s3⟩ := hSw; have z1 := (blk3 s1).1; have z2 := (blk3 s2).1; (go_simp; try (with_reducible rfl))
          try simp only [Act.put, List.setIfInBounds_toArray, List.set_cons_zero, List.set_cons_succ]
          refine HL.take_ (i := 4) (oi := { dst := some 32, op := .load 95 (.tmp 3), type := 95, pos := "gen.go:40", after := #[{ on := 3, ground := .guard }], guard := some (3, true) }) (v := ?_) rfl (by decide) (by kernel_rfl) (by kernel_rfl) (fun _ _ _ h => h) (Or.inl ⟨by rfl, ?_⟩) (by assumption) ?_
          rotate_left
          · intro w hSw
            (try dsimp only at hSw)
            obtain ⟨s1, s2, s3⟩ := hSw; have z1 := (blk3 s1).1; have z2 := (blk3 s2).1; (go_simp; try (with_reducible rfl))
          try simp only [Act.put, List.setIfInBounds_toArray, List.set_cons_zero, List.set_cons_succ]
          refine HL.take_ (i := 5) (oi := { dst := some 33, op := .move (.tmp 1), type := 3, pos := "gen.go:40", after := #[{ on := 3, ground := .guard }], guard := some (3, true) }) (v := ?_) rfl (by decide) (by kernel_rfl) (by kernel_rfl) (fun _ _ _ h => h) (Or.inl ⟨by rfl, ?_⟩) (by assumption) ?_
          rotate_left
          · intro w hSw
            (try dsimp only at hSw)
            obtain ⟨s1, s2, s3⟩ := hSw; have z1 := (blk3 s1).1; have z2 := (blk3 s2).1; (go_simp; try (with_reducible rfl))
          try simp only [Act.put, List.setIfInBounds_toArray, List.set_cons_zero, List.set_cons_succ]
          refine HL.step_ (i := 6) (o := { dst := some 34, op := .call { callee := .value (.func 72), args := #[.tmp 32, .tmp 33], argTypes := #[95, 3] }, type := 4, pos := "gen.go:40", after := #[{ on := 4, ground := .data }, { on := 5, ground := .data }, { on := 3, ground := .chain }, { on := 3, ground := .guard }], guard := some (3, true) }) rfl (by decide) (by kernel_rfl) (fun K hK => ?_)
          go_simp
          refine (in_calls _ sa ga (some ⟨b, off, none⟩) ea (some ⟨vb, voff, none⟩) ca sn sc gn gc n fc en ec n vc n cc _ _ fn hlt).mono ?_
          rintro e w1 ⟨rfl, hb1⟩
          replace hb1 : Below W.heap.size W w1 := ⟨hb1.os, hb1.tape, hb1.output, hb1.size, hb1.block⟩
          go_simp
          have hS1 : (fun w' => w'.heap[w.heap.size]? = some (.cells #[.slice sa sn sc, .slice ga gn gc, .slice (some ⟨b, off, none⟩) n fc, .slice ea en ec, .slice (some ⟨vb, voff, none⟩) n vc, .slice ca n cc, .int .i64 (all : Nat), .int .i64 (all : Nat)] 95) ∧ w'.heap[w.heap.size + 1]? = some (.cells #[.int .u8 1, .int .i64 id] 43) ∧ w'.cell? ⟨b, off + fn * 5 + 2, none⟩ = some (.slice la ln lc)) w1 := ⟨blk_below hS0.1 hb1, blk_below hS0.2.1 hb1, (hb1.cell (p := ⟨b, off + fn * 5 + 2, none⟩) (World.block_lt_of_cell? _ _ hS0.2.2)).trans hS0.2.2⟩
          have HB1 := Lib.hid (HB.out.trans (hb1.mono HB.out.size))
          have KX1 : Hid (w1.cell? ⟨vb, voff + fn, none⟩ = some (.int .i64 (q : Nat))) := Lib.hid ((hb1.cell (p := ⟨vb, voff + fn, none⟩) (World.block_lt_of_cell? _ _ KX.out)).trans KX.out)
          clear hb1 hS0
          refine hK.out _ _ hS1 (fun hHeld => ?_)
          clear hK K
          try simp only [Act.put, List.setIfInBounds_toArray, List.set_cons_zero, List.set_cons_succ]
          refine HL.take_ (i := 7) (oi := { dst := some 35, op := .pick (.tmp 31) (.tmp 34) (.const (.bool false)), type := 4, pos := "gen.go:40", after := #[{ on := 3, ground := .data }, { on := 6, ground := .data }], guard := none }) (v := ?_) rfl (by decide) (by kernel_rfl) (by kernel_rfl) (fun _ _ _ h => h) (Or.inl ⟨by rfl, ?_⟩) (by assumption) ?_
          rotate_left
          · intro w hSw
            (try dsimp only at hSw)
            obtain ⟨s1, s2, s3⟩ := hSw; have z1 := (blk3 s1).1; have z2 := (blk3 s2).1; (go_simp; try (with_reducible rfl))
          try simp only [Act.put, List.setIfInBounds_toArray, List.set_cons_zero, List.set_cons_succ]
          refine HL.take_ (i := 8) (oi := { dst := some 36, op := .move (.tmp 35), type := 4, pos := "gen.go:40", after := #[{ on := 7, ground := .data }, { on := 6, ground := .chain }], guard := none }) (v := ?_) rfl (by decide) (by kernel_rfl) (by kernel_rfl) (fun _ _ _ h => h) (Or.inl ⟨by rfl, ?_⟩) (by assumption) ?_
          rotate_left
          · intro w hSw
            (try dsimp only at hSw)
            obtain ⟨s1, s2, s3⟩ := hSw; have z1 := (blk3 s1).1; have z2 := (blk3 s2).1; (go_simp; try (with_reducible rfl))
          try simp only [Act.put, List.setIfInBounds_toArray, List.set_cons_zero, List.set_cons_succ]
          refine HL.take_ (i := 9) (oi := { dst := some 37, op := .fieldAddr 43 (.tmp 5) 1, type := 0, pos := "gen.go:40", after := #[{ on := 8, ground := .guard }], guard := some (8, true) }) (v := ?_) rfl (by decide) (by kernel_rfl) (by kernel_rfl) (fun _ _ _ h => h) (Or.inl ⟨by rfl, ?_⟩) (by assumption) ?_
          rotate_left
          · intro w hSw
            (try dsimp only at hSw)
            obtain ⟨s1, s2, s3⟩ := hSw; have z1 := (blk3 s1).1; have z2 := (blk3 s2).1; (go_simp; try (with_reducible rfl))
          try simp only [Act.put, List.setIfInBounds_toArray, List.set_cons_zero, List.set_cons_succ]
          refine HL.take_ (i := 10) (oi := { dst := some 38, op := .load 3 (.tmp 37), type := 3, pos := "gen.go:40", after := #[{ on := 9, ground := .data }, { on := 8, ground := .guard }], guard := some (8, true) }) (v := ?_) rfl (by decide) (by kernel_rfl) (by kernel_rfl) (fun _ _ _ h => h) (Or.inl ⟨by rfl, ?_⟩) (by assumption) ?_
          rotate_left
          · intro w hSw
            (try dsimp only at hSw)
            obtain ⟨s1, s2, s3⟩ := hSw; have z1 := (blk3 s1).1; have z2 := (blk3 s2).1; (go_simp; try (with_reducible rfl))
          try simp only [Act.put, List.setIfInBounds_toArray, List.set_cons_zero, List.set_cons_succ]
          refine HL.take_ (i := 11) (oi := { dst := some 39, op := .binOp .geq 3 (.tmp 38) (.const (.int .i64 0)) 3, type := 4, pos := "gen.go:40", after := #[{ on := 10, ground := .data }, { on := 8, ground := .guard }], guard := some (8, true) }) (v := ?_) rfl (by decide) (by kernel_rfl) (by kernel_rfl) (fun _ _ _ h => h) (Or.inl ⟨by rfl, ?_⟩) (by assumption) ?_
          rotate_left
          · intro w hSw
            (try dsimp only at hSw)
            obtain ⟨s1, s2, s3⟩ := hSw; have z1 := (blk3 s1).1; have z2 := (blk3 s2).1; (go_simp; try (with_reducible rfl))
          try simp only [Act.put, List.setIfInBounds_toArray, List.set_cons_zero, List.set_cons_succ]
          refine HL.take_ (i := 12) (oi := { dst := some 40, op := .pick (.tmp 36) (.tmp 39) (.const (.bool false)), type := 4, pos := "gen.go:40", after := #[{ on := 8, ground := .data }, { on := 11, ground := .data }], guard := none }) (v := ?_) rfl (by decide) (by kernel_rfl) (by kernel_rfl) (fun _ _ _ h => h) (Or.inl ⟨by rfl, ?_⟩) (by assumption) ?_
          rotate_left
          · intro w hSw
            (try dsimp only at hSw)
            obtain ⟨s1, s2, s3⟩ := hSw; have z1 := (blk3 s1).1; have z2 := (blk3 s2).1; (go_simp; try (with_reducible rfl))
          try simp only [Act.put, List.setIfInBounds_toArray, List.set_cons_zero, List.set_cons_succ]
          refine HL.take_ (i := 13) (oi := { dst := some 41, op := .move (.tmp 40), type := 4, pos := "gen.go:40", after := #[{ on := 12, ground := .data }, { on := 8, ground := .chain }], guard := none }) (v := ?_) rfl (by decide) (by kernel_rfl) (by kernel_rfl) (fun _ _ _ h => h) (Or.inl ⟨by rfl, ?_⟩) (by assumption) ?_
          rotate_left
          · intro w hSw
            (try dsimp only at hSw)
            obtain ⟨s1, s2, s3⟩ := hSw; have z1 := (blk3 s1).1; have z2 := (blk3 s2).1; (go_simp; try (with_reducible rfl))
          try simp only [Act.put, List.setIfInBounds_toArray, List.set_cons_zero, List.set_cons_succ]
          refine HL.take_ (i := 14) (oi := { dst := some 42, op := .fieldAddr 43 (.tmp 5) 1, type := 0, pos := "gen.go:40", after := #[{ on := 13, ground := .guard }], guard := some (13, true) }) (v := ?_) rfl (by decide) (by kernel_rfl) (by kernel_rfl) (fun _ _ _ h => h) (Or.inl ⟨by rfl, ?_⟩) (by assumption) ?_
          rotate_left
          · intro w hSw
            (try dsimp only at hSw)
            obtain ⟨s1, s2, s3⟩ := hSw; have z1 := (blk3 s1).1; have z2 := (blk3 s2).1; (go_simp; try (with_reducible rfl))
          try simp only [Act.put, List.setIfInBounds_toArray, List.set_cons_zero, List.set_cons_succ]
          refine HL.take_ (i := 15) (oi := { dst := some 43, op := .load 3 (.tmp 42), type := 3, pos := "gen.go:40", after := #[{ on := 14, ground := .data }, { on := 13, ground := .guard }], guard := some (13, true) }) (v := ?_) rfl (by decide) (by kernel_rfl) (by kernel_rfl) (fun _ _ _ h => h) (Or.inl ⟨by rfl, ?_⟩) (by assumption) ?_
          rotate_left
          · intro w hSw
            (try dsimp only at hSw)
            obtain ⟨s1, s2, s3⟩ := hSw; have z1 := (blk3 s1).1; have z2 := (blk3 s2).1; (go_simp; try (with_reducible rfl))
          try simp only [Act.put, List.setIfInBounds_toArray, List.set_cons_zero, List.set_cons_succ]
          refine HL.take_ (i := 16) (oi := { dst := some 44, op := .fieldAddr 95 (.tmp 3) 0, type := 0, pos := "gen.go:40", after := #[{ on := 13, ground := .guard }], guard := some (13, true) }) (v := ?_) rfl (by decide) (by kernel_rfl) (by kernel_rfl) (fun _ _ _ h => h) (Or.inl ⟨by rfl, ?_⟩) (by assumption) ?_
          rotate_left
          · intro w hSw
            (try dsimp only at hSw)
            obtain ⟨s1, s2, s3⟩ := hSw; have z1 := (blk3 s1).1; have z2 := (blk3 s2).1; (go_simp; try (with_reducible rfl))
          try simp only [Act.put, List.setIfInBounds_toArray, List.set_cons_zero, List.set_cons_succ]
          refine HL.take_ (i := 17) (oi := { dst := some 45, op := .fieldAddr 32 (.tmp 44) 2, type := 0, pos := "gen.go:40", after := #[{ on := 16, ground := .data }, { on := 13, ground := .guard }], guard := some (13, true) }) (v := ?_) rfl (by decide) (by kernel_rfl) (by kernel_rfl) (fun _ _ _ h => h) (Or.inl ⟨by rfl, ?_⟩) (by assumption) ?_
          rotate_left
          · intro w hSw
            (try dsimp only at hSw)
            obtain ⟨s1, s2, s3⟩ := hSw; have z1 := (blk3 s1).1; have z2 := (blk3 s2).1; (go_simp; try (with_reducible rfl))
          try simp only [Act.put, List.setIfInBounds_toArray, List.set_cons_zero, List.set_cons_succ]
          refine HL.take_ (i := 18) (oi := { dst := some 46, op := .load 30 (.tmp 45), type := 30, pos := "gen.go:40", after := #[{ on := 17, ground := .data }, { on := 13, ground := .guard }], guard := some (13, true) }) (v := ?_) rfl (by decide) (by kernel_rfl) (by kernel_rfl) (fun _ _ _ h => h) (Or.inl ⟨by rfl, ?_⟩) (by assumption) ?_
          rotate_left
          · intro w hSw
            (try dsimp only at hSw)
            obtain ⟨s1, s2, s3⟩ := hSw; have z1 := (blk3 s1).1; have z2 := (blk3 s2).1; (go_simp; try (with_reducible rfl))
          try simp only [Act.put, List.setIfInBounds_toArray, List.set_cons_zero, List.set_cons_succ]
          refine HL.take_ (i := 19) (oi := { dst := some 47, op := .move (.tmp 1), type := 3, pos := "gen.go:40", after := #[{ on := 13, ground := .guard }], guard := some (13, true) }) (v := ?_) rfl (by decide) (by kernel_rfl) (by kernel_rfl) (fun _ _ _ h => h) (Or.inl ⟨by rfl, ?_⟩) (by assumption) ?_
          rotate_left
          · intro w hSw
            (try dsimp only at hSw)
            obtain ⟨s1, s2, s3⟩ := hSw; have z1 := (blk3 s1).1; have z2 := (blk3 s2).1; (go_simp; try (with_reducible rfl))
          try simp only [Act.put, List.setIfInBounds_toArray, List.set_cons_zero, List.set_cons_succ]
          refine HL.take_ (i := 20) (oi := { dst := some 48, op := .indexAddr 30 (.tmp 46) (.tmp 47), type := 0, pos := "gen.go:40", after := #[{ on := 18, ground := .data }, { on := 19, ground := .data }, { on := 13, ground := .guard }], guard := some (13, true) }) (v := ?_) rfl (by decide) (by kernel_rfl) (by kernel_rfl) (fun _ _ _ h => h) (Or.inl ⟨by rfl, ?_⟩) (by assumption) ?_
          rotate_left
          · intro w hSw
            (try dsimp only at hSw)
            obtain ⟨s1, s2, s3⟩ := hSw; have z1 := (blk3 s1).1; have z2 := (blk3 s2).1; (go_simp; try (with_reducible rfl))
          try simp only [Act.put, List.setIfInBounds_toArray, List.set_cons_zero, List.set_cons_succ]
          refine HL.take_ (i := 21) (oi := { dst := some 49, op := .fieldAddr 35 (.tmp 48) 2, type := 0, pos := "gen.go:40", after := #[{ on := 20, ground := .data }, { on := 13, ground := .guard }], guard := some (13, true) }) (v := ?_) rfl (by decide) (by kernel_rfl) (by kernel_rfl) (fun _ _ _ h => h) (Or.inl ⟨by rfl, ?_⟩) (by assumption) ?_
          rotate_left
          · intro w hSw
            (try dsimp only at hSw)
            obtain ⟨s1, s2, s3⟩ := hSw; have z1 := (blk3 s1).1; have z2 := (blk3 s2).1; (go_simp; try (with_reducible rfl))
          try simp only [Act.put, List.setIfInBounds_toArray, List.set_cons_zero, List.set_cons_succ]
          refine HL.take_ (i := 22) (oi := { dst := some 50, op := .load 29 (.tmp 49), type := 29, pos := "gen.go:40", after := #[{ on := 21, ground := .data }, { on := 13, ground := .guard }], guard := some (13, true) }) (v := ?_) rfl (by decide) (by kernel_rfl) (by kernel_rfl) (fun _ _ _ h => h) (Or.inl ⟨by rfl, ?_⟩) (by assumption) ?_
          rotate_left
          · intro w hSw
            (try dsimp only at hSw)
            obtain ⟨s1, s2, s3⟩ := hSw; have z1 := (blk3 s1).1; have z2 := (blk3 s2).1; (go_simp; try (with_reducible rfl))
          try simp only [Act.put, List.setIfInBounds_toArray, List.set_cons_zero, List.set_cons_succ]
          refine HL.take_ (i := 23) (oi := { dst := some 51, op := .call { callee := .builtin .len, args := #[.tmp 50], argTypes := #[29] }, type := 3, pos := "gen.go:40", after := #[{ on := 22, ground := .data }, { on := 13, ground := .guard }], guard := some (13, true) }) (v := ?_) rfl (by decide) (by kernel_rfl) (by kernel_rfl) (fun _ _ _ h => h) (Or.inl ⟨by rfl, ?_⟩) (by assumption) ?_
          rotate_left
          · intro w hSw
            (try dsimp only at hSw)
            obtain ⟨s1, s2, s3⟩ := hSw; have z1 := (blk3 s1).1; have z2 := (blk3 s2).1; (go_simp; try (with_reducible rfl))
          try simp only [Act.put, List.setIfInBounds_toArray, List.set_cons_zero, List.set_cons_succ]
          refine HL.take_ (i := 24) (oi := { dst := some 52, op := .binOp .lss 3 (.tmp 43) (.tmp 51) 3, type := 4, pos := "gen.go:40", after := #[{ on := 15, ground := .data }, { on := 23, ground := .data }, { on := 13, ground := .guard }], guard := some (13, true) }) (v := ?_) rfl (by decide) (by kernel_rfl) (by kernel_rfl) (fun _ _ _ h => h) (Or.inl ⟨by rfl, ?_⟩) (by assumption) ?_
          rotate_left
          · intro w hSw
            (try dsimp only at hSw)
            obtain ⟨s1, s2, s3⟩ := hSw; have z1 := (blk3 s1).1; have z2 := (blk3 s2).1; (go_simp; try (with_reducible rfl))
          try simp only [Act.put, List.setIfInBounds_toArray, List.set_cons_zero, List.set_cons_succ]
          refine HL.take_ (i := 25) (oi := { dst := some 53, op := .pick (.tmp 41) (.tmp 52) (.const (.bool false)), type := 4, pos := "gen.go:40", after := #[{ on := 13, ground := .data }, { on := 24, ground := .data }], guard := none }) (v := ?_) rfl (by decide) (by kernel_rfl) (by kernel_rfl) (fun _ _ _ h => h) (Or.inl ⟨by rfl, ?_⟩) (by assumption) ?_
          rotate_left
          · intro w hSw
            (try dsimp only at hSw)
            obtain ⟨s1, s2, s3⟩ := hSw; have z1 := (blk3 s1).1; have z2 := (blk3 s2).1; (go_simp; try (with_reducible rfl))
          try simp only [Act.put, List.setIfInBounds_toArray, List.set_cons_zero, List.set_cons_succ]
          refine HL.done_ (by kernel_rfl) ?_
          simp only [List.drop_succ_cons, List.drop_zero]
          go_upto_region 4 with (fail)
          obtain ⟨s1, s2, s3⟩ := hS1
          have z1 := (blk3 s1).1
          have z2 := (blk3 s2).1
          have z3 := KX1.out
          clear s1 s2 s3
          go_quiet (fail)
          go_wp2_with fail
          go_ret
          exact ⟨by rw [HR.out]; rfl, below_drewN' HB1.out _⟩
        · have HR : Hid (r = -1) := Lib.hid (by rw [HV.out, if_neg (by omega), if_neg (by omega)])
          clear HV
          go_enter Try.func66, Try.ntmps66
          go_upto_region 3 with (fail)
          have m0 := blk_alloc (heap_alloc_new w (.cells #[.slice sa sn sc, .slice ga gn gc, .slice (some ⟨b, off, none⟩) n fc, .slice ea en ec, .slice (some ⟨vb, voff, none⟩) n vc, .slice ca n cc, .int .i64 (all : Nat), .int .i64 (all : Nat)] 95)) (.cells #[.int .u8 1, .int .i64 id] 43)
          have m1 : ((w.alloc (.cells #[.slice sa sn sc, .slice ga gn gc, .slice (some ⟨b, off, none⟩) n fc, .slice ea en ec, .slice (some ⟨vb, voff, none⟩) n vc, .slice ca n cc, .int .i64 (all : Nat), .int .i64 (all : Nat)] 95)).alloc (.cells #[.int .u8 1, .int .i64 id] 43)).heap[w.heap.size + 1]? = some (.cells #[.int .u8 1, .int .i64 id] 43) := by
            have := heap_alloc_new (w.alloc (.cells #[.slice sa sn sc, .slice ga gn gc, .slice (some ⟨b, off, none⟩) n fc, .slice ea en ec, .slice (some ⟨vb, voff, none⟩) n vc, .slice ca n cc, .int .i64 (all : Nat), .int .i64 (all : Nat)] 95)) (.cells #[.int .u8 1, .int .i64 id] 43)
            rwa [World.size_alloc] at this
          have bw : Below w.heap.size w ((w.alloc (.cells #[.slice sa sn sc, .slice ga gn gc, .slice (some ⟨b, off, none⟩) n fc, .slice ea en ec, .slice (some ⟨vb, voff, none⟩) n vc, .slice ca n cc, .int .i64 (all : Nat), .int .i64 (all : Nat)] 95)).alloc (.cells #[.int .u8 1, .int .i64 id] 43)) := ((Below.refl _ _).alloc (Nat.le_refl _) _).alloc (by simp) _
          obtain ⟨W, hW⟩ : ∃ W, W = ((w.alloc (.cells #[.slice sa sn sc, .slice ga gn gc, .slice (some ⟨b, off, none⟩) n fc, .slice ea en ec, .slice (some ⟨vb, voff, none⟩) n vc, .slice ca n cc, .int .i64 (all : Nat), .int .i64 (all : Nat)] 95)).alloc (.cells #[.int .u8 1, .int .i64 id] 43)) := ⟨_, rfl⟩
          rw [← hW] at m0 m1 bw ⊢
          have HB := Lib.hid bw
          have KX : Hid (W.cell? ⟨vb, voff + fn, none⟩ = some (.int .i64 (q : Nat))) := Lib.hid ((bw.cell (p := ⟨vb, voff + fn, none⟩) (World.block_lt_of_cell? _ _ kx)).trans kx)
          have hS0 : (fun w' => w'.heap[w.heap.size]? = some (.cells #[.slice sa sn sc, .slice ga gn gc, .slice (some ⟨b, off, none⟩) n fc, .slice ea en ec, .slice (some ⟨vb, voff, none⟩) n vc, .slice ca n cc, .int .i64 (all : Nat), .int .i64 (all : Nat)] 95) ∧ w'.heap[w.heap.size + 1]? = some (.cells #[.int .u8 1, .int .i64 id] 43) ∧ w'.cell? ⟨b, off + fn * 5 + 2, none⟩ = some (.slice la ln lc)) W := ⟨m0, m1, (bw.cell (p := ⟨b, off + fn * 5 + 2, none⟩) (World.block_lt_of_cell? _ _ k2)).trans k2⟩
          clear hW bw m0 m1 k0 k1 k2 k3 k4 kx
          refine wp_region_HL (S := (fun w' => w'.heap[w.heap.size]? = some (.cells #[.slice sa sn sc, .slice ga gn gc, .slice (some ⟨b, off, none⟩) n fc, .slice ea en ec, .slice (some ⟨vb, voff, none⟩) n vc, .slice ca n cc, .int .i64 (all : Nat), .int .i64 (all : Nat)] 95) ∧ w'.heap[w.heap.size + 1]? = some (.cells #[.int .u8 1, .int .i64 id] 43) ∧ w'.cell? ⟨b, off + fn * 5 + 2, none⟩ = some (.slice la ln lc))) 26 (by kernel_rfl) (by kernel_rfl) (by kernel_rfl) (by kernel_rfl) (by decide) hS0 (fun hHeld => ?_)
          refine HL.take_ (i := 0) (oi := { dst := some 28, op := .fieldAddr 43 (.tmp 5) 0, type := 0, pos := "gen.go:40", after := #[], guard := none }) (v := ?_) rfl (by decide) (by kernel_rfl) (by kernel_rfl) (fun _ _ _ h => h) (Or.inl ⟨by rfl, ?_⟩) (by assumption) ?_
          rotate_left
          · intro w hSw
            (try dsimp only at hSw)
            obtain ⟨s1, s2, s3⟩ := hSw; have z1 := (blk3 s1).1; have z2 := (blk3 s2).1; (go_simp; try (with_reducible rfl))
          try simp only [Act.put, List.setIfInBounds_toArray, List.set_cons_zero, List.set_cons_succ]
          refine HL.take_ (i := 1) (oi := { dst := some 29, op := .load 5 (.tmp 28), type := 5, pos := "gen.go:40", after := #[{ on := 0, ground := .data }], guard := none }) (v := ?_) rfl (by decide) (by kernel_rfl) (by kernel_rfl) (fun _ _ _ h => h) (Or.inl ⟨by rfl, ?_⟩) (by assumption) ?_
          rotate_left
          · intro w hSw
            (try dsimp only at hSw)
            obtain ⟨s1, s2, s3⟩ := hSw; have z1 := (blk3 s1).1; have z2 := (blk3 s2).1; (go_simp; try (with_reducible rfl))
          try simp only [Act.put, List.setIfInBounds_toArray, List.set_cons_zero, List.set_cons_succ]
          refine HL.take_ (i := 2) (oi := { dst := some 30, op := .binOp .eql 5 (.tmp 29) (.const (.int .u8 1)) 5, type := 4, pos := "gen.go:40", after := #[{ on := 1, ground := .data }], guard := none }) (v := ?_) rfl (by decide) (by kernel_rfl) (by kernel_rfl) (fun _ _ _ h => h) (Or.inl ⟨by rfl, ?_⟩) (by assumption) ?_
          rotate_left
          · intro w hSw
            (try dsimp only at hSw)
            obtain ⟨s1, s2, s3⟩ := hSw; have z1 := (blk3 s1).1; have z2 := (blk3 s2).1; (go_simp; try (with_reducible rfl))
          try simp only [Act.put, List.setIfInBounds_toArray, List.set_cons_zero, List.set_cons_succ]
          refine HL.take_ (i := 3) (oi := { dst := some 31, op := .move (.tmp 30), type := 4, pos := "gen.go:40", after := #[{ on := 2, ground := .data }], guard := none }) (v := ?_) rfl (by decide) (by kernel_rfl) (by kernel_rfl) (fun _ _ _ h => h) (Or.inl ⟨by rfl, ?_⟩) (by assumption) ?_
          rotate_left
          · intro w hSw
            (try dsimp only at hSw)
            obtain ⟨s1, s2, s3⟩ := hSw; have z1 := (blk3 s1).1; have z2 := (blk3 s2).1; (go_simp; try (with_reducible rfl))
          try simp only [Act.put, List.setIfInBounds_toArray, List.set_cons_zero, List.set_cons_succ]
          refine HL.take_ (i := 4) (oi := { dst := some 32, op := .load 95 (.tmp 3), type := 95, pos := "gen.go:40", after := #[{ on := 3, ground := .guard }], guard := some (3, true) }) (v := ?_) rfl (by decide) (by kernel_rfl) (by kernel_rfl) (fun _ _ _ h => h) (Or.inl ⟨by rfl, ?_⟩) (by assumption) ?_
          rotate_left
          · intro w hSw
            (try dsimp only at hSw)
            obtain ⟨s1, s2, s3⟩ := hSw; have z1 := (blk3 s1).1; have z2 := (blk3 s2).1; (go_simp; try (with_reducible rfl))
          try simp only [Act.put, List.setIfInBounds_toArray, List.set_cons_zero, List.set_cons_succ]
          refine HL.take_ (i := 5) (oi := { dst := some 33, op := .move (.tmp 1), type := 3, pos := "gen.go:40", after := #[{ on := 3, ground := .guard }], guard := some (3, true) }) (v := ?_) rfl (by decide) (by kernel_rfl) (by kernel_rfl) (fun _ _ _ h => h) (Or.inl ⟨by rfl, ?_⟩) (by assumption) ?_
          rotate_left
          · intro w hSw
            (try dsimp only at hSw)
            obtain ⟨s1, s2, s3⟩ := hSw; have z1 := (blk3 s1).1; have z2 := (blk3 s2).1; (go_simp; try (with_reducible rfl))
          try simp only [Act.put, List.setIfInBounds_toArray, List.set_cons_zero, List.set_cons_succ]
          refine HL.step_ (i := 6) (o := { dst := some 34, op := .call { callee := .value (.func 72), args := #[.tmp 32, .tmp 33], argTypes := #[95, 3] }, type := 4, pos := "gen.go:40", after := #[{ on := 4, ground := .data }, { on := 5, ground := .data }, { on := 3, ground := .chain }, { on := 3, ground := .guard }], guard := some (3, true) }) rfl (by decide) (by kernel_rfl) (fun K hK => ?_)
          go_simp
          refine (in_calls _ sa ga (some ⟨b, off, none⟩) ea (some ⟨vb, voff, none⟩) ca sn sc gn gc n fc en ec n vc n cc _ _ fn hlt).mono ?_
          rintro e w1 ⟨rfl, hb1⟩
          replace hb1 : Below W.heap.size W w1 := ⟨hb1.os, hb1.tape, hb1.output, hb1.size, hb1.block⟩
          go_simp
          have hS1 : (fun w' => w'.heap[w.heap.size]? = some (.cells #[.slice sa sn sc, .slice ga gn gc, .slice (some ⟨b, off, none⟩) n fc, .slice ea en ec, .slice (some ⟨vb, voff, none⟩) n vc, .slice ca n cc, .int .i64 (all : Nat), .int .i64 (all : Nat)] 95) ∧ w'.heap[w.heap.size + 1]? = some (.cells #[.int .u8 1, .int .i64 id] 43) ∧ w'.cell? ⟨b, off + fn * 5 + 2, none⟩ = some (.slice la ln lc)) w1 := ⟨blk_below hS0.1 hb1, blk_below hS0.2.1 hb1, (hb1.cell (p := ⟨b, off + fn * 5 + 2, none⟩) (World.block_lt_of_cell? _ _ hS0.2.2)).trans hS0.2.2⟩
          have HB1 := Lib.hid (HB.out.trans (hb1.mono HB.out.size))
          have KX1 : Hid (w1.cell? ⟨vb, voff + fn, none⟩ = some (.int .i64 (q : Nat))) := Lib.hid ((hb1.cell (p := ⟨vb, voff + fn, none⟩) (World.block_lt_of_cell? _ _ KX.out)).trans KX.out)
          clear hb1 hS0
          refine hK.out _ _ hS1 (fun hHeld => ?_)
          clear hK K
          try simp only [Act.put, List.setIfInBounds_toArray, List.set_cons_zero, List.set_cons_succ]
          refine HL.take_ (i := 7) (oi := { dst := some 35, op := .pick (.tmp 31) (.tmp 34) (.const (.bool false)), type := 4, pos := "gen.go:40", after := #[{ on := 3, ground := .data }, { on := 6, ground := .data }], guard := none }) (v := ?_) rfl (by decide) (by kernel_rfl) (by kernel_rfl) (fun _ _ _ h => h) (Or.inl ⟨by rfl, ?_⟩) (by assumption) ?_
          rotate_left
          · intro w hSw
            (try dsimp only at hSw)
            obtain ⟨s1, s2, s3⟩ := hSw; have z1 := (blk3 s1).1; have z2 := (blk3 s2).1; (go_simp; try (with_reducible rfl))
          try simp only [Act.put, List.setIfInBounds_toArray, List.set_cons_zero, List.set_cons_succ]
          refine HL.take_ (i := 8) (oi := { dst := some 36, op := .move (.tmp 35), type := 4, pos := "gen.go:40", after := #[{ on := 7, ground := .data }, { on := 6, ground := .chain }], guard := none }) (v := ?_) rfl (by decide) (by kernel_rfl) (by kernel_rfl) (fun _ _ _ h => h) (Or.inl ⟨by rfl, ?_⟩) (by assumption) ?_
          rotate_left
          · intro w hSw
            (try dsimp only at hSw)
            obtain ⟨s1, s2, s3⟩ := hSw; have z1 := (blk3 s1).1; have z2 := (blk3 s2).1; (go_simp; try (with_reducible rfl))
          try simp only [Act.put, List.setIfInBounds_toArray, List.set_cons_zero, List.set_cons_succ]
          refine HL.take_ (i := 9) (oi := { dst := some 37, op := .fieldAddr 43 (.tmp 5) 1, type := 0, pos := "gen.go:40", after := #[{ on := 8, ground := .guard }], guard := some (8, true) }) (v := ?_) rfl (by decide) (by kernel_rfl) (by kernel_rfl) (fun _ _ _ h => h) (Or.inl ⟨by rfl, ?_⟩) (by assumption) ?_
          rotate_left
          · intro w hSw
            (try dsimp only at hSw)
            obtain ⟨s1, s2, s3⟩ := hSw; have z1 := (blk3 s1).1; have z2 := (blk3 s2).1; (go_simp; try (with_reducible rfl))
          try simp only [Act.put, List.setIfInBounds_toArray, List.set_cons_zero, List.set_cons_succ]
          refine HL.take_ (i := 10) (oi := { dst := some 38, op := .load 3 (.tmp 37), type := 3, pos := "gen.go:40", after := #[{ on := 9, ground := .data }, { on := 8, ground := .guard }], guard := some (8, true) }) (v := ?_) rfl (by decide) (by kernel_rfl) (by kernel_rfl) (fun _ _ _ h => h) (Or.inl ⟨by rfl, ?_⟩) (by assumption) ?_
          rotate_left
          · intro w hSw
            (try dsimp only at hSw)
            obtain ⟨s1, s2, s3⟩ := hSw; have z1 := (blk3 s1).1; have z2 := (blk3 s2).1; (go_simp; try (with_reducible rfl))
          try simp only [Act.put, List.setIfInBounds_toArray, List.set_cons_zero, List.set_cons_succ]
          refine HL.take_ (i := 11) (oi := { dst := some 39, op := .binOp .geq 3 (.tmp 38) (.const (.int .i64 0)) 3, type := 4, pos := "gen.go:40", after := #[{ on := 10, ground := .data }, { on := 8, ground := .guard }], guard := some (8, true) }) (v := ?_) rfl (by decide) (by kernel_rfl) (by kernel_rfl) (fun _ _ _ h => h) (Or.inl ⟨by rfl, ?_⟩) (by assumption) ?_
          rotate_left
          · intro w hSw
            (try dsimp only at hSw)
            obtain ⟨s1, s2, s3⟩ := hSw; have z1 := (blk3 s1).1; have z2 := (blk3 s2).1; (go_simp; try (with_reducible rfl))
          try simp only [Act.put, List.setIfInBounds_toArray, List.set_cons_zero, List.set_cons_succ]
          refine HL.take_ (i := 12) (oi := { dst := some 40, op := .pick (.tmp 36) (.tmp 39) (.const (.bool false)), type := 4, pos := "gen.go:40", after := #[{ on := 8, ground := .data }, { on := 11, ground := .data }], guard := none }) (v := ?_) rfl (by decide) (by kernel_rfl) (by kernel_rfl) (fun _ _ _ h => h) (Or.inl ⟨by rfl, ?_⟩) (by assumption) ?_
          rotate_left
          · intro w hSw
            (try dsimp only at hSw)
            obtain ⟨s1, s2, s3⟩ := hSw; have z1 := (blk3 s1).1; have z2 := (blk3 s2).1; (go_simp; try (with_reducible rfl))
          try simp only [Act.put, List.setIfInBounds_toArray, List.set_cons_zero, List.set_cons_succ]
          refine HL.take_ (i := 13) (oi := { dst := some 41, op := .move (.tmp 40), type := 4, pos := "gen.go:40", after := #[{ on := 12, ground := .data }, { on := 8, ground := .chain }], guard := none }) (v := ?_) rfl (by decide) (by kernel_rfl) (by kernel_rfl) (fun _ _ _ h => h) (Or.inl ⟨by rfl, ?_⟩) (by assumption) ?_
          rotate_left
          · intro w hSw
            (try dsimp only at hSw)
            obtain ⟨s1, s2, s3⟩ := hSw; have z1 := (blk3 s1).1; have z2 := (blk3 s2).1; (go_simp; try (with_reducible rfl))
          try simp only [Act.put, List.setIfInBounds_toArray, List.set_cons_zero, List.set_cons_succ]
          refine HL.take_ (i := 14) (oi := { dst := some 42, op := .fieldAddr 43 (.tmp 5) 1, type := 0, pos := "gen.go:40", after := #[{ on := 13, ground := .guard }], guard := some (13, true) }) (v := ?_) rfl (by decide) (by kernel_rfl) (by kernel_rfl) (fun _ _ _ h => h) (Or.inl ⟨by rfl, ?_⟩) (by assumption) ?_
          rotate_left
          · intro w hSw
            (try dsimp only at hSw)
            obtain ⟨s1, s2, s3⟩ := hSw; have z1 := (blk3 s1).1; have z2 := (blk3 s2).1; (go_simp; try (with_reducible rfl))
          try simp only [Act.put, List.setIfInBounds_toArray, List.set_cons_zero, List.set_cons_succ]
          refine HL.take_ (i := 15) (oi := { dst := some 43, op := .load 3 (.tmp 42), type := 3, pos := "gen.go:40", after := #[{ on := 14, ground := .data }, { on := 13, ground := .guard }], guard := some (13, true) }) (v := ?_) rfl (by decide) (by kernel_rfl) (by kernel_rfl) (fun _ _ _ h => h) (Or.inl ⟨by rfl, ?_⟩) (by assumption) ?_
          rotate_left
          · intro w hSw
            (try dsimp only at hSw)
            obtain ⟨s1, s2, s3⟩ := hSw; have z1 := (blk3 s1).1; have z2 := (blk3 s2).1; (go_simp; try (with_reducible rfl))
          try simp only [Act.put, List.setIfInBounds_toArray, List.set_cons_zero, List.set_cons_succ]
          refine HL.take_ (i := 16) (oi := { dst := some 44, op := .fieldAddr 95 (.tmp 3) 0, type := 0, pos := "gen.go:40", after := #[{ on := 13, ground := .guard }], guard := some (13, true) }) (v := ?_) rfl (by decide) (by kernel_rfl) (by kernel_rfl) (fun _ _ _ h => h) (Or.inl ⟨by rfl, ?_⟩) (by assumption) ?_
          rotate_left
          · intro w hSw
            (try dsimp only at hSw)
            obtain ⟨s1, s2, s3⟩ := hSw; have z1 := (blk3 s1).1; have z2 := (blk3 s2).1; (go_simp; try (with_reducible rfl))
          try simp only [Act.put, List.setIfInBounds_toArray, List.set_cons_zero, List.set_cons_succ]
          refine HL.take_ (i := 17) (oi := { dst := some 45, op := .fieldAddr 32 (.tmp 44) 2, type := 0, pos := "gen.go:40", after := #[{ on := 16, ground := .data }, { on := 13, ground := .guard }], guard := some (13, true) }) (v := ?_) rfl (by decide) (by kernel_rfl) (by kernel_rfl) (fun _ _ _ h => h) (Or.inl ⟨by rfl, ?_⟩) (by assumption) ?_
          rotate_left
          · intro w hSw
            (try dsimp only at hSw)
            obtain ⟨s1, s2, s3⟩ := hSw; have z1 := (blk3 s1).1; have z2 := (blk3 s2).1; (go_simp; try (with_reducible rfl))
          try simp only [Act.put, List.setIfInBounds_toArray, List.set_cons_zero, List.set_cons_succ]
          refine HL.take_ (i := 18) (oi := { dst := some 46, op := .load 30 (.tmp 45), type := 30, pos := "gen.go:40", after := #[{ on := 17, ground := .data }, { on := 13, ground := .guard }], guard := some (13, true) }) (v := ?_) rfl (by decide) (by kernel_rfl) (by kernel_rfl) (fun _ _ _ h => h) (Or.inl ⟨by rfl, ?_⟩) (by assumption) ?_
          rotate_left
          · intro w hSw
            (try dsimp only at hSw)
            obtain ⟨s1, s2, s3⟩ := hSw; have z1 := (blk3 s1).1; have z2 := (blk3 s2).1; (go_simp; try (with_reducible rfl))
          try simp only [Act.put, List.setIfInBounds_toArray, List.set_cons_zero, List.set_cons_succ]
          refine HL.take_ (i := 19) (oi := { dst := some 47, op := .move (.tmp 1), type := 3, pos := "gen.go:40", after := #[{ on := 13, ground := .guard }], guard := some (13, true) }) (v := ?_) rfl (by decide) (by kernel_rfl) (by kernel_rfl) (fun _ _ _ h => h) (Or.inl ⟨by rfl, ?_⟩) (by assumption) ?_
          rotate_left
          · intro w hSw
            (try dsimp only at hSw)
            obtain ⟨s1, s2, s3⟩ := hSw; have z1 := (blk3 s1).1; have z2 := (blk3 s2).1; (go_simp; try (with_reducible rfl))
          try simp only [Act.put, List.setIfInBounds_toArray, List.set_cons_zero, List.set_cons_succ]
          refine HL.take_ (i := 20) (oi := { dst := some 48, op := .indexAddr 30 (.tmp 46) (.tmp 47), type := 0, pos := "gen.go:40", after := #[{ on := 18, ground := .data }, { on := 19, ground := .data }, { on := 13, ground := .guard }], guard := some (13, true) }) (v := ?_) rfl (by decide) (by kernel_rfl) (by kernel_rfl) (fun _ _ _ h => h) (Or.inl ⟨by rfl, ?_⟩) (by assumption) ?_
          rotate_left
          · intro w hSw
            (try dsimp only at hSw)
            obtain ⟨s1, s2, s3⟩ := hSw; have z1 := (blk3 s1).1; have z2 := (blk3 s2).1; (go_simp; try (with_reducible rfl))
          try simp only [Act.put, List.setIfInBounds_toArray, List.set_cons_zero, List.set_cons_succ]
          refine HL.take_ (i := 21) (oi := { dst := some 49, op := .fieldAddr 35 (.tmp 48) 2, type := 0, pos := "gen.go:40", after := #[{ on := 20, ground := .data }, { on := 13, ground := .guard }], guard := some (13, true) }) (v := ?_) rfl (by decide) (by kernel_rfl) (by kernel_rfl) (fun _ _ _ h => h) (Or.inl ⟨by rfl, ?_⟩) (by assumption) ?_
          rotate_left
          · intro w hSw
            (try dsimp only at hSw)
            obtain ⟨s1, s2, s3⟩ := hSw; have z1 := (blk3 s1).1; have z2 := (blk3 s2).1; (go_simp; try (with_reducible rfl))
          try simp only [Act.put, List.setIfInBounds_toArray, List.set_cons_zero, List.set_cons_succ]
          refine HL.take_ (i := 22) (oi := { dst := some 50, op := .load 29 (.tmp 49), type := 29, pos := "gen.go:40", after := #[{ on := 21, ground := .data }, { on := 13, ground := .guard }], guard := some (13, true) }) (v := ?_) rfl (by decide) (by kernel_rfl) (by kernel_rfl) (fun _ _ _ h => h) (Or.inl ⟨by rfl, ?_⟩) (by assumption) ?_
          rotate_left
          · intro w hSw
            (try dsimp only at hSw)
            obtain ⟨s1, s2, s3⟩ := hSw; have z1 := (blk3 s1).1; have z2 := (blk3 s2).1; (go_simp; try (with_reducible rfl))
          try simp only [Act.put, List.setIfInBounds_toArray, List.set_cons_zero, List.set_cons_succ]
          refine HL.take_ (i := 23) (oi := { dst := some 51, op := .call { callee := .builtin .len, args := #[.tmp 50], argTypes := #[29] }, type := 3, pos := "gen.go:40", after := #[{ on := 22, ground := .data }, { on := 13, ground := .guard }], guard := some (13, true) }) (v := ?_) rfl (by decide) (by kernel_rfl) (by kernel_rfl) (fun _ _ _ h => h) (Or.inl ⟨by rfl, ?_⟩) (by assumption) ?_
          rotate_left
          · intro w hSw
            (try dsimp only at hSw)
            obtain ⟨s1, s2, s3⟩ := hSw; have z1 := (blk3 s1).1; have z2 := (blk3 s2).1; (go_simp; try (with_reducible rfl))
          try simp only [Act.put, List.setIfInBounds_toArray, List.set_cons_zero, List.set_cons_succ]
          refine HL.take_ (i := 24) (oi := { dst := some 52, op := .binOp .lss 3 (.tmp 43) (.tmp 51) 3, type := 4, pos := "gen.go:40", after := #[{ on := 15, ground := .data }, { on := 23, ground := .data }, { on := 13, ground := .guard }], guard := some (13, true) }) (v := ?_) rfl (by decide) (by kernel_rfl) (by kernel_rfl) (fun _ _ _ h => h) (Or.inl ⟨by rfl, ?_⟩) (by assumption) ?_
          rotate_left
          · intro w hSw
            (try dsimp only at hSw)
            obtain ⟨s1, s2, s3⟩ := hSw; have z1 := (blk3 s1).1; have z2 := (blk3 s2).1; (go_simp; try (with_reducible rfl))
          try simp only [Act.put, List.setIfInBounds_toArray, List.set_cons_zero, List.set_cons_succ]
          refine HL.take_ (i := 25) (oi := { dst := some 53, op := .pick (.tmp 41) (.tmp 52) (.const (.bool false)), type := 4, pos := "gen.go:40", after := #[{ on := 13, ground := .data }, { on := 24, ground := .data }], guard := none }) (v := ?_) rfl (by decide) (by kernel_rfl) (by kernel_rfl) (fun _ _ _ h => h) (Or.inl ⟨by rfl, ?_⟩) (by assumption) ?_
          rotate_left
          · intro w hSw
            (try dsimp only at hSw)
            obtain ⟨s1, s2, s3⟩ := hSw; have z1 := (blk3 s1).1; have z2 := (blk3 s2).1; (go_simp; try (with_reducible rfl))
          try simp only [Act.put, List.setIfInBounds_toArray, List.set_cons_zero, List.set_cons_succ]
          refine HL.done_ (by kernel_rfl) ?_
          simp only [List.drop_succ_cons, List.drop_zero]
          go_wp2_with fail
          go_ret
          exact ⟨by rw [HR.out]; rfl, HB1.out⟩
      · have HR : Hid (r = -1) := Lib.hid (by rw [HV.out, if_neg (by omega), if_neg (by omega)])
        clear HV
        go_enter Try.func66, Try.ntmps66
        go_upto_region 3 with (fail)
        have m0 := blk_alloc (heap_alloc_new w (.cells #[.slice sa sn sc, .slice ga gn gc, .slice (some ⟨b, off, none⟩) n fc, .slice ea en ec, .slice (some ⟨vb, voff, none⟩) n vc, .slice ca n cc, .int .i64 (all : Nat), .int .i64 (all : Nat)] 95)) (.cells #[.int .u8 1, .int .i64 id] 43)
        have m1 : ((w.alloc (.cells #[.slice sa sn sc, .slice ga gn gc, .slice (some ⟨b, off, none⟩) n fc, .slice ea en ec, .slice (some ⟨vb, voff, none⟩) n vc, .slice ca n cc, .int .i64 (all : Nat), .int .i64 (all : Nat)] 95)).alloc (.cells #[.int .u8 1, .int .i64 id] 43)).heap[w.heap.size + 1]? = some (.cells #[.int .u8 1, .int .i64 id] 43) := by
          have := heap_alloc_new (w.alloc (.cells #[.slice sa sn sc, .slice ga gn gc, .slice (some ⟨b, off, none⟩) n fc, .slice ea en ec, .slice (some ⟨vb, voff, none⟩) n vc, .slice ca n cc, .int .i64 (all : Nat), .int .i64 (all : Nat)] 95)) (.cells #[.int .u8 1, .int .i64 id] 43)
          rwa [World.size_alloc] at this
        have bw : Below w.heap.size w ((w.alloc (.cells #[.slice sa sn sc, .slice ga gn gc, .slice (some ⟨b, off, none⟩) n fc, .slice ea en ec, .slice (some ⟨vb, voff, none⟩) n vc, .slice ca n cc, .int .i64 (all : Nat), .int .i64 (all : Nat)] 95)).alloc (.cells #[.int .u8 1, .int .i64 id] 43)) := ((Below.refl _ _).alloc (Nat.le_refl _) _).alloc (by simp) _
        obtain ⟨W, hW⟩ : ∃ W, W = ((w.alloc (.cells #[.slice sa sn sc, .slice ga gn gc, .slice (some ⟨b, off, none⟩) n fc, .slice ea en ec, .slice (some ⟨vb, voff, none⟩) n vc, .slice ca n cc, .int .i64 (all : Nat), .int .i64 (all : Nat)] 95)).alloc (.cells #[.int .u8 1, .int .i64 id] 43)) := ⟨_, rfl⟩
        rw [← hW] at m0 m1 bw ⊢
        have HB := Lib.hid bw
        have KX : Hid (W.cell? ⟨vb, voff + fn, none⟩ = some (.int .i64 (q : Nat))) := Lib.hid ((bw.cell (p := ⟨vb, voff + fn, none⟩) (World.block_lt_of_cell? _ _ kx)).trans kx)
        have hS0 : (fun w' => w'.heap[w.heap.size]? = some (.cells #[.slice sa sn sc, .slice ga gn gc, .slice (some ⟨b, off, none⟩) n fc, .slice ea en ec, .slice (some ⟨vb, voff, none⟩) n vc, .slice ca n cc, .int .i64 (all : Nat), .int .i64 (all : Nat)] 95) ∧ w'.heap[w.heap.size + 1]? = some (.cells #[.int .u8 1, .int .i64 id] 43) ∧ w'.cell? ⟨b, off + fn * 5 + 2, none⟩ = some (.slice la ln lc)) W := ⟨m0, m1, (bw.cell (p := ⟨b, off + fn * 5 + 2, none⟩) (World.block_lt_of_cell? _ _ k2)).trans k2⟩
        clear hW bw m0 m1 k0 k1 k2 k3 k4 kx
        refine wp_region_HL (S := (fun w' => w'.heap[w.heap.size]? = some (.cells #[.slice sa sn sc, .slice ga gn gc, .slice (some ⟨b, off, none⟩) n fc, .slice ea en ec, .slice (some ⟨vb, voff, none⟩) n vc, .slice ca n cc, .int .i64 (all : Nat), .int .i64 (all : Nat)] 95) ∧ w'.heap[w.heap.size + 1]? = some (.cells #[.int .u8 1, .int .i64 id] 43) ∧ w'.cell? ⟨b, off + fn * 5 + 2, none⟩ = some (.slice la ln lc))) 26 (by kernel_rfl) (by kernel_rfl) (by kernel_rfl) (by kernel_rfl) (by decide) hS0 (fun hHeld => ?_)
        refine HL.take_ (i := 0) (oi := { dst := some 28, op := .fieldAddr 43 (.tmp 5) 0, type := 0, pos := "gen.go:40", after := #[], guard := none }) (v := ?_) rfl (by decide) (by kernel_rfl) (by kernel_rfl) (fun _ _ _ h => h) (Or.inl ⟨by rfl, ?_⟩) (by assumption) ?_
        rotate_left
        · intro w hSw
          (try dsimp only at hSw)
          obtain ⟨s1, s2, s3⟩ := hSw; have z1 := (blk3 s1).1; have z2 := (blk3 s2).1; (go_simp; try (with_reducible rfl))
        try simp only [Act.put, List.setIfInBounds_toArray, List.set_cons_zero, List.set_cons_succ]
        refine HL.take_ (i := 1) (oi := { dst := some 29, op := .load 5 (.tmp 28), type := 5, pos := "gen.go:40", after := #[{ on := 0, ground := .data }], guard := none }) (v := ?_) rfl (by decide) (by kernel_rfl) (by kernel_rfl) (fun _ _ _ h => h) (Or.inl ⟨by rfl, ?_⟩) (by assumption) ?_
        rotate_left
        · intro w hSw
          (try dsimp only at hSw)
          obtain ⟨s1, s2, s3⟩ := hSw; have z1 := (blk3 s1).1; have z2 := (blk3 s2).1; (go_simp; try (with_reducible rfl))
        try simp only [Act.put, List.setIfInBounds_toArray, List.set_cons_zero, List.set_cons_succ]
        refine HL.take_ (i := 2) (oi := { dst := some 30, op := .binOp .eql 5 (.tmp 29) (.const (.int .u8 1)) 5, type := 4, pos := "gen.go:40", after := #[{ on := 1, ground := .data }], guard := none }) (v := ?_) rfl (by decide) (by kernel_rfl) (by kernel_rfl) (fun _ _ _ h => h) (Or.inl ⟨by rfl, ?_⟩) (by assumption) ?_
        rotate_left
        · intro w hSw
          (try dsimp only at hSw)
          obtain ⟨s1, s2, s3⟩ := hSw; have z1 := (blk3 s1).1; have z2 := (blk3 s2).1; (go_simp; try (with_reducible rfl))
        try simp only [Act.put, List.setIfInBounds_toArray, List.set_cons_zero, List.set_cons_succ]
        refine HL.take_ (i := 3) (oi := { dst := some 31, op := .move (.tmp 30), type := 4, pos := "gen.go:40", after := #[{ on := 2, ground := .data }], guard := none }) (v := ?_) rfl (by decide) (by kernel_rfl) (by kernel_rfl) (fun _ _ _ h => h) (Or.inl ⟨by rfl, ?_⟩) (by assumption) ?_
        rotate_left
        · intro w hSw
          (try dsimp only at hSw)
          obtain ⟨s1, s2, s3⟩ := hSw; have z1 := (blk3 s1).1; have z2 := (blk3 s2).1; (go_simp; try (with_reducible rfl))
        try simp only [Act.put, List.setIfInBounds_toArray, List.set_cons_zero, List.set_cons_succ]
        refine HL.take_ (i := 4) (oi := { dst := some 32, op := .load 95 (.tmp 3), type := 95, pos := "gen.go:40", after := #[{ on := 3, ground := .guard }], guard := some (3, true) }) (v := ?_) rfl (by decide) (by kernel_rfl) (by kernel_rfl) (fun _ _ _ h => h) (Or.inl ⟨by rfl, ?_⟩) (by assumption) ?_
        rotate_left
        · intro w hSw
          (try dsimp only at hSw)
          obtain ⟨s1, s2, s3⟩ := hSw; have z1 := (blk3 s1).1; have z2 := (blk3 s2).1; (go_simp; try (with_reducible rfl))
        try simp only [Act.put, List.setIfInBounds_toArray, List.set_cons_zero, List.set_cons_succ]
        refine HL.take_ (i := 5) (oi := { dst := some 33, op := .move (.tmp 1), type := 3, pos := "gen.go:40", after := #[{ on := 3, ground := .guard }], guard := some (3, true) }) (v := ?_) rfl (by decide) (by kernel_rfl) (by kernel_rfl) (fun _ _ _ h => h) (Or.inl ⟨by rfl, ?_⟩) (by assumption) ?_
        rotate_left
        · intro w hSw
          (try dsimp only at hSw)
          obtain ⟨s1, s2, s3⟩ := hSw; have z1 := (blk3 s1).1; have z2 := (blk3 s2).1; (go_simp; try (with_reducible rfl))
        try simp only [Act.put, List.setIfInBounds_toArray, List.set_cons_zero, List.set_cons_succ]
        refine HL.step_ (i := 6) (o := { dst := some 34, op := .call { callee := .value (.func 72), args := #[.tmp 32, .tmp 33], argTypes := #[95, 3] }, type := 4, pos := "gen.go:40", after := #[{ on := 4, ground := .data }, { on := 5, ground := .data }, { on := 3, ground := .chain }, { on := 3, ground := .guard }], guard := some (3, true) }) rfl (by decide) (by kernel_rfl) (fun K hK => ?_)
        go_simp
        refine (in_calls _ sa ga (some ⟨b, off, none⟩) ea (some ⟨vb, voff, none⟩) ca sn sc gn gc n fc en ec n vc n cc _ _ fn hlt).mono ?_
        rintro e w1 ⟨rfl, hb1⟩
        replace hb1 : Below W.heap.size W w1 := ⟨hb1.os, hb1.tape, hb1.output, hb1.size, hb1.block⟩
        go_simp
        have hS1 : (fun w' => w'.heap[w.heap.size]? = some (.cells #[.slice sa sn sc, .slice ga gn gc, .slice (some ⟨b, off, none⟩) n fc, .slice ea en ec, .slice (some ⟨vb, voff, none⟩) n vc, .slice ca n cc, .int .i64 (all : Nat), .int .i64 (all : Nat)] 95) ∧ w'.heap[w.heap.size + 1]? = some (.cells #[.int .u8 1, .int .i64 id] 43) ∧ w'.cell? ⟨b, off + fn * 5 + 2, none⟩ = some (.slice la ln lc)) w1 := ⟨blk_below hS0.1 hb1, blk_below hS0.2.1 hb1, (hb1.cell (p := ⟨b, off + fn * 5 + 2, none⟩) (World.block_lt_of_cell? _ _ hS0.2.2)).trans hS0.2.2⟩
        have HB1 := Lib.hid (HB.out.trans (hb1.mono HB.out.size))
        have KX1 : Hid (w1.cell? ⟨vb, voff + fn, none⟩ = some (.int .i64 (q : Nat))) := Lib.hid ((hb1.cell (p := ⟨vb, voff + fn, none⟩) (World.block_lt_of_cell? _ _ KX.out)).trans KX.out)
        clear hb1 hS0
        refine hK.out _ _ hS1 (fun hHeld => ?_)
        clear hK K
        try simp only [Act.put, List.setIfInBounds_toArray, List.set_cons_zero, List.set_cons_succ]
        refine HL.take_ (i := 7) (oi := { dst := some 35, op := .pick (.tmp 31) (.tmp 34) (.const (.bool false)), type := 4, pos := "gen.go:40", after := #[{ on := 3, ground := .data }, { on := 6, ground := .data }], guard := none }) (v := ?_) rfl (by decide) (by kernel_rfl) (by kernel_rfl) (fun _ _ _ h => h) (Or.inl ⟨by rfl, ?_⟩) (by assumption) ?_
        rotate_left
        · intro w hSw
          (try dsimp only at hSw)
          obtain ⟨s1, s2, s3⟩ := hSw; have z1 := (blk3 s1).1; have z2 := (blk3 s2).1; (go_simp; try (with_reducible rfl))
        try simp only [Act.put, List.setIfInBounds_toArray, List.set_cons_zero, List.set_cons_succ]
        refine HL.take_ (i := 8) (oi := { dst := some 36, op := .move (.tmp 35), type := 4, pos := "gen.go:40", after := #[{ on := 7, ground := .data }, { on := 6, ground := .chain }], guard := none }) (v := ?_) rfl (by decide) (by kernel_rfl) (by kernel_rfl) (fun _ _ _ h => h) (Or.inl ⟨by rfl, ?_⟩) (by assumption) ?_
        rotate_left
        · intro w hSw
          (try dsimp only at hSw)
          obtain ⟨s1, s2, s3⟩ := hSw; have z1 := (blk3 s1).1; have z2 := (blk3 s2).1; (go_simp; try (with_reducible rfl))
        try simp only [Act.put, List.setIfInBounds_toArray, List.set_cons_zero, List.set_cons_succ]
        refine HL.take_ (i := 9) (oi := { dst := some 37, op := .fieldAddr 43 (.tmp 5) 1, type := 0, pos := "gen.go:40", after := #[{ on := 8, ground := .guard }], guard := some (8, true) }) (v := ?_) rfl (by decide) (by kernel_rfl) (by kernel_rfl) (fun _ _ _ h => h) (Or.inl ⟨by rfl, ?_⟩) (by assumption) ?_
        rotate_left
        · intro w hSw
          (try dsimp only at hSw)
          obtain ⟨s1, s2, s3⟩ := hSw; have z1 := (blk3 s1).1; have z2 := (blk3 s2).1; (go_simp; try (with_reducible rfl))
        try simp only [Act.put, List.setIfInBounds_toArray, List.set_cons_zero, List.set_cons_succ]
        refine HL.take_ (i := 10) (oi := { dst := some 38, op := .load 3 (.tmp 37), type := 3, pos := "gen.go:40", after := #[{ on := 9, ground := .data }, { on := 8, ground := .guard }], guard := some (8, true) }) (v := ?_) rfl (by decide) (by kernel_rfl) (by kernel_rfl) (fun _ _ _ h => h) (Or.inl ⟨by rfl, ?_⟩) (by assumption) ?_
        rotate_left
        · intro w hSw
          (try dsimp only at hSw)
          obtain ⟨s1, s2, s3⟩ := hSw; have z1 := (blk3 s1).1; have z2 := (blk3 s2).1; (go_simp; try (with_reducible rfl))
        try simp only [Act.put, List.setIfInBounds_toArray, List.set_cons_zero, List.set_cons_succ]
        refine HL.take_ (i := 11) (oi := { dst := some 39, op := .binOp .geq 3 (.tmp 38) (.const (.int .i64 0)) 3, type := 4, pos := "gen.go:40", after := #[{ on := 10, ground := .data }, { on := 8, ground := .guard }], guard := some (8, true) }) (v := ?_) rfl (by decide) (by kernel_rfl) (by kernel_rfl) (fun _ _ _ h => h) (Or.inl ⟨by rfl, ?_⟩) (by assumption) ?_
        rotate_left
        · intro w hSw
          (try dsimp only at hSw)
          obtain ⟨s1, s2, s3⟩ := hSw; have z1 := (blk3 s1).1; have z2 := (blk3 s2).1; (go_simp; try (with_reducible rfl))
        try simp only [Act.put, List.setIfInBounds_toArray, List.set_cons_zero, List.set_cons_succ]
        refine HL.take_ (i := 12) (oi := { dst := some 40, op := .pick (.tmp 36) (.tmp 39) (.const (.bool false)), type := 4, pos := "gen.go:40", after := #[{ on := 8, ground := .data }, { on := 11, ground := .data }], guard := none }) (v := ?_) rfl (by decide) (by kernel_rfl) (by kernel_rfl) (fun _ _ _ h => h) (Or.inl ⟨by rfl, ?_⟩) (by assumption) ?_
        rotate_left
        · intro w hSw
          (try dsimp only at hSw)
          obtain ⟨s1, s2, s3⟩ := hSw; have z1 := (blk3 s1).1; have z2 := (blk3 s2).1; (go_simp; try (with_reducible rfl))
        try simp only [Act.put, List.setIfInBounds_toArray, List.set_cons_zero, List.set_cons_succ]
        refine HL.take_ (i := 13) (oi := { dst := some 41, op := .move (.tmp 40), type := 4, pos := "gen.go:40", after := #[{ on := 12, ground := .data }, { on := 8, ground := .chain }], guard := none }) (v := ?_) rfl (by decide) (by kernel_rfl) (by kernel_rfl) (fun _ _ _ h => h) (Or.inl ⟨by rfl, ?_⟩) (by assumption) ?_
        rotate_left
        · intro w hSw
          (try dsimp only at hSw)
          obtain ⟨s1, s2, s3⟩ := hSw; have z1 := (blk3 s1).1; have z2 := (blk3 s2).1; (go_simp; try (with_reducible rfl))
        try simp only [Act.put, List.setIfInBounds_toArray, List.set_cons_zero, List.set_cons_succ]
        refine HL.take_ (i := 14) (oi := { dst := some 42, op := .fieldAddr 43 (.tmp 5) 1, type := 0, pos := "gen.go:40", after := #[{ on := 13, ground := .guard }], guard := some (13, true) }) (v := undef) rfl (by decide) (by kernel_rfl) (by kernel_rfl) (fun _ _ _ h => h) (Or.inr ⟨by rfl, rfl⟩) (by assumption) ?_
        try simp only [Act.put, List.setIfInBounds_toArray, List.set_cons_zero, List.set_cons_succ]
        refine HL.take_ (i := 15) (oi := { dst := some 43, op := .load 3 (.tmp 42), type := 3, pos := "gen.go:40", after := #[{ on := 14, ground := .data }, { on := 13, ground := .guard }], guard := some (13, true) }) (v := undef) rfl (by decide) (by kernel_rfl) (by kernel_rfl) (fun _ _ _ h => h) (Or.inr ⟨by rfl, rfl⟩) (by assumption) ?_
        try simp only [Act.put, List.setIfInBounds_toArray, List.set_cons_zero, List.set_cons_succ]
        refine HL.take_ (i := 16) (oi := { dst := some 44, op := .fieldAddr 95 (.tmp 3) 0, type := 0, pos := "gen.go:40", after := #[{ on := 13, ground := .guard }], guard := some (13, true) }) (v := undef) rfl (by decide) (by kernel_rfl) (by kernel_rfl) (fun _ _ _ h => h) (Or.inr ⟨by rfl, rfl⟩) (by assumption) ?_
        try simp only [Act.put, List.setIfInBounds_toArray, List.set_cons_zero, List.set_cons_succ]
        refine HL.take_ (i := 17) (oi := { dst := some 45, op := .fieldAddr 32 (.tmp 44) 2, type := 0, pos := "gen.go:40", after := #[{ on := 16, ground := .data }, { on := 13, ground := .guard }], guard := some (13, true) }) (v := undef) rfl (by decide) (by kernel_rfl) (by kernel_rfl) (fun _ _ _ h => h) (Or.inr ⟨by rfl, rfl⟩) (by assumption) ?_
        try simp only [Act.put, List.setIfInBounds_toArray, List.set_cons_zero, List.set_cons_succ]
        refine HL.take_ (i := 18) (oi := { dst := some 46, op := .load 30 (.tmp 45), type := 30, pos := "gen.go:40", after := #[{ on := 17, ground := .data }, { on := 13, ground := .guard }], guard := some (13, true) }) (v := undef) rfl (by decide) (by kernel_rfl) (by kernel_rfl) (fun _ _ _ h => h) (Or.inr ⟨by rfl, rfl⟩) (by assumption) ?_
        try simp only [Act.put, List.setIfInBounds_toArray, List.set_cons_zero, List.set_cons_succ]
        refine HL.take_ (i := 19) (oi := { dst := some 47, op := .move (.tmp 1), type := 3, pos := "gen.go:40", after := #[{ on := 13, ground := .guard }], guard := some (13, true) }) (v := undef) rfl (by decide) (by kernel_rfl) (by kernel_rfl) (fun _ _ _ h => h) (Or.inr ⟨by rfl, rfl⟩) (by assumption) ?_
        try simp only [Act.put, List.setIfInBounds_toArray, List.set_cons_zero, List.set_cons_succ]
        refine HL.take_ (i := 20) (oi := { dst := some 48, op := .indexAddr 30 (.tmp 46) (.tmp 47), type := 0, pos := "gen.go:40", after := #[{ on := 18, ground := .data }, { on := 19, ground := .data }, { on := 13, ground := .guard }], guard := some (13, true) }) (v := undef) rfl (by decide) (by kernel_rfl) (by kernel_rfl) (fun _ _ _ h => h) (Or.inr ⟨by rfl, rfl⟩) (by assumption) ?_
        try simp only [Act.put, List.setIfInBounds_toArray, List.set_cons_zero, List.set_cons_succ]
        refine HL.take_ (i := 21) (oi := { dst := some 49, op := .fieldAddr 35 (.tmp 48) 2, type := 0, pos := "gen.go:40", after := #[{ on := 20, ground := .data }, { on := 13, ground := .guard }], guard := some (13, true) }) (v := undef) rfl (by decide) (by kernel_rfl) (by kernel_rfl) (fun _ _ _ h => h) (Or.inr ⟨by rfl, rfl⟩) (by assumption) ?_
        try simp only [Act.put, List.setIfInBounds_toArray, List.set_cons_zero, List.set_cons_succ]
        refine HL.take_ (i := 22) (oi := { dst := some 50, op := .load 29 (.tmp 49), type := 29, pos := "gen.go:40", after := #[{ on := 21, ground := .data }, { on := 13, ground := .guard }], guard := some (13, true) }) (v := undef) rfl (by decide) (by kernel_rfl) (by kernel_rfl) (fun _ _ _ h => h) (Or.inr ⟨by rfl, rfl⟩) (by assumption) ?_
        try simp only [Act.put, List.setIfInBounds_toArray, List.set_cons_zero, List.set_cons_succ]
        refine HL.take_ (i := 23) (oi := { dst := some 51, op := .call { callee := .builtin .len, args := #[.tmp 50], argTypes := #[29] }, type := 3, pos := "gen.go:40", after := #[{ on := 22, ground := .data }, { on := 13, ground := .guard }], guard := some (13, true) }) (v := undef) rfl (by decide) (by kernel_rfl) (by kernel_rfl) (fun _ _ _ h => h) (Or.inr ⟨by rfl, rfl⟩) (by assumption) ?_
        try simp only [Act.put, List.setIfInBounds_toArray, List.set_cons_zero, List.set_cons_succ]
        refine HL.take_ (i := 24) (oi := { dst := some 52, op := .binOp .lss 3 (.tmp 43) (.tmp 51) 3, type := 4, pos := "gen.go:40", after := #[{ on := 15, ground := .data }, { on := 23, ground := .data }, { on := 13, ground := .guard }], guard := some (13, true) }) (v := undef) rfl (by decide) (by kernel_rfl) (by kernel_rfl) (fun _ _ _ h => h) (Or.inr ⟨by rfl, rfl⟩) (by assumption) ?_
        try simp only [Act.put, List.setIfInBounds_toArray, List.set_cons_zero, List.set_cons_succ]
        refine HL.take_ (i := 25) (oi := { dst := some 53, op := .pick (.tmp 41) (.tmp 52) (.const (.bool false)), type := 4, pos := "gen.go:40", after := #[{ on := 13, ground := .data }, { on := 24, ground := .data }], guard := none }) (v := ?_) rfl (by decide) (by kernel_rfl) (by kernel_rfl) (fun _ _ _ h => h) (Or.inl ⟨by rfl, ?_⟩) (by assumption) ?_
        rotate_left
        · intro w hSw
          (try dsimp only at hSw)
          obtain ⟨s1, s2, s3⟩ := hSw; have z1 := (blk3 s1).1; have z2 := (blk3 s2).1; (go_simp; try (with_reducible rfl))
        try simp only [Act.put, List.setIfInBounds_toArray, List.set_cons_zero, List.set_cons_succ]
        refine HL.done_ (by kernel_rfl) ?_
        simp only [List.drop_succ_cons, List.drop_zero]
        go_wp2_with fail
        go_ret
        exact ⟨by rw [HR.out]; rfl, HB1.out⟩
    · have hk1' : (k == 1) = false := by simpa using hk1
      have HR : Hid (r = -1) := Lib.hid (by rw [HV.out, if_neg (by omega), if_neg (by omega)])
      clear HV
      go_enter Try.func66, Try.ntmps66
      go_upto_region 3 with (fail)
      go_quiet (fail)
      go_wp2_with fail
      go_ret
      exact ⟨by rw [HR.out]; rfl, below_drewN' (((Below.refl _ _).alloc (Nat.le_refl _) _).alloc (by simp) _) _⟩
end Go.Proofs.Ytjgijbaboekghaa

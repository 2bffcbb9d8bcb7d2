/-
  r12.Flow, Step, Least (functions 71, 65, 45). No statement of its own.
-/
import Derived.Test.YtjgijbaboekghaaVfn
import Derived.Test.YtjgijbaboekghaaWhom
import Derived.Deep.OwnRows
set_option linter.unusedSimpArgs false
set_option linter.unusedVariables false
namespace Go.Proofs.Ytjgijbaboekghaa
open Go.RowKit
/-- Of what was there nothing has turned but some blocks. -/
structure Turned (gs : List Nat) (w w' : World) : Prop where
  os : w'.os = w.os
  tape : w'.tape = w.tape
  output : w'.output = w.output
  size : w.heap.size ≤ w'.heap.size
  block : ∀ k, k < w.heap.size → k ∉ gs → w'.heap[k]? = w.heap[k]?
theorem Turned.refl (gs : List Nat) (w : World) : Turned gs w w := ⟨rfl, rfl, rfl, Nat.le_refl _, fun _ _ _ => rfl⟩
theorem Turned.trans {gs : List Nat} {a b c : World} (h : Turned gs a b) (k : Turned gs b c) : Turned gs a c :=
  ⟨k.os.trans h.os, k.tape.trans h.tape, k.output.trans h.output, Nat.le_trans h.size k.size, fun x hx hn => (k.block x (Nat.lt_of_lt_of_le hx h.size) hn).trans (h.block x hx hn)⟩
theorem Turned.of (gs : List Nat) {w w' : World} (h : Below w.heap.size w w') : Turned gs w w' := ⟨h.os, h.tape, h.output, h.size, fun k hk _ => h.block k hk⟩
theorem Turned.set {gs : List Nat} {w : World} {p : Addr} (hp : p.block ∈ gs) (u : Value) : Turned gs w (w.setCell p u) :=
  ⟨rfl, rfl, rfl, by rw [World.size_setCell]; exact Nat.le_refl _, fun k _ hn => Below.heap_setCell w p u k (fun e => hn (e ▸ hp))⟩
theorem Turned.sub {gs : List Nat} {w w' : World} (h : Turned gs w w') : Sub (sans w gs) (sans w' gs) := sub_sans fun k hk hkb => ⟨hkb, h.block k hk hkb⟩
theorem Turned.cell {gs : List Nat} {w w' : World} (h : Turned gs w w') {p : Addr} {v : Value} (hp : w.cell? p = some v) (hn : p.block ∉ gs) : w'.cell? p = some v := (World.cell?_of_block (h.block p.block (World.block_lt_of_cell? w p hp) hn)).trans hp
/-- A table of V rows of C bools each: the rows' blocks are gs. -/
structure Mat (w : World) (gm V C : Nat) (gs : List Nat) : Prop where
  row : ∀ v, v < V → ∃ g, g ∈ gs ∧ w.cell? ⟨gm, v, none⟩ = some (.slice (some ⟨g, 0, none⟩) C C) ∧ ∀ o, o < C → (∃ b, w.cell? ⟨g, o, none⟩ = some (.bool b)) ∧ w.frozen? ⟨g, o, none⟩ = false
  apart : gm ∉ gs
theorem Mat.below {w w' : World} {gm V C : Nat} {gs : List Nat} (h : Mat w gm V C gs) (hb : Below w.heap.size w w') : Mat w' gm V C gs :=
  ⟨fun v hv => by
    obtain ⟨g, h1, h2, h3⟩ := h.row v hv
    refine ⟨g, h1, lift hb h2, fun o ho => ?_⟩
    obtain ⟨⟨b, h4⟩, h5⟩ := h3 o ho
    exact ⟨⟨b, lift hb h4⟩, (hb.frozen (World.block_lt_of_cell? _ _ h4)).trans h5⟩, h.apart⟩
theorem Mat.set {w : World} {gm V C g o : Nat} {gs : List Nat} (h : Mat w gm V C gs) (hg : g ∈ gs) (b : Bool) : Mat (w.setCell ⟨g, o, none⟩ (.bool b)) gm V C gs :=
  ⟨fun v hv => by
    obtain ⟨g', h1, h2, h3⟩ := h.row v hv
    have hne : gm ≠ g := fun e => h.apart (e ▸ hg)
    refine ⟨g', h1, (World.cell?_of_block (Below.heap_setCell w ⟨g, o, none⟩ (.bool b) gm hne)).trans h2, fun o' ho' => ?_⟩
    obtain ⟨⟨b', h4⟩, h5⟩ := h3 o' ho'
    refine ⟨?_, by rw [World.frozen?_setCell]; exact h5⟩
    by_cases e : (⟨g', o', none⟩ : Addr) = ⟨g, o, none⟩
    · rw [e] at h4 ⊢
      exact ⟨b, World.cell?_setCell_same' _ _ _ (by rw [h4]; rfl)⟩
    · exact ⟨b', by rw [World.cell?_setCell_other (h := Ne.symm e)]; exact h4⟩, h.apart⟩
def Flowed (gs : List Nat) (gm V C : Nat) (w : World) (e : Ending) (w' : World) : Prop := ∃ b, e = .returned (.bool b) ∧ Turned gs w w' ∧ Mat w' gm V C gs
set_option maxRecDepth 20000 in
set_option maxHeartbeats 4000000 in
theorem flow_calls (w : World) (gm V cap C : Nat) (gs : List Nat) (tg fr : Int) (hm : Mat w gm V C gs) (ht : tg < (V : Int)) (hf : fr < (V : Int)) (hV : V ≤ 4000000) (hC : C ≤ 4000000) (hcap : V ≤ cap) : Calls Try.prog 71 #[.slice (some ⟨gm, 0, none⟩) V cap, .int .i64 tg, .int .i64 fr] w (Flowed gs gm V C w) := by
  have HM := Lib.hid hm
  clear hm
  by_cases h1 : tg < 0
  · go_enter Try.func71, Try.ntmps71
    go_wp2_with fail
    go_ret
    exact ⟨false, rfl, Turned.refl _ _, HM.out⟩
  · by_cases h2 : fr < 0
    · go_enter Try.func71, Try.ntmps71
      go_wp2_with fail
      go_ret
      exact ⟨false, rfl, Turned.refl _ _, HM.out⟩
    · obtain ⟨t, rfl⟩ : ∃ t : Nat, tg = (t : Int) := ⟨tg.toNat, by omega⟩
      obtain ⟨f, rfl⟩ : ∃ t : Nat, fr = (t : Int) := ⟨fr.toNat, by omega⟩
      have ht0 : (0 : Int) ≤ (t : Int) := by omega
      have hf0 : (0 : Int) ≤ (f : Int) := by omega
      go_enter Try.func71, Try.ntmps71
      go_wp2_with fail
      go_loopw [7, 8] (fun v7 v8 wr => ∃ (o : Nat) (b : Bool), o ≤ C ∧ v8 = .int .i64 (o : Nat) ∧ v7 = .bool b ∧ Hid (Mat wr gm V C gs) ∧ Hid (Turned gs w wr)) (fun _ v8 _ => C - (intOf v8).toNat)
      case atStart => exact ⟨0, false, Nat.zero_le _, rfl, rfl, HM.out, Turned.refl _ _⟩
      case round =>
        obtain ⟨o, b, ho, rfl, rfl, HR, HT⟩ := hrel
        obtain ⟨gf, hgf, cf, rf⟩ := HR.out.row f (by omega)
        obtain ⟨gt, hgt, ct, rt⟩ := HR.out.row t (by omega)
        by_cases hlt : o < C
        · have hltI : (o : Int) < (C : Int) := by omega
          have ho0 : (0 : Int) ≤ (o : Int) := by omega
          obtain ⟨⟨bf, kf⟩, ff⟩ := rf o hlt
          obtain ⟨⟨bt, kt⟩, ft⟩ := rt o hlt
          clear rf rt
          cases bf with
          | false =>
            go_wp2_with fail
            refine ⟨⟨o + 1, b, by omega, by go_num, rfl, HR.out, HT.out⟩, by simp [intOf]; omega⟩
          | true =>
            cases bt with
            | true =>
              go_wp2_with fail
              refine ⟨⟨o + 1, b, by omega, by go_num, rfl, HR.out, HT.out⟩, by simp [intOf]; omega⟩
            | false =>
              go_wp2_with fail
              refine ⟨⟨o + 1, true, by omega, by go_num, rfl, HR.out.set hgt true, HT.out.trans (Turned.set hgt _)⟩, by simp [intOf]; omega⟩
        · obtain rfl : C = o := by omega
          have hnn : ¬ (C : Int) < (C : Int) := by omega
          clear rf rt
          go_wp2_with fail
          go_ret
          exact ⟨b, rfl, HT.out, HR.out⟩
end Go.Proofs.Ytjgijbaboekghaa

set_option linter.unusedSimpArgs false
set_option linter.unusedVariables false
namespace Go.Proofs.Ytjgijbaboekghaa
open Go.RowKit
/-- Numbers of variables, or -1. -/
def ArgsOk (w : World) (V : Nat) (a : Option Addr) (n c : Nat) : Prop := n ≤ 1000 ∧ n ≤ c ∧ (0 < n → ∃ b off, a = some ⟨b, off, none⟩ ∧ ∀ i, i < n → ∃ y : Int, w.cell? ⟨b, off + i, none⟩ = some (.int .i64 y) ∧ -1 ≤ y ∧ y < (V : Int))
def CellOk (w : World) (V : Nat) (vs : List Value) : Prop := ∃ (b : Bool) (x : Int) (a : Option Addr) (n c : Nat), vs = [.bool b, .int .i64 x, .slice a n c] ∧ -1 ≤ x ∧ x < (V : Int) ∧ ArgsOk w V a n c
def ConOk (w : World) (V C : Nat) (vs : List Value) : Prop := ∃ (k x y : Int) (a : Option Addr) (n c : Nat), vs = [.int .u8 k, .int .i64 x, .int .i64 y, .slice a n c] ∧ -1 ≤ x ∧ x < (V : Int) ∧ (k = 1 → 0 ≤ x ∧ 0 ≤ y ∧ y < (C : Int)) ∧ (k ≠ 1 → -1 ≤ y ∧ y < (V : Int)) ∧ (k = 4 → 0 ≤ x) ∧ (k ≠ 1 → k ≠ 2 → k ≠ 4 → 0 ≤ y) ∧ ArgsOk w V a n c
structure SysOk (w : World) (v : Value) (V C K : Nat) : Prop where
  shape : ∃ ca cc ka kc, v = .agg #[.int .i64 (V : Nat), .slice ca C cc, .slice ka K kc] ∧ V ≤ 4000000 ∧ C ≤ 4000000 ∧ K ≤ 1099511627776 ∧
    (0 < C → ∃ b off, ca = some ⟨b, off, none⟩ ∧ ∀ i, i < C → ∃ vs, CellOk w V vs ∧ ∀ (j : Nat) u, vs[j]? = some u → w.cell? ⟨b, off + i * 3 + j, none⟩ = some u) ∧
    (0 < K → ∃ b off, ka = some ⟨b, off, none⟩ ∧ ∀ i, i < K → ∃ vs, ConOk w V C vs ∧ ∀ (j : Nat) u, vs[j]? = some u → w.cell? ⟨b, off + i * 4 + j, none⟩ = some u)
theorem ArgsOk.sub {w w' : World} {V n c : Nat} {a : Option Addr} (h : ArgsOk w V a n c) (hb : Sub w w') : ArgsOk w' V a n c :=
  ⟨h.1, h.2.1, fun hp => by
    obtain ⟨b, off, e, h⟩ := h.2.2 hp
    exact ⟨b, off, e, fun i hi => by obtain ⟨y, k1, k2⟩ := h i hi; exact ⟨y, hb _ _ k1, k2⟩⟩⟩
theorem CellOk.sub {w w' : World} {V : Nat} {vs : List Value} (h : CellOk w V vs) (hb : Sub w w') : CellOk w' V vs := by
  obtain ⟨b, x, a, n, c, e, h1, h2, h3⟩ := h
  exact ⟨b, x, a, n, c, e, h1, h2, h3.sub hb⟩
theorem ConOk.sub {w w' : World} {V C : Nat} {vs : List Value} (h : ConOk w V C vs) (hb : Sub w w') : ConOk w' V C vs := by
  obtain ⟨k, x, y, a, n, c, e, h1, h2, h3, h4, h5, h6, h7⟩ := h
  exact ⟨k, x, y, a, n, c, e, h1, h2, h3, h4, h5, h6, h7.sub hb⟩
theorem SysOk.sub {w w' : World} {v : Value} {V C K : Nat} (h : SysOk w v V C K) (hb : Sub w w') : SysOk w' v V C K := by
  obtain ⟨ca, cc, ka, kc, e, h1, h2, h3, h4, h5⟩ := h.shape
  refine ⟨ca, cc, ka, kc, e, h1, h2, h3, fun hp => ?_, fun hp => ?_⟩
  · obtain ⟨b, off, e, h⟩ := h4 hp
    exact ⟨b, off, e, fun i hi => by obtain ⟨vs, k1, k2⟩ := h i hi; exact ⟨vs, k1.sub hb, fun j u hj => hb _ _ (k2 j u hj)⟩⟩
  · obtain ⟨b, off, e, h⟩ := h5 hp
    exact ⟨b, off, e, fun i hi => by obtain ⟨vs, k1, k2⟩ := h i hi; exact ⟨vs, k1.sub hb, fun j u hj => hb _ _ (k2 j u hj)⟩⟩
theorem sans_out {w : World} {gs : List Nat} {p : Addr} {v : Value} (h : (sans w gs).cell? p = some v) : p.block ∉ gs := fun hm => by rw [sans_cell, if_pos hm] at h; cases h
theorem drew_below (w : World) (n : Nat) : Below w.heap.size w (w.drewN n) := ⟨rfl, rfl, rfl, Nat.le_refl _, fun _ _ => rfl⟩
theorem turned_blk {gs : List Nat} {w w' : World} {g : Nat} {o : Obj} (h : Turned gs w w') (hb : w.heap[g]? = some o) (hn : g ∉ gs) : w'.heap[g]? = some o := (h.block g (blk_lt hb) hn).trans hb
set_option maxRecDepth 100000 in
set_option maxHeartbeats 8000000 in
theorem step_calls (w : World) (sv : Value) (V C K gm cap : Nat) (gs : List Nat) (hs : SysOk (sans w gs) sv V C K) (hm : Mat w gm V C gs) (hcap : V ≤ cap) (hgs : ∀ g ∈ gs, g < w.heap.size) : Calls Try.prog 65 #[sv, .slice (some ⟨gm, 0, none⟩) V cap] w (Flowed gs gm V C w) := by
  obtain ⟨ca, cc, ka, kc, rfl, hV, hC, hK, hcs, hks⟩ := hs.shape
  have HCS := Lib.hid hcs
  have HKS := Lib.hid hks
  clear hs hcs hks
  have m0 := heap_alloc_new w (.cells #[.int .i64 (V : Nat), .slice ca C cc, .slice ka K kc] 92)
  have bw : Below w.heap.size w (w.alloc (.cells #[.int .i64 (V : Nat), .slice ca C cc, .slice ka K kc] 92)) := (Below.refl _ _).alloc (Nat.le_refl _) _
  go_enter Try.func65, Try.ntmps65
  go_upto_region 1 with (fail)
  obtain ⟨W, hW⟩ : ∃ W, W = w.alloc (.cells #[.int .i64 (V : Nat), .slice ca C cc, .slice ka K kc] 92) := ⟨_, rfl⟩
  rw [← hW] at m0 bw ⊢
  have H0 := Lib.hid m0
  have HW := Lib.hid (Turned.of gs bw)
  have HM0 := Lib.hid (hm.below bw)
  have HN0 : Hid (w.heap.size ∉ gs) := Lib.hid (fun h => Nat.lt_irrefl _ (hgs _ h))
  have HGS := Lib.hid hgs
  clear hW m0 bw hm hgs
  go_wp2_with fail
  go_loopw [5, 6] (fun v5 v6 wr => ∃ (i : Nat) (b : Bool), i ≤ K ∧ v6 = .int .i64 (i : Nat) ∧ v5 = .bool b ∧ Hid (Mat wr gm V C gs) ∧ Hid (Turned gs W wr)) (fun _ v6 _ => K - (intOf v6).toNat)
  case atStart => exact ⟨0, false, Nat.zero_le _, rfl, rfl, HM0.out, Turned.refl _ _⟩
  case round =>
    obtain ⟨i, more, hi, rfl, rfl, HM, HT⟩ := hrel
    obtain ⟨c0, f0, z0⟩ := blk3 (turned_blk HT.out H0.out HN0.out)
    by_cases hlt : i < K
    · have hltI : (i : Int) < (K : Int) := by omega
      have hi0 : (0 : Int) ≤ (i : Int) := by omega
      obtain ⟨kb, koff, rfl, hk⟩ := HKS.out (by omega)
      obtain ⟨vs, hvs, hcl⟩ := hk i hlt
      have HTW := Lib.hid (HW.out.trans HT.out)
      have hsub : Sub (sans w gs) wr := fun p v h => sans_sub _ _ _ _ (HTW.out.sub _ _ h)
      obtain ⟨k, x, y, aa, an, ac, rfl, hx0, hx1, hk1, hk2, hk4, hk5, ha⟩ := hvs
      have q0 := hsub _ _ (hcl 0 _ rfl)
      have q1 := hsub _ _ (hcl 1 _ rfl)
      have q2 := hsub _ _ (hcl 2 _ rfl)
      have q3 := hsub _ _ (hcl 3 _ rfl)
      rw [Nat.add_zero] at q0
      have HA := Lib.hid ha
      clear hk hcl hsub ha
      go_upto_region 6 with (fail)
      have m1 := heap_alloc_new wr (.cells #[.int .u8 k, .int .i64 x, .int .i64 y, .slice aa an ac] 121)
      have bv : Below wr.heap.size wr (wr.alloc (.cells #[.int .u8 k, .int .i64 x, .int .i64 y, .slice aa an ac] 121)) := (Below.refl _ _).alloc (Nat.le_refl _) _
      have hcb : wr.heap.size ∉ gs := fun h => by have := HGS.out _ h; have := HTW.out.size; omega
      obtain ⟨cb, hcbe⟩ : ∃ b, b = wr.heap.size := ⟨_, rfl⟩
      obtain ⟨U, hU⟩ : ∃ U, U = wr.alloc (.cells #[.int .u8 k, .int .i64 x, .int .i64 y, .slice aa an ac] 121) := ⟨_, rfl⟩
      rw [← hU] at m1 bv ⊢
      rw [← hcbe] at m1 hcb ⊢
      have H1 := Lib.hid m1
      have HNC := Lib.hid hcb
      have HTU := Lib.hid (HT.out.trans (Turned.of gs bv))
      have HMU := Lib.hid (HM.out.below bv)
      clear m1 bv hcb hcbe hU c0 f0 z0 q0 q1 q2 q3 HM HT HTW
      obtain ⟨c1, f1, z1⟩ := blk3 H1.out
      by_cases h1 : k = 1
      · subst h1
        obtain ⟨hA0, hB0, hB1⟩ := hk1 rfl
        obtain ⟨a, rfl⟩ : ∃ t : Nat, x = (t : Int) := ⟨x.toNat, by omega⟩
        obtain ⟨b, rfl⟩ : ∃ t : Nat, y = (t : Int) := ⟨y.toNat, by omega⟩
        obtain ⟨ga, hga, ra, rr⟩ := HMU.out.row a (by omega)
        obtain ⟨⟨bb, kb2⟩, fb2⟩ := rr b (by omega)
        clear rr hk1 hk2 hk4 hk5
        cases bb with
        | true =>
          go_upto_region 7 with (fail)
          go_quiet (fail)
          go_wp2_with fail
          refine ⟨⟨i + 1, more, by omega, by go_num, rfl, HMU.out.below (drew_below U nq), HTU.out.trans (Turned.of gs (drew_below U nq))⟩, by simp [intOf]; omega⟩
        | false =>
          go_upto_region 7 with (fail)
          go_quiet (fail)
          go_upto_region 8 with (fail)
          have hS0 : (fun w' => (∀ o, w'.cell? ⟨cb, o, none⟩ = (#[Value.int .u8 1, .int .i64 (a : Nat), .int .i64 (b : Nat), .slice aa an ac] : Array Value)[o]?) ∧ w'.cell? ⟨gm, a, none⟩ = some (.slice (some ⟨ga, 0, none⟩) C C)) (U.drewN nq) := ⟨c1, ra⟩
          refine wp_region_HL (S := (fun w' => (∀ o, w'.cell? ⟨cb, o, none⟩ = (#[Value.int .u8 1, .int .i64 (a : Nat), .int .i64 (b : Nat), .slice aa an ac] : Array Value)[o]?) ∧ w'.cell? ⟨gm, a, none⟩ = some (.slice (some ⟨ga, 0, none⟩) C C))) 8 (by kernel_rfl) (by kernel_rfl) (by kernel_rfl) (by kernel_rfl) (by decide) hS0 (fun hHeld => ?_)
          refine HL.take_ (i := 0) (oi := { dst := some 37, op := .move (.tmp 1), type := 116, pos := "ref.go:104", after := #[], guard := none }) (v := ?_) rfl (by decide) (by kernel_rfl) (by kernel_rfl) (fun _ _ _ h => h) (Or.inl ⟨by rfl, ?_⟩) (by assumption) ?_
          rotate_left
          · intro w hSw
            (try dsimp only at hSw)
            obtain ⟨s1, s2⟩ := hSw; (go_simp; try (with_reducible rfl))
          try simp only [Act.put, List.setIfInBounds_toArray, List.set_cons_zero, List.set_cons_succ]
          refine HL.take_ (i := 1) (oi := { dst := some 38, op := .fieldAddr 121 (.tmp 7) 1, type := 0, pos := "ref.go:104", after := #[], guard := none }) (v := ?_) rfl (by decide) (by kernel_rfl) (by kernel_rfl) (fun _ _ _ h => h) (Or.inl ⟨by rfl, ?_⟩) (by assumption) ?_
          rotate_left
          · intro w hSw
            (try dsimp only at hSw)
            obtain ⟨s1, s2⟩ := hSw; (go_simp; try (with_reducible rfl))
          try simp only [Act.put, List.setIfInBounds_toArray, List.set_cons_zero, List.set_cons_succ]
          refine HL.take_ (i := 2) (oi := { dst := some 39, op := .load 3 (.tmp 38), type := 3, pos := "ref.go:104", after := #[{ on := 1, ground := .data }], guard := none }) (v := ?_) rfl (by decide) (by kernel_rfl) (by kernel_rfl) (fun _ _ _ h => h) (Or.inl ⟨by rfl, ?_⟩) (by assumption) ?_
          rotate_left
          · intro w hSw
            (try dsimp only at hSw)
            obtain ⟨s1, s2⟩ := hSw; (go_simp; try (with_reducible rfl))
          try simp only [Act.put, List.setIfInBounds_toArray, List.set_cons_zero, List.set_cons_succ]
          refine HL.take_ (i := 3) (oi := { dst := some 40, op := .indexAddr 116 (.tmp 37) (.tmp 39), type := 0, pos := "ref.go:104", after := #[{ on := 0, ground := .data }, { on := 2, ground := .data }], guard := none }) (v := ?_) rfl (by decide) (by kernel_rfl) (by kernel_rfl) (fun _ _ _ h => h) (Or.inl ⟨by rfl, ?_⟩) (by assumption) ?_
          rotate_left
          · intro w hSw
            (try dsimp only at hSw)
            obtain ⟨s1, s2⟩ := hSw; (go_simp; try (with_reducible rfl))
          try simp only [Act.put, List.setIfInBounds_toArray, List.set_cons_zero, List.set_cons_succ]
          refine HL.take_ (i := 4) (oi := { dst := some 41, op := .load 114 (.tmp 40), type := 114, pos := "ref.go:104", after := #[{ on := 3, ground := .data }], guard := none }) (v := ?_) rfl (by decide) (by kernel_rfl) (by kernel_rfl) (fun _ _ _ h => h) (Or.inl ⟨by rfl, ?_⟩) (by assumption) ?_
          rotate_left
          · intro w hSw
            (try dsimp only at hSw)
            obtain ⟨s1, s2⟩ := hSw; (go_simp; try (with_reducible rfl))
          try simp only [Act.put, List.setIfInBounds_toArray, List.set_cons_zero, List.set_cons_succ]
          refine HL.take_ (i := 5) (oi := { dst := some 42, op := .fieldAddr 121 (.tmp 7) 2, type := 0, pos := "ref.go:104", after := #[], guard := none }) (v := ?_) rfl (by decide) (by kernel_rfl) (by kernel_rfl) (fun _ _ _ h => h) (Or.inl ⟨by rfl, ?_⟩) (by assumption) ?_
          rotate_left
          · intro w hSw
            (try dsimp only at hSw)
            obtain ⟨s1, s2⟩ := hSw; (go_simp; try (with_reducible rfl))
          try simp only [Act.put, List.setIfInBounds_toArray, List.set_cons_zero, List.set_cons_succ]
          refine HL.take_ (i := 6) (oi := { dst := some 43, op := .load 3 (.tmp 42), type := 3, pos := "ref.go:104", after := #[{ on := 5, ground := .data }], guard := none }) (v := ?_) rfl (by decide) (by kernel_rfl) (by kernel_rfl) (fun _ _ _ h => h) (Or.inl ⟨by rfl, ?_⟩) (by assumption) ?_
          rotate_left
          · intro w hSw
            (try dsimp only at hSw)
            obtain ⟨s1, s2⟩ := hSw; (go_simp; try (with_reducible rfl))
          try simp only [Act.put, List.setIfInBounds_toArray, List.set_cons_zero, List.set_cons_succ]
          refine HL.take_ (i := 7) (oi := { dst := some 44, op := .indexAddr 114 (.tmp 41) (.tmp 43), type := 0, pos := "ref.go:104", after := #[{ on := 4, ground := .data }, { on := 6, ground := .data }, { on := 0, ground := .phase }, { on := 1, ground := .phase }, { on := 2, ground := .phase }, { on := 3, ground := .phase }, { on := 4, ground := .phase }, { on := 5, ground := .phase }, { on := 6, ground := .phase }], guard := none }) (v := ?_) rfl (by decide) (by kernel_rfl) (by kernel_rfl) (fun _ _ _ h => h) (Or.inl ⟨by rfl, ?_⟩) (by assumption) ?_
          rotate_left
          · intro w hSw
            (try dsimp only at hSw)
            obtain ⟨s1, s2⟩ := hSw; (go_simp; try (with_reducible rfl))
          try simp only [Act.put, List.setIfInBounds_toArray, List.set_cons_zero, List.set_cons_succ]
          refine HL.done_ (by kernel_rfl) ?_
          simp only [List.drop_succ_cons, List.drop_zero]
          go_wp2_with fail
          have hd : Below U.heap.size U (U.drewN nq).drew := ⟨rfl, rfl, rfl, Nat.le_refl _, fun _ _ => rfl⟩
          refine ⟨⟨i + 1, true, by omega, by go_num, rfl, (HMU.out.below hd).set hga true, (HTU.out.trans (Turned.of gs hd)).trans (Turned.set hga _)⟩, by simp [intOf]; omega⟩
      · have h1' : (k == 1) = false := by rw [beq_eq_false_iff_ne]; exact h1
        by_cases h2 : k = 2
        · subst h2
          obtain ⟨hB0, hB1⟩ := hk2 (by decide)
          clear hk1 hk2 hk4 hk5
          go_wp2_with fail
          refine (flow_calls U gm V cap C gs x y HMU.out hx1 hB1 hV hC hcap).mono ?_
          rintro e w3 ⟨b', rfl, ht3, hm3⟩
          have HT3 := Lib.hid (HTU.out.trans ht3)
          have HM3 := Lib.hid hm3
          clear ht3 hm3 c1 f1 z1
          cases b' with
          | true =>
            go_wp2_with fail
            refine ⟨⟨i + 1, true, by omega, by go_num, rfl, HM3.out, HT3.out⟩, by simp [intOf]; omega⟩
          | false =>
            go_wp2_with fail
            refine ⟨⟨i + 1, more, by omega, by go_num, rfl, HM3.out, HT3.out⟩, by simp [intOf]; omega⟩
        · have h2' : (k == 2) = false := by rw [beq_eq_false_iff_ne]; exact h2
          have hp0 : 0 ≤ (if k = 4 then x else y) := by
            by_cases h4 : k = 4
            · rw [if_pos h4]; exact hk4 h4
            · rw [if_neg h4]; exact hk5 h1 h2 h4
          obtain ⟨hy0, hy1⟩ := hk2 h1
          obtain ⟨p, hp⟩ : ∃ t : Nat, (t : Int) = if k = 4 then x else y := ⟨(if k = 4 then x else y).toNat, Int.toNat_of_nonneg hp0⟩
          have hpV : p < V := by
            by_cases h4 : k = 4
            · rw [if_pos h4] at hp; omega
            · rw [if_neg h4] at hp; omega
          clear hk1 hk2 hk4 hk5 hp0
          have HPX := Lib.hid hp
          clear hp
          go_upto_if 61 with (fail)
          go_cut [8] from 12 to 153 (fun v8 wx => v8 = .int .i64 (p : Nat) ∧ wx = U)
          case first =>
            by_cases h4 : k = 4
            · subst h4
              obtain rfl : (p : Int) = x := by rw [HPX.out]; rfl
              go_wp2_with fail
              go_meet
              case rel => exact ⟨rfl, rfl⟩
            · have h4' : (k == 4) = false := by rw [beq_eq_false_iff_ne]; exact h4
              obtain rfl : (p : Int) = y := by rw [HPX.out, if_neg h4]
              go_wp2_with fail
              go_meet
              case rel => exact ⟨rfl, rfl⟩
          case rest =>
            obtain ⟨rfl, hwc⟩ := hcut
            rw [hwc]
            clear hwc
            obtain ⟨c0, f0, z0⟩ := blk3 (turned_blk HTU.out H0.out HN0.out)
            go_wp2_with fail
            clear c0 f0 z0 c1 f1 z1
            go_loopw [5, 9] (fun v5 v9 wr => ∃ (o : Nat) (b : Bool), o ≤ C ∧ v9 = .int .i64 (o : Nat) ∧ v5 = .bool b ∧ Hid (Mat wr gm V C gs) ∧ Hid (Turned gs U wr)) (fun _ v9 _ => C - (intOf v9).toNat)
            case atStart => exact ⟨0, more, Nat.zero_le _, rfl, rfl, HMU.out, Turned.refl _ _⟩
            case round =>
              clear HMU
              obtain ⟨o, more2, ho, rfl, rfl, HM, HT⟩ := hrel
              have h0b := turned_blk (HTU.out.trans HT.out) H0.out HN0.out
              have h1b := turned_blk HT.out H1.out HNC.out
              obtain ⟨c0, f0, z0⟩ := blk3 h0b
              obtain ⟨c1, f1, z1⟩ := blk3 h1b
              by_cases hlto : o < C
              · have hltO : (o : Int) < (C : Int) := by omega
                have ho0 : (0 : Int) ≤ (o : Int) := by omega
                obtain ⟨xb0, xoff, rfl, hcell⟩ := HCS.out (by omega)
                obtain ⟨vs2, hvs2, hcl2⟩ := hcell o hlto
                have hsub : Sub (sans w gs) wr := fun p v h => sans_sub _ _ _ _ ((HW.out.trans (HTU.out.trans HT.out)).sub _ _ h)
                obtain ⟨fb, xv, xa, xn, xc, rfl, hxv0, hxv1, hxa⟩ := hvs2
                have q0 := hsub _ _ (hcl2 0 _ rfl)
                have q1 := hsub _ _ (hcl2 1 _ rfl)
                have q2 := hsub _ _ (hcl2 2 _ rfl)
                rw [Nat.add_zero] at q0
                have HXA := Lib.hid hxa
                obtain ⟨gp, hgp, rp, rr⟩ := HM.out.row p hpV
                obtain ⟨⟨bm, kbm⟩, fbm⟩ := rr o hlto
                clear hcell hcl2 hxa rr
                go_upto_region 19 with (fail)
                have m2 := heap_alloc_new wr (.cells #[.bool fb, .int .i64 xv, .slice xa xn xc] 119)
                have bv2 : Below wr.heap.size wr (wr.alloc (.cells #[.bool fb, .int .i64 xv, .slice xa xn xc] 119)) := (Below.refl _ _).alloc (Nat.le_refl _) _
                have hxb : wr.heap.size ∉ gs := fun h => by have := HGS.out _ h; have := (HW.out.trans (HTU.out.trans HT.out)).size; omega
                obtain ⟨xb, hxbe⟩ : ∃ b, b = wr.heap.size := ⟨_, rfl⟩
                obtain ⟨U2, hU2⟩ : ∃ U, U = wr.alloc (.cells #[.bool fb, .int .i64 xv, .slice xa xn xc] 119) := ⟨_, rfl⟩
                have H02 := blk_below h0b bv2
                have H12 := blk_below h1b bv2
                have kbm2 := lift bv2 kbm
                have rp2 := lift bv2 rp
                rw [← hU2] at m2 bv2 H02 H12 kbm2 rp2 ⊢
                rw [← hxbe] at m2 hxb ⊢
                have HX2 := Lib.hid m2
                have HC2 : Hid (U2.heap[cb]? = some (.cells #[.int .u8 k, .int .i64 x, .int .i64 y, .slice aa an ac] 121)) := Lib.hid H12
                have HNX := Lib.hid hxb
                have HT2 := Lib.hid (HT.out.trans (Turned.of gs bv2))
                have HM2 := Lib.hid (HM.out.below bv2)
                clear bv2 hxb hxbe hU2 c0 f0 z0 c1 f1 z1 q0 q1 q2 h0b h1b HT kbm rp fbm
                obtain ⟨c0, f0, z0⟩ := blk3 H02
                obtain ⟨c1, f1, z1⟩ := blk3 H12
                obtain ⟨cx, fx, zx⟩ := blk3 m2
                clear H02 H12 m2 HM hsub
                cases bm with
                | false =>
                  go_wp2_with fail
                  refine ⟨⟨o + 1, more2, by omega, by go_num, rfl, HM2.out, HT2.out⟩, by simp [intOf]; omega⟩
                | true =>
                  obtain ⟨e5, he5⟩ : ∃ e, (k == 5) = e := ⟨_, rfl⟩
                  by_cases hfe0 : fb = e5
                  · have hfe' : (!(fb == e5)) = false := by rw [hfe0]; cases e5 <;> rfl
                    go_upto_region 20 with (fail)
                    clear he5 hfe' hfe0
                    by_cases h3 : k = 3
                    · subst h3
                      obtain rfl : (p : Int) = y := by rw [HPX.out]; rfl
                      go_wp2_with fail
                      refine (flow_calls U2 gm V cap C gs x xv HM2.out hx1 hxv1 hV hC hcap).mono ?_
                      rintro e w3 ⟨b', rfl, ht3, hm3⟩
                      have HT3 := Lib.hid ht3
                      have HM3 := Lib.hid hm3
                      clear ht3 hm3 c1 f1 z1 cx fx zx c0 f0 z0
                      cases b' with
                      | true =>
                        go_wp2_with fail
                        refine ⟨⟨o + 1, true, by omega, by go_num, rfl, HM3.out, HT2.out.trans HT3.out⟩, by simp [intOf]; omega⟩
                      | false =>
                        go_wp2_with fail
                        refine ⟨⟨o + 1, more2, by omega, by go_num, rfl, HM3.out, HT2.out.trans HT3.out⟩, by simp [intOf]; omega⟩
                    · by_cases h4 : k = 4
                      · subst h4
                        obtain rfl : (p : Int) = x := by rw [HPX.out]; rfl
                        go_wp2_with fail
                        refine (flow_calls U2 gm V cap C gs xv y HM2.out hxv1 hy1 hV hC hcap).mono ?_
                        rintro e w3 ⟨b', rfl, ht3, hm3⟩
                        have HT3 := Lib.hid ht3
                        have HM3 := Lib.hid hm3
                        clear ht3 hm3 c1 f1 z1 cx fx zx c0 f0 z0
                        cases b' with
                        | true =>
                          go_wp2_with fail
                          refine ⟨⟨o + 1, true, by omega, by go_num, rfl, HM3.out, HT2.out.trans HT3.out⟩, by simp [intOf]; omega⟩
                        | false =>
                          go_wp2_with fail
                          refine ⟨⟨o + 1, more2, by omega, by go_num, rfl, HM3.out, HT2.out.trans HT3.out⟩, by simp [intOf]; omega⟩
                      · have h3' : (k == 3) = false := by rw [beq_eq_false_iff_ne]; exact h3
                        have h4' : (k == 4) = false := by rw [beq_eq_false_iff_ne]; exact h4
                        obtain rfl : (p : Int) = y := by rw [HPX.out, if_neg h4]
                        go_upto_region 21 with (fail)
                        go_cut [5] from 64 to 153 (fun v5 wx => ∃ b : Bool, v5 = .bool b ∧ Hid (Mat wx gm V C gs) ∧ Hid (Turned gs U2 wx))
                        case first =>
                          go_wp2_with fail
                          refine (flow_calls U2 gm V cap C gs x xv HM2.out hx1 hxv1 hV hC hcap).mono ?_
                          rintro e w3 ⟨b', rfl, ht3, hm3⟩
                          have HT3 := Lib.hid ht3
                          have HM3 := Lib.hid hm3
                          clear ht3 hm3 c1 f1 z1 cx fx zx c0 f0 z0
                          cases b' with
                          | true =>
                            go_wp2_with fail
                            go_meet
                            case rel => exact ⟨true, rfl, HM3.out, HT3.out⟩
                          | false =>
                            go_wp2_with fail
                            go_meet
                            case rel => exact ⟨more2, rfl, HM3.out, HT3.out⟩
                        case rest =>
                          obtain ⟨more3a, rfl, HMF, HTF⟩ := hcut
                          clear c1 f1 z1 cx fx zx c0 f0 z0 HM2
                          go_wp2_with fail
                          go_loopw [5, 11] (fun v5 v11 wr => ∃ (kk : Nat) (b : Bool), kk ≤ xn ∧ v11 = .int .i64 (kk : Nat) ∧ v5 = .bool b ∧ Hid (Mat wr gm V C gs) ∧ Hid (Turned gs U2 wr)) (fun _ v11 _ => xn - (intOf v11).toNat)
                          case atStart => exact ⟨0, more3a, Nat.zero_le _, rfl, rfl, HMF.out, HTF.out⟩
                          case round =>
                            clear HMF HTF
                            obtain ⟨kk, more3, hkk, rfl, rfl, HM5, HT5⟩ := hrel
                            have h5x := turned_blk HT5.out HX2.out HNX.out
                            have h5c := turned_blk HT5.out HC2.out HNC.out
                            obtain ⟨cx, fx, zx⟩ := blk3 h5x
                            obtain ⟨c1, f1, z1⟩ := blk3 h5c
                            have hxl : xn ≤ 1000 := HXA.out.1
                            have hal : an ≤ 1000 := HA.out.1
                            have hx5 := HXA.out.2.1
                            have ha5 := HA.out.2.1
                            by_cases hlk : kk < xn
                            · have hlkI : (kk : Int) < (xn : Int) := by omega
                              have hkk0 : (0 : Int) ≤ (kk : Int) := by omega
                              by_cases hlk2 : kk < an
                              · have hlkI2 : (kk : Int) < (an : Int) := by omega
                                have hsub5 : Sub (sans w gs) wr := fun p v h => sans_sub _ _ _ _ (((HW.out.trans (HTU.out.trans HT2.out)).trans HT5.out).sub _ _ h)
                                obtain ⟨xab, xaoff, rfl, hxs⟩ := HXA.out.2.2 (by omega)
                                obtain ⟨y1, hy1, hy10, hy11⟩ := hxs kk hlk
                                obtain ⟨ab, aoff, rfl, has⟩ := HA.out.2.2 (by omega)
                                obtain ⟨y2, hy2, hy20, hy21⟩ := has kk hlk2
                                have p1 := hsub5 _ _ hy1
                                have p2 := hsub5 _ _ hy2
                                have hab : ab ∉ gs := sans_out hy2
                                have hxab : xab ∉ gs := sans_out hy1
                                clear hxs has hy1 hy2 hsub5
                                go_upto_region 25 with (fail)
                                have hS0 : (fun w' => (∀ q, w'.cell? ⟨cb, q, none⟩ = (#[Value.int .u8 k, .int .i64 x, .int .i64 (p : Nat), .slice (some ⟨ab, aoff, none⟩) an ac] : Array Value)[q]?) ∧ (∀ q, w'.cell? ⟨xb, q, none⟩ = (#[Value.bool fb, .int .i64 xv, .slice (some ⟨xab, xaoff, none⟩) xn xc] : Array Value)[q]?) ∧ w'.cell? ⟨xab, xaoff + kk, none⟩ = some (.int .i64 y1) ∧ w'.cell? ⟨ab, aoff + kk, none⟩ = some (.int .i64 y2)) wr := ⟨c1, cx, p1, p2⟩
                                have HS5 := Lib.hid hS0
                                refine wp_region_HL (S := (fun w' => (∀ q, w'.cell? ⟨cb, q, none⟩ = (#[Value.int .u8 k, .int .i64 x, .int .i64 (p : Nat), .slice (some ⟨ab, aoff, none⟩) an ac] : Array Value)[q]?) ∧ (∀ q, w'.cell? ⟨xb, q, none⟩ = (#[Value.bool fb, .int .i64 xv, .slice (some ⟨xab, xaoff, none⟩) xn xc] : Array Value)[q]?) ∧ w'.cell? ⟨xab, xaoff + kk, none⟩ = some (.int .i64 y1) ∧ w'.cell? ⟨ab, aoff + kk, none⟩ = some (.int .i64 y2))) 15 (by kernel_rfl) (by kernel_rfl) (by kernel_rfl) (by kernel_rfl) (by decide) hS0 (fun hHeld => ?_)
                                refine HL.take_ (i := 0) (oi := { dst := some 117, op := .move (.tmp 1), type := 116, pos := "ref.go:130", after := #[], guard := none }) (v := ?_) rfl (by decide) (by kernel_rfl) (by kernel_rfl) (fun _ _ _ h => h) (Or.inl ⟨by rfl, ?_⟩) (by assumption) ?_
                                rotate_left
                                · intro w hSw
                                  (try dsimp only at hSw)
                                  obtain ⟨s1, s2, s3, s4⟩ := hSw; (go_simp; try (with_reducible rfl))
                                try simp only [Act.put, List.setIfInBounds_toArray, List.set_cons_zero, List.set_cons_succ]
                                refine HL.take_ (i := 1) (oi := { dst := some 118, op := .fieldAddr 119 (.tmp 10) 2, type := 0, pos := "ref.go:130", after := #[], guard := none }) (v := ?_) rfl (by decide) (by kernel_rfl) (by kernel_rfl) (fun _ _ _ h => h) (Or.inl ⟨by rfl, ?_⟩) (by assumption) ?_
                                rotate_left
                                · intro w hSw
                                  (try dsimp only at hSw)
                                  obtain ⟨s1, s2, s3, s4⟩ := hSw; (go_simp; try (with_reducible rfl))
                                try simp only [Act.put, List.setIfInBounds_toArray, List.set_cons_zero, List.set_cons_succ]
                                refine HL.take_ (i := 2) (oi := { dst := some 119, op := .load 29 (.tmp 118), type := 29, pos := "ref.go:130", after := #[{ on := 1, ground := .data }], guard := none }) (v := ?_) rfl (by decide) (by kernel_rfl) (by kernel_rfl) (fun _ _ _ h => h) (Or.inl ⟨by rfl, ?_⟩) (by assumption) ?_
                                rotate_left
                                · intro w hSw
                                  (try dsimp only at hSw)
                                  obtain ⟨s1, s2, s3, s4⟩ := hSw; (go_simp; try (with_reducible rfl))
                                try simp only [Act.put, List.setIfInBounds_toArray, List.set_cons_zero, List.set_cons_succ]
                                refine HL.take_ (i := 3) (oi := { dst := some 120, op := .move (.tmp 11), type := 3, pos := "ref.go:130", after := #[], guard := none }) (v := ?_) rfl (by decide) (by kernel_rfl) (by kernel_rfl) (fun _ _ _ h => h) (Or.inl ⟨by rfl, ?_⟩) (by assumption) ?_
                                rotate_left
                                · intro w hSw
                                  (try dsimp only at hSw)
                                  obtain ⟨s1, s2, s3, s4⟩ := hSw; (go_simp; try (with_reducible rfl))
                                try simp only [Act.put, List.setIfInBounds_toArray, List.set_cons_zero, List.set_cons_succ]
                                refine HL.take_ (i := 4) (oi := { dst := some 121, op := .indexAddr 29 (.tmp 119) (.tmp 120), type := 0, pos := "ref.go:130", after := #[{ on := 2, ground := .data }, { on := 3, ground := .data }], guard := none }) (v := ?_) rfl (by decide) (by kernel_rfl) (by kernel_rfl) (fun _ _ _ h => h) (Or.inl ⟨by rfl, ?_⟩) (by assumption) ?_
                                rotate_left
                                · intro w hSw
                                  (try dsimp only at hSw)
                                  obtain ⟨s1, s2, s3, s4⟩ := hSw; (go_simp; try (with_reducible rfl))
                                try simp only [Act.put, List.setIfInBounds_toArray, List.set_cons_zero, List.set_cons_succ]
                                refine HL.take_ (i := 5) (oi := { dst := some 122, op := .load 3 (.tmp 121), type := 3, pos := "ref.go:130", after := #[{ on := 4, ground := .data }], guard := none }) (v := ?_) rfl (by decide) (by kernel_rfl) (by kernel_rfl) (fun _ _ _ h => h) (Or.inl ⟨by rfl, ?_⟩) (by assumption) ?_
                                rotate_left
                                · intro w hSw
                                  (try dsimp only at hSw)
                                  obtain ⟨s1, s2, s3, s4⟩ := hSw; (go_simp; try (with_reducible rfl))
                                try simp only [Act.put, List.setIfInBounds_toArray, List.set_cons_zero, List.set_cons_succ]
                                refine HL.take_ (i := 6) (oi := { dst := some 123, op := .fieldAddr 121 (.tmp 7) 3, type := 0, pos := "ref.go:130", after := #[], guard := none }) (v := ?_) rfl (by decide) (by kernel_rfl) (by kernel_rfl) (fun _ _ _ h => h) (Or.inl ⟨by rfl, ?_⟩) (by assumption) ?_
                                rotate_left
                                · intro w hSw
                                  (try dsimp only at hSw)
                                  obtain ⟨s1, s2, s3, s4⟩ := hSw; (go_simp; try (with_reducible rfl))
                                try simp only [Act.put, List.setIfInBounds_toArray, List.set_cons_zero, List.set_cons_succ]
                                refine HL.take_ (i := 7) (oi := { dst := some 124, op := .load 29 (.tmp 123), type := 29, pos := "ref.go:130", after := #[{ on := 6, ground := .data }], guard := none }) (v := ?_) rfl (by decide) (by kernel_rfl) (by kernel_rfl) (fun _ _ _ h => h) (Or.inl ⟨by rfl, ?_⟩) (by assumption) ?_
                                rotate_left
                                · intro w hSw
                                  (try dsimp only at hSw)
                                  obtain ⟨s1, s2, s3, s4⟩ := hSw; (go_simp; try (with_reducible rfl))
                                try simp only [Act.put, List.setIfInBounds_toArray, List.set_cons_zero, List.set_cons_succ]
                                refine HL.take_ (i := 8) (oi := { dst := some 125, op := .move (.tmp 11), type := 3, pos := "ref.go:130", after := #[], guard := none }) (v := ?_) rfl (by decide) (by kernel_rfl) (by kernel_rfl) (fun _ _ _ h => h) (Or.inl ⟨by rfl, ?_⟩) (by assumption) ?_
                                rotate_left
                                · intro w hSw
                                  (try dsimp only at hSw)
                                  obtain ⟨s1, s2, s3, s4⟩ := hSw; (go_simp; try (with_reducible rfl))
                                try simp only [Act.put, List.setIfInBounds_toArray, List.set_cons_zero, List.set_cons_succ]
                                refine HL.take_ (i := 9) (oi := { dst := some 126, op := .indexAddr 29 (.tmp 124) (.tmp 125), type := 0, pos := "ref.go:130", after := #[{ on := 7, ground := .data }, { on := 8, ground := .data }], guard := none }) (v := ?_) rfl (by decide) (by kernel_rfl) (by kernel_rfl) (fun _ _ _ h => h) (Or.inl ⟨by rfl, ?_⟩) (by assumption) ?_
                                rotate_left
                                · intro w hSw
                                  (try dsimp only at hSw)
                                  obtain ⟨s1, s2, s3, s4⟩ := hSw; (go_simp; try (with_reducible rfl))
                                try simp only [Act.put, List.setIfInBounds_toArray, List.set_cons_zero, List.set_cons_succ]
                                refine HL.take_ (i := 10) (oi := { dst := some 127, op := .load 3 (.tmp 126), type := 3, pos := "ref.go:130", after := #[{ on := 9, ground := .data }], guard := none }) (v := ?_) rfl (by decide) (by kernel_rfl) (by kernel_rfl) (fun _ _ _ h => h) (Or.inl ⟨by rfl, ?_⟩) (by assumption) ?_
                                rotate_left
                                · intro w hSw
                                  (try dsimp only at hSw)
                                  obtain ⟨s1, s2, s3, s4⟩ := hSw; (go_simp; try (with_reducible rfl))
                                try simp only [Act.put, List.setIfInBounds_toArray, List.set_cons_zero, List.set_cons_succ]
                                refine HL.step_ (i := 11) (o := { dst := some 128, op := .call { callee := .value (.func 71), args := #[.tmp 117, .tmp 122, .tmp 127], argTypes := #[116, 3, 3] }, type := 4, pos := "ref.go:130", after := #[{ on := 0, ground := .data }, { on := 5, ground := .data }, { on := 10, ground := .data }], guard := none }) rfl (by decide) (by kernel_rfl) (fun K hK => ?_)
                                go_simp
                                refine (flow_calls wr.drew gm V cap C gs y1 y2 (HM5.out.below (drew_below wr 1)) hy11 hy21 hV hC hcap).mono ?_
                                rintro e w6 ⟨b6, rfl, ht6, hm6⟩
                                have HT5' : Hid (Turned gs wr w6) := Lib.hid ((Turned.of gs (drew_below wr 1)).trans ht6)
                                have HT6 := Lib.hid (HT5.out.trans HT5'.out)
                                have HM6 := Lib.hid hm6
                                go_simp
                                have hS1 : (fun w' => (∀ q, w'.cell? ⟨cb, q, none⟩ = (#[Value.int .u8 k, .int .i64 x, .int .i64 (p : Nat), .slice (some ⟨ab, aoff, none⟩) an ac] : Array Value)[q]?) ∧ (∀ q, w'.cell? ⟨xb, q, none⟩ = (#[Value.bool fb, .int .i64 xv, .slice (some ⟨xab, xaoff, none⟩) xn xc] : Array Value)[q]?) ∧ w'.cell? ⟨xab, xaoff + kk, none⟩ = some (.int .i64 y1) ∧ w'.cell? ⟨ab, aoff + kk, none⟩ = some (.int .i64 y2)) w6 := ⟨fun q => by
                                  rw [← c1 q]
                                  exact World.cell?_of_block (HT5'.out.block cb z1 HNC.out), fun q => by
                                  rw [← cx q]
                                  exact World.cell?_of_block (HT5'.out.block xb zx HNX.out), HT5'.out.cell p1 hxab, HT5'.out.cell p2 hab⟩
                                clear ht6 hm6 hS0 c1 f1 z1 cx fx zx p1 p2
                                cases b6 with
                                | true =>
                                  refine hK.out _ _ hS1 (fun hHeld => ?_)
                                  clear hK K
                                  try simp only [Act.put, List.setIfInBounds_toArray, List.set_cons_zero, List.set_cons_succ]
                                  refine HL.take_ (i := 12) (oi := { dst := some 129, op := .move (.tmp 128), type := 4, pos := "ref.go:130", after := #[{ on := 11, ground := .data }, { on := 11, ground := .chain }], guard := none }) (v := ?_) rfl (by decide) (by kernel_rfl) (by kernel_rfl) (fun _ _ _ h => h) (Or.inl ⟨by rfl, ?_⟩) (by assumption) ?_
                                  rotate_left
                                  · intro w hSw
                                    (try dsimp only at hSw)
                                    obtain ⟨s1, s2, s3, s4⟩ := hSw; (go_simp; try (with_reducible rfl))
                                  try simp only [Act.put, List.setIfInBounds_toArray, List.set_cons_zero, List.set_cons_succ]
                                  refine HL.take_ (i := 13) (oi := { dst := some 130, op := .move (.tmp 5), type := 4, pos := "ref.go:130", after := #[{ on := 12, ground := .guard }], guard := some (12, false) }) (v := undef) rfl (by decide) (by kernel_rfl) (by kernel_rfl) (fun _ _ _ h => h) (Or.inr ⟨by rfl, rfl⟩) (by assumption) ?_
                                  try simp only [Act.put, List.setIfInBounds_toArray, List.set_cons_zero, List.set_cons_succ]
                                  refine HL.take_ (i := 14) (oi := { dst := some 131, op := .pick (.tmp 129) (.const (.bool true)) (.tmp 130), type := 4, pos := "ref.go:130", after := #[{ on := 12, ground := .data }, { on := 13, ground := .data }], guard := none }) (v := ?_) rfl (by decide) (by kernel_rfl) (by kernel_rfl) (fun _ _ _ h => h) (Or.inl ⟨by rfl, ?_⟩) (by assumption) ?_
                                  rotate_left
                                  · intro w hSw
                                    (try dsimp only at hSw)
                                    obtain ⟨s1, s2, s3, s4⟩ := hSw; (go_simp; try (with_reducible rfl))
                                  try simp only [Act.put, List.setIfInBounds_toArray, List.set_cons_zero, List.set_cons_succ]
                                  refine HL.done_ (by kernel_rfl) ?_
                                  simp only [List.drop_succ_cons, List.drop_zero]
                                  go_wp2_with fail
                                  refine ⟨⟨kk + 1, true, by omega, by go_num, rfl, HM6.out, HT6.out⟩, by simp [intOf]; omega⟩
                                | false =>
                                  refine hK.out _ _ hS1 (fun hHeld => ?_)
                                  clear hK K
                                  try simp only [Act.put, List.setIfInBounds_toArray, List.set_cons_zero, List.set_cons_succ]
                                  refine HL.take_ (i := 12) (oi := { dst := some 129, op := .move (.tmp 128), type := 4, pos := "ref.go:130", after := #[{ on := 11, ground := .data }, { on := 11, ground := .chain }], guard := none }) (v := ?_) rfl (by decide) (by kernel_rfl) (by kernel_rfl) (fun _ _ _ h => h) (Or.inl ⟨by rfl, ?_⟩) (by assumption) ?_
                                  rotate_left
                                  · intro w hSw
                                    (try dsimp only at hSw)
                                    obtain ⟨s1, s2, s3, s4⟩ := hSw; (go_simp; try (with_reducible rfl))
                                  try simp only [Act.put, List.setIfInBounds_toArray, List.set_cons_zero, List.set_cons_succ]
                                  refine HL.take_ (i := 13) (oi := { dst := some 130, op := .move (.tmp 5), type := 4, pos := "ref.go:130", after := #[{ on := 12, ground := .guard }], guard := some (12, false) }) (v := ?_) rfl (by decide) (by kernel_rfl) (by kernel_rfl) (fun _ _ _ h => h) (Or.inl ⟨by rfl, ?_⟩) (by assumption) ?_
                                  rotate_left
                                  · intro w hSw
                                    (try dsimp only at hSw)
                                    obtain ⟨s1, s2, s3, s4⟩ := hSw; (go_simp; try (with_reducible rfl))
                                  try simp only [Act.put, List.setIfInBounds_toArray, List.set_cons_zero, List.set_cons_succ]
                                  refine HL.take_ (i := 14) (oi := { dst := some 131, op := .pick (.tmp 129) (.const (.bool true)) (.tmp 130), type := 4, pos := "ref.go:130", after := #[{ on := 12, ground := .data }, { on := 13, ground := .data }], guard := none }) (v := ?_) rfl (by decide) (by kernel_rfl) (by kernel_rfl) (fun _ _ _ h => h) (Or.inl ⟨by rfl, ?_⟩) (by assumption) ?_
                                  rotate_left
                                  · intro w hSw
                                    (try dsimp only at hSw)
                                    obtain ⟨s1, s2, s3, s4⟩ := hSw; (go_simp; try (with_reducible rfl))
                                  try simp only [Act.put, List.setIfInBounds_toArray, List.set_cons_zero, List.set_cons_succ]
                                  refine HL.done_ (by kernel_rfl) ?_
                                  simp only [List.drop_succ_cons, List.drop_zero]
                                  go_wp2_with fail
                                  refine ⟨⟨kk + 1, more3, by omega, by go_num, rfl, HM6.out, HT6.out⟩, by simp [intOf]; omega⟩
                              · have hlkI2 : ¬ (kk : Int) < (an : Int) := by omega
                                go_wp2_with fail
                                refine ⟨⟨o + 1, more3, by omega, by go_num, rfl, HM5.out, HT2.out.trans HT5.out⟩, by simp [intOf]; omega⟩
                            · obtain rfl : xn = kk := by omega
                              have hnn : ¬ (xn : Int) < (xn : Int) := by omega
                              go_wp2_with fail
                              refine ⟨⟨o + 1, more3, by omega, by go_num, rfl, HM5.out, HT2.out.trans HT5.out⟩, by simp [intOf]; omega⟩
                  · have hfe : (!(fb == e5)) = true := by revert hfe0; cases fb <;> cases e5 <;> simp
                    go_wp2_with fail
                    refine ⟨⟨o + 1, more2, by omega, by go_num, rfl, HM2.out, HT2.out⟩, by simp [intOf]; omega⟩
              · obtain rfl : C = o := by omega
                have hnn : ¬ (C : Int) < (C : Int) := by omega
                go_wp2_with fail
                go_roundw
                case measure => simp [intOf]; omega
                case rel => exact ⟨i + 1, more2, by omega, by go_num, rfl, HM.out, HTU.out.trans HT.out⟩
    · obtain rfl : K = i := by omega
      have hnn : ¬ (K : Int) < (K : Int) := by omega
      go_wp2_with fail
      go_ret
      exact ⟨more, rfl, HW.out.trans HT.out, HM.out⟩
end Go.Proofs.Ytjgijbaboekghaa

set_option linter.unusedSimpArgs false
set_option linter.unusedVariables false
namespace Go.Proofs.Ytjgijbaboekghaa
open Go.RowKit
theorem info114l : (Try.prog.info? 114).map (fun i => (i.zero, i.size, i.bytes)) = some (some (.slice none 0 0), 1, 24) := by kernel_rfl
theorem info29l : (Try.prog.info? 29).map (fun i => (i.zero, i.size, i.bytes)) = some (some (.slice none 0 0), 1, 24) := by kernel_rfl
theorem info4l : (Try.prog.info? 4).map (fun i => (i.zero, i.size, i.bytes)) = some (some (.bool false), 1, 1) := by kernel_rfl
theorem info3l : (Try.prog.info? 3).map (fun i => (i.zero, i.size, i.bytes)) = some (some (.int .i64 0), 1, 8) := by kernel_rfl
theorem made_false (C : Nat) {o : Nat} (h : o < C) : (madeCells #[.bool false] C)[o]? = some (.bool false) := by
  rw [← Array.getElem?_toList, toList_madeCells_one, List.getElem?_replicate, if_pos h]
theorem frozen_of_block {w w' : World} {p : Addr} (h : w'.heap[p.block]? = w.heap[p.block]?) : w'.frozen? p = w.frozen? p := by
  unfold World.frozen?
  rw [h]
def tabV (gl : List Nat) (C : Nat) : List Value := gl.map fun g => .slice (some ⟨g, 0, none⟩) C C
/-- Rows of bools, each in a block of its own. -/
def Tab (w : World) (B C : Nat) (gl : List Nat) : Prop := ∀ g ∈ gl, B ≤ g ∧ g < w.heap.size ∧ ∀ o, o < C → (∃ b, w.cell? ⟨g, o, none⟩ = some (.bool b)) ∧ w.frozen? ⟨g, o, none⟩ = false
theorem Tab.step {wr w4 : World} {B C v : Nat} {gl : List Nat} {r r' : Value} {xs : List Value} {o : Obj} (h : Tab wr B C gl) (ho : wr.ownsRow B 114 1 r v xs) (hA : ∀ k, r.ownBlock = some k → k ∉ gl)
    (hg : ((wr.alloc (.cells (madeCells #[.bool false] C) 4)).alloc o).grownBy w4 r.ownBlock) (hn : r'.ownBlock = r.ownBlock ∨ ∀ k, r'.ownBlock = some k → ((wr.alloc (.cells (madeCells #[.bool false] C) 4)).alloc o).heap.size ≤ k) (hB : B ≤ wr.heap.size) :
    Tab w4 B C (gl ++ [wr.heap.size]) ∧ ∀ k, r'.ownBlock = some k → k ∉ gl ++ [wr.heap.size] := by
  have hb : Below wr.heap.size wr ((wr.alloc (.cells (madeCells #[.bool false] C) 4)).alloc o) := ((Below.refl _ _).alloc (Nat.le_refl _) _).alloc (by simp) _
  have hs : ((wr.alloc (.cells (madeCells #[.bool false] C) 4)).alloc o).heap.size = wr.heap.size + 2 := by simp
  have hz := hg.size
  refine ⟨fun g hm => ?_, fun k hk hm => ?_⟩
  · rcases List.mem_append.1 hm with hm | hm
    · obtain ⟨h1, h2, h3⟩ := h g hm
      have e : w4.heap[g]? = wr.heap[g]? := (hg.block g (by omega) (fun e => hA g e.symm hm)).trans (hb.block g h2)
      refine ⟨h1, by omega, fun o' ho' => ?_⟩
      obtain ⟨⟨b, k1⟩, k2⟩ := h3 o' ho'
      exact ⟨⟨b, (World.cell?_of_block e).trans k1⟩, (frozen_of_block e).trans k2⟩
    · rw [List.mem_singleton] at hm
      subst hm
      have e0 := blk_alloc (heap_alloc_new wr (.cells (madeCells #[.bool false] C) 4)) o
      have e : w4.heap[wr.heap.size]? = some (.cells (madeCells #[.bool false] C) 4) := (hg.block wr.heap.size (by omega) (fun e => by have := (World.ownsRow.lt ho _ e.symm).2; omega)).trans e0
      obtain ⟨k1, k2, k3⟩ := blk3 e
      exact ⟨hB, k3, fun o' ho' => ⟨⟨false, by rw [k1]; exact made_false C ho'⟩, k2 o'⟩⟩
  · rcases hn with hn | hn
    · rw [hn] at hk
      have := (World.ownsRow.lt ho _ hk).2
      rcases List.mem_append.1 hm with hm | hm
      · exact hA k hk hm
      · rw [List.mem_singleton] at hm; omega
    · have h1 := hn k hk
      rcases List.mem_append.1 hm with hm | hm
      · have := (h k hm).2.1; omega
      · rw [List.mem_singleton] at hm; omega
theorem Tab.mat {w : World} {B C V c gm : Nat} {gl : List Nat} (h : Tab w B C gl) (ho : w.ownsRow B 114 1 (.slice (some ⟨gm, 0, none⟩) V c) V (tabV gl C)) (hl : gl.length = V) (hA : gm ∉ gl) : Mat w gm V C gl :=
  ⟨fun v hv => by
    have hv' : gl[v]? = some gl[v] := List.getElem?_eq_getElem (by omega)
    have hm := List.mem_of_getElem? hv'
    refine ⟨gl[v], hm, (row_cell ho (k := v) ?_).1, (h _ hm).2.2⟩
    unfold tabV
    rw [List.getElem?_map, hv']
    rfl, hA⟩
theorem Turned.below {gs : List Nat} {B : Nat} {w0 w w' : World} (ht : Turned gs w w') (hb : Below B w0 w) (hgs : ∀ g ∈ gs, B ≤ g) (hB : B ≤ w.heap.size) : Below B w0 w' :=
  ⟨ht.os.trans hb.os, ht.tape.trans hb.tape, ht.output.trans hb.output, Nat.le_trans hb.size ht.size, fun k hk => (ht.block k (by omega) (fun hm => by have := hgs _ hm; omega)).trans (hb.block k hk)⟩
def PsAt (w : World) (xs : List Value) (ps : List (List Int)) : Prop := xs.length = ps.length ∧ ∀ (i : Nat) p, ps[i]? = some p → ∃ u, xs[i]? = some u ∧ ReadsJ w u p
theorem PsAt.sub {w w' : World} {xs : List Value} {ps : List (List Int)} (h : PsAt w xs ps) (hb : Sub w w') : PsAt w' xs ps := ⟨h.1, fun i p hp => by obtain ⟨u, k1, k2⟩ := h.2 i p hp; exact ⟨u, k1, k2.sub hb⟩⟩
theorem PsAt.snoc {w : World} {xs : List Value} {ps : List (List Int)} {u : Value} {p : List Int} (h : PsAt w xs ps) (hu : ReadsJ w u p) : PsAt w (xs ++ [u]) (ps ++ [p]) := by
  refine ⟨by simp [h.1], fun i q hq => ?_⟩
  rcases Nat.lt_or_ge i ps.length with hi | hi
  · rw [List.getElem?_append_left hi] at hq
    obtain ⟨u', k1, k2⟩ := h.2 i q hq
    exact ⟨u', by rw [List.getElem?_append_left (by rw [h.1]; exact hi)]; exact k1, k2⟩
  · have hlt := (List.getElem?_eq_some_iff.1 hq).1
    rw [List.length_append, List.length_singleton] at hlt
    obtain rfl : i = ps.length := by omega
    rw [List.getElem?_append_right (Nat.le_refl _), Nat.sub_self] at hq
    injection hq with hq
    subst hq
    exact ⟨u, by rw [List.getElem?_append_right (by rw [h.1]; exact Nat.le_refl _), h.1, Nat.sub_self]; rfl, hu⟩
theorem ReadsJ.rowl {w : World} {B n c : Nat} {A : Option Addr} {xs : List Int} {rs : List Row} (ho : Owns w B (⟨3, 1, .slice A n c, n, ints xs⟩ :: rs)) (hl : xs.length = n) (hn : n ≤ 1048576) : ReadsJ (sans w (rblk rs ++ [])) (.slice A n c) xs :=
  ⟨A, n, c, rfl, hl, hn, fun hp => by
    obtain ⟨g, rfl, _, _⟩ := own_addr ho.head hp
    refine ⟨g, 0, rfl, fun i hi => Sub.sans ?_ (fun hm => ho.notin rfl (by simpa using hm))⟩
    rw [Nat.zero_add]
    refine (row_cell ho.head (k := i) ?_).1
    show (ints xs)[i]? = _
    unfold ints
    rw [List.getElem?_map, List.getElem?_eq_getElem (by omega), List.getD_eq_getElem?_getD, List.getElem?_eq_getElem (by omega)]
    rfl⟩
def Pointed (w : World) (e : Ending) (w' : World) : Prop := ∃ v ps, e = .returned v ∧ ReadsP w' v ps ∧ Below w.heap.size w w'
set_option maxRecDepth 20000 in
set_option maxHeartbeats 4000000 in
theorem least_calls (w : World) (sv : Value) (V C K : Nat) (hs : SysOk w sv V C K) (hV : V ≤ 1048576) (hC : C ≤ 1048576) (hV0 : 0 < V) : Calls Try.prog 45 #[sv] w (Pointed w) := by
  obtain ⟨ca, cc, ka, kc, rfl, _⟩ := id hs.shape
  have HS := Lib.hid hs
  clear hs
  have m0 := heap_alloc_new w (.cells #[.int .i64 (V : Nat), .slice ca C cc, .slice ka K kc] 92)
  have bw : Below w.heap.size w (w.alloc (.cells #[.int .i64 (V : Nat), .slice ca C cc, .slice ka K kc] 92)) := (Below.refl _ _).alloc (Nat.le_refl _) _
  have hmk := run_make_row' (P := Try.prog) 114 4 (.bool false) 1 Try.underlying114 info4l rfl .i64 .i64 C (by omega) (by omega)
  go_enter Try.func45, Try.ntmps45
  go_upto_region 1 with (fail)
  obtain ⟨W, hW⟩ : ∃ W, W = w.alloc (.cells #[.int .i64 (V : Nat), .slice ca C cc, .slice ka K kc] 92) := ⟨_, rfl⟩
  have HWS : Hid (w.heap.size < W.heap.size) := Lib.hid (by rw [hW]; simp)
  rw [← hW] at m0 bw ⊢
  have H0 := Lib.hid m0
  have HBW := Lib.hid bw
  clear hW m0 bw
  go_wp2_with fail
  go_loopw [3, 4] (fun v3 v4 wr => ∃ (v : Nat) (A : Option Addr) (cp : Nat) (gl : List Nat), v ≤ V ∧ v4 = .int .i64 (v : Nat) ∧ v3 = .slice A v cp ∧ Hid (gl.length = v) ∧ Hid (wr.ownsRow W.heap.size 114 1 (.slice A v cp) v (tabV gl C)) ∧ Hid (Tab wr W.heap.size C gl) ∧ Hid (∀ k, (Value.slice A v cp).ownBlock = some k → k ∉ gl) ∧ Hid (Below W.heap.size W wr)) (fun _ v4 _ => V - (intOf v4).toNat)
  case atStart =>
    have h1 : Tab W W.heap.size C [] := fun g hg => by cases hg
    have h2 : ∀ k, (Value.slice none 0 0).ownBlock = some k → k ∉ ([] : List Nat) := fun k _ hm => by cases hm
    exact ⟨0, none, 0, [], Nat.zero_le _, rfl, rfl, rfl, World.ownsRow_nil _ _ _ _, h1, h2, Below.refl _ _⟩
  case round =>
    obtain ⟨v, A, cp, gl, hv, rfl, rfl, HGL, HO, HT, HA, HB⟩ := hrel
    obtain ⟨c0, f0, z0⟩ := blk3 (blk_below H0.out HB.out)
    by_cases hlt : v < V
    · have hltI : (v : Int) < (V : Int) := by omega
      go_wp2_with (at_builtin; refine append_list2 (B := W.heap.size) (w0 := W) rfl _ _ 116 114 (.slice none 0 0) 1 24 rfl Try.underlying116 info114l rfl (by decide) (.slice A v cp) v _ rfl (own_below HO.out (((Below.refl _ _).alloc (Nat.le_refl _) _).alloc (by simp) _)) ⟨wr.heap.size + 1, 0, none⟩ 1 1 [.slice (some ⟨wr.heap.size, 0, none⟩) C C] rfl rfl (new_cells1 _ _ _ _ _) (one_cell _ rfl) (by have := HB.out.size; simp; omega) ((HB.out.alloc HB.out.size _).alloc (by have := HB.out.size; simp; omega) _) (by omega) (by omega) ?_; intro v' w4 h1 h2 h3 h4; obtain ⟨A1, cp1, rfl, _, _⟩ := own_shape h1; obtain ⟨h5, h6⟩ := HT.out.step HO.out HA.out h3 h4 HB.out.size; have HO1 := Lib.hid h1; have HB1 := Lib.hid h2; have HT1 := Lib.hid h5; have HA1 := Lib.hid h6; clear h1 h2 h3 h4 h5 h6)
      refine ⟨⟨v + 1, A1, cp1, gl ++ [wr.heap.size], by omega, by go_num, rfl, ?_, ?_, HT1.out, HA1.out, HB1.out⟩, by simp [intOf]; omega⟩
      · show _ = _
        rw [List.length_append, HGL.out]; rfl
      · show World.ownsRow _ _ _ _ _ _ _
        unfold tabV
        rw [List.map_append]; exact HO1.out
    · obtain rfl : V = v := by omega
      have hnn : ¬ (V : Int) < (V : Int) := by omega
      obtain ⟨gm, rfl, _, _⟩ := own_addr HO.out hV0
      have hmat := HT.out.mat HO.out HGL.out (HA.out gm rfl)
      have hbw := HBW.out.trans (HB.out.mono HBW.out.size)
      have hge : ∀ g ∈ gl, w.heap.size ≤ g := fun g hg => by have := (HT.out g hg).1; have := HWS.out; omega
      have HS1 := Lib.hid (HS.out.sub (sub_new hbw hge))
      have HGS : Hid (∀ g ∈ gl, g < wr.heap.size) := Lib.hid (fun g hg => (HT.out g hg).2.1)
      have HGE := Lib.hid hge
      have h1 := blk_below H0.out HB.out
      have HN0 : Hid (w.heap.size ∉ gl) := Lib.hid (fun hm => by have := (HT.out _ hm).1; have := HWS.out; omega)
      have hcap : V ≤ cp := by
        obtain ⟨_, _, e, hc, _⟩ := own_shape HO.out
        injection e with _ _ e3
        omega
      obtain ⟨W1, hW1⟩ : ∃ W, W = wr := ⟨_, rfl⟩
      rw [← hW1] at hmat hbw HS1 HGS h1 ⊢
      have H1 := Lib.hid h1
      have HM1 := Lib.hid hmat
      have HBW1 := Lib.hid hbw
      obtain ⟨q0, q1, q2⟩ := blk3 h1
      clear HO HT HA HB HGL hmat hbw hge h1 c0 f0 z0 hW1 hmk HS H0 HBW
      obtain ⟨P, hP⟩ : ∃ P, P = V * C := ⟨_, rfl⟩
      have hPB : P ≤ 1099511627776 := by rw [hP]; exact Nat.mul_le_mul hV hC
      have hP1 : (V : Int) * (C : Int) = (P : Int) := by rw [hP, Int.natCast_mul]
      have hwm : IntKind.i64.wrap ((V : Int) * (C : Int)) = (P : Int) := by rw [hP1, IntWalk.i64_in _ (by omega)]
      have hwa : IntKind.i64.wrap ((P : Int) + 2) = ((P + 2 : Nat) : Int) := by rw [IntWalk.i64_in _ (by omega)]; omega
      clear hP hP1
      go_wp2_with fail
      clear q0 q1 q2
      go_loopw [5] (fun v5 wr => ∃ i : Nat, i ≤ P + 2 ∧ v5 = .int .i64 (i : Nat) ∧ Hid (Mat wr gm V C gl) ∧ Hid (Turned gl W1 wr)) (fun v5 _ => P + 2 - (intOf v5).toNat)
      case atStart => exact ⟨0, Nat.zero_le _, rfl, HM1.out, Turned.refl _ _⟩
      case round =>
        clear HM1
        obtain ⟨i, hi, rfl, HM, HT⟩ := hrel
        obtain ⟨q0, q1, q2⟩ := blk3 (turned_blk HT.out H1.out HN0.out)
        go_upto_region 7 with (fail)
        go_cut [36] from 23 to 38 (fun s36 wx => ∃ b : Bool, s36 = .bool b ∧ Hid (b = true → i < P + 2) ∧ Hid (Mat wx gm V C gl) ∧ Hid (Turned gl W1 wx))
        case first =>
          by_cases hlt : i < P + 2
          · have hltI : (i : Int) < ((P + 2 : Nat) : Int) := by omega
            go_wp2_with fail
            refine (step_calls wr (.agg #[.int .i64 (V : Nat), .slice ca C cc, .slice ka K kc]) V C K gm cp gl (HS1.out.sub HT.out.sub) HM.out hcap (fun g hg => Nat.lt_of_lt_of_le (HGS.out g hg) HT.out.size)).mono ?_
            rintro e w3 ⟨b', rfl, ht3, hm3⟩
            have HT3 := Lib.hid (HT.out.trans ht3)
            have HM3 := Lib.hid hm3
            clear ht3 hm3 q0 q1 q2
            cases b' with
            | true =>
              go_wp2_with fail
              go_meet
              case rel => exact ⟨true, rfl, fun _ => hlt, HM3.out, HT3.out⟩
            | false =>
              go_wp2_with fail
              go_meet
              case rel => exact ⟨false, rfl, fun h => (by cases h), HM3.out, HT3.out⟩
          · have hltI : ¬ (i : Int) < ((P + 2 : Nat) : Int) := by omega
            go_wp2_with fail
            go_meet
            case rel => exact ⟨false, rfl, fun h => (by cases h), HM.out, HT.out⟩
        case rest =>
          obtain ⟨b, rfl, HL, HM2, HT2⟩ := hcut
          clear q0 q1 q2 HM HT
          cases b with
          | true =>
            have hlt := HL.out rfl
            go_wp2_with fail
            refine ⟨⟨i + 1, by omega, by go_num, HM2.out, HT2.out⟩, by simp [intOf]; omega⟩
          | false =>
            obtain ⟨W2, hW2⟩ : ∃ W, W = wc := ⟨_, rfl⟩
            rw [← hW2] at HM2 HT2 ⊢
            have h2 := turned_blk HT2.out H1.out HN0.out
            have H2 := Lib.hid h2
            have HBW2 : Hid (Below w.heap.size w W2) := Lib.hid (HT2.out.below HBW1.out HGE.out HBW1.out.size)
            obtain ⟨q0, q1, q2⟩ := blk3 h2
            clear hW2 h2 HT2 HL HBW1 H1 HS1
            go_wp2_with fail
            clear q0 q1 q2
            go_loopw [6, 7] (fun v6 v7 wr => ∃ (v : Nat) (OA : Option Addr) (oc : Nat) (xs : List Value) (ps : List (List Int)), v ≤ V ∧ v7 = .int .i64 (v : Nat) ∧ v6 = .slice OA v oc ∧ Hid (ps.length = v) ∧ Hid (Owns wr W2.heap.size [⟨29, 1, .slice OA v oc, v, xs⟩]) ∧ Hid (PsAt (sans wr (rblk [⟨29, 1, .slice OA v oc, v, xs⟩] ++ [])) xs ps) ∧ Hid (Below W2.heap.size W2 wr)) (fun _ v7 _ => V - (intOf v7).toNat)
            case atStart => exact ⟨0, none, 0, [], [], Nat.zero_le _, rfl, rfl, rfl, (Owns.nil _ _).none_ 29 1, ⟨rfl, fun i p hp => by simp at hp⟩, Below.refl _ _⟩
            case round =>
              obtain ⟨v, OA, oc, xs, ps, hv, rfl, rfl, HPL, HO, HPS, HB⟩ := hrel
              obtain ⟨q0, q1, q2⟩ := blk3 (blk_below H2.out HB.out)
              by_cases hlt : v < V
              · have hltI : (v : Int) < (V : Int) := by omega
                have hv0 : (0 : Int) ≤ (v : Int) := by omega
                go_wp2_with fail
                clear q0 q1 q2
                go_loopw [8, 9] (fun v8 v9 wr => ∃ (o n : Nat) (A : Option Addr) (c : Nat) (ls : List Int), o ≤ C ∧ n ≤ o ∧ v9 = .int .i64 (o : Nat) ∧ v8 = .slice A n c ∧ Hid (ls.length = n) ∧ Hid (Owns wr W2.heap.size [⟨3, 1, .slice A n c, n, ints ls⟩, ⟨29, 1, .slice OA v oc, v, xs⟩]) ∧ Hid (PsAt (sans wr (rblk [⟨3, 1, .slice A n c, n, ints ls⟩, ⟨29, 1, .slice OA v oc, v, xs⟩] ++ [])) xs ps) ∧ Hid (Below W2.heap.size W2 wr)) (fun _ v9 _ => C - (intOf v9).toNat)
                case atStart => exact ⟨0, 0, none, 0, [], Nat.zero_le _, Nat.le_refl _, rfl, rfl, rfl, HO.out.none_ 3 1, HPS.out, HB.out⟩
                case round =>
                  clear HO HPS HB
                  obtain ⟨o, n, A, c, ls, ho, hn, rfl, rfl, HLL, HO, HPS, HB⟩ := hrel
                  obtain ⟨q0, q1, q2⟩ := blk3 (blk_below H2.out HB.out)
                  by_cases hlto : o < C
                  · have hltO : (o : Int) < (C : Int) := by omega
                    have ho0 : (0 : Int) ≤ (o : Int) := by omega
                    obtain ⟨g, hg, rp, rr⟩ := (HM2.out.below HB.out).row v hlt
                    obtain ⟨⟨b, kb⟩, fb⟩ := rr o hlto
                    clear rr
                    cases b with
                    | true =>
                      go_wp2_with (at_builtin; refine append_at_list (B := W2.heap.size) (W := wr.alloc (.cells #[.int .i64 (o : Nat)] 3)) rfl 0 _ _ _ 29 3 (.int .i64 0) 1 8 rfl Try.underlying29 info3l rfl (by decide) (.slice A n c) n _ rfl (HO.out.below ((Below.refl _ _).alloc (Nat.le_refl _) _)) rfl ⟨wr.heap.size, 0, none⟩ 1 1 [.int .i64 (o : Nat)] rfl rfl (new_cells _ _ _ _) (one_cell _ rfl) (by have := HB.out.size; simp; omega) (by omega) (by omega) ?_; intro A1 c1 w6 hg6; have HB6 := Lib.hid ((HB.out.alloc HB.out.size _).trans hg6.below); have HO6 := Lib.hid hg6.owns; have HP6 := Lib.hid ((HPS.out.sub (sub_sans_below ((Below.refl _ _).alloc (Nat.le_refl _) _))).sub (hg6.sub [])); clear hg6 kb fb rp)
                      refine ⟨⟨o + 1, n + 1, A1, c1, ls ++ [(o : Int)], by omega, by omega, by go_num, rfl, ?_, ?_, ?_, HB6.out⟩, by simp [intOf]; omega⟩
                      · show _ = _
                        rw [List.length_append, HLL.out]; rfl
                      · show Owns _ _ _
                        rw [ints_snoc]; exact HO6.out
                      · show PsAt _ _ _
                        rw [ints_snoc]; exact HP6.out
                    | false =>
                      go_wp2_with fail
                      refine ⟨⟨o + 1, n, A, c, ls, by omega, by omega, by go_num, rfl, HLL.out, HO.out, HPS.out, HB.out⟩, by simp [intOf]; omega⟩
                  · obtain rfl : C = o := by omega
                    have hnn : ¬ (C : Int) < (C : Int) := by omega
                    have hrj := ReadsJ.rowl HO.out HLL.out (by omega)
                    have HO5 := Lib.hid HO.out.tail
                    have HP5 : Hid (PsAt (sans wr (rblk [⟨29, 1, .slice OA v oc, v, xs⟩] ++ [])) (xs) ps) := Lib.hid (HPS.out.sub (sub_sans_app fun k hk => rblk_tail hk))
                    have HRJ := Lib.hid hrj
                    clear hrj HO HPS
                    go_wp2_with (at_builtin; refine append_at_list (B := W2.heap.size) (W := wr.alloc (.cells #[.slice A n c] 29)) rfl 0 _ _ _ 61 29 (.slice none 0 0) 1 24 rfl Try.underlying61 info29l rfl (by decide) (.slice OA v oc) v _ rfl (HO5.out.below ((Below.refl _ _).alloc (Nat.le_refl _) _)) rfl ⟨wr.heap.size, 0, none⟩ 1 1 [.slice A n c] rfl rfl (new_cells _ _ _ _) (one_cell _ rfl) (by have := HB.out.size; simp; omega) (by omega) (by omega) ?_; intro A1 c1 w6 hg6; have HB6 := Lib.hid ((HB.out.alloc HB.out.size _).trans hg6.below); have HO6 := Lib.hid hg6.owns; have HP6 := Lib.hid (((HP5.out.snoc HRJ.out).sub (sub_sans_below ((Below.refl _ _).alloc (Nat.le_refl _) _))).sub (hg6.sub [])); clear hg6)
                    refine ⟨⟨v + 1, A1, c1, xs ++ [.slice A n c], ps ++ [ls], by omega, by go_num, rfl, ?_, ?_, ?_, HB6.out⟩, by simp [intOf]; omega⟩
                    · show _ = _
                      rw [List.length_append, HPL.out]; rfl
                    · exact HO6.out
                    · exact HP6.out
              · obtain rfl : V = v := by omega
                have hnn : ¬ (V : Int) < (V : Int) := by omega
                go_wp2_with fail
                go_ret
                refine ⟨_, ps, rfl, ⟨OA, V, oc, rfl, HPL.out, hV, fun hp => ?_⟩, HBW2.out.trans (HB.out.mono HBW2.out.size)⟩
                obtain ⟨g, rfl, _, _⟩ := own_addr HO.out.head hp
                refine ⟨g, 0, rfl, fun i p hi => ?_⟩
                obtain ⟨u, k1, k2⟩ := HPS.out.2 i p hi
                refine ⟨u, ?_, k2.sub (sans_sub _ _)⟩
                rw [Nat.zero_add]
                exact (row_cell HO.out.head k1).1
end Go.Proofs.Ytjgijbaboekghaa

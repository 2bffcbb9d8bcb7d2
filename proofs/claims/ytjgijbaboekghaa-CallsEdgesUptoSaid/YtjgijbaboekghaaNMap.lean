/-
  gen.NewMap (function 47): of each function its first variable, its first object. No statement of its own.
-/
import Derived.Test.YtjgijbaboekghaaMakeR
import Derived.Test.YtjgijbaboekghaaRegN
set_option linter.unusedSimpArgs false
set_option linter.unusedVariables false
namespace Go.Proofs.Ytjgijbaboekghaa
open Go.RowKit
def sizeFn (f : Fn) : Nat := f.locals.length + 1 + f.sites.length
/-- A function's first variable; its first object. -/
def firstN (M : Mod) (i : Nat) : Nat := M.globals.length + ((M.funcs.take i).map sizeFn).sum
def firsts (M : Mod) (i : Nat) : List Int := (List.range i).map fun j => (firstN M j : Int)
theorem firsts_succ (M : Mod) (i : Nat) : firsts M (i + 1) = firsts M i ++ [(firstN M i : Int)] := by unfold firsts; rw [List.range_succ, List.map_append]; rfl
theorem firsts_length (M : Mod) (i : Nat) : (firsts M i).length = i := by unfold firsts; rw [List.length_map, List.length_range]
theorem firstN_succ {M : Mod} {i : Nat} {f : Fn} (h : M.funcs[i]? = some f) : firstN M (i + 1) = firstN M i + sizeFn f := by
  unfold firstN
  rw [List.take_add_one, h]
  simp
  omega
theorem cells_of_blk {W : World} {g : Nat} {cs : Array Value} {t : TypeId} (h : W.heap[g]? = some (.cells cs t)) : ∀ (j : Nat) u, cs.toList[j]? = some u → W.cell? ((⟨g, 0, none⟩ : Addr).add j) = some u := fun j u hu => by
  have e : (⟨g, 0, none⟩ : Addr).add j = ⟨g, j, none⟩ := by unfold Addr.add; split <;> simp_all
  rw [e, (blk3 h).1]
  simpa using hu
theorem ints_append (xs ys : List Int) : ints (xs ++ ys) = ints xs ++ ints ys := by unfold ints; rw [List.map_append]
theorem ngrown_refl (w : World) (row : Option Nat) : w.grownBy w row := ⟨rfl, rfl, rfl, Nat.le_refl _, fun _ _ _ => rfl⟩
theorem ngrown_set {w w' : World} {g : Nat} (h : w.grownBy w' (some g)) (o : Nat) (v : Value) : w.grownBy (w'.setCell ⟨g, o, none⟩ v) (some g) :=
  ⟨h.os, h.tape, h.output, by rw [World.size_setCell]; exact h.size, fun k hk hn => (Below.heap_setCell w' ⟨g, o, none⟩ v k (fun e => hn (by rw [e]))).trans (h.block k hk hn)⟩
theorem owns_grown {U Y : World} {B g n : Nat} {A C : Option Addr} {ac cc : Nat} {xs ys xs' ys' : List Value} (h : Owns U B [⟨3, 1, .slice A n ac, n, xs⟩, ⟨3, 1, .slice C n cc, n, ys⟩]) (hg : U.grownBy Y (some g)) (hlt : g < B) (hx : xs' = xs) (hy : ys' = ys) :
    Owns Y B [⟨3, 1, .slice A n ac, n, xs'⟩, ⟨3, 1, .slice C n cc, n, ys'⟩] := by
  subst hx hy
  refine ⟨fun r hr => (h.own r hr).kept hg ?_, h.apart⟩
  by_cases hn : r.v.ownBlock = none
  · exact .inl hn
  · refine .inr fun e => ?_
    have := (World.ownsRow.lt (h.own r hr) g e).1
    omega
theorem one_news {W : World} {g : Nat} {v : Value} (h : W.cell? ⟨g, 0, none⟩ = some v) : ∀ (j : Nat) u, ([v] : List Value)[j]? = some u → W.cell? ((⟨g, 0, none⟩ : Addr).add j) = some u := fun j u hu => by
  have e : (⟨g, 0, none⟩ : Addr).add j = ⟨g, j, none⟩ := by unfold Addr.add; split <;> simp_all
  rw [e]
  match j, hu with
  | 0, hu => injection hu with hu; subst hu; exact h
theorem firstN_le {M : Mod} (hg : M.globals.length ≤ 1000) (hf : ∀ f ∈ M.funcs, f.locals.length ≤ 1000 ∧ f.sites.length ≤ 1000) (i : Nat) (hi : i ≤ M.funcs.length) : firstN M i ≤ 1000 + 2001 * i := by
  induction i with
  | zero => unfold firstN; simp; exact hg
  | succ i ih =>
    have hx := List.getElem?_eq_getElem (show i < M.funcs.length by omega)
    have h1 := hf _ (List.getElem_mem (show i < M.funcs.length by omega))
    rw [firstN_succ hx]
    unfold sizeFn
    have := ih (by omega)
    omega
/-- What NewMap hands back. -/
def Mapped (w : World) (sv gv fv ev : Value) (M : Mod) (e : Ending) (w' : World) : Prop :=
  ∃ vv cv, e = .returned (.agg #[sv, gv, fv, ev, vv, cv, .int .i64 (firstN M M.funcs.length : Nat), .int .i64 (firstN M M.funcs.length : Nat)]) ∧ ReadsI w' vv (firsts M M.funcs.length) ∧ ReadsI w' cv (firsts M M.funcs.length) ∧ Below w.heap.size w w'
set_option maxRecDepth 20000 in
set_option maxHeartbeats 4000000 in
theorem newMap_calls (w : World) (sv gv fv ev : Value) (M : Mod) (h : ReadsM w (.agg #[sv, gv, fv, ev]) M) : Calls Try.prog 47 #[.agg #[sv, gv, fv, ev]] w (Mapped w sv gv fv ev M) := by
  obtain ⟨sv', gv', fv', ev', e, h1, h2, h3, h4⟩ := h
  obtain ⟨rfl, rfl, rfl, rfl⟩ : sv = sv' ∧ gv = gv' ∧ fv = fv' ∧ ev = ev' := by simpa using e
  clear e
  obtain ⟨sa, sc, rfl, _⟩ := h1.shape
  obtain ⟨ga, gc, rfl, hg1⟩ := h2.shape
  obtain ⟨fa, fc, rfl, hfn⟩ := h3.shape
  obtain ⟨ea, ec, rfl, _⟩ := h4.shape
  obtain ⟨sn, hsn⟩ : ∃ n, n = M.strings.length := ⟨_, rfl⟩
  obtain ⟨gn, hgn⟩ : ∃ n, n = M.globals.length := ⟨_, rfl⟩
  obtain ⟨n, hnn⟩ : ∃ n, n = M.funcs.length := ⟨_, rfl⟩
  obtain ⟨en, hen⟩ : ∃ n, n = M.entries.length := ⟨_, rfl⟩
  have hloc : ∀ f ∈ M.funcs, f.locals.length ≤ 1000 ∧ f.sites.length ≤ 1000 := fun f hf => by
    obtain ⟨i, hi⟩ := List.mem_iff_getElem?.1 hf
    have hlt := (List.getElem?_eq_some_iff.1 hi).1
    obtain ⟨b, off, f', lv, sv', bv, _, hf', _, k1, k2, _⟩ := h3.at hlt
    rw [hi] at hf'
    injection hf' with hf'
    subst hf'
    obtain ⟨_, _, _, l1⟩ := k1.shape
    obtain ⟨_, _, _, l2⟩ := k2.shape
    exact ⟨l1, l2⟩
  have HFN := Lib.hid (fun i hi => firstN_le (M := M) hg1 hloc i hi)
  have HF0 : Hid (firstN M 0 = gn) := Lib.hid (by unfold firstN; rw [hgn]; simp)
  rw [← hnn] at h3 hfn HFN ⊢
  rw [← hgn] at hg1 ⊢
  rw [← hsn, ← hen]
  have R3 := Lib.hid h3
  have HNN := Lib.hid hnn.symm
  clear h1 h2 h3 h4 hsn hgn hnn hen hloc
  go_enter Try.func47, Try.ntmps47
  go_upto_region 2 with (fail)
  obtain ⟨W1, hW1⟩ : ∃ W1, W1 = (((w.alloc (.cells #[.slice sa sn sc, .slice ga gn gc, .slice fa n fc, .slice ea en ec] 32)).alloc (.cells #[.slice none 0 0, .slice none 0 0, .slice none 0 0, .slice none 0 0, .slice none 0 0, .slice none 0 0, .int .i64 0, .int .i64 0] 95)).alloc (.cells #[.slice sa sn sc, .slice ga gn gc, .slice fa n fc, .slice ea en ec, .slice none 0 0, .slice none 0 0, .int .i64 (gn : Nat), .int .i64 (gn : Nat)] 95)) := ⟨_, rfl⟩
  have B1 : Hid (Below w.heap.size w W1) := Lib.hid (by rw [hW1]; exact (((Below.refl _ _).alloc (Nat.le_refl _) _).alloc (by simp) _).alloc (by simp; omega) _)
  have Z1 : Hid (W1.heap.size = w.heap.size + 3) := Lib.hid (by rw [hW1]; simp)
  have M1 : Hid (W1.heap[w.heap.size]? = some (.cells #[.slice sa sn sc, .slice ga gn gc, .slice fa n fc, .slice ea en ec] 32)) := Lib.hid (by rw [hW1]; exact blk_alloc (blk_alloc (heap_alloc_new w _) _) _)
  have Y1 : Hid (W1.heap[w.heap.size + 1]? = some (.cells #[.slice none 0 0, .slice none 0 0, .slice none 0 0, .slice none 0 0, .slice none 0 0, .slice none 0 0, .int .i64 0, .int .i64 0] 95)) := Lib.hid (by
    rw [hW1]
    have := heap_alloc_new (w.alloc (.cells #[.slice sa sn sc, .slice ga gn gc, .slice fa n fc, .slice ea en ec] 32)) (.cells #[.slice none 0 0, .slice none 0 0, .slice none 0 0, .slice none 0 0, .slice none 0 0, .slice none 0 0, .int .i64 0, .int .i64 0] 95)
    rw [World.size_alloc] at this
    exact blk_alloc this _)
  have X1 : Hid (W1.heap[w.heap.size + 1 + 1]? = some (.cells #[.slice sa sn sc, .slice ga gn gc, .slice fa n fc, .slice ea en ec, .slice none 0 0, .slice none 0 0, .int .i64 (gn : Nat), .int .i64 (gn : Nat)] 95)) := Lib.hid (by
    rw [hW1]
    have := heap_alloc_new ((w.alloc (.cells #[.slice sa sn sc, .slice ga gn gc, .slice fa n fc, .slice ea en ec] 32)).alloc (.cells #[.slice none 0 0, .slice none 0 0, .slice none 0 0, .slice none 0 0, .slice none 0 0, .slice none 0 0, .int .i64 0, .int .i64 0] 95)) (.cells #[.slice sa sn sc, .slice ga gn gc, .slice fa n fc, .slice ea en ec, .slice none 0 0, .slice none 0 0, .int .i64 (gn : Nat), .int .i64 (gn : Nat)] 95)
    rwa [World.size_alloc, World.size_alloc] at this)
  rw [← hW1]
  clear hW1
  obtain ⟨mc, mf, mz⟩ := blk3 M1.out
  go_wp2_with fail
  clear mc mf mz
  go_loopg [17] n (fun gk s17 wr => ∃ (i : Nat) (A C : Option Addr) (ac cc q : Nat), s17 = .int .i64 (i : Nat) ∧ i ≤ n ∧ Hid (gk = n - i) ∧ Hid (q = firstN M i) ∧ q ≤ 1000 + 2001 * i ∧ Hid (wr.heap[w.heap.size + 1 + 1]? = some (.cells #[.slice sa sn sc, .slice ga gn gc, .slice fa n fc, .slice ea en ec, .slice A i ac, .slice C i cc, .int .i64 (q : Nat), .int .i64 (q : Nat)] 95)) ∧ Hid (wr.heap[w.heap.size + 1]? = some (.cells #[.slice none 0 0, .slice none 0 0, .slice none 0 0, .slice none 0 0, .slice none 0 0, .slice none 0 0, .int .i64 0, .int .i64 0] 95)) ∧ Hid (wr.heap[w.heap.size]? = some (.cells #[.slice sa sn sc, .slice ga gn gc, .slice fa n fc, .slice ea en ec] 32)) ∧ Hid (Owns wr (w.heap.size + 3) [⟨3, 1, .slice A i ac, i, ints (firsts M i)⟩, ⟨3, 1, .slice C i cc, i, ints (firsts M i)⟩]) ∧ Hid (Below w.heap.size w wr))
  case atStart => exact ⟨0, none, none, 0, 0, gn, rfl, Nat.zero_le _, rfl, HF0.out.symm, by omega, X1, Y1, M1, ((Owns.nil _ _).none_ 3 1).none_ 3 1, B1⟩
  case round =>
    obtain ⟨i, A, C, ac, cc, q, rfl, hi, HK, HQ, hq, HX, HY, HM1, HO, HB⟩ := hrel
    by_cases hlt : i < n
    · have hltI : (i : Int) < (n : Int) := by omega
      have hi0 : (0 : Int) ≤ (i : Int) := by omega
      obtain ⟨b, off, f, lv, sv, bv, rfl, hf, ⟨k0, k1, k2, k3, k4⟩, hlv, hsv, hbv⟩ := (R3.out.sub (sub_below HB.out)).at hlt
      obtain ⟨la, lc, rfl, hl1⟩ := hlv.shape
      obtain ⟨ia, ic, rfl, hs1⟩ := hsv.shape
      obtain ⟨ba, bl, bc, rfl, _, _⟩ := hbv
      obtain ⟨ln, hln⟩ : ∃ k, k = f.locals.length := ⟨_, rfl⟩
      obtain ⟨inn, hin⟩ : ∃ k, k = f.sites.length := ⟨_, rfl⟩
      rw [← hln] at hl1 k2
      rw [← hin] at hs1 k3
      have HS : Hid (firstN M (i + 1) = q + (ln + 1 + inn)) := Lib.hid (by rw [firstN_succ hf, ← HQ.out, hln, hin]; rfl)
      have HF := Lib.hid hf
      clear hlv hsv hf hln hin
      go_upto_region 5 with (fail)
      obtain ⟨V, hV⟩ : ∃ V, V = wr.alloc (.cells #[.int .i64 f.name, .int .i64 (f.params : Nat), .slice la ln lc, .slice ia inn ic, .slice ba bl bc] 35) := ⟨_, rfl⟩
      have hbV : Below wr.heap.size wr V := by rw [hV]; exact (Below.refl _ _).alloc (Nat.le_refl _) _
      have FV : Hid (V.heap[wr.heap.size]? = some (.cells #[.int .i64 f.name, .int .i64 (f.params : Nat), .slice la ln lc, .slice ia inn ic, .slice ba bl bc] 35)) := Lib.hid (by rw [hV]; exact heap_alloc_new _ _)
      have hXV := blk_below HX.out hbV
      have HYV := Lib.hid (blk_below HY.out hbV)
      have HMV := Lib.hid (blk_below HM1.out hbV)
      have HOV := Lib.hid (HO.out.below hbV)
      have HBW := Lib.hid (HB.out.trans (hbV.mono HB.out.size))
      have ZV : Hid (w.heap.size + 3 ≤ V.heap.size) := Lib.hid (by have := blk_lt hXV; omega)
      have HNE : Hid (w.heap.size + 3 ≤ wr.heap.size) := Lib.hid (by have := blk_lt HX.out; omega)
      have ZW : Hid (wr.heap.size < V.heap.size) := Lib.hid (by rw [hV]; simp)
      rw [← hV]
      clear hV hbV k0 k1 k2 k3 k4
      have NF : Hid (wr.heap.size ∉ rblk [⟨3, 1, .slice A i ac, i, ints (firsts M i)⟩, ⟨3, 1, .slice C i cc, i, ints (firsts M i)⟩]) := Lib.hid (fun hm => by have := (HO.out.rblk_lt hm).2; omega)
      obtain ⟨U0, hU0⟩ : ∃ U0, U0 = V.drew := ⟨_, rfl⟩
      have hXU0 : U0.heap[w.heap.size + 1 + 1]? = some (.cells #[.slice sa sn sc, .slice ga gn gc, .slice (some ⟨b, off, none⟩) n fc, .slice ea en ec, .slice A i ac, .slice C i cc, .int .i64 (q : Nat), .int .i64 (q : Nat)] 95) := by rw [hU0]; exact hXV
      have OU0 : Hid (Owns U0 (w.heap.size + 3) [⟨3, 1, .slice A i ac, i, ints (firsts M i)⟩, ⟨3, 1, .slice C i cc, i, ints (firsts M i)⟩]) := Lib.hid (by rw [hU0]; exact HOV.out.below ⟨rfl, rfl, rfl, Nat.le_refl _, fun _ _ => rfl⟩)
      have SBU0 : Hid (Sub (sans V (rblk [⟨3, 1, .slice A i ac, i, ints (firsts M i)⟩, ⟨3, 1, .slice C i cc, i, ints (firsts M i)⟩])) (sans U0 (rblk [⟨3, 1, .slice A i ac, i, ints (firsts M i)⟩, ⟨3, 1, .slice C i cc, i, ints (firsts M i)⟩]))) := Lib.hid (by rw [hU0]; exact sub_sans_below ⟨rfl, rfl, rfl, Nat.le_refl _, fun _ _ => rfl⟩)
      have BU0 : Hid (Below (w.heap.size + 3) V U0) := Lib.hid (by rw [hU0]; exact ⟨rfl, rfl, rfl, Nat.le_refl _, fun _ _ => rfl⟩)
      have HBV : Hid (w.heap.size + 3 ≤ V.heap.size) := ZV
      refine wp_region_HM (C := (fun w' => w'.heap[w.heap.size + 1 + 1]? = some (.cells #[.slice sa sn sc, .slice ga gn gc, .slice (some ⟨b, off, none⟩) n fc, .slice ea en ec, .slice A i ac, .slice C i cc, .int .i64 (q : Nat), .int .i64 (q : Nat)] 95))) 14 13 (by kernel_rfl) (by kernel_rfl) (by kernel_rfl) (by kernel_rfl) (by decide) ?_
      rw [show V.drew = U0 from hU0.symm]
      clear hU0
      refine Go.HM.take_ (i := 0) (oi := { dst := some 21, op := .fieldAddr 95 (.tmp 3) 1, type := 0, pos := "gen.go:23", after := #[], guard := none }) (v := ?_) rfl (by decide) (by decide) (by kernel_rfl) (by kernel_rfl) (fun _ _ _ h => h) (by first | exact Or.inl (by assumption) | exact Or.inr (by kernel_rfl)) (Or.inl ⟨by rfl, ?_⟩) ?_
      rotate_left
      · intro w hSw
        (try dsimp only at hSw)
        (go_simp; try (with_reducible rfl))
      try simp only [Act.put, List.setIfInBounds_toArray, List.set_cons_zero, List.set_cons_succ]
      refine Go.HM.take_ (i := 2) (oi := { dst := some 23, op := .fieldAddr 95 (.tmp 3) 3, type := 0, pos := "gen.go:23", after := #[], guard := none }) (v := ?_) rfl (by decide) (by decide) (by kernel_rfl) (by kernel_rfl) (fun _ _ _ h => h) (by first | exact Or.inl (by assumption) | exact Or.inr (by kernel_rfl)) (Or.inl ⟨by rfl, ?_⟩) ?_
      rotate_left
      · intro w hSw
        (try dsimp only at hSw)
        (go_simp; try (with_reducible rfl))
      try simp only [Act.put, List.setIfInBounds_toArray, List.set_cons_zero, List.set_cons_succ]
      refine Go.HM.take_ (i := 6) (oi := { dst := some 27, op := .fieldAddr 95 (.tmp 3) 2, type := 0, pos := "gen.go:23", after := #[], guard := none }) (v := ?_) rfl (by decide) (by decide) (by kernel_rfl) (by kernel_rfl) (fun _ _ _ h => h) (by first | exact Or.inl (by assumption) | exact Or.inr (by kernel_rfl)) (Or.inl ⟨by rfl, ?_⟩) ?_
      rotate_left
      · intro w hSw
        (try dsimp only at hSw)
        (go_simp; try (with_reducible rfl))
      try simp only [Act.put, List.setIfInBounds_toArray, List.set_cons_zero, List.set_cons_succ]
      refine Go.HM.take_ (i := 8) (oi := { dst := some 29, op := .fieldAddr 95 (.tmp 3) 4, type := 0, pos := "gen.go:23", after := #[], guard := none }) (v := ?_) rfl (by decide) (by decide) (by kernel_rfl) (by kernel_rfl) (fun _ _ _ h => h) (by first | exact Or.inl (by assumption) | exact Or.inr (by kernel_rfl)) (Or.inl ⟨by rfl, ?_⟩) ?_
      rotate_left
      · intro w hSw
        (try dsimp only at hSw)
        (go_simp; try (with_reducible rfl))
      try simp only [Act.put, List.setIfInBounds_toArray, List.set_cons_zero, List.set_cons_succ]
      refine Go.HM.load_ (i := 1) (oi := { dst := some 22, op := .load 29 (.tmp 21), type := 29, pos := "gen.go:23", after := #[{ on := 0, ground := .data }], guard := none }) (v := ?_) rfl (by decide) (by decide) (by kernel_rfl) (by kernel_rfl) (by kernel_rfl) (fun _ _ _ h => h) (by first | exact Or.inl (by assumption) | exact Or.inr (by kernel_rfl)) (Or.inl ⟨by rfl, ?_⟩) ?_
      rotate_left
      · intro w hSw
        (try dsimp only at hSw)
        have yy := (blk3 hSw).1; (go_simp; try (with_reducible rfl))
      try simp only [Act.put, List.setIfInBounds_toArray, List.set_cons_zero, List.set_cons_succ]
      refine Go.HM.load_ (i := 3) (oi := { dst := some 24, op := .load 3 (.tmp 23), type := 3, pos := "gen.go:23", after := #[{ on := 2, ground := .data }], guard := none }) (v := ?_) rfl (by decide) (by decide) (by kernel_rfl) (by kernel_rfl) (by kernel_rfl) (fun _ _ _ h => h) (by first | exact Or.inl (by assumption) | exact Or.inr (by kernel_rfl)) (Or.inl ⟨by rfl, ?_⟩) ?_
      rotate_left
      · intro w hSw
        (try dsimp only at hSw)
        have yy := (blk3 hSw).1; (go_simp; try (with_reducible rfl))
      try simp only [Act.put, List.setIfInBounds_toArray, List.set_cons_zero, List.set_cons_succ]
      refine Go.HM.load_ (i := 7) (oi := { dst := some 28, op := .load 29 (.tmp 27), type := 29, pos := "gen.go:23", after := #[{ on := 6, ground := .data }], guard := none }) (v := ?_) rfl (by decide) (by decide) (by kernel_rfl) (by kernel_rfl) (by kernel_rfl) (fun _ _ _ h => h) (by first | exact Or.inl (by assumption) | exact Or.inr (by kernel_rfl)) (Or.inl ⟨by rfl, ?_⟩) ?_
      rotate_left
      · intro w hSw
        (try dsimp only at hSw)
        have yy := (blk3 hSw).1; (go_simp; try (with_reducible rfl))
      try simp only [Act.put, List.setIfInBounds_toArray, List.set_cons_zero, List.set_cons_succ]
      refine Go.HM.load_ (i := 9) (oi := { dst := some 30, op := .load 3 (.tmp 29), type := 3, pos := "gen.go:23", after := #[{ on := 8, ground := .data }], guard := none }) (v := ?_) rfl (by decide) (by decide) (by kernel_rfl) (by kernel_rfl) (by kernel_rfl) (fun _ _ _ h => h) (by first | exact Or.inl (by assumption) | exact Or.inr (by kernel_rfl)) (Or.inl ⟨by rfl, ?_⟩) ?_
      rotate_left
      · intro w hSw
        (try dsimp only at hSw)
        have yy := (blk3 hSw).1; (go_simp; try (with_reducible rfl))
      try simp only [Act.put, List.setIfInBounds_toArray, List.set_cons_zero, List.set_cons_succ]
      refine Go.HM.step2_ (i := 4) (j := 10) (o := { dst := some 25, op := .buildSlice 29 1 #[(0, .tmp 24)], type := 29, pos := "gen.go:23", after := #[{ on := 3, ground := .data }], guard := none }) (o2 := { dst := some 31, op := .buildSlice 29 1 #[(0, .tmp 30)], type := 29, pos := "gen.go:23", after := #[{ on := 9, ground := .data }], guard := none }) rfl rfl (by decide) (by decide) (by kernel_rfl) (fun K hK => ?_) (fun K hK => ?_)
      · skip
        go_simp
        obtain ⟨U1, hU1⟩ : ∃ W, W = U0.alloc (.cells #[.int .i64 (q : Nat)] 3) := ⟨_, rfl⟩
        have hbU1 : Below U0.heap.size U0 U1 := by rw [hU1]; exact (Below.refl _ _).alloc (Nat.le_refl _) _
        have hXU1 := blk_below hXU0 hbU1
        have OU1 := Lib.hid (OU0.out.below hbU1)
        have BU1 := Lib.hid (BU0.out.trans (hbU1.mono (by have := BU0.out.size; have := HBV.out; omega)))
        have S4U1 : Hid (U1.cell? ⟨U0.heap.size, 0, none⟩ = some (.int .i64 (q : Nat))) := Lib.hid (by rw [hU1, blk_cell (heap_alloc_new _ _)]; rfl)
        have N4 : Hid (U0.heap.size ∉ rblk [⟨3, 1, .slice A i ac, i, ints (firsts M i)⟩, ⟨3, 1, .slice C i cc, i, ints (firsts M i)⟩]) := Lib.hid (fun hm => by have := (OU0.out.rblk_lt hm).2; omega)
        have SBU1 : Hid (Sub (sans V (rblk [⟨3, 1, .slice A i ac, i, ints (firsts M i)⟩, ⟨3, 1, .slice C i cc, i, ints (firsts M i)⟩])) (sans U1 (rblk [⟨3, 1, .slice A i ac, i, ints (firsts M i)⟩, ⟨3, 1, .slice C i cc, i, ints (firsts M i)⟩]))) := Lib.hid (SBU0.out.trans (sub_sans_below hbU1))
        rw [← hU1]
        clear hU1 hbU1
        refine hK.out _ _ (.inl hXU1) ?_
        clear hK K
        try simp only [Act.put, List.setIfInBounds_toArray, List.set_cons_zero, List.set_cons_succ]
        refine Go.HM.step2_ (i := 5) (j := 10) (o := { dst := some 26, op := .call { callee := .builtin .append, args := #[.tmp 22, .tmp 25], argTypes := #[29, 29] }, type := 29, pos := "gen.go:23", after := #[{ on := 1, ground := .data }, { on := 4, ground := .data }], guard := none }) (o2 := { dst := some 31, op := .buildSlice 29 1 #[(0, .tmp 30)], type := 29, pos := "gen.go:23", after := #[{ on := 9, ground := .data }], guard := none }) rfl rfl (by decide) (by decide) (by kernel_rfl) (fun K hK => ?_) (fun K hK => ?_)
        · skip
          rw [if_pos (by rfl)]
          refine append_at (B := w.heap.size + 3) (W := U1) 0 [⟨3, 1, .slice A i ac, i, ints (firsts M i)⟩, ⟨3, 1, .slice C i cc, i, ints (firsts M i)⟩] _ _ 29 3 (.int .i64 0) 1 8 rfl Try.underlying29 info3 rfl (by decide) (.slice A i ac) i _ rfl OU1.out rfl ⟨U0.heap.size, 0, none⟩ 1 1 [.int .i64 (q : Nat)] rfl rfl (one_news S4U1.out) (one_cell _ rfl) (by have := BU1.out.size; have := HBV.out; omega) (by omega) (by omega) ?_
          intro A1 ac1 U2 hg
          have hXU2 : U2.heap[w.heap.size + 1 + 1]? = some (.cells #[.slice sa sn sc, .slice ga gn gc, .slice (some ⟨b, off, none⟩) n fc, .slice ea en ec, .slice A i ac, .slice C i cc, .int .i64 (q : Nat), .int .i64 (q : Nat)] 95) := (hg.below.block _ (by omega)).trans hXU1
          have OU2 : Hid (Owns U2 (w.heap.size + 3) [⟨3, 1, .slice A1 (i + 1) ac1, i + 1, ints (firsts M i) ++ [Value.int IntKind.i64 (q : Nat)]⟩, ⟨3, 1, .slice C i cc, i, ints (firsts M i)⟩]) := Lib.hid hg.owns
          have BU2 : Hid (Below (w.heap.size + 3) V U2) := Lib.hid (BU1.out.trans hg.below)
          have SBU2 : Hid (Sub (sans V (rblk [⟨3, 1, .slice A i ac, i, ints (firsts M i)⟩, ⟨3, 1, .slice C i cc, i, ints (firsts M i)⟩])) (sans U2 (rblk [⟨3, 1, .slice A1 (i + 1) ac1, i + 1, ints (firsts M i) ++ [Value.int IntKind.i64 (q : Nat)]⟩, ⟨3, 1, .slice C i cc, i, ints (firsts M i)⟩]))) := Lib.hid (SBU1.out.trans (by have h0 := hg.sub []; rw [List.append_nil, List.append_nil] at h0; exact h0))
          clear hg
          refine hK.out _ _ (.inl hXU2) ?_
          clear hK K
          try simp only [Act.put, List.setIfInBounds_toArray, List.set_cons_zero, List.set_cons_succ]
          refine Go.HM.take_ (i := 12) (oi := { dst := some 33, op := .fieldAddr 95 (.tmp 3) 1, type := 0, pos := "gen.go:23", after := #[{ on := 0, ground := .phase }, { on := 1, ground := .phase }, { on := 2, ground := .phase }, { on := 3, ground := .phase }, { on := 4, ground := .phase }, { on := 5, ground := .phase }, { on := 6, ground := .phase }, { on := 7, ground := .phase }, { on := 8, ground := .phase }, { on := 9, ground := .phase }, { on := 10, ground := .textOnly .lateStoresUnsure }, { on := 11, ground := .textOnly .lateStoresUnsure }], guard := none }) (v := ?_) rfl (by decide) (by decide) (by kernel_rfl) (by kernel_rfl) (fun _ _ _ h => h) (by first | exact Or.inl (by assumption) | exact Or.inr (by kernel_rfl)) (Or.inl ⟨by rfl, ?_⟩) ?_
          rotate_left
          · intro w hSw
            (try dsimp only at hSw)
            (go_simp; try (with_reducible rfl))
          try simp only [Act.put, List.setIfInBounds_toArray, List.set_cons_zero, List.set_cons_succ]
          refine Go.HM.step_ (i := 10) (o := { dst := some 31, op := .buildSlice 29 1 #[(0, .tmp 30)], type := 29, pos := "gen.go:23", after := #[{ on := 9, ground := .data }], guard := none }) rfl (by decide) (by kernel_rfl) (fun K hK => ?_)
          go_simp
          obtain ⟨U3, hU3⟩ : ∃ W, W = U2.alloc (.cells #[.int .i64 (q : Nat)] 3) := ⟨_, rfl⟩
          have hbU3 : Below U2.heap.size U2 U3 := by rw [hU3]; exact (Below.refl _ _).alloc (Nat.le_refl _) _
          have hXU3 := blk_below hXU2 hbU3
          have OU3 := Lib.hid (OU2.out.below hbU3)
          have BU3 := Lib.hid (BU2.out.trans (hbU3.mono (by have := BU2.out.size; have := HBV.out; omega)))
          have S10U3 : Hid (U3.cell? ⟨U2.heap.size, 0, none⟩ = some (.int .i64 (q : Nat))) := Lib.hid (by rw [hU3, blk_cell (heap_alloc_new _ _)]; rfl)
          have SBU3 : Hid (Sub (sans V (rblk [⟨3, 1, .slice A i ac, i, ints (firsts M i)⟩, ⟨3, 1, .slice C i cc, i, ints (firsts M i)⟩])) (sans U3 (rblk [⟨3, 1, .slice A1 (i + 1) ac1, i + 1, ints (firsts M i) ++ [Value.int IntKind.i64 (q : Nat)]⟩, ⟨3, 1, .slice C i cc, i, ints (firsts M i)⟩]))) := Lib.hid (SBU2.out.trans (sub_sans_below hbU3))
          rw [← hU3]
          clear hU3 hbU3
          refine hK.out _ _ (.inl hXU3) ?_
          clear hK K
          try simp only [Act.put, List.setIfInBounds_toArray, List.set_cons_zero, List.set_cons_succ]
          refine Go.HM.step_ (i := 11) (o := { dst := some 32, op := .call { callee := .builtin .append, args := #[.tmp 28, .tmp 31], argTypes := #[29, 29] }, type := 29, pos := "gen.go:23", after := #[{ on := 7, ground := .data }, { on := 10, ground := .data }, { on := 5, ground := .chain }], guard := none }) rfl (by decide) (by kernel_rfl) (fun K hK => ?_)
          rw [if_pos (by rfl)]
          refine append_at (B := w.heap.size + 3) (W := U3) 1 [⟨3, 1, .slice A1 (i + 1) ac1, i + 1, ints (firsts M i) ++ [Value.int IntKind.i64 (q : Nat)]⟩, ⟨3, 1, .slice C i cc, i, ints (firsts M i)⟩] _ _ 29 3 (.int .i64 0) 1 8 rfl Try.underlying29 info3 rfl (by decide) (.slice C i cc) i _ rfl OU3.out rfl ⟨U2.heap.size, 0, none⟩ 1 1 [.int .i64 (q : Nat)] rfl rfl (one_news S10U3.out) (one_cell _ rfl) (by have := BU3.out.size; have := HBV.out; omega) (by omega) (by omega) ?_
          intro C1 cc1 U4 hg
          have hXU4 : U4.heap[w.heap.size + 1 + 1]? = some (.cells #[.slice sa sn sc, .slice ga gn gc, .slice (some ⟨b, off, none⟩) n fc, .slice ea en ec, .slice A i ac, .slice C i cc, .int .i64 (q : Nat), .int .i64 (q : Nat)] 95) := (hg.below.block _ (by omega)).trans hXU3
          have OU4 : Hid (Owns U4 (w.heap.size + 3) [⟨3, 1, .slice A1 (i + 1) ac1, i + 1, ints (firsts M i) ++ [Value.int IntKind.i64 (q : Nat)]⟩, ⟨3, 1, .slice C1 (i + 1) cc1, i + 1, ints (firsts M i) ++ [Value.int IntKind.i64 (q : Nat)]⟩]) := Lib.hid hg.owns
          have BU4 : Hid (Below (w.heap.size + 3) V U4) := Lib.hid (BU3.out.trans hg.below)
          have SBU4 : Hid (Sub (sans V (rblk [⟨3, 1, .slice A i ac, i, ints (firsts M i)⟩, ⟨3, 1, .slice C i cc, i, ints (firsts M i)⟩])) (sans U4 (rblk [⟨3, 1, .slice A1 (i + 1) ac1, i + 1, ints (firsts M i) ++ [Value.int IntKind.i64 (q : Nat)]⟩, ⟨3, 1, .slice C1 (i + 1) cc1, i + 1, ints (firsts M i) ++ [Value.int IntKind.i64 (q : Nat)]⟩]))) := Lib.hid (SBU3.out.trans (by have h0 := hg.sub []; rw [List.append_nil, List.append_nil] at h0; exact h0))
          clear hg
          refine hK.out _ _ (.inl hXU4) ?_
          clear hK K
          try simp only [Act.put, List.setIfInBounds_toArray, List.set_cons_zero, List.set_cons_succ]
          have F2 := sans_sub _ _ _ _ (SBU4.out _ _ (Sub.sans ((blk3 FV.out).1 2) NF.out))
          have F3 := sans_sub _ _ _ _ (SBU4.out _ _ (Sub.sans ((blk3 FV.out).1 3) NF.out))
          have HF2 : Hid (U4.cell? ⟨wr.heap.size, 2, none⟩ = some (.slice la ln lc)) := Lib.hid F2
          have HF3 : Hid (U4.cell? ⟨wr.heap.size, 3, none⟩ = some (.slice ia inn ic)) := Lib.hid F3
          have HOU := OU4
          have HBU : Hid (Below (w.heap.size + 3) V U4) := BU4
          clear F2 F3 SBU4 OU4 BU4
          obtain ⟨cb, fb, zb⟩ := blk3 hXU4
          refine Go.HM.step_ (i := 13) (o := { dst := none, op := .store 29 (.tmp 33) (.tmp 26), type := 0, pos := "gen.go:23", after := #[{ on := 12, ground := .data }, { on := 5, ground := .data }, { on := 11, ground := .chain }, { on := 0, ground := .phase }, { on := 1, ground := .phase }, { on := 2, ground := .phase }, { on := 3, ground := .phase }, { on := 4, ground := .phase }, { on := 5, ground := .phase }, { on := 6, ground := .phase }, { on := 7, ground := .phase }, { on := 8, ground := .phase }, { on := 9, ground := .phase }, { on := 10, ground := .textOnly .lateStoresUnsure }, { on := 11, ground := .textOnly .lateStoresUnsure }], guard := none }) rfl (by decide) (by kernel_rfl) (fun K hK => ?_)
          go_simp
          refine hK.out _ _ (.inr (by kernel_rfl)) ?_
          clear hK K
          try simp only [Act.put, List.setIfInBounds_toArray, List.set_cons_zero, List.set_cons_succ]
          have X5 := blk_set hXU4 4 (.slice A1 (i + 1) ac1)
          obtain ⟨Y1, hY1⟩ : ∃ W, W = U4.setCell ⟨w.heap.size + 1 + 1, 4, none⟩ (.slice A1 (i + 1) ac1) := ⟨_, rfl⟩
          rw [← hY1] at X5 ⊢
          have HY1 := Lib.hid hY1
          clear cb fb zb hY1
          obtain ⟨cb, fb, zb⟩ := blk3 X5
          refine Go.HM.done_ (by kernel_rfl) ?_
          simp only [List.drop_succ_cons, List.drop_zero]
          have X6 := blk_set X5 5 (.slice C1 (i + 1) cc1)
          go_upto_region 6 with (fail)
          obtain ⟨Y2, hY2⟩ : ∃ W, W = Y1.setCell ⟨w.heap.size + 1 + 1, 5, none⟩ (.slice C1 (i + 1) cc1) := ⟨_, rfl⟩
          rw [← hY2] at X6 ⊢
          have gr2 : U4.grownBy Y2 (some (w.heap.size + 1 + 1)) := by
            rw [hY2, HY1.out]
            exact ngrown_set (ngrown_set (ngrown_refl _ _) 4 _) 5 _
          have HG2 := Lib.hid gr2
          clear cb fb zb hY2 HY1 X5 hXU4
          have X6' : Hid (Y2.heap[w.heap.size + 1 + 1]? = some (.cells #[Value.slice sa sn sc, Value.slice ga gn gc, Value.slice (some ⟨b, off, none⟩) n fc, Value.slice ea en ec, .slice A1 (i + 1) ac1, .slice C1 (i + 1) cc1, .int .i64 (q : Nat), .int .i64 (q : Nat)] 95)) := Lib.hid X6
          have f2 : Y2.cell? ⟨wr.heap.size, 2, none⟩ = some (.slice la ln lc) := (World.cell?_of_block (HG2.out.block wr.heap.size (World.block_lt_of_cell? _ _ HF2.out) (fun e => by injection e with e; have := HNE.out; omega))).trans HF2.out
          have f3 : Y2.cell? ⟨wr.heap.size, 3, none⟩ = some (.slice ia inn ic) := (World.cell?_of_block (HG2.out.block wr.heap.size (World.block_lt_of_cell? _ _ HF3.out) (fun e => by injection e with e; have := HNE.out; omega))).trans HF3.out
          clear X6
          obtain ⟨cb, fb, zb⟩ := blk3 X6'.out
          go_upto_region 7 with (fail)
          obtain ⟨q', hq'⟩ : ∃ k, k = q + (ln + 1 + inn) := ⟨_, rfl⟩
          have hqe : (q : Int) + ((ln : Int) + 1 + (inn : Int)) = (q' : Int) := by omega
          have HQ' := Lib.hid hq'
          rw [hqe]
          clear hqe hq' cb fb zb f2 f3
          have X7 := blk_set X6'.out 6 (.int .i64 (q' : Nat))
          obtain ⟨Y3, hY3⟩ : ∃ W, W = Y2.setCell ⟨w.heap.size + 1 + 1, 6, none⟩ (.int .i64 (q' : Nat)) := ⟨_, rfl⟩
          rw [← hY3] at X7 ⊢
          have HG3 : Hid (U4.grownBy Y3 (some (w.heap.size + 1 + 1))) := Lib.hid (by rw [hY3]; exact ngrown_set HG2.out 6 _)
          clear hY3 HG2
          have X7' : Hid (Y3.heap[w.heap.size + 1 + 1]? = some (.cells #[Value.slice sa sn sc, Value.slice ga gn gc, Value.slice (some ⟨b, off, none⟩) n fc, Value.slice ea en ec, .slice A1 (i + 1) ac1, .slice C1 (i + 1) cc1, .int .i64 (q' : Nat), .int .i64 (q : Nat)] 95)) := Lib.hid X7
          clear X7
          obtain ⟨cb, fb, zb⟩ := blk3 X7'.out
          have f2 : Y3.cell? ⟨wr.heap.size, 2, none⟩ = some (.slice la ln lc) := (World.cell?_of_block (HG3.out.block wr.heap.size (World.block_lt_of_cell? _ _ HF2.out) (fun e => by injection e with e; have := HNE.out; omega))).trans HF2.out
          have f3 : Y3.cell? ⟨wr.heap.size, 3, none⟩ = some (.slice ia inn ic) := (World.cell?_of_block (HG3.out.block wr.heap.size (World.block_lt_of_cell? _ _ HF3.out) (fun e => by injection e with e; have := HNE.out; omega))).trans HF3.out
          clear HF2 HF3
          go_wp2_with fail
          have hqe : (q : Int) + (1 + (ln : Int) + (inn : Int)) = (q' : Int) := by have := HQ'.out; omega
          rw [hqe]
          clear hqe
          have X8 := blk_set X7'.out 7 (.int .i64 (q' : Nat))
          obtain ⟨Y4, hY4⟩ : ∃ W, W = Y3.setCell ⟨w.heap.size + 1 + 1, 7, none⟩ (.int .i64 (q' : Nat)) := ⟨_, rfl⟩
          rw [← hY4] at X8 ⊢
          have HG4 : Hid (U4.grownBy Y4 (some (w.heap.size + 1 + 1))) := Lib.hid (by rw [hY4]; exact ngrown_set HG3.out 7 _)
          clear hY4 HG3
          have X8' : Hid (Y4.heap[w.heap.size + 1 + 1]? = some (.cells #[Value.slice sa sn sc, Value.slice ga gn gc, Value.slice (some ⟨b, off, none⟩) n fc, Value.slice ea en ec, .slice A1 (i + 1) ac1, .slice C1 (i + 1) cc1, .int .i64 (q' : Nat), .int .i64 (q' : Nat)] 95)) := Lib.hid X8
          clear X8 cb fb zb f2 f3 X6' X7'
          have hz8 : w.heap.size + 3 ≤ U4.heap.size := by have := HBU.out.size; have := HBV.out; omega
          have HY8 : Hid (Y4.heap[w.heap.size + 1]? = some (.cells #[.slice none 0 0, .slice none 0 0, .slice none 0 0, .slice none 0 0, .slice none 0 0, .slice none 0 0, .int .i64 0, .int .i64 0] 95)) := Lib.hid ((HG4.out.block _ (by omega) (fun e => by injection e with e; omega)).trans ((HBU.out.block _ (by omega)).trans HYV.out))
          have HM8 : Hid (Y4.heap[w.heap.size]? = some (.cells #[.slice sa sn sc, .slice ga gn gc, .slice (some ⟨b, off, none⟩) n fc, .slice ea en ec] 32)) := Lib.hid ((HG4.out.block _ (by omega) (fun e => by injection e with e; omega)).trans ((HBU.out.block _ (by omega)).trans HMV.out))
          have HO8 : Hid (Owns Y4 (w.heap.size + 3) [⟨3, 1, .slice A1 (i + 1) ac1, i + 1, ints (firsts M (i + 1))⟩, ⟨3, 1, .slice C1 (i + 1) cc1, i + 1, ints (firsts M (i + 1))⟩]) := Lib.hid (owns_grown HOU.out HG4.out (by omega) (by rw [firsts_succ, ← HQ.out, ints_append]; rfl) (by rw [firsts_succ, ← HQ.out, ints_append]; rfl))
          have HB8 : Hid (Below w.heap.size w Y4) := Lib.hid (by
            have h1 : Below w.heap.size w U4 := HBW.out.trans (HBU.out.mono (by omega))
            exact ⟨HG4.out.os.trans h1.os, HG4.out.tape.trans h1.tape, HG4.out.output.trans h1.output, Nat.le_trans h1.size HG4.out.size, fun k hk => (HG4.out.block k (by have := h1.size; omega) (fun e => by injection e with e; omega)).trans (h1.block k hk)⟩)
          go_roundg (n - (i + 1))
          case measure => have := HK.out; omega
          case rel => exact ⟨i + 1, A1, C1, ac1, cc1, q', by go_num, by omega, rfl, Lib.hid (HQ'.out.trans HS.out.symm), (by have h1 := HFN.out (i + 1) (by omega); rw [HS.out, ← HQ'.out] at h1; exact h1), X8', HY8, HM8, HO8, HB8⟩
        · skip
          go_simp
          obtain ⟨U5, hU5⟩ : ∃ W, W = U1.alloc (.cells #[.int .i64 (q : Nat)] 3) := ⟨_, rfl⟩
          have hbU5 : Below U1.heap.size U1 U5 := by rw [hU5]; exact (Below.refl _ _).alloc (Nat.le_refl _) _
          have hXU5 := blk_below hXU1 hbU5
          have OU5 := Lib.hid (OU1.out.below hbU5)
          have BU5 := Lib.hid (BU1.out.trans (hbU5.mono (by have := BU1.out.size; have := HBV.out; omega)))
          have S10U5 : Hid (U5.cell? ⟨U1.heap.size, 0, none⟩ = some (.int .i64 (q : Nat))) := Lib.hid (by rw [hU5, blk_cell (heap_alloc_new _ _)]; rfl)
          have N10 : Hid (U1.heap.size ∉ rblk [⟨3, 1, .slice A i ac, i, ints (firsts M i)⟩, ⟨3, 1, .slice C i cc, i, ints (firsts M i)⟩]) := Lib.hid (fun hm => by have := (OU1.out.rblk_lt hm).2; omega)
          have S4U5 : Hid (U5.cell? ⟨U0.heap.size, 0, none⟩ = some (.int .i64 (q : Nat))) := Lib.hid ((hbU5.cell (p := ⟨U0.heap.size, 0, none⟩) (World.block_lt_of_cell? _ _ S4U1.out)).trans S4U1.out)
          have SBU5 : Hid (Sub (sans V (rblk [⟨3, 1, .slice A i ac, i, ints (firsts M i)⟩, ⟨3, 1, .slice C i cc, i, ints (firsts M i)⟩])) (sans U5 (rblk [⟨3, 1, .slice A i ac, i, ints (firsts M i)⟩, ⟨3, 1, .slice C i cc, i, ints (firsts M i)⟩]))) := Lib.hid (SBU1.out.trans (sub_sans_below hbU5))
          rw [← hU5]
          clear hU5 hbU5
          refine hK.out _ _ (.inl hXU5) ?_
          clear hK K
          try simp only [Act.put, List.setIfInBounds_toArray, List.set_cons_zero, List.set_cons_succ]
          refine Go.HM.step_ (i := 5) (o := { dst := some 26, op := .call { callee := .builtin .append, args := #[.tmp 22, .tmp 25], argTypes := #[29, 29] }, type := 29, pos := "gen.go:23", after := #[{ on := 1, ground := .data }, { on := 4, ground := .data }], guard := none }) rfl (by decide) (by kernel_rfl) (fun K hK => ?_)
          rw [if_pos (by rfl)]
          refine append_at (B := w.heap.size + 3) (W := U5) 0 [⟨3, 1, .slice A i ac, i, ints (firsts M i)⟩, ⟨3, 1, .slice C i cc, i, ints (firsts M i)⟩] _ _ 29 3 (.int .i64 0) 1 8 rfl Try.underlying29 info3 rfl (by decide) (.slice A i ac) i _ rfl OU5.out rfl ⟨U0.heap.size, 0, none⟩ 1 1 [.int .i64 (q : Nat)] rfl rfl (one_news S4U5.out) (one_cell _ rfl) (by have := BU5.out.size; have := HBV.out; omega) (by omega) (by omega) ?_
          intro A1 ac1 U6 hg
          have hXU6 : U6.heap[w.heap.size + 1 + 1]? = some (.cells #[.slice sa sn sc, .slice ga gn gc, .slice (some ⟨b, off, none⟩) n fc, .slice ea en ec, .slice A i ac, .slice C i cc, .int .i64 (q : Nat), .int .i64 (q : Nat)] 95) := (hg.below.block _ (by omega)).trans hXU5
          have OU6 : Hid (Owns U6 (w.heap.size + 3) [⟨3, 1, .slice A1 (i + 1) ac1, i + 1, ints (firsts M i) ++ [Value.int IntKind.i64 (q : Nat)]⟩, ⟨3, 1, .slice C i cc, i, ints (firsts M i)⟩]) := Lib.hid hg.owns
          have BU6 : Hid (Below (w.heap.size + 3) V U6) := Lib.hid (BU5.out.trans hg.below)
          have S10U6 : Hid (U6.cell? ⟨U1.heap.size, 0, none⟩ = some (.int .i64 (q : Nat))) := Lib.hid (sans_sub _ _ _ _ (hg.sub [] _ _ (Sub.sans S10U5.out (by rw [List.append_nil]; exact N10.out))))
          have SBU6 : Hid (Sub (sans V (rblk [⟨3, 1, .slice A i ac, i, ints (firsts M i)⟩, ⟨3, 1, .slice C i cc, i, ints (firsts M i)⟩])) (sans U6 (rblk [⟨3, 1, .slice A1 (i + 1) ac1, i + 1, ints (firsts M i) ++ [Value.int IntKind.i64 (q : Nat)]⟩, ⟨3, 1, .slice C i cc, i, ints (firsts M i)⟩]))) := Lib.hid (SBU5.out.trans (by have h0 := hg.sub []; rw [List.append_nil, List.append_nil] at h0; exact h0))
          clear hg
          refine hK.out _ _ (.inl hXU6) ?_
          clear hK K
          try simp only [Act.put, List.setIfInBounds_toArray, List.set_cons_zero, List.set_cons_succ]
          refine Go.HM.take_ (i := 12) (oi := { dst := some 33, op := .fieldAddr 95 (.tmp 3) 1, type := 0, pos := "gen.go:23", after := #[{ on := 0, ground := .phase }, { on := 1, ground := .phase }, { on := 2, ground := .phase }, { on := 3, ground := .phase }, { on := 4, ground := .phase }, { on := 5, ground := .phase }, { on := 6, ground := .phase }, { on := 7, ground := .phase }, { on := 8, ground := .phase }, { on := 9, ground := .phase }, { on := 10, ground := .textOnly .lateStoresUnsure }, { on := 11, ground := .textOnly .lateStoresUnsure }], guard := none }) (v := ?_) rfl (by decide) (by decide) (by kernel_rfl) (by kernel_rfl) (fun _ _ _ h => h) (by first | exact Or.inl (by assumption) | exact Or.inr (by kernel_rfl)) (Or.inl ⟨by rfl, ?_⟩) ?_
          rotate_left
          · intro w hSw
            (try dsimp only at hSw)
            (go_simp; try (with_reducible rfl))
          try simp only [Act.put, List.setIfInBounds_toArray, List.set_cons_zero, List.set_cons_succ]
          refine Go.HM.step_ (i := 11) (o := { dst := some 32, op := .call { callee := .builtin .append, args := #[.tmp 28, .tmp 31], argTypes := #[29, 29] }, type := 29, pos := "gen.go:23", after := #[{ on := 7, ground := .data }, { on := 10, ground := .data }, { on := 5, ground := .chain }], guard := none }) rfl (by decide) (by kernel_rfl) (fun K hK => ?_)
          rw [if_pos (by rfl)]
          refine append_at (B := w.heap.size + 3) (W := U6) 1 [⟨3, 1, .slice A1 (i + 1) ac1, i + 1, ints (firsts M i) ++ [Value.int IntKind.i64 (q : Nat)]⟩, ⟨3, 1, .slice C i cc, i, ints (firsts M i)⟩] _ _ 29 3 (.int .i64 0) 1 8 rfl Try.underlying29 info3 rfl (by decide) (.slice C i cc) i _ rfl OU6.out rfl ⟨U1.heap.size, 0, none⟩ 1 1 [.int .i64 (q : Nat)] rfl rfl (one_news S10U6.out) (one_cell _ rfl) (by have := BU6.out.size; have := HBV.out; omega) (by omega) (by omega) ?_
          intro C1 cc1 U7 hg
          have hXU7 : U7.heap[w.heap.size + 1 + 1]? = some (.cells #[.slice sa sn sc, .slice ga gn gc, .slice (some ⟨b, off, none⟩) n fc, .slice ea en ec, .slice A i ac, .slice C i cc, .int .i64 (q : Nat), .int .i64 (q : Nat)] 95) := (hg.below.block _ (by omega)).trans hXU6
          have OU7 : Hid (Owns U7 (w.heap.size + 3) [⟨3, 1, .slice A1 (i + 1) ac1, i + 1, ints (firsts M i) ++ [Value.int IntKind.i64 (q : Nat)]⟩, ⟨3, 1, .slice C1 (i + 1) cc1, i + 1, ints (firsts M i) ++ [Value.int IntKind.i64 (q : Nat)]⟩]) := Lib.hid hg.owns
          have BU7 : Hid (Below (w.heap.size + 3) V U7) := Lib.hid (BU6.out.trans hg.below)
          have SBU7 : Hid (Sub (sans V (rblk [⟨3, 1, .slice A i ac, i, ints (firsts M i)⟩, ⟨3, 1, .slice C i cc, i, ints (firsts M i)⟩])) (sans U7 (rblk [⟨3, 1, .slice A1 (i + 1) ac1, i + 1, ints (firsts M i) ++ [Value.int IntKind.i64 (q : Nat)]⟩, ⟨3, 1, .slice C1 (i + 1) cc1, i + 1, ints (firsts M i) ++ [Value.int IntKind.i64 (q : Nat)]⟩]))) := Lib.hid (SBU6.out.trans (by have h0 := hg.sub []; rw [List.append_nil, List.append_nil] at h0; exact h0))
          clear hg
          refine hK.out _ _ (.inl hXU7) ?_
          clear hK K
          try simp only [Act.put, List.setIfInBounds_toArray, List.set_cons_zero, List.set_cons_succ]
          have F2 := sans_sub _ _ _ _ (SBU7.out _ _ (Sub.sans ((blk3 FV.out).1 2) NF.out))
          have F3 := sans_sub _ _ _ _ (SBU7.out _ _ (Sub.sans ((blk3 FV.out).1 3) NF.out))
          have HF2 : Hid (U7.cell? ⟨wr.heap.size, 2, none⟩ = some (.slice la ln lc)) := Lib.hid F2
          have HF3 : Hid (U7.cell? ⟨wr.heap.size, 3, none⟩ = some (.slice ia inn ic)) := Lib.hid F3
          have HOU := OU7
          have HBU : Hid (Below (w.heap.size + 3) V U7) := BU7
          clear F2 F3 SBU7 OU7 BU7
          obtain ⟨cb, fb, zb⟩ := blk3 hXU7
          refine Go.HM.step_ (i := 13) (o := { dst := none, op := .store 29 (.tmp 33) (.tmp 26), type := 0, pos := "gen.go:23", after := #[{ on := 12, ground := .data }, { on := 5, ground := .data }, { on := 11, ground := .chain }, { on := 0, ground := .phase }, { on := 1, ground := .phase }, { on := 2, ground := .phase }, { on := 3, ground := .phase }, { on := 4, ground := .phase }, { on := 5, ground := .phase }, { on := 6, ground := .phase }, { on := 7, ground := .phase }, { on := 8, ground := .phase }, { on := 9, ground := .phase }, { on := 10, ground := .textOnly .lateStoresUnsure }, { on := 11, ground := .textOnly .lateStoresUnsure }], guard := none }) rfl (by decide) (by kernel_rfl) (fun K hK => ?_)
          go_simp
          refine hK.out _ _ (.inr (by kernel_rfl)) ?_
          clear hK K
          try simp only [Act.put, List.setIfInBounds_toArray, List.set_cons_zero, List.set_cons_succ]
          have X5 := blk_set hXU7 4 (.slice A1 (i + 1) ac1)
          obtain ⟨Y1, hY1⟩ : ∃ W, W = U7.setCell ⟨w.heap.size + 1 + 1, 4, none⟩ (.slice A1 (i + 1) ac1) := ⟨_, rfl⟩
          rw [← hY1] at X5 ⊢
          have HY1 := Lib.hid hY1
          clear cb fb zb hY1
          obtain ⟨cb, fb, zb⟩ := blk3 X5
          refine Go.HM.done_ (by kernel_rfl) ?_
          simp only [List.drop_succ_cons, List.drop_zero]
          have X6 := blk_set X5 5 (.slice C1 (i + 1) cc1)
          go_upto_region 6 with (fail)
          obtain ⟨Y2, hY2⟩ : ∃ W, W = Y1.setCell ⟨w.heap.size + 1 + 1, 5, none⟩ (.slice C1 (i + 1) cc1) := ⟨_, rfl⟩
          rw [← hY2] at X6 ⊢
          have gr2 : U7.grownBy Y2 (some (w.heap.size + 1 + 1)) := by
            rw [hY2, HY1.out]
            exact ngrown_set (ngrown_set (ngrown_refl _ _) 4 _) 5 _
          have HG2 := Lib.hid gr2
          clear cb fb zb hY2 HY1 X5 hXU7
          have X6' : Hid (Y2.heap[w.heap.size + 1 + 1]? = some (.cells #[Value.slice sa sn sc, Value.slice ga gn gc, Value.slice (some ⟨b, off, none⟩) n fc, Value.slice ea en ec, .slice A1 (i + 1) ac1, .slice C1 (i + 1) cc1, .int .i64 (q : Nat), .int .i64 (q : Nat)] 95)) := Lib.hid X6
          have f2 : Y2.cell? ⟨wr.heap.size, 2, none⟩ = some (.slice la ln lc) := (World.cell?_of_block (HG2.out.block wr.heap.size (World.block_lt_of_cell? _ _ HF2.out) (fun e => by injection e with e; have := HNE.out; omega))).trans HF2.out
          have f3 : Y2.cell? ⟨wr.heap.size, 3, none⟩ = some (.slice ia inn ic) := (World.cell?_of_block (HG2.out.block wr.heap.size (World.block_lt_of_cell? _ _ HF3.out) (fun e => by injection e with e; have := HNE.out; omega))).trans HF3.out
          clear X6
          obtain ⟨cb, fb, zb⟩ := blk3 X6'.out
          go_upto_region 7 with (fail)
          obtain ⟨q', hq'⟩ : ∃ k, k = q + (ln + 1 + inn) := ⟨_, rfl⟩
          have hqe : (q : Int) + ((ln : Int) + 1 + (inn : Int)) = (q' : Int) := by omega
          have HQ' := Lib.hid hq'
          rw [hqe]
          clear hqe hq' cb fb zb f2 f3
          have X7 := blk_set X6'.out 6 (.int .i64 (q' : Nat))
          obtain ⟨Y3, hY3⟩ : ∃ W, W = Y2.setCell ⟨w.heap.size + 1 + 1, 6, none⟩ (.int .i64 (q' : Nat)) := ⟨_, rfl⟩
          rw [← hY3] at X7 ⊢
          have HG3 : Hid (U7.grownBy Y3 (some (w.heap.size + 1 + 1))) := Lib.hid (by rw [hY3]; exact ngrown_set HG2.out 6 _)
          clear hY3 HG2
          have X7' : Hid (Y3.heap[w.heap.size + 1 + 1]? = some (.cells #[Value.slice sa sn sc, Value.slice ga gn gc, Value.slice (some ⟨b, off, none⟩) n fc, Value.slice ea en ec, .slice A1 (i + 1) ac1, .slice C1 (i + 1) cc1, .int .i64 (q' : Nat), .int .i64 (q : Nat)] 95)) := Lib.hid X7
          clear X7
          obtain ⟨cb, fb, zb⟩ := blk3 X7'.out
          have f2 : Y3.cell? ⟨wr.heap.size, 2, none⟩ = some (.slice la ln lc) := (World.cell?_of_block (HG3.out.block wr.heap.size (World.block_lt_of_cell? _ _ HF2.out) (fun e => by injection e with e; have := HNE.out; omega))).trans HF2.out
          have f3 : Y3.cell? ⟨wr.heap.size, 3, none⟩ = some (.slice ia inn ic) := (World.cell?_of_block (HG3.out.block wr.heap.size (World.block_lt_of_cell? _ _ HF3.out) (fun e => by injection e with e; have := HNE.out; omega))).trans HF3.out
          clear HF2 HF3
          go_wp2_with fail
          have hqe : (q : Int) + (1 + (ln : Int) + (inn : Int)) = (q' : Int) := by have := HQ'.out; omega
          rw [hqe]
          clear hqe
          have X8 := blk_set X7'.out 7 (.int .i64 (q' : Nat))
          obtain ⟨Y4, hY4⟩ : ∃ W, W = Y3.setCell ⟨w.heap.size + 1 + 1, 7, none⟩ (.int .i64 (q' : Nat)) := ⟨_, rfl⟩
          rw [← hY4] at X8 ⊢
          have HG4 : Hid (U7.grownBy Y4 (some (w.heap.size + 1 + 1))) := Lib.hid (by rw [hY4]; exact ngrown_set HG3.out 7 _)
          clear hY4 HG3
          have X8' : Hid (Y4.heap[w.heap.size + 1 + 1]? = some (.cells #[Value.slice sa sn sc, Value.slice ga gn gc, Value.slice (some ⟨b, off, none⟩) n fc, Value.slice ea en ec, .slice A1 (i + 1) ac1, .slice C1 (i + 1) cc1, .int .i64 (q' : Nat), .int .i64 (q' : Nat)] 95)) := Lib.hid X8
          clear X8 cb fb zb f2 f3 X6' X7'
          have hz8 : w.heap.size + 3 ≤ U7.heap.size := by have := HBU.out.size; have := HBV.out; omega
          have HY8 : Hid (Y4.heap[w.heap.size + 1]? = some (.cells #[.slice none 0 0, .slice none 0 0, .slice none 0 0, .slice none 0 0, .slice none 0 0, .slice none 0 0, .int .i64 0, .int .i64 0] 95)) := Lib.hid ((HG4.out.block _ (by omega) (fun e => by injection e with e; omega)).trans ((HBU.out.block _ (by omega)).trans HYV.out))
          have HM8 : Hid (Y4.heap[w.heap.size]? = some (.cells #[.slice sa sn sc, .slice ga gn gc, .slice (some ⟨b, off, none⟩) n fc, .slice ea en ec] 32)) := Lib.hid ((HG4.out.block _ (by omega) (fun e => by injection e with e; omega)).trans ((HBU.out.block _ (by omega)).trans HMV.out))
          have HO8 : Hid (Owns Y4 (w.heap.size + 3) [⟨3, 1, .slice A1 (i + 1) ac1, i + 1, ints (firsts M (i + 1))⟩, ⟨3, 1, .slice C1 (i + 1) cc1, i + 1, ints (firsts M (i + 1))⟩]) := Lib.hid (owns_grown HOU.out HG4.out (by omega) (by rw [firsts_succ, ← HQ.out, ints_append]; rfl) (by rw [firsts_succ, ← HQ.out, ints_append]; rfl))
          have HB8 : Hid (Below w.heap.size w Y4) := Lib.hid (by
            have h1 : Below w.heap.size w U7 := HBW.out.trans (HBU.out.mono (by omega))
            exact ⟨HG4.out.os.trans h1.os, HG4.out.tape.trans h1.tape, HG4.out.output.trans h1.output, Nat.le_trans h1.size HG4.out.size, fun k hk => (HG4.out.block k (by have := h1.size; omega) (fun e => by injection e with e; omega)).trans (h1.block k hk)⟩)
          go_roundg (n - (i + 1))
          case measure => have := HK.out; omega
          case rel => exact ⟨i + 1, A1, C1, ac1, cc1, q', by go_num, by omega, rfl, Lib.hid (HQ'.out.trans HS.out.symm), (by have h1 := HFN.out (i + 1) (by omega); rw [HS.out, ← HQ'.out] at h1; exact h1), X8', HY8, HM8, HO8, HB8⟩
      · skip
        go_simp
        obtain ⟨U8, hU8⟩ : ∃ W, W = U0.alloc (.cells #[.int .i64 (q : Nat)] 3) := ⟨_, rfl⟩
        have hbU8 : Below U0.heap.size U0 U8 := by rw [hU8]; exact (Below.refl _ _).alloc (Nat.le_refl _) _
        have hXU8 := blk_below hXU0 hbU8
        have OU8 := Lib.hid (OU0.out.below hbU8)
        have BU8 := Lib.hid (BU0.out.trans (hbU8.mono (by have := BU0.out.size; have := HBV.out; omega)))
        have S10U8 : Hid (U8.cell? ⟨U0.heap.size, 0, none⟩ = some (.int .i64 (q : Nat))) := Lib.hid (by rw [hU8, blk_cell (heap_alloc_new _ _)]; rfl)
        have N10 : Hid (U0.heap.size ∉ rblk [⟨3, 1, .slice A i ac, i, ints (firsts M i)⟩, ⟨3, 1, .slice C i cc, i, ints (firsts M i)⟩]) := Lib.hid (fun hm => by have := (OU0.out.rblk_lt hm).2; omega)
        have SBU8 : Hid (Sub (sans V (rblk [⟨3, 1, .slice A i ac, i, ints (firsts M i)⟩, ⟨3, 1, .slice C i cc, i, ints (firsts M i)⟩])) (sans U8 (rblk [⟨3, 1, .slice A i ac, i, ints (firsts M i)⟩, ⟨3, 1, .slice C i cc, i, ints (firsts M i)⟩]))) := Lib.hid (SBU0.out.trans (sub_sans_below hbU8))
        rw [← hU8]
        clear hU8 hbU8
        refine hK.out _ _ (.inl hXU8) ?_
        clear hK K
        try simp only [Act.put, List.setIfInBounds_toArray, List.set_cons_zero, List.set_cons_succ]
        refine Go.HM.step_ (i := 4) (o := { dst := some 25, op := .buildSlice 29 1 #[(0, .tmp 24)], type := 29, pos := "gen.go:23", after := #[{ on := 3, ground := .data }], guard := none }) rfl (by decide) (by kernel_rfl) (fun K hK => ?_)
        go_simp
        obtain ⟨U9, hU9⟩ : ∃ W, W = U8.alloc (.cells #[.int .i64 (q : Nat)] 3) := ⟨_, rfl⟩
        have hbU9 : Below U8.heap.size U8 U9 := by rw [hU9]; exact (Below.refl _ _).alloc (Nat.le_refl _) _
        have hXU9 := blk_below hXU8 hbU9
        have OU9 := Lib.hid (OU8.out.below hbU9)
        have BU9 := Lib.hid (BU8.out.trans (hbU9.mono (by have := BU8.out.size; have := HBV.out; omega)))
        have S4U9 : Hid (U9.cell? ⟨U8.heap.size, 0, none⟩ = some (.int .i64 (q : Nat))) := Lib.hid (by rw [hU9, blk_cell (heap_alloc_new _ _)]; rfl)
        have N4 : Hid (U8.heap.size ∉ rblk [⟨3, 1, .slice A i ac, i, ints (firsts M i)⟩, ⟨3, 1, .slice C i cc, i, ints (firsts M i)⟩]) := Lib.hid (fun hm => by have := (OU8.out.rblk_lt hm).2; omega)
        have S10U9 : Hid (U9.cell? ⟨U0.heap.size, 0, none⟩ = some (.int .i64 (q : Nat))) := Lib.hid ((hbU9.cell (p := ⟨U0.heap.size, 0, none⟩) (World.block_lt_of_cell? _ _ S10U8.out)).trans S10U8.out)
        have SBU9 : Hid (Sub (sans V (rblk [⟨3, 1, .slice A i ac, i, ints (firsts M i)⟩, ⟨3, 1, .slice C i cc, i, ints (firsts M i)⟩])) (sans U9 (rblk [⟨3, 1, .slice A i ac, i, ints (firsts M i)⟩, ⟨3, 1, .slice C i cc, i, ints (firsts M i)⟩]))) := Lib.hid (SBU8.out.trans (sub_sans_below hbU9))
        rw [← hU9]
        clear hU9 hbU9
        refine hK.out _ _ (.inl hXU9) ?_
        clear hK K
        try simp only [Act.put, List.setIfInBounds_toArray, List.set_cons_zero, List.set_cons_succ]
        refine Go.HM.step_ (i := 5) (o := { dst := some 26, op := .call { callee := .builtin .append, args := #[.tmp 22, .tmp 25], argTypes := #[29, 29] }, type := 29, pos := "gen.go:23", after := #[{ on := 1, ground := .data }, { on := 4, ground := .data }], guard := none }) rfl (by decide) (by kernel_rfl) (fun K hK => ?_)
        rw [if_pos (by rfl)]
        refine append_at (B := w.heap.size + 3) (W := U9) 0 [⟨3, 1, .slice A i ac, i, ints (firsts M i)⟩, ⟨3, 1, .slice C i cc, i, ints (firsts M i)⟩] _ _ 29 3 (.int .i64 0) 1 8 rfl Try.underlying29 info3 rfl (by decide) (.slice A i ac) i _ rfl OU9.out rfl ⟨U8.heap.size, 0, none⟩ 1 1 [.int .i64 (q : Nat)] rfl rfl (one_news S4U9.out) (one_cell _ rfl) (by have := BU9.out.size; have := HBV.out; omega) (by omega) (by omega) ?_
        intro A1 ac1 U10 hg
        have hXU10 : U10.heap[w.heap.size + 1 + 1]? = some (.cells #[.slice sa sn sc, .slice ga gn gc, .slice (some ⟨b, off, none⟩) n fc, .slice ea en ec, .slice A i ac, .slice C i cc, .int .i64 (q : Nat), .int .i64 (q : Nat)] 95) := (hg.below.block _ (by omega)).trans hXU9
        have OU10 : Hid (Owns U10 (w.heap.size + 3) [⟨3, 1, .slice A1 (i + 1) ac1, i + 1, ints (firsts M i) ++ [Value.int IntKind.i64 (q : Nat)]⟩, ⟨3, 1, .slice C i cc, i, ints (firsts M i)⟩]) := Lib.hid hg.owns
        have BU10 : Hid (Below (w.heap.size + 3) V U10) := Lib.hid (BU9.out.trans hg.below)
        have S10U10 : Hid (U10.cell? ⟨U0.heap.size, 0, none⟩ = some (.int .i64 (q : Nat))) := Lib.hid (sans_sub _ _ _ _ (hg.sub [] _ _ (Sub.sans S10U9.out (by rw [List.append_nil]; exact N10.out))))
        have SBU10 : Hid (Sub (sans V (rblk [⟨3, 1, .slice A i ac, i, ints (firsts M i)⟩, ⟨3, 1, .slice C i cc, i, ints (firsts M i)⟩])) (sans U10 (rblk [⟨3, 1, .slice A1 (i + 1) ac1, i + 1, ints (firsts M i) ++ [Value.int IntKind.i64 (q : Nat)]⟩, ⟨3, 1, .slice C i cc, i, ints (firsts M i)⟩]))) := Lib.hid (SBU9.out.trans (by have h0 := hg.sub []; rw [List.append_nil, List.append_nil] at h0; exact h0))
        clear hg
        refine hK.out _ _ (.inl hXU10) ?_
        clear hK K
        try simp only [Act.put, List.setIfInBounds_toArray, List.set_cons_zero, List.set_cons_succ]
        refine Go.HM.take_ (i := 12) (oi := { dst := some 33, op := .fieldAddr 95 (.tmp 3) 1, type := 0, pos := "gen.go:23", after := #[{ on := 0, ground := .phase }, { on := 1, ground := .phase }, { on := 2, ground := .phase }, { on := 3, ground := .phase }, { on := 4, ground := .phase }, { on := 5, ground := .phase }, { on := 6, ground := .phase }, { on := 7, ground := .phase }, { on := 8, ground := .phase }, { on := 9, ground := .phase }, { on := 10, ground := .textOnly .lateStoresUnsure }, { on := 11, ground := .textOnly .lateStoresUnsure }], guard := none }) (v := ?_) rfl (by decide) (by decide) (by kernel_rfl) (by kernel_rfl) (fun _ _ _ h => h) (by first | exact Or.inl (by assumption) | exact Or.inr (by kernel_rfl)) (Or.inl ⟨by rfl, ?_⟩) ?_
        rotate_left
        · intro w hSw
          (try dsimp only at hSw)
          (go_simp; try (with_reducible rfl))
        try simp only [Act.put, List.setIfInBounds_toArray, List.set_cons_zero, List.set_cons_succ]
        refine Go.HM.step_ (i := 11) (o := { dst := some 32, op := .call { callee := .builtin .append, args := #[.tmp 28, .tmp 31], argTypes := #[29, 29] }, type := 29, pos := "gen.go:23", after := #[{ on := 7, ground := .data }, { on := 10, ground := .data }, { on := 5, ground := .chain }], guard := none }) rfl (by decide) (by kernel_rfl) (fun K hK => ?_)
        rw [if_pos (by rfl)]
        refine append_at (B := w.heap.size + 3) (W := U10) 1 [⟨3, 1, .slice A1 (i + 1) ac1, i + 1, ints (firsts M i) ++ [Value.int IntKind.i64 (q : Nat)]⟩, ⟨3, 1, .slice C i cc, i, ints (firsts M i)⟩] _ _ 29 3 (.int .i64 0) 1 8 rfl Try.underlying29 info3 rfl (by decide) (.slice C i cc) i _ rfl OU10.out rfl ⟨U0.heap.size, 0, none⟩ 1 1 [.int .i64 (q : Nat)] rfl rfl (one_news S10U10.out) (one_cell _ rfl) (by have := BU10.out.size; have := HBV.out; omega) (by omega) (by omega) ?_
        intro C1 cc1 U11 hg
        have hXU11 : U11.heap[w.heap.size + 1 + 1]? = some (.cells #[.slice sa sn sc, .slice ga gn gc, .slice (some ⟨b, off, none⟩) n fc, .slice ea en ec, .slice A i ac, .slice C i cc, .int .i64 (q : Nat), .int .i64 (q : Nat)] 95) := (hg.below.block _ (by omega)).trans hXU10
        have OU11 : Hid (Owns U11 (w.heap.size + 3) [⟨3, 1, .slice A1 (i + 1) ac1, i + 1, ints (firsts M i) ++ [Value.int IntKind.i64 (q : Nat)]⟩, ⟨3, 1, .slice C1 (i + 1) cc1, i + 1, ints (firsts M i) ++ [Value.int IntKind.i64 (q : Nat)]⟩]) := Lib.hid hg.owns
        have BU11 : Hid (Below (w.heap.size + 3) V U11) := Lib.hid (BU10.out.trans hg.below)
        have SBU11 : Hid (Sub (sans V (rblk [⟨3, 1, .slice A i ac, i, ints (firsts M i)⟩, ⟨3, 1, .slice C i cc, i, ints (firsts M i)⟩])) (sans U11 (rblk [⟨3, 1, .slice A1 (i + 1) ac1, i + 1, ints (firsts M i) ++ [Value.int IntKind.i64 (q : Nat)]⟩, ⟨3, 1, .slice C1 (i + 1) cc1, i + 1, ints (firsts M i) ++ [Value.int IntKind.i64 (q : Nat)]⟩]))) := Lib.hid (SBU10.out.trans (by have h0 := hg.sub []; rw [List.append_nil, List.append_nil] at h0; exact h0))
        clear hg
        refine hK.out _ _ (.inl hXU11) ?_
        clear hK K
        try simp only [Act.put, List.setIfInBounds_toArray, List.set_cons_zero, List.set_cons_succ]
        have F2 := sans_sub _ _ _ _ (SBU11.out _ _ (Sub.sans ((blk3 FV.out).1 2) NF.out))
        have F3 := sans_sub _ _ _ _ (SBU11.out _ _ (Sub.sans ((blk3 FV.out).1 3) NF.out))
        have HF2 : Hid (U11.cell? ⟨wr.heap.size, 2, none⟩ = some (.slice la ln lc)) := Lib.hid F2
        have HF3 : Hid (U11.cell? ⟨wr.heap.size, 3, none⟩ = some (.slice ia inn ic)) := Lib.hid F3
        have HOU := OU11
        have HBU : Hid (Below (w.heap.size + 3) V U11) := BU11
        clear F2 F3 SBU11 OU11 BU11
        obtain ⟨cb, fb, zb⟩ := blk3 hXU11
        refine Go.HM.step_ (i := 13) (o := { dst := none, op := .store 29 (.tmp 33) (.tmp 26), type := 0, pos := "gen.go:23", after := #[{ on := 12, ground := .data }, { on := 5, ground := .data }, { on := 11, ground := .chain }, { on := 0, ground := .phase }, { on := 1, ground := .phase }, { on := 2, ground := .phase }, { on := 3, ground := .phase }, { on := 4, ground := .phase }, { on := 5, ground := .phase }, { on := 6, ground := .phase }, { on := 7, ground := .phase }, { on := 8, ground := .phase }, { on := 9, ground := .phase }, { on := 10, ground := .textOnly .lateStoresUnsure }, { on := 11, ground := .textOnly .lateStoresUnsure }], guard := none }) rfl (by decide) (by kernel_rfl) (fun K hK => ?_)
        go_simp
        refine hK.out _ _ (.inr (by kernel_rfl)) ?_
        clear hK K
        try simp only [Act.put, List.setIfInBounds_toArray, List.set_cons_zero, List.set_cons_succ]
        have X5 := blk_set hXU11 4 (.slice A1 (i + 1) ac1)
        obtain ⟨Y1, hY1⟩ : ∃ W, W = U11.setCell ⟨w.heap.size + 1 + 1, 4, none⟩ (.slice A1 (i + 1) ac1) := ⟨_, rfl⟩
        rw [← hY1] at X5 ⊢
        have HY1 := Lib.hid hY1
        clear cb fb zb hY1
        obtain ⟨cb, fb, zb⟩ := blk3 X5
        refine Go.HM.done_ (by kernel_rfl) ?_
        simp only [List.drop_succ_cons, List.drop_zero]
        have X6 := blk_set X5 5 (.slice C1 (i + 1) cc1)
        go_upto_region 6 with (fail)
        obtain ⟨Y2, hY2⟩ : ∃ W, W = Y1.setCell ⟨w.heap.size + 1 + 1, 5, none⟩ (.slice C1 (i + 1) cc1) := ⟨_, rfl⟩
        rw [← hY2] at X6 ⊢
        have gr2 : U11.grownBy Y2 (some (w.heap.size + 1 + 1)) := by
          rw [hY2, HY1.out]
          exact ngrown_set (ngrown_set (ngrown_refl _ _) 4 _) 5 _
        have HG2 := Lib.hid gr2
        clear cb fb zb hY2 HY1 X5 hXU11
        have X6' : Hid (Y2.heap[w.heap.size + 1 + 1]? = some (.cells #[Value.slice sa sn sc, Value.slice ga gn gc, Value.slice (some ⟨b, off, none⟩) n fc, Value.slice ea en ec, .slice A1 (i + 1) ac1, .slice C1 (i + 1) cc1, .int .i64 (q : Nat), .int .i64 (q : Nat)] 95)) := Lib.hid X6
        have f2 : Y2.cell? ⟨wr.heap.size, 2, none⟩ = some (.slice la ln lc) := (World.cell?_of_block (HG2.out.block wr.heap.size (World.block_lt_of_cell? _ _ HF2.out) (fun e => by injection e with e; have := HNE.out; omega))).trans HF2.out
        have f3 : Y2.cell? ⟨wr.heap.size, 3, none⟩ = some (.slice ia inn ic) := (World.cell?_of_block (HG2.out.block wr.heap.size (World.block_lt_of_cell? _ _ HF3.out) (fun e => by injection e with e; have := HNE.out; omega))).trans HF3.out
        clear X6
        obtain ⟨cb, fb, zb⟩ := blk3 X6'.out
        go_upto_region 7 with (fail)
        obtain ⟨q', hq'⟩ : ∃ k, k = q + (ln + 1 + inn) := ⟨_, rfl⟩
        have hqe : (q : Int) + ((ln : Int) + 1 + (inn : Int)) = (q' : Int) := by omega
        have HQ' := Lib.hid hq'
        rw [hqe]
        clear hqe hq' cb fb zb f2 f3
        have X7 := blk_set X6'.out 6 (.int .i64 (q' : Nat))
        obtain ⟨Y3, hY3⟩ : ∃ W, W = Y2.setCell ⟨w.heap.size + 1 + 1, 6, none⟩ (.int .i64 (q' : Nat)) := ⟨_, rfl⟩
        rw [← hY3] at X7 ⊢
        have HG3 : Hid (U11.grownBy Y3 (some (w.heap.size + 1 + 1))) := Lib.hid (by rw [hY3]; exact ngrown_set HG2.out 6 _)
        clear hY3 HG2
        have X7' : Hid (Y3.heap[w.heap.size + 1 + 1]? = some (.cells #[Value.slice sa sn sc, Value.slice ga gn gc, Value.slice (some ⟨b, off, none⟩) n fc, Value.slice ea en ec, .slice A1 (i + 1) ac1, .slice C1 (i + 1) cc1, .int .i64 (q' : Nat), .int .i64 (q : Nat)] 95)) := Lib.hid X7
        clear X7
        obtain ⟨cb, fb, zb⟩ := blk3 X7'.out
        have f2 : Y3.cell? ⟨wr.heap.size, 2, none⟩ = some (.slice la ln lc) := (World.cell?_of_block (HG3.out.block wr.heap.size (World.block_lt_of_cell? _ _ HF2.out) (fun e => by injection e with e; have := HNE.out; omega))).trans HF2.out
        have f3 : Y3.cell? ⟨wr.heap.size, 3, none⟩ = some (.slice ia inn ic) := (World.cell?_of_block (HG3.out.block wr.heap.size (World.block_lt_of_cell? _ _ HF3.out) (fun e => by injection e with e; have := HNE.out; omega))).trans HF3.out
        clear HF2 HF3
        go_wp2_with fail
        have hqe : (q : Int) + (1 + (ln : Int) + (inn : Int)) = (q' : Int) := by have := HQ'.out; omega
        rw [hqe]
        clear hqe
        have X8 := blk_set X7'.out 7 (.int .i64 (q' : Nat))
        obtain ⟨Y4, hY4⟩ : ∃ W, W = Y3.setCell ⟨w.heap.size + 1 + 1, 7, none⟩ (.int .i64 (q' : Nat)) := ⟨_, rfl⟩
        rw [← hY4] at X8 ⊢
        have HG4 : Hid (U11.grownBy Y4 (some (w.heap.size + 1 + 1))) := Lib.hid (by rw [hY4]; exact ngrown_set HG3.out 7 _)
        clear hY4 HG3
        have X8' : Hid (Y4.heap[w.heap.size + 1 + 1]? = some (.cells #[Value.slice sa sn sc, Value.slice ga gn gc, Value.slice (some ⟨b, off, none⟩) n fc, Value.slice ea en ec, .slice A1 (i + 1) ac1, .slice C1 (i + 1) cc1, .int .i64 (q' : Nat), .int .i64 (q' : Nat)] 95)) := Lib.hid X8
        clear X8 cb fb zb f2 f3 X6' X7'
        have hz8 : w.heap.size + 3 ≤ U11.heap.size := by have := HBU.out.size; have := HBV.out; omega
        have HY8 : Hid (Y4.heap[w.heap.size + 1]? = some (.cells #[.slice none 0 0, .slice none 0 0, .slice none 0 0, .slice none 0 0, .slice none 0 0, .slice none 0 0, .int .i64 0, .int .i64 0] 95)) := Lib.hid ((HG4.out.block _ (by omega) (fun e => by injection e with e; omega)).trans ((HBU.out.block _ (by omega)).trans HYV.out))
        have HM8 : Hid (Y4.heap[w.heap.size]? = some (.cells #[.slice sa sn sc, .slice ga gn gc, .slice (some ⟨b, off, none⟩) n fc, .slice ea en ec] 32)) := Lib.hid ((HG4.out.block _ (by omega) (fun e => by injection e with e; omega)).trans ((HBU.out.block _ (by omega)).trans HMV.out))
        have HO8 : Hid (Owns Y4 (w.heap.size + 3) [⟨3, 1, .slice A1 (i + 1) ac1, i + 1, ints (firsts M (i + 1))⟩, ⟨3, 1, .slice C1 (i + 1) cc1, i + 1, ints (firsts M (i + 1))⟩]) := Lib.hid (owns_grown HOU.out HG4.out (by omega) (by rw [firsts_succ, ← HQ.out, ints_append]; rfl) (by rw [firsts_succ, ← HQ.out, ints_append]; rfl))
        have HB8 : Hid (Below w.heap.size w Y4) := Lib.hid (by
          have h1 : Below w.heap.size w U11 := HBW.out.trans (HBU.out.mono (by omega))
          exact ⟨HG4.out.os.trans h1.os, HG4.out.tape.trans h1.tape, HG4.out.output.trans h1.output, Nat.le_trans h1.size HG4.out.size, fun k hk => (HG4.out.block k (by have := h1.size; omega) (fun e => by injection e with e; omega)).trans (h1.block k hk)⟩)
        go_roundg (n - (i + 1))
        case measure => have := HK.out; omega
        case rel => exact ⟨i + 1, A1, C1, ac1, cc1, q', by go_num, by omega, rfl, Lib.hid (HQ'.out.trans HS.out.symm), (by have h1 := HFN.out (i + 1) (by omega); rw [HS.out, ← HQ'.out] at h1; exact h1), X8', HY8, HM8, HO8, HB8⟩
    · obtain rfl : n = i := by omega
      have hnn : ¬ (n : Int) < (n : Int) := by omega
      obtain ⟨cb, fb, zb⟩ := blk3 HX.out
      obtain ⟨c2, f2, z2⟩ := blk3 HY.out
      go_wp2_with fail
      obtain ⟨Y9, hY9⟩ : ∃ W, W = ((((((((wr.setCell ⟨w.heap.size + 1, 0, none⟩ (.slice sa sn sc)).setCell ⟨w.heap.size + 1, 1, none⟩ (.slice ga gn gc)).setCell ⟨w.heap.size + 1, 2, none⟩ (.slice fa n fc)).setCell ⟨w.heap.size + 1, 3, none⟩ (.slice ea en ec)).setCell ⟨w.heap.size + 1, 4, none⟩ (.slice A n ac)).setCell ⟨w.heap.size + 1, 5, none⟩ (.slice C n cc)).setCell ⟨w.heap.size + 1, 6, none⟩ (.int .i64 (q : Nat))).setCell ⟨w.heap.size + 1, 7, none⟩ (.int .i64 (q : Nat))) := ⟨_, rfl⟩
      have x9 : Y9.heap[w.heap.size + 1]? = some (.cells #[.slice sa sn sc, .slice ga gn gc, .slice fa n fc, .slice ea en ec, .slice A n ac, .slice C n cc, .int .i64 (q : Nat), .int .i64 (q : Nat)] 95) := by rw [hY9]; exact (blk_set (blk_set (blk_set (blk_set (blk_set (blk_set (blk_set (blk_set HY.out 0 (.slice sa sn sc)) 1 (.slice ga gn gc)) 2 (.slice fa n fc)) 3 (.slice ea en ec)) 4 (.slice A n ac)) 5 (.slice C n cc)) 6 (.int .i64 (q : Nat))) 7 (.int .i64 (q : Nat)))
      have g9 : wr.grownBy Y9 (some (w.heap.size + 1)) := by rw [hY9]; exact (ngrown_set (ngrown_set (ngrown_set (ngrown_set (ngrown_set (ngrown_set (ngrown_set (ngrown_set (ngrown_refl wr _) 0 (.slice sa sn sc)) 1 (.slice ga gn gc)) 2 (.slice fa n fc)) 3 (.slice ea en ec)) 4 (.slice A n ac)) 5 (.slice C n cc)) 6 (.int .i64 (q : Nat))) 7 (.int .i64 (q : Nat)))
      have G9 := Lib.hid g9
      rw [← hY9]
      have HO9 : Hid (Owns Y9 (w.heap.size + 3) [⟨3, 1, .slice A n ac, n, ints (firsts M n)⟩, ⟨3, 1, .slice C n cc, n, ints (firsts M n)⟩]) := Lib.hid (owns_grown HO.out g9 (by omega) rfl rfl)
      have HB9 : Hid (Below w.heap.size w Y9) := Lib.hid (by
        have h1 := HB.out
        exact ⟨g9.os.trans h1.os, g9.tape.trans h1.tape, g9.output.trans h1.output, Nat.le_trans h1.size g9.size, fun k hk => (g9.block k (by have := h1.size; omega) (fun e => by injection e with e; omega)).trans (h1.block k hk)⟩)
      clear hY9 cb fb zb c2 f2 z2 g9
      obtain ⟨c2, f2, z2⟩ := blk3 x9
      refine bodyPost_ret (v := .agg #[.slice sa sn sc, .slice ga gn gc, .slice fa n fc, .slice ea en ec, .slice A n ac, .slice C n cc, .int .i64 (q : Nat), .int .i64 (q : Nat)]) ?_ rfl ⟨.slice A n ac, .slice C n cc, ?_, ?_, ?_, HB9.out⟩
      · rw [results_cell rfl]
        go_simp
      · rw [HNN.out, ← HQ.out]
      · rw [HNN.out]
        exact ReadsI.sub (sans_sub _ []) (ReadsI.own (bs := []) (HO9.out.own _ List.mem_cons_self) (firsts_length M n) hfn (fun b hb => by cases hb))
      · rw [HNN.out]
        exact ReadsI.sub (sans_sub _ []) (ReadsI.own (bs := []) (HO9.out.own _ (List.mem_cons_of_mem _ List.mem_cons_self)) (firsts_length M n) hfn (fun b hb => by cases hb))
end Go.Proofs.Ytjgijbaboekghaa

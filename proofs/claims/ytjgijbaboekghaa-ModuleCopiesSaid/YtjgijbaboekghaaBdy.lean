/-
  module.body (function 35): a list of statements, copied. No statement of its own.
-/
import Derived.Test.YtjgijbaboekghaaCln
import Derived.Test.YtjgijbaboekghaaThw
import Derived.Test.YtjgijbaboekghaaRegM
import Derived.Test.YtjgijbaboekghaaMeqP
import Derived.Laws.OwnMore
set_option linter.unusedSimpArgs false
set_option linter.unusedVariables false
namespace Go.Proofs.Ytjgijbaboekghaa
open Go.RowKit
def refV (l : List (Int × Int)) : List Value := l.flatMap fun r => [.int .u8 r.1, .int .i64 r.2]
theorem refV_length (l : List (Int × Int)) : (refV l).length = l.length * 2 := by
  unfold refV
  induction l with
  | nil => rfl
  | cons x r ih => rw [List.flatMap_cons, List.length_append, ih, List.length_cons]; simp; omega
theorem refV_get {l : List (Int × Int)} {i : Nat} {r : Int × Int} (h : l[i]? = some r) (k : Nat) (hk : k < 2) : (refV l)[i * 2 + k]? = ([.int .u8 r.1, .int .i64 r.2] : List Value)[k]? := by
  induction l generalizing i with
  | nil => simp at h
  | cons x t ih =>
    have e : refV (x :: t) = [.int .u8 x.1, .int .i64 x.2] ++ refV t := by unfold refV; rw [List.flatMap_cons]
    rw [e]
    cases i with
    | zero =>
      obtain rfl : x = r := by simpa using h
      rw [Nat.zero_mul, Nat.zero_add, List.getElem?_append_left (by simpa using hk)]
    | succ j =>
      rw [List.getElem?_append_right (by simp; omega)]
      have := ih (i := j) (by simpa using h)
      rw [← this]
      congr 1
      simp
      omega
theorem refV_one (l : List (Int × Int)) : ∀ u ∈ refV l, u.oneCell' = true := by
  intro u hu
  unfold refV at hu
  obtain ⟨r, _, h⟩ := List.mem_flatMap.1 hu
  simp only [List.mem_cons, List.not_mem_nil, or_false] at h
  rcases h with rfl | rfl <;> rfl
/-- What reads as references, as a list of values. -/
theorem refs_list {w : World} {a : Option Addr} {n : Nat} {l : List (Int × Int)} (h : ReadsRefs w a n l) : 0 < n → ∃ b off, a = some ⟨b, off, none⟩ ∧ ∀ (j : Nat) u, (refV l)[j]? = some u → w.cell? ⟨b, off + j, none⟩ = some u := fun hp => by
  obtain ⟨b, off, e, hc⟩ := h.2.2 hp
  refine ⟨b, off, e, fun j u hu => ?_⟩
  have hj := (List.getElem?_eq_some_iff.1 hu).1
  rw [refV_length, h.1] at hj
  have hi : j / 2 < l.length := by rw [h.1]; omega
  have hg := List.getElem?_eq_getElem hi
  have hk := refV_get hg (j % 2) (by omega)
  rw [show j / 2 * 2 + j % 2 = j by omega] at hk
  obtain ⟨c1, c2⟩ := hc (j / 2) (by omega)
  rw [List.getD_eq_getElem?_getD, hg] at c1 c2
  rw [hk] at hu
  rcases Nat.lt_or_ge (j % 2) 1 with h0 | h0
  · have h2 : j % 2 = 0 := by omega
    rw [h2] at hu
    injection hu with hu
    rw [← hu, show off + j = off + j / 2 * 2 by omega]
    exact c1
  · have h2 : j % 2 = 1 := by omega
    rw [h2] at hu
    injection hu with hu
    rw [← hu, show off + j = off + j / 2 * 2 + 1 by omega]
    exact c2
/-- A row of the call's own reads as references. -/
theorem refs_own {w : World} {B n c : Nat} {A : Option Addr} {l : List (Int × Int)} {bs : List Nat} (h : 0 < n → w.ownsRow B 43 2 (.slice A n c) n (refV l)) (hl : l.length = n) (hn : n ≤ 1000) (hbs : ∀ b ∈ bs, b < B) : ReadsRefs (TH w bs) A n l := by
  refine ⟨hl, by unfold maxLen; omega, fun hp => ?_⟩
  rcases (h hp).2 with ⟨e, h0⟩ | ⟨g, cap, cur, e, hb, hh, h1, h2, h3, h4⟩
  · omega
  · injection e with e1 e2 e3
    subst e1 e3
    have hnm := own_thaw (bs := bs) (h hp) (fun b hb' e => by have := hbs b hb'; omega)
    refine ⟨g, 0, rfl, fun i hi => ?_⟩
    have hg := List.getElem?_eq_getElem (show i < l.length by omega)
    have hcell : ∀ k u, k < 2 → (refV l)[i * 2 + k]? = some u → (TH w bs).cell? ⟨g, 0 + i * 2 + k, none⟩ = some u := fun k u hk hu => by
      rw [← h4] at hu
      have h6 := (List.getElem?_eq_some_iff.1 hu).1
      rw [List.getElem?_take_of_lt (by rw [List.length_take] at h6; omega)] at hu
      refine Sub.sans ?_ hnm
      rw [(blk3 hh).1, Nat.zero_add]
      simpa using hu
    rw [List.getD_eq_getElem?_getD, hg]
    exact ⟨by have := hcell 0 _ (by decide) (refV_get hg 0 (by decide)); rwa [Nat.add_zero] at this, hcell 1 _ (by decide) (refV_get hg 1 (by decide))⟩
/-- While body copies: i statements are the copy's own. -/
structure Mix (w0 wr : World) (g n cp i : Nat) (ys : List Value) (l : List St) : Prop where
  own : wr.ownsRow w0.heap.size 46 7 (.slice (some ⟨g, 0, none⟩) n cp) n ys
  at_ : ∀ (j : Nat) s, l[j]? = some s → ∃ vs, Cells7 (if j < i then TH wr (g :: List.range w0.heap.size) else w0) vs s ∧ ∀ (k : Nat) v, vs[k]? = some v → ys[j * 7 + k]? = some v
  bel : Below w0.heap.size w0 wr
theorem own_frozen {w : World} {B n cp g size : Nat} {e : TypeId} {xs : List Value} (h : w.ownsRow B e size (.slice (some ⟨g, 0, none⟩) n cp) n xs) : ∀ o, w.frozen? ⟨g, o, none⟩ = false := by
  rcases h.2 with ⟨e, h0⟩ | ⟨g', cap, cur, e, hb, hh, _⟩
  · cases e
  · injection e with e1
    injection e1 with e1
    injection e1 with e1
    subst e1
    exact fun o => blk_frozen hh o
theorem own_cell {w : World} {B n cp g size : Nat} {e : TypeId} {xs : List Value} (h : w.ownsRow B e size (.slice (some ⟨g, 0, none⟩) n cp) n xs) {j : Nat} {u : Value} (hj : xs[j]? = some u) : w.cell? ⟨g, j, none⟩ = some u := by
  have := h.cells rfl j u hj
  rwa [cadd_none, Nat.zero_add] at this
theorem Mix.step {w0 wr w6 : World} {g n cp i : Nat} {ys : List Value} {l : List St} {k ak ai bk bi : Int} {args : List (Int × Int)} {body : List St} {aa ba a5 a6 : Option Addr} {al ac bl bc c5 c6 : Nat} (h : Mix w0 wr g n cp i ys l)
    (hs : l[i]? = some (.mk k ak ai bk bi args body)) (hy : ∀ (q : Nat) v, ([.int .u8 k, .int .u8 ak, .int .i64 ai, .int .u8 bk, .int .i64 bi, .slice aa al ac, .slice ba bl bc] : List Value)[q]? = some v → ys[i * 7 + q]? = some v)
    (hb : Below wr.heap.size wr w6) (hr : ReadsRefs (TH w6 (g :: List.range w0.heap.size)) a5 al args) (hbd : ReadsBody (TH w6 (g :: List.range w0.heap.size)) a6 bl body) :
    Mix w0 ((w6.setCell ⟨g, i * 7 + 5, none⟩ (.slice a5 al c5)).setCell ⟨g, i * 7 + 6, none⟩ (.slice a6 bl c6)) g n cp (i + 1) ((ys.set (i * 7 + 5) (.slice a5 al c5)).set (i * 7 + 6) (.slice a6 bl c6)) l := by
  have hg := World.ownsRow.lt h.own g rfl
  have hsub : Sub (TH w6 (g :: List.range w0.heap.size)) (TH ((w6.setCell ⟨g, i * 7 + 5, none⟩ (.slice a5 al c5)).setCell ⟨g, i * 7 + 6, none⟩ (.slice a6 bl c6)) (g :: List.range w0.heap.size)) :=
    (th_store (p := ⟨g, i * 7 + 5, none⟩) List.mem_cons_self).trans (th_store (p := ⟨g, i * 7 + 6, none⟩) List.mem_cons_self)
  have hlen : ys.length = n * 7 := h.own.1
  have hy0 := (List.getElem?_eq_some_iff.1 (hy 6 _ rfl)).1
  refine ⟨((own_below h.own hb).stored _ _).1.stored _ _ |>.1, fun j s hj => ?_, ?_⟩
  · by_cases hji : j = i
    · subst hji
      rw [hs] at hj
      injection hj with hj
      subst hj
      refine ⟨[.int .u8 k, .int .u8 ak, .int .i64 ai, .int .u8 bk, .int .i64 bi, .slice a5 al c5, .slice a6 bl c6], ?_, ?_⟩
      · rw [if_pos (Nat.lt_succ_self j)]
        exact (cells7_def _ _ _ _ _ _ _ _ _).2 ⟨a5, al, c5, a6, bl, c6, rfl, hr.sub hsub, (hbd.sub hsub).1, (hbd.sub hsub).2.1, (hbd.sub hsub).2.2⟩
      · intro q v hv
        rw [List.getElem?_set, List.getElem?_set]
        match q, hv with
        | 0, hv => rw [if_neg (by omega), if_neg (by omega)]; exact hy 0 v hv
        | 1, hv => rw [if_neg (by omega), if_neg (by omega)]; exact hy 1 v hv
        | 2, hv => rw [if_neg (by omega), if_neg (by omega)]; exact hy 2 v hv
        | 3, hv => rw [if_neg (by omega), if_neg (by omega)]; exact hy 3 v hv
        | 4, hv => rw [if_neg (by omega), if_neg (by omega)]; exact hy 4 v hv
        | 5, hv => rw [if_neg (by omega), if_pos rfl, if_pos (by omega)]; exact hv
        | 6, hv => rw [if_pos rfl, if_pos (by rw [List.length_set]; omega)]; exact hv
        | q + 7, hv => simp at hv
    · obtain ⟨vs, h1, h2⟩ := h.at_ j s hj
      have h7 := h1.length
      refine ⟨vs, ?_, fun q v hv => ?_⟩
      · by_cases hlt : j < i
        · rw [if_pos hlt] at h1
          rw [if_pos (by omega)]
          exact (h1.sub (th_below hb)).sub hsub
        · rw [if_neg hlt] at h1
          rw [if_neg (by omega)]
          exact h1
      · have hq := (List.getElem?_eq_some_iff.1 hv).1
        rw [List.getElem?_set, List.getElem?_set, if_neg (by omega), if_neg (by omega)]
        exact h2 q v hv
  · exact ((h.bel.trans (hb.mono h.bel.size)).setCell (p := ⟨g, i * 7 + 5, none⟩) hg.1 _).setCell (p := ⟨g, i * 7 + 6, none⟩) hg.1 _
/-- What body hands back. -/
def Copied (w : World) (n : Nat) (l : List St) (e : Ending) (w' : World) : Prop := ∃ (a' : Option Addr) (c' : Nat), e = .returned (.slice a' n c') ∧ n ≤ c' ∧ ReadsBody (TH w' (List.range w.heap.size)) a' n l ∧ Below w.heap.size w w'
set_option maxRecDepth 20000 in
set_option maxHeartbeats 4000000 in
theorem body_calls : ∀ (N : Nat) (l : List St), SizeOf.sizeOf l ≤ N → ∀ (w : World) (a : Option Addr) (n c : Nat), ReadsBody w a n l → smallAll l → n ≤ 1000 → Calls Try.prog 35 #[.slice a n c] w (Copied w n l) := by
  intro N
  induction N with
  | zero => intro l h; exfalso; cases l <;> simp at h
  | succ N ih =>
  intro l hN w a n c h hsm hn
  have HN := Lib.hid hN
  have IH := Lib.hid ih
  have HSM := Lib.hid hsm
  have HR := Lib.hid h
  have HLEN := Lib.hid h.1
  clear ih hN hsm h
  rcases Nat.eq_zero_or_pos n with h0 | h0
  · subst h0
    have hl0 : l = [] := List.length_eq_zero_iff.1 HLEN.out
    subst hl0
    go_enter Try.func35, Try.ntmps35
    go_wp2_with fail
    refine (clone62_calls w a 0 c [] rfl (fun h => absurd h (Nat.lt_irrefl _)) (fun u hu => by simp at hu) (by omega)).mono ?_
    rintro e w1 ⟨v1, rfl, hcl⟩
    obtain ⟨b1, cp1, rfl, hle⟩ := hcl.shape
    have HB1 := Lib.hid hcl.below
    clear hcl
    go_wp2_with fail
    go_loop [8] (fun s8 => s8 = .int .i64 0) (fun _ => 0)
    case atStart => rfl
    case round =>
      obtain rfl := hrel
      go_wp2_with fail
      go_ret
      exact ⟨b1, cp1, rfl, hle, ⟨rfl, by decide, fun h => absurd h (Nat.lt_irrefl _)⟩, HB1.out⟩
  · obtain ⟨b0, off0, xs, ha, hst, hxl, hxc, hx1⟩ := body_list HR.out h0
    have HA := Lib.hid ha
    have HST := Lib.hid hst
    have HXC : Hid (0 < n → ∃ b off, a = some ⟨b, off, none⟩ ∧ ∀ (j : Nat) u, xs[j]? = some u → w.cell? ⟨b, off + j, none⟩ = some u) := Lib.hid (fun _ => ⟨b0, off0, ha, fun j u hu => by have := hxc j u hu; rwa [cadd_none] at this⟩)
    clear ha hst hxc
    go_enter Try.func35, Try.ntmps35
    go_wp2_with fail
    refine (clone62_calls w a n c xs hxl HXC.out hx1 hn).mono ?_
    rintro e w1 ⟨v1, rfl, hcl⟩
    obtain ⟨b1, cp1, rfl, hle⟩ := hcl.shape
    have hown := hcl.own h0
    obtain ⟨g, rfl⟩ : ∃ g, b1 = some ⟨g, 0, none⟩ := by
      rcases hown.2 with ⟨e, hz⟩ | ⟨g, cap, cur, e, _⟩
      · omega
      · injection e with e1; exact ⟨g, e1⟩
    have HMX : Hid (Mix w w1 g n cp1 0 xs l) := Lib.hid ⟨hown, fun j s hj => by
      obtain ⟨vs, k1, k2⟩ := HST.out.2 j s hj
      exact ⟨vs, by rw [if_neg (Nat.not_lt_zero _)]; exact k1, k2⟩, hcl.below⟩
    clear hcl hown hxl hx1
    go_wp2_with fail
    go_loopg [8] n (fun gk s8 wr => ∃ (i : Nat) (ys : List Value), s8 = .int .i64 (i : Nat) ∧ i ≤ n ∧ Hid (gk = n - i) ∧ Hid (Mix w wr g n cp1 i ys l))
    case atStart => exact ⟨0, xs, rfl, Nat.zero_le _, rfl, HMX⟩
    case round =>
      obtain ⟨i, ys, rfl, hi, HK, HM⟩ := hrel
      by_cases hlt : i < n
      · have hltI : (i : Int) < (n : Int) := by omega
        have hi0 : (0 : Int) ≤ (i : Int) := by omega
        obtain ⟨s, hs⟩ : ∃ s, l[i]? = some s := ⟨_, List.getElem?_eq_getElem (by rw [HLEN.out]; exact hlt)⟩
        obtain ⟨k, ak, ai, bk, bi, args, body⟩ := s
        obtain ⟨vs, hc7, hvs⟩ := HM.out.at_ i _ hs
        rw [if_neg (Nat.lt_irrefl _)] at hc7
        obtain ⟨aa, al, ac, ba, bl, bc, rfl, hrf, hb1, hb2, hb3⟩ := (cells7_def _ _ _ _ _ _ _ _ _).1 hc7
        have hsmall := (smallSt_def _ _ _ _ _ _ _).1 (smallAll_at HSM.out hs)
        have hal : al ≤ 1000 := by have := hsmall.1; rw [hrf.1] at this; exact this
        have hbl : bl ≤ 1000 := by have := hsmall.2.1; rw [hb1] at this; exact this
        have HSB := Lib.hid hsmall.2.2
        have HSZ : Hid (SizeOf.sizeOf body ≤ N) := Lib.hid (by
          have h1 := List.sizeOf_lt_of_mem (List.mem_of_getElem? hs)
          have h2 := St.mk.sizeOf_spec k ak ai bk bi args body
          have h3 := HN.out
          omega)
        have HRF : Hid (ReadsRefs w aa al args) := Lib.hid hrf
        have HBD : Hid (ReadsBody w ba bl body) := Lib.hid ⟨hb1, hb2, hb3⟩
        have HS := Lib.hid hs
        have HVS := Lib.hid hvs
        have c5 : wr.cell? ⟨g, i * 7 + 5, none⟩ = some (.slice aa al ac) := own_cell HM.out.own (hvs 5 _ rfl)
        have c6 : wr.cell? ⟨g, i * 7 + 6, none⟩ = some (.slice ba bl bc) := own_cell HM.out.own (hvs 6 _ rfl)
        have hgz := World.ownsRow.lt HM.out.own g rfl
        clear hs hc7 hvs hrf hb1 hb2 hb3 hsmall
        go_upto_region 5 with (fail)
        have HWD : Hid (Below wr.heap.size wr wr.drew) := Lib.hid ⟨rfl, rfl, rfl, Nat.le_refl _, fun _ _ => rfl⟩
        have HBW : Hid (Below w.heap.size w wr.drew) := Lib.hid ⟨HM.out.bel.os, HM.out.bel.tape, HM.out.bel.output, HM.out.bel.size, HM.out.bel.block⟩
        have hC : wr.drew.cell? ⟨g, i * 7 + 5, none⟩ = some (.slice aa al ac) ∧ wr.drew.cell? ⟨g, i * 7 + 6, none⟩ = some (.slice ba bl bc) := ⟨c5, c6⟩
        refine wp_region_HM (C := (fun w' => w'.cell? ⟨g, i * 7 + 5, none⟩ = some (.slice aa al ac) ∧ w'.cell? ⟨g, i * 7 + 6, none⟩ = some (.slice ba bl bc))) 19 18 (by kernel_rfl) (by kernel_rfl) (by kernel_rfl) (by kernel_rfl) (by decide) ?_
        refine Go.HM.take_ (i := 0) (oi := { dst := some 11, op := .move (.tmp 0), type := 22, pos := "module.go:68", after := #[], guard := none }) (v := ?_) rfl (by decide) (by decide) (by kernel_rfl) (by kernel_rfl) (fun _ _ _ h => h) (by first | exact Or.inl (by assumption) | exact Or.inr (by kernel_rfl)) (Or.inl ⟨by rfl, ?_⟩) ?_
        rotate_left
        · intro w hSw
          (try dsimp only at hSw)
          (go_simp; try (with_reducible rfl))
        try simp only [Act.put, List.setIfInBounds_toArray, List.set_cons_zero, List.set_cons_succ]
        refine Go.HM.take_ (i := 1) (oi := { dst := some 12, op := .move (.tmp 3), type := 3, pos := "module.go:68", after := #[], guard := none }) (v := ?_) rfl (by decide) (by decide) (by kernel_rfl) (by kernel_rfl) (fun _ _ _ h => h) (by first | exact Or.inl (by assumption) | exact Or.inr (by kernel_rfl)) (Or.inl ⟨by rfl, ?_⟩) ?_
        rotate_left
        · intro w hSw
          (try dsimp only at hSw)
          (go_simp; try (with_reducible rfl))
        try simp only [Act.put, List.setIfInBounds_toArray, List.set_cons_zero, List.set_cons_succ]
        refine Go.HM.take_ (i := 2) (oi := { dst := some 13, op := .move (.tmp 0), type := 22, pos := "module.go:68", after := #[{ on := 18, ground := .gcOnly .lateStores }], guard := none }) (v := ?_) rfl (by decide) (by decide) (by kernel_rfl) (by kernel_rfl) (fun _ _ _ h => h) (by first | exact Or.inl (by assumption) | exact Or.inr (by kernel_rfl)) (Or.inl ⟨by rfl, ?_⟩) ?_
        rotate_left
        · intro w hSw
          (try dsimp only at hSw)
          (go_simp; try (with_reducible rfl))
        try simp only [Act.put, List.setIfInBounds_toArray, List.set_cons_zero, List.set_cons_succ]
        refine Go.HM.take_ (i := 3) (oi := { dst := some 14, op := .move (.tmp 3), type := 3, pos := "module.go:68", after := #[{ on := 18, ground := .gcOnly .lateStores }], guard := none }) (v := ?_) rfl (by decide) (by decide) (by kernel_rfl) (by kernel_rfl) (fun _ _ _ h => h) (by first | exact Or.inl (by assumption) | exact Or.inr (by kernel_rfl)) (Or.inl ⟨by rfl, ?_⟩) ?_
        rotate_left
        · intro w hSw
          (try dsimp only at hSw)
          (go_simp; try (with_reducible rfl))
        try simp only [Act.put, List.setIfInBounds_toArray, List.set_cons_zero, List.set_cons_succ]
        refine Go.HM.take_ (i := 4) (oi := { dst := some 15, op := .move (.tmp 0), type := 22, pos := "module.go:68", after := #[], guard := none }) (v := ?_) rfl (by decide) (by decide) (by kernel_rfl) (by kernel_rfl) (fun _ _ _ h => h) (by first | exact Or.inl (by assumption) | exact Or.inr (by kernel_rfl)) (Or.inl ⟨by rfl, ?_⟩) ?_
        rotate_left
        · intro w hSw
          (try dsimp only at hSw)
          (go_simp; try (with_reducible rfl))
        try simp only [Act.put, List.setIfInBounds_toArray, List.set_cons_zero, List.set_cons_succ]
        refine Go.HM.take_ (i := 5) (oi := { dst := some 16, op := .move (.tmp 3), type := 3, pos := "module.go:68", after := #[], guard := none }) (v := ?_) rfl (by decide) (by decide) (by kernel_rfl) (by kernel_rfl) (fun _ _ _ h => h) (by first | exact Or.inl (by assumption) | exact Or.inr (by kernel_rfl)) (Or.inl ⟨by rfl, ?_⟩) ?_
        rotate_left
        · intro w hSw
          (try dsimp only at hSw)
          (go_simp; try (with_reducible rfl))
        try simp only [Act.put, List.setIfInBounds_toArray, List.set_cons_zero, List.set_cons_succ]
        refine Go.HM.take_ (i := 6) (oi := { dst := some 17, op := .indexAddr 22 (.tmp 15) (.tmp 16), type := 0, pos := "module.go:68", after := #[{ on := 4, ground := .data }, { on := 5, ground := .data }], guard := none }) (v := ?_) rfl (by decide) (by decide) (by kernel_rfl) (by kernel_rfl) (fun _ _ _ h => h) (by first | exact Or.inl (by assumption) | exact Or.inr (by kernel_rfl)) (Or.inl ⟨by rfl, ?_⟩) ?_
        rotate_left
        · intro w hSw
          (try dsimp only at hSw)
          (go_simp; try (with_reducible rfl))
        try simp only [Act.put, List.setIfInBounds_toArray, List.set_cons_zero, List.set_cons_succ]
        refine Go.HM.take_ (i := 7) (oi := { dst := some 18, op := .fieldAddr 46 (.tmp 17) 3, type := 0, pos := "module.go:68", after := #[{ on := 6, ground := .data }], guard := none }) (v := ?_) rfl (by decide) (by decide) (by kernel_rfl) (by kernel_rfl) (fun _ _ _ h => h) (by first | exact Or.inl (by assumption) | exact Or.inr (by kernel_rfl)) (Or.inl ⟨by rfl, ?_⟩) ?_
        rotate_left
        · intro w hSw
          (try dsimp only at hSw)
          (go_simp; try (with_reducible rfl))
        try simp only [Act.put, List.setIfInBounds_toArray, List.set_cons_zero, List.set_cons_succ]
        refine Go.HM.load_ (i := 8) (oi := { dst := some 19, op := .load 44 (.tmp 18), type := 44, pos := "module.go:68", after := #[{ on := 7, ground := .data }], guard := none }) (v := ?_) rfl (by decide) (by decide) (by kernel_rfl) (by kernel_rfl) (by kernel_rfl) (fun _ _ _ h => h) (by first | exact Or.inl (by assumption) | exact Or.inr (by kernel_rfl)) (Or.inl ⟨by rfl, ?_⟩) ?_
        rotate_left
        · intro w hSw
          (try dsimp only at hSw)
          obtain ⟨y5, y6⟩ := hSw; (go_simp; try (with_reducible rfl))
        try simp only [Act.put, List.setIfInBounds_toArray, List.set_cons_zero, List.set_cons_succ]
        refine Go.HM.take_ (i := 10) (oi := { dst := some 21, op := .move (.tmp 0), type := 22, pos := "module.go:68", after := #[], guard := none }) (v := ?_) rfl (by decide) (by decide) (by kernel_rfl) (by kernel_rfl) (fun _ _ _ h => h) (by first | exact Or.inl (by assumption) | exact Or.inr (by kernel_rfl)) (Or.inl ⟨by rfl, ?_⟩) ?_
        rotate_left
        · intro w hSw
          (try dsimp only at hSw)
          (go_simp; try (with_reducible rfl))
        try simp only [Act.put, List.setIfInBounds_toArray, List.set_cons_zero, List.set_cons_succ]
        refine Go.HM.take_ (i := 11) (oi := { dst := some 22, op := .move (.tmp 3), type := 3, pos := "module.go:68", after := #[], guard := none }) (v := ?_) rfl (by decide) (by decide) (by kernel_rfl) (by kernel_rfl) (fun _ _ _ h => h) (by first | exact Or.inl (by assumption) | exact Or.inr (by kernel_rfl)) (Or.inl ⟨by rfl, ?_⟩) ?_
        rotate_left
        · intro w hSw
          (try dsimp only at hSw)
          (go_simp; try (with_reducible rfl))
        try simp only [Act.put, List.setIfInBounds_toArray, List.set_cons_zero, List.set_cons_succ]
        refine Go.HM.take_ (i := 12) (oi := { dst := some 23, op := .indexAddr 22 (.tmp 21) (.tmp 22), type := 0, pos := "module.go:68", after := #[{ on := 10, ground := .data }, { on := 11, ground := .data }], guard := none }) (v := ?_) rfl (by decide) (by decide) (by kernel_rfl) (by kernel_rfl) (fun _ _ _ h => h) (by first | exact Or.inl (by assumption) | exact Or.inr (by kernel_rfl)) (Or.inl ⟨by rfl, ?_⟩) ?_
        rotate_left
        · intro w hSw
          (try dsimp only at hSw)
          (go_simp; try (with_reducible rfl))
        try simp only [Act.put, List.setIfInBounds_toArray, List.set_cons_zero, List.set_cons_succ]
        refine Go.HM.take_ (i := 13) (oi := { dst := some 24, op := .fieldAddr 46 (.tmp 23) 4, type := 0, pos := "module.go:68", after := #[{ on := 12, ground := .data }], guard := none }) (v := ?_) rfl (by decide) (by decide) (by kernel_rfl) (by kernel_rfl) (fun _ _ _ h => h) (by first | exact Or.inl (by assumption) | exact Or.inr (by kernel_rfl)) (Or.inl ⟨by rfl, ?_⟩) ?_
        rotate_left
        · intro w hSw
          (try dsimp only at hSw)
          (go_simp; try (with_reducible rfl))
        try simp only [Act.put, List.setIfInBounds_toArray, List.set_cons_zero, List.set_cons_succ]
        refine Go.HM.load_ (i := 14) (oi := { dst := some 25, op := .load 22 (.tmp 24), type := 22, pos := "module.go:68", after := #[{ on := 13, ground := .data }], guard := none }) (v := ?_) rfl (by decide) (by decide) (by kernel_rfl) (by kernel_rfl) (by kernel_rfl) (fun _ _ _ h => h) (by first | exact Or.inl (by assumption) | exact Or.inr (by kernel_rfl)) (Or.inl ⟨by rfl, ?_⟩) ?_
        rotate_left
        · intro w hSw
          (try dsimp only at hSw)
          obtain ⟨y5, y6⟩ := hSw; (go_simp; try (with_reducible rfl))
        try simp only [Act.put, List.setIfInBounds_toArray, List.set_cons_zero, List.set_cons_succ]
        refine Go.HM.step_ (i := 9) (o := { dst := some 20, op := .call { callee := .value (.func 63), args := #[.tmp 19], argTypes := #[44] }, type := 44, pos := "module.go:68", after := #[{ on := 8, ground := .data }], guard := none }) rfl (by decide) (by kernel_rfl) (fun K hK => ?_)
        go_simp
        refine (clone63_calls wr.drew aa al ac (refV args) (by rw [refV_length, HRF.out.1]) (refs_list (HRF.out.below HBW.out)) (refV_one _) hal).mono ?_
        rintro e w5 ⟨v5, rfl, hcl⟩
        obtain ⟨a5, c5', rfl, hle5⟩ := hcl.shape
        dsimp only
        have hC5 : w5.cell? ⟨g, i * 7 + 5, none⟩ = some (.slice aa al ac) ∧ w5.cell? ⟨g, i * 7 + 6, none⟩ = some (.slice ba bl bc) := ⟨(hcl.below.cell (p := ⟨g, i * 7 + 5, none⟩) hgz.2).trans hC.1, (hcl.below.cell (p := ⟨g, i * 7 + 6, none⟩) hgz.2).trans hC.2⟩
        have HB5 : Hid (Below wr.heap.size wr w5) := Lib.hid (HWD.out.trans hcl.below)
        have HRF5 : Hid (ReadsRefs (TH w5 (g :: List.range w.heap.size)) a5 al args) := Lib.hid (refs_own hcl.own HRF.out.1 hal (fun b hb => by
          have h2 := HM.out.bel.size
          rcases List.mem_cons.1 hb with h | h
          · rw [h]; exact hgz.2
          · have := List.mem_range.1 h; show b < wr.heap.size; omega))
        clear hcl hC
        refine hK.out _ _ (.inl hC5) ?_
        clear hK K
        try simp only [Act.put, List.setIfInBounds_toArray, List.set_cons_zero, List.set_cons_succ]
        refine Go.HM.step_ (i := 15) (o := { dst := some 26, op := .call { callee := .value (.func 35), args := #[.tmp 25], argTypes := #[22] }, type := 22, pos := "module.go:68", after := #[{ on := 14, ground := .data }, { on := 9, ground := .chain }], guard := none }) rfl (by decide) (by kernel_rfl) (fun K hK => ?_)
        go_simp
        refine (IH.out body HSZ.out w5 ba bl bc (HBD.out.below (HM.out.bel.trans (HB5.out.mono HM.out.bel.size))) HSB.out hbl).mono ?_
        rintro e w6 ⟨a6, c6', rfl, hle6, hrb, hb6⟩
        dsimp only
        have hz5 : wr.heap.size ≤ w5.heap.size := HB5.out.size
        have hC6 : w6.cell? ⟨g, i * 7 + 5, none⟩ = some (.slice aa al ac) ∧ w6.cell? ⟨g, i * 7 + 6, none⟩ = some (.slice ba bl bc) := ⟨(hb6.cell (p := ⟨g, i * 7 + 5, none⟩) (show g < w5.heap.size by omega)).trans hC5.1, (hb6.cell (p := ⟨g, i * 7 + 6, none⟩) (show g < w5.heap.size by omega)).trans hC5.2⟩
        have HB6 : Hid (Below wr.heap.size wr w6) := Lib.hid (HB5.out.trans (hb6.mono hz5))
        have HRF6 := Lib.hid (HRF5.out.sub (th_below hb6))
        have HRB6 : Hid (ReadsBody (TH w6 (g :: List.range w.heap.size)) a6 bl body) := Lib.hid (hrb.sub (th_less (fun b hb => by
          have h2 := HM.out.bel.size
          rcases List.mem_cons.1 hb with h | h
          · rw [h]; exact List.mem_range.2 (by omega)
          · have := List.mem_range.1 h; exact List.mem_range.2 (by omega))))
        have fr6 : ∀ o, w6.frozen? ⟨g, o, none⟩ = false := own_frozen (own_below HM.out.own HB6.out)
        have HOW6 := Lib.hid (own_below HM.out.own HB6.out)
        clear hrb hb6 hC5
        have d5 := hC6.1
        have d6 := hC6.2
        refine hK.out _ _ (.inl hC6) ?_
        clear hK K
        try simp only [Act.put, List.setIfInBounds_toArray, List.set_cons_zero, List.set_cons_succ]
        refine Go.HM.take_ (i := 16) (oi := { dst := some 27, op := .indexAddr 22 (.tmp 11) (.tmp 12), type := 0, pos := "module.go:68", after := #[{ on := 0, ground := .data }, { on := 1, ground := .data }, { on := 0, ground := .phase }, { on := 1, ground := .phase }, { on := 2, ground := .textOnly .lateStores }, { on := 3, ground := .textOnly .lateStores }, { on := 4, ground := .phase }, { on := 5, ground := .phase }, { on := 6, ground := .phase }, { on := 7, ground := .phase }, { on := 8, ground := .phase }, { on := 9, ground := .phase }, { on := 10, ground := .textOnly .lateStores }, { on := 11, ground := .textOnly .lateStores }, { on := 12, ground := .textOnly .lateStoresUnsure }, { on := 13, ground := .textOnly .lateStoresUnsure }, { on := 14, ground := .phase }, { on := 15, ground := .phase }], guard := none }) (v := ?_) rfl (by decide) (by decide) (by kernel_rfl) (by kernel_rfl) (fun _ _ _ h => h) (by first | exact Or.inl (by assumption) | exact Or.inr (by kernel_rfl)) (Or.inl ⟨by rfl, ?_⟩) ?_
        rotate_left
        · intro w hSw
          (try dsimp only at hSw)
          (go_simp; try (with_reducible rfl))
        try simp only [Act.put, List.setIfInBounds_toArray, List.set_cons_zero, List.set_cons_succ]
        refine Go.HM.take_ (i := 17) (oi := { dst := some 28, op := .fieldAddr 46 (.tmp 27) 3, type := 0, pos := "module.go:68", after := #[{ on := 16, ground := .data }, { on := 0, ground := .phase }, { on := 1, ground := .phase }, { on := 2, ground := .textOnly .lateStores }, { on := 3, ground := .textOnly .lateStores }, { on := 4, ground := .phase }, { on := 5, ground := .phase }, { on := 6, ground := .phase }, { on := 7, ground := .phase }, { on := 8, ground := .phase }, { on := 9, ground := .phase }, { on := 10, ground := .textOnly .lateStores }, { on := 11, ground := .textOnly .lateStores }, { on := 12, ground := .textOnly .lateStoresUnsure }, { on := 13, ground := .textOnly .lateStoresUnsure }, { on := 14, ground := .phase }, { on := 15, ground := .phase }], guard := none }) (v := ?_) rfl (by decide) (by decide) (by kernel_rfl) (by kernel_rfl) (fun _ _ _ h => h) (by first | exact Or.inl (by assumption) | exact Or.inr (by kernel_rfl)) (Or.inl ⟨by rfl, ?_⟩) ?_
        rotate_left
        · intro w hSw
          (try dsimp only at hSw)
          (go_simp; try (with_reducible rfl))
        try simp only [Act.put, List.setIfInBounds_toArray, List.set_cons_zero, List.set_cons_succ]
        refine Go.HM.step_ (i := 18) (o := { dst := none, op := .store 44 (.tmp 28) (.tmp 20), type := 0, pos := "module.go:68", after := #[{ on := 17, ground := .data }, { on := 9, ground := .data }, { on := 15, ground := .chain }, { on := 0, ground := .phase }, { on := 1, ground := .phase }, { on := 2, ground := .textOnly .lateStores }, { on := 3, ground := .textOnly .lateStores }, { on := 4, ground := .phase }, { on := 5, ground := .phase }, { on := 6, ground := .phase }, { on := 7, ground := .phase }, { on := 8, ground := .phase }, { on := 9, ground := .phase }, { on := 10, ground := .textOnly .lateStores }, { on := 11, ground := .textOnly .lateStores }, { on := 12, ground := .textOnly .lateStoresUnsure }, { on := 13, ground := .textOnly .lateStoresUnsure }, { on := 14, ground := .phase }, { on := 15, ground := .phase }], guard := none }) rfl (by decide) (by kernel_rfl) (fun K hK => ?_)
        go_simp
        refine hK.out _ _ (.inr (by kernel_rfl)) ?_
        clear hK K
        try simp only [Act.put, List.setIfInBounds_toArray, List.set_cons_zero, List.set_cons_succ]
        refine Go.HM.done_ (by kernel_rfl) ?_
        simp only [List.drop_succ_cons, List.drop_zero]
        obtain ⟨W7, hW7⟩ : ∃ W7, W7 = w6.setCell ⟨g, i * 7 + 5, none⟩ (.slice a5 al c5') := ⟨_, rfl⟩
        have e6 : W7.cell? ⟨g, i * 7 + 6, none⟩ = some (.slice ba bl bc) := by
          rw [hW7]
          have := (HOW6.out.stored (i * 7 + 5) (.slice a5 al c5')).1
          refine own_cell this ?_
          rw [List.getElem?_set, if_neg (by omega)]
          exact HVS.out 6 _ rfl
        have fr7 : ∀ o, W7.frozen? ⟨g, o, none⟩ = false := by rw [hW7]; exact own_frozen (HOW6.out.stored (i * 7 + 5) (.slice a5 al c5')).1
        rw [← hW7]
        have HW7 := Lib.hid hW7
        clear hW7 hC6 d5 d6 fr6
        go_wp2_with fail
        have HMS : Hid (Mix w (W7.setCell ⟨g, i * 7 + 6, none⟩ (.slice a6 bl c6')) g n cp1 (i + 1) ((ys.set (i * 7 + 5) (.slice a5 al c5')).set (i * 7 + 6) (.slice a6 bl c6')) l) := Lib.hid (by rw [HW7.out]; exact HM.out.step HS.out HVS.out HB6.out HRF6.out HRB6.out)
        go_roundg (n - (i + 1))
        case measure => have := HK.out; omega
        case rel => exact ⟨i + 1, _, by go_num, by omega, rfl, HMS⟩
      · obtain rfl : n = i := by omega
        have hnn : ¬ (n : Int) < (n : Int) := by omega
        have hgz := World.ownsRow.lt HM.out.own g rfl
        have HRB : Hid (ReadsBody (TH wr (List.range w.heap.size)) (some ⟨g, 0, none⟩) n l) := Lib.hid ⟨HLEN.out, by unfold maxLen; omega, fun _ => ⟨g, 0, rfl, CellsAll.of fun j s hj => by
          obtain ⟨vs, k1, k2⟩ := HM.out.at_ j s hj
          rw [if_pos (by have := (List.getElem?_eq_some_iff.1 hj).1; rw [HLEN.out] at this; exact this)] at k1
          refine ⟨vs, k1.sub (th_less fun b hb => List.mem_cons_of_mem _ hb), fun q v hv => ?_⟩
          refine Sub.sans ?_ (own_thaw (g := g) HM.out.own (fun b hb e => by have := List.mem_range.1 hb; omega))
          rw [Nat.zero_add]
          exact own_cell HM.out.own (k2 q v hv)⟩⟩
        go_wp2_with fail
        go_ret
        exact ⟨_, _, rfl, hle, HRB.out, HM.out.bel⟩
end Go.Proofs.Ytjgijbaboekghaa

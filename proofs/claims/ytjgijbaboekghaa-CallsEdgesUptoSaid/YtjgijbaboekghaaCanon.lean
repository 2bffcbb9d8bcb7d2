/-
  r05.Canon (function 29): a module, with its strings as they should be.
-/
import Derived.Test.YtjgijbaboekghaaOwn2
import Derived.Deep.QuietTactic
import Derived.BigQuiet
import Derived.WalkLawsBesides
import Derived.IntWalk
import Derived.Test.YtjgijbaboekghaaVars
import Derived.Deep.CutRange
set_option linter.unusedVariables false
set_option linter.unusedSimpArgs false
namespace Go.Proofs.Ytjgijbaboekghaa
open Go.RowKit
/-- A string sinks towards the head, past those that are greater. -/
def gtS (a b : ByteArray) : Bool := !Op.bytesLess a.toList b.toList && !(a.toList == b.toList)
def bub (l : List ByteArray) : Nat → List ByteArray
  | 0 => l
  | k + 1 => if gtS (l.getD k ⟨#[]⟩) (l.getD (k + 1) ⟨#[]⟩) then bub ((l.set (k + 1) (l.getD k ⟨#[]⟩)).set k (l.getD (k + 1) ⟨#[]⟩)) k else l
theorem bub_length (l : List ByteArray) (k : Nat) : (bub l k).length = l.length := by
  induction k generalizing l with
  | zero => rfl
  | succ k ih =>
    rw [bub]
    split
    · rw [ih, List.length_set, List.length_set]
    · rfl
theorem own_set {w : World} {B n c g i : Nat} {e : TypeId} {size : Nat} {xs : List Value} (h : w.ownsRow B e size (.slice (some ⟨g, 0, none⟩) n c) n xs) (u : Value) : (w.setCell ⟨g, i, none⟩ u).ownsRow B e size (.slice (some ⟨g, 0, none⟩) n c) n (xs.set i u) :=
  have h1 : Owns w B [⟨e, size, .slice (some ⟨g, 0, none⟩) n c, n, xs⟩] := ⟨fun r hr => by
    rw [List.mem_singleton] at hr
    subst hr
    exact h, List.pairwise_singleton _ _⟩
  (h1.store (i := i) rfl u).head
def canonL (m : Mod) : Nat → List ByteArray
  | 0 => []
  | i + 1 => if usedIn m i = true ∧ numberOf (canonL m i) (strAt m.strings i) < 0 then bub (canonL m i ++ [strAt m.strings i]) (canonL m i).length else canonL m i
theorem canonL_yes {m : Mod} {i : Nat} (h1 : usedIn m i = true) (h2 : numberOf (canonL m i) (strAt m.strings i) < 0) : canonL m (i + 1) = bub (canonL m i ++ [strAt m.strings i]) (canonL m i).length := by rw [canonL, if_pos ⟨h1, h2⟩]
theorem canonL_no {m : Mod} {i : Nat} (h : ¬ (usedIn m i = true ∧ numberOf (canonL m i) (strAt m.strings i) < 0)) : canonL m (i + 1) = canonL m i := by rw [canonL, if_neg h]
theorem strAt_of {l : List ByteArray} {i : Nat} {s : ByteArray} (h : l[i]? = some s) : strAt l i = s := by unfold strAt; rw [Int.toNat_natCast, List.getD_eq_getElem?_getD, h]; rfl
theorem strs_set (l : List ByteArray) (i : Nat) (x : ByteArray) : strs (l.set i x) = (strs l).set i (.string x) := by unfold strs; rw [List.map_set]
def canonF (L src : List ByteArray) (f : Fn) : Fn := { name := numberOf L (strAt src f.name), params := f.params, locals := numbersOf L src f.locals, sites := numbersOf L src f.sites, body := f.body }
def canonM (m : Mod) : Mod := { strings := canonL m m.strings.length, globals := numbersOf (canonL m m.strings.length) m.strings m.globals, funcs := m.funcs.map (canonF (canonL m m.strings.length) m.strings), entries := m.entries }
theorem sub_alloc_less (w : World) (o : Obj) (bs : List Nat) : Sub (sans w bs) (sans (w.alloc o) (w.heap.size :: bs)) := sub_sans fun k hk hkb => ⟨fun h => by
  rcases List.mem_cons.1 h with h | h
  · omega
  · exact hkb h, heap_alloc_old w o hk⟩
theorem set4_blk {w : World} {g : Nat} {t : TypeId} {u0 u1 u2 u3 : Value} (h : w.heap[g]? = some (.cells #[u0, u1, u2, u3] t)) (v0 v1 v2 v3 : Value) : ((((w.setCell ⟨g, 0, none⟩ v0).setCell ⟨g, 1, none⟩ v1).setCell ⟨g, 2, none⟩ v2).setCell ⟨g, 3, none⟩ v3).heap[g]? = some (.cells #[v0, v1, v2, v3] t) :=
  blk_set (blk_set (blk_set (blk_set h 0 v0) 1 v1) 2 v2) 3 v3
theorem set4_heap (w : World) (g k : Nat) (hk : k ≠ g) (v0 v1 v2 v3 : Value) : ((((w.setCell ⟨g, 0, none⟩ v0).setCell ⟨g, 1, none⟩ v1).setCell ⟨g, 2, none⟩ v2).setCell ⟨g, 3, none⟩ v3).heap[k]? = w.heap[k]? := by
  have h : ∀ (W : World) (o : Nat) (v : Value), (W.setCell ⟨g, o, none⟩ v).heap[k]? = W.heap[k]? := fun W o v => Below.heap_setCell W ⟨g, o, none⟩ v k hk
  rw [h, h, h, h]
theorem set4_far {w : World} {g k : Nat} {o : Obj} (h : w.heap[k]? = some o) (hk : k ≠ g) (v0 v1 v2 v3 : Value) : ((((w.setCell ⟨g, 0, none⟩ v0).setCell ⟨g, 1, none⟩ v1).setCell ⟨g, 2, none⟩ v2).setCell ⟨g, 3, none⟩ v3).heap[k]? = some o := (set4_heap w g k hk v0 v1 v2 v3).trans h
theorem set4_sub (w : World) (g : Nat) (bs : List Nat) (v0 v1 v2 v3 : Value) (hg : g ∈ bs) : Sub (sans w bs) (sans ((((w.setCell ⟨g, 0, none⟩ v0).setCell ⟨g, 1, none⟩ v1).setCell ⟨g, 2, none⟩ v2).setCell ⟨g, 3, none⟩ v3) bs) :=
  sub_sans fun k _ hkb => ⟨hkb, set4_heap w g k (fun e => hkb (e ▸ hg)) v0 v1 v2 v3⟩
theorem set4_below {B : Nat} {w0 w : World} {g : Nat} (h : Below B w0 w) (hg : B ≤ g) (v0 v1 v2 v3 : Value) : Below B w0 ((((w.setCell ⟨g, 0, none⟩ v0).setCell ⟨g, 1, none⟩ v1).setCell ⟨g, 2, none⟩ v2).setCell ⟨g, 3, none⟩ v3) :=
  (((h.setCell (p := ⟨g, 0, none⟩) hg v0).setCell (p := ⟨g, 1, none⟩) hg v1).setCell (p := ⟨g, 2, none⟩) hg v2).setCell (p := ⟨g, 3, none⟩) hg v3
theorem one5 (a b : Int) (x y z : Option Addr) (p q r s t u : Nat) : ∀ v ∈ (#[Value.int .i64 a, .int .i64 b, .slice x p q, .slice y r s, .slice z t u] : Array Value).toList, v.oneCell' = true := by
  intro v hv
  simp at hv
  rcases hv with rfl | rfl | rfl | rfl | rfl <;> rfl
theorem map_take_succ {α β : Type} {l : List α} {x : α} {i : Nat} (g : α → β) (h : l[i]? = some x) : (l.map g).take (i + 1) = (l.map g).take i ++ [g x] := by
  obtain ⟨hi, rfl⟩ := List.getElem?_eq_some_iff.1 h
  rw [List.take_succ_eq_append_getElem (by simpa using hi)]
  simp
theorem own_base {w : World} {B B' n : Nat} {e : TypeId} {size : Nat} {v : Value} {xs : List Value} (h : w.ownsRow B e size v n xs) (hB : B' ≤ B) : w.ownsRow B' e size v n xs := by
  refine ⟨h.1, ?_⟩
  rcases h.2 with h2 | ⟨g, cap, cur, e, hb, r⟩
  · exact .inl h2
  · exact .inr ⟨g, cap, cur, e, by omega, r⟩
theorem own_set4 {w : World} {base : Nat} {e : TypeId} {size n : Nat} {v : Value} {xs : List Value} (h : w.ownsRow base e size v n xs) {g : Nat} (hg : g < base) (v0 v1 v2 v3 : Value) : ((((w.setCell ⟨g, 0, none⟩ v0).setCell ⟨g, 1, none⟩ v1).setCell ⟨g, 2, none⟩ v2).setCell ⟨g, 3, none⟩ v3).ownsRow base e size v n xs := by
  have k : ∀ o, some (⟨g, o, none⟩ : Addr).block ≠ v.ownBlock := fun o e => by
    have : base ≤ g := (World.ownsRow.lt h _ e.symm).1
    omega
  exact own_setCell (own_setCell (own_setCell (own_setCell h (k 0) _) (k 1) _) (k 2) _) (k 3) _
theorem numbersOf_length (l src : List ByteArray) (xs : List Int) : (numbersOf l src xs).length = xs.length := by unfold numbersOf; rw [List.length_map]
/-- All that are named are there. -/
structure Named (m : Mod) : Prop where
  globals : ∀ y ∈ m.globals, 0 ≤ y ∧ y.toNat < m.strings.length
  names : ∀ f ∈ m.funcs, 0 ≤ f.name ∧ f.name.toNat < m.strings.length
  locals : ∀ f ∈ m.funcs, ∀ y ∈ f.locals, 0 ≤ y ∧ y.toNat < m.strings.length
  sites : ∀ f ∈ m.funcs, ∀ y ∈ f.sites, 0 ≤ y ∧ y.toNat < m.strings.length
/-- A module whose row of functions is the call's own. -/
def Canoned (w : World) (bs0 : List Nat) (m : Mod) (e : Ending) (w' : World) : Prop := ∃ sv gv A n cp ev xs, e = .returned (.agg #[sv, gv, .slice A n cp, ev]) ∧ n = m.funcs.length ∧ n ≤ 1000 ∧ Below w.heap.size w w' ∧ w'.ownsRow w.heap.size 35 5 (.slice A n cp) n xs ∧
  FnsAt (sans w' ((Value.slice A n cp).ownBlock.toList ++ bs0)) xs m.funcs ∧ ReadsS (sans w' ((Value.slice A n cp).ownBlock.toList ++ bs0)) sv m.strings ∧ ReadsI (sans w' ((Value.slice A n cp).ownBlock.toList ++ bs0)) gv m.globals ∧ ReadsI (sans w' ((Value.slice A n cp).ownBlock.toList ++ bs0)) ev m.entries
theorem sub_new0 {w w' : World} {bs bs0 : List Nat} (hb : Below w.heap.size w w') (hbs : ∀ b ∈ bs, w.heap.size ≤ b ∨ b ∈ bs0) : Sub (sans w bs0) (sans w' bs) := sub_sans fun k hk hkb =>
  ⟨fun h => by
    rcases hbs k h with h1 | h1
    · omega
    · exact hkb h1, hb.block k hk⟩
/-- The cell of a string in a row of the call's own. -/
theorem str_cell {w : World} {B n i : Nat} {A : Option Addr} {cp : Nat} {xs : List ByteArray} (h : w.ownsRow B 9 1 (.slice A n cp) n (strs xs)) (hl : xs.length = n) (hi : i < n) : ∃ g, A = some ⟨g, 0, none⟩ ∧ B ≤ g ∧ w.cell? ⟨g, i, none⟩ = some (.string (xs.getD i ⟨#[]⟩)) ∧ w.frozen? ⟨g, i, none⟩ = false := by
  rcases h.2 with ⟨e, h0⟩ | ⟨g, cap, cur, e, hb, hh, h1, h2, h3, h4⟩
  · omega
  · injection e with e1 e2 e3
    refine ⟨g, e1, hb, ?_, (blk3 hh).2.1 i⟩
    rw [(blk3 hh).1]
    have : (cur.toList.take (n * 1))[i]? = some (.string (xs.getD i ⟨#[]⟩)) := by
      rw [h4, strs, List.getElem?_map, List.getElem?_eq_getElem (by omega), List.getD_eq_getElem?_getD, List.getElem?_eq_getElem (by omega)]; rfl
    rw [Nat.mul_one, List.getElem?_take_of_lt hi] at this
    simpa using this
set_option maxRecDepth 100000 in
set_option maxHeartbeats 4000000 in
theorem canon_calls (w : World) (v : Value) (m : Mod) (bs0 : List Nat) (hbs0 : ∀ b ∈ bs0, b < w.heap.size) (h : ReadsM (sans w bs0) v m) (hw : Named m) : Calls Try.prog 29 #[v] w (Canoned w bs0 (canonM m)) := by
  have HB0 := Lib.hid hbs0
  clear hbs0
  have HW := Lib.hid hw
  clear hw
  obtain ⟨sv, gv, fv, ev, rfl, hs, hg, hf, he⟩ := h
  obtain ⟨sa, sc, rfl, hsn⟩ := hs.shape
  obtain ⟨ga, gc, rfl, hgn⟩ := hg.shape
  obtain ⟨fa, fc, rfl, hfn⟩ := hf.shape
  obtain ⟨ea, ec, rfl, hen⟩ := he.shape
  obtain ⟨N, hN⟩ : ∃ n, n = m.strings.length := ⟨_, rfl⟩
  obtain ⟨G, hG⟩ : ∃ n, n = m.globals.length := ⟨_, rfl⟩
  obtain ⟨F, hF⟩ : ∃ n, n = m.funcs.length := ⟨_, rfl⟩
  obtain ⟨E, hE⟩ : ∃ n, n = m.entries.length := ⟨_, rfl⟩
  rw [← hN] at hs hsn ⊢
  rw [← hG] at hg hgn ⊢
  rw [← hF] at hf hfn ⊢
  rw [← hE] at he hen ⊢
  have HE0 := Lib.hid he
  have HF0 := Lib.hid hf
  replace hs := hs.sub (sans_sub w bs0)
  replace hg := hg.sub (sans_sub w bs0)
  replace hf := hf.sub (sans_sub w bs0)
  replace he := he.sub (sans_sub w bs0)
  have HM := Lib.hid (⟨_, _, _, _, rfl, hs, hg, hf, he⟩ : ReadsM w (.agg #[.slice sa N sc, .slice ga G gc, .slice fa F fc, .slice ea E ec]) m)
  have HNl := Lib.hid hN
  have HGl := Lib.hid hG
  have HFl := Lib.hid hF
  have HEl := Lib.hid hE
  have HS := Lib.hid hs
  have HG := Lib.hid hg
  have HF := Lib.hid hf
  have HE := Lib.hid he
  clear hN hG hF hE hs hg hf he
  go_enter Try.func29, Try.ntmps29
  go_wp2
  go_loopw [3, 4] (fun v3 iv wr => ∃ (i n : Nat) (A : Option Addr) (cp : Nat) (l : List ByteArray), i ≤ N ∧ n ≤ i ∧ iv = .int .i64 i ∧ v3 = .slice A n cp ∧ Hid (l.length = n) ∧ Hid (l = canonL m i) ∧ Hid (wr.ownsRow (w.heap.size + 1 + 1) 9 1 (.slice A n cp) n (strs l)) ∧ Hid (Below w.heap.size w wr) ∧ Hid (wr.heap[w.heap.size]? = some (.cells #[.slice sa N sc, .slice ga G gc, .slice fa F fc, .slice ea E ec] 32)) ∧ Hid (wr.heap[w.heap.size + 1]? = some (.cells #[.slice none 0 0, .slice none 0 0, .slice none 0 0, .slice none 0 0] 32))) (fun _ iv _ => N - (intOf iv).toNat)
  case atStart => exact ⟨0, 0, none, 0, [], Nat.zero_le _, Nat.le_refl _, rfl, rfl, rfl, rfl, World.ownsRow_nil _ _ _ _, ((Below.refl _ _).alloc (Nat.le_refl _) _).alloc (by simp) _, blk_alloc (heap_alloc_new w _) _, by have := heap_alloc_new (w.alloc (.cells #[.slice sa N sc, .slice ga G gc, .slice fa F fc, .slice ea E ec] 32)) (.cells #[.slice none 0 0, .slice none 0 0, .slice none 0 0, .slice none 0 0] 32); rwa [show (w.alloc (.cells #[.slice sa N sc, .slice ga G gc, .slice fa F fc, .slice ea E ec] 32)).heap.size = w.heap.size + 1 by simp] at this⟩
  case round =>
    obtain ⟨i, n, A, cp, l, hi, hn, rfl, rfl, HLn, HC, HO, HB, H1, H2⟩ := hrel
    obtain ⟨c1, f1, z1⟩ := blk3 H1.out
    obtain ⟨c2, f2, z2⟩ := blk3 H2.out
    by_cases hlt : i < N
    · go_wp2_with fail
      refine (used_calls wr _ m (i : Int) (ReadsM.sub (sub_below HB.out) HM.out)).mono ?_
      rintro e w2 ⟨rfl, hb2⟩
      obtain ⟨b, off, s, rfl, hs, cs⟩ := ((HS.out.sub (sub_below HB.out)).sub (sub_below hb2)).at hlt
      have K1 := Lib.hid (blk_below H1.out hb2)
      have K2 := Lib.hid (blk_below H2.out hb2)
      have KB := Lib.hid (HB.out.trans (hb2.mono HB.out.size))
      have KO := Lib.hid (own_below HO.out hb2)
      have HSI := Lib.hid hs
      clear c1 f1 z1 c2 f2 z2 H1 H2 HB HO hb2 hs
      obtain ⟨c1, f1, z1⟩ := blk3 K1.out
      obtain ⟨c2, f2, z2⟩ := blk3 K2.out
      cases hu : usedIn m i with
      | false =>
        have HU := Lib.hid (show canonL m (i + 1) = l by rw [canonL_no (fun h => by rw [hu] at h; cases h.1), HC.out])
        go_wp2
        refine ⟨⟨i + 1, n, A, cp, l, by omega, by omega, by go_num, rfl, HLn, HU.out.symm, KO, KB, K1, K2⟩, by simp [intOf]; omega⟩
      | true =>
        go_wp2_with fail
        refine (number_calls w2 _ l s (ReadsS.sub (sans_sub w2 []) (ReadsS.own KO.out HLn.out (by omega) (by simp)))).mono ?_
        rintro e w3 ⟨rfl, rfl⟩
        by_cases hnum : numberOf l s < 0
        · go_wp2_with (at_builtin; refine append_list2 (B := w.heap.size + 1 + 1) (w0 := w2.alloc (.cells #[.string s] 9)) rfl _ _ 28 9 (.string ⟨#[]⟩) 1 16 rfl Try.underlying28 info9 rfl (by decide) (.slice A n cp) n _ rfl (own_below KO.out ((Below.refl _ _).alloc (Nat.le_refl _) _)) ⟨w2.heap.size, 0, none⟩ 1 1 [.string s] rfl rfl (new_cells _ _ _ _) ?h1 ?hB (Below.refl _ _) (by omega) (by omega) ?_; rotate_right; intro v1 w3 hown hb1 _ _; obtain ⟨A1, cp1, rfl, _, _⟩ := own_shape hown; have KO1 := Lib.hid hown; have K11 := Lib.hid ((hb1.block _ (by omega)).trans (blk_alloc K1.out _)); have K21 := Lib.hid ((hb1.block _ (by omega)).trans (blk_alloc K2.out _)); have KB1 := Lib.hid ((KB.out.alloc KB.out.size _).trans (hb1.mono (by omega))); clear hown hb1 c1 f1 z1 c2 f2 z2)
          · have HU := Lib.hid hu
            have HNUM := Lib.hid (show canonL m (i + 1) = bub (l ++ [s]) n by rw [canonL_yes hu (by rw [strAt_of HSI.out, ← HC.out]; exact hnum), strAt_of HSI.out, ← HC.out, HLn.out])
            have HL1 := Lib.hid (show (l ++ [s]).length = n + 1 by rw [List.length_append, HLn.out]; rfl)
            have KO1' := Lib.hid (show w3.ownsRow (w.heap.size + 1 + 1) 9 1 (.slice A1 (n + 1) cp1) (n + 1) (strs (l ++ [s])) by have := KO1.out; unfold strs at this ⊢; rw [List.map_append]; exact this)
            clear hu hnum
            go_loopw [5] (fun kv wr => ∃ (k : Nat) (l' : List ByteArray), k ≤ n ∧ kv = .int .i64 k ∧ Hid (l'.length = n + 1) ∧ Hid (wr.ownsRow (w.heap.size + 1 + 1) 9 1 (.slice A1 (n + 1) cp1) (n + 1) (strs l')) ∧ Hid (bub l' k = bub (l ++ [s]) n) ∧ Hid (Below w.heap.size w wr) ∧ Hid (wr.heap[w.heap.size]? = some (.cells #[.slice (some ⟨b, off, none⟩) N sc, .slice ga G gc, .slice fa F fc, .slice ea E ec] 32)) ∧ Hid (wr.heap[w.heap.size + 1]? = some (.cells #[.slice none 0 0, .slice none 0 0, .slice none 0 0, .slice none 0 0] 32))) (fun kv _ => (intOf kv).toNat)
            case atStart => exact ⟨n, l ++ [s], Nat.le_refl _, rfl, HL1, KO1', rfl, KB1, K11, K21⟩
            case round =>
              clear KO KO1 KO1' K1 K2 KB KB1 K11 K21
              obtain ⟨k, l', hk, rfl, HL', HO', HBB, HB', H1', H2'⟩ := hrel
              cases k with
              | zero =>
                have hd : decide (((0 : Nat) : Int) > 0) = false := by decide
                go_wp2_with fail
                go_quiet (fail)
                go_wp2
                have hd2 : Below w.heap.size w (wr.drewN nq) := ⟨HB'.out.os, HB'.out.tape, HB'.out.output, HB'.out.size, HB'.out.block⟩
                refine ⟨⟨i + 1, n + 1, A1, cp1, l', by omega, by omega, by go_num, rfl, HL', by show _ = _; rw [HNUM.out, ← HBB.out, bub], HO'.out, hd2, H1'.out, H2'.out⟩, by simp [intOf]; omega⟩
              | succ j =>
                obtain ⟨g, hA, hg, cx, fx⟩ := str_cell (i := j) HO'.out HL'.out (by omega)
                obtain ⟨g', hA', _, cy, fy⟩ := str_cell (i := j + 1) HO'.out HL'.out (by omega)
                subst hA
                obtain rfl : g = g' := by injection hA' with h; injection h
                clear hA'
                obtain ⟨x, hx⟩ : ∃ x, x = l'.getD j ⟨#[]⟩ := ⟨_, rfl⟩
                obtain ⟨y, hy⟩ : ∃ y, y = l'.getD (j + 1) ⟨#[]⟩ := ⟨_, rfl⟩
                rw [← hx] at cx
                rw [← hy] at cy
                have HX := Lib.hid hx
                have HY := Lib.hid hy
                clear hx hy
                have e1 : ((j + 1 : Nat) : Int) = (j : Int) + 1 := by omega
                have e2 : IntKind.i64.wrap ((j : Int) + 1 - 1) = (j : Int) := by rw [IntWalk.i64_in _ (by omega)]; omega
                rw [e1]
                go_wp2_with fail
                go_quiet (fail)
                go_wp2
                · rename_i hgt
                  have hd2 : Below w.heap.size w (wr.drewN nq) := ⟨HB'.out.os, HB'.out.tape, HB'.out.output, HB'.out.size, HB'.out.block⟩
                  have ho2 : (wr.drewN nq).ownsRow (w.heap.size + 1 + 1) 9 1 (.slice (some ⟨g, 0, none⟩) (n + 1) cp1) (n + 1) (strs l') := HO'.out
                  have h12 : (wr.drewN nq).heap[w.heap.size]? = some (.cells #[.slice (some ⟨b, off, none⟩) N sc, .slice ga G gc, .slice fa F fc, .slice ea E ec] 32) := H1'.out
                  have h22 : (wr.drewN nq).heap[w.heap.size + 1]? = some (.cells #[.slice none 0 0, .slice none 0 0, .slice none 0 0, .slice none 0 0] 32) := H2'.out
                  refine ⟨⟨j, (l'.set (j + 1) x).set j y, by omega, rfl, by rw [List.length_set, List.length_set]; exact HL', ?_, ?_, (hd2.setCell (p := ⟨g, j + 1, none⟩) (by show w.heap.size ≤ g; omega) _).setCell (p := ⟨g, j, none⟩) (by show w.heap.size ≤ g; omega) _, blk_far (blk_far h12 (p := ⟨g, j + 1, none⟩) (by show w.heap.size ≠ g; omega) _) (p := ⟨g, j, none⟩) (by show w.heap.size ≠ g; omega) _, blk_far (blk_far h22 (p := ⟨g, j + 1, none⟩) (by show w.heap.size + 1 ≠ g; omega) _) (p := ⟨g, j, none⟩) (by show w.heap.size + 1 ≠ g; omega) _⟩, by simp [intOf] <;> omega⟩
                  · show World.ownsRow _ _ _ _ _ _ _
                    rw [strs_set, strs_set]
                    exact own_set (own_set ho2 _) _
                  · show bub _ _ = _
                    rw [← HBB.out, bub, ← HX.out, ← HY.out, if_pos (by unfold gtS; rw [Bool.and_eq_true]; exact hgt)]
                · rename_i hgt
                  have hd2 : Below w.heap.size w (wr.drewN nq) := ⟨HB'.out.os, HB'.out.tape, HB'.out.output, HB'.out.size, HB'.out.block⟩
                  refine ⟨⟨i + 1, n + 1, _, cp1, l', by omega, by omega, by go_num, rfl, HL', by show _ = _; rw [HNUM.out, ← HBB.out, bub, ← HX.out, ← HY.out, if_neg (fun h => by unfold gtS at h; rw [Bool.and_eq_true] at h; rcases hgt with h1 | h1 <;> simp [h1] at h)], HO'.out, hd2, H1'.out, H2'.out⟩, by simp [intOf]; omega⟩
          case h1 =>
            intro u hu
            obtain rfl : u = .string s := by simpa using hu
            rfl
          case hB =>
            simp
            omega
        · have HU := Lib.hid (show canonL m (i + 1) = l by rw [canonL_no (fun h => hnum (by rw [HC.out, ← strAt_of HSI.out]; exact h.2)), HC.out])
          go_wp2
          refine ⟨⟨i + 1, n, A, cp, l, by omega, by omega, by go_num, rfl, HLn, HU.out.symm, KO, KB, K1, K2⟩, by simp [intOf]; omega⟩
    · obtain rfl : i = N := by omega
      go_upto_region 13 with (fail)
      clear c1 f1 z1 c2 f2 z2
      go_cut [7] from 74 to 83 (fun s7 wc => ∃ (g7 : Nat) (na : Option Addr) (nc : Nat), s7 = .pointer (some ⟨g7, 0, none⟩) ∧ w.heap.size + 1 < g7 ∧ g7 < wc.heap.size ∧ Hid (ReadsS (sans wc (g7 :: (w.heap.size + 1) :: bs0)) (.slice A n cp) l) ∧ Hid (ReadsI (sans wc (g7 :: (w.heap.size + 1) :: bs0)) (.slice na G nc) (numbersOf l m.strings m.globals)) ∧
        Hid (wc.heap[w.heap.size]? = some (.cells #[.slice sa i sc, .slice ga G gc, .slice fa F fc, .slice ea E ec] 32)) ∧ Hid (wc.heap[w.heap.size + 1]? = some (.cells #[.slice none 0 0, .slice none 0 0, .slice none 0 0, .slice none 0 0] 32)) ∧ Hid (Below w.heap.size w wc) ∧ Hid (wc.heap[g7]? = some (.cells #[.slice A n cp, .slice na G nc, .slice none 0 0, .slice ea E ec] 32)))
      case first =>
        obtain ⟨c1, f1, z1⟩ := blk3 H1.out
        have hgs : ∀ g, A = some ⟨g, 0, none⟩ → w.heap.size + 1 + 1 ≤ g ∧ g < wr.heap.size := fun g e => World.ownsRow.lt HO.out g (by rw [e]; rfl)
        have HGS := Lib.hid hgs
        have hz0 : w.heap.size + 1 < wr.heap.size := blk_lt H2.out
        clear hgs
        refine wp_region_HL (S := (fun w' => ∀ o, w'.cell? ⟨w.heap.size, o, none⟩ = (#[.slice sa i sc, .slice ga G gc, .slice fa F fc, .slice ea E ec] : Array Value)[o]?)) 11 (by kernel_rfl) (by kernel_rfl) (by kernel_rfl) (by kernel_rfl) (by decide) c1 (fun hHeld => ?_)
        refine HL.take_ (i := 0) (oi := { dst := some 74, op := .move (.tmp 3), type := 28, pos := "ref.go:268", after := #[], guard := none }) (v := ?_) rfl (by decide) (by kernel_rfl) (by kernel_rfl) (fun _ _ _ h => h) (Or.inl ⟨by rfl, ?_⟩) (by assumption) ?_
        rotate_left
        · intro w hSw
          (try dsimp only at hSw)
          have h1 := hSw; (go_simp; try (with_reducible rfl))
        try simp only [Act.put, List.setIfInBounds_toArray, List.set_cons_zero, List.set_cons_succ]
        refine HL.take_ (i := 1) (oi := { dst := some 75, op := .move (.tmp 3), type := 28, pos := "ref.go:268", after := #[], guard := none }) (v := ?_) rfl (by decide) (by kernel_rfl) (by kernel_rfl) (fun _ _ _ h => h) (Or.inl ⟨by rfl, ?_⟩) (by assumption) ?_
        rotate_left
        · intro w hSw
          (try dsimp only at hSw)
          have h1 := hSw; (go_simp; try (with_reducible rfl))
        try simp only [Act.put, List.setIfInBounds_toArray, List.set_cons_zero, List.set_cons_succ]
        refine HL.take_ (i := 2) (oi := { dst := some 76, op := .fieldAddr 32 (.tmp 1) 0, type := 0, pos := "ref.go:268", after := #[], guard := none }) (v := ?_) rfl (by decide) (by kernel_rfl) (by kernel_rfl) (fun _ _ _ h => h) (Or.inl ⟨by rfl, ?_⟩) (by assumption) ?_
        rotate_left
        · intro w hSw
          (try dsimp only at hSw)
          have h1 := hSw; (go_simp; try (with_reducible rfl))
        try simp only [Act.put, List.setIfInBounds_toArray, List.set_cons_zero, List.set_cons_succ]
        refine HL.take_ (i := 3) (oi := { dst := some 77, op := .load 28 (.tmp 76), type := 28, pos := "ref.go:268", after := #[{ on := 2, ground := .data }], guard := none }) (v := ?_) rfl (by decide) (by kernel_rfl) (by kernel_rfl) (fun _ _ _ h => h) (Or.inl ⟨by rfl, ?_⟩) (by assumption) ?_
        rotate_left
        · intro w hSw
          (try dsimp only at hSw)
          have h1 := hSw; (go_simp; try (with_reducible rfl))
        try simp only [Act.put, List.setIfInBounds_toArray, List.set_cons_zero, List.set_cons_succ]
        refine HL.take_ (i := 4) (oi := { dst := some 78, op := .fieldAddr 32 (.tmp 1) 1, type := 0, pos := "ref.go:268", after := #[], guard := none }) (v := ?_) rfl (by decide) (by kernel_rfl) (by kernel_rfl) (fun _ _ _ h => h) (Or.inl ⟨by rfl, ?_⟩) (by assumption) ?_
        rotate_left
        · intro w hSw
          (try dsimp only at hSw)
          have h1 := hSw; (go_simp; try (with_reducible rfl))
        try simp only [Act.put, List.setIfInBounds_toArray, List.set_cons_zero, List.set_cons_succ]
        refine HL.take_ (i := 5) (oi := { dst := some 79, op := .load 29 (.tmp 78), type := 29, pos := "ref.go:268", after := #[{ on := 4, ground := .data }], guard := none }) (v := ?_) rfl (by decide) (by kernel_rfl) (by kernel_rfl) (fun _ _ _ h => h) (Or.inl ⟨by rfl, ?_⟩) (by assumption) ?_
        rotate_left
        · intro w hSw
          (try dsimp only at hSw)
          have h1 := hSw; (go_simp; try (with_reducible rfl))
        try simp only [Act.put, List.setIfInBounds_toArray, List.set_cons_zero, List.set_cons_succ]
        refine HL.take_ (i := 7) (oi := { dst := some 81, op := .fieldAddr 32 (.tmp 1) 3, type := 0, pos := "ref.go:268", after := #[], guard := none }) (v := ?_) rfl (by decide) (by kernel_rfl) (by kernel_rfl) (fun _ _ _ h => h) (Or.inl ⟨by rfl, ?_⟩) (by assumption) ?_
        rotate_left
        · intro w hSw
          (try dsimp only at hSw)
          have h1 := hSw; (go_simp; try (with_reducible rfl))
        try simp only [Act.put, List.setIfInBounds_toArray, List.set_cons_zero, List.set_cons_succ]
        refine HL.take_ (i := 8) (oi := { dst := some 82, op := .load 29 (.tmp 81), type := 29, pos := "ref.go:268", after := #[{ on := 7, ground := .data }], guard := none }) (v := ?_) rfl (by decide) (by kernel_rfl) (by kernel_rfl) (fun _ _ _ h => h) (Or.inl ⟨by rfl, ?_⟩) (by assumption) ?_
        rotate_left
        · intro w hSw
          (try dsimp only at hSw)
          have h1 := hSw; (go_simp; try (with_reducible rfl))
        try simp only [Act.put, List.setIfInBounds_toArray, List.set_cons_zero, List.set_cons_succ]
        refine HL.step2_ (i := 6) (j := 10) (o := { dst := some 80, op := .call { callee := .value (.func 61), args := #[.tmp 75, .tmp 77, .tmp 79], argTypes := #[28, 28, 29] }, type := 29, pos := "ref.go:268", after := #[{ on := 1, ground := .data }, { on := 3, ground := .data }, { on := 5, ground := .data }], guard := none }) (o2 := { dst := some 7, op := .alloc 32, type := 0, pos := "ref.go:268", after := #[], guard := none }) rfl rfl (by decide) (by decide) (by kernel_rfl) (fun K hK => ?_) (fun K hK => ?_)
        · go_simp
          refine (numbers_calls wr.drew _ _ _ l m.strings m.globals (ReadsS.sub (sans_sub wr []) (ReadsS.own HO.out HLn.out (by omega) (by simp))) (HS.out.sub (sub_below HB.out)) (HG.out.sub (sub_below HB.out)) HW.out.globals).mono ?_
          rintro e w3 ⟨v, rfl, hv, hb3⟩
          have hb4 : Below wr.heap.size wr w3 := ⟨hb3.os, hb3.tape, hb3.output, hb3.size, hb3.block⟩
          obtain ⟨na, nc, hv', _⟩ := (hv [] (by simp)).shape
          rw [numbersOf_length, ← HGl.out] at hv'
          subst hv'
          have HV := Lib.hid hv
          have K1 := Lib.hid (blk_below H1.out hb4)
          have K2 := Lib.hid (blk_below H2.out hb4)
          have KB := Lib.hid (HB.out.trans (hb4.mono HB.out.size))
          have KO := Lib.hid (own_below HO.out hb4)
          have hz2 : w.heap.size + 1 < w3.heap.size := blk_lt K2.out
          have hz3 : wr.heap.size ≤ w3.heap.size := hb4.size
          clear hv hb3 hb4 c1 f1 z1
          refine hK.out _ _ (blk3 K1.out).1 (fun hHeld => ?_)
          clear hK K
          try simp only [Act.put, List.setIfInBounds_toArray, List.set_cons_zero, List.set_cons_succ]
          refine HL.take_ (i := 9) (oi := { dst := some 83, op := .build 32 #[(0, .tmp 74), (1, .tmp 80), (3, .tmp 82)], type := 32, pos := "ref.go:268", after := #[{ on := 0, ground := .data }, { on := 6, ground := .data }, { on := 8, ground := .data }], guard := none }) (v := ?_) rfl (by decide) (by kernel_rfl) (by kernel_rfl) (fun _ _ _ h => h) (Or.inl ⟨by rfl, ?_⟩) (by assumption) ?_
          rotate_left
          · intro w hSw
            (try dsimp only at hSw)
            (go_simp; try (with_reducible rfl))
          try simp only [Act.put, List.setIfInBounds_toArray, List.set_cons_zero, List.set_cons_succ]
          refine HL.step_ (i := 10) (o := { dst := some 7, op := .alloc 32, type := 0, pos := "ref.go:268", after := #[], guard := none }) rfl (by decide) (by kernel_rfl) (fun K hK => ?_)
          go_simp
          refine hK.out _ _ (blk3 (blk_alloc K1.out _)).1 (fun hHeld => ?_)
          clear hK K
          try simp only [Act.put, List.setIfInBounds_toArray, List.set_cons_zero, List.set_cons_succ]
          refine HL.done_ (by kernel_rfl) ?_
          simp only [List.drop_succ_cons, List.drop_zero]
          clear hHeld
          go_wp2
          go_meet
          case rel =>
            refine ⟨w3.heap.size, na, nc, rfl, hz2, by simp, ?_, ?_, blk_alloc K1.out _, blk_alloc K2.out _, KB.out.alloc KB.out.size _, heap_alloc_new w3 _⟩
            · exact ReadsS.own (own_below KO.out ((Below.refl _ _).alloc (Nat.le_refl _) _)) HLn.out (by omega) (fun b hb g hg e => by
                subst e
                have := HGS.out b hg
                rcases List.mem_cons.1 hb with rfl | hb
                · omega
                · rcases List.mem_cons.1 hb with rfl | hb
                  · omega
                  · have := HB0.out b hb; omega)
            · exact ReadsI.sub (sub_alloc_less w3 _ _) (HV.out ((w.heap.size + 1) :: bs0) (by
                intro b hb
                show b < wr.heap.size
                rcases List.mem_cons.1 hb with rfl | hb
                · exact hz0
                · have := HB0.out b hb; have := HB.out.size; omega))
        · go_simp
          have J1 := Lib.hid (blk_alloc H1.out (.cells #[.slice none 0 0, .slice none 0 0, .slice none 0 0, .slice none 0 0] 32))
          have J2 := Lib.hid (blk_alloc H2.out (.cells #[.slice none 0 0, .slice none 0 0, .slice none 0 0, .slice none 0 0] 32))
          have J3 := Lib.hid (heap_alloc_new wr (.cells #[.slice none 0 0, .slice none 0 0, .slice none 0 0, .slice none 0 0] 32))
          have JB := Lib.hid (HB.out.alloc HB.out.size (.cells #[.slice none 0 0, .slice none 0 0, .slice none 0 0, .slice none 0 0] 32))
          have JO := Lib.hid (own_below HO.out ((Below.refl _ _).alloc (Nat.le_refl _) (.cells #[.slice none 0 0, .slice none 0 0, .slice none 0 0, .slice none 0 0] 32)))
          have hzW : (wr.alloc (.cells #[.slice none 0 0, .slice none 0 0, .slice none 0 0, .slice none 0 0] 32)).heap.size = wr.heap.size + 1 := by simp
          obtain ⟨W, hW⟩ : ∃ W, W = wr.alloc (.cells #[.slice none 0 0, .slice none 0 0, .slice none 0 0, .slice none 0 0] 32) := ⟨_, rfl⟩
          rw [← hW] at J1 J2 J3 JB JO hzW ⊢
          clear hW c1 f1 z1
          refine hK.out _ _ (blk3 J1.out).1 (fun hHeld => ?_)
          clear hK K
          try simp only [Act.put, List.setIfInBounds_toArray, List.set_cons_zero, List.set_cons_succ]
          refine HL.step_ (i := 6) (o := { dst := some 80, op := .call { callee := .value (.func 61), args := #[.tmp 75, .tmp 77, .tmp 79], argTypes := #[28, 28, 29] }, type := 29, pos := "ref.go:268", after := #[{ on := 1, ground := .data }, { on := 3, ground := .data }, { on := 5, ground := .data }], guard := none }) rfl (by decide) (by kernel_rfl) (fun K hK => ?_)
          go_simp
          refine (numbers_calls W.drew _ _ _ l m.strings m.globals (ReadsS.sub (sans_sub W []) (ReadsS.own JO.out HLn.out (by omega) (by simp))) (HS.out.sub (sub_below JB.out)) (HG.out.sub (sub_below JB.out)) HW.out.globals).mono ?_
          rintro e w3 ⟨v, rfl, hv, hb3⟩
          have hb4 : Below W.heap.size W w3 := ⟨hb3.os, hb3.tape, hb3.output, hb3.size, hb3.block⟩
          obtain ⟨na, nc, hv', _⟩ := (hv [] (by simp)).shape
          rw [numbersOf_length, ← HGl.out] at hv'
          subst hv'
          have HV := Lib.hid hv
          have K1 := Lib.hid (blk_below J1.out hb4)
          have K2 := Lib.hid (blk_below J2.out hb4)
          have K3 := Lib.hid (blk_below J3.out hb4)
          have KB := Lib.hid (JB.out.trans (hb4.mono JB.out.size))
          have KO := Lib.hid (own_below JO.out hb4)
          have hz3 : W.heap.size ≤ w3.heap.size := hb4.size
          clear hv hb3 hb4 hHeld
          refine hK.out _ _ (blk3 K1.out).1 (fun hHeld => ?_)
          clear hK K
          try simp only [Act.put, List.setIfInBounds_toArray, List.set_cons_zero, List.set_cons_succ]
          refine HL.take_ (i := 9) (oi := { dst := some 83, op := .build 32 #[(0, .tmp 74), (1, .tmp 80), (3, .tmp 82)], type := 32, pos := "ref.go:268", after := #[{ on := 0, ground := .data }, { on := 6, ground := .data }, { on := 8, ground := .data }], guard := none }) (v := ?_) rfl (by decide) (by kernel_rfl) (by kernel_rfl) (fun _ _ _ h => h) (Or.inl ⟨by rfl, ?_⟩) (by assumption) ?_
          rotate_left
          · intro w hSw
            (try dsimp only at hSw)
            (go_simp; try (with_reducible rfl))
          try simp only [Act.put, List.setIfInBounds_toArray, List.set_cons_zero, List.set_cons_succ]
          refine HL.done_ (by kernel_rfl) ?_
          simp only [List.drop_succ_cons, List.drop_zero]
          clear hHeld
          obtain ⟨k3, f3, z3⟩ := blk3 K3.out
          go_wp2
          go_meet
          case rel =>
            refine ⟨wr.heap.size, na, nc, rfl, hz0, by simp only [World.size_setCell]; omega, ?_, ?_, set4_far K1.out (by omega) _ _ _ _, set4_far K2.out (by omega) _ _ _ _, set4_below KB.out (by have := HB.out.size; omega) _ _ _ _, set4_blk K3.out _ _ _ _⟩
            · exact ReadsS.sub (set4_sub _ _ _ _ _ _ _ List.mem_cons_self) (ReadsS.own KO.out HLn.out (by omega) (fun b hb g hg e => by
                subst e
                have := HGS.out b hg
                rcases List.mem_cons.1 hb with rfl | hb
                · omega
                · rcases List.mem_cons.1 hb with rfl | hb
                  · omega
                  · have := HB0.out b hb; omega))
            · exact ReadsI.sub (set4_sub _ _ _ _ _ _ _ List.mem_cons_self) (HV.out (wr.heap.size :: (w.heap.size + 1) :: bs0) (by
                intro b hb
                show b < W.heap.size
                rcases List.mem_cons.1 hb with rfl | hb
                · omega
                · rcases List.mem_cons.1 hb with rfl | hb
                  · omega
                  · have := HB0.out b hb; have := HB.out.size; omega))
      case rest =>
      obtain ⟨g7, na, nc, rfl, hg7, hg7w, D1, D2, D3, D4, D5, D6⟩ := hcut
      clear HO HB H1 H2
      go_wp2
      go_loopw [8] (fun iv wr => ∃ (i' : Nat) (A' : Option Addr) (cp' : Nat) (xs : List Value), i' ≤ F ∧ iv = .int .i64 i' ∧ Hid (wr.ownsRow wc.heap.size 35 5 (.slice A' i' cp') i' xs) ∧ Hid (FnsAt (sans wr ((Value.slice A' i' cp').ownBlock.toList ++ (g7 :: (w.heap.size + 1) :: bs0))) xs ((m.funcs.map (canonF l m.strings)).take i')) ∧
        Hid (wr.heap[g7]? = some (.cells #[.slice A n cp, .slice na G nc, .slice A' i' cp', .slice ea E ec] 32)) ∧ Hid (wr.heap[w.heap.size]? = some (.cells #[.slice sa i sc, .slice ga G gc, .slice fa F fc, .slice ea E ec] 32)) ∧ Hid (wr.heap[w.heap.size + 1]? = some (.cells #[.slice none 0 0, .slice none 0 0, .slice none 0 0, .slice none 0 0] 32)) ∧ Hid (Below w.heap.size w wr) ∧ Hid (wc.heap.size ≤ wr.heap.size) ∧
        Hid (ReadsS (sans wr ((Value.slice A' i' cp').ownBlock.toList ++ (g7 :: (w.heap.size + 1) :: bs0))) (.slice A n cp) l) ∧ Hid (ReadsI (sans wr ((Value.slice A' i' cp').ownBlock.toList ++ (g7 :: (w.heap.size + 1) :: bs0))) (.slice na G nc) (numbersOf l m.strings m.globals))) (fun iv _ => F - (intOf iv).toNat)
      case atStart => exact ⟨0, none, 0, [], Nat.zero_le _, rfl, World.ownsRow_nil _ _ _ _, rfl, D6.out, D3.out, D4.out, D5.out, Nat.le_refl _, D1.out, D2.out⟩
      case round =>
        clear D1 D2 D3 D4 D5 D6
        obtain ⟨q, A', cp', xs, hq, rfl, HO, HX, H3, H1, H2, HB, HWC, HD1, HD2⟩ := hrel
        obtain ⟨c1, f1, z1⟩ := blk3 H1.out
        obtain ⟨c2, f2, z2⟩ := blk3 H2.out
        obtain ⟨c3, f3, z3⟩ := blk3 H3.out
        by_cases hltF : q < F
        · obtain ⟨b, off, f, lv, sv2, bv, rfl, hff, ⟨x0, x1, x2, x3, x4⟩, rl, rs, rb⟩ := HF0.out.at hltF
          have hsw := (sans_sub w bs0).trans (sub_below HB.out)
          replace x0 := hsw _ _ x0
          replace x1 := hsw _ _ x1
          replace x2 := hsw _ _ x2
          replace x3 := hsw _ _ x3
          replace x4 := hsw _ _ x4
          have RB0 := Lib.hid rb
          replace rl := rl.sub hsw
          replace rs := rs.sub hsw
          replace rb := rb.sub hsw
          clear hsw
          obtain ⟨la, lc, rfl, hln⟩ := rl.shape
          obtain ⟨ssa, ssc, rfl, hsn2⟩ := rs.shape
          obtain ⟨ba, bn, bc, rfl, hbn, rb⟩ := rb
          obtain ⟨hz0, hz1⟩ := HW.out.names f (List.mem_of_getElem? hff)
          obtain ⟨z, hz⟩ : ∃ z : Nat, f.name = z := ⟨f.name.toNat, by omega⟩
          rw [hz] at x0 hz1
          have hz1 : z < i := by rw [HNl.out]; simpa using hz1
          obtain ⟨sb, so, st, rfl, hst, cst0⟩ := HS.out.at hz1
          have cst := sub_below HB.out _ _ cst0
          have HSB := Lib.hid (show sb < w.heap.size from World.block_lt_of_cell? w _ cst0)
          clear cst0
          have HST := Lib.hid hst
          have HZN := Lib.hid hz
          have HFF := Lib.hid hff
          have RL := Lib.hid rl
          have RS := Lib.hid rs
          have RB := Lib.hid rb
          have HLl := Lib.hid (show f.locals.length = f.locals.length from rfl)
          obtain ⟨LL, hLL⟩ : ∃ n, n = f.locals.length := ⟨_, rfl⟩
          obtain ⟨SL, hSL⟩ : ∃ n, n = f.sites.length := ⟨_, rfl⟩
          clear hst hz hz0 hff rl rs rb
          rw [← hLL] at x2 hln RL
          rw [← hSL] at x3 hsn2 RS
          have HLL := Lib.hid hLL
          have HSL := Lib.hid hSL
          clear hLL hSL HLl
          have HlB := Lib.hid (show ∀ o, (wr.alloc o).heap.size = wr.heap.size + 1 from fun o => by simp)
          go_wp2
          have M1 := Lib.hid (blk_alloc H1.out (.cells #[.int .i64 (z : Nat), .int .i64 (f.params : Nat), .slice la LL lc, .slice ssa SL ssc, .slice ba bn bc] 35))
          have M2 := Lib.hid (blk_alloc H2.out (.cells #[.int .i64 (z : Nat), .int .i64 (f.params : Nat), .slice la LL lc, .slice ssa SL ssc, .slice ba bn bc] 35))
          have M3 := Lib.hid (blk_alloc H3.out (.cells #[.int .i64 (z : Nat), .int .i64 (f.params : Nat), .slice la LL lc, .slice ssa SL ssc, .slice ba bn bc] 35))
          have M9 := Lib.hid (heap_alloc_new wr (.cells #[.int .i64 (z : Nat), .int .i64 (f.params : Nat), .slice la LL lc, .slice ssa SL ssc, .slice ba bn bc] 35))
          have MB := Lib.hid (HB.out.alloc HB.out.size (.cells #[.int .i64 (z : Nat), .int .i64 (f.params : Nat), .slice la LL lc, .slice ssa SL ssc, .slice ba bn bc] 35))
          have MO := Lib.hid (own_below HO.out ((Below.refl _ _).alloc (Nat.le_refl _) (.cells #[.int .i64 (z : Nat), .int .i64 (f.params : Nat), .slice la LL lc, .slice ssa SL ssc, .slice ba bn bc] 35)))
          have hs1 : Sub wr (wr.alloc (.cells #[.int .i64 (z : Nat), .int .i64 (f.params : Nat), .slice la LL lc, .slice ssa SL ssc, .slice ba bn bc] 35)) := sub_below ((Below.refl _ _).alloc (Nat.le_refl _) _)
          have hs2 : Sub (sans wr ((Value.slice A' q cp').ownBlock.toList ++ (g7 :: (w.heap.size + 1) :: bs0))) (sans (wr.alloc (.cells #[.int .i64 (z : Nat), .int .i64 (f.params : Nat), .slice la LL lc, .slice ssa SL ssc, .slice ba bn bc] 35)) ((Value.slice A' q cp').ownBlock.toList ++ (g7 :: (w.heap.size + 1) :: bs0))) := sub_sans_below ((Below.refl _ _).alloc (Nat.le_refl _) _)
          have MX := Lib.hid (HX.out.sub hs2)
          have MD1 := Lib.hid (HD1.out.sub hs2)
          have MD2 := Lib.hid (HD2.out.sub hs2)
          have cst2 := hs1 _ _ cst
          have NL := Lib.hid (RL.out.sub hs1)
          have NS := Lib.hid (RS.out.sub hs1)
          have NB := Lib.hid (RB.out.sub hs1)
          have hsz := HlB.out (.cells #[.int .i64 (z : Nat), .int .i64 (f.params : Nat), .slice la LL lc, .slice ssa SL ssc, .slice ba bn bc] 35)
          have HBSS := Lib.hid (show ∀ b ∈ (Value.slice A' q cp').ownBlock.toList ++ (g7 :: (w.heap.size + 1) :: bs0), b < wr.heap.size from fun b hb => by
            rcases List.mem_append.1 hb with hb | hb
            · exact (World.ownsRow.lt HO.out b (by simpa using hb)).2
            · rcases List.mem_cons.1 hb with rfl | hb
              · omega
              · rcases List.mem_cons.1 hb with rfl | hb
                · omega
                · have := HB0.out b hb; have := HB.out.size; omega)
          obtain ⟨W, hW⟩ : ∃ W, W = wr.alloc (.cells #[.int .i64 (z : Nat), .int .i64 (f.params : Nat), .slice la LL lc, .slice ssa SL ssc, .slice ba bn bc] 35) := ⟨_, rfl⟩
          rw [← hW] at M1 M2 M3 M9 MB MO MX MD1 MD2 cst2 NL NS NB hsz ⊢
          have HSZ := Lib.hid hsz
          clear hW hs1 hs2 hsz c1 f1 z1 c2 f2 z2 c3 f3 z3 x0 x1 x2 x3 x4 cst HlB
          obtain ⟨c1, f1, z1⟩ := blk3 M1.out
          obtain ⟨c3, f3, z3⟩ := blk3 M3.out
          obtain ⟨c9, f9, z9⟩ := blk3 M9.out
          refine wp_region_HL (S := (fun w' => (∀ o, w'.cell? ⟨w.heap.size, o, none⟩ = (#[.slice (some ⟨sb, so, none⟩) i sc, .slice ga G gc, .slice (some ⟨b, off, none⟩) F fc, .slice ea E ec] : Array Value)[o]?) ∧ (∀ o, w'.cell? ⟨g7, o, none⟩ = (#[.slice A n cp, .slice na G nc, .slice A' q cp', .slice ea E ec] : Array Value)[o]?) ∧ (∀ o, w'.cell? ⟨wr.heap.size, o, none⟩ = (#[.int .i64 (z : Nat), .int .i64 (f.params : Nat), .slice la LL lc, .slice ssa SL ssc, .slice ba bn bc] : Array Value)[o]?) ∧ w'.cell? ⟨sb, so + z, none⟩ = some (.string st))) 30 (by kernel_rfl) (by kernel_rfl) (by kernel_rfl) (by kernel_rfl) (by decide) ⟨c1, c3, c9, cst2⟩ (fun hHeld => ?_)
          refine HL.take_ (i := 0) (oi := { dst := some 96, op := .fieldAddr 32 (.tmp 7) 2, type := 0, pos := "ref.go:271", after := #[], guard := none }) (v := ?_) rfl (by decide) (by kernel_rfl) (by kernel_rfl) (fun _ _ _ h => h) (Or.inl ⟨by rfl, ?_⟩) (by assumption) ?_
          rotate_left
          · intro w hSw
            (try dsimp only at hSw)
            obtain ⟨h1, h2, h3, h4⟩ := hSw; (go_simp; try (with_reducible rfl))
          try simp only [Act.put, List.setIfInBounds_toArray, List.set_cons_zero, List.set_cons_succ]
          refine HL.take_ (i := 1) (oi := { dst := some 97, op := .load 30 (.tmp 96), type := 30, pos := "ref.go:271", after := #[{ on := 0, ground := .data }], guard := none }) (v := ?_) rfl (by decide) (by kernel_rfl) (by kernel_rfl) (fun _ _ _ h => h) (Or.inl ⟨by rfl, ?_⟩) (by assumption) ?_
          rotate_left
          · intro w hSw
            (try dsimp only at hSw)
            obtain ⟨h1, h2, h3, h4⟩ := hSw; (go_simp; try (with_reducible rfl))
          try simp only [Act.put, List.setIfInBounds_toArray, List.set_cons_zero, List.set_cons_succ]
          refine HL.take_ (i := 2) (oi := { dst := some 98, op := .move (.tmp 3), type := 28, pos := "ref.go:271", after := #[], guard := none }) (v := ?_) rfl (by decide) (by kernel_rfl) (by kernel_rfl) (fun _ _ _ h => h) (Or.inl ⟨by rfl, ?_⟩) (by assumption) ?_
          rotate_left
          · intro w hSw
            (try dsimp only at hSw)
            obtain ⟨h1, h2, h3, h4⟩ := hSw; (go_simp; try (with_reducible rfl))
          try simp only [Act.put, List.setIfInBounds_toArray, List.set_cons_zero, List.set_cons_succ]
          refine HL.take_ (i := 3) (oi := { dst := some 99, op := .fieldAddr 32 (.tmp 1) 0, type := 0, pos := "ref.go:271", after := #[], guard := none }) (v := ?_) rfl (by decide) (by kernel_rfl) (by kernel_rfl) (fun _ _ _ h => h) (Or.inl ⟨by rfl, ?_⟩) (by assumption) ?_
          rotate_left
          · intro w hSw
            (try dsimp only at hSw)
            obtain ⟨h1, h2, h3, h4⟩ := hSw; (go_simp; try (with_reducible rfl))
          try simp only [Act.put, List.setIfInBounds_toArray, List.set_cons_zero, List.set_cons_succ]
          refine HL.take_ (i := 4) (oi := { dst := some 100, op := .load 28 (.tmp 99), type := 28, pos := "ref.go:271", after := #[{ on := 3, ground := .data }], guard := none }) (v := ?_) rfl (by decide) (by kernel_rfl) (by kernel_rfl) (fun _ _ _ h => h) (Or.inl ⟨by rfl, ?_⟩) (by assumption) ?_
          rotate_left
          · intro w hSw
            (try dsimp only at hSw)
            obtain ⟨h1, h2, h3, h4⟩ := hSw; (go_simp; try (with_reducible rfl))
          try simp only [Act.put, List.setIfInBounds_toArray, List.set_cons_zero, List.set_cons_succ]
          refine HL.take_ (i := 5) (oi := { dst := some 101, op := .fieldAddr 35 (.tmp 9) 0, type := 0, pos := "ref.go:271", after := #[], guard := none }) (v := ?_) rfl (by decide) (by kernel_rfl) (by kernel_rfl) (fun _ _ _ h => h) (Or.inl ⟨by rfl, ?_⟩) (by assumption) ?_
          rotate_left
          · intro w hSw
            (try dsimp only at hSw)
            obtain ⟨h1, h2, h3, h4⟩ := hSw; (go_simp; try (with_reducible rfl))
          try simp only [Act.put, List.setIfInBounds_toArray, List.set_cons_zero, List.set_cons_succ]
          refine HL.take_ (i := 6) (oi := { dst := some 102, op := .load 3 (.tmp 101), type := 3, pos := "ref.go:271", after := #[{ on := 5, ground := .data }], guard := none }) (v := ?_) rfl (by decide) (by kernel_rfl) (by kernel_rfl) (fun _ _ _ h => h) (Or.inl ⟨by rfl, ?_⟩) (by assumption) ?_
          rotate_left
          · intro w hSw
            (try dsimp only at hSw)
            obtain ⟨h1, h2, h3, h4⟩ := hSw; (go_simp; try (with_reducible rfl))
          try simp only [Act.put, List.setIfInBounds_toArray, List.set_cons_zero, List.set_cons_succ]
          refine HL.take_ (i := 7) (oi := { dst := some 103, op := .indexAddr 28 (.tmp 100) (.tmp 102), type := 0, pos := "ref.go:271", after := #[{ on := 4, ground := .data }, { on := 6, ground := .data }], guard := none }) (v := ?_) rfl (by decide) (by kernel_rfl) (by kernel_rfl) (fun _ _ _ h => h) (Or.inl ⟨by rfl, ?_⟩) (by assumption) ?_
          rotate_left
          · intro w hSw
            (try dsimp only at hSw)
            obtain ⟨h1, h2, h3, h4⟩ := hSw; (go_simp; try (with_reducible rfl))
          try simp only [Act.put, List.setIfInBounds_toArray, List.set_cons_zero, List.set_cons_succ]
          refine HL.take_ (i := 8) (oi := { dst := some 104, op := .load 9 (.tmp 103), type := 9, pos := "ref.go:271", after := #[{ on := 7, ground := .data }], guard := none }) (v := ?_) rfl (by decide) (by kernel_rfl) (by kernel_rfl) (fun _ _ _ h => h) (Or.inl ⟨by rfl, ?_⟩) (by assumption) ?_
          rotate_left
          · intro w hSw
            (try dsimp only at hSw)
            obtain ⟨h1, h2, h3, h4⟩ := hSw; (go_simp; try (with_reducible rfl))
          try simp only [Act.put, List.setIfInBounds_toArray, List.set_cons_zero, List.set_cons_succ]
          refine HL.take_ (i := 10) (oi := { dst := some 106, op := .fieldAddr 35 (.tmp 9) 1, type := 0, pos := "ref.go:271", after := #[], guard := none }) (v := ?_) rfl (by decide) (by kernel_rfl) (by kernel_rfl) (fun _ _ _ h => h) (Or.inl ⟨by rfl, ?_⟩) (by assumption) ?_
          rotate_left
          · intro w hSw
            (try dsimp only at hSw)
            obtain ⟨h1, h2, h3, h4⟩ := hSw; (go_simp; try (with_reducible rfl))
          try simp only [Act.put, List.setIfInBounds_toArray, List.set_cons_zero, List.set_cons_succ]
          refine HL.take_ (i := 11) (oi := { dst := some 107, op := .load 3 (.tmp 106), type := 3, pos := "ref.go:271", after := #[{ on := 10, ground := .data }], guard := none }) (v := ?_) rfl (by decide) (by kernel_rfl) (by kernel_rfl) (fun _ _ _ h => h) (Or.inl ⟨by rfl, ?_⟩) (by assumption) ?_
          rotate_left
          · intro w hSw
            (try dsimp only at hSw)
            obtain ⟨h1, h2, h3, h4⟩ := hSw; (go_simp; try (with_reducible rfl))
          try simp only [Act.put, List.setIfInBounds_toArray, List.set_cons_zero, List.set_cons_succ]
          refine HL.take_ (i := 12) (oi := { dst := some 108, op := .move (.tmp 3), type := 28, pos := "ref.go:271", after := #[], guard := none }) (v := ?_) rfl (by decide) (by kernel_rfl) (by kernel_rfl) (fun _ _ _ h => h) (Or.inl ⟨by rfl, ?_⟩) (by assumption) ?_
          rotate_left
          · intro w hSw
            (try dsimp only at hSw)
            obtain ⟨h1, h2, h3, h4⟩ := hSw; (go_simp; try (with_reducible rfl))
          try simp only [Act.put, List.setIfInBounds_toArray, List.set_cons_zero, List.set_cons_succ]
          refine HL.take_ (i := 13) (oi := { dst := some 109, op := .fieldAddr 32 (.tmp 1) 0, type := 0, pos := "ref.go:271", after := #[], guard := none }) (v := ?_) rfl (by decide) (by kernel_rfl) (by kernel_rfl) (fun _ _ _ h => h) (Or.inl ⟨by rfl, ?_⟩) (by assumption) ?_
          rotate_left
          · intro w hSw
            (try dsimp only at hSw)
            obtain ⟨h1, h2, h3, h4⟩ := hSw; (go_simp; try (with_reducible rfl))
          try simp only [Act.put, List.setIfInBounds_toArray, List.set_cons_zero, List.set_cons_succ]
          refine HL.take_ (i := 14) (oi := { dst := some 110, op := .load 28 (.tmp 109), type := 28, pos := "ref.go:271", after := #[{ on := 13, ground := .data }], guard := none }) (v := ?_) rfl (by decide) (by kernel_rfl) (by kernel_rfl) (fun _ _ _ h => h) (Or.inl ⟨by rfl, ?_⟩) (by assumption) ?_
          rotate_left
          · intro w hSw
            (try dsimp only at hSw)
            obtain ⟨h1, h2, h3, h4⟩ := hSw; (go_simp; try (with_reducible rfl))
          try simp only [Act.put, List.setIfInBounds_toArray, List.set_cons_zero, List.set_cons_succ]
          refine HL.take_ (i := 15) (oi := { dst := some 111, op := .fieldAddr 35 (.tmp 9) 2, type := 0, pos := "ref.go:271", after := #[], guard := none }) (v := ?_) rfl (by decide) (by kernel_rfl) (by kernel_rfl) (fun _ _ _ h => h) (Or.inl ⟨by rfl, ?_⟩) (by assumption) ?_
          rotate_left
          · intro w hSw
            (try dsimp only at hSw)
            obtain ⟨h1, h2, h3, h4⟩ := hSw; (go_simp; try (with_reducible rfl))
          try simp only [Act.put, List.setIfInBounds_toArray, List.set_cons_zero, List.set_cons_succ]
          refine HL.take_ (i := 16) (oi := { dst := some 112, op := .load 29 (.tmp 111), type := 29, pos := "ref.go:271", after := #[{ on := 15, ground := .data }], guard := none }) (v := ?_) rfl (by decide) (by kernel_rfl) (by kernel_rfl) (fun _ _ _ h => h) (Or.inl ⟨by rfl, ?_⟩) (by assumption) ?_
          rotate_left
          · intro w hSw
            (try dsimp only at hSw)
            obtain ⟨h1, h2, h3, h4⟩ := hSw; (go_simp; try (with_reducible rfl))
          try simp only [Act.put, List.setIfInBounds_toArray, List.set_cons_zero, List.set_cons_succ]
          refine HL.take_ (i := 18) (oi := { dst := some 114, op := .move (.tmp 3), type := 28, pos := "ref.go:271", after := #[], guard := none }) (v := ?_) rfl (by decide) (by kernel_rfl) (by kernel_rfl) (fun _ _ _ h => h) (Or.inl ⟨by rfl, ?_⟩) (by assumption) ?_
          rotate_left
          · intro w hSw
            (try dsimp only at hSw)
            obtain ⟨h1, h2, h3, h4⟩ := hSw; (go_simp; try (with_reducible rfl))
          try simp only [Act.put, List.setIfInBounds_toArray, List.set_cons_zero, List.set_cons_succ]
          refine HL.take_ (i := 19) (oi := { dst := some 115, op := .fieldAddr 32 (.tmp 1) 0, type := 0, pos := "ref.go:271", after := #[], guard := none }) (v := ?_) rfl (by decide) (by kernel_rfl) (by kernel_rfl) (fun _ _ _ h => h) (Or.inl ⟨by rfl, ?_⟩) (by assumption) ?_
          rotate_left
          · intro w hSw
            (try dsimp only at hSw)
            obtain ⟨h1, h2, h3, h4⟩ := hSw; (go_simp; try (with_reducible rfl))
          try simp only [Act.put, List.setIfInBounds_toArray, List.set_cons_zero, List.set_cons_succ]
          refine HL.take_ (i := 20) (oi := { dst := some 116, op := .load 28 (.tmp 115), type := 28, pos := "ref.go:271", after := #[{ on := 19, ground := .data }], guard := none }) (v := ?_) rfl (by decide) (by kernel_rfl) (by kernel_rfl) (fun _ _ _ h => h) (Or.inl ⟨by rfl, ?_⟩) (by assumption) ?_
          rotate_left
          · intro w hSw
            (try dsimp only at hSw)
            obtain ⟨h1, h2, h3, h4⟩ := hSw; (go_simp; try (with_reducible rfl))
          try simp only [Act.put, List.setIfInBounds_toArray, List.set_cons_zero, List.set_cons_succ]
          refine HL.take_ (i := 21) (oi := { dst := some 117, op := .fieldAddr 35 (.tmp 9) 3, type := 0, pos := "ref.go:271", after := #[], guard := none }) (v := ?_) rfl (by decide) (by kernel_rfl) (by kernel_rfl) (fun _ _ _ h => h) (Or.inl ⟨by rfl, ?_⟩) (by assumption) ?_
          rotate_left
          · intro w hSw
            (try dsimp only at hSw)
            obtain ⟨h1, h2, h3, h4⟩ := hSw; (go_simp; try (with_reducible rfl))
          try simp only [Act.put, List.setIfInBounds_toArray, List.set_cons_zero, List.set_cons_succ]
          refine HL.take_ (i := 22) (oi := { dst := some 118, op := .load 29 (.tmp 117), type := 29, pos := "ref.go:271", after := #[{ on := 21, ground := .data }], guard := none }) (v := ?_) rfl (by decide) (by kernel_rfl) (by kernel_rfl) (fun _ _ _ h => h) (Or.inl ⟨by rfl, ?_⟩) (by assumption) ?_
          rotate_left
          · intro w hSw
            (try dsimp only at hSw)
            obtain ⟨h1, h2, h3, h4⟩ := hSw; (go_simp; try (with_reducible rfl))
          try simp only [Act.put, List.setIfInBounds_toArray, List.set_cons_zero, List.set_cons_succ]
          refine HL.take_ (i := 24) (oi := { dst := some 120, op := .fieldAddr 35 (.tmp 9) 4, type := 0, pos := "ref.go:271", after := #[], guard := none }) (v := ?_) rfl (by decide) (by kernel_rfl) (by kernel_rfl) (fun _ _ _ h => h) (Or.inl ⟨by rfl, ?_⟩) (by assumption) ?_
          rotate_left
          · intro w hSw
            (try dsimp only at hSw)
            obtain ⟨h1, h2, h3, h4⟩ := hSw; (go_simp; try (with_reducible rfl))
          try simp only [Act.put, List.setIfInBounds_toArray, List.set_cons_zero, List.set_cons_succ]
          refine HL.take_ (i := 25) (oi := { dst := some 121, op := .load 22 (.tmp 120), type := 22, pos := "ref.go:271", after := #[{ on := 24, ground := .data }], guard := none }) (v := ?_) rfl (by decide) (by kernel_rfl) (by kernel_rfl) (fun _ _ _ h => h) (Or.inl ⟨by rfl, ?_⟩) (by assumption) ?_
          rotate_left
          · intro w hSw
            (try dsimp only at hSw)
            obtain ⟨h1, h2, h3, h4⟩ := hSw; (go_simp; try (with_reducible rfl))
          try simp only [Act.put, List.setIfInBounds_toArray, List.set_cons_zero, List.set_cons_succ]
          refine HL.step_ (i := 9) (o := { dst := some 105, op := .call { callee := .value (.func 60), args := #[.tmp 98, .tmp 104], argTypes := #[28, 9] }, type := 3, pos := "ref.go:271", after := #[{ on := 2, ground := .data }, { on := 8, ground := .data }], guard := none }) rfl (by decide) (by kernel_rfl) (fun K hK => ?_)
          go_simp
          refine (number_calls W.drew _ l st (ReadsS.sub (sans_sub W _) MD1.out)).mono ?_
          rintro e w4 ⟨rfl, rfl⟩
          refine hK.out _ _ ⟨c1, c3, c9, cst2⟩ (fun hHeld => ?_)
          clear hK K
          try simp only [Act.put, List.setIfInBounds_toArray, List.set_cons_zero, List.set_cons_succ]
          refine HL.step_ (i := 17) (o := { dst := some 113, op := .call { callee := .value (.func 61), args := #[.tmp 108, .tmp 110, .tmp 112], argTypes := #[28, 28, 29] }, type := 29, pos := "ref.go:271", after := #[{ on := 12, ground := .data }, { on := 14, ground := .data }, { on := 16, ground := .data }, { on := 9, ground := .chain }], guard := none }) rfl (by decide) (by kernel_rfl) (fun K hK => ?_)
          go_simp
          refine (numbers_calls W.drew _ _ _ l m.strings f.locals (ReadsS.sub (sans_sub _ _) MD1.out) (HS.out.sub (sub_below MB.out)) NL.out (HW.out.locals f (List.mem_of_getElem? HFF.out))).mono ?_
          rintro e w4 ⟨v, rfl, hv, hb3⟩
          have hb4 : Below W.heap.size W w4 := ⟨hb3.os, hb3.tape, hb3.output, hb3.size, hb3.block⟩
          obtain ⟨nla, nlc, hv', _⟩ := (hv [] (by simp)).shape
          rw [numbersOf_length, ← HLL.out] at hv'
          subst hv'
          have P1 := Lib.hid (blk_below M1.out hb4)
          have P2 := Lib.hid (blk_below M2.out hb4)
          have P3 := Lib.hid (blk_below M3.out hb4)
          have P9 := Lib.hid (blk_below M9.out hb4)
          have PB := Lib.hid (MB.out.trans (hb4.mono MB.out.size))
          have PO := Lib.hid (own_below MO.out hb4)
          have PX := Lib.hid (MX.out.sub (sub_sans_below hb4))
          have PD1 := Lib.hid (MD1.out.sub (sub_sans_below hb4))
          have PD2 := Lib.hid (MD2.out.sub (sub_sans_below hb4))
          have cst4 := sub_below hb4 _ _ cst2
          have NS4 := Lib.hid (NS.out.sub (sub_below hb4))
          have NB4 := Lib.hid (NB.out.sub (sub_below hb4))
          have RV4 := Lib.hid (hv ((Value.slice A' q cp').ownBlock.toList ++ (g7 :: (w.heap.size + 1) :: bs0)) (fun b hb => by have := HBSS.out b hb; show b < W.heap.size; rw [HSZ.out]; omega))
          have hzz4 : W.heap.size ≤ w4.heap.size := hb4.size
          clear hv hb3 hb4 hHeld c1 f1 z1 c3 f3 z3 c9 f9 z9 cst2
          refine hK.out _ _ ⟨(blk3 P1.out).1, (blk3 P3.out).1, (blk3 P9.out).1, cst4⟩ (fun hHeld => ?_)
          clear hK K
          try simp only [Act.put, List.setIfInBounds_toArray, List.set_cons_zero, List.set_cons_succ]
          refine HL.step_ (i := 23) (o := { dst := some 119, op := .call { callee := .value (.func 61), args := #[.tmp 114, .tmp 116, .tmp 118], argTypes := #[28, 28, 29] }, type := 29, pos := "ref.go:271", after := #[{ on := 18, ground := .data }, { on := 20, ground := .data }, { on := 22, ground := .data }, { on := 17, ground := .chain }], guard := none }) rfl (by decide) (by kernel_rfl) (fun K hK => ?_)
          go_simp
          refine (numbers_calls w4 _ _ _ l m.strings f.sites (ReadsS.sub (sans_sub _ _) PD1.out) (HS.out.sub (sub_below PB.out)) NS4.out (HW.out.sites f (List.mem_of_getElem? HFF.out))).mono ?_
          rintro e w5 ⟨v, rfl, hv, hb3⟩
          have hb4 : Below w4.heap.size w4 w5 := ⟨hb3.os, hb3.tape, hb3.output, hb3.size, hb3.block⟩
          obtain ⟨nsa, nsc, hv', _⟩ := (hv [] (by simp)).shape
          rw [numbersOf_length, ← HSL.out] at hv'
          subst hv'
          have Q1 := Lib.hid (blk_below P1.out hb4)
          have Q2 := Lib.hid (blk_below P2.out hb4)
          have Q3 := Lib.hid (blk_below P3.out hb4)
          have Q9 := Lib.hid (blk_below P9.out hb4)
          have QB := Lib.hid (PB.out.trans (hb4.mono PB.out.size))
          have QO := Lib.hid (own_below PO.out hb4)
          have QX := Lib.hid (PX.out.sub (sub_sans_below hb4))
          have QD1 := Lib.hid (PD1.out.sub (sub_sans_below hb4))
          have QD2 := Lib.hid (PD2.out.sub (sub_sans_below hb4))
          have cst5 := sub_below hb4 _ _ cst4
          have NB5 := Lib.hid (NB4.out.sub (sub_below hb4))
          have RV5 := Lib.hid (RV4.out.sub (sub_sans_below hb4))
          have RS5 := Lib.hid (hv ((Value.slice A' q cp').ownBlock.toList ++ (g7 :: (w.heap.size + 1) :: bs0)) (fun b hb => by have := HBSS.out b hb; show b < w4.heap.size; have := HSZ.out; omega))
          have hzz5 : w4.heap.size ≤ w5.heap.size := hb4.size
          clear hv hb3 hb4 hHeld cst4
          refine hK.out _ _ ⟨(blk3 Q1.out).1, (blk3 Q3.out).1, (blk3 Q9.out).1, cst5⟩ (fun hHeld => ?_)
          clear hK K
          try simp only [Act.put, List.setIfInBounds_toArray, List.set_cons_zero, List.set_cons_succ]
          refine HL.take_ (i := 26) (oi := { dst := some 122, op := .build 35 #[(0, .tmp 105), (1, .tmp 107), (2, .tmp 113), (3, .tmp 119), (4, .tmp 121)], type := 35, pos := "ref.go:271", after := #[{ on := 9, ground := .data }, { on := 11, ground := .data }, { on := 17, ground := .data }, { on := 23, ground := .data }, { on := 25, ground := .data }], guard := none }) (v := ?_) rfl (by decide) (by kernel_rfl) (by kernel_rfl) (fun _ _ _ h => h) (Or.inl ⟨by rfl, ?_⟩) (by assumption) ?_
          rotate_left
          · intro w hSw
            (try dsimp only at hSw)
            (go_simp; try (with_reducible rfl))
          try simp only [Act.put, List.setIfInBounds_toArray, List.set_cons_zero, List.set_cons_succ]
          refine HL.step_ (i := 27) (o := { dst := some 123, op := .buildSlice 30 1 #[(0, .tmp 122)], type := 30, pos := "ref.go:271", after := #[{ on := 26, ground := .data }], guard := none }) rfl (by decide) (by kernel_rfl) (fun K hK => ?_)
          go_simp
          refine hK.out _ _ ⟨(blk3 (blk_alloc Q1.out _)).1, (blk3 (blk_alloc Q3.out _)).1, (blk3 (blk_alloc Q9.out _)).1, sub_below ((Below.refl _ _).alloc (Nat.le_refl _) _) _ _ cst5⟩ (fun hHeld => ?_)
          clear hK K
          try simp only [Act.put, List.setIfInBounds_toArray, List.set_cons_zero, List.set_cons_succ]
          refine HL.step_ (i := 28) (o := { dst := some 124, op := .call { callee := .builtin .append, args := #[.tmp 97, .tmp 123], argTypes := #[30, 30] }, type := 30, pos := "ref.go:271", after := #[{ on := 1, ground := .data }, { on := 27, ground := .data }, { on := 23, ground := .chain }], guard := none }) rfl (by decide) (by kernel_rfl) (fun K hK => ?_)
          rw [if_pos (by rfl)]
          refine append_step2 (B := wc.heap.size) (w0 := w5.alloc (.cells #[.int .i64 (numberOf l st), .int .i64 (f.params : Nat), .slice nla LL nlc, .slice nsa SL nsc, .slice ba bn bc] 35)) _ _ 30 35 (.agg #[.int .i64 0, .int .i64 0, .slice none 0 0, .slice none 0 0, .slice none 0 0]) 5 88 rfl Try.underlying30 info35 rfl (by decide) (.slice A' q cp') q _ rfl (own_below QO.out ((Below.refl _ _).alloc (Nat.le_refl _) _)) ⟨w5.heap.size, 0, none⟩ 1 1 #[.int .i64 (numberOf l st), .int .i64 (f.params : Nat), .slice nla LL nlc, .slice nsa SL nsc, .slice ba bn bc].toList rfl rfl (new_cells _ _ _ _) ?_ ?_ (Below.refl _ _) (by omega) (by omega) ?_
          · exact one5 _ _ _ _ _ _ _ _ _ _ _
          · have h1 : wr.heap.size + 1 ≤ w5.heap.size := by have := HSZ.out; omega
            have h2 := HWC.out
            simp
            omega
          intro v' w6 hown hbel hgrow hnew
          obtain ⟨A1, cp1, rfl, _, _⟩ := own_shape hown
          have hsb : Sub (sans w5 ((Value.slice A' q cp').ownBlock.toList ++ (g7 :: (w.heap.size + 1) :: bs0))) (sans (w5.alloc (.cells #[.int .i64 (numberOf l st), .int .i64 (f.params : Nat), .slice nla LL nlc, .slice nsa SL nsc, .slice ba bn bc] 35)) ((Value.slice A' q cp').ownBlock.toList ++ (g7 :: (w.heap.size + 1) :: bs0))) := sub_sans_below ((Below.refl _ _).alloc (Nat.le_refl _) _)
          have hs6 := hsb.trans (sub_grow (bs := (g7 :: (w.heap.size + 1) :: bs0)) hgrow hnew)
          have T1 := Lib.hid ((hbel.block _ (by omega)).trans (blk_alloc Q1.out _))
          have T2 := Lib.hid ((hbel.block _ (by omega)).trans (blk_alloc Q2.out _))
          have T3 := Lib.hid ((hbel.block _ (by omega)).trans (blk_alloc Q3.out _))
          have TB := Lib.hid (show Below w.heap.size w w6 from (QB.out.alloc QB.out.size _).trans (hbel.mono (by omega)))
          have TO := Lib.hid hown
          have h9 : ∀ k, (Value.slice A' q cp').ownBlock = some k → k < wr.heap.size := fun k hk => (World.ownsRow.lt HO.out k hk).2
          have hwz : wr.heap.size < w5.heap.size := by have := HSZ.out; omega
          have c9' := (blk3 ((hgrow.block wr.heap.size (by simp; omega) (fun e => by have := h9 _ e.symm; omega)).trans (blk_alloc Q9.out _))).1
          have hsbl := HSB.out
          have cst6 : w6.cell? ⟨sb, so + z, none⟩ = some (.string st) := (World.cell?_of_block (a := ⟨sb, so + z, none⟩) (hbel.block sb (by omega))).trans (sub_below ((Below.refl _ _).alloc (Nat.le_refl _) _) _ _ cst5)
          have HS6 := Lib.hid hs6
          have hzw6 : wr.heap.size < w6.heap.size := by have := hbel.size; simp at this; omega
          clear hown hbel hgrow hnew hsb hs6 h9
          refine hK.out _ _ ⟨(blk3 T1.out).1, (blk3 T3.out).1, c9', cst6⟩ (fun hHeld => ?_)
          clear hK K
          try simp only [Act.put, List.setIfInBounds_toArray, List.set_cons_zero, List.set_cons_succ]
          refine HL.take_ (i := 29) (oi := { dst := some 125, op := .fieldAddr 32 (.tmp 7) 2, type := 0, pos := "ref.go:271", after := #[{ on := 0, ground := .phase }, { on := 1, ground := .phase }, { on := 2, ground := .phase }, { on := 3, ground := .phase }, { on := 4, ground := .phase }, { on := 5, ground := .phase }, { on := 6, ground := .phase }, { on := 7, ground := .phase }, { on := 8, ground := .phase }, { on := 9, ground := .phase }, { on := 10, ground := .phase }, { on := 11, ground := .phase }, { on := 12, ground := .phase }, { on := 13, ground := .phase }, { on := 14, ground := .phase }, { on := 15, ground := .phase }, { on := 16, ground := .phase }, { on := 17, ground := .phase }, { on := 18, ground := .phase }, { on := 19, ground := .phase }, { on := 20, ground := .phase }, { on := 21, ground := .phase }, { on := 22, ground := .phase }, { on := 23, ground := .phase }, { on := 24, ground := .phase }, { on := 25, ground := .phase }, { on := 26, ground := .phase }, { on := 27, ground := .phase }, { on := 28, ground := .phase }], guard := none }) (v := ?_) rfl (by decide) (by kernel_rfl) (by kernel_rfl) (fun _ _ _ h => h) (Or.inl ⟨by rfl, ?_⟩) (by assumption) ?_
          rotate_left
          · intro w hSw
            (try dsimp only at hSw)
            (go_simp; try (with_reducible rfl))
          try simp only [Act.put, List.setIfInBounds_toArray, List.set_cons_zero, List.set_cons_succ]
          refine HL.done_ (by kernel_rfl) ?_
          simp only [List.drop_succ_cons, List.drop_zero]
          clear hHeld c9' cst6 cst5
          obtain ⟨c3, f3, z3⟩ := blk3 T3.out
          go_wp2
          have hs7 := HS6.out.trans (sub_store (w := w6) (p := ⟨g7, 2, none⟩) (u := .slice A1 (q + 1) cp1) (bs := ((Value.slice A1 (q + 1) cp1).ownBlock.toList ++ (g7 :: (w.heap.size + 1) :: bs0))) (by show g7 ∈ _; simp))
          refine ⟨⟨q + 1, A1, cp1, xs ++ #[.int .i64 (numberOf l st), .int .i64 (f.params : Nat), .slice nla LL nlc, .slice nsa SL nsc, .slice ba bn bc].toList, by omega, by go_num, ?_, ?_, blk_set T3.out 2 _, blk_far T1.out (p := ⟨g7, 2, none⟩) (by show w.heap.size ≠ g7; omega) _, blk_far T2.out (p := ⟨g7, 2, none⟩) (by show w.heap.size + 1 ≠ g7; omega) _, TB.out.setCell (p := ⟨g7, 2, none⟩) (by show w.heap.size ≤ g7; omega) _, ?_, QD1.out.sub hs7, QD2.out.sub hs7⟩, by simp [intOf]; omega⟩
          · exact own_setCell TO.out (p := ⟨g7, 2, none⟩) (fun e => by have : wc.heap.size ≤ g7 := (World.ownsRow.lt TO.out _ e.symm).1; omega) _
          · show FnsAt _ _ _
            rw [map_take_succ _ HFF.out]
            refine (QX.out.sub hs7).snoc ⟨_, _, .slice ba bn bc, ?_, RV5.out.sub hs7, RS5.out.sub hs7, ?_⟩
            · show [_, _, _, _, _] = _
              unfold canonF
              rw [HZN.out, strAt_of HST.out]
            · refine ReadsB.sub (sub_new0 (TB.out.setCell (p := ⟨g7, 2, none⟩) (by show w.heap.size ≤ g7; omega) _) (fun b hb => ?_)) RB0.out
              rcases List.mem_append.1 hb with hb | hb
              · have := (World.ownsRow.lt TO.out b (by simpa using hb)).1
                omega
              · rcases List.mem_cons.1 hb with rfl | hb
                · omega
                · rcases List.mem_cons.1 hb with rfl | hb
                  · omega
                  · exact .inr hb
          · show wc.heap.size ≤ _
            rw [World.size_setCell]
            have := HWC.out
            omega
        · obtain rfl : q = F := by omega
          go_wp2
          refine bodyPost_ret (v := .agg #[.slice A n cp, .slice na G nc, .slice A' q cp', .slice ea E ec]) (by rw [results_cell rfl]; go_simp) rfl ?_
          have hbb : ∀ b ∈ (Value.slice A' q cp').ownBlock.toList, wc.heap.size ≤ b := fun b hb => (World.ownsRow.lt HO.out b (by simpa using hb)).1
          have hs8 := (set4_sub wr (w.heap.size + 1) ((Value.slice A' q cp').ownBlock.toList ++ (g7 :: (w.heap.size + 1) :: bs0)) (.slice A n cp) (.slice na G nc) (.slice A' q cp') (.slice ea E ec) (by simp)).trans (sub_sans_less (bs' := (Value.slice A' q cp').ownBlock.toList ++ bs0) (fun b hb => by
            rcases List.mem_append.1 hb with hb | hb
            · exact List.mem_append_left _ hb
            · exact List.mem_append_right _ (List.mem_cons_of_mem _ (List.mem_cons_of_mem _ hb))))
          have hb8 := set4_below HB.out (g := w.heap.size + 1) (by omega) (.slice A n cp) (.slice na G nc) (.slice A' q cp') (.slice ea E ec)
          refine ⟨_, _, A', q, cp', _, xs, rfl, ?_, hfn, hb8, ?_, ?_, ?_, ?_, ?_⟩
          · show q = (m.funcs.map _).length
            rw [List.length_map]; exact HFl.out
          · exact own_base (own_set4 HO.out (by omega) _ _ _ _) (by omega)
          · have h1 := HX.out.sub hs8
            rw [List.take_of_length_le (by rw [List.length_map, ← HFl.out]; exact Nat.le_refl _), HC.out, HNl.out] at h1
            exact h1
          · have h1 := HD1.out.sub hs8
            have h2 := HC.out
            rw [HNl.out] at h2
            rw [h2] at h1
            exact h1
          · have h1 := HD2.out.sub hs8
            rw [HC.out, HNl.out] at h1
            exact h1
          · exact HE0.out.sub (sub_new0 hb8 (fun b hb => by
              rcases List.mem_append.1 hb with hb | hb
              · have := hbb b hb; omega
              · exact .inr hb))
end Go.Proofs.Ytjgijbaboekghaa

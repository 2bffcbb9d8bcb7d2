/-
  What r05.Make holds in memory while it runs: plain lemmas. No statement of its own.
-/
import Derived.Test.YtjgijbaboekghaaMakeP
set_option linter.unusedSimpArgs false
set_option linter.unusedVariables false
namespace Go.Proofs.Ytjgijbaboekghaa
open Go.RowKit
def ReadsActs (w : World) (a : Option Addr) (n : Nat) (l : List (Nat × Nat × Nat × Nat)) : Prop :=
  l.length = n ∧ n ≤ 60 ∧ (∀ i, i < n → (actAt l i).1 < 256 ∧ (actAt l i).2.1 < 256 ∧ (actAt l i).2.2.1 < 256 ∧ (actAt l i).2.2.2 < 256) ∧
    (0 < n → ∃ b off, a = some ⟨b, off, none⟩ ∧ ∀ i, i < n → w.cell? ⟨b, off + i * 4, none⟩ = some (.int .u8 ((actAt l i).1 : Nat)) ∧ w.cell? ⟨b, off + i * 4 + 1, none⟩ = some (.int .u8 ((actAt l i).2.1 : Nat)) ∧ w.cell? ⟨b, off + i * 4 + 2, none⟩ = some (.int .u8 ((actAt l i).2.2.1 : Nat)) ∧ w.cell? ⟨b, off + i * 4 + 3, none⟩ = some (.int .u8 ((actAt l i).2.2.2 : Nat)))
theorem ReadsActs.sub {w w' : World} {a : Option Addr} {n : Nat} {l : List (Nat × Nat × Nat × Nat)} (h : ReadsActs w a n l) (hb : Sub w w') : ReadsActs w' a n l :=
  ⟨h.1, h.2.1, h.2.2.1, fun hp => by
    obtain ⟨b, off, e, hc⟩ := h.2.2.2 hp
    exact ⟨b, off, e, fun i hi => ⟨hb _ _ (hc i hi).1, hb _ _ (hc i hi).2.1, hb _ _ (hc i hi).2.2.1, hb _ _ (hc i hi).2.2.2⟩⟩⟩
/-- The call's own boxes: the draft, the result, the module. -/
structure BX (w0 w : World) (dv : Array Value) (sv gv fv ev : Value) : Prop where
  below : Below w0.heap.size w0 w
  size : w0.heap.size + 3 ≤ w.heap.size
  box : w.heap[w0.heap.size]? = some (.cells dv 25)
  res : w.heap[w0.heap.size + 1]? = some (.cells #[.slice none 0 0, .slice none 0 0, .slice none 0 0, .slice none 0 0] 32)
  m : w.heap[w0.heap.size + 1 + 1]? = some (.cells #[sv, gv, fv, ev] 32)
theorem BX.keep {w0 w w' : World} {dv : Array Value} {sv gv fv ev : Value} (h : BX w0 w dv sv gv fv ev) (hb : Below (w0.heap.size + 3) w w') : BX w0 w' dv sv gv fv ev :=
  ⟨h.below.trans (hb.mono (by omega)), Nat.le_trans h.size hb.size, (hb.block _ (by omega)).trans h.box, (hb.block _ (by omega)).trans h.res, (hb.block _ (by omega)).trans h.m⟩
theorem BX.next {w0 w w' : World} {dv : Array Value} {sv gv fv ev : Value} (h : BX w0 w dv sv gv fv ev) (hb : Below w.heap.size w w') : BX w0 w' dv sv gv fv ev := h.keep (hb.mono h.size)
theorem BX.alloc {w0 w : World} {dv : Array Value} {sv gv fv ev : Value} (h : BX w0 w dv sv gv fv ev) (o : Obj) : BX w0 (w.alloc o) dv sv gv fv ev := h.next ((Below.refl _ _).alloc (Nat.le_refl _) _)
theorem BX.far {w0 w : World} {dv : Array Value} {sv gv fv ev : Value} (h : BX w0 w dv sv gv fv ev) {p : Addr} (hp : w0.heap.size + 3 ≤ p.block) (u : Value) : BX w0 (w.setCell p u) dv sv gv fv ev := h.keep ((Below.refl _ _).setCell hp u)
section
variable {w0 w : World} {dv : Array Value} {sv gv fv ev : Value} (h : BX w0 w dv sv gv fv ev) (u : Value)
include h
theorem BX.set_ {i : Nat} {sv' gv' fv' ev' : Value} (e : (#[sv, gv, fv, ev] : Array Value).setIfInBounds i u = #[sv', gv', fv', ev']) : BX w0 (w.setCell ⟨w0.heap.size + 1 + 1, i, none⟩ u) dv sv' gv' fv' ev' :=
  ⟨h.below.setCell (p := ⟨w0.heap.size + 1 + 1, i, none⟩) (by show w0.heap.size ≤ w0.heap.size + 1 + 1; omega) u, by rw [World.size_setCell]; exact h.size, blk_far h.box (p := ⟨w0.heap.size + 1 + 1, i, none⟩) (by show w0.heap.size ≠ w0.heap.size + 1 + 1; omega) u, blk_far h.res (p := ⟨w0.heap.size + 1 + 1, i, none⟩) (by show w0.heap.size + 1 ≠ w0.heap.size + 1 + 1; omega) u, by
    have := blk_set h.m i u
    rwa [e] at this⟩
theorem BX.set0 : BX w0 (w.setCell ⟨w0.heap.size + 1 + 1, 0, none⟩ u) dv u gv fv ev := h.set_ u rfl
theorem BX.set1 : BX w0 (w.setCell ⟨w0.heap.size + 1 + 1, 1, none⟩ u) dv sv u fv ev := h.set_ u rfl
theorem BX.set2 : BX w0 (w.setCell ⟨w0.heap.size + 1 + 1, 2, none⟩ u) dv sv gv u ev := h.set_ u rfl
theorem BX.set3 : BX w0 (w.setCell ⟨w0.heap.size + 1 + 1, 3, none⟩ u) dv sv gv fv u := h.set_ u rfl
end
theorem globStrs_succ (g k : Nat) : globStrs g (k + 1) = globStrs g k ++ [nameS (k * (1 + g / 4 % 3))] := by unfold globStrs; rw [List.range_succ, List.map_append]; rfl
theorem natInts_succ (k : Nat) : natInts (k + 1) = natInts k ++ [(k : Int)] := by unfold natInts; rw [List.range_succ, List.map_append]; rfl
theorem strs_snoc (l : List ByteArray) (s : ByteArray) : strs (l ++ [s]) = strs l ++ [.string s] := by unfold strs; rw [List.map_append]; rfl
theorem ints_snoc (l : List Int) (x : Int) : ints (l ++ [x]) = ints l ++ [.int .i64 x] := by unfold ints; rw [List.map_append]; rfl
theorem own_block {w : World} {B : Nat} {e : TypeId} {size : Nat} {g : Nat} {xs : List Value} (cs : Array Value) (h : w.ownsRow B e size (.slice (some ⟨g, 0, none⟩) 1 1) 1 xs) (hc : cs.toList = xs) : w.heap[g]? = some (.cells cs e) := by
  rcases h.2 with ⟨e, _⟩ | ⟨g', cap, cur, e, hb, hh, h1, h2, h3, h4⟩
  · cases e
  · injection e with e1 e2 e3
    injection e1 with e1
    injection e1 with e1
    subst e1 e3
    rw [hh]
    have : cur = cs := by
      apply Array.ext'
      rw [hc, ← h4, List.take_of_length_le]
      simp [h3]
    rw [this]
theorem Owns.notin {w : World} {B k : Nat} {r : Row} {rs : List Row} (h : Owns w B (r :: rs)) (hk : r.v.ownBlock = some k) : k ∉ rblk rs := fun hm => by
  obtain ⟨x, hx, e⟩ := mem_rblk.1 hm
  rcases (List.pairwise_cons.1 h.apart).1 x hx with h1 | h1
  · rw [hk] at h1; cases h1
  · exact h1 (by rw [hk, e])
def bsM (h : Nat) (bs : List Nat) : List Nat := (h + 1 + 1) :: (h + 1) :: h :: bs
theorem bsM_lt {h b : Nat} {bs : List Nat} (hbs : ∀ b ∈ bs, b < h) (hb : b ∈ bsM h bs) : b < h + 3 := by
  unfold bsM at hb
  simp at hb
  rcases hb with h1 | h1 | h1 | h1
  · omega
  · omega
  · omega
  · have := hbs b h1; omega
theorem bsM_m (h : Nat) (bs : List Nat) : h + 1 + 1 ∈ bsM h bs := List.mem_cons_self
def strsL (S : List ByteArray) (i j : Nat) : List ByteArray := S ++ (fstr i :: (List.range j).map fun j => nameS (100 + j))
def strsS (S : List ByteArray) (f i j : Nat) : List ByteArray := S ++ (fstr i :: ((List.range (nlD f i)).map (fun j => nameS (100 + j)) ++ (List.range j).map fun j => nameS (200 + j)))
theorem strsL_succ (S : List ByteArray) (i j : Nat) : strsL S i (j + 1) = strsL S i j ++ [nameS (100 + j)] := by unfold strsL; rw [List.range_succ, List.map_append]; simp
theorem strsS_succ (S : List ByteArray) (f i j : Nat) : strsS S f i (j + 1) = strsS S f i j ++ [nameS (200 + j)] := by unfold strsS; rw [List.range_succ, List.map_append]; simp
theorem strsS_zero (S : List ByteArray) (f i : Nat) : strsS S f i 0 = strsL S i (nlD f i) := by unfold strsS strsL; simp
def numL (b j : Nat) : List Int := (List.range j).map fun j => ((b + 1 + j : Nat) : Int)
def numS (b l j : Nat) : List Int := (List.range j).map fun j => ((b + 1 + l + j : Nat) : Int)
theorem numL_succ (b j : Nat) : numL b (j + 1) = numL b j ++ [((b + 1 + j : Nat) : Int)] := by unfold numL; rw [List.range_succ, List.map_append]; rfl
theorem numS_succ (b l j : Nat) : numS b l (j + 1) = numS b l j ++ [((b + 1 + l + j : Nat) : Int)] := by unfold numS; rw [List.range_succ, List.map_append]; rfl
theorem sub_alloc_rows {W : World} {o : Obj} {rs rs' : List Row} {bs : List Nat} (h : ∀ k ∈ rblk rs', k ∈ rblk rs ∨ W.heap.size ≤ k) : Sub (sans W (rblk rs ++ bs)) (sans (W.alloc o) (rblk rs' ++ bs)) := sub_sans fun k hk hkb => by
  simp only [List.mem_append, not_or] at hkb ⊢
  refine ⟨⟨fun hm => ?_, hkb.2⟩, heap_alloc_old W o hk⟩
  rcases h k hm with h1 | h1
  · exact hkb.1 h1
  · omega
theorem own_one (W : World) (e : TypeId) (size : Nat) (cs : Array Value) (hs : cs.size = size) : (W.alloc (.cells cs e)).ownsRow W.heap.size e size (.slice (some ⟨W.heap.size, 0, none⟩) 1 1) 1 cs.toList :=
  ⟨by rw [Array.length_toList]; omega, .inr ⟨W.heap.size, 1, cs, rfl, Nat.le_refl _, heap_alloc_new W _, Nat.le_refl _, by decide, by omega, by rw [List.take_of_length_le]; rw [Array.length_toList]; omega⟩⟩
theorem strsL_start (w : World) (B : Nat) (S : List ByteArray) (i : Nat) (rs : List Row) {A : Option Addr} {sn c : Nat} {r1 r2 r3 : Row} (h : Owns w B (r1 :: r2 :: r3 :: ⟨9, 1, .slice A (sn + 1) c, sn + 1, strs S ++ [.string ((⟨#[102]⟩ : ByteArray) ++ strOfNums [48 + (i : Int)])]⟩ :: rs)) :
    Owns w B (r1 :: r2 :: r3 :: ⟨9, 1, .slice A (sn + 1) c, sn + 1, strs (strsL S i 0)⟩ :: rs) := by
  have e : strs (strsL S i 0) = strs S ++ [.string ((⟨#[102]⟩ : ByteArray) ++ strOfNums [48 + (i : Int)])] := by unfold strsL strs fstr; rw [List.map_append]; rfl
  rw [e]
  exact h
theorem rblk_tail {r : Row} {rs : List Row} {k : Nat} (h : k ∈ rblk rs) : k ∈ rblk (r :: rs) := by
  obtain ⟨x, hx, e⟩ := mem_rblk.1 h
  exact mem_rblk.2 ⟨x, List.mem_cons_of_mem _ hx, e⟩
/-- A row that is done reads beside the others. -/
theorem ReadsI.row {w : World} {B n c : Nat} {A : Option Addr} {xs : List Int} {rs rs' : List Row} {bs : List Nat} (ho : Owns w B (⟨3, 1, .slice A n c, n, ints xs⟩ :: rs)) (hl : xs.length = n) (hn : n ≤ 1000) (hsub : ∀ k ∈ rblk rs', k ∈ rblk rs) (hbs : ∀ b ∈ bs, b < B) : ReadsI (sans w (rblk rs' ++ bs)) (.slice A n c) xs :=
  ReadsI.own ho.head hl hn fun b hb g hg e => by
    subst hg e
    rcases List.mem_append.1 hb with hb | hb
    · exact ho.notin rfl (hsub _ hb)
    · have := (World.ownsRow.lt ho.head b rfl).1
      have := hbs b hb
      omega
theorem strsS_start {w : World} {B : Nat} {S : List ByteArray} {f i NL q c l : Nat} {rs : List Row} {A L : Option Addr} {b : List Int} {r3 : Row} (hNL : NL = nlD f i) (h : Owns w B (⟨3, 1, .slice L NL l, NL, ints b⟩ :: ⟨3, 1, .slice none 0 0, 0, []⟩ :: r3 :: ⟨9, 1, .slice A q c, q, strs (strsL S i NL)⟩ :: rs)) :
    Owns w B (⟨3, 1, .slice L NL l, NL, ints b⟩ :: ⟨3, 1, .slice none 0 0, 0, []⟩ :: r3 :: ⟨9, 1, .slice A q c, q, strs (strsS S f i 0)⟩ :: rs) := by
  rw [strsS_zero, ← hNL]; exact h
theorem strsS_fns {w : World} {S : List ByteArray} {f i NL q c : Nat} {rs : List Row} {A : Option Addr} {bs : List Nat} {xs : List Value} {fs : List Fn} {r1 r2 r3 : Row} (hNL : NL = nlD f i) (h : FnsAt (sans w (rblk (r1 :: r2 :: r3 :: ⟨9, 1, .slice A q c, q, strs (strsL S i NL)⟩ :: rs) ++ bs)) xs fs) :
    FnsAt (sans w (rblk (r1 :: r2 :: r3 :: ⟨9, 1, .slice A q c, q, strs (strsS S f i 0)⟩ :: rs) ++ bs)) xs fs := by
  rw [strsS_zero, ← hNL]; exact h
theorem strsS_done (S : List ByteArray) (f i : Nat) : strsS S f i (nsD i) = S ++ fnStrs f i := rfl
theorem sub_sans_app {w : World} {rs rs' : List Row} {bs : List Nat} (h : ∀ k ∈ rblk rs', k ∈ rblk rs) : Sub (sans w (rblk rs ++ bs)) (sans w (rblk rs' ++ bs)) := sub_sans_less fun b hb => by
  rcases List.mem_append.1 hb with hb | hb
  · exact List.mem_append_left _ (h b hb)
  · exact List.mem_append_right _ hb
def NilB (xs : List Value) : Prop := ∃ vss : List (List Value), xs = vss.flatten ∧ ∀ vs ∈ vss, vs.length = 5 ∧ vs[4]? = some (.slice none 0 0)
theorem nilB_snoc {xs vs : List Value} (h : NilB xs) (hl : vs.length = 5) (hv : vs[4]? = some (.slice none 0 0)) : NilB (xs ++ vs) := by
  obtain ⟨vss, rfl, h⟩ := h
  refine ⟨vss ++ [vs], by simp, fun u hu => ?_⟩
  rcases List.mem_append.1 hu with hu | hu
  · exact h u hu
  · rw [List.mem_singleton] at hu
    rw [hu]; exact ⟨hl, hv⟩
theorem bit_cast (e j : Nat) : (((e : Int) / 2 ^ j).tmod 2 == 1) = (e / 2 ^ j % 2 == 1) := by
  have h1 : ((e : Int) / 2 ^ j) = ((e / 2 ^ j : Nat) : Int) := by rw [Int.natCast_ediv, Int.natCast_pow]; rfl
  have h2 : (((e / 2 ^ j : Nat) : Int)).tmod 2 = ((e / 2 ^ j % 2 : Nat) : Int) := by rw [Int.natCast_emod, Int.tmod_eq_emod_of_nonneg (Int.natCast_nonneg _)]; rfl
  rw [h1, h2, Bool.eq_iff_iff, beq_iff_eq, beq_iff_eq]
  omega
theorem entD_succ (e n : Nat) : entD e (n + 1) = entD e n ++ (if (e / 2 ^ n % 2 == 1) = true then [(n : Int)] else []) := by
  unfold entD
  rw [List.range_succ, List.filter_append, List.map_append]
  congr 1
  cases h : e / 2 ^ n % 2 == 1 <;> simp [List.filter_cons, h]
theorem jD_lt {n A i : Nat} (hn : 0 < n) (hi : i < A) (hA : A ≤ 60) : jD n A i < n := by
  unfold jD
  split
  · refine Nat.div_lt_of_lt_mul ?_
    exact Nat.mul_lt_mul_of_pos_right hi hn
  · refine Nat.div_lt_of_lt_mul ?_
    exact Nat.mul_lt_mul_of_pos_right (by omega) hn
theorem fstr_size (i : Nat) : ((⟨#[102]⟩ : ByteArray) ++ strOfNums [48 + (i : Int)]).size = 2 := by rw [size_app]; rfl
structure FB where
  nm : Int
  par : Nat
  lv : Value
  sv : Value
  bA : Option Addr
  bc : Nat
  fn : Fn
  cells : List Value
def FB.bv (x : FB) : Value := .slice x.bA x.fn.body.length x.bc
def FB.five (x : FB) : List Value := [.int .i64 x.nm, .int .i64 (x.par : Nat), x.lv, x.sv, x.bv]
def fxsOf (l : List FB) : List Value := l.flatMap FB.five
def FB.row (x : FB) : Row := ⟨46, 7, x.bv, x.fn.body.length, x.cells⟩
def rowsOf (l : List FB) : List Row := l.map FB.row
def StsAt (w : World) (xs : List Value) (l : List St) : Prop := xs.length = l.length * 7 ∧ ∀ (i : Nat) s, l[i]? = some s → ∃ vs, Cells7 w vs s ∧ ∀ (j : Nat) v, vs[j]? = some v → xs[i * 7 + j]? = some v
theorem StsAt.sub {w w' : World} {xs : List Value} {l : List St} (h : StsAt w xs l) (hb : Sub w w') : StsAt w' xs l :=
  ⟨h.1, fun i s hi => by obtain ⟨vs, h1, h2⟩ := h.2 i s hi; exact ⟨vs, h1.sub hb, h2⟩⟩
theorem StsAt.snoc {w : World} {xs vs : List Value} {l : List St} {s : St} (h : StsAt w xs l) (hv : Cells7 w vs s) : StsAt w (xs ++ vs) (l ++ [s]) := by
  have hl := hv.length
  refine ⟨by rw [List.length_append, List.length_append, h.1, hl]; simp; omega, fun i t hi => ?_⟩
  rcases Nat.lt_or_ge i l.length with hlt | hge
  · rw [List.getElem?_append_left hlt] at hi
    obtain ⟨us, h1, h2⟩ := h.2 i t hi
    refine ⟨us, h1, fun j v hj => ?_⟩
    have := h2 j v hj
    rw [List.getElem?_append_left (List.getElem?_eq_some_iff.1 this).1]
    exact this
  · have hlt2 := (List.getElem?_eq_some_iff.1 hi).1
    simp at hlt2
    obtain rfl : i = l.length := by omega
    rw [List.getElem?_append_right (Nat.le_refl _)] at hi
    simp at hi
    subst hi
    refine ⟨vs, hv, fun j v hj => ?_⟩
    rw [List.getElem?_append_right (by rw [h.1]; omega), h.1, Nat.add_sub_cancel_left]
    exact hj
structure FBok (w : World) (x : FB) : Prop where
  nm : x.nm = x.fn.name
  par : x.par = x.fn.params
  lv : ReadsI w x.lv x.fn.locals
  sv : ReadsI w x.sv x.fn.sites
  body : StsAt w x.cells x.fn.body
theorem FBok.sub {w w' : World} {x : FB} (h : FBok w x) (hb : Sub w w') : FBok w' x := ⟨h.nm, h.par, h.lv.sub hb, h.sv.sub hb, h.body.sub hb⟩
theorem fxsOf_cons (x : FB) (l : List FB) : fxsOf (x :: l) = x.five ++ fxsOf l := rfl
theorem fxsOf_length (l : List FB) : (fxsOf l).length = l.length * 5 := by
  induction l with
  | nil => rfl
  | cons x t ih => rw [fxsOf_cons, List.length_append, ih, List.length_cons, show x.five.length = 5 from rfl]; omega
theorem fxsOf_at {l : List FB} {i : Nat} {x : FB} (h : l[i]? = some x) (k : Nat) (hk : k < 5) : (fxsOf l)[i * 5 + k]? = x.five[k]? := by
  induction l generalizing i with
  | nil => simp at h
  | cons y t ih =>
    rw [fxsOf_cons]
    cases i with
    | zero =>
      simp at h
      subst h
      rw [Nat.zero_mul, Nat.zero_add, List.getElem?_append_left (show k < 5 from hk)]
    | succ i =>
      rw [List.getElem?_append_right (by rw [show y.five.length = 5 from rfl]; omega), show y.five.length = 5 from rfl, show (i + 1) * 5 + k - 5 = i * 5 + k by omega]
      exact ih (by simpa using h)
theorem fxsOf_set {l : List FB} {i : Nat} {x y : FB} {v : Value} (h : l[i]? = some x) (hy : y.five = x.five.set 4 v) : fxsOf (l.set i y) = (fxsOf l).set (i * 5 + 4) v := by
  induction l generalizing i with
  | nil => simp at h
  | cons z t ih =>
    cases i with
    | zero =>
      simp at h
      subst h
      rw [List.set_cons_zero, fxsOf_cons, fxsOf_cons, hy, Nat.zero_mul, Nat.zero_add, List.set_append_left _ _ (by show 4 < 5; omega)]
    | succ i =>
      rw [List.set_cons_succ, fxsOf_cons, fxsOf_cons, ih (by simpa using h), List.set_append_right _ _ (by rw [show z.five.length = 5 from rfl]; omega), show z.five.length = 5 from rfl, show (i + 1) * 5 + 4 - 5 = i * 5 + 4 by omega]
theorem fbs_of {w : World} {xs : List Value} {fs : List Fn} (h : FnsAt w xs fs) (hn : NilB xs) (hb : ∀ f ∈ fs, f.body = []) :
    ∃ l : List FB, xs = fxsOf l ∧ l.map FB.fn = fs ∧ (∀ x ∈ l, FBok w x) ∧ ∀ x ∈ l, x.row = ⟨46, 7, .slice none 0 0, 0, []⟩ := by
  induction fs generalizing xs with
  | nil => rw [FnsAt] at h; subst h; exact ⟨[], rfl, rfl, fun x hx => (by cases hx), fun x hx => (by cases hx)⟩
  | cons f r ih =>
    obtain ⟨vs, ys, rfl, ⟨lv, sv, bv, rfl, h1, h2, h3⟩, h4⟩ := h
    obtain ⟨vss, e, hvs⟩ := hn
    cases vss with
    | nil => simp at e
    | cons v vr =>
      rw [List.flatten_cons] at e
      have hv := hvs v List.mem_cons_self
      obtain ⟨e1, e2⟩ := List.append_inj e (by rw [hv.1]; rfl)
      subst e1
      obtain ⟨l, k1, k2, k3, k4⟩ := ih h4 ⟨vr, e2, fun u hu => hvs u (List.mem_cons_of_mem _ hu)⟩ (fun f hf => hb f (List.mem_cons_of_mem _ hf))
      have hbv : bv = .slice none 0 0 := by have := hv.2; simpa using this
      have hfb := hb f List.mem_cons_self
      refine ⟨⟨f.name, f.params, lv, sv, none, 0, f, []⟩ :: l, ?_, by rw [List.map_cons, k2], fun x hx => ?_, fun x hx => ?_⟩
      · rw [fxsOf_cons, ← k1, hbv]
        show _ = [_, _, _, _, FB.bv _] ++ _
        unfold FB.bv
        rw [hfb]; rfl
      · rcases List.mem_cons.1 hx with rfl | hx
        · exact ⟨rfl, rfl, h1, h2, by rw [hfb]; exact ⟨rfl, fun i s hi => by simp at hi⟩⟩
        · exact k3 x hx
      · rcases List.mem_cons.1 hx with rfl | hx
        · unfold FB.row FB.bv
          rw [hfb]; rfl
        · exact k4 x hx
theorem Owns.nils {w : World} {B : Nat} {rs rs' : List Row} (h : Owns w B rs) (hn : ∀ r ∈ rs', r = ⟨46, 7, .slice none 0 0, 0, []⟩) : Owns w B (rs ++ rs') := by
  refine ⟨fun r hr => ?_, List.pairwise_append.2 ⟨h.apart, ?_, fun a ha b hb => ?_⟩⟩
  · rcases List.mem_append.1 hr with hr | hr
    · exact h.own r hr
    · rw [hn r hr]; exact World.ownsRow_nil _ _ _ _
  · refine List.pairwise_of_forall_mem_list fun a ha b hb => ?_
    rw [hn a ha]; exact .inl rfl
  · exact Apart.symm (by rw [hn b hb]; exact .inl rfl)
theorem rblk_append (rs rs' : List Row) : rblk (rs ++ rs') = rblk rs ++ rblk rs' := by unfold rblk; rw [List.flatMap_append]
theorem rblk_nils {rs' : List Row} (hn : ∀ r ∈ rs', r = ⟨46, 7, .slice none 0 0, 0, []⟩) {k : Nat} (h : k ∈ rblk rs') : False := by
  obtain ⟨r, hr, e⟩ := mem_rblk.1 h
  rw [hn r hr] at e
  cases e
theorem ReadsB.own {w : World} {B n c : Nat} {A : Option Addr} {xs : List Value} {l : List St} {bs : List Nat} (h : w.ownsRow B 46 7 (.slice A n c) n xs) (hs : StsAt (sans w bs) xs l) (hl : l.length = n) (hn : n ≤ 1000) (hbs : ∀ b ∈ bs, b < B) : ReadsB (sans w bs) (.slice A n c) l := by
  refine ⟨A, n, c, rfl, hn, hl, by unfold maxLen; omega, fun hp => ?_⟩
  rcases h.2 with ⟨e, h0⟩ | ⟨g, cap, cur, e, hb, hh, h1, h2, h3, h4⟩
  · omega
  · injection e with e1 e2 e3
    subst e1
    refine ⟨g, 0, rfl, CellsAll.of fun i s hi => ?_⟩
    obtain ⟨vs, k1, k2⟩ := hs.2 i s hi
    refine ⟨vs, k1, fun j v hv => ?_⟩
    have h5 := k2 j v hv
    rw [← h4] at h5
    have h6 := (List.getElem?_eq_some_iff.1 h5).1
    rw [List.getElem?_take_of_lt (by rw [List.length_take] at h6; omega)] at h5
    refine Sub.sans ?_ (fun hm => by have := hbs _ hm; simp at this; omega)
    rw [(blk3 hh).1, Nat.zero_add]
    simpa using h5
theorem ReadsF.own' {w : World} {B n : Nat} {A : Option Addr} {cp : Nat} {xs : List Value} {fs : List Fn} {bs : List Nat} (h : w.ownsRow B 35 5 (.slice A n cp) n xs) (hl : fs.length = n) (hn : n ≤ 1000) (hf : FnsAt (sans w bs) xs fs) (hbs : ∀ b ∈ bs, b < B) : ReadsF (sans w bs) (.slice A n cp) fs := by
  refine ⟨A, n, cp, rfl, hl, hn, fun hp => ?_⟩
  rcases h.2 with ⟨e, h0⟩ | ⟨g, cap, cur, e, hb, hh, h1, h2, h3, h4⟩
  · omega
  · injection e with e1 e2 e3
    subst e1
    refine ⟨g, 0, rfl, fun i f hi => ?_⟩
    obtain ⟨vs, k1, k2⟩ := hf.at hi
    refine ⟨vs, k1, fun j v hv => ?_⟩
    have h5 := k2 j v hv
    rw [← h4] at h5
    have h6 := (List.getElem?_eq_some_iff.1 h5).1
    rw [List.getElem?_take_of_lt (by rw [List.length_take] at h6; omega)] at h5
    refine Sub.sans ?_ (fun hm => by have := hbs _ hm; simp at this; omega)
    rw [(blk3 hh).1, Nat.zero_add]
    simpa using h5
/-- The cell of a row, and that it may be written. -/
theorem row_cell {w : World} {B n c g k : Nat} {e : TypeId} {size : Nat} {xs : List Value} {v : Value} (h : w.ownsRow B e size (.slice (some ⟨g, 0, none⟩) n c) n xs) (hk : xs[k]? = some v) : w.cell? ⟨g, k, none⟩ = some v ∧ w.frozen? ⟨g, k, none⟩ = false := by
  rcases h.2 with ⟨e, h0⟩ | ⟨g', cap, cur, e, hb, hh, h1, h2, h3, h4⟩
  · cases e
  · injection e with e1 e2 e3
    injection e1 with e1
    injection e1 with e1
    subst e1
    rw [← h4] at hk
    have h6 := (List.getElem?_eq_some_iff.1 hk).1
    rw [List.getElem?_take_of_lt (by rw [List.length_take] at h6; omega)] at hk
    exact ⟨by rw [(blk3 hh).1]; simpa using hk, (blk3 hh).2.1 k⟩
theorem own_addr {w : World} {B n c : Nat} {e : TypeId} {size : Nat} {xs : List Value} {A : Option Addr} (h : w.ownsRow B e size (.slice A n c) n xs) (hn : 0 < n) : ∃ g, A = some ⟨g, 0, none⟩ ∧ B ≤ g ∧ g < w.heap.size := by
  rcases h.2 with ⟨e, h0⟩ | ⟨g, cap, cur, e, hb, hh, h1, h2, h3, h4⟩
  · omega
  · injection e with e1 e2 e3
    exact ⟨g, e1, hb, blk_lt hh⟩
theorem fnsAt_of {w : World} {bs : List Nat} {B : Nat} {l : List FB} (h : ∀ x ∈ l, Cells5 (sans w bs) x.five x.fn) : FnsAt (sans w bs) (fxsOf l) (l.map FB.fn) := by
  induction l with
  | nil => rfl
  | cons x t ih => exact ⟨x.five, fxsOf t, rfl, h x List.mem_cons_self, ih fun y hy => h y (List.mem_cons_of_mem _ hy)⟩
theorem one7 (a b c d f : Int) (x y : Option Addr) (p q r s : Nat) : ∀ v ∈ (#[Value.int .u8 a, .int .u8 b, .int .i64 c, .int .u8 d, .int .i64 f, .slice x p q, .slice y r s] : Array Value).toList, v.oneCell' = true := by
  intro v hv
  simp at hv
  rcases hv with rfl | rfl | rfl | rfl | rfl | rfl | rfl <;> rfl
theorem old_cells {w : World} {g : Nat} {cs : Array Value} {t : TypeId} (h : w.heap[g]? = some (.cells cs t)) : ∀ j u, cs.toList[j]? = some u → w.cell? ((⟨g, 0, none⟩ : Addr).add j) = some u := by
  intro j u hj
  have ha : (⟨g, 0, none⟩ : Addr).add j = ⟨g, 0 + j, none⟩ := by unfold Addr.add; split <;> simp_all
  rw [ha, Nat.zero_add, (blk3 h).1]
  simpa using hj
theorem row_at {l : List FB} {q : Nat} {x : FB} (h : l[q]? = some x) (a b c d : Row) : ([a, b, c, d] ++ rowsOf l)[4 + q]? = some x.row := by
  rw [List.getElem?_append_right (by simp), show 4 + q - [a, b, c, d].length = q from by simp, rowsOf, List.getElem?_map, h]; rfl
theorem rows_set {l : List FB} {q : Nat} {y : FB} {r : Row} (hr : y.row = r) (a b c d : Row) : ([a, b, c, d] ++ rowsOf l).set (4 + q) r = [a, b, c, d] ++ rowsOf (l.set q y) := by
  rw [List.set_append_right _ _ (by simp), show 4 + q - [a, b, c, d].length = q from by simp, ← hr, rowsOf, rowsOf, List.map_set]
theorem rows_fin {l : List FB} {q : Nat} {y : FB} {r r' : Row} (hr : y.row = r') (a b c d c' : Row) : ((([a, b, c, d] ++ rowsOf l).set (4 + q) r).set 2 c').set (4 + q) r' = [a, b, c', d] ++ rowsOf (l.set q y) := by
  rw [List.set_comm _ _ (show 4 + q ≠ 2 by omega), List.set_set, show ([a, b, c, d] ++ rowsOf l).set 2 c' = [a, b, c', d] ++ rowsOf l from rfl, rows_set hr]
theorem addTo_eq {fs : List Fn} {q : Nat} {x : Fn} {s : St} (h : fs[q]? = some x) : addTo fs q s = fs.set q { x with body := x.body ++ [s] } := by
  unfold addTo
  apply List.ext_getElem?
  intro j
  rw [List.getElem?_modify, List.getElem?_set]
  by_cases e : q = j
  · subst e
    rw [h]
    simp [(List.getElem?_eq_some_iff.1 h).1]
  · simp [e]
/-- The five cells of a function in the row of functions. -/
theorem five_cells {V : World} {B gF n fc q : Nat} {rs : List Row} {l : List FB} {x : FB} (h : Owns V B rs) (hr : rs[2]? = some ⟨35, 5, .slice (some ⟨gF, 0, none⟩) n fc, n, fxsOf l⟩) (hx : l[q]? = some x) :
    (V.cell? ⟨gF, q * 5, none⟩ = some (.int .i64 x.nm) ∧ V.cell? ⟨gF, q * 5 + 1, none⟩ = some (.int .i64 (x.par : Nat)) ∧ V.cell? ⟨gF, q * 5 + 2, none⟩ = some x.lv ∧ V.cell? ⟨gF, q * 5 + 3, none⟩ = some x.sv ∧ V.cell? ⟨gF, q * 5 + 4, none⟩ = some x.bv) ∧ V.frozen? ⟨gF, q * 5 + 4, none⟩ = false := by
  have hc : ∀ k v, k < 5 → x.five[k]? = some v → V.cell? ⟨gF, q * 5 + k, none⟩ = some v ∧ V.frozen? ⟨gF, q * 5 + k, none⟩ = false := fun k v hk hv => row_cell (h.at hr) (by rw [fxsOf_at hx k hk]; exact hv)
  exact ⟨⟨(hc 0 _ (by decide) rfl).1, (hc 1 _ (by decide) rfl).1, (hc 2 _ (by decide) rfl).1, (hc 3 _ (by decide) rfl).1, (hc 4 _ (by decide) rfl).1⟩, (hc 4 _ (by decide) rfl).2⟩
/-- What a round of the last loop leaves. -/
theorem fb_step {d : Dr} {i q : Nat} {l : List FB} {x y : FB} {s : St} (hl : l.map FB.fn = bodD d i) (hx : l[q]? = some x) (hq : q = jD (nD d.f) d.acts.length i) (hs : s = stOf d.g d.f q (actAt d.acts i)) (hy : y.fn = { x.fn with body := x.fn.body ++ [s] }) : (l.set q y).map FB.fn = bodD d (i + 1) := by
  rw [bodD, ← hq, ← hs, addTo_eq (x := x.fn) (by rw [← hl, List.getElem?_map, hx]; rfl), List.map_set, hl, hy]
theorem FBok.grow {V : World} {x y : FB} {s : St} {vs : List Value} {A : Option Addr} {c : Nat} (hy : y = { x with bA := A, bc := c, fn := { x.fn with body := x.fn.body ++ [s] }, cells := x.cells ++ vs }) (hx : FBok V x) (hs : Cells7 V vs s) : FBok V y := by
  subst hy
  exact ⟨hx.nm, hx.par, hx.lv, hx.sv, hx.body.snoc hs⟩
def W7 (w : World) (g m : Nat) (v0 v1 v2 v3 v4 v5 v6 : Value) : World := ((((((w.setCell ⟨g, m, none⟩ v0).setCell ⟨g, m + 1, none⟩ v1).setCell ⟨g, m + 2, none⟩ v2).setCell ⟨g, m + 3, none⟩ v3).setCell ⟨g, m + 4, none⟩ v4).setCell ⟨g, m + 5, none⟩ v5).setCell ⟨g, m + 6, none⟩ v6
theorem W7_heap (w : World) (g m k : Nat) (hk : k ≠ g) (v0 v1 v2 v3 v4 v5 v6 : Value) : (W7 w g m v0 v1 v2 v3 v4 v5 v6).heap[k]? = w.heap[k]? := by
  have h : ∀ (W : World) (o : Nat) (v : Value), (W.setCell ⟨g, o, none⟩ v).heap[k]? = W.heap[k]? := fun W o v => Below.heap_setCell W ⟨g, o, none⟩ v k hk
  unfold W7
  rw [h, h, h, h, h, h, h]
theorem BX.w7 {w0 w : World} {dv : Array Value} {sv gv fv ev : Value} (h : BX w0 w dv sv gv fv ev) {g : Nat} (hg : w0.heap.size + 3 ≤ g) (m : Nat) (v0 v1 v2 v3 v4 v5 v6 : Value) : BX w0 (W7 w g m v0 v1 v2 v3 v4 v5 v6) dv sv gv fv ev :=
  ((((((h.far (p := ⟨g, m, none⟩) hg v0).far (p := ⟨g, m + 1, none⟩) hg v1).far (p := ⟨g, m + 2, none⟩) hg v2).far (p := ⟨g, m + 3, none⟩) hg v3).far (p := ⟨g, m + 4, none⟩) hg v4).far (p := ⟨g, m + 5, none⟩) hg v5).far (p := ⟨g, m + 6, none⟩) hg v6
theorem set7_list (xs : List Value) (m : Nat) (hm : xs.length = m) (z0 z1 z2 z3 z4 z5 z6 v0 v1 v2 v3 v4 v5 v6 : Value) :
    (((((((xs ++ [z0, z1, z2, z3, z4, z5, z6]).set m v0).set (m + 1) v1).set (m + 2) v2).set (m + 3) v3).set (m + 4) v4).set (m + 5) v5).set (m + 6) v6 = xs ++ [v0, v1, v2, v3, v4, v5, v6] := by
  subst hm
  have h : ∀ (ys : List Value) (k : Nat) (v : Value), (xs ++ ys).set (xs.length + k) v = xs ++ ys.set k v := fun ys k v => by rw [List.set_append_right _ _ (by omega), Nat.add_sub_cancel_left]
  rw [show xs.length = xs.length + 0 from rfl]
  simp only [h, Nat.add_zero]
  rw [show xs.length = xs.length + 0 from rfl, h]
  simp only [h, Nat.add_zero, List.set_cons_zero, List.set_cons_succ]
theorem Owns.w7 {w : World} {B i n c g m : Nat} {e : TypeId} {size : Nat} {xs : List Value} {rs : List Row} {z0 z1 z2 z3 z4 z5 z6 : Value} (h : Owns w B rs) (hr : rs[i]? = some ⟨e, size, .slice (some ⟨g, 0, none⟩) n c, n, xs ++ [z0, z1, z2, z3, z4, z5, z6]⟩) (hm : xs.length = m) (v0 v1 v2 v3 v4 v5 v6 : Value) :
    Owns (W7 w g m v0 v1 v2 v3 v4 v5 v6) B (rs.set i ⟨e, size, .slice (some ⟨g, 0, none⟩) n c, n, xs ++ [v0, v1, v2, v3, v4, v5, v6]⟩) := by
  have hi := (List.getElem?_eq_some_iff.1 hr).1
  have hs : ∀ (r r' : Row), (rs.set i r).set i r' = rs.set i r' := fun r r' => by rw [List.set_set]
  have h0 := h.set_store hr (g := g) rfl m v0
  have h1 := h0.set_store (i := i) (List.getElem?_set_self hi) (g := g) rfl (m + 1) v1
  rw [hs] at h1
  have h2 := h1.set_store (i := i) (List.getElem?_set_self hi) (g := g) rfl (m + 2) v2
  rw [hs] at h2
  have h3 := h2.set_store (i := i) (List.getElem?_set_self hi) (g := g) rfl (m + 3) v3
  rw [hs] at h3
  have h4 := h3.set_store (i := i) (List.getElem?_set_self hi) (g := g) rfl (m + 4) v4
  rw [hs] at h4
  have h5 := h4.set_store (i := i) (List.getElem?_set_self hi) (g := g) rfl (m + 5) v5
  rw [hs] at h5
  have h6 := h5.set_store (i := i) (List.getElem?_set_self hi) (g := g) rfl (m + 6) v6
  rw [hs] at h6
  simp only at h6
  rw [set7_list xs m hm] at h6
  exact h6
theorem sub_w7 {w : World} {rs : List Row} {i g m : Nat} {r r' : Row} {bs : List Nat} {v0 v1 v2 v3 v4 v5 v6 : Value} (hr : rs[i]? = some r) (hg : r.v.ownBlock = some g) (hv : r'.v.ownBlock = r.v.ownBlock) :
    Sub (sans w (rblk rs ++ bs)) (sans (W7 w g m v0 v1 v2 v3 v4 v5 v6) (rblk (rs.set i r') ++ bs)) := sub_sans fun k hk hkb => by
  simp only [List.mem_append, not_or] at hkb ⊢
  obtain ⟨h1, h2⟩ := hkb
  have hr1 : r ∈ rs := List.mem_of_getElem? hr
  refine ⟨⟨fun h => ?_, h2⟩, W7_heap w g m k (fun e => h1 (mem_rblk.2 ⟨r, hr1, by rw [e]; exact hg⟩)) _ _ _ _ _ _ _⟩
  obtain ⟨x, hx, e⟩ := mem_rblk.1 h
  rcases List.mem_or_eq_of_mem_set hx with hx | rfl
  · exact h1 (mem_rblk.2 ⟨x, hx, e⟩)
  · exact h1 (mem_rblk.2 ⟨r, hr1, by rw [← hv]; exact e⟩)
/-- The seven cells at a row's end. -/
theorem end_cells {w : World} {B i n c g m : Nat} {e : TypeId} {size : Nat} {xs : List Value} {rs : List Row} {z0 z1 z2 z3 z4 z5 z6 : Value} (h : Owns w B rs) (hr : rs[i]? = some ⟨e, size, .slice (some ⟨g, 0, none⟩) n c, n, xs ++ [z0, z1, z2, z3, z4, z5, z6]⟩) (hm : xs.length = m) :
    (w.cell? ⟨g, m, none⟩ = some z0 ∧ w.cell? ⟨g, m + 1, none⟩ = some z1 ∧ w.cell? ⟨g, m + 2, none⟩ = some z2 ∧ w.cell? ⟨g, m + 3, none⟩ = some z3 ∧ w.cell? ⟨g, m + 4, none⟩ = some z4 ∧ w.cell? ⟨g, m + 5, none⟩ = some z5 ∧ w.cell? ⟨g, m + 6, none⟩ = some z6) ∧
      (w.frozen? ⟨g, m, none⟩ = false ∧ w.frozen? ⟨g, m + 1, none⟩ = false ∧ w.frozen? ⟨g, m + 2, none⟩ = false ∧ w.frozen? ⟨g, m + 3, none⟩ = false ∧ w.frozen? ⟨g, m + 4, none⟩ = false ∧ w.frozen? ⟨g, m + 5, none⟩ = false ∧ w.frozen? ⟨g, m + 6, none⟩ = false) := by
  subst hm
  have hc : ∀ k v, ([z0, z1, z2, z3, z4, z5, z6] : List Value)[k]? = some v → w.cell? ⟨g, xs.length + k, none⟩ = some v ∧ w.frozen? ⟨g, xs.length + k, none⟩ = false := fun k v hv => row_cell (h.at hr) (by rw [List.getElem?_append_right (by omega), Nat.add_sub_cancel_left]; exact hv)
  exact ⟨⟨(hc 0 _ rfl).1, (hc 1 _ rfl).1, (hc 2 _ rfl).1, (hc 3 _ rfl).1, (hc 4 _ rfl).1, (hc 5 _ rfl).1, (hc 6 _ rfl).1⟩, ⟨(hc 0 _ rfl).2, (hc 1 _ rfl).2, (hc 2 _ rfl).2, (hc 3 _ rfl).2, (hc 4 _ rfl).2, (hc 5 _ rfl).2, (hc 6 _ rfl).2⟩⟩
theorem mem_set_or {α : Type} {l : List α} {q : Nat} {y z : α} (h : z ∈ l.set q y) : z ∈ l ∨ z = y := List.mem_or_eq_of_mem_set h
theorem mk2_body (g f i : Nat) : ∀ x ∈ (mk2 g f i).2, x.body = [] := by
  induction i with
  | zero => intro x hx; cases hx
  | succ i ih =>
    intro x hx
    rw [mk2] at hx
    rcases List.mem_append.1 hx with hx | hx
    · exact ih x hx
    · rw [List.mem_singleton] at hx
      rw [hx]; rfl
/-- What a function has at its place. -/
structure Placed (f N q : Nat) (x : Fn) : Prop where
  params : x.params = parD f q
  locals : x.locals.length = nlD f q
  sites : x.sites.length = nsD q
  name : 0 ≤ x.name ∧ x.name.toNat < N
  ls : ∀ y ∈ x.locals, 0 ≤ y ∧ y.toNat < N
  ss : ∀ y ∈ x.sites, 0 ≤ y ∧ y.toNat < N
theorem Placed.mono {f N N' q : Nat} {x : Fn} (h : Placed f N q x) (hN : N ≤ N') : Placed f N' q x :=
  ⟨h.params, h.locals, h.sites, ⟨h.name.1, Nat.lt_of_lt_of_le h.name.2 hN⟩, fun y hy => ⟨(h.ls y hy).1, Nat.lt_of_lt_of_le (h.ls y hy).2 hN⟩, fun y hy => ⟨(h.ss y hy).1, Nat.lt_of_lt_of_le (h.ss y hy).2 hN⟩⟩
theorem fnOf_placed (f b i N : Nat) (hN : b + 1 + nlD f i + nsD i ≤ N) : Placed f N i (fnOf f b i) where
  params := rfl
  locals := by unfold fnOf; rw [List.length_map, List.length_range]
  sites := by unfold fnOf; rw [List.length_map, List.length_range]
  name := ⟨Int.natCast_nonneg _, by show ((b : Int)).toNat < N; rw [Int.toNat_natCast]; omega⟩
  ls := fun y hy => by
    obtain ⟨j, hj, rfl⟩ := List.mem_map.1 hy
    rw [List.mem_range] at hj
    exact ⟨Int.natCast_nonneg _, by rw [Int.toNat_natCast]; omega⟩
  ss := fun y hy => by
    obtain ⟨j, hj, rfl⟩ := List.mem_map.1 hy
    rw [List.mem_range] at hj
    exact ⟨Int.natCast_nonneg _, by rw [Int.toNat_natCast]; omega⟩
theorem mk2_placed (g f i : Nat) : ∀ (q : Nat) x, (mk2 g f i).2[q]? = some x → Placed f (mk2 g f i).1.length q x := by
  induction i with
  | zero => intro q x hx; simp [mk2] at hx
  | succ i ih =>
    intro q x hx
    rw [mk2] at hx ⊢
    show Placed f ((mk2 g f i).1 ++ fnStrs f i).length q x
    rw [List.length_append, fnStrs_length]
    have hl := mk2_length g f i
    rcases Nat.lt_or_ge q i with hlt | hge
    · rw [List.getElem?_append_left (by omega)] at hx
      exact (ih q x hx).mono (by omega)
    · have hlt2 := (List.getElem?_eq_some_iff.1 hx).1
      simp at hlt2
      obtain rfl : q = i := by omega
      rw [List.getElem?_append_right (by omega), hl] at hx
      simp at hx
      subst hx
      exact fnOf_placed f _ q _ (by omega)
theorem addTo_at {fs : List Fn} {j q : Nat} {s : St} {x : Fn} (h : (addTo fs j s)[q]? = some x) : ∃ y, fs[q]? = some y ∧ x.name = y.name ∧ x.params = y.params ∧ x.locals = y.locals ∧ x.sites = y.sites := by
  unfold addTo at h
  rw [List.getElem?_modify] at h
  cases hy : fs[q]? with
  | none => rw [hy] at h; simp at h
  | some y =>
    rw [hy] at h
    refine ⟨y, rfl, ?_⟩
    simp at h
    subst h
    split <;> exact ⟨rfl, rfl, rfl, rfl⟩
theorem bodD_placed (d : Dr) (i : Nat) : ∀ (q : Nat) x, (bodD d i)[q]? = some x → Placed d.f (mk2 d.g d.f (nD d.f)).1.length q x := by
  induction i with
  | zero => exact mk2_placed _ _ _
  | succ i ih =>
    intro q x hx
    rw [bodD] at hx
    obtain ⟨y, hy, e1, e2, e3, e4⟩ := addTo_at hx
    have h := ih q y hy
    exact ⟨by rw [e2]; exact h.params, by rw [e3]; exact h.locals, by rw [e4]; exact h.sites, by rw [e1]; exact h.name, by rw [e3]; exact h.ls, by rw [e4]; exact h.ss⟩
theorem mk2_glob (g f i : Nat) : g % 4 ≤ (mk2 g f i).1.length := by
  induction i with
  | zero => rw [mk2]; show _ ≤ (globStrs _ _).length; unfold globStrs; rw [List.length_map, List.length_range]; exact Nat.le_refl _
  | succ i ih => rw [mk2]; show _ ≤ (_ ++ _ : List ByteArray).length; rw [List.length_append]; omega
theorem rawM_named (d : Dr) : Named (rawM d) where
  globals := fun y hy => by
    have hy : y ∈ natInts (d.g % 4) := hy
    unfold natInts at hy
    obtain ⟨j, hj, rfl⟩ := List.mem_map.1 hy
    rw [List.mem_range] at hj
    have := mk2_glob d.g d.f (nD d.f)
    exact ⟨Int.natCast_nonneg _, by rw [Int.toNat_natCast]; show j < (mk2 d.g d.f (nD d.f)).1.length; omega⟩
  names := fun f hf => by
    obtain ⟨q, hq⟩ := List.mem_iff_getElem?.1 hf
    exact (bodD_placed d _ q f hq).name
  locals := fun f hf => by
    obtain ⟨q, hq⟩ := List.mem_iff_getElem?.1 hf
    exact (bodD_placed d _ q f hq).ls
  sites := fun f hf => by
    obtain ⟨q, hq⟩ := List.mem_iff_getElem?.1 hf
    exact (bodD_placed d _ q f hq).ss
end Go.Proofs.Ytjgijbaboekghaa

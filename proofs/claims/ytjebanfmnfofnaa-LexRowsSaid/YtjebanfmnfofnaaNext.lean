/-
  lex.New (function 11), (*Lexer).Next (function 13): the next token.
-/
import Derived.Test.YtjebanfmnfofnaaBlank
import Derived.Deep.CutRange
import Derived.Outline
set_option linter.unusedSimpArgs false
set_option linter.unusedVariables false
namespace Go.Proofs.Ytjebanfmnfofnaa
open Go.RowKit
theorem sidx_yes {w : World} {c : Nat} (hc : c < 256) (h : isSign c = true) : Calls Try.prog 23 #[.string ⟨#[59, 61, 38, 42, 40, 41, 44, 123, 125]⟩, .int .u8 c] w fun e w' => ∃ z : Int, e = .returned (.int .i64 z) ∧ 0 ≤ z ∧ z ≤ 100 ∧ w = w' :=
  (sign_calls w c hc).mono fun e w' ⟨z, h1, h2, h3, h4, h5⟩ => ⟨z, h1, by rw [h] at h2; exact of_decide_eq_true h2, h4, h5⟩
theorem sidx_no {w : World} {c : Nat} (hc : c < 256) (h : isSign c = false) : Calls Try.prog 23 #[.string ⟨#[59, 61, 38, 42, 40, 41, 44, 123, 125]⟩, .int .u8 c] w fun e w' => ∃ z : Int, e = .returned (.int .i64 z) ∧ z < 0 ∧ -1 ≤ z ∧ w = w' :=
  (sign_calls w c hc).mono fun e w' ⟨z, h1, h2, h3, h4, h5⟩ => ⟨z, h1, by rw [h] at h2; have := of_decide_eq_false h2; omega, h3, h5⟩
theorem midx_yes {w : World} {c : Nat} (hc : c < 256) (h : isMark c = true) : Calls Try.prog 23 #[.string ⟨#[37, 36, 64, 35]⟩, .int .u8 c] w fun e w' => ∃ z : Int, e = .returned (.int .i64 z) ∧ 0 ≤ z ∧ z ≤ 100 ∧ w = w' :=
  (mark_calls w c hc).mono fun e w' ⟨z, h1, h2, h3, h4, h5⟩ => ⟨z, h1, by rw [h] at h2; exact of_decide_eq_true h2, h4, h5⟩
theorem midx_no {w : World} {c : Nat} (hc : c < 256) (h : isMark c = false) : Calls Try.prog 23 #[.string ⟨#[37, 36, 64, 35]⟩, .int .u8 c] w fun e w' => ∃ z : Int, e = .returned (.int .i64 z) ∧ z < 0 ∧ -1 ≤ z ∧ w = w' :=
  (mark_calls w c hc).mono fun e w' ⟨z, h1, h2, h3, h4, h5⟩ => ⟨z, h1, by rw [h] at h2; have := of_decide_eq_false h2; omega, h3, h5⟩
/-- string(c) of a byte below 128. -/
theorem conv_ascii (W : World) (c : Nat) (h : c < 128) : ∀ dst, Try.prog.underlying dst = some .string → (convert 5 dst (.int .u8 (c : Nat))).run Try.prog W = .ok (.string (bstr [c])) W := by
  intro dst hd
  have hs := Try.underlying5
  have hv : Utf8.valid (c : Int) = true := by unfold Utf8.valid; simp; omega
  unfold convert
  simp [run_underlying hs, run_underlying hd, Conv.intToString]
  unfold Utf8.encode
  simp only [hv, if_true, Int.toNat_natCast]
  rw [if_pos h]
  rfl
theorem sign_ascii {c : Nat} (h : isSign c = true) : c < 128 := by
  unfold isSign at h
  simp at h
  omega
/-- The next token: it, and the place behind; or where none stands. -/
def nextM (P : List Nat) (i : Nat) : Except Nat (Tok × Nat) :=
  match skip P i with
  | .error b => .error b
  | .ok k => if P.length ≤ k then .ok (⟨0, 0, [], k⟩, k) else tokAt P k
def Tok.val (t : Tok) : Value := .agg #[.int .u8 (t.kind : Nat), .int .u8 (t.mark : Nat), .string (bstr t.text), .int .i64 (t.at_ : Nat)]
def noTok : Value := .agg #[.int .u8 0, .int .u8 0, .string ⟨#[]⟩, .int .i64 0]
def Nexted (w : World) (g : Nat) (a : Option Addr) (n c : Nat) (P : List Nat) (r : Except Nat (Tok × Nat)) (e : Ending) (w' : World) : Prop :=
  match r with
  | .ok (t, k) => e = .returned (.tuple #[t.val, .int .i64 0, .int .i64 0]) ∧ (∀ u ∈ t.text, u < 256) ∧ Lx w' g a n c P k ∧ w.grownBy w' (some g)
  | .error k => e = .returned (.tuple #[noTok, .int .i64 (k : Nat), .int .i64 7]) ∧ Lx w' g a n c P k ∧ w.grownBy w' (some g)
theorem nexted_ok {w w' : World} {g n c k : Nat} {a : Option Addr} {P : List Nat} {r : Except Nat (Tok × Nat)} {e : Ending} {t : Tok} (hr : r = .ok (t, k)) (he : e = .returned (.tuple #[t.val, .int .i64 0, .int .i64 0])) (hs : ∀ u ∈ t.text, u < 256) (hl : Lx w' g a n c P k) (hg : w.grownBy w' (some g)) : Nexted w g a n c P r e w' := by
  subst hr; exact ⟨he, hs, hl, hg⟩
theorem nexted_err {w w' : World} {g n c k : Nat} {a : Option Addr} {P : List Nat} {r : Except Nat (Tok × Nat)} {e : Ending} (hr : r = .error k) (he : e = .returned (.tuple #[noTok, .int .i64 (k : Nat), .int .i64 7])) (hl : Lx w' g a n c P k) (hg : w.grownBy w' (some g)) : Nexted w g a n c P r e w' := by
  subst hr; exact ⟨he, hl, hg⟩
theorem new_calls (w : World) (a : Option Addr) (n c : Nat) : Calls Try.prog 11 #[.slice a n c] w fun e w' => e = .returned (.pointer (some ⟨w.heap.size, 0, none⟩)) ∧ w' = w.alloc (.cells #[.slice a n c, .int .i64 0] 51) := by
  go_enter Try.func11, Try.ntmps11
  go_wp2
  go_ret
  exact ⟨rfl, rfl⟩
theorem blk_kept {w w' : World} {g k : Nat} {o : Obj} (h : w.heap[k]? = some o) (hg : w.grownBy w' (some g)) (hne : k ≠ g) : w'.heap[k]? = some o := (hg.block k (blk_lt h) (fun e => hne (by injection e))).trans h
theorem set4_30 {w : World} {g : Nat} {t : TypeId} {u0 u1 u2 u3 : Value} (h : w.heap[g]? = some (.cells #[u0, u1, u2, u3] t)) (v0 v1 v2 v3 : Value) : ((((w.setCell ⟨g, 0, none⟩ v0).setCell ⟨g, 1, none⟩ v1).setCell ⟨g, 2, none⟩ v2).setCell ⟨g, 3, none⟩ v3).heap[g]? = some (.cells #[v0, v1, v2, v3] t) :=
  blk_set (blk_set (blk_set (blk_set h 0 v0) 1 v1) 2 v2) 3 v3
theorem set4_grown (w : World) (g : Nat) (v0 v1 v2 v3 : Value) : w.grownBy ((((w.setCell ⟨g, 0, none⟩ v0).setCell ⟨g, 1, none⟩ v1).setCell ⟨g, 2, none⟩ v2).setCell ⟨g, 3, none⟩ v3) (some g) :=
  grown_set (grown_set (grown_set (grown_set (grown_refl w _) 0 v0) 1 v1) 2 v2) 3 v3
theorem grown_far {w w2 W' : World} {g r : Nat} (h : w.grownBy w2 (some g)) (k : w2.grownBy W' (some r)) (hr : w.heap.size ≤ r) : w.grownBy W' (some g) :=
  ⟨k.os.trans h.os, k.tape.trans h.tape, k.output.trans h.output, Nat.le_trans h.size k.size, fun b hb hn => (k.block b (Nat.lt_of_lt_of_le hb h.size) (fun e => by injection e with e; omega)).trans (h.block b hb hn)⟩
/-- A block that the call has laid is written into. -/
theorem Lx.far {w w2 W' : World} {g n c i j r : Nat} {a : Option Addr} {P : List Nat} (h0 : Lx w g a n c P i) (h : Lx w2 g a n c P j) (hg : w2.grownBy W' (some r)) (hr : w.heap.size ≤ r) : Lx W' g a n c P j :=
  ⟨h.len, h.small, h.cap, h.le, h.byte, blk_kept h.box hg (fun e => by have := (blk3 h0.box).2.2; omega), fun hp => by
    obtain ⟨b, off, e, hb, hc⟩ := h.read hp
    obtain ⟨b', off', e', _, hc'⟩ := h0.read hp
    rw [e] at e'
    injection e' with e'
    injection e' with e1 e2
    subst e1 e2
    have hl : 0 < P.length := by rw [h.len]; exact hp
    have hlt : b < w.heap.size := World.block_lt_of_cell? w _ (hc' 0 _ (List.getElem?_eq_getElem hl))
    exact ⟨b, off, e, hb, fun j u hu => grown_cell hg (by omega) (hc j u hu)⟩⟩
set_option maxRecDepth 20000 in
set_option maxHeartbeats 4000000 in
theorem next_calls (w : World) (g n c i : Nat) (a : Option Addr) (P : List Nat) (ml : Int) (h : Lx w g a n c P i) (hg0 : g ≠ 0) (hml : w.cell? ⟨0, 0, none⟩ = some (.int .i64 ml)) : Calls Try.prog 13 #[.pointer (some ⟨g, 0, none⟩)] w (Nexted w g a n c P (nextM P i)) := by
  have hn := h.small
  have hcap := h.cap
  have Lw := Lib.hid h
  have HML := Lib.hid hml
  have HLEN := Lib.hid h.len
  have hgw := (blk3 h.box).2.2
  have hgne : w.heap.size ≠ g := by omega
  have HGN := Lib.hid hgne
  clear h hml hgne
  go_enter Try.func13, Try.ntmps13
  go_wp2_with fail
  obtain ⟨V, hV⟩ : ∃ V, V = w.alloc (.cells #[.int .u8 0, .int .u8 0, .string ⟨#[]⟩, .int .i64 0] 30) := ⟨_, rfl⟩
  have hbV : Below w.heap.size w V := by rw [hV]; exact (Below.refl _ _).alloc (Nat.le_refl _) _
  have hrV : V.heap[w.heap.size]? = some (.cells #[.int .u8 0, .int .u8 0, .string ⟨#[]⟩, .int .i64 0] 30) := by rw [hV]; exact heap_alloc_new w _
  rw [← hV]
  have HRV := Lib.hid hrV
  have LV := Lib.hid (Lw.out.below hbV)
  have GV : Hid (w.grownBy V (some g)) := Lib.hid (grown_below hbV)
  have HMV : Hid (V.cell? ⟨0, 0, none⟩ = some (.int .i64 ml)) := Lib.hid (grown_cell GV.out (fun e => hg0 e.symm) HML.out)
  clear hV hbV hrV
  refine (blank_walk V g n c i a P ml LV.out hg0 HMV.out).mono ?_
  intro e w2 hB
  cases hr : skip P i with
  | error b =>
    rw [hr] at hB
    obtain ⟨rfl, hl2, hg2⟩ := hB
    have HNX : Hid (nextM P i = .error b) := Lib.hid (by unfold nextM; rw [hr])
    have hr2 := blk_kept HRV.out hg2 HGN.out
    obtain ⟨cr, fr, zr⟩ := blk3 hr2
    have HR2 := Lib.hid hr2
    have L2 := Lib.hid hl2
    have G2 := Lib.hid (grown_trans GV.out hg2)
    clear hr hl2 hg2 hr2
    go_wp2_with fail
    have hres := set4_30 HR2.out (.int .u8 0) (.int .u8 0) (.string ⟨#[]⟩) (.int .i64 0)
    have hgr := set4_grown w2 w.heap.size (.int .u8 0) (.int .u8 0) (.string ⟨#[]⟩) (.int .i64 0)
    clear cr fr zr
    obtain ⟨W', hW'⟩ : ∃ W', W' = ((((w2.setCell ⟨w.heap.size, 0, none⟩ (.int .u8 0)).setCell ⟨w.heap.size, 1, none⟩ (.int .u8 0)).setCell ⟨w.heap.size, 2, none⟩ (.string ⟨#[]⟩)).setCell ⟨w.heap.size, 3, none⟩ (.int .i64 0)) := ⟨_, rfl⟩
    rw [← hW'] at hres hgr ⊢
    obtain ⟨cr, fr, zr⟩ := blk3 hres
    have HF := Lib.hid (Lw.out.far L2.out hgr (Nat.le_refl _))
    have HG := Lib.hid (grown_far G2.out hgr (Nat.le_refl _))
    clear hres hgr hW'
    refine bodyPost_ret (v := .tuple #[noTok, .int .i64 (b : Nat), .int .i64 7]) ?_ rfl (nexted_err HNX.out rfl HF.out HG.out)
    simp [results, Try.results13, go_sem, noTok, Tok.val, cr]
  | ok k =>
    rw [hr] at hB
    obtain ⟨rfl, hl2, hg2⟩ := hB
    have hr2 := blk_kept HRV.out hg2 HGN.out
    have HR2 := Lib.hid hr2
    have L2 := Lib.hid hl2
    have G2 := Lib.hid (grown_trans GV.out hg2)
    have HSP := Lib.hid ((skip_spec P i (by rw [HLEN.out]; exact Lw.out.le)).1 k hr)
    have hkn : k ≤ n := hl2.le
    have HSK := Lib.hid hr
    obtain ⟨c1, f1, z1⟩ := blk3 hl2.box
    clear hr hl2 hg2 hr2
    go_wp2_with fail
    obtain ⟨W3, hW3⟩ : ∃ W3, W3 = w2.alloc (.cells #[.int .u8 0, .int .u8 0, .string ⟨#[]⟩, .int .i64 (k : Nat)] 30) := ⟨_, rfl⟩
    have hb3 : Below w2.heap.size w2 W3 := by rw [hW3]; exact (Below.refl _ _).alloc (Nat.le_refl _) _
    have ht3 : W3.heap[w2.heap.size]? = some (.cells #[.int .u8 0, .int .u8 0, .string ⟨#[]⟩, .int .i64 (k : Nat)] 30) := by rw [hW3]; exact heap_alloc_new w2 _
    rw [← hW3]
    have LW3 := Lib.hid (L2.out.below hb3)
    have GW3 : Hid (w.grownBy W3 (some g)) := Lib.hid (grown_trans G2.out (grown_below hb3))
    have RW3 := Lib.hid (blk_below HR2.out hb3)
    have KW3 := Lib.hid ht3
    have hszw : w.heap.size < w2.heap.size := (blk3 HR2.out).2.2
    have hszg : g < w2.heap.size := z1
    clear hW3 hb3 ht3 c1 f1 z1 HR2 L2 G2 HRV
    obtain ⟨c1, f1, z1⟩ := blk3 LW3.out.box
    obtain ⟨ct, ft, zt⟩ := blk3 KW3.out
    obtain ⟨cr, fr, zr⟩ := blk3 RW3.out
    by_cases hkk : k < n
    · obtain ⟨b, off, x, rfl, hx, x256, xW3⟩ := LW3.out.at hkk
      have hkk2 : ((k : Int) == (n : Int)) = false := by rw [beq_eq_false_iff_ne]; omega
      have HX := Lib.hid hx
      have HNT : Hid (nextM P i = tokAt P k) := Lib.hid (by unfold nextM; rw [HSK.out]; exact if_neg (by rw [HLEN.out]; omega))
      clear hx
      go_still (by kernel_rfl)
      obtain ⟨W4, hW4⟩ : ∃ W, W = W3.drew := ⟨_, rfl⟩
      rw [show ({ heap := W3.heap, tape := W3.tape, drawn := W3.drawn + 1, os := W3.os, output := W3.output } : World) = W3.drew from rfl, ← hW4]
      have LW4 : Hid (Lx W4 g (some ⟨b, off, none⟩) n c P k) := Lib.hid (by rw [hW4]; exact LW3.out.drew)
      have GW4 : Hid (w.grownBy W4 (some g)) := Lib.hid (by rw [hW4]; exact grown_drew GW3.out)
      have RW4 : Hid (W4.heap[w.heap.size]? = some (.cells #[.int .u8 0, .int .u8 0, .string ⟨#[]⟩, .int .i64 0] 30)) := Lib.hid (by rw [hW4]; exact RW3.out)
      have KW4 : Hid (W4.heap[w2.heap.size]? = some (.cells #[.int .u8 0, .int .u8 0, .string ⟨#[]⟩, .int .i64 (k : Nat)] 30)) := Lib.hid (by rw [hW4]; exact KW3.out)
      have xW4 : W4.cell? ⟨b, off + k, none⟩ = some (.int .u8 (x : Nat)) := by rw [hW4]; exact xW3
      clear hW4 c1 f1 z1 ct ft zt cr fr zr LW3 GW3 RW3 KW3 xW3
      obtain ⟨c1, f1, z1⟩ := blk3 LW4.out.box
      obtain ⟨ct, ft, zt⟩ := blk3 KW4.out
      obtain ⟨cr, fr, zr⟩ := blk3 RW4.out
      go_wp2_with fail
      go_still (by kernel_rfl)
      obtain ⟨W5, hW5⟩ : ∃ W, W = W4.drew := ⟨_, rfl⟩
      rw [show ({ heap := W4.heap, tape := W4.tape, drawn := W4.drawn + 1, os := W4.os, output := W4.output } : World) = W4.drew from rfl, ← hW5]
      have LW5 : Hid (Lx W5 g (some ⟨b, off, none⟩) n c P k) := Lib.hid (by rw [hW5]; exact LW4.out.drew)
      have GW5 : Hid (w.grownBy W5 (some g)) := Lib.hid (by rw [hW5]; exact grown_drew GW4.out)
      have RW5 : Hid (W5.heap[w.heap.size]? = some (.cells #[.int .u8 0, .int .u8 0, .string ⟨#[]⟩, .int .i64 0] 30)) := Lib.hid (by rw [hW5]; exact RW4.out)
      have KW5 : Hid (W5.heap[w2.heap.size]? = some (.cells #[.int .u8 0, .int .u8 0, .string ⟨#[]⟩, .int .i64 (k : Nat)] 30)) := Lib.hid (by rw [hW5]; exact KW4.out)
      have xW5 : W5.cell? ⟨b, off + k, none⟩ = some (.int .u8 (x : Nat)) := by rw [hW5]; exact xW4
      clear hW5 c1 f1 z1 ct ft zt cr fr zr LW4 GW4 RW4 KW4 xW4
      obtain ⟨c1, f1, z1⟩ := blk3 LW5.out.box
      obtain ⟨ct, ft, zt⟩ := blk3 KW5.out
      obtain ⟨cr, fr, zr⟩ := blk3 RW5.out
      cases hsg : isSign x with
      | true =>
        have HSG := Lib.hid hsg
        have hcv := conv_ascii W5 x (sign_ascii hsg)
        have HNX : Hid (nextM P i = .ok (⟨3, 0, [x], k⟩, k + 1)) := Lib.hid (by rw [HNT.out]; unfold tokAt; rw [HX.out]; exact if_pos HSG.out)
        have hk1 : (k : Int) + 1 = ((k + 1 : Nat) : Int) := by omega
        have HK1 := Lib.hid hk1
        clear hsg hk1
        go_wp2_with fail
        refine (sidx_yes x256 HSG.out).mono ?_
        rintro e w6 ⟨z, rfl, hz0, hz1, rfl⟩
        go_wp2_with fail
        rw [HK1.out]
        obtain ⟨W6, hW6⟩ : ∃ W, W = (((W5.setCell ⟨w2.heap.size, 0, none⟩ (.int .u8 3)).setCell ⟨w2.heap.size, 2, none⟩ (.string (bstr [x]))).setCell ⟨g, 1, none⟩ (.int .i64 (((k + 1 : Nat) : Int)))) := ⟨_, rfl⟩
        rw [← hW6]
        have LW6 : Hid (Lx W6 g (some ⟨b, off, none⟩) n c P (k + 1)) := Lib.hid (by rw [hW6]; exact (Lw.out.far LW5.out (grown_set (grown_set (grown_refl W5 _) 0 (.int .u8 3)) 2 (.string (bstr [x]))) (Nat.le_of_lt hszw)).set (j := k + 1) (by omega))
        have GW6 : Hid (w.grownBy W6 (some g)) := Lib.hid (by rw [hW6]; exact grown_set (grown_far GW5.out (grown_set (grown_set (grown_refl W5 _) 0 (.int .u8 3)) 2 (.string (bstr [x]))) (Nat.le_of_lt hszw)) 1 (.int .i64 (((k + 1 : Nat) : Int))))
        have RW6 : Hid (W6.heap[w.heap.size]? = some (.cells #[.int .u8 0, .int .u8 0, .string ⟨#[]⟩, .int .i64 0] 30)) := Lib.hid (by rw [hW6]; exact blk_far (blk_far (blk_far (RW5.out) (p := ⟨w2.heap.size, 0, none⟩) (Nat.ne_of_lt hszw) (.int .u8 3)) (p := ⟨w2.heap.size, 2, none⟩) (Nat.ne_of_lt hszw) (.string (bstr [x]))) (p := ⟨g, 1, none⟩) HGN.out (.int .i64 (((k + 1 : Nat) : Int))))
        clear hW6 c1 f1 z1 ct ft zt cr fr zr LW5 GW5 RW5 KW5
        clear xW5
        have hres := set4_30 RW6.out (.int .u8 3) (.int .u8 0) (.string (bstr [x])) (.int .i64 (k : Nat))
        have hgr := set4_grown W6 w.heap.size (.int .u8 3) (.int .u8 0) (.string (bstr [x])) (.int .i64 (k : Nat))
        obtain ⟨W', hW'⟩ : ∃ W', W' = ((((W6.setCell ⟨w.heap.size, 0, none⟩ (.int .u8 3)).setCell ⟨w.heap.size, 1, none⟩ (.int .u8 0)).setCell ⟨w.heap.size, 2, none⟩ (.string (bstr [x]))).setCell ⟨w.heap.size, 3, none⟩ (.int .i64 (k : Nat))) := ⟨_, rfl⟩
        rw [← hW'] at hres hgr ⊢
        obtain ⟨cr, fr, zr⟩ := blk3 hres
        have HF := Lib.hid (Lw.out.far LW6.out hgr (Nat.le_refl _))
        have HG := Lib.hid (grown_far GW6.out hgr (Nat.le_refl _))
        clear hres hgr hW'
        refine bodyPost_ret (v := .tuple #[(⟨3, 0, [x], k⟩ : Tok).val, .int .i64 0, .int .i64 0]) ?_ rfl (nexted_ok (t := ⟨3, 0, [x], k⟩) HNX.out rfl (fun u hu => by rw [List.mem_singleton] at hu; rw [hu]; exact x256) HF.out HG.out)
        simp [results, Try.results13, go_sem, noTok, Tok.val, cr]
      | false =>
        have HSG := Lib.hid hsg
        clear hsg
        go_wp2_with fail
        refine (sidx_no x256 HSG.out).mono ?_
        rintro e w6 ⟨z, rfl, hz0, hz1, rfl⟩
        cases hmk : isMark x with
        | true =>
          have HMK := Lib.hid hmk
          have hk1 : (k : Int) + 1 = ((k + 1 : Nat) : Int) := by omega
          have HK1 := Lib.hid hk1
          have HTM : Hid (nextM P i = (match nameAt P (k + 1) with | .ok (s, e) => .ok (⟨2, x, s, k⟩, e) | .error e => .error e)) := Lib.hid (by
            rw [HNT.out]
            unfold tokAt
            rw [HX.out]
            show (if isSign x = true then _ else if isMark x = true then _ else _) = _
            rw [if_neg (by rw [HSG.out]; decide), if_pos HMK.out]
            cases nameAt P (k + 1) <;> rfl)
          clear hmk hk1
          go_wp2_with fail
          refine (midx_yes x256 HMK.out).mono ?_
          rintro e w6 ⟨z2, rfl, hz2, hz3, rfl⟩
          go_wp2_with fail
          rw [HK1.out]
          obtain ⟨W6, hW6⟩ : ∃ W, W = W5.setCell ⟨g, 1, none⟩ (.int .i64 ((k + 1 : Nat) : Int)) := ⟨_, rfl⟩
          rw [← hW6]
          have LW6 : Hid (Lx W6 g (some ⟨b, off, none⟩) n c P (k + 1)) := Lib.hid (by rw [hW6]; exact LW5.out.set (by omega))
          have GW6 : Hid (w.grownBy W6 (some g)) := Lib.hid (by rw [hW6]; exact grown_set GW5.out 1 _)
          have RW6 : Hid (W6.heap[w.heap.size]? = some (.cells #[.int .u8 0, .int .u8 0, .string ⟨#[]⟩, .int .i64 0] 30)) := Lib.hid (by rw [hW6]; exact blk_far RW5.out HGN.out _)
          have KW6 : Hid (W6.heap[w2.heap.size]? = some (.cells #[.int .u8 0, .int .u8 0, .string ⟨#[]⟩, .int .i64 (k : Nat)] 30)) := Lib.hid (by rw [hW6]; exact blk_far KW5.out (p := ⟨g, 1, none⟩) (Nat.ne_of_gt hszg) _)
          clear hW6 xW5 c1 f1 z1 ct ft zt cr fr zr LW5 GW5 RW5 KW5
          refine (name_calls W6 g n c (k + 1) (some ⟨b, off, none⟩) P LW6.out).mono ?_
          intro e w7 hN
          cases hr : nameAt P (k + 1) with
          | ok se =>
            obtain ⟨s, kk⟩ := se
            rw [hr] at hN
            obtain ⟨rfl, hs, hl7, hg7⟩ := hN
            have HNX : Hid (nextM P i = .ok (⟨2, x, s, k⟩, kk)) := Lib.hid (by rw [HTM.out, hr])
            have HSB := Lib.hid hs
            have Lw7 : Hid (Lx w7 g (some ⟨b, off, none⟩) n c P kk) := Lib.hid hl7
            have Gw7 : Hid (w.grownBy w7 (some g)) := Lib.hid (grown_trans GW6.out hg7)
            have Rw7 : Hid (w7.heap[w.heap.size]? = some (.cells #[.int .u8 0, .int .u8 0, .string ⟨#[]⟩, .int .i64 0] 30)) := Lib.hid (blk_kept RW6.out hg7 HGN.out)
            have Kw7 : Hid (w7.heap[w2.heap.size]? = some (.cells #[.int .u8 0, .int .u8 0, .string ⟨#[]⟩, .int .i64 (k : Nat)] 30)) := Lib.hid (blk_kept KW6.out hg7 (Nat.ne_of_gt hszg))
            have hkkn := hl7.le
            clear hr hs hl7 hg7 LW6 GW6 RW6 KW6
            obtain ⟨c1, f1, z1⟩ := blk3 Lw7.out.box
            obtain ⟨ct, ft, zt⟩ := blk3 Kw7.out
            obtain ⟨cr, fr, zr⟩ := blk3 Rw7.out
            go_wp2_with fail
            obtain ⟨W8, hW8⟩ : ∃ W, W = (((w7.setCell ⟨w2.heap.size, 0, none⟩ (.int .u8 2)).setCell ⟨w2.heap.size, 1, none⟩ (.int .u8 (x : Nat))).setCell ⟨w2.heap.size, 2, none⟩ (.string (bstr s))) := ⟨_, rfl⟩
            rw [← hW8]
            have LW8 : Hid (Lx W8 g (some ⟨b, off, none⟩) n c P (kk)) := Lib.hid (by rw [hW8]; exact Lw.out.far Lw7.out (grown_set (grown_set (grown_set (grown_refl w7 _) 0 (.int .u8 2)) 1 (.int .u8 (x : Nat))) 2 (.string (bstr s))) (Nat.le_of_lt hszw))
            have GW8 : Hid (w.grownBy W8 (some g)) := Lib.hid (by rw [hW8]; exact grown_far Gw7.out (grown_set (grown_set (grown_set (grown_refl w7 _) 0 (.int .u8 2)) 1 (.int .u8 (x : Nat))) 2 (.string (bstr s))) (Nat.le_of_lt hszw))
            have RW8 : Hid (W8.heap[w.heap.size]? = some (.cells #[.int .u8 0, .int .u8 0, .string ⟨#[]⟩, .int .i64 0] 30)) := Lib.hid (by rw [hW8]; exact blk_far (blk_far (blk_far (Rw7.out) (p := ⟨w2.heap.size, 0, none⟩) (Nat.ne_of_lt hszw) (.int .u8 2)) (p := ⟨w2.heap.size, 1, none⟩) (Nat.ne_of_lt hszw) (.int .u8 (x : Nat))) (p := ⟨w2.heap.size, 2, none⟩) (Nat.ne_of_lt hszw) (.string (bstr s)))
            clear hW8 c1 f1 z1 ct ft zt cr fr zr Lw7 Gw7 Rw7 Kw7
            have hres := set4_30 RW8.out (.int .u8 2) (.int .u8 (x : Nat)) (.string (bstr s)) (.int .i64 (k : Nat))
            have hgr := set4_grown W8 w.heap.size (.int .u8 2) (.int .u8 (x : Nat)) (.string (bstr s)) (.int .i64 (k : Nat))
            obtain ⟨W', hW'⟩ : ∃ W', W' = ((((W8.setCell ⟨w.heap.size, 0, none⟩ (.int .u8 2)).setCell ⟨w.heap.size, 1, none⟩ (.int .u8 (x : Nat))).setCell ⟨w.heap.size, 2, none⟩ (.string (bstr s))).setCell ⟨w.heap.size, 3, none⟩ (.int .i64 (k : Nat))) := ⟨_, rfl⟩
            rw [← hW'] at hres hgr ⊢
            obtain ⟨cr, fr, zr⟩ := blk3 hres
            have HF := Lib.hid (Lw.out.far LW8.out hgr (Nat.le_refl _))
            have HG := Lib.hid (grown_far GW8.out hgr (Nat.le_refl _))
            clear hres hgr hW'
            refine bodyPost_ret (v := .tuple #[(⟨2, x, s, k⟩ : Tok).val, .int .i64 0, .int .i64 0]) ?_ rfl (nexted_ok (t := ⟨2, x, s, k⟩) HNX.out rfl HSB.out HF.out HG.out)
            simp [results, Try.results13, go_sem, noTok, Tok.val, cr]
          | error kk =>
            rw [hr] at hN
            obtain ⟨rfl, hl7, hg7⟩ := hN
            have HNX : Hid (nextM P i = .error kk) := Lib.hid (by rw [HTM.out, hr])
            have Lw7 : Hid (Lx w7 g (some ⟨b, off, none⟩) n c P kk) := Lib.hid hl7
            have Gw7 : Hid (w.grownBy w7 (some g)) := Lib.hid (grown_trans GW6.out hg7)
            have Rw7 : Hid (w7.heap[w.heap.size]? = some (.cells #[.int .u8 0, .int .u8 0, .string ⟨#[]⟩, .int .i64 0] 30)) := Lib.hid (blk_kept RW6.out hg7 HGN.out)
            clear hr hl7 hg7 LW6 GW6 RW6 KW6
            obtain ⟨c1, f1, z1⟩ := blk3 Lw7.out.box
            obtain ⟨cr, fr, zr⟩ := blk3 Rw7.out
            go_wp2_with fail
            refine wp_region_HL (S := (fun w' => ∀ o, w'.cell? ⟨g, o, none⟩ = (#[.slice (some ⟨b, off, none⟩) n c, .int .i64 (kk : Nat)] : Array Value)[o]?)) 8 (by kernel_rfl) (by kernel_rfl) (by kernel_rfl) (by kernel_rfl) (by decide) c1 (fun hHeld => ?_)
            refine HL.take_ (i := 0) (oi := { dst := some 80, op := .build 30 #[], type := 30, pos := "lex.go:144", after := #[], guard := none }) (v := ?_) rfl (by decide) (by kernel_rfl) (by kernel_rfl) (fun _ _ _ h => h) (Or.inl ⟨by rfl, ?_⟩) (by assumption) ?_
            rotate_left
            · intro w hSw
              (try dsimp only at hSw)
              have h1 := hSw; (go_simp; try (with_reducible rfl))
            try simp only [Act.put, List.setIfInBounds_toArray, List.set_cons_zero, List.set_cons_succ]
            refine HL.take_ (i := 1) (oi := { dst := some 81, op := .move (.tmp 0), type := 24, pos := "lex.go:144", after := #[{ on := 6, ground := .gcOnly .lateStores }], guard := none }) (v := ?_) rfl (by decide) (by kernel_rfl) (by kernel_rfl) (fun _ _ _ h => h) (Or.inl ⟨by rfl, ?_⟩) (by assumption) ?_
            rotate_left
            · intro w hSw
              (try dsimp only at hSw)
              have h1 := hSw; (go_simp; try (with_reducible rfl))
            try simp only [Act.put, List.setIfInBounds_toArray, List.set_cons_zero, List.set_cons_succ]
            refine HL.take_ (i := 2) (oi := { dst := some 82, op := .nilCheck (.tmp 81), type := 0, pos := "lex.go:144", after := #[{ on := 1, ground := .data }, { on := 6, ground := .gcOnly .lateStores }], guard := none }) (v := ?_) rfl (by decide) (by kernel_rfl) (by kernel_rfl) (fun _ _ _ h => h) (Or.inl ⟨by rfl, ?_⟩) (by assumption) ?_
            rotate_left
            · intro w hSw
              (try dsimp only at hSw)
              have h1 := hSw; (go_simp; try (with_reducible rfl))
            try simp only [Act.put, List.setIfInBounds_toArray, List.set_cons_zero, List.set_cons_succ]
            refine HL.take_ (i := 3) (oi := { dst := some 83, op := .fieldAddr 51 (.tmp 82) 1, type := 0, pos := "lex.go:144", after := #[{ on := 2, ground := .data }, { on := 6, ground := .gcOnly .lateStores }], guard := none }) (v := ?_) rfl (by decide) (by kernel_rfl) (by kernel_rfl) (fun _ _ _ h => h) (Or.inl ⟨by rfl, ?_⟩) (by assumption) ?_
            rotate_left
            · intro w hSw
              (try dsimp only at hSw)
              have h1 := hSw; (go_simp; try (with_reducible rfl))
            try simp only [Act.put, List.setIfInBounds_toArray, List.set_cons_zero, List.set_cons_succ]
            refine HL.take_ (i := 4) (oi := { dst := some 84, op := .load 3 (.tmp 83), type := 3, pos := "lex.go:144", after := #[{ on := 3, ground := .data }, { on := 6, ground := .gcOnly .lateStores }], guard := none }) (v := ?_) rfl (by decide) (by kernel_rfl) (by kernel_rfl) (fun _ _ _ h => h) (Or.inl ⟨by rfl, ?_⟩) (by assumption) ?_
            rotate_left
            · intro w hSw
              (try dsimp only at hSw)
              have h1 := hSw; (go_simp; try (with_reducible rfl))
            try simp only [Act.put, List.setIfInBounds_toArray, List.set_cons_zero, List.set_cons_succ]
            refine HL.take_ (i := 5) (oi := { dst := some 85, op := .move (.tmp 9), type := 31, pos := "lex.go:144", after := #[{ on := 7, ground := .gcOnly .lateStores }], guard := none }) (v := ?_) rfl (by decide) (by kernel_rfl) (by kernel_rfl) (fun _ _ _ h => h) (Or.inl ⟨by rfl, ?_⟩) (by assumption) ?_
            rotate_left
            · intro w hSw
              (try dsimp only at hSw)
              have h1 := hSw; (go_simp; try (with_reducible rfl))
            try simp only [Act.put, List.setIfInBounds_toArray, List.set_cons_zero, List.set_cons_succ]
            refine HL.step_ (i := 6) (o := { dst := none, op := .store 30 (.tmp 2) (.tmp 80), type := 0, pos := "lex.go:144", after := #[{ on := 0, ground := .data }, { on := 0, ground := .phase }, { on := 1, ground := .textOnly .lateStores }, { on := 2, ground := .textOnly .lateStores }, { on := 3, ground := .textOnly .lateStores }, { on := 4, ground := .textOnly .lateStores }, { on := 5, ground := .textOnly .lateStores }], guard := none }) rfl (by decide) (by kernel_rfl) (fun K hK => ?_)
            go_simp
            have hb8 : (((((w7.setCell ⟨w.heap.size, 0, none⟩ (.int .u8 0)).setCell ⟨w.heap.size, 1, none⟩ (.int .u8 0)).setCell ⟨w.heap.size, 2, none⟩ (.string ⟨#[]⟩)).setCell ⟨w.heap.size, 3, none⟩ (.int .i64 0)).drew).heap[g]? = some (.cells #[.slice (some ⟨b, off, none⟩) n c, .int .i64 (kk : Nat)] 51) := blk_far (blk_far (blk_far (blk_far (Lw7.out.box) (p := ⟨w.heap.size, 0, none⟩) (fun e => HGN.out e.symm) (.int .u8 0)) (p := ⟨w.heap.size, 1, none⟩) (fun e => HGN.out e.symm) (.int .u8 0)) (p := ⟨w.heap.size, 2, none⟩) (fun e => HGN.out e.symm) (.string ⟨#[]⟩)) (p := ⟨w.heap.size, 3, none⟩) (fun e => HGN.out e.symm) (.int .i64 0)
            have c8 := (blk3 hb8).1
            refine hK.out _ _ c8 (fun hHeld => ?_)
            clear hK K
            try simp only [Act.put, List.setIfInBounds_toArray, List.set_cons_zero, List.set_cons_succ]
            refine HL.take_ (i := 7) (oi := { dst := some 3, op := .assign (.tmp 84), type := 3, pos := "lex.go:144", after := #[{ on := 4, ground := .data }, { on := 6, ground := .chain }, { on := 0, ground := .phase }, { on := 1, ground := .phase }, { on := 2, ground := .phase }, { on := 3, ground := .phase }, { on := 4, ground := .phase }, { on := 5, ground := .textOnly .lateStores }, { on := 6, ground := .phase }], guard := none }) (v := ?_) rfl (by decide) (by kernel_rfl) (by kernel_rfl) (fun _ _ _ h => h) (Or.inl ⟨by rfl, ?_⟩) (by assumption) ?_
            rotate_left
            · intro w hSw
              (try dsimp only at hSw)
              have h1 := hSw; (go_simp; try (with_reducible rfl))
            try simp only [Act.put, List.setIfInBounds_toArray, List.set_cons_zero, List.set_cons_succ]
            refine HL.done_ (by kernel_rfl) ?_
            simp only [List.drop_succ_cons, List.drop_zero]
            clear hHeld
            go_wp2_with fail
            have hres := set4_30 Rw7.out (.int .u8 0) (.int .u8 0) (.string ⟨#[]⟩) (.int .i64 0)
            have hgr := set4_grown w7 w.heap.size (.int .u8 0) (.int .u8 0) (.string ⟨#[]⟩) (.int .i64 0)
            clear cr fr zr
            obtain ⟨W', hW'⟩ : ∃ W', W' = ((((w7.setCell ⟨w.heap.size, 0, none⟩ (.int .u8 0)).setCell ⟨w.heap.size, 1, none⟩ (.int .u8 0)).setCell ⟨w.heap.size, 2, none⟩ (.string ⟨#[]⟩)).setCell ⟨w.heap.size, 3, none⟩ (.int .i64 0)).drew := ⟨_, rfl⟩
            have hres' : W'.heap[w.heap.size]? = some (.cells #[.int .u8 0, .int .u8 0, .string ⟨#[]⟩, .int .i64 0] 30) := by rw [hW']; exact hres
            have hgr' : w7.grownBy W' (some w.heap.size) := by rw [hW']; exact grown_drew hgr
            rw [← hW']
            obtain ⟨cr, fr, zr⟩ := blk3 hres'
            have HF := Lib.hid (Lw.out.far Lw7.out hgr' (Nat.le_refl _))
            have HG := Lib.hid (grown_far Gw7.out hgr' (Nat.le_refl _))
            clear hres hgr hW' hres' hgr' c8 hb8
            refine bodyPost_ret (v := .tuple #[noTok, .int .i64 (kk : Nat), .int .i64 7]) ?_ rfl (nexted_err HNX.out rfl HF.out HG.out)
            simp [results, Try.results13, go_sem, noTok, cr]
        | false =>
          have HMK := Lib.hid hmk
          clear hmk
          go_wp2_with fail
          refine (midx_no x256 HMK.out).mono ?_
          rintro e w6 ⟨z2, rfl, hz2, hz3, rfl⟩
          have HTW : Hid (nextM P i = if isLower x = true then .ok (⟨1, 0, (P.drop k).take (run isLower P k - k), k⟩, run isLower P k) else .error k) := Lib.hid (by
            rw [HNT.out]
            unfold tokAt
            rw [HX.out]
            show (if isSign x = true then _ else if isMark x = true then _ else _) = _
            rw [if_neg (by rw [HSG.out]; decide), if_neg (by rw [HMK.out]; decide)])
          go_wp2_with fail
          clear c1 f1 z1
          go_loopg [] (n - k) (fun gk wr => ∃ j : Nat, k ≤ j ∧ j ≤ n ∧ Hid (gk = n - j) ∧ Hid (run isLower P j = run isLower P k) ∧ Hid (Lx wr g (some ⟨b, off, none⟩) n c P j) ∧ Hid (W5.grownBy wr (some g)))
          case atStart => exact ⟨k, Nat.le_refl _, hkn, rfl, rfl, LW5.out, grown_refl _ _⟩
          case round =>
            obtain ⟨j, hkj, hj, HK, HR, Lwr, Gwr⟩ := hrel
            clear xW5 ct ft zt cr fr zr
            obtain ⟨c1, f1, z1⟩ := blk3 Lwr.out.box
            go_upto_region 22 with (fail)
            go_cut [131] from 96 to 131 (fun s131 wx => ∃ yes : Bool, s131 = .bool yes ∧ Hid (Lx wx g (some ⟨b, off, none⟩) n c P j) ∧ Hid (W5.grownBy wx (some g)) ∧ Hid (yes = true → j < n ∧ run isLower P (j + 1) = run isLower P k) ∧ Hid (yes = false → run isLower P k = j))
            case first =>
              by_cases hlt : j < n
              · obtain ⟨y, hy⟩ : ∃ y, P[j]? = some y := ⟨_, List.getElem?_eq_getElem (by rw [HLEN.out]; omega)⟩
                have y256 : y < 256 := Lw.out.byte y (List.mem_of_getElem? hy)
                have ywr : wr.cell? ⟨b, off + j, none⟩ = some (.int .u8 (y : Nat)) := Lwr.out.cells j y hy
                have hlt2 : (j : Int) < (n : Int) := by omega
                have HY := Lib.hid hy
                clear hy
                by_cases h97 : 97 ≤ y
                · have k97 : (97 : Int) ≤ (y : Int) := by omega
                  by_cases h122 : y ≤ 122
                  · have k122 : (y : Int) ≤ 122 := by omega
                    have HQ : Hid (run isLower P (j + 1) = run isLower P k) := Lib.hid (by rw [← HR.out]; exact (run_step HY.out (by unfold isLower; simp [h97, h122])).symm)
                    go_quiet (fail)
                    go_wp2_with fail
                    go_meet
                    case rel => exact ⟨true, rfl, Lwr.out.drewN _, grown_drewN Gwr.out _, fun _ => ⟨hlt, HQ.out⟩, fun h => (by cases h)⟩
                  · have k122 : ¬ (y : Int) ≤ 122 := by omega
                    have HQ : Hid (run isLower P k = j) := Lib.hid (by rw [← HR.out]; exact run_no HY.out (by unfold isLower; simp [h97, h122]))
                    go_quiet (fail)
                    go_wp2_with fail
                    go_meet
                    case rel => exact ⟨false, rfl, Lwr.out.drewN _, grown_drewN Gwr.out _, fun h => (by cases h), fun _ => HQ.out⟩
                · have k97 : ¬ (97 : Int) ≤ (y : Int) := by omega
                  have k97' : decide ((97 : Int) ≤ (y : Int)) = false := decide_eq_false k97
                  have HQ : Hid (run isLower P k = j) := Lib.hid (by rw [← HR.out]; exact run_no HY.out (by unfold isLower; simp [h97]))
                  go_quiet (fail)
                  go_wp2_with fail
                  go_meet
                  case rel => exact ⟨false, rfl, Lwr.out.drewN _, grown_drewN Gwr.out _, fun h => (by cases h), fun _ => HQ.out⟩
              · obtain rfl : n = j := by omega
                have HQ : Hid (run isLower P k = n) := Lib.hid (by rw [← HR.out]; exact run_end (by rw [HLEN.out]; exact Nat.le_refl _))
                have hd : decide ((n : Int) < (n : Int)) = false := decide_eq_false (Int.lt_irrefl _)
                go_quiet (fail)
                go_wp2_with fail
                go_meet
                case rel => exact ⟨false, rfl, Lwr.out.drewN _, grown_drewN Gwr.out _, fun h => (by cases h), fun _ => HQ.out⟩
            case rest =>
              obtain ⟨yes, rfl, Lx2, Gx2, HY, HN⟩ := hcut
              clear c1 f1 z1
              obtain ⟨c1, f1, z1⟩ := blk3 Lx2.out.box
              cases yes with
              | true =>
                obtain ⟨hjn, hrun⟩ := HY.out rfl
                have HRUN := Lib.hid hrun
                have hi1 : (j : Int) + 1 = ((j + 1 : Nat) : Int) := by omega
                have HI1 := Lib.hid hi1
                clear hrun hi1
                go_wp2_with fail
                go_roundg (n - (j + 1))
                case measure => have := HK.out; omega
                case rel =>
                  rw [HI1.out]
                  exact ⟨j + 1, by omega, by omega, rfl, HRUN.out, Lx2.out.set (j := j + 1) (by omega), grown_set Gx2.out _ _⟩
              | false =>
              have hrun := HN.out (by first | rfl | trivial)
              have HRUN := Lib.hid hrun
              have RW7 : Hid (wc.heap[w.heap.size]? = some (.cells #[.int .u8 0, .int .u8 0, .string ⟨#[]⟩, .int .i64 0] 30)) := Lib.hid (blk_kept RW5.out Gx2.out HGN.out)
              have KW7 : Hid (wc.heap[w2.heap.size]? = some (.cells #[.int .u8 0, .int .u8 0, .string ⟨#[]⟩, .int .i64 (k : Nat)] 30)) := Lib.hid (blk_kept KW5.out Gx2.out (Nat.ne_of_gt hszg))
              have GW7 : Hid (w.grownBy wc (some g)) := Lib.hid (grown_trans GW5.out Gx2.out)
              clear hrun
              obtain ⟨ct, ft, zt⟩ := blk3 KW7.out
              obtain ⟨cr, fr, zr⟩ := blk3 RW7.out
              have hcells := Lx2.out.cells
              by_cases hjk : j = k
              · subst hjk
                have HNX : Hid (nextM P i = .error j) := Lib.hid (by
                  rw [HTW.out, if_neg]
                  intro hl
                  have h1 := run_step HX.out hl
                  have h2 := run_ge isLower P (j + 1)
                  have h3 := HRUN.out
                  omega)
                clear hcells
                go_wp2_with fail
                have hres := set4_30 RW7.out (.int .u8 0) (.int .u8 0) (.string ⟨#[]⟩) (.int .i64 0)
                have hgr := set4_grown wc w.heap.size (.int .u8 0) (.int .u8 0) (.string ⟨#[]⟩) (.int .i64 0)
                clear cr fr zr
                obtain ⟨W', hW'⟩ : ∃ W', W' = ((((wc.setCell ⟨w.heap.size, 0, none⟩ (.int .u8 0)).setCell ⟨w.heap.size, 1, none⟩ (.int .u8 0)).setCell ⟨w.heap.size, 2, none⟩ (.string ⟨#[]⟩)).setCell ⟨w.heap.size, 3, none⟩ (.int .i64 0)) := ⟨_, rfl⟩
                rw [← hW'] at hres hgr ⊢
                obtain ⟨cr, fr, zr⟩ := blk3 hres
                have HF := Lib.hid (Lw.out.far Lx2.out hgr (Nat.le_refl _))
                have HG := Lib.hid (grown_far GW7.out hgr (Nat.le_refl _))
                clear hres hgr hW'
                refine bodyPost_ret (v := .tuple #[noTok, .int .i64 (j : Nat), .int .i64 7]) ?_ rfl (nexted_err HNX.out rfl HF.out HG.out)
                simp [results, Try.results13, go_sem, noTok, Tok.val, cr]
              · have hlk : k < j := by omega
                have k1 : ((j : Int) == (k : Int)) = false := by rw [beq_eq_false_iff_ne]; omega
                have HNX : Hid (nextM P i = .ok (⟨1, 0, (P.drop k).take (j - k), k⟩, j)) := Lib.hid (by
                  rw [HTW.out]
                  by_cases hl : isLower x = true
                  · rw [if_pos hl, HRUN.out]
                  · have h1 := run_no HX.out ((Bool.not_eq_true _).mp hl)
                    have h3 := HRUN.out
                    omega)
                have hkc : ¬ k = c := by omega
                have hkc2 : ¬ c = k := by omega
                have hcj : (j : Int) ≤ (c : Int) := by omega
                have hkj2 : (k : Int) ≤ (j : Int) := by omega
                clear hjk
                go_wp2_with fail
                refine wp_region_HL (S := (fun w' => (∀ o, w'.cell? ⟨g, o, none⟩ = (#[.slice (some ⟨b, off, none⟩) n c, .int .i64 (j : Nat)] : Array Value)[o]?) ∧ (∀ q u, P[q]? = some u → w'.cell? ⟨b, off + q, none⟩ = some (.int .u8 (u : Nat))))) 14 (by kernel_rfl) (by kernel_rfl) (by kernel_rfl) (by kernel_rfl) (by decide) ⟨c1, hcells⟩ (fun hHeld => ?_)
                refine HL.take_ (i := 0) (oi := { dst := some 147, op := .move (.tmp 0), type := 24, pos := "lex.go:156", after := #[], guard := none }) (v := ?_) rfl (by decide) (by kernel_rfl) (by kernel_rfl) (fun _ _ _ h => h) (Or.inl ⟨by rfl, ?_⟩) (by assumption) ?_
                rotate_left
                · intro w hSw
                  (try dsimp only at hSw)
                  obtain ⟨h1, h2⟩ := hSw; (go_simp; try (with_reducible rfl))
                try simp only [Act.put, List.setIfInBounds_toArray, List.set_cons_zero, List.set_cons_succ]
                refine HL.take_ (i := 1) (oi := { dst := some 148, op := .nilCheck (.tmp 147), type := 0, pos := "lex.go:156", after := #[{ on := 0, ground := .data }], guard := none }) (v := ?_) rfl (by decide) (by kernel_rfl) (by kernel_rfl) (fun _ _ _ h => h) (Or.inl ⟨by rfl, ?_⟩) (by assumption) ?_
                rotate_left
                · intro w hSw
                  (try dsimp only at hSw)
                  obtain ⟨h1, h2⟩ := hSw; (go_simp; try (with_reducible rfl))
                try simp only [Act.put, List.setIfInBounds_toArray, List.set_cons_zero, List.set_cons_succ]
                refine HL.take_ (i := 2) (oi := { dst := some 149, op := .fieldAddr 51 (.tmp 148) 0, type := 0, pos := "lex.go:156", after := #[{ on := 1, ground := .data }], guard := none }) (v := ?_) rfl (by decide) (by kernel_rfl) (by kernel_rfl) (fun _ _ _ h => h) (Or.inl ⟨by rfl, ?_⟩) (by assumption) ?_
                rotate_left
                · intro w hSw
                  (try dsimp only at hSw)
                  obtain ⟨h1, h2⟩ := hSw; (go_simp; try (with_reducible rfl))
                try simp only [Act.put, List.setIfInBounds_toArray, List.set_cons_zero, List.set_cons_succ]
                refine HL.take_ (i := 3) (oi := { dst := some 150, op := .load 22 (.tmp 149), type := 22, pos := "lex.go:156", after := #[{ on := 2, ground := .data }], guard := none }) (v := ?_) rfl (by decide) (by kernel_rfl) (by kernel_rfl) (fun _ _ _ h => h) (Or.inl ⟨by rfl, ?_⟩) (by assumption) ?_
                rotate_left
                · intro w hSw
                  (try dsimp only at hSw)
                  obtain ⟨h1, h2⟩ := hSw; (go_simp; try (with_reducible rfl))
                try simp only [Act.put, List.setIfInBounds_toArray, List.set_cons_zero, List.set_cons_succ]
                refine HL.take_ (i := 4) (oi := { dst := some 151, op := .move (.tmp 10), type := 3, pos := "lex.go:156", after := #[], guard := none }) (v := ?_) rfl (by decide) (by kernel_rfl) (by kernel_rfl) (fun _ _ _ h => h) (Or.inl ⟨by rfl, ?_⟩) (by assumption) ?_
                rotate_left
                · intro w hSw
                  (try dsimp only at hSw)
                  obtain ⟨h1, h2⟩ := hSw; (go_simp; try (with_reducible rfl))
                try simp only [Act.put, List.setIfInBounds_toArray, List.set_cons_zero, List.set_cons_succ]
                refine HL.take_ (i := 5) (oi := { dst := some 152, op := .move (.tmp 0), type := 24, pos := "lex.go:156", after := #[], guard := none }) (v := ?_) rfl (by decide) (by kernel_rfl) (by kernel_rfl) (fun _ _ _ h => h) (Or.inl ⟨by rfl, ?_⟩) (by assumption) ?_
                rotate_left
                · intro w hSw
                  (try dsimp only at hSw)
                  obtain ⟨h1, h2⟩ := hSw; (go_simp; try (with_reducible rfl))
                try simp only [Act.put, List.setIfInBounds_toArray, List.set_cons_zero, List.set_cons_succ]
                refine HL.take_ (i := 6) (oi := { dst := some 153, op := .nilCheck (.tmp 152), type := 0, pos := "lex.go:156", after := #[{ on := 5, ground := .data }], guard := none }) (v := ?_) rfl (by decide) (by kernel_rfl) (by kernel_rfl) (fun _ _ _ h => h) (Or.inl ⟨by rfl, ?_⟩) (by assumption) ?_
                rotate_left
                · intro w hSw
                  (try dsimp only at hSw)
                  obtain ⟨h1, h2⟩ := hSw; (go_simp; try (with_reducible rfl))
                try simp only [Act.put, List.setIfInBounds_toArray, List.set_cons_zero, List.set_cons_succ]
                refine HL.take_ (i := 7) (oi := { dst := some 154, op := .fieldAddr 51 (.tmp 153) 1, type := 0, pos := "lex.go:156", after := #[{ on := 6, ground := .data }], guard := none }) (v := ?_) rfl (by decide) (by kernel_rfl) (by kernel_rfl) (fun _ _ _ h => h) (Or.inl ⟨by rfl, ?_⟩) (by assumption) ?_
                rotate_left
                · intro w hSw
                  (try dsimp only at hSw)
                  obtain ⟨h1, h2⟩ := hSw; (go_simp; try (with_reducible rfl))
                try simp only [Act.put, List.setIfInBounds_toArray, List.set_cons_zero, List.set_cons_succ]
                refine HL.take_ (i := 8) (oi := { dst := some 155, op := .load 3 (.tmp 154), type := 3, pos := "lex.go:156", after := #[{ on := 7, ground := .data }], guard := none }) (v := ?_) rfl (by decide) (by kernel_rfl) (by kernel_rfl) (fun _ _ _ h => h) (Or.inl ⟨by rfl, ?_⟩) (by assumption) ?_
                rotate_left
                · intro w hSw
                  (try dsimp only at hSw)
                  obtain ⟨h1, h2⟩ := hSw; (go_simp; try (with_reducible rfl))
                try simp only [Act.put, List.setIfInBounds_toArray, List.set_cons_zero, List.set_cons_succ]
                refine HL.take_ (i := 9) (oi := { dst := some 156, op := .slice 22 (.tmp 150) (some (.tmp 151)) (some (.tmp 155)) none, type := 22, pos := "lex.go:156", after := #[{ on := 3, ground := .data }, { on := 4, ground := .data }, { on := 8, ground := .data }], guard := none }) (v := ?_) rfl (by decide) (by kernel_rfl) (by kernel_rfl) (fun _ _ _ h => h) (Or.inl ⟨by rfl, ?_⟩) (by assumption) ?_
                rotate_left
                · intro w hSw
                  (try dsimp only at hSw)
                  obtain ⟨h1, h2⟩ := hSw; (go_simp; try (with_reducible rfl))
                try simp only [Act.put, List.setIfInBounds_toArray, List.set_cons_zero, List.set_cons_succ]
                refine HL.take_ (i := 10) (oi := { dst := some 157, op := .convert 22 9 (.tmp 156), type := 9, pos := "lex.go:156", after := #[{ on := 9, ground := .data }, { on := 12, ground := .gcOnly .lateStores }], guard := none }) (v := ?_) rfl (by decide) (by kernel_rfl) (by kernel_rfl) (fun _ _ _ h => h) (Or.inl ⟨by rfl, ?_⟩) (by assumption) ?_
                rotate_left
                · intro w hSw
                  (try dsimp only at hSw)
                  obtain ⟨h1, h2⟩ := hSw; have hcv := conv_part (W := w) (P := P) (b := b) (off := off) (i := k) (j := j) (c := c - k) (by rw [HLEN.out]; exact hj) h2; (go_simp; try (with_reducible rfl))
                try simp only [Act.put, List.setIfInBounds_toArray, List.set_cons_zero, List.set_cons_succ]
                refine HL.take_ (i := 11) (oi := { dst := some 158, op := .fieldAddr 30 (.tmp 6) 0, type := 0, pos := "lex.go:156", after := #[{ on := 0, ground := .textOnly .lateStores }, { on := 1, ground := .textOnly .lateStores }, { on := 2, ground := .textOnly .lateStores }, { on := 3, ground := .textOnly .lateStores }, { on := 4, ground := .textOnly .lateStores }, { on := 5, ground := .textOnly .lateStores }, { on := 6, ground := .textOnly .lateStores }, { on := 7, ground := .textOnly .lateStores }, { on := 8, ground := .textOnly .lateStores }, { on := 9, ground := .textOnly .lateStoresUnsure }, { on := 10, ground := .textOnly .lateStores }], guard := none }) (v := ?_) rfl (by decide) (by kernel_rfl) (by kernel_rfl) (fun _ _ _ h => h) (Or.inl ⟨by rfl, ?_⟩) (by assumption) ?_
                rotate_left
                · intro w hSw
                  (try dsimp only at hSw)
                  obtain ⟨h1, h2⟩ := hSw; (go_simp; try (with_reducible rfl))
                try simp only [Act.put, List.setIfInBounds_toArray, List.set_cons_zero, List.set_cons_succ]
                refine HL.step_ (i := 12) (o := { dst := none, op := .store 5 (.tmp 158) (.const (.int .u8 1)), type := 0, pos := "lex.go:156", after := #[{ on := 11, ground := .data }, { on := 0, ground := .textOnly .lateStores }, { on := 1, ground := .textOnly .lateStores }, { on := 2, ground := .textOnly .lateStores }, { on := 3, ground := .textOnly .lateStores }, { on := 4, ground := .textOnly .lateStores }, { on := 5, ground := .textOnly .lateStores }, { on := 6, ground := .textOnly .lateStores }, { on := 7, ground := .textOnly .lateStores }, { on := 8, ground := .textOnly .lateStores }, { on := 9, ground := .textOnly .lateStoresUnsure }, { on := 10, ground := .textOnly .lateStores }], guard := none }) rfl (by decide) (by kernel_rfl) (fun K hK => ?_)
                go_simp
                have hb8 : ((wc.setCell ⟨w2.heap.size, 0, none⟩ (.int .u8 1)).drew).heap[g]? = some (.cells #[.slice (some ⟨b, off, none⟩) n c, .int .i64 (j : Nat)] 51) := blk_far Lx2.out.box (p := ⟨w2.heap.size, 0, none⟩) (Nat.ne_of_lt hszg) _
                have c8 := (blk3 hb8).1
                have hL8 := Lw.out.far Lx2.out (grown_drew (grown_set (grown_refl wc _) 0 (.int .u8 1))) (Nat.le_of_lt hszw)
                have hcells8 := hL8.cells
                refine hK.out _ _ ⟨c8, hcells8⟩ (fun hHeld => ?_)
                clear hK K
                try simp only [Act.put, List.setIfInBounds_toArray, List.set_cons_zero, List.set_cons_succ]
                refine HL.take_ (i := 13) (oi := { dst := some 159, op := .fieldAddr 30 (.tmp 6) 2, type := 0, pos := "lex.go:156", after := #[{ on := 0, ground := .phase }, { on := 1, ground := .phase }, { on := 2, ground := .phase }, { on := 3, ground := .phase }, { on := 4, ground := .phase }, { on := 5, ground := .phase }, { on := 6, ground := .phase }, { on := 7, ground := .phase }, { on := 8, ground := .phase }, { on := 9, ground := .phase }, { on := 10, ground := .phase }, { on := 11, ground := .phase }, { on := 12, ground := .phase }], guard := none }) (v := ?_) rfl (by decide) (by kernel_rfl) (by kernel_rfl) (fun _ _ _ h => h) (Or.inl ⟨by rfl, ?_⟩) (by assumption) ?_
                rotate_left
                · intro w hSw
                  (try dsimp only at hSw)
                  obtain ⟨h1, h2⟩ := hSw; (go_simp; try (with_reducible rfl))
                try simp only [Act.put, List.setIfInBounds_toArray, List.set_cons_zero, List.set_cons_succ]
                refine HL.done_ (by kernel_rfl) ?_
                simp only [List.drop_succ_cons, List.drop_zero]
                clear hHeld
                go_wp2_with fail
                have hgr8 := grown_set (grown_set (grown_refl wc _) 0 (.int .u8 1)) (g := w2.heap.size) 2 (.string (bstr ((P.drop k).take (j - k))))
                have L8 := Lib.hid (Lw.out.far Lx2.out hgr8 (Nat.le_of_lt hszw))
                have G8 := Lib.hid (grown_far GW7.out hgr8 (Nat.le_of_lt hszw))
                have hR8 := blk_far (blk_far RW7.out (p := ⟨w2.heap.size, 0, none⟩) (Nat.ne_of_lt hszw) (.int .u8 1)) (p := ⟨w2.heap.size, 2, none⟩) (Nat.ne_of_lt hszw) (.string (bstr ((P.drop k).take (j - k))))
                have hres := set4_30 hR8 (.int .u8 1) (.int .u8 0) (.string (bstr ((P.drop k).take (j - k)))) (.int .i64 (k : Nat))
                have hgr := set4_grown ((wc.setCell ⟨w2.heap.size, 0, none⟩ (.int .u8 1)).setCell ⟨w2.heap.size, 2, none⟩ (.string (bstr ((P.drop k).take (j - k))))) w.heap.size (.int .u8 1) (.int .u8 0) (.string (bstr ((P.drop k).take (j - k)))) (.int .i64 (k : Nat))
                clear cr fr zr hgr8 hR8
                obtain ⟨W', hW'⟩ : ∃ W', W' = ((((((wc.setCell ⟨w2.heap.size, 0, none⟩ (.int .u8 1)).setCell ⟨w2.heap.size, 2, none⟩ (.string (bstr ((P.drop k).take (j - k))))).setCell ⟨w.heap.size, 0, none⟩ (.int .u8 1)).setCell ⟨w.heap.size, 1, none⟩ (.int .u8 0)).setCell ⟨w.heap.size, 2, none⟩ (.string (bstr ((P.drop k).take (j - k))))).setCell ⟨w.heap.size, 3, none⟩ (.int .i64 (k : Nat))).drew := ⟨_, rfl⟩
                have hres' : W'.heap[w.heap.size]? = some (.cells #[.int .u8 1, .int .u8 0, .string (bstr ((P.drop k).take (j - k))), .int .i64 (k : Nat)] 30) := by rw [hW']; exact hres
                have hgr' : ((wc.setCell ⟨w2.heap.size, 0, none⟩ (.int .u8 1)).setCell ⟨w2.heap.size, 2, none⟩ (.string (bstr ((P.drop k).take (j - k))))).grownBy W' (some w.heap.size) := by rw [hW']; exact grown_drew hgr
                rw [← hW']
                obtain ⟨cr, fr, zr⟩ := blk3 hres'
                have HF := Lib.hid (Lw.out.far L8.out hgr' (Nat.le_refl _))
                have HG := Lib.hid (grown_far G8.out hgr' (Nat.le_refl _))
                clear hres hgr hW' hres' hgr' c8 hb8 hL8 hcells8
                refine bodyPost_ret (v := .tuple #[(⟨1, 0, (P.drop k).take (j - k), k⟩ : Tok).val, .int .i64 0, .int .i64 0]) ?_ rfl (nexted_ok (t := ⟨1, 0, (P.drop k).take (j - k), k⟩) HNX.out rfl (part_byte Lw.out.byte _ _) HF.out HG.out)
                simp [results, Try.results13, go_sem, noTok, Tok.val, cr]
    · obtain rfl : n = k := by omega
      have HNX : Hid (nextM P i = .ok (⟨0, 0, [], n⟩, n)) := Lib.hid (by unfold nextM; rw [HSK.out]; exact if_pos (by rw [HLEN.out]; exact Nat.le_refl _))
      go_still (by kernel_rfl)
      obtain ⟨W4, hW4⟩ : ∃ W, W = W3.drew := ⟨_, rfl⟩
      rw [show ({ heap := W3.heap, tape := W3.tape, drawn := W3.drawn + 1, os := W3.os, output := W3.output } : World) = W3.drew from rfl, ← hW4]
      have LW4 : Hid (Lx W4 g a n c P n) := Lib.hid (by rw [hW4]; exact LW3.out.drew)
      have GW4 : Hid (w.grownBy W4 (some g)) := Lib.hid (by rw [hW4]; exact grown_drew GW3.out)
      have RW4 : Hid (W4.heap[w.heap.size]? = some (.cells #[.int .u8 0, .int .u8 0, .string ⟨#[]⟩, .int .i64 0] 30)) := Lib.hid (by rw [hW4]; exact RW3.out)
      have KW4 : Hid (W4.heap[w2.heap.size]? = some (.cells #[.int .u8 0, .int .u8 0, .string ⟨#[]⟩, .int .i64 (n : Nat)] 30)) := Lib.hid (by rw [hW4]; exact KW3.out)
      clear hW4 c1 f1 z1 ct ft zt cr fr zr LW3 GW3 RW3 KW3 
      obtain ⟨c1, f1, z1⟩ := blk3 LW4.out.box
      obtain ⟨ct, ft, zt⟩ := blk3 KW4.out
      obtain ⟨cr, fr, zr⟩ := blk3 RW4.out
      go_wp2_with fail
      clear c1 f1 z1 ct ft zt
      have hres := set4_30 RW4.out (.int .u8 0) (.int .u8 0) (.string ⟨#[]⟩) (.int .i64 (n : Nat))
      have hgr := set4_grown W4 w.heap.size (.int .u8 0) (.int .u8 0) (.string ⟨#[]⟩) (.int .i64 (n : Nat))
      clear cr fr zr
      obtain ⟨W', hW'⟩ : ∃ W', W' = ((((W4.setCell ⟨w.heap.size, 0, none⟩ (.int .u8 0)).setCell ⟨w.heap.size, 1, none⟩ (.int .u8 0)).setCell ⟨w.heap.size, 2, none⟩ (.string ⟨#[]⟩)).setCell ⟨w.heap.size, 3, none⟩ (.int .i64 (n : Nat))) := ⟨_, rfl⟩
      rw [← hW'] at hres hgr ⊢
      obtain ⟨cr, fr, zr⟩ := blk3 hres
      have HF := Lib.hid (Lw.out.far LW4.out hgr (Nat.le_refl _))
      have HG := Lib.hid (grown_far GW4.out hgr (Nat.le_refl _))
      clear hres hgr hW'
      refine bodyPost_ret (v := .tuple #[(⟨0, 0, [], n⟩ : Tok).val, .int .i64 0, .int .i64 0]) ?_ rfl (nexted_ok (t := ⟨0, 0, [], n⟩) HNX.out rfl (fun u hu => (by simp at hu)) HF.out HG.out)
      simp [results, Try.results13, go_sem, noTok, Tok.val, cr]
      rfl
end Go.Proofs.Ytjebanfmnfofnaa

/-
  r05.flat (function 31), r05.Flat (function 13): the same list as module.flat.
-/
import Derived.Test.YtjgijbaboekghaaFlat
set_option linter.unusedVariables false
set_option linter.unusedSimpArgs false
namespace Go.Proofs.Ytjgijbaboekghaa
open Go.RowKit
theorem info49 : (Try.prog.info? 49).map (fun i => (i.zero, i.size, i.bytes)) = some (some (.agg #[.int .i64 0, .int .i64 0, .int .u8 0, .int .u8 0, .int .i64 0, .int .u8 0, .int .i64 0, .slice none 0 0, .slice none 0 0]), 9, 104) := by kernel_rfl
/-- The row of items so far. -/
structure Rl (w0 w : World) (v : Value) (n : Nat) (l : List (Nat × St)) : Prop where
  len : l.length = n
  below : Below w0.heap.size w0 w
  own : ∃ xs, w.ownsRow w0.heap.size 49 9 v n xs ∧ ItemsAt w0 0 xs l
def RFlatted (w0 : World) (l : List (Nat × St)) (e : Ending) (w' : World) : Prop := ∃ v n, e = .returned v ∧ Rl w0 w' v n l
theorem Rl.shape {w0 w : World} {v : Value} {n : Nat} {l : List (Nat × St)} (h : Rl w0 w v n l) : ∃ A c, v = .slice A n c := by
  obtain ⟨xs, ho, _⟩ := h.own
  obtain ⟨A, c, e, _, _⟩ := own_shape ho
  exact ⟨A, c, e⟩
theorem ritem_facts {w0 wr w1 : World} {v v1 : Value} {n d : Nat} {L : List (Nat × St)} {xs : List Value} {k ak ai bk bi : Int} {aa ba : Option Addr} {al ac bl bc : Nat} {s : St}
    (hF : Rl w0 wr v n L) (hI : ItemsAt w0 0 xs L) (h7 : Cells7 w0 [.int .u8 k, .int .u8 ak, .int .i64 ai, .int .u8 bk, .int .i64 bi, .slice aa al ac, .slice ba bl bc] s)
    (hown : w1.ownsRow w0.heap.size 49 9 v1 (n + 1) (xs ++ [.int .i64 (n : Int), .int .i64 (d : Int), .int .u8 k, .int .u8 ak, .int .i64 ai, .int .u8 bk, .int .i64 bi, .slice aa al ac, .slice ba bl bc])) (hb : Below w0.heap.size w0 w1) :
    ∃ A1 c1, v1 = .slice A1 (n + 1) c1 ∧ Hid (Rl w0 w1 v1 (n + 1) (L ++ [(d, s)])) := by
  obtain ⟨A1, c1, rfl, _, _⟩ := own_shape hown
  refine ⟨A1, c1, rfl, ⟨by rw [List.length_append, hF.len]; rfl, hb, _, hown, ?_⟩⟩
  have := hI.snoc (d := d) h7
  rw [Nat.zero_add, hF.len] at this
  exact this
def RFlatP (w0 : World) (m : Nat) : Prop := ∀ d, d + m = 1000 → ∀ (l : List St) (a : Option Addr) (len cap : Nat), ReadsBody w0 a len l → ∀ (w : World) (v : Value) (n : Nat) (its : List (Nat × St)), Rl w0 w v n its →
    n + (flatT m d l).length ≤ 1048576 → Calls Try.prog 31 #[v, .slice a len cap, .int .i64 d] w (RFlatted w0 (its ++ flatT m d l))
set_option maxRecDepth 20000 in
theorem rflat_step (w0 : World) (m : Nat) (ih : ∀ m', m = m' + 1 → RFlatP w0 m') : RFlatP w0 m := by
  intro d hd l a len cap hr w v n its hf hN
  have HR := Lib.hid hr
  have HF := Lib.hid hf
  have HN := Lib.hid hN
  have IH := Lib.hid ih
  have HD := Lib.hid hd
  have hd1 : d ≤ 1000 := by omega
  obtain ⟨A, c, rfl⟩ := hf.shape
  have hlen := hr.2.1
  unfold maxLen at hlen
  clear hr hf hN ih hd
  go_enter Try.func31, Try.ntmps31
  go_wp2
  go_loopw [0, 7] (fun v0 iv wr => ∃ (i n' : Nat), i ≤ len ∧ iv = .int .i64 i ∧ Hid (Rl w0 wr v0 n' (its ++ flatT m d (l.take i)))) (fun _ iv _ => len - (intOf iv).toNat)
  case atStart => exact ⟨0, n, Nat.zero_le _, rfl, by show Rl _ _ _ _ _; rw [List.take_zero, flatT_nil, List.append_nil]; exact HF.out⟩
  case round =>
    have HF0 := Lib.hid HF.out.len
    clear HF
    obtain ⟨i, n', hi, rfl, HF⟩ := hrel
    by_cases hlt : i < len
    · obtain ⟨b, off, k, ak, ai, bk, bi, args, body, aa, al, ac, ba, bl, bc, rfl, hs, ⟨c0, c1, c2, c3, c4, c5, c6⟩, hra, hrb⟩ := HR.out.at hlt
      have hb := HF.out.below
      have HC0 := Lib.hid c0
      have HC6 := Lib.hid c6
      replace c0 := lift hb c0
      replace c1 := lift hb c1
      replace c2 := lift hb c2
      replace c3 := lift hb c3
      replace c4 := lift hb c4
      replace c5 := lift hb c5
      replace c6 := lift hb c6
      obtain ⟨xs, hxs, hit⟩ := HF.out.own
      have H7 := Lib.hid ((cells7_def _ _ _ _ _ _ _ _ _).2 ⟨aa, al, ac, ba, bl, bc, rfl, hra, hrb⟩ : Cells7 w0 _ (.mk k ak ai bk bi args body))
      have HS := Lib.hid hs
      have HO := Lib.hid hxs
      have HI := Lib.hid hit
      have HB := Lib.hid hrb
      obtain ⟨A', c', rfl⟩ := HF.out.shape
      have hbig : n' + 1 + (kidsT m d (.mk k ak ai bk bi args body)).length ≤ 1048576 := by
        have h1 := HF.out.len
        have h2 := flatT_take_le m d (i + 1) l
        rw [flatT_snoc m d i l _ hs] at h2
        have h3 := HN.out
        have h4 := HF0.out
        simp only [List.length_append, List.length_cons] at h1 h2
        omega
      have HBIG := Lib.hid hbig
      have hn1 : n' + 1 ≤ 1048576 := by omega
      clear hs hxs hit hra hrb hb hbig
      by_cases hk : k = 7
      · subst hk
        by_cases hm : d < 1000
        · obtain ⟨m', rfl⟩ : ∃ m', m = m' + 1 := ⟨m - 1, by have := HD.out; omega⟩
          go_wp2_with (at_builtin; refine append_row (B := w0.heap.size) (w0 := w0) rfl _ _ 39 49 (.agg #[.int .i64 0, .int .i64 0, .int .u8 0, .int .u8 0, .int .i64 0, .int .u8 0, .int .i64 0, .slice none 0 0, .slice none 0 0]) 9 104 rfl Try.underlying39 info49 rfl (by decide) _ n' _ rfl (own_below HO.out ((Below.refl _ _).alloc (Nat.le_refl _) _)) ⟨wr.heap.size, 0, none⟩ 1 1 [.int .i64 (n' : Int), .int .i64 (d : Int), .int .u8 7, .int .u8 ak, .int .i64 ai, .int .u8 bk, .int .i64 bi, .slice aa al ac, .slice ba bl bc] rfl rfl (new_cells _ _ _ _) ?h1 ?hB ?hb (by omega) (by omega) ?_; rotate_right; intro v1 w1 hown hb1 hg1; obtain ⟨A1, cp1, rfl, HF1⟩ := ritem_facts (d := d) HF.out HI.out H7.out hown hb1; have d0 := lift hb1 HC0.out; have d6 := lift hb1 HC6.out; clear hown hb1 hg1)
          · refine (IH.out m' rfl (d + 1) (by have := HD.out; omega) body ba bl bc HB.out w1 _ (n' + 1) _ HF1.out (by have := HBIG.out; rwa [kidsT_yes] at this)).mono ?_
            rintro e w2 ⟨v2, n2, rfl, hf2⟩
            have HF2 := Lib.hid hf2
            clear hf2
            go_wp2
            refine ⟨⟨i + 1, n2, by omega, by go_num, ?_⟩, by simp [intOf]; omega⟩
            have := HF2.out
            rw [List.append_assoc, List.append_assoc] at this
            show Rl _ _ _ _ _
            rw [flatT_snoc _ _ _ _ _ HS.out, kidsT_yes]
            exact this
          case h1 => first | exact one9 _ _ _ _ _ _ _ _ _ _ _ _ _ | (refine ⟨rfl, rfl, rfl, rfl, rfl, rfl, rfl, rfl, rfl⟩)
          case hB =>
            have := HF.out.below.size
            simp
            omega
          case hb => exact HF.out.below.alloc HF.out.below.size _
        · go_wp2_with (at_builtin; refine append_row (B := w0.heap.size) (w0 := w0) rfl _ _ 39 49 (.agg #[.int .i64 0, .int .i64 0, .int .u8 0, .int .u8 0, .int .i64 0, .int .u8 0, .int .i64 0, .slice none 0 0, .slice none 0 0]) 9 104 rfl Try.underlying39 info49 rfl (by decide) _ n' _ rfl (own_below HO.out ((Below.refl _ _).alloc (Nat.le_refl _) _)) ⟨wr.heap.size, 0, none⟩ 1 1 [.int .i64 (n' : Int), .int .i64 (d : Int), .int .u8 7, .int .u8 ak, .int .i64 ai, .int .u8 bk, .int .i64 bi, .slice aa al ac, .slice ba bl bc] rfl rfl (new_cells _ _ _ _) ?h1 ?hB ?hb (by omega) (by omega) ?_; rotate_right; intro v1 w1 hown hb1 hg1; obtain ⟨A1, cp1, rfl, HF1⟩ := ritem_facts (d := d) HF.out HI.out H7.out hown hb1; have d0 := lift hb1 HC0.out; have d6 := lift hb1 HC6.out; clear hown hb1 hg1)
          · obtain rfl : m = 0 := by have := HD.out; omega
            refine ⟨⟨i + 1, n' + 1, by omega, by go_num, ?_⟩, by simp [intOf]; omega⟩
            have := HF1.out
            rw [List.append_assoc] at this
            show Rl _ _ _ _ _
            rw [flatT_snoc _ _ _ _ _ HS.out, kidsT]
            exact this
          case h1 => first | exact one9 _ _ _ _ _ _ _ _ _ _ _ _ _ | (refine ⟨rfl, rfl, rfl, rfl, rfl, rfl, rfl, rfl, rfl⟩)
          case hB =>
            have := HF.out.below.size
            simp
            omega
          case hb => exact HF.out.below.alloc HF.out.below.size _
      · have hkf : (k == 7) = false := by simpa using hk
        go_wp2_with (at_builtin; refine append_row (B := w0.heap.size) (w0 := w0) rfl _ _ 39 49 (.agg #[.int .i64 0, .int .i64 0, .int .u8 0, .int .u8 0, .int .i64 0, .int .u8 0, .int .i64 0, .slice none 0 0, .slice none 0 0]) 9 104 rfl Try.underlying39 info49 rfl (by decide) _ n' _ rfl (own_below HO.out ((Below.refl _ _).alloc (Nat.le_refl _) _)) ⟨wr.heap.size, 0, none⟩ 1 1 [.int .i64 (n' : Int), .int .i64 (d : Int), .int .u8 k, .int .u8 ak, .int .i64 ai, .int .u8 bk, .int .i64 bi, .slice aa al ac, .slice ba bl bc] rfl rfl (new_cells _ _ _ _) ?h1 ?hB ?hb (by omega) (by omega) ?_; rotate_right; intro v1 w1 hown hb1 hg1; obtain ⟨A1, cp1, rfl, HF1⟩ := ritem_facts (d := d) HF.out HI.out H7.out hown hb1; have d0 := lift hb1 HC0.out; have d6 := lift hb1 HC6.out; clear hown hb1 hg1)
        · refine ⟨⟨i + 1, n' + 1, by omega, by go_num, ?_⟩, by simp [intOf]; omega⟩
          have := HF1.out
          rw [List.append_assoc] at this
          show Rl _ _ _ _ _
          rw [flatT_snoc _ _ _ _ _ HS.out, kidsT_no _ _ (show ¬ k = 7 from hk)]
          exact this
        case h1 => first | exact one9 _ _ _ _ _ _ _ _ _ _ _ _ _ | (refine ⟨rfl, rfl, rfl, rfl, rfl, rfl, rfl, rfl, rfl⟩)
        case hB =>
          have := HF.out.below.size
          simp
          omega
        case hb => exact HF.out.below.alloc HF.out.below.size _
    · obtain rfl : i = len := by omega
      go_wp2
      go_ret
      refine ⟨_, n', rfl, ?_⟩
      have := HF.out
      rw [List.take_of_length_le (by rw [HR.out.1]; omega)] at this
      exact this
theorem rflat_calls (w0 : World) (m : Nat) : RFlatP w0 m := by
  induction m with
  | zero => exact rflat_step w0 0 (fun m' h => by omega)
  | succ m ih => exact rflat_step w0 (m + 1) (fun m' h => (Nat.succ.inj h) ▸ ih)
theorem Rl.start (w : World) : Rl w w (.slice none 0 0) 0 [] := ⟨rfl, Below.refl _ _, [], World.ownsRow_nil _ _ _ _, rfl⟩
set_option maxRecDepth 20000 in
theorem rflat12_calls (w : World) (l : List St) (a : Option Addr) (len cap : Nat) (hr : ReadsBody w a len l) (hN : (flatT 1000 0 l).length ≤ 1048576) :
    Calls Try.prog 13 #[.slice a len cap] w (RFlatted w (flatT 1000 0 l)) := by
  have HR := Lib.hid hr
  have HN := Lib.hid hN
  clear hr hN
  go_enter Try.func13, Try.ntmps13
  go_wp2_with fail
  refine (rflat_calls w 1000 0 rfl l a len cap HR.out w _ 0 [] (Rl.start w) (by have := HN.out; omega)).mono ?_
  rintro e w2 ⟨v, n, rfl, hf⟩
  have HF := Lib.hid hf
  clear hf
  go_wp2
  go_ret
  exact ⟨_, n, rfl, HF.out⟩
end Go.Proofs.Ytjgijbaboekghaa

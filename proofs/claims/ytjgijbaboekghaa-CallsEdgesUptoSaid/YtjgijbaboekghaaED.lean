/-
  r05.Flat in a world of its own; the state of r14.System; what r05.Make asks; what came in. No statement of its own.
-/
import Derived.Test.YtjgijbaboekghaaMakeR
import Derived.Test.YtjgijbaboekghaaRefFlat
import Derived.Test.YtjgijbaboekghaaSans
import Derived.Test.YtjgijbaboekghaaEC
import Derived.Test.YtjgijbaboekghaaEB
import Derived.Test.YtjgijbaboekghaaEA
import Derived.Test.YtjgijbaboekghaaCame
import Derived.Test.YtjgijbaboekghaaCount
import Derived.Test.YtjgijbaboekghaaWhom
set_option linter.unusedSimpArgs false
set_option linter.unusedVariables false
namespace Go.Proofs.Ytjgijbaboekghaa
open Go.RowKit
mutual
/-- Every list in it is short. -/
def smallSt : St → Prop
  | .mk _ _ _ _ _ args body => args.length ≤ 1000 ∧ body.length ≤ 1000 ∧ smallAll body
def smallAll : List St → Prop
  | [] => True
  | s :: r => smallSt s ∧ smallAll r
end
theorem smallSt_def (k ak ai bk bi : Int) (args : List (Int × Int)) (body : List St) : smallSt (.mk k ak ai bk bi args body) ↔ args.length ≤ 1000 ∧ body.length ≤ 1000 ∧ smallAll body := by rw [smallSt]
theorem smallAll_append {l r : List St} (h1 : smallAll l) (h2 : smallAll r) : smallAll (l ++ r) := by
  induction l with
  | nil => exact h2
  | cons s l ih => rw [smallAll] at h1; rw [List.cons_append, smallAll]; exact ⟨h1.1, ih h1.2⟩
theorem smallAll_at {l : List St} (h : smallAll l) {i : Nat} {s : St} (hs : l[i]? = some s) : smallSt s := by
  induction l generalizing i with
  | nil => simp at hs
  | cons x r ih =>
    rw [smallAll] at h
    cases i with
    | zero => simp at hs; subst hs; exact h.1
    | succ i => exact ih h.2 (by simpa using hs)
theorem small_leaf (k ak ai bk bi : Int) (args : List (Int × Int)) (h : args.length ≤ 1000) : smallSt (.mk k ak ai bk bi args []) := by
  rw [smallSt_def, smallAll]
  exact ⟨h, Nat.zero_le _, trivial⟩
theorem stmt1_small (G F L S : Nat) (params : Nat → Nat) (hp : ∀ i, params i ≤ 100) (k a b c : Nat) : smallSt (stmt1 G F L S params k a b c) := by
  unfold stmt1
  dsimp only
  split
  · split
    · exact small_leaf _ _ _ _ _ _ (Nat.zero_le _)
    · split <;> exact small_leaf _ _ _ _ _ _ (Nat.zero_le _)
  · split
    · exact small_leaf _ _ _ _ _ _ (Nat.zero_le _)
    · split
      · exact small_leaf _ _ _ _ _ _ (Nat.zero_le _)
      · split
        · refine small_leaf _ _ _ _ _ _ ?_
          rw [List.length_map, List.length_range]
          have := hp (b % F)
          split <;> omega
        · split
          · exact small_leaf _ _ _ _ _ _ (Nat.zero_le _)
          · exact small_leaf _ _ _ _ _ _ (Nat.zero_le _)
theorem stmtS_small (G F L S : Nat) (params : Nat → Nat) (hp : ∀ i, params i ≤ 100) (k a b c : Nat) : smallSt (stmtS G F L S params k a b c) := by
  unfold stmtS
  split
  · split
    · exact small_leaf _ _ _ _ _ _ (Nat.zero_le _)
    · rw [smallSt_def, smallAll, smallAll, smallAll]
      exact ⟨Nat.zero_le _, (show 2 ≤ 1000 by decide), stmt1_small G F L S params hp _ _ _ _, small_leaf _ _ _ _ _ _ (Nat.zero_le _), trivial⟩
  · exact stmt1_small G F L S params hp _ _ _ _
theorem bodD_small (d : Dr) (i : Nat) : ∀ (q : Nat) x, (bodD d i)[q]? = some x → smallAll x.body := by
  induction i with
  | zero =>
    intro q x hx
    have := mk2_body d.g d.f (nD d.f) x (List.mem_of_getElem? hx)
    rw [this, smallAll]; trivial
  | succ i ih =>
    intro q x hx
    rw [bodD] at hx
    obtain ⟨y, hy, h | h⟩ := addTo_body hx
    · rw [h]; exact ih q y hy
    · rw [h]
      refine smallAll_append (ih q y hy) ?_
      rw [smallAll, smallAll]
      exact ⟨stmtS_small _ _ _ _ _ (fun i => by have := par_lt d.f i; omega) _ _ _ _, trivial⟩
theorem makeM_small (d : Dr) : ∀ f ∈ (makeM d).funcs, smallAll f.body := by
  intro f hf
  obtain ⟨x, hx, rfl⟩ := List.mem_map.1 hf
  obtain ⟨q, hq⟩ := List.mem_iff_getElem?.1 hx
  exact bodD_small d d.acts.length q x hq
end Go.Proofs.Ytjgijbaboekghaa

set_option linter.unusedVariables false
set_option linter.unusedSimpArgs false
namespace Go.Proofs.Ytjgijbaboekghaa
open Go.RowKit
/-- The row of items so far. -/
structure RlG (R w0 w : World) (v : Value) (n : Nat) (l : List (Nat × St)) : Prop where
  len : l.length = n
  below : Below w0.heap.size w0 w
  own : ∃ xs, w.ownsRow w0.heap.size 49 9 v n xs ∧ ItemsAt R 0 xs l
def RFlattedG (R w0 : World) (l : List (Nat × St)) (e : Ending) (w' : World) : Prop := ∃ v n, e = .returned v ∧ RlG R w0 w' v n l
theorem RlG.shape {R w0 w : World} {v : Value} {n : Nat} {l : List (Nat × St)} (h : RlG R w0 w v n l) : ∃ A c, v = .slice A n c := by
  obtain ⟨xs, ho, _⟩ := h.own
  obtain ⟨A, c, e, _, _⟩ := own_shape ho
  exact ⟨A, c, e⟩
theorem ritemG_facts {R w0 wr w1 : World} {v v1 : Value} {n d : Nat} {L : List (Nat × St)} {xs : List Value} {k ak ai bk bi : Int} {aa ba : Option Addr} {al ac bl bc : Nat} {s : St}
    (hF : RlG R w0 wr v n L) (hI : ItemsAt R 0 xs L) (h7 : Cells7 R [.int .u8 k, .int .u8 ak, .int .i64 ai, .int .u8 bk, .int .i64 bi, .slice aa al ac, .slice ba bl bc] s)
    (hown : w1.ownsRow w0.heap.size 49 9 v1 (n + 1) (xs ++ [.int .i64 (n : Int), .int .i64 (d : Int), .int .u8 k, .int .u8 ak, .int .i64 ai, .int .u8 bk, .int .i64 bi, .slice aa al ac, .slice ba bl bc])) (hb : Below w0.heap.size w0 w1) :
    ∃ A1 c1, v1 = .slice A1 (n + 1) c1 ∧ Hid (RlG R w0 w1 v1 (n + 1) (L ++ [(d, s)])) := by
  obtain ⟨A1, c1, rfl, _, _⟩ := own_shape hown
  refine ⟨A1, c1, rfl, ⟨by rw [List.length_append, hF.len]; rfl, hb, _, hown, ?_⟩⟩
  have := hI.snoc (d := d) h7
  rw [Nat.zero_add, hF.len] at this
  exact this
def RFlatGP (R w0 : World) (m : Nat) : Prop := ∀ d, d + m = 1000 → ∀ (l : List St) (a : Option Addr) (len cap : Nat), ReadsBody R a len l → ∀ (w : World) (v : Value) (n : Nat) (its : List (Nat × St)), RlG R w0 w v n its →
    n + (flatT m d l).length ≤ 1048576 → Calls Try.prog 31 #[v, .slice a len cap, .int .i64 d] w (RFlattedG R w0 (its ++ flatT m d l))
set_option maxRecDepth 20000 in
theorem rflatG_step (R w0 : World) (hR : Sub R w0) (m : Nat) (ih : ∀ m', m = m' + 1 → RFlatGP R w0 m') : RFlatGP R w0 m := by
  intro d hd l a len cap hr w v n its hf hN
  have HSUB := Lib.hid hR
  have HR := Lib.hid hr
  have HF := Lib.hid hf
  have HN := Lib.hid hN
  have IH := Lib.hid ih
  have HD := Lib.hid hd
  have hd1 : d ≤ 1000 := by omega
  obtain ⟨A, c, rfl⟩ := hf.shape
  have hlen := hr.2.1
  unfold maxLen at hlen
  clear hr hf hN ih hd hR
  go_enter Try.func31, Try.ntmps31
  go_wp2
  go_loopw [0, 7] (fun v0 iv wr => ∃ (i n' : Nat), i ≤ len ∧ iv = .int .i64 i ∧ Hid (RlG R w0 wr v0 n' (its ++ flatT m d (l.take i)))) (fun _ iv _ => len - (intOf iv).toNat)
  case atStart => exact ⟨0, n, Nat.zero_le _, rfl, by show RlG _ _ _ _ _ _; rw [List.take_zero, flatT_nil, List.append_nil]; exact HF.out⟩
  case round =>
    have HF0 := Lib.hid HF.out.len
    clear HF
    obtain ⟨i, n', hi, rfl, HF⟩ := hrel
    by_cases hlt : i < len
    · obtain ⟨b, off, k, ak, ai, bk, bi, args, body, aa, al, ac, ba, bl, bc, rfl, hs, ⟨c0, c1, c2, c3, c4, c5, c6⟩, hra, hrb⟩ := HR.out.at hlt
      have hb := HF.out.below
      replace c0 := HSUB.out _ _ c0
      replace c1 := HSUB.out _ _ c1
      replace c2 := HSUB.out _ _ c2
      replace c3 := HSUB.out _ _ c3
      replace c4 := HSUB.out _ _ c4
      replace c5 := HSUB.out _ _ c5
      replace c6 := HSUB.out _ _ c6
      have HC0 := Lib.hid c0
      have HC6 := Lib.hid c6
      replace c0 := lift hb c0
      replace c1 := lift hb c1
      replace c2 := lift hb c2
      replace c3 := lift hb c3
      replace c4 := lift hb c4
      replace c5 := lift hb c5
      replace c6 := lift hb c6
      obtain ⟨xs, hxs, hit⟩ := HF.out.own
      have H7 := Lib.hid ((cells7_def _ _ _ _ _ _ _ _ _).2 ⟨aa, al, ac, ba, bl, bc, rfl, hra, hrb⟩ : Cells7 R _ (.mk k ak ai bk bi args body))
      have HS := Lib.hid hs
      have HO := Lib.hid hxs
      have HI := Lib.hid hit
      have HB := Lib.hid hrb
      obtain ⟨A', c', rfl⟩ := HF.out.shape
      have hbig : n' + 1 + (kidsT m d (.mk k ak ai bk bi args body)).length ≤ 1048576 := by
        have h1 := HF.out.len
        have h2 := flatT_take_le m d (i + 1) l
        rw [flatT_snoc m d i l _ hs] at h2
        have h3 := HN.out
        have h4 := HF0.out
        simp only [List.length_append, List.length_cons] at h1 h2
        omega
      have HBIG := Lib.hid hbig
      have hn1 : n' + 1 ≤ 1048576 := by omega
      clear hs hxs hit hra hrb hb hbig
      by_cases hk : k = 7
      · subst hk
        by_cases hm : d < 1000
        · obtain ⟨m', rfl⟩ : ∃ m', m = m' + 1 := ⟨m - 1, by have := HD.out; omega⟩
          go_wp2_with (at_builtin; refine append_row (B := w0.heap.size) (w0 := w0) rfl _ _ 39 49 (.agg #[.int .i64 0, .int .i64 0, .int .u8 0, .int .u8 0, .int .i64 0, .int .u8 0, .int .i64 0, .slice none 0 0, .slice none 0 0]) 9 104 rfl Try.underlying39 info49 rfl (by decide) _ n' _ rfl (own_below HO.out ((Below.refl _ _).alloc (Nat.le_refl _) _)) ⟨wr.heap.size, 0, none⟩ 1 1 [.int .i64 (n' : Int), .int .i64 (d : Int), .int .u8 7, .int .u8 ak, .int .i64 ai, .int .u8 bk, .int .i64 bi, .slice aa al ac, .slice ba bl bc] rfl rfl (new_cells _ _ _ _) ?h1 ?hB ?hb (by omega) (by omega) ?_; rotate_right; intro v1 w1 hown hb1 hg1; obtain ⟨A1, cp1, rfl, HF1⟩ := ritemG_facts (d := d) HF.out HI.out H7.out hown hb1; have d0 := lift hb1 HC0.out; have d6 := lift hb1 HC6.out; clear hown hb1 hg1)
          · refine (IH.out m' rfl (d + 1) (by have := HD.out; omega) body ba bl bc HB.out w1 _ (n' + 1) _ HF1.out (by have := HBIG.out; rwa [kidsT_yes] at this)).mono ?_
            rintro e w2 ⟨v2, n2, rfl, hf2⟩
            have HF2 := Lib.hid hf2
            clear hf2
            go_wp2
            refine ⟨⟨i + 1, n2, by omega, by go_num, ?_⟩, by simp [intOf]; omega⟩
            have := HF2.out
            rw [List.append_assoc, List.append_assoc] at this
            show RlG _ _ _ _ _ _
            rw [flatT_snoc _ _ _ _ _ HS.out, kidsT_yes]
            exact this
          case h1 => first | exact one9 _ _ _ _ _ _ _ _ _ _ _ _ _ | (refine ⟨rfl, rfl, rfl, rfl, rfl, rfl, rfl, rfl, rfl⟩)
          case hB =>
            have := HF.out.below.size
            simp
            omega
          case hb => exact HF.out.below.alloc HF.out.below.size _
        · go_wp2_with (at_builtin; refine append_row (B := w0.heap.size) (w0 := w0) rfl _ _ 39 49 (.agg #[.int .i64 0, .int .i64 0, .int .u8 0, .int .u8 0, .int .i64 0, .int .u8 0, .int .i64 0, .slice none 0 0, .slice none 0 0]) 9 104 rfl Try.underlying39 info49 rfl (by decide) _ n' _ rfl (own_below HO.out ((Below.refl _ _).alloc (Nat.le_refl _) _)) ⟨wr.heap.size, 0, none⟩ 1 1 [.int .i64 (n' : Int), .int .i64 (d : Int), .int .u8 7, .int .u8 ak, .int .i64 ai, .int .u8 bk, .int .i64 bi, .slice aa al ac, .slice ba bl bc] rfl rfl (new_cells _ _ _ _) ?h1 ?hB ?hb (by omega) (by omega) ?_; rotate_right; intro v1 w1 hown hb1 hg1; obtain ⟨A1, cp1, rfl, HF1⟩ := ritemG_facts (d := d) HF.out HI.out H7.out hown hb1; have d0 := lift hb1 HC0.out; have d6 := lift hb1 HC6.out; clear hown hb1 hg1)
          · obtain rfl : m = 0 := by have := HD.out; omega
            refine ⟨⟨i + 1, n' + 1, by omega, by go_num, ?_⟩, by simp [intOf]; omega⟩
            have := HF1.out
            rw [List.append_assoc] at this
            show RlG _ _ _ _ _ _
            rw [flatT_snoc _ _ _ _ _ HS.out, kidsT]
            exact this
          case h1 => first | exact one9 _ _ _ _ _ _ _ _ _ _ _ _ _ | (refine ⟨rfl, rfl, rfl, rfl, rfl, rfl, rfl, rfl, rfl⟩)
          case hB =>
            have := HF.out.below.size
            simp
            omega
          case hb => exact HF.out.below.alloc HF.out.below.size _
      · have hkf : (k == 7) = false := by simpa using hk
        go_wp2_with (at_builtin; refine append_row (B := w0.heap.size) (w0 := w0) rfl _ _ 39 49 (.agg #[.int .i64 0, .int .i64 0, .int .u8 0, .int .u8 0, .int .i64 0, .int .u8 0, .int .i64 0, .slice none 0 0, .slice none 0 0]) 9 104 rfl Try.underlying39 info49 rfl (by decide) _ n' _ rfl (own_below HO.out ((Below.refl _ _).alloc (Nat.le_refl _) _)) ⟨wr.heap.size, 0, none⟩ 1 1 [.int .i64 (n' : Int), .int .i64 (d : Int), .int .u8 k, .int .u8 ak, .int .i64 ai, .int .u8 bk, .int .i64 bi, .slice aa al ac, .slice ba bl bc] rfl rfl (new_cells _ _ _ _) ?h1 ?hB ?hb (by omega) (by omega) ?_; rotate_right; intro v1 w1 hown hb1 hg1; obtain ⟨A1, cp1, rfl, HF1⟩ := ritemG_facts (d := d) HF.out HI.out H7.out hown hb1; have d0 := lift hb1 HC0.out; have d6 := lift hb1 HC6.out; clear hown hb1 hg1)
        · refine ⟨⟨i + 1, n' + 1, by omega, by go_num, ?_⟩, by simp [intOf]; omega⟩
          have := HF1.out
          rw [List.append_assoc] at this
          show RlG _ _ _ _ _ _
          rw [flatT_snoc _ _ _ _ _ HS.out, kidsT_no _ _ (show ¬ k = 7 from hk)]
          exact this
        case h1 => first | exact one9 _ _ _ _ _ _ _ _ _ _ _ _ _ | (refine ⟨rfl, rfl, rfl, rfl, rfl, rfl, rfl, rfl, rfl⟩)
        case hB =>
          have := HF.out.below.size
          simp
          omega
        case hb => exact HF.out.below.alloc HF.out.below.size _
    · obtain rfl : i = len := by omega
      go_wp2
      go_ret
      refine ⟨_, n', rfl, ?_⟩
      have := HF.out
      rw [List.take_of_length_le (by rw [HR.out.1]; omega)] at this
      exact this
theorem rflatG_calls (R w0 : World) (hR : Sub R w0) (m : Nat) : RFlatGP R w0 m := by
  induction m with
  | zero => exact rflatG_step R w0 hR 0 (fun m' h => by omega)
  | succ m ih => exact rflatG_step R w0 hR (m + 1) (fun m' h => (Nat.succ.inj h) ▸ ih)
theorem RlG.start (R w : World) : RlG R w w (.slice none 0 0) 0 [] := ⟨rfl, Below.refl _ _, [], World.ownsRow_nil _ _ _ _, rfl⟩
set_option maxRecDepth 20000 in
theorem rflat12G_calls (R w : World) (hR : Sub R w) (l : List St) (a : Option Addr) (len cap : Nat) (hr : ReadsBody R a len l) (hN : (flatT 1000 0 l).length ≤ 1048576) :
    Calls Try.prog 13 #[.slice a len cap] w (RFlattedG R w (flatT 1000 0 l)) := by
  have HR := Lib.hid hr
  have HN := Lib.hid hN
  clear hr hN
  go_enter Try.func13, Try.ntmps13
  go_wp2_with fail
  refine (rflatG_calls R w hR 1000 0 rfl l a len cap HR.out w _ 0 [] (RlG.start R w) (by have := HN.out; omega)).mono ?_
  rintro e w2 ⟨v, n, rfl, hf⟩
  have HF := Lib.hid hf
  clear hf
  go_wp2
  go_ret
  exact ⟨_, n, rfl, HF.out⟩
end Go.Proofs.Ytjgijbaboekghaa

set_option linter.unusedSimpArgs false
set_option linter.unusedVariables false
namespace Go.Proofs.Ytjgijbaboekghaa
open Go.RowKit
theorem placeT_range (l : List Th) (x : Th) : -1 ≤ placeT l x ∧ placeT l x < (l.length : Int) := by
  unfold placeT
  split
  · rename_i i h
    have := (List.findIdx?_eq_some_iff_getElem.1 h).1
    omega
  · omega
theorem placeT_mem {l : List Th} {x : Th} (h : x ∈ l) : 0 ≤ placeT l x := by
  unfold placeT
  split
  · omega
  · rename_i e
    have := List.findIdx?_eq_none_iff.1 e x h
    simp at this
theorem mem_locT {f l : Nat} {i : Int} (h0 : 0 ≤ i) (h : i < (l : Int)) : (1, (f : Int), i) ∈ locT f l := by
  unfold locT
  exact List.mem_flatMap.2 ⟨i.toNat, List.mem_range.2 (by omega), List.mem_singleton.2 (by rw [Int.toNat_of_nonneg h0])⟩
theorem mem_siteT {f l : Nat} {i : Int} (h0 : 0 ≤ i) (h : i < (l : Int)) : (4, (f : Int), i) ∈ siteT f l := by
  unfold siteT
  exact List.mem_flatMap.2 ⟨i.toNat, List.mem_range.2 (by omega), List.mem_singleton.2 (by rw [Int.toNat_of_nonneg h0])⟩
theorem mem_globT {g : Nat} {i : Int} (h0 : 0 ≤ i) (h : i < (g : Int)) : (2, 0, i) ∈ globT g := by
  unfold globT
  exact List.mem_flatMap.2 ⟨i.toNat, List.mem_range.2 (by omega), List.mem_singleton.2 (by rw [Int.toNat_of_nonneg h0])⟩
theorem mem_oneV {M : Mod} {f : Nat} {fn : Fn} {x : Th} (hf : M.funcs[f]? = some fn) (h : x ∈ locT f fn.locals.length ++ [(3, (f : Int), 0)] ++ siteT f fn.sites.length) : x ∈ varsT M M.funcs.length := by
  unfold varsT
  refine List.mem_append_right _ (List.mem_flatMap.2 ⟨f, List.mem_range.2 (List.getElem?_eq_some_iff.1 hf).1, ?_⟩)
  unfold oneV
  rw [hf]
  exact h
theorem mem_oneC {M : Mod} {f : Nat} {fn : Fn} {x : Th} (hf : M.funcs[f]? = some fn) (h : x ∈ [(3, (f : Int), 0)] ++ locT f fn.locals.length ++ siteT f fn.sites.length) : x ∈ cellsT M M.funcs.length := by
  unfold cellsT
  refine List.mem_append_right _ (List.mem_flatMap.2 ⟨f, List.mem_range.2 (List.getElem?_eq_some_iff.1 hf).1, ?_⟩)
  unfold oneC
  rw [hf]
  exact h
theorem in_vars {M : Mod} {f : Nat} {fn : Fn} (hf : M.funcs[f]? = some fn) {k i : Int} (h : okV M.globals.length fn.locals.length k i) : ofT f k i ∈ varsT M M.funcs.length := by
  rcases h with ⟨rfl, h0, h1⟩ | ⟨rfl, h0, h1⟩
  · exact mem_oneV hf (List.mem_append_left _ (List.mem_append_left _ (mem_locT h0 h1)))
  · exact List.mem_append_left _ (mem_globT h0 h1)
theorem fun_vars {M : Mod} {i : Int} (h0 : 0 ≤ i) (h : i < (M.funcs.length : Int)) : (3, i, 0) ∈ varsT M M.funcs.length := by
  obtain ⟨f, rfl⟩ : ∃ f : Nat, i = (f : Int) := ⟨i.toNat, by omega⟩
  exact mem_oneV (List.getElem?_eq_getElem (show f < _ by omega)) (List.mem_append_left _ (List.mem_append_right _ List.mem_cons_self))
theorem in_cells {M : Mod} {f : Nat} {fn : Fn} (hf : M.funcs[f]? = some fn) {k i : Int} (h : okO M.globals.length fn.locals.length fn.sites.length M.funcs.length k i) : ofT f k i ∈ cellsT M M.funcs.length := by
  rcases h with h | ⟨rfl, h0, h1⟩ | ⟨rfl, h0, h1⟩
  · rcases h with ⟨rfl, h0, h1⟩ | ⟨rfl, h0, h1⟩
    · exact mem_oneC hf (List.mem_append_left _ (List.mem_append_right _ (mem_locT h0 h1)))
    · exact List.mem_append_left _ (mem_globT h0 h1)
  · obtain ⟨g, rfl⟩ : ∃ g : Nat, i = (g : Int) := ⟨i.toNat, by omega⟩
    exact mem_oneC (List.getElem?_eq_getElem (show g < _ by omega)) (List.mem_append_left _ (List.mem_append_left _ List.mem_cons_self))
  · exact mem_oneC hf (List.mem_append_right _ (mem_siteT h0 h1))
theorem cells_kind {M : Mod} {x1 x2 x3 : Int} {i : Nat} (h : (cellsT M M.funcs.length)[i]? = some (x1, x2, x3)) (h3 : x1 = 3) : ∃ (f : Nat) (fn : Fn), M.funcs[f]? = some fn ∧ x2 = (f : Int) := by
  subst h3
  have hm := List.mem_of_getElem? h
  unfold cellsT at hm
  rcases List.mem_append.1 hm with hm | hm
  · unfold globT at hm
    obtain ⟨g, _, hg⟩ := List.mem_flatMap.1 hm
    rw [List.mem_singleton] at hg
    injection hg with e _
    exact absurd e (by decide)
  · obtain ⟨f, hf, hm⟩ := List.mem_flatMap.1 hm
    have hlt := List.mem_range.1 hf
    have hfn : M.funcs[f]? = some M.funcs[f] := List.getElem?_eq_getElem hlt
    unfold oneC at hm
    rw [hfn] at hm
    refine ⟨f, _, hfn, ?_⟩
    rcases List.mem_append.1 hm with hm | hm
    · rcases List.mem_append.1 hm with hm | hm
      · rw [List.mem_singleton] at hm
        injection hm with _ e
        injection e
      · unfold locT at hm
        obtain ⟨g, _, hg⟩ := List.mem_flatMap.1 hm
        rw [List.mem_singleton] at hg
        injection hg with e _
        exact absurd e (by decide)
    · have h4 : (3 : Int) = 4 := siteT_in hm
      exact absurd h4 (by decide)
/-- What r14.System asks of a module. -/
structure SysM (M : Mod) : Prop where
  ok : OkM M
  par : ∀ f ∈ M.funcs, f.params ≤ 1000
  args : ∀ f ∈ M.funcs, ∀ x ∈ flatT 1000 0 f.body, ∀ (k ak ai bk bi : Int) (args : List (Int × Int)) (body : List St), x.2 = .mk k ak ai bk bi args body → args.length ≤ 1000
  flat : ∀ f ∈ M.funcs, (flatT 1000 0 f.body).length ≤ 1000
  vlen : (varsT M M.funcs.length).length ≤ 1048576
  clen : (cellsT M M.funcs.length).length ≤ 1048576
def ListOk (sz n : Nat) (xs : List Value) (P : List Value → Prop) : Prop := xs.length = n * sz ∧ ∀ i, i < n → ∃ vs, P vs ∧ vs.length = sz ∧ ∀ (j : Nat) u, vs[j]? = some u → xs[i * sz + j]? = some u
theorem ListOk.nil (sz : Nat) (P : List Value → Prop) : ListOk sz 0 [] P := ⟨by simp, fun i h => by omega⟩
theorem ListOk.mono {sz n : Nat} {xs : List Value} {P Q : List Value → Prop} (h : ListOk sz n xs P) (k : ∀ vs, P vs → Q vs) : ListOk sz n xs Q := ⟨h.1, fun i hi => by obtain ⟨vs, h1, h2⟩ := h.2 i hi; exact ⟨vs, k _ h1, h2⟩⟩
theorem ListOk.snoc {sz n : Nat} {xs vs : List Value} {P : List Value → Prop} (h : ListOk sz n xs P) (hv : P vs) (hl : vs.length = sz) : ListOk sz (n + 1) (xs ++ vs) P := by
  refine ⟨by rw [List.length_append, h.1, hl, Nat.add_mul, Nat.one_mul], fun i hi => ?_⟩
  rcases Nat.lt_or_ge i n with h1 | h1
  · obtain ⟨us, k1, k2, k3⟩ := h.2 i h1
    refine ⟨us, k1, k2, fun j u hj => ?_⟩
    have := k3 j u hj
    rw [List.getElem?_append_left (List.getElem?_eq_some_iff.1 this).1]
    exact this
  · obtain rfl : i = n := by omega
    refine ⟨vs, hv, hl, fun j u hj => ?_⟩
    rw [List.getElem?_append_right (by rw [h.1]; omega), h.1, Nat.add_sub_cancel_left]
    exact hj
structure SyD where
  C : Nat
  K : Nat
  CA : Option Addr
  CC : Nat
  KA : Option Addr
  KC : Nat
  cxs : List Value
  kxs : List Value
def sRows (V sb : Nat) (d : SyD) : List Row := [⟨92, 3, .slice (some ⟨sb, 0, none⟩) 1 1, 1, [.int .i64 (V : Nat), .slice d.CA d.C d.CC, .slice d.KA d.K d.KC]⟩, ⟨119, 3, .slice d.CA d.C d.CC, d.C, d.cxs⟩, ⟨121, 4, .slice d.KA d.K d.KC, d.K, d.kxs⟩]
/-- The system so far, beside other rows of the call's own. -/
structure Sy (W0 : World) (V nC sb rb : Nat) (d : SyD) (ex : List Row) (w : World) : Prop where
  owns : Owns w W0.heap.size (sRows V sb d ++ ex)
  below : Below W0.heap.size W0 w
  cok : ListOk 3 d.C d.cxs (CellOk (sans w (rblk (sRows V sb d ++ ex) ++ [rb])) V)
  kok : ListOk 4 d.K d.kxs (ConOk (sans w (rblk (sRows V sb d ++ ex) ++ [rb])) V nC)
section
variable {W0 : World} {V nC sb rb : Nat} {d : SyD} {ex : List Row} {w w' : World}
theorem Sy.box (h : Sy W0 V nC sb rb d ex w) : w.heap[sb]? = some (.cells #[.int .i64 (V : Nat), .slice d.CA d.C d.CC, .slice d.KA d.K d.KC] 92) := own_block _ (h.owns.at (i := 0) rfl) rfl
theorem Sy.next (h : Sy W0 V nC sb rb d ex w) (hb : Below w.heap.size w w') : Sy W0 V nC sb rb d ex w' :=
  ⟨h.owns.below hb, h.below.trans (hb.mono h.below.size), h.cok.mono fun _ k => k.sub (sub_sans_below hb), h.kok.mono fun _ k => k.sub (sub_sans_below hb)⟩
theorem Sy.turn (h : Sy W0 V nC sb rb d ex w) {d' : SyD} {ex' : List Row} (ho : Owns w' W0.heap.size (sRows V sb d' ++ ex')) (hb : Below W0.heap.size W0 w') (hs : Sub (sans w (rblk (sRows V sb d ++ ex) ++ [rb])) (sans w' (rblk (sRows V sb d' ++ ex') ++ [rb])))
    (e1 : d'.C = d.C) (e2 : d'.K = d.K) (e3 : d'.cxs = d.cxs) (e4 : d'.kxs = d.kxs) : Sy W0 V nC sb rb d' ex' w' :=
  ⟨ho, hb, by rw [e1, e3]; exact h.cok.mono fun _ k => k.sub hs, by rw [e2, e4]; exact h.kok.mono fun _ k => k.sub hs⟩
theorem Sy.new (h : Sy W0 V nC sb rb d ex w) (hb : Below w.heap.size w w') {r : Row} (hr : w'.ownsRow w.heap.size r.e r.size r.v r.n r.xs) : Sy W0 V nC sb rb d (r :: ex) w' := by
  refine h.turn ((h.owns.new hb hr h.below.size).perm List.perm_middle.symm) (h.below.trans (hb.mono h.below.size)) (sub_sans fun k hk hkb => ⟨fun hm => ?_, hb.block k hk⟩) rfl rfl rfl rfl
  have hkb' : k ∉ rblk (sRows V sb d ++ ex) := fun h => hkb (List.mem_append_left _ h)
  have hm' : k ∈ rblk (sRows V sb d ++ r :: ex) := (List.mem_append.1 hm).resolve_right fun h => hkb (List.mem_append_right _ h)
  clear hkb hm
  have hkb := hkb'
  obtain ⟨x, hx, e⟩ := mem_rblk.1 hm'
  rcases List.mem_append.1 hx with hx | hx
  · exact hkb (mem_rblk.2 ⟨x, List.mem_append_left _ hx, e⟩)
  · rcases List.mem_cons.1 hx with rfl | hx
    · have := (World.ownsRow.lt hr k e).1; omega
    · exact hkb (mem_rblk.2 ⟨x, List.mem_append_right _ hx, e⟩)
theorem Sy.nilrow (h : Sy W0 V nC sb rb d ex w) (e : TypeId) (size : Nat) : Sy W0 V nC sb rb d (⟨e, size, .slice none 0 0, 0, []⟩ :: ex) w := h.new (Below.refl _ _) (World.ownsRow_nil _ _ _ _)
theorem Sy.drop {r : Row} (h : Sy W0 V nC sb rb d (r :: ex) w) : Sy W0 V nC sb rb d ex w :=
  h.turn (h.owns.perm List.perm_middle).tail h.below (sub_sans_app fun k hk => by
    obtain ⟨x, hx, e⟩ := mem_rblk.1 hk
    refine mem_rblk.2 ⟨x, ?_, e⟩
    rcases List.mem_append.1 hx with hx | hx
    · exact List.mem_append_left _ hx
    · exact List.mem_append_right _ (List.mem_cons_of_mem _ hx)) rfl rfl rfl rfl
theorem Sy.grown {r r' : Row} (h : Sy W0 V nC sb rb d (r :: ex) w) (hg : Grown w w' W0.heap.size (sRows V sb d ++ r :: ex) 3 r') : Sy W0 V nC sb rb d (r' :: ex) w' :=
  h.turn hg.owns (h.below.trans hg.below) (hg.sub [rb]) rfl rfl rfl rfl
theorem Sy.store4 {r : Row} {e : TypeId} {size g n : Nat} {xs : List Value} (h : Sy W0 V nC sb rb d (r :: ⟨e, size, .slice (some ⟨g, 0, none⟩) 1 1, n, xs⟩ :: ex) w) (j : Nat) (u : Value) : Sy W0 V nC sb rb d (r :: ⟨e, size, .slice (some ⟨g, 0, none⟩) 1 1, n, xs.set j u⟩ :: ex) (w.setCell ⟨g, j, none⟩ u) := by
  have ho := h.owns.set_store (i := 4) rfl (g := g) rfl j u
  have hlt := (World.ownsRow.lt (h.owns.at (i := 4) rfl) g rfl).1
  exact h.turn ho (h.below.setCell hlt u) (sub_store_at (i := 4) (rs := sRows V sb d ++ r :: ⟨e, size, .slice (some ⟨g, 0, none⟩) 1 1, n, xs⟩ :: ex) rfl rfl rfl) rfl rfl rfl rfl
theorem Sy.con {A' : Option Addr} {c' : Nat} {vs : List Value} (h : Sy W0 V nC sb rb d ex w) (hg : Grown w w' W0.heap.size (sRows V sb d ++ ex) 2 ⟨121, 4, .slice A' (d.K + 1) c', d.K + 1, d.kxs ++ vs⟩) (hl : vs.length = 4) (hv : ConOk (sans w (rblk (sRows V sb d ++ ex) ++ [rb])) V nC vs) :
    Sy W0 V nC sb rb { d with K := d.K + 1, KA := A', KC := c', kxs := d.kxs ++ vs } ex (w'.setCell ⟨sb, 2, none⟩ (.slice A' (d.K + 1) c')) := by
  have hs := (hg.sub [rb]).trans (sub_store_at (i := 0) (g := sb) (j := 2) (u := .slice A' (d.K + 1) c') (r' := ⟨92, 3, .slice (some ⟨sb, 0, none⟩) 1 1, 1, [.int .i64 (V : Nat), .slice d.CA d.C d.CC, .slice A' (d.K + 1) c']⟩) rfl rfl rfl)
  have hlt := (World.ownsRow.lt (h.owns.at (i := 0) rfl) sb rfl).1
  exact ⟨hg.owns.set_store (i := 0) rfl (g := sb) rfl 2 (.slice A' (d.K + 1) c'), (h.below.trans hg.below).setCell hlt _, h.cok.mono fun _ k => k.sub hs, (h.kok.snoc hv hl).mono fun _ k => k.sub hs⟩
theorem Sy.cell {A' : Option Addr} {c' : Nat} {vs : List Value} (h : Sy W0 V nC sb rb d ex w) (hg : Grown w w' W0.heap.size (sRows V sb d ++ ex) 1 ⟨119, 3, .slice A' (d.C + 1) c', d.C + 1, d.cxs ++ vs⟩) (hl : vs.length = 3) (hv : CellOk (sans w (rblk (sRows V sb d ++ ex) ++ [rb])) V vs) :
    Sy W0 V nC sb rb { d with C := d.C + 1, CA := A', CC := c', cxs := d.cxs ++ vs } ex (w'.setCell ⟨sb, 1, none⟩ (.slice A' (d.C + 1) c')) := by
  have hs := (hg.sub [rb]).trans (sub_store_at (i := 0) (g := sb) (j := 1) (u := .slice A' (d.C + 1) c') (r' := ⟨92, 3, .slice (some ⟨sb, 0, none⟩) 1 1, 1, [.int .i64 (V : Nat), .slice A' (d.C + 1) c', .slice d.KA d.K d.KC]⟩) rfl rfl rfl)
  have hlt := (World.ownsRow.lt (h.owns.at (i := 0) rfl) sb rfl).1
  exact ⟨hg.owns.set_store (i := 0) rfl (g := sb) rfl 1 (.slice A' (d.C + 1) c'), (h.below.trans hg.below).setCell hlt _, (h.cok.snoc hv hl).mono fun _ k => k.sub hs, h.kok.mono fun _ k => k.sub hs⟩
theorem Sy.start (V nC rb : Nat) (W0 : World) : Sy W0 V nC W0.heap.size rb ⟨0, 0, none, 0, none, 0, [], []⟩ [] (W0.alloc (.cells #[.int .i64 (V : Nat), .slice none 0 0, .slice none 0 0] 92)) where
  owns := by
    have h1 : Owns W0 W0.heap.size [⟨119, 3, .slice none 0 0, 0, []⟩, ⟨121, 4, .slice none 0 0, 0, []⟩] := ((Owns.nil _ _).none_ 121 4).none_ 119 3
    exact h1.new ((Below.refl _ _).alloc (Nat.le_refl _) _) (r := ⟨92, 3, .slice (some ⟨W0.heap.size, 0, none⟩) 1 1, 1, [.int .i64 (V : Nat), .slice none 0 0, .slice none 0 0]⟩) (own_one W0 92 3 #[.int .i64 (V : Nat), .slice none 0 0, .slice none 0 0] rfl) (Nat.le_refl _)
  below := (Below.refl _ _).alloc (Nat.le_refl _) _
  cok := ListOk.nil _ _
  kok := ListOk.nil _ _
theorem Sy.sysOk (h : Sy W0 V nC sb rb d ex w) (hrb : rb < W0.heap.size) (hC : d.C = nC) (hV : V ≤ 4000000) (hnC : nC ≤ 4000000) (hK : d.K ≤ 1099511627776) : SysOk (sans w [rb]) (.agg #[.int .i64 (V : Nat), .slice d.CA d.C d.CC, .slice d.KA d.K d.KC]) V nC d.K := by
  obtain ⟨C, K, CA, CC, KA, KC, cxs, kxs⟩ := d
  subst hC
  refine ⟨CA, CC, KA, KC, rfl, hV, hnC, hK, fun hp => ?_, fun hp => ?_⟩
  · have ho := h.owns.at (i := 1) rfl
    obtain ⟨g, e, hgB, _⟩ := own_addr ho hp
    have e' : CA = some ⟨g, 0, none⟩ := e
    subst e'
    refine ⟨g, 0, rfl, fun i hi => ?_⟩
    obtain ⟨vs, k1, k2, k3⟩ := h.cok.2 i hi
    refine ⟨vs, k1.sub (sub_sans_less fun b hb => List.mem_append_right _ hb), fun j u hj => ?_⟩
    rw [Nat.zero_add]
    exact Sub.sans (row_cell ho (k3 j u hj)).1 (fun hm => by rw [List.mem_singleton] at hm; have : g = rb := hm; omega)
  · have ho := h.owns.at (i := 2) rfl
    obtain ⟨g, e, hgB, _⟩ := own_addr ho hp
    have e' : KA = some ⟨g, 0, none⟩ := e
    subst e'
    refine ⟨g, 0, rfl, fun i hi => ?_⟩
    obtain ⟨vs, k1, k2, k3⟩ := h.kok.2 i hi
    refine ⟨vs, k1.sub (sub_sans_less fun b hb => List.mem_append_right _ hb), fun j u hj => ?_⟩
    rw [Nat.zero_add]
    exact Sub.sans (row_cell ho (k3 j u hj)).1 (fun hm => by rw [List.mem_singleton] at hm; have : g = rb := hm; omega)
/-- Numbers in a row that grows no more. -/
theorem Sy.args {A : Option Addr} {n c : Nat} {zs : List Int} (h : Sy W0 V nC sb rb d (⟨3, 1, .slice A n c, n, ints zs⟩ :: ex) w) (hrb : rb < W0.heap.size) (hl : zs.length = n) (hn : n ≤ 1000) (ha : ∀ a ∈ zs, -1 ≤ a ∧ a < (V : Int)) : ArgsOk (sans w (rblk (sRows V sb d ++ ex) ++ [rb])) V (A) n c := by
  have ho := h.owns.perm List.perm_middle
  refine ⟨hn, ?_, fun hp => ?_⟩
  · obtain ⟨_, _, e, hc, _⟩ := own_shape ho.head
    injection e with _ _ e3
    omega
  · obtain ⟨g, rfl, hgB, _⟩ := own_addr ho.head hp
    refine ⟨g, 0, rfl, fun i hi => ?_⟩
    have hi' : zs[i]? = some zs[i] := List.getElem?_eq_getElem (by omega)
    refine ⟨zs[i], Sub.sans ?_ (fun hm => (List.mem_append.1 hm).elim (fun h => ho.notin rfl h) (fun h => by rw [List.mem_singleton] at h; have : g = rb := h; omega)), ha _ (List.mem_of_getElem? hi')⟩
    rw [Nat.zero_add]
    refine (row_cell ho.head (k := i) ?_).1
    show (ints zs)[i]? = _
    unfold ints
    rw [List.getElem?_map, hi']
    rfl
end
theorem argsOk_none (w : World) (V : Nat) : ArgsOk w V none 0 0 := ⟨Nat.zero_le _, Nat.le_refl _, fun h => absurd h (Nat.lt_irrefl _)⟩
theorem rows_less {W : World} {V sb rb : Nat} {d : SyD} {r : Row} {ex : List Row} : Sub (sans W (rblk (sRows V sb d ++ r :: ex) ++ [rb])) (sans W (rblk (sRows V sb d ++ ex) ++ [rb])) := sub_sans_app fun k hk => by
  obtain ⟨x, hx, e⟩ := mem_rblk.1 hk
  refine mem_rblk.2 ⟨x, ?_, e⟩
  rcases List.mem_append.1 hx with hx | hx
  · exact List.mem_append_left _ hx
  · exact List.mem_append_right _ (List.mem_cons_of_mem _ hx)
theorem info119s : (Try.prog.info? 119).map (fun i => (i.zero, i.size, i.bytes)) = some (some (.agg #[.bool false, .int .i64 0, .slice none 0 0]), 3, 40) := by kernel_rfl
theorem info121s : (Try.prog.info? 121).map (fun i => (i.zero, i.size, i.bytes)) = some (some (.agg #[.int .u8 0, .int .i64 0, .int .i64 0, .slice none 0 0]), 4, 48) := by kernel_rfl
theorem info3s : (Try.prog.info? 3).map (fun i => (i.zero, i.size, i.bytes)) = some (some (.int .i64 0), 1, 8) := by kernel_rfl
theorem con_one (k x y : Int) (a : Option Addr) (n c : Nat) : ∀ u ∈ [Value.int .u8 k, .int .i64 x, .int .i64 y, .slice a n c], u.oneCell' = true := by
  intro u hu
  simp only [List.mem_cons, List.not_mem_nil, or_false] at hu
  rcases hu with rfl | rfl | rfl | rfl <;> rfl
theorem cell_one (b : Bool) (x : Int) (a : Option Addr) (n c : Nat) : ∀ u ∈ [Value.bool b, .int .i64 x, .slice a n c], u.oneCell' = true := by
  intro u hu
  simp only [List.mem_cons, List.not_mem_nil, or_false] at hu
  rcases hu with rfl | rfl | rfl <;> rfl
theorem conOk1 {w : World} {V C : Nat} {x y : Int} (hx : 0 ≤ x ∧ x < (V : Int)) (hy : 0 ≤ y ∧ y < (C : Int)) : ConOk w V C [.int .u8 1, .int .i64 x, .int .i64 y, .slice none 0 0] :=
  ⟨1, x, y, none, 0, 0, rfl, by omega, hx.2, fun _ => ⟨hx.1, hy.1, hy.2⟩, fun h => absurd rfl h, fun h => absurd h (by decide), fun h => absurd rfl h, argsOk_none _ _⟩
theorem conOk2 {w : World} {V C : Nat} {x y : Int} (hx : -1 ≤ x ∧ x < (V : Int)) (hy : -1 ≤ y ∧ y < (V : Int)) : ConOk w V C [.int .u8 2, .int .i64 x, .int .i64 y, .slice none 0 0] :=
  ⟨2, x, y, none, 0, 0, rfl, hx.1, hx.2, fun h => absurd h (by decide), fun _ => hy, fun h => absurd h (by decide), fun _ h => absurd rfl h, argsOk_none _ _⟩
theorem conOk3 {w : World} {V C : Nat} {x y : Int} (hx : -1 ≤ x ∧ x < (V : Int)) (hy : -1 ≤ y ∧ y < (V : Int)) (h0 : 0 ≤ y) : ConOk w V C [.int .u8 3, .int .i64 x, .int .i64 y, .slice none 0 0] :=
  ⟨3, x, y, none, 0, 0, rfl, hx.1, hx.2, fun h => absurd h (by decide), fun _ => hy, fun h => absurd h (by decide), fun _ _ _ => h0, argsOk_none _ _⟩
theorem conOk4 {w : World} {V C : Nat} {x y : Int} (hx : -1 ≤ x ∧ x < (V : Int)) (hy : -1 ≤ y ∧ y < (V : Int)) (h0 : 0 ≤ x) : ConOk w V C [.int .u8 4, .int .i64 x, .int .i64 y, .slice none 0 0] :=
  ⟨4, x, y, none, 0, 0, rfl, hx.1, hx.2, fun h => absurd h (by decide), fun _ => hy, fun _ => h0, fun _ _ h => absurd rfl h, argsOk_none _ _⟩
theorem conOk5 {w : World} {V C : Nat} {x y : Int} {a : Option Addr} {n c : Nat} (hx : -1 ≤ x ∧ x < (V : Int)) (hy : -1 ≤ y ∧ y < (V : Int)) (h0 : 0 ≤ y) (ha : ArgsOk w V a n c) : ConOk w V C [.int .u8 5, .int .i64 x, .int .i64 y, .slice a n c] :=
  ⟨5, x, y, a, n, c, rfl, hx.1, hx.2, fun h => absurd h (by decide), fun _ => hy, fun h => absurd h (by decide), fun _ _ _ => h0, ha⟩
/-- The cells of an item. -/
theorem item9 {w0 w : World} {B n c g e i : Nat} {xs : List Value} {l : List (Nat × St)} {dp : Nat} {s : St} (h : w.ownsRow B e 9 (.slice (some ⟨g, 0, none⟩) n c) n xs) (hI : ItemsAt w0 0 xs l) (hi : l[i]? = some (dp, s)) :
    ∃ (k ak ai bk bi : Int) (args : List (Int × Int)) (body : List St) (aa ba : Option Addr) (al ac bl bc : Nat), s = .mk k ak ai bk bi args body ∧ ReadsRefs w0 aa al args ∧
      w.cell? ⟨g, i * 9 + 2, none⟩ = some (.int .u8 k) ∧ w.cell? ⟨g, i * 9 + 3, none⟩ = some (.int .u8 ak) ∧ w.cell? ⟨g, i * 9 + 4, none⟩ = some (.int .i64 ai) ∧
      w.cell? ⟨g, i * 9 + 5, none⟩ = some (.int .u8 bk) ∧ w.cell? ⟨g, i * 9 + 6, none⟩ = some (.int .i64 bi) ∧ w.cell? ⟨g, i * 9 + 7, none⟩ = some (.slice aa al ac) ∧ w.cell? ⟨g, i * 9 + 8, none⟩ = some (.slice ba bl bc) := by
  obtain ⟨k1, k2, vs, k3, k4⟩ := hI.at hi
  obtain ⟨k, ak, ai, bk, bi, args, body⟩ := s
  obtain ⟨aa, al, ac, ba, bl, bc, rfl, h1, h2⟩ := (cells7_def _ _ _ _ _ _ _ _ _).1 k3
  exact ⟨k, ak, ai, bk, bi, args, body, aa, ba, al, ac, bl, bc, rfl, h1, (row_cell h (k4 0 _ rfl)).1, (row_cell h (k4 1 _ rfl)).1, (row_cell h (k4 2 _ rfl)).1, (row_cell h (k4 3 _ rfl)).1, (row_cell h (k4 4 _ rfl)).1, (row_cell h (k4 5 _ rfl)).1, (row_cell h (k4 6 _ rfl)).1⟩
end Go.Proofs.Ytjgijbaboekghaa

set_option linter.unusedSimpArgs false
set_option linter.unusedVariables false
namespace Go.Proofs.Ytjgijbaboekghaa
open Go.RowKit
theorem small_flat : ∀ (m d : Nat) (l : List St), smallAll l → ∀ x ∈ flatT m d l, smallSt x.2 := by
  intro m
  induction m with
  | zero =>
    intro d l hs x hx
    induction l with
    | nil => rw [flatT_nil] at hx; cases hx
    | cons s r ih =>
      rw [smallAll] at hs
      rw [show s :: r = [s] ++ r from rfl, flatT_append] at hx
      rcases List.mem_append.1 hx with hx | hx
      · rw [flatT_cons] at hx
        rcases List.mem_cons.1 hx with rfl | hx
        · exact hs.1
        · rw [kidsT] at hx; cases hx
      · exact ih hs.2 hx
  | succ m IH =>
    intro d l hs x hx
    induction l with
    | nil => rw [flatT_nil] at hx; cases hx
    | cons s r ih =>
      rw [smallAll] at hs
      rw [show s :: r = [s] ++ r from rfl, flatT_append] at hx
      rcases List.mem_append.1 hx with hx | hx
      · rw [flatT_cons] at hx
        rcases List.mem_cons.1 hx with rfl | hx
        · exact hs.1
        · obtain ⟨k, ak, ai, bk, bi, args, body⟩ := s
          by_cases hk : k = 7
          · subst hk
            rw [kidsT_yes] at hx
            exact IH _ _ ((smallSt_def _ _ _ _ _ _ _).1 hs.1).2.2 x hx
          · rw [kidsT_no _ _ hk] at hx; cases hx
      · exact ih hs.2 hx
theorem sum_le {α : Type} (g : α → Nat) (B : Nat) : ∀ l : List α, (∀ x ∈ l, g x ≤ B) → (l.map g).sum ≤ l.length * B
  | [], _ => Nat.zero_le _
  | x :: l, h => by
    have h1 := h x List.mem_cons_self
    have h2 := sum_le g B l fun y hy => h y (List.mem_cons_of_mem _ hy)
    rw [List.map_cons, List.sum_cons, List.length_cons, Nat.add_mul, Nat.one_mul]
    omega
theorem makeM_places (d : Dr) {f : Fn} (hf : f ∈ (makeM d).funcs) : f.params ≤ 4 ∧ f.locals.length ≤ 10 ∧ f.sites.length ≤ 2 := by
  obtain ⟨x, hx, rfl⟩ := List.mem_map.1 hf
  obtain ⟨q, hq⟩ := List.mem_iff_getElem?.1 hx
  have hp : Placed d.f _ q x := bodD_placed d d.acts.length q x hq
  have e1 : (canonF (canonL (rawM d) (rawM d).strings.length) (rawM d).strings x).locals.length = x.locals.length := List.length_map _
  have e2 : (canonF (canonL (rawM d) (rawM d).strings.length) (rawM d).strings x).sites.length = x.sites.length := List.length_map _
  have e3 : (canonF (canonL (rawM d) (rawM d).strings.length) (rawM d).strings x).params = x.params := rfl
  rw [e1, e2, e3, hp.params, hp.locals, hp.sites]
  unfold nlD parD nsD
  omega
theorem makeM_last (d : Dr) : firstN (makeM d) (makeM d).funcs.length ≤ 1000 := by
  have e3 : (makeM d).globals.length = d.g % 4 := by
    show (List.map _ (natInts (d.g % 4))).length = _
    rw [List.length_map]
    unfold natInts
    rw [List.length_map, List.length_range]
  have h1 := sum_le sizeFn 13 (makeM d).funcs fun f hf => by
    have := makeM_places d hf
    unfold sizeFn
    omega
  have h2 := makeM_len d
  unfold firstN
  rw [List.take_length]
  unfold nD at h2
  omega
theorem makeM_sys (d : Dr) (hA : d.acts.length ≤ 60) : SysM (makeM d) where
  ok := makeM_ok d
  par := fun f hf => by have := (makeM_places d hf).1; omega
  args := fun f hf x hx k ak ai bk bi args body e => by
    have h1 := small_flat 1000 0 f.body (makeM_small d f hf) x hx
    rw [e] at h1
    exact ((smallSt_def _ _ _ _ _ _ _).1 h1).1
  flat := fun f hf => by have := (makeM_flat d hA f hf).1; omega
  vlen := by rw [varsT_len (Nat.le_refl _)]; have := makeM_last d; omega
  clen := by rw [cellsT_len (Nat.le_refl _)]; have := makeM_last d; omega
end Go.Proofs.Ytjgijbaboekghaa

set_option linter.unusedSimpArgs false
set_option linter.unusedVariables false
namespace Go.Proofs.Ytjgijbaboekghaa
open Go.ChangeShapes Go.WideShapes Go.ChangeAt Go.RowKit
mutual
/-- How many statements a tree has. -/
def szS : St → Nat
  | .mk _ _ _ _ _ _ body => szL body + 1
def szL : List St → Nat
  | [] => 0
  | s :: r => szS s + szL r
end
theorem szL_at {l : List St} {i : Nat} {s : St} (h : l[i]? = some s) : szS s ≤ szL l := by
  induction l generalizing i with
  | nil => simp at h
  | cons x r ih =>
    rw [szL]
    cases i with
    | zero => simp at h; subst h; omega
    | succ i => have := ih (i := i) (by simpa using h); omega
theorem flatT_sz : (m d : Nat) → (l : List St) → (flatT m d l).length ≤ szL l
  | 0, d, l => by
    rw [flatT, List.length_map]
    induction l with
    | nil => exact Nat.zero_le _
    | cons s r ih => obtain ⟨_, _, _, _, _, _, _⟩ := s; rw [szL, szS, List.length_cons]; omega
  | m + 1, d, l => by
    induction l with
    | nil => rw [flatT_nil]; exact Nat.zero_le _
    | cons s r ih =>
      rw [show s :: r = [s] ++ r from rfl, flatT_append, flatT_cons, List.length_append, List.length_cons]
      have hk : (kidsT (m + 1) d s).length ≤ szL s.body := by
        rw [kidsT]
        split
        · exact flatT_sz m (d + 1) s.body
        · exact Nat.zero_le _
      have hs : szS s = szL s.body + 1 := by obtain ⟨_, _, _, _, _, _, _⟩ := s; rw [szS]; rfl
      show _ ≤ szL (s :: r)
      rw [szL]
      omega
section
variable {H : Type} {enc : TypeId × Value → H} {w : World} {held : Bool}
theorem bulk_part {d : DataW H} {l : List (DataW H)} {i : Nat} (h : l[i]? = some d) : Rows.uptoBulk d ≤ Rows.uptoBulkAll l := by
  induction l generalizing i with
  | nil => simp at h
  | cons x r ih =>
    simp only [Rows.uptoBulkAll]
    cases i with
    | zero => simp at h; subst h; omega
    | succ i => have := ih (i := i) (by simpa using h); omega
theorem szL_bulk {T : List St} {l : List (DataW H)} (hl : T.length ≤ l.length) (h : ∀ (i : Nat) s d, T[i]? = some s → l[i]? = some d → szS s ≤ Rows.uptoBulk d) : szL T ≤ Rows.uptoBulkAll l := by
  induction T generalizing l with
  | nil => rw [szL]; exact Nat.zero_le _
  | cons s r ih =>
    cases l with
    | nil => simp at hl
    | cons d l =>
      rw [szL]
      simp only [Rows.uptoBulkAll]
      have h1 := h 0 s d rfl rfl
      have h2 := ih (l := l) (by simpa using hl) (fun i s d hs hd => h (i + 1) s d (by simpa using hs) (by simpa using hd))
      omega
theorem bulk_append (l r : List (DataW H)) : Rows.uptoBulkAll (l ++ r) = Rows.uptoBulkAll l + Rows.uptoBulkAll r := by
  induction l with
  | nil => simp [Rows.uptoBulkAll]
  | cons x l ih => simp only [List.cons_append, Rows.uptoBulkAll, ih]; omega
set_option maxRecDepth 100000 in
/-- A slice of statements that came in reads as a tree, of no more statements than the reading's bulk. -/
theorem came_body (fuel : Nat) : ∀ (a : Option Addr) (len cap : Nat) (x : DataW H × List MemPlace), DataW.trod enc Try.prog w 0 (fun _ => true) held fuel 22 [.slice a len cap] = some x →
    len ≤ maxLen ∧ ∃ T, ReadsBody w a len T ∧ szL T ≤ Rows.uptoBulk x.1 := by
  induction fuel using Nat.strongRecOn with
  | ind fuel ih =>
  intro a len cap x h
  rcases DataW.trod_slice Try.underlying22 h with ⟨hcs, _⟩ | ⟨ad, l, c, elems, rest, n, hfu, hcs, rfl, _, hl, hm, hel, hi, _⟩
  · simp only [List.cons.injEq, Value.slice.injEq] at hcs
    obtain ⟨⟨rfl, rfl, rfl⟩, _⟩ := hcs
    exact ⟨by unfold maxLen; omega, [], readsBody_nil w none, by rw [szL]; exact Nat.zero_le _⟩
  · simp only [List.cons.injEq, Value.slice.injEq] at hcs
    obtain ⟨⟨rfl, rfl, rfl⟩, _⟩ := hcs
    have each : ∀ i, i < len → ∃ s : St, (∃ vs, Cells7 w vs s ∧ ∀ j v, vs[j]? = some v → w.cell? ((ad.add (i * 7)).add j) = some v) ∧ ∀ d, elems[i]? = some d → szS s ≤ Rows.uptoBulk d.1 := by
      intro i him
      have h1 := hi i him
      rw [cells46] at h1
      rw [List.getElem?_eq_getElem (by omega)] at h1
      obtain ⟨cs', h2, h3⟩ := Option.bind_eq_some_iff.1 h1
      obtain ⟨_, hlen, hcell⟩ := World.cells?_some h2
      obtain ⟨k, ak, ai, bk, bi, va, vb, n', ya, yb, rfl, ha, hb, hn', ys, hys⟩ := came_stmt h3 hlen
      obtain ⟨aa, al, ac, rfl, _⟩ := came_slice Try.underlying44 ha
      obtain ⟨ba, bl, bc, rfl, _⟩ := came_slice Try.underlying22 hb
      obtain ⟨_, refs, hra⟩ := came_refs ha
      obtain ⟨_, T', hT, hsz⟩ := ih n' (by omega) ba bl bc yb hb
      refine ⟨.mk k ak ai bk bi refs T', ⟨_, (cells7_def _ _ _ _ _ _ _ _ _).2 ⟨aa, al, ac, ba, bl, bc, rfl, hra, hT⟩, fun j v hv => ?_⟩, fun d hd => ?_⟩
      · have hj := (List.getElem?_eq_some_iff.1 hv).1
        have := hcell j (by simpa using hj)
        rw [this, hv]
      · rw [List.getElem?_eq_getElem (by omega)] at hd
        injection hd with hd
        rw [← hd, hys, szS]
        simp only [Rows.uptoBulk, bulk_append, Rows.uptoBulkAll]
        omega
    have hI : Inhabited St := ⟨.mk 0 0 0 0 0 [] []⟩
    obtain ⟨f, hf⟩ := Deep.choose_lt each
    refine ⟨by omega, (List.range len).map f, ⟨by simp, by omega, fun hp => ?_⟩, ?_⟩
    · obtain ⟨b, off, spot⟩ := ad
      obtain ⟨⟨vs, hv1, hv2⟩, _⟩ := hf 0 hp
      have h7 := hv1.length
      have hs : spot = none := by
        have := World.cell?_spot (hv2 0 _ (List.getElem?_eq_getElem (by omega)))
        simpa [Addr.add] using this
      subst hs
      refine ⟨b, off, rfl, CellsAll.of fun i s hs => ?_⟩
      have hi' : i < len := by have := (List.getElem?_eq_some_iff.1 hs).1; simpa using this
      rw [List.getElem?_map, List.getElem?_range hi'] at hs
      simp at hs
      subst hs
      obtain ⟨⟨vs, k1, k2⟩, _⟩ := hf i hi'
      refine ⟨vs, k1, fun j v hj => ?_⟩
      have := k2 j v hj
      rwa [add_none, add_none] at this
    · simp only [Rows.uptoBulk]
      have := szL_bulk (T := (List.range len).map f) (l := elems.map (·.1)) (by simp [hel]) (fun i s d hs hd => by
        have hi' : i < len := by have := (List.getElem?_eq_some_iff.1 hs).1; simpa using this
        rw [List.getElem?_map, List.getElem?_range hi'] at hs
        simp at hs
        subst hs
        rw [List.getElem?_map, List.getElem?_eq_getElem (by omega)] at hd
        simp at hd
        rw [← hd]
        exact (hf i hi').2 _ (List.getElem?_eq_getElem (by omega)))
      omega
end
end Go.Proofs.Ytjgijbaboekghaa

set_option linter.unusedSimpArgs false
set_option linter.unusedVariables false
namespace Go.Proofs.Ytjgijbaboekghaa
open Go.ChangeShapes Go.WideShapes Go.ChangeAt Go.RowKit
theorem cells29 : Try.prog.cellsOf 29 = 1 := by kernel_rfl
theorem bulk_pos {H : Type} (d : DataW H) : 1 ≤ Rows.uptoBulk d := by
  cases d with
  | lit l => cases l <;> simp [Rows.uptoBulk]
  | nil => simp [Rows.uptoBulk]
  | ptr d => simp [Rows.uptoBulk]
  | slice a b => simp [Rows.uptoBulk]
  | agg a => simp [Rows.uptoBulk]
  | iface a b => simp [Rows.uptoBulk]
  | map a => simp [Rows.uptoBulk]
  | held a => simp [Rows.uptoBulk]
theorem bulk_len {H : Type} (l : List (DataW H)) : l.length ≤ Rows.uptoBulkAll l := by
  induction l with
  | nil => exact Nat.zero_le _
  | cons x l ih =>
    have := bulk_pos x
    simp only [List.length_cons, Rows.uptoBulkAll]
    omega
section
variable {H : Type} {enc : TypeId × Value → H} {w : World} {held : Bool}
theorem came_ints {a : Option Addr} {len cap fuel : Nat} {x : DataW H × List MemPlace} (h : DataW.trod enc Try.prog w 0 (fun _ => true) held fuel 29 [.slice a len cap] = some x) (hb : Rows.uptoBulk x.1 ≤ 1048576) : ∃ xs, ReadsJ w (.slice a len cap) xs := by
  rcases DataW.trod_slice Try.underlying29 h with ⟨hcs, _⟩ | ⟨ad, l, c, elems, rest, n, hfu, hcs, rfl, _, hl, hm, hel, hi, _⟩
  · simp only [List.cons.injEq, Value.slice.injEq] at hcs
    obtain ⟨⟨rfl, rfl, rfl⟩, _⟩ := hcs
    exact ⟨[], none, 0, 0, rfl, rfl, by decide, fun h => absurd h (Nat.lt_irrefl _)⟩
  · simp only [List.cons.injEq, Value.slice.injEq] at hcs
    obtain ⟨⟨rfl, rfl, rfl⟩, _⟩ := hcs
    have each : ∀ i, i < len → ∃ e : Int, w.cell? (ad.add i) = some (.int .i64 e) := by
      intro i him
      have h1 := hi i him
      rw [cells3, Nat.mul_one] at h1
      rw [List.getElem?_eq_getElem (by omega)] at h1
      obtain ⟨cs', h2, h3⟩ := Option.bind_eq_some_iff.1 h1
      obtain ⟨_, hlen, hcell⟩ := World.cells?_some h2
      match cs', hlen with
      | [v0], _ =>
        obtain ⟨k, q, _⟩ := DataW.trod_int Try.underlying3 h3
        have g0 := hcell 0 (by omega)
        rw [Deep.add_add, Nat.add_zero] at g0
        exact ⟨k, by rw [g0]; simpa using q⟩
    obtain ⟨f, hf⟩ := Deep.choose_lt each
    have hlb : len ≤ 1048576 := by
      have h1 := bulk_len (elems.map (·.1))
      rw [List.length_map] at h1
      simp only [Rows.uptoBulk] at hb
      omega
    refine ⟨(List.range len).map f, some ad, len, cap, rfl, by simp, hlb, fun hp => ?_⟩
    obtain ⟨b, off, spot⟩ := ad
    have h0 := hf 0 hp
    have hs : spot = none := by simpa [Addr.add] using World.cell?_spot h0
    subst hs
    refine ⟨b, off, rfl, fun i hi' => ?_⟩
    have := hf i hi'
    rw [add_none] at this
    rw [this, List.getD_eq_getElem?_getD, List.getElem?_map, List.getElem?_range hi']
    rfl
theorem came_points {a : Option Addr} {len cap fuel : Nat} {x : DataW H × List MemPlace} (h : DataW.trod enc Try.prog w 0 (fun _ => true) held fuel 61 [.slice a len cap] = some x) (hb : Rows.uptoBulk x.1 ≤ 1048576) : ∃ ps, ReadsP w (.slice a len cap) ps := by
  rcases DataW.trod_slice Try.underlying61 h with ⟨hcs, _⟩ | ⟨ad, l, c, elems, rest, n, hfu, hcs, rfl, _, hl, hm, hel, hi, _⟩
  · simp only [List.cons.injEq, Value.slice.injEq] at hcs
    obtain ⟨⟨rfl, rfl, rfl⟩, _⟩ := hcs
    exact ⟨[], none, 0, 0, rfl, rfl, by decide, fun h => absurd h (Nat.lt_irrefl _)⟩
  · simp only [List.cons.injEq, Value.slice.injEq] at hcs
    obtain ⟨⟨rfl, rfl, rfl⟩, _⟩ := hcs
    simp only [Rows.uptoBulk] at hb
    have hlb : len ≤ 1048576 := by
      have h1 := bulk_len (elems.map (·.1))
      rw [List.length_map] at h1
      omega
    have each : ∀ i, i < len → ∃ e : Value × List Int, w.cell? (ad.add i) = some e.1 ∧ ReadsJ w e.1 e.2 := by
      intro i him
      have h1 := hi i him
      rw [cells29, Nat.mul_one] at h1
      rw [List.getElem?_eq_getElem (by omega)] at h1
      obtain ⟨cs', h2, h3⟩ := Option.bind_eq_some_iff.1 h1
      obtain ⟨_, hlen, hcell⟩ := World.cells?_some h2
      match cs', hlen with
      | [v0], _ =>
        obtain ⟨a', l', c', rfl, _⟩ := came_slice Try.underlying29 h3
        have hp : Rows.uptoBulk (elems[i]'(by omega)).1 ≤ Rows.uptoBulkAll (elems.map (·.1)) := bulk_part (i := i) (by rw [List.getElem?_map, List.getElem?_eq_getElem (by omega)]; rfl)
        obtain ⟨xs, hx⟩ := came_ints h3 (by omega)
        have g0 := hcell 0 (by omega)
        rw [Deep.add_add, Nat.add_zero] at g0
        exact ⟨(.slice a' l' c', xs), by rw [g0]; rfl, hx⟩
    have hI : Inhabited (Value × List Int) := ⟨(.bool false, [])⟩
    obtain ⟨f, hf⟩ := Deep.choose_lt each
    refine ⟨(List.range len).map fun i => (f i).2, some ad, len, cap, rfl, by simp, hlb, fun hp => ?_⟩
    obtain ⟨b, off, spot⟩ := ad
    have h0 := (hf 0 hp).1
    have hs : spot = none := by simpa [Addr.add] using World.cell?_spot h0
    subst hs
    refine ⟨b, off, rfl, fun i xs hx => ?_⟩
    have hi' : i < len := by have := (List.getElem?_eq_some_iff.1 hx).1; simpa using this
    rw [List.getElem?_map, List.getElem?_range hi'] at hx
    simp at hx
    subst hx
    have := hf i hi'
    rw [add_none] at this
    exact ⟨_, this.1, this.2⟩
end
end Go.Proofs.Ytjgijbaboekghaa

/-
  r05.Make (function 11): a module, made of numbers.
-/
import Derived.Test.YtjgijbaboekghaaMakeQ
import Derived.Deep.CutRange
import Derived.IntWalk
set_option linter.unusedSimpArgs false
set_option linter.unusedVariables false
namespace Go.Proofs.Ytjgijbaboekghaa
open Go.RowKit
set_option maxRecDepth 100000 in
set_option maxHeartbeats 8000000 in
theorem make_calls (w : World) (g f e : Nat) (aa : Option Addr) (an ac : Nat) (acts : List (Nat × Nat × Nat × Nat)) (bs : List Nat) (hbs : ∀ b ∈ bs, b < w.heap.size) (hg : g < 256) (hf : f < 256) (he : e < 256) (ha : ReadsActs w aa an acts) :
    Calls Try.prog 11 #[.agg #[.int .u8 g, .int .u8 f, .int .u8 e, .slice aa an ac]] w (Canoned w bs (makeM ⟨g, f, e, acts⟩)) := by
  have HA := Lib.hid ha
  have HBS := Lib.hid hbs
  have han := ha.2.1
  obtain ⟨G0, hG0⟩ : ∃ n, n = g % 4 := ⟨_, rfl⟩
  have hG0' : (g : Int) % 4 = G0 := by omega
  have hG4 : G0 < 4 := by omega
  obtain ⟨st, hst⟩ : ∃ n, n = g / 4 % 3 := ⟨_, rfl⟩
  have hst' : (g : Int) / 4 % 3 = st := by omega
  have hst3 : st < 3 := by omega
  have HG0 := Lib.hid hG0
  have HST := Lib.hid hst
  clear ha hbs hG0 hst
  go_enter Try.func11, Try.ntmps11
  go_wp2
  have HX := Lib.hid (show BX w (((w.alloc (.cells #[.int .u8 g, .int .u8 f, .int .u8 e, .slice aa an ac] 25)).alloc (.cells #[.slice none 0 0, .slice none 0 0, .slice none 0 0, .slice none 0 0] 32)).alloc (.cells #[.slice none 0 0, .slice none 0 0, .slice none 0 0, .slice none 0 0] 32)) #[.int .u8 g, .int .u8 f, .int .u8 e, .slice aa an ac] (.slice none 0 0) (.slice none 0 0) (.slice none 0 0) (.slice none 0 0) from
    { below := (((Below.refl _ _).alloc (Nat.le_refl _) _).alloc (by simp) _).alloc (by simp; omega) _
      size := by simp
      box := blk_alloc (blk_alloc (heap_alloc_new _ _) _) _
      res := blk_alloc (by have := heap_alloc_new (w.alloc (.cells #[.int .u8 g, .int .u8 f, .int .u8 e, .slice aa an ac] 25)) (.cells #[.slice none 0 0, .slice none 0 0, .slice none 0 0, .slice none 0 0] 32); rwa [World.size_alloc] at this) _
      m := by have := heap_alloc_new ((w.alloc (.cells #[.int .u8 g, .int .u8 f, .int .u8 e, .slice aa an ac] 25)).alloc (.cells #[.slice none 0 0, .slice none 0 0, .slice none 0 0, .slice none 0 0] 32)) (.cells #[.slice none 0 0, .slice none 0 0, .slice none 0 0, .slice none 0 0] 32); rwa [World.size_alloc, World.size_alloc] at this })
  go_loopw [4, 6] (fun v4 v6 wr => ∃ (i k : Nat) (sA gA : Option Addr) (sc gc : Nat), i ≤ G0 ∧ k ≤ i * 3 ∧ v4 = .int .i64 k ∧ v6 = .int .i64 i ∧ Hid (k = i * (1 + st)) ∧ Hid (BX w wr #[.int .u8 g, .int .u8 f, .int .u8 e, .slice aa an ac] (.slice sA i sc) (.slice gA i gc) (.slice none 0 0) (.slice none 0 0)) ∧ Hid (Owns wr (w.heap.size + 3) [⟨9, 1, .slice sA i sc, i, strs (globStrs g i)⟩, ⟨3, 1, .slice gA i gc, i, ints (natInts i)⟩, ⟨35, 5, .slice none 0 0, 0, []⟩, ⟨3, 1, .slice none 0 0, 0, []⟩])) (fun _ v6 _ => G0 - (intOf v6).toNat)
  case atStart => exact ⟨0, 0, none, none, 0, 0, Nat.zero_le _, Nat.zero_le _, rfl, rfl, (Nat.zero_mul _).symm, HX.out, (((Owns.nil _ _).none_ 3 1).none_ 35 5).none_ 3 1 |>.none_ 9 1⟩
  case round =>
    clear HX
    obtain ⟨i, k, sA, gA, sc, gc, hi, hk, rfl, rfl, HK, HX, HO⟩ := hrel
    obtain ⟨c1, f1, z1⟩ := blk3 HX.out.box
    obtain ⟨c3, f3, z3⟩ := blk3 HX.out.m
    by_cases hlt : i < G0
    · have hw0 : 0 ≤ (i : Int) := Int.natCast_nonneg _
      go_wp2
      refine wp_region_HL (S := (fun w' => ∀ o, w'.cell? ⟨w.heap.size + 1 + 1, o, none⟩ = (#[.slice sA i sc, .slice gA i gc, .slice none 0 0, .slice none 0 0] : Array Value)[o]?)) 7 (by kernel_rfl) (by kernel_rfl) (by kernel_rfl) (by kernel_rfl) (by decide) c3 (fun hHeld => ?_)
      refine HL.take_ (i := 0) (oi := { dst := some 23, op := .fieldAddr 32 (.tmp 3) 0, type := 0, pos := "ref.go:358", after := #[], guard := none }) (v := ?_) rfl (by decide) (by kernel_rfl) (by kernel_rfl) (fun _ _ _ h => h) (Or.inl ⟨by rfl, ?_⟩) (by assumption) ?_
      rotate_left
      · intro w hSw
        (try dsimp only at hSw)
        have h1 := hSw; (go_simp; try (with_reducible rfl))
      try simp only [Act.put, List.setIfInBounds_toArray, List.set_cons_zero, List.set_cons_succ]
      refine HL.take_ (i := 1) (oi := { dst := some 24, op := .load 28 (.tmp 23), type := 28, pos := "ref.go:358", after := #[{ on := 0, ground := .data }], guard := none }) (v := ?_) rfl (by decide) (by kernel_rfl) (by kernel_rfl) (fun _ _ _ h => h) (Or.inl ⟨by rfl, ?_⟩) (by assumption) ?_
      rotate_left
      · intro w hSw
        (try dsimp only at hSw)
        have h1 := hSw; (go_simp; try (with_reducible rfl))
      try simp only [Act.put, List.setIfInBounds_toArray, List.set_cons_zero, List.set_cons_succ]
      refine HL.take_ (i := 2) (oi := { dst := some 25, op := .move (.tmp 4), type := 3, pos := "ref.go:358", after := #[], guard := none }) (v := ?_) rfl (by decide) (by kernel_rfl) (by kernel_rfl) (fun _ _ _ h => h) (Or.inl ⟨by rfl, ?_⟩) (by assumption) ?_
      rotate_left
      · intro w hSw
        (try dsimp only at hSw)
        have h1 := hSw; (go_simp; try (with_reducible rfl))
      try simp only [Act.put, List.setIfInBounds_toArray, List.set_cons_zero, List.set_cons_succ]
      refine HL.step_ (i := 3) (o := { dst := some 26, op := .call { callee := .value (.func 27), args := #[.tmp 25], argTypes := #[3] }, type := 9, pos := "ref.go:358", after := #[{ on := 2, ground := .data }], guard := none }) rfl (by decide) (by kernel_rfl) (fun K hK => ?_)
      go_simp
      refine (name_calls wr.drew k (by omega)).mono ?_
      rintro e w3 ⟨rfl, hb3⟩
      have hb4 : Below wr.heap.size wr w3 := ⟨hb3.os, hb3.tape, hb3.output, hb3.size, hb3.block⟩
      have HX3 := Lib.hid (HX.out.next hb4)
      have HO3 := Lib.hid (HO.out.below hb4)
      have hz3 : wr.heap.size ≤ w3.heap.size := hb4.size
      clear hb3 hb4 c1 f1 z1 c3 f3 z3
      refine hK.out _ _ (blk3 HX3.out.m).1 (fun hHeld => ?_)
      clear hK K
      try simp only [Act.put, List.setIfInBounds_toArray, List.set_cons_zero, List.set_cons_succ]
      refine HL.step_ (i := 4) (o := { dst := some 27, op := .buildSlice 28 1 #[(0, .tmp 26)], type := 28, pos := "ref.go:358", after := #[{ on := 3, ground := .data }], guard := none }) rfl (by decide) (by kernel_rfl) (fun K hK => ?_)
      go_simp
      refine hK.out _ _ (blk3 (HX3.out.alloc _).m).1 (fun hHeld => ?_)
      clear hK K
      try simp only [Act.put, List.setIfInBounds_toArray, List.set_cons_zero, List.set_cons_succ]
      refine HL.step_ (i := 5) (o := { dst := some 28, op := .call { callee := .builtin .append, args := #[.tmp 24, .tmp 27], argTypes := #[28, 28] }, type := 28, pos := "ref.go:358", after := #[{ on := 1, ground := .data }, { on := 4, ground := .data }, { on := 3, ground := .chain }], guard := none }) rfl (by decide) (by kernel_rfl) (fun K hK => ?_)
      rw [if_pos (by rfl)]
      refine append_at (B := w.heap.size + 3) (W := w3.alloc (.cells #[.string (nameS k)] 9)) 0 [⟨9, 1, .slice sA i sc, i, strs (globStrs g i)⟩, ⟨3, 1, .slice gA i gc, i, ints (natInts i)⟩, ⟨35, 5, .slice none 0 0, 0, []⟩, ⟨3, 1, .slice none 0 0, 0, []⟩] _ _ 28 9 (.string ⟨#[]⟩) 1 16 rfl Try.underlying28 info9 rfl (by decide) (.slice sA i sc) i _ rfl (HO3.out.below ((Below.refl _ _).alloc (Nat.le_refl _) _)) rfl ⟨w3.heap.size, 0, none⟩ 1 1 [.string (nameS k)] rfl rfl (new_cells _ _ _ _) (one_cell _ rfl) (by have := HX3.out.size; simp; omega) (by omega) (by omega) ?_
      intro sA1 sc1 w4 hg
      have HX4 := Lib.hid ((HX3.out.alloc _).keep hg.below)
      have HO4 := Lib.hid hg.owns
      clear hg
      refine hK.out _ _ (blk3 HX4.out.m).1 (fun hHeld => ?_)
      clear hK K
      try simp only [Act.put, List.setIfInBounds_toArray, List.set_cons_zero, List.set_cons_succ]
      refine HL.take_ (i := 6) (oi := { dst := some 29, op := .fieldAddr 32 (.tmp 3) 0, type := 0, pos := "ref.go:358", after := #[{ on := 0, ground := .phase }, { on := 1, ground := .phase }, { on := 2, ground := .phase }, { on := 3, ground := .phase }, { on := 4, ground := .phase }, { on := 5, ground := .phase }], guard := none }) (v := ?_) rfl (by decide) (by kernel_rfl) (by kernel_rfl) (fun _ _ _ h => h) (Or.inl ⟨by rfl, ?_⟩) (by assumption) ?_
      rotate_left
      · intro w hSw
        (try dsimp only at hSw)
        have h1 := hSw; (go_simp; try (with_reducible rfl))
      try simp only [Act.put, List.setIfInBounds_toArray, List.set_cons_zero, List.set_cons_succ]
      refine HL.done_ (by kernel_rfl) ?_
      simp only [List.drop_succ_cons, List.drop_zero]
      clear hHeld
      obtain ⟨c3, f3, z3⟩ := blk3 HX4.out.m
      have HX5 := Lib.hid (HX4.out.set0 (.slice sA1 (i + 1) sc1))
      have HO5 := Lib.hid (HO4.out.far_store (p := ⟨w.heap.size + 1 + 1, 0, none⟩) (by show w.heap.size + 1 + 1 < w.heap.size + 3; omega) (.slice sA1 (i + 1) sc1))
      go_upto_region 8 with (fail)
      obtain ⟨W5, hW5⟩ : ∃ W5, W5 = w4.setCell ⟨w.heap.size + 1 + 1, 0, none⟩ (.slice sA1 (i + 1) sc1) := ⟨_, rfl⟩
      rw [← hW5] at HX5 HO5 ⊢
      clear hW5 c3 f3 z3 HX4 HO4 HX3 HO3 hz3
      obtain ⟨c3, f3, z3⟩ := blk3 HX5.out.m
      obtain ⟨c1, f1, z1⟩ := blk3 HX5.out.box
      go_wp2_with (at_builtin; refine append_at_list (B := w.heap.size + 3) (W := W5.alloc (.cells #[.int .i64 (i : Nat)] 3)) rfl 1 _ _ _ 29 3 (.int .i64 0) 1 8 rfl Try.underlying29 info3 rfl (by decide) (.slice gA i gc) i _ rfl (HO5.out.below ((Below.refl _ _).alloc (Nat.le_refl _) _)) rfl ⟨W5.heap.size, 0, none⟩ 1 1 [.int .i64 (i : Nat)] rfl rfl (new_cells _ _ _ _) (one_cell _ rfl) (by have := HX5.out.size; simp; omega) (by omega) (by omega) ?_; intro gA1 gc1 w6 hg; have HX6 := Lib.hid ((HX5.out.alloc _).keep hg.below); have HO6 := Lib.hid hg.owns; obtain ⟨d1, e1, y1⟩ := blk3 HX6.out.box; obtain ⟨d3, e3, y3⟩ := blk3 HX6.out.m; clear hg c1 f1 z1 c3 f3 z3)
      refine ⟨⟨i + 1, k + (1 + st), sA1, gA1, sc1, gc1, by omega, by omega, by go_num, by go_num, ?_, HX6.out.set1 _, ?_⟩, by simp [intOf]; omega⟩
      · show _ = _
        rw [HK.out, Nat.add_mul, Nat.one_mul]
      · have h1 := HO6.out.far_store (p := ⟨w.heap.size + 1 + 1, 1, none⟩) (by show w.heap.size + 1 + 1 < w.heap.size + 3; omega) (.slice gA1 (i + 1) gc1)
        show Owns _ _ _
        rw [globStrs_succ, strs_snoc, natInts_succ, ints_snoc, ← HST.out, ← HK.out]
        exact h1
    · obtain rfl : G0 = i := by omega
      obtain ⟨n, hn⟩ : ∃ n, n = nD f := ⟨_, rfl⟩
      have hn' : 1 + (f : Int) % 4 = n := by unfold nD at hn; omega
      have hn4 : n ≤ 4 := by unfold nD at hn; omega
      have hn0 : 0 < n := by unfold nD at hn; omega
      have HN := Lib.hid hn
      clear hn
      go_wp2
      try rw [hn']
      clear c1 f1 z1 c3 f3 z3 hn' hG0' hst'
      go_loopw [5, 8] (fun v5 v8 wr => ∃ (i sn : Nat) (sA fA : Option Addr) (sc fc : Nat) (fxs : List Value), i ≤ n ∧ sn ≤ 3 + i * 10 ∧ v5 = .int .i64 i ∧ v8 = .int .i64 i ∧ Hid (sn = (mk2 g f i).1.length) ∧ Hid (BX w wr #[.int .u8 g, .int .u8 f, .int .u8 e, .slice aa an ac] (.slice sA sn sc) (.slice gA G0 gc) (.slice fA i fc) (.slice none 0 0)) ∧ Hid (Owns wr (w.heap.size + 3) [⟨9, 1, .slice sA sn sc, sn, strs (mk2 g f i).1⟩, ⟨3, 1, .slice gA G0 gc, G0, ints (natInts G0)⟩, ⟨35, 5, .slice fA i fc, i, fxs⟩, ⟨3, 1, .slice none 0 0, 0, []⟩]) ∧ Hid (FnsAt (sans wr (rblk [⟨9, 1, .slice sA sn sc, sn, strs (mk2 g f i).1⟩, ⟨3, 1, .slice gA G0 gc, G0, ints (natInts G0)⟩, ⟨35, 5, .slice fA i fc, i, fxs⟩, ⟨3, 1, .slice none 0 0, 0, []⟩] ++ bsM w.heap.size bs)) fxs (mk2 g f i).2) ∧ Hid (NilB fxs)) (fun _ v8 _ => n - (intOf v8).toNat)
      case atStart => exact ⟨0, G0, sA, none, sc, 0, [], Nat.zero_le _, by omega, rfl, rfl, by show _ = (globStrs _ _).length; unfold globStrs; rw [List.length_map, List.length_range]; exact HG0.out, HX.out, by show Owns _ _ _; rw [mk2, ← HG0.out]; exact HO.out, rfl, ⟨[], rfl, fun vs h => by cases h⟩⟩
      case round =>
        clear HX HO HK
        obtain ⟨i, sn, sA, fA, sc, fc, fxs, hi, hsn, rfl, rfl, HSN, HX, HO, HF, HNB⟩ := hrel
        obtain ⟨c1, f1, z1⟩ := blk3 HX.out.box
        obtain ⟨c3, f3, z3⟩ := blk3 HX.out.m
        by_cases hlt : i < n
        · obtain ⟨par, hpar⟩ : ∃ n, n = parD f i := ⟨_, rfl⟩
          have hpar' : ((i : Int) + (f : Int) / 4) % 4 = par := by unfold parD at hpar; omega
          have hp4 : par < 4 := by rw [hpar]; exact par_lt _ _
          obtain ⟨NL, hNL⟩ : ∃ n, n = nlD f i := ⟨_, rfl⟩
          have hNL' : (par : Int) + 1 + (i : Int) % 3 = NL := by unfold nlD at hNL; omega
          have hNL7 : NL < 7 := by rw [hNL]; exact nl_lt _ _
          obtain ⟨NS, hNS⟩ : ∃ n, n = nsD i := ⟨_, rfl⟩
          have hNS' : 1 + (i : Int) % 2 = NS := by unfold nsD at hNS; omega
          have hNS3 : NS < 3 := by rw [hNS]; exact ns_lt _
          have HPAR := Lib.hid hpar
          have HNL := Lib.hid hNL
          have HNS := Lib.hid hNS
          have hcv := conv_new wr [48 + (i : Int)] 1 rfl #[.int .u8 (48 + (i : Int))] rfl
          have hsz := strOfNums_size [48 + (i : Int)]
          have hsz2 := fstr_size i
          clear hpar hNL hNS
          go_wp2_with (at_builtin; refine append_at_list (B := w.heap.size + 3) (W := (wr.alloc (.cells #[.int .u8 (48 + (i : Int))] 5)).alloc (.cells #[.string ((⟨#[102]⟩ : ByteArray) ++ strOfNums [48 + (i : Int)])] 9)) rfl 0 _ _ _ 28 9 (.string ⟨#[]⟩) 1 16 rfl Try.underlying28 info9 rfl (by decide) (.slice sA sn sc) sn _ rfl ((HO.out.below ((Below.refl _ _).alloc (Nat.le_refl _) _)).below ((Below.refl _ _).alloc (Nat.le_refl _) _)) rfl ⟨wr.heap.size + 1, 0, none⟩ 1 1 [.string ((⟨#[102]⟩ : ByteArray) ++ strOfNums [48 + (i : Int)])] rfl rfl (new_cells1 _ _ _ _ _) (one_cell _ rfl) (by have := HX.out.size; simp; omega) (by omega) (by omega) ?_; intro sA1 sc1 w4 hg; have HX4 := Lib.hid (((HX.out.alloc _).alloc _).keep hg.below); have HO4 := Lib.hid hg.owns; have HF4 := Lib.hid (((HF.out.sub (sub_sans_below ((Below.refl _ _).alloc (Nat.le_refl _) _))).sub (sub_sans_below ((Below.refl _ _).alloc (Nat.le_refl _) _))).sub (hg.sub _)); obtain ⟨d1, e1, y1⟩ := blk3 HX4.out.box; obtain ⟨d3, e3, y3⟩ := blk3 HX4.out.m; clear hg c1 f1 z1 c3 f3 z3 hcv)
          have HX5 := Lib.hid (HX4.out.set0 (.slice sA1 (sn + 1) sc1))
          have HO5 := Lib.hid (HO4.out.far_store (p := ⟨w.heap.size + 1 + 1, 0, none⟩) (by show w.heap.size + 1 + 1 < w.heap.size + 3; omega) (.slice sA1 (sn + 1) sc1))
          have HF5 := Lib.hid (HF4.out.sub (sub_store (p := ⟨w.heap.size + 1 + 1, 0, none⟩) (u := .slice sA1 (sn + 1) sc1) (List.mem_append_right _ (bsM_m _ _))))
          have hgf3 : w.heap.size + 3 ≤ w4.heap.size := HX4.out.size
          obtain ⟨gf, hgf⟩ : ∃ gf, gf = w4.heap.size := ⟨_, rfl⟩
          obtain ⟨W5, hW5⟩ : ∃ W5, W5 = w4.setCell ⟨w.heap.size + 1 + 1, 0, none⟩ (.slice sA1 (sn + 1) sc1) := ⟨_, rfl⟩
          have hgf5 : W5.heap.size = gf := by rw [hW5, World.size_setCell, hgf]
          rw [← hgf] at hgf3
          rw [← hW5] at HX5 HO5 HF5
          rw [← hW5, ← hgf]
          have HX6 := Lib.hid (HX5.out.alloc (.cells #[.int .i64 (sn : Nat), .int .i64 (par : Nat), .slice none 0 0, .slice none 0 0, .slice none 0 0] 35))
          have ho6 := ((HO5.out.new (w' := W5.alloc (.cells #[.int .i64 (sn : Nat), .int .i64 (par : Nat), .slice none 0 0, .slice none 0 0, .slice none 0 0] 35)) (r := ⟨35, 5, .slice (some ⟨W5.heap.size, 0, none⟩) 1 1, 1, [.int .i64 (sn : Nat), .int .i64 (par : Nat), .slice none 0 0, .slice none 0 0, .slice none 0 0]⟩) ((Below.refl _ _).alloc (Nat.le_refl _) _) (own_one W5 35 5 _ rfl) (by omega)).none_ 3 1).none_ 3 1
          have hf6 := HF5.out.sub (sub_alloc_rows (W := W5) (o := .cells #[.int .i64 (sn : Nat), .int .i64 (par : Nat), .slice none 0 0, .slice none 0 0, .slice none 0 0] 35) (rs' := ⟨3, 1, .slice none 0 0, 0, []⟩ :: ⟨3, 1, .slice none 0 0, 0, []⟩ :: ⟨35, 5, .slice (some ⟨W5.heap.size, 0, none⟩) 1 1, 1, [.int .i64 (sn : Nat), .int .i64 (par : Nat), .slice none 0 0, .slice none 0 0, .slice none 0 0]⟩ :: _) (fun k hk => by
            obtain ⟨x, hx, e⟩ := mem_rblk.1 hk
            rcases List.mem_cons.1 hx with rfl | hx
            · cases e
            rcases List.mem_cons.1 hx with rfl | hx
            · cases e
            rcases List.mem_cons.1 hx with rfl | hx
            · injection e with e
              exact .inr (Nat.le_of_eq e)
            · exact .inl (mem_rblk.2 ⟨x, hx, e⟩)))
          rw [hgf5] at ho6 hf6
          have HO6 := Lib.hid ho6
          have HF6 := Lib.hid hf6
          have HPN := Lib.hid hNL'
          have HPS := Lib.hid hNS'
          clear ho6 hf6 HX5 HO5 HF5 HX4 HO4 HF4 hpar' hNL' hNS' hW5 hgf d1 e1 y1 d3 e3 y3 hsz hsz2
          obtain ⟨W6, hW6⟩ : ∃ W6, W6 = W5.alloc (.cells #[.int .i64 (sn : Nat), .int .i64 (par : Nat), .slice none 0 0, .slice none 0 0, .slice none 0 0] 35) := ⟨_, rfl⟩
          rw [← hW6] at HX6 HO6 HF6 ⊢
          clear hW6 hgf5
          clear HX HO HF
          go_loopw [10] (fun v10 wr => ∃ (j q : Nat) (sA lA : Option Addr) (sc lc : Nat), j ≤ NL ∧ q ≤ 60 ∧ v10 = .int .i64 j ∧ Hid (q = sn + 1 + j) ∧ Hid (BX w wr #[.int .u8 g, .int .u8 f, .int .u8 e, .slice aa an ac] (.slice sA q sc) (.slice gA G0 gc) (.slice fA i fc) (.slice none 0 0)) ∧ Hid (Owns wr (w.heap.size + 3) [⟨3, 1, .slice lA j lc, j, ints (numL sn j)⟩, ⟨3, 1, .slice none 0 0, 0, []⟩, ⟨35, 5, .slice (some ⟨gf, 0, none⟩) 1 1, 1, [.int .i64 (sn : Nat), .int .i64 (par : Nat), .slice lA j lc, .slice none 0 0, .slice none 0 0]⟩, ⟨9, 1, .slice sA q sc, q, strs (strsL (mk2 g f i).1 i j)⟩, ⟨3, 1, .slice gA G0 gc, G0, ints (natInts G0)⟩, ⟨35, 5, .slice fA i fc, i, fxs⟩, ⟨3, 1, .slice none 0 0, 0, []⟩]) ∧ Hid (FnsAt (sans wr (rblk [⟨3, 1, .slice lA j lc, j, ints (numL sn j)⟩, ⟨3, 1, .slice none 0 0, 0, []⟩, ⟨35, 5, .slice (some ⟨gf, 0, none⟩) 1 1, 1, [.int .i64 (sn : Nat), .int .i64 (par : Nat), .slice lA j lc, .slice none 0 0, .slice none 0 0]⟩, ⟨9, 1, .slice sA q sc, q, strs (strsL (mk2 g f i).1 i j)⟩, ⟨3, 1, .slice gA G0 gc, G0, ints (natInts G0)⟩, ⟨35, 5, .slice fA i fc, i, fxs⟩, ⟨3, 1, .slice none 0 0, 0, []⟩] ++ bsM w.heap.size bs)) fxs (mk2 g f i).2)) (fun v10 _ => NL - (intOf v10).toNat)
          case atStart => exact ⟨0, sn + 1, sA1, none, sc1, 0, Nat.zero_le _, by omega, rfl, rfl, HX6.out, strsL_start _ _ _ _ _ HO6.out, HF6.out⟩
          case round =>
            clear HX6 HO6 HF6
            obtain ⟨j, q, sA, lA, sc, lc, hj, hq, rfl, HQ, HX, HO, HF⟩ := hrel
            obtain ⟨c1, f1, z1⟩ := blk3 HX.out.box
            obtain ⟨c3, f3, z3⟩ := blk3 HX.out.m
            obtain ⟨c9, f9, z9⟩ := blk3 (own_block #[.int .i64 (sn : Nat), .int .i64 (par : Nat), .slice lA j lc, .slice none 0 0, .slice none 0 0] (HO.out.at (i := 2) rfl) rfl)
            by_cases hlt3 : j < NL
            · have hlt3' : (j : Int) < (par : Int) + 1 + (i : Int) % 3 := by have := HPN.out; omega
              have hw0 : 0 ≤ (j : Int) := Int.natCast_nonneg _
              go_wp2
              refine wp_region_HL (S := (fun w' => ∀ o, w'.cell? ⟨w.heap.size + 1 + 1, o, none⟩ = (#[.slice sA q sc, .slice gA G0 gc, .slice fA i fc, .slice none 0 0] : Array Value)[o]?)) 8 (by kernel_rfl) (by kernel_rfl) (by kernel_rfl) (by kernel_rfl) (by decide) c3 (fun hHeld => ?_)
              refine HL.take_ (i := 0) (oi := { dst := some 90, op := .fieldAddr 32 (.tmp 3) 0, type := 0, pos := "ref.go:367", after := #[], guard := none }) (v := ?_) rfl (by decide) (by kernel_rfl) (by kernel_rfl) (fun _ _ _ h => h) (Or.inl ⟨by rfl, ?_⟩) (by assumption) ?_
              rotate_left
              · intro w hSw
                (try dsimp only at hSw)
                have h1 := hSw; (go_simp; try (with_reducible rfl))
              try simp only [Act.put, List.setIfInBounds_toArray, List.set_cons_zero, List.set_cons_succ]
              refine HL.take_ (i := 1) (oi := { dst := some 91, op := .load 28 (.tmp 90), type := 28, pos := "ref.go:367", after := #[{ on := 0, ground := .data }], guard := none }) (v := ?_) rfl (by decide) (by kernel_rfl) (by kernel_rfl) (fun _ _ _ h => h) (Or.inl ⟨by rfl, ?_⟩) (by assumption) ?_
              rotate_left
              · intro w hSw
                (try dsimp only at hSw)
                have h1 := hSw; (go_simp; try (with_reducible rfl))
              try simp only [Act.put, List.setIfInBounds_toArray, List.set_cons_zero, List.set_cons_succ]
              refine HL.take_ (i := 2) (oi := { dst := some 92, op := .move (.tmp 10), type := 3, pos := "ref.go:367", after := #[], guard := none }) (v := ?_) rfl (by decide) (by kernel_rfl) (by kernel_rfl) (fun _ _ _ h => h) (Or.inl ⟨by rfl, ?_⟩) (by assumption) ?_
              rotate_left
              · intro w hSw
                (try dsimp only at hSw)
                have h1 := hSw; (go_simp; try (with_reducible rfl))
              try simp only [Act.put, List.setIfInBounds_toArray, List.set_cons_zero, List.set_cons_succ]
              refine HL.take_ (i := 3) (oi := { dst := some 93, op := .binOp .add 3 (.const (.int .i64 100)) (.tmp 92) 3, type := 3, pos := "ref.go:367", after := #[{ on := 2, ground := .data }], guard := none }) (v := ?_) rfl (by decide) (by kernel_rfl) (by kernel_rfl) (fun _ _ _ h => h) (Or.inl ⟨by rfl, ?_⟩) (by assumption) ?_
              rotate_left
              · intro w hSw
                (try dsimp only at hSw)
                have h1 := hSw; (go_simp; try (with_reducible rfl))
              try simp only [Act.put, List.setIfInBounds_toArray, List.set_cons_zero, List.set_cons_succ]
              refine HL.step_ (i := 4) (o := { dst := some 94, op := .call { callee := .value (.func 27), args := #[.tmp 93], argTypes := #[3] }, type := 9, pos := "ref.go:367", after := #[{ on := 3, ground := .data }], guard := none }) rfl (by decide) (by kernel_rfl) (fun K hK => ?_)
              go_simp
              rw [show IntKind.i64.wrap (100 + (j : Int)) = ((100 + j : Nat) : Int) from by rw [IntWalk.i64_in _ (by omega)]; omega]
              refine (name_calls wr.drew (100 + j) (by omega)).mono ?_
              rintro e w3 ⟨rfl, hb3⟩
              have hb4 : Below wr.heap.size wr w3 := ⟨hb3.os, hb3.tape, hb3.output, hb3.size, hb3.block⟩
              have HX3 := Lib.hid (HX.out.next hb4)
              have HO3 := Lib.hid (HO.out.below hb4)
              have HF3 := Lib.hid (HF.out.sub (sub_sans_below hb4))
              have hz3 : wr.heap.size ≤ w3.heap.size := hb4.size
              clear hb3 hb4 c1 f1 z1 c3 f3 z3 c9 f9 z9
              refine hK.out _ _ (blk3 HX3.out.m).1 (fun hHeld => ?_)
              clear hK K
              try simp only [Act.put, List.setIfInBounds_toArray, List.set_cons_zero, List.set_cons_succ]
              refine HL.step_ (i := 5) (o := { dst := some 95, op := .buildSlice 28 1 #[(0, .tmp 94)], type := 28, pos := "ref.go:367", after := #[{ on := 4, ground := .data }], guard := none }) rfl (by decide) (by kernel_rfl) (fun K hK => ?_)
              go_simp
              refine hK.out _ _ (blk3 (HX3.out.alloc _).m).1 (fun hHeld => ?_)
              clear hK K
              try simp only [Act.put, List.setIfInBounds_toArray, List.set_cons_zero, List.set_cons_succ]
              refine HL.step_ (i := 6) (o := { dst := some 96, op := .call { callee := .builtin .append, args := #[.tmp 91, .tmp 95], argTypes := #[28, 28] }, type := 28, pos := "ref.go:367", after := #[{ on := 1, ground := .data }, { on := 5, ground := .data }, { on := 4, ground := .chain }], guard := none }) rfl (by decide) (by kernel_rfl) (fun K hK => ?_)
              rw [if_pos (by rfl)]
              refine append_at (B := w.heap.size + 3) (W := w3.alloc (.cells #[.string (nameS (100 + j))] 9)) 3 [⟨3, 1, .slice lA j lc, j, ints (numL sn j)⟩, ⟨3, 1, .slice none 0 0, 0, []⟩, ⟨35, 5, .slice (some ⟨gf, 0, none⟩) 1 1, 1, [.int .i64 (sn : Nat), .int .i64 (par : Nat), .slice lA j lc, .slice none 0 0, .slice none 0 0]⟩, ⟨9, 1, .slice sA q sc, q, strs (strsL (mk2 g f i).1 i j)⟩, ⟨3, 1, .slice gA G0 gc, G0, ints (natInts G0)⟩, ⟨35, 5, .slice fA i fc, i, fxs⟩, ⟨3, 1, .slice none 0 0, 0, []⟩] _ _ 28 9 (.string ⟨#[]⟩) 1 16 rfl Try.underlying28 info9 rfl (by decide) (.slice sA q sc) q _ rfl (HO3.out.below ((Below.refl _ _).alloc (Nat.le_refl _) _)) rfl ⟨w3.heap.size, 0, none⟩ 1 1 [.string (nameS (100 + j))] rfl rfl (new_cells _ _ _ _) (one_cell _ rfl) (by have := HX3.out.size; simp; omega) (by omega) (by omega) ?_
              intro sA1 sc1 w4 hg
              have HX4 := Lib.hid ((HX3.out.alloc _).keep hg.below)
              have HO4 := Lib.hid hg.owns
              have HF4 := Lib.hid ((HF3.out.sub (sub_sans_below ((Below.refl _ _).alloc (Nat.le_refl _) _))).sub (hg.sub _))
              clear hg
              refine hK.out _ _ (blk3 HX4.out.m).1 (fun hHeld => ?_)
              clear hK K
              try simp only [Act.put, List.setIfInBounds_toArray, List.set_cons_zero, List.set_cons_succ]
              refine HL.take_ (i := 7) (oi := { dst := some 97, op := .fieldAddr 32 (.tmp 3) 0, type := 0, pos := "ref.go:367", after := #[{ on := 0, ground := .phase }, { on := 1, ground := .phase }, { on := 2, ground := .phase }, { on := 3, ground := .phase }, { on := 4, ground := .phase }, { on := 5, ground := .phase }, { on := 6, ground := .phase }], guard := none }) (v := ?_) rfl (by decide) (by kernel_rfl) (by kernel_rfl) (fun _ _ _ h => h) (Or.inl ⟨by rfl, ?_⟩) (by assumption) ?_
              rotate_left
              · intro w hSw
                (try dsimp only at hSw)
                have h1 := hSw; (go_simp; try (with_reducible rfl))
              try simp only [Act.put, List.setIfInBounds_toArray, List.set_cons_zero, List.set_cons_succ]
              refine HL.done_ (by kernel_rfl) ?_
              simp only [List.drop_succ_cons, List.drop_zero]
              clear hHeld
              obtain ⟨c3, f3, z3⟩ := blk3 HX4.out.m
              have HX5 := Lib.hid (HX4.out.set0 (.slice sA1 (q + 1) sc1))
              have HO5 := Lib.hid (HO4.out.far_store (p := ⟨w.heap.size + 1 + 1, 0, none⟩) (by show w.heap.size + 1 + 1 < w.heap.size + 3; omega) (.slice sA1 (q + 1) sc1))
              have HF5 := Lib.hid (HF4.out.sub (sub_store (p := ⟨w.heap.size + 1 + 1, 0, none⟩) (u := .slice sA1 (q + 1) sc1) (List.mem_append_right _ (bsM_m _ _))))
              go_upto_region 20 with (fail)
              obtain ⟨W5, hW5⟩ : ∃ W5, W5 = w4.setCell ⟨w.heap.size + 1 + 1, 0, none⟩ (.slice sA1 (q + 1) sc1) := ⟨_, rfl⟩
              rw [← hW5] at HX5 HO5 HF5 ⊢
              clear hW5 c3 f3 z3 HX4 HO4 HF4 HX3 HO3 HF3 hz3
              obtain ⟨c3, f3, z3⟩ := blk3 HX5.out.m
              obtain ⟨c1, f1, z1⟩ := blk3 HX5.out.box
              obtain ⟨c9, f9, z9⟩ := blk3 (own_block #[.int .i64 (sn : Nat), .int .i64 (par : Nat), .slice lA j lc, .slice none 0 0, .slice none 0 0] (HO5.out.at (i := 2) rfl) rfl)
              go_wp2_with (at_builtin; refine append_at_list (B := w.heap.size + 3) (W := W5.alloc (.cells #[.int .i64 (q : Nat)] 3)) rfl 0 _ _ _ 29 3 (.int .i64 0) 1 8 rfl Try.underlying29 info3 rfl (by decide) (.slice lA j lc) j _ rfl (HO5.out.below ((Below.refl _ _).alloc (Nat.le_refl _) _)) rfl ⟨W5.heap.size, 0, none⟩ 1 1 [.int .i64 (q : Nat)] rfl rfl (new_cells _ _ _ _) (one_cell _ rfl) (by have := HX5.out.size; simp; omega) (by omega) (by omega) ?_; intro lA1 lc1 w6 hg; have HX6 := Lib.hid ((HX5.out.alloc _).keep hg.below); have HO6 := Lib.hid hg.owns; have HF6 := Lib.hid ((HF5.out.sub (sub_sans_below ((Below.refl _ _).alloc (Nat.le_refl _) _))).sub (hg.sub _)); obtain ⟨d1, e1, y1⟩ := blk3 HX6.out.box; obtain ⟨d3, e3, y3⟩ := blk3 HX6.out.m; obtain ⟨d9, e9, y9⟩ := blk3 (own_block #[.int .i64 (sn : Nat), .int .i64 (par : Nat), .slice lA j lc, .slice none 0 0, .slice none 0 0] (hg.owns.at (i := 2) rfl) rfl); clear hg c1 f1 z1 c3 f3 z3 c9 f9 z9)
              refine ⟨⟨j + 1, q + 1, sA1, lA1, sc1, lc1, by omega, by have := HQ.out; omega, by go_num, by show _ = _; rw [HQ.out]; omega, HX6.out.far (p := ⟨gf, 2, none⟩) (by show w.heap.size + 3 ≤ gf; omega) _, ?_, ?_⟩, by simp [intOf]; omega⟩
              · have h1 := HO6.out.set_store (i := 2) rfl (g := gf) rfl 2 (.slice lA1 (j + 1) lc1)
                show Owns _ _ _
                rw [strsL_succ, strs_snoc, numL_succ, ints_snoc, ← HQ.out]
                exact h1
              · have h1 := HF6.out.sub (sub_store_at (i := 2) (g := gf) (j := 2) (u := .slice lA1 (j + 1) lc1) (r := ⟨35, 5, .slice (some ⟨gf, 0, none⟩) 1 1, 1, [.int .i64 (sn : Nat), .int .i64 (par : Nat), .slice lA j lc, .slice none 0 0, .slice none 0 0]⟩) (r' := ⟨35, 5, .slice (some ⟨gf, 0, none⟩) 1 1, 1, [.int .i64 (sn : Nat), .int .i64 (par : Nat), .slice lA1 (j + 1) lc1, .slice none 0 0, .slice none 0 0]⟩) rfl rfl rfl)
                show FnsAt _ _ _
                rw [strsL_succ, strs_snoc, numL_succ, ints_snoc, ← HQ.out]
                exact h1
            · obtain rfl : NL = j := by omega
              have hlt3' : ¬ (NL : Int) < (par : Int) + 1 + (i : Int) % 3 := by have := HPN.out; omega
              go_wp2
              clear c1 f1 z1 c9 f9 z9 c3 f3 z3
              go_loopw [11] (fun v11 wr => ∃ (j q : Nat) (sA tA : Option Addr) (sc tc : Nat), j ≤ NS ∧ q ≤ 60 ∧ v11 = .int .i64 j ∧ Hid (q = sn + 1 + NL + j) ∧ Hid (BX w wr #[.int .u8 g, .int .u8 f, .int .u8 e, .slice aa an ac] (.slice sA q sc) (.slice gA G0 gc) (.slice fA i fc) (.slice none 0 0)) ∧ Hid (Owns wr (w.heap.size + 3) [⟨3, 1, .slice lA NL lc, NL, ints (numL sn NL)⟩, ⟨3, 1, .slice tA j tc, j, ints (numS sn NL j)⟩, ⟨35, 5, .slice (some ⟨gf, 0, none⟩) 1 1, 1, [.int .i64 (sn : Nat), .int .i64 (par : Nat), .slice lA NL lc, .slice tA j tc, .slice none 0 0]⟩, ⟨9, 1, .slice sA q sc, q, strs (strsS (mk2 g f i).1 f i j)⟩, ⟨3, 1, .slice gA G0 gc, G0, ints (natInts G0)⟩, ⟨35, 5, .slice fA i fc, i, fxs⟩, ⟨3, 1, .slice none 0 0, 0, []⟩]) ∧ Hid (FnsAt (sans wr (rblk [⟨3, 1, .slice lA NL lc, NL, ints (numL sn NL)⟩, ⟨3, 1, .slice tA j tc, j, ints (numS sn NL j)⟩, ⟨35, 5, .slice (some ⟨gf, 0, none⟩) 1 1, 1, [.int .i64 (sn : Nat), .int .i64 (par : Nat), .slice lA NL lc, .slice tA j tc, .slice none 0 0]⟩, ⟨9, 1, .slice sA q sc, q, strs (strsS (mk2 g f i).1 f i j)⟩, ⟨3, 1, .slice gA G0 gc, G0, ints (natInts G0)⟩, ⟨35, 5, .slice fA i fc, i, fxs⟩, ⟨3, 1, .slice none 0 0, 0, []⟩] ++ bsM w.heap.size bs)) fxs (mk2 g f i).2)) (fun v11 _ => NS - (intOf v11).toNat)
              case atStart => exact ⟨0, q, sA, none, sc, 0, Nat.zero_le _, hq, rfl, HQ.out, HX.out, strsS_start HNL.out HO.out, strsS_fns HNL.out HF.out⟩
              case round =>
                clear HX HO HF HQ
                obtain ⟨j, q, sA, tA, sc, tc, hj, hq, rfl, HQ, HX, HO, HF⟩ := hrel
                obtain ⟨c1, f1, z1⟩ := blk3 HX.out.box
                obtain ⟨c3, f3, z3⟩ := blk3 HX.out.m
                obtain ⟨c9, f9, z9⟩ := blk3 (own_block #[.int .i64 (sn : Nat), .int .i64 (par : Nat), .slice lA NL lc, .slice tA j tc, .slice none 0 0] (HO.out.at (i := 2) rfl) rfl)
                by_cases hlt4 : j < NS
                · have hlt4' : (j : Int) < 1 + (i : Int) % 2 := by have := HPS.out; omega
                  have hw0 : 0 ≤ (j : Int) := Int.natCast_nonneg _
                  go_wp2
                  refine wp_region_HL (S := (fun w' => ∀ o, w'.cell? ⟨w.heap.size + 1 + 1, o, none⟩ = (#[.slice sA q sc, .slice gA G0 gc, .slice fA i fc, .slice none 0 0] : Array Value)[o]?)) 8 (by kernel_rfl) (by kernel_rfl) (by kernel_rfl) (by kernel_rfl) (by decide) c3 (fun hHeld => ?_)
                  refine HL.take_ (i := 0) (oi := { dst := some 114, op := .fieldAddr 32 (.tmp 3) 0, type := 0, pos := "ref.go:371", after := #[], guard := none }) (v := ?_) rfl (by decide) (by kernel_rfl) (by kernel_rfl) (fun _ _ _ h => h) (Or.inl ⟨by rfl, ?_⟩) (by assumption) ?_
                  rotate_left
                  · intro w hSw
                    (try dsimp only at hSw)
                    have h1 := hSw; (go_simp; try (with_reducible rfl))
                  try simp only [Act.put, List.setIfInBounds_toArray, List.set_cons_zero, List.set_cons_succ]
                  refine HL.take_ (i := 1) (oi := { dst := some 115, op := .load 28 (.tmp 114), type := 28, pos := "ref.go:371", after := #[{ on := 0, ground := .data }], guard := none }) (v := ?_) rfl (by decide) (by kernel_rfl) (by kernel_rfl) (fun _ _ _ h => h) (Or.inl ⟨by rfl, ?_⟩) (by assumption) ?_
                  rotate_left
                  · intro w hSw
                    (try dsimp only at hSw)
                    have h1 := hSw; (go_simp; try (with_reducible rfl))
                  try simp only [Act.put, List.setIfInBounds_toArray, List.set_cons_zero, List.set_cons_succ]
                  refine HL.take_ (i := 2) (oi := { dst := some 116, op := .move (.tmp 11), type := 3, pos := "ref.go:371", after := #[], guard := none }) (v := ?_) rfl (by decide) (by kernel_rfl) (by kernel_rfl) (fun _ _ _ h => h) (Or.inl ⟨by rfl, ?_⟩) (by assumption) ?_
                  rotate_left
                  · intro w hSw
                    (try dsimp only at hSw)
                    have h1 := hSw; (go_simp; try (with_reducible rfl))
                  try simp only [Act.put, List.setIfInBounds_toArray, List.set_cons_zero, List.set_cons_succ]
                  refine HL.take_ (i := 3) (oi := { dst := some 117, op := .binOp .add 3 (.const (.int .i64 200)) (.tmp 116) 3, type := 3, pos := "ref.go:371", after := #[{ on := 2, ground := .data }], guard := none }) (v := ?_) rfl (by decide) (by kernel_rfl) (by kernel_rfl) (fun _ _ _ h => h) (Or.inl ⟨by rfl, ?_⟩) (by assumption) ?_
                  rotate_left
                  · intro w hSw
                    (try dsimp only at hSw)
                    have h1 := hSw; (go_simp; try (with_reducible rfl))
                  try simp only [Act.put, List.setIfInBounds_toArray, List.set_cons_zero, List.set_cons_succ]
                  refine HL.step_ (i := 4) (o := { dst := some 118, op := .call { callee := .value (.func 27), args := #[.tmp 117], argTypes := #[3] }, type := 9, pos := "ref.go:371", after := #[{ on := 3, ground := .data }], guard := none }) rfl (by decide) (by kernel_rfl) (fun K hK => ?_)
                  go_simp
                  rw [show IntKind.i64.wrap (200 + (j : Int)) = ((200 + j : Nat) : Int) from by rw [IntWalk.i64_in _ (by omega)]; omega]
                  refine (name_calls wr.drew (200 + j) (by omega)).mono ?_
                  rintro e w3 ⟨rfl, hb3⟩
                  have hb4 : Below wr.heap.size wr w3 := ⟨hb3.os, hb3.tape, hb3.output, hb3.size, hb3.block⟩
                  have HX3 := Lib.hid (HX.out.next hb4)
                  have HO3 := Lib.hid (HO.out.below hb4)
                  have HF3 := Lib.hid (HF.out.sub (sub_sans_below hb4))
                  have hz3 : wr.heap.size ≤ w3.heap.size := hb4.size
                  clear hb3 hb4 c1 f1 z1 c3 f3 z3 c9 f9 z9
                  refine hK.out _ _ (blk3 HX3.out.m).1 (fun hHeld => ?_)
                  clear hK K
                  try simp only [Act.put, List.setIfInBounds_toArray, List.set_cons_zero, List.set_cons_succ]
                  refine HL.step_ (i := 5) (o := { dst := some 119, op := .buildSlice 28 1 #[(0, .tmp 118)], type := 28, pos := "ref.go:371", after := #[{ on := 4, ground := .data }], guard := none }) rfl (by decide) (by kernel_rfl) (fun K hK => ?_)
                  go_simp
                  refine hK.out _ _ (blk3 (HX3.out.alloc _).m).1 (fun hHeld => ?_)
                  clear hK K
                  try simp only [Act.put, List.setIfInBounds_toArray, List.set_cons_zero, List.set_cons_succ]
                  refine HL.step_ (i := 6) (o := { dst := some 120, op := .call { callee := .builtin .append, args := #[.tmp 115, .tmp 119], argTypes := #[28, 28] }, type := 28, pos := "ref.go:371", after := #[{ on := 1, ground := .data }, { on := 5, ground := .data }, { on := 4, ground := .chain }], guard := none }) rfl (by decide) (by kernel_rfl) (fun K hK => ?_)
                  rw [if_pos (by rfl)]
                  refine append_at (B := w.heap.size + 3) (W := w3.alloc (.cells #[.string (nameS (200 + j))] 9)) 3 [⟨3, 1, .slice lA NL lc, NL, ints (numL sn NL)⟩, ⟨3, 1, .slice tA j tc, j, ints (numS sn NL j)⟩, ⟨35, 5, .slice (some ⟨gf, 0, none⟩) 1 1, 1, [.int .i64 (sn : Nat), .int .i64 (par : Nat), .slice lA NL lc, .slice tA j tc, .slice none 0 0]⟩, ⟨9, 1, .slice sA q sc, q, strs (strsS (mk2 g f i).1 f i j)⟩, ⟨3, 1, .slice gA G0 gc, G0, ints (natInts G0)⟩, ⟨35, 5, .slice fA i fc, i, fxs⟩, ⟨3, 1, .slice none 0 0, 0, []⟩] _ _ 28 9 (.string ⟨#[]⟩) 1 16 rfl Try.underlying28 info9 rfl (by decide) (.slice sA q sc) q _ rfl (HO3.out.below ((Below.refl _ _).alloc (Nat.le_refl _) _)) rfl ⟨w3.heap.size, 0, none⟩ 1 1 [.string (nameS (200 + j))] rfl rfl (new_cells _ _ _ _) (one_cell _ rfl) (by have := HX3.out.size; simp; omega) (by omega) (by omega) ?_
                  intro sA1 sc1 w4 hg
                  have HX4 := Lib.hid ((HX3.out.alloc _).keep hg.below)
                  have HO4 := Lib.hid hg.owns
                  have HF4 := Lib.hid ((HF3.out.sub (sub_sans_below ((Below.refl _ _).alloc (Nat.le_refl _) _))).sub (hg.sub _))
                  clear hg
                  refine hK.out _ _ (blk3 HX4.out.m).1 (fun hHeld => ?_)
                  clear hK K
                  try simp only [Act.put, List.setIfInBounds_toArray, List.set_cons_zero, List.set_cons_succ]
                  refine HL.take_ (i := 7) (oi := { dst := some 121, op := .fieldAddr 32 (.tmp 3) 0, type := 0, pos := "ref.go:371", after := #[{ on := 0, ground := .phase }, { on := 1, ground := .phase }, { on := 2, ground := .phase }, { on := 3, ground := .phase }, { on := 4, ground := .phase }, { on := 5, ground := .phase }, { on := 6, ground := .phase }], guard := none }) (v := ?_) rfl (by decide) (by kernel_rfl) (by kernel_rfl) (fun _ _ _ h => h) (Or.inl ⟨by rfl, ?_⟩) (by assumption) ?_
                  rotate_left
                  · intro w hSw
                    (try dsimp only at hSw)
                    have h1 := hSw; (go_simp; try (with_reducible rfl))
                  try simp only [Act.put, List.setIfInBounds_toArray, List.set_cons_zero, List.set_cons_succ]
                  refine HL.done_ (by kernel_rfl) ?_
                  simp only [List.drop_succ_cons, List.drop_zero]
                  clear hHeld
                  obtain ⟨c3, f3, z3⟩ := blk3 HX4.out.m
                  have HX5 := Lib.hid (HX4.out.set0 (.slice sA1 (q + 1) sc1))
                  have HO5 := Lib.hid (HO4.out.far_store (p := ⟨w.heap.size + 1 + 1, 0, none⟩) (by show w.heap.size + 1 + 1 < w.heap.size + 3; omega) (.slice sA1 (q + 1) sc1))
                  have HF5 := Lib.hid (HF4.out.sub (sub_store (p := ⟨w.heap.size + 1 + 1, 0, none⟩) (u := .slice sA1 (q + 1) sc1) (List.mem_append_right _ (bsM_m _ _))))
                  go_upto_region 25 with (fail)
                  obtain ⟨W5, hW5⟩ : ∃ W5, W5 = w4.setCell ⟨w.heap.size + 1 + 1, 0, none⟩ (.slice sA1 (q + 1) sc1) := ⟨_, rfl⟩
                  rw [← hW5] at HX5 HO5 HF5 ⊢
                  clear hW5 c3 f3 z3 HX4 HO4 HF4 HX3 HO3 HF3 hz3
                  obtain ⟨c3, f3, z3⟩ := blk3 HX5.out.m
                  obtain ⟨c1, f1, z1⟩ := blk3 HX5.out.box
                  obtain ⟨c9, f9, z9⟩ := blk3 (own_block #[.int .i64 (sn : Nat), .int .i64 (par : Nat), .slice lA NL lc, .slice tA j tc, .slice none 0 0] (HO5.out.at (i := 2) rfl) rfl)
                  go_wp2_with (at_builtin; refine append_at_list (B := w.heap.size + 3) (W := W5.alloc (.cells #[.int .i64 (q : Nat)] 3)) rfl 1 _ _ _ 29 3 (.int .i64 0) 1 8 rfl Try.underlying29 info3 rfl (by decide) (.slice tA j tc) j _ rfl (HO5.out.below ((Below.refl _ _).alloc (Nat.le_refl _) _)) rfl ⟨W5.heap.size, 0, none⟩ 1 1 [.int .i64 (q : Nat)] rfl rfl (new_cells _ _ _ _) (one_cell _ rfl) (by have := HX5.out.size; simp; omega) (by omega) (by omega) ?_; intro lA1 lc1 w6 hg; have HX6 := Lib.hid ((HX5.out.alloc _).keep hg.below); have HO6 := Lib.hid hg.owns; have HF6 := Lib.hid ((HF5.out.sub (sub_sans_below ((Below.refl _ _).alloc (Nat.le_refl _) _))).sub (hg.sub _)); obtain ⟨d1, e1, y1⟩ := blk3 HX6.out.box; obtain ⟨d3, e3, y3⟩ := blk3 HX6.out.m; obtain ⟨d9, e9, y9⟩ := blk3 (own_block #[.int .i64 (sn : Nat), .int .i64 (par : Nat), .slice lA NL lc, .slice tA j tc, .slice none 0 0] (hg.owns.at (i := 2) rfl) rfl); clear hg c1 f1 z1 c3 f3 z3 c9 f9 z9)
                  refine ⟨⟨j + 1, q + 1, sA1, lA1, sc1, lc1, by omega, by have := HQ.out; omega, by go_num, by show _ = _; rw [HQ.out]; omega, HX6.out.far (p := ⟨gf, 3, none⟩) (by show w.heap.size + 3 ≤ gf; omega) _, ?_, ?_⟩, by simp [intOf]; omega⟩
                  · have h1 := HO6.out.set_store (i := 2) rfl (g := gf) rfl 3 (.slice lA1 (j + 1) lc1)
                    show Owns _ _ _
                    rw [strsS_succ, strs_snoc, numS_succ, ints_snoc, ← HQ.out]
                    exact h1
                  · have h1 := HF6.out.sub (sub_store_at (i := 2) (g := gf) (j := 3) (u := .slice lA1 (j + 1) lc1) (r := ⟨35, 5, .slice (some ⟨gf, 0, none⟩) 1 1, 1, [.int .i64 (sn : Nat), .int .i64 (par : Nat), .slice lA NL lc, .slice tA j tc, .slice none 0 0]⟩) (r' := ⟨35, 5, .slice (some ⟨gf, 0, none⟩) 1 1, 1, [.int .i64 (sn : Nat), .int .i64 (par : Nat), .slice lA NL lc, .slice lA1 (j + 1) lc1, .slice none 0 0]⟩) rfl rfl rfl)
                    show FnsAt _ _ _
                    rw [strsS_succ, strs_snoc, numS_succ, ints_snoc, ← HQ.out]
                    exact h1
                · obtain rfl : NS = j := by omega
                  have hlt4' : ¬ (NS : Int) < 1 + (i : Int) % 2 := by have := HPS.out; omega
                  go_wp2_with (at_builtin; refine append_at_list (B := w.heap.size + 3) (W := wr.alloc (.cells #[.int .i64 (sn : Nat), .int .i64 (par : Nat), .slice lA NL lc, .slice tA NS tc, .slice none 0 0] 35)) rfl 5 _ _ _ 30 35 (.agg #[.int .i64 0, .int .i64 0, .slice none 0 0, .slice none 0 0, .slice none 0 0]) 5 88 rfl Try.underlying30 info35 rfl (by decide) (.slice fA i fc) i _ rfl (HO.out.below ((Below.refl _ _).alloc (Nat.le_refl _) _)) rfl ⟨wr.heap.size, 0, none⟩ 1 1 #[.int .i64 (sn : Nat), .int .i64 (par : Nat), .slice lA NL lc, .slice tA NS tc, .slice none 0 0].toList rfl rfl (new_cells _ _ _ _) (one5 _ _ _ _ _ _ _ _ _ _ _) (by have := HX.out.size; simp; omega) (by omega) (by omega) ?_; intro fA1 fc1 w6 hg; have HX6 := Lib.hid ((HX.out.alloc _).keep hg.below); have HO6 := Lib.hid hg.owns; have HF6 := Lib.hid ((HF.out.sub (sub_sans_below ((Below.refl _ _).alloc (Nat.le_refl _) _))).sub (hg.sub _)); obtain ⟨d1, e1, y1⟩ := blk3 HX6.out.box; obtain ⟨d3, e3, y3⟩ := blk3 HX6.out.m; clear hg c1 f1 z1 c3 f3 z3 c9 f9 z9)
                  have HO7 := HO6.out.far_store (p := ⟨w.heap.size + 1 + 1, 2, none⟩) (by show w.heap.size + 1 + 1 < w.heap.size + 3; omega) (.slice fA1 (i + 1) fc1)
                  have HF7 := HF6.out.sub (sub_store (p := ⟨w.heap.size + 1 + 1, 2, none⟩) (u := .slice fA1 (i + 1) fc1) (List.mem_append_right _ (bsM_m _ _)))
                  refine ⟨⟨i + 1, q, sA, fA1, sc, fc1, fxs ++ #[.int .i64 (sn : Nat), .int .i64 (par : Nat), .slice lA NL lc, .slice tA NS tc, .slice none 0 0].toList, by omega, by have := HQ.out; omega, by go_num, by go_num, ?_, HX6.out.set2 _, ?_, ?_, nilB_snoc HNB.out rfl rfl⟩, by simp [intOf]; omega⟩
                  · show q = (_ ++ _ : List ByteArray).length
                    rw [List.length_append, fnStrs_length, ← HSN.out, ← HNL.out, ← HNS.out, HQ.out]
                    omega
                  · have h1 := HO7.tail.tail.tail
                    show Owns _ _ _
                    rw [mk2]
                    show Owns _ _ [⟨9, 1, .slice sA q sc, q, strs ((mk2 g f i).1 ++ fnStrs f i)⟩, _, _, _]
                    rw [← strsS_done, ← HNS.out]
                    exact h1
                  · have h1 := HF7.sub (sub_sans_app (rs' := [⟨9, 1, .slice sA q sc, q, strs (strsS (mk2 g f i).1 f i NS)⟩, ⟨3, 1, .slice gA G0 gc, G0, ints (natInts G0)⟩, ⟨35, 5, .slice fA1 (i + 1) fc1, i + 1, fxs ++ #[.int .i64 (sn : Nat), .int .i64 (par : Nat), .slice lA NL lc, .slice tA NS tc, .slice none 0 0].toList⟩, ⟨3, 1, .slice none 0 0, 0, []⟩]) (fun k hk => rblk_tail (rblk_tail (rblk_tail hk))))
                    show FnsAt _ _ _
                    rw [mk2]
                    show FnsAt (sans _ (rblk [⟨9, 1, .slice sA q sc, q, strs ((mk2 g f i).1 ++ fnStrs f i)⟩, _, _, _] ++ _)) _ ((mk2 g f i).2 ++ [fnOf f (mk2 g f i).1.length i])
                    rw [← strsS_done, ← HNS.out]
                    refine h1.snoc ⟨.slice lA NL lc, .slice tA NS tc, .slice none 0 0, ?_, ?_, ?_, ⟨none, 0, 0, rfl, by decide, readsBody_nil _ _⟩⟩
                    · show [_, _, _, _, _] = [_, _, _, _, _]
                      rw [← HSN.out, show (fnOf f sn i).name = (sn : Int) from rfl, show (fnOf f sn i).params = par from HPAR.out.symm]
                    · rw [← HSN.out, show (fnOf f sn i).locals = numL sn NL from by rw [HNL.out]; rfl]
                      exact ReadsI.row HO7 (by unfold numL; rw [List.length_map, List.length_range]) (by omega) (fun k hk => rblk_tail (rblk_tail hk)) (fun b hb => bsM_lt HBS.out hb)
                    · rw [← HSN.out, show (fnOf f sn i).sites = numS sn NL NS from by rw [HNL.out, HNS.out]; rfl]
                      exact ReadsI.row HO7.tail (by unfold numS; rw [List.length_map, List.length_range]) (by omega) (fun k hk => rblk_tail hk) (fun b hb => bsM_lt HBS.out hb)
        · obtain rfl : n = i := by omega
          go_wp2
          clear c1 f1 z1 c3 f3 z3
          go_loopw [12] (fun v12 wr => ∃ (j k : Nat) (eA : Option Addr) (ec : Nat), j ≤ n ∧ k ≤ j ∧ v12 = .int .i64 j ∧ Hid (k = (entD e j).length) ∧ Hid (BX w wr #[.int .u8 g, .int .u8 f, .int .u8 e, .slice aa an ac] (.slice sA sn sc) (.slice gA G0 gc) (.slice fA n fc) (.slice eA k ec)) ∧ Hid (Owns wr (w.heap.size + 3) [⟨9, 1, .slice sA sn sc, sn, strs (mk2 g f n).1⟩, ⟨3, 1, .slice gA G0 gc, G0, ints (natInts G0)⟩, ⟨35, 5, .slice fA n fc, n, fxs⟩, ⟨3, 1, .slice eA k ec, k, ints (entD e j)⟩]) ∧ Hid (FnsAt (sans wr (rblk [⟨9, 1, .slice sA sn sc, sn, strs (mk2 g f n).1⟩, ⟨3, 1, .slice gA G0 gc, G0, ints (natInts G0)⟩, ⟨35, 5, .slice fA n fc, n, fxs⟩, ⟨3, 1, .slice eA k ec, k, ints (entD e j)⟩] ++ bsM w.heap.size bs)) fxs (mk2 g f n).2)) (fun v12 _ => n - (intOf v12).toNat)
          case atStart => exact ⟨0, 0, none, 0, Nat.zero_le _, Nat.le_refl _, rfl, rfl, HX.out, HO.out, HF.out⟩
          case round =>
            clear HX HO HF
            obtain ⟨j, k, eA, ec, hj, hkj, rfl, HKE, HX, HO, HF⟩ := hrel
            obtain ⟨c1, f1, z1⟩ := blk3 HX.out.box
            obtain ⟨c3, f3, z3⟩ := blk3 HX.out.m
            by_cases hlt5 : j < n
            · have hw0 : 0 ≤ (j : Int) := Int.natCast_nonneg _
              cases hbit : e / 2 ^ j % 2 == 1 with
              | false =>
                have htb : (((e : Int) / 2 ^ j).tmod 2 == 1) = false := by rw [bit_cast, hbit]
                have HBIT := Lib.hid (show entD e (j + 1) = entD e j by rw [entD_succ, hbit]; simp)
                clear hbit
                go_wp2
                refine ⟨⟨j + 1, k, eA, ec, by omega, by omega, by go_num, by show _ = _; rw [HBIT.out]; exact HKE.out, HX.out, ?_, ?_⟩, by simp [intOf]; omega⟩
                · show Owns _ _ _
                  rw [HBIT.out]; exact HO.out
                · show FnsAt _ _ _
                  exact HF.out
              | true =>
                have htb : (((e : Int) / 2 ^ j).tmod 2 == 1) = true := by rw [bit_cast, hbit]
                have HBIT := Lib.hid (show entD e (j + 1) = entD e j ++ [(j : Int)] by rw [entD_succ, hbit]; simp)
                clear hbit
                go_wp2_with (at_builtin; refine append_at_list (B := w.heap.size + 3) (W := wr.alloc (.cells #[.int .i64 (j : Nat)] 3)) rfl 3 _ _ _ 29 3 (.int .i64 0) 1 8 rfl Try.underlying29 info3 rfl (by decide) (.slice eA k ec) k _ rfl (HO.out.below ((Below.refl _ _).alloc (Nat.le_refl _) _)) rfl ⟨wr.heap.size, 0, none⟩ 1 1 [.int .i64 (j : Nat)] rfl rfl (new_cells _ _ _ _) (one_cell _ rfl) (by have := HX.out.size; simp; omega) (by omega) (by omega) ?_; intro eA1 ec1 w6 hg; have HX6 := Lib.hid ((HX.out.alloc _).keep hg.below); have HO6 := Lib.hid hg.owns; have HF6 := Lib.hid ((HF.out.sub (sub_sans_below ((Below.refl _ _).alloc (Nat.le_refl _) _))).sub (hg.sub _)); obtain ⟨d1, e1, y1⟩ := blk3 HX6.out.box; obtain ⟨d3, e3, y3⟩ := blk3 HX6.out.m; clear hg c1 f1 z1 c3 f3 z3)
                refine ⟨⟨j + 1, k + 1, eA1, ec1, by omega, by omega, by go_num, by show _ = _; rw [HBIT.out, List.length_append, ← HKE.out]; rfl, HX6.out.set3 _, ?_, ?_⟩, by simp [intOf]; omega⟩
                · have h1 := HO6.out.far_store (p := ⟨w.heap.size + 1 + 1, 3, none⟩) (by show w.heap.size + 1 + 1 < w.heap.size + 3; omega) (.slice eA1 (k + 1) ec1)
                  show Owns _ _ _
                  rw [HBIT.out, ints_snoc]
                  exact h1
                · have h1 := HF6.out.sub (sub_store (p := ⟨w.heap.size + 1 + 1, 3, none⟩) (u := .slice eA1 (k + 1) ec1) (List.mem_append_right _ (bsM_m _ _)))
                  show FnsAt _ _ _
                  rw [HBIT.out, ints_snoc]
                  exact h1
            · obtain rfl : n = j := by omega
              go_wp2
              clear c1 f1 z1 c3 f3 z3
              obtain ⟨l0, hl0, hl1, hl2, hl3⟩ := fbs_of HF.out HNB.out (mk2_body _ _ _)
              have hl3' : ∀ r ∈ rowsOf l0, r = ⟨46, 7, .slice none 0 0, 0, []⟩ := fun r hr => by
                obtain ⟨x, hx, rfl⟩ := List.mem_map.1 hr
                exact hl3 x hx
              obtain ⟨gF, rfl, hgF3, hgFw⟩ := own_addr (HO.out.at (i := 2) rfl) hn0
              subst hl0
              have HO6 := Lib.hid (HO.out.nils hl3')
              have HL1 := Lib.hid (show l0.map FB.fn = bodD ⟨g, f, e, acts⟩ 0 by rw [hl1, HN.out]; rfl)
              have HB6 := Lib.hid (show ∀ x ∈ l0, FBok (sans wr (rblk ([⟨9, 1, .slice sA sn sc, sn, strs (mk2 g f n).1⟩, ⟨3, 1, .slice gA G0 gc, G0, ints (natInts G0)⟩, ⟨35, 5, .slice (some ⟨gF, 0, none⟩) n fc, n, fxsOf l0⟩, ⟨3, 1, .slice eA k ec, k, ints (entD e n)⟩] ++ rowsOf l0) ++ bsM w.heap.size bs)) x from fun x hx => (hl2 x hx).sub (sub_sans_app fun k hk => by
                rw [rblk_append] at hk
                rcases List.mem_append.1 hk with hk | hk
                · exact hk
                · exact (rblk_nils hl3' hk).elim))
              have HL2 := Lib.hid (show ∀ x ∈ l0, x.fn.body.length ≤ 0 from fun x hx => by
                have h1 : x.row = _ := hl3 x hx
                have h2 : x.fn.body.length = 0 := congrArg Row.n h1
                omega)
              clear hl1 hl2 hl3 hl3' HF HNB HO
              go_loopw [13] (fun v13 wr => ∃ (i : Nat) (l : List FB), i ≤ an ∧ v13 = .int .i64 i ∧ Hid (l.map FB.fn = bodD ⟨g, f, e, acts⟩ i) ∧ Hid (BX w wr #[.int .u8 g, .int .u8 f, .int .u8 e, .slice aa an ac] (.slice sA sn sc) (.slice gA G0 gc) (.slice (some ⟨gF, 0, none⟩) n fc) (.slice eA k ec)) ∧ Hid (Owns wr (w.heap.size + 3) ([⟨9, 1, .slice sA sn sc, sn, strs (mk2 g f n).1⟩, ⟨3, 1, .slice gA G0 gc, G0, ints (natInts G0)⟩, ⟨35, 5, .slice (some ⟨gF, 0, none⟩) n fc, n, fxsOf l⟩, ⟨3, 1, .slice eA k ec, k, ints (entD e n)⟩] ++ rowsOf l)) ∧ Hid (∀ x ∈ l, FBok (sans wr (rblk ([⟨9, 1, .slice sA sn sc, sn, strs (mk2 g f n).1⟩, ⟨3, 1, .slice gA G0 gc, G0, ints (natInts G0)⟩, ⟨35, 5, .slice (some ⟨gF, 0, none⟩) n fc, n, fxsOf l⟩, ⟨3, 1, .slice eA k ec, k, ints (entD e n)⟩] ++ rowsOf l) ++ bsM w.heap.size bs)) x) ∧ Hid (∀ x ∈ l, x.fn.body.length ≤ i)) (fun v13 _ => an - (intOf v13).toNat)
              case atStart => exact ⟨0, l0, Nat.zero_le _, rfl, HL1.out, HX.out, HO6.out, HB6.out, HL2.out⟩
              case round =>
                clear HX HO6 HB6 HL1 HL2
                obtain ⟨i, l, hi, rfl, HL1, HX, HO, HF, HL2⟩ := hrel
                obtain ⟨c1, f1, z1⟩ := blk3 HX.out.box
                obtain ⟨c3, f3, z3⟩ := blk3 HX.out.m
                by_cases hlt6 : i < an
                · have hw0 : 0 ≤ (i : Int) := Int.natCast_nonneg _
                  obtain ⟨q, hq⟩ : ∃ q, q = jD (nD f) an i := ⟨_, rfl⟩
                  rw [← HN.out] at hq
                  have hqn : q < n := by rw [hq]; exact jD_lt (by omega) hlt6 han
                  have hm0 : 0 ≤ (i : Int) * (n : Int) := Int.mul_nonneg (Int.natCast_nonneg _) (Int.natCast_nonneg _)
                  have hm1 : (i : Int) * (n : Int) ≤ 240 := by
                    have : i * n ≤ 60 * 4 := Nat.mul_le_mul (by omega) hn4
                    exact_mod_cast this
                  go_upto_if 174 with (fail)
                  go_cut [14] from 156 to 232 (fun s14 wx => s14 = .int .i64 (q : Nat) ∧ wx = wr)
                  case first =>
                    by_cases h60 : an < 60
                    · have hq' : (i : Int) * n / an = q := by rw [hq]; unfold jD; rw [if_pos h60]; exact_mod_cast rfl
                      clear hq
                      go_wp2
                      go_meet
                      case rel => exact ⟨by rw [hq'], rfl⟩
                    · have hq' : (i : Int) * n / 60 = q := by rw [hq]; unfold jD; rw [if_neg h60]; exact_mod_cast rfl
                      clear hq
                      go_wp2
                      go_meet
                      case rel => exact ⟨by rw [hq'], rfl⟩
                  case rest =>
                  obtain ⟨rfl, rfl⟩ := hcut
                  have HQ := Lib.hid hq
                  clear hq hm0 hm1
                  go_wp2_with fail
                  go_region
                  · -- what is read
                    have HXW := Lib.hid (show BX w ((wc.alloc (.cells #[.bool false] 4)).drew) #[.int .u8 g, .int .u8 f, .int .u8 e, .slice aa an ac] (.slice sA sn sc) (.slice gA G0 gc) (.slice (some ⟨gF, 0, none⟩) n fc) (.slice eA k ec) from (HX.out.alloc _).keep ((Below.refl _ _).drew))
                    have HOW := Lib.hid (show Owns ((wc.alloc (.cells #[.bool false] 4)).drew) (w.heap.size + 3) ([⟨9, 1, .slice sA sn sc, sn, strs (mk2 g f n).1⟩, ⟨3, 1, .slice gA G0 gc, G0, ints (natInts G0)⟩, ⟨35, 5, .slice (some ⟨gF, 0, none⟩) n fc, n, fxsOf l⟩, ⟨3, 1, .slice eA k ec, k, ints (entD e n)⟩] ++ rowsOf l) from HO.out.below (((Below.refl _ _).alloc (Nat.le_refl _) _).drew))
                    have HFW := Lib.hid (show ∀ x ∈ l, FBok (sans ((wc.alloc (.cells #[.bool false] 4)).drew) (rblk ([⟨9, 1, .slice sA sn sc, sn, strs (mk2 g f n).1⟩, ⟨3, 1, .slice gA G0 gc, G0, ints (natInts G0)⟩, ⟨35, 5, .slice (some ⟨gF, 0, none⟩) n fc, n, fxsOf l⟩, ⟨3, 1, .slice eA k ec, k, ints (entD e n)⟩] ++ rowsOf l) ++ bsM w.heap.size bs)) x from fun x hx => (HF.out x hx).sub (sub_sans_below (((Below.refl _ _).alloc (Nat.le_refl _) _).drew)))
                    obtain ⟨W, hW⟩ : ∃ W, W = (wc.alloc (.cells #[.bool false] 4)).drew := ⟨_, rfl⟩
                    rw [← hW] at HXW HOW HFW ⊢
                    clear hW HX HO HF c1 f1 z1 c3 f3 z3
                    have HLn := Lib.hid (show l.length = n by have := congrArg List.length HL1.out; rw [List.length_map, bodD_length] at this; rw [this]; exact HN.out.symm)
                    obtain ⟨x, hx⟩ : ∃ x, l[q]? = some x := ⟨_, List.getElem?_eq_getElem (show q < l.length by rw [HLn.out]; exact hqn)⟩
                    have hfx := HFW.out x (List.mem_of_getElem? hx)
                    have hpx : Placed f _ q x.fn := bodD_placed ⟨g, f, e, acts⟩ i q x.fn (by rw [← HL1.out, List.getElem?_map, hx]; rfl)
                    have hbn := HL2.out x (List.mem_of_getElem? hx)
                    obtain ⟨la, lc, hlv, _⟩ := hfx.lv.shape
                    obtain ⟨ta, tc, hsv, _⟩ := hfx.sv.shape
                    obtain ⟨nm, hnm⟩ : ∃ z, z = x.nm := ⟨_, rfl⟩
                    obtain ⟨par, hpar⟩ : ∃ z, z = x.par := ⟨_, rfl⟩
                    obtain ⟨L, hL⟩ : ∃ z, z = x.fn.locals.length := ⟨_, rfl⟩
                    obtain ⟨S, hS⟩ : ∃ z, z = x.fn.sites.length := ⟨_, rfl⟩
                    obtain ⟨bn, hbn'⟩ : ∃ z, z = x.fn.body.length := ⟨_, rfl⟩
                    obtain ⟨bA, hbA⟩ : ∃ z, z = x.bA := ⟨_, rfl⟩
                    obtain ⟨bc, hbc⟩ : ∃ z, z = x.bc := ⟨_, rfl⟩
                    have HFIVE := Lib.hid (show ∀ (V : World) (rs : List Row), Owns V (w.heap.size + 3) rs → rs[2]? = some ⟨35, 5, .slice (some ⟨gF, 0, none⟩) n fc, n, fxsOf l⟩ → (V.cell? ⟨gF, q * 5, none⟩ = some (.int .i64 nm) ∧ V.cell? ⟨gF, q * 5 + 1, none⟩ = some (.int .i64 (par : Nat)) ∧ V.cell? ⟨gF, q * 5 + 2, none⟩ = some (.slice la L lc) ∧ V.cell? ⟨gF, q * 5 + 3, none⟩ = some (.slice ta S tc) ∧ V.cell? ⟨gF, q * 5 + 4, none⟩ = some (.slice bA bn bc)) ∧ V.frozen? ⟨gF, q * 5 + 4, none⟩ = false from fun V rs h hr => by
                      have h1 := five_cells h hr hx
                      rw [hlv, hsv, ← hnm, ← hpar, ← hL, ← hS, FB.bv, ← hbn', ← hbA, ← hbc] at h1
                      exact h1)
                    obtain ⟨k0, k1, k2, k3, k4⟩ := (HFIVE.out W _ HOW.out rfl).1
                    have KROW := Lib.hid (show ([⟨9, 1, .slice sA sn sc, sn, strs (mk2 g f n).1⟩, ⟨3, 1, .slice gA G0 gc, G0, ints (natInts G0)⟩, ⟨35, 5, .slice (some ⟨gF, 0, none⟩) n fc, n, fxsOf l⟩, ⟨3, 1, .slice eA k ec, k, ints (entD e n)⟩] ++ rowsOf l)[4 + q]? = some ⟨46, 7, .slice bA bn bc, bn, x.cells⟩ from by rw [row_at hx, FB.row, FB.bv, ← hbn', ← hbA, ← hbc])
                    have hParams : ∀ p, p < n → W.cell? ⟨gF, 0 + p * 5 + 1, none⟩ = some (.int .i64 (parD f p : Nat)) := fun p hp => by
                      obtain ⟨y, hy⟩ : ∃ y, l[p]? = some y := ⟨_, List.getElem?_eq_getElem (show p < l.length by rw [HLn.out]; exact hp)⟩
                      have h1 : Placed f _ p y.fn := bodD_placed ⟨g, f, e, acts⟩ i p y.fn (by rw [← HL1.out, List.getElem?_map, hy]; rfl)
                      have h2 := (row_cell (HOW.out.at (i := 2) rfl) (show (fxsOf l)[p * 5 + 1]? = some (.int .i64 (y.par : Nat)) by rw [fxsOf_at hy 1 (by decide)]; rfl)).1
                      rw [(HFW.out y (List.mem_of_getElem? hy)).par, h1.params] at h2
                      rw [Nat.zero_add]
                      exact h2
                    obtain ⟨hal, _, hacts, hac0⟩ := HA.out
                    obtain ⟨ab, ao, rfl, hac⟩ := hac0 (by omega)
                    have hact := hacts i hlt6
                    have hcs := hac i hlt6
                    obtain ⟨⟨a0, a1, a2, a3⟩, hA4⟩ : ∃ z, z = actAt acts i := ⟨_, rfl⟩
                    rw [← hA4] at hact hcs
                    have haW : ∀ p v, w.cell? p = some v → W.cell? p = some v := sub_below HXW.out.below
                    have abw : ab < w.heap.size := World.block_lt_of_cell? w _ hcs.1
                    obtain ⟨g0, g1, g2, g3⟩ := hcs
                    have HACT := Lib.hid (show ∀ V : World, Below w.heap.size w V → V.cell? ⟨ab, ao + i * 4, none⟩ = some (.int .u8 (a0 : Nat)) ∧ V.cell? ⟨ab, ao + i * 4 + 1, none⟩ = some (.int .u8 (a1 : Nat)) ∧ V.cell? ⟨ab, ao + i * 4 + 2, none⟩ = some (.int .u8 (a2 : Nat)) ∧ V.cell? ⟨ab, ao + i * 4 + 3, none⟩ = some (.int .u8 (a3 : Nat)) from fun V hV => ⟨sub_below hV _ _ g0, sub_below hV _ _ g1, sub_below hV _ _ g2, sub_below hV _ _ g3⟩)
                    replace g0 := haW _ _ g0
                    replace g1 := haW _ _ g1
                    replace g2 := haW _ _ g2
                    replace g3 := haW _ _ g3
                    obtain ⟨hb0, hb1, hb2, hb3⟩ := hact
                    have KX := Lib.hid hx
                    have KF := Lib.hid hfx
                    have KP := Lib.hid hpx
                    have KPAR := Lib.hid hParams
                    have KN := Lib.hid (And.intro hnm (And.intro hpar (And.intro hL (And.intro hS (And.intro hbn' (And.intro hbA hbc))))))
                    have KLV := Lib.hid hlv
                    have KSV := Lib.hid hsv
                    have KA4 := Lib.hid hA4
                    rw [← hbn'] at hbn
                    have hgFw2 : gF < W.heap.size := World.block_lt_of_cell? W _ k0
                    clear hx hfx hpx hlv hsv hnm hpar hL hS hbn' hbA hbc hParams hal hacts hac hac0 hA4 haW
                    obtain ⟨c1, f1, z1⟩ := blk3 HXW.out.box
                    obtain ⟨c3, f3, z3⟩ := blk3 HXW.out.m
                    go_wp2
                    refine wp_region_HL (S := (fun w' => (∀ o, w'.cell? ⟨w.heap.size + 1 + 1, o, none⟩ = (#[.slice sA sn sc, .slice gA G0 gc, .slice (some ⟨gF, 0, none⟩) n fc, .slice eA k ec] : Array Value)[o]?) ∧ (∀ o, w'.cell? ⟨w.heap.size, o, none⟩ = (#[.int .u8 g, .int .u8 f, .int .u8 e, .slice (some ⟨ab, ao, none⟩) an ac] : Array Value)[o]?) ∧ (w'.cell? ⟨gF, q * 5, none⟩ = some (.int .i64 nm) ∧ w'.cell? ⟨gF, q * 5 + 1, none⟩ = some (.int .i64 (par : Nat)) ∧ w'.cell? ⟨gF, q * 5 + 2, none⟩ = some (.slice la L lc) ∧ w'.cell? ⟨gF, q * 5 + 3, none⟩ = some (.slice ta S tc) ∧ w'.cell? ⟨gF, q * 5 + 4, none⟩ = some (.slice bA bn bc)) ∧ (w'.cell? ⟨ab, ao + i * 4, none⟩ = some (.int .u8 (a0 : Nat)) ∧ w'.cell? ⟨ab, ao + i * 4 + 1, none⟩ = some (.int .u8 (a1 : Nat)) ∧ w'.cell? ⟨ab, ao + i * 4 + 2, none⟩ = some (.int .u8 (a2 : Nat)) ∧ w'.cell? ⟨ab, ao + i * 4 + 3, none⟩ = some (.int .u8 (a3 : Nat))))) 25 (by kernel_rfl) (by kernel_rfl) (by kernel_rfl) (by kernel_rfl) (by decide) ⟨c3, c1, ⟨k0, k1, k2, k3, k4⟩, ⟨g0, g1, g2, g3⟩⟩ (fun hHeld => ?_)
                    refine HL.take_ (i := 0) (oi := { dst := some 208, op := .fieldAddr 32 (.tmp 3) 2, type := 0, pos := "ref.go:387", after := #[], guard := none }) (v := ?_) rfl (by decide) (by kernel_rfl) (by kernel_rfl) (fun _ _ _ h => h) (Or.inl ⟨by rfl, ?_⟩) (by assumption) ?_
                    rotate_left
                    · intro w hSw
                      (try dsimp only at hSw)
                      obtain ⟨h1, h2, ⟨h3, h4, h5, h6, h7⟩, ⟨h8, h9, h10, h11⟩⟩ := hSw; (go_simp; try (with_reducible rfl))
                    try simp only [Act.put, List.setIfInBounds_toArray, List.set_cons_zero, List.set_cons_succ]
                    refine HL.take_ (i := 1) (oi := { dst := some 209, op := .load 30 (.tmp 208), type := 30, pos := "ref.go:387", after := #[{ on := 0, ground := .data }], guard := none }) (v := ?_) rfl (by decide) (by kernel_rfl) (by kernel_rfl) (fun _ _ _ h => h) (Or.inl ⟨by rfl, ?_⟩) (by assumption) ?_
                    rotate_left
                    · intro w hSw
                      (try dsimp only at hSw)
                      obtain ⟨h1, h2, ⟨h3, h4, h5, h6, h7⟩, ⟨h8, h9, h10, h11⟩⟩ := hSw; (go_simp; try (with_reducible rfl))
                    try simp only [Act.put, List.setIfInBounds_toArray, List.set_cons_zero, List.set_cons_succ]
                    refine HL.take_ (i := 2) (oi := { dst := some 210, op := .move (.tmp 14), type := 3, pos := "ref.go:387", after := #[], guard := none }) (v := ?_) rfl (by decide) (by kernel_rfl) (by kernel_rfl) (fun _ _ _ h => h) (Or.inl ⟨by rfl, ?_⟩) (by assumption) ?_
                    rotate_left
                    · intro w hSw
                      (try dsimp only at hSw)
                      obtain ⟨h1, h2, ⟨h3, h4, h5, h6, h7⟩, ⟨h8, h9, h10, h11⟩⟩ := hSw; (go_simp; try (with_reducible rfl))
                    try simp only [Act.put, List.setIfInBounds_toArray, List.set_cons_zero, List.set_cons_succ]
                    refine HL.take_ (i := 3) (oi := { dst := some 211, op := .fieldAddr 32 (.tmp 3) 2, type := 0, pos := "ref.go:387", after := #[], guard := none }) (v := ?_) rfl (by decide) (by kernel_rfl) (by kernel_rfl) (fun _ _ _ h => h) (Or.inl ⟨by rfl, ?_⟩) (by assumption) ?_
                    rotate_left
                    · intro w hSw
                      (try dsimp only at hSw)
                      obtain ⟨h1, h2, ⟨h3, h4, h5, h6, h7⟩, ⟨h8, h9, h10, h11⟩⟩ := hSw; (go_simp; try (with_reducible rfl))
                    try simp only [Act.put, List.setIfInBounds_toArray, List.set_cons_zero, List.set_cons_succ]
                    refine HL.take_ (i := 4) (oi := { dst := some 212, op := .load 30 (.tmp 211), type := 30, pos := "ref.go:387", after := #[{ on := 3, ground := .data }], guard := none }) (v := ?_) rfl (by decide) (by kernel_rfl) (by kernel_rfl) (fun _ _ _ h => h) (Or.inl ⟨by rfl, ?_⟩) (by assumption) ?_
                    rotate_left
                    · intro w hSw
                      (try dsimp only at hSw)
                      obtain ⟨h1, h2, ⟨h3, h4, h5, h6, h7⟩, ⟨h8, h9, h10, h11⟩⟩ := hSw; (go_simp; try (with_reducible rfl))
                    try simp only [Act.put, List.setIfInBounds_toArray, List.set_cons_zero, List.set_cons_succ]
                    refine HL.take_ (i := 5) (oi := { dst := some 213, op := .move (.tmp 14), type := 3, pos := "ref.go:387", after := #[], guard := none }) (v := ?_) rfl (by decide) (by kernel_rfl) (by kernel_rfl) (fun _ _ _ h => h) (Or.inl ⟨by rfl, ?_⟩) (by assumption) ?_
                    rotate_left
                    · intro w hSw
                      (try dsimp only at hSw)
                      obtain ⟨h1, h2, ⟨h3, h4, h5, h6, h7⟩, ⟨h8, h9, h10, h11⟩⟩ := hSw; (go_simp; try (with_reducible rfl))
                    try simp only [Act.put, List.setIfInBounds_toArray, List.set_cons_zero, List.set_cons_succ]
                    refine HL.take_ (i := 6) (oi := { dst := some 214, op := .indexAddr 30 (.tmp 212) (.tmp 213), type := 0, pos := "ref.go:387", after := #[{ on := 4, ground := .data }, { on := 5, ground := .data }], guard := none }) (v := ?_) rfl (by decide) (by kernel_rfl) (by kernel_rfl) (fun _ _ _ h => h) (Or.inl ⟨by rfl, ?_⟩) (by assumption) ?_
                    rotate_left
                    · intro w hSw
                      (try dsimp only at hSw)
                      obtain ⟨h1, h2, ⟨h3, h4, h5, h6, h7⟩, ⟨h8, h9, h10, h11⟩⟩ := hSw; (go_simp; try (with_reducible rfl))
                    try simp only [Act.put, List.setIfInBounds_toArray, List.set_cons_zero, List.set_cons_succ]
                    refine HL.take_ (i := 7) (oi := { dst := some 215, op := .fieldAddr 35 (.tmp 214) 4, type := 0, pos := "ref.go:387", after := #[{ on := 6, ground := .data }], guard := none }) (v := ?_) rfl (by decide) (by kernel_rfl) (by kernel_rfl) (fun _ _ _ h => h) (Or.inl ⟨by rfl, ?_⟩) (by assumption) ?_
                    rotate_left
                    · intro w hSw
                      (try dsimp only at hSw)
                      obtain ⟨h1, h2, ⟨h3, h4, h5, h6, h7⟩, ⟨h8, h9, h10, h11⟩⟩ := hSw; (go_simp; try (with_reducible rfl))
                    try simp only [Act.put, List.setIfInBounds_toArray, List.set_cons_zero, List.set_cons_succ]
                    refine HL.take_ (i := 8) (oi := { dst := some 216, op := .load 22 (.tmp 215), type := 22, pos := "ref.go:387", after := #[{ on := 7, ground := .data }], guard := none }) (v := ?_) rfl (by decide) (by kernel_rfl) (by kernel_rfl) (fun _ _ _ h => h) (Or.inl ⟨by rfl, ?_⟩) (by assumption) ?_
                    rotate_left
                    · intro w hSw
                      (try dsimp only at hSw)
                      obtain ⟨h1, h2, ⟨h3, h4, h5, h6, h7⟩, ⟨h8, h9, h10, h11⟩⟩ := hSw; (go_simp; try (with_reducible rfl))
                    try simp only [Act.put, List.setIfInBounds_toArray, List.set_cons_zero, List.set_cons_succ]
                    refine HL.take_ (i := 9) (oi := { dst := some 217, op := .load 32 (.tmp 3), type := 32, pos := "ref.go:387", after := #[], guard := none }) (v := ?_) rfl (by decide) (by kernel_rfl) (by kernel_rfl) (fun _ _ _ h => h) (Or.inl ⟨by rfl, ?_⟩) (by assumption) ?_
                    rotate_left
                    · intro w hSw
                      (try dsimp only at hSw)
                      obtain ⟨h1, h2, ⟨h3, h4, h5, h6, h7⟩, ⟨h8, h9, h10, h11⟩⟩ := hSw; (go_simp; try (with_reducible rfl))
                    try simp only [Act.put, List.setIfInBounds_toArray, List.set_cons_zero, List.set_cons_succ]
                    refine HL.take_ (i := 10) (oi := { dst := some 218, op := .fieldAddr 32 (.tmp 3) 2, type := 0, pos := "ref.go:387", after := #[], guard := none }) (v := ?_) rfl (by decide) (by kernel_rfl) (by kernel_rfl) (fun _ _ _ h => h) (Or.inl ⟨by rfl, ?_⟩) (by assumption) ?_
                    rotate_left
                    · intro w hSw
                      (try dsimp only at hSw)
                      obtain ⟨h1, h2, ⟨h3, h4, h5, h6, h7⟩, ⟨h8, h9, h10, h11⟩⟩ := hSw; (go_simp; try (with_reducible rfl))
                    try simp only [Act.put, List.setIfInBounds_toArray, List.set_cons_zero, List.set_cons_succ]
                    refine HL.take_ (i := 11) (oi := { dst := some 219, op := .load 30 (.tmp 218), type := 30, pos := "ref.go:387", after := #[{ on := 10, ground := .data }], guard := none }) (v := ?_) rfl (by decide) (by kernel_rfl) (by kernel_rfl) (fun _ _ _ h => h) (Or.inl ⟨by rfl, ?_⟩) (by assumption) ?_
                    rotate_left
                    · intro w hSw
                      (try dsimp only at hSw)
                      obtain ⟨h1, h2, ⟨h3, h4, h5, h6, h7⟩, ⟨h8, h9, h10, h11⟩⟩ := hSw; (go_simp; try (with_reducible rfl))
                    try simp only [Act.put, List.setIfInBounds_toArray, List.set_cons_zero, List.set_cons_succ]
                    refine HL.take_ (i := 12) (oi := { dst := some 220, op := .move (.tmp 14), type := 3, pos := "ref.go:387", after := #[], guard := none }) (v := ?_) rfl (by decide) (by kernel_rfl) (by kernel_rfl) (fun _ _ _ h => h) (Or.inl ⟨by rfl, ?_⟩) (by assumption) ?_
                    rotate_left
                    · intro w hSw
                      (try dsimp only at hSw)
                      obtain ⟨h1, h2, ⟨h3, h4, h5, h6, h7⟩, ⟨h8, h9, h10, h11⟩⟩ := hSw; (go_simp; try (with_reducible rfl))
                    try simp only [Act.put, List.setIfInBounds_toArray, List.set_cons_zero, List.set_cons_succ]
                    refine HL.take_ (i := 13) (oi := { dst := some 221, op := .indexAddr 30 (.tmp 219) (.tmp 220), type := 0, pos := "ref.go:387", after := #[{ on := 11, ground := .data }, { on := 12, ground := .data }], guard := none }) (v := ?_) rfl (by decide) (by kernel_rfl) (by kernel_rfl) (fun _ _ _ h => h) (Or.inl ⟨by rfl, ?_⟩) (by assumption) ?_
                    rotate_left
                    · intro w hSw
                      (try dsimp only at hSw)
                      obtain ⟨h1, h2, ⟨h3, h4, h5, h6, h7⟩, ⟨h8, h9, h10, h11⟩⟩ := hSw; (go_simp; try (with_reducible rfl))
                    try simp only [Act.put, List.setIfInBounds_toArray, List.set_cons_zero, List.set_cons_succ]
                    refine HL.take_ (i := 14) (oi := { dst := some 222, op := .load 35 (.tmp 221), type := 35, pos := "ref.go:387", after := #[{ on := 13, ground := .data }], guard := none }) (v := ?_) rfl (by decide) (by kernel_rfl) (by kernel_rfl) (fun _ _ _ h => h) (Or.inl ⟨by rfl, ?_⟩) (by assumption) ?_
                    rotate_left
                    · intro w hSw
                      (try dsimp only at hSw)
                      obtain ⟨h1, h2, ⟨h3, h4, h5, h6, h7⟩, ⟨h8, h9, h10, h11⟩⟩ := hSw; (go_simp; try (with_reducible rfl))
                    try simp only [Act.put, List.setIfInBounds_toArray, List.set_cons_zero, List.set_cons_succ]
                    refine HL.take_ (i := 15) (oi := { dst := some 223, op := .fieldAddr 25 (.tmp 1) 3, type := 0, pos := "ref.go:387", after := #[], guard := none }) (v := ?_) rfl (by decide) (by kernel_rfl) (by kernel_rfl) (fun _ _ _ h => h) (Or.inl ⟨by rfl, ?_⟩) (by assumption) ?_
                    rotate_left
                    · intro w hSw
                      (try dsimp only at hSw)
                      obtain ⟨h1, h2, ⟨h3, h4, h5, h6, h7⟩, ⟨h8, h9, h10, h11⟩⟩ := hSw; (go_simp; try (with_reducible rfl))
                    try simp only [Act.put, List.setIfInBounds_toArray, List.set_cons_zero, List.set_cons_succ]
                    refine HL.take_ (i := 16) (oi := { dst := some 224, op := .load 23 (.tmp 223), type := 23, pos := "ref.go:387", after := #[{ on := 15, ground := .data }], guard := none }) (v := ?_) rfl (by decide) (by kernel_rfl) (by kernel_rfl) (fun _ _ _ h => h) (Or.inl ⟨by rfl, ?_⟩) (by assumption) ?_
                    rotate_left
                    · intro w hSw
                      (try dsimp only at hSw)
                      obtain ⟨h1, h2, ⟨h3, h4, h5, h6, h7⟩, ⟨h8, h9, h10, h11⟩⟩ := hSw; (go_simp; try (with_reducible rfl))
                    try simp only [Act.put, List.setIfInBounds_toArray, List.set_cons_zero, List.set_cons_succ]
                    refine HL.take_ (i := 17) (oi := { dst := some 225, op := .move (.tmp 13), type := 3, pos := "ref.go:387", after := #[], guard := none }) (v := ?_) rfl (by decide) (by kernel_rfl) (by kernel_rfl) (fun _ _ _ h => h) (Or.inl ⟨by rfl, ?_⟩) (by assumption) ?_
                    rotate_left
                    · intro w hSw
                      (try dsimp only at hSw)
                      obtain ⟨h1, h2, ⟨h3, h4, h5, h6, h7⟩, ⟨h8, h9, h10, h11⟩⟩ := hSw; (go_simp; try (with_reducible rfl))
                    try simp only [Act.put, List.setIfInBounds_toArray, List.set_cons_zero, List.set_cons_succ]
                    refine HL.take_ (i := 18) (oi := { dst := some 226, op := .indexAddr 23 (.tmp 224) (.tmp 225), type := 0, pos := "ref.go:387", after := #[{ on := 16, ground := .data }, { on := 17, ground := .data }], guard := none }) (v := ?_) rfl (by decide) (by kernel_rfl) (by kernel_rfl) (fun _ _ _ h => h) (Or.inl ⟨by rfl, ?_⟩) (by assumption) ?_
                    rotate_left
                    · intro w hSw
                      (try dsimp only at hSw)
                      obtain ⟨h1, h2, ⟨h3, h4, h5, h6, h7⟩, ⟨h8, h9, h10, h11⟩⟩ := hSw; (go_simp; try (with_reducible rfl))
                    try simp only [Act.put, List.setIfInBounds_toArray, List.set_cons_zero, List.set_cons_succ]
                    refine HL.take_ (i := 19) (oi := { dst := some 227, op := .load 73 (.tmp 226), type := 73, pos := "ref.go:387", after := #[{ on := 18, ground := .data }], guard := none }) (v := ?_) rfl (by decide) (by kernel_rfl) (by kernel_rfl) (fun _ _ _ h => h) (Or.inl ⟨by rfl, ?_⟩) (by assumption) ?_
                    rotate_left
                    · intro w hSw
                      (try dsimp only at hSw)
                      obtain ⟨h1, h2, ⟨h3, h4, h5, h6, h7⟩, ⟨h8, h9, h10, h11⟩⟩ := hSw; (go_simp; try (with_reducible rfl))
                    try simp only [Act.put, List.setIfInBounds_toArray, List.set_cons_zero, List.set_cons_succ]
                    refine HL.step_ (i := 20) (o := { dst := some 228, op := .call { callee := .value (.func 28), args := #[.tmp 217, .tmp 222, .tmp 227], argTypes := #[32, 35, 73] }, type := 46, pos := "ref.go:387", after := #[{ on := 9, ground := .data }, { on := 14, ground := .data }, { on := 19, ground := .data }], guard := none }) rfl (by decide) (by kernel_rfl) (fun K hK => ?_)
                    go_simp
                    refine (stmt_calls W.drew (.slice sA sn sc) (.slice eA k ec) G0 gc L lc S tc n fc gA la ta gF 0 (.int .i64 nm) (.int .i64 (par : Nat)) (.slice bA bn bc) (parD f) a0 a1 a2 a3 (by have := KN.out.2.2.1; have := KP.out.locals; unfold nlD at this; omega) (by have := KN.out.2.2.1; have := KP.out.locals; have := nl_lt f q; omega) (by omega) hn0 (by omega) (by have := KN.out.2.2.2.1; have := KP.out.sites; unfold nsD at this; omega) (by have := KN.out.2.2.2.1; have := KP.out.sites; have := ns_lt q; omega) hb1 hb2 hb3 (fun p hp => show W.cell? _ = _ from KPAR.out p hp) (fun p => by have := par_lt f p; omega)).mono ?_
                    rintro e w3 ⟨vs, rfl, hC, hb3⟩
                    have hb4 : Below W.heap.size W w3 := ⟨hb3.os, hb3.tape, hb3.output, hb3.size, hb3.block⟩
                    obtain ⟨s, hs⟩ : ∃ s, s = (stmtS G0 n L S (parD f) a0 a1 a2 a3) := ⟨_, rfl⟩
                    rw [← hs] at hC
                    obtain ⟨k7, ak7, ai7, bk7, bi7, args7, body7⟩ := s
                    obtain ⟨aa7, al7, ac7, ba7, bl7, bc7, hvs, _, _⟩ := (cells7_def _ _ _ _ _ _ _ _ _).1 (hC [] (by simp))
                    obtain rfl : vs = #[.int .u8 k7, .int .u8 ak7, .int .i64 ai7, .int .u8 bk7, .int .i64 bi7, .slice aa7 al7 ac7, .slice ba7 bl7 bc7] := by
                      apply Array.ext'
                      rw [hvs]
                    have HC := Lib.hid (hC (rblk ([⟨9, 1, .slice sA sn sc, sn, strs (mk2 g f n).1⟩, ⟨3, 1, .slice gA G0 gc, G0, ints (natInts G0)⟩, ⟨35, 5, .slice (some ⟨gF, 0, none⟩) n fc, n, fxsOf l⟩, ⟨3, 1, .slice eA k ec, k, ints (entD e n)⟩] ++ rowsOf l) ++ bsM w.heap.size bs) (fun b hb => by
                      show b < W.heap.size
                      rcases List.mem_append.1 hb with hb | hb
                      · exact (HOW.out.rblk_lt hb).2
                      · have := bsM_lt HBS.out hb; have := HXW.out.size; omega))
                    have HS7 := Lib.hid hs
                    have HX3 := Lib.hid (HXW.out.next hb4)
                    have HO3 := Lib.hid (HOW.out.below hb4)
                    have HF3 := Lib.hid (show ∀ x ∈ l, FBok (sans w3 (rblk ([⟨9, 1, .slice sA sn sc, sn, strs (mk2 g f n).1⟩, ⟨3, 1, .slice gA G0 gc, G0, ints (natInts G0)⟩, ⟨35, 5, .slice (some ⟨gF, 0, none⟩) n fc, n, fxsOf l⟩, ⟨3, 1, .slice eA k ec, k, ints (entD e n)⟩] ++ rowsOf l) ++ bsM w.heap.size bs)) x from fun x hx => (HFW.out x hx).sub (sub_sans_below hb4))
                    have KF3 := Lib.hid (KF.out.sub (sub_sans_below hb4))
                    have hz3 : W.heap.size ≤ w3.heap.size := hb4.size
                    clear hs hC hb3 hb4 hvs
                    clear c1 f1 z1 c3 f3 z3 k0 k1 k2 k3 k4 g0 g1 g2 g3
                    refine hK.out _ _ ⟨(blk3 HX3.out.m).1, (blk3 HX3.out.box).1, (HFIVE.out _ _ HO3.out rfl).1, HACT.out _ HX3.out.below⟩ (fun hHeld => ?_)
                    clear hK K
                    try simp only [Act.put, List.setIfInBounds_toArray, List.set_cons_zero, List.set_cons_succ]
                    refine HL.step_ (i := 21) (o := { dst := some 229, op := .buildSlice 22 1 #[(0, .tmp 228)], type := 22, pos := "ref.go:387", after := #[{ on := 20, ground := .data }], guard := none }) rfl (by decide) (by kernel_rfl) (fun K hK => ?_)
                    go_simp
                    have HX4 := Lib.hid (HX3.out.alloc (.cells #[.int .u8 k7, .int .u8 ak7, .int .i64 ai7, .int .u8 bk7, .int .i64 bi7, .slice aa7 al7 ac7, .slice ba7 bl7 bc7] 46))
                    have HO4 := Lib.hid (HO3.out.below ((Below.refl _ _).alloc (Nat.le_refl _) (.cells #[.int .u8 k7, .int .u8 ak7, .int .i64 ai7, .int .u8 bk7, .int .i64 bi7, .slice aa7 al7 ac7, .slice ba7 bl7 bc7] 46)))
                    refine hK.out _ _ ⟨(blk3 HX4.out.m).1, (blk3 HX4.out.box).1, (HFIVE.out _ _ HO4.out rfl).1, HACT.out _ HX4.out.below⟩ (fun hHeld => ?_)
                    clear hK K
                    try simp only [Act.put, List.setIfInBounds_toArray, List.set_cons_zero, List.set_cons_succ]
                    refine HL.step_ (i := 22) (o := { dst := some 230, op := .call { callee := .builtin .append, args := #[.tmp 216, .tmp 229], argTypes := #[22, 22] }, type := 22, pos := "ref.go:387", after := #[{ on := 8, ground := .data }, { on := 21, ground := .data }, { on := 20, ground := .chain }], guard := none }) rfl (by decide) (by kernel_rfl) (fun K hK => ?_)
                    rw [if_pos (by rfl)]
                    refine append_at (B := w.heap.size + 3) (W := w3.alloc (.cells #[.int .u8 k7, .int .u8 ak7, .int .i64 ai7, .int .u8 bk7, .int .i64 bi7, .slice aa7 al7 ac7, .slice ba7 bl7 bc7] 46)) (4 + q) ([⟨9, 1, .slice sA sn sc, sn, strs (mk2 g f n).1⟩, ⟨3, 1, .slice gA G0 gc, G0, ints (natInts G0)⟩, ⟨35, 5, .slice (some ⟨gF, 0, none⟩) n fc, n, fxsOf l⟩, ⟨3, 1, .slice eA k ec, k, ints (entD e n)⟩] ++ rowsOf l) _ _ 22 46 (.agg #[.int .u8 0, .int .u8 0, .int .i64 0, .int .u8 0, .int .i64 0, .slice none 0 0, .slice none 0 0]) 7 88 rfl Try.underlying22 info46 rfl (by decide) (.slice bA bn bc) bn x.cells rfl HO4.out KROW.out ⟨w3.heap.size, 0, none⟩ 1 1 #[.int .u8 k7, .int .u8 ak7, .int .i64 ai7, .int .u8 bk7, .int .i64 bi7, .slice aa7 al7 ac7, .slice ba7 bl7 bc7].toList rfl rfl (new_cells _ _ _ _) (one7 _ _ _ _ _ _ _ _ _ _ _) (by have := HX3.out.size; simp; omega) (by omega) (by omega) ?_
                    intro bA1 bc1 w6 hg
                    have HX6 := Lib.hid (HX4.out.keep hg.below)
                    have HO6 := Lib.hid hg.owns
                    have HS6 := Lib.hid ((sub_sans_below ((Below.refl w3.heap.size w3).alloc (Nat.le_refl _) (.cells #[.int .u8 k7, .int .u8 ak7, .int .i64 ai7, .int .u8 bk7, .int .i64 bi7, .slice aa7 al7 ac7, .slice ba7 bl7 bc7] 46))).trans (hg.sub (bsM w.heap.size bs)))
                    have hr2 : (([⟨9, 1, .slice sA sn sc, sn, strs (mk2 g f n).1⟩, ⟨3, 1, .slice gA G0 gc, G0, ints (natInts G0)⟩, ⟨35, 5, .slice (some ⟨gF, 0, none⟩) n fc, n, fxsOf l⟩, ⟨3, 1, .slice eA k ec, k, ints (entD e n)⟩] ++ rowsOf l : List Row).set (4 + q) ⟨46, 7, .slice bA1 (bn + 1) bc1, bn + 1, x.cells ++ #[.int .u8 k7, .int .u8 ak7, .int .i64 ai7, .int .u8 bk7, .int .i64 bi7, .slice aa7 al7 ac7, .slice ba7 bl7 bc7].toList⟩)[2]? = some ⟨35, 5, .slice (some ⟨gF, 0, none⟩) n fc, n, fxsOf l⟩ := by rw [List.getElem?_set_ne (by omega)]; rfl
                    have HR2 := Lib.hid hr2
                    obtain ⟨k05, f4⟩ := HFIVE.out _ _ hg.owns hr2
                    clear hg hr2
                    refine hK.out _ _ ⟨(blk3 HX6.out.m).1, (blk3 HX6.out.box).1, k05, HACT.out _ HX6.out.below⟩ (fun hHeld => ?_)
                    clear hK K
                    try simp only [Act.put, List.setIfInBounds_toArray, List.set_cons_zero, List.set_cons_succ]
                    refine HL.take_ (i := 23) (oi := { dst := some 231, op := .indexAddr 30 (.tmp 209) (.tmp 210), type := 0, pos := "ref.go:387", after := #[{ on := 1, ground := .data }, { on := 2, ground := .data }, { on := 0, ground := .phase }, { on := 1, ground := .phase }, { on := 2, ground := .phase }, { on := 3, ground := .phase }, { on := 4, ground := .phase }, { on := 5, ground := .phase }, { on := 6, ground := .phase }, { on := 7, ground := .phase }, { on := 8, ground := .phase }, { on := 9, ground := .phase }, { on := 10, ground := .phase }, { on := 11, ground := .phase }, { on := 12, ground := .phase }, { on := 13, ground := .phase }, { on := 14, ground := .phase }, { on := 15, ground := .phase }, { on := 16, ground := .phase }, { on := 17, ground := .phase }, { on := 18, ground := .phase }, { on := 19, ground := .phase }, { on := 20, ground := .phase }, { on := 21, ground := .phase }, { on := 22, ground := .phase }], guard := none }) (v := ?_) rfl (by decide) (by kernel_rfl) (by kernel_rfl) (fun _ _ _ h => h) (Or.inl ⟨by rfl, ?_⟩) (by assumption) ?_
                    rotate_left
                    · intro w hSw
                      (try dsimp only at hSw)
                      obtain ⟨h1, h2, ⟨h3, h4, h5, h6, h7⟩, ⟨h8, h9, h10, h11⟩⟩ := hSw; (go_simp; try (with_reducible rfl))
                    try simp only [Act.put, List.setIfInBounds_toArray, List.set_cons_zero, List.set_cons_succ]
                    refine HL.take_ (i := 24) (oi := { dst := some 232, op := .fieldAddr 35 (.tmp 231) 4, type := 0, pos := "ref.go:387", after := #[{ on := 23, ground := .data }, { on := 0, ground := .phase }, { on := 1, ground := .phase }, { on := 2, ground := .phase }, { on := 3, ground := .phase }, { on := 4, ground := .phase }, { on := 5, ground := .phase }, { on := 6, ground := .phase }, { on := 7, ground := .phase }, { on := 8, ground := .phase }, { on := 9, ground := .phase }, { on := 10, ground := .phase }, { on := 11, ground := .phase }, { on := 12, ground := .phase }, { on := 13, ground := .phase }, { on := 14, ground := .phase }, { on := 15, ground := .phase }, { on := 16, ground := .phase }, { on := 17, ground := .phase }, { on := 18, ground := .phase }, { on := 19, ground := .phase }, { on := 20, ground := .phase }, { on := 21, ground := .phase }, { on := 22, ground := .phase }], guard := none }) (v := ?_) rfl (by decide) (by kernel_rfl) (by kernel_rfl) (fun _ _ _ h => h) (Or.inl ⟨by rfl, ?_⟩) (by assumption) ?_
                    rotate_left
                    · intro w hSw
                      (try dsimp only at hSw)
                      obtain ⟨h1, h2, ⟨h3, h4, h5, h6, h7⟩, ⟨h8, h9, h10, h11⟩⟩ := hSw; (go_simp; try (with_reducible rfl))
                    try simp only [Act.put, List.setIfInBounds_toArray, List.set_cons_zero, List.set_cons_succ]
                    refine HL.done_ (by kernel_rfl) ?_
                    simp only [List.drop_succ_cons, List.drop_zero]
                    clear hHeld
                    obtain ⟨_, _, _, _, k4⟩ := k05
                    go_wp2
                    obtain ⟨y, hy⟩ : ∃ y : FB, y = { x with bA := bA1, bc := bc1, fn := { x.fn with body := x.fn.body ++ [St.mk k7 ak7 ai7 bk7 bi7 args7 body7] }, cells := x.cells ++ #[.int .u8 k7, .int .u8 ak7, .int .i64 ai7, .int .u8 bk7, .int .i64 bi7, .slice aa7 al7 ac7, .slice ba7 bl7 bc7].toList } := ⟨_, rfl⟩
                    have hyr : y.row = ⟨46, 7, .slice bA1 (bn + 1) bc1, bn + 1, x.cells ++ #[.int .u8 k7, .int .u8 ak7, .int .i64 ai7, .int .u8 bk7, .int .i64 bi7, .slice aa7 al7 ac7, .slice ba7 bl7 bc7].toList⟩ := by
                      rw [hy]
                      unfold FB.row FB.bv
                      rw [KN.out.2.2.2.2.1]
                      show (⟨_, _, Value.slice _ (_ ++ _ : List St).length _, (_ ++ _ : List St).length, _⟩ : Row) = _
                      rw [List.length_append]; rfl
                    have hyv : y.bv = .slice bA1 (bn + 1) bc1 := congrArg Row.v hyr
                    have hy5 : y.five = x.five.set 4 (.slice bA1 (bn + 1) bc1) := by
                      rw [← hyv, hy]; rfl
                    have hss := HS6.out.trans (sub_store_at (i := 2) (g := gF) (j := q * 5 + 4) (u := .slice bA1 (bn + 1) bc1) (bs := bsM w.heap.size bs) (r := ⟨35, 5, .slice (some ⟨gF, 0, none⟩) n fc, n, fxsOf l⟩) (r' := ⟨35, 5, .slice (some ⟨gF, 0, none⟩) n fc, n, (fxsOf l).set (q * 5 + 4) (.slice bA1 (bn + 1) bc1)⟩) HR2.out rfl rfl)
                    have ho7 := HO6.out.set_store HR2.out (g := gF) rfl (q * 5 + 4) (.slice bA1 (bn + 1) bc1)
                    rw [rows_set hyr] at ho7 hss
                    rw [← fxsOf_set KX.out hy5] at ho7 hss
                    replace hss : Sub (sans w3 (rblk ([⟨9, 1, .slice sA sn sc, sn, strs (mk2 g f n).1⟩, ⟨3, 1, .slice gA G0 gc, G0, ints (natInts G0)⟩, ⟨35, 5, .slice (some ⟨gF, 0, none⟩) n fc, n, fxsOf l⟩, ⟨3, 1, .slice eA k ec, k, ints (entD e n)⟩] ++ rowsOf l) ++ bsM w.heap.size bs)) (sans (w6.setCell ⟨gF, q * 5 + 4, none⟩ (.slice bA1 (bn + 1) bc1)) (rblk ([⟨9, 1, .slice sA sn sc, sn, strs (mk2 g f n).1⟩, ⟨3, 1, .slice gA G0 gc, G0, ints (natInts G0)⟩, ⟨35, 5, .slice (some ⟨gF, 0, none⟩) n fc, n, fxsOf (l.set q y)⟩, ⟨3, 1, .slice eA k ec, k, ints (entD e n)⟩] ++ rowsOf (l.set q y)) ++ bsM w.heap.size bs)) := hss
                    refine ⟨⟨i + 1, l.set q y, by omega, by go_num, ?_, HX6.out.far (p := ⟨gF, q * 5 + 4, none⟩) (by show w.heap.size + 3 ≤ gF; omega) _, ho7, ?_, ?_⟩, by simp [intOf]; omega⟩
                    · refine fb_step (d := ⟨g, f, e, acts⟩) (s := St.mk k7 ak7 ai7 bk7 bi7 args7 body7) HL1.out KX.out ?_ ?_ (by rw [hy])
                      · show q = jD (nD f) acts.length i
                        rw [← HN.out, HA.out.1]; exact HQ.out
                      · rw [HS7.out]
                        show stmtS G0 n L S (parD f) a0 a1 a2 a3 = stmtS (g % 4) (nD f) (nlD f q) (nsD q) (parD f) (actAt acts i).1 (actAt acts i).2.1 (actAt acts i).2.2.1 (actAt acts i).2.2.2
                        rw [← KA4.out, ← HG0.out, ← HN.out, KN.out.2.2.1, KN.out.2.2.2.1, KP.out.locals, KP.out.sites]
                    · show ∀ z ∈ l.set q y, _
                      intro z hz
                      rcases mem_set_or hz with hz | hz
                      · exact (HF3.out z hz).sub hss
                      · rw [hz]
                        exact FBok.grow hy (KF3.out.sub hss) (Cells7.sub hss _ HC.out)
                    · show ∀ z ∈ l.set q y, _
                      intro z hz
                      rcases mem_set_or hz with hz | rfl
                      · have := HL2.out z hz; omega
                      · rw [hy]
                        show (_ ++ _ : List St).length ≤ _
                        rw [List.length_append, ← KN.out.2.2.2.2.1]
                        simp
                        omega
                  · -- what is read
                    have HXW := Lib.hid (show BX w ((wc.alloc (.cells #[.bool true] 4)).drew) #[.int .u8 g, .int .u8 f, .int .u8 e, .slice aa an ac] (.slice sA sn sc) (.slice gA G0 gc) (.slice (some ⟨gF, 0, none⟩) n fc) (.slice eA k ec) from (HX.out.alloc _).keep ((Below.refl _ _).drew))
                    have HOW := Lib.hid (show Owns ((wc.alloc (.cells #[.bool true] 4)).drew) (w.heap.size + 3) ([⟨9, 1, .slice sA sn sc, sn, strs (mk2 g f n).1⟩, ⟨3, 1, .slice gA G0 gc, G0, ints (natInts G0)⟩, ⟨35, 5, .slice (some ⟨gF, 0, none⟩) n fc, n, fxsOf l⟩, ⟨3, 1, .slice eA k ec, k, ints (entD e n)⟩] ++ rowsOf l) from HO.out.below (((Below.refl _ _).alloc (Nat.le_refl _) _).drew))
                    have HFW := Lib.hid (show ∀ x ∈ l, FBok (sans ((wc.alloc (.cells #[.bool true] 4)).drew) (rblk ([⟨9, 1, .slice sA sn sc, sn, strs (mk2 g f n).1⟩, ⟨3, 1, .slice gA G0 gc, G0, ints (natInts G0)⟩, ⟨35, 5, .slice (some ⟨gF, 0, none⟩) n fc, n, fxsOf l⟩, ⟨3, 1, .slice eA k ec, k, ints (entD e n)⟩] ++ rowsOf l) ++ bsM w.heap.size bs)) x from fun x hx => (HF.out x hx).sub (sub_sans_below (((Below.refl _ _).alloc (Nat.le_refl _) _).drew)))
                    obtain ⟨W, hW⟩ : ∃ W, W = (wc.alloc (.cells #[.bool true] 4)).drew := ⟨_, rfl⟩
                    rw [← hW] at HXW HOW HFW ⊢
                    clear hW HX HO HF c1 f1 z1 c3 f3 z3
                    have HLn := Lib.hid (show l.length = n by have := congrArg List.length HL1.out; rw [List.length_map, bodD_length] at this; rw [this]; exact HN.out.symm)
                    obtain ⟨x, hx⟩ : ∃ x, l[q]? = some x := ⟨_, List.getElem?_eq_getElem (show q < l.length by rw [HLn.out]; exact hqn)⟩
                    have hfx := HFW.out x (List.mem_of_getElem? hx)
                    have hpx : Placed f _ q x.fn := bodD_placed ⟨g, f, e, acts⟩ i q x.fn (by rw [← HL1.out, List.getElem?_map, hx]; rfl)
                    have hbn := HL2.out x (List.mem_of_getElem? hx)
                    obtain ⟨la, lc, hlv, _⟩ := hfx.lv.shape
                    obtain ⟨ta, tc, hsv, _⟩ := hfx.sv.shape
                    obtain ⟨nm, hnm⟩ : ∃ z, z = x.nm := ⟨_, rfl⟩
                    obtain ⟨par, hpar⟩ : ∃ z, z = x.par := ⟨_, rfl⟩
                    obtain ⟨L, hL⟩ : ∃ z, z = x.fn.locals.length := ⟨_, rfl⟩
                    obtain ⟨S, hS⟩ : ∃ z, z = x.fn.sites.length := ⟨_, rfl⟩
                    obtain ⟨bn, hbn'⟩ : ∃ z, z = x.fn.body.length := ⟨_, rfl⟩
                    obtain ⟨bA, hbA⟩ : ∃ z, z = x.bA := ⟨_, rfl⟩
                    obtain ⟨bc, hbc⟩ : ∃ z, z = x.bc := ⟨_, rfl⟩
                    have HFIVE := Lib.hid (show ∀ (V : World) (rs : List Row), Owns V (w.heap.size + 3) rs → rs[2]? = some ⟨35, 5, .slice (some ⟨gF, 0, none⟩) n fc, n, fxsOf l⟩ → (V.cell? ⟨gF, q * 5, none⟩ = some (.int .i64 nm) ∧ V.cell? ⟨gF, q * 5 + 1, none⟩ = some (.int .i64 (par : Nat)) ∧ V.cell? ⟨gF, q * 5 + 2, none⟩ = some (.slice la L lc) ∧ V.cell? ⟨gF, q * 5 + 3, none⟩ = some (.slice ta S tc) ∧ V.cell? ⟨gF, q * 5 + 4, none⟩ = some (.slice bA bn bc)) ∧ V.frozen? ⟨gF, q * 5 + 4, none⟩ = false from fun V rs h hr => by
                      have h1 := five_cells h hr hx
                      rw [hlv, hsv, ← hnm, ← hpar, ← hL, ← hS, FB.bv, ← hbn', ← hbA, ← hbc] at h1
                      exact h1)
                    obtain ⟨k0, k1, k2, k3, k4⟩ := (HFIVE.out W _ HOW.out rfl).1
                    have KROW := Lib.hid (show ([⟨9, 1, .slice sA sn sc, sn, strs (mk2 g f n).1⟩, ⟨3, 1, .slice gA G0 gc, G0, ints (natInts G0)⟩, ⟨35, 5, .slice (some ⟨gF, 0, none⟩) n fc, n, fxsOf l⟩, ⟨3, 1, .slice eA k ec, k, ints (entD e n)⟩] ++ rowsOf l)[4 + q]? = some ⟨46, 7, .slice bA bn bc, bn, x.cells⟩ from by rw [row_at hx, FB.row, FB.bv, ← hbn', ← hbA, ← hbc])
                    have hParams : ∀ p, p < n → W.cell? ⟨gF, 0 + p * 5 + 1, none⟩ = some (.int .i64 (parD f p : Nat)) := fun p hp => by
                      obtain ⟨y, hy⟩ : ∃ y, l[p]? = some y := ⟨_, List.getElem?_eq_getElem (show p < l.length by rw [HLn.out]; exact hp)⟩
                      have h1 : Placed f _ p y.fn := bodD_placed ⟨g, f, e, acts⟩ i p y.fn (by rw [← HL1.out, List.getElem?_map, hy]; rfl)
                      have h2 := (row_cell (HOW.out.at (i := 2) rfl) (show (fxsOf l)[p * 5 + 1]? = some (.int .i64 (y.par : Nat)) by rw [fxsOf_at hy 1 (by decide)]; rfl)).1
                      rw [(HFW.out y (List.mem_of_getElem? hy)).par, h1.params] at h2
                      rw [Nat.zero_add]
                      exact h2
                    obtain ⟨hal, _, hacts, hac0⟩ := HA.out
                    obtain ⟨ab, ao, rfl, hac⟩ := hac0 (by omega)
                    have hact := hacts i hlt6
                    have hcs := hac i hlt6
                    obtain ⟨⟨a0, a1, a2, a3⟩, hA4⟩ : ∃ z, z = actAt acts i := ⟨_, rfl⟩
                    rw [← hA4] at hact hcs
                    have haW : ∀ p v, w.cell? p = some v → W.cell? p = some v := sub_below HXW.out.below
                    have abw : ab < w.heap.size := World.block_lt_of_cell? w _ hcs.1
                    obtain ⟨g0, g1, g2, g3⟩ := hcs
                    have HACT := Lib.hid (show ∀ V : World, Below w.heap.size w V → V.cell? ⟨ab, ao + i * 4, none⟩ = some (.int .u8 (a0 : Nat)) ∧ V.cell? ⟨ab, ao + i * 4 + 1, none⟩ = some (.int .u8 (a1 : Nat)) ∧ V.cell? ⟨ab, ao + i * 4 + 2, none⟩ = some (.int .u8 (a2 : Nat)) ∧ V.cell? ⟨ab, ao + i * 4 + 3, none⟩ = some (.int .u8 (a3 : Nat)) from fun V hV => ⟨sub_below hV _ _ g0, sub_below hV _ _ g1, sub_below hV _ _ g2, sub_below hV _ _ g3⟩)
                    replace g0 := haW _ _ g0
                    replace g1 := haW _ _ g1
                    replace g2 := haW _ _ g2
                    replace g3 := haW _ _ g3
                    obtain ⟨hb0, hb1, hb2, hb3⟩ := hact
                    have KX := Lib.hid hx
                    have KF := Lib.hid hfx
                    have KP := Lib.hid hpx
                    have KPAR := Lib.hid hParams
                    have KN := Lib.hid (And.intro hnm (And.intro hpar (And.intro hL (And.intro hS (And.intro hbn' (And.intro hbA hbc))))))
                    have KLV := Lib.hid hlv
                    have KSV := Lib.hid hsv
                    have KA4 := Lib.hid hA4
                    rw [← hbn'] at hbn
                    have hgFw2 : gF < W.heap.size := World.block_lt_of_cell? W _ k0
                    clear hx hfx hpx hlv hsv hnm hpar hL hS hbn' hbA hbc hParams hal hacts hac hac0 hA4 haW
                    obtain ⟨c1, f1, z1⟩ := blk3 HXW.out.box
                    obtain ⟨c3, f3, z3⟩ := blk3 HXW.out.m
                    go_upto_region 40 with (fail)
                    go_cut [201, 202, 204] from 184 to 232 (fun s201 s202 s204 wx => ∃ (bA1 : Option Addr) (bc1 : Nat) (k7 ak7 ai7 bk7 bi7 : Int) (aa7 ba7 : Option Addr) (al7 ac7 bl7 bc7 : Nat) (args7 : List (Int × Int)) (body7 : List St), s201 = .agg #[.int .u8 k7, .int .u8 ak7, .int .i64 ai7, .int .u8 bk7, .int .i64 bi7, .slice aa7 al7 ac7, .slice ba7 bl7 bc7] ∧ s202 = .int .i64 (bn : Nat) ∧ s204 = .slice bA1 (bn + 1) bc1 ∧ Hid ((St.mk k7 ak7 ai7 bk7 bi7 args7 body7) = (stmtS G0 n L S (parD f) a0 a1 a2 a3)) ∧ Hid (Cells7 (sans wx (rblk ((([⟨9, 1, .slice sA sn sc, sn, strs (mk2 g f n).1⟩, ⟨3, 1, .slice gA G0 gc, G0, ints (natInts G0)⟩, ⟨35, 5, .slice (some ⟨gF, 0, none⟩) n fc, n, fxsOf l⟩, ⟨3, 1, .slice eA k ec, k, ints (entD e n)⟩] ++ rowsOf l : List Row).set (4 + q) ⟨46, 7, .slice bA1 (bn + 1) bc1, bn + 1, x.cells ++ #[.int .u8 0, .int .u8 0, .int .i64 0, .int .u8 0, .int .i64 0, .slice none 0 0, .slice none 0 0].toList⟩).set 2 ⟨35, 5, .slice (some ⟨gF, 0, none⟩) n fc, n, (fxsOf l).set (q * 5 + 4) (.slice bA1 (bn + 1) bc1)⟩) ++ bsM w.heap.size bs)) #[.int .u8 k7, .int .u8 ak7, .int .i64 ai7, .int .u8 bk7, .int .i64 bi7, .slice aa7 al7 ac7, .slice ba7 bl7 bc7].toList (St.mk k7 ak7 ai7 bk7 bi7 args7 body7)) ∧ Hid (BX w wx #[.int .u8 g, .int .u8 f, .int .u8 e, .slice (some ⟨ab, ao, none⟩) an ac] (.slice sA sn sc) (.slice gA G0 gc) (.slice (some ⟨gF, 0, none⟩) n fc) (.slice eA k ec)) ∧ Hid (Owns wx (w.heap.size + 3) ((([⟨9, 1, .slice sA sn sc, sn, strs (mk2 g f n).1⟩, ⟨3, 1, .slice gA G0 gc, G0, ints (natInts G0)⟩, ⟨35, 5, .slice (some ⟨gF, 0, none⟩) n fc, n, fxsOf l⟩, ⟨3, 1, .slice eA k ec, k, ints (entD e n)⟩] ++ rowsOf l : List Row).set (4 + q) ⟨46, 7, .slice bA1 (bn + 1) bc1, bn + 1, x.cells ++ #[.int .u8 0, .int .u8 0, .int .i64 0, .int .u8 0, .int .i64 0, .slice none 0 0, .slice none 0 0].toList⟩).set 2 ⟨35, 5, .slice (some ⟨gF, 0, none⟩) n fc, n, (fxsOf l).set (q * 5 + 4) (.slice bA1 (bn + 1) bc1)⟩)) ∧ Hid (∀ zz ∈ l, FBok (sans wx (rblk ((([⟨9, 1, .slice sA sn sc, sn, strs (mk2 g f n).1⟩, ⟨3, 1, .slice gA G0 gc, G0, ints (natInts G0)⟩, ⟨35, 5, .slice (some ⟨gF, 0, none⟩) n fc, n, fxsOf l⟩, ⟨3, 1, .slice eA k ec, k, ints (entD e n)⟩] ++ rowsOf l : List Row).set (4 + q) ⟨46, 7, .slice bA1 (bn + 1) bc1, bn + 1, x.cells ++ #[.int .u8 0, .int .u8 0, .int .i64 0, .int .u8 0, .int .i64 0, .slice none 0 0, .slice none 0 0].toList⟩).set 2 ⟨35, 5, .slice (some ⟨gF, 0, none⟩) n fc, n, (fxsOf l).set (q * 5 + 4) (.slice bA1 (bn + 1) bc1)⟩) ++ bsM w.heap.size bs)) zz))
                    case first =>
                      refine wp_region_HL (S := (fun w' => (∀ o, w'.cell? ⟨w.heap.size + 1 + 1, o, none⟩ = (#[.slice sA sn sc, .slice gA G0 gc, .slice (some ⟨gF, 0, none⟩) n fc, .slice eA k ec] : Array Value)[o]?) ∧ (∀ o, w'.cell? ⟨w.heap.size, o, none⟩ = (#[.int .u8 g, .int .u8 f, .int .u8 e, .slice (some ⟨ab, ao, none⟩) an ac] : Array Value)[o]?) ∧ (w'.cell? ⟨gF, q * 5, none⟩ = some (.int .i64 nm) ∧ w'.cell? ⟨gF, q * 5 + 1, none⟩ = some (.int .i64 (par : Nat)) ∧ w'.cell? ⟨gF, q * 5 + 2, none⟩ = some (.slice la L lc) ∧ w'.cell? ⟨gF, q * 5 + 3, none⟩ = some (.slice ta S tc) ∧ w'.cell? ⟨gF, q * 5 + 4, none⟩ = some (.slice bA bn bc)) ∧ (w'.cell? ⟨ab, ao + i * 4, none⟩ = some (.int .u8 (a0 : Nat)) ∧ w'.cell? ⟨ab, ao + i * 4 + 1, none⟩ = some (.int .u8 (a1 : Nat)) ∧ w'.cell? ⟨ab, ao + i * 4 + 2, none⟩ = some (.int .u8 (a2 : Nat)) ∧ w'.cell? ⟨ab, ao + i * 4 + 3, none⟩ = some (.int .u8 (a3 : Nat))))) 23 (by kernel_rfl) (by kernel_rfl) (by kernel_rfl) (by kernel_rfl) (by decide) ⟨c3, c1, ⟨k0, k1, k2, k3, k4⟩, ⟨g0, g1, g2, g3⟩⟩ (fun hHeld => ?_)
                      refine HL.take_ (i := 0) (oi := { dst := some 184, op := .fieldAddr 32 (.tmp 3) 2, type := 0, pos := "ref.go:387", after := #[], guard := none }) (v := ?_) rfl (by decide) (by kernel_rfl) (by kernel_rfl) (fun _ _ _ h => h) (Or.inl ⟨by rfl, ?_⟩) (by assumption) ?_
                      rotate_left
                      · intro w hSw
                        (try dsimp only at hSw)
                        obtain ⟨h1, h2, ⟨h3, h4, h5, h6, h7⟩, ⟨h8, h9, h10, h11⟩⟩ := hSw; (go_simp; try (with_reducible rfl))
                      try simp only [Act.put, List.setIfInBounds_toArray, List.set_cons_zero, List.set_cons_succ]
                      refine HL.take_ (i := 1) (oi := { dst := some 185, op := .load 30 (.tmp 184), type := 30, pos := "ref.go:387", after := #[{ on := 0, ground := .data }], guard := none }) (v := ?_) rfl (by decide) (by kernel_rfl) (by kernel_rfl) (fun _ _ _ h => h) (Or.inl ⟨by rfl, ?_⟩) (by assumption) ?_
                      rotate_left
                      · intro w hSw
                        (try dsimp only at hSw)
                        obtain ⟨h1, h2, ⟨h3, h4, h5, h6, h7⟩, ⟨h8, h9, h10, h11⟩⟩ := hSw; (go_simp; try (with_reducible rfl))
                      try simp only [Act.put, List.setIfInBounds_toArray, List.set_cons_zero, List.set_cons_succ]
                      refine HL.take_ (i := 2) (oi := { dst := some 186, op := .move (.tmp 14), type := 3, pos := "ref.go:387", after := #[], guard := none }) (v := ?_) rfl (by decide) (by kernel_rfl) (by kernel_rfl) (fun _ _ _ h => h) (Or.inl ⟨by rfl, ?_⟩) (by assumption) ?_
                      rotate_left
                      · intro w hSw
                        (try dsimp only at hSw)
                        obtain ⟨h1, h2, ⟨h3, h4, h5, h6, h7⟩, ⟨h8, h9, h10, h11⟩⟩ := hSw; (go_simp; try (with_reducible rfl))
                      try simp only [Act.put, List.setIfInBounds_toArray, List.set_cons_zero, List.set_cons_succ]
                      refine HL.take_ (i := 3) (oi := { dst := some 187, op := .indexAddr 30 (.tmp 185) (.tmp 186), type := 0, pos := "ref.go:387", after := #[{ on := 1, ground := .data }, { on := 2, ground := .data }], guard := none }) (v := ?_) rfl (by decide) (by kernel_rfl) (by kernel_rfl) (fun _ _ _ h => h) (Or.inl ⟨by rfl, ?_⟩) (by assumption) ?_
                      rotate_left
                      · intro w hSw
                        (try dsimp only at hSw)
                        obtain ⟨h1, h2, ⟨h3, h4, h5, h6, h7⟩, ⟨h8, h9, h10, h11⟩⟩ := hSw; (go_simp; try (with_reducible rfl))
                      try simp only [Act.put, List.setIfInBounds_toArray, List.set_cons_zero, List.set_cons_succ]
                      refine HL.take_ (i := 4) (oi := { dst := some 188, op := .fieldAddr 35 (.tmp 187) 4, type := 0, pos := "ref.go:387", after := #[{ on := 3, ground := .data }], guard := none }) (v := ?_) rfl (by decide) (by kernel_rfl) (by kernel_rfl) (fun _ _ _ h => h) (Or.inl ⟨by rfl, ?_⟩) (by assumption) ?_
                      rotate_left
                      · intro w hSw
                        (try dsimp only at hSw)
                        obtain ⟨h1, h2, ⟨h3, h4, h5, h6, h7⟩, ⟨h8, h9, h10, h11⟩⟩ := hSw; (go_simp; try (with_reducible rfl))
                      try simp only [Act.put, List.setIfInBounds_toArray, List.set_cons_zero, List.set_cons_succ]
                      refine HL.take_ (i := 5) (oi := { dst := some 189, op := .load 22 (.tmp 188), type := 22, pos := "ref.go:387", after := #[{ on := 4, ground := .data }], guard := none }) (v := ?_) rfl (by decide) (by kernel_rfl) (by kernel_rfl) (fun _ _ _ h => h) (Or.inl ⟨by rfl, ?_⟩) (by assumption) ?_
                      rotate_left
                      · intro w hSw
                        (try dsimp only at hSw)
                        obtain ⟨h1, h2, ⟨h3, h4, h5, h6, h7⟩, ⟨h8, h9, h10, h11⟩⟩ := hSw; (go_simp; try (with_reducible rfl))
                      try simp only [Act.put, List.setIfInBounds_toArray, List.set_cons_zero, List.set_cons_succ]
                      refine HL.take_ (i := 6) (oi := { dst := some 190, op := .load 32 (.tmp 3), type := 32, pos := "ref.go:387", after := #[], guard := none }) (v := ?_) rfl (by decide) (by kernel_rfl) (by kernel_rfl) (fun _ _ _ h => h) (Or.inl ⟨by rfl, ?_⟩) (by assumption) ?_
                      rotate_left
                      · intro w hSw
                        (try dsimp only at hSw)
                        obtain ⟨h1, h2, ⟨h3, h4, h5, h6, h7⟩, ⟨h8, h9, h10, h11⟩⟩ := hSw; (go_simp; try (with_reducible rfl))
                      try simp only [Act.put, List.setIfInBounds_toArray, List.set_cons_zero, List.set_cons_succ]
                      refine HL.take_ (i := 7) (oi := { dst := some 191, op := .fieldAddr 32 (.tmp 3) 2, type := 0, pos := "ref.go:387", after := #[], guard := none }) (v := ?_) rfl (by decide) (by kernel_rfl) (by kernel_rfl) (fun _ _ _ h => h) (Or.inl ⟨by rfl, ?_⟩) (by assumption) ?_
                      rotate_left
                      · intro w hSw
                        (try dsimp only at hSw)
                        obtain ⟨h1, h2, ⟨h3, h4, h5, h6, h7⟩, ⟨h8, h9, h10, h11⟩⟩ := hSw; (go_simp; try (with_reducible rfl))
                      try simp only [Act.put, List.setIfInBounds_toArray, List.set_cons_zero, List.set_cons_succ]
                      refine HL.take_ (i := 8) (oi := { dst := some 192, op := .load 30 (.tmp 191), type := 30, pos := "ref.go:387", after := #[{ on := 7, ground := .data }], guard := none }) (v := ?_) rfl (by decide) (by kernel_rfl) (by kernel_rfl) (fun _ _ _ h => h) (Or.inl ⟨by rfl, ?_⟩) (by assumption) ?_
                      rotate_left
                      · intro w hSw
                        (try dsimp only at hSw)
                        obtain ⟨h1, h2, ⟨h3, h4, h5, h6, h7⟩, ⟨h8, h9, h10, h11⟩⟩ := hSw; (go_simp; try (with_reducible rfl))
                      try simp only [Act.put, List.setIfInBounds_toArray, List.set_cons_zero, List.set_cons_succ]
                      refine HL.take_ (i := 9) (oi := { dst := some 193, op := .move (.tmp 14), type := 3, pos := "ref.go:387", after := #[], guard := none }) (v := ?_) rfl (by decide) (by kernel_rfl) (by kernel_rfl) (fun _ _ _ h => h) (Or.inl ⟨by rfl, ?_⟩) (by assumption) ?_
                      rotate_left
                      · intro w hSw
                        (try dsimp only at hSw)
                        obtain ⟨h1, h2, ⟨h3, h4, h5, h6, h7⟩, ⟨h8, h9, h10, h11⟩⟩ := hSw; (go_simp; try (with_reducible rfl))
                      try simp only [Act.put, List.setIfInBounds_toArray, List.set_cons_zero, List.set_cons_succ]
                      refine HL.take_ (i := 10) (oi := { dst := some 194, op := .indexAddr 30 (.tmp 192) (.tmp 193), type := 0, pos := "ref.go:387", after := #[{ on := 8, ground := .data }, { on := 9, ground := .data }], guard := none }) (v := ?_) rfl (by decide) (by kernel_rfl) (by kernel_rfl) (fun _ _ _ h => h) (Or.inl ⟨by rfl, ?_⟩) (by assumption) ?_
                      rotate_left
                      · intro w hSw
                        (try dsimp only at hSw)
                        obtain ⟨h1, h2, ⟨h3, h4, h5, h6, h7⟩, ⟨h8, h9, h10, h11⟩⟩ := hSw; (go_simp; try (with_reducible rfl))
                      try simp only [Act.put, List.setIfInBounds_toArray, List.set_cons_zero, List.set_cons_succ]
                      refine HL.take_ (i := 11) (oi := { dst := some 195, op := .load 35 (.tmp 194), type := 35, pos := "ref.go:387", after := #[{ on := 10, ground := .data }], guard := none }) (v := ?_) rfl (by decide) (by kernel_rfl) (by kernel_rfl) (fun _ _ _ h => h) (Or.inl ⟨by rfl, ?_⟩) (by assumption) ?_
                      rotate_left
                      · intro w hSw
                        (try dsimp only at hSw)
                        obtain ⟨h1, h2, ⟨h3, h4, h5, h6, h7⟩, ⟨h8, h9, h10, h11⟩⟩ := hSw; (go_simp; try (with_reducible rfl))
                      try simp only [Act.put, List.setIfInBounds_toArray, List.set_cons_zero, List.set_cons_succ]
                      refine HL.take_ (i := 12) (oi := { dst := some 196, op := .fieldAddr 25 (.tmp 1) 3, type := 0, pos := "ref.go:387", after := #[], guard := none }) (v := ?_) rfl (by decide) (by kernel_rfl) (by kernel_rfl) (fun _ _ _ h => h) (Or.inl ⟨by rfl, ?_⟩) (by assumption) ?_
                      rotate_left
                      · intro w hSw
                        (try dsimp only at hSw)
                        obtain ⟨h1, h2, ⟨h3, h4, h5, h6, h7⟩, ⟨h8, h9, h10, h11⟩⟩ := hSw; (go_simp; try (with_reducible rfl))
                      try simp only [Act.put, List.setIfInBounds_toArray, List.set_cons_zero, List.set_cons_succ]
                      refine HL.take_ (i := 13) (oi := { dst := some 197, op := .load 23 (.tmp 196), type := 23, pos := "ref.go:387", after := #[{ on := 12, ground := .data }], guard := none }) (v := ?_) rfl (by decide) (by kernel_rfl) (by kernel_rfl) (fun _ _ _ h => h) (Or.inl ⟨by rfl, ?_⟩) (by assumption) ?_
                      rotate_left
                      · intro w hSw
                        (try dsimp only at hSw)
                        obtain ⟨h1, h2, ⟨h3, h4, h5, h6, h7⟩, ⟨h8, h9, h10, h11⟩⟩ := hSw; (go_simp; try (with_reducible rfl))
                      try simp only [Act.put, List.setIfInBounds_toArray, List.set_cons_zero, List.set_cons_succ]
                      refine HL.take_ (i := 14) (oi := { dst := some 198, op := .move (.tmp 13), type := 3, pos := "ref.go:387", after := #[], guard := none }) (v := ?_) rfl (by decide) (by kernel_rfl) (by kernel_rfl) (fun _ _ _ h => h) (Or.inl ⟨by rfl, ?_⟩) (by assumption) ?_
                      rotate_left
                      · intro w hSw
                        (try dsimp only at hSw)
                        obtain ⟨h1, h2, ⟨h3, h4, h5, h6, h7⟩, ⟨h8, h9, h10, h11⟩⟩ := hSw; (go_simp; try (with_reducible rfl))
                      try simp only [Act.put, List.setIfInBounds_toArray, List.set_cons_zero, List.set_cons_succ]
                      refine HL.take_ (i := 15) (oi := { dst := some 199, op := .indexAddr 23 (.tmp 197) (.tmp 198), type := 0, pos := "ref.go:387", after := #[{ on := 13, ground := .data }, { on := 14, ground := .data }], guard := none }) (v := ?_) rfl (by decide) (by kernel_rfl) (by kernel_rfl) (fun _ _ _ h => h) (Or.inl ⟨by rfl, ?_⟩) (by assumption) ?_
                      rotate_left
                      · intro w hSw
                        (try dsimp only at hSw)
                        obtain ⟨h1, h2, ⟨h3, h4, h5, h6, h7⟩, ⟨h8, h9, h10, h11⟩⟩ := hSw; (go_simp; try (with_reducible rfl))
                      try simp only [Act.put, List.setIfInBounds_toArray, List.set_cons_zero, List.set_cons_succ]
                      refine HL.take_ (i := 16) (oi := { dst := some 200, op := .load 73 (.tmp 199), type := 73, pos := "ref.go:387", after := #[{ on := 15, ground := .data }], guard := none }) (v := ?_) rfl (by decide) (by kernel_rfl) (by kernel_rfl) (fun _ _ _ h => h) (Or.inl ⟨by rfl, ?_⟩) (by assumption) ?_
                      rotate_left
                      · intro w hSw
                        (try dsimp only at hSw)
                        obtain ⟨h1, h2, ⟨h3, h4, h5, h6, h7⟩, ⟨h8, h9, h10, h11⟩⟩ := hSw; (go_simp; try (with_reducible rfl))
                      try simp only [Act.put, List.setIfInBounds_toArray, List.set_cons_zero, List.set_cons_succ]
                      refine HL.take_ (i := 18) (oi := { dst := some 202, op := .call { callee := .builtin .len, args := #[.tmp 189], argTypes := #[22] }, type := 3, pos := "ref.go:387", after := #[{ on := 5, ground := .data }], guard := none }) (v := ?_) rfl (by decide) (by kernel_rfl) (by kernel_rfl) (fun _ _ _ h => h) (Or.inl ⟨by rfl, ?_⟩) (by assumption) ?_
                      rotate_left
                      · intro w hSw
                        (try dsimp only at hSw)
                        obtain ⟨h1, h2, ⟨h3, h4, h5, h6, h7⟩, ⟨h8, h9, h10, h11⟩⟩ := hSw; (go_simp; try (with_reducible rfl))
                      try simp only [Act.put, List.setIfInBounds_toArray, List.set_cons_zero, List.set_cons_succ]
                      refine HL.step2_ (i := 17) (j := 19) (o := { dst := some 201, op := .call { callee := .value (.func 28), args := #[.tmp 190, .tmp 195, .tmp 200], argTypes := #[32, 35, 73] }, type := 46, pos := "ref.go:387", after := #[{ on := 6, ground := .data }, { on := 11, ground := .data }, { on := 16, ground := .data }], guard := none }) (o2 := { dst := some 203, op := .buildSlice 22 1 #[(0, .const (.agg #[.int .u8 0, .int .u8 0, .int .i64 0, .int .u8 0, .int .i64 0, .slice none 0 0, .slice none 0 0]))], type := 22, pos := "ref.go:387", after := #[], guard := none }) rfl rfl (by decide) (by decide) (by kernel_rfl) (fun K hK => ?_) (fun K hK => ?_)
                      · go_simp
                        refine (stmt_calls W.drew (.slice sA sn sc) (.slice eA k ec) G0 gc L lc S tc n fc gA la ta gF 0 (.int .i64 nm) (.int .i64 (par : Nat)) (.slice bA bn bc) (parD f) a0 a1 a2 a3 (by have := KN.out.2.2.1; have := KP.out.locals; unfold nlD at this; omega) (by have := KN.out.2.2.1; have := KP.out.locals; have := nl_lt f q; omega) (by omega) hn0 (by omega) (by have := KN.out.2.2.2.1; have := KP.out.sites; unfold nsD at this; omega) (by have := KN.out.2.2.2.1; have := KP.out.sites; have := ns_lt q; omega) hb1 hb2 hb3 (fun p hp => show W.cell? _ = _ from KPAR.out p hp) (fun p => by have := par_lt f p; omega)).mono ?_
                        rintro e w3 ⟨vs, rfl, hC, hb3⟩
                        have hb4 : Below W.heap.size W w3 := ⟨hb3.os, hb3.tape, hb3.output, hb3.size, hb3.block⟩
                        obtain ⟨s, hs⟩ : ∃ s, s = (stmtS G0 n L S (parD f) a0 a1 a2 a3) := ⟨_, rfl⟩
                        rw [← hs] at hC
                        obtain ⟨k7, ak7, ai7, bk7, bi7, args7, body7⟩ := s
                        obtain ⟨aa7, al7, ac7, ba7, bl7, bc7, hvs, _, _⟩ := (cells7_def _ _ _ _ _ _ _ _ _).1 (hC [] (by simp))
                        obtain rfl : vs = #[.int .u8 k7, .int .u8 ak7, .int .i64 ai7, .int .u8 bk7, .int .i64 bi7, .slice aa7 al7 ac7, .slice ba7 bl7 bc7] := by
                          apply Array.ext'
                          rw [hvs]
                        have HC := Lib.hid (hC (rblk ([⟨9, 1, .slice sA sn sc, sn, strs (mk2 g f n).1⟩, ⟨3, 1, .slice gA G0 gc, G0, ints (natInts G0)⟩, ⟨35, 5, .slice (some ⟨gF, 0, none⟩) n fc, n, fxsOf l⟩, ⟨3, 1, .slice eA k ec, k, ints (entD e n)⟩] ++ rowsOf l) ++ bsM w.heap.size bs) (fun b hb => by
                          show b < W.heap.size
                          rcases List.mem_append.1 hb with hb | hb
                          · exact (HOW.out.rblk_lt hb).2
                          · have := bsM_lt HBS.out hb; have := HXW.out.size; omega))
                        have HS7 := Lib.hid hs
                        have HX3 := Lib.hid (HXW.out.next hb4)
                        have HO3 := Lib.hid (HOW.out.below hb4)
                        have HF3 := Lib.hid (show ∀ x ∈ l, FBok (sans w3 (rblk ([⟨9, 1, .slice sA sn sc, sn, strs (mk2 g f n).1⟩, ⟨3, 1, .slice gA G0 gc, G0, ints (natInts G0)⟩, ⟨35, 5, .slice (some ⟨gF, 0, none⟩) n fc, n, fxsOf l⟩, ⟨3, 1, .slice eA k ec, k, ints (entD e n)⟩] ++ rowsOf l) ++ bsM w.heap.size bs)) x from fun x hx => (HFW.out x hx).sub (sub_sans_below hb4))
                        have KF3 := Lib.hid (KF.out.sub (sub_sans_below hb4))
                        have hz3 : W.heap.size ≤ w3.heap.size := hb4.size
                        clear hs hC hb3 hb4 hvs
                        clear c1 f1 z1 c3 f3 z3 k0 k1 k2 k3 k4 g0 g1 g2 g3
                        refine hK.out _ _ ⟨(blk3 HX3.out.m).1, (blk3 HX3.out.box).1, (HFIVE.out _ _ HO3.out rfl).1, HACT.out _ HX3.out.below⟩ (fun hHeld => ?_)
                        clear hK K
                        try simp only [Act.put, List.setIfInBounds_toArray, List.set_cons_zero, List.set_cons_succ]
                        refine HL.step_ (i := 19) (o := { dst := some 203, op := .buildSlice 22 1 #[(0, .const (.agg #[.int .u8 0, .int .u8 0, .int .i64 0, .int .u8 0, .int .i64 0, .slice none 0 0, .slice none 0 0]))], type := 22, pos := "ref.go:387", after := #[], guard := none }) rfl (by decide) (by kernel_rfl) (fun K hK => ?_)
                        go_simp
                        have HX4 := Lib.hid (HX3.out.alloc (.cells #[.int .u8 0, .int .u8 0, .int .i64 0, .int .u8 0, .int .i64 0, .slice none 0 0, .slice none 0 0] 46))
                        have HO4 := Lib.hid (HO3.out.below ((Below.refl _ _).alloc (Nat.le_refl _) (.cells #[.int .u8 0, .int .u8 0, .int .i64 0, .int .u8 0, .int .i64 0, .slice none 0 0, .slice none 0 0] 46)))
                        have HS4 := Lib.hid (show Sub (sans w3 (rblk ([⟨9, 1, .slice sA sn sc, sn, strs (mk2 g f n).1⟩, ⟨3, 1, .slice gA G0 gc, G0, ints (natInts G0)⟩, ⟨35, 5, .slice (some ⟨gF, 0, none⟩) n fc, n, fxsOf l⟩, ⟨3, 1, .slice eA k ec, k, ints (entD e n)⟩] ++ rowsOf l) ++ bsM w.heap.size bs)) (sans (w3.alloc (.cells #[.int .u8 0, .int .u8 0, .int .i64 0, .int .u8 0, .int .i64 0, .slice none 0 0, .slice none 0 0] 46)) (rblk ([⟨9, 1, .slice sA sn sc, sn, strs (mk2 g f n).1⟩, ⟨3, 1, .slice gA G0 gc, G0, ints (natInts G0)⟩, ⟨35, 5, .slice (some ⟨gF, 0, none⟩) n fc, n, fxsOf l⟩, ⟨3, 1, .slice eA k ec, k, ints (entD e n)⟩] ++ rowsOf l) ++ bsM w.heap.size bs)) from sub_sans_below ((Below.refl w3.heap.size w3).alloc (Nat.le_refl _) (.cells #[.int .u8 0, .int .u8 0, .int .i64 0, .int .u8 0, .int .i64 0, .slice none 0 0, .slice none 0 0] 46)))
                        refine hK.out _ _ ⟨(blk3 HX4.out.m).1, (blk3 HX4.out.box).1, (HFIVE.out _ _ HO4.out rfl).1, HACT.out _ HX4.out.below⟩ (fun hHeld => ?_)
                        clear hK K
                        try simp only [Act.put, List.setIfInBounds_toArray, List.set_cons_zero, List.set_cons_succ]
                        refine HL.step_ (i := 20) (o := { dst := some 204, op := .call { callee := .builtin .append, args := #[.tmp 189, .tmp 203], argTypes := #[22, 22] }, type := 22, pos := "ref.go:387", after := #[{ on := 5, ground := .data }, { on := 19, ground := .data }, { on := 17, ground := .chain }, { on := 0, ground := .phase }, { on := 1, ground := .phase }, { on := 2, ground := .phase }, { on := 3, ground := .phase }, { on := 4, ground := .phase }, { on := 5, ground := .phase }, { on := 6, ground := .phase }, { on := 7, ground := .phase }, { on := 8, ground := .phase }, { on := 9, ground := .phase }, { on := 10, ground := .phase }, { on := 11, ground := .phase }, { on := 12, ground := .phase }, { on := 13, ground := .phase }, { on := 14, ground := .phase }, { on := 15, ground := .phase }, { on := 16, ground := .phase }, { on := 17, ground := .phase }, { on := 18, ground := .phase }, { on := 19, ground := .phase }], guard := none }) rfl (by decide) (by kernel_rfl) (fun K hK => ?_)
                        rw [if_pos (by rfl)]
                        refine append_at (B := w.heap.size + 3) (W := w3.alloc (.cells #[.int .u8 0, .int .u8 0, .int .i64 0, .int .u8 0, .int .i64 0, .slice none 0 0, .slice none 0 0] 46)) (4 + q) ([⟨9, 1, .slice sA sn sc, sn, strs (mk2 g f n).1⟩, ⟨3, 1, .slice gA G0 gc, G0, ints (natInts G0)⟩, ⟨35, 5, .slice (some ⟨gF, 0, none⟩) n fc, n, fxsOf l⟩, ⟨3, 1, .slice eA k ec, k, ints (entD e n)⟩] ++ rowsOf l) _ _ 22 46 (.agg #[.int .u8 0, .int .u8 0, .int .i64 0, .int .u8 0, .int .i64 0, .slice none 0 0, .slice none 0 0]) 7 88 rfl Try.underlying22 info46 rfl (by decide) (.slice bA bn bc) bn x.cells rfl HO4.out KROW.out ⟨w3.heap.size, 0, none⟩ 1 1 #[.int .u8 0, .int .u8 0, .int .i64 0, .int .u8 0, .int .i64 0, .slice none 0 0, .slice none 0 0].toList rfl rfl (new_cells _ _ _ _) (one7 _ _ _ _ _ _ _ _ _ _ _) (by have := HX4.out.size; omega) (by omega) (by omega) ?_
                        intro bA1 bc1 w6 hg
                        have HX6 := Lib.hid (HX4.out.keep hg.below)
                        have HO6 := Lib.hid hg.owns
                        have HS6 := Lib.hid (HS4.out.trans (hg.sub (bsM w.heap.size bs)))
                        have hr2 : (([⟨9, 1, .slice sA sn sc, sn, strs (mk2 g f n).1⟩, ⟨3, 1, .slice gA G0 gc, G0, ints (natInts G0)⟩, ⟨35, 5, .slice (some ⟨gF, 0, none⟩) n fc, n, fxsOf l⟩, ⟨3, 1, .slice eA k ec, k, ints (entD e n)⟩] ++ rowsOf l : List Row).set (4 + q) ⟨46, 7, .slice bA1 (bn + 1) bc1, bn + 1, x.cells ++ #[.int .u8 0, .int .u8 0, .int .i64 0, .int .u8 0, .int .i64 0, .slice none 0 0, .slice none 0 0].toList⟩)[2]? = some ⟨35, 5, .slice (some ⟨gF, 0, none⟩) n fc, n, fxsOf l⟩ := by rw [List.getElem?_set_ne (by omega)]; rfl
                        have HR2 := Lib.hid hr2
                        obtain ⟨k05, f4⟩ := HFIVE.out _ _ hg.owns hr2
                        clear hg hr2
                        refine hK.out _ _ ⟨(blk3 HX6.out.m).1, (blk3 HX6.out.box).1, k05, HACT.out _ HX6.out.below⟩ (fun hHeld => ?_)
                        clear hK K
                        try simp only [Act.put, List.setIfInBounds_toArray, List.set_cons_zero, List.set_cons_succ]
                        refine HL.take_ (i := 21) (oi := { dst := some 205, op := .indexAddr 30 (.tmp 185) (.tmp 186), type := 0, pos := "ref.go:387", after := #[{ on := 1, ground := .data }, { on := 2, ground := .data }, { on := 0, ground := .phase }, { on := 1, ground := .phase }, { on := 2, ground := .phase }, { on := 3, ground := .phase }, { on := 4, ground := .phase }, { on := 5, ground := .phase }, { on := 6, ground := .phase }, { on := 7, ground := .phase }, { on := 8, ground := .phase }, { on := 9, ground := .phase }, { on := 10, ground := .phase }, { on := 11, ground := .phase }, { on := 12, ground := .phase }, { on := 13, ground := .phase }, { on := 14, ground := .phase }, { on := 15, ground := .phase }, { on := 16, ground := .phase }, { on := 17, ground := .phase }, { on := 18, ground := .phase }, { on := 19, ground := .phase }, { on := 20, ground := .phase }], guard := none }) (v := ?_) rfl (by decide) (by kernel_rfl) (by kernel_rfl) (fun _ _ _ h => h) (Or.inl ⟨by rfl, ?_⟩) (by assumption) ?_
                        rotate_left
                        · intro w hSw
                          (try dsimp only at hSw)
                          obtain ⟨h1, h2, ⟨h3, h4, h5, h6, h7⟩, ⟨h8, h9, h10, h11⟩⟩ := hSw; (go_simp; try (with_reducible rfl))
                        try simp only [Act.put, List.setIfInBounds_toArray, List.set_cons_zero, List.set_cons_succ]
                        refine HL.take_ (i := 22) (oi := { dst := some 206, op := .fieldAddr 35 (.tmp 205) 4, type := 0, pos := "ref.go:387", after := #[{ on := 21, ground := .data }, { on := 0, ground := .phase }, { on := 1, ground := .phase }, { on := 2, ground := .phase }, { on := 3, ground := .phase }, { on := 4, ground := .phase }, { on := 5, ground := .phase }, { on := 6, ground := .phase }, { on := 7, ground := .phase }, { on := 8, ground := .phase }, { on := 9, ground := .phase }, { on := 10, ground := .phase }, { on := 11, ground := .phase }, { on := 12, ground := .phase }, { on := 13, ground := .phase }, { on := 14, ground := .phase }, { on := 15, ground := .phase }, { on := 16, ground := .phase }, { on := 17, ground := .phase }, { on := 18, ground := .phase }, { on := 19, ground := .phase }, { on := 20, ground := .phase }], guard := none }) (v := ?_) rfl (by decide) (by kernel_rfl) (by kernel_rfl) (fun _ _ _ h => h) (Or.inl ⟨by rfl, ?_⟩) (by assumption) ?_
                        rotate_left
                        · intro w hSw
                          (try dsimp only at hSw)
                          obtain ⟨h1, h2, ⟨h3, h4, h5, h6, h7⟩, ⟨h8, h9, h10, h11⟩⟩ := hSw; (go_simp; try (with_reducible rfl))
                        try simp only [Act.put, List.setIfInBounds_toArray, List.set_cons_zero, List.set_cons_succ]
                        refine HL.done_ (by kernel_rfl) ?_
                        simp only [List.drop_succ_cons, List.drop_zero]
                        clear hHeld
                        obtain ⟨_, _, _, _, k4⟩ := k05
                        go_wp2
                        go_meet
                        case rel =>
                          have hss := HS6.out.trans (sub_store_at (i := 2) (g := gF) (j := q * 5 + 4) (u := .slice bA1 (bn + 1) bc1) (bs := bsM w.heap.size bs) (r := ⟨35, 5, .slice (some ⟨gF, 0, none⟩) n fc, n, fxsOf l⟩) (r' := ⟨35, 5, .slice (some ⟨gF, 0, none⟩) n fc, n, (fxsOf l).set (q * 5 + 4) (.slice bA1 (bn + 1) bc1)⟩) HR2.out rfl rfl)
                          have ho7 := HO6.out.set_store HR2.out (g := gF) rfl (q * 5 + 4) (.slice bA1 (bn + 1) bc1)
                          exact ⟨bA1, bc1, _, _, _, _, _, _, _, _, _, _, _, _, _, rfl, rfl, rfl, HS7.out, Cells7.sub hss _ HC.out, HX6.out.far (p := ⟨gF, q * 5 + 4, none⟩) (by show w.heap.size + 3 ≤ gF; omega) _, ho7, fun z hz => (HF3.out z hz).sub hss⟩
                      · go_simp
                        have JX := Lib.hid (HXW.out.alloc (.cells #[.int .u8 0, .int .u8 0, .int .i64 0, .int .u8 0, .int .i64 0, .slice none 0 0, .slice none 0 0] 46))
                        have JO := Lib.hid (HOW.out.below ((Below.refl _ _).alloc (Nat.le_refl _) (.cells #[.int .u8 0, .int .u8 0, .int .i64 0, .int .u8 0, .int .i64 0, .slice none 0 0, .slice none 0 0] 46)))
                        have JF := Lib.hid (show ∀ x ∈ l, FBok (sans (W.alloc (.cells #[.int .u8 0, .int .u8 0, .int .i64 0, .int .u8 0, .int .i64 0, .slice none 0 0, .slice none 0 0] 46)) (rblk ([⟨9, 1, .slice sA sn sc, sn, strs (mk2 g f n).1⟩, ⟨3, 1, .slice gA G0 gc, G0, ints (natInts G0)⟩, ⟨35, 5, .slice (some ⟨gF, 0, none⟩) n fc, n, fxsOf l⟩, ⟨3, 1, .slice eA k ec, k, ints (entD e n)⟩] ++ rowsOf l) ++ bsM w.heap.size bs)) x from fun x hx => (HFW.out x hx).sub (sub_sans_below ((Below.refl _ _).alloc (Nat.le_refl _) _)))
                        have JK := Lib.hid (KF.out.sub (sub_sans_below ((Below.refl W.heap.size W).alloc (Nat.le_refl _) (.cells #[.int .u8 0, .int .u8 0, .int .i64 0, .int .u8 0, .int .i64 0, .slice none 0 0, .slice none 0 0] 46))))
                        have JP := Lib.hid (show ∀ p, p < n → (W.alloc (.cells #[.int .u8 0, .int .u8 0, .int .i64 0, .int .u8 0, .int .i64 0, .slice none 0 0, .slice none 0 0] 46)).cell? ⟨gF, 0 + p * 5 + 1, none⟩ = some (.int .i64 (parD f p : Nat)) from fun p hp => sub_below ((Below.refl _ _).alloc (Nat.le_refl _) _) _ _ (KPAR.out p hp))
                        have JZ := Lib.hid (heap_alloc_new W (.cells #[.int .u8 0, .int .u8 0, .int .i64 0, .int .u8 0, .int .i64 0, .slice none 0 0, .slice none 0 0] 46))
                        have hzV : (W.alloc (.cells #[.int .u8 0, .int .u8 0, .int .i64 0, .int .u8 0, .int .i64 0, .slice none 0 0, .slice none 0 0] 46)).heap.size = W.heap.size + 1 := by simp
                        obtain ⟨gZ, hgZ⟩ : ∃ z, z = W.heap.size := ⟨_, rfl⟩
                        rw [← hgZ] at JZ ⊢
                        obtain ⟨V, hV⟩ : ∃ V, V = W.alloc (.cells #[.int .u8 0, .int .u8 0, .int .i64 0, .int .u8 0, .int .i64 0, .slice none 0 0, .slice none 0 0] 46) := ⟨_, rfl⟩
                        rw [← hV] at JX JO JF JK JP JZ ⊢
                        clear hV HXW HOW HFW KF KPAR c1 f1 z1 c3 f3 z3 k0 k1 k2 k3 k4 g0 g1 g2 g3 hzV hgZ hgFw2
                        refine hK.out _ _ ⟨(blk3 JX.out.m).1, (blk3 JX.out.box).1, (HFIVE.out _ _ JO.out rfl).1, HACT.out _ JX.out.below.drew⟩ (fun hHeld => ?_)
                        clear hK K
                        try simp only [Act.put, List.setIfInBounds_toArray, List.set_cons_zero, List.set_cons_succ]
                        refine HL.step_ (i := 17) (o := { dst := some 201, op := .call { callee := .value (.func 28), args := #[.tmp 190, .tmp 195, .tmp 200], argTypes := #[32, 35, 73] }, type := 46, pos := "ref.go:387", after := #[{ on := 6, ground := .data }, { on := 11, ground := .data }, { on := 16, ground := .data }], guard := none }) rfl (by decide) (by kernel_rfl) (fun K hK => ?_)
                        go_simp
                        refine (stmt_calls V.drew (.slice sA sn sc) (.slice eA k ec) G0 gc L lc S tc n fc gA la ta gF 0 (.int .i64 nm) (.int .i64 (par : Nat)) (.slice bA bn bc) (parD f) a0 a1 a2 a3 (by have := KN.out.2.2.1; have := KP.out.locals; unfold nlD at this; omega) (by have := KN.out.2.2.1; have := KP.out.locals; have := nl_lt f q; omega) (by omega) hn0 (by omega) (by have := KN.out.2.2.2.1; have := KP.out.sites; unfold nsD at this; omega) (by have := KN.out.2.2.2.1; have := KP.out.sites; have := ns_lt q; omega) hb1 hb2 hb3 (fun p hp => show V.cell? _ = _ from JP.out p hp) (fun p => by have := par_lt f p; omega)).mono ?_
                        rintro e w3 ⟨vs, rfl, hC, hb3⟩
                        have hb4 : Below V.heap.size V w3 := ⟨hb3.os, hb3.tape, hb3.output, hb3.size, hb3.block⟩
                        obtain ⟨s, hs⟩ : ∃ s, s = (stmtS G0 n L S (parD f) a0 a1 a2 a3) := ⟨_, rfl⟩
                        rw [← hs] at hC
                        obtain ⟨k7, ak7, ai7, bk7, bi7, args7, body7⟩ := s
                        obtain ⟨aa7, al7, ac7, ba7, bl7, bc7, hvs, _, _⟩ := (cells7_def _ _ _ _ _ _ _ _ _).1 (hC [] (by simp))
                        obtain rfl : vs = #[.int .u8 k7, .int .u8 ak7, .int .i64 ai7, .int .u8 bk7, .int .i64 bi7, .slice aa7 al7 ac7, .slice ba7 bl7 bc7] := by
                          apply Array.ext'
                          rw [hvs]
                        have HC := Lib.hid (hC (rblk ([⟨9, 1, .slice sA sn sc, sn, strs (mk2 g f n).1⟩, ⟨3, 1, .slice gA G0 gc, G0, ints (natInts G0)⟩, ⟨35, 5, .slice (some ⟨gF, 0, none⟩) n fc, n, fxsOf l⟩, ⟨3, 1, .slice eA k ec, k, ints (entD e n)⟩] ++ rowsOf l) ++ bsM w.heap.size bs) (fun b hb => by
                          show b < V.heap.size
                          rcases List.mem_append.1 hb with hb | hb
                          · exact (JO.out.rblk_lt hb).2
                          · have := bsM_lt HBS.out hb; have := JX.out.size; omega))
                        have HS7 := Lib.hid hs
                        have HX3 := Lib.hid (JX.out.next hb4)
                        have HO3 := Lib.hid (JO.out.below hb4)
                        have HF3 := Lib.hid (show ∀ x ∈ l, FBok (sans w3 (rblk ([⟨9, 1, .slice sA sn sc, sn, strs (mk2 g f n).1⟩, ⟨3, 1, .slice gA G0 gc, G0, ints (natInts G0)⟩, ⟨35, 5, .slice (some ⟨gF, 0, none⟩) n fc, n, fxsOf l⟩, ⟨3, 1, .slice eA k ec, k, ints (entD e n)⟩] ++ rowsOf l) ++ bsM w.heap.size bs)) x from fun x hx => (JF.out x hx).sub (sub_sans_below hb4))
                        have KF3 := Lib.hid (JK.out.sub (sub_sans_below hb4))
                        have hz3 : V.heap.size ≤ w3.heap.size := hb4.size
                        have JZ3 := Lib.hid (blk_below JZ.out hb4)
                        clear hs hC hb3 hb4 hvs
                        have HX4 := HX3
                        have HO4 := HO3
                        have HS4 := Lib.hid (Sub.refl (sans w3 (rblk ([⟨9, 1, .slice sA sn sc, sn, strs (mk2 g f n).1⟩, ⟨3, 1, .slice gA G0 gc, G0, ints (natInts G0)⟩, ⟨35, 5, .slice (some ⟨gF, 0, none⟩) n fc, n, fxsOf l⟩, ⟨3, 1, .slice eA k ec, k, ints (entD e n)⟩] ++ rowsOf l) ++ bsM w.heap.size bs)))
                        refine hK.out _ _ ⟨(blk3 HX3.out.m).1, (blk3 HX3.out.box).1, (HFIVE.out _ _ HO3.out rfl).1, HACT.out _ HX3.out.below⟩ (fun hHeld => ?_)
                        clear hK K
                        try simp only [Act.put, List.setIfInBounds_toArray, List.set_cons_zero, List.set_cons_succ]
                        refine HL.step_ (i := 20) (o := { dst := some 204, op := .call { callee := .builtin .append, args := #[.tmp 189, .tmp 203], argTypes := #[22, 22] }, type := 22, pos := "ref.go:387", after := #[{ on := 5, ground := .data }, { on := 19, ground := .data }, { on := 17, ground := .chain }, { on := 0, ground := .phase }, { on := 1, ground := .phase }, { on := 2, ground := .phase }, { on := 3, ground := .phase }, { on := 4, ground := .phase }, { on := 5, ground := .phase }, { on := 6, ground := .phase }, { on := 7, ground := .phase }, { on := 8, ground := .phase }, { on := 9, ground := .phase }, { on := 10, ground := .phase }, { on := 11, ground := .phase }, { on := 12, ground := .phase }, { on := 13, ground := .phase }, { on := 14, ground := .phase }, { on := 15, ground := .phase }, { on := 16, ground := .phase }, { on := 17, ground := .phase }, { on := 18, ground := .phase }, { on := 19, ground := .phase }], guard := none }) rfl (by decide) (by kernel_rfl) (fun K hK => ?_)
                        rw [if_pos (by rfl)]
                        refine append_at (B := w.heap.size + 3) (W := w3) (4 + q) ([⟨9, 1, .slice sA sn sc, sn, strs (mk2 g f n).1⟩, ⟨3, 1, .slice gA G0 gc, G0, ints (natInts G0)⟩, ⟨35, 5, .slice (some ⟨gF, 0, none⟩) n fc, n, fxsOf l⟩, ⟨3, 1, .slice eA k ec, k, ints (entD e n)⟩] ++ rowsOf l) _ _ 22 46 (.agg #[.int .u8 0, .int .u8 0, .int .i64 0, .int .u8 0, .int .i64 0, .slice none 0 0, .slice none 0 0]) 7 88 rfl Try.underlying22 info46 rfl (by decide) (.slice bA bn bc) bn x.cells rfl HO4.out KROW.out ⟨gZ, 0, none⟩ 1 1 #[.int .u8 0, .int .u8 0, .int .i64 0, .int .u8 0, .int .i64 0, .slice none 0 0, .slice none 0 0].toList rfl rfl (old_cells JZ3.out) (one7 _ _ _ _ _ _ _ _ _ _ _) (by have := HX4.out.size; omega) (by omega) (by omega) ?_
                        intro bA1 bc1 w6 hg
                        have HX6 := Lib.hid (HX4.out.keep hg.below)
                        have HO6 := Lib.hid hg.owns
                        have HS6 := Lib.hid (HS4.out.trans (hg.sub (bsM w.heap.size bs)))
                        have hr2 : (([⟨9, 1, .slice sA sn sc, sn, strs (mk2 g f n).1⟩, ⟨3, 1, .slice gA G0 gc, G0, ints (natInts G0)⟩, ⟨35, 5, .slice (some ⟨gF, 0, none⟩) n fc, n, fxsOf l⟩, ⟨3, 1, .slice eA k ec, k, ints (entD e n)⟩] ++ rowsOf l : List Row).set (4 + q) ⟨46, 7, .slice bA1 (bn + 1) bc1, bn + 1, x.cells ++ #[.int .u8 0, .int .u8 0, .int .i64 0, .int .u8 0, .int .i64 0, .slice none 0 0, .slice none 0 0].toList⟩)[2]? = some ⟨35, 5, .slice (some ⟨gF, 0, none⟩) n fc, n, fxsOf l⟩ := by rw [List.getElem?_set_ne (by omega)]; rfl
                        have HR2 := Lib.hid hr2
                        obtain ⟨k05, f4⟩ := HFIVE.out _ _ hg.owns hr2
                        clear hg hr2
                        refine hK.out _ _ ⟨(blk3 HX6.out.m).1, (blk3 HX6.out.box).1, k05, HACT.out _ HX6.out.below⟩ (fun hHeld => ?_)
                        clear hK K
                        try simp only [Act.put, List.setIfInBounds_toArray, List.set_cons_zero, List.set_cons_succ]
                        refine HL.take_ (i := 21) (oi := { dst := some 205, op := .indexAddr 30 (.tmp 185) (.tmp 186), type := 0, pos := "ref.go:387", after := #[{ on := 1, ground := .data }, { on := 2, ground := .data }, { on := 0, ground := .phase }, { on := 1, ground := .phase }, { on := 2, ground := .phase }, { on := 3, ground := .phase }, { on := 4, ground := .phase }, { on := 5, ground := .phase }, { on := 6, ground := .phase }, { on := 7, ground := .phase }, { on := 8, ground := .phase }, { on := 9, ground := .phase }, { on := 10, ground := .phase }, { on := 11, ground := .phase }, { on := 12, ground := .phase }, { on := 13, ground := .phase }, { on := 14, ground := .phase }, { on := 15, ground := .phase }, { on := 16, ground := .phase }, { on := 17, ground := .phase }, { on := 18, ground := .phase }, { on := 19, ground := .phase }, { on := 20, ground := .phase }], guard := none }) (v := ?_) rfl (by decide) (by kernel_rfl) (by kernel_rfl) (fun _ _ _ h => h) (Or.inl ⟨by rfl, ?_⟩) (by assumption) ?_
                        rotate_left
                        · intro w hSw
                          (try dsimp only at hSw)
                          obtain ⟨h1, h2, ⟨h3, h4, h5, h6, h7⟩, ⟨h8, h9, h10, h11⟩⟩ := hSw; (go_simp; try (with_reducible rfl))
                        try simp only [Act.put, List.setIfInBounds_toArray, List.set_cons_zero, List.set_cons_succ]
                        refine HL.take_ (i := 22) (oi := { dst := some 206, op := .fieldAddr 35 (.tmp 205) 4, type := 0, pos := "ref.go:387", after := #[{ on := 21, ground := .data }, { on := 0, ground := .phase }, { on := 1, ground := .phase }, { on := 2, ground := .phase }, { on := 3, ground := .phase }, { on := 4, ground := .phase }, { on := 5, ground := .phase }, { on := 6, ground := .phase }, { on := 7, ground := .phase }, { on := 8, ground := .phase }, { on := 9, ground := .phase }, { on := 10, ground := .phase }, { on := 11, ground := .phase }, { on := 12, ground := .phase }, { on := 13, ground := .phase }, { on := 14, ground := .phase }, { on := 15, ground := .phase }, { on := 16, ground := .phase }, { on := 17, ground := .phase }, { on := 18, ground := .phase }, { on := 19, ground := .phase }, { on := 20, ground := .phase }], guard := none }) (v := ?_) rfl (by decide) (by kernel_rfl) (by kernel_rfl) (fun _ _ _ h => h) (Or.inl ⟨by rfl, ?_⟩) (by assumption) ?_
                        rotate_left
                        · intro w hSw
                          (try dsimp only at hSw)
                          obtain ⟨h1, h2, ⟨h3, h4, h5, h6, h7⟩, ⟨h8, h9, h10, h11⟩⟩ := hSw; (go_simp; try (with_reducible rfl))
                        try simp only [Act.put, List.setIfInBounds_toArray, List.set_cons_zero, List.set_cons_succ]
                        refine HL.done_ (by kernel_rfl) ?_
                        simp only [List.drop_succ_cons, List.drop_zero]
                        clear hHeld
                        obtain ⟨_, _, _, _, k4⟩ := k05
                        go_wp2
                        go_meet
                        case rel =>
                          have hss := HS6.out.trans (sub_store_at (i := 2) (g := gF) (j := q * 5 + 4) (u := .slice bA1 (bn + 1) bc1) (bs := bsM w.heap.size bs) (r := ⟨35, 5, .slice (some ⟨gF, 0, none⟩) n fc, n, fxsOf l⟩) (r' := ⟨35, 5, .slice (some ⟨gF, 0, none⟩) n fc, n, (fxsOf l).set (q * 5 + 4) (.slice bA1 (bn + 1) bc1)⟩) HR2.out rfl rfl)
                          have ho7 := HO6.out.set_store HR2.out (g := gF) rfl (q * 5 + 4) (.slice bA1 (bn + 1) bc1)
                          exact ⟨bA1, bc1, _, _, _, _, _, _, _, _, _, _, _, _, _, rfl, rfl, rfl, HS7.out, Cells7.sub hss _ HC.out, HX6.out.far (p := ⟨gF, q * 5 + 4, none⟩) (by show w.heap.size + 3 ≤ gF; omega) _, ho7, fun z hz => (HF3.out z hz).sub hss⟩
                    case rest =>
                    obtain ⟨bA1, bc1, k7, ak7, ai7, bk7, bi7, aa7, ba7, al7, ac7, bl7, bc7, args7, body7, rfl, rfl, rfl, HS7, HC, HX3, HO3, HF3⟩ := hcut
                    have hr4 : ((([⟨9, 1, .slice sA sn sc, sn, strs (mk2 g f n).1⟩, ⟨3, 1, .slice gA G0 gc, G0, ints (natInts G0)⟩, ⟨35, 5, .slice (some ⟨gF, 0, none⟩) n fc, n, fxsOf l⟩, ⟨3, 1, .slice eA k ec, k, ints (entD e n)⟩] ++ rowsOf l : List Row).set (4 + q) ⟨46, 7, .slice bA1 (bn + 1) bc1, bn + 1, x.cells ++ #[.int .u8 0, .int .u8 0, .int .i64 0, .int .u8 0, .int .i64 0, .slice none 0 0, .slice none 0 0].toList⟩).set 2 ⟨35, 5, .slice (some ⟨gF, 0, none⟩) n fc, n, (fxsOf l).set (q * 5 + 4) (.slice bA1 (bn + 1) bc1)⟩)[4 + q]? = some ⟨46, 7, .slice bA1 (bn + 1) bc1, bn + 1, x.cells ++ #[.int .u8 0, .int .u8 0, .int .i64 0, .int .u8 0, .int .i64 0, .slice none 0 0, .slice none 0 0].toList⟩ := by
                      rw [List.getElem?_set_ne (by omega), List.getElem?_set_self (List.getElem?_eq_some_iff.1 KROW.out).1]
                    obtain ⟨bg, rfl, hbg3, hbgw⟩ := own_addr (HO3.out.at hr4) (by omega)
                    have hm : x.cells.length = bn * 7 := by have := KF.out.body.1; rw [← KN.out.2.2.2.2.1] at this; exact this
                    obtain ⟨⟨e0, e1, e2, e3, e4, e5, e6⟩, ⟨y0, y1, y2, y3, y4, y5, y6⟩⟩ := end_cells HO3.out hr4 hm
                    have HR4 := Lib.hid hr4
                    have HM7 := Lib.hid hm
                    clear hr4 hm c1 f1 z1 c3 f3 z3 k0 k1 k2 k3 k4 g0 g1 g2 g3
                    go_wp2
                    obtain ⟨y, hy⟩ : ∃ y : FB, y = { x with bA := some ⟨bg, 0, none⟩, bc := bc1, fn := { x.fn with body := x.fn.body ++ [(St.mk k7 ak7 ai7 bk7 bi7 args7 body7)] }, cells := x.cells ++ [.int .u8 k7, .int .u8 ak7, .int .i64 ai7, .int .u8 bk7, .int .i64 bi7, .slice aa7 al7 ac7, .slice ba7 bl7 bc7] } := ⟨_, rfl⟩
                    have hyr : y.row = ⟨46, 7, .slice (some ⟨bg, 0, none⟩) (bn + 1) bc1, bn + 1, x.cells ++ [.int .u8 k7, .int .u8 ak7, .int .i64 ai7, .int .u8 bk7, .int .i64 bi7, .slice aa7 al7 ac7, .slice ba7 bl7 bc7]⟩ := by
                      rw [hy]
                      unfold FB.row FB.bv
                      rw [KN.out.2.2.2.2.1]
                      show (⟨_, _, Value.slice _ (_ ++ _ : List St).length _, (_ ++ _ : List St).length, _⟩ : Row) = _
                      rw [List.length_append]; rfl
                    have hyv : y.bv = .slice (some ⟨bg, 0, none⟩) (bn + 1) bc1 := congrArg Row.v hyr
                    have hy5 : y.five = x.five.set 4 (.slice (some ⟨bg, 0, none⟩) (bn + 1) bc1) := by
                      rw [← hyv, hy]; rfl
                    have ho7 := HO3.out.w7 HR4.out HM7.out (.int .u8 k7) (.int .u8 ak7) (.int .i64 ai7) (.int .u8 bk7) (.int .i64 bi7) (.slice aa7 al7 ac7) (.slice ba7 bl7 bc7)
                    have hss := sub_w7 (m := bn * 7) (v0 := .int .u8 k7) (v1 := .int .u8 ak7) (v2 := .int .i64 ai7) (v3 := .int .u8 bk7) (v4 := .int .i64 bi7) (v5 := .slice aa7 al7 ac7) (v6 := .slice ba7 bl7 bc7) (w := wc) (bs := bsM w.heap.size bs) (r' := ⟨46, 7, .slice (some ⟨bg, 0, none⟩) (bn + 1) bc1, bn + 1, x.cells ++ [.int .u8 k7, .int .u8 ak7, .int .i64 ai7, .int .u8 bk7, .int .i64 bi7, .slice aa7 al7 ac7, .slice ba7 bl7 bc7]⟩) HR4.out (g := bg) rfl rfl
                    rw [rows_fin hyr] at ho7 hss
                    rw [← fxsOf_set KX.out hy5] at ho7
                    replace hss : Sub (sans wc (rblk ((([⟨9, 1, .slice sA sn sc, sn, strs (mk2 g f n).1⟩, ⟨3, 1, .slice gA G0 gc, G0, ints (natInts G0)⟩, ⟨35, 5, .slice (some ⟨gF, 0, none⟩) n fc, n, fxsOf l⟩, ⟨3, 1, .slice eA k ec, k, ints (entD e n)⟩] ++ rowsOf l : List Row).set (4 + q) ⟨46, 7, .slice (some ⟨bg, 0, none⟩) (bn + 1) bc1, bn + 1, x.cells ++ #[.int .u8 0, .int .u8 0, .int .i64 0, .int .u8 0, .int .i64 0, .slice none 0 0, .slice none 0 0].toList⟩).set 2 ⟨35, 5, .slice (some ⟨gF, 0, none⟩) n fc, n, (fxsOf l).set (q * 5 + 4) (.slice (some ⟨bg, 0, none⟩) (bn + 1) bc1)⟩) ++ bsM w.heap.size bs)) (sans (W7 wc bg (bn * 7) (.int .u8 k7) (.int .u8 ak7) (.int .i64 ai7) (.int .u8 bk7) (.int .i64 bi7) (.slice aa7 al7 ac7) (.slice ba7 bl7 bc7)) (rblk ([⟨9, 1, .slice sA sn sc, sn, strs (mk2 g f n).1⟩, ⟨3, 1, .slice gA G0 gc, G0, ints (natInts G0)⟩, ⟨35, 5, .slice (some ⟨gF, 0, none⟩) n fc, n, fxsOf (l.set q y)⟩, ⟨3, 1, .slice eA k ec, k, ints (entD e n)⟩] ++ rowsOf (l.set q y)) ++ bsM w.heap.size bs)) := by
                      rw [fxsOf_set KX.out hy5]
                      exact hss
                    refine ⟨⟨i + 1, l.set q y, by omega, by go_num, ?_, HX3.out.w7 hbg3 (bn * 7) (.int .u8 k7) (.int .u8 ak7) (.int .i64 ai7) (.int .u8 bk7) (.int .i64 bi7) (.slice aa7 al7 ac7) (.slice ba7 bl7 bc7), ho7, ?_, ?_⟩, by simp [intOf]; omega⟩
                    · refine fb_step (d := ⟨g, f, e, acts⟩) (s := (St.mk k7 ak7 ai7 bk7 bi7 args7 body7)) HL1.out KX.out ?_ ?_ (by rw [hy])
                      · show q = jD (nD f) acts.length i
                        rw [← HN.out, HA.out.1]; exact HQ.out
                      · rw [HS7.out]
                        show stmtS G0 n L S (parD f) a0 a1 a2 a3 = stmtS (g % 4) (nD f) (nlD f q) (nsD q) (parD f) (actAt acts i).1 (actAt acts i).2.1 (actAt acts i).2.2.1 (actAt acts i).2.2.2
                        rw [← KA4.out, ← HG0.out, ← HN.out, KN.out.2.2.1, KN.out.2.2.2.1, KP.out.locals, KP.out.sites]
                    · show ∀ z ∈ l.set q y, _
                      intro z hz
                      rcases mem_set_or hz with hz | hz
                      · exact (HF3.out z hz).sub hss
                      · rw [hz]
                        exact FBok.grow hy ((HF3.out x (List.mem_of_getElem? KX.out)).sub hss) (Cells7.sub hss _ HC.out)
                    · show ∀ z ∈ l.set q y, _
                      intro z hz
                      rcases mem_set_or hz with hz | rfl
                      · have := HL2.out z hz; omega
                      · rw [hy]
                        show (_ ++ _ : List St).length ≤ _
                        rw [List.length_append, ← KN.out.2.2.2.2.1]
                        simp
                        omega
                · obtain rfl : an = i := by omega
                  have hl0 : l.length = n := by have := congrArg List.length HL1.out; rw [List.length_map, bodD_length] at this; rw [this]; exact HN.out.symm
                  have hsn9 : sn ≤ 43 := by omega
                  have hbm : ∀ b ∈ bsM w.heap.size bs, b < w.heap.size + 3 := fun b hb => bsM_lt HBS.out hb
                  have hsubB : Sub (sans wr (rblk ([⟨9, 1, .slice sA sn sc, sn, strs (mk2 g f n).1⟩, ⟨3, 1, .slice gA G0 gc, G0, ints (natInts G0)⟩, ⟨35, 5, .slice (some ⟨gF, 0, none⟩) n fc, n, fxsOf l⟩, ⟨3, 1, .slice eA k ec, k, ints (entD e n)⟩] ++ rowsOf l) ++ bsM w.heap.size bs)) (sans wr (bsM w.heap.size bs)) := sub_sans_less fun b hb => List.mem_append_right _ hb
                  have HM := Lib.hid (show ReadsM (sans wr (bsM w.heap.size bs)) (.agg #[.slice sA sn sc, .slice gA G0 gc, .slice (some ⟨gF, 0, none⟩) n fc, .slice eA k ec]) (rawM ⟨g, f, e, acts⟩) from by
                    refine ⟨_, _, _, _, rfl, ?_, ?_, ?_, ?_⟩
                    · show ReadsS _ _ (mk2 g f (nD f)).1
                      rw [← HN.out]
                      exact ReadsS.own (HO.out.at (i := 0) rfl) HSN.out.symm (by omega) (fun b hb g hg e => by
                        subst e
                        have := (World.ownsRow.lt (HO.out.at (i := 0) rfl) b (by rw [show (⟨9, 1, .slice sA sn sc, sn, strs (mk2 g f n).1⟩ : Row).v = .slice sA sn sc from rfl, hg]; rfl)).1
                        have := hbm b hb
                        omega)
                    · show ReadsI _ _ (natInts (g % 4))
                      rw [← HG0.out]
                      exact ReadsI.own (HO.out.at (i := 1) rfl) (by unfold natInts; rw [List.length_map, List.length_range]) (by omega) (fun b hb g hg e => by
                        subst e
                        have := (World.ownsRow.lt (HO.out.at (i := 1) rfl) b (by rw [show (⟨3, 1, .slice gA G0 gc, G0, ints (natInts G0)⟩ : Row).v = .slice gA G0 gc from rfl, hg]; rfl)).1
                        have := hbm b hb
                        omega)
                    · show ReadsF _ _ (bodD ⟨g, f, e, acts⟩ acts.length)
                      rw [HA.out.1, ← HL1.out]
                      refine ReadsF.own' (HO.out.at (i := 2) rfl) (by rw [List.length_map]; exact hl0) (by omega) (fnsAt_of (B := 0) fun x hx => ?_) hbm
                      have hfx := (HF.out x hx).sub hsubB
                      obtain ⟨q, hq⟩ := List.mem_iff_getElem?.1 hx
                      have hbl := HL2.out x hx
                      exact ⟨x.lv, x.sv, x.bv, by unfold FB.five; rw [hfx.nm, hfx.par], hfx.lv, hfx.sv, ReadsB.own (HO.out.at (row_at hq _ _ _ _)) hfx.body rfl (by omega) hbm⟩
                    · show ReadsI _ _ (entD e (nD f))
                      rw [← HN.out]
                      exact ReadsI.own (HO.out.at (i := 3) rfl) HKE.out.symm (by omega) (fun b hb g hg e => by
                        subst e
                        have := (World.ownsRow.lt (HO.out.at (i := 3) rfl) b (by rw [show (⟨3, 1, .slice eA k ec, k, ints (entD e n)⟩ : Row).v = .slice eA k ec from rfl, hg]; rfl)).1
                        have := hbm b hb
                        omega))
                  have HBM := Lib.hid hbm
                  clear hl0 hsubB hbm
                  go_wp2_with fail
                  refine (canon_calls _ _ _ (bsM w.heap.size bs) (fun b hb => by have := HBM.out b hb; have := HX.out.size; omega) HM.out (rawM_named _)).mono ?_
                  rintro e' w2 ⟨sv', gv', A', n', cp', ev', xs', rfl, hn', hn1, hb2, ho2, hf2, hs2, hg2, he2⟩
                  obtain ⟨sa', sc', rfl, _⟩ := hs2.shape
                  obtain ⟨ga', gc', rfl, _⟩ := hg2.shape
                  obtain ⟨ea', ec', rfl, _⟩ := he2.shape
                  obtain ⟨c2, f2, z2⟩ := blk3 (blk_below HX.out.res hb2)
                  have HB2 := Lib.hid hb2
                  have HO2 := Lib.hid ho2
                  have HF2 := Lib.hid hf2
                  have HS2 := Lib.hid hs2
                  have HG2 := Lib.hid hg2
                  have HE2 := Lib.hid he2
                  have HN2 := Lib.hid hn'
                  clear hb2 ho2 hf2 hs2 hg2 he2 hn' c1 f1 z1 c3 f3 z3
                  go_wp2
                  refine bodyPost_ret (v := .agg #[.slice sa' (canonM (rawM ⟨g, f, e, acts⟩)).strings.length sc', .slice ga' (canonM (rawM ⟨g, f, e, acts⟩)).globals.length gc', .slice A' n' cp', .slice ea' (canonM (rawM ⟨g, f, e, acts⟩)).entries.length ec']) (by rw [results_cell rfl]; go_simp; try rfl) rfl ?_
                  have hss := (set4_sub w2 (w.heap.size + 1) ((Value.slice A' n' cp').ownBlock.toList ++ bsM w.heap.size bs) (.slice sa' (canonM (rawM ⟨g, f, e, acts⟩)).strings.length sc') (.slice ga' (canonM (rawM ⟨g, f, e, acts⟩)).globals.length gc') (.slice A' n' cp') (.slice ea' (canonM (rawM ⟨g, f, e, acts⟩)).entries.length ec') (List.mem_append_right _ (by unfold bsM; simp))).trans (sub_sans_less (bs' := (Value.slice A' n' cp').ownBlock.toList ++ bs) fun b hb => by
                    rcases List.mem_append.1 hb with hb | hb
                    · exact List.mem_append_left _ hb
                    · exact List.mem_append_right _ (by unfold bsM; simp [hb]))
                  have hsz := HX.out.size
                  refine ⟨_, _, A', n', cp', _, xs', rfl, HN2.out, hn1, set4_below (HX.out.below.trans (HB2.out.mono (by omega))) (by omega) _ _ _ _, own_base (own_set4 HO2.out (by omega) _ _ _ _) (by omega), HF2.out.sub hss, HS2.out.sub hss, HG2.out.sub hss, HE2.out.sub hss⟩
end Go.Proofs.Ytjgijbaboekghaa

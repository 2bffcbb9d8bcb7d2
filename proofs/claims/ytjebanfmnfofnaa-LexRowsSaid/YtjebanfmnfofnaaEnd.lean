/-
  LexEnds (function 4): behind the end there is the end, again and again; a nil lexer has nothing.
-/
import Derived.Test.YtjebanfmnfofnaaLay
import Derived.Test.YtjebanfmnfofnaaEndP
import Derived.Lib.AppendStr
import Derived.Deep.CutRange
set_option linter.unusedSimpArgs false
set_option linter.unusedVariables false
namespace Go.Proofs.Ytjebanfmnfofnaa
open Go.RowKit
theorem strCells_bstr {l : List Nat} (hl : ∀ u ∈ l, u < 256) : Lib.strCells (bstr l) = bytes l := by
  unfold Lib.strCells bytes
  rw [bstr_data, List.map_map]
  refine List.map_congr_left fun u hu => ?_
  have := hl u hu
  simp
  omega
/-- append(p, s...), p of the call's own. -/
theorem append_str {ops : Array Oper} {rest : List Oper} {o : Oper} {a : Act} {Q : Exit → Act → World → Prop} {B : Nat} {w0 W : World} (hgd : o.guard = none) (sl x : Operand)
    (ho : o.op = .call { callee := .builtin .append, args := #[sl, x], argTypes := #[22, 9] })
    (v : Value) (n : Nat) (acc : List Nat) (hs : a.eval sl = v) (hown : W.ownsRow B 5 1 v n (bytes acc)) (S : ByteArray) (l : List Nat) (hS : S = bstr l) (hl : ∀ u ∈ l, u < 256) (hx : a.eval x = .string S)
    (hn : n + l.length ≤ 1000000) (hB : B ≤ W.heap.size) (hb : Below B w0 W)
    (h : ∀ v' w', w'.ownsRow B 5 1 v' (n + l.length) (bytes (acc ++ l)) → Below B w0 w' → wpList Try.prog ops Q rest (a.put o.dst v') w') : wpList Try.prog ops Q (o :: rest) a W := by
  obtain ⟨i0, hi, hzz⟩ := Option.map_eq_some_iff.1 info5
  simp only [Prod.mk.injEq] at hzz
  obtain ⟨hz0, hz1, hz2⟩ := hzz
  have hsz : S.size = l.length := by rw [hS, bstr_size]
  refine Lib.wpList_append_own_string W hgd sl x 22 9 ho B 5 i0 Try.underlying22 Try.underlying9 hi hz0 hz1 hz2 v n (bytes acc) hs hown S hx (by unfold maxLen; omega) (by omega) hB ?_
  intro v' w' hown' hg _
  rw [hS, strCells_bstr hl, bstr_size, show bytes acc ++ bytes l = bytes (acc ++ l) by simp [bytes]] at hown'
  exact h v' w' hown' (hb.grown hg hB (fun k hk => (World.ownsRow.lt hown k hk).1))
theorem own_reads {W : World} {B m cp : Nat} {A : Option Addr} {l : List Nat} (h : W.ownsRow B 5 1 (.slice A m cp) m (bytes l)) (hl : l.length = m) : m ≤ cp ∧ (0 < m → ∃ b off, A = some ⟨b, off, none⟩ ∧ ∀ j u, l[j]? = some u → W.cell? ⟨b, off + j, none⟩ = some (.int .u8 (u : Nat))) := by
  rcases h.2 with ⟨e, h0⟩ | ⟨g, cap, cur, e, hb, hh, h1, h2, h3, h4⟩
  · injection e with e1 e2 e3
    subst e1 e2 e3
    exact ⟨Nat.le_refl _, fun hp => by omega⟩
  · injection e with e1 e2 e3
    subst e1 e3
    refine ⟨h1, fun _ => ⟨g, 0, rfl, fun i u hu => ?_⟩⟩
    rw [Nat.zero_add, (blk3 hh).1]
    have hi : i < m := by rw [← hl]; exact (List.getElem?_eq_some_iff.1 hu).1
    have h5 : (cur.toList.take (m * 1))[i]? = some (.int .u8 (u : Nat)) := by rw [h4, bytes, List.getElem?_map, hu]; rfl
    rw [Nat.mul_one, List.getElem?_take_of_lt hi] at h5
    simpa using h5
theorem part_cell (k : Nat) : (#[Value.string ⟨#[32]⟩, .string ⟨#[9]⟩, .string ⟨#[13, 10]⟩, .string ⟨#[10]⟩, .string ⟨#[47, 47, 32, 97, 10]⟩, .string ⟨#[47, 42, 32, 98, 32, 42, 47]⟩, .string ⟨#[47, 42, 42, 47]⟩] : Array Value)[k % 7]? = some (.string (bstr (part (k % 7)))) := by
  obtain ⟨j, hj, e⟩ : ∃ j, j < 7 ∧ k % 7 = j := ⟨k % 7, by omega, rfl⟩
  rw [e]
  match j, hj with
  | 0, _ => rfl
  | 1, _ => rfl
  | 2, _ => rfl
  | 3, _ => rfl
  | 4, _ => rfl
  | 5, _ => rfl
  | 6, _ => rfl
set_option maxRecDepth 20000 in
theorem next_nil (w : World) : Calls Try.prog 13 #[.pointer none] w fun e w' => e = .returned (.tuple #[noTok, .int .i64 0, .int .i64 2]) ∧ Below w.heap.size w w' := by
  go_enter Try.func13, Try.ntmps13
  go_wp2
  exact bodyPost_ret (v := .tuple #[noTok, .int .i64 0, .int .i64 2]) (by simp [results, Try.results13, go_sem, noTok]) rfl ⟨rfl, ((Below.refl _ _).alloc (Nat.le_refl _) _)⟩
set_option maxRecDepth 20000 in
set_option maxHeartbeats 1000000 in
theorem lexEnds_walk (w : World) (a : Option Addr) (k n c : Nat) (P : List Nat) (ml : Int) (hml : w.cell? ⟨0, 0, none⟩ = some (.int .i64 ml)) (h : ReadsU w a n P) (hk : k < 256) (hn : n ≤ 40) (hnc : n ≤ c) :
    Calls Try.prog 4 #[.int .u8 (k : Nat), .slice a n c] w (Yes w) := by
  have H := Lib.hid h
  have HML := Lib.hid hml
  have hn' : ¬ (40 : Int) < (n : Int) := by omega
  clear h hml
  go_enter Try.func4, Try.ntmps4
  go_wp2_with fail
  refine (awake_calls _ ml HML.out).mono ?_
  rintro e w1 ⟨rfl, hb1⟩
  have HB1 := Lib.hid hb1
  have H1 := Lib.hid (H.out.below hb1)
  have HM1 := Lib.hid (ml_below HML.out hb1)
  clear hb1
  go_wp2_with fail
  go_loopg [5, 6] (n) (fun gk s5 s6 wr => ∃ (j m cp : Nat) (A : Option Addr) (acc : List Nat), s5 = .slice A m cp ∧ s6 = .int .i64 j ∧ j ≤ n ∧ Hid (gk = n - j) ∧ m ≤ 7 * j ∧ Hid (acc.length = m) ∧ Hid (∀ u ∈ acc, u < 256) ∧ Hid (Gone acc) ∧ Hid (wr.ownsRow w1.heap.size 5 1 (.slice A m cp) m (bytes acc)) ∧ Hid (Below w1.heap.size w1 wr))
  case atStart => exact ⟨0, 0, 0, none, [], rfl, rfl, Nat.zero_le _, rfl, Nat.zero_le _, rfl, fun u hu => (by simp at hu), gone_nil, World.ownsRow_nil _ _ _ _, Below.refl _ _⟩
  case round =>
    obtain ⟨j, m, cp, A, acc, rfl, rfl, hj, HK, hm, HM, HA, HG, Owr, Bwr⟩ := hrel
    by_cases hlt : j < n
    · obtain ⟨b0, off, x, rfl, hx, x256, xc⟩ := (H1.out.below Bwr.out).at (j := j) (by omega)
      clear hx
      have xa : ∀ o, (wr.alloc o).cell? ⟨b0, off + j, none⟩ = some (.int .u8 (x : Nat)) := fun o => (((Below.refl wr.heap.size wr).alloc (Nat.le_refl _) o).cell (p := ⟨b0, off + j, none⟩) (World.block_lt_of_cell? wr _ xc)).trans xc
      obtain ⟨S, hS⟩ : ∃ S, S = bstr (part (x % 7)) := ⟨_, rfl⟩
      obtain ⟨hp7, hpb, _⟩ := part_small (x % 7)
      have xs : (wr.alloc (.cells #[Value.string ⟨#[32]⟩, .string ⟨#[9]⟩, .string ⟨#[13, 10]⟩, .string ⟨#[10]⟩, .string ⟨#[47, 47, 32, 97, 10]⟩, .string ⟨#[47, 42, 32, 98, 32, 42, 47]⟩, .string ⟨#[47, 42, 42, 47]⟩] 9)).cell? ⟨wr.heap.size, x % 7, none⟩ = some (.string S) := by
        rw [hS, blk_cell (heap_alloc_new wr _)]; exact part_cell x
      have HS := Lib.hid hS
      have HPB := Lib.hid hpb
      have HWZ : Hid (∀ o, w1.heap.size ≤ (wr.alloc o).heap.size) := Lib.hid (fun o => by have := Bwr.out.size; simp; omega)
      have HWB : Hid (∀ o, Below w1.heap.size w1 (wr.alloc o)) := Lib.hid (fun o => Bwr.out.alloc Bwr.out.size _)
      clear hS hpb
      go_wp2_with (at_builtin; refine append_str (B := w1.heap.size) (w0 := w1) rfl _ _ rfl _ m acc rfl (own_below Owr.out ((Below.refl _ _).alloc (Nat.le_refl _) _)) S (part (x % 7)) HS.out HPB.out rfl (by omega) (HWZ.out _) (HWB.out _) ?_; intro v1 w9 hown hb9; obtain ⟨A1, cp1, rfl, _, _⟩ := own_shape hown; have HO9 := Lib.hid hown; have HB9 := Lib.hid hb9; clear hown hb9)
      go_roundg (n - (j + 1))
      case measure => have := HK.out; omega
      case rel =>
        refine ⟨j + 1, m + (part (x % 7)).length, cp1, A1, acc ++ part (x % 7), rfl, by go_num, by omega, rfl, by omega, ?_, ?_, ?_, HO9.out, HB9.out⟩
        · show (acc ++ part (x % 7)).length = _
          rw [List.length_append, HM.out]
        · show ∀ u ∈ acc ++ part (x % 7), u < 256
          intro u hu
          rcases List.mem_append.1 hu with hu | hu
          · exact HA.out u hu
          · exact HPB.out u hu
        · exact gone_app HG.out (gone_part _)
    · obtain rfl : n = j := by omega
      go_wp2_with fail
      refine (new_calls _ _ _ _).mono ?_
      rintro e w2 ⟨rfl, rfl⟩
      obtain ⟨hmc, hrd⟩ := own_reads Owr.out HM.out
      have hL := Lx.fresh HM.out (show m ≤ 4000 by omega) hmc HA.out hrd
      have hb2 : Below w1.heap.size w1 (wr.alloc (.cells #[.slice A m cp, .int .i64 0] 51)) := Bwr.out.alloc Bwr.out.size _
      obtain ⟨g, hg⟩ : ∃ g, g = wr.heap.size := ⟨_, rfl⟩
      obtain ⟨W2, hW2⟩ : ∃ W2, W2 = wr.alloc (.cells #[.slice A m cp, .int .i64 0] 51) := ⟨_, rfl⟩
      have hgw : w1.heap.size ≤ g := by have := Bwr.out.size; omega
      have hg0 : g ≠ 0 := by have := World.block_lt_of_cell? w1 _ HM1.out; omega
      rw [← hg, ← hW2] at hL
      rw [← hW2] at hb2 ⊢
      rw [← hg]
      have HL2 := Lib.hid hL
      have HB2 := Lib.hid hb2
      have HLM : Hid ((⟨0, 0, [], acc.length⟩ : Tok).val = .agg #[.int .u8 0, .int .u8 0, .string ⟨#[]⟩, .int .i64 (m : Nat)]) := Lib.hid (by rw [HM.out]; rfl)
      have HN := Lib.hid (gone_next HG.out)
      have HLE := Lib.hid hmc
      clear hg hW2 hL hb2 hrd Owr Bwr HK hmc
      go_wp2_with fail
      go_loopg [8] (10) (fun gk s8 wv => ∃ i p : Nat, s8 = .int .i64 (i : Nat) ∧ i ≤ k % 9 + 1 ∧ Hid (gk = 10 - i) ∧ Hid (p = 0 ∨ p = acc.length) ∧ Hid (Lx wv g A m cp acc p) ∧ Hid (Below w1.heap.size w1 wv))
      case atStart => exact ⟨0, 0, rfl, Nat.zero_le _, rfl, .inl rfl, HL2.out, HB2.out⟩
      case round =>
        obtain ⟨i, p, rfl, hi, HK, HP, Lv, Bv⟩ := hrel
        by_cases hlt : i ≤ k % 9
        · have hN : nextM acc p = .ok (⟨0, 0, [], acc.length⟩, acc.length) := by
            rcases HP.out with h | h
            · rw [h]; exact HN.out.1
            · rw [h]; exact HN.out.2
          have hlt' : (i : Int) ≤ (k : Int) % 9 := by omega
          have HNX := Lib.hid hN
          clear hN
          go_wp2_with fail
          refine (next_calls wr g m cp p A acc ml Lv.out hg0 (ml_below HM1.out Bv.out)).mono ?_
          rw [HNX.out]
          rintro e w5 ⟨rfl, -, hL5, hg5⟩
          have HB5 := Lib.hid (below_grown Bv.out hgw hg5)
          have HL5 := Lib.hid hL5
          clear hL5 hg5
          rw [HLM.out]
          go_wp2_with fail
          go_roundg (10 - (i + 1))
          case measure => have := HK.out; omega
          case rel => exact ⟨i + 1, acc.length, by go_num, by omega, rfl, .inr rfl, HL5.out.below ((Below.refl _ _).alloc (Nat.le_refl _) _), HB5.out.alloc HB5.out.size _⟩
        · have hlt' : ¬ (i : Int) ≤ (k : Int) % 9 := by omega
          go_wp2_with fail
          refine (next_nil _).mono ?_
          rintro e w5 ⟨rfl, hb5⟩
          have HB5 := Lib.hid (HB1.out.trans (Bv.out.trans (hb5.mono Bv.out.size) |>.mono HB1.out.size))
          clear hb5
          unfold noTok
          go_wp2_with fail
          go_ret
          exact ⟨rfl, HB5.out.alloc HB5.out.size _⟩
theorem lexEnds_no (w : World) (a : Option Addr) (n c : Nat) (k : Nat) (ml : Int) (hml : w.cell? ⟨0, 0, none⟩ = some (.int .i64 ml)) (hm : n ≤ maxLen) (hn : ¬ n ≤ 40) : Calls Try.prog 4 #[.int .u8 (k : Nat), .slice a n c] w (Yes w) := by
  have HML := Lib.hid hml
  unfold maxLen at hm
  have hgt : (40 : Int) < (n : Int) := by omega
  clear hml hn
  go_enter Try.func4, Try.ntmps4
  go_wp2_with fail
  refine (awake_calls _ ml HML.out).mono ?_
  rintro e w1 ⟨rfl, hb1⟩
  have HB1 := Lib.hid hb1
  have HM1 := Lib.hid (ml_below HML.out hb1)
  clear hb1
  go_wp2_with fail
  refine (awake_calls _ ml HM1.out).mono ?_
  rintro e w2 ⟨rfl, hb2⟩
  have HB2 := Lib.hid (HB1.out.trans (hb2.mono HB1.out.size))
  clear hb2
  go_wp2
  go_ret
  exact ⟨rfl, HB2.out⟩
end Go.Proofs.Ytjebanfmnfofnaa

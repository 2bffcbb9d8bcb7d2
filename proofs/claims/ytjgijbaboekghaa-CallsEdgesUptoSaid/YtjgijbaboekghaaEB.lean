/-
  slices.Compact (53) and calls.Edges (25) in general; the plain law of CallsEdges. No statement of its own.
-/
import Derived.Test.YtjgijbaboekghaaSrt
import Derived.Test.YtjgijbaboekghaaEdg
import Derived.Test.YtjgijbaboekghaaMakeR
import Derived.Test.YtjgijbaboekghaaEA
set_option linter.unusedSimpArgs false
set_option linter.unusedVariables false
namespace Go.Proofs.Ytjgijbaboekghaa
open Go.RowKit
/-- The first i edges, of neighbours that are one the first. -/
def keepE (l : List Ed) : Nat → List Ed
  | 0 => []
  | i + 1 => keepE l i ++ (if i = 0 ∨ l[i]? ≠ l[i - 1]? then (l[i]?).toList else [])
def compE (l : List Ed) : List Ed := keepE l l.length
theorem keepE_same {l : List Ed} {i : Nat} (hi : 1 ≤ i) (h : l[i]? = l[i - 1]?) : keepE l (i + 1) = keepE l i := by
  rw [keepE, if_neg (by intro k; rcases k with k | k
                        · omega
                        · exact k h), List.append_nil]
theorem keepE_next {l : List Ed} {i : Nat} {x : Ed} (hx : l[i]? = some x) (h : i = 0 ∨ l[i]? ≠ l[i - 1]?) : keepE l (i + 1) = keepE l i ++ [x] := by
  rw [keepE, if_pos h, hx]
  rfl
theorem keepE_start {l : List Ed} {k : Nat} (hk : k ≤ l.length) (h : ∀ j, 1 ≤ j → j < k → l[j]? ≠ l[j - 1]?) : keepE l k = l.take k := by
  induction k with
  | zero => rfl
  | succ k ih =>
    have hx := List.getElem?_eq_getElem (show k < l.length by omega)
    rw [keepE_next hx (by rcases Nat.eq_zero_or_pos k with h0 | h0
                          · exact .inl h0
                          · exact .inr (h k h0 (Nat.lt_succ_self k))), ih (by omega) (fun j h1 h2 => h j h1 (by omega)), List.take_succ_eq_append_getElem (by omega)]
theorem keepE_len (l : List Ed) (i : Nat) : (keepE l i).length ≤ i := by
  induction i with
  | zero => exact Nat.le_refl _
  | succ i ih =>
    rw [keepE, List.length_append]
    have : (if i = 0 ∨ l[i]? ≠ l[i - 1]? then (l[i]?).toList else []).length ≤ 1 := by
      split
      · cases l[i]? <;> simp
      · exact Nat.zero_le _
    omega
theorem least_of {p : Nat → Prop} (h : ∃ k, p k) : ∃ k, p k ∧ ∀ j, j < k → ¬ p j := by
  obtain ⟨k, hk⟩ := h
  induction k using Nat.strongRecOn with
  | _ k ih =>
    by_cases hj : ∃ j, j < k ∧ p j
    · obtain ⟨j, hj1, hj2⟩ := hj
      exact ih j hj1 hj2
    · exact ⟨k, hk, fun j h1 h2 => hj ⟨j, h1, h2⟩⟩
theorem encE_set {l : List Ed} {k : Nat} (x : Ed) (hk : k < l.length) : encE (l.set k x) = (((encE l).set (k * 3) (.int .i64 x.1)).set (k * 3 + 1) (.int .i64 x.2.1)).set (k * 3 + 2) (.int .i64 x.2.2) := by
  induction l generalizing k with
  | nil => exact absurd hk (Nat.not_lt_zero _)
  | cons y l ih =>
    have hc : ∀ (z : Ed) r, encE (z :: r) = .int .i64 z.1 :: .int .i64 z.2.1 :: .int .i64 z.2.2 :: encE r := fun _ _ => rfl
    cases k with
    | zero => rw [List.set_cons_zero, hc, hc]; rfl
    | succ k =>
      have := ih (k := k) (by simpa using hk)
      rw [List.set_cons_succ, hc, hc, this, show (k + 1) * 3 = k * 3 + 1 + 1 + 1 by omega, show k * 3 + 1 + 1 + 1 + 1 = (k * 3 + 1) + 1 + 1 + 1 by omega, show k * 3 + 1 + 1 + 1 + 2 = (k * 3 + 2) + 1 + 1 + 1 by omega]
      simp only [List.set_cons_succ]
theorem encE_take (l : List Ed) (k : Nat) : (encE l).take (k * 3) = encE (l.take k) := by
  induction l generalizing k with
  | nil => simp [encE]
  | cons y l ih =>
    have hc : ∀ (z : Ed) r, encE (z :: r) = .int .i64 z.1 :: .int .i64 z.2.1 :: .int .i64 z.2.2 :: encE r := fun _ _ => rfl
    cases k with
    | zero => rfl
    | succ k => rw [List.take_succ_cons, hc, hc, show (k + 1) * 3 = k * 3 + 1 + 1 + 1 by omega, List.take_succ_cons, List.take_succ_cons, List.take_succ_cons, ih]
/-- clear of the edges behind the k-th. -/
theorem clear_edges {w : World} {B n c g k : Nat} {xs : List Value} (h : w.ownsRow B 68 3 (.slice (some ⟨g, 0, none⟩) n c) n xs) (hk : k < n) :
    ∃ w', (Builtin.clear_ #[64] 0 #[.slice (some ⟨g, k * 3, none⟩) (n - k) (c - k)]).run Try.prog w = .ok (.tuple #[]) w' ∧ w'.ownsRow B 68 3 (.slice (some ⟨g, 0, none⟩) k c) k (xs.take (k * 3)) ∧ w.grownBy w' (some g) := by
  obtain ⟨h1, h2⟩ := h
  rcases h2 with ⟨e, _⟩ | ⟨g', cap, cur, e, hb, hh, q1, q2, q3, q4⟩
  · cases e
  · injection e with e1 e2 e3
    injection e1 with e1
    injection e1 with e1
    subst e1 e3
    obtain ⟨r, hr⟩ : ∃ r, n - k = r + 1 := ⟨n - k - 1, by omega⟩
    have hv : ∀ w, (zeroValue 68).run Try.prog w = .ok (.agg #[.int .i64 0, .int .i64 0, .int .i64 0]) w := Try.zeroValue68
    obtain ⟨vs, hvs⟩ : ∃ vs, vs = (Builtin.zeroCells (Value.agg #[.int .i64 0, .int .i64 0, .int .i64 0]).cells (r + 1)).toList := ⟨_, rfl⟩
    have hlen : vs.length = (r + 1) * 3 := by rw [hvs]; simp [Builtin.zeroCells, Value.cells]
    have hone : ∀ v ∈ vs, v.oneCell' = true := by
      intro v hv
      rw [hvs] at hv
      simp only [Builtin.zeroCells, Value.cells, Array.toList_map, List.mem_map] at hv
      obtain ⟨i, _, rfl⟩ := hv
      have hm : i % 3 = 0 ∨ i % 3 = 1 ∨ i % 3 = 2 := by omega
      rcases hm with hm | hm | hm
      · show (#[Value.int .i64 0, .int .i64 0, .int .i64 0][i % 3]!).oneCell' = true
        rw [hm]; rfl
      · show (#[Value.int .i64 0, .int .i64 0, .int .i64 0][i % 3]!).oneCell' = true
        rw [hm]; rfl
      · show (#[Value.int .i64 0, .int .i64 0, .int .i64 0][i % 3]!).oneCell' = true
        rw [hm]; rfl
    have hst := run_storeCells_at (P := Try.prog) g (k * 3) 68 vs 0 cur w hh (by rw [hlen, q3]; omega) hone
    obtain ⟨cs, hcs⟩ : ∃ cs, cs = (List.take (k * 3 + 0) cur.toList ++ vs ++ List.drop (k * 3 + 0 + vs.length) cur.toList).toArray := ⟨_, rfl⟩
    rw [← hcs] at hst
    have hsz : cs.size = c * 3 := by
      rw [hcs]
      simp only [List.size_toArray, List.length_append, List.length_take, List.length_drop, hlen, Array.length_toList, q3]
      omega
    have hblk : (w.setRow g cs).heap[g]? = some (.cells cs 68 (0, 0)) := by
      unfold World.setRow
      simp [Array.getElem?_modify, hh]
    refine ⟨w.setRow g cs, ?_, ⟨?_, .inr ⟨g, c, cs, rfl, hb, hblk, by omega, q2, hsz, ?_⟩⟩, ⟨rfl, rfl, rfl, by simp, fun b _ hne => ?_⟩⟩
    · rw [hr]
      simp [Builtin.clear_, run_underlying Try.underlying64, hv, ← hvs, hst]
    · rw [List.length_take, h1]; omega
    · rw [hcs, ← q4, List.take_take]
      simp only [Nat.add_zero]
      rw [List.append_assoc, List.take_append_of_le_length (by simp; omega), List.take_take, Nat.min_self, Nat.min_eq_left (by omega)]
    · unfold World.setRow
      simp only [Array.getElem?_modify]
      rw [if_neg (fun e => hne (by rw [e]))]
section
variable {P : Program}
theorem clear_list {ops : Array Oper} {rest : List Oper} {o : Oper} {a : Act} {Q : Exit → Act → World → Prop} {W w' : World} (hgd : o.guard = none) (x : Operand) (t : TypeId) (ho : o.op = .call { callee := .builtin .clear, args := #[x], argTypes := #[t] }) (v : Value) (hx : a.eval x = v)
    (hr : (Builtin.clear_ #[t] o.type #[v]).run P W = .ok (.tuple #[]) w') (h : wpList P ops Q rest (a.put o.dst (.tuple #[])) w') : wpList P ops Q (o :: rest) a W := by
  refine wpList_plain hgd fun K hK => ?_
  unfold Oper.wp execOp
  simp only [ho, resolve, invoke, builtin, Sem.run_bind, Sem.run_pure, Result.andThen_ok, List.map_toArray, List.map_cons, List.map_nil, hx, hr]
  exact hK _ _ h
end
theorem grown_tr {a b c : World} {r : Option Nat} (h : a.grownBy b r) (k : b.grownBy c r) : a.grownBy c r :=
  ⟨k.os.trans h.os, k.tape.trans h.tape, k.output.trans h.output, Nat.le_trans h.size k.size, fun x hx hne => (k.block x (Nat.lt_of_lt_of_le hx h.size) hne).trans (h.block x hx hne)⟩
theorem compE_none {l : List Ed} (h : ∀ j, 1 ≤ j → j < l.length → l[j]? ≠ l[j - 1]?) : compE l = l := by
  unfold compE
  rw [keepE_start (Nat.le_refl _) h, List.take_length]
def Compacted (w : World) (B : Nat) (A : Option Addr) (n : Nat) (l : List Ed) (row : Option Nat) (e : Ending) (w' : World) : Prop := ∃ m c', e = .returned (.slice A m c') ∧ m = (compE l).length ∧ w'.ownsRow B 68 3 (.slice A m c') m (encE (compE l)) ∧ w.grownBy w' row
set_option maxRecDepth 20000 in
set_option maxHeartbeats 4000000 in
theorem compact_some (w : World) (B g n c k0 : Nat) (l : List Ed) (hn : l.length = n) (hN : n ≤ 1099511627776) (h : w.ownsRow B 68 3 (.slice (some ⟨g, 0, none⟩) n c) n (encE l)) (h1 : 1 ≤ k0) (h2 : k0 < n) (heq : l[k0]? = l[k0 - 1]?) (hne : ∀ j, 1 ≤ j → j < k0 → l[j]? ≠ l[j - 1]?) :
    Calls Try.prog 53 #[.slice (some ⟨g, 0, none⟩) n c] w (Compacted w B (some ⟨g, 0, none⟩) n l (some g)) := by
  have HN := Lib.hid hn
  have HO := Lib.hid h
  have HNE := Lib.hid hne
  have HEQ := Lib.hid heq
  have hcap : n ≤ c := by obtain ⟨_, _, e, h, _⟩ := own_shape h; injection e with _ _ e3; omega
  have hcb : c ≤ 9223372036854775807 := by
    rcases h.2 with ⟨e, _⟩ | ⟨_, cap, _, e, _, _, _, q2, _⟩
    · cases e
    · injection e with _ _ e3; unfold maxLen at q2; omega
  clear hn h hne heq
  have h2I : ¬ (n : Int) < 2 := by omega
  go_enter Try.func53, Try.ntmps53
  go_wp2_with fail
  clear h2I
  go_loopw [3] (fun v3 wr => ∃ k : Nat, 1 ≤ k ∧ k ≤ k0 ∧ v3 = .int .i64 (k : Nat) ∧ ∃ m, wr = w.drewN m) (fun v3 _ => n - (intOf v3).toNat)
  case atStart => exact ⟨1, Nat.le_refl _, by omega, rfl, 0, rfl⟩
  case round =>
    obtain ⟨k, hk1, hkn, rfl, m, rfl⟩ := hrel
    have hltI : (k : Int) < (n : Int) := by omega
    have hk0 : (0 : Int) ≤ (k : Int) := by omega
    obtain ⟨j, hj⟩ : ∃ j, k = j + 1 := ⟨k - 1, by omega⟩
    obtain ⟨⟨x1, x2, x3⟩, hx⟩ : ∃ x, l[j]? = some x := ⟨_, List.getElem?_eq_getElem (by rw [HN.out]; omega)⟩
    obtain ⟨⟨y1, y2, y3⟩, hy⟩ : ∃ x, l[k]? = some x := ⟨_, List.getElem?_eq_getElem (by rw [HN.out]; omega)⟩
    obtain ⟨a1, a2, a3⟩ := edge_cells HO.out hx
    obtain ⟨b1, b2, b3⟩ := edge_cells HO.out hy
    have hj1 : (k : Int) - 1 = (j : Int) := by omega
    have hj0 : (0 : Int) ≤ (j : Int) := by omega
    have hjn : (j : Int) < (n : Int) := by omega
    have hwj : IntKind.i64.wrap (j : Int) = (j : Int) := IntWalk.i64_in _ (by omega)
    by_cases hlt : k < k0
    · have HD := Lib.hid (show (y1, y2, y3) ≠ (x1, x2, x3) from fun e => HNE.out k hk1 hlt (by rw [hy, show k - 1 = j by omega, hx, e]))
      clear hx hy hj
      go_upto_region 6 with (fail)
      go_quiet ((rw [edge_if HD.out]; exact ⟨rfl, rfl⟩))
      go_wp2_with fail
      refine ⟨⟨k + 1, by omega, by omega, by go_num, m + nq, rfl⟩, by simp [intOf]; omega⟩
    · obtain rfl : k0 = k := by omega
      have he := HEQ.out
      rw [hy, show k0 - 1 = j by omega, hx] at he
      obtain ⟨rfl, rfl, rfl⟩ : y1 = x1 ∧ y2 = x2 ∧ y3 = x3 := by simpa using he
      clear he hx hy hj
      go_upto_region 6 with (fail)
      go_quiet (fail)
      have HOW : Hid (((w.drewN m).drewN nq).ownsRow B 68 3 (.slice (some ⟨g, 0, none⟩) n c) n (encE l)) := Lib.hid (own_below HO.out ⟨rfl, rfl, rfl, Nat.le_refl _, fun _ _ => rfl⟩)
      have HGW : Hid (w.grownBy ((w.drewN m).drewN nq) (some g)) := Lib.hid ⟨rfl, rfl, rfl, Nat.le_refl _, fun _ _ _ => rfl⟩
      obtain ⟨W, hW⟩ : ∃ W, W = (w.drewN m).drewN nq := ⟨_, rfl⟩
      rw [← hW] at HOW HGW ⊢
      clear hW a1 a2 a3 b1 b2 b3 hj1 hj0 hjn hwj
      have hcl : (0 : Int) ≤ (k0 : Int) ∧ (k0 : Int) ≤ (n : Int) := by omega
      go_wp2_with fail
      have HST : Hid (keepE l (k0 + 1) = l.take k0) := Lib.hid (by rw [keepE_same h1 HEQ.out, keepE_start (by rw [HN.out]; omega) HNE.out])
      obtain ⟨r, hr⟩ : ∃ r, r = n - k0 := ⟨_, rfl⟩
      obtain ⟨rc, hrc⟩ : ∃ r, r = c - k0 := ⟨_, rfl⟩
      rw [← hr, ← hrc]
      have hr1 : n = k0 + r := by omega
      have HRN := Lib.hid hr1
      have hr2 : r ≤ n := by omega
      have hr3 : 1 ≤ r := by omega
      have hr4 : r ≤ rc := by omega
      clear hr hrc hr1 hcl
      go_loopw [3, 5] (fun v3 v5 wr => ∃ (kk k2 : Nat) (l' : List Ed), 1 ≤ k2 ∧ k2 ≤ r ∧ kk + 1 ≤ k0 + k2 ∧ v3 = .int .i64 (kk : Nat) ∧ v5 = .int .i64 (k2 : Nat) ∧ Hid (l'.length = n) ∧ Hid (kk = (keepE l (k0 + k2)).length) ∧ Hid (l'.take kk = keepE l (k0 + k2)) ∧ Hid (∀ q, k0 + k2 ≤ q + 1 → l'[q]? = l[q]?) ∧ Hid (wr.ownsRow B 68 3 (.slice (some ⟨g, 0, none⟩) n c) n (encE l')) ∧ Hid (w.grownBy wr (some g))) (fun _ v5 _ => r - (intOf v5).toNat)
      case atStart => exact ⟨k0, 1, l, Nat.le_refl _, hr3, Nat.le_refl _, rfl, rfl, HN.out, (by show _ = _; rw [HST.out, List.length_take, HN.out]; omega), HST.out.symm, fun _ _ => rfl, HOW.out, HGW.out⟩
      case round =>
        clear HOW HGW HST
        obtain ⟨kk, k2, l', hk21, hk2r, hkk, rfl, rfl, HL', HK, HT, HQ, HOR, HG⟩ := hrel
        have hnr := HRN.out
        by_cases hlt2 : k2 < r
        · have hlt2I : (k2 : Int) < (r : Int) := by omega
          have hk20 : (0 : Int) ≤ (k2 : Int) := by omega
          obtain ⟨j2, hj2⟩ : ∃ j, k2 = j + 1 := ⟨k2 - 1, by omega⟩
          obtain ⟨⟨y1, y2, y3⟩, hy⟩ : ∃ x, l[k0 + k2]? = some x := ⟨_, List.getElem?_eq_getElem (by rw [HN.out]; omega)⟩
          obtain ⟨⟨x1, x2, x3⟩, hx⟩ : ∃ x, l[k0 + j2]? = some x := ⟨_, List.getElem?_eq_getElem (by rw [HN.out]; omega)⟩
          obtain ⟨b1, b2, b3⟩ := edge_cells HOR.out ((HQ.out (k0 + k2) (by omega)).trans hy)
          obtain ⟨a1, a2, a3⟩ := edge_cells HOR.out ((HQ.out (k0 + j2) (by omega)).trans hx)
          obtain ⟨⟨z1, z2, z3⟩, hz⟩ : ∃ x, l'[kk]? = some x := ⟨_, List.getElem?_eq_getElem (by rw [HL'.out]; omega)⟩
          obtain ⟨d1, d2, d3⟩ := edge_cells HOR.out hz
          have fr := fun o => HOR.out.frozenAt o
          rw [Nat.add_mul] at a1 a2 a3 b1 b2 b3
          have hj1 : (k2 : Int) - 1 = (j2 : Int) := by omega
          have hj0 : (0 : Int) ≤ (j2 : Int) := by omega
          have hjn : (j2 : Int) < (r : Int) := by omega
          have hwj : IntKind.i64.wrap (j2 : Int) = (j2 : Int) := IntWalk.i64_in _ (by omega)
          have hkI : (kk : Int) < (n : Int) := by omega
          have hkI0 : (0 : Int) ≤ (kk : Int) := by omega
          have HY := Lib.hid hy
          by_cases he : (y1, y2, y3) = (x1, x2, x3)
          · have HS : Hid (keepE l (k0 + (k2 + 1)) = keepE l (k0 + k2)) := Lib.hid (keepE_same (i := k0 + k2) (by omega) (by rw [hy, show k0 + k2 - 1 = k0 + j2 by omega, hx, he]))
            obtain ⟨rfl, rfl, rfl⟩ : y1 = x1 ∧ y2 = x2 ∧ y3 = x3 := by simpa using he
            clear he hx hy hj2 hz d1 d2 d3 fr hnr
            go_upto_region 11 with (fail)
            go_quiet (fail)
            go_wp2_with fail
            refine ⟨⟨kk, k2 + 1, l', by omega, by omega, by omega, rfl, by go_num, HL'.out, ?_, ?_, fun q hq => HQ.out q (by omega), own_below HOR.out ⟨rfl, rfl, rfl, Nat.le_refl _, fun _ _ => rfl⟩, ⟨HG.out.os, HG.out.tape, HG.out.output, HG.out.size, HG.out.block⟩⟩, by simp [intOf]; omega⟩
            · show _ = _
              rw [HS.out]; exact HK.out
            · show _ = _
              rw [HS.out]; exact HT.out
          · have HE := Lib.hid he
            have HS : Hid (keepE l (k0 + (k2 + 1)) = keepE l (k0 + k2) ++ [(y1, y2, y3)]) := Lib.hid (keepE_next (i := k0 + k2) hy (.inr (by rw [hy, show k0 + k2 - 1 = k0 + j2 by omega, hx]; intro e; injection e with e; exact he e)))
            clear he hx hy hj2 hz hnr
            go_upto_region 11 with (fail)
            go_quiet ((rw [edge_if HE.out]; exact ⟨rfl, rfl⟩))
            go_wp2_with fail
            have hdr : Below wr.heap.size wr (wr.drewN nq) := ⟨rfl, rfl, rfl, Nat.le_refl _, fun _ _ => rfl⟩
            have o1 := (own_below HOR.out hdr).stored (kk * 3) (.int .i64 y1)
            have o2 := o1.1.stored (kk * 3 + 1) (.int .i64 y2)
            have o3 := o2.1.stored (kk * 3 + 2) (.int .i64 y3)
            have hg0 : w.grownBy (wr.drewN nq) (some g) := ⟨HG.out.os, HG.out.tape, HG.out.output, HG.out.size, HG.out.block⟩
            refine ⟨⟨kk + 1, k2 + 1, l'.set kk (y1, y2, y3), by omega, by omega, by omega, by go_num, by go_num, ?_, ?_, ?_, ?_, ?_, ?_⟩, by simp [intOf]; omega⟩
            · show (l'.set _ _).length = n
              rw [List.length_set]; exact HL'.out
            · show _ = _
              rw [HS.out, List.length_append, ← HK.out]; rfl
            · show _ = _
              rw [HS.out, ← HT.out, List.take_succ_eq_append_getElem (by rw [List.length_set, HL'.out]; omega), List.getElem_set_self, List.take_set_of_le (Nat.le_refl _)]
            · intro q hq
              rw [List.getElem?_set, if_neg (by omega)]
              exact HQ.out q (by omega)
            · show World.ownsRow _ _ _ _ _ _ _
              rw [encE_set _ (by rw [HL'.out]; omega)]
              exact o3.1
            · exact grown_tr (grown_tr (grown_tr hg0 o1.2) o2.2) o3.2
        · obtain rfl : r = k2 := by omega
          have hnn : ¬ (r : Int) < (r : Int) := by omega
          have hkn : kk < n := by omega
          obtain ⟨w9, hrun, hown9, hg9⟩ := clear_edges HOR.out hkn
          have HO9 := Lib.hid hown9
          have HG9 := Lib.hid hg9
          have hkI : (0 : Int) ≤ (kk : Int) ∧ (kk : Int) ≤ (n : Int) := by omega
          clear hnr hown9 hg9
          go_wp2_with (at_builtin; refine clear_list rfl _ 64 rfl _ rfl hrun ?_)
          go_ret
          have hcE : compE l = keepE l (k0 + r) := by unfold compE; rw [HN.out, ← HRN.out]
          refine ⟨kk, c, rfl, ?_, ?_, ⟨HG9.out.os.trans HG.out.os, HG9.out.tape.trans HG.out.tape, HG9.out.output.trans HG.out.output, Nat.le_trans HG.out.size HG9.out.size, fun b hb hne => (HG9.out.block b (Nat.lt_of_lt_of_le hb HG.out.size) hne).trans (HG.out.block b hb hne)⟩⟩
          · rw [hcE]; exact HK.out
          · rw [hcE, ← HT.out, ← encE_take]; exact HO9.out
/-- slices.Compact of edges. -/
theorem compact_calls (w : World) (B : Nat) (A : Option Addr) (n c : Nat) (l : List Ed) (hn : l.length = n) (hN : n ≤ 1099511627776) (h : w.ownsRow B 68 3 (.slice A n c) n (encE l)) :
    Calls Try.prog 53 #[.slice A n c] w (Compacted w B A n l (Value.slice A n c).ownBlock) := by
  by_cases hex : ∃ k, 1 ≤ k ∧ k < n ∧ l[k]? = l[k - 1]?
  · obtain ⟨k0, ⟨h1, h2, heq⟩, hmin⟩ := least_of hex
    obtain ⟨g, rfl, _, _⟩ := own_addr h (by omega)
    exact compact_some w B g n c k0 l hn hN h h1 h2 heq (fun j hj1 hj2 e => hmin j hj2 ⟨hj1, by omega, e⟩)
  · have hne : ∀ j, 1 ≤ j → j < l.length → l[j]? ≠ l[j - 1]? := fun j h1 h2 e => hex ⟨j, h1, by omega, e⟩
    refine (compact_none w B A n c l hn (by omega) h (fun j x y hx hy e => hne (j + 1) (by omega) (List.getElem?_eq_some_iff.1 hy).1 (by rw [hy, Nat.add_sub_cancel, hx, e]))).mono ?_
    rintro e w' ⟨rfl, m, rfl⟩
    exact ⟨n, c, rfl, by rw [compE_none hne]; exact hn.symm, by rw [compE_none hne]; exact own_below h ⟨rfl, rfl, rfl, Nat.le_refl _, fun _ _ => rfl⟩, ⟨rfl, rfl, rfl, Nat.le_refl _, fun _ _ _ => rfl⟩⟩
end Go.Proofs.Ytjgijbaboekghaa

set_option linter.unusedSimpArgs false
set_option linter.unusedVariables false
namespace Go.Proofs.Ytjgijbaboekghaa
open Go.RowKit
set_option maxRecDepth 20000 in
set_option maxHeartbeats 4000000 in
theorem edgesG_calls (w : World) (mv pv : Value) (M : Mod) (ps : List (List Int)) (hm : ReadsM w mv M) (hp : ReadsP w pv ps) (hN : ∀ f ∈ M.funcs, (flatT 1000 0 f.body).length ≤ 1048576) (hR : (rawE M ps M.funcs.length).length ≤ 1099511627776) : Calls Try.prog 25 #[mv, pv] w (Edged w (compE (sortE (rawE M ps M.funcs.length)))) := by
  obtain ⟨sv, gv, fv, ev, rfl, h1, h2, h3, h4⟩ := id hm
  obtain ⟨sa, sc, rfl, _⟩ := h1.shape
  obtain ⟨ga, gc, rfl, hg1⟩ := h2.shape
  obtain ⟨fa, fc, rfl, hfn⟩ := h3.shape
  obtain ⟨ea, ec, rfl, _⟩ := h4.shape
  obtain ⟨pa, pn, pc, rfl, hpn, hpl, hpp⟩ := id hp
  have HM := Lib.hid hm
  have HP := Lib.hid hp
  have HNN := Lib.hid hN
  have HRR := Lib.hid hR
  have HF := Lib.hid h3
  obtain ⟨L, hL⟩ : ∃ L, L = sortE (rawE M ps M.funcs.length) := ⟨_, rfl⟩
  rw [← hL]
  have HL := Lib.hid hL
  clear hm hp hN hR h1 h2 h3 h4 hpn hpp hL
  obtain ⟨sn, hsn⟩ : ∃ n, n = M.strings.length := ⟨_, rfl⟩
  obtain ⟨gn, hgn⟩ : ∃ n, n = M.globals.length := ⟨_, rfl⟩
  obtain ⟨n, hnn⟩ : ∃ n, n = M.funcs.length := ⟨_, rfl⟩
  obtain ⟨en, hen⟩ : ∃ n, n = M.entries.length := ⟨_, rfl⟩
  rw [← hnn] at hfn HF HRR HL HM ⊢
  rw [← hgn] at hg1 HM ⊢
  rw [← hsn] at HM ⊢
  rw [← hen] at HM ⊢
  have HNL := Lib.hid hnn.symm
  clear hnn hgn hsn hen
  go_enter Try.func25, Try.ntmps25
  have m0 := heap_alloc_new w (.cells #[.slice sa sn sc, .slice ga gn gc, .slice fa n fc, .slice ea en ec] 32)
  have bw : Below w.heap.size w (w.alloc (.cells #[.slice sa sn sc, .slice ga gn gc, .slice fa n fc, .slice ea en ec] 32)) := (Below.refl _ _).alloc (Nat.le_refl _) _
  go_wp2_with fail
  refine (newMap_calls (w.alloc (.cells #[.slice sa sn sc, .slice ga gn gc, .slice fa n fc, .slice ea en ec] 32)) _ _ _ _ M (HM.out.sub (sub_below bw))).mono ?_
  rintro e w1 ⟨vv, cv, rfl, hv, hc, hb1⟩
  have hwb : Below w.heap.size w w1 := bw.trans (hb1.mono (by simp))
  have hX : MapAt w1 (.agg #[.slice sa sn sc, .slice ga gn gc, .slice fa n fc, .slice ea en ec, vv, cv, .int .i64 (firstN M M.funcs.length : Nat), .int .i64 (firstN M M.funcs.length : Nat)]) M := ⟨_, _, _, _, _, _, rfl, HM.out.sub (sub_below hwb), hv, hc⟩
  obtain ⟨va, vc, rfl, _⟩ := hv.shape
  obtain ⟨ca, cc, rfl, _⟩ := hc.shape
  rw [firsts_length] at hX ⊢
  obtain ⟨q, hq⟩ : ∃ q, q = firstN M M.funcs.length := ⟨_, rfl⟩
  rw [← hq, HNL.out] at hX ⊢
  clear hq
  have m0' := blk_below m0 hb1
  go_upto_region 3 with (fail)
  have m5 := heap_alloc_new w1 (.cells #[.slice sa sn sc, .slice ga gn gc, .slice fa n fc, .slice ea en ec, .slice va n vc, .slice ca n cc, .int .i64 (q : Nat), .int .i64 (q : Nat)] 95)
  have m00 := blk_alloc m0' (.cells #[.slice sa sn sc, .slice ga gn gc, .slice fa n fc, .slice ea en ec, .slice va n vc, .slice ca n cc, .int .i64 (q : Nat), .int .i64 (q : Nat)] 95)
  have hb0 : Below w.heap.size w (w1.alloc (.cells #[.slice sa sn sc, .slice ga gn gc, .slice fa n fc, .slice ea en ec, .slice va n vc, .slice ca n cc, .int .i64 (q : Nat), .int .i64 (q : Nat)] 95)) := hwb.alloc hwb.size _
  have hX0 := hX.sub (sub_below ((Below.refl w1.heap.size w1).alloc (Nat.le_refl _) (.cells #[.slice sa sn sc, .slice ga gn gc, .slice fa n fc, .slice ea en ec, .slice va n vc, .slice ca n cc, .int .i64 (q : Nat), .int .i64 (q : Nat)] 95)))
  obtain ⟨W0, hW0⟩ : ∃ W0, W0 = w1.alloc (.cells #[.slice sa sn sc, .slice ga gn gc, .slice fa n fc, .slice ea en ec, .slice va n vc, .slice ca n cc, .int .i64 (q : Nat), .int .i64 (q : Nat)] 95) := ⟨_, rfl⟩
  rw [← hW0] at m5 m00 hb0 hX0 ⊢
  have H0 := Lib.hid m00
  have H5 := Lib.hid m5
  have HB0 := Lib.hid hb0
  have HX0 := Lib.hid hX0
  have HF0 := Lib.hid (HF.out.sub (sub_below hb0))
  have HP0 := Lib.hid (HP.out.sub (sub_below hb0))
  clear m0 bw hwb hX m0' m5 m00 hb0 hX0 hW0 hv hc hb1 HF HP HM
  obtain ⟨c0, f0, z0⟩ := blk3 H0.out
  go_wp2_with fail
  clear c0 f0 z0
  go_loopw [6, 18] (fun v6 v18 wr => ∃ (i m : Nat) (A : Option Addr) (cp : Nat), i ≤ n ∧ v18 = .int .i64 (i : Nat) ∧ v6 = .slice A m cp ∧ Hid (m = (rawE M ps i).length) ∧ Hid (Owns wr W0.heap.size [⟨68, 3, .slice A m cp, m, encE (rawE M ps i)⟩]) ∧ Hid (Below W0.heap.size W0 wr)) (fun _ iv _ => n - (intOf iv).toNat)
  case atStart => exact ⟨0, 0, none, 0, Nat.zero_le _, rfl, rfl, rfl, (Owns.nil _ _).none_ 68 3, Below.refl _ _⟩
  case round =>
    obtain ⟨i, m, A, cp, hi, rfl, rfl, HMM, HO, HB⟩ := hrel
    by_cases hlt : i < n
    · have hltI : (i : Int) < (n : Int) := by omega
      have hi0 : (0 : Int) ≤ (i : Int) := by omega
      obtain ⟨b, off, f, lv, sv, bv, rfl, hf, ⟨k0, k1, k2, k3, k4⟩, hlv, hsv, hbv⟩ := (HF0.out.sub (sub_below HB.out)).at hlt
      obtain ⟨ba, bl, bc, rfl, _, hbb⟩ := hbv
      have HFF := Lib.hid hf
      have HBB := Lib.hid hbb
      have HFM := Lib.hid (List.mem_of_getElem? hf)
      obtain ⟨la, lc, rfl, _⟩ := hlv.shape
      obtain ⟨ia, ic, rfl, _⟩ := hsv.shape
      clear hlv hsv hf hbb
      go_wp2_with fail
      refine (sites_calls _ _ _ _ _ ba bl bc f.body (HBB.out.below ((Below.refl _ _).alloc (Nat.le_refl _) _)) (HNN.out f HFM.out)).mono ?_
      rintro e w2 ⟨SA, SN, SC, xs, rfl, hsn, hso, hst, hb2⟩
      have HB2 : Hid (Below W0.heap.size W0 w2) := Lib.hid ((HB.out.alloc HB.out.size _).trans (hb2.mono (by have := HB.out.size; simp; omega)))
      have HO2 : Hid (Owns w2 W0.heap.size [⟨46, 7, .slice SA SN SC, SN, xs⟩, ⟨68, 3, .slice A m cp, m, encE (rawE M ps i)⟩]) := Lib.hid ((HO.out.below ((Below.refl _ _).alloc (Nat.le_refl _) _)).new hb2 (r := ⟨46, 7, .slice SA SN SC, SN, xs⟩) hso (by have := HB.out.size; simp; omega))
      have HST := Lib.hid hst
      have HSN := Lib.hid hsn
      have hN6 : SN ≤ 1048576 := by
        have h1 := HNN.out f HFM.out
        have h2 := sitesOf_len (flatT 1000 0 f.body) (flatT 1000 0 f.body).length
        rw [List.take_length] at h2
        omega
      clear hso hst hsn hb2 k0 k1 k2 k3 k4 HO HB HBB
      go_wp2_with fail
      go_loopw [6, 26] (fun v6 v26 wr => ∃ (j m : Nat) (A : Option Addr) (cp : Nat), j ≤ SN ∧ v26 = .int .i64 (j : Nat) ∧ v6 = .slice A m cp ∧ Hid (m = (rawE M ps i ++ callsE M ps i f j).length) ∧ Hid (Owns wr W0.heap.size [⟨46, 7, .slice SA SN SC, SN, xs⟩, ⟨68, 3, .slice A m cp, m, encE (rawE M ps i ++ callsE M ps i f j)⟩]) ∧ Hid (Below W0.heap.size W0 wr)) (fun _ iv _ => SN - (intOf iv).toNat)
      case atStart => exact ⟨0, m, A, cp, Nat.zero_le _, rfl, rfl, (by show m = _; rw [callsE_zero, List.append_nil]; exact HMM.out), (by show Owns _ _ _; rw [callsE_zero, List.append_nil]; exact HO2.out), HB2.out⟩
      case round =>
        clear HMM HO2 HB2
        obtain ⟨j, m, A, cp, hj, rfl, rfl, HMM, HO, HB⟩ := hrel
        by_cases hltj : j < SN
        · have hltJ : (j : Int) < (SN : Int) := by omega
          have hj0 : (0 : Int) ≤ (j : Int) := by omega
          obtain ⟨gS, rfl, _, _⟩ := own_addr (HO.out.at (i := 0) rfl) (by omega)
          obtain ⟨s, hs⟩ : ∃ s, (sitesOf (flatT 1000 0 f.body))[j]? = some s := ⟨_, List.getElem?_eq_getElem (by rw [← HSN.out]; exact hltj)⟩
          obtain ⟨sk, ak, ai, bk, bi, aa, b2, al, ac, l2, c2, hsb, x0, x1, x2, x3, x4, x5, x6⟩ := seven_cells (HO.out.at (i := 0) rfl) HST.out hs
          have HS := Lib.hid hs
          have HSB := Lib.hid hsb
          obtain ⟨c5, f5, z5⟩ := blk3 (blk_below H5.out HB.out)
          clear hs hsb
          go_wp2_with fail
          refine (whom_calls _ _ M i f sk ak ai bk bi aa b2 al ac l2 c2 (.slice pa pn pc) ps (HX0.out.sub (sub_below (HB.out.alloc HB.out.size _))) HFF.out (HP0.out.sub (sub_below (HB.out.alloc HB.out.size _)))).mono ?_
          rintro e w3 ⟨WA, WN, WC, rfl, hwn, hwN, hwo, hb3⟩
          obtain ⟨ws, hws⟩ : ∃ ws, ws = whomN M i f bk bi ps := ⟨_, rfl⟩
          have HWS : Hid (ws = whomN M i f (siteB s).1 (siteB s).2 ps) := Lib.hid (by rw [HSB.out]; exact hws)
          rw [← hws] at hwn hwo
          have HB3 : Hid (Below W0.heap.size W0 w3) := Lib.hid ((HB.out.alloc HB.out.size _).trans (hb3.mono (by have := HB.out.size; simp; omega)))
          have HO3 : Hid (Owns w3 W0.heap.size [⟨3, 1, .slice WA WN WC, WN, ints ws⟩, ⟨46, 7, .slice (some ⟨gS, 0, none⟩) SN SC, SN, xs⟩, ⟨68, 3, .slice A m cp, m, encE (rawE M ps i ++ callsE M ps i f j)⟩]) := Lib.hid ((HO.out.below ((Below.refl _ _).alloc (Nat.le_refl _) _)).new hb3 (r := ⟨3, 1, .slice WA WN WC, WN, ints ws⟩) hwo (by have := HB.out.size; simp; omega))
          have HWN := Lib.hid hwn
          clear hwo hwn hb3 hws x0 x1 x2 x3 x4 x5 x6 c5 f5 z5 HO HB
          go_wp2_with fail
          go_loopw [6, 37] (fun v6 v37 wr => ∃ (k m : Nat) (A : Option Addr) (cp : Nat), k ≤ WN ∧ v37 = .int .i64 (k : Nat) ∧ v6 = .slice A m cp ∧ Hid (m = (rawE M ps i ++ callsE M ps i f j ++ edgesOf i j (ws.take k)).length) ∧ Hid (Owns wr W0.heap.size [⟨3, 1, .slice WA WN WC, WN, ints ws⟩, ⟨46, 7, .slice (some ⟨gS, 0, none⟩) SN SC, SN, xs⟩, ⟨68, 3, .slice A m cp, m, encE (rawE M ps i ++ callsE M ps i f j ++ edgesOf i j (ws.take k))⟩]) ∧ Hid (Below W0.heap.size W0 wr)) (fun _ iv _ => WN - (intOf iv).toNat)
          case atStart => exact ⟨0, m, A, cp, Nat.zero_le _, rfl, rfl, (by show m = _; rw [edgesOf_zero, List.append_nil]; exact HMM.out), (by show Owns _ _ _; rw [edgesOf_zero, List.append_nil]; exact HO3.out), HB3.out⟩
          case round =>
            clear HMM HO3 HB3
            obtain ⟨k, m, A, cp, hk, rfl, rfl, HMM, HO, HB⟩ := hrel
            by_cases hltk : k < WN
            · have hltK : (k : Int) < (WN : Int) := by omega
              have hk0 : (0 : Int) ≤ (k : Int) := by omega
              obtain ⟨gW, rfl, _, _⟩ := own_addr (HO.out.at (i := 0) rfl) (by omega)
              obtain ⟨t, ht⟩ : ∃ t, ws[k]? = some t := ⟨_, List.getElem?_eq_getElem (by rw [← HWN.out]; exact hltk)⟩
              have kt := (row_cell (HO.out.at (i := 0) rfl) (k := k) (v := .int .i64 t) (by show (ints ws)[k]? = _; unfold ints; rw [List.getElem?_map, ht]; rfl)).1
              have HT := Lib.hid (edgesOf_snoc (fn := i) (j := j) ht)
              have hroom : m ≤ 1099511627776 := by
                have h1 := rawE_room (k := k) HRR.out hlt HFF.out HS.out (by rw [← HWS.out, ← HWN.out]; omega)
                rw [← HWS.out, ← HMM.out] at h1
                exact h1
              clear ht
              go_wp2_with (at_builtin; refine append_at_list (B := W0.heap.size) (W := wr.alloc (.cells #[.int .i64 (i : Nat), .int .i64 (j : Nat), .int .i64 t] 68)) rfl 2 _ _ _ 64 68 (.agg #[.int .i64 0, .int .i64 0, .int .i64 0]) 3 24 rfl Try.underlying64 info68e rfl (by decide) (.slice A m cp) m _ rfl (HO.out.below ((Below.refl _ _).alloc (Nat.le_refl _) _)) rfl ⟨wr.heap.size, 0, none⟩ 1 1 (edV ((i : Int), (j : Int), t)) rfl rfl (new_cells _ _ _ _) (edV_one _) (by have := HB.out.size; simp; omega) (by omega) (by omega) ?_; intro A1 cp1 w6 hg; have HB6 := Lib.hid ((HB.out.alloc HB.out.size _).trans hg.below); have HO6 := Lib.hid hg.owns; clear hg kt)
              refine ⟨⟨k + 1, m + 1, A1, cp1, by omega, by go_num, rfl, ?_, ?_, HB6.out⟩, by simp [intOf]; omega⟩
              · show _ = _
                rw [HT.out, ← List.append_assoc, List.length_append, ← HMM.out]; rfl
              · show Owns _ _ _
                rw [HT.out, ← List.append_assoc, encE_append]
                exact HO6.out
            · obtain rfl : WN = k := by omega
              have hnn : ¬ (WN : Int) < (WN : Int) := by omega
              have HC := Lib.hid (callsE_succ (M := M) (ps := ps) (i := i) HS.out)
              have HTK : Hid (ws.take WN = ws) := Lib.hid (List.take_of_length_le (by rw [← HWN.out]; exact Nat.le_refl _))
              go_wp2_with fail
              refine ⟨⟨j + 1, m, A, cp, by omega, by go_num, rfl, ?_, ?_, HB.out⟩, by simp [intOf]; omega⟩
              · show _ = _
                rw [HC.out, ← HWS.out, ← List.append_assoc, HMM.out, HTK.out]
              · show Owns _ _ _
                have h1 := HO.out.tail
                rw [HTK.out] at h1
                rw [HC.out, ← HWS.out, ← List.append_assoc]
                exact h1
        · obtain rfl : SN = j := by omega
          have hnn : ¬ (SN : Int) < (SN : Int) := by omega
          have HR := Lib.hid (rawE_succ (ps := ps) HFF.out)
          go_wp2_with fail
          refine ⟨⟨i + 1, m, A, cp, by omega, by go_num, rfl, ?_, ?_, HB.out⟩, by simp [intOf]; omega⟩
          · show _ = _
            rw [HR.out, ← HSN.out]; exact HMM.out
          · show Owns _ _ _
            rw [HR.out, ← HSN.out]; exact HO.out.tail
    · obtain rfl : n = i := by omega
      have hnn : ¬ (n : Int) < (n : Int) := by omega
      have hm40 : m ≤ 1099511627776 := by have h1 := HRR.out; rw [← HMM.out] at h1; exact h1
      go_wp2_with fail
      refine (sortE_calls wr W0.heap.size A m cp (rawE M ps n) HMM.out.symm hm40 HO.out.head).mono ?_
      rintro e w4 ⟨rfl, ho4, hg4⟩
      rw [← HL.out] at ho4
      have HB4 : Hid (Below W0.heap.size W0 w4) := Lib.hid (HB.out.grown hg4 HB.out.size (fun k hk => (World.ownsRow.lt HO.out.head k hk).1))
      have HO4 := Lib.hid ho4
      have HLN : Hid (L.length = m) := Lib.hid (by rw [HL.out, sortE_len]; exact HMM.out.symm)
      clear ho4 hg4 HO HB
      go_wp2_with fail
      refine (compact_calls w4 W0.heap.size A m cp L HLN.out (by omega) HO4.out).mono ?_
      rintro e w5 ⟨m', c', rfl, hm', ho5, hg5⟩
      have HB5 := Lib.hid (HB4.out.grown hg5 HB4.out.size (fun k hk => (World.ownsRow.lt HO4.out k hk).1))
      have HO5 := Lib.hid ho5
      have HM5 := Lib.hid hm'
      clear ho5 hg5 hm'
      go_wp2_with fail
      go_ret
      exact ⟨A, m', c', rfl, HM5.out, own_base HO5.out HB0.out.size, HB0.out.trans (HB5.out.mono HB0.out.size)⟩
end Go.Proofs.Ytjgijbaboekghaa

set_option linter.unusedSimpArgs false
set_option linter.unusedVariables false
namespace Go.Proofs.Ytjgijbaboekghaa
open Go.RowKit
/-- A variable that is there; an object that is there. -/
def okV (G L : Nat) (k i : Int) : Prop := k = 1 ∧ 0 ≤ i ∧ i < (L : Int) ∨ k = 2 ∧ 0 ≤ i ∧ i < (G : Int)
def okO (G L S N : Nat) (k i : Int) : Prop := okV G L k i ∨ k = 3 ∧ 0 ≤ i ∧ i < (N : Int) ∨ k = 4 ∧ 0 ≤ i ∧ i < (S : Int)
def okS (G L S N : Nat) : St → Prop
  | .mk k ak ai bk bi _ _ => (k = 1 → okV G L ak ai ∧ okO G L S N bk bi) ∧ (k = 3 → okV G L bk bi) ∧ (k = 4 → okV G L ak ai) ∧ (k = 5 → bk = 3 ∧ 0 ≤ bi ∧ bi < (N : Int) ∨ okV G L bk bi)
def okB (G L S N : Nat) (l : List St) : Prop := ∀ x ∈ flatT 1000 0 l, okS G L S N x.2
theorem okB_append {G L S N : Nat} {l r : List St} (h1 : okB G L S N l) (h2 : okB G L S N r) : okB G L S N (l ++ r) := fun x hx => by
  rw [flatT_append] at hx
  rcases List.mem_append.1 hx with h | h
  · exact h1 x h
  · exact h2 x h
theorem varOf_ok {G L n : Nat} (hL : 0 < L) : okV G L (varOf L G n).1 (varOf L G n).2 := by
  unfold varOf
  have hm : n % (L + G) < L + G := Nat.mod_lt _ (by omega)
  split
  · exact .inl ⟨rfl, Int.natCast_nonneg _, by show ((n % (L + G) : Nat) : Int) < _; omega⟩
  · exact .inr ⟨rfl, Int.natCast_nonneg _, by show ((n % (L + G) - L : Nat) : Int) < _; omega⟩
theorem okS_other {G L S N : Nat} {k ak ai bk bi : Int} {args : List (Int × Int)} {body : List St} (h1 : k ≠ 1) (h3 : k ≠ 3) (h4 : k ≠ 4) (h5 : k ≠ 5) : okS G L S N (.mk k ak ai bk bi args body) := ⟨fun h => absurd h h1, fun h => absurd h h3, fun h => absurd h h4, fun h => absurd h h5⟩
theorem stmt1_ok {G F L S : Nat} {params : Nat → Nat} (k a b c : Nat) (hL : 0 < L) (hF : 0 < F) (hS : 0 < S) : okS G L S F (stmt1 G F L S params k a b c) := by
  have hA := varOf_ok (G := G) (n := a) hL
  have hB := varOf_ok (G := G) (n := b) hL
  have hbF : ((b % F : Nat) : Int) < (F : Int) := by have := Nat.mod_lt b hF; omega
  have hbS : ((b % S : Nat) : Int) < (S : Int) := by have := Nat.mod_lt b hS; omega
  unfold stmt1
  dsimp only
  split
  · split
    · exact ⟨fun _ => ⟨hA, .inr (.inl ⟨rfl, Int.natCast_nonneg _, hbF⟩)⟩, fun h => absurd h (by decide), fun h => absurd h (by decide), fun h => absurd h (by decide)⟩
    · split
      · exact ⟨fun _ => ⟨hA, .inl hB⟩, fun h => absurd h (by decide), fun h => absurd h (by decide), fun h => absurd h (by decide)⟩
      · exact ⟨fun _ => ⟨hA, .inr (.inr ⟨rfl, Int.natCast_nonneg _, hbS⟩)⟩, fun h => absurd h (by decide), fun h => absurd h (by decide), fun h => absurd h (by decide)⟩
  · split
    · exact ⟨fun h => absurd h (by decide), fun _ => hB, fun h => absurd h (by decide), fun h => absurd h (by decide)⟩
    · split
      · exact ⟨fun h => absurd h (by decide), fun h => absurd h (by decide), fun _ => hA, fun h => absurd h (by decide)⟩
      · split
        · refine ⟨fun h => absurd h (by decide), fun h => absurd h (by decide), fun h => absurd h (by decide), fun _ => ?_⟩
          split
          · exact .inl ⟨rfl, Int.natCast_nonneg _, hbF⟩
          · exact .inr hB
        · split
          · exact okS_other (by decide) (by decide) (by decide) (by decide)
          · exact okS_other (by decide) (by decide) (by decide) (by decide)
theorem kids_block (m d : Nat) (l : List St) : kidsT (m + 1) d (St.mk 7 0 0 0 0 [] l) = flatT m (d + 1) l := by
  rw [kidsT, if_pos (show (St.mk 7 0 0 0 0 [] l).kind = 7 from rfl)]
  rfl
theorem one_flat (s : St) : flatT 1000 0 [s] = (0, s) :: kidsT 1000 0 s := flatT_cons _ _ _
theorem stmtS_ok {G F L S : Nat} {params : Nat → Nat} (k a b c : Nat) (hL : 0 < L) (hF : 0 < F) (hS : 0 < S) : okB G L S F [stmtS G F L S params k a b c] := by
  unfold stmtS
  split
  · rename_i h
    split
    · intro x hx
      rw [one_flat] at hx
      rcases List.mem_cons.1 hx with rfl | hx
      · exact okS_other (by decide) (by decide) (by decide) (by decide)
      · rw [show kidsT 1000 0 (St.mk 7 0 0 0 0 [] []) = flatT 999 1 [] from kids_block 999 0 [], flatT_nil] at hx
        cases hx
    · rename_i h8
      intro x hx
      rw [one_flat] at hx
      rcases List.mem_cons.1 hx with rfl | hx
      · exact okS_other (by decide) (by decide) (by decide) (by decide)
      · rw [show ∀ l, kidsT 1000 0 (St.mk 7 0 0 0 0 [] l) = flatT 999 1 l from fun l => kids_block 999 0 l] at hx
        rw [show ∀ x y : St, [x, y] = [x] ++ [y] from fun _ _ => rfl, flatT_append, flatT_cons, flatT_cons, kids_no (stmt1_flat _ _ _ _ _ _ _ _ _ (by omega)), kids_no (mv_flat _ _ _ _)] at hx
        simp only [List.mem_append, List.mem_singleton] at hx
        rcases hx with rfl | rfl
        · exact stmt1_ok _ _ _ _ hL hF hS
        · exact okS_other (by decide) (by decide) (by decide) (by decide)
  · rename_i h
    intro x hx
    rw [one_flat, kids_no (stmt1_flat _ _ _ _ _ _ _ _ _ h), List.mem_singleton] at hx
    subst hx
    exact stmt1_ok _ _ _ _ hL hF hS
theorem addTo_where {fs : List Fn} {j q : Nat} {s : St} {x : Fn} (h : (addTo fs j s)[q]? = some x) : ∃ y, fs[q]? = some y ∧ x.locals = y.locals ∧ x.sites = y.sites ∧ (x.body = y.body ∨ q = j ∧ x.body = y.body ++ [s]) := by
  unfold addTo at h
  rw [List.getElem?_modify] at h
  cases hy : fs[q]? with
  | none => rw [hy] at h; simp at h
  | some y =>
    rw [hy] at h
    refine ⟨y, rfl, ?_⟩
    simp at h
    subst h
    split
    · rename_i e
      exact ⟨rfl, rfl, .inr ⟨e.symm, rfl⟩⟩
    · exact ⟨rfl, rfl, .inl rfl⟩
theorem mk2_at (g f i : Nat) : ∀ (q : Nat) x, (mk2 g f i).2[q]? = some x → x.locals.length = nlD f q ∧ x.sites.length = nsD q ∧ x.body = [] := by
  induction i with
  | zero => intro q x h; rw [mk2] at h; simp at h
  | succ i ih =>
    intro q x h
    rw [mk2] at h
    rcases Nat.lt_or_ge q (mk2 g f i).2.length with h1 | h1
    · rw [List.getElem?_append_left h1] at h
      exact ih q x h
    · rw [List.getElem?_append_right h1, mk2_length] at h
      have h2 : q = i := by
        rw [mk2_length] at h1
        have := (List.getElem?_eq_some_iff.1 h).1
        simp at this
        omega
      subst h2
      rw [Nat.sub_self] at h
      injection h with h
      subst h
      refine ⟨?_, ?_, rfl⟩
      · show (List.map _ _).length = _
        rw [List.length_map, List.length_range]
      · show (List.map _ _).length = _
        rw [List.length_map, List.length_range]
theorem bodD_ok (d : Dr) (i : Nat) : ∀ (q : Nat) x, (bodD d i)[q]? = some x → x.locals.length = nlD d.f q ∧ x.sites.length = nsD q ∧ okB (d.g % 4) (nlD d.f q) (nsD q) (nD d.f) x.body := by
  induction i with
  | zero =>
    intro q x hx
    obtain ⟨h1, h2, h3⟩ := mk2_at _ _ _ q x hx
    exact ⟨h1, h2, by rw [h3]; intro y hy; rw [flatT_nil] at hy; cases hy⟩
  | succ i ih =>
    intro q x hx
    rw [bodD] at hx
    obtain ⟨y, hy, e1, e2, h⟩ := addTo_where hx
    obtain ⟨h1, h2, h3⟩ := ih q y hy
    refine ⟨e1 ▸ h1, e2 ▸ h2, ?_⟩
    rcases h with h | ⟨rfl, h⟩
    · rw [h]; exact h3
    · rw [h]
      exact okB_append h3 (stmtS_ok _ _ _ _ (by unfold nlD; omega) (by unfold nD; omega) (by unfold nsD; omega))
/-- A module whose references are there. -/
def OkM (M : Mod) : Prop := ∀ (q : Nat) f, M.funcs[q]? = some f → okB M.globals.length f.locals.length f.sites.length M.funcs.length f.body
theorem makeM_ok (d : Dr) : OkM (makeM d) := by
  intro q f hf
  have hf' : ((rawM d).funcs.map (canonF (canonL (rawM d) (rawM d).strings.length) (rawM d).strings))[q]? = some f := hf
  rw [List.getElem?_map] at hf'
  obtain ⟨x, hx, rfl⟩ := Option.map_eq_some_iff.1 hf'
  obtain ⟨h1, h2, h3⟩ := bodD_ok d d.acts.length q x hx
  have e1 : (canonF (canonL (rawM d) (rawM d).strings.length) (rawM d).strings x).locals.length = nlD d.f q := by rw [← h1]; exact List.length_map _
  have e2 : (canonF (canonL (rawM d) (rawM d).strings.length) (rawM d).strings x).sites.length = nsD q := by rw [← h2]; exact List.length_map _
  have e3 : (makeM d).globals.length = d.g % 4 := by
    show (List.map _ (natInts (d.g % 4))).length = _
    rw [List.length_map]
    unfold natInts
    rw [List.length_map, List.length_range]
  rw [e1, e2, e3, makeM_len]
  exact h3
end Go.Proofs.Ytjgijbaboekghaa

set_option linter.unusedSimpArgs false
set_option linter.unusedVariables false
namespace Go.Proofs.Ytjgijbaboekghaa
open Go.RowKit
theorem ltE_irrefl (x : Ed) : ¬ ltE x x := by unfold ltE; omega
theorem ltE_asymm {x y : Ed} (h : ltE x y) : ¬ ltE y x := by unfold ltE at *; omega
theorem ltE_tri {x y : Ed} (h1 : ¬ ltE x y) (h2 : ¬ ltE y x) : x = y := cmpE_total x y (ltOf_cmpE'.2 h1) (ltOf_cmpE'.2 h2)
/-- Two rows that rise, of the same edges, are one. -/
theorem sorted_ext : ∀ (l r : List Ed), l.Pairwise ltE → r.Pairwise ltE → (∀ x, x ∈ l ↔ x ∈ r) → l = r
  | [], [], _, _, _ => rfl
  | [], b :: r, _, _, h => by have := (h b).2 List.mem_cons_self; cases this
  | a :: l, [], _, _, h => by have := (h a).1 List.mem_cons_self; cases this
  | a :: l, b :: r, hl, hr, h => by
    obtain ⟨hl1, hl2⟩ := List.pairwise_cons.1 hl
    obtain ⟨hr1, hr2⟩ := List.pairwise_cons.1 hr
    have hab : a = b := by
      rcases List.mem_cons.1 ((h a).1 List.mem_cons_self) with e | e
      · exact e
      · rcases List.mem_cons.1 ((h b).2 List.mem_cons_self) with e2 | e2
        · exact e2.symm
        · exact absurd (hr1 a e) (ltE_asymm (hl1 b e2))
    subst hab
    rw [sorted_ext l r hl2 hr2 (fun x => ⟨fun hx => by
      rcases List.mem_cons.1 ((h x).1 (List.mem_cons_of_mem _ hx)) with e | e
      · subst e; exact absurd (hl1 _ hx) (ltE_irrefl _)
      · exact e, fun hx => by
      rcases List.mem_cons.1 ((h x).2 (List.mem_cons_of_mem _ hx)) with e | e
      · subst e; exact absurd (hr1 _ hx) (ltE_irrefl _)
      · exact e⟩)]
theorem sortE_weak (l : List Ed) : (sortE l).Pairwise fun x y => ¬ ltE y x := by
  have h := List.pairwise_mergeSort (le := fun x y => !(ltOf cmpE) y x) (fun a b c hab hbc => by
    rw [Bool.not_eq_true', ltOf_cmpE'] at *
    unfold ltE at *
    omega) (fun a b => by
    rw [Bool.or_eq_true, Bool.not_eq_true', Bool.not_eq_true', ltOf_cmpE', ltOf_cmpE']
    unfold ltE
    omega) l
  exact h.imp fun {a b} hab => by rwa [Bool.not_eq_true', ltOf_cmpE'] at hab
theorem sortE_mem (l : List Ed) (x : Ed) : x ∈ sortE l ↔ x ∈ l := List.mem_mergeSort
theorem keepE_mem (l : List Ed) (i : Nat) (hi : i ≤ l.length) (x : Ed) : x ∈ keepE l i ↔ x ∈ l.take i := by
  induction i with
  | zero => exact Iff.rfl
  | succ i ih =>
    have hx := List.getElem?_eq_getElem (show i < l.length by omega)
    rw [List.take_succ_eq_append_getElem (by omega), List.mem_append, List.mem_singleton]
    by_cases h : i = 0 ∨ l[i]? ≠ l[i - 1]?
    · rw [keepE_next hx h, List.mem_append, List.mem_singleton, ih (by omega)]
    · have h0 : ¬ i = 0 := fun e => h (.inl e)
      have he : l[i]? = l[i - 1]? := by
        by_cases he : l[i]? = l[i - 1]?
        · exact he
        · exact absurd (.inr he) h
      rw [keepE_same (by omega) he, ih (by omega)]
      refine ⟨.inl, fun hh => ?_⟩
      rcases hh with hh | hh
      · exact hh
      · rw [hx] at he
        subst hh
        exact List.mem_iff_getElem?.2 ⟨i - 1, by rw [List.getElem?_take_of_lt (by omega)]; exact he.symm⟩
theorem keepE_sorted (l : List Ed) (hl : l.Pairwise fun x y => ¬ ltE y x) (i : Nat) (hi : i ≤ l.length) : (keepE l i).Pairwise ltE := by
  induction i with
  | zero => exact .nil
  | succ i ih =>
    have hlt : i < l.length := by omega
    have hx := List.getElem?_eq_getElem hlt
    by_cases h : i = 0 ∨ l[i]? ≠ l[i - 1]?
    · rw [keepE_next hx h, List.pairwise_append]
      refine ⟨ih (by omega), List.pairwise_singleton _ _, fun y hy z hz => ?_⟩
      rw [List.mem_singleton] at hz
      subst hz
      rw [keepE_mem l i (by omega)] at hy
      obtain ⟨q, hq⟩ := List.mem_iff_getElem?.1 hy
      have hqi : q < i := by
        have := (List.getElem?_eq_some_iff.1 hq).1
        rw [List.length_take] at this
        omega
      rw [List.getElem?_take_of_lt hqi] at hq
      obtain ⟨hq1, rfl⟩ := List.getElem?_eq_some_iff.1 hq
      have hw := List.pairwise_iff_getElem.1 hl
      have h1 := hw q i hq1 hlt hqi
      by_cases hle : ltE l[q] l[i]
      · exact hle
      · exfalso
        have e := ltE_tri hle h1
        have hpre : l[i - 1]'(by omega) = l[i] := by
          rcases Nat.lt_or_ge q (i - 1) with h2 | h2
          · have k1 := hw q (i - 1) hq1 (by omega) h2
            have k2 := hw (i - 1) i (by omega) hlt (by omega)
            rw [e] at k1
            exact (ltE_tri (fun h => k1 h) k2)
          · obtain rfl : q = i - 1 := by omega
            exact e
        rcases h with h | h
        · omega
        · exact h (by rw [hx, List.getElem?_eq_getElem (by omega), hpre])
    · have h0 : ¬ i = 0 := fun e => h (.inl e)
      have he : l[i]? = l[i - 1]? := by
        by_cases he : l[i]? = l[i - 1]?
        · exact he
        · exact absurd (.inr he) h
      rw [keepE_same (by omega) he]
      exact ih (by omega)
theorem law_sort {l r : List Ed} (hr : r.Pairwise ltE) (h : ∀ x, x ∈ l ↔ x ∈ r) : compE (sortE l) = r :=
  sorted_ext _ _ (keepE_sorted _ (sortE_weak l) _ (Nat.le_refl _)) hr (fun x => by
    unfold compE
    rw [keepE_mem _ _ (Nat.le_refl _), List.take_length, sortE_mem]
    exact h x)
/-! ### where things are -/
theorem globT_len (g : Nat) : (globT g).length = g := by
  induction g with
  | zero => rfl
  | succ g ih => rw [show globT (g + 1) = globT g ++ [(2, 0, (g : Int))] from fm_succ _ _, List.length_append, ih]; rfl
theorem locT_len (f l : Nat) : (locT f l).length = l := by
  induction l with
  | zero => rfl
  | succ l ih => rw [show locT f (l + 1) = locT f l ++ [(1, (f : Int), (l : Int))] from fm_succ _ _, List.length_append, ih]; rfl
theorem siteT_len (f l : Nat) : (siteT f l).length = l := by
  induction l with
  | zero => rfl
  | succ l ih => rw [show siteT f (l + 1) = siteT f l ++ [(4, (f : Int), (l : Int))] from fm_succ _ _, List.length_append, ih]; rfl
theorem globT_at (g : Nat) {i : Nat} {x : Th} (h : (globT g)[i]? = some x) : x = (2, 0, (i : Int)) := by
  induction g with
  | zero => simp [globT] at h
  | succ g ih =>
    rw [show globT (g + 1) = globT g ++ [(2, 0, (g : Int))] from fm_succ _ _] at h
    rcases Nat.lt_or_ge i (globT g).length with h1 | h1
    · rw [List.getElem?_append_left h1] at h; exact ih h
    · rw [List.getElem?_append_right h1, globT_len] at h
      have h2 : i = g := by
        have := (List.getElem?_eq_some_iff.1 h).1
        rw [globT_len] at h1
        simp at this
        omega
      subst h2
      rw [Nat.sub_self] at h
      injection h with h
      exact h.symm
theorem locT_at (f l : Nat) {i : Nat} {x : Th} (h : (locT f l)[i]? = some x) : x = (1, (f : Int), (i : Int)) := by
  induction l with
  | zero => simp [locT] at h
  | succ g ih =>
    rw [show locT f (g + 1) = locT f g ++ [(1, (f : Int), (g : Int))] from fm_succ _ _] at h
    rcases Nat.lt_or_ge i (locT f g).length with h1 | h1
    · rw [List.getElem?_append_left h1] at h; exact ih h
    · rw [List.getElem?_append_right h1, locT_len] at h
      have h2 : i = g := by
        have := (List.getElem?_eq_some_iff.1 h).1
        rw [locT_len] at h1
        simp at this
        omega
      subst h2
      rw [Nat.sub_self] at h
      injection h with h
      exact h.symm
theorem locT_get {f l i : Nat} (h : i < l) : (locT f l)[i]? = some (1, (f : Int), (i : Int)) := by
  have hi : i < (locT f l).length := by rw [locT_len]; exact h
  obtain ⟨x, hx⟩ : ∃ x, (locT f l)[i]? = some x := ⟨_, List.getElem?_eq_getElem hi⟩
  rw [hx, locT_at f l hx]
theorem siteT_in {f l : Nat} {x : Th} (h : x ∈ siteT f l) : x.1 = 4 := by
  unfold siteT at h
  obtain ⟨j, _, hx⟩ := List.mem_flatMap.1 h
  rw [List.mem_singleton] at hx
  rw [hx]
theorem siteT_at {f l i : Nat} {x : Th} (h : (siteT f l)[i]? = some x) : x.1 = 4 := siteT_in (List.mem_of_getElem? h)
theorem firstN_zero (M : Mod) : firstN M 0 = M.globals.length := by unfold firstN; simp
theorem cellsT_len {M : Mod} {i : Nat} (h : i ≤ M.funcs.length) : (cellsT M i).length = firstN M i := by
  induction i with
  | zero => rw [firstN_zero]; exact (by unfold cellsT; simp [globT_len])
  | succ i ih =>
    have hx := List.getElem?_eq_getElem (show i < M.funcs.length by omega)
    rw [cellsT_succ hx, firstN_succ hx]
    simp only [List.length_append, locT_len, siteT_len, ih (by omega)]
    unfold sizeFn
    simp
    omega
theorem varsT_len {M : Mod} {i : Nat} (h : i ≤ M.funcs.length) : (varsT M i).length = firstN M i := by
  induction i with
  | zero => rw [firstN_zero]; exact (by unfold varsT; simp [globT_len])
  | succ i ih =>
    have hx := List.getElem?_eq_getElem (show i < M.funcs.length by omega)
    rw [varsT_succ hx, firstN_succ hx]
    simp only [List.length_append, locT_len, siteT_len, ih (by omega)]
    unfold sizeFn
    simp
    omega
/-- A thing of a function's part of the row of objects. -/
theorem cellsT_fun {M : Mod} (k : Nat) (hk : k ≤ M.funcs.length) {o tg : Nat} : (cellsT M k)[o]? = some (3, (tg : Int), 0) ↔ tg < k ∧ o = firstN M tg := by
  induction k with
  | zero =>
    refine ⟨fun h => ?_, fun h => absurd h.1 (Nat.not_lt_zero _)⟩
    have h' : (globT M.globals.length)[o]? = some (3, (tg : Int), 0) := by unfold cellsT at h; simpa using h
    have := globT_at _ h'
    simp at this
  | succ k ih =>
    have hx := List.getElem?_eq_getElem (show k < M.funcs.length by omega)
    have hlen := cellsT_len (show k ≤ M.funcs.length by omega)
    rw [cellsT_succ hx, List.append_assoc, List.append_assoc]
    rcases Nat.lt_or_ge o (cellsT M k).length with h1 | h1
    · rw [List.getElem?_append_left h1, ih (by omega)]
      refine ⟨fun h => ⟨by omega, h.2⟩, fun h => ⟨?_, h.2⟩⟩
      rcases Nat.lt_or_ge tg k with h2 | h2
      · exact h2
      · obtain rfl : tg = k := by omega
        rw [hlen] at h1
        omega
    · rw [List.getElem?_append_right h1, hlen]
      rw [hlen] at h1
      rcases Nat.eq_zero_or_pos (o - firstN M k) with h2 | h2
      · rw [h2]
        refine ⟨fun h => ?_, fun h => ?_⟩
        · have e : (k : Int) = (tg : Int) := by simpa using h
          obtain rfl : k = tg := by omega
          exact ⟨Nat.lt_succ_self _, by omega⟩
        · have : tg = k := by
            rcases Nat.lt_or_ge tg k with h3 | h3
            · exfalso
              have h4 := (ih (by omega)).2 ⟨h3, h.2⟩
              have h5 := (List.getElem?_eq_some_iff.1 h4).1
              rw [hlen] at h5
              omega
            · omega
          subst this
          rfl
      · obtain ⟨q, hq⟩ : ∃ q, o - firstN M k = q + 1 := ⟨o - firstN M k - 1, by omega⟩
        rw [hq]
        refine ⟨fun h => ?_, fun h => ?_⟩
        · exfalso
          rw [List.singleton_append, List.getElem?_cons_succ] at h
          rcases Nat.lt_or_ge q (locT k M.funcs[k].locals.length).length with h3 | h3
          · rw [List.getElem?_append_left h3] at h
            have := locT_at _ _ h
            simp at this
          · rw [List.getElem?_append_right h3] at h
            have := siteT_at h
            simp at this
        · exfalso
          obtain ⟨h3, h4⟩ := h
          rcases Nat.lt_or_ge tg k with h5 | h5
          · have h6 := (ih (by omega)).2 ⟨h5, h4⟩
            have h7 := (List.getElem?_eq_some_iff.1 h6).1
            rw [hlen] at h7
            omega
          · obtain rfl : tg = k := by omega
            omega
theorem varsT_loc {M : Mod} (k : Nat) (hk : k ≤ M.funcs.length) {o f : Nat} {id : Int} : (varsT M k)[o]? = some (1, (f : Int), id) ↔ f < k ∧ ∃ fn, M.funcs[f]? = some fn ∧ 0 ≤ id ∧ id < (fn.locals.length : Int) ∧ o = firstN M f + id.toNat := by
  induction k with
  | zero =>
    refine ⟨fun h => ?_, fun h => absurd h.1 (Nat.not_lt_zero _)⟩
    have h' : (globT M.globals.length)[o]? = some (1, (f : Int), id) := by unfold varsT at h; simpa using h
    have := globT_at _ h'
    simp at this
  | succ k ih =>
    have hx := List.getElem?_eq_getElem (show k < M.funcs.length by omega)
    have hlen := varsT_len (show k ≤ M.funcs.length by omega)
    rw [varsT_succ hx, List.append_assoc, List.append_assoc]
    rcases Nat.lt_or_ge o (varsT M k).length with h1 | h1
    · rw [List.getElem?_append_left h1, ih (by omega)]
      refine ⟨fun h => ⟨by omega, h.2⟩, fun h => ⟨?_, h.2⟩⟩
      rcases Nat.lt_or_ge f k with h2 | h2
      · exact h2
      · obtain rfl : f = k := by omega
        obtain ⟨fn, _, h3, h4, h5⟩ := h.2
        rw [hlen] at h1
        omega
    · rw [List.getElem?_append_right h1, hlen]
      rw [hlen] at h1
      have hback : f < k → ∀ fn, M.funcs[f]? = some fn → 0 ≤ id → id < (fn.locals.length : Int) → o = firstN M f + id.toNat → False := fun h2 fn h3 h4 h5 h6 => by
        have h7 := (ih (by omega)).2 ⟨h2, fn, h3, h4, h5, h6⟩
        have h8 := (List.getElem?_eq_some_iff.1 h7).1
        rw [hlen] at h8
        omega
      rcases Nat.lt_or_ge (o - firstN M k) (locT k M.funcs[k].locals.length).length with h3 | h3
      · rw [List.getElem?_append_left h3]
        rw [locT_len] at h3
        refine ⟨fun h => ?_, fun h => ?_⟩
        · have := locT_at _ _ h
          simp only [Prod.mk.injEq] at this
          obtain ⟨_, e1, e2⟩ := this
          obtain rfl : f = k := by omega
          exact ⟨Nat.lt_succ_self _, _, hx, by omega, by omega, by omega⟩
        · obtain ⟨h4, fn, h5, h6, h7, h8⟩ := h
          rcases Nat.lt_or_ge f k with h9 | h9
          · exact (hback h9 fn h5 h6 h7 h8).elim
          · obtain rfl : f = k := by omega
            rw [locT_get h3, show ((o - firstN M f : Nat) : Int) = id by omega]
      · rw [List.getElem?_append_right h3]
        rw [locT_len] at h3 ⊢
        refine ⟨fun h => ?_, fun h => ?_⟩
        · exfalso
          have hm := List.mem_of_getElem? h
          rcases List.mem_append.1 hm with h4 | h4
          · simp at h4
          · have := siteT_in h4
            simp at this
        · exfalso
          obtain ⟨h4, fn, h5, h6, h7, h8⟩ := h
          rcases Nat.lt_or_ge f k with h9 | h9
          · exact hback h9 fn h5 h6 h7 h8
          · obtain rfl : f = k := by omega
            rw [hx] at h5
            injection h5 with h5
            subst h5
            omega
theorem varsT_glob {M : Mod} (k : Nat) (hk : k ≤ M.funcs.length) {o : Nat} {id : Int} : (varsT M k)[o]? = some (2, 0, id) ↔ 0 ≤ id ∧ id < (M.globals.length : Int) ∧ o = id.toNat := by
  induction k with
  | zero =>
    have e : varsT M 0 = globT M.globals.length := by unfold varsT; simp
    rw [e]
    refine ⟨fun h => ?_, fun h => ?_⟩
    · have h1 := globT_at _ h
      have h2 := (List.getElem?_eq_some_iff.1 h).1
      rw [globT_len] at h2
      simp only [Prod.mk.injEq, true_and] at h1
      omega
    · obtain ⟨h1, h2, h3⟩ := h
      obtain ⟨x, hx⟩ : ∃ x, (globT M.globals.length)[o]? = some x := ⟨_, List.getElem?_eq_getElem (by rw [globT_len]; omega)⟩
      rw [hx, globT_at _ hx, show (o : Int) = id by omega]
  | succ k ih =>
    have hx := List.getElem?_eq_getElem (show k < M.funcs.length by omega)
    rw [varsT_succ hx, List.append_assoc, List.append_assoc]
    rcases Nat.lt_or_ge o (varsT M k).length with h1 | h1
    · rw [List.getElem?_append_left h1]
      exact ih (by omega)
    · rw [List.getElem?_append_right h1]
      refine ⟨fun h => ?_, fun h => ?_⟩
      · exfalso
        have hm := List.mem_of_getElem? h
        rcases List.mem_append.1 hm with h4 | h4
        · obtain ⟨j, hj⟩ := List.mem_iff_getElem?.1 h4
          have := locT_at _ _ hj
          simp at this
        · rcases List.mem_append.1 h4 with h5 | h5
          · simp at h5
          · have := siteT_in h5
            simp at this
      · exfalso
        have h2 := (ih (by omega)).2 h
        have h3 := (List.getElem?_eq_some_iff.1 h2).1
        omega
/-- The place of a thing that is there once. -/
theorem placeT_iff {l : List Th} {x : Th} {i : Nat} (h : l[i]? = some x) (hu : ∀ j, l[j]? = some x → j = i) : placeT l x = (i : Int) :=
  placeT_some h (fun j y hj hy e => by subst e; have := hu j hy; omega)
/-- The variable of a reference: both find it. -/
theorem var_same {M : Mod} {f : Nat} {fn : Fn} (hf : M.funcs[f]? = some fn) {k id : Int} (hk : k = 1 ∨ k = 2) : placeT (varsT M M.funcs.length) (ofT f k id) = varN M f fn k id := by
  have hlt := (List.getElem?_eq_some_iff.1 hf).1
  rcases hk with rfl | rfl
  · rw [show ofT f 1 id = (1, (f : Int), id) from rfl]
    unfold varN
    rw [if_neg (by omega)]
    by_cases h : 0 ≤ id ∧ id < (fn.locals.length : Int)
    · rw [if_pos ⟨rfl, h⟩, placeT_iff (i := firstN M f + id.toNat) ((varsT_loc _ (Nat.le_refl _)).2 ⟨hlt, fn, hf, h.1, h.2, rfl⟩) (fun j hj => by
        obtain ⟨_, fn', h1, _, _, h2⟩ := (varsT_loc _ (Nat.le_refl _)).1 hj
        exact h2)]
      omega
    · rw [if_neg (fun h' => h h'.2), placeT_none (fun j y hj e => by
        subst e
        obtain ⟨_, fn', h1, h2, h3, _⟩ := (varsT_loc _ (Nat.le_refl _)).1 hj
        rw [hf] at h1
        injection h1 with h1
        subst h1
        exact h ⟨h2, h3⟩)]
  · rw [show ofT f 2 id = (2, 0, id) from rfl]
    unfold varN
    by_cases h : 0 ≤ id ∧ id < (M.globals.length : Int)
    · rw [if_pos ⟨rfl, h⟩, placeT_iff (i := id.toNat) ((varsT_glob _ (Nat.le_refl _)).2 ⟨h.1, h.2, rfl⟩) (fun j hj => ((varsT_glob _ (Nat.le_refl _)).1 hj).2.2)]
      omega
    · rw [if_neg (fun h' => h h'.2), if_neg (by omega), placeT_none (fun j y hj e => by
        subst e
        obtain ⟨h2, h3, _⟩ := (varsT_glob _ (Nat.le_refl _)).1 hj
        exact h ⟨h2, h3⟩)]
theorem firstN_lt {M : Mod} {i j : Nat} (hij : i < j) (hj : j ≤ M.funcs.length) : firstN M i < firstN M j := by
  have h := (cellsT_fun (M := M) j hj (o := firstN M i) (tg := i)).2 ⟨hij, rfl⟩
  have := (List.getElem?_eq_some_iff.1 h).1
  rwa [cellsT_len hj] at this
/-- Whose object a number is: both find it. -/
theorem hit_same (M : Mod) (o : Int) (tg : Nat) : (placeI (firsts M M.funcs.length) o = (tg : Int)) ↔ (tg < M.funcs.length ∧ hitT (cellsT M M.funcs.length) tg o = true) := by
  have hiff : hitT (cellsT M M.funcs.length) tg o = true ↔ 0 ≤ o ∧ tg < M.funcs.length ∧ o.toNat = firstN M tg := by
    unfold hitT
    rw [Bool.and_eq_true, decide_eq_true_iff, decide_eq_true_iff, cellsT_fun _ (Nat.le_refl _)]
  rw [hiff]
  have hget : ∀ (i : Nat) x, (firsts M M.funcs.length)[i]? = some x → i < M.funcs.length ∧ x = (firstN M i : Int) := fun i x h => by
    have h1 := (List.getElem?_eq_some_iff.1 h).1
    rw [firsts_length] at h1
    rw [firsts_get h1] at h
    injection h with h
    exact ⟨h1, h.symm⟩
  constructor
  · intro h
    unfold placeI at h
    split at h
    · rename_i i hi
      obtain rfl : i = tg := by omega
      obtain ⟨h1, h2, _⟩ := List.findIdx?_eq_some_iff_getElem.1 hi
      have h3 : (firsts M M.funcs.length)[i] = o := by simpa using h2
      have h4 := hget i _ (List.getElem?_eq_getElem h1)
      rw [h3] at h4
      exact ⟨h4.1, by omega, h4.1, by omega⟩
    · omega
  · rintro ⟨h1, h2, _, h3⟩
    refine placeI_some (by rw [firsts_get h1, ← h3]; congr 1; omega) (fun j x hj hx e => ?_)
    obtain ⟨k1, k2⟩ := hget j x hx
    have := firstN_lt hj (Nat.le_of_lt h1)
    omega
theorem whose_mem {M : Mod} {xs : List Int} {t : Int} : t ∈ whose M xs ↔ ∃ tg : Nat, tg < M.funcs.length ∧ t = (tg : Int) ∧ xs.any (hitT (cellsT M M.funcs.length) tg) = true := by
  unfold whose
  rw [List.mem_filter, List.mem_map, decide_eq_true_iff]
  constructor
  · rintro ⟨⟨o, ho, rfl⟩, h0⟩
    obtain ⟨tg, htg⟩ : ∃ q : Nat, placeI (firsts M M.funcs.length) o = (q : Int) := ⟨(placeI (firsts M M.funcs.length) o).toNat, by omega⟩
    obtain ⟨h1, h2⟩ := (hit_same M o tg).1 htg
    exact ⟨tg, h1, htg, List.any_eq_true.2 ⟨o, ho, h2⟩⟩
  · rintro ⟨tg, h1, rfl, h2⟩
    obtain ⟨o, ho, h3⟩ := List.any_eq_true.1 h2
    exact ⟨⟨o, ho, (hit_same M o tg).2 ⟨h1, h3⟩⟩, Int.natCast_nonneg _⟩
/-- Whom a call calls: both say it. -/
theorem whom_same {M : Mod} {ps : List (List Int)} {f : Nat} {fn : Fn} (hf : M.funcs[f]? = some fn) {bk bi : Int} (hb : bk = 3 ∧ 0 ≤ bi ∧ bi < (M.funcs.length : Int) ∨ bk = 1 ∨ bk = 2) {t : Int} :
    t ∈ whomN M f fn bk bi ps ↔ ∃ tg : Nat, tg < M.funcs.length ∧ t = (tg : Int) ∧ callB M ps f bk bi tg = true := by
  unfold whomN callB
  rcases hb with ⟨rfl, h0, h1⟩ | hb
  · rw [if_pos rfl, List.mem_singleton]
    simp only [if_pos, decide_eq_true_iff]
    constructor
    · rintro rfl
      exact ⟨t.toNat, by omega, by omega, by omega⟩
    · rintro ⟨tg, h2, rfl, h3⟩
      exact h3.symm
  · rw [if_neg (by omega)]
    simp only [if_neg (show ¬ bk = 3 by omega)]
    rw [var_same hf hb]
    by_cases h : 0 ≤ varN M f fn bk bi ∧ varN M f fn bk bi < (ps.length : Int)
    · simp only [if_pos h]
      exact whose_mem
    · simp only [if_neg h]
      constructor
      · intro h; cases h
      · rintro ⟨_, _, _, h⟩; cases h
theorem site_ok {M : Mod} (hM : OkM M) {f j : Nat} {fn : Fn} {s : St} (hf : M.funcs[f]? = some fn) (hs : (sitesOf (flatT 1000 0 fn.body))[j]? = some s) : (siteB s).1 = 3 ∧ 0 ≤ (siteB s).2 ∧ (siteB s).2 < (M.funcs.length : Int) ∨ (siteB s).1 = 1 ∨ (siteB s).1 = 2 := by
  have hm := List.mem_of_getElem? hs
  unfold sitesOf at hm
  obtain ⟨x, hx, rfl⟩ := List.mem_map.1 hm
  obtain ⟨h1, h2⟩ := List.mem_filter.1 hx
  have h3 := hM f fn hf x h1
  obtain ⟨d, k, ak, ai, bk, bi, args, body⟩ := x
  have hk : k = 5 := by simpa [St.kind] using h2
  obtain ⟨_, _, _, h4⟩ := h3
  rcases h4 hk with h5 | h5 | h5
  · exact .inl h5
  · exact .inr (.inl h5.1)
  · exact .inr (.inr h5.1)
theorem edge_mem {M : Mod} (hM : OkM M) (ps : List (List Int)) (k : Nat) (x : Ed) : x ∈ rawE M ps k ↔ x ∈ refE M ps k := by
  have h1 : ∀ f j fn, M.funcs[f]? = some fn → ∀ x, x ∈ oneCall M ps f fn j ↔ x ∈ refCall M ps f fn j := fun f j fn hf x => by
    unfold oneCall refCall
    cases hs : (sitesOf (flatT 1000 0 fn.body))[j]? with
    | none => exact Iff.rfl
    | some s =>
      dsimp only
      have hw := fun t => whom_same (ps := ps) hf (site_ok hM hf hs) (t := t)
      unfold edgesOf tosE
      rw [List.mem_map, List.mem_flatMap]
      constructor
      · rintro ⟨t, ht, rfl⟩
        obtain ⟨tg, k1, rfl, k3⟩ := (hw t).1 ht
        exact ⟨tg, List.mem_range.2 k1, by unfold toE; rw [if_pos k3]; exact List.mem_singleton.2 rfl⟩
      · rintro ⟨tg, k1, k2⟩
        unfold toE at k2
        split at k2
        · rename_i k3
          rw [List.mem_singleton] at k2
          subst k2
          exact ⟨(tg : Int), (hw _).2 ⟨tg, List.mem_range.1 k1, rfl, k3⟩, rfl⟩
        · cases k2
  have h2 : ∀ f x, x ∈ oneFn M ps f ↔ x ∈ refFn M ps f := fun f x => by
    unfold oneFn refFn
    cases hf : M.funcs[f]? with
    | none => exact Iff.rfl
    | some fn =>
      dsimp only
      unfold callsE refCalls
      rw [List.mem_flatMap, List.mem_flatMap]
      exact exists_congr fun j => and_congr_right fun _ => h1 f j fn hf x
  unfold rawE refE
  rw [List.mem_flatMap, List.mem_flatMap]
  exact exists_congr fun f => and_congr_right fun _ => h2 f x
/-! ### r14.Edges' row rises -/
theorem toE_in {M : Mod} {ps : List (List Int)} {f j tg : Nat} {bk bi : Int} {x : Ed} (h : x ∈ toE M ps f j bk bi tg) : x = ((f : Int), (j : Int), (tg : Int)) := by
  unfold toE at h
  split at h
  · exact List.mem_singleton.1 h
  · cases h
theorem fm_sorted {g : Nat → List Ed} (h1 : ∀ i, (g i).Pairwise ltE) (h2 : ∀ i j x y, i < j → x ∈ g i → y ∈ g j → ltE x y) (k : Nat) : ((List.range k).flatMap g).Pairwise ltE := by
  induction k with
  | zero => exact .nil
  | succ k ih =>
    rw [fm_succ, List.pairwise_append]
    refine ⟨ih, h1 k, fun x hx y hy => ?_⟩
    obtain ⟨i, hi, hx⟩ := List.mem_flatMap.1 hx
    exact h2 i k x y (List.mem_range.1 hi) hx hy
theorem toE_sorted (M : Mod) (ps : List (List Int)) (f j : Nat) (bk bi : Int) (tg : Nat) : (toE M ps f j bk bi tg).Pairwise ltE := by
  unfold toE
  split
  · exact List.pairwise_singleton _ _
  · exact .nil
theorem refCall_in {M : Mod} {ps : List (List Int)} {f j : Nat} {fn : Fn} {x : Ed} (h : x ∈ refCall M ps f fn j) : x.1 = (f : Int) ∧ x.2.1 = (j : Int) := by
  unfold refCall at h
  split at h
  · unfold tosE at h
    obtain ⟨tg, _, hx⟩ := List.mem_flatMap.1 h
    rw [toE_in hx]
    exact ⟨rfl, rfl⟩
  · cases h
theorem refFn_in {M : Mod} {ps : List (List Int)} {f : Nat} {x : Ed} (h : x ∈ refFn M ps f) : x.1 = (f : Int) := by
  unfold refFn at h
  split at h
  · unfold refCalls at h
    obtain ⟨j, _, hx⟩ := List.mem_flatMap.1 h
    exact (refCall_in hx).1
  · cases h
theorem refE_sorted (M : Mod) (ps : List (List Int)) (k : Nat) : (refE M ps k).Pairwise ltE := by
  refine fm_sorted (fun f => ?_) (fun i j x y hij hx hy => .inl (by rw [refFn_in hx, refFn_in hy]; omega)) k
  unfold refFn
  split
  · refine fm_sorted (fun j => ?_) (fun i j x y hij hx hy => .inr ⟨by rw [(refCall_in hx).1, (refCall_in hy).1], .inl (by rw [(refCall_in hx).2, (refCall_in hy).2]; omega)⟩) _
    unfold refCall
    split
    · exact fm_sorted (fun tg => toE_sorted _ _ _ _ _ _ _) (fun i j x y hij hx hy => by rw [toE_in hx, toE_in hy]; exact .inr ⟨rfl, .inr ⟨rfl, by show (i : Int) < (j : Int); omega⟩⟩) _
    · exact .nil
  · exact .nil
/-- WHAT calls.Edges COMPUTES IS WHAT r14.Edges DOES. -/
theorem edges_same {M : Mod} (hM : OkM M) (ps : List (List Int)) (k : Nat) : compE (sortE (rawE M ps k)) = refE M ps k := law_sort (refE_sorted M ps k) (edge_mem hM ps k)
end Go.Proofs.Ytjgijbaboekghaa

/-
  LexEscapes' region that draws its order: an alloc that may come up anywhere along the chain. No statement of its own.
-/
import Derived.Test.YtjebanfmnfofnaaEscP
import Derived.Test.YtjebanfmnfofnaaLay
import Derived.StillTailTactics
set_option linter.unusedSimpArgs false
set_option linter.unusedVariables false
namespace Go.Proofs.Ytjebanfmnfofnaa
open Go.RowKit
attribute [-go_sem] run_string_add_if
abbrev escOps : List Oper := [
  { dst := some 16, op := .move (.tmp 7), type := 9, pos := "more.go:12", after := #[], guard := none },
  { dst := some 17, op := .move (.tmp 0), type := 5, pos := "more.go:12", after := #[], guard := none },
  { dst := some 18, op := .binOp .quo 5 (.tmp 17) (.const (.int .u8 16)) 5, type := 5, pos := "more.go:12", after := #[{ on := 1, ground := .data }], guard := none },
  { dst := some 19, op := .index 9 (.tmp 16) (.tmp 18), type := 5, pos := "more.go:12", after := #[{ on := 0, ground := .data }, { on := 2, ground := .data }], guard := none },
  { dst := some 20, op := .move (.tmp 7), type := 9, pos := "more.go:12", after := #[], guard := none },
  { dst := some 21, op := .move (.tmp 0), type := 5, pos := "more.go:12", after := #[], guard := none },
  { dst := some 22, op := .binOp .rem 5 (.tmp 21) (.const (.int .u8 16)) 5, type := 5, pos := "more.go:12", after := #[{ on := 5, ground := .data }], guard := none },
  { dst := some 23, op := .index 9 (.tmp 20) (.tmp 22), type := 5, pos := "more.go:12", after := #[{ on := 4, ground := .data }, { on := 6, ground := .data }], guard := none },
  { dst := some 24, op := .buildSlice 22 2 #[(0, .tmp 19), (1, .tmp 23)], type := 22, pos := "more.go:12", after := #[{ on := 3, ground := .data }, { on := 7, ground := .data }], guard := none },
  { dst := some 25, op := .convert 22 9 (.tmp 24), type := 9, pos := "more.go:12", after := #[{ on := 8, ground := .data }], guard := none },
  { dst := some 26, op := .binOp .add 9 (.const (.string { data := #[36, 34, 92, 120] })) (.tmp 25) 9, type := 9, pos := "more.go:12", after := #[{ on := 9, ground := .data }], guard := none },
  { dst := some 27, op := .binOp .add 9 (.tmp 26) (.const (.string { data := #[34] })) 9, type := 9, pos := "more.go:12", after := #[{ on := 10, ground := .data }], guard := none },
  { dst := some 28, op := .convert 9 22 (.tmp 27), type := 22, pos := "more.go:12", after := #[{ on := 11, ground := .data }], guard := none },
  { dst := some 29, op := .call { callee := .value (.func 11), args := #[.tmp 28], argTypes := #[22] }, type := 24, pos := "more.go:12", after := #[{ on := 12, ground := .data }], guard := none },
  { dst := some 30, op := .call { callee := .value (.func 13), args := #[.tmp 29], argTypes := #[24] }, type := 32, pos := "more.go:12", after := #[{ on := 13, ground := .data }, { on := 13, ground := .chain }], guard := none },
  { dst := some 15, op := .move (.tmp 30), type := 32, pos := "more.go:12", after := #[{ on := 14, ground := .data }], guard := none },
  { dst := some 31, op := .extract (.tmp 15) 0, type := 30, pos := "more.go:12", after := #[{ on := 15, ground := .data }], guard := none },
  { dst := some 32, op := .extract (.tmp 15) 1, type := 3, pos := "more.go:12", after := #[{ on := 15, ground := .data }, { on := 20, ground := .gcOnly .lateStores }], guard := none },
  { dst := some 33, op := .extract (.tmp 15) 2, type := 31, pos := "more.go:12", after := #[{ on := 15, ground := .data }, { on := 21, ground := .gcOnly .lateStores }], guard := none },
  { dst := some 8, op := .alloc 30, type := 0, pos := "more.go:12", after := #[], guard := none },
  { dst := none, op := .store 30 (.tmp 8) (.tmp 31), type := 0, pos := "more.go:12", after := #[{ on := 19, ground := .data }, { on := 16, ground := .data }, { on := 14, ground := .chain }, { on := 0, ground := .phase }, { on := 1, ground := .phase }, { on := 2, ground := .phase }, { on := 3, ground := .phase }, { on := 4, ground := .phase }, { on := 5, ground := .phase }, { on := 6, ground := .phase }, { on := 7, ground := .phase }, { on := 8, ground := .phase }, { on := 9, ground := .phase }, { on := 10, ground := .phase }, { on := 11, ground := .phase }, { on := 12, ground := .phase }, { on := 13, ground := .phase }, { on := 14, ground := .phase }, { on := 15, ground := .phase }, { on := 16, ground := .phase }, { on := 17, ground := .textOnly .lateStores }, { on := 18, ground := .textOnly .lateStores }, { on := 19, ground := .phase }], guard := none },
  { dst := some 9, op := .assign (.tmp 32), type := 3, pos := "more.go:12", after := #[{ on := 17, ground := .data }, { on := 20, ground := .chain }, { on := 0, ground := .phase }, { on := 1, ground := .phase }, { on := 2, ground := .phase }, { on := 3, ground := .phase }, { on := 4, ground := .phase }, { on := 5, ground := .phase }, { on := 6, ground := .phase }, { on := 7, ground := .phase }, { on := 8, ground := .phase }, { on := 9, ground := .phase }, { on := 10, ground := .phase }, { on := 11, ground := .phase }, { on := 12, ground := .phase }, { on := 13, ground := .phase }, { on := 14, ground := .phase }, { on := 15, ground := .phase }, { on := 16, ground := .phase }, { on := 17, ground := .phase }, { on := 18, ground := .textOnly .lateStores }, { on := 19, ground := .phase }, { on := 20, ground := .phase }], guard := none },
  { dst := some 10, op := .assign (.tmp 33), type := 31, pos := "more.go:12", after := #[{ on := 18, ground := .data }, { on := 21, ground := .chain }, { on := 0, ground := .phase }, { on := 1, ground := .phase }, { on := 2, ground := .phase }, { on := 3, ground := .phase }, { on := 4, ground := .phase }, { on := 5, ground := .phase }, { on := 6, ground := .phase }, { on := 7, ground := .phase }, { on := 8, ground := .phase }, { on := 9, ground := .phase }, { on := 10, ground := .phase }, { on := 11, ground := .phase }, { on := 12, ground := .phase }, { on := 13, ground := .phase }, { on := 14, ground := .phase }, { on := 15, ground := .phase }, { on := 16, ground := .phase }, { on := 17, ground := .phase }, { on := 18, ground := .phase }, { on := 19, ground := .phase }, { on := 20, ground := .phase }, { on := 21, ground := .phase }], guard := none }]
abbrev hexS : ByteArray := ⟨#[48, 49, 50, 51, 52, 53, 54, 55, 56, 57, 97, 98, 99, 100, 101, 102]⟩
abbrev tokZ : Array Value := #[.int .u8 0, .int .u8 0, .string ⟨#[]⟩, .int .i64 0]
/-- What holds all along. -/
def EscS (w0 W : World) : Prop := Below w0.heap.size w0 W
theorem escQ_byte {c : Nat} (hc : c < 256) : ∀ u ∈ escQ c, u < 256 := fun u hu => by
  have h1 := (hexd_ok ⟨c / 16, by omega⟩).2.2
  have h2 := (hexd_ok ⟨c % 16, by omega⟩).2.2
  dsimp only at h1 h2
  simp [escQ] at hu
  omega
theorem laid_reads {w : World} {s : ByteArray} {Q : List Nat} (hs : s = bstr Q) (hb : ∀ u ∈ Q, u < 256) : ReadsU (laid w s) (some ⟨w.heap.size, 0, none⟩) s.size Q :=
  ⟨by rw [hs]; exact (bstr_size Q).symm, hb, fun _ => ⟨w.heap.size, 0, rfl, fun j u hu => by
    subst hs
    obtain ⟨hj, e⟩ := bstr_byte hb hu
    show ((w.drew).alloc _).cell? ⟨w.drew.heap.size, 0 + j, none⟩ = _
    rw [World.cell?_alloc_mark, Nat.zero_add, bytesRow_at _ _ _ hj, e]⟩⟩
section
variable {c a b : Nat} {w0 : World} {ml : Int} {Q : Exit → Act → World → Prop}
variable (c a b) (w0) (Q) in
/-- What is asked of what comes behind the region. -/
def EscFin : Prop := (∀ (dst : Option Tmp) v x A W, Q (.panic x) (A.put dst v) W → Q (.panic x) A W) ∧ ∀ (r : Nat) (W : World) (t24 t25 t26 t27 t28 t29 t30 t15 t31 t32 t33 : Value), w0.heap.size ≤ r → W.heap[r]? = some (.cells #[.int .u8 2, .int .u8 36, .string (bstr [c]), .int .i64 0] 30) → Below w0.heap.size w0 W →
  Q .normal ({ tmps := #[.int .u8 (c : Nat), .int .u8 (a : Nat), .int .u8 (b : Nat), undef, undef, undef, .bool false, .string hexS, .pointer (some ⟨r, 0, none⟩), .int .i64 0, .int .i64 0, undef, undef, undef, undef, t15, .string hexS, .int .u8 (c : Nat), .int .u8 ((c : Int) / 16), .int .u8 (hexd (c / 16) : Nat), .string hexS, .int .u8 (c : Nat), .int .u8 ((c : Int) % 16), .int .u8 (hexd (c % 16) : Nat), t24, t25, t26, t27, t28, t29, t30, t31, t32, t33, undef, undef, undef, undef, undef, undef, undef, undef, undef, undef, undef, undef, undef, undef, undef, undef, undef, undef, undef, undef, undef, undef, undef, undef, undef, undef, undef, undef, undef, undef, undef, undef, undef, undef, undef, undef, undef, undef, undef, undef, undef, undef, undef, undef, undef, undef, undef, undef, undef, undef, undef, undef, undef, undef, undef, undef, undef, undef], defers := [] } : Act) W
set_option maxRecDepth 20000 in
theorem escT18 (t24 t25 t26 t27 t28 t29 : Value) (r : Nat) (listed : Array Bool) (hlis : listed = #[true, true, true, true, true, true, true, true, true, true, true, true, true, true, true, true, true, true, true, true, false, false, false]) (A : Act) (hA : A = ({ tmps := #[.int .u8 (c : Nat), .int .u8 (a : Nat), .int .u8 (b : Nat), undef, undef, undef, .bool false, .string hexS, .pointer (some ⟨r, 0, none⟩), undef, undef, undef, undef, undef, undef, .tuple #[.agg #[.int .u8 2, .int .u8 36, .string (bstr [c]), .int .i64 0], .int .i64 0, .int .i64 0], .string hexS, .int .u8 (c : Nat), .int .u8 ((c : Int) / 16), .int .u8 (hexd (c / 16) : Nat), .string hexS, .int .u8 (c : Nat), .int .u8 ((c : Int) % 16), .int .u8 (hexd (c % 16) : Nat), t24, t25, t26, t27, t28, t29, .tuple #[.agg #[.int .u8 2, .int .u8 36, .string (bstr [c]), .int .i64 0], .int .i64 0, .int .i64 0], .agg #[.int .u8 2, .int .u8 36, .string (bstr [c]), .int .i64 0], .int .i64 0, .int .i64 0, undef, undef, undef, undef, undef, undef, undef, undef, undef, undef, undef, undef, undef, undef, undef, undef, undef, undef, undef, undef, undef, undef, undef, undef, undef, undef, undef, undef, undef, undef, undef, undef, undef, undef, undef, undef, undef, undef, undef, undef, undef, undef, undef, undef, undef, undef, undef, undef, undef, undef, undef, undef, undef, undef, undef, undef, undef, undef], defers := [] } : Act)) (W : World) (hS : EscS w0 W) (hr : w0.heap.size ≤ r) (hz : W.heap[r]? = some (.cells tokZ 30))
    (hfin : EscFin c a b w0 Q) : HL Try.prog .any escOps Q (EscS w0) 22 2 listed A W := by
  subst hlis hA
  obtain ⟨cr, fr, zr⟩ := blk3 hz
  refine HL.step_ (i := 20) (o := { dst := none, op := .store 30 (.tmp 8) (.tmp 31), type := 0, pos := "more.go:12", after := #[{ on := 19, ground := .data }, { on := 16, ground := .data }, { on := 14, ground := .chain }, { on := 0, ground := .phase }, { on := 1, ground := .phase }, { on := 2, ground := .phase }, { on := 3, ground := .phase }, { on := 4, ground := .phase }, { on := 5, ground := .phase }, { on := 6, ground := .phase }, { on := 7, ground := .phase }, { on := 8, ground := .phase }, { on := 9, ground := .phase }, { on := 10, ground := .phase }, { on := 11, ground := .phase }, { on := 12, ground := .phase }, { on := 13, ground := .phase }, { on := 14, ground := .phase }, { on := 15, ground := .phase }, { on := 16, ground := .phase }, { on := 17, ground := .textOnly .lateStores }, { on := 18, ground := .textOnly .lateStores }, { on := 19, ground := .phase }], guard := none }) rfl (by decide) (by kernel_rfl) (fun K hK => ?_)
  go_simp
  have hres := set4_30 hz (.int .u8 2) (.int .u8 36) (.string (bstr [c])) (.int .i64 0)
  have hgr := set4_grown W r (.int .u8 2) (.int .u8 36) (.string (bstr [c])) (.int .i64 0)
  clear cr fr zr
  obtain ⟨W', hW'⟩ : ∃ W', W' = ((((W.setCell ⟨r, 0, none⟩ (.int .u8 2)).setCell ⟨r, 1, none⟩ (.int .u8 36)).setCell ⟨r, 2, none⟩ (.string (bstr [c]))).setCell ⟨r, 3, none⟩ (.int .i64 0)) := ⟨_, rfl⟩
  rw [← hW'] at hres hgr ⊢
  clear hW'
  have hS' : EscS w0 W' := below_grown hS hr hgr
  refine hK.out _ _ hS' (fun hHeld => ?_)
  clear hK K
  try simp only [Act.put, List.setIfInBounds_toArray, List.set_cons_zero, List.set_cons_succ]
  refine HL.take_ (i := 21) (oi := { dst := some 9, op := .assign (.tmp 32), type := 3, pos := "more.go:12", after := #[{ on := 17, ground := .data }, { on := 20, ground := .chain }, { on := 0, ground := .phase }, { on := 1, ground := .phase }, { on := 2, ground := .phase }, { on := 3, ground := .phase }, { on := 4, ground := .phase }, { on := 5, ground := .phase }, { on := 6, ground := .phase }, { on := 7, ground := .phase }, { on := 8, ground := .phase }, { on := 9, ground := .phase }, { on := 10, ground := .phase }, { on := 11, ground := .phase }, { on := 12, ground := .phase }, { on := 13, ground := .phase }, { on := 14, ground := .phase }, { on := 15, ground := .phase }, { on := 16, ground := .phase }, { on := 17, ground := .phase }, { on := 18, ground := .textOnly .lateStores }, { on := 19, ground := .phase }, { on := 20, ground := .phase }], guard := none }) (v := ?_) rfl (by decide) (by kernel_rfl) (by kernel_rfl) (fun _ _ _ h => hfin.1 _ _ _ _ _ h) (Or.inl ⟨by rfl, ?_⟩) (by assumption) ?_
  rotate_left
  · intro w hSw
    (try dsimp only at hSw)
    (go_simp; try (with_reducible rfl))
  try simp only [Act.put, List.setIfInBounds_toArray, List.set_cons_zero, List.set_cons_succ]
  refine HL.done_ (by kernel_rfl) ?_
  simp only [List.drop_succ_cons, List.drop_zero]
  refine wpList_plain rfl fun K hK => ?_
  go_simp
  refine hK _ _ ?_
  exact hfin.2 r W' t24 t25 t26 t27 t28 t29 _ _ _ _ _ hr hres hS'
set_option maxRecDepth 20000 in
theorem escT14 (t24 t25 t26 t27 t28 t29 : Value) (r : Nat) (listed : Array Bool) (hlis : listed = #[true, true, true, true, true, true, true, true, true, true, true, true, true, true, true, false, false, false, false, true, false, false, false]) (A : Act) (hA : A = ({ tmps := #[.int .u8 (c : Nat), .int .u8 (a : Nat), .int .u8 (b : Nat), undef, undef, undef, .bool false, .string hexS, .pointer (some ⟨r, 0, none⟩), undef, undef, undef, undef, undef, undef, undef, .string hexS, .int .u8 (c : Nat), .int .u8 ((c : Int) / 16), .int .u8 (hexd (c / 16) : Nat), .string hexS, .int .u8 (c : Nat), .int .u8 ((c : Int) % 16), .int .u8 (hexd (c % 16) : Nat), t24, t25, t26, t27, t28, t29, .tuple #[.agg #[.int .u8 2, .int .u8 36, .string (bstr [c]), .int .i64 0], .int .i64 0, .int .i64 0], undef, undef, undef, undef, undef, undef, undef, undef, undef, undef, undef, undef, undef, undef, undef, undef, undef, undef, undef, undef, undef, undef, undef, undef, undef, undef, undef, undef, undef, undef, undef, undef, undef, undef, undef, undef, undef, undef, undef, undef, undef, undef, undef, undef, undef, undef, undef, undef, undef, undef, undef, undef, undef, undef, undef, undef, undef, undef, undef, undef, undef], defers := [] } : Act)) (W : World) (hS : EscS w0 W) (hr : w0.heap.size ≤ r) (hz : W.heap[r]? = some (.cells tokZ 30))
    (hfin : EscFin c a b w0 Q) : HL Try.prog .any escOps Q (EscS w0) 22 6 listed A W := by
  subst hlis hA
  refine HL.take_ (i := 15) (oi := { dst := some 15, op := .move (.tmp 30), type := 32, pos := "more.go:12", after := #[{ on := 14, ground := .data }], guard := none }) (v := ?_) rfl (by decide) (by kernel_rfl) (by kernel_rfl) (fun _ _ _ h => hfin.1 _ _ _ _ _ h) (Or.inl ⟨by rfl, ?_⟩) (by assumption) ?_
  rotate_left
  · intro w hSw
    (try dsimp only at hSw)
    (go_simp; try (with_reducible rfl))
  try simp only [Act.put, List.setIfInBounds_toArray, List.set_cons_zero, List.set_cons_succ]
  refine HL.take_ (i := 16) (oi := { dst := some 31, op := .extract (.tmp 15) 0, type := 30, pos := "more.go:12", after := #[{ on := 15, ground := .data }], guard := none }) (v := ?_) rfl (by decide) (by kernel_rfl) (by kernel_rfl) (fun _ _ _ h => hfin.1 _ _ _ _ _ h) (Or.inl ⟨by rfl, ?_⟩) (by assumption) ?_
  rotate_left
  · intro w hSw
    (try dsimp only at hSw)
    (go_simp; try (with_reducible rfl))
  try simp only [Act.put, List.setIfInBounds_toArray, List.set_cons_zero, List.set_cons_succ]
  refine HL.take_ (i := 17) (oi := { dst := some 32, op := .extract (.tmp 15) 1, type := 3, pos := "more.go:12", after := #[{ on := 15, ground := .data }, { on := 20, ground := .gcOnly .lateStores }], guard := none }) (v := ?_) rfl (by decide) (by kernel_rfl) (by kernel_rfl) (fun _ _ _ h => hfin.1 _ _ _ _ _ h) (Or.inl ⟨by rfl, ?_⟩) (by assumption) ?_
  rotate_left
  · intro w hSw
    (try dsimp only at hSw)
    (go_simp; try (with_reducible rfl))
  try simp only [Act.put, List.setIfInBounds_toArray, List.set_cons_zero, List.set_cons_succ]
  refine HL.take_ (i := 18) (oi := { dst := some 33, op := .extract (.tmp 15) 2, type := 31, pos := "more.go:12", after := #[{ on := 15, ground := .data }, { on := 21, ground := .gcOnly .lateStores }], guard := none }) (v := ?_) rfl (by decide) (by kernel_rfl) (by kernel_rfl) (fun _ _ _ h => hfin.1 _ _ _ _ _ h) (Or.inl ⟨by rfl, ?_⟩) (by assumption) ?_
  rotate_left
  · intro w hSw
    (try dsimp only at hSw)
    (go_simp; try (with_reducible rfl))
  try simp only [Act.put, List.setIfInBounds_toArray, List.set_cons_zero, List.set_cons_succ]
  exact escT18 t24 t25 t26 t27 t28 t29 r _ (by kernel_rfl) _ rfl W hS hr hz hfin
set_option maxRecDepth 20000 in
theorem escF14 (t24 t25 t26 t27 t28 t29 : Value) (listed : Array Bool) (hlis : listed = #[true, true, true, true, true, true, true, true, true, true, true, true, true, true, true, false, false, false, false, false, false, false, false]) (A : Act) (hA : A = ({ tmps := #[.int .u8 (c : Nat), .int .u8 (a : Nat), .int .u8 (b : Nat), undef, undef, undef, .bool false, .string hexS, undef, undef, undef, undef, undef, undef, undef, undef, .string hexS, .int .u8 (c : Nat), .int .u8 ((c : Int) / 16), .int .u8 (hexd (c / 16) : Nat), .string hexS, .int .u8 (c : Nat), .int .u8 ((c : Int) % 16), .int .u8 (hexd (c % 16) : Nat), t24, t25, t26, t27, t28, t29, .tuple #[.agg #[.int .u8 2, .int .u8 36, .string (bstr [c]), .int .i64 0], .int .i64 0, .int .i64 0], undef, undef, undef, undef, undef, undef, undef, undef, undef, undef, undef, undef, undef, undef, undef, undef, undef, undef, undef, undef, undef, undef, undef, undef, undef, undef, undef, undef, undef, undef, undef, undef, undef, undef, undef, undef, undef, undef, undef, undef, undef, undef, undef, undef, undef, undef, undef, undef, undef, undef, undef, undef, undef, undef, undef, undef, undef, undef, undef, undef, undef], defers := [] } : Act)) (W : World) (hS : EscS w0 W) 
    (hfin : EscFin c a b w0 Q) : HL Try.prog .any escOps Q (EscS w0) 22 7 listed A W := by
  subst hlis hA
  refine HL.take_ (i := 15) (oi := { dst := some 15, op := .move (.tmp 30), type := 32, pos := "more.go:12", after := #[{ on := 14, ground := .data }], guard := none }) (v := ?_) rfl (by decide) (by kernel_rfl) (by kernel_rfl) (fun _ _ _ h => hfin.1 _ _ _ _ _ h) (Or.inl ⟨by rfl, ?_⟩) (by assumption) ?_
  rotate_left
  · intro w hSw
    (try dsimp only at hSw)
    (go_simp; try (with_reducible rfl))
  try simp only [Act.put, List.setIfInBounds_toArray, List.set_cons_zero, List.set_cons_succ]
  refine HL.take_ (i := 16) (oi := { dst := some 31, op := .extract (.tmp 15) 0, type := 30, pos := "more.go:12", after := #[{ on := 15, ground := .data }], guard := none }) (v := ?_) rfl (by decide) (by kernel_rfl) (by kernel_rfl) (fun _ _ _ h => hfin.1 _ _ _ _ _ h) (Or.inl ⟨by rfl, ?_⟩) (by assumption) ?_
  rotate_left
  · intro w hSw
    (try dsimp only at hSw)
    (go_simp; try (with_reducible rfl))
  try simp only [Act.put, List.setIfInBounds_toArray, List.set_cons_zero, List.set_cons_succ]
  refine HL.take_ (i := 17) (oi := { dst := some 32, op := .extract (.tmp 15) 1, type := 3, pos := "more.go:12", after := #[{ on := 15, ground := .data }, { on := 20, ground := .gcOnly .lateStores }], guard := none }) (v := ?_) rfl (by decide) (by kernel_rfl) (by kernel_rfl) (fun _ _ _ h => hfin.1 _ _ _ _ _ h) (Or.inl ⟨by rfl, ?_⟩) (by assumption) ?_
  rotate_left
  · intro w hSw
    (try dsimp only at hSw)
    (go_simp; try (with_reducible rfl))
  try simp only [Act.put, List.setIfInBounds_toArray, List.set_cons_zero, List.set_cons_succ]
  refine HL.take_ (i := 18) (oi := { dst := some 33, op := .extract (.tmp 15) 2, type := 31, pos := "more.go:12", after := #[{ on := 15, ground := .data }, { on := 21, ground := .gcOnly .lateStores }], guard := none }) (v := ?_) rfl (by decide) (by kernel_rfl) (by kernel_rfl) (fun _ _ _ h => hfin.1 _ _ _ _ _ h) (Or.inl ⟨by rfl, ?_⟩) (by assumption) ?_
  rotate_left
  · intro w hSw
    (try dsimp only at hSw)
    (go_simp; try (with_reducible rfl))
  try simp only [Act.put, List.setIfInBounds_toArray, List.set_cons_zero, List.set_cons_succ]
  refine HL.step_ (i := 19) (o := { dst := some 8, op := .alloc 30, type := 0, pos := "more.go:12", after := #[], guard := none }) rfl (by decide) (by kernel_rfl) (fun K hK => ?_)
  go_simp
  refine hK.out _ _ (hS.alloc hS.size _) (fun hHeld => ?_)
  clear hK K
  exact escT18 t24 t25 t26 t27 t28 t29 W.heap.size _ (by kernel_rfl) _ rfl _ hHeld hS.size (heap_alloc_new W _) hfin
set_option maxRecDepth 20000 in
theorem escT13 {ml : Int} {g n cp : Nat} {L : Option Addr} (t24 t25 t26 t27 t28 : Value) (r : Nat) (listed : Array Bool) (hlis : listed = #[true, true, true, true, true, true, true, true, true, true, true, true, true, true, false, false, false, false, false, true, false, false, false]) (A : Act) (hA : A = ({ tmps := #[.int .u8 (c : Nat), .int .u8 (a : Nat), .int .u8 (b : Nat), undef, undef, undef, .bool false, .string hexS, .pointer (some ⟨r, 0, none⟩), undef, undef, undef, undef, undef, undef, undef, .string hexS, .int .u8 (c : Nat), .int .u8 ((c : Int) / 16), .int .u8 (hexd (c / 16) : Nat), .string hexS, .int .u8 (c : Nat), .int .u8 ((c : Int) % 16), .int .u8 (hexd (c % 16) : Nat), t24, t25, t26, t27, t28, .pointer (some ⟨g, 0, none⟩), undef, undef, undef, undef, undef, undef, undef, undef, undef, undef, undef, undef, undef, undef, undef, undef, undef, undef, undef, undef, undef, undef, undef, undef, undef, undef, undef, undef, undef, undef, undef, undef, undef, undef, undef, undef, undef, undef, undef, undef, undef, undef, undef, undef, undef, undef, undef, undef, undef, undef, undef, undef, undef, undef, undef, undef, undef, undef, undef, undef, undef, undef], defers := [] } : Act)) (W : World) (hS : EscS w0 W) (hr : w0.heap.size ≤ r) (hz : W.heap[r]? = some (.cells tokZ 30)) (hrg : r ≠ g) (hml : w0.cell? ⟨0, 0, none⟩ = some (.int .i64 ml)) (hc : c < 256) (hg : w0.heap.size ≤ g) (hL : Lx W g L n cp (escQ c) 0)
    (hfin : EscFin c a b w0 Q) : HL Try.prog .any escOps Q (EscS w0) 22 7 listed A W := by
  subst hlis hA
  refine HL.step_ (i := 14) (o := { dst := some 30, op := .call { callee := .value (.func 13), args := #[.tmp 29], argTypes := #[24] }, type := 32, pos := "more.go:12", after := #[{ on := 13, ground := .data }, { on := 13, ground := .chain }], guard := none }) rfl (by decide) (by kernel_rfl) (fun K hK => ?_)
  go_simp
  have hg0 : g ≠ 0 := by have := World.block_lt_of_cell? w0 _ hml; omega
  refine (next_calls W g n cp 0 L (escQ c) ml hL hg0 (ml_below hml hS)).mono ?_
  rw [escQ_next c hc]
  rintro e W2 ⟨rfl, -, hL2, hgr⟩
  dsimp only
  refine hK.out _ _ (below_grown hS hg hgr) (fun hHeld => ?_)
  clear hK K
  exact escT14 t24 t25 t26 t27 t28 _ r _ (by kernel_rfl) _ rfl _ hHeld hr (blk_kept hz hgr hrg)  hfin
set_option maxRecDepth 20000 in
theorem escF13 {ml : Int} {g n cp : Nat} {L : Option Addr} (t24 t25 t26 t27 t28 : Value) (listed : Array Bool) (hlis : listed = #[true, true, true, true, true, true, true, true, true, true, true, true, true, true, false, false, false, false, false, false, false, false, false]) (A : Act) (hA : A = ({ tmps := #[.int .u8 (c : Nat), .int .u8 (a : Nat), .int .u8 (b : Nat), undef, undef, undef, .bool false, .string hexS, undef, undef, undef, undef, undef, undef, undef, undef, .string hexS, .int .u8 (c : Nat), .int .u8 ((c : Int) / 16), .int .u8 (hexd (c / 16) : Nat), .string hexS, .int .u8 (c : Nat), .int .u8 ((c : Int) % 16), .int .u8 (hexd (c % 16) : Nat), t24, t25, t26, t27, t28, .pointer (some ⟨g, 0, none⟩), undef, undef, undef, undef, undef, undef, undef, undef, undef, undef, undef, undef, undef, undef, undef, undef, undef, undef, undef, undef, undef, undef, undef, undef, undef, undef, undef, undef, undef, undef, undef, undef, undef, undef, undef, undef, undef, undef, undef, undef, undef, undef, undef, undef, undef, undef, undef, undef, undef, undef, undef, undef, undef, undef, undef, undef, undef, undef, undef, undef, undef, undef], defers := [] } : Act)) (W : World) (hS : EscS w0 W) (hml : w0.cell? ⟨0, 0, none⟩ = some (.int .i64 ml)) (hc : c < 256) (hg : w0.heap.size ≤ g) (hL : Lx W g L n cp (escQ c) 0)
    (hfin : EscFin c a b w0 Q) : HL Try.prog .any escOps Q (EscS w0) 22 8 listed A W := by
  subst hlis hA
  refine HL.step2_ (i := 14) (j := 19) (o := { dst := some 30, op := .call { callee := .value (.func 13), args := #[.tmp 29], argTypes := #[24] }, type := 32, pos := "more.go:12", after := #[{ on := 13, ground := .data }, { on := 13, ground := .chain }], guard := none }) (o2 := { dst := some 8, op := .alloc 30, type := 0, pos := "more.go:12", after := #[], guard := none }) rfl rfl (by decide) (by decide) (by kernel_rfl) (fun K hK => ?_) (fun K hK => ?_)
  · skip
    go_simp
    have hg0 : g ≠ 0 := by have := World.block_lt_of_cell? w0 _ hml; omega
    refine (next_calls W g n cp 0 L (escQ c) ml hL hg0 (ml_below hml hS)).mono ?_
    rw [escQ_next c hc]
    rintro e W2 ⟨rfl, -, hL2, hgr⟩
    dsimp only
    refine hK.out _ _ (below_grown hS hg hgr) (fun hHeld => ?_)
    clear hK K
    exact escF14 t24 t25 t26 t27 t28 _ _ (by kernel_rfl) _ rfl _ hHeld  hfin
  · skip
    go_simp
    have hbz : Below W.heap.size W (W.alloc (.cells tokZ 30)) := (Below.refl _ _).alloc (Nat.le_refl _) _
    refine hK.out _ _ (hS.alloc hS.size _) (fun hHeld => ?_)
    clear hK K
    exact escT13 t24 t25 t26 t27 t28 W.heap.size _ (by kernel_rfl) _ rfl _ hHeld hS.size (heap_alloc_new W _) (fun e => by have := (blk3 hL.box).2.2; omega) hml hc hg (hL.below hbz) hfin
set_option maxRecDepth 20000 in
theorem escT12 {ml : Int} {n cp : Nat} {L : Option Addr} (t24 t25 t26 t27 : Value) (r : Nat) (listed : Array Bool) (hlis : listed = #[true, true, true, true, true, true, true, true, true, true, true, true, true, false, false, false, false, false, false, true, false, false, false]) (A : Act) (hA : A = ({ tmps := #[.int .u8 (c : Nat), .int .u8 (a : Nat), .int .u8 (b : Nat), undef, undef, undef, .bool false, .string hexS, .pointer (some ⟨r, 0, none⟩), undef, undef, undef, undef, undef, undef, undef, .string hexS, .int .u8 (c : Nat), .int .u8 ((c : Int) / 16), .int .u8 (hexd (c / 16) : Nat), .string hexS, .int .u8 (c : Nat), .int .u8 ((c : Int) % 16), .int .u8 (hexd (c % 16) : Nat), t24, t25, t26, t27, .slice L n cp, undef, undef, undef, undef, undef, undef, undef, undef, undef, undef, undef, undef, undef, undef, undef, undef, undef, undef, undef, undef, undef, undef, undef, undef, undef, undef, undef, undef, undef, undef, undef, undef, undef, undef, undef, undef, undef, undef, undef, undef, undef, undef, undef, undef, undef, undef, undef, undef, undef, undef, undef, undef, undef, undef, undef, undef, undef, undef, undef, undef, undef, undef, undef], defers := [] } : Act)) (W : World) (hS : EscS w0 W) (hr : w0.heap.size ≤ r) (hz : W.heap[r]? = some (.cells tokZ 30)) (hml : w0.cell? ⟨0, 0, none⟩ = some (.int .i64 ml)) (hc : c < 256) (hcp : n ≤ cp) (hR : ReadsU W L n (escQ c))
    (hfin : EscFin c a b w0 Q) : HL Try.prog .any escOps Q (EscS w0) 22 8 listed A W := by
  subst hlis hA
  refine HL.step_ (i := 13) (o := { dst := some 29, op := .call { callee := .value (.func 11), args := #[.tmp 28], argTypes := #[22] }, type := 24, pos := "more.go:12", after := #[{ on := 12, ground := .data }], guard := none }) rfl (by decide) (by kernel_rfl) (fun K hK => ?_)
  go_simp
  refine (new_calls W L n cp).mono ?_
  rintro e W2 ⟨rfl, rfl⟩
  dsimp only
  have hL := Lx.fresh (w := W) (a := L) (n := n) (c := cp) (P := escQ c) hR.1 (by have := hR.1; have h7 : (escQ c).length = 7 := rfl; omega) hcp hR.2.1 hR.2.2
  have hbn : Below W.heap.size W (W.alloc (.cells #[.slice L n cp, .int .i64 0] 51)) := (Below.refl _ _).alloc (Nat.le_refl _) _
  refine hK.out _ _ (hS.alloc hS.size _) (fun hHeld => ?_)
  clear hK K
  exact escT13 t24 t25 t26 t27 _ r _ (by kernel_rfl) _ rfl _ hHeld hr (blk_below hz hbn) (by have := blk_lt hz; omega) hml hc hS.size hL hfin
set_option maxRecDepth 20000 in
theorem escF12 {ml : Int} {n cp : Nat} {L : Option Addr} (t24 t25 t26 t27 : Value) (listed : Array Bool) (hlis : listed = #[true, true, true, true, true, true, true, true, true, true, true, true, true, false, false, false, false, false, false, false, false, false, false]) (A : Act) (hA : A = ({ tmps := #[.int .u8 (c : Nat), .int .u8 (a : Nat), .int .u8 (b : Nat), undef, undef, undef, .bool false, .string hexS, undef, undef, undef, undef, undef, undef, undef, undef, .string hexS, .int .u8 (c : Nat), .int .u8 ((c : Int) / 16), .int .u8 (hexd (c / 16) : Nat), .string hexS, .int .u8 (c : Nat), .int .u8 ((c : Int) % 16), .int .u8 (hexd (c % 16) : Nat), t24, t25, t26, t27, .slice L n cp, undef, undef, undef, undef, undef, undef, undef, undef, undef, undef, undef, undef, undef, undef, undef, undef, undef, undef, undef, undef, undef, undef, undef, undef, undef, undef, undef, undef, undef, undef, undef, undef, undef, undef, undef, undef, undef, undef, undef, undef, undef, undef, undef, undef, undef, undef, undef, undef, undef, undef, undef, undef, undef, undef, undef, undef, undef, undef, undef, undef, undef, undef, undef], defers := [] } : Act)) (W : World) (hS : EscS w0 W) (hml : w0.cell? ⟨0, 0, none⟩ = some (.int .i64 ml)) (hc : c < 256) (hcp : n ≤ cp) (hR : ReadsU W L n (escQ c))
    (hfin : EscFin c a b w0 Q) : HL Try.prog .any escOps Q (EscS w0) 22 9 listed A W := by
  subst hlis hA
  refine HL.step2_ (i := 13) (j := 19) (o := { dst := some 29, op := .call { callee := .value (.func 11), args := #[.tmp 28], argTypes := #[22] }, type := 24, pos := "more.go:12", after := #[{ on := 12, ground := .data }], guard := none }) (o2 := { dst := some 8, op := .alloc 30, type := 0, pos := "more.go:12", after := #[], guard := none }) rfl rfl (by decide) (by decide) (by kernel_rfl) (fun K hK => ?_) (fun K hK => ?_)
  · skip
    go_simp
    refine (new_calls W L n cp).mono ?_
    rintro e W2 ⟨rfl, rfl⟩
    dsimp only
    have hL := Lx.fresh (w := W) (a := L) (n := n) (c := cp) (P := escQ c) hR.1 (by have := hR.1; have h7 : (escQ c).length = 7 := rfl; omega) hcp hR.2.1 hR.2.2
    have hbn : Below W.heap.size W (W.alloc (.cells #[.slice L n cp, .int .i64 0] 51)) := (Below.refl _ _).alloc (Nat.le_refl _) _
    refine hK.out _ _ (hS.alloc hS.size _) (fun hHeld => ?_)
    clear hK K
    exact escF13 t24 t25 t26 t27 _ _ (by kernel_rfl) _ rfl _ hHeld hml hc hS.size hL hfin
  · skip
    go_simp
    have hbz : Below W.heap.size W (W.alloc (.cells tokZ 30)) := (Below.refl _ _).alloc (Nat.le_refl _) _
    refine hK.out _ _ (hS.alloc hS.size _) (fun hHeld => ?_)
    clear hK K
    exact escT12 t24 t25 t26 t27 W.heap.size _ (by kernel_rfl) _ rfl _ hHeld hS.size (heap_alloc_new W _) hml hc hcp (hR.below hbz) hfin
set_option maxRecDepth 20000 in
theorem escT11 {ml : Int} (SQ : ByteArray) (t24 t25 t26 : Value) (r : Nat) (listed : Array Bool) (hlis : listed = #[true, true, true, true, true, true, true, true, true, true, true, true, false, false, false, false, false, false, false, true, false, false, false]) (A : Act) (hA : A = ({ tmps := #[.int .u8 (c : Nat), .int .u8 (a : Nat), .int .u8 (b : Nat), undef, undef, undef, .bool false, .string hexS, .pointer (some ⟨r, 0, none⟩), undef, undef, undef, undef, undef, undef, undef, .string hexS, .int .u8 (c : Nat), .int .u8 ((c : Int) / 16), .int .u8 (hexd (c / 16) : Nat), .string hexS, .int .u8 (c : Nat), .int .u8 ((c : Int) % 16), .int .u8 (hexd (c % 16) : Nat), t24, t25, t26, .string SQ, undef, undef, undef, undef, undef, undef, undef, undef, undef, undef, undef, undef, undef, undef, undef, undef, undef, undef, undef, undef, undef, undef, undef, undef, undef, undef, undef, undef, undef, undef, undef, undef, undef, undef, undef, undef, undef, undef, undef, undef, undef, undef, undef, undef, undef, undef, undef, undef, undef, undef, undef, undef, undef, undef, undef, undef, undef, undef, undef, undef, undef, undef, undef, undef], defers := [] } : Act)) (W : World) (hS : EscS w0 W) (hr : w0.heap.size ≤ r) (hz : W.heap[r]? = some (.cells tokZ 30)) (hml : w0.cell? ⟨0, 0, none⟩ = some (.int .i64 ml)) (hc : c < 256) (hSQ : Hid (SQ = bstr (escQ c))) (kb : ∀ (w : World) (s : ByteArray), (convert 9 22 (.string s)).run Try.prog w = .ok (.slice (some ⟨w.heap.size, 0, none⟩) s.size (grownCap w s.size 0 5)) (laid w s))
    (hfin : EscFin c a b w0 Q) : HL Try.prog .any escOps Q (EscS w0) 22 9 listed A W := by
  subst hlis hA
  refine HL.step_ (i := 12) (o := { dst := some 28, op := .convert 9 22 (.tmp 27), type := 22, pos := "more.go:12", after := #[{ on := 11, ground := .data }], guard := none }) rfl (by decide) (by kernel_rfl) (fun K hK => ?_)
  go_simp
  have hbn := laid_below W SQ
  refine hK.out _ _ (hS.trans (hbn.mono hS.size)) (fun hHeld => ?_)
  clear hK K
  exact escT12 t24 t25 t26 _ r _ (by kernel_rfl) _ rfl _ hHeld hr (blk_below hz hbn) hml hc (grownCap_ge _ _ _ _) (laid_reads hSQ.out (escQ_byte hc)) hfin
set_option maxRecDepth 20000 in
theorem escF11 {ml : Int} (SQ : ByteArray) (t24 t25 t26 : Value) (listed : Array Bool) (hlis : listed = #[true, true, true, true, true, true, true, true, true, true, true, true, false, false, false, false, false, false, false, false, false, false, false]) (A : Act) (hA : A = ({ tmps := #[.int .u8 (c : Nat), .int .u8 (a : Nat), .int .u8 (b : Nat), undef, undef, undef, .bool false, .string hexS, undef, undef, undef, undef, undef, undef, undef, undef, .string hexS, .int .u8 (c : Nat), .int .u8 ((c : Int) / 16), .int .u8 (hexd (c / 16) : Nat), .string hexS, .int .u8 (c : Nat), .int .u8 ((c : Int) % 16), .int .u8 (hexd (c % 16) : Nat), t24, t25, t26, .string SQ, undef, undef, undef, undef, undef, undef, undef, undef, undef, undef, undef, undef, undef, undef, undef, undef, undef, undef, undef, undef, undef, undef, undef, undef, undef, undef, undef, undef, undef, undef, undef, undef, undef, undef, undef, undef, undef, undef, undef, undef, undef, undef, undef, undef, undef, undef, undef, undef, undef, undef, undef, undef, undef, undef, undef, undef, undef, undef, undef, undef, undef, undef, undef, undef], defers := [] } : Act)) (W : World) (hS : EscS w0 W) (hml : w0.cell? ⟨0, 0, none⟩ = some (.int .i64 ml)) (hc : c < 256) (hSQ : Hid (SQ = bstr (escQ c))) (kb : ∀ (w : World) (s : ByteArray), (convert 9 22 (.string s)).run Try.prog w = .ok (.slice (some ⟨w.heap.size, 0, none⟩) s.size (grownCap w s.size 0 5)) (laid w s))
    (hfin : EscFin c a b w0 Q) : HL Try.prog .any escOps Q (EscS w0) 22 10 listed A W := by
  subst hlis hA
  refine HL.step2_ (i := 12) (j := 19) (o := { dst := some 28, op := .convert 9 22 (.tmp 27), type := 22, pos := "more.go:12", after := #[{ on := 11, ground := .data }], guard := none }) (o2 := { dst := some 8, op := .alloc 30, type := 0, pos := "more.go:12", after := #[], guard := none }) rfl rfl (by decide) (by decide) (by kernel_rfl) (fun K hK => ?_) (fun K hK => ?_)
  · skip
    go_simp
    have hbn := laid_below W SQ
    refine hK.out _ _ (hS.trans (hbn.mono hS.size)) (fun hHeld => ?_)
    clear hK K
    exact escF12 t24 t25 t26 _ _ (by kernel_rfl) _ rfl _ hHeld hml hc (grownCap_ge _ _ _ _) (laid_reads hSQ.out (escQ_byte hc)) hfin
  · skip
    go_simp
    have hbz : Below W.heap.size W (W.alloc (.cells tokZ 30)) := (Below.refl _ _).alloc (Nat.le_refl _) _
    refine hK.out _ _ (hS.alloc hS.size _) (fun hHeld => ?_)
    clear hK K
    exact escT11 SQ t24 t25 t26 W.heap.size _ (by kernel_rfl) _ rfl _ hHeld hS.size (heap_alloc_new W _) hml hc hSQ kb hfin
set_option maxRecDepth 20000 in
theorem escT10 {ml : Int} (SQ S1 : ByteArray) (t24 t25 : Value) (r : Nat) (listed : Array Bool) (hlis : listed = #[true, true, true, true, true, true, true, true, true, true, true, false, false, false, false, false, false, false, false, true, false, false, false]) (A : Act) (hA : A = ({ tmps := #[.int .u8 (c : Nat), .int .u8 (a : Nat), .int .u8 (b : Nat), undef, undef, undef, .bool false, .string hexS, .pointer (some ⟨r, 0, none⟩), undef, undef, undef, undef, undef, undef, undef, .string hexS, .int .u8 (c : Nat), .int .u8 ((c : Int) / 16), .int .u8 (hexd (c / 16) : Nat), .string hexS, .int .u8 (c : Nat), .int .u8 ((c : Int) % 16), .int .u8 (hexd (c % 16) : Nat), t24, t25, .string S1, undef, undef, undef, undef, undef, undef, undef, undef, undef, undef, undef, undef, undef, undef, undef, undef, undef, undef, undef, undef, undef, undef, undef, undef, undef, undef, undef, undef, undef, undef, undef, undef, undef, undef, undef, undef, undef, undef, undef, undef, undef, undef, undef, undef, undef, undef, undef, undef, undef, undef, undef, undef, undef, undef, undef, undef, undef, undef, undef, undef, undef, undef, undef, undef, undef], defers := [] } : Act)) (W : World) (hS : EscS w0 W) (hr : w0.heap.size ≤ r) (hz : W.heap[r]? = some (.cells tokZ 30)) (hml : w0.cell? ⟨0, 0, none⟩ = some (.int .i64 ml)) (hc : c < 256) (hSQ : Hid (SQ = bstr (escQ c))) (kb : ∀ (w : World) (s : ByteArray), (convert 9 22 (.string s)).run Try.prog w = .ok (.slice (some ⟨w.heap.size, 0, none⟩) s.size (grownCap w s.size 0 5)) (laid w s)) (k2 : ∀ W : World, (Op.stringOp .add S1 ⟨#[34]⟩).run Try.prog W = .ok (.string SQ) W)
    (hfin : EscFin c a b w0 Q) : HL Try.prog .any escOps Q (EscS w0) 22 10 listed A W := by
  subst hlis hA
  refine HL.step_ (i := 11) (o := { dst := some 27, op := .binOp .add 9 (.tmp 26) (.const (.string { data := #[34] })) 9, type := 9, pos := "more.go:12", after := #[{ on := 10, ground := .data }], guard := none }) rfl (by decide) (by kernel_rfl) (fun K hK => ?_)
  go_simp
  refine hK.out _ _ (hS) (fun hHeld => ?_)
  clear hK K
  exact escT11 SQ t24 t25 _ r _ (by kernel_rfl) _ rfl _ hHeld hr (hz) hml hc hSQ kb hfin
set_option maxRecDepth 20000 in
theorem escF10 {ml : Int} (SQ S1 : ByteArray) (t24 t25 : Value) (listed : Array Bool) (hlis : listed = #[true, true, true, true, true, true, true, true, true, true, true, false, false, false, false, false, false, false, false, false, false, false, false]) (A : Act) (hA : A = ({ tmps := #[.int .u8 (c : Nat), .int .u8 (a : Nat), .int .u8 (b : Nat), undef, undef, undef, .bool false, .string hexS, undef, undef, undef, undef, undef, undef, undef, undef, .string hexS, .int .u8 (c : Nat), .int .u8 ((c : Int) / 16), .int .u8 (hexd (c / 16) : Nat), .string hexS, .int .u8 (c : Nat), .int .u8 ((c : Int) % 16), .int .u8 (hexd (c % 16) : Nat), t24, t25, .string S1, undef, undef, undef, undef, undef, undef, undef, undef, undef, undef, undef, undef, undef, undef, undef, undef, undef, undef, undef, undef, undef, undef, undef, undef, undef, undef, undef, undef, undef, undef, undef, undef, undef, undef, undef, undef, undef, undef, undef, undef, undef, undef, undef, undef, undef, undef, undef, undef, undef, undef, undef, undef, undef, undef, undef, undef, undef, undef, undef, undef, undef, undef, undef, undef, undef], defers := [] } : Act)) (W : World) (hS : EscS w0 W) (hml : w0.cell? ⟨0, 0, none⟩ = some (.int .i64 ml)) (hc : c < 256) (hSQ : Hid (SQ = bstr (escQ c))) (kb : ∀ (w : World) (s : ByteArray), (convert 9 22 (.string s)).run Try.prog w = .ok (.slice (some ⟨w.heap.size, 0, none⟩) s.size (grownCap w s.size 0 5)) (laid w s)) (k2 : ∀ W : World, (Op.stringOp .add S1 ⟨#[34]⟩).run Try.prog W = .ok (.string SQ) W)
    (hfin : EscFin c a b w0 Q) : HL Try.prog .any escOps Q (EscS w0) 22 11 listed A W := by
  subst hlis hA
  refine HL.step2_ (i := 11) (j := 19) (o := { dst := some 27, op := .binOp .add 9 (.tmp 26) (.const (.string { data := #[34] })) 9, type := 9, pos := "more.go:12", after := #[{ on := 10, ground := .data }], guard := none }) (o2 := { dst := some 8, op := .alloc 30, type := 0, pos := "more.go:12", after := #[], guard := none }) rfl rfl (by decide) (by decide) (by kernel_rfl) (fun K hK => ?_) (fun K hK => ?_)
  · skip
    go_simp
    refine hK.out _ _ (hS) (fun hHeld => ?_)
    clear hK K
    exact escF11 SQ t24 t25 _ _ (by kernel_rfl) _ rfl _ hHeld hml hc hSQ kb hfin
  · skip
    go_simp
    have hbz : Below W.heap.size W (W.alloc (.cells tokZ 30)) := (Below.refl _ _).alloc (Nat.le_refl _) _
    refine hK.out _ _ (hS.alloc hS.size _) (fun hHeld => ?_)
    clear hK K
    exact escT10 SQ S1 t24 t25 W.heap.size _ (by kernel_rfl) _ rfl _ hHeld hS.size (heap_alloc_new W _) hml hc hSQ kb k2 hfin
set_option maxRecDepth 20000 in
theorem escT9 {ml : Int} (SQ S1 S0 : ByteArray) (t24 : Value) (r : Nat) (listed : Array Bool) (hlis : listed = #[true, true, true, true, true, true, true, true, true, true, false, false, false, false, false, false, false, false, false, true, false, false, false]) (A : Act) (hA : A = ({ tmps := #[.int .u8 (c : Nat), .int .u8 (a : Nat), .int .u8 (b : Nat), undef, undef, undef, .bool false, .string hexS, .pointer (some ⟨r, 0, none⟩), undef, undef, undef, undef, undef, undef, undef, .string hexS, .int .u8 (c : Nat), .int .u8 ((c : Int) / 16), .int .u8 (hexd (c / 16) : Nat), .string hexS, .int .u8 (c : Nat), .int .u8 ((c : Int) % 16), .int .u8 (hexd (c % 16) : Nat), t24, .string S0, undef, undef, undef, undef, undef, undef, undef, undef, undef, undef, undef, undef, undef, undef, undef, undef, undef, undef, undef, undef, undef, undef, undef, undef, undef, undef, undef, undef, undef, undef, undef, undef, undef, undef, undef, undef, undef, undef, undef, undef, undef, undef, undef, undef, undef, undef, undef, undef, undef, undef, undef, undef, undef, undef, undef, undef, undef, undef, undef, undef, undef, undef, undef, undef, undef, undef], defers := [] } : Act)) (W : World) (hS : EscS w0 W) (hr : w0.heap.size ≤ r) (hz : W.heap[r]? = some (.cells tokZ 30)) (hml : w0.cell? ⟨0, 0, none⟩ = some (.int .i64 ml)) (hc : c < 256) (hSQ : Hid (SQ = bstr (escQ c))) (kb : ∀ (w : World) (s : ByteArray), (convert 9 22 (.string s)).run Try.prog w = .ok (.slice (some ⟨w.heap.size, 0, none⟩) s.size (grownCap w s.size 0 5)) (laid w s)) (k2 : ∀ W : World, (Op.stringOp .add S1 ⟨#[34]⟩).run Try.prog W = .ok (.string SQ) W) (k1 : ∀ W : World, (Op.stringOp .add ⟨#[36, 34, 92, 120]⟩ S0).run Try.prog W = .ok (.string S1) W)
    (hfin : EscFin c a b w0 Q) : HL Try.prog .any escOps Q (EscS w0) 22 11 listed A W := by
  subst hlis hA
  refine HL.step_ (i := 10) (o := { dst := some 26, op := .binOp .add 9 (.const (.string { data := #[36, 34, 92, 120] })) (.tmp 25) 9, type := 9, pos := "more.go:12", after := #[{ on := 9, ground := .data }], guard := none }) rfl (by decide) (by kernel_rfl) (fun K hK => ?_)
  go_simp
  refine hK.out _ _ (hS) (fun hHeld => ?_)
  clear hK K
  exact escT10 SQ S1 t24 _ r _ (by kernel_rfl) _ rfl _ hHeld hr (hz) hml hc hSQ kb k2 hfin
set_option maxRecDepth 20000 in
theorem escF9 {ml : Int} (SQ S1 S0 : ByteArray) (t24 : Value) (listed : Array Bool) (hlis : listed = #[true, true, true, true, true, true, true, true, true, true, false, false, false, false, false, false, false, false, false, false, false, false, false]) (A : Act) (hA : A = ({ tmps := #[.int .u8 (c : Nat), .int .u8 (a : Nat), .int .u8 (b : Nat), undef, undef, undef, .bool false, .string hexS, undef, undef, undef, undef, undef, undef, undef, undef, .string hexS, .int .u8 (c : Nat), .int .u8 ((c : Int) / 16), .int .u8 (hexd (c / 16) : Nat), .string hexS, .int .u8 (c : Nat), .int .u8 ((c : Int) % 16), .int .u8 (hexd (c % 16) : Nat), t24, .string S0, undef, undef, undef, undef, undef, undef, undef, undef, undef, undef, undef, undef, undef, undef, undef, undef, undef, undef, undef, undef, undef, undef, undef, undef, undef, undef, undef, undef, undef, undef, undef, undef, undef, undef, undef, undef, undef, undef, undef, undef, undef, undef, undef, undef, undef, undef, undef, undef, undef, undef, undef, undef, undef, undef, undef, undef, undef, undef, undef, undef, undef, undef, undef, undef, undef, undef], defers := [] } : Act)) (W : World) (hS : EscS w0 W) (hml : w0.cell? ⟨0, 0, none⟩ = some (.int .i64 ml)) (hc : c < 256) (hSQ : Hid (SQ = bstr (escQ c))) (kb : ∀ (w : World) (s : ByteArray), (convert 9 22 (.string s)).run Try.prog w = .ok (.slice (some ⟨w.heap.size, 0, none⟩) s.size (grownCap w s.size 0 5)) (laid w s)) (k2 : ∀ W : World, (Op.stringOp .add S1 ⟨#[34]⟩).run Try.prog W = .ok (.string SQ) W) (k1 : ∀ W : World, (Op.stringOp .add ⟨#[36, 34, 92, 120]⟩ S0).run Try.prog W = .ok (.string S1) W)
    (hfin : EscFin c a b w0 Q) : HL Try.prog .any escOps Q (EscS w0) 22 12 listed A W := by
  subst hlis hA
  refine HL.step2_ (i := 10) (j := 19) (o := { dst := some 26, op := .binOp .add 9 (.const (.string { data := #[36, 34, 92, 120] })) (.tmp 25) 9, type := 9, pos := "more.go:12", after := #[{ on := 9, ground := .data }], guard := none }) (o2 := { dst := some 8, op := .alloc 30, type := 0, pos := "more.go:12", after := #[], guard := none }) rfl rfl (by decide) (by decide) (by kernel_rfl) (fun K hK => ?_) (fun K hK => ?_)
  · skip
    go_simp
    refine hK.out _ _ (hS) (fun hHeld => ?_)
    clear hK K
    exact escF10 SQ S1 t24 _ _ (by kernel_rfl) _ rfl _ hHeld hml hc hSQ kb k2 hfin
  · skip
    go_simp
    have hbz : Below W.heap.size W (W.alloc (.cells tokZ 30)) := (Below.refl _ _).alloc (Nat.le_refl _) _
    refine hK.out _ _ (hS.alloc hS.size _) (fun hHeld => ?_)
    clear hK K
    exact escT9 SQ S1 S0 t24 W.heap.size _ (by kernel_rfl) _ rfl _ hHeld hS.size (heap_alloc_new W _) hml hc hSQ kb k2 k1 hfin
set_option maxRecDepth 20000 in
theorem escT8 {ml : Int} (SQ S1 S0 : ByteArray) (g : Nat) (r : Nat) (listed : Array Bool) (hlis : listed = #[true, true, true, true, true, true, true, true, true, false, false, false, false, false, false, false, false, false, false, true, false, false, false]) (A : Act) (hA : A = ({ tmps := #[.int .u8 (c : Nat), .int .u8 (a : Nat), .int .u8 (b : Nat), undef, undef, undef, .bool false, .string hexS, .pointer (some ⟨r, 0, none⟩), undef, undef, undef, undef, undef, undef, undef, .string hexS, .int .u8 (c : Nat), .int .u8 ((c : Int) / 16), .int .u8 (hexd (c / 16) : Nat), .string hexS, .int .u8 (c : Nat), .int .u8 ((c : Int) % 16), .int .u8 (hexd (c % 16) : Nat), .slice (some ⟨g, 0, none⟩) 2 2, undef, undef, undef, undef, undef, undef, undef, undef, undef, undef, undef, undef, undef, undef, undef, undef, undef, undef, undef, undef, undef, undef, undef, undef, undef, undef, undef, undef, undef, undef, undef, undef, undef, undef, undef, undef, undef, undef, undef, undef, undef, undef, undef, undef, undef, undef, undef, undef, undef, undef, undef, undef, undef, undef, undef, undef, undef, undef, undef, undef, undef, undef, undef, undef, undef, undef, undef], defers := [] } : Act)) (W : World) (hS : EscS w0 W) (hr : w0.heap.size ≤ r) (hz : W.heap[r]? = some (.cells tokZ 30)) (hml : w0.cell? ⟨0, 0, none⟩ = some (.int .i64 ml)) (hc : c < 256) (hSQ : Hid (SQ = bstr (escQ c))) (kb : ∀ (w : World) (s : ByteArray), (convert 9 22 (.string s)).run Try.prog w = .ok (.slice (some ⟨w.heap.size, 0, none⟩) s.size (grownCap w s.size 0 5)) (laid w s)) (k2 : ∀ W : World, (Op.stringOp .add S1 ⟨#[34]⟩).run Try.prog W = .ok (.string SQ) W) (k1 : ∀ W : World, (Op.stringOp .add ⟨#[36, 34, 92, 120]⟩ S0).run Try.prog W = .ok (.string S1) W) (hS0 : Hid (S0 = bstr [hexd (c / 16), hexd (c % 16)])) (hd : ReadsU W (some ⟨g, 0, none⟩) 2 [hexd (c / 16), hexd (c % 16)])
    (hfin : EscFin c a b w0 Q) : HL Try.prog .any escOps Q (EscS w0) 22 12 listed A W := by
  subst hlis hA
  have kc : (convert 22 9 (.slice (some ⟨g, 0, none⟩) 2 2)).run Try.prog W = .ok (.string S0) W := by rw [hS0.out]; exact conv_came hd 9 Try.underlying9
  refine HL.step_ (i := 9) (o := { dst := some 25, op := .convert 22 9 (.tmp 24), type := 9, pos := "more.go:12", after := #[{ on := 8, ground := .data }], guard := none }) rfl (by decide) (by kernel_rfl) (fun K hK => ?_)
  go_simp
  refine hK.out _ _ hS (fun hHeld => ?_)
  clear hK K
  exact escT9 SQ S1 S0 _ r _ (by kernel_rfl) _ rfl _ hHeld hr hz hml hc hSQ kb k2 k1 hfin
set_option maxRecDepth 20000 in
theorem escF8 {ml : Int} (SQ S1 S0 : ByteArray) (g : Nat) (listed : Array Bool) (hlis : listed = #[true, true, true, true, true, true, true, true, true, false, false, false, false, false, false, false, false, false, false, false, false, false, false]) (A : Act) (hA : A = ({ tmps := #[.int .u8 (c : Nat), .int .u8 (a : Nat), .int .u8 (b : Nat), undef, undef, undef, .bool false, .string hexS, undef, undef, undef, undef, undef, undef, undef, undef, .string hexS, .int .u8 (c : Nat), .int .u8 ((c : Int) / 16), .int .u8 (hexd (c / 16) : Nat), .string hexS, .int .u8 (c : Nat), .int .u8 ((c : Int) % 16), .int .u8 (hexd (c % 16) : Nat), .slice (some ⟨g, 0, none⟩) 2 2, undef, undef, undef, undef, undef, undef, undef, undef, undef, undef, undef, undef, undef, undef, undef, undef, undef, undef, undef, undef, undef, undef, undef, undef, undef, undef, undef, undef, undef, undef, undef, undef, undef, undef, undef, undef, undef, undef, undef, undef, undef, undef, undef, undef, undef, undef, undef, undef, undef, undef, undef, undef, undef, undef, undef, undef, undef, undef, undef, undef, undef, undef, undef, undef, undef, undef, undef], defers := [] } : Act)) (W : World) (hS : EscS w0 W) (hml : w0.cell? ⟨0, 0, none⟩ = some (.int .i64 ml)) (hc : c < 256) (hSQ : Hid (SQ = bstr (escQ c))) (kb : ∀ (w : World) (s : ByteArray), (convert 9 22 (.string s)).run Try.prog w = .ok (.slice (some ⟨w.heap.size, 0, none⟩) s.size (grownCap w s.size 0 5)) (laid w s)) (k2 : ∀ W : World, (Op.stringOp .add S1 ⟨#[34]⟩).run Try.prog W = .ok (.string SQ) W) (k1 : ∀ W : World, (Op.stringOp .add ⟨#[36, 34, 92, 120]⟩ S0).run Try.prog W = .ok (.string S1) W) (hS0 : Hid (S0 = bstr [hexd (c / 16), hexd (c % 16)])) (hd : ReadsU W (some ⟨g, 0, none⟩) 2 [hexd (c / 16), hexd (c % 16)])
    (hfin : EscFin c a b w0 Q) : HL Try.prog .any escOps Q (EscS w0) 22 13 listed A W := by
  subst hlis hA
  have kc : (convert 22 9 (.slice (some ⟨g, 0, none⟩) 2 2)).run Try.prog W = .ok (.string S0) W := by rw [hS0.out]; exact conv_came hd 9 Try.underlying9
  refine HL.step2_ (i := 9) (j := 19) (o := { dst := some 25, op := .convert 22 9 (.tmp 24), type := 9, pos := "more.go:12", after := #[{ on := 8, ground := .data }], guard := none }) (o2 := { dst := some 8, op := .alloc 30, type := 0, pos := "more.go:12", after := #[], guard := none }) rfl rfl (by decide) (by decide) (by kernel_rfl) (fun K hK => ?_) (fun K hK => ?_)
  · skip
    go_simp
    refine hK.out _ _ hS (fun hHeld => ?_)
    clear hK K
    exact escF9 SQ S1 S0 _ _ (by kernel_rfl) _ rfl _ hHeld hml hc hSQ kb k2 k1 hfin
  · skip
    go_simp
    have hbz : Below W.heap.size W (W.alloc (.cells tokZ 30)) := (Below.refl _ _).alloc (Nat.le_refl _) _
    refine hK.out _ _ (hS.alloc hS.size _) (fun hHeld => ?_)
    clear hK K
    exact escT8 SQ S1 S0 g W.heap.size _ (by kernel_rfl) _ rfl _ hHeld hS.size (heap_alloc_new W _) hml hc hSQ kb k2 k1 hS0 (hd.below hbz) hfin
set_option maxRecDepth 20000 in
theorem escT0 {ml : Int} (SQ S1 S0 : ByteArray) (r : Nat) (listed : Array Bool) (hlis : listed = #[true, true, true, true, true, true, true, true, false, false, false, false, false, false, false, false, false, false, false, true, false, false, false]) (A : Act) (hA : A = ({ tmps := #[.int .u8 (c : Nat), .int .u8 (a : Nat), .int .u8 (b : Nat), undef, undef, undef, .bool false, .string hexS, .pointer (some ⟨r, 0, none⟩), undef, undef, undef, undef, undef, undef, undef, .string hexS, .int .u8 (c : Nat), .int .u8 ((c : Int) / 16), .int .u8 (hexd (c / 16) : Nat), .string hexS, .int .u8 (c : Nat), .int .u8 ((c : Int) % 16), .int .u8 (hexd (c % 16) : Nat), undef, undef, undef, undef, undef, undef, undef, undef, undef, undef, undef, undef, undef, undef, undef, undef, undef, undef, undef, undef, undef, undef, undef, undef, undef, undef, undef, undef, undef, undef, undef, undef, undef, undef, undef, undef, undef, undef, undef, undef, undef, undef, undef, undef, undef, undef, undef, undef, undef, undef, undef, undef, undef, undef, undef, undef, undef, undef, undef, undef, undef, undef, undef, undef, undef, undef, undef, undef], defers := [] } : Act)) (W : World) (hS : EscS w0 W) (hr : w0.heap.size ≤ r) (hz : W.heap[r]? = some (.cells tokZ 30)) (hml : w0.cell? ⟨0, 0, none⟩ = some (.int .i64 ml)) (hc : c < 256) (hSQ : Hid (SQ = bstr (escQ c))) (kb : ∀ (w : World) (s : ByteArray), (convert 9 22 (.string s)).run Try.prog w = .ok (.slice (some ⟨w.heap.size, 0, none⟩) s.size (grownCap w s.size 0 5)) (laid w s)) (k2 : ∀ W : World, (Op.stringOp .add S1 ⟨#[34]⟩).run Try.prog W = .ok (.string SQ) W) (k1 : ∀ W : World, (Op.stringOp .add ⟨#[36, 34, 92, 120]⟩ S0).run Try.prog W = .ok (.string S1) W) (hS0 : Hid (S0 = bstr [hexd (c / 16), hexd (c % 16)]))
    (hfin : EscFin c a b w0 Q) : HL Try.prog .any escOps Q (EscS w0) 22 13 listed A W := by
  subst hlis hA
  refine HL.step_ (i := 8) (o := { dst := some 24, op := .buildSlice 22 2 #[(0, .tmp 19), (1, .tmp 23)], type := 22, pos := "more.go:12", after := #[{ on := 3, ground := .data }, { on := 7, ground := .data }], guard := none }) rfl (by decide) (by kernel_rfl) (fun K hK => ?_)
  go_simp
  have hbn : Below W.heap.size W (W.alloc (.cells #[.int .u8 (hexd (c / 16) : Nat), .int .u8 (hexd (c % 16) : Nat)] 5)) := (Below.refl _ _).alloc (Nat.le_refl _) _
  have hd : ReadsU (W.alloc (.cells #[.int .u8 (hexd (c / 16) : Nat), .int .u8 (hexd (c % 16) : Nat)] 5)) (some ⟨W.heap.size, 0, none⟩) 2 [hexd (c / 16), hexd (c % 16)] := ⟨rfl, fun u hu => by
      have h1 := (hexd_ok ⟨c / 16, by omega⟩).2.2
      have h2 := (hexd_ok ⟨c % 16, by omega⟩).2.2
      dsimp only at h1 h2
      simp at hu
      omega, fun _ => ⟨W.heap.size, 0, rfl, fun j u hu => by
      rw [blk_cell (heap_alloc_new W _), Nat.zero_add]
      match j, hu with
      | 0, hu => injection hu with hu; subst hu; rfl
      | 1, hu => injection hu with hu; subst hu; rfl⟩⟩
  refine hK.out _ _ (hS.alloc hS.size _) (fun hHeld => ?_)
  clear hK K
  exact escT8 SQ S1 S0 _ r _ (by kernel_rfl) _ rfl _ hHeld hr (blk_below hz hbn) hml hc hSQ kb k2 k1 hS0 hd hfin
set_option maxRecDepth 20000 in
theorem escF0 {ml : Int} (SQ S1 S0 : ByteArray) (listed : Array Bool) (hlis : listed = #[true, true, true, true, true, true, true, true, false, false, false, false, false, false, false, false, false, false, false, false, false, false, false]) (A : Act) (hA : A = ({ tmps := #[.int .u8 (c : Nat), .int .u8 (a : Nat), .int .u8 (b : Nat), undef, undef, undef, .bool false, .string hexS, undef, undef, undef, undef, undef, undef, undef, undef, .string hexS, .int .u8 (c : Nat), .int .u8 ((c : Int) / 16), .int .u8 (hexd (c / 16) : Nat), .string hexS, .int .u8 (c : Nat), .int .u8 ((c : Int) % 16), .int .u8 (hexd (c % 16) : Nat), undef, undef, undef, undef, undef, undef, undef, undef, undef, undef, undef, undef, undef, undef, undef, undef, undef, undef, undef, undef, undef, undef, undef, undef, undef, undef, undef, undef, undef, undef, undef, undef, undef, undef, undef, undef, undef, undef, undef, undef, undef, undef, undef, undef, undef, undef, undef, undef, undef, undef, undef, undef, undef, undef, undef, undef, undef, undef, undef, undef, undef, undef, undef, undef, undef, undef, undef, undef], defers := [] } : Act)) (W : World) (hS : EscS w0 W) (hml : w0.cell? ⟨0, 0, none⟩ = some (.int .i64 ml)) (hc : c < 256) (hSQ : Hid (SQ = bstr (escQ c))) (kb : ∀ (w : World) (s : ByteArray), (convert 9 22 (.string s)).run Try.prog w = .ok (.slice (some ⟨w.heap.size, 0, none⟩) s.size (grownCap w s.size 0 5)) (laid w s)) (k2 : ∀ W : World, (Op.stringOp .add S1 ⟨#[34]⟩).run Try.prog W = .ok (.string SQ) W) (k1 : ∀ W : World, (Op.stringOp .add ⟨#[36, 34, 92, 120]⟩ S0).run Try.prog W = .ok (.string S1) W) (hS0 : Hid (S0 = bstr [hexd (c / 16), hexd (c % 16)]))
    (hfin : EscFin c a b w0 Q) : HL Try.prog .any escOps Q (EscS w0) 22 14 listed A W := by
  subst hlis hA
  refine HL.step2_ (i := 8) (j := 19) (o := { dst := some 24, op := .buildSlice 22 2 #[(0, .tmp 19), (1, .tmp 23)], type := 22, pos := "more.go:12", after := #[{ on := 3, ground := .data }, { on := 7, ground := .data }], guard := none }) (o2 := { dst := some 8, op := .alloc 30, type := 0, pos := "more.go:12", after := #[], guard := none }) rfl rfl (by decide) (by decide) (by kernel_rfl) (fun K hK => ?_) (fun K hK => ?_)
  · skip
    go_simp
    have hbn : Below W.heap.size W (W.alloc (.cells #[.int .u8 (hexd (c / 16) : Nat), .int .u8 (hexd (c % 16) : Nat)] 5)) := (Below.refl _ _).alloc (Nat.le_refl _) _
    have hd : ReadsU (W.alloc (.cells #[.int .u8 (hexd (c / 16) : Nat), .int .u8 (hexd (c % 16) : Nat)] 5)) (some ⟨W.heap.size, 0, none⟩) 2 [hexd (c / 16), hexd (c % 16)] := ⟨rfl, fun u hu => by
        have h1 := (hexd_ok ⟨c / 16, by omega⟩).2.2
        have h2 := (hexd_ok ⟨c % 16, by omega⟩).2.2
        dsimp only at h1 h2
        simp at hu
        omega, fun _ => ⟨W.heap.size, 0, rfl, fun j u hu => by
        rw [blk_cell (heap_alloc_new W _), Nat.zero_add]
        match j, hu with
        | 0, hu => injection hu with hu; subst hu; rfl
        | 1, hu => injection hu with hu; subst hu; rfl⟩⟩
    refine hK.out _ _ (hS.alloc hS.size _) (fun hHeld => ?_)
    clear hK K
    exact escF8 SQ S1 S0 _ _ (by kernel_rfl) _ rfl _ hHeld hml hc hSQ kb k2 k1 hS0 hd hfin
  · skip
    go_simp
    have hbz : Below W.heap.size W (W.alloc (.cells tokZ 30)) := (Below.refl _ _).alloc (Nat.le_refl _) _
    refine hK.out _ _ (hS.alloc hS.size _) (fun hHeld => ?_)
    clear hK K
    exact escT0 SQ S1 S0 W.heap.size _ (by kernel_rfl) _ rfl _ hHeld hS.size (heap_alloc_new W _) hml hc hSQ kb k2 k1 hS0 hfin
theorem hex_get (k : Nat) (hk : k < 16) (j : Nat) (e : j = k) (h : j < hexS.size) : (hexS[j]'h).toNat = hexd k := by
  subst e
  have h1 := hexd_at j hk
  obtain ⟨h2, h3⟩ := Array.getElem?_eq_some_iff.1 h1
  show ((#[48, 49, 50, 51, 52, 53, 54, 55, 56, 57, 97, 98, 99, 100, 101, 102] : Array UInt8)[j]'h2).toNat = _
  rw [h3]
  have := (hexd_ok ⟨j, hk⟩).2.2
  dsimp only at this
  simp
  omega
set_option maxRecDepth 20000 in
theorem escReg {ml : Int} (hml : w0.cell? ⟨0, 0, none⟩ = some (.int .i64 ml)) (hc : c < 256) (hfin : EscFin c a b w0 Q) : (Code.region 2 escOps.toArray true).wp Try.prog Q ({ tmps := #[.int .u8 (c : Nat), .int .u8 (a : Nat), .int .u8 (b : Nat), undef, undef, undef, .bool false, .string hexS, undef, undef, undef, undef, undef, undef, undef, undef, undef, undef, undef, undef, undef, undef, undef, undef, undef, undef, undef, undef, undef, undef, undef, undef, undef, undef, undef, undef, undef, undef, undef, undef, undef, undef, undef, undef, undef, undef, undef, undef, undef, undef, undef, undef, undef, undef, undef, undef, undef, undef, undef, undef, undef, undef, undef, undef, undef, undef, undef, undef, undef, undef, undef, undef, undef, undef, undef, undef, undef, undef, undef, undef, undef, undef, undef, undef, undef, undef, undef, undef, undef, undef, undef, undef], defers := [] } : Act) w0 := by
  have hw1 : IntKind.u8.wrap ((c : Int) / 16) = (c : Int) / 16 := by unfold IntKind.wrap; simp [IntKind.signed, IntKind.bits]; omega
  have hw2 : IntKind.u8.wrap ((c : Int) % 16) = (c : Int) % 16 := by unfold IntKind.wrap; simp [IntKind.signed, IntKind.bits]; omega
  have lt1 : (c : Int) / 16 < 16 := by omega
  have lt2 : (c : Int) % 16 < 16 := by omega
  have ge1 : ¬ (c : Int) / 16 < 0 := by omega
  have ge1' : 0 ≤ (c : Int) / 16 := by omega
  have ge2 : 0 ≤ (c : Int) % 16 := by omega
  have tm : (c : Int).tmod 16 = (c : Int) % 16 := Int.tmod_eq_emod_of_nonneg (by omega)
  have hx1 : ∀ h, (hexS[((c : Int) / 16).toNat]'h).toNat = hexd (c / 16) := fun h => hex_get (c / 16) (by omega) _ (by omega) h
  have hx2 : ∀ h, (hexS[((c : Int) % 16).toNat]'h).toNat = hexd (c % 16) := fun h => hex_get (c % 16) (by omega) _ (by omega) h
  refine wp_region_HL (S := EscS w0) 22 (by kernel_rfl) (by kernel_rfl) (by kernel_rfl) (by kernel_rfl) (by decide) ⟨rfl, rfl, rfl, Nat.le_refl _, fun _ _ => rfl⟩ (fun hHeld => ?_)
  refine HL.take_ (i := 0) (oi := { dst := some 16, op := .move (.tmp 7), type := 9, pos := "more.go:12", after := #[], guard := none }) (v := ?_) rfl (by decide) (by kernel_rfl) (by kernel_rfl) (fun _ _ _ h => hfin.1 _ _ _ _ _ h) (Or.inl ⟨by rfl, ?_⟩) (by assumption) ?_
  rotate_left
  · intro w hSw
    (try dsimp only at hSw)
    (go_simp; try (with_reducible rfl))
  try simp only [Act.put, List.setIfInBounds_toArray, List.set_cons_zero, List.set_cons_succ]
  refine HL.take_ (i := 1) (oi := { dst := some 17, op := .move (.tmp 0), type := 5, pos := "more.go:12", after := #[], guard := none }) (v := ?_) rfl (by decide) (by kernel_rfl) (by kernel_rfl) (fun _ _ _ h => hfin.1 _ _ _ _ _ h) (Or.inl ⟨by rfl, ?_⟩) (by assumption) ?_
  rotate_left
  · intro w hSw
    (try dsimp only at hSw)
    (go_simp; try (with_reducible rfl))
  try simp only [Act.put, List.setIfInBounds_toArray, List.set_cons_zero, List.set_cons_succ]
  refine HL.take_ (i := 2) (oi := { dst := some 18, op := .binOp .quo 5 (.tmp 17) (.const (.int .u8 16)) 5, type := 5, pos := "more.go:12", after := #[{ on := 1, ground := .data }], guard := none }) (v := ?_) rfl (by decide) (by kernel_rfl) (by kernel_rfl) (fun _ _ _ h => hfin.1 _ _ _ _ _ h) (Or.inl ⟨by rfl, ?_⟩) (by assumption) ?_
  rotate_left
  · intro w hSw
    (try dsimp only at hSw)
    (go_simp; try (with_reducible rfl))
  try simp only [Act.put, List.setIfInBounds_toArray, List.set_cons_zero, List.set_cons_succ]
  refine HL.take_ (i := 3) (oi := { dst := some 19, op := .index 9 (.tmp 16) (.tmp 18), type := 5, pos := "more.go:12", after := #[{ on := 0, ground := .data }, { on := 2, ground := .data }], guard := none }) (v := .int .u8 (hexd (c / 16) : Nat)) rfl (by decide) (by kernel_rfl) (by kernel_rfl) (fun _ _ _ h => hfin.1 _ _ _ _ _ h) (Or.inl ⟨by rfl, ?_⟩) (by assumption) ?_
  · intro w hSw
    (try dsimp only at hSw)
    (go_simp; try simp only [hx1, hx2])
  try simp only [Act.put, List.setIfInBounds_toArray, List.set_cons_zero, List.set_cons_succ]
  refine HL.take_ (i := 4) (oi := { dst := some 20, op := .move (.tmp 7), type := 9, pos := "more.go:12", after := #[], guard := none }) (v := ?_) rfl (by decide) (by kernel_rfl) (by kernel_rfl) (fun _ _ _ h => hfin.1 _ _ _ _ _ h) (Or.inl ⟨by rfl, ?_⟩) (by assumption) ?_
  rotate_left
  · intro w hSw
    (try dsimp only at hSw)
    (go_simp; try (with_reducible rfl))
  try simp only [Act.put, List.setIfInBounds_toArray, List.set_cons_zero, List.set_cons_succ]
  refine HL.take_ (i := 5) (oi := { dst := some 21, op := .move (.tmp 0), type := 5, pos := "more.go:12", after := #[], guard := none }) (v := ?_) rfl (by decide) (by kernel_rfl) (by kernel_rfl) (fun _ _ _ h => hfin.1 _ _ _ _ _ h) (Or.inl ⟨by rfl, ?_⟩) (by assumption) ?_
  rotate_left
  · intro w hSw
    (try dsimp only at hSw)
    (go_simp; try (with_reducible rfl))
  try simp only [Act.put, List.setIfInBounds_toArray, List.set_cons_zero, List.set_cons_succ]
  refine HL.take_ (i := 6) (oi := { dst := some 22, op := .binOp .rem 5 (.tmp 21) (.const (.int .u8 16)) 5, type := 5, pos := "more.go:12", after := #[{ on := 5, ground := .data }], guard := none }) (v := ?_) rfl (by decide) (by kernel_rfl) (by kernel_rfl) (fun _ _ _ h => hfin.1 _ _ _ _ _ h) (Or.inl ⟨by rfl, ?_⟩) (by assumption) ?_
  rotate_left
  · intro w hSw
    (try dsimp only at hSw)
    (go_simp; try (with_reducible rfl))
  try simp only [Act.put, List.setIfInBounds_toArray, List.set_cons_zero, List.set_cons_succ]
  refine HL.take_ (i := 7) (oi := { dst := some 23, op := .index 9 (.tmp 20) (.tmp 22), type := 5, pos := "more.go:12", after := #[{ on := 4, ground := .data }, { on := 6, ground := .data }], guard := none }) (v := .int .u8 (hexd (c % 16) : Nat)) rfl (by decide) (by kernel_rfl) (by kernel_rfl) (fun _ _ _ h => hfin.1 _ _ _ _ _ h) (Or.inl ⟨by rfl, ?_⟩) (by assumption) ?_
  · intro w hSw
    (try dsimp only at hSw)
    (go_simp; try simp only [hx1, hx2])
  try simp only [Act.put, List.setIfInBounds_toArray, List.set_cons_zero, List.set_cons_succ]
  obtain ⟨S0, hS0⟩ : ∃ S, S = bstr [hexd (c / 16), hexd (c % 16)] := ⟨_, rfl⟩
  obtain ⟨S1, hS1⟩ : ∃ S, S = bstr ([36, 34, 92, 120] ++ [hexd (c / 16), hexd (c % 16)]) := ⟨_, rfl⟩
  obtain ⟨SQ, hSQ⟩ : ∃ S, S = bstr (escQ c) := ⟨_, rfl⟩
  have k1 : ∀ W : World, (Op.stringOp .add ⟨#[36, 34, 92, 120]⟩ S0).run Try.prog W = .ok (.string S1) W := fun W => by
    rw [hS1, bstr_append, run_string_add_sum W _ _ (by rw [hS0, bstr_size]; show 4 + 2 ≤ _; decide), hS0]; rfl
  have k2 : ∀ W : World, (Op.stringOp .add S1 ⟨#[34]⟩).run Try.prog W = .ok (.string SQ) W := fun W => by
    rw [hSQ, show escQ c = ([36, 34, 92, 120] ++ [hexd (c / 16), hexd (c % 16)]) ++ [34] from rfl, bstr_append, run_string_add_sum W _ _ (by rw [hS1, bstr_size]; show 6 + 1 ≤ _; decide), hS1]; rfl
  exact escF0 SQ S1 S0 _ (by kernel_rfl) _ rfl _ hHeld hml hc hSQ conv_laid k2 k1 hS0 hfin
end
end Go.Proofs.Ytjebanfmnfofnaa

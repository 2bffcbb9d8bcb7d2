/-
  A REGION THAT DRAWS ITS ORDER AND STORES BEFORE ITS TAIL: what the loads read holds until its first store (operation m) is carried out. No statement of its own.
-/
import Derived.Test.YtjgijbaboekghaaReg
set_option linter.unusedSimpArgs false
set_option linter.unusedVariables false
namespace Go
theorem getD_set_le {listed : Array Bool} {i m : Nat} (h : (listed.setIfInBounds i true).getD m false = false) : listed.getD m false = false := by
  by_cases him : i = m
  · subst him
    rcases Nat.lt_or_ge i listed.size with h' | h'
    · simp [h'] at h
    · simp [Array.getElem?_eq_none h']
  · rwa [getD_set_ne false him] at h
section
variable {P : Program} {ops : Array Oper} {Q : Exit → Act → World → Prop} {md : Region.Mode} {C : World → Prop} {n m : Nat} {L : Array Bool → Act → World → Prop}
def wpHM (P : Program) (md : Region.Mode) (ops : Array Oper) (Q : Exit → Act → World → Prop) (C : World → Prop) (n m : Nat) (L : Array Bool → Act → World → Prop) : Nat → Array Bool → Act → World → Prop
  | 0, listed, a, w => L listed a w
  | f + 1, listed, a, w => Region.ready md ops listed ≠ [] ∧ ∀ i ∈ Region.ready md ops listed, i < n ∧ wpOp P ops Q i (fun a' w' => ((listed.setIfInBounds i true).getD m false = false → C w') ∧ wpHM P md ops Q C n m L f (listed.setIfInBounds i true) a' w') a w
theorem wpAny_of_HM {g : Nat} (hL : ∀ listed a w, L listed a w → wpAny P md ops Q g listed a w) :
    ∀ (f : Nat) (listed : Array Bool) (a : Act) (w : World), wpHM P md ops Q C n m L f listed a w → wpAny P md ops Q (f + g) listed a w
  | 0, listed, a, w, h => by rw [Nat.zero_add]; exact hL _ _ _ h
  | f + 1, listed, a, w, h => by
    rw [show f + 1 + g = (f + g) + 1 by omega]
    exact ⟨fun h0 => absurd h0 h.1, fun i hi => wpOp_mono (fun a' w' h' => wpAny_of_HM hL f _ a' w' h'.2) (h.2 i hi).2⟩
theorem wpHM_first {i : Nat} {oi : Oper} {v : Value} {T : World → Prop} (hi : ops[i]? = some oi) (him : i ≠ m) (hsel : ∀ (j : Nat) (o : Oper) cs b, ops[j]? = some o → o.op ≠ .select cs b)
    (hQ : ∀ c a w, Q (.panic c) (a.put oi.dst v) w → Q (.panic c) a w) (hs : Region.sinkB md ops n = true) (hc : Region.chainB md ops n = true) (hn : n < ops.size) (hin : i < n)
    (hdone : ∀ listed a w, L listed a w → ∀ j ∈ Region.ready md ops listed, n ≤ j)
    (hT : ∀ (listed : Array Bool) (w : World), HeadInv md ops n listed → listed.getD i true = false → (listed.getD m false = false → C w) → T w) :
    ∀ (f : Nat) (listed : Array Bool) (a : Act) (w : World), HeadInv md ops n listed →
      (∀ j oj, ops[j]? = some oj → j ≠ i → listed.getD j true = false → (∀ e ∈ oj.after, Region.binds md e = true → e.on ≠ i) → oi.apart ops oj = true) →
      i ∈ Region.ready md ops listed → YieldsIf P ops T oi v a → (listed.getD m false = false → C w) →
      wpHM P md ops Q C n m L f (listed.setIfInBounds i true) (a.put oi.dst v) w → wpHM P md ops Q C n m L (f + 1) listed a w := by
  intro f
  induction f with
  | zero =>
    intro listed a w inv _ hr hy hS H
    refine ⟨fun h => (by rw [h] at hr; cases hr), fun j hj => ?_⟩
    have hun := (mem_ready.1 hr).1
    have hjn : j < n := by
      rcases Nat.lt_or_ge j n with h | h
      · exact h
      · exact absurd hj (tail_waits hs hc hn inv _ i rfl hin hun j h)
    refine ⟨hjn, ?_⟩
    by_cases hji : j = i
    · subst hji; exact hy.wpOp hi (hT listed w inv hun hS) ⟨fun h => hS (getD_set_le h), H⟩
    · have := hdone _ _ _ H j (ready_mono hj hji)
      omega
  | succ f ih =>
    intro listed a w inv hfree hr hy hS H
    have hun := (mem_ready.1 hr).1
    refine ⟨fun h => (by rw [h] at hr; cases hr), fun j hj => ?_⟩
    have hjn : j < n := by
      rcases Nat.lt_or_ge j n with h | h
      · exact h
      · exact absurd hj (tail_waits hs hc hn inv _ i rfl hin hun j h)
    refine ⟨hjn, ?_⟩
    by_cases hji : j = i
    · subst hji; exact hy.wpOp hi (hT listed w inv hun hS) ⟨fun h => hS (getD_set_le h), H⟩
    · have h1 := (H.2 j (ready_mono hj hji)).2
      obtain ⟨hjun, oj, hoj, hall⟩ := mem_ready.1 hj
      have hnot : ∀ e ∈ oj.after, Region.binds md e = true → e.on ≠ i := fun e he hb heq => by
        have h1 := hall e he hb
        rw [heq, getD_both hun] at h1
        cases h1
      have h2 := wpOp_putIf hoj (hfree j oj hoj hji hjun hnot) (fun cs b => hsel i oi cs b hi) (fun cs b => hsel j oj cs b hoj) hQ hy h1
      have hfree' : ∀ k ok, ops[k]? = some ok → k ≠ i → (listed.setIfInBounds j true).getD k true = false →
          (∀ e ∈ ok.after, Region.binds md e = true → e.on ≠ i) → oi.apart ops ok = true := fun k ok hk hki hun hno => by
        refine hfree k ok hk hki ?_ hno
        by_cases hjk : j = k
        · subst hjk; exact hjun
        · rw [getD_set_ne true hjk] at hun; exact hun
      refine wpOp_mono (fun a' w' h3 => ?_) h2
      have hC : (listed.setIfInBounds j true).getD m false = false → C w' := fun h => h3.2.1 (by
        rw [Array.setIfInBounds_comm _ _ (Ne.symm hji), getD_set_ne false him]
        exact h)
      refine ⟨hC, ih (listed.setIfInBounds j true) a' w' (inv.set hj hjn) hfree' (ready_mono hr (Ne.symm hji)) h3.1 hC ?_⟩
      rw [Array.setIfInBounds_comm _ _ hji]
      exact h3.2.2
/-- A walk's goal: the head's state is in order. -/
def HM (P : Program) (md : Region.Mode) (l : List Oper) (Q : Exit → Act → World → Prop) (C : World → Prop) (n m f : Nat) (listed : Array Bool) (a : Act) (w : World) : Prop :=
  RegB md l.toArray n → HeadInv md l.toArray n listed → wpHM P md l.toArray Q C n m (TailL P md l Q n) f listed a w
/-- m awaits i. -/
def awaitsB (md : Region.Mode) (ops : Array Oper) (m i : Nat) : Bool := match ops[m]? with
  | some om => om.after.any (fun e => Region.binds md e && e.on == i)
  | none => false
theorem awaitsB_spec {md : Region.Mode} {ops : Array Oper} {m i n : Nat} (h : awaitsB md ops m i = true) {listed : Array Bool} (inv : HeadInv md ops n listed) (hun : listed.getD i true = false) : listed.getD m false = false := by
  unfold awaitsB at h
  cases hm : ops[m]? with
  | none => rw [hm] at h; cases h
  | some om =>
    rw [hm] at h
    obtain ⟨e, he, hb⟩ := Array.any_eq_true'.1 h
    simp only [Bool.and_eq_true, beq_iff_eq] at hb
    cases hl : listed.getD m false with
    | false => rfl
    | true =>
      have := inv.closed m om hm hl e he hb.1
      rw [hb.2, getD_both hun] at this
      cases this
theorem HM.take_ {l : List Oper} {i : Nat} {oi : Oper} {v : Value} {f : Nat} {listed : Array Bool} {a : Act} {w : World} (hi : l.toArray[i]? = some oi) (hin : i < n) (him : i ≠ m)
    (hf : Region.free md l.toArray listed i = true) (hr : (Region.ready md l.toArray listed).contains i = true)
    (hQ : ∀ c a w, Q (.panic c) (a.put oi.dst v) w → Q (.panic c) a w) (hS : C w ∨ listed.getD m false = true) (hy : YieldsIf P l.toArray (fun _ => True) oi v a)
    (h : HM P md l Q C n m f (listed.setIfInBounds i true) (a.put oi.dst v) w) : HM P md l Q C n m (f + 1) listed a w := fun B inv => by
  have hr' : i ∈ Region.ready md l.toArray listed := by simpa using hr
  exact wpHM_first hi him (Region.noSelect_spec B.sel) hQ B.sink B.chain B.lt hin (fun _ _ _ hL => seqB_ready hL.1) (fun _ _ _ _ _ => trivial) f listed a w inv (Region.free_spec hi hf) hr' hy
    (fun e => hS.elim id (fun e2 => by rw [e] at e2; cases e2)) (h B (inv.set hr' hin))
/-- A load that comes before m. -/
theorem HM.load_ {l : List Oper} {i : Nat} {oi : Oper} {v : Value} {f : Nat} {listed : Array Bool} {a : Act} {w : World} (hi : l.toArray[i]? = some oi) (hin : i < n) (him : i ≠ m)
    (hf : Region.free md l.toArray listed i = true) (hr : (Region.ready md l.toArray listed).contains i = true) (haw : awaitsB md l.toArray m i = true)
    (hQ : ∀ c a w, Q (.panic c) (a.put oi.dst v) w → Q (.panic c) a w) (hS : C w ∨ listed.getD m false = true) (hy : YieldsIf P l.toArray C oi v a)
    (h : HM P md l Q C n m f (listed.setIfInBounds i true) (a.put oi.dst v) w) : HM P md l Q C n m (f + 1) listed a w := fun B inv => by
  have hr' : i ∈ Region.ready md l.toArray listed := by simpa using hr
  exact wpHM_first hi him (Region.noSelect_spec B.sel) hQ B.sink B.chain B.lt hin (fun _ _ _ hL => seqB_ready hL.1) (fun _ _ inv hun hC => hC (awaitsB_spec haw inv hun)) f listed a w inv (Region.free_spec hi hf) hr' hy
    (fun e => hS.elim id (fun e2 => by rw [e] at e2; cases e2)) (h B (inv.set hr' hin))
/-- The one operation that may come up is carried out. -/
theorem HM.step_ {l : List Oper} {i : Nat} {o : Oper} {f : Nat} {listed : Array Bool} {a : Act} {w : World} (hi : l.toArray[i]? = some o) (hin : i < n) (hr : Region.ready md l.toArray listed = [i])
    (h : ∀ K' : Act → World → Prop, Shut (∀ a w, (C w ∨ (listed.setIfInBounds i true).getD m false = true) → (HM P md l Q C n m f (listed.setIfInBounds i true) a w) → K' a w) → if Region.wanted o (yielded l.toArray a.tmps) = true then Oper.wp P o a w K' Q else K' (a.put o.dst undef) w) :
    HM P md l Q C n m (f + 1) listed a w := fun B inv => by
  have hr' : i ∈ Region.ready md l.toArray listed := by rw [hr]; simp
  refine ⟨by rw [hr]; simp, fun j hj => ?_⟩
  rw [hr] at hj
  obtain rfl : j = i := by simpa using hj
  exact ⟨hin, wpOp_step hi fun K' hK => h K' (fun a w hS hW => hK a w ⟨fun e => hS.elim id (fun e2 => by rw [e] at e2; cases e2), hW B (inv.set hr' hin)⟩)⟩
theorem HM.done_ {l : List Oper} {listed : Array Bool} {a : Act} {w : World} (hB : Region.seqB md l.toArray (l.toArray.size - n) n listed = true) (h : wpList P l.toArray Q (l.drop n) a w) : HM P md l Q C n m 0 listed a w :=
  fun _ _ => ⟨hB, h⟩
theorem wp_region_HM {id : Nat} {l : List Oper} {a : Act} {w : World} (n m : Nat) (hm : P.follows .mixedOrders = true) (hsel : Region.noSelect l.toArray = true) (hs : Region.sinkB .any l.toArray n = true) (hc : Region.chainB .any l.toArray n = true) (hn : n < l.toArray.size)
    (h : HM P .any l Q C n m n (Array.replicate l.toArray.size false) a w.drew) : (Code.region id l.toArray true).wp P Q a w := by
  have inv0 : HeadInv .any l.toArray n (Array.replicate l.toArray.size false) :=
    ⟨by simp, fun j oj _ hl => (by rw [getD_replicate_false] at hl; cases hl), fun t _ ht => getD_in (by simpa using ht) (getD_replicate_false _ _)⟩
  refine wp_region_any hm ?_
  have hdl : (l.drop n).length = l.toArray.size - n := by simp
  have := wpAny_of_HM (Q := Q) (g := l.toArray.size - n) (fun listed a' w' hL => by
    have := wpAny_of_seq (md := .any) (Q' := Q) (l.drop n) n listed a' w' (fun j => by simp [List.getElem?_drop]) (by rw [hdl]; exact hL.1) hL.2
    rwa [hdl] at this) _ _ _ _ (h ⟨hsel, hs, hc, hn⟩ inv0)
  rw [show n + (l.toArray.size - n) = l.toArray.size by omega] at this
  exact this
end
end Go

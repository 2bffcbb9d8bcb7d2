/-
  A REGION THAT DRAWS ITS ORDER, WALKED IN THE ORDER OF ITS TEXT: quiet operations (they yield one value in every world that meets S), active ones (calls, new blocks, appends: each waits for the one before), and a tail that is forced. No statement of its own.
-/
import Derived.Deep.RegionHeld3
import Derived.StillTail
set_option linter.unusedSimpArgs false
set_option linter.unusedVariables false
namespace Go
theorem wpAnyH_mono {P : Program} {md : Region.Mode} {ops : Array Oper} {Q : Exit → Act → World → Prop} {S S' : World → Prop} (h : ∀ w, S' w → S w) :
    ∀ (fuel : Nat) (listed : Array Bool) (a : Act) (w : World), wpAnyH P md ops Q S' fuel listed a w → wpAnyH P md ops Q S fuel listed a w
  | 0, _, _, _, k => k
  | fuel + 1, _, _, _, k => ⟨k.1, fun i hi => wpOp_mono (fun a' w' h3 => ⟨h _ h3.1, wpAnyH_mono h fuel _ a' w' h3.2⟩) (k.2 i hi)⟩
section
variable {P : Program} {ops : Array Oper} {Q : Exit → Act → World → Prop} {md : Region.Mode} {S : World → Prop} {n : Nat} {L : Array Bool → Act → World → Prop}
/-- The head's operations in whatever order; behind them L. -/
def wpHL (P : Program) (md : Region.Mode) (ops : Array Oper) (Q : Exit → Act → World → Prop) (S : World → Prop) (n : Nat) (L : Array Bool → Act → World → Prop) : Nat → Array Bool → Act → World → Prop
  | 0, listed, a, w => L listed a w
  | f + 1, listed, a, w => Region.ready md ops listed ≠ [] ∧ ∀ i ∈ Region.ready md ops listed, i < n ∧ wpOp P ops Q i (fun a' w' => S w' ∧ wpHL P md ops Q S n L f (listed.setIfInBounds i true) a' w') a w
theorem wpHL_mono {S' : World → Prop} (h : ∀ w, S' w → S w) : ∀ (f : Nat) (listed : Array Bool) (a : Act) (w : World), wpHL P md ops Q S' n L f listed a w → wpHL P md ops Q S n L f listed a w
  | 0, _, _, _, k => k
  | f + 1, _, _, _, k => ⟨k.1, fun i hi => ⟨(k.2 i hi).1, wpOp_mono (fun a' w' h3 => ⟨h _ h3.1, wpHL_mono h f _ a' w' h3.2⟩) (k.2 i hi).2⟩⟩
theorem wpAny_of_HL {g : Nat} (hL : ∀ listed a w, L listed a w → wpAny P md ops Q g listed a w) :
    ∀ (f : Nat) (listed : Array Bool) (a : Act) (w : World), wpHL P md ops Q S n L f listed a w → wpAny P md ops Q (f + g) listed a w
  | 0, listed, a, w, h => by rw [Nat.zero_add]; exact hL _ _ _ h
  | f + 1, listed, a, w, h => by
    rw [show f + 1 + g = (f + g) + 1 by omega]
    exact ⟨fun h0 => absurd h0 h.1, fun i hi => wpOp_mono (fun a' w' h' => wpAny_of_HL hL f _ a' w' h'.2) (h.2 i hi).2⟩
theorem wpHL_first {i : Nat} {oi : Oper} {v : Value} (hi : ops[i]? = some oi) (hsel : ∀ (j : Nat) (o : Oper) cs b, ops[j]? = some o → o.op ≠ .select cs b)
    (hQ : ∀ c a w, Q (.panic c) (a.put oi.dst v) w → Q (.panic c) a w) (hs : Region.sinkB md ops n = true) (hc : Region.chainB md ops n = true) (hn : n < ops.size) (hin : i < n)
    (hdone : ∀ listed a w, L listed a w → ∀ j ∈ Region.ready md ops listed, n ≤ j) :
    ∀ (f : Nat) (listed : Array Bool) (a : Act) (w : World), HeadInv md ops n listed →
      (∀ j oj, ops[j]? = some oj → j ≠ i → listed.getD j true = false → (∀ e ∈ oj.after, Region.binds md e = true → e.on ≠ i) → oi.apart ops oj = true) →
      i ∈ Region.ready md ops listed → YieldsIf P ops S oi v a → S w →
      wpHL P md ops Q S n L f (listed.setIfInBounds i true) (a.put oi.dst v) w → wpHL P md ops Q S n L (f + 1) listed a w := by
  intro f
  induction f with
  | zero =>
    intro listed a w inv _ hr hy hS H
    refine ⟨fun h => (by rw [h] at hr; cases hr), fun j hj => ?_⟩
    have hun := (mem_ready.1 hr).1
    have hjn : j < n := by
      rcases Nat.lt_or_ge j n with h | h
      · exact h
      · exact absurd hj (tail_waits hs hc hn inv _ i rfl hin hun j h)
    refine ⟨hjn, ?_⟩
    by_cases hji : j = i
    · subst hji; exact hy.wpOp hi hS ⟨hS, H⟩
    · have := hdone _ _ _ H j (ready_mono hj hji)
      omega
  | succ f ih =>
    intro listed a w inv hfree hr hy hS H
    have hun := (mem_ready.1 hr).1
    refine ⟨fun h => (by rw [h] at hr; cases hr), fun j hj => ?_⟩
    have hjn : j < n := by
      rcases Nat.lt_or_ge j n with h | h
      · exact h
      · exact absurd hj (tail_waits hs hc hn inv _ i rfl hin hun j h)
    refine ⟨hjn, ?_⟩
    by_cases hji : j = i
    · subst hji; exact hy.wpOp hi hS ⟨hS, H⟩
    · have h1 := (H.2 j (ready_mono hj hji)).2
      obtain ⟨hjun, oj, hoj, hall⟩ := mem_ready.1 hj
      have hnot : ∀ e ∈ oj.after, Region.binds md e = true → e.on ≠ i := fun e he hb heq => by
        have h1 := hall e he hb
        rw [heq, getD_both hun] at h1
        cases h1
      have h2 := wpOp_putIf hoj (hfree j oj hoj hji hjun hnot) (fun cs b => hsel i oi cs b hi) (fun cs b => hsel j oj cs b hoj) hQ hy h1
      have hfree' : ∀ k ok, ops[k]? = some ok → k ≠ i → (listed.setIfInBounds j true).getD k true = false →
          (∀ e ∈ ok.after, Region.binds md e = true → e.on ≠ i) → oi.apart ops ok = true := fun k ok hk hki hun hno => by
        refine hfree k ok hk hki ?_ hno
        by_cases hjk : j = k
        · subst hjk; exact hjun
        · rw [getD_set_ne true hjk] at hun; exact hun
      refine wpOp_mono (fun a' w' h3 => ⟨h3.2.1, ih (listed.setIfInBounds j true) a' w' (inv.set hj hjn) hfree' (ready_mono hr (Ne.symm hji)) h3.1 h3.2.1 ?_⟩) h2
      rw [Array.setIfInBounds_comm _ _ hji]
      exact h3.2.2
/-- The tail behind the head: forced, walked as a list. -/
def TailL (P : Program) (md : Region.Mode) (l : List Oper) (Q : Exit → Act → World → Prop) (n : Nat) (listed : Array Bool) (a : Act) (w : World) : Prop :=
  Region.seqB md l.toArray (l.toArray.size - n) n listed = true ∧ wpList P l.toArray Q (l.drop n) a w
/-- What the kernel is asked of a region once. -/
structure RegB (md : Region.Mode) (ops : Array Oper) (n : Nat) : Prop where
  sel : Region.noSelect ops = true
  sink : Region.sinkB md ops n = true
  chain : Region.chainB md ops n = true
  lt : n < ops.size
/-- A walk's goal: the head's state is in order. -/
def HL (P : Program) (md : Region.Mode) (l : List Oper) (Q : Exit → Act → World → Prop) (S : World → Prop) (n f : Nat) (listed : Array Bool) (a : Act) (w : World) : Prop :=
  RegB md l.toArray n → HeadInv md l.toArray n listed → wpHL P md l.toArray Q S n (TailL P md l Q n) f listed a w
theorem HL.take_ {l : List Oper} {i : Nat} {oi : Oper} {v : Value} {f : Nat} {listed : Array Bool} {a : Act} {w : World} (hi : l.toArray[i]? = some oi) (hin : i < n)
    (hf : Region.free md l.toArray listed i = true) (hr : (Region.ready md l.toArray listed).contains i = true)
    (hQ : ∀ c a w, Q (.panic c) (a.put oi.dst v) w → Q (.panic c) a w) (hy : YieldsIf P l.toArray S oi v a) (hS : S w)
    (h : HL P md l Q S n f (listed.setIfInBounds i true) (a.put oi.dst v) w) : HL P md l Q S n (f + 1) listed a w := fun B inv => by
  have hr' : i ∈ Region.ready md l.toArray listed := by simpa using hr
  exact wpHL_first hi (Region.noSelect_spec B.sel) hQ B.sink B.chain B.lt hin (fun _ _ _ hL => seqB_ready hL.1) f listed a w inv (Region.free_spec hi hf) hr' hy hS (h B (inv.set hr' hin))
/-- The one operation that may come up is carried out. -/
theorem HL.step_ {l : List Oper} {i : Nat} {o : Oper} {f : Nat} {listed : Array Bool} {a : Act} {w : World} (hi : l.toArray[i]? = some o) (hin : i < n) (hr : Region.ready md l.toArray listed = [i])
    (h : ∀ K' : Act → World → Prop, Shut (∀ a w, S w → (S w → HL P md l Q S n f (listed.setIfInBounds i true) a w) → K' a w) → if Region.wanted o (yielded l.toArray a.tmps) = true then Oper.wp P o a w K' Q else K' (a.put o.dst undef) w) :
    HL P md l Q S n (f + 1) listed a w := fun B inv => by
  have hr' : i ∈ Region.ready md l.toArray listed := by rw [hr]; simp
  refine ⟨by rw [hr]; simp, fun j hj => ?_⟩
  rw [hr] at hj
  obtain rfl : j = i := by simpa using hj
  exact ⟨hin, wpOp_step hi fun K' hK => h K' (fun a w hS hW => hK a w ⟨hS, hW hS B (inv.set hr' hin)⟩)⟩
/-- Two operations may come up: each of them. -/
theorem HL.step2_ {l : List Oper} {i j : Nat} {o o2 : Oper} {f : Nat} {listed : Array Bool} {a : Act} {w : World} (hi : l.toArray[i]? = some o) (hj : l.toArray[j]? = some o2) (hin : i < n) (hjn : j < n) (hr : Region.ready md l.toArray listed = [i, j])
    (h : ∀ K' : Act → World → Prop, Shut (∀ a w, S w → (S w → HL P md l Q S n f (listed.setIfInBounds i true) a w) → K' a w) → if Region.wanted o (yielded l.toArray a.tmps) = true then Oper.wp P o a w K' Q else K' (a.put o.dst undef) w)
    (h2 : ∀ K' : Act → World → Prop, Shut (∀ a w, S w → (S w → HL P md l Q S n f (listed.setIfInBounds j true) a w) → K' a w) → if Region.wanted o2 (yielded l.toArray a.tmps) = true then Oper.wp P o2 a w K' Q else K' (a.put o2.dst undef) w) :
    HL P md l Q S n (f + 1) listed a w := fun B inv => by
  have hri : i ∈ Region.ready md l.toArray listed := by rw [hr]; simp
  have hrj : j ∈ Region.ready md l.toArray listed := by rw [hr]; simp
  refine ⟨by rw [hr]; simp, fun k hk => ?_⟩
  rw [hr] at hk
  rcases List.mem_cons.1 hk with rfl | hk
  · exact ⟨hin, wpOp_step hi fun K' hK => h K' (fun a w hS hW => hK a w ⟨hS, hW hS B (inv.set hri hin)⟩)⟩
  · obtain rfl : k = j := by simpa using hk
    exact ⟨hjn, wpOp_step hj fun K' hK => h2 K' (fun a w hS hW => hK a w ⟨hS, hW hS B (inv.set hrj hjn)⟩)⟩
theorem HL.mono_ {l : List Oper} {S' : World → Prop} {f : Nat} {listed : Array Bool} {a : Act} {w : World} (h : ∀ w, S' w → S w) (k : HL P md l Q S' n f listed a w) : HL P md l Q S n f listed a w :=
  fun B inv => wpHL_mono h f listed a w (k B inv)
theorem HL.done_ {l : List Oper} {listed : Array Bool} {a : Act} {w : World} (hB : Region.seqB md l.toArray (l.toArray.size - n) n listed = true) (h : wpList P l.toArray Q (l.drop n) a w) : HL P md l Q S n 0 listed a w :=
  fun _ _ => ⟨hB, h⟩
theorem wp_region_HL {id : Nat} {l : List Oper} {a : Act} {w : World} (n : Nat) (hm : P.follows .mixedOrders = true) (hsel : Region.noSelect l.toArray = true) (hs : Region.sinkB .any l.toArray n = true) (hc : Region.chainB .any l.toArray n = true) (hn : n < l.toArray.size)
    (hS : S w.drew) (h : S w.drew → HL P .any l Q S n n (Array.replicate l.toArray.size false) a w.drew) : (Code.region id l.toArray true).wp P Q a w := by
  have inv0 : HeadInv .any l.toArray n (Array.replicate l.toArray.size false) :=
    ⟨by simp, fun j oj _ hl => (by rw [getD_replicate_false] at hl; cases hl), fun t _ ht => getD_in (by simpa using ht) (getD_replicate_false _ _)⟩
  refine wp_region_any hm ?_
  have hdl : (l.drop n).length = l.toArray.size - n := by simp
  have := wpAny_of_HL (Q := Q) (g := l.toArray.size - n) (fun listed a' w' hL => by
    have := wpAny_of_seq (md := .any) (Q' := Q) (l.drop n) n listed a' w' (fun j => by simp [List.getElem?_drop]) (by rw [hdl]; exact hL.1) hL.2
    rwa [hdl] at this) _ _ _ _ (h hS ⟨hsel, hs, hc, hn⟩ inv0)
  rw [show n + (l.toArray.size - n) = l.toArray.size by omega] at this
  exact this
end
end Go

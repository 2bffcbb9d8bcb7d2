/-
  A REGION THAT DRAWS ITS ORDER, two operations of which may come up. No statement of its own.
-/
import Derived.Test.YtjgijbaboekghaaRegM
set_option linter.unusedSimpArgs false
set_option linter.unusedVariables false
namespace Go
section
variable {P : Program} {Q : Exit → Act → World → Prop} {md : Region.Mode} {C : World → Prop} {n m : Nat}
/-- Two operations may come up: each of them. -/
theorem HM.step2_ {l : List Oper} {i j : Nat} {o o2 : Oper} {f : Nat} {listed : Array Bool} {a : Act} {w : World} (hi : l.toArray[i]? = some o) (hj : l.toArray[j]? = some o2) (hin : i < n) (hjn : j < n) (hr : Region.ready md l.toArray listed = [i, j])
    (h : ∀ K' : Act → World → Prop, Shut (∀ a w, (C w ∨ (listed.setIfInBounds i true).getD m false = true) → (HM P md l Q C n m f (listed.setIfInBounds i true) a w) → K' a w) → if Region.wanted o (yielded l.toArray a.tmps) = true then Oper.wp P o a w K' Q else K' (a.put o.dst undef) w)
    (h2 : ∀ K' : Act → World → Prop, Shut (∀ a w, (C w ∨ (listed.setIfInBounds j true).getD m false = true) → (HM P md l Q C n m f (listed.setIfInBounds j true) a w) → K' a w) → if Region.wanted o2 (yielded l.toArray a.tmps) = true then Oper.wp P o2 a w K' Q else K' (a.put o2.dst undef) w) :
    HM P md l Q C n m (f + 1) listed a w := fun B inv => by
  have hri : i ∈ Region.ready md l.toArray listed := by rw [hr]; simp
  have hrj : j ∈ Region.ready md l.toArray listed := by rw [hr]; simp
  refine ⟨by rw [hr]; simp, fun k hk => ?_⟩
  rw [hr] at hk
  rcases List.mem_cons.1 hk with rfl | hk
  · exact ⟨hin, wpOp_step hi fun K' hK => h K' (fun a w hS hW => hK a w ⟨fun e => hS.elim id (fun e2 => by rw [e] at e2; cases e2), hW B (inv.set hri hin)⟩)⟩
  · obtain rfl : k = j := by simpa using hk
    exact ⟨hjn, wpOp_step hj fun K' hK => h2 K' (fun a w hS hW => hK a w ⟨fun e => hS.elim id (fun e2 => by rw [e] at e2; cases e2), hW B (inv.set hrj hjn)⟩)⟩
end
end Go

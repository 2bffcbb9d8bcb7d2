/-
  A REGION THAT DRAWS ITS ORDER: the condition on the world may be made stronger on the way. No statement of its own.
-/
import Derived.Deep.RegionHeld3
namespace Go
theorem wpAnyH_mono {P : Program} {md : Region.Mode} {ops : Array Oper} {Q : Exit → Act → World → Prop} {S S' : World → Prop} (h : ∀ w, S' w → S w) :
    ∀ (fuel : Nat) (listed : Array Bool) (a : Act) (w : World), wpAnyH P md ops Q S' fuel listed a w → wpAnyH P md ops Q S fuel listed a w
  | 0, _, _, _, k => k
  | fuel + 1, _, _, _, k => ⟨k.1, fun i hi => wpOp_mono (fun a' w' h3 => ⟨h _ h3.1, wpAnyH_mono h fuel _ a' w' h3.2⟩) (k.2 i hi)⟩
end Go

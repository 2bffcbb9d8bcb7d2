/-
  NARROWER THAN 'FOR EVERY INPUT', by the rows' own cells (each row's printed sentence says how): ModuleFlat: loops.
  DERIVED. THE GIVEN ROWS OF THIS SEAT. 6 by the template 'for every input the law returns true; each argument reads behind the call as it read before'; 0 by the template 'total and deterministic' (their statements: YtjgijbaboekghaaTotals.lean).
  GIVEN WITH THE SEED: the statements are not yours to turn. If you find one false, say at which input.
  Laid BY PROGRAM, IN A SANDBOX (cutbox-rows.mjs): the forced cells as the released guide's own fill.sh prints them over the translation 298af10415aaf1e8… (all of the seat's roots in one cut). By AI agents, Wed Nov 11 2026. No macro, syntax, notation, axiom, sorry.
-/
import Derived.Test.YtjgijbaboekghaaChecked
import GoSem.Claim
import GoSem.ClaimJoined
import GoSem.ClaimMapViews
import Derived.JoinedTies
import Derived.KernelRfl
namespace Go.Proofs.Ytjgijbaboekghaa
/- THE CELL 'sum', in the pinned program and in every row, IS THE sha256 OF THE DUMP (.gsa) THAT YtjgijbaboekghaaProg.lean LOADS. Nothing in Lean hashes anything: it is a label: what it is worth is what the hold of that sum in a sandbox is worth. -/
noncomputable def Try.pinned : Pinned := { name := "ytjgijbaboekghaa", sum := "298af10415aaf1e8526e7a3522a54bc8b630b268ae2a840755be1e27fa07a279", checked := Try.checked }
namespace Rows
def none {H : Type} : Left H := { results := [], args := [] }

/-- 'weathervanelaw05.ModuleFlat': WHATEVER THE INPUT: true; the input reads as it did. -/
def moduleFlatSpec : ChangeSpec := { name := "moduleFlat", fn := fun _ => fun
  | [d1, d2] => { results := [.lit (.bool true)], args := [d1, d2] }
  | _ => none }
def moduleFlatRow : OpenClaim := { program := "ytjgijbaboekghaa", sum := "298af10415aaf1e8526e7a3522a54bc8b630b268ae2a840755be1e27fa07a279", func := "weathervane/weathervanelaw05.ModuleFlat", spec := "moduleFlat", recurses := true, loops := true, apart := false }
def ModuleFlatSaid : Prop := moduleFlatRow.holds Try.pinned (OpenSpec.ofChange moduleFlatSpec)

/-- ITS FALSE NEIGHBOUR: 'it returns false'. Refute it at one input. -/
def moduleFlatWrong : ChangeSpec := { name := "moduleFlat", fn := fun _ => fun
  | [d1, d2] => { results := [.lit (.bool false)], args := [d1, d2] }
  | _ => none }
def ModuleFlatWrongFalsely : Prop := moduleFlatRow.holds Try.pinned (OpenSpec.ofChange moduleFlatWrong)

/-- 'weathervanelaw05.ModuleCopies': WHATEVER THE INPUT: true; the input reads as it did. -/
def moduleCopiesSpec : ChangeSpec := { name := "moduleCopies", fn := fun _ => fun
  | [d1, d2] => { results := [.lit (.bool true)], args := [d1, d2] }
  | _ => none }
def moduleCopiesRow : OpenClaim := { program := "ytjgijbaboekghaa", sum := "298af10415aaf1e8526e7a3522a54bc8b630b268ae2a840755be1e27fa07a279", func := "weathervane/weathervanelaw05.ModuleCopies", spec := "moduleCopies", recurses := true, apart := false }
def ModuleCopiesSaid : Prop := moduleCopiesRow.holds Try.pinned (OpenSpec.ofChange moduleCopiesSpec)

/-- ITS FALSE NEIGHBOUR: 'it returns false'. Refute it at one input. -/
def moduleCopiesWrong : ChangeSpec := { name := "moduleCopies", fn := fun _ => fun
  | [d1, d2] => { results := [.lit (.bool false)], args := [d1, d2] }
  | _ => none }
def ModuleCopiesWrongFalsely : Prop := moduleCopiesRow.holds Try.pinned (OpenSpec.ofChange moduleCopiesWrong)

/-- 'weathervanelaw05.ModuleEqual': WHATEVER THE INPUT: true; the input reads as it did. -/
def moduleEqualSpec : ChangeSpec := { name := "moduleEqual", fn := fun _ => fun
  | [d1, d2, d3] => { results := [.lit (.bool true)], args := [d1, d2, d3] }
  | _ => none }
def moduleEqualRow : OpenClaim := { program := "ytjgijbaboekghaa", sum := "298af10415aaf1e8526e7a3522a54bc8b630b268ae2a840755be1e27fa07a279", func := "weathervane/weathervanelaw05.ModuleEqual", spec := "moduleEqual", unfollowed := true, recurses := true, apart := false }
def ModuleEqualSaid : Prop := moduleEqualRow.holds Try.pinned (OpenSpec.ofChange moduleEqualSpec)

/-- ITS FALSE NEIGHBOUR: 'it returns false'. Refute it at one input. -/
def moduleEqualWrong : ChangeSpec := { name := "moduleEqual", fn := fun _ => fun
  | [d1, d2, d3] => { results := [.lit (.bool false)], args := [d1, d2, d3] }
  | _ => none }
def ModuleEqualWrongFalsely : Prop := moduleEqualRow.holds Try.pinned (OpenSpec.ofChange moduleEqualWrong)

/-- 'weathervanelaw21.CallsSites': WHATEVER THE INPUT: true; the input reads as it did. -/
def callsSitesSpec : ChangeSpec := { name := "callsSites", fn := fun _ => fun
  | [d] => { results := [.lit (.bool true)], args := [d] }
  | _ => none }
def callsSitesRow : OpenClaim := { program := "ytjgijbaboekghaa", sum := "298af10415aaf1e8526e7a3522a54bc8b630b268ae2a840755be1e27fa07a279", func := "weathervane/weathervanelaw21.CallsSites", spec := "callsSites", unfollowed := true, recurses := true, apart := false }
def CallsSitesSaid : Prop := callsSitesRow.holds Try.pinned (OpenSpec.ofChange callsSitesSpec)

/-- ITS FALSE NEIGHBOUR: 'it returns false'. Refute it at one input. -/
def callsSitesWrong : ChangeSpec := { name := "callsSites", fn := fun _ => fun
  | [d] => { results := [.lit (.bool false)], args := [d] }
  | _ => none }
def CallsSitesWrongFalsely : Prop := callsSitesRow.holds Try.pinned (OpenSpec.ofChange callsSitesWrong)

/-- 'weathervanelaw21.CallsEdges': WHATEVER THE INPUT: true; the input reads as it did. -/
def callsEdgesSpec : ChangeSpec := { name := "callsEdges", fn := fun _ => fun
  | [d1, d2, d3] => { results := [.lit (.bool true)], args := [d1, d2, d3] }
  | _ => none }
def callsEdgesRow : OpenClaim := { program := "ytjgijbaboekghaa", sum := "298af10415aaf1e8526e7a3522a54bc8b630b268ae2a840755be1e27fa07a279", func := "weathervane/weathervanelaw21.CallsEdges", spec := "callsEdges", unfollowed := true, recurses := true, apart := false }
def CallsEdgesSaid : Prop := callsEdgesRow.holds Try.pinned (OpenSpec.ofChange callsEdgesSpec)

/-- ITS FALSE NEIGHBOUR: 'it returns false'. Refute it at one input. -/
def callsEdgesWrong : ChangeSpec := { name := "callsEdges", fn := fun _ => fun
  | [d1, d2, d3] => { results := [.lit (.bool false)], args := [d1, d2, d3] }
  | _ => none }
def CallsEdgesWrongFalsely : Prop := callsEdgesRow.holds Try.pinned (OpenSpec.ofChange callsEdgesWrong)

/-- 'weathervanelaw21.CallsNames': WHATEVER THE INPUT: true; the input reads as it did. -/
def callsNamesSpec : ChangeSpec := { name := "callsNames", fn := fun _ => fun
  | [d] => { results := [.lit (.bool true)], args := [d] }
  | _ => none }
def callsNamesRow : OpenClaim := { program := "ytjgijbaboekghaa", sum := "298af10415aaf1e8526e7a3522a54bc8b630b268ae2a840755be1e27fa07a279", func := "weathervane/weathervanelaw21.CallsNames", spec := "callsNames", unfollowed := true, recurses := true, apart := false }
def CallsNamesSaid : Prop := callsNamesRow.holds Try.pinned (OpenSpec.ofChange callsNamesSpec)

/-- ITS FALSE NEIGHBOUR: 'it returns false'. Refute it at one input. -/
def callsNamesWrong : ChangeSpec := { name := "callsNames", fn := fun _ => fun
  | [d] => { results := [.lit (.bool false)], args := [d] }
  | _ => none }
def CallsNamesWrongFalsely : Prop := callsNamesRow.holds Try.pinned (OpenSpec.ofChange callsNamesWrong)

/- THE SECOND FORM. 'bulk': how many values and letters a reading holds, each counted each time it is reached (what is shared counts as often as it is met; a slice's spare places count too). A statement '..UptoSaid' is the law's where the arguments, and the package variables that the reading takes, are together of bulk at most 1048576: NARROWER than '..Said'. Prove '..Said' where nothing that the law and all that it calls make is longer than what came in: it says more and counts as full. Else prove '..UptoSaid'. A law counts once. -/
mutual
def uptoBulk {H : Type} : DataW H → Nat
  | .lit (.string bytes) => bytes.length + 1
  | .lit _ => 1
  | .nil => 1
  | .ptr d => uptoBulk d + 1
  | .slice elems spare => uptoBulkAll elems + uptoBulkAll spare + 1
  | .agg parts => uptoBulkAll parts + 1
  | .iface _ d => uptoBulk d + 1
  | .map entries => uptoBulkEntries entries + 1
  | .held _ => 1
def uptoBulkAll {H : Type} : List (DataW H) → Nat
  | [] => 0
  | d :: r => uptoBulk d + uptoBulkAll r
def uptoBulkEntries {H : Type} : List (Lit × DataW H) → Nat
  | [] => 0
  | x :: r => uptoBulkEntry x + uptoBulkEntries r
def uptoBulkEntry {H : Type} : Lit × DataW H → Nat
  | (.string bytes, d) => bytes.length + uptoBulk d + 1
  | (_, d) => uptoBulk d + 1
 end
def uptoSmall : (H : Type) → List (DataW H) → Bool := fun _ ds => decide (uptoBulkAll ds ≤ 1048576)
def OpenSpec.upto (s : _root_.Go.ChangeSpec) : _root_.Go.OpenSpec := { _root_.Go.OpenSpec.ofChange s with cond := some uptoSmall }

/-- 'weathervanelaw05.ModuleFlat', WHERE WHAT IT READS IS OF BULK AT MOST 1048576: true; the input reads as it did. -/
def moduleFlatUptoRow : OpenClaim := { program := "ytjgijbaboekghaa", sum := "298af10415aaf1e8526e7a3522a54bc8b630b268ae2a840755be1e27fa07a279", func := "weathervane/weathervanelaw05.ModuleFlat", spec := "moduleFlat", recurses := true, loops := true, apart := false, narrowed := true }
def ModuleFlatUptoSaid : Prop := moduleFlatUptoRow.holds Try.pinned (OpenSpec.upto moduleFlatSpec)

/-- 'weathervanelaw05.ModuleCopies', WHERE WHAT IT READS IS OF BULK AT MOST 1048576: true; the input reads as it did. -/
def moduleCopiesUptoRow : OpenClaim := { program := "ytjgijbaboekghaa", sum := "298af10415aaf1e8526e7a3522a54bc8b630b268ae2a840755be1e27fa07a279", func := "weathervane/weathervanelaw05.ModuleCopies", spec := "moduleCopies", recurses := true, apart := false, narrowed := true }
def ModuleCopiesUptoSaid : Prop := moduleCopiesUptoRow.holds Try.pinned (OpenSpec.upto moduleCopiesSpec)

/-- 'weathervanelaw05.ModuleEqual', WHERE WHAT IT READS IS OF BULK AT MOST 1048576: true; the input reads as it did. -/
def moduleEqualUptoRow : OpenClaim := { program := "ytjgijbaboekghaa", sum := "298af10415aaf1e8526e7a3522a54bc8b630b268ae2a840755be1e27fa07a279", func := "weathervane/weathervanelaw05.ModuleEqual", spec := "moduleEqual", unfollowed := true, recurses := true, apart := false, narrowed := true }
def ModuleEqualUptoSaid : Prop := moduleEqualUptoRow.holds Try.pinned (OpenSpec.upto moduleEqualSpec)

/-- 'weathervanelaw21.CallsSites', WHERE WHAT IT READS IS OF BULK AT MOST 1048576: true; the input reads as it did. -/
def callsSitesUptoRow : OpenClaim := { program := "ytjgijbaboekghaa", sum := "298af10415aaf1e8526e7a3522a54bc8b630b268ae2a840755be1e27fa07a279", func := "weathervane/weathervanelaw21.CallsSites", spec := "callsSites", unfollowed := true, recurses := true, apart := false, narrowed := true }
def CallsSitesUptoSaid : Prop := callsSitesUptoRow.holds Try.pinned (OpenSpec.upto callsSitesSpec)

/-- 'weathervanelaw21.CallsEdges', WHERE WHAT IT READS IS OF BULK AT MOST 1048576: true; the input reads as it did. -/
def callsEdgesUptoRow : OpenClaim := { program := "ytjgijbaboekghaa", sum := "298af10415aaf1e8526e7a3522a54bc8b630b268ae2a840755be1e27fa07a279", func := "weathervane/weathervanelaw21.CallsEdges", spec := "callsEdges", unfollowed := true, recurses := true, apart := false, narrowed := true }
def CallsEdgesUptoSaid : Prop := callsEdgesUptoRow.holds Try.pinned (OpenSpec.upto callsEdgesSpec)

/-- 'weathervanelaw21.CallsNames', WHERE WHAT IT READS IS OF BULK AT MOST 1048576: true; the input reads as it did. -/
def callsNamesUptoRow : OpenClaim := { program := "ytjgijbaboekghaa", sum := "298af10415aaf1e8526e7a3522a54bc8b630b268ae2a840755be1e27fa07a279", func := "weathervane/weathervanelaw21.CallsNames", spec := "callsNames", unfollowed := true, recurses := true, apart := false, narrowed := true }
def CallsNamesUptoSaid : Prop := callsNamesUptoRow.holds Try.pinned (OpenSpec.upto callsNamesSpec)

end Rows
end Go.Proofs.Ytjgijbaboekghaa

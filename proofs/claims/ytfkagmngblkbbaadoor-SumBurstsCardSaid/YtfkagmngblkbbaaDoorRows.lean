/-
  NARROWER THAN 'FOR EVERY INPUT', by the rows' own cells (each row's printed sentence says how): SumOf: laid · SumLines: laid · SumTails: laid · SumSeals: laid · SumBursts: laid · SumOnes: laid.
  DERIVED. THE GIVEN ROWS OF THIS SEAT. 6 by the template 'for every input the law returns true; each argument reads behind the call as it read before'; 0 by the template 'total and deterministic' (their statements: YtfkagmngblkbbaaDoorTotals.lean).
  GIVEN WITH THE SEED: the statements are not yours to turn. If you find one false, say at which input.
  Laid BY PROGRAM, IN A SANDBOX (cutbox-rows.mjs): the forced cells as the released guide's own fill.sh prints them over the translation 3f2499df452102dd… (all of the seat's roots in one cut). By AI agents, Wed Nov 11 2026. No macro, syntax, notation, axiom, sorry.
-/
import Derived.Test.YtfkagmngblkbbaaDoorChecked
import GoSem.Claim
import GoSem.ClaimJoined
import GoSem.ClaimMapViews
import Derived.JoinedTies
import Derived.KernelRfl
namespace Go.Proofs.YtfkagmngblkbbaaDoor
/- THE CELL 'sum', in the pinned program and in every row, IS THE sha256 OF THE DUMP (.gsa) THAT YtfkagmngblkbbaaDoorProg.lean LOADS. Nothing in Lean hashes anything: it is a label: what it is worth is what the hold of that sum in a sandbox is worth. -/
noncomputable def Tryd.pinned : Pinned := { name := "ytfkagmngblkbbaadoor", sum := "3f2499df452102ddb5a79d2e0d457b6f291adeb013d231211f6c959e2d5b3d88", checked := Tryd.checked }
namespace Rows
def none {H : Type} : Left H := { results := [], args := [] }

/- WHAT THE LISTED PACKAGE-LEVEL VARIABLES READ AS WHEN THE CALL BEGINS. Each datum BY PROGRAM (the guide's laid-datum.mjs) off the statement by which the dump's own 'gosem.cut.vars' lays the variable. In a bare row this is a premise. The card (YtfkagmngblkbbaaDoorCards.lean) ties it to the program's text. -/
def laid_weathervane_sum_lines {H : Type} : DataW H := .agg [.lit (.int .u32 0), .lit (.int .u32 79764919), .lit (.int .u32 159529838), .lit (.int .u32 222504665), .lit (.int .u32 319059676), .lit (.int .u32 398814059), .lit (.int .u32 445009330), .lit (.int .u32 507990021), .lit (.int .u32 638119352), .lit (.int .u32 583659535), .lit (.int .u32 797628118), .lit (.int .u32 726387553), .lit (.int .u32 890018660), .lit (.int .u32 835552979), .lit (.int .u32 1015980042), .lit (.int .u32 944750013)]

/-- 'weathervanelaw02.SumOf': WHATEVER THE INPUT: true; the input reads as it did. -/
def sumOfSpec : ChangeSpec := { name := "sumOf", fn := fun _ => fun
  | [d] => { results := [.lit (.bool true)], args := [d] }
  | _ => none }
def sumOfRow : OpenClaim := { program := "ytfkagmngblkbbaadoor", sum := "3f2499df452102ddb5a79d2e0d457b6f291adeb013d231211f6c959e2d5b3d88", func := "weathervane/weathervanelaw02.SumOf", spec := "sumOf", named := ["weathervane/sum.lines"], apart := false, laid := [("weathervane/sum.lines", laid_weathervane_sum_lines)] }
def SumOfSaid : Prop := sumOfRow.holds Tryd.pinned (OpenSpec.ofChange sumOfSpec)

/-- ITS FALSE NEIGHBOUR: 'it returns false'. Refute it at one input. -/
def sumOfWrong : ChangeSpec := { name := "sumOf", fn := fun _ => fun
  | [d] => { results := [.lit (.bool false)], args := [d] }
  | _ => none }
def SumOfWrongFalsely : Prop := sumOfRow.holds Tryd.pinned (OpenSpec.ofChange sumOfWrong)

/-- 'weathervanelaw02.SumLines': WHATEVER THE INPUT: true; the input reads as it did. -/
def sumLinesSpec : ChangeSpec := { name := "sumLines", fn := fun _ => fun
  | [d1, d2, d3] => { results := [.lit (.bool true)], args := [d1, d2, d3] }
  | _ => none }
def sumLinesRow : OpenClaim := { program := "ytfkagmngblkbbaadoor", sum := "3f2499df452102ddb5a79d2e0d457b6f291adeb013d231211f6c959e2d5b3d88", func := "weathervane/weathervanelaw02.SumLines", spec := "sumLines", named := ["weathervane/sum.lines"], apart := false, laid := [("weathervane/sum.lines", laid_weathervane_sum_lines)] }
def SumLinesSaid : Prop := sumLinesRow.holds Tryd.pinned (OpenSpec.ofChange sumLinesSpec)

/-- ITS FALSE NEIGHBOUR: 'it returns false'. Refute it at one input. -/
def sumLinesWrong : ChangeSpec := { name := "sumLines", fn := fun _ => fun
  | [d1, d2, d3] => { results := [.lit (.bool false)], args := [d1, d2, d3] }
  | _ => none }
def SumLinesWrongFalsely : Prop := sumLinesRow.holds Tryd.pinned (OpenSpec.ofChange sumLinesWrong)

/-- 'weathervanelaw02.SumTails': WHATEVER THE INPUT: true; the input reads as it did. -/
def sumTailsSpec : ChangeSpec := { name := "sumTails", fn := fun _ => fun
  | [d] => { results := [.lit (.bool true)], args := [d] }
  | _ => none }
def sumTailsRow : OpenClaim := { program := "ytfkagmngblkbbaadoor", sum := "3f2499df452102ddb5a79d2e0d457b6f291adeb013d231211f6c959e2d5b3d88", func := "weathervane/weathervanelaw02.SumTails", spec := "sumTails", named := ["weathervane/sum.lines"], apart := false, laid := [("weathervane/sum.lines", laid_weathervane_sum_lines)] }
def SumTailsSaid : Prop := sumTailsRow.holds Tryd.pinned (OpenSpec.ofChange sumTailsSpec)

/-- ITS FALSE NEIGHBOUR: 'it returns false'. Refute it at one input. -/
def sumTailsWrong : ChangeSpec := { name := "sumTails", fn := fun _ => fun
  | [d] => { results := [.lit (.bool false)], args := [d] }
  | _ => none }
def SumTailsWrongFalsely : Prop := sumTailsRow.holds Tryd.pinned (OpenSpec.ofChange sumTailsWrong)

/-- 'weathervanelaw02.SumSeals': WHATEVER THE INPUT: true; the input reads as it did. -/
def sumSealsSpec : ChangeSpec := { name := "sumSeals", fn := fun _ => fun
  | [d] => { results := [.lit (.bool true)], args := [d] }
  | _ => none }
def sumSealsRow : OpenClaim := { program := "ytfkagmngblkbbaadoor", sum := "3f2499df452102ddb5a79d2e0d457b6f291adeb013d231211f6c959e2d5b3d88", func := "weathervane/weathervanelaw02.SumSeals", spec := "sumSeals", named := ["weathervane/sum.lines"], apart := false, laid := [("weathervane/sum.lines", laid_weathervane_sum_lines)] }
def SumSealsSaid : Prop := sumSealsRow.holds Tryd.pinned (OpenSpec.ofChange sumSealsSpec)

/-- ITS FALSE NEIGHBOUR: 'it returns false'. Refute it at one input. -/
def sumSealsWrong : ChangeSpec := { name := "sumSeals", fn := fun _ => fun
  | [d] => { results := [.lit (.bool false)], args := [d] }
  | _ => none }
def SumSealsWrongFalsely : Prop := sumSealsRow.holds Tryd.pinned (OpenSpec.ofChange sumSealsWrong)

/-- 'weathervanelaw02.SumBursts': WHATEVER THE INPUT: true; the input reads as it did. -/
def sumBurstsSpec : ChangeSpec := { name := "sumBursts", fn := fun _ => fun
  | [d1, d2, d3] => { results := [.lit (.bool true)], args := [d1, d2, d3] }
  | _ => none }
def sumBurstsRow : OpenClaim := { program := "ytfkagmngblkbbaadoor", sum := "3f2499df452102ddb5a79d2e0d457b6f291adeb013d231211f6c959e2d5b3d88", func := "weathervane/weathervanelaw02.SumBursts", spec := "sumBursts", named := ["weathervane/sum.lines"], apart := false, laid := [("weathervane/sum.lines", laid_weathervane_sum_lines)] }
def SumBurstsSaid : Prop := sumBurstsRow.holds Tryd.pinned (OpenSpec.ofChange sumBurstsSpec)

/-- ITS FALSE NEIGHBOUR: 'it returns false'. Refute it at one input. -/
def sumBurstsWrong : ChangeSpec := { name := "sumBursts", fn := fun _ => fun
  | [d1, d2, d3] => { results := [.lit (.bool false)], args := [d1, d2, d3] }
  | _ => none }
def SumBurstsWrongFalsely : Prop := sumBurstsRow.holds Tryd.pinned (OpenSpec.ofChange sumBurstsWrong)

/-- 'weathervanelaw02.SumOnes': WHATEVER THE INPUT: true; the input reads as it did. -/
def sumOnesSpec : ChangeSpec := { name := "sumOnes", fn := fun _ => fun
  | [d1, d2, d3] => { results := [.lit (.bool true)], args := [d1, d2, d3] }
  | _ => none }
def sumOnesRow : OpenClaim := { program := "ytfkagmngblkbbaadoor", sum := "3f2499df452102ddb5a79d2e0d457b6f291adeb013d231211f6c959e2d5b3d88", func := "weathervane/weathervanelaw02.SumOnes", spec := "sumOnes", named := ["weathervane/sum.lines"], apart := false, laid := [("weathervane/sum.lines", laid_weathervane_sum_lines)] }
def SumOnesSaid : Prop := sumOnesRow.holds Tryd.pinned (OpenSpec.ofChange sumOnesSpec)

/-- ITS FALSE NEIGHBOUR: 'it returns false'. Refute it at one input. -/
def sumOnesWrong : ChangeSpec := { name := "sumOnes", fn := fun _ => fun
  | [d1, d2, d3] => { results := [.lit (.bool false)], args := [d1, d2, d3] }
  | _ => none }
def SumOnesWrongFalsely : Prop := sumOnesRow.holds Tryd.pinned (OpenSpec.ofChange sumOnesWrong)

/- THE SECOND FORM. 'bulk': how many values and letters a reading holds, each counted each time it is reached (what is shared counts as often as it is met; a slice's spare places count too). A statement '..UptoSaid' is the law's where the arguments, and the package variables that the reading takes, are together of bulk at most 1048576: NARROWER than '..Said'. Prove '..Said' where nothing that the law and all that it calls make is longer than what came in: it says more and counts as full. Else prove '..UptoSaid'. A law counts once. -/
mutual
def uptoBulk {H : Type} : DataW H → Nat
  | .lit (.string bytes) => bytes.length + 1
  | .lit _ => 1
  | .nil => 1
  | .ptr d => uptoBulk d + 1
  | .slice elems spare => uptoBulkAll elems + uptoBulkAll spare + 1
  | .agg parts => uptoBulkAll parts + 1
  | .iface _ d => uptoBulk d + 1
  | .map entries => uptoBulkEntries entries + 1
  | .held _ => 1
def uptoBulkAll {H : Type} : List (DataW H) → Nat
  | [] => 0
  | d :: r => uptoBulk d + uptoBulkAll r
def uptoBulkEntries {H : Type} : List (Lit × DataW H) → Nat
  | [] => 0
  | x :: r => uptoBulkEntry x + uptoBulkEntries r
def uptoBulkEntry {H : Type} : Lit × DataW H → Nat
  | (.string bytes, d) => bytes.length + uptoBulk d + 1
  | (_, d) => uptoBulk d + 1
 end
def uptoSmall : (H : Type) → List (DataW H) → Bool := fun _ ds => decide (uptoBulkAll ds ≤ 1048576)
def OpenSpec.upto (s : _root_.Go.ChangeSpec) : _root_.Go.OpenSpec := { _root_.Go.OpenSpec.ofChange s with cond := some uptoSmall }

/-- 'weathervanelaw02.SumOf', WHERE WHAT IT READS IS OF BULK AT MOST 1048576: true; the input reads as it did. -/
def sumOfUptoRow : OpenClaim := { program := "ytfkagmngblkbbaadoor", sum := "3f2499df452102ddb5a79d2e0d457b6f291adeb013d231211f6c959e2d5b3d88", func := "weathervane/weathervanelaw02.SumOf", spec := "sumOf", named := ["weathervane/sum.lines"], apart := false, laid := [("weathervane/sum.lines", laid_weathervane_sum_lines)], narrowed := true }
def SumOfUptoSaid : Prop := sumOfUptoRow.holds Tryd.pinned (OpenSpec.upto sumOfSpec)

/-- 'weathervanelaw02.SumLines', WHERE WHAT IT READS IS OF BULK AT MOST 1048576: true; the input reads as it did. -/
def sumLinesUptoRow : OpenClaim := { program := "ytfkagmngblkbbaadoor", sum := "3f2499df452102ddb5a79d2e0d457b6f291adeb013d231211f6c959e2d5b3d88", func := "weathervane/weathervanelaw02.SumLines", spec := "sumLines", named := ["weathervane/sum.lines"], apart := false, laid := [("weathervane/sum.lines", laid_weathervane_sum_lines)], narrowed := true }
def SumLinesUptoSaid : Prop := sumLinesUptoRow.holds Tryd.pinned (OpenSpec.upto sumLinesSpec)

/-- 'weathervanelaw02.SumTails', WHERE WHAT IT READS IS OF BULK AT MOST 1048576: true; the input reads as it did. -/
def sumTailsUptoRow : OpenClaim := { program := "ytfkagmngblkbbaadoor", sum := "3f2499df452102ddb5a79d2e0d457b6f291adeb013d231211f6c959e2d5b3d88", func := "weathervane/weathervanelaw02.SumTails", spec := "sumTails", named := ["weathervane/sum.lines"], apart := false, laid := [("weathervane/sum.lines", laid_weathervane_sum_lines)], narrowed := true }
def SumTailsUptoSaid : Prop := sumTailsUptoRow.holds Tryd.pinned (OpenSpec.upto sumTailsSpec)

/-- 'weathervanelaw02.SumSeals', WHERE WHAT IT READS IS OF BULK AT MOST 1048576: true; the input reads as it did. -/
def sumSealsUptoRow : OpenClaim := { program := "ytfkagmngblkbbaadoor", sum := "3f2499df452102ddb5a79d2e0d457b6f291adeb013d231211f6c959e2d5b3d88", func := "weathervane/weathervanelaw02.SumSeals", spec := "sumSeals", named := ["weathervane/sum.lines"], apart := false, laid := [("weathervane/sum.lines", laid_weathervane_sum_lines)], narrowed := true }
def SumSealsUptoSaid : Prop := sumSealsUptoRow.holds Tryd.pinned (OpenSpec.upto sumSealsSpec)

/-- 'weathervanelaw02.SumBursts', WHERE WHAT IT READS IS OF BULK AT MOST 1048576: true; the input reads as it did. -/
def sumBurstsUptoRow : OpenClaim := { program := "ytfkagmngblkbbaadoor", sum := "3f2499df452102ddb5a79d2e0d457b6f291adeb013d231211f6c959e2d5b3d88", func := "weathervane/weathervanelaw02.SumBursts", spec := "sumBursts", named := ["weathervane/sum.lines"], apart := false, laid := [("weathervane/sum.lines", laid_weathervane_sum_lines)], narrowed := true }
def SumBurstsUptoSaid : Prop := sumBurstsUptoRow.holds Tryd.pinned (OpenSpec.upto sumBurstsSpec)

/-- 'weathervanelaw02.SumOnes', WHERE WHAT IT READS IS OF BULK AT MOST 1048576: true; the input reads as it did. -/
def sumOnesUptoRow : OpenClaim := { program := "ytfkagmngblkbbaadoor", sum := "3f2499df452102ddb5a79d2e0d457b6f291adeb013d231211f6c959e2d5b3d88", func := "weathervane/weathervanelaw02.SumOnes", spec := "sumOnes", named := ["weathervane/sum.lines"], apart := false, laid := [("weathervane/sum.lines", laid_weathervane_sum_lines)], narrowed := true }
def SumOnesUptoSaid : Prop := sumOnesUptoRow.holds Tryd.pinned (OpenSpec.upto sumOnesSpec)

end Rows
end Go.Proofs.YtfkagmngblkbbaaDoor

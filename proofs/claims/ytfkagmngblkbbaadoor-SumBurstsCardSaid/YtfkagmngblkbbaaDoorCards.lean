/-
  DERIVED. GIVEN WITH THE SEED: THE CARDS: each row of YtfkagmngblkbbaaDoorRows.lean that lists a variable, with what it lists TIED to the program's text (the seventh form; the later family's looks); each row that meets fmt, with fmt's text TOLD by the authors' own Lean function (tested against real Go, not proved from fmt's source: count such statements apart). THE CARD IS WHAT COUNTS. Prove the row's statement (the work); the ties are given (YtfkagmngblkbbaaDoorTie.lean); close each card by the builder's one call (the guide's Derived/Test/ToyasCard.lean, 'card_holds'). Laid BY PROGRAM, IN A SANDBOX (cutbox-door.mjs). By AI agents, Wed Nov 11 2026. No macro, syntax, notation, axiom, sorry.
-/
import Derived.Test.YtfkagmngblkbbaaDoorRows
import GoSem.ClaimSeven
namespace Go.Proofs.YtfkagmngblkbbaaDoor
namespace Rows

/-- THE TIED CARD OF 'weathervanelaw02.SumOf'. -/
def sumOfCard : Claim7 := { stood := { row := sumOfRow, standIns := [], harness := (true, "48379b178fe088bd273866e5d4d50fc015c19f5cba44bebf6e125ab1fac5a64f"), looks := false }, kinds := [], alts := [], laidByText := true, laidKinds := [.data], laidTests := true, laidLooks := .later }
def SumOfCardSaid : Prop := Claim7.holds Tryd.pinned (.plain (OpenSpec.ofChange sumOfSpec)) sumOfCard

/-- THE TIED CARD OF 'weathervanelaw02.SumLines'. -/
def sumLinesCard : Claim7 := { stood := { row := sumLinesRow, standIns := [], harness := (true, "48379b178fe088bd273866e5d4d50fc015c19f5cba44bebf6e125ab1fac5a64f"), looks := false }, kinds := [], alts := [], laidByText := true, laidKinds := [.data], laidTests := true, laidLooks := .later }
def SumLinesCardSaid : Prop := Claim7.holds Tryd.pinned (.plain (OpenSpec.ofChange sumLinesSpec)) sumLinesCard

/-- THE TIED CARD OF 'weathervanelaw02.SumTails'. -/
def sumTailsCard : Claim7 := { stood := { row := sumTailsRow, standIns := [], harness := (true, "48379b178fe088bd273866e5d4d50fc015c19f5cba44bebf6e125ab1fac5a64f"), looks := false }, kinds := [], alts := [], laidByText := true, laidKinds := [.data], laidTests := true, laidLooks := .later }
def SumTailsCardSaid : Prop := Claim7.holds Tryd.pinned (.plain (OpenSpec.ofChange sumTailsSpec)) sumTailsCard

/-- THE TIED CARD OF 'weathervanelaw02.SumSeals'. -/
def sumSealsCard : Claim7 := { stood := { row := sumSealsRow, standIns := [], harness := (true, "48379b178fe088bd273866e5d4d50fc015c19f5cba44bebf6e125ab1fac5a64f"), looks := false }, kinds := [], alts := [], laidByText := true, laidKinds := [.data], laidTests := true, laidLooks := .later }
def SumSealsCardSaid : Prop := Claim7.holds Tryd.pinned (.plain (OpenSpec.ofChange sumSealsSpec)) sumSealsCard

/-- THE TIED CARD OF 'weathervanelaw02.SumBursts'. -/
def sumBurstsCard : Claim7 := { stood := { row := sumBurstsRow, standIns := [], harness := (true, "48379b178fe088bd273866e5d4d50fc015c19f5cba44bebf6e125ab1fac5a64f"), looks := false }, kinds := [], alts := [], laidByText := true, laidKinds := [.data], laidTests := true, laidLooks := .later }
def SumBurstsCardSaid : Prop := Claim7.holds Tryd.pinned (.plain (OpenSpec.ofChange sumBurstsSpec)) sumBurstsCard

/-- THE TIED CARD OF 'weathervanelaw02.SumOnes'. -/
def sumOnesCard : Claim7 := { stood := { row := sumOnesRow, standIns := [], harness := (true, "48379b178fe088bd273866e5d4d50fc015c19f5cba44bebf6e125ab1fac5a64f"), looks := false }, kinds := [], alts := [], laidByText := true, laidKinds := [.data], laidTests := true, laidLooks := .later }
def SumOnesCardSaid : Prop := Claim7.holds Tryd.pinned (.plain (OpenSpec.ofChange sumOnesSpec)) sumOnesCard

/-- THE SECOND FORM's CARD OF 'weathervanelaw02.SumOf'. -/
def sumOfUptoCard : Claim7 := { stood := { row := sumOfUptoRow, standIns := [], harness := (true, "48379b178fe088bd273866e5d4d50fc015c19f5cba44bebf6e125ab1fac5a64f"), looks := false }, kinds := [], alts := [], laidByText := true, laidKinds := [.data], laidTests := true, laidLooks := .later }
def SumOfUptoCardSaid : Prop := Claim7.holds Tryd.pinned (.plain (OpenSpec.upto sumOfSpec)) sumOfUptoCard

/-- THE SECOND FORM's CARD OF 'weathervanelaw02.SumLines'. -/
def sumLinesUptoCard : Claim7 := { stood := { row := sumLinesUptoRow, standIns := [], harness := (true, "48379b178fe088bd273866e5d4d50fc015c19f5cba44bebf6e125ab1fac5a64f"), looks := false }, kinds := [], alts := [], laidByText := true, laidKinds := [.data], laidTests := true, laidLooks := .later }
def SumLinesUptoCardSaid : Prop := Claim7.holds Tryd.pinned (.plain (OpenSpec.upto sumLinesSpec)) sumLinesUptoCard

/-- THE SECOND FORM's CARD OF 'weathervanelaw02.SumTails'. -/
def sumTailsUptoCard : Claim7 := { stood := { row := sumTailsUptoRow, standIns := [], harness := (true, "48379b178fe088bd273866e5d4d50fc015c19f5cba44bebf6e125ab1fac5a64f"), looks := false }, kinds := [], alts := [], laidByText := true, laidKinds := [.data], laidTests := true, laidLooks := .later }
def SumTailsUptoCardSaid : Prop := Claim7.holds Tryd.pinned (.plain (OpenSpec.upto sumTailsSpec)) sumTailsUptoCard

/-- THE SECOND FORM's CARD OF 'weathervanelaw02.SumSeals'. -/
def sumSealsUptoCard : Claim7 := { stood := { row := sumSealsUptoRow, standIns := [], harness := (true, "48379b178fe088bd273866e5d4d50fc015c19f5cba44bebf6e125ab1fac5a64f"), looks := false }, kinds := [], alts := [], laidByText := true, laidKinds := [.data], laidTests := true, laidLooks := .later }
def SumSealsUptoCardSaid : Prop := Claim7.holds Tryd.pinned (.plain (OpenSpec.upto sumSealsSpec)) sumSealsUptoCard

/-- THE SECOND FORM's CARD OF 'weathervanelaw02.SumBursts'. -/
def sumBurstsUptoCard : Claim7 := { stood := { row := sumBurstsUptoRow, standIns := [], harness := (true, "48379b178fe088bd273866e5d4d50fc015c19f5cba44bebf6e125ab1fac5a64f"), looks := false }, kinds := [], alts := [], laidByText := true, laidKinds := [.data], laidTests := true, laidLooks := .later }
def SumBurstsUptoCardSaid : Prop := Claim7.holds Tryd.pinned (.plain (OpenSpec.upto sumBurstsSpec)) sumBurstsUptoCard

/-- THE SECOND FORM's CARD OF 'weathervanelaw02.SumOnes'. -/
def sumOnesUptoCard : Claim7 := { stood := { row := sumOnesUptoRow, standIns := [], harness := (true, "48379b178fe088bd273866e5d4d50fc015c19f5cba44bebf6e125ab1fac5a64f"), looks := false }, kinds := [], alts := [], laidByText := true, laidKinds := [.data], laidTests := true, laidLooks := .later }
def SumOnesUptoCardSaid : Prop := Claim7.holds Tryd.pinned (.plain (OpenSpec.upto sumOnesSpec)) sumOnesUptoCard
end Rows
end Go.Proofs.YtfkagmngblkbbaaDoor

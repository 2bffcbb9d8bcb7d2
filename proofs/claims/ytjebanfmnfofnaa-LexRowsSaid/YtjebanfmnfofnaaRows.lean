/-
  No cell of these rows narrows 'for every input' (looked for: loops, veiled, ifaces, maps, wideKeys, modest, calm, conditions, laid).
  DERIVED. THE GIVEN ROWS OF THIS SEAT. 7 by the template 'for every input the law returns true; each argument reads behind the call as it read before'; 0 by the template 'total and deterministic' (their statements: YtjebanfmnfofnaaTotals.lean).
  GIVEN WITH THE SEED: the statements are not yours to turn. If you find one false, say at which input.
  Laid BY PROGRAM, IN A SANDBOX (cutbox-rows.mjs): the forced cells as the released guide's own fill.sh prints them over the translation 0c2ab255a337478f… (all of the seat's roots in one cut). By AI agents, Wed Nov 11 2026. No macro, syntax, notation, axiom, sorry.
-/
import Derived.Test.YtjebanfmnfofnaaChecked
import GoSem.Claim
import GoSem.ClaimJoined
import GoSem.ClaimMapViews
import Derived.JoinedTies
import Derived.KernelRfl
namespace Go.Proofs.Ytjebanfmnfofnaa
/- THE CELL 'sum', in the pinned program and in every row, IS THE sha256 OF THE DUMP (.gsa) THAT YtjebanfmnfofnaaProg.lean LOADS. Nothing in Lean hashes anything: it is a label: what it is worth is what the hold of that sum in a sandbox is worth. -/
noncomputable def Try.pinned : Pinned := { name := "ytjebanfmnfofnaa", sum := "0c2ab255a337478fd23e7911f087928aa054277b65eb32d99a3405cad9e87657", checked := Try.checked }
namespace Rows
def none {H : Type} : Left H := { results := [], args := [] }

/-- 'weathervanelaw08.LexTokens': WHATEVER THE INPUT: true; the input reads as it did. -/
def lexTokensSpec : ChangeSpec := { name := "lexTokens", fn := fun _ => fun
  | [d] => { results := [.lit (.bool true)], args := [d] }
  | _ => none }
def lexTokensRow : OpenClaim := { program := "ytjebanfmnfofnaa", sum := "0c2ab255a337478fd23e7911f087928aa054277b65eb32d99a3405cad9e87657", func := "weathervane/weathervanelaw08.LexTokens", spec := "lexTokens", inPlace := ["internal/bytealg.IndexByteString", "internal/bytealg.IndexString"], named := ["internal/bytealg.MaxLen"], apart := false }
def LexTokensSaid : Prop := lexTokensRow.holds Try.pinned (OpenSpec.ofChange lexTokensSpec)

/-- ITS FALSE NEIGHBOUR: 'it returns false'. Refute it at one input. -/
def lexTokensWrong : ChangeSpec := { name := "lexTokens", fn := fun _ => fun
  | [d] => { results := [.lit (.bool false)], args := [d] }
  | _ => none }
def LexTokensWrongFalsely : Prop := lexTokensRow.holds Try.pinned (OpenSpec.ofChange lexTokensWrong)

/-- 'weathervanelaw08.LexEnds': WHATEVER THE INPUT: true; the input reads as it did. -/
def lexEndsSpec : ChangeSpec := { name := "lexEnds", fn := fun _ => fun
  | [d1, d2] => { results := [.lit (.bool true)], args := [d1, d2] }
  | _ => none }
def lexEndsRow : OpenClaim := { program := "ytjebanfmnfofnaa", sum := "0c2ab255a337478fd23e7911f087928aa054277b65eb32d99a3405cad9e87657", func := "weathervane/weathervanelaw08.LexEnds", spec := "lexEnds", inPlace := ["internal/bytealg.IndexByteString", "internal/bytealg.IndexString"], named := ["internal/bytealg.MaxLen"], apart := false }
def LexEndsSaid : Prop := lexEndsRow.holds Try.pinned (OpenSpec.ofChange lexEndsSpec)

/-- ITS FALSE NEIGHBOUR: 'it returns false'. Refute it at one input. -/
def lexEndsWrong : ChangeSpec := { name := "lexEnds", fn := fun _ => fun
  | [d1, d2] => { results := [.lit (.bool false)], args := [d1, d2] }
  | _ => none }
def LexEndsWrongFalsely : Prop := lexEndsRow.holds Try.pinned (OpenSpec.ofChange lexEndsWrong)

/-- 'weathervanelaw08.LexEscapes': WHATEVER THE INPUT: true; the input reads as it did. -/
def lexEscapesSpec : ChangeSpec := { name := "lexEscapes", fn := fun _ => fun
  | [d1, d2, d3] => { results := [.lit (.bool true)], args := [d1, d2, d3] }
  | _ => none }
def lexEscapesRow : OpenClaim := { program := "ytjebanfmnfofnaa", sum := "0c2ab255a337478fd23e7911f087928aa054277b65eb32d99a3405cad9e87657", func := "weathervane/weathervanelaw08.LexEscapes", spec := "lexEscapes", inPlace := ["internal/bytealg.IndexByteString", "internal/bytealg.IndexString"], named := ["internal/bytealg.MaxLen"], apart := false }
def LexEscapesSaid : Prop := lexEscapesRow.holds Try.pinned (OpenSpec.ofChange lexEscapesSpec)

/-- ITS FALSE NEIGHBOUR: 'it returns false'. Refute it at one input. -/
def lexEscapesWrong : ChangeSpec := { name := "lexEscapes", fn := fun _ => fun
  | [d1, d2, d3] => { results := [.lit (.bool false)], args := [d1, d2, d3] }
  | _ => none }
def LexEscapesWrongFalsely : Prop := lexEscapesRow.holds Try.pinned (OpenSpec.ofChange lexEscapesWrong)

/-- 'weathervanelaw08.LexComments': WHATEVER THE INPUT: true; the input reads as it did. -/
def lexCommentsSpec : ChangeSpec := { name := "lexComments", fn := fun _ => fun
  | [d1, d2] => { results := [.lit (.bool true)], args := [d1, d2] }
  | _ => none }
def lexCommentsRow : OpenClaim := { program := "ytjebanfmnfofnaa", sum := "0c2ab255a337478fd23e7911f087928aa054277b65eb32d99a3405cad9e87657", func := "weathervane/weathervanelaw08.LexComments", spec := "lexComments", inPlace := ["internal/bytealg.IndexByteString", "internal/bytealg.IndexString"], named := ["internal/bytealg.MaxLen"], apart := false }
def LexCommentsSaid : Prop := lexCommentsRow.holds Try.pinned (OpenSpec.ofChange lexCommentsSpec)

/-- ITS FALSE NEIGHBOUR: 'it returns false'. Refute it at one input. -/
def lexCommentsWrong : ChangeSpec := { name := "lexComments", fn := fun _ => fun
  | [d1, d2] => { results := [.lit (.bool false)], args := [d1, d2] }
  | _ => none }
def LexCommentsWrongFalsely : Prop := lexCommentsRow.holds Try.pinned (OpenSpec.ofChange lexCommentsWrong)

/-- 'weathervanelaw08.LexPlaces': WHATEVER THE INPUT: true; the input reads as it did. -/
def lexPlacesSpec : ChangeSpec := { name := "lexPlaces", fn := fun _ => fun
  | [d1, d2] => { results := [.lit (.bool true)], args := [d1, d2] }
  | _ => none }
def lexPlacesRow : OpenClaim := { program := "ytjebanfmnfofnaa", sum := "0c2ab255a337478fd23e7911f087928aa054277b65eb32d99a3405cad9e87657", func := "weathervane/weathervanelaw08.LexPlaces", spec := "lexPlaces", inPlace := ["internal/bytealg.IndexByteString", "internal/bytealg.IndexString"], named := ["internal/bytealg.MaxLen"], apart := false }
def LexPlacesSaid : Prop := lexPlacesRow.holds Try.pinned (OpenSpec.ofChange lexPlacesSpec)

/-- ITS FALSE NEIGHBOUR: 'it returns false'. Refute it at one input. -/
def lexPlacesWrong : ChangeSpec := { name := "lexPlaces", fn := fun _ => fun
  | [d1, d2] => { results := [.lit (.bool false)], args := [d1, d2] }
  | _ => none }
def LexPlacesWrongFalsely : Prop := lexPlacesRow.holds Try.pinned (OpenSpec.ofChange lexPlacesWrong)

/-- 'weathervanelaw08.LexNames': WHATEVER THE INPUT: true; the input reads as it did. -/
def lexNamesSpec : ChangeSpec := { name := "lexNames", fn := fun _ => fun
  | [d1, d2, d3] => { results := [.lit (.bool true)], args := [d1, d2, d3] }
  | _ => none }
def lexNamesRow : OpenClaim := { program := "ytjebanfmnfofnaa", sum := "0c2ab255a337478fd23e7911f087928aa054277b65eb32d99a3405cad9e87657", func := "weathervane/weathervanelaw08.LexNames", spec := "lexNames", inPlace := ["internal/bytealg.IndexByteString", "internal/bytealg.IndexString", "internal/abi.NoEscape"], named := ["internal/bytealg.MaxLen"], apart := false }
def LexNamesSaid : Prop := lexNamesRow.holds Try.pinned (OpenSpec.ofChange lexNamesSpec)

/-- ITS FALSE NEIGHBOUR: 'it returns false'. Refute it at one input. -/
def lexNamesWrong : ChangeSpec := { name := "lexNames", fn := fun _ => fun
  | [d1, d2, d3] => { results := [.lit (.bool false)], args := [d1, d2, d3] }
  | _ => none }
def LexNamesWrongFalsely : Prop := lexNamesRow.holds Try.pinned (OpenSpec.ofChange lexNamesWrong)

/-- 'weathervanelaw08.LexRows': WHATEVER THE INPUT: true; the input reads as it did. -/
def lexRowsSpec : ChangeSpec := { name := "lexRows", fn := fun _ => fun
  | [d1, d2] => { results := [.lit (.bool true)], args := [d1, d2] }
  | _ => none }
def lexRowsRow : OpenClaim := { program := "ytjebanfmnfofnaa", sum := "0c2ab255a337478fd23e7911f087928aa054277b65eb32d99a3405cad9e87657", func := "weathervane/weathervanelaw08.LexRows", spec := "lexRows", inPlace := ["internal/bytealg.IndexByteString", "internal/bytealg.IndexString", "internal/abi.NoEscape"], named := ["internal/bytealg.MaxLen"], apart := false }
def LexRowsSaid : Prop := lexRowsRow.holds Try.pinned (OpenSpec.ofChange lexRowsSpec)

/-- ITS FALSE NEIGHBOUR: 'it returns false'. Refute it at one input. -/
def lexRowsWrong : ChangeSpec := { name := "lexRows", fn := fun _ => fun
  | [d1, d2] => { results := [.lit (.bool false)], args := [d1, d2] }
  | _ => none }
def LexRowsWrongFalsely : Prop := lexRowsRow.holds Try.pinned (OpenSpec.ofChange lexRowsWrong)

/- THE SECOND FORM. 'bulk': how many values and letters a reading holds, each counted each time it is reached (what is shared counts as often as it is met; a slice's spare places count too). A statement '..UptoSaid' is the law's where the arguments, and the package variables that the reading takes, are together of bulk at most 1048576: NARROWER than '..Said'. Prove '..Said' where nothing that the law and all that it calls make is longer than what came in: it says more and counts as full. Else prove '..UptoSaid'. A law counts once. -/
mutual
def uptoBulk {H : Type} : DataW H → Nat
  | .lit (.string bytes) => bytes.length + 1
  | .lit _ => 1
  | .nil => 1
  | .ptr d => uptoBulk d + 1
  | .slice elems spare => uptoBulkAll elems + uptoBulkAll spare + 1
  | .agg parts => uptoBulkAll parts + 1
  | .iface _ d => uptoBulk d + 1
  | .map entries => uptoBulkEntries entries + 1
  | .held _ => 1
def uptoBulkAll {H : Type} : List (DataW H) → Nat
  | [] => 0
  | d :: r => uptoBulk d + uptoBulkAll r
def uptoBulkEntries {H : Type} : List (Lit × DataW H) → Nat
  | [] => 0
  | x :: r => uptoBulkEntry x + uptoBulkEntries r
def uptoBulkEntry {H : Type} : Lit × DataW H → Nat
  | (.string bytes, d) => bytes.length + uptoBulk d + 1
  | (_, d) => uptoBulk d + 1
 end
def uptoSmall : (H : Type) → List (DataW H) → Bool := fun _ ds => decide (uptoBulkAll ds ≤ 1048576)
def OpenSpec.upto (s : _root_.Go.ChangeSpec) : _root_.Go.OpenSpec := { _root_.Go.OpenSpec.ofChange s with cond := some uptoSmall }

/-- 'weathervanelaw08.LexTokens', WHERE WHAT IT READS IS OF BULK AT MOST 1048576: true; the input reads as it did. -/
def lexTokensUptoRow : OpenClaim := { program := "ytjebanfmnfofnaa", sum := "0c2ab255a337478fd23e7911f087928aa054277b65eb32d99a3405cad9e87657", func := "weathervane/weathervanelaw08.LexTokens", spec := "lexTokens", inPlace := ["internal/bytealg.IndexByteString", "internal/bytealg.IndexString"], named := ["internal/bytealg.MaxLen"], apart := false, narrowed := true }
def LexTokensUptoSaid : Prop := lexTokensUptoRow.holds Try.pinned (OpenSpec.upto lexTokensSpec)

/-- 'weathervanelaw08.LexEnds', WHERE WHAT IT READS IS OF BULK AT MOST 1048576: true; the input reads as it did. -/
def lexEndsUptoRow : OpenClaim := { program := "ytjebanfmnfofnaa", sum := "0c2ab255a337478fd23e7911f087928aa054277b65eb32d99a3405cad9e87657", func := "weathervane/weathervanelaw08.LexEnds", spec := "lexEnds", inPlace := ["internal/bytealg.IndexByteString", "internal/bytealg.IndexString"], named := ["internal/bytealg.MaxLen"], apart := false, narrowed := true }
def LexEndsUptoSaid : Prop := lexEndsUptoRow.holds Try.pinned (OpenSpec.upto lexEndsSpec)

/-- 'weathervanelaw08.LexEscapes', WHERE WHAT IT READS IS OF BULK AT MOST 1048576: true; the input reads as it did. -/
def lexEscapesUptoRow : OpenClaim := { program := "ytjebanfmnfofnaa", sum := "0c2ab255a337478fd23e7911f087928aa054277b65eb32d99a3405cad9e87657", func := "weathervane/weathervanelaw08.LexEscapes", spec := "lexEscapes", inPlace := ["internal/bytealg.IndexByteString", "internal/bytealg.IndexString"], named := ["internal/bytealg.MaxLen"], apart := false, narrowed := true }
def LexEscapesUptoSaid : Prop := lexEscapesUptoRow.holds Try.pinned (OpenSpec.upto lexEscapesSpec)

/-- 'weathervanelaw08.LexComments', WHERE WHAT IT READS IS OF BULK AT MOST 1048576: true; the input reads as it did. -/
def lexCommentsUptoRow : OpenClaim := { program := "ytjebanfmnfofnaa", sum := "0c2ab255a337478fd23e7911f087928aa054277b65eb32d99a3405cad9e87657", func := "weathervane/weathervanelaw08.LexComments", spec := "lexComments", inPlace := ["internal/bytealg.IndexByteString", "internal/bytealg.IndexString"], named := ["internal/bytealg.MaxLen"], apart := false, narrowed := true }
def LexCommentsUptoSaid : Prop := lexCommentsUptoRow.holds Try.pinned (OpenSpec.upto lexCommentsSpec)

/-- 'weathervanelaw08.LexPlaces', WHERE WHAT IT READS IS OF BULK AT MOST 1048576: true; the input reads as it did. -/
def lexPlacesUptoRow : OpenClaim := { program := "ytjebanfmnfofnaa", sum := "0c2ab255a337478fd23e7911f087928aa054277b65eb32d99a3405cad9e87657", func := "weathervane/weathervanelaw08.LexPlaces", spec := "lexPlaces", inPlace := ["internal/bytealg.IndexByteString", "internal/bytealg.IndexString"], named := ["internal/bytealg.MaxLen"], apart := false, narrowed := true }
def LexPlacesUptoSaid : Prop := lexPlacesUptoRow.holds Try.pinned (OpenSpec.upto lexPlacesSpec)

/-- 'weathervanelaw08.LexNames', WHERE WHAT IT READS IS OF BULK AT MOST 1048576: true; the input reads as it did. -/
def lexNamesUptoRow : OpenClaim := { program := "ytjebanfmnfofnaa", sum := "0c2ab255a337478fd23e7911f087928aa054277b65eb32d99a3405cad9e87657", func := "weathervane/weathervanelaw08.LexNames", spec := "lexNames", inPlace := ["internal/bytealg.IndexByteString", "internal/bytealg.IndexString", "internal/abi.NoEscape"], named := ["internal/bytealg.MaxLen"], apart := false, narrowed := true }
def LexNamesUptoSaid : Prop := lexNamesUptoRow.holds Try.pinned (OpenSpec.upto lexNamesSpec)

/-- 'weathervanelaw08.LexRows', WHERE WHAT IT READS IS OF BULK AT MOST 1048576: true; the input reads as it did. -/
def lexRowsUptoRow : OpenClaim := { program := "ytjebanfmnfofnaa", sum := "0c2ab255a337478fd23e7911f087928aa054277b65eb32d99a3405cad9e87657", func := "weathervane/weathervanelaw08.LexRows", spec := "lexRows", inPlace := ["internal/bytealg.IndexByteString", "internal/bytealg.IndexString", "internal/abi.NoEscape"], named := ["internal/bytealg.MaxLen"], apart := false, narrowed := true }
def LexRowsUptoSaid : Prop := lexRowsUptoRow.holds Try.pinned (OpenSpec.upto lexRowsSpec)

end Rows
end Go.Proofs.Ytjebanfmnfofnaa

/-
  NARROWER THAN 'FOR EVERY INPUT', by the rows' own cells (each row's printed sentence says how): BlockBehind: laid · BlockWithin: laid · BlockKinds: laid · PlaceLies: laid · PlaceGrows: laid · PlaceSteps: laid · PlaceLabels: laid.
  DERIVED. THE GIVEN ROWS OF THIS SEAT. 7 by the template 'for every input the law returns true; each argument reads behind the call as it read before'; 0 by the template 'total and deterministic' (their statements: YtmbepfdnmgiifaaDoorTotals.lean).
  GIVEN WITH THE SEED: the statements are not yours to turn. If you find one false, say at which input.
  Laid BY PROGRAM, IN A SANDBOX (cutbox-rows.mjs): the forced cells as the released guide's own fill.sh prints them over the translation d435a72c8b538619… (all of the seat's roots in one cut). By AI agents, Wed Nov 11 2026. No macro, syntax, notation, axiom, sorry.
-/
import Derived.Test.YtmbepfdnmgiifaaDoorChecked
import GoSem.Claim
import GoSem.ClaimJoined
import GoSem.ClaimMapViews
import Derived.JoinedTies
import Derived.KernelRfl
namespace Go.Proofs.YtmbepfdnmgiifaaDoor
/- THE CELL 'sum', in the pinned program and in every row, IS THE sha256 OF THE DUMP (.gsa) THAT YtmbepfdnmgiifaaDoorProg.lean LOADS. Nothing in Lean hashes anything: it is a label: what it is worth is what the hold of that sum in a sandbox is worth. -/
noncomputable def Tryd.pinned : Pinned := { name := "ytmbepfdnmgiifaadoor", sum := "d435a72c8b538619e350e14d53eb3e33df7433679dcf1ad2fb43e28b704d2026", checked := Tryd.checked }
namespace Rows
def none {H : Type} : Left H := { results := [], args := [] }

/- WHAT THE LISTED PACKAGE-LEVEL VARIABLES READ AS WHEN THE CALL BEGINS. Each datum BY PROGRAM (the guide's laid-datum.mjs) off the statement by which the dump's own 'gosem.cut.vars' lays the variable. In a bare row this is a premise. The card (YtmbepfdnmgiifaaDoorCards.lean) ties it to the program's text. -/
def laid_errors_errorType {H : Type} : DataW H := .iface "internal/reflectlite.rtype" (.agg [.ptr (.lit (.string [101, 114, 114, 111, 114]))])

/-- 'typecaselaw13.BlockBehind': WHATEVER THE INPUT: true; the input reads as it did. -/
def blockBehindSpec : ChangeSpec := { name := "blockBehind", fn := fun _ => fun
  | [d1, d2, d3] => { results := [.lit (.bool true)], args := [d1, d2, d3] }
  | _ => none }
def blockBehindRow : OpenClaim := { program := "ytmbepfdnmgiifaadoor", sum := "d435a72c8b538619e350e14d53eb3e33df7433679dcf1ad2fb43e28b704d2026", func := "typecase/typecaselaw13.BlockBehind", spec := "blockBehind", inPlace := ["internal/reflectlite.ValueOf", "(internal/reflectlite.Value).Type", "(internal/reflectlite.Value).IsNil", "internal/reflectlite.TypeOf", "(internal/reflectlite.Value).Elem", "(internal/reflectlite.Value).Set"], unfollowed := true, recurses := true, named := ["errors.errorType"], apart := false, laid := [("errors.errorType", laid_errors_errorType)] }
def BlockBehindSaid : Prop := blockBehindRow.holds Tryd.pinned (OpenSpec.ofChange blockBehindSpec)

/-- ITS FALSE NEIGHBOUR: 'it returns false'. Refute it at one input. -/
def blockBehindWrong : ChangeSpec := { name := "blockBehind", fn := fun _ => fun
  | [d1, d2, d3] => { results := [.lit (.bool false)], args := [d1, d2, d3] }
  | _ => none }
def BlockBehindWrongFalsely : Prop := blockBehindRow.holds Tryd.pinned (OpenSpec.ofChange blockBehindWrong)

/-- 'typecaselaw13.BlockWithin': WHATEVER THE INPUT: true; the input reads as it did. -/
def blockWithinSpec : ChangeSpec := { name := "blockWithin", fn := fun _ => fun
  | [d1, d2, d3] => { results := [.lit (.bool true)], args := [d1, d2, d3] }
  | _ => none }
def blockWithinRow : OpenClaim := { program := "ytmbepfdnmgiifaadoor", sum := "d435a72c8b538619e350e14d53eb3e33df7433679dcf1ad2fb43e28b704d2026", func := "typecase/typecaselaw13.BlockWithin", spec := "blockWithin", inPlace := ["internal/reflectlite.ValueOf", "(internal/reflectlite.Value).Type", "(internal/reflectlite.Value).IsNil", "internal/reflectlite.TypeOf", "(internal/reflectlite.Value).Elem", "(internal/reflectlite.Value).Set"], unfollowed := true, recurses := true, named := ["errors.errorType"], apart := false, laid := [("errors.errorType", laid_errors_errorType)] }
def BlockWithinSaid : Prop := blockWithinRow.holds Tryd.pinned (OpenSpec.ofChange blockWithinSpec)

/-- ITS FALSE NEIGHBOUR: 'it returns false'. Refute it at one input. -/
def blockWithinWrong : ChangeSpec := { name := "blockWithin", fn := fun _ => fun
  | [d1, d2, d3] => { results := [.lit (.bool false)], args := [d1, d2, d3] }
  | _ => none }
def BlockWithinWrongFalsely : Prop := blockWithinRow.holds Tryd.pinned (OpenSpec.ofChange blockWithinWrong)

/-- 'typecaselaw13.BlockKinds': WHATEVER THE INPUT: true; the input reads as it did. -/
def blockKindsSpec : ChangeSpec := { name := "blockKinds", fn := fun _ => fun
  | [d] => { results := [.lit (.bool true)], args := [d] }
  | _ => none }
def blockKindsRow : OpenClaim := { program := "ytmbepfdnmgiifaadoor", sum := "d435a72c8b538619e350e14d53eb3e33df7433679dcf1ad2fb43e28b704d2026", func := "typecase/typecaselaw13.BlockKinds", spec := "blockKinds", inPlace := ["internal/reflectlite.ValueOf", "(internal/reflectlite.Value).Type", "(internal/reflectlite.Value).IsNil", "internal/reflectlite.TypeOf", "(internal/reflectlite.Value).Elem", "(internal/reflectlite.Value).Set"], unfollowed := true, recurses := true, named := ["errors.errorType"], apart := false, laid := [("errors.errorType", laid_errors_errorType)] }
def BlockKindsSaid : Prop := blockKindsRow.holds Tryd.pinned (OpenSpec.ofChange blockKindsSpec)

/-- ITS FALSE NEIGHBOUR: 'it returns false'. Refute it at one input. -/
def blockKindsWrong : ChangeSpec := { name := "blockKinds", fn := fun _ => fun
  | [d] => { results := [.lit (.bool false)], args := [d] }
  | _ => none }
def BlockKindsWrongFalsely : Prop := blockKindsRow.holds Tryd.pinned (OpenSpec.ofChange blockKindsWrong)

/-- 'typecaselaw19.PlaceLies': WHATEVER THE INPUT: true; the input reads as it did. -/
def placeLiesSpec : ChangeSpec := { name := "placeLies", fn := fun _ => fun
  | [d1, d2, d3] => { results := [.lit (.bool true)], args := [d1, d2, d3] }
  | _ => none }
def placeLiesRow : OpenClaim := { program := "ytmbepfdnmgiifaadoor", sum := "d435a72c8b538619e350e14d53eb3e33df7433679dcf1ad2fb43e28b704d2026", func := "typecase/typecaselaw19.PlaceLies", spec := "placeLies", inPlace := ["internal/reflectlite.ValueOf", "(internal/reflectlite.Value).Type", "(internal/reflectlite.Value).IsNil", "internal/reflectlite.TypeOf", "(internal/reflectlite.Value).Elem", "(internal/reflectlite.Value).Set"], unfollowed := true, recurses := true, named := ["errors.errorType"], apart := false, laid := [("errors.errorType", laid_errors_errorType)] }
def PlaceLiesSaid : Prop := placeLiesRow.holds Tryd.pinned (OpenSpec.ofChange placeLiesSpec)

/-- ITS FALSE NEIGHBOUR: 'it returns false'. Refute it at one input. -/
def placeLiesWrong : ChangeSpec := { name := "placeLies", fn := fun _ => fun
  | [d1, d2, d3] => { results := [.lit (.bool false)], args := [d1, d2, d3] }
  | _ => none }
def PlaceLiesWrongFalsely : Prop := placeLiesRow.holds Tryd.pinned (OpenSpec.ofChange placeLiesWrong)

/-- 'typecaselaw19.PlaceGrows': WHATEVER THE INPUT: true; the input reads as it did. -/
def placeGrowsSpec : ChangeSpec := { name := "placeGrows", fn := fun _ => fun
  | [d1, d2, d3, d4] => { results := [.lit (.bool true)], args := [d1, d2, d3, d4] }
  | _ => none }
def placeGrowsRow : OpenClaim := { program := "ytmbepfdnmgiifaadoor", sum := "d435a72c8b538619e350e14d53eb3e33df7433679dcf1ad2fb43e28b704d2026", func := "typecase/typecaselaw19.PlaceGrows", spec := "placeGrows", inPlace := ["internal/reflectlite.ValueOf", "(internal/reflectlite.Value).Type", "(internal/reflectlite.Value).IsNil", "internal/reflectlite.TypeOf", "(internal/reflectlite.Value).Elem", "(internal/reflectlite.Value).Set"], unfollowed := true, recurses := true, named := ["errors.errorType"], apart := false, laid := [("errors.errorType", laid_errors_errorType)] }
def PlaceGrowsSaid : Prop := placeGrowsRow.holds Tryd.pinned (OpenSpec.ofChange placeGrowsSpec)

/-- ITS FALSE NEIGHBOUR: 'it returns false'. Refute it at one input. -/
def placeGrowsWrong : ChangeSpec := { name := "placeGrows", fn := fun _ => fun
  | [d1, d2, d3, d4] => { results := [.lit (.bool false)], args := [d1, d2, d3, d4] }
  | _ => none }
def PlaceGrowsWrongFalsely : Prop := placeGrowsRow.holds Tryd.pinned (OpenSpec.ofChange placeGrowsWrong)

/-- 'typecaselaw19.PlaceSteps': WHATEVER THE INPUT: true; the input reads as it did. -/
def placeStepsSpec : ChangeSpec := { name := "placeSteps", fn := fun _ => fun
  | [d1, d2, d3] => { results := [.lit (.bool true)], args := [d1, d2, d3] }
  | _ => none }
def placeStepsRow : OpenClaim := { program := "ytmbepfdnmgiifaadoor", sum := "d435a72c8b538619e350e14d53eb3e33df7433679dcf1ad2fb43e28b704d2026", func := "typecase/typecaselaw19.PlaceSteps", spec := "placeSteps", inPlace := ["internal/reflectlite.ValueOf", "(internal/reflectlite.Value).Type", "(internal/reflectlite.Value).IsNil", "internal/reflectlite.TypeOf", "(internal/reflectlite.Value).Elem", "(internal/reflectlite.Value).Set"], unfollowed := true, recurses := true, named := ["errors.errorType"], apart := false, laid := [("errors.errorType", laid_errors_errorType)] }
def PlaceStepsSaid : Prop := placeStepsRow.holds Tryd.pinned (OpenSpec.ofChange placeStepsSpec)

/-- ITS FALSE NEIGHBOUR: 'it returns false'. Refute it at one input. -/
def placeStepsWrong : ChangeSpec := { name := "placeSteps", fn := fun _ => fun
  | [d1, d2, d3] => { results := [.lit (.bool false)], args := [d1, d2, d3] }
  | _ => none }
def PlaceStepsWrongFalsely : Prop := placeStepsRow.holds Tryd.pinned (OpenSpec.ofChange placeStepsWrong)

/-- 'typecaselaw19.PlaceLabels': WHATEVER THE INPUT: true; the input reads as it did. -/
def placeLabelsSpec : ChangeSpec := { name := "placeLabels", fn := fun _ => fun
  | [d1, d2, d3] => { results := [.lit (.bool true)], args := [d1, d2, d3] }
  | _ => none }
def placeLabelsRow : OpenClaim := { program := "ytmbepfdnmgiifaadoor", sum := "d435a72c8b538619e350e14d53eb3e33df7433679dcf1ad2fb43e28b704d2026", func := "typecase/typecaselaw19.PlaceLabels", spec := "placeLabels", inPlace := ["internal/reflectlite.ValueOf", "(internal/reflectlite.Value).Type", "(internal/reflectlite.Value).IsNil", "internal/reflectlite.TypeOf", "(internal/reflectlite.Value).Elem", "(internal/reflectlite.Value).Set"], unfollowed := true, recurses := true, named := ["errors.errorType"], apart := false, laid := [("errors.errorType", laid_errors_errorType)] }
def PlaceLabelsSaid : Prop := placeLabelsRow.holds Tryd.pinned (OpenSpec.ofChange placeLabelsSpec)

/-- ITS FALSE NEIGHBOUR: 'it returns false'. Refute it at one input. -/
def placeLabelsWrong : ChangeSpec := { name := "placeLabels", fn := fun _ => fun
  | [d1, d2, d3] => { results := [.lit (.bool false)], args := [d1, d2, d3] }
  | _ => none }
def PlaceLabelsWrongFalsely : Prop := placeLabelsRow.holds Tryd.pinned (OpenSpec.ofChange placeLabelsWrong)

/- THE SECOND FORM. 'bulk': how many values and letters a reading holds, each counted each time it is reached (what is shared counts as often as it is met; a slice's spare places count too). A statement '..UptoSaid' is the law's where the arguments, and the package variables that the reading takes, are together of bulk at most 1048576: NARROWER than '..Said'. Prove '..Said' where nothing that the law and all that it calls make is longer than what came in: it says more and counts as full. Else prove '..UptoSaid'. A law counts once. -/
mutual
def uptoBulk {H : Type} : DataW H → Nat
  | .lit (.string bytes) => bytes.length + 1
  | .lit _ => 1
  | .nil => 1
  | .ptr d => uptoBulk d + 1
  | .slice elems spare => uptoBulkAll elems + uptoBulkAll spare + 1
  | .agg parts => uptoBulkAll parts + 1
  | .iface _ d => uptoBulk d + 1
  | .map entries => uptoBulkEntries entries + 1
  | .held _ => 1
def uptoBulkAll {H : Type} : List (DataW H) → Nat
  | [] => 0
  | d :: r => uptoBulk d + uptoBulkAll r
def uptoBulkEntries {H : Type} : List (Lit × DataW H) → Nat
  | [] => 0
  | x :: r => uptoBulkEntry x + uptoBulkEntries r
def uptoBulkEntry {H : Type} : Lit × DataW H → Nat
  | (.string bytes, d) => bytes.length + uptoBulk d + 1
  | (_, d) => uptoBulk d + 1
 end
def uptoSmall : (H : Type) → List (DataW H) → Bool := fun _ ds => decide (uptoBulkAll ds ≤ 1048576)
def OpenSpec.upto (s : _root_.Go.ChangeSpec) : _root_.Go.OpenSpec := { _root_.Go.OpenSpec.ofChange s with cond := some uptoSmall }

/-- 'typecaselaw13.BlockBehind', WHERE WHAT IT READS IS OF BULK AT MOST 1048576: true; the input reads as it did. -/
def blockBehindUptoRow : OpenClaim := { program := "ytmbepfdnmgiifaadoor", sum := "d435a72c8b538619e350e14d53eb3e33df7433679dcf1ad2fb43e28b704d2026", func := "typecase/typecaselaw13.BlockBehind", spec := "blockBehind", inPlace := ["internal/reflectlite.ValueOf", "(internal/reflectlite.Value).Type", "(internal/reflectlite.Value).IsNil", "internal/reflectlite.TypeOf", "(internal/reflectlite.Value).Elem", "(internal/reflectlite.Value).Set"], unfollowed := true, recurses := true, named := ["errors.errorType"], apart := false, laid := [("errors.errorType", laid_errors_errorType)], narrowed := true }
def BlockBehindUptoSaid : Prop := blockBehindUptoRow.holds Tryd.pinned (OpenSpec.upto blockBehindSpec)

/-- 'typecaselaw13.BlockWithin', WHERE WHAT IT READS IS OF BULK AT MOST 1048576: true; the input reads as it did. -/
def blockWithinUptoRow : OpenClaim := { program := "ytmbepfdnmgiifaadoor", sum := "d435a72c8b538619e350e14d53eb3e33df7433679dcf1ad2fb43e28b704d2026", func := "typecase/typecaselaw13.BlockWithin", spec := "blockWithin", inPlace := ["internal/reflectlite.ValueOf", "(internal/reflectlite.Value).Type", "(internal/reflectlite.Value).IsNil", "internal/reflectlite.TypeOf", "(internal/reflectlite.Value).Elem", "(internal/reflectlite.Value).Set"], unfollowed := true, recurses := true, named := ["errors.errorType"], apart := false, laid := [("errors.errorType", laid_errors_errorType)], narrowed := true }
def BlockWithinUptoSaid : Prop := blockWithinUptoRow.holds Tryd.pinned (OpenSpec.upto blockWithinSpec)

/-- 'typecaselaw13.BlockKinds', WHERE WHAT IT READS IS OF BULK AT MOST 1048576: true; the input reads as it did. -/
def blockKindsUptoRow : OpenClaim := { program := "ytmbepfdnmgiifaadoor", sum := "d435a72c8b538619e350e14d53eb3e33df7433679dcf1ad2fb43e28b704d2026", func := "typecase/typecaselaw13.BlockKinds", spec := "blockKinds", inPlace := ["internal/reflectlite.ValueOf", "(internal/reflectlite.Value).Type", "(internal/reflectlite.Value).IsNil", "internal/reflectlite.TypeOf", "(internal/reflectlite.Value).Elem", "(internal/reflectlite.Value).Set"], unfollowed := true, recurses := true, named := ["errors.errorType"], apart := false, laid := [("errors.errorType", laid_errors_errorType)], narrowed := true }
def BlockKindsUptoSaid : Prop := blockKindsUptoRow.holds Tryd.pinned (OpenSpec.upto blockKindsSpec)

/-- 'typecaselaw19.PlaceLies', WHERE WHAT IT READS IS OF BULK AT MOST 1048576: true; the input reads as it did. -/
def placeLiesUptoRow : OpenClaim := { program := "ytmbepfdnmgiifaadoor", sum := "d435a72c8b538619e350e14d53eb3e33df7433679dcf1ad2fb43e28b704d2026", func := "typecase/typecaselaw19.PlaceLies", spec := "placeLies", inPlace := ["internal/reflectlite.ValueOf", "(internal/reflectlite.Value).Type", "(internal/reflectlite.Value).IsNil", "internal/reflectlite.TypeOf", "(internal/reflectlite.Value).Elem", "(internal/reflectlite.Value).Set"], unfollowed := true, recurses := true, named := ["errors.errorType"], apart := false, laid := [("errors.errorType", laid_errors_errorType)], narrowed := true }
def PlaceLiesUptoSaid : Prop := placeLiesUptoRow.holds Tryd.pinned (OpenSpec.upto placeLiesSpec)

/-- 'typecaselaw19.PlaceGrows', WHERE WHAT IT READS IS OF BULK AT MOST 1048576: true; the input reads as it did. -/
def placeGrowsUptoRow : OpenClaim := { program := "ytmbepfdnmgiifaadoor", sum := "d435a72c8b538619e350e14d53eb3e33df7433679dcf1ad2fb43e28b704d2026", func := "typecase/typecaselaw19.PlaceGrows", spec := "placeGrows", inPlace := ["internal/reflectlite.ValueOf", "(internal/reflectlite.Value).Type", "(internal/reflectlite.Value).IsNil", "internal/reflectlite.TypeOf", "(internal/reflectlite.Value).Elem", "(internal/reflectlite.Value).Set"], unfollowed := true, recurses := true, named := ["errors.errorType"], apart := false, laid := [("errors.errorType", laid_errors_errorType)], narrowed := true }
def PlaceGrowsUptoSaid : Prop := placeGrowsUptoRow.holds Tryd.pinned (OpenSpec.upto placeGrowsSpec)

/-- 'typecaselaw19.PlaceSteps', WHERE WHAT IT READS IS OF BULK AT MOST 1048576: true; the input reads as it did. -/
def placeStepsUptoRow : OpenClaim := { program := "ytmbepfdnmgiifaadoor", sum := "d435a72c8b538619e350e14d53eb3e33df7433679dcf1ad2fb43e28b704d2026", func := "typecase/typecaselaw19.PlaceSteps", spec := "placeSteps", inPlace := ["internal/reflectlite.ValueOf", "(internal/reflectlite.Value).Type", "(internal/reflectlite.Value).IsNil", "internal/reflectlite.TypeOf", "(internal/reflectlite.Value).Elem", "(internal/reflectlite.Value).Set"], unfollowed := true, recurses := true, named := ["errors.errorType"], apart := false, laid := [("errors.errorType", laid_errors_errorType)], narrowed := true }
def PlaceStepsUptoSaid : Prop := placeStepsUptoRow.holds Tryd.pinned (OpenSpec.upto placeStepsSpec)

/-- 'typecaselaw19.PlaceLabels', WHERE WHAT IT READS IS OF BULK AT MOST 1048576: true; the input reads as it did. -/
def placeLabelsUptoRow : OpenClaim := { program := "ytmbepfdnmgiifaadoor", sum := "d435a72c8b538619e350e14d53eb3e33df7433679dcf1ad2fb43e28b704d2026", func := "typecase/typecaselaw19.PlaceLabels", spec := "placeLabels", inPlace := ["internal/reflectlite.ValueOf", "(internal/reflectlite.Value).Type", "(internal/reflectlite.Value).IsNil", "internal/reflectlite.TypeOf", "(internal/reflectlite.Value).Elem", "(internal/reflectlite.Value).Set"], unfollowed := true, recurses := true, named := ["errors.errorType"], apart := false, laid := [("errors.errorType", laid_errors_errorType)], narrowed := true }
def PlaceLabelsUptoSaid : Prop := placeLabelsUptoRow.holds Tryd.pinned (OpenSpec.upto placeLabelsSpec)

end Rows
end Go.Proofs.YtmbepfdnmgiifaaDoor

/-
  NARROWER THAN 'FOR EVERY INPUT', by the rows' own cells (each row's printed sentence says how): MacroHeads: laid · MacroBinds: laid · MacroParts: laid · EvalNodes: laid · EvalTexts: laid · EvalEarly: laid · EvalMoves: laid · EvalHalves: laid · MacroPlain: laid.
  DERIVED. THE GIVEN ROWS OF THIS SEAT. 9 by the template 'for every input the law returns true; each argument reads behind the call as it read before'; 0 by the template 'total and deterministic' (their statements: YtppobdnacmdgbaaDoorTotals.lean).
  GIVEN WITH THE SEED: the statements are not yours to turn. If you find one false, say at which input.
  Laid BY PROGRAM, IN A SANDBOX (cutbox-rows.mjs): the forced cells as the released guide's own fill.sh prints them over the translation 1c144fda68b1bacb… (all of the seat's roots in one cut). By AI agents, Wed Nov 11 2026. No macro, syntax, notation, axiom, sorry.
-/
import Derived.Test.YtppobdnacmdgbaaDoorChecked
import GoSem.Claim
import GoSem.ClaimJoined
import GoSem.ClaimMapViews
import Derived.JoinedTies
import Derived.KernelRfl
namespace Go.Proofs.YtppobdnacmdgbaaDoor
/- THE CELL 'sum', in the pinned program and in every row, IS THE sha256 OF THE DUMP (.gsa) THAT YtppobdnacmdgbaaDoorProg.lean LOADS. Nothing in Lean hashes anything: it is a label: what it is worth is what the hold of that sum in a sandbox is worth. -/
noncomputable def Tryd.pinned : Pinned := { name := "ytppobdnacmdgbaadoor", sum := "1c144fda68b1bacb02686fc25e8f7cfbf243c235ffd9f709ca8054b3f09d9dfa", checked := Tryd.checked }
namespace Rows
def none {H : Type} : Left H := { results := [], args := [] }

/- WHAT THE LISTED PACKAGE-LEVEL VARIABLES READ AS WHEN THE CALL BEGINS. Each datum BY PROGRAM (the guide's laid-datum.mjs) off the statement by which the dump's own 'gosem.cut.vars' lays the variable. In a bare row this is a premise. The card (YtppobdnacmdgbaaDoorCards.lean) ties it to the program's text. -/
def laid_errors_errorType {H : Type} : DataW H := .iface "internal/reflectlite.rtype" (.agg [.ptr (.lit (.string [101, 114, 114, 111, 114]))])

/-- 'typecaselaw14.MacroHeads': WHATEVER THE INPUT: true; the input reads as it did. -/
def macroHeadsSpec : ChangeSpec := { name := "macroHeads", fn := fun _ => fun
  | [d] => { results := [.lit (.bool true)], args := [d] }
  | _ => none }
def macroHeadsRow : OpenClaim := { program := "ytppobdnacmdgbaadoor", sum := "1c144fda68b1bacb02686fc25e8f7cfbf243c235ffd9f709ca8054b3f09d9dfa", func := "typecase/typecaselaw14.MacroHeads", spec := "macroHeads", inPlace := ["internal/reflectlite.ValueOf", "(internal/reflectlite.Value).Type", "(internal/reflectlite.Value).IsNil", "internal/reflectlite.TypeOf", "(internal/reflectlite.Value).Elem", "(internal/reflectlite.Value).Set"], unfollowed := true, recurses := true, named := ["errors.errorType"], apart := false, laid := [("errors.errorType", laid_errors_errorType)] }
def MacroHeadsSaid : Prop := macroHeadsRow.holds Tryd.pinned (OpenSpec.ofChange macroHeadsSpec)

/-- ITS FALSE NEIGHBOUR: 'it returns false'. Refute it at one input. -/
def macroHeadsWrong : ChangeSpec := { name := "macroHeads", fn := fun _ => fun
  | [d] => { results := [.lit (.bool false)], args := [d] }
  | _ => none }
def MacroHeadsWrongFalsely : Prop := macroHeadsRow.holds Tryd.pinned (OpenSpec.ofChange macroHeadsWrong)

/-- 'typecaselaw14.MacroBinds': WHATEVER THE INPUT: true; the input reads as it did. -/
def macroBindsSpec : ChangeSpec := { name := "macroBinds", fn := fun _ => fun
  | [d1, d2, d3] => { results := [.lit (.bool true)], args := [d1, d2, d3] }
  | _ => none }
def macroBindsRow : OpenClaim := { program := "ytppobdnacmdgbaadoor", sum := "1c144fda68b1bacb02686fc25e8f7cfbf243c235ffd9f709ca8054b3f09d9dfa", func := "typecase/typecaselaw14.MacroBinds", spec := "macroBinds", inPlace := ["internal/reflectlite.ValueOf", "(internal/reflectlite.Value).Type", "(internal/reflectlite.Value).IsNil", "internal/reflectlite.TypeOf", "(internal/reflectlite.Value).Elem", "(internal/reflectlite.Value).Set"], unfollowed := true, recurses := true, named := ["errors.errorType"], apart := false, laid := [("errors.errorType", laid_errors_errorType)] }
def MacroBindsSaid : Prop := macroBindsRow.holds Tryd.pinned (OpenSpec.ofChange macroBindsSpec)

/-- ITS FALSE NEIGHBOUR: 'it returns false'. Refute it at one input. -/
def macroBindsWrong : ChangeSpec := { name := "macroBinds", fn := fun _ => fun
  | [d1, d2, d3] => { results := [.lit (.bool false)], args := [d1, d2, d3] }
  | _ => none }
def MacroBindsWrongFalsely : Prop := macroBindsRow.holds Tryd.pinned (OpenSpec.ofChange macroBindsWrong)

/-- 'typecaselaw14.MacroParts': WHATEVER THE INPUT: true; the input reads as it did. -/
def macroPartsSpec : ChangeSpec := { name := "macroParts", fn := fun _ => fun
  | [d] => { results := [.lit (.bool true)], args := [d] }
  | _ => none }
def macroPartsRow : OpenClaim := { program := "ytppobdnacmdgbaadoor", sum := "1c144fda68b1bacb02686fc25e8f7cfbf243c235ffd9f709ca8054b3f09d9dfa", func := "typecase/typecaselaw14.MacroParts", spec := "macroParts", inPlace := ["internal/reflectlite.ValueOf", "(internal/reflectlite.Value).Type", "(internal/reflectlite.Value).IsNil", "internal/reflectlite.TypeOf", "(internal/reflectlite.Value).Elem", "(internal/reflectlite.Value).Set"], unfollowed := true, recurses := true, named := ["errors.errorType"], apart := false, laid := [("errors.errorType", laid_errors_errorType)] }
def MacroPartsSaid : Prop := macroPartsRow.holds Tryd.pinned (OpenSpec.ofChange macroPartsSpec)

/-- ITS FALSE NEIGHBOUR: 'it returns false'. Refute it at one input. -/
def macroPartsWrong : ChangeSpec := { name := "macroParts", fn := fun _ => fun
  | [d] => { results := [.lit (.bool false)], args := [d] }
  | _ => none }
def MacroPartsWrongFalsely : Prop := macroPartsRow.holds Tryd.pinned (OpenSpec.ofChange macroPartsWrong)

/-- 'typecaselaw12.EvalNodes': WHATEVER THE INPUT: true; the input reads as it did. -/
def evalNodesSpec : ChangeSpec := { name := "evalNodes", fn := fun _ => fun
  | [d1, d2, d3, d4] => { results := [.lit (.bool true)], args := [d1, d2, d3, d4] }
  | _ => none }
def evalNodesRow : OpenClaim := { program := "ytppobdnacmdgbaadoor", sum := "1c144fda68b1bacb02686fc25e8f7cfbf243c235ffd9f709ca8054b3f09d9dfa", func := "typecase/typecaselaw12.EvalNodes", spec := "evalNodes", inPlace := ["internal/reflectlite.ValueOf", "(internal/reflectlite.Value).Type", "(internal/reflectlite.Value).IsNil", "internal/reflectlite.TypeOf", "(internal/reflectlite.Value).Elem", "(internal/reflectlite.Value).Set"], unfollowed := true, recurses := true, named := ["errors.errorType"], apart := false, laid := [("errors.errorType", laid_errors_errorType)] }
def EvalNodesSaid : Prop := evalNodesRow.holds Tryd.pinned (OpenSpec.ofChange evalNodesSpec)

/-- ITS FALSE NEIGHBOUR: 'it returns false'. Refute it at one input. -/
def evalNodesWrong : ChangeSpec := { name := "evalNodes", fn := fun _ => fun
  | [d1, d2, d3, d4] => { results := [.lit (.bool false)], args := [d1, d2, d3, d4] }
  | _ => none }
def EvalNodesWrongFalsely : Prop := evalNodesRow.holds Tryd.pinned (OpenSpec.ofChange evalNodesWrong)

/-- 'typecaselaw12.EvalTexts': WHATEVER THE INPUT: true; the input reads as it did. -/
def evalTextsSpec : ChangeSpec := { name := "evalTexts", fn := fun _ => fun
  | [d1, d2, d3, d4] => { results := [.lit (.bool true)], args := [d1, d2, d3, d4] }
  | _ => none }
def evalTextsRow : OpenClaim := { program := "ytppobdnacmdgbaadoor", sum := "1c144fda68b1bacb02686fc25e8f7cfbf243c235ffd9f709ca8054b3f09d9dfa", func := "typecase/typecaselaw12.EvalTexts", spec := "evalTexts", inPlace := ["internal/reflectlite.ValueOf", "(internal/reflectlite.Value).Type", "(internal/reflectlite.Value).IsNil", "internal/reflectlite.TypeOf", "(internal/reflectlite.Value).Elem", "(internal/reflectlite.Value).Set"], unfollowed := true, recurses := true, named := ["errors.errorType"], apart := false, laid := [("errors.errorType", laid_errors_errorType)] }
def EvalTextsSaid : Prop := evalTextsRow.holds Tryd.pinned (OpenSpec.ofChange evalTextsSpec)

/-- ITS FALSE NEIGHBOUR: 'it returns false'. Refute it at one input. -/
def evalTextsWrong : ChangeSpec := { name := "evalTexts", fn := fun _ => fun
  | [d1, d2, d3, d4] => { results := [.lit (.bool false)], args := [d1, d2, d3, d4] }
  | _ => none }
def EvalTextsWrongFalsely : Prop := evalTextsRow.holds Tryd.pinned (OpenSpec.ofChange evalTextsWrong)

/-- 'typecaselaw12.EvalEarly': WHATEVER THE INPUT: true; the input reads as it did. -/
def evalEarlySpec : ChangeSpec := { name := "evalEarly", fn := fun _ => fun
  | [d1, d2, d3, d4] => { results := [.lit (.bool true)], args := [d1, d2, d3, d4] }
  | _ => none }
def evalEarlyRow : OpenClaim := { program := "ytppobdnacmdgbaadoor", sum := "1c144fda68b1bacb02686fc25e8f7cfbf243c235ffd9f709ca8054b3f09d9dfa", func := "typecase/typecaselaw12.EvalEarly", spec := "evalEarly", inPlace := ["internal/reflectlite.ValueOf", "(internal/reflectlite.Value).Type", "(internal/reflectlite.Value).IsNil", "internal/reflectlite.TypeOf", "(internal/reflectlite.Value).Elem", "(internal/reflectlite.Value).Set"], unfollowed := true, recurses := true, named := ["errors.errorType"], apart := false, laid := [("errors.errorType", laid_errors_errorType)] }
def EvalEarlySaid : Prop := evalEarlyRow.holds Tryd.pinned (OpenSpec.ofChange evalEarlySpec)

/-- ITS FALSE NEIGHBOUR: 'it returns false'. Refute it at one input. -/
def evalEarlyWrong : ChangeSpec := { name := "evalEarly", fn := fun _ => fun
  | [d1, d2, d3, d4] => { results := [.lit (.bool false)], args := [d1, d2, d3, d4] }
  | _ => none }
def EvalEarlyWrongFalsely : Prop := evalEarlyRow.holds Tryd.pinned (OpenSpec.ofChange evalEarlyWrong)

/-- 'typecaselaw12.EvalMoves': WHATEVER THE INPUT: true; the input reads as it did. -/
def evalMovesSpec : ChangeSpec := { name := "evalMoves", fn := fun _ => fun
  | [d1, d2, d3, d4] => { results := [.lit (.bool true)], args := [d1, d2, d3, d4] }
  | _ => none }
def evalMovesRow : OpenClaim := { program := "ytppobdnacmdgbaadoor", sum := "1c144fda68b1bacb02686fc25e8f7cfbf243c235ffd9f709ca8054b3f09d9dfa", func := "typecase/typecaselaw12.EvalMoves", spec := "evalMoves", inPlace := ["internal/reflectlite.ValueOf", "(internal/reflectlite.Value).Type", "(internal/reflectlite.Value).IsNil", "internal/reflectlite.TypeOf", "(internal/reflectlite.Value).Elem", "(internal/reflectlite.Value).Set"], unfollowed := true, recurses := true, named := ["errors.errorType"], apart := false, laid := [("errors.errorType", laid_errors_errorType)] }
def EvalMovesSaid : Prop := evalMovesRow.holds Tryd.pinned (OpenSpec.ofChange evalMovesSpec)

/-- ITS FALSE NEIGHBOUR: 'it returns false'. Refute it at one input. -/
def evalMovesWrong : ChangeSpec := { name := "evalMoves", fn := fun _ => fun
  | [d1, d2, d3, d4] => { results := [.lit (.bool false)], args := [d1, d2, d3, d4] }
  | _ => none }
def EvalMovesWrongFalsely : Prop := evalMovesRow.holds Tryd.pinned (OpenSpec.ofChange evalMovesWrong)

/-- 'typecaselaw12.EvalHalves': WHATEVER THE INPUT: true; the input reads as it did. -/
def evalHalvesSpec : ChangeSpec := { name := "evalHalves", fn := fun _ => fun
  | [d] => { results := [.lit (.bool true)], args := [d] }
  | _ => none }
def evalHalvesRow : OpenClaim := { program := "ytppobdnacmdgbaadoor", sum := "1c144fda68b1bacb02686fc25e8f7cfbf243c235ffd9f709ca8054b3f09d9dfa", func := "typecase/typecaselaw12.EvalHalves", spec := "evalHalves", inPlace := ["internal/reflectlite.ValueOf", "(internal/reflectlite.Value).Type", "(internal/reflectlite.Value).IsNil", "internal/reflectlite.TypeOf", "(internal/reflectlite.Value).Elem", "(internal/reflectlite.Value).Set"], unfollowed := true, recurses := true, named := ["errors.errorType"], apart := false, laid := [("errors.errorType", laid_errors_errorType)] }
def EvalHalvesSaid : Prop := evalHalvesRow.holds Tryd.pinned (OpenSpec.ofChange evalHalvesSpec)

/-- ITS FALSE NEIGHBOUR: 'it returns false'. Refute it at one input. -/
def evalHalvesWrong : ChangeSpec := { name := "evalHalves", fn := fun _ => fun
  | [d] => { results := [.lit (.bool false)], args := [d] }
  | _ => none }
def EvalHalvesWrongFalsely : Prop := evalHalvesRow.holds Tryd.pinned (OpenSpec.ofChange evalHalvesWrong)

/-- 'typecaselaw14.MacroPlain': WHATEVER THE INPUT: true; the input reads as it did. -/
def macroPlainSpec : ChangeSpec := { name := "macroPlain", fn := fun _ => fun
  | [d1, d2, d3] => { results := [.lit (.bool true)], args := [d1, d2, d3] }
  | _ => none }
def macroPlainRow : OpenClaim := { program := "ytppobdnacmdgbaadoor", sum := "1c144fda68b1bacb02686fc25e8f7cfbf243c235ffd9f709ca8054b3f09d9dfa", func := "typecase/typecaselaw14.MacroPlain", spec := "macroPlain", inPlace := ["internal/reflectlite.ValueOf", "(internal/reflectlite.Value).Type", "(internal/reflectlite.Value).IsNil", "internal/reflectlite.TypeOf", "(internal/reflectlite.Value).Elem", "(internal/reflectlite.Value).Set"], unfollowed := true, recurses := true, named := ["errors.errorType"], apart := false, laid := [("errors.errorType", laid_errors_errorType)] }
def MacroPlainSaid : Prop := macroPlainRow.holds Tryd.pinned (OpenSpec.ofChange macroPlainSpec)

/-- ITS FALSE NEIGHBOUR: 'it returns false'. Refute it at one input. -/
def macroPlainWrong : ChangeSpec := { name := "macroPlain", fn := fun _ => fun
  | [d1, d2, d3] => { results := [.lit (.bool false)], args := [d1, d2, d3] }
  | _ => none }
def MacroPlainWrongFalsely : Prop := macroPlainRow.holds Tryd.pinned (OpenSpec.ofChange macroPlainWrong)

/- THE SECOND FORM. 'bulk': how many values and letters a reading holds, each counted each time it is reached (what is shared counts as often as it is met; a slice's spare places count too). A statement '..UptoSaid' is the law's where the arguments, and the package variables that the reading takes, are together of bulk at most 1048576: NARROWER than '..Said'. Prove '..Said' where nothing that the law and all that it calls make is longer than what came in: it says more and counts as full. Else prove '..UptoSaid'. A law counts once. -/
mutual
def uptoBulk {H : Type} : DataW H → Nat
  | .lit (.string bytes) => bytes.length + 1
  | .lit _ => 1
  | .nil => 1
  | .ptr d => uptoBulk d + 1
  | .slice elems spare => uptoBulkAll elems + uptoBulkAll spare + 1
  | .agg parts => uptoBulkAll parts + 1
  | .iface _ d => uptoBulk d + 1
  | .map entries => uptoBulkEntries entries + 1
  | .held _ => 1
def uptoBulkAll {H : Type} : List (DataW H) → Nat
  | [] => 0
  | d :: r => uptoBulk d + uptoBulkAll r
def uptoBulkEntries {H : Type} : List (Lit × DataW H) → Nat
  | [] => 0
  | x :: r => uptoBulkEntry x + uptoBulkEntries r
def uptoBulkEntry {H : Type} : Lit × DataW H → Nat
  | (.string bytes, d) => bytes.length + uptoBulk d + 1
  | (_, d) => uptoBulk d + 1
 end
def uptoSmall : (H : Type) → List (DataW H) → Bool := fun _ ds => decide (uptoBulkAll ds ≤ 1048576)
def OpenSpec.upto (s : _root_.Go.ChangeSpec) : _root_.Go.OpenSpec := { _root_.Go.OpenSpec.ofChange s with cond := some uptoSmall }

/-- 'typecaselaw14.MacroHeads', WHERE WHAT IT READS IS OF BULK AT MOST 1048576: true; the input reads as it did. -/
def macroHeadsUptoRow : OpenClaim := { program := "ytppobdnacmdgbaadoor", sum := "1c144fda68b1bacb02686fc25e8f7cfbf243c235ffd9f709ca8054b3f09d9dfa", func := "typecase/typecaselaw14.MacroHeads", spec := "macroHeads", inPlace := ["internal/reflectlite.ValueOf", "(internal/reflectlite.Value).Type", "(internal/reflectlite.Value).IsNil", "internal/reflectlite.TypeOf", "(internal/reflectlite.Value).Elem", "(internal/reflectlite.Value).Set"], unfollowed := true, recurses := true, named := ["errors.errorType"], apart := false, laid := [("errors.errorType", laid_errors_errorType)], narrowed := true }
def MacroHeadsUptoSaid : Prop := macroHeadsUptoRow.holds Tryd.pinned (OpenSpec.upto macroHeadsSpec)

/-- 'typecaselaw14.MacroBinds', WHERE WHAT IT READS IS OF BULK AT MOST 1048576: true; the input reads as it did. -/
def macroBindsUptoRow : OpenClaim := { program := "ytppobdnacmdgbaadoor", sum := "1c144fda68b1bacb02686fc25e8f7cfbf243c235ffd9f709ca8054b3f09d9dfa", func := "typecase/typecaselaw14.MacroBinds", spec := "macroBinds", inPlace := ["internal/reflectlite.ValueOf", "(internal/reflectlite.Value).Type", "(internal/reflectlite.Value).IsNil", "internal/reflectlite.TypeOf", "(internal/reflectlite.Value).Elem", "(internal/reflectlite.Value).Set"], unfollowed := true, recurses := true, named := ["errors.errorType"], apart := false, laid := [("errors.errorType", laid_errors_errorType)], narrowed := true }
def MacroBindsUptoSaid : Prop := macroBindsUptoRow.holds Tryd.pinned (OpenSpec.upto macroBindsSpec)

/-- 'typecaselaw14.MacroParts', WHERE WHAT IT READS IS OF BULK AT MOST 1048576: true; the input reads as it did. -/
def macroPartsUptoRow : OpenClaim := { program := "ytppobdnacmdgbaadoor", sum := "1c144fda68b1bacb02686fc25e8f7cfbf243c235ffd9f709ca8054b3f09d9dfa", func := "typecase/typecaselaw14.MacroParts", spec := "macroParts", inPlace := ["internal/reflectlite.ValueOf", "(internal/reflectlite.Value).Type", "(internal/reflectlite.Value).IsNil", "internal/reflectlite.TypeOf", "(internal/reflectlite.Value).Elem", "(internal/reflectlite.Value).Set"], unfollowed := true, recurses := true, named := ["errors.errorType"], apart := false, laid := [("errors.errorType", laid_errors_errorType)], narrowed := true }
def MacroPartsUptoSaid : Prop := macroPartsUptoRow.holds Tryd.pinned (OpenSpec.upto macroPartsSpec)

/-- 'typecaselaw12.EvalNodes', WHERE WHAT IT READS IS OF BULK AT MOST 1048576: true; the input reads as it did. -/
def evalNodesUptoRow : OpenClaim := { program := "ytppobdnacmdgbaadoor", sum := "1c144fda68b1bacb02686fc25e8f7cfbf243c235ffd9f709ca8054b3f09d9dfa", func := "typecase/typecaselaw12.EvalNodes", spec := "evalNodes", inPlace := ["internal/reflectlite.ValueOf", "(internal/reflectlite.Value).Type", "(internal/reflectlite.Value).IsNil", "internal/reflectlite.TypeOf", "(internal/reflectlite.Value).Elem", "(internal/reflectlite.Value).Set"], unfollowed := true, recurses := true, named := ["errors.errorType"], apart := false, laid := [("errors.errorType", laid_errors_errorType)], narrowed := true }
def EvalNodesUptoSaid : Prop := evalNodesUptoRow.holds Tryd.pinned (OpenSpec.upto evalNodesSpec)

/-- 'typecaselaw12.EvalTexts', WHERE WHAT IT READS IS OF BULK AT MOST 1048576: true; the input reads as it did. -/
def evalTextsUptoRow : OpenClaim := { program := "ytppobdnacmdgbaadoor", sum := "1c144fda68b1bacb02686fc25e8f7cfbf243c235ffd9f709ca8054b3f09d9dfa", func := "typecase/typecaselaw12.EvalTexts", spec := "evalTexts", inPlace := ["internal/reflectlite.ValueOf", "(internal/reflectlite.Value).Type", "(internal/reflectlite.Value).IsNil", "internal/reflectlite.TypeOf", "(internal/reflectlite.Value).Elem", "(internal/reflectlite.Value).Set"], unfollowed := true, recurses := true, named := ["errors.errorType"], apart := false, laid := [("errors.errorType", laid_errors_errorType)], narrowed := true }
def EvalTextsUptoSaid : Prop := evalTextsUptoRow.holds Tryd.pinned (OpenSpec.upto evalTextsSpec)

/-- 'typecaselaw12.EvalEarly', WHERE WHAT IT READS IS OF BULK AT MOST 1048576: true; the input reads as it did. -/
def evalEarlyUptoRow : OpenClaim := { program := "ytppobdnacmdgbaadoor", sum := "1c144fda68b1bacb02686fc25e8f7cfbf243c235ffd9f709ca8054b3f09d9dfa", func := "typecase/typecaselaw12.EvalEarly", spec := "evalEarly", inPlace := ["internal/reflectlite.ValueOf", "(internal/reflectlite.Value).Type", "(internal/reflectlite.Value).IsNil", "internal/reflectlite.TypeOf", "(internal/reflectlite.Value).Elem", "(internal/reflectlite.Value).Set"], unfollowed := true, recurses := true, named := ["errors.errorType"], apart := false, laid := [("errors.errorType", laid_errors_errorType)], narrowed := true }
def EvalEarlyUptoSaid : Prop := evalEarlyUptoRow.holds Tryd.pinned (OpenSpec.upto evalEarlySpec)

/-- 'typecaselaw12.EvalMoves', WHERE WHAT IT READS IS OF BULK AT MOST 1048576: true; the input reads as it did. -/
def evalMovesUptoRow : OpenClaim := { program := "ytppobdnacmdgbaadoor", sum := "1c144fda68b1bacb02686fc25e8f7cfbf243c235ffd9f709ca8054b3f09d9dfa", func := "typecase/typecaselaw12.EvalMoves", spec := "evalMoves", inPlace := ["internal/reflectlite.ValueOf", "(internal/reflectlite.Value).Type", "(internal/reflectlite.Value).IsNil", "internal/reflectlite.TypeOf", "(internal/reflectlite.Value).Elem", "(internal/reflectlite.Value).Set"], unfollowed := true, recurses := true, named := ["errors.errorType"], apart := false, laid := [("errors.errorType", laid_errors_errorType)], narrowed := true }
def EvalMovesUptoSaid : Prop := evalMovesUptoRow.holds Tryd.pinned (OpenSpec.upto evalMovesSpec)

/-- 'typecaselaw12.EvalHalves', WHERE WHAT IT READS IS OF BULK AT MOST 1048576: true; the input reads as it did. -/
def evalHalvesUptoRow : OpenClaim := { program := "ytppobdnacmdgbaadoor", sum := "1c144fda68b1bacb02686fc25e8f7cfbf243c235ffd9f709ca8054b3f09d9dfa", func := "typecase/typecaselaw12.EvalHalves", spec := "evalHalves", inPlace := ["internal/reflectlite.ValueOf", "(internal/reflectlite.Value).Type", "(internal/reflectlite.Value).IsNil", "internal/reflectlite.TypeOf", "(internal/reflectlite.Value).Elem", "(internal/reflectlite.Value).Set"], unfollowed := true, recurses := true, named := ["errors.errorType"], apart := false, laid := [("errors.errorType", laid_errors_errorType)], narrowed := true }
def EvalHalvesUptoSaid : Prop := evalHalvesUptoRow.holds Tryd.pinned (OpenSpec.upto evalHalvesSpec)

/-- 'typecaselaw14.MacroPlain', WHERE WHAT IT READS IS OF BULK AT MOST 1048576: true; the input reads as it did. -/
def macroPlainUptoRow : OpenClaim := { program := "ytppobdnacmdgbaadoor", sum := "1c144fda68b1bacb02686fc25e8f7cfbf243c235ffd9f709ca8054b3f09d9dfa", func := "typecase/typecaselaw14.MacroPlain", spec := "macroPlain", inPlace := ["internal/reflectlite.ValueOf", "(internal/reflectlite.Value).Type", "(internal/reflectlite.Value).IsNil", "internal/reflectlite.TypeOf", "(internal/reflectlite.Value).Elem", "(internal/reflectlite.Value).Set"], unfollowed := true, recurses := true, named := ["errors.errorType"], apart := false, laid := [("errors.errorType", laid_errors_errorType)], narrowed := true }
def MacroPlainUptoSaid : Prop := macroPlainUptoRow.holds Tryd.pinned (OpenSpec.upto macroPlainSpec)

end Rows
end Go.Proofs.YtppobdnacmdgbaaDoor

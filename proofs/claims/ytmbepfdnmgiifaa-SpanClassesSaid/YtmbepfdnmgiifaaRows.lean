/-
  No cell of these rows narrows 'for every input' (looked for: loops, veiled, ifaces, maps, wideKeys, modest, calm, conditions, laid).
  DERIVED. THE GIVEN ROWS OF THIS SEAT. 4 by the template 'for every input the law returns true; each argument reads behind the call as it read before'; 0 by the template 'total and deterministic' (their statements: YtmbepfdnmgiifaaTotals.lean).
  GIVEN WITH THE SEED: the statements are not yours to turn. If you find one false, say at which input.
  Laid BY PROGRAM, IN A SANDBOX (cutbox-rows.mjs): the forced cells as the released guide's own fill.sh prints them over the translation 428752cd1d273ca7… (all of the seat's roots in one cut). By AI agents, Wed Nov 11 2026. No macro, syntax, notation, axiom, sorry.
-/
import Derived.Test.YtmbepfdnmgiifaaChecked
import GoSem.Claim
import GoSem.ClaimJoined
import GoSem.ClaimMapViews
import Derived.JoinedTies
import Derived.KernelRfl
namespace Go.Proofs.Ytmbepfdnmgiifaa
/- THE CELL 'sum', in the pinned program and in every row, IS THE sha256 OF THE DUMP (.gsa) THAT YtmbepfdnmgiifaaProg.lean LOADS. Nothing in Lean hashes anything: it is a label: what it is worth is what the hold of that sum in a sandbox is worth. -/
noncomputable def Try.pinned : Pinned := { name := "ytmbepfdnmgiifaa", sum := "428752cd1d273ca7e503cc1d0906a9f750e5dd5d7ecc95c7d85982b0d92b1b34", checked := Try.checked }
namespace Rows
def none {H : Type} : Left H := { results := [], args := [] }

/-- 'typecaselaw18.SpanReaches': WHATEVER THE INPUT: true; the input reads as it did. -/
def spanReachesSpec : ChangeSpec := { name := "spanReaches", fn := fun _ => fun
  | [d1, d2, d3] => { results := [.lit (.bool true)], args := [d1, d2, d3] }
  | _ => none }
def spanReachesRow : OpenClaim := { program := "ytmbepfdnmgiifaa", sum := "428752cd1d273ca7e503cc1d0906a9f750e5dd5d7ecc95c7d85982b0d92b1b34", func := "typecase/typecaselaw18.SpanReaches", spec := "spanReaches", apart := false }
def SpanReachesSaid : Prop := spanReachesRow.holds Try.pinned (OpenSpec.ofChange spanReachesSpec)

/-- ITS FALSE NEIGHBOUR: 'it returns false'. Refute it at one input. -/
def spanReachesWrong : ChangeSpec := { name := "spanReaches", fn := fun _ => fun
  | [d1, d2, d3] => { results := [.lit (.bool false)], args := [d1, d2, d3] }
  | _ => none }
def SpanReachesWrongFalsely : Prop := spanReachesRow.holds Try.pinned (OpenSpec.ofChange spanReachesWrong)

/-- 'typecaselaw18.SpanClasses': WHATEVER THE INPUT: true; the input reads as it did. -/
def spanClassesSpec : ChangeSpec := { name := "spanClasses", fn := fun _ => fun
  | [d1, d2] => { results := [.lit (.bool true)], args := [d1, d2] }
  | _ => none }
def spanClassesRow : OpenClaim := { program := "ytmbepfdnmgiifaa", sum := "428752cd1d273ca7e503cc1d0906a9f750e5dd5d7ecc95c7d85982b0d92b1b34", func := "typecase/typecaselaw18.SpanClasses", spec := "spanClasses", apart := false }
def SpanClassesSaid : Prop := spanClassesRow.holds Try.pinned (OpenSpec.ofChange spanClassesSpec)

/-- ITS FALSE NEIGHBOUR: 'it returns false'. Refute it at one input. -/
def spanClassesWrong : ChangeSpec := { name := "spanClasses", fn := fun _ => fun
  | [d1, d2] => { results := [.lit (.bool false)], args := [d1, d2] }
  | _ => none }
def SpanClassesWrongFalsely : Prop := spanClassesRow.holds Try.pinned (OpenSpec.ofChange spanClassesWrong)

/-- 'typecaselaw18.SpanGrows': WHATEVER THE INPUT: true; the input reads as it did. -/
def spanGrowsSpec : ChangeSpec := { name := "spanGrows", fn := fun _ => fun
  | [d1, d2, d3, d4] => { results := [.lit (.bool true)], args := [d1, d2, d3, d4] }
  | _ => none }
def spanGrowsRow : OpenClaim := { program := "ytmbepfdnmgiifaa", sum := "428752cd1d273ca7e503cc1d0906a9f750e5dd5d7ecc95c7d85982b0d92b1b34", func := "typecase/typecaselaw18.SpanGrows", spec := "spanGrows", apart := false }
def SpanGrowsSaid : Prop := spanGrowsRow.holds Try.pinned (OpenSpec.ofChange spanGrowsSpec)

/-- ITS FALSE NEIGHBOUR: 'it returns false'. Refute it at one input. -/
def spanGrowsWrong : ChangeSpec := { name := "spanGrows", fn := fun _ => fun
  | [d1, d2, d3, d4] => { results := [.lit (.bool false)], args := [d1, d2, d3, d4] }
  | _ => none }
def SpanGrowsWrongFalsely : Prop := spanGrowsRow.holds Try.pinned (OpenSpec.ofChange spanGrowsWrong)

/-- 'typecaselaw18.SpanClimbs': WHATEVER THE INPUT: true; the input reads as it did. -/
def spanClimbsSpec : ChangeSpec := { name := "spanClimbs", fn := fun _ => fun
  | [d] => { results := [.lit (.bool true)], args := [d] }
  | _ => none }
def spanClimbsRow : OpenClaim := { program := "ytmbepfdnmgiifaa", sum := "428752cd1d273ca7e503cc1d0906a9f750e5dd5d7ecc95c7d85982b0d92b1b34", func := "typecase/typecaselaw18.SpanClimbs", spec := "spanClimbs", apart := false }
def SpanClimbsSaid : Prop := spanClimbsRow.holds Try.pinned (OpenSpec.ofChange spanClimbsSpec)

/-- ITS FALSE NEIGHBOUR: 'it returns false'. Refute it at one input. -/
def spanClimbsWrong : ChangeSpec := { name := "spanClimbs", fn := fun _ => fun
  | [d] => { results := [.lit (.bool false)], args := [d] }
  | _ => none }
def SpanClimbsWrongFalsely : Prop := spanClimbsRow.holds Try.pinned (OpenSpec.ofChange spanClimbsWrong)

/- THE SECOND FORM. 'bulk': how many values and letters a reading holds, each counted each time it is reached (what is shared counts as often as it is met; a slice's spare places count too). A statement '..UptoSaid' is the law's where the arguments, and the package variables that the reading takes, are together of bulk at most 1048576: NARROWER than '..Said'. Prove '..Said' where nothing that the law and all that it calls make is longer than what came in: it says more and counts as full. Else prove '..UptoSaid'. A law counts once. -/
mutual
def uptoBulk {H : Type} : DataW H → Nat
  | .lit (.string bytes) => bytes.length + 1
  | .lit _ => 1
  | .nil => 1
  | .ptr d => uptoBulk d + 1
  | .slice elems spare => uptoBulkAll elems + uptoBulkAll spare + 1
  | .agg parts => uptoBulkAll parts + 1
  | .iface _ d => uptoBulk d + 1
  | .map entries => uptoBulkEntries entries + 1
  | .held _ => 1
def uptoBulkAll {H : Type} : List (DataW H) → Nat
  | [] => 0
  | d :: r => uptoBulk d + uptoBulkAll r
def uptoBulkEntries {H : Type} : List (Lit × DataW H) → Nat
  | [] => 0
  | x :: r => uptoBulkEntry x + uptoBulkEntries r
def uptoBulkEntry {H : Type} : Lit × DataW H → Nat
  | (.string bytes, d) => bytes.length + uptoBulk d + 1
  | (_, d) => uptoBulk d + 1
 end
def uptoSmall : (H : Type) → List (DataW H) → Bool := fun _ ds => decide (uptoBulkAll ds ≤ 1048576)
def OpenSpec.upto (s : _root_.Go.ChangeSpec) : _root_.Go.OpenSpec := { _root_.Go.OpenSpec.ofChange s with cond := some uptoSmall }

/-- 'typecaselaw18.SpanReaches', WHERE WHAT IT READS IS OF BULK AT MOST 1048576: true; the input reads as it did. -/
def spanReachesUptoRow : OpenClaim := { program := "ytmbepfdnmgiifaa", sum := "428752cd1d273ca7e503cc1d0906a9f750e5dd5d7ecc95c7d85982b0d92b1b34", func := "typecase/typecaselaw18.SpanReaches", spec := "spanReaches", apart := false, narrowed := true }
def SpanReachesUptoSaid : Prop := spanReachesUptoRow.holds Try.pinned (OpenSpec.upto spanReachesSpec)

/-- 'typecaselaw18.SpanClasses', WHERE WHAT IT READS IS OF BULK AT MOST 1048576: true; the input reads as it did. -/
def spanClassesUptoRow : OpenClaim := { program := "ytmbepfdnmgiifaa", sum := "428752cd1d273ca7e503cc1d0906a9f750e5dd5d7ecc95c7d85982b0d92b1b34", func := "typecase/typecaselaw18.SpanClasses", spec := "spanClasses", apart := false, narrowed := true }
def SpanClassesUptoSaid : Prop := spanClassesUptoRow.holds Try.pinned (OpenSpec.upto spanClassesSpec)

/-- 'typecaselaw18.SpanGrows', WHERE WHAT IT READS IS OF BULK AT MOST 1048576: true; the input reads as it did. -/
def spanGrowsUptoRow : OpenClaim := { program := "ytmbepfdnmgiifaa", sum := "428752cd1d273ca7e503cc1d0906a9f750e5dd5d7ecc95c7d85982b0d92b1b34", func := "typecase/typecaselaw18.SpanGrows", spec := "spanGrows", apart := false, narrowed := true }
def SpanGrowsUptoSaid : Prop := spanGrowsUptoRow.holds Try.pinned (OpenSpec.upto spanGrowsSpec)

/-- 'typecaselaw18.SpanClimbs', WHERE WHAT IT READS IS OF BULK AT MOST 1048576: true; the input reads as it did. -/
def spanClimbsUptoRow : OpenClaim := { program := "ytmbepfdnmgiifaa", sum := "428752cd1d273ca7e503cc1d0906a9f750e5dd5d7ecc95c7d85982b0d92b1b34", func := "typecase/typecaselaw18.SpanClimbs", spec := "spanClimbs", apart := false, narrowed := true }
def SpanClimbsUptoSaid : Prop := spanClimbsUptoRow.holds Try.pinned (OpenSpec.upto spanClimbsSpec)

end Rows
end Go.Proofs.Ytmbepfdnmgiifaa

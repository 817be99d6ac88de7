import Derived.Test.YtmbepfdnmgiifaaItm
set_option linter.unusedVariables false
set_option linter.unusedSimpArgs false
namespace Go.Proofs.Ytmbepfdnmgiifaa
open Go.Vp Go.RowKit
theorem own : ownKnob Try.prog.godebug = none := by kernel_rfl
theorem laidOut : laidOutB Try.prog = true := by kernel_rfl
theorem shA_itm {x : AV} (h : ShA Try.prog 27 x) : ∃ i : Itm, x = .agg i.cells ∧ ItmOk i := by
  obtain ⟨l, rfl, g0⟩ := shA_struct (ts := [3, 3, 3, 9, 23, 9, 3, 24, 25, 4, 4]) (by kernel_rfl) h
  obtain ⟨i, rfl, hi⟩ := open_itm g0
  exact ⟨i, rfl, hi⟩
end Go.Proofs.Ytmbepfdnmgiifaa

/- The law BlockWithin of the given program: at every input the call hands back true, and its arguments read as before; the variable errors.errorType as the text lays it. -/
import Derived.Test.YtmbepfdnmgiifaaDoorSeat
import Derived.Test.YtmbepfdnmgiifaaDoorBlockWithinLaw
import Derived.Test.YtmbepfdnmgiifaaDoorCards
import Derived.Test.YtmbepfdnmgiifaaDoorTie
import Derived.SevenTiedAt
set_option linter.unusedVariables false
set_option linter.unusedSimpArgs false
namespace Go.Proofs.YtmbepfdnmgiifaaDoor
open Go Go.ChangeShapes Go.WideShapes Go.RowKit Go.Up
set_option maxRecDepth 100000 in
theorem blockWithin_lifted (os : Os) (started : os.Started) (H : Type) (enc : TypeId × Value → H) :
    ReturnsInHanded {} Tryd.checked os 4 .any (fun w args => (Rows.blockWithinSpec.pre enc Tryd.prog Tryd.f4 [] false w args ∧ laidMetH Tryd.prog [("errors.errorType", Rows.laid_errors_errorType)] w) ∧ sizedMet enc Tryd.prog Tryd.f4 (OpenSpec.ofChange Rows.blockWithinSpec) false w args)
      (Rows.blockWithinSpec.post enc Tryd.prog Tryd.f4 false true false false) := by
  refine returnsInHanded_of_change_and (C := Tryd.checked) (X := fun w _ => laidMetH Tryd.prog [("errors.errorType", Rows.laid_errors_errorType)] w) (fun _ _ _ hh h => h.of_heap hh) own started (by kernel_rfl) Tryd.func4
    (ChangeSpec.witness_at (enc := enc) (C := Tryd.checked) (os := os) (X := fun w _ => laidMetH Tryd.prog [("errors.errorType", Rows.laid_errors_errorType)] w) false (laidWorld os) #[.slice none 0 0, .int .i64 0, .int .i64 0] 8 rfl (by kernel_rfl) (by kernel_rfl) (by kernel_rfl) (by kernel_rfl) (by kernel_rfl) (laidWorld_met os _)) ?_
  intro W base args ds gs before hval hW _ _ hL _
  refine law_calls (n := 8) (bt := 4) (gs' := CC.gs) (ps := [(.slice (.slice .tok)), (.int .i64), (.int .i64)]) (run := fun N x => typecaselaw13_BlockWithin N x.1 x.2.1 x.2.2.1) laidOut (by kernel_rfl) rfl Tryd.underlying4 rfl (fun H ds h => ?_) (fun N => typecaselaw13_BlockWithin_ok N) (fun x hx => blockWithin_law x hx) W (glo_of_laid hL) args ds gs before hval hW
  match ds, h with
  | [d0, d1, d2], _ => rfl
theorem blockWithin_row : Rows.BlockWithinSaid :=
  OpenClaim.holds_of_wide 4 Tryd.f4 rfl rfl rfl rfl rfl rfl rfl ⟨rfl, rfl, rfl, rfl, rfl⟩ rfl rfl rfl rfl rfl (by kernel_rfl) Tryd.func4 (by kernel_rfl)
    (of_decide_eq_true (by kernel_rfl)) (by unfold Func.isWrapper; first | (rw [if_pos (by decide +kernel)]; kernel_rfl) | (rw [if_neg (by decide +kernel)]; exact ⟨rfl, rfl⟩))
    (fun os started H enc _ => blockWithin_lifted os started H enc)
theorem blockWithin_holds : Rows.BlockWithinCardSaid :=
  Claim7.holds_tied_plain_at .later [] [.handle] true (true, "949c0978f49879b972f655f9a6f904ae4c5dac44cf69e9293fabd334984be2e6") true
    blockWithin_row (fun _ h => by cases h) (by kernel_rfl) (fun _ h => by cases h) blockWithin_row_tie rfl ⟨rfl, rfl⟩ (by kernel_rfl) rfl
    (fun f fn hf hfn => by
      obtain rfl : f = 4 := Option.some.inj ((show Tryd.prog.funcNamed "typecase/typecaselaw13.BlockWithin" = some 4 by kernel_rfl).symm.trans hf) |>.symm
      obtain rfl : fn = Tryd.f4 := (Option.some.inj (Tryd.func4.symm.trans hfn)).symm
      exact ⟨by kernel_rfl, fun j t ht => by
        have hall : (Tryd.f4.params.toList.all fun t => !Tryd.prog.wantsStandIn t) = true := by kernel_rfl
        rw [List.all_eq_true] at hall
        have := hall t (List.mem_of_getElem? (l := Tryd.f4.params.toList) (i := j) (by simpa using ht))
        exact (show Tryd.prog.wantsStandIn t = false by simpa using this)⟩)
    (by kernel_rfl)
#print axioms blockWithin_holds
end Go.Proofs.YtmbepfdnmgiifaaDoor

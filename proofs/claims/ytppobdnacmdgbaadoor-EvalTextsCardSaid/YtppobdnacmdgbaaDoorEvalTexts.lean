/- The law EvalTexts of the given program: at every input the call hands back true, and its arguments read as before; the variable errors.errorType as the text lays it. -/
import Derived.Test.YtppobdnacmdgbaaDoorSeat
import Derived.Test.YtppobdnacmdgbaaDoorEvalTextsLaw
import Derived.Test.YtppobdnacmdgbaaDoorCards
import Derived.Test.YtppobdnacmdgbaaDoorTie
import Derived.SevenTiedAt
set_option linter.unusedVariables false
set_option linter.unusedSimpArgs false
namespace Go.Proofs.YtppobdnacmdgbaaDoor
open Go Go.ChangeShapes Go.WideShapes Go.RowKit Go.Up
set_option maxRecDepth 100000 in
theorem evalTexts_lifted (os : Os) (started : os.Started) (H : Type) (enc : TypeId × Value → H) :
    ReturnsInHanded {} Tryd.checked os 7 .any (fun w args => (Rows.evalTextsSpec.pre enc Tryd.prog Tryd.f7 [] false w args ∧ laidMetH Tryd.prog [("errors.errorType", Rows.laid_errors_errorType)] w) ∧ sizedMet enc Tryd.prog Tryd.f7 (OpenSpec.ofChange Rows.evalTextsSpec) false w args)
      (Rows.evalTextsSpec.post enc Tryd.prog Tryd.f7 false true false false) := by
  refine returnsInHanded_of_change_and (C := Tryd.checked) (X := fun w _ => laidMetH Tryd.prog [("errors.errorType", Rows.laid_errors_errorType)] w) (fun _ _ _ hh h => h.of_heap hh) own started (by kernel_rfl) Tryd.func7
    (ChangeSpec.witness_at (enc := enc) (C := Tryd.checked) (os := os) (X := fun w _ => laidMetH Tryd.prog [("errors.errorType", Rows.laid_errors_errorType)] w) false (laidWorld os) #[.string .empty, .slice none 0 0, .int .u32 0, .bool false] 8 rfl (by kernel_rfl) (by kernel_rfl) (by kernel_rfl) (by kernel_rfl) (by kernel_rfl) (laidWorld_met os _)) ?_
  intro W base args ds gs before hval hW _ _ hL _
  refine law_calls (n := 8) (bt := 4) (gs' := CC.gs) (ps := [.str, (.slice .sym), (.int .u32), .bool]) (run := fun N x => typecaselaw12_EvalTexts N x.1 x.2.1 x.2.2.1 x.2.2.2.1) laidOut (by kernel_rfl) rfl Tryd.underlying4 rfl (fun H ds h => ?_) (fun N => typecaselaw12_EvalTexts_ok N) (fun x hx => evalTexts_law x hx) W (glo_of_laid hL) args ds gs before hval hW
  match ds, h with
  | [d0, d1, d2, d3], _ => rfl
theorem evalTexts_row : Rows.EvalTextsSaid :=
  OpenClaim.holds_of_wide 7 Tryd.f7 rfl rfl rfl rfl rfl rfl rfl ⟨rfl, rfl, rfl, rfl, rfl⟩ rfl rfl rfl rfl rfl (by kernel_rfl) Tryd.func7 (by kernel_rfl)
    (of_decide_eq_true (by kernel_rfl)) (by unfold Func.isWrapper; first | (rw [if_pos (by decide +kernel)]; kernel_rfl) | (rw [if_neg (by decide +kernel)]; exact ⟨rfl, rfl⟩))
    (fun os started H enc _ => evalTexts_lifted os started H enc)
theorem evalTexts_holds : Rows.EvalTextsCardSaid :=
  Claim7.holds_tied_plain_at .later [] [.handle] true (true, "7e024257dfdd4c2811d94e657717f1c37e59ed733beb333ab008c0f4f0e5eab1") true
    evalTexts_row (fun _ h => by cases h) (by kernel_rfl) (fun _ h => by cases h) evalTexts_row_tie rfl ⟨rfl, rfl⟩ (by kernel_rfl) rfl
    (fun f fn hf hfn => by
      obtain rfl : f = 7 := Option.some.inj ((show Tryd.prog.funcNamed "typecase/typecaselaw12.EvalTexts" = some 7 by kernel_rfl).symm.trans hf) |>.symm
      obtain rfl : fn = Tryd.f7 := (Option.some.inj (Tryd.func7.symm.trans hfn)).symm
      exact ⟨by kernel_rfl, fun j t ht => by
        have hall : (Tryd.f7.params.toList.all fun t => !Tryd.prog.wantsStandIn t) = true := by kernel_rfl
        rw [List.all_eq_true] at hall
        have := hall t (List.mem_of_getElem? (l := Tryd.f7.params.toList) (i := j) (by simpa using ht))
        exact (show Tryd.prog.wantsStandIn t = false by simpa using this)⟩)
    (by kernel_rfl)
#print axioms evalTexts_holds
end Go.Proofs.YtppobdnacmdgbaaDoor

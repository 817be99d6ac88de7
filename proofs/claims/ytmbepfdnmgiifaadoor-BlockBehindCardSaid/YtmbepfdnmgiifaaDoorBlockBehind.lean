/- The law BlockBehind of the given program: at every input the call hands back true, and its arguments read as before; the variable errors.errorType as the text lays it. -/
import Derived.Test.YtmbepfdnmgiifaaDoorSeat
import Derived.Test.YtmbepfdnmgiifaaDoorBlockBehindLaw
import Derived.Test.YtmbepfdnmgiifaaDoorCards
import Derived.Test.YtmbepfdnmgiifaaDoorTie
import Derived.SevenTiedAt
set_option linter.unusedVariables false
set_option linter.unusedSimpArgs false
namespace Go.Proofs.YtmbepfdnmgiifaaDoor
open Go Go.ChangeShapes Go.WideShapes Go.RowKit Go.Up
set_option maxRecDepth 100000 in
theorem blockBehind_lifted (os : Os) (started : os.Started) (H : Type) (enc : TypeId × Value → H) :
    ReturnsInHanded {} Tryd.checked os 3 .any (fun w args => (Rows.blockBehindSpec.pre enc Tryd.prog Tryd.f3 [] false w args ∧ laidMetH Tryd.prog [("errors.errorType", Rows.laid_errors_errorType)] w) ∧ sizedMet enc Tryd.prog Tryd.f3 (OpenSpec.ofChange Rows.blockBehindSpec) false w args)
      (Rows.blockBehindSpec.post enc Tryd.prog Tryd.f3 false true false false) := by
  refine returnsInHanded_of_change_and (C := Tryd.checked) (X := fun w _ => laidMetH Tryd.prog [("errors.errorType", Rows.laid_errors_errorType)] w) (fun _ _ _ hh h => h.of_heap hh) own started (by kernel_rfl) Tryd.func3
    (ChangeSpec.witness_at (enc := enc) (C := Tryd.checked) (os := os) (X := fun w _ => laidMetH Tryd.prog [("errors.errorType", Rows.laid_errors_errorType)] w) false (laidWorld os) #[.slice none 0 0, .int .i64 0, .slice none 0 0] 8 rfl (by kernel_rfl) (by kernel_rfl) (by kernel_rfl) (by kernel_rfl) (by kernel_rfl) (laidWorld_met os _)) ?_
  intro W base args ds gs before hval hW _ _ hL _
  refine law_calls (n := 8) (bt := 4) (gs' := CC.gs) (ps := [(.slice (.slice .tok)), (.int .i64), (.slice (.slice .tok))]) (run := fun N x => typecaselaw13_BlockBehind N x.1 x.2.1 x.2.2.1) laidOut (by kernel_rfl) rfl Tryd.underlying4 rfl (fun H ds h => ?_) (fun N => typecaselaw13_BlockBehind_ok N) (fun x hx => blockBehind_law x hx) W (glo_of_laid hL) args ds gs before hval hW
  match ds, h with
  | [d0, d1, d2], _ => rfl
theorem blockBehind_row : Rows.BlockBehindSaid :=
  OpenClaim.holds_of_wide 3 Tryd.f3 rfl rfl rfl rfl rfl rfl rfl ⟨rfl, rfl, rfl, rfl, rfl⟩ rfl rfl rfl rfl rfl (by kernel_rfl) Tryd.func3 (by kernel_rfl)
    (of_decide_eq_true (by kernel_rfl)) (by unfold Func.isWrapper; first | (rw [if_pos (by decide +kernel)]; kernel_rfl) | (rw [if_neg (by decide +kernel)]; exact ⟨rfl, rfl⟩))
    (fun os started H enc _ => blockBehind_lifted os started H enc)
theorem blockBehind_holds : Rows.BlockBehindCardSaid :=
  Claim7.holds_tied_plain_at .later [] [.handle] true (true, "949c0978f49879b972f655f9a6f904ae4c5dac44cf69e9293fabd334984be2e6") true
    blockBehind_row (fun _ h => by cases h) (by kernel_rfl) (fun _ h => by cases h) blockBehind_row_tie rfl ⟨rfl, rfl⟩ (by kernel_rfl) rfl
    (fun f fn hf hfn => by
      obtain rfl : f = 3 := Option.some.inj ((show Tryd.prog.funcNamed "typecase/typecaselaw13.BlockBehind" = some 3 by kernel_rfl).symm.trans hf) |>.symm
      obtain rfl : fn = Tryd.f3 := (Option.some.inj (Tryd.func3.symm.trans hfn)).symm
      exact ⟨by kernel_rfl, fun j t ht => by
        have hall : (Tryd.f3.params.toList.all fun t => !Tryd.prog.wantsStandIn t) = true := by kernel_rfl
        rw [List.all_eq_true] at hall
        have := hall t (List.mem_of_getElem? (l := Tryd.f3.params.toList) (i := j) (by simpa using ht))
        exact (show Tryd.prog.wantsStandIn t = false by simpa using this)⟩)
    (by kernel_rfl)
#print axioms blockBehind_holds
end Go.Proofs.YtmbepfdnmgiifaaDoor

import Derived.Test.YtmbepfdnmgiifaaSpanI
import Derived.Test.YtmbepfdnmgiifaaSpanOpen
set_option linter.unusedVariables false
set_option linter.unusedSimpArgs false
namespace Go.Proofs.Ytmbepfdnmgiifaa
open Go.Vp Go.RowKit
set_option maxRecDepth 100000 in
theorem spanClasses_lifted (os : Os) (started : os.Started) (H : Type) (enc : TypeId × Value → H) :
    ReturnsInHanded {} Try.checked os 4 .any (Rows.spanClassesSpec.pre6 enc Try.prog Try.f4 Rows.spanClassesRow.domain false) (Rows.spanClassesSpec.post enc Try.prog Try.f4 false true false false) := by
  refine returnsInHanded_of_change (C := Try.checked) own started (by kernel_rfl) Try.func4
    (ChangeSpec.witness6 (enc := enc) (C := Try.checked) false ⟨#[], #[.agg #[.int .i64 0, .int .i64 0, .int .i64 0, .string .empty, .int .i64 0, .int .i64 0, .int .i64 0, .int .i64 0, .int .i32 0, .string .empty, .int .i64 0, .slice none 0 0, .int .u32 0, .bool false, .bool false], .int .i64 0], []⟩ 8 (by kernel_rfl) (by kernel_rfl) (by kernel_rfl) (by kernel_rfl)) ?_
  intro W base args ds gs before hval hW _ _
  refine law_calls (n := 8) (bt := 4) laidOut (by kernel_rfl) rfl Try.underlying4 rfl (fun H ds h => ?_) (fun l hl => ?_) W base args ds gs before hval hW
  · match ds, h with
    | [a, b], _ => rfl
  · have hl : ShAs Try.prog [27, 3] l := hl
    obtain ⟨x0, r, rfl, h0, hl⟩ := shAs_cons hl
    obtain ⟨x1, r, rfl, h1, hl⟩ := shAs_cons hl
    cases shAs_nil hl
    obtain ⟨i, rfl, hi⟩ := shA_itm h0
    obtain ⟨n, rfl, _⟩ := shA_int Try.underlying3 h1
    exact law_classes_p i n
theorem spanClasses_holds : Rows.SpanClassesSaid :=
  OpenClaim.holds_of_wide 4 Try.f4 rfl rfl rfl rfl rfl rfl rfl ⟨rfl, rfl, rfl, rfl, rfl⟩ rfl rfl rfl rfl rfl (by kernel_rfl) Try.func4 (by kernel_rfl)
    (of_decide_eq_true (by kernel_rfl)) (by unfold Func.isWrapper; first | (rw [if_pos (by decide +kernel)]; kernel_rfl) | (rw [if_neg (by decide +kernel)]; exact ⟨rfl, rfl⟩))
    (fun os started H enc _ => spanClasses_lifted os started H enc)
end Go.Proofs.Ytmbepfdnmgiifaa

import Derived.Test.YtmbepfdnmgiifaaSpanH
import Derived.Test.YtmbepfdnmgiifaaItm
set_option linter.unusedVariables false
set_option linter.unusedSimpArgs false
namespace Go.Proofs.Ytmbepfdnmgiifaa
open Go.Vp Go.RowKit
theorem own : ownKnob Try.prog.godebug = none := by kernel_rfl
theorem laidOut : laidOutB Try.prog = true := by kernel_rfl
theorem open_item3 {l : List AV} (h : ShAs Try.prog [27, 3, 21] l) : ∃ (i : Itm) (n far : Int), l = [.agg i.cells, .p (.int .i64 n), .p (.int .i32 far)] ∧ ItmOk i ∧ (-2147483648 ≤ far ∧ far < 2147483648) := by
  obtain ⟨x, r, rfl, h0, h⟩ := shAs_cons h
  obtain ⟨y, r, rfl, h1, h⟩ := shAs_cons h
  obtain ⟨z, r, rfl, h2, h⟩ := shAs_cons h
  cases shAs_nil h
  obtain ⟨l, rfl, g0⟩ := shA_struct (ts := [3, 3, 3, 9, 23, 9, 3, 24, 25, 4, 4]) (by kernel_rfl) h0
  obtain ⟨i, rfl, hi⟩ := open_itm g0
  obtain ⟨n, rfl, _⟩ := shA_int Try.underlying3 h1
  obtain ⟨far, rfl, hf⟩ := shA_int Try.underlying21 h2
  exact ⟨i, n, far, rfl, hi, wf_i32 hf⟩
set_option maxRecDepth 100000 in
theorem spanReaches_lifted (os : Os) (started : os.Started) (H : Type) (enc : TypeId × Value → H) :
    ReturnsInHanded {} Try.checked os 3 .any (Rows.spanReachesSpec.pre6 enc Try.prog Try.f3 Rows.spanReachesRow.domain false) (Rows.spanReachesSpec.post enc Try.prog Try.f3 false true false false) := by
  refine returnsInHanded_of_change (C := Try.checked) own started (by kernel_rfl) Try.func3
    (ChangeSpec.witness6 (enc := enc) (C := Try.checked) false ⟨#[], #[.agg #[.int .i64 0, .int .i64 0, .int .i64 0, .string .empty, .int .i64 0, .int .i64 0, .int .i64 0, .int .i64 0, .int .i32 0, .string .empty, .int .i64 0, .slice none 0 0, .int .u32 0, .bool false, .bool false], .int .i64 0, .int .i32 0], []⟩ 8 (by kernel_rfl) (by kernel_rfl) (by kernel_rfl) (by kernel_rfl)) ?_
  intro W base args ds gs before hval hW _ _
  refine law_calls (n := 8) (bt := 4) laidOut (by kernel_rfl) rfl Try.underlying4 rfl (fun H ds h => ?_) (fun l hl => ?_) W base args ds gs before hval hW
  · match ds, h with
    | [a, b, c], _ => rfl
  · obtain ⟨i, n, far, rfl, hi, hf⟩ := open_item3 hl
    exact law_reaches_p i n far hf
theorem spanReaches_holds : Rows.SpanReachesSaid :=
  OpenClaim.holds_of_wide 3 Try.f3 rfl rfl rfl rfl rfl rfl rfl ⟨rfl, rfl, rfl, rfl, rfl⟩ rfl rfl rfl rfl rfl (by kernel_rfl) Try.func3 (by kernel_rfl)
    (of_decide_eq_true (by kernel_rfl)) (by unfold Func.isWrapper; first | (rw [if_pos (by decide +kernel)]; kernel_rfl) | (rw [if_neg (by decide +kernel)]; exact ⟨rfl, rfl⟩))
    (fun os started H enc _ => spanReaches_lifted os started H enc)
end Go.Proofs.Ytmbepfdnmgiifaa

/- The law EvalNodes, on plain data. -/
import Derived.Test.YtppobdnacmdgbaaDoorEvalR
set_option linter.unusedVariables false
set_option linter.unusedSimpArgs false
namespace Go.Proofs.YtppobdnacmdgbaaDoor
open Go Go.Up
set_option maxRecDepth 100000
theorem awake12 : typecaselaw12_awake 1000 = some (true, ()) := by kernel_rfl
theorem evalNodes_law (x : VD [(.slice .nod), (.slice .sym), (.int .u32), .bool]) (hx : Wfs [(.slice .nod), (.slice .sym), (.int .u32), .bool] x) : ∃ N, typecaselaw12_EvalNodes N x.1 x.2.1 x.2.2.1 x.2.2.2.1 = some (true, ()) := by
  obtain ⟨l, syms, place, early, u⟩ := x
  obtain ⟨hl, hs, hp, _⟩ := hx
  refine ⟨1000, ?_⟩
  simp only [typecaselaw12_EvalNodes, awake12, bindI_some, Bool.not_true, cond_false]
  by_cases h1 : (300 : Int) < (l.length : Int)
  · simp only [decide_eq_true h1, cond_true, bindI_some]
  by_cases h2 : (100 : Int) < (syms.length : Int)
  · simp only [decide_eq_false h1, decide_eq_true h2, cond_true, cond_false, bindI_some]
  simp only [decide_eq_false h1, decide_eq_false h2, cond_false, bindI_some]
  rw [same_ok 1000 (by omega) syms (by omega) (by omega) (fun x hx => (hs.2 x hx).value.u32) place (WfI.u32 hp) early l (by omega) (by omega) (fun n hn => (hl.2 n hn).num.u32)]
  rfl
end Go.Proofs.YtppobdnacmdgbaaDoor

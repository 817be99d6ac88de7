/- The law EvalTexts, on plain data. -/
import Derived.Test.YtppobdnacmdgbaaDoorParseT
import Derived.Test.YtppobdnacmdgbaaDoorEvalNodesLaw
set_option linter.unusedVariables false
set_option linter.unusedSimpArgs false
namespace Go.Proofs.YtppobdnacmdgbaaDoor
open Go Go.Up
set_option maxRecDepth 100000
theorem awake12t : typecaselaw12_awake 2000 = some (true, ()) := by kernel_rfl
theorem evalTexts_law (x : VD [.str, (.slice .sym), (.int .u32), .bool]) (hx : Wfs [.str, (.slice .sym), (.int .u32), .bool] x) : ∃ N, typecaselaw12_EvalTexts N x.1 x.2.1 x.2.2.1 x.2.2.2.1 = some (true, ()) := by
  obtain ⟨s, syms, place, early, u⟩ := x
  obtain ⟨hl, hs, hp, _⟩ := hx
  refine ⟨2000, ?_⟩
  simp only [typecaselaw12_EvalTexts, awake12t, bindI_some, Bool.not_true, cond_false]
  by_cases h1 : (300 : Int) < (s.length : Int)
  · simp only [decide_eq_true h1, cond_true, bindI_some]
  by_cases h2 : (100 : Int) < (syms.length : Int)
  · simp only [decide_eq_false h1, decide_eq_true h2, cond_true, cond_false, bindI_some]
  have hble : (List.length s).ble 4294967296 = true := Nat.ble_eq_true_of_le (by omega)
  have hbl : (bytesOf s).length = s.length := by simp [bytesOf]
  simp only [decide_eq_false h1, decide_eq_false h2, cond_false, bindI_some, hble, cond_true]
  obtain ⟨y, hy, hy2⟩ := lines_ok 2000 (by omega) (bytesOf s) (by omega)
  rw [hy, bindI_some]
  rcases hy2 with hc | ⟨hne, hgl⟩
  · rw [decide_eq_true hc, cond_true]
  by_cases hc : 0 < y.2.1.2.2
  · rw [decide_eq_true hc, cond_true]
  rw [decide_eq_false hc, cond_false]
  obtain ⟨lines, flt⟩ := y
  simp only at hne hgl ⊢
  cases lines with
  | nil => exact absurd rfl hne
  | cons l ls =>
    have g0 : geti (l :: ls) 0 = some l := rfl
    rw [g0, bindI_some]
    obtain ⟨hll, hlg⟩ := hgl l (List.mem_cons_self)
    obtain ⟨o, ho, ho2, ho3⟩ := parse_ok 2000 (by omega) l (by omega) hlg
    rw [ho, bindI_some]
    have hsame := same_ok 2000 (by omega) syms (by omega) (by omega) (fun x hx => (hs.2 x hx).value.u32) place (WfI.u32 hp) early o.1.1 (by omega) (by omega) (fun n hn => ho3 n hn)
    rw [hsame]
    cases decide (0 < o.1.2.2.2.2) <;> rfl
end Go.Proofs.YtppobdnacmdgbaaDoor

/- The law EvalHalves, on plain data. -/
import Derived.Test.YtppobdnacmdgbaaDoorEvalNodesLaw
set_option linter.unusedVariables false
set_option linter.unusedSimpArgs false
namespace Go.Proofs.YtppobdnacmdgbaaDoor
open Go Go.Up
set_option maxRecDepth 100000
theorem halves_hi (v : Int) (hu : U32 v) : (hiW v * 4096 % 4294967296 + loW v % 4294967296) % 4294967296 = v := by
  have hlo := loW_bounds v
  have hu1 := hu.1
  have hu2 := hu.2
  unfold hiW
  have : (v - loW v) % 4096 = 0 := by unfold loW; split <;> omega
  omega
theorem halves_sh (v : Int) (hu : U32 v) : ((shlW (hiW v).toNat (Int.toNat 12) : Nat) : Int) = hiW v * 4096 % 4294967296 := by
  have h0 : 0 ≤ hiW v := by unfold hiW; omega
  obtain ⟨m, hm⟩ := Int.eq_ofNat_of_zero_le h0
  rw [hm, Int.toNat_natCast]
  have : shlW m (Int.toNat 12) = m * 4096 % 4294967296 := rfl
  rw [this]
  omega
theorem halves_not (v : Int) (hu : U32 v) : (4294967295 - v + 1) % 4294967296 = (0 - v) % 4294967296 ∧ IntKind.u32.wrap ((0 - v) % 4294967296 + v) = 0 := ⟨by omega, by rw [wu]; omega⟩
theorem evalHalves_law (x : VD [(.int .u32)]) (hx : Wfs [(.int .u32)] x) : ∃ N, typecaselaw12_EvalHalves N x.1 = some (true, ()) := by
  obtain ⟨v, u⟩ := x
  obtain ⟨hv, _⟩ := hx
  have hu : U32 v := WfI.u32 hv
  refine ⟨1000, ?_⟩
  simp only [typecaselaw12_EvalHalves, awake12, bindI_some, Bool.not_true, cond_false]
  have pv := fun l hl hn hln => prog_value 1000 [] (by simp) (by simp) (fun x hx => by cases hx) 0 ⟨by omega, by omega⟩ true l hl hn hln
  rw [List.map_nil] at pv
  have n1 : ∀ k : Nod, k.num = v ∨ k.num = 0 ∨ k.num = 1 ∨ k.num = 12 → U32 k.num := fun k h => by
    rcases h with h | h | h | h <;> rw [h]
    · exact hu
    · exact ⟨by omega, by omega⟩
    · exact ⟨by omega, by omega⟩
    · exact ⟨by omega, by omega⟩
  have hh := halves_hi v hu
  have hsh := halves_sh v hu
  rw [pv _ (by simp) (by simp) (fun n hn => n1 n (by simp only [List.mem_cons, List.not_mem_nil, or_false] at hn; rcases hn with h | h | h | h | h | h | h <;> subst h <;> simp)),
    pv _ (by simp) (by simp) (fun n hn => n1 n (by simp only [List.mem_cons, List.not_mem_nil, or_false] at hn; rcases hn with h | h | h | h <;> subst h <;> simp)),
    pv _ (by simp) (by simp) (fun n hn => n1 n (by simp only [List.mem_cons, List.not_mem_nil, or_false] at hn; rcases hn with h | h <;> subst h <;> simp))]
  have v1 : valP [] 0 true [⟨1, 0, 0, v, []⟩, ⟨6, 0, 0, 0, []⟩, ⟨1, 0, 0, 12, []⟩, ⟨13, 0, 0, 0, []⟩, ⟨1, 0, 0, v, []⟩, ⟨7, 0, 0, 0, []⟩, ⟨9, 0, 0, 0, []⟩] = .inr ((((shlW (hiW v).toNat (Int.toNat 12) : Nat) : Int) + loW v % 4294967296) % 4294967296, false) := rfl
  have v2 : valP [] 0 true [⟨1, 0, 0, v, []⟩, ⟨5, 0, 0, 0, []⟩, ⟨1, 0, 0, 1, []⟩, ⟨9, 0, 0, 0, []⟩] = .inr ((4294967295 - v + 1) % 4294967296, false) := rfl
  have v3 : valP [] 0 true [⟨1, 0, 0, v, []⟩, ⟨4, 0, 0, 0, []⟩] = .inr ((0 - v) % 4294967296, false) := rfl
  rw [v1, v2, v3, hsh, hh]
  obtain ⟨e1, e2⟩ := halves_not v hu
  simp only [bindI_some, Err.el, e1, e2, decide_true, cond_true]
end Go.Proofs.YtppobdnacmdgbaaDoor

/- The law EvalEarly, on plain data. -/
import Derived.Test.YtppobdnacmdgbaaDoorEvalNodesLaw
set_option linter.unusedVariables false
set_option linter.unusedSimpArgs false
namespace Go.Proofs.YtppobdnacmdgbaaDoor
open Go Go.Up
set_option maxRecDepth 100000
/-- Nothing is a place. -/
def NP (st : List (Int × Bool)) : Prop := ∀ p ∈ st, p.2 = false
theorem NP_snoc {s : List (Int × Bool)} {p : Int × Bool} (hs : NP s) (hp : p.2 = false) : NP (s ++ [p]) := fun q hq => by
  rcases List.mem_append.1 hq with h | h
  · exact hs q h
  · rw [List.mem_singleton.1 h]; exact hp
theorem NP_take {s : List (Int × Bool)} (hs : NP s) (m : Nat) : NP (s.take m) := fun q hq => hs q (List.mem_of_mem_take hq)
theorem oneP_np {k : Int} {a p : Int × Bool} {place place' : Int} (ha : a.2 = false) (h : oneP k a place true = .inr p) : p.2 = false ∧ oneP k a place' false = .inr p := by
  unfold oneP at h ⊢
  split at h
  · rename_i hk; rw [if_pos hk]; cases h; exact ⟨rfl, rfl⟩
  rename_i h6
  rw [if_neg h6]
  split at h
  · rename_i hk; rw [if_pos hk]; cases h; exact ⟨rfl, rfl⟩
  rename_i h7
  rw [if_neg h7]
  split at h
  · cases h
  rename_i h8
  rw [if_neg h8]
  rw [ha, cond_false] at h ⊢
  split at h
  · rename_i hk; rw [if_pos hk]; cases h; exact ⟨rfl, rfl⟩
  · rename_i hk; rw [if_neg hk]; cases h; exact ⟨rfl, rfl⟩
theorem twoP_np {k : Int} {a b p : Int × Bool} (ha : a.2 = false) (hb : b.2 = false) (h : twoP k a b = .inr p) : p.2 = false := by
  unfold twoP at h
  rw [ha, hb] at h
  split at h
  · cases h; rfl
  split at h
  · cases h; rfl
  simp only [Bool.or_self, cond_false] at h
  split at h
  · cases h
  · cases h; rfl
theorem stp_np {syms : List Sym} {a b : Int} {n : Nod} {st s : List (Int × Bool)} (hv : NP st) (h : stp syms a true n st = .inr s) : NP s ∧ stp syms b false n st = .inr s := by
  have gd : ∀ i, (st.getD i (0, false)).2 = false := fun i => by
    rw [List.getD_eq_getElem?_getD]
    cases hq : st[i]? with
    | none => rfl
    | some p => exact hv p (List.mem_of_getElem? hq)
  unfold stp at h ⊢
  split at h
  · rename_i hk; rw [if_pos hk]; cases h; exact ⟨NP_snoc hv rfl, rfl⟩
  rename_i k1
  rw [if_neg k1]
  split at h
  · rename_i hk
    rw [if_pos hk]
    split at h
    · cases h
    · rename_i x hx
      cases hp : isP x with
      | true => rw [hp] at h; cases h
      | false => rw [hp] at h; cases h; exact ⟨NP_snoc hv rfl, rfl⟩
  rename_i k2
  rw [if_neg k2]
  split at h
  · cases h
  rename_i k3
  rw [if_neg k3]
  split at h
  · rename_i hk
    rw [if_pos hk]
    split at h
    · cases h
    · rename_i p hp
      cases h
      obtain ⟨h1, h2⟩ := oneP_np (place' := b) (gd _) hp
      rw [h2]
      exact ⟨NP_snoc (NP_take hv _) h1, rfl⟩
  rename_i k4
  rw [if_neg k4]
  split at h
  · rename_i hk
    rw [if_pos hk]
    split at h
    · cases h
    · rename_i p hp
      cases h
      exact ⟨NP_snoc (NP_take hv _) (twoP_np (gd _) (gd _) hp), rfl⟩
  · cases h
theorem evL_np {syms : List Sym} {a b : Int} : ∀ {l : List Nod} {st s : List (Int × Bool)}, NP st → evL syms a true l st = .inr s → NP s ∧ evL syms b false l st = .inr s
  | [], st, s, hv, h => by cases h; exact ⟨hv, rfl⟩
  | n :: l, st, s, hv, h => by
    unfold evL at h ⊢
    split at h
    · cases h
    · rename_i s' hs
      obtain ⟨h1, h2⟩ := stp_np (b := b) hv hs
      rw [h2]
      exact evL_np h1 h
theorem valP_np {syms : List Sym} {a b : Int} {l : List Nod} {p : Int × Bool} (h : valP syms a true l = .inr p) : p.2 = false ∧ valP syms b false l = .inr p := by
  unfold valP at h ⊢
  split at h
  · cases h
  · rename_i q hq
    cases h
    obtain ⟨h1, h2⟩ := evL_np (b := b) (fun p hp => by cases hp) hq
    rw [h2]
    exact ⟨h1 _ (List.mem_singleton.2 rfl), rfl⟩
  · cases h
theorem evalEarly_law (x : VD [(.slice .nod), (.slice .sym), (.int .u32), (.int .u32)]) (hx : Wfs [(.slice .nod), (.slice .sym), (.int .u32), (.int .u32)] x) : ∃ N, typecaselaw12_EvalEarly N x.1 x.2.1 x.2.2.1 x.2.2.2.1 = some (true, ()) := by
  obtain ⟨l, syms, a, b, u⟩ := x
  obtain ⟨hl, hs, ha, hb, _⟩ := hx
  refine ⟨1000, ?_⟩
  simp only [typecaselaw12_EvalEarly, awake12, bindI_some, Bool.not_true, cond_false]
  by_cases h1 : (300 : Int) < (l.length : Int)
  · simp only [decide_eq_true h1, cond_true, bindI_some]
  by_cases h2 : (100 : Int) < (syms.length : Int)
  · simp only [decide_eq_false h1, decide_eq_true h2, cond_true, cond_false, bindI_some]
  have hsy : ∀ x ∈ syms, U32 x.value := fun x hx => (hs.2 x hx).value.u32
  have hln : ∀ n ∈ l, U32 n.num := fun n hn => (hl.2 n hn).num.u32
  simp only [decide_eq_false h1, decide_eq_false h2, cond_false, bindI_some, syms_ok 1000 syms (by omega) (by omega), prog_value 1000 syms (by omega) (by omega) hsy a (WfI.u32 ha) true l (by omega) (by omega) hln,
    prog_value 1000 syms (by omega) (by omega) hsy b (WfI.u32 hb) false l (by omega) (by omega) hln]
  cases hq : valP syms a true l with
  | inl f =>
    obtain ⟨p, q, c⟩ := f
    rfl
  | inr p =>
    obtain ⟨v, pl⟩ := p
    obtain ⟨h3, h4⟩ := valP_np (b := b) hq
    simp only at h3
    subst h3
    rw [h4]
    simp [bindI_some, Err.el, cl]
end Go.Proofs.YtppobdnacmdgbaaDoor

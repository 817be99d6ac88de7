/- Vp, part j: every operation that makes or turns objects is sound; regions in the text's order; code; contracts out of code. -/
import Derived.Test.YtmbepfdnmgiifaaVi
set_option linter.unusedVariables false
set_option linter.unusedSimpArgs false
namespace Go.Vp
open Go.RowKit

section
variable {P : Program} {E0 : Env} {n0 : Nat} {w0 : World} {nt : Nat} {E : Env} {σ : St} {a : Act} {w : World}

theorem fcall_sound {f : AV} {args : List AV} {vf : Value} {vargs : List Value} {g : FuncId} {xs : List AV} (hf : Rel E f vf) (hl : Lt σ.h.n f) (ha : Rels E args vargs) (hal : ∀ (i : Nat) (x : AV), args[i]? = some x → Lt σ.h.n x)
    (h : fcall f args = some (g, xs)) : ∃ (first cap : Array Value) (vs : List Value), vf = .func (.func g) first cap ∧ (first ++ vargs.toArray) ++ cap = vs.toArray ∧ Rels E xs vs ∧ ∀ (i : Nat) (x : AV), xs[i]? = some x → Lt σ.h.n x := by
  unfold fcall at h
  split at h
  · rename_i g' fa fb
    split at h
    · rename_i hz
      simp only [Option.some.injEq, Prod.mk.injEq] at h
      obtain ⟨rfl, rfl⟩ := h
      have e1 : fa = #[] := Array.eq_empty_of_size_eq_zero hz.1
      have e2 : fb = #[] := Array.eq_empty_of_size_eq_zero hz.2
      subst e1; subst e2
      exact ⟨#[], #[], vargs, hf.p_inv, by simp, ha, hal⟩
    · cases h
  · rename_i g' fa fb
    simp only [Option.some.injEq, Prod.mk.injEq] at h
    obtain ⟨rfl, rfl⟩ := h
    obtain ⟨us, ws, rfl, h1, h2⟩ := hf.fn_inv
    refine ⟨_, _, us ++ vargs ++ ws, rfl, by simp, (h1.append ha).append h2, ?_⟩
    intro i x hx
    have hm := List.mem_of_getElem? hx
    simp only [List.mem_append] at hm
    cases hl with
    | fn l1 l2 =>
      rcases hm with (hm | hm) | hm
      · obtain ⟨q, hq⟩ := List.getElem?_of_mem hm; exact l1 q x hq
      · obtain ⟨q, hq⟩ := List.getElem?_of_mem hm; exact hal q x hq
      · obtain ⟨q, hq⟩ := List.getElem?_of_mem hm; exact l2 q x hq
  · cases h

theorem zip_range {α : Type} : ∀ (xs : List (Nat × α)) (k : Nat), xs.map (·.1) = List.range' k xs.length → xs = (List.range' k xs.length).zip (xs.map (·.2))
  | [], _, _ => rfl
  | (i, x) :: xs, k, h => by
    simp only [List.map_cons, List.length_cons, List.range'_succ, List.cons.injEq] at h
    obtain ⟨rfl, h⟩ := h
    simp only [List.map_cons, List.length_cons, List.range'_succ, List.zip_cons_cons]
    congr 1
    exact zip_range xs (i + 1) h

theorem lit_sound (h : SRel E0 n0 w0 nt E σ a w) {t e : TypeId} {sz bytes len : Nat} {parts : List (Nat × Operand)} {d : Option Tmp} (hd : okDst nt d = true)
    (ht : tz P t = some (e, sz, bytes)) (hi : parts.map (·.1) = List.range len) (hb0 : len ≤ 16777216) (hb : len * sz ≤ 16777216) (hc : chunk sz (parts.map fun x => ev σ x.2)) :
    ∃ v w' E', (Instr.buildSlice t len (parts.map fun x => (x.1, a.eval x.2)).toArray).run P w = .ok v w' ∧
      SRel E0 n0 w0 nt E' (σ.put d (.sl sz (parts.map fun x => (ev σ x.2).cells.map w1) (some len))) (a.put d v) w' := by
  obtain ⟨i, z, hu, hinfo, hz, hzs, hs, hbs⟩ := tz_parts ht
  have hlen : parts.length = len := by have := congrArg List.length hi; simpa using this
  have hi' : parts.map (·.1) = List.range' 0 parts.length := by rw [hi, List.range_eq_range', hlen]
  have hzip := zip_range parts 0 hi'
  -- the abstract filling
  have hcells : ∀ x ∈ parts.map fun x => ev σ x.2, x.cells.length = sz := fun x hx => (hc x hx).2.1
  have hfa := fill_seq (sz := sz) (parts.map fun x => ev σ x.2) 0 (List.replicate (len * sz) .junk) hcells (by simp [hlen])
  have hparts : (parts.map fun x => (x.1, ev σ x.2)) = (List.range' 0 (parts.map fun x => ev σ x.2).length).zip (parts.map fun x => ev σ x.2) := by
    have : (parts.map fun x => (x.1, ev σ x.2)) = ((List.range' 0 parts.length).zip (parts.map (·.2))).map fun x => (x.1, ev σ x.2) := by rw [← hzip]
    rw [this]
    have key : ∀ (l : List Nat) (m : List Operand), (l.zip m).map (fun x => (x.1, ev σ x.2)) = l.zip (m.map (ev σ)) := by
      intro l
      induction l with
      | nil => intro m; rfl
      | cons k l ih =>
        intro m
        cases m with
        | nil => rfl
        | cons y m => simp [ih]
    rw [key]
    simp [Function.comp_def]
  rw [← hparts] at hfa
  have hdrop : (List.replicate (len * sz) AV.junk).drop ((0 + (parts.map fun x => ev σ x.2).length) * sz) = [] := by
    apply List.drop_of_length_le; simp [hlen]
  rw [hdrop] at hfa
  simp only [Nat.zero_mul, List.take_zero, List.nil_append, List.append_nil] at hfa
  -- the concrete one
  let zeros : Array Value := if len * i.size = 0 then #[] else z.cells
  obtain ⟨vs, hf, hrel⟩ := fillA_sound (E := E) (place := fun i => some (i * sz, sz)) (parts.map fun x => (x.1, ev σ x.2)) (parts.map fun x => (x.1, a.eval x.2)) (List.replicate (len * sz) .junk) ((Array.range (len * sz)).map (zeros[· % zeros.size]!)).toList _ (by simp)
    (fun k x v hx hv => by
      rw [List.getElem?_map] at hx hv
      cases hp : parts[k]? with
      | none => rw [hp] at hx; cases hx
      | some q =>
        rw [hp] at hx hv; cases hx; cases hv
        exact ⟨rfl, h.ev _, (hc (ev σ q.2) (List.mem_map.2 ⟨q, List.mem_of_getElem? hp, rfl⟩)).1⟩)
    ⟨by simp, fun k x v hx hv => by
      have := List.mem_of_getElem? hx
      rw [List.mem_replicate] at this
      rw [this.2]
      exact .pure (.junk v)⟩ hfa
  have hvl : vs.length = len * sz := by
    have := hrel.1
    rw [this, flatten_len (sz := sz) _ (fun e he => by
      obtain ⟨x', hx', rfl⟩ := List.mem_map.1 he
      exact hcells x' hx')]
    simp [hlen]
  have hrun : (Instr.buildSlice t len (parts.map fun x => (x.1, a.eval x.2)).toArray).run P w = .ok (.slice (some ⟨w.heap.size, 0, none⟩) len len) (w.alloc (.cells vs.toArray e)) := by
    subst hs
    simp only [Instr.buildSlice, Sem.run_bind, run_underlying hu, Result.andThen_ok, sizeOf, typeInfo, run_program, hinfo, Sem.run_pure]
    rw [if_neg (by omega)]
    have hf' := hf
    simp only [Array.toArray_toList] at hf'
    by_cases h0 : len * i.size = 0
    · have e0 : zeros = #[] := by simp only [zeros]; rw [if_pos h0]
      rw [e0] at hf'
      rw [if_pos h0]
      simp only [Sem.run_bind, Sem.run_pure, Result.andThen_ok]
      rw [hf']
      simp [newRow]
    · have e0 : zeros = z.cells := by simp only [zeros]; rw [if_neg h0]
      rw [e0] at hf'
      rw [if_neg h0]
      simp only [Sem.run_bind, zeroValue, typeInfo, run_program, Result.andThen_ok, hinfo, hz, Sem.run_pure]
      rw [hf']
      simp [newRow]
  obtain ⟨E', hE'⟩ := sl_new h (w1 := w) (els := parts.map fun x => (ev σ x.2).cells.map Vp.w1) (n := len) (sz := sz) (cur := vs.toArray) (T := e) hd (keep_alloc ..) rfl (fun _ _ => rfl) (by simp [hlen])
    (by simp only [maxLen]; omega)
    (by simpa using hvl)
    (fun el hel => by
      obtain ⟨q, hq, rfl⟩ := List.mem_map.1 hel
      rw [List.length_map]
      exact hcells _ (List.mem_map.2 ⟨q, hq, rfl⟩))
    (fun k j el x hel hx => by
      rw [List.getElem?_map] at hel
      obtain ⟨q, hq, rfl⟩ := Option.map_eq_some_iff.1 hel
      rw [List.getElem?_map] at hx
      obtain ⟨y, hy, rfl⟩ := Option.map_eq_some_iff.1 hx
      have hg : ((parts.map fun x => ev σ x.2).map AV.cells)[k]? = some (ev σ q.2).cells := by simp [hq]
      have hfl := elems_flatten (sz := sz) _ k j _ y (fun e he => by
        obtain ⟨x', hx', rfl⟩ := List.mem_map.1 he
        exact hcells x' hx') hg hy
      obtain ⟨u, hu', hr⟩ := hrel.getElem hfl
      refine ⟨u, by simpa using hu', prel_of_isP (rel_w1 hr) ?_⟩
      have := (hc (ev σ q.2) (List.mem_map.2 ⟨q, List.mem_of_getElem? hq, rfl⟩)).2.2
      rw [List.all_eq_true] at this
      exact this y (List.mem_of_getElem? hy))
  exact ⟨_, _, E', hrun, hE'⟩
end
end Go.Vp

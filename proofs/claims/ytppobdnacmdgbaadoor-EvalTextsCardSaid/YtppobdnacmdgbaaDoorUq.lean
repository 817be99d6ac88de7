/- Up, part q: calls; every operation, told onwards. -/
import Derived.Test.YtppobdnacmdgbaaDoorUp
set_option linter.unusedVariables false
set_option linter.unusedSimpArgs false
namespace Go.Up
open Go.RowKit

/-- The function and the arguments of a call of a value. -/
def fcall (f : AV) (args : List AV) : Option (FuncId × List AV) :=
  match f with
  | .p (.func (.func g) a b) => if Nat.beq a.size 0 && Nat.beq b.size 0 then some (g, args) else none
  | .fn (.func g) a b => some (g, a ++ args ++ b)
  | _ => none

section
variable {P : Program} {h : AH} {e : Operand → AV} {R : Type}
theorem fcall_sound [GTab] {E : Env} {n : Nat} {f : AV} {args : List AV} {vf : Value} {vargs : List Value} {g : FuncId} {xs : List AV} (hf : Rel E f vf) (hl : Lt n f) (ha : Rels E args vargs) (hal : ∀ (i : Nat) (x : AV), args[i]? = some x → Lt n x)
    (h : fcall f args = some (g, xs)) : ∃ (first cap : Array Value) (vs : List Value), vf = .func (.func g) first cap ∧ (first ++ vargs.toArray) ++ cap = vs.toArray ∧ Rels E xs vs ∧ ∀ (i : Nat) (x : AV), xs[i]? = some x → Lt n x := by
  unfold fcall at h
  split at h
  · rename_i g' fa fb
    split at h
    · rename_i hz
      simp only [Bool.and_eq_true] at hz
      simp only [Option.some.injEq, Prod.mk.injEq] at h
      obtain ⟨rfl, rfl⟩ := h
      have e1 : fa = #[] := Array.eq_empty_of_size_eq_zero (Nat.eq_of_beq_eq_true hz.1)
      have e2 : fb = #[] := Array.eq_empty_of_size_eq_zero (Nat.eq_of_beq_eq_true hz.2)
      subst e1; subst e2
      exact ⟨#[], #[], vargs, hf.p_inv, by simp, ha, hal⟩
    · cases h
  · rename_i g' fa fb
    simp only [Option.some.injEq, Prod.mk.injEq] at h
    obtain ⟨rfl, rfl⟩ := h
    obtain ⟨us, ws, rfl, h1, h2⟩ := hf.fn_inv
    refine ⟨_, _, us ++ vargs ++ ws, rfl, by simp, (h1.append ha).append h2, ?_⟩
    intro i x hx
    have hm := List.mem_of_getElem? hx
    simp only [List.mem_append] at hm
    cases hl with
    | fn l1 l2 =>
      rcases hm with (hm | hm) | hm
      · obtain ⟨q, hq⟩ := List.getElem?_of_mem hm; exact l1 q x hq
      · obtain ⟨q, hq⟩ := List.getElem?_of_mem hm; exact hal q x hq
      · obtain ⟨q, hq⟩ := List.getElem?_of_mem hm; exact l2 q x hq
  · cases h

def calK (call : Callk) (h : AH) (f : AV) (args : List AV) (K : AH → AV → Option R) : Option R :=
  match fcall f args with
  | some q => call R q.1 h q.2 K
  | none => none
theorem calK_ok [GTab] {call : Callk} (hcall : CallOk P call) {fo : Operand} {args : Array Operand} {ts : Array TypeId} {K : AH → AV → Option R} {r : R} (hk : calK call h (e fo) (args.toList.map e) K = some r) :
    ∃ h' y, ImpS P h e (.call ⟨.value fo, args, ts⟩) h' y ∧ K h' y = some r := by
  unfold calK at hk
  split at hk
  case h_2 => cases hk
  rename_i q hq
  obtain ⟨g, xs⟩ := q
  obtain ⟨h', y, hc, hk⟩ := hcall R _ _ _ _ _ hk
  refine ⟨h', y, ?_, hk⟩
  intro E w vals hh hok hO o hop
  have mf : fo ∈ (Op.call ⟨.value fo, args, ts⟩).operands := by simp [Op.operands, Call.operands]
  have ma : ∀ x ∈ args.toList, x ∈ (Op.call ⟨.value fo, args, ts⟩).operands := fun x hx => by simp [Op.operands, Call.operands]; exact .inr (by simpa using hx)
  obtain ⟨first, cap, vs, hv, hvs, hrels, hlts⟩ := fcall_sound (vargs := args.toList.map vals) (hO.rel fo mf) (hO.lt fo mf) (rels_map hO _ ma) (fun i x hx => by
    rw [List.getElem?_map] at hx
    obtain ⟨q, hq, rfl⟩ := Option.map_eq_some_iff.1 hx
    exact hO.lt q (ma q (List.mem_of_getElem? hq))) hq
  have hrun : (execOp vals o).run P w = .ok (.enter g vs.toArray) w := by
    unfold execOp
    rw [hop]
    dsimp only
    have e1 : (first ++ Array.map vals args) ++ cap = vs.toArray := by rw [← hvs, arr_map vals args]
    simp only [resolve, Deferred.ofValue, hv, Sem.run_bind, Sem.run_pure, Result.andThen_ok, invoke]
    rw [e1, hc.1]
  unfold Lands
  rw [hrun]
  exact (hc.2 E w vs hh hok hrels hlts).mono fun e w' ⟨v, r, h2, E', h3, ⟨h4, h5⟩, h6, h7, h8⟩ => by
    subst h4; subst h5
    exact ⟨v, h3, E', h6, h7, h8⟩

/-- Every operation, told onwards. -/
def stepK (C : Cfg) (call : Callk) (h : AH) (e : Operand → AV) (op : Op) (K : AH → AV → Option R) : Option R :=
  match op with
  | .box _ x => if known (e x) then K (h.new (.box (e x).cells)) (.bp h.n 0) else none
  | .alloc t =>
    match (C.P.info? t).bind (·.zero) with
    | some z => K (h.new (.box (z.cells.toList.map nv))) (.bp h.n 0)
    | none => none
  | .buildSlice t len parts => if C.mt t then litM C h t len (parts.toList.map fun x => (x.1, e x.2)) K else litK C.P h t len (parts.toList.map fun x => (x.1, e x.2)) (K h)
  | .store t a x => stoK C.P h t (e a) (e x) K
  | .makeSlice t l c => mskK C h t (e l) (e c) K
  | .convert s d x =>
    match e x with
    | .mw _ => (match C.P.underlying d with
      | some (.slice _) => cnvM C.P h s d (e x) K
      | _ => cnvK C.P h s d (e x) (K h))
    | _ => cnvK C.P h s d (e x) (K h)
  | .makeInterface t x =>
    match e x with
    | .bp _ _ => mifK C.P h t (e x) K
    | _ => pureK C.P h e (.makeInterface t x) (K h)
  | .call c =>
    match c.callee with
    | .builtin .append => (match c.args.toList, c.argTypes.toList with
      | [s, x], [t, t'] => if Nat.beq t t' then appF C h t (e s) (e x) K else none
      | _, _ => none)
    | .value fo => calK call h (e fo) (c.args.toList.map e) K
    | _ => pureK C.P h e (.call c) (K h)
  | op => pureK C.P h e op (K h)
theorem stepK_ok [GTab] {C : Cfg} {call : Callk} (hcall : CallOk C.P call) {op : Op} {K : AH → AV → Option R} {r : R} (hk : stepK C call h e op K = some r) : ∃ h' y, ImpS C.P h e op h' y ∧ K h' y = some r := by
  have pu : ∀ {op : Op}, pureK C.P h e op (K h) = some r → ∃ h' y, ImpS C.P h e op h' y ∧ K h' y = some r := fun hk => by
    obtain ⟨y, h1, h2⟩ := pureK_ok hk
    exact ⟨h, y, h1.imp, h2⟩
  unfold stepK at hk
  split at hk
  · rename_i t x
    split at hk
    · rename_i hkn
      refine ⟨_, _, ?_, hk⟩
      intro E w vals hh hok hO o hop
      have hx := hO.rel x (by simp [Op.operands])
      have hl := hO.lt x (by simp [Op.operands])
      have hrun : (execOp vals o).run C.P w = .ok (.value (.pointer (some ⟨w.heap.size, 0, none⟩))) (w.alloc (.cells (vals x).cells t)) := by
        unfold execOp
        rw [hop]
        dsimp only
        simp [Instr.box, newVar, newRow]
      unfold Lands
      rw [hrun]
      exact box_new hh hok (hx.cells' hkn) (cells_lt hl)
    · cases hk
  · rename_i t
    split at hk
    · rename_i z hz
      refine ⟨_, _, ?_, hk⟩
      intro E w vals hh hok hO o hop
      obtain ⟨i, hi, hz⟩ := Option.bind_eq_some_iff.1 hz
      have hrun : (execOp vals o).run C.P w = .ok (.value (.pointer (some ⟨w.heap.size, 0, none⟩))) (w.alloc (.cells z.cells t)) := by
        unfold execOp
        rw [hop]
        dsimp only
        simp [Instr.alloc, zeroValue, typeInfo, hi, hz, newVar, newRow]
      unfold Lands
      rw [hrun]
      exact box_new hh hok (l := z.cells.toList.map nv) ⟨by simp, fun i x v hx hv => by
        rw [List.getElem?_map, hv] at hx
        cases hx
        exact nv_rel E v⟩ (fun i x hx => by
        rw [List.getElem?_map] at hx
        obtain ⟨v, _, rfl⟩ := Option.map_eq_some_iff.1 hx
        exact nv_lt _ v)
    · cases hk
  · split at hk
    · exact litM_ok hk
    · obtain ⟨y, h1, h2⟩ := litK_ok hk
      exact ⟨h, y, h1, h2⟩
  · exact stoK_ok hk
  · exact mskK_ok hk
  · have cv : ∀ {s d x}, cnvK C.P h s d (e x) (K h) = some r → ∃ h' y, ImpS C.P h e (.convert s d x) h' y ∧ K h' y = some r := fun hk => by
      obtain ⟨y, h1, h2⟩ := cnvK_ok hk
      exact ⟨h, y, h1, h2⟩
    split at hk
    · split at hk
      · exact cnvM_ok hk
      · exact cv hk
    · exact cv hk
  · split at hk
    · exact mifK_ok hk
    · exact pu hk
  · rename_i c
    obtain ⟨callee, args, ts⟩ := c
    split at hk
    · rename_i hc
      simp only at hc hk
      subst hc
      obtain ⟨args⟩ := args
      obtain ⟨ts⟩ := ts
      simp only at hk
      split at hk
      · rename_i s x t t' 
        split at hk
        · rename_i htt
          have htt := Nat.eq_of_beq_eq_true htt
          subst htt
          obtain ⟨h', y, h1, h2⟩ := appF_ok hk
          refine ⟨h', y, ?_, h2⟩
          intro E w vals hh hok hO o hop
          have hk2 := h1 o.type E w _ _ hh hok (hO.rel s (by simp [Op.operands, Call.operands])) (hO.lt s (by simp [Op.operands, Call.operands])) (hO.rel x (by simp [Op.operands, Call.operands])) (hO.lt x (by simp [Op.operands, Call.operands]))
          obtain ⟨v, w', hrun, hr⟩ := hk2
          have hrun2 : (execOp vals o).run C.P w = .ok (.value v) w' := by
            unfold execOp
            rw [hop]
            dsimp only
            simp only [resolve, Sem.run_bind, Sem.run_pure, Result.andThen_ok, invoke, builtin, List.map_toArray, List.map_cons, List.map_nil, hrun]
          unfold Lands
          rw [hrun2]
          exact hr
        · cases hk
      · cases hk
    · rename_i fo hc
      simp only at hc hk
      subst hc
      exact calK_ok hcall hk
    · exact pu hk
  · exact pu hk
end
end Go.Up

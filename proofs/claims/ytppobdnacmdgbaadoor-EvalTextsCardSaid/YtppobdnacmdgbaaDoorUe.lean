/- Up, part e: what turns nothing, in one table. -/
import Derived.Test.YtppobdnacmdgbaaDoorUd
set_option linter.unusedVariables false
set_option linter.unusedSimpArgs false
namespace Go.Up
open Go.RowKit

def asBool? : AV → Option Bool
  | .p (.bool b) => some b
  | _ => none
def asBp : AV → Option (Nat × Nat)
  | .bp id off => some (id, off)
  | _ => none
def two {α : Type} : List α → Option (α × α)
  | [x, y] => some (x, y)
  | _ => none
theorem asBool?_inv {x : AV} {b : Bool} (h : asBool? x = some b) : x = .p (.bool b) := by
  unfold asBool? at h; split at h
  · cases h; rfl
  · cases h
theorem asBp_inv {x : AV} {b : Nat × Nat} (h : asBp x = some b) : x = .bp b.1 b.2 := by
  unfold asBp at h; split at h
  · cases h; rfl
  · cases h
theorem two_inv {α : Type} {l : List α} {p : α × α} (h : two l = some p) : l = [p.1, p.2] := by
  unfold two at h; split at h
  · cases h; rfl
  · cases h

def mkIfc (t : TypeId) : AV → Option AV
  | .p v => some (.p (.iface t v))
  | .ep cs => some (.ifc t (.ep cs))
  | .sl s e c => some (.ifc t (.sl s e c))
  | .st l => some (.ifc t (.st l))
  | .tl a l c => some (.ifc t (.tl a l c))
  | _ => none

def yassert (P : Program) (asserted : TypeId) (ok : Bool) (x : AV) : Option AV :=
  match P.underlying asserted with
  | some (.interface _) => none
  | some _ =>
    match x with
    | .p (.iface t v) => if t = asserted then some (if ok then .tup [.p v, .p (.bool true)] else .p v) else if ok then ((P.info? asserted).bind (·.zero)).map fun z => .tup [nv z, .p (.bool false)] else none
    | .ifc t v => if t = asserted then some (if ok then .tup [v, .p (.bool true)] else v) else if ok then ((P.info? asserted).bind (·.zero)).map fun z => .tup [nv z, .p (.bool false)] else none
    | .p .nilIface => if ok then ((P.info? asserted).bind (·.zero)).map fun z => .tup [nv z, .p (.bool false)] else none
    | _ => none
  | none => none

def ybuiltin (P : Program) (h : AH) (b : Builtin) (ts : List TypeId) (xs : List AV) : Option (Prop × AV) :=
  match b, ts, xs with
  | .len, [t], [x] => (alen P h t x).map fun r => (True, r)
  | .min, _, [x, y] => amm false x y
  | .max, _, [x, y] => amm true x y
  | _, _, _ => none

def ysel (c : Bool) : AV → AV → AV
  | .p (.bool s), .p (.bool t) => .p (.bool (bif c then s else t))
  | x, y => bif c then x else y
theorem ysel_true (x y : AV) : ysel true x y = x := by unfold ysel; split <;> rfl
theorem ysel_false (x y : AV) : ysel false x y = y := by unfold ysel; split <;> rfl

def ypure (P : Program) (h : AH) (e : Operand → AV) : Op → Option (Prop × AV)
  | .move x => some (True, e x)
  | .assign x => some (True, e x)
  | .pick c a b =>
    match e c with
    | .p (.bool cb) => some (True, ysel cb (e a) (e b))
    | _ => none
  | .binOp o t x y _ => abop P o t x y (e x) (e y)
  | .unOp o _ x => (aun o (e x)).map fun r => (True, r)
  | .convert s d x => (aconv P s d (e x)).map fun r => (True, r)
  | .fieldAddr t x f => afield P t (e x) f
  | .field t x f => (afieldv P t (e x) f).map fun r => (True, r)
  | .load t x => (aload P h t (e x)).map fun r => (True, r)
  | .indexAddr t x i => aindex P t (e x) (e i)
  | .index t x i => aindexv P t (e x) (e i)
  | .slice t x lo hi mx => aslice P t (e x) (lo.map e) (hi.map e) (mx.map e)
  | .extract x i =>
    match e x with
    | .tup l => (l[i]?).map fun r => (True, r)
    | _ => none
  | .makeInterface t x =>
    match P.underlying t with
    | some (.interface _) => none
    | some _ => (mkIfc t (e x)).map fun r => (True, r)
    | none => none
  | .build t parts => abuild P t (parts.toList.map fun x => (x.1, e x.2))
  | .nilCheck x =>
    match e x with
    | .bp id off => some (True, .bp id off)
    | .tp id i off => some (True, .tp id i off)
    | .ep cs => some (True, .ep cs)
    | .p (.func (.func f) a b) => some (True, .p (.func (.func f) a b))
    | .fn (.func f) a b => some (True, .fn (.func f) a b)
    | _ => none
  | .makeFunc f a b => some (True, .fn f (a.toList.map e) (b.toList.map e))
  | .typeAssert x _ t ok => (yassert P t ok (e x)).map fun r => (True, r)
  | .call c =>
    match c.callee with
    | .builtin b => ybuiltin P h b c.argTypes.toList (c.args.toList.map e)
    | _ => none
  | _ => none

/-- What operands hold. -/
structure Ops (E : Env) (n : Nat) (e : Operand → AV) (vals : Operand → Value) (xs : Array Operand) : Prop where
  rel : ∀ x ∈ xs, Rel E (e x) (vals x)
  lt : ∀ x ∈ xs, Lt n (e x)

theorem relO_of {E : Env} {n : Nat} {e : Operand → AV} {vals : Operand → Value} {xs : Array Operand} (h : Ops E n e vals xs) (lo : Option Operand) (hx : ∀ y, lo = some y → y ∈ xs) : RelO E (lo.map e) (lo.map vals) := by
  cases lo with
  | none => trivial
  | some y => exact h.rel y (hx y rfl)
theorem rels_map [GTab] {E : Env} {n : Nat} {e : Operand → AV} {vals : Operand → Value} {xs : Array Operand} (h : Ops E n e vals xs) : ∀ l : List Operand, (∀ x ∈ l, x ∈ xs) → Rels E (l.map e) (l.map vals)
  | [], _ => .nil E
  | x :: l, hl => .cons (h.rel x (hl x (by simp))) (rels_map h l fun y hy => hl y (by simp [hy]))

theorem yassert_sound [GTab] {P : Program} {E : Env} {xt t : TypeId} {ok : Bool} {x r : AV} {v : Value} {w : World} {n : Nat} (hx : Rel E x v) (hl : Lt n x) (h : yassert P t ok x = some r) :
    ∃ u, (Instr.typeAssert v xt t ok).run P w = .ok u w ∧ Rel E r u ∧ Lt n r := by
  unfold yassert at h
  have zz : ∀ r, ((P.info? t).bind (·.zero)).map (fun z => AV.tup [nv z, .p (.bool false)]) = some r → ∃ z, (zeroValue t).run P w = .ok z w ∧ r = .tup [nv z, .p (.bool false)] := by
    intro r hr
    obtain ⟨z, hz, rfl⟩ := Option.map_eq_some_iff.1 hr
    obtain ⟨i, hi, hz⟩ := Option.bind_eq_some_iff.1 hz
    exact ⟨z, by simp [zeroValue, typeInfo, hi, hz], rfl⟩
  have tr : ∀ (x y : AV) (u v : Value), Rel E x u → Rel E y v → Rel E (.tup [x, y]) (.tuple #[u, v]) := fun x y u v h1 h2 => .tup (vs := [u, v]) rfl (Rels.cons h1 (.cons h2 (.nil E))).2
  have tl : ∀ (x y : AV), Lt n x → Lt n y → Lt n (.tup [x, y]) := fun x y h1 h2 => .tup fun i z hz => by
    cases i with
    | zero => cases hz; exact h1
    | succ i => cases i with
      | zero => cases hz; exact h2
      | succ i => cases hz
  split at h
  · cases h
  · rename_i d hd hu
    have hu' : (underlying t).run P w = .ok d w := by simp [underlying, hu]
    split at h
    · rename_i t' v'
      obtain rfl := hx.p_inv
      split at h
      · rename_i he
        subst he
        simp only [Option.some.injEq] at h
        subst h
        cases ok
        · exact ⟨v', by cases d <;> first | (exact absurd rfl (hd _)) | simp [Instr.typeAssert, hu'], .pure (.p _), .p _⟩
        · exact ⟨.tuple #[v', .bool true], by cases d <;> first | (exact absurd rfl (hd _)) | simp [Instr.typeAssert, hu'], tr _ _ _ _ (.pure (.p _)) (.pure (.p _)), tl _ _ (.p _) (.p _)⟩
      · rename_i hne
        split at h
        · rename_i hok
          subst hok
          obtain ⟨z, hz, rfl⟩ := zz _ h
          exact ⟨.tuple #[z, .bool false], by cases d <;> first | (exact absurd rfl (hd _)) | simp [Instr.typeAssert, hu', hne, hz], tr _ _ _ _ (nv_rel _ _) (.pure (.p _)), tl _ _ (nv_lt _ _) (.p _)⟩
        · cases h
    · rename_i t' v'
      cases hx with | pure hx => cases hx with | @ifc _ _ u hp =>
      split at h
      · rename_i he
        subst he
        simp only [Option.some.injEq] at h
        subst h
        cases ok
        · exact ⟨u, by cases d <;> first | (exact absurd rfl (hd _)) | simp [Instr.typeAssert, hu'], .pure hp, prel_lt hp n⟩
        · exact ⟨.tuple #[u, .bool true], by cases d <;> first | (exact absurd rfl (hd _)) | simp [Instr.typeAssert, hu'], tr _ _ _ _ (.pure hp) (.pure (.p _)), tl _ _ (prel_lt hp n) (.p _)⟩
      · rename_i hne
        split at h
        · rename_i hok
          subst hok
          obtain ⟨z, hz, rfl⟩ := zz _ h
          exact ⟨.tuple #[z, .bool false], by cases d <;> first | (exact absurd rfl (hd _)) | simp [Instr.typeAssert, hu', hne, hz], tr _ _ _ _ (nv_rel _ _) (.pure (.p _)), tl _ _ (nv_lt _ _) (.p _)⟩
        · cases h
    · obtain rfl := hx.p_inv
      split at h
      · rename_i hok
        subst hok
        obtain ⟨z, hz, rfl⟩ := zz _ h
        exact ⟨.tuple #[z, .bool false], by cases d <;> first | (exact absurd rfl (hd _)) | simp [Instr.typeAssert, hu', hz], tr _ _ _ _ (nv_rel _ _) (.pure (.p _)), tl _ _ (nv_lt _ _) (.p _)⟩
      · cases h
    · cases h
  · cases h

theorem ypure_sound [GTab] {P : Program} {E : Env} {h : AH} {e : Operand → AV} {vals : Operand → Value} {w : World} {o : Oper} {ok : Prop} {r : AV}
    (hh : HRel E h w) (hb : h.ok) (hO : Ops E h.n e vals o.op.operands) (hy : ypure P h e o.op = some (ok, r)) (hok : ok) :
    ∃ v, (execOp vals o).run P w = .ok (.value v) w ∧ Rel E r v ∧ Lt h.n r := by
  unfold ypure at hy
  unfold execOp
  split at hy <;> first | (cases hy; done) | (rename_i hop; rw [hop] at hO ⊢; simp only [Sem.run_bind, Sem.run_pure])
  · rename_i x
    cases hy
    exact ⟨_, rfl, hO.rel x (by simp [Op.operands]), hO.lt x (by simp [Op.operands])⟩
  · rename_i x
    cases hy
    exact ⟨_, rfl, hO.rel x (by simp [Op.operands]), hO.lt x (by simp [Op.operands])⟩
  · rename_i c x y
    split at hy
    · rename_i cb hc
      cases hy
      have hcv := hO.rel c (by simp [Op.operands])
      rw [hc] at hcv
      rw [hcv.p_inv]
      cases cb
      · rw [ysel_false]; exact ⟨vals y, by simp [asBool], hO.rel y (by simp [Op.operands]), hO.lt y (by simp [Op.operands])⟩
      · rw [ysel_true]; exact ⟨vals x, by simp [asBool], hO.rel x (by simp [Op.operands]), hO.lt x (by simp [Op.operands])⟩
    · cases hy
  · obtain ⟨v, hv, hp⟩ := abop_sound (P := P) (w := w) (hO.rel _ (by simp [Op.operands])) (hO.rel _ (by simp [Op.operands])) hy hok
    simp only [Sem.run_bind] at hv
    exact ⟨v, by rw [hv]; rfl, .pure hp, prel_lt hp _⟩
  · obtain ⟨r', hq, he⟩ := Option.map_eq_some_iff.1 hy
    simp only [Prod.mk.injEq] at he
    obtain ⟨rfl, rfl⟩ := he
    obtain ⟨v, hv, rfl⟩ := aun_sound (P := P) (w := w) (hO.rel _ (by simp [Op.operands])) hq
    exact ⟨v, by rw [hv]; rfl, .pure (.p _), .p _⟩
  · obtain ⟨r', hq, he⟩ := Option.map_eq_some_iff.1 hy
    simp only [Prod.mk.injEq] at he
    obtain ⟨rfl, rfl⟩ := he
    obtain ⟨v, hv, hp⟩ := aconv_sound (P := P) (w := w) (hO.rel _ (by simp [Op.operands])) hq
    exact ⟨v, by rw [hv]; rfl, .pure hp, prel_lt hp _⟩
  · obtain ⟨v, hv, hr, hl⟩ := afield_sound (P := P) (w := w) (hO.rel _ (by simp [Op.operands])) (hO.lt _ (by simp [Op.operands])) hy hok
    exact ⟨v, by rw [hv]; rfl, hr, hl⟩
  · obtain ⟨r', hq, he⟩ := Option.map_eq_some_iff.1 hy
    simp only [Prod.mk.injEq] at he
    obtain ⟨rfl, rfl⟩ := he
    obtain ⟨v, hv, hr, hl⟩ := afieldv_sound (P := P) (w := w) (hO.rel _ (by simp [Op.operands])) (hO.lt _ (by simp [Op.operands])) hq
    exact ⟨v, by rw [hv]; rfl, hr, hl⟩
  · obtain ⟨r', hq, he⟩ := Option.map_eq_some_iff.1 hy
    simp only [Prod.mk.injEq] at he
    obtain ⟨rfl, rfl⟩ := he
    obtain ⟨v, hv, hr, hl⟩ := aload_sound (P := P) (w := w) hh (hO.rel _ (by simp [Op.operands])) (hO.lt _ (by simp [Op.operands])) hb hq
    exact ⟨v, by rw [hv]; rfl, hr, hl⟩
  · obtain ⟨v, hv, hr, hl⟩ := aindex_sound (P := P) (w := w) (hO.rel _ (by simp [Op.operands])) (hO.rel _ (by simp [Op.operands])) (hO.lt _ (by simp [Op.operands])) hy hok
    exact ⟨v, by rw [hv]; rfl, hr, hl⟩
  · obtain ⟨v, hv, hr, hl⟩ := aindexv_sound (P := P) (w := w) (hO.rel _ (by simp [Op.operands])) (hO.rel _ (by simp [Op.operands])) (hO.lt _ (by simp [Op.operands])) hy hok
    exact ⟨v, by rw [hv]; rfl, hr, hl⟩
  · rename_i t x lo hi mx
    obtain ⟨v, hv, hr, hl⟩ := aslice_sound (P := P) (w := w) (n := h.n) (hO.rel x (by simp [Op.operands])) (relO_of hO lo (fun y hy => by simp [Op.operands, hy])) (relO_of hO hi (fun y hy => by simp [Op.operands, hy])) (relO_of hO mx (fun y hy => by simp [Op.operands, hy])) hy hok
    exact ⟨v, by rw [hv]; rfl, hr, hl⟩
  · rename_i x i
    split at hy
    · rename_i l hc
      obtain ⟨r', hq, he⟩ := Option.map_eq_some_iff.1 hy
      simp only [Prod.mk.injEq] at he
      obtain ⟨rfl, rfl⟩ := he
      have hx := hO.rel x (by simp [Op.operands])
      have hl := hO.lt x (by simp [Op.operands])
      rw [hc] at hx hl
      obtain ⟨vs, hv, hrels⟩ := hx.tup_inv
      obtain ⟨v, hvi, hrel⟩ := hrels.getElem hq
      exact ⟨v, by rw [hv]; simp [Instr.extract, hvi], hrel, hl.tup_inv i _ hq⟩
    · cases hy
  · rename_i t x
    split at hy
    · cases hy
    · rename_i d hd hu
      obtain ⟨r', hq, he⟩ := Option.map_eq_some_iff.1 hy
      simp only [Prod.mk.injEq] at he
      obtain ⟨rfl, rfl⟩ := he
      have hx := hO.rel x (by simp [Op.operands])
      refine ⟨.iface t (vals x), ?_, ?_⟩
      · cases d <;> first | (exact absurd rfl (hd _)) | simp [Instr.makeInterface, underlying, hu]
      · unfold mkIfc at hq
        split at hq <;> simp only [Option.some.injEq, reduceCtorEq] at hq <;> subst hq <;> rename_i he <;> rw [he] at hx
        · rw [hx.p_inv]; exact ⟨.pure (.p _), .p _⟩
        · cases hx with | pure hx => exact ⟨.pure (.ifc hx), .ifc _ _⟩
        · exact ⟨.pure (.ifc hx.sl_inv), .ifc _ _⟩
        · cases hx with | pure hx => exact ⟨.pure (.ifc hx), .ifc _ _⟩
        · cases hx with | pure hx => exact ⟨.pure (.ifc hx), .ifc _ _⟩
    · cases hy
  · rename_i t parts
    have hmem : ∀ q ∈ parts.toList, q.2 ∈ (Op.build t parts).operands := fun q hq => by
      simp only [Op.operands, List.mem_toArray, List.mem_map]
      exact ⟨q, hq, rfl⟩
    obtain ⟨v, hv, hr, hl⟩ := abuild_sound (P := P) (w := w) (n := h.n) (E := E) (parts := parts.toList.map fun x => (x.1, e x.2)) (vparts := parts.toList.map fun x => (x.1, vals x.2)) (by simp)
      (fun i x v hx hv => by
        rw [List.getElem?_map] at hx hv
        cases hp : parts.toList[i]? with
        | none => rw [hp] at hx; cases hx
        | some q => rw [hp] at hx hv; cases hx; cases hv; exact ⟨rfl, hO.rel _ (hmem q (List.mem_of_getElem? hp))⟩)
      (fun x hx => by
        obtain ⟨q, hq, rfl⟩ := List.mem_map.1 hx
        exact hO.lt _ (hmem q hq)) hy hok
    refine ⟨v, ?_, hr, hl⟩
    have e2 : (Array.map (fun x => match x with | (i, x) => (i, vals x)) parts) = (parts.toList.map fun x => (x.1, vals x.2)).toArray := arr_map (fun (x : Nat × Operand) => (x.1, vals x.2)) parts
    rw [e2, hv]; rfl
  · rename_i x
    have hx := hO.rel x (by simp [Op.operands])
    have hl := hO.lt x (by simp [Op.operands])
    split at hy <;> first | (cases hy; done) | (cases hy; rename_i hc; rw [hc] at hx hl)
    · obtain ⟨b, hb, ho⟩ := hx.bp_inv
      rw [hb]
      exact ⟨_, rfl, hb ▸ hx, hl⟩
    · obtain ⟨b, cap, size, ln, hb, ho⟩ := hx.tp_inv
      rw [hb]
      exact ⟨_, rfl, hb ▸ hx, hl⟩
    · obtain ⟨b, us', hb, _⟩ := hx.ep_inv
      rw [hb]
      exact ⟨_, rfl, hb ▸ hx, hl⟩
    · have hb := hx.p_inv
      rw [hb]
      exact ⟨_, rfl, hb ▸ hx, hl⟩
    · obtain ⟨vs, us', hb, h1, h2⟩ := hx.fn_inv
      rw [hb]
      exact ⟨_, rfl, hb ▸ hx, hl⟩
  · rename_i f x y
    cases hy
    have m1 : ∀ z ∈ x.toList, z ∈ (Op.makeFunc f x y).operands := fun z hz => by simp only [Op.operands, Array.mem_append]; exact .inl (by simpa using hz)
    have m2 : ∀ z ∈ y.toList, z ∈ (Op.makeFunc f x y).operands := fun z hz => by simp only [Op.operands, Array.mem_append]; exact .inr (by simpa using hz)
    refine ⟨.func f (x.map vals) (y.map vals), rfl, ?_, ?_⟩
    · rw [arr_map vals x, arr_map vals y]
      exact .fn (rels_map hO _ m1).1 (rels_map hO _ m2).1 (rels_map hO _ m1).2 (rels_map hO _ m2).2
    · have key : ∀ (l : List Operand), (∀ z ∈ l, z ∈ (Op.makeFunc f x y).operands) → ∀ (i : Nat) (z : AV), (l.map e)[i]? = some z → Lt h.n z := by
        intro l hl i z hz
        rw [List.getElem?_map] at hz
        obtain ⟨q, hq, rfl⟩ := Option.map_eq_some_iff.1 hz
        exact hO.lt q (hl q (List.mem_of_getElem? hq))
      exact .fn (key _ m1) (key _ m2)
  · obtain ⟨r', hq, he⟩ := Option.map_eq_some_iff.1 hy
    simp only [Prod.mk.injEq] at he
    obtain ⟨rfl, rfl⟩ := he
    obtain ⟨v, hv, hr, hl⟩ := yassert_sound (P := P) (w := w) (hO.rel _ (by simp [Op.operands])) (hO.lt _ (by simp [Op.operands])) hq
    exact ⟨v, by rw [hv]; rfl, hr, hl⟩
  · rename_i c
    split at hy
    · rename_i b hb
      obtain ⟨callee, args, ts⟩ := c
      simp only at hb hy
      subst hb
      obtain ⟨args⟩ := args
      obtain ⟨ts⟩ := ts
      have m : ∀ x ∈ args, x ∈ (Op.call ⟨.builtin b, ⟨args⟩, ⟨ts⟩⟩).operands := fun x hx => by simp [Op.operands, Call.operands, hx]
      simp only at hy
      unfold ybuiltin at hy
      split at hy
      · rename_i t x hxs
        obtain ⟨r'', hq', he⟩ := Option.map_eq_some_iff.1 hy
        simp only [Prod.mk.injEq] at he
        obtain ⟨_, rfl⟩ := he
        match args, hxs, m with
        | [ax], hxs, m =>
          simp only [List.map_cons, List.map_nil, List.cons.injEq, and_true] at hxs
          subst hxs
          obtain ⟨v, hv, rfl⟩ := alen_sound (P := P) (ty := o.type) (w := w) hh (hO.rel ax (m ax (by simp))) (hO.lt ax (m ax (by simp))) hq'
          exact ⟨v, by simp [resolve, invoke, builtin, hv], .pure (.p _), .p _⟩
      · rename_i x y hxs
        match args, hxs, m with
        | [ax, ay], hxs, m =>
          simp only [List.map_cons, List.map_nil, List.cons.injEq, and_true] at hxs
          obtain ⟨rfl, rfl⟩ := hxs
          obtain ⟨v, hv, rfl⟩ := amin_sound (P := P) (w := w) (hO.rel ax (m ax (by simp))) (hO.rel ay (m ay (by simp))) hy
          exact ⟨v, by simp [resolve, invoke, builtin, hv], .pure (.p _), .p _⟩
      · rename_i x y hxs
        match args, hxs, m with
        | [ax, ay], hxs, m =>
          simp only [List.map_cons, List.map_nil, List.cons.injEq, and_true] at hxs
          obtain ⟨rfl, rfl⟩ := hxs
          obtain ⟨v, hv, rfl⟩ := amax_sound (P := P) (w := w) (hO.rel ax (m ax (by simp))) (hO.rel ay (m ay (by simp))) hy
          exact ⟨v, by simp [resolve, invoke, builtin, hv], .pure (.p _), .p _⟩
      · cases hy
    · cases hy
end Go.Up

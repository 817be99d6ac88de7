/- Vp, part e: what turns nothing, in one table, under a guard. -/
import Derived.Test.YtmbepfdnmgiifaaVd
set_option linter.unusedVariables false
set_option linter.unusedSimpArgs false
namespace Go.Vp
open Go.RowKit

/-- A mark that keeps the simplifier out of what stands ahead of it. -/
inductive Ph {α : Type} (a : α) : Type where
  | mk
inductive PhP (a : Prop) : Type where
  | mk
/-- An option taken apart; the simplifier looks at the option alone. -/
def oM {α : Type} (o : Option α) (f : α → Prop) (_ : Ph f) : Prop :=
  match o with
  | some x => f x
  | none => False
theorem oM_some {α : Type} (x : α) (f : α → Prop) (ph : Ph f) : oM (some x) f ph = f x := rfl
theorem oM_inv {α : Type} {o : Option α} {f : α → Prop} {ph : Ph f} (h : oM o f ph) : ∃ x, o = some x ∧ f x := by
  cases o with
  | none => exact h.elim
  | some x => exact ⟨x, rfl, h⟩
def bO (o : Option (Prop × AV)) (f : Prop → AV → Prop) (z : Prop) (_ : Ph f) (_ : PhP z) : Prop :=
  match o with
  | some (ok, r) => f ok r
  | none => z
theorem bO_some (ok : Prop) (r : AV) (f : Prop → AV → Prop) (z : Prop) (p : Ph f) (q : PhP z) : bO (some (ok, r)) f z p q = f ok r := rfl
theorem bO_none (f : Prop → AV → Prop) (z : Prop) (p : Ph f) (q : PhP z) : bO none f z p q = z := rfl
def asBool? : AV → Option Bool
  | .p (.bool b) => some b
  | _ => none
def asBp : AV → Option (Nat × Nat)
  | .bp id off => some (id, off)
  | _ => none
def two {α : Type} : List α → Option (α × α)
  | [x, y] => some (x, y)
  | _ => none
theorem asBool?_inv {x : AV} {b : Bool} (h : asBool? x = some b) : x = .p (.bool b) := by
  unfold asBool? at h; split at h
  · cases h; rfl
  · cases h
theorem asBp_inv {x : AV} {b : Nat × Nat} (h : asBp x = some b) : x = .bp b.1 b.2 := by
  unfold asBp at h; split at h
  · cases h; rfl
  · cases h
theorem two_inv {α : Type} {l : List α} {p : α × α} (h : two l = some p) : l = [p.1, p.2] := by
  unfold two at h; split at h
  · cases h; rfl
  · cases h

/-- An operand under a guard: what is known where the guard holds. -/
def ug (g : Bool) : AV → Prop × AV
  | .gd c y => (g = true → c = true, y)
  | y => (True, y)
theorem ug_sound {E : Env} {g : Bool} {x : AV} {v : Value} (h : Rel E x v) (hok : (ug g x).1) (hg : g = true) : Rel E (ug g x).2 v := by
  unfold ug at hok ⊢
  split
  · rename_i c y
    simp only at hok
    have hc := hok hg
    subst hc
    cases h with
    | pure h => cases h
    | gdT h => exact h
  · exact h
theorem ug_lt {n : Nat} {g : Bool} {x : AV} (h : Lt n x) (hok : (ug g x).1) (hg : g = true) : Lt n (ug g x).2 := by
  unfold ug at hok ⊢
  split
  · rename_i c y
    simp only at hok
    cases h with
    | gd h => exact h (hok hg)
  · exact h

def oks (g : Bool) (l : List AV) : Prop := ∀ x ∈ l, (ug g x).1

def sel (c : Bool) : AV → AV → AV
  | .p (.bool s), .p (.bool t) => .p (.bool (bif c then s else t))
  | x, y => bif c then x else y
theorem sel_true (x y : AV) : sel true x y = x := by unfold sel; split <;> rfl
theorem sel_false (x y : AV) : sel false x y = y := by unfold sel; split <;> rfl

def ypick (g : Bool) (c a b : AV) : Option (Prop × AV) :=
  match (ug g c).2 with
  | .p (.bool cb) => some ((ug g c).1 ∧ (ug (g && cb) a).1 ∧ (ug (g && !cb) b).1, sel cb (ug (g && cb) a).2 (ug (g && !cb) b).2)
  | _ => none

def mkIfc (t : TypeId) : AV → Option AV
  | .p v => some (.p (.iface t v))
  | .ep cs => some (.ifc t (.ep cs))
  | .sl s e c => some (.ifc t (.sl s e c))
  | _ => none

def yassert (P : Program) (asserted : TypeId) (ok : Bool) (x : AV) : Option AV :=
  match P.underlying asserted with
  | some (.interface _) => none
  | some _ =>
    match x with
    | .p (.iface t v) => if t = asserted then some (if ok then .tup [.p v, .p (.bool true)] else .p v) else if ok then ((P.info? asserted).bind (·.zero)).map fun z => .tup [.p z, .p (.bool false)] else none
    | .ifc t v => if t = asserted then some (if ok then .tup [v, .p (.bool true)] else v) else if ok then ((P.info? asserted).bind (·.zero)).map fun z => .tup [.p z, .p (.bool false)] else none
    | .p .nilIface => if ok then ((P.info? asserted).bind (·.zero)).map fun z => .tup [.p z, .p (.bool false)] else none
    | _ => none
  | none => none

def ybuiltin (P : Program) (b : Builtin) (ts : List TypeId) (xs : List AV) : Option (Prop × AV) :=
  match b, ts, xs with
  | .len, [t], [x] => (alen P t x).map fun r => (True, r)
  | .min, _, [x, y] => amm false x y
  | .max, _, [x, y] => amm true x y
  | _, _, _ => none

def ypure (P : Program) (σ : St) (g : Bool) : Op → Option (Prop × AV)
  | .move x => some (ug g (ev σ x))
  | .assign x => some (ug g (ev σ x))
  | .pick c a b => ypick g (ev σ c) (ev σ a) (ev σ b)
  | .binOp o t x y _ => (abop P o t x y (ug g (ev σ x)).2 (ug g (ev σ y)).2).map fun r => ((ug g (ev σ x)).1 ∧ (ug g (ev σ y)).1 ∧ r.1, r.2)
  | .unOp o _ x => (aun o (ug g (ev σ x)).2).map fun r => ((ug g (ev σ x)).1, r)
  | .convert s d x => (aconv P s d (ug g (ev σ x)).2).map fun r => ((ug g (ev σ x)).1, r)
  | .fieldAddr t x f => (afield P t (ug g (ev σ x)).2 f).map fun r => ((ug g (ev σ x)).1 ∧ r.1, r.2)
  | .field t x f => (afieldv P t (ug g (ev σ x)).2 f).map fun r => ((ug g (ev σ x)).1, r)
  | .load t x => (aload P σ.h t (ug g (ev σ x)).2).map fun r => ((ug g (ev σ x)).1, r)
  | .indexAddr t x i => (aindex P t (ug g (ev σ x)).2 (ug g (ev σ i)).2).map fun r => ((ug g (ev σ x)).1 ∧ (ug g (ev σ i)).1 ∧ r.1, r.2)
  | .index t x i => (aindexv P t (ug g (ev σ x)).2 (ug g (ev σ i)).2).map fun r => ((ug g (ev σ x)).1 ∧ (ug g (ev σ i)).1 ∧ r.1, r.2)
  | .slice t x lo hi mx => (aslice P t (ug g (ev σ x)).2 (lo.map fun y => (ug g (ev σ y)).2) (hi.map fun y => (ug g (ev σ y)).2) (mx.map fun y => (ug g (ev σ y)).2)).map fun r =>
      ((ug g (ev σ x)).1 ∧ (∀ y, lo = some y → (ug g (ev σ y)).1) ∧ (∀ y, hi = some y → (ug g (ev σ y)).1) ∧ (∀ y, mx = some y → (ug g (ev σ y)).1) ∧ r.1, r.2)
  | .extract x i =>
    match (ug g (ev σ x)).2 with
    | .tup l => (l[i]?).map fun r => ((ug g (ev σ x)).1, r)
    | _ => none
  | .makeInterface t x =>
    match P.underlying t with
    | some (.interface _) => none
    | some _ => (mkIfc t (ug g (ev σ x)).2).map fun r => ((ug g (ev σ x)).1, r)
    | none => none
  | .build t parts => abuild P t (parts.toList.map fun x => (x.1, ev σ x.2))
  | .nilCheck x =>
    match (ug g (ev σ x)).2 with
    | .bp id off => some ((ug g (ev σ x)).1, .bp id off)
    | .ep cs => some ((ug g (ev σ x)).1, .ep cs)
    | .p (.func (.func f) a b) => some ((ug g (ev σ x)).1, .p (.func (.func f) a b))
    | .fn (.func f) a b => some ((ug g (ev σ x)).1, .fn (.func f) a b)
    | _ => none
  | .makeFunc f a b => some (True, .fn f (a.toList.map (ev σ)) (b.toList.map (ev σ)))
  | .typeAssert x _ t ok => (yassert P t ok (ug g (ev σ x)).2).map fun r => ((ug g (ev σ x)).1, r)
  | .call c =>
    match c.callee with
    | .builtin b => (ybuiltin P b c.argTypes.toList (c.args.toList.map fun x => (ug g (ev σ x)).2)).map fun r => (oks g (c.args.toList.map (ev σ)) ∧ r.1, r.2)
    | _ => none
  | _ => none

theorem relO_of {E0 : Env} {n0 : Nat} {w0 : World} {nt : Nat} {E : Env} {σ : St} {a : Act} {w : World} {g : Bool} (h : SRel E0 n0 w0 nt E σ a w) (hg : g = true) (lo : Option Operand) (hlo : ∀ y, lo = some y → (ug g (ev σ y)).1) :
    RelO E (lo.map fun y => (ug g (ev σ y)).2) (lo.map a.eval) := by
  cases lo with
  | none => trivial
  | some y => exact ug_sound (h.ev y) (hlo y rfl) hg

theorem rels_map {E0 : Env} {n0 : Nat} {w0 : World} {nt : Nat} {E : Env} {σ : St} {a : Act} {w : World} (h : SRel E0 n0 w0 nt E σ a w) : ∀ l : List Operand, Rels E (l.map (ev σ)) (l.map a.eval)
  | [] => .nil E
  | x :: l => .cons (h.ev x) (rels_map h l)

theorem yassert_sound {P : Program} {E : Env} {xt t : TypeId} {ok : Bool} {x r : AV} {v : Value} {w : World} {n : Nat} (hx : Rel E x v) (hl : Lt n x) (h : yassert P t ok x = some r) :
    ∃ u, (Instr.typeAssert v xt t ok).run P w = .ok u w ∧ Rel E r u ∧ Lt n r := by
  unfold yassert at h
  have zz : ∀ r, ((P.info? t).bind (·.zero)).map (fun z => AV.tup [.p z, .p (.bool false)]) = some r → ∃ z, (zeroValue t).run P w = .ok z w ∧ r = .tup [.p z, .p (.bool false)] := by
    intro r hr
    obtain ⟨z, hz, rfl⟩ := Option.map_eq_some_iff.1 hr
    obtain ⟨i, hi, hz⟩ := Option.bind_eq_some_iff.1 hz
    exact ⟨z, by simp [zeroValue, typeInfo, hi, hz], rfl⟩
  have tr : ∀ (x y : AV) (u v : Value), Rel E x u → Rel E y v → Rel E (.tup [x, y]) (.tuple #[u, v]) := fun x y u v h1 h2 => .tup (vs := [u, v]) rfl (Rels.cons h1 (.cons h2 (.nil E))).2
  have tl : ∀ (x y : AV), Lt n x → Lt n y → Lt n (.tup [x, y]) := fun x y h1 h2 => .tup fun i z hz => by
    cases i with
    | zero => cases hz; exact h1
    | succ i => cases i with
      | zero => cases hz; exact h2
      | succ i => cases hz
  split at h
  · cases h
  · rename_i d hd hu
    have hu' : (underlying t).run P w = .ok d w := by simp [underlying, hu]
    split at h
    · rename_i t' v'
      obtain rfl := hx.p_inv
      split at h
      · rename_i he
        subst he
        simp only [Option.some.injEq] at h
        subst h
        cases ok
        · exact ⟨v', by cases d <;> first | (exact absurd rfl (hd _)) | simp [Instr.typeAssert, hu'], .pure (.p _), .p _⟩
        · exact ⟨.tuple #[v', .bool true], by cases d <;> first | (exact absurd rfl (hd _)) | simp [Instr.typeAssert, hu'], tr _ _ _ _ (.pure (.p _)) (.pure (.p _)), tl _ _ (.p _) (.p _)⟩
      · rename_i hne
        split at h
        · rename_i hok
          subst hok
          obtain ⟨z, hz, rfl⟩ := zz _ h
          exact ⟨.tuple #[z, .bool false], by cases d <;> first | (exact absurd rfl (hd _)) | simp [Instr.typeAssert, hu', hne, hz], tr _ _ _ _ (.pure (.p _)) (.pure (.p _)), tl _ _ (.p _) (.p _)⟩
        · cases h
    · rename_i t' v'
      cases hx with | pure hx => cases hx with | @ifc _ _ u hp =>
      split at h
      · rename_i he
        subst he
        simp only [Option.some.injEq] at h
        subst h
        cases ok
        · exact ⟨u, by cases d <;> first | (exact absurd rfl (hd _)) | simp [Instr.typeAssert, hu'], .pure hp, prel_lt hp n⟩
        · exact ⟨.tuple #[u, .bool true], by cases d <;> first | (exact absurd rfl (hd _)) | simp [Instr.typeAssert, hu'], tr _ _ _ _ (.pure hp) (.pure (.p _)), tl _ _ (prel_lt hp n) (.p _)⟩
      · rename_i hne
        split at h
        · rename_i hok
          subst hok
          obtain ⟨z, hz, rfl⟩ := zz _ h
          exact ⟨.tuple #[z, .bool false], by cases d <;> first | (exact absurd rfl (hd _)) | simp [Instr.typeAssert, hu', hne, hz], tr _ _ _ _ (.pure (.p _)) (.pure (.p _)), tl _ _ (.p _) (.p _)⟩
        · cases h
    · obtain rfl := hx.p_inv
      split at h
      · rename_i hok
        subst hok
        obtain ⟨z, hz, rfl⟩ := zz _ h
        exact ⟨.tuple #[z, .bool false], by cases d <;> first | (exact absurd rfl (hd _)) | simp [Instr.typeAssert, hu', hz], tr _ _ _ _ (.pure (.p _)) (.pure (.p _)), tl _ _ (.p _) (.p _)⟩
      · cases h
    · cases h
  · cases h

theorem ypure_sound {P : Program} {E0 : Env} {n0 : Nat} {w0 : World} {nt : Nat} {E : Env} {σ : St} {a : Act} {w : World} {g : Bool} {o : Oper} {ok : Prop} {r : AV}
    (h : SRel E0 n0 w0 nt E σ a w) (hg : g = true) (hy : ypure P σ g o.op = some (ok, r)) (hok : ok) :
    ∃ v, (execOp a.eval o).run P w = .ok (.value v) w ∧ Rel E r v ∧ Lt σ.h.n r := by
  have us : ∀ x : Operand, (ug g (ev σ x)).1 → Rel E (ug g (ev σ x)).2 (a.eval x) := fun x hx => ug_sound (h.ev x) hx hg
  have ul : ∀ x : Operand, (ug g (ev σ x)).1 → Lt σ.h.n (ug g (ev σ x)).2 := fun x hx => ug_lt (h.evlt x) hx hg
  unfold ypure at hy
  unfold execOp
  split at hy <;> first | (cases hy; done) | (rename_i hop; rw [hop]; simp only [Sem.run_bind, Sem.run_pure])
  · rename_i x
    simp only [Option.some.injEq] at hy
    have h1 : (ug g (ev σ x)).1 := by rw [hy]; exact hok
    have h2 : (ug g (ev σ x)).2 = r := by rw [hy]
    exact ⟨_, rfl, h2 ▸ us x h1, h2 ▸ ul x h1⟩
  · rename_i x
    simp only [Option.some.injEq] at hy
    have h1 : (ug g (ev σ x)).1 := by rw [hy]; exact hok
    have h2 : (ug g (ev σ x)).2 = r := by rw [hy]
    exact ⟨_, rfl, h2 ▸ us x h1, h2 ▸ ul x h1⟩
  · rename_i c x y
    unfold ypick at hy
    split at hy
    · rename_i cb hc
      simp only [Option.some.injEq, Prod.mk.injEq] at hy
      obtain ⟨rfl, rfl⟩ := hy
      obtain ⟨k1, k2, k3⟩ := hok
      have hcv := us c k1
      rw [hc] at hcv
      have e := hcv.p_inv
      rw [e]
      subst hg
      cases cb
      · refine ⟨a.eval y, by simp [asBool], ?_, ?_⟩
        · rw [sel_false]; exact ug_sound (h.ev y) k3 rfl
        · rw [sel_false]; exact ug_lt (h.evlt y) k3 rfl
      · refine ⟨a.eval x, by simp [asBool], ?_, ?_⟩
        · rw [sel_true]; exact ug_sound (h.ev x) k2 rfl
        · rw [sel_true]; exact ug_lt (h.evlt x) k2 rfl
    · cases hy
  · obtain ⟨⟨ok', r'⟩, hq, he⟩ := Option.map_eq_some_iff.1 hy
    simp only [Prod.mk.injEq] at he
    obtain ⟨rfl, rfl⟩ := he
    obtain ⟨k1, k2, k3⟩ := hok
    obtain ⟨v, hv, rfl⟩ := abop_sound (P := P) (w := w) (us _ k1) (us _ k2) hq k3
    simp only [Sem.run_bind] at hv
    exact ⟨v, by rw [hv]; rfl, .pure (.p _), .p _⟩
  · obtain ⟨r', hq, he⟩ := Option.map_eq_some_iff.1 hy
    simp only [Prod.mk.injEq] at he
    obtain ⟨rfl, rfl⟩ := he
    obtain ⟨v, hv, rfl⟩ := aun_sound (P := P) (w := w) (us _ hok) hq
    exact ⟨v, by rw [hv]; rfl, .pure (.p _), .p _⟩
  · obtain ⟨r', hq, he⟩ := Option.map_eq_some_iff.1 hy
    simp only [Prod.mk.injEq] at he
    obtain ⟨rfl, rfl⟩ := he
    obtain ⟨v, hv, rfl⟩ := aconv_sound (P := P) (w := w) (us _ hok) hq
    exact ⟨v, by rw [hv]; rfl, .pure (.p _), .p _⟩
  · obtain ⟨⟨ok', r'⟩, hq, he⟩ := Option.map_eq_some_iff.1 hy
    simp only [Prod.mk.injEq] at he
    obtain ⟨rfl, rfl⟩ := he
    obtain ⟨v, hv, hr, hl⟩ := afield_sound (P := P) (w := w) (us _ hok.1) (ul _ hok.1) hq hok.2
    exact ⟨v, by rw [hv]; rfl, hr, hl⟩
  · obtain ⟨r', hq, he⟩ := Option.map_eq_some_iff.1 hy
    simp only [Prod.mk.injEq] at he
    obtain ⟨rfl, rfl⟩ := he
    obtain ⟨v, hv, hr, hl⟩ := afieldv_sound (P := P) (w := w) (us _ hok) (ul _ hok) hq
    exact ⟨v, by rw [hv]; rfl, hr, hl⟩
  · obtain ⟨r', hq, he⟩ := Option.map_eq_some_iff.1 hy
    simp only [Prod.mk.injEq] at he
    obtain ⟨rfl, rfl⟩ := he
    obtain ⟨v, hv, hr, hl⟩ := aload_sound (P := P) (w := w) h.hr (us _ hok) (ul _ hok) h.blt hq
    exact ⟨v, by rw [hv]; rfl, hr, hl⟩
  · obtain ⟨⟨ok', r'⟩, hq, he⟩ := Option.map_eq_some_iff.1 hy
    simp only [Prod.mk.injEq] at he
    obtain ⟨rfl, rfl⟩ := he
    obtain ⟨v, hv, hr, hl⟩ := aindex_sound (P := P) (w := w) (us _ hok.1) (us _ hok.2.1) (ul _ hok.1) hq hok.2.2
    exact ⟨v, by rw [hv]; rfl, hr, hl⟩
  · obtain ⟨⟨ok', r'⟩, hq, he⟩ := Option.map_eq_some_iff.1 hy
    simp only [Prod.mk.injEq] at he
    obtain ⟨rfl, rfl⟩ := he
    obtain ⟨v, hv, hr, hl⟩ := aindexv_sound (P := P) (w := w) (us _ hok.1) (us _ hok.2.1) (ul _ hok.1) hq hok.2.2
    exact ⟨v, by rw [hv]; rfl, hr, hl⟩
  · obtain ⟨⟨ok', r'⟩, hq, he⟩ := Option.map_eq_some_iff.1 hy
    simp only [Prod.mk.injEq] at he
    obtain ⟨rfl, rfl⟩ := he
    obtain ⟨k1, k2, k3, k4, k5⟩ := hok
    obtain ⟨v, hv, hr, hl⟩ := aslice_sound (P := P) (w := w) (n := σ.h.n) (us _ k1) (relO_of h hg _ k2) (relO_of h hg _ k3) (relO_of h hg _ k4) hq k5
    exact ⟨v, by rw [hv]; rfl, hr, hl⟩
  · rename_i x i
    split at hy
    · rename_i l hc
      obtain ⟨r', hq, he⟩ := Option.map_eq_some_iff.1 hy
      simp only [Prod.mk.injEq] at he
      obtain ⟨rfl, rfl⟩ := he
      have hx := us x hok
      rw [hc] at hx
      obtain ⟨vs, hv, hrels⟩ := hx.tup_inv
      obtain ⟨v, hvi, hrel⟩ := hrels.getElem hq
      have hl := ul x hok
      rw [hc] at hl
      exact ⟨v, by rw [hv]; simp [Instr.extract, hvi], hrel, hl.tup_inv i _ hq⟩
    · cases hy
  · rename_i t x
    split at hy
    · cases hy
    · rename_i d hd hu
      obtain ⟨r', hq, he⟩ := Option.map_eq_some_iff.1 hy
      simp only [Prod.mk.injEq] at he
      obtain ⟨rfl, rfl⟩ := he
      have hx := us x hok
      refine ⟨.iface t (a.eval x), ?_, ?_⟩
      · cases d <;> first | (exact absurd rfl (hd _)) | simp [Instr.makeInterface, underlying, hu]
      · unfold mkIfc at hq
        split at hq <;> simp only [Option.some.injEq, reduceCtorEq] at hq <;> subst hq <;> rename_i he <;> rw [he] at hx
        · rw [hx.p_inv]; exact ⟨.pure (.p _), .p _⟩
        · cases hx with | pure hx => exact ⟨.pure (.ifc hx), .ifc _ _⟩
        · exact ⟨.pure (.ifc hx.sl_inv), .ifc _ _⟩
    · cases hy
  · rename_i t parts
    obtain ⟨v, hv, hr, hl⟩ := abuild_sound (P := P) (w := w) (n := σ.h.n) (E := E) (parts := parts.toList.map fun x => (x.1, ev σ x.2)) (vparts := parts.toList.map fun x => (x.1, a.eval x.2)) (by simp)
      (fun i x v hx hv => by
        rw [List.getElem?_map] at hx hv
        cases hp : parts.toList[i]? with
        | none => rw [hp] at hx; cases hx
        | some q => rw [hp] at hx hv; cases hx; cases hv; exact ⟨rfl, h.ev _⟩)
      (fun x hx => by
        obtain ⟨q, _, rfl⟩ := List.mem_map.1 hx
        exact h.evlt _) hy hok
    refine ⟨v, ?_, hr, hl⟩
    have e := arr_map (fun (x : Nat × Operand) => (x.1, a.eval x.2)) parts
    have e2 : (Array.map (fun x => match x with | (i, x) => (i, a.eval x)) parts) = (parts.toList.map fun x => (x.1, a.eval x.2)).toArray := by rw [← e]
    rw [e2, hv]; rfl
  · rename_i x
    split at hy <;> simp only [Option.some.injEq, Prod.mk.injEq, reduceCtorEq] at hy <;> obtain ⟨rfl, rfl⟩ := hy <;> rename_i hc <;> have hx := us x hok <;> have hl := ul x hok <;> rw [hc] at hx hl
    · obtain ⟨b, hb, ho⟩ := hx.bp_inv
      rw [hb]
      exact ⟨_, rfl, hb ▸ hx, hl⟩
    · obtain ⟨b, us', hb, _⟩ := hx.ep_inv
      rw [hb]
      exact ⟨_, rfl, hb ▸ hx, hl⟩
    · have hb := hx.p_inv
      rw [hb]
      exact ⟨_, rfl, hb ▸ hx, hl⟩
    · obtain ⟨vs, us', hb, h1, h2⟩ := hx.fn_inv
      rw [hb]
      exact ⟨_, rfl, hb ▸ hx, hl⟩
  · rename_i f x y
    cases hy
    refine ⟨.func f (x.map a.eval) (y.map a.eval), rfl, ?_, ?_⟩
    · rw [arr_map a.eval x, arr_map a.eval y]
      exact .fn (rels_map h _).1 (rels_map h _).1 (rels_map h _).2 (rels_map h _).2
    · have key : ∀ (l : List Operand) (i : Nat) (z : AV), (l.map (ev σ))[i]? = some z → Lt σ.h.n z := by
        intro l i z hz
        rw [List.getElem?_map] at hz
        obtain ⟨q, _, rfl⟩ := Option.map_eq_some_iff.1 hz
        exact h.evlt q
      exact .fn (key _) (key _)
  · obtain ⟨r', hq, he⟩ := Option.map_eq_some_iff.1 hy
    simp only [Prod.mk.injEq] at he
    obtain ⟨rfl, rfl⟩ := he
    obtain ⟨v, hv, hr, hl⟩ := yassert_sound (P := P) (w := w) (us _ hok) (ul _ hok) hq
    exact ⟨v, by rw [hv]; rfl, hr, hl⟩
  · rename_i c
    split at hy
    · rename_i b hb
      obtain ⟨⟨ok', r'⟩, hq, he⟩ := Option.map_eq_some_iff.1 hy
      simp only [Prod.mk.injEq] at he
      obtain ⟨rfl, rfl⟩ := he
      obtain ⟨k0, k2⟩ := hok
      have k1 : ∀ x ∈ c.args.toList, (ug g (ev σ x)).1 := fun x hx => k0 _ (List.mem_map.2 ⟨x, hx, rfl⟩)
      clear k0
      obtain ⟨callee, args, ts⟩ := c
      simp only at hb hq k1
      subst hb
      obtain ⟨args⟩ := args
      obtain ⟨ts⟩ := ts
      simp only at hq k1
      unfold ybuiltin at hq
      split at hq
      · rename_i t x hxs
        obtain ⟨r'', hq', he⟩ := Option.map_eq_some_iff.1 hq
        simp only [Prod.mk.injEq] at he
        obtain ⟨_, rfl⟩ := he
        match args, hxs with
        | [ax], hxs =>
          simp only [List.map_cons, List.map_nil, List.cons.injEq, and_true] at hxs
          subst hxs
          obtain ⟨v, hv, rfl⟩ := alen_sound (P := P) (ty := o.type) (w := w) (us ax (k1 ax (by simp))) hq'
          exact ⟨v, by simp [resolve, invoke, builtin, hv], .pure (.p _), .p _⟩
      · rename_i x y hxs
        match args, hxs with
        | [ax, ay], hxs =>
          simp only [List.map_cons, List.map_nil, List.cons.injEq, and_true] at hxs
          obtain ⟨rfl, rfl⟩ := hxs
          obtain ⟨v, hv, rfl⟩ := amin_sound (P := P) (w := w) (us ax (k1 ax (by simp))) (us ay (k1 ay (by simp))) hq
          exact ⟨v, by simp [resolve, invoke, builtin, hv], .pure (.p _), .p _⟩
      · rename_i x y hxs
        match args, hxs with
        | [ax, ay], hxs =>
          simp only [List.map_cons, List.map_nil, List.cons.injEq, and_true] at hxs
          obtain ⟨rfl, rfl⟩ := hxs
          obtain ⟨v, hv, rfl⟩ := amax_sound (P := P) (w := w) (us ax (k1 ax (by simp))) (us ay (k1 ay (by simp))) hq
          exact ⟨v, by simp [resolve, invoke, builtin, hv], .pure (.p _), .p _⟩
      · cases hq
    · cases hy
end Go.Vp

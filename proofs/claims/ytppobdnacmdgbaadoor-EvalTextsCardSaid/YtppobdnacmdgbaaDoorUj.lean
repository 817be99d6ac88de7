/- Up, part j: all that turns nothing, told onwards. -/
import Derived.Test.YtppobdnacmdgbaaDoorUi
set_option linter.unusedVariables false
set_option linter.unusedSimpArgs false
namespace Go.Up
open Go.RowKit

def abopB (ox oy : Operand) (x y : AV) (op : BinOp) : Bool :=
  match x with
  | .p (.int k _) =>
    match y with
    | .p (.int k' b) =>
      match op with
      | .shl => decide (0 ≤ b)
      | .shr => decide (0 ≤ b)
      | .quo => decide (k = k') && !(b == 0)
      | .rem => decide (k = k') && !(b == 0)
      | _ => decide (k = k')
    | _ => false
  | .st a =>
    match y with
    | .st b =>
      match op with
      | .add => decide (a.length + b.length ≤ maxLen)
      | _ => true
    | _ => false
  | .p (.bool _) =>
    match y with
    | .p (.bool _) => true
    | _ => false
  | .tl _ l _ => !l.isEmpty
  | .sl _ els _ => !els.isEmpty
  | .ms _ _ len => Nat.blt 0 len
  | .ep _ => true
  | .bp _ _ => true
  | .p (.pointer none) => true
  | .p (.slice none _ _) => true
  | .p (.iface _ _) => true
  | .ifc _ _ => true
  | .p .nilFunc => true
  | .p (.func _ _ _) => true
  | .fn _ _ _ => true
  | .p .nilIface => isC ox || isC oy
  | _ => false

section
variable {P : Program}
theorem aeqd_ok {d : TypeDesc} {ox oy : Operand} {x y : AV} {op : BinOp} {ok : Prop} {b : Bool} (hb : abopB ox oy x y op = true) (h : aeqd d ox oy x y = some (ok, b)) : ok := by
  unfold aeqd at h
  split at h <;> first | (cases h; done) | skip
  all_goals
    simp only [Option.some.injEq, Prod.mk.injEq] at h
    obtain ⟨h1, _⟩ := h
    subst h1
    first | trivial | skip
  all_goals
    simp [abopB] at hb
    first | exact hb | (simpa using hb) | (simpa [Nat.blt, Nat.succ_le_iff] using hb)
theorem abop_ok [GTab] {op : BinOp} {t : TypeId} {ox oy : Operand} {x y : AV} {ok : Prop} {r : AV} (hb : abopB ox oy x y op = true) (h : abop P op t ox oy x y = some (ok, r)) : ok := by
  unfold abop at h
  split at h
  · rename_i q hq
    injection h with h
    subst h
    unfold abin at hq
    split at hq
    · cases op <;> simp [abopB] at hb hq <;> (first | exact hq.1 | (obtain ⟨h1, _⟩ := hq; rw [← h1]; first | exact hb | trivial))
    · cases op <;> simp [abopB] at hb hq <;> (first | exact hq.1 | (obtain ⟨h1, _⟩ := hq; rw [← h1]; first | exact hb | trivial))
    · cases hq
  · split at h
    · obtain ⟨q, hq, he⟩ := Option.map_eq_some_iff.1 h
      obtain ⟨q1, q2⟩ := q
      simp only [Prod.mk.injEq] at he
      obtain ⟨d, hd, hq⟩ := Option.bind_eq_some_iff.1 hq
      rw [← he.1]; exact aeqd_ok hb hq
    · obtain ⟨q, hq, he⟩ := Option.map_eq_some_iff.1 h
      obtain ⟨q1, q2⟩ := q
      simp only [Prod.mk.injEq] at he
      obtain ⟨d, hd, hq⟩ := Option.bind_eq_some_iff.1 hq
      rw [← he.1]; exact aeqd_ok hb hq
    · cases h
def fldsB (P : Program) (t : TypeId) : Bool :=
  match P.underlying t with
  | some (.struct fs) => fs.toList.all fun f => (P.info? f.type).isSome
  | some (.array _ e) => (P.info? e).isSome
  | _ => true
theorem abuild_ok {t : TypeId} {parts : List (Nat × AV)} {ok : Prop} {r : AV} (hb : ((parts.all fun x => known x.2) && fldsB P t) = true) (h : abuild P t parts = some (ok, r)) : ok := by
  rw [Bool.and_eq_true] at hb
  obtain ⟨h1, h2⟩ := hb
  rw [List.all_eq_true] at h1
  unfold abuild at h
  split at h
  · obtain ⟨l, _, he⟩ := Option.map_eq_some_iff.1 h
    simp only [Prod.mk.injEq] at he
    rw [← he.1]
    refine ⟨h1, fun fs hu i f hf => ?_, fun n e hu => ?_⟩
    · simp only [fldsB, hu, List.all_eq_true] at h2
      have := h2 f (List.mem_of_getElem? (l := fs.toList) (i := i) (by simpa using hf))
      exact Option.isSome_iff_exists.1 this
    · simp only [fldsB, hu] at h2
      exact Option.isSome_iff_exists.1 h2
  · cases h
end

/-! ### Structs compared -/
section
variable {P : Program}
def fEq (P : Program) (f : Go.Field) (l m : List AV) : Option Bool :=
  match P.underlying f.type, l[f.offset]?, m[f.offset]? with
  | some .bool, some (.p (.bool a)), some (.p (.bool b)) => some (a == b)
  | some (.int _), some (.p (.int k a)), some (.p (.int k' b)) => if k = k' then some (decide (a = b)) else none
  | some .string, some (.st a), some (.st b) => some (List.beq a b)
  | _, _, _ => none
def fsEq (P : Program) (l m : List AV) : List Go.Field → Option Bool
  | [] => some true
  | f :: fs =>
    if f.name == "_" then none else
    match fEq P f l m with
    | some b => (match fsEq P l m fs with
      | some c => some (b && c)
      | none => none)
    | none => none
theorem fEq_run {f : Go.Field} {l m : List AV} {vs us : List Value} {E : Env} {b : Bool} {w : World} (h : fEq P f l m = some b) (hl : Rels E l vs) (hm : Rels E m us) (d : Nat) :
    ∃ x y, (part f.type vs.toArray f.offset).run P w = .ok x w ∧ (part f.type us.toArray f.offset).run P w = .ok y w ∧ (Op.equalIn (d + 1) f.type x y).run P w = .ok b w := by
  unfold fEq at h
  split at h
  · rename_i a b' hu h1 h2
    cases h
    obtain ⟨x, hx, hxr⟩ := hl.getElem h1
    obtain ⟨y, hy, hyr⟩ := hm.getElem h2
    obtain rfl := hxr.p_inv
    obtain rfl := hyr.p_inv
    refine ⟨(.bool a), (.bool b'), by simp [part, isAgg, underlying, hu, hx], by simp [part, isAgg, underlying, hu, hy], by simp [Op.equalIn, underlying, hu]⟩
  · rename_i k0 k a k' b' hu h1 h2
    split at h
    case isFalse => cases h
    rename_i hk
    subst hk
    cases h
    obtain ⟨x, hx, hxr⟩ := hl.getElem h1
    obtain ⟨y, hy, hyr⟩ := hm.getElem h2
    obtain rfl := hxr.p_inv
    obtain rfl := hyr.p_inv
    refine ⟨(.int k a), (.int k b'), by simp [part, isAgg, underlying, hu, hx], by simp [part, isAgg, underlying, hu, hy], ?_⟩
    have e2 : decide (a = b') = (a == b') := by rw [Bool.eq_iff_iff]; simp
    rw [e2]
    simp [Op.equalIn, underlying, hu]
  · rename_i a b' hu h1 h2
    cases h
    obtain ⟨x, hx, hxr⟩ := hl.getElem h1
    obtain ⟨y, hy, hyr⟩ := hm.getElem h2
    obtain rfl := hxr.st_inv
    obtain rfl := hyr.st_inv
    refine ⟨(.string ⟨a.toArray⟩), (.string ⟨b'.toArray⟩), by simp [part, isAgg, underlying, hu, hx], by simp [part, isAgg, underlying, hu, hy], ?_⟩
    have e : List.beq a b' = (a == b') := rfl
    rw [e]
    simp [Op.equalIn, underlying, hu]
    have e3 : ((⟨a.toArray⟩ : ByteArray) == ⟨b'.toArray⟩) = (a.toArray == b'.toArray) := rfl
    rw [e3]
    rw [Bool.eq_iff_iff]
    simp
  · cases h
theorem fsEq_run [GTab] {t : TypeId} {fs : Array Go.Field} {l m : List AV} {vs us : List Value} {E : Env} {b : Bool} {w : World} (hu : P.underlying t = some (.struct fs)) (hs : P.stoodInHeld t = false) (h : fsEq P l m fs.toList = some b) (hl : Rels E l vs) (hm : Rels E m us) (d : Nat) :
    (Op.equalIn (d + 2) t (.agg vs.toArray) (.agg us.toArray)).run P w = .ok b w := by
  rw [Op.equalIn]
  simp only [Sem.run_bind, run_underlying hu, Result.andThen_ok, run_program, hs, Bool.false_eq_true, if_false]
  rw [← Array.forIn_toList]
  generalize fs.toList = l0 at h
  have key : ∀ (l0 : List Go.Field) (b : Bool), fsEq P l m l0 = some b → (forIn l0 ((none, ()) : Option Bool × Unit) fun f (__s : Option Bool × Unit) =>
            if f.name ≠ "_" then do
              let __do_lift ← part f.type vs.toArray f.offset
              let __do_lift_1 ← part f.type us.toArray f.offset
              let __do_lift ← Op.equalIn (d + 1) f.type __do_lift __do_lift_1
              if (!__do_lift) = true then pure (ForInStep.done (some false, ())) else pure (ForInStep.yield (none, ()))
            else pure (ForInStep.yield (none, ()) : ForInStep (Option Bool × Unit)) : Sem (Option Bool × Unit)).run P w = .ok (if b then (none, ()) else (some false, ())) w := by
    intro l0
    induction l0 with
    | nil => intro b h; cases h; simp
    | cons f l0 ih =>
      intro b h
      unfold fsEq at h
      split at h
      case isTrue => cases h
      rename_i hname
      have hname : f.name ≠ "_" := by simpa using hname
      split at h
      case h_2 => cases h
      rename_i b0 hb0
      split at h
      case h_2 => cases h
      rename_i c hc
      cases h
      obtain ⟨x, y, h1, h2, h3⟩ := fEq_run (w := w) hb0 hl hm d
      rw [List.forIn_cons, if_pos hname]
      simp only [Sem.run_bind, h1, h2, h3, Result.andThen_ok]
      cases b0 with
      | false => simp
      | true => simpa using ih c hc
  have k := key l0 b h
  rw [k]
  cases b <;> simp

def seqA (P : Program) (t : TypeId) : AV → AV → Option Bool
  | .agg l, .agg m =>
    match P.underlying t with
    | some (.struct fs) => if !P.stoodInHeld t && !P.eqGuardType P.depth t then fsEq P l m fs.toList else none
    | _ => none
  | _, _ => none
theorem seqA_run [GTab] {op : BinOp} {t : TypeId} {ox oy : Operand} {x y : AV} {vx vy : Value} {E : Env} {b : Bool} {w : World} (h : seqA P t x y = some b) (hx : Rel E x vx) (hy : Rel E y vy) :
    (eqGuard .eql t ox oy vx vy).run P w = .ok () w ∧ (eqGuard .neq t ox oy vx vy).run P w = .ok () w ∧ (binOp .eql t vx vy).run P w = .ok (.bool b) w ∧ (binOp .neq t vx vy).run P w = .ok (.bool (!b)) w := by
  unfold seqA at h
  split at h
  case h_2 => cases h
  split at h
  case h_2 => cases h
  rename_i fs hu
  split at h
  case isFalse => cases h
  rename_i hc
  rw [Bool.and_eq_true, Bool.not_eq_true', Bool.not_eq_true'] at hc
  obtain ⟨vs, rfl, h1⟩ := hx.agg_inv
  obtain ⟨us, rfl, h2⟩ := hy.agg_inv
  have he : (Op.equal t (.agg vs.toArray) (.agg us.toArray)).run P w = .ok b w := fsEq_run hu hc.1 h h1 h2 9998
  refine ⟨?_, ?_, ?_, ?_⟩
  · simp [eqGuard, hc.2]
  · simp [eqGuard, hc.2]
  · simp [binOp, he]
  · simp [binOp, he]
end

section
variable {P : Program} {h : AH} {e : Operand → AV} {R : Type}
theorem YO.of_pure [GTab] {op : Op} {ok : Prop} {y : AV} (hy : ypure P h e op = some (ok, y)) (hok : ok) : YO P h e op y := by
  intro nn E w vals hh hb hO o hop
  subst hop
  have e1 : ypure P ⟨h.o, nn, h.g⟩ e o.op = ypure P h e o.op := by cases o.op <;> rfl
  exact ypure_sound hh hb hO (e1.trans hy) hok
/-- All that turns nothing. -/
def pureK (P : Program) (h : AH) (e : Operand → AV) (op : Op) (K : AV → Option R) : Option R :=
  match op with
  | .move x => K (e x)
  | .assign x => K (e x)
  | .indexAddr t x i => idxK P h t (e x) (e i) K
  | .index t x i => idvK P t (e x) (e i) K
  | .load t x => loadK P h t (e x) K
  | .slice t x lo hi mx => sliK P h t (e x) (lo.map e) (hi.map e) (mx.map e) K
  | .binOp o t x y _ =>
    match seqA P t (e x) (e y) with
    | some b => (match o with
      | .eql => K (.p (.bool b))
      | .neq => K (.p (.bool (!b)))
      | _ => none)
    | none =>
      match abop P o t x y (e x) (e y) with
      | some (_, r) => bif abopB x y (e x) (e y) o then K r else none
      | none => none
  | .fieldAddr t x f =>
    match fo P t f with
    | some q => if posO (tk P q.2) then (match e x with
      | .bp id o => K (.bp id (o + q.1))
      | .tp id i o => K (.tp id i (o + q.1))
      | .ep cs => K (.ep (cs.drop q.1))
      | _ => none) else none
    | none => none
  | .build t parts =>
    match abuild P t (parts.toList.map fun x => (x.1, e x.2)) with
    | some (_, r) => if ((parts.toList.map fun x => (x.1, e x.2)).all fun x => known x.2) && fldsB P t then K r else none
    | none => none
  | .call c =>
    match c.callee with
    | .builtin .len => (match c.argTypes.toList, c.args.toList with
      | [t], [x] => (match alen P h t (e x) with
        | some r => K r
        | none => none)
      | _, _ => none)
    | .builtin .min => (match c.args.toList with
      | [x, y] => (match e x, e y with
        | .p (.int k a), .p (.int k' b) => if k = k' then K (.p (.int k (minI a b))) else none
        | _, _ => none)
      | _ => none)
    | .builtin .max => (match c.args.toList with
      | [x, y] => (match e x, e y with
        | .p (.int k a), .p (.int k' b) => if k = k' then K (.p (.int k (maxI a b))) else none
        | _, _ => none)
      | _ => none)
    | _ => none
  | .pick _ _ _ | .unOp _ _ _ | .convert _ _ _ | .field _ _ _ | .extract _ _ | .makeInterface _ _ | .nilCheck _ | .makeFunc _ _ _ | .typeAssert _ _ _ _ =>
    match ypure P h e op with
    | some (_, r) => K r
    | none => none
  | _ => none
theorem pureK_ok [GTab] {op : Op} {K : AV → Option R} {r : R} (hk : pureK P h e op K = some r) : ∃ y, YO P h e op y ∧ K y = some r := by
  unfold pureK at hk
  split at hk
  · exact ⟨_, .of_pure (ok := True) rfl trivial, hk⟩
  · exact ⟨_, .of_pure (ok := True) rfl trivial, hk⟩
  · exact idxK_ok hk
  · exact idvK_ok hk
  · exact loadK_ok hk
  · exact sliK_ok hk
  · rename_i o t x y g
    split at hk
    · rename_i b hb
      have run : ∀ (nn : Nat) (E : Env) (w : World) (vals : Operand → Value), Ops E nn e vals (Op.binOp o t x y g).operands → Rel E (e x) (vals x) ∧ Rel E (e y) (vals y) := fun nn E w vals hO => ⟨hO.rel x (by simp [Op.operands]), hO.rel y (by simp [Op.operands])⟩
      split at hk
      · refine ⟨_, fun nn E w vals hh hok hO op hop => ?_, hk⟩
        obtain ⟨hx, hy⟩ := run nn E w vals hO
        obtain ⟨h1, h2, h3, h4⟩ := seqA_run (op := .eql) (ox := x) (oy := y) (w := w) hb hx hy
        refine ⟨.bool b, ?_, .pure (.p _), .p _⟩
        unfold execOp
        rw [hop]
        dsimp only
        simp only [Sem.run_bind, h1, h3, Result.andThen_ok, Sem.run_pure]
      · refine ⟨_, fun nn E w vals hh hok hO op hop => ?_, hk⟩
        obtain ⟨hx, hy⟩ := run nn E w vals hO
        obtain ⟨h1, h2, h3, h4⟩ := seqA_run (op := .neq) (ox := x) (oy := y) (w := w) hb hx hy
        refine ⟨.bool (!b), ?_, .pure (.p _), .p _⟩
        unfold execOp
        rw [hop]
        dsimp only
        simp only [Sem.run_bind, h2, h4, Result.andThen_ok, Sem.run_pure]
      · cases hk
    split at hk
    · rename_i hq
      obtain ⟨hb, hk⟩ := cond_inv hk
      exact ⟨_, .of_pure hq (abop_ok hb hq), hk⟩
    · cases hk
  · split at hk
    · rename_i q hq
      split at hk
      · rename_i hp
        obtain ⟨q1, q2⟩ := q
        split at hk
        · rename_i id o hx
          exact ⟨_, .of_pure (ok := posO (tk P q2) = true) (by simp only [ypure, afield, hq, Option.bind_some, hx, afieldc]) hp, hk⟩
        · rename_i id i o hx
          exact ⟨_, .of_pure (ok := posO (tk P q2) = true) (by simp only [ypure, afield, hq, Option.bind_some, hx, afieldc]) hp, hk⟩
        · rename_i cs hx
          exact ⟨_, .of_pure (ok := posO (tk P q2) = true) (by simp only [ypure, afield, hq, Option.bind_some, hx, afieldc]) hp, hk⟩
        · cases hk
      · cases hk
    · cases hk
  · split at hk
    · rename_i hq
      split at hk
      · rename_i hb
        exact ⟨_, .of_pure hq (abuild_ok hb hq), hk⟩
      · cases hk
    · cases hk
  · rename_i c
    split at hk
    · rename_i hc
      split at hk
      · rename_i t x ht hx
        split at hk
        · rename_i r' hl
          exact ⟨_, .of_pure (ok := True) (by simp only [ypure, hc, ybuiltin, ht, hx, List.map_cons, List.map_nil, hl, Option.map_some]) trivial, hk⟩
        · cases hk
      · cases hk
    · rename_i hc
      split at hk
      · rename_i x y hx
        split at hk
        · rename_i k a k' b h1 h2
          split at hk
          · rename_i hkk
            exact ⟨_, .of_pure (ok := k = k') (by simp only [ypure, hc, ybuiltin, hx, List.map_cons, List.map_nil, h1, h2, amm]; rfl) hkk, hk⟩
          · cases hk
        · cases hk
      · cases hk
    · rename_i hc
      split at hk
      · rename_i x y hx
        split at hk
        · rename_i k a k' b h1 h2
          split at hk
          · rename_i hkk
            exact ⟨_, .of_pure (ok := k = k') (by simp only [ypure, hc, ybuiltin, hx, List.map_cons, List.map_nil, h1, h2, amm]; rfl) hkk, hk⟩
          · cases hk
        · cases hk
      · cases hk
    · cases hk
  all_goals first | (cases hk; done) | skip
  all_goals
    split at hk
    · rename_i ok' r' hq
      refine ⟨_, .of_pure hq ?_, hk⟩
      simp only [ypure] at hq
      first
        | (obtain ⟨_, _, he⟩ := Option.map_eq_some_iff.1 hq; simp only [Prod.mk.injEq] at he; rw [← he.1]; trivial)
        | (split at hq <;> first | (cases hq; done) | (cases hq; trivial) | (obtain ⟨_, _, he⟩ := Option.map_eq_some_iff.1 hq; simp only [Prod.mk.injEq] at he; rw [← he.1]; trivial))
        | (cases hq; trivial)
    · cases hk
end
end Go.Up

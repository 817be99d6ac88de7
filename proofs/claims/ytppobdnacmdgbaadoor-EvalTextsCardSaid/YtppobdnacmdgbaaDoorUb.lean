/- Up, part b: operations that yield a value and turn nothing. -/
import Derived.Test.YtppobdnacmdgbaaDoorUa
set_option linter.unusedVariables false
set_option linter.unusedSimpArgs false
namespace Go.Up
open Go.RowKit

/-- A type's make: is it an aggregate; how many cells. -/
def tk (P : Program) (t : TypeId) : Option (Bool × Nat) :=
  match P.underlying t, P.info? t with
  | some (.struct _), some i => some (true, i.size)
  | some (.array _ _), some i => some (true, i.size)
  | some _, some i => some (false, i.size)
  | _, _ => none

theorem tk_isAgg {P : Program} {t : TypeId} {b : Bool} {n : Nat} (h : tk P t = some (b, n)) (w : World) : (isAgg t).run P w = .ok b w := by
  unfold tk at h
  cases hu : P.underlying t with
  | none => rw [hu] at h; simp at h
  | some d =>
    rw [hu] at h
    cases hi : P.info? t with
    | none => rw [hi] at h; cases d <;> simp at h
    | some i =>
      rw [hi] at h
      cases d <;> (simp at h; obtain ⟨rfl, _⟩ := h; simp [isAgg, underlying, hu])
theorem tk_sizeOf {P : Program} {t : TypeId} {b : Bool} {n : Nat} (h : tk P t = some (b, n)) (w : World) : (sizeOf t).run P w = .ok n w := by
  unfold tk at h
  cases hu : P.underlying t with
  | none => rw [hu] at h; simp at h
  | some d =>
    rw [hu] at h
    cases hi : P.info? t with
    | none => rw [hi] at h; cases d <;> simp at h
    | some i =>
      rw [hi] at h
      cases d <;> (simp at h; obtain ⟨_, rfl⟩ := h; simp [sizeOf, typeInfo, hi])

/-- A field's place: its first cell, its type. -/
def fo (P : Program) (t : TypeId) (f : Nat) : Option (Nat × TypeId) :=
  match P.underlying t with
  | some (.struct fs) => (fs[f]?).map fun g => (g.offset, g.type)
  | _ => none

/-- An element's type and its cells. -/
def te (P : Program) (t : TypeId) : Option (TypeId × Nat) :=
  match P.underlying t with
  | some (.slice e) => (P.info? e).map fun i => (e, i.size)
  | _ => none
theorem te_run {P : Program} {t e : TypeId} {n : Nat} (h : te P t = some (e, n)) (w : World) : (underlying t).run P w = .ok (.slice e) w ∧ (sizeOf e).run P w = .ok n w ∧ P.underlying t = some (.slice e) := by
  unfold te at h
  split at h
  · rename_i e' hu
    obtain ⟨i, hi, he⟩ := Option.map_eq_some_iff.1 h
    simp only [Prod.mk.injEq] at he
    obtain ⟨rfl, rfl⟩ := he
    exact ⟨by simp [underlying, hu], by simp [sizeOf, typeInfo, hi], hu⟩
  · cases h

def cellsOf (cs : List AV) (agg : Bool) (n : Nat) : Option AV := if agg then (if n ≤ cs.length then some (.agg (cs.take n)) else none) else cs.head?

/-- The two-valued operators. -/
def shlI (k : IntKind) (a b : Int) : Int := k.wrap (a * 2 ^ (min b.toNat k.bits))
def shrI (k : IntKind) (a b : Int) : Int := a.fdiv (2 ^ (min b.toNat k.bits))
def andI (k : IntKind) (a b : Int) : Int := k.wrap (BitVec.ofInt k.bits a &&& BitVec.ofInt k.bits b).toNat
def orI (k : IntKind) (a b : Int) : Int := k.wrap (BitVec.ofInt k.bits a ||| BitVec.ofInt k.bits b).toNat
def xorI (k : IntKind) (a b : Int) : Int := k.wrap (BitVec.ofInt k.bits a ^^^ BitVec.ofInt k.bits b).toNat
def andNotI (k : IntKind) (a b : Int) : Int := k.wrap (BitVec.ofInt k.bits a &&& ~~~BitVec.ofInt k.bits b).toNat
def notI (k : IntKind) (n : Int) : Int := k.wrap (BitVec.ofInt k.bits (if k.signed then -1 else k.max) ^^^ BitVec.ofInt k.bits n).toNat
def abin (op : BinOp) (t : TypeId) (x y : AV) (cx : Bool) : Option (Prop × AV) :=
  match x, y with
  | .p (.int k a), .p (.int k' b) =>
    match op with
    | .shl => some (0 ≤ b, .p (.int k (shlI k a b)))
    | .shr => some (0 ≤ b, .p (.int k (shrI k a b)))
    | .add => some (k = k', .p (.int k (k.wrap (a + b))))
    | .sub => some (k = k', .p (.int k (k.wrap (a - b))))
    | .mul => some (k = k', .p (.int k (k.wrap (a * b))))
    | .quo => some (k = k' ∧ b ≠ 0, .p (.int k (k.wrap (a.tdiv b))))
    | .rem => some (k = k' ∧ b ≠ 0, .p (.int k (a.tmod b)))
    | .and => some (k = k', .p (.int k (andI k a b)))
    | .or => some (k = k', .p (.int k (orI k a b)))
    | .xor => some (k = k', .p (.int k (xorI k a b)))
    | .andNot => some (k = k', .p (.int k (andNotI k a b)))
    | .eql => some (k = k', .p (.bool (a == b)))
    | .neq => some (k = k', .p (.bool (a != b)))
    | .lss => some (k = k', .p (.bool (decide (a < b))))
    | .leq => some (k = k', .p (.bool (decide (a ≤ b))))
    | .gtr => some (k = k', .p (.bool (decide (b < a))))
    | .geq => some (k = k', .p (.bool (decide (b ≤ a))))
  | .st a, .st b =>
    match op with
    | .add => some (a.length + b.length ≤ maxLen, .st (a ++ b))
    | .eql => some (True, .p (.bool (a == b)))
    | .neq => some (True, .p (.bool (!(a == b))))
    | .lss => some (True, .p (.bool (Op.bytesLess a b)))
    | .geq => some (True, .p (.bool (!(Op.bytesLess a b))))
    | _ => none
  | _, _ => none

theorem st_toList (l : Str) : (⟨l.toArray⟩ : ByteArray).toList = l := ByteArray.toList_eq _
theorem st_size (l : Str) : (⟨l.toArray⟩ : ByteArray).size = l.length := rfl
theorem st_append (a b : Str) : (⟨a.toArray⟩ : ByteArray) ++ ⟨b.toArray⟩ = ⟨(a ++ b).toArray⟩ := by
  apply ByteArray.ext
  simp [ByteArray.data_append]
theorem abin_sound [GTab] {P : Program} {op : BinOp} {t : TypeId} {x y : AV} {ox oy : Operand} {vx vy : Value} {E : Env} {ok : Prop} {r : AV} {w : World}
    (hx : Rel E x vx) (hy : Rel E y vy) (h : abin op t x y true = some (ok, r)) (hok : ok) :
    ∃ v, (do eqGuard op t ox oy vx vy; binOp op t vx vy : Sem Value).run P w = .ok v w ∧ PRel E.S r v := by
  unfold abin at h
  split at h
  · rename_i k a k' b
    cases hx with | pure hx => cases hy with | pure hy =>
    cases hx; cases hy
    have hg : (eqGuard op t ox oy (.int k a) (.int k' b)).run P w = .ok () w := by cases op <;> simp [eqGuard]
    simp only [Sem.run_bind, hg, Result.andThen_ok]
    cases op <;> simp only [Option.some.injEq, Prod.mk.injEq] at h <;> obtain ⟨rfl, rfl⟩ := h
    case quo => obtain ⟨rfl, hb⟩ := hok; exact ⟨_, by simp only [binOp, Op.intDiv, ne_eq, not_true_eq_false, if_false, if_neg hb]; rfl, .p _⟩
    case rem => obtain ⟨rfl, hb⟩ := hok; exact ⟨_, by simp only [binOp, Op.intDiv, ne_eq, not_true_eq_false, if_false, if_neg hb]; rfl, .p _⟩
    case shl => exact ⟨_, by simp only [binOp, Op.shift]; rw [if_neg (by omega)]; rfl, .p _⟩
    case shr => exact ⟨_, by simp only [binOp, Op.shift]; rw [if_neg (by omega)]; rfl, .p _⟩
    all_goals (subst hok; exact ⟨_, by simp only [binOp, ne_eq, not_true_eq_false, if_false]; rfl, .p _⟩)
  · rename_i a b
    obtain rfl := hx.st_inv
    obtain rfl := hy.st_inv
    have hg : (eqGuard op t ox oy (.string ⟨a.toArray⟩) (.string ⟨b.toArray⟩)).run P w = .ok () w := by cases op <;> simp [eqGuard]
    simp only [Sem.run_bind, hg, Result.andThen_ok]
    cases op <;> simp only [Option.some.injEq, Prod.mk.injEq, reduceCtorEq] at h <;> obtain ⟨rfl, rfl⟩ := h
    · simp only [binOp, Op.stringOp, st_size, st_append]
      rw [if_neg (by simp only [maxLen] at hok; simp [IntKind.max, IntKind.signed, IntKind.bits]; omega)]
      exact ⟨_, rfl, .st _⟩
    all_goals (simp only [binOp, Op.stringOp, st_toList]; exact ⟨_, rfl, .p _⟩)
  · cases h
theorem addr_add_add (a : Addr) (i j : Nat) : (a.add i).add j = a.add (i + j) := by
  unfold Addr.add
  by_cases hi : i = 0
  · subst hi; simp
  · by_cases hj : j = 0
    · subst hj; simp
    · simp [hi, hj, Nat.add_assoc]
theorem addr_add_lit (b o j : Nat) : (⟨b, o, none⟩ : Addr).add j = ⟨b, o + j, none⟩ := by
  unfold Addr.add
  by_cases hj : j = 0
  · subst hj; simp
  · simp [hj]

def isC : Operand → Bool
  | .const _ => true
  | _ => false

/-- Equality where one side is nil, or both are bools. -/
def aeqd (d : TypeDesc) (ox oy : Operand) (x y : AV) : Option (Prop × Bool) :=
  match d, x, y with
  | .bool, .p (.bool a), .p (.bool b) => some (True, a == b)
  | .pointer _, .p (.pointer none), .p (.pointer none) => some (True, true)
  | .pointer _, .ep _, .p (.pointer none) => some (True, false)
  | .pointer _, .bp _ _, .p (.pointer none) => some (True, false)
  | .slice _, .p (.slice none _ _), .p (.slice none _ _) => some (True, true)
  | .slice _, .sl _ els _, .p (.slice none _ _) => some (els ≠ [], false)
  | .slice _, .tl _ l _, .p (.slice none _ _) => some (l ≠ [], false)
  | .slice _, .ms _ _ len, .p (.slice none _ _) => some (0 < len, false)
  | .interface _, .p .nilIface, .p .nilIface => some ((isC ox || isC oy) = true, true)
  | .interface _, .p (.iface _ _), .p .nilIface => some (True, false)
  | .interface _, .ifc _ _, .p .nilIface => some (True, false)
  | .func _ _ _, .p .nilFunc, .p .nilFunc => some (True, true)
  | .func _ _ _, .p (.func _ _ _), .p .nilFunc => some (True, false)
  | .func _ _ _, .fn _ _ _, .p .nilFunc => some (True, false)
  | _, _, _ => none
def aeq (P : Program) (t : TypeId) (ox oy : Operand) (x y : AV) : Option (Prop × Bool) := (P.underlying t).bind fun d => aeqd d ox oy x y

theorem sl_some {S : Addr → Option Value} {size : Nat} {els : List (List AV)} {cap : Option Nat} {v : Value} (h : PRel S (.sl size els cap) v) (hne : els ≠ []) : ∃ a n c, v = .slice (some a) n c := by
  cases h with
  | @sl _ _ _ a n c us h1 h2 h3 h4 h5 h6 h7 h8 =>
    cases a with
    | none => exact absurd (h6 rfl).1 hne
    | some a => exact ⟨a, n, c, rfl⟩

theorem eqr {P : Program} {t : TypeId} {x y : Value} {w : World} {b : Bool} (h : ∀ d, (Op.equalIn (d + 1) t x y).run P w = .ok b w) : (Op.equal t x y).run P w = .ok b w := h 9999
theorem eqGuard_nil {P : Program} {op : BinOp} {t : TypeId} {ox oy : Operand} {w : World} (h : (isC ox || isC oy) = true) : (eqGuard op t ox oy .nilIface .nilIface).run P w = .ok () w := by
  cases ox <;> cases oy <;> simp [isC] at h <;> cases op <;> simp [eqGuard]

theorem aeq_sound [GTab] {P : Program} {t : TypeId} {x y : AV} {ox oy : Operand} {vx vy : Value} {E : Env} {ok : Prop} {r : Bool} {w : World}
    (hx : Rel E x vx) (hy : Rel E y vy) (h : aeq P t ox oy x y = some (ok, r)) (hok : ok) :
    (eqGuard .eql t ox oy vx vy).run P w = .ok () w ∧ (eqGuard .neq t ox oy vx vy).run P w = .ok () w ∧ (Op.equal t vx vy).run P w = .ok r w ∧
      binOp .eql t vx vy = (do pure (.bool (← Op.equal t vx vy))) ∧ binOp .neq t vx vy = (do pure (.bool (!(← Op.equal t vx vy)))) := by
  unfold aeq at h
  obtain ⟨dd, hu, h⟩ := Option.bind_eq_some_iff.1 h
  unfold aeqd at h
  split at h <;> simp only [Option.some.injEq, Prod.mk.injEq, reduceCtorEq] at h <;> obtain ⟨rfl, rfl⟩ := h
  case h_1 =>
    cases hx with | pure hx => cases hy with | pure hy =>
    cases hx; cases hy
    exact ⟨rfl, rfl, eqr fun d => by simp [Op.equalIn, underlying, hu], rfl, rfl⟩
  case h_2 =>
    cases hx with | pure hx => cases hy with | pure hy =>
    cases hx; cases hy
    exact ⟨rfl, rfl, eqr fun d => by simp [Op.equalIn, underlying, hu], rfl, rfl⟩
  case h_3 =>
    cases hx with | pure hx => cases hy with | pure hy =>
    cases hx; cases hy
    exact ⟨rfl, rfl, eqr fun d => by simp [Op.equalIn, underlying, hu], rfl, rfl⟩
  case h_4 =>
    cases hy with | pure hy =>
    cases hy
    cases hx with
    | pure hx => cases hx
    | bp hb => exact ⟨rfl, rfl, eqr fun d => by simp [Op.equalIn, underlying, hu], rfl, rfl⟩
  case h_5 =>
    cases hx with | pure hx => cases hy with | pure hy =>
    cases hx; cases hy
    exact ⟨rfl, rfl, eqr fun d => by simp [Op.equalIn, underlying, hu], rfl, rfl⟩
  case h_6 =>
    cases hx with | pure hx => cases hy with | pure hy =>
    cases hy
    obtain ⟨a, n, c, rfl⟩ := sl_some hx hok
    exact ⟨rfl, rfl, eqr fun d => by simp [Op.equalIn, underlying, hu], rfl, rfl⟩
  case h_7 =>
    obtain rfl := hy.p_inv
    obtain ⟨a, n, c, rfl⟩ := sl_some hx.tl_inv (by simpa using hok)
    exact ⟨rfl, rfl, eqr fun d => by simp [Op.equalIn, underlying, hu], rfl, rfl⟩
  case h_8 =>
    obtain rfl := hy.p_inv
    obtain ⟨b, cap, size, ln, a, c, rfl, h1, h2, h3, h4, h7⟩ := hx.ms_inv
    have ha := h7 (by omega)
    subst ha
    exact ⟨rfl, rfl, eqr fun d => by simp [Op.equalIn, underlying, hu], rfl, rfl⟩
  case h_9 =>
    cases hx with | pure hx => cases hy with | pure hy =>
    cases hx; cases hy
    exact ⟨eqGuard_nil hok, eqGuard_nil hok, eqr fun d => by simp [Op.equalIn, underlying, hu], rfl, rfl⟩
  case h_10 =>
    cases hx with | pure hx => cases hy with | pure hy =>
    cases hx; cases hy
    exact ⟨rfl, rfl, eqr fun d => by simp [Op.equalIn, underlying, hu], rfl, rfl⟩
  case h_11 =>
    cases hx with | pure hx => cases hy with | pure hy =>
    cases hx; cases hy
    exact ⟨rfl, rfl, eqr fun d => by simp [Op.equalIn, underlying, hu], rfl, rfl⟩
  case h_12 =>
    cases hx with | pure hx => cases hy with | pure hy =>
    cases hx; cases hy
    exact ⟨rfl, rfl, eqr fun d => by simp [Op.equalIn, underlying, hu], rfl, rfl⟩
  case h_13 =>
    cases hx with | pure hx => cases hy with | pure hy =>
    cases hx; cases hy
    exact ⟨rfl, rfl, eqr fun d => by simp [Op.equalIn, underlying, hu], rfl, rfl⟩
  case h_14 =>
    cases hy with | pure hy =>
    cases hy
    cases hx with
    | pure hx => cases hx
    | fn => exact ⟨rfl, rfl, eqr fun d => by simp [Op.equalIn, underlying, hu], rfl, rfl⟩

/-- Two-valued operators, whole. -/
def abop (P : Program) (op : BinOp) (t : TypeId) (ox oy : Operand) (x y : AV) : Option (Prop × AV) :=
  match abin op t x y true with
  | some r => some r
  | none =>
    match op with
    | .eql => (aeq P t ox oy x y).map fun r => (r.1, .p (.bool r.2))
    | .neq => (aeq P t ox oy x y).map fun r => (r.1, .p (.bool (!r.2)))
    | _ => none

theorem abop_sound [GTab] {P : Program} {op : BinOp} {t : TypeId} {x y : AV} {ox oy : Operand} {vx vy : Value} {E : Env} {ok : Prop} {r : AV} {w : World}
    (hx : Rel E x vx) (hy : Rel E y vy) (h : abop P op t ox oy x y = some (ok, r)) (hok : ok) :
    ∃ v, (do eqGuard op t ox oy vx vy; binOp op t vx vy : Sem Value).run P w = .ok v w ∧ PRel E.S r v := by
  unfold abop at h
  split at h
  · rename_i q hq
    cases h
    exact abin_sound hx hy hq hok
  · split at h
    · obtain ⟨q, hq, he⟩ := Option.map_eq_some_iff.1 h
      simp only [Prod.mk.injEq] at he
      obtain ⟨rfl, rfl⟩ := he
      obtain ⟨g1, g2, g3, g4, g5⟩ := aeq_sound (w := w) hx hy hq hok
      exact ⟨_, by simp only [Sem.run_bind, g1, Result.andThen_ok, g4, g3]; rfl, .p _⟩
    · obtain ⟨q, hq, he⟩ := Option.map_eq_some_iff.1 h
      simp only [Prod.mk.injEq] at he
      obtain ⟨rfl, rfl⟩ := he
      obtain ⟨g1, g2, g3, g4, g5⟩ := aeq_sound (w := w) hx hy hq hok
      exact ⟨_, by simp only [Sem.run_bind, g2, Result.andThen_ok, g5, g3]; rfl, .p _⟩
    · cases h

def aun (op : UnOp) (x : AV) : Option AV :=
  match op, x with
  | .neg, .p (.int k n) => some (.p (.int k (k.wrap (0 - n))))
  | .xor, .p (.int k n) => some (.p (.int k (notI k n)))
  | .not, .p (.bool b) => some (.p (.bool (!b)))
  | _, _ => none
theorem aun_sound {P : Program} {op : UnOp} {x : AV} {vx : Value} {E : Env} {r : AV} {w : World} (hx : Rel E x vx) (h : aun op x = some r) :
    ∃ v, (Op.unary op vx).run P w = .ok v w ∧ r = .p v := by
  unfold aun at h
  split at h <;> simp only [Option.some.injEq, reduceCtorEq] at h <;> subst h <;> (cases hx with | pure hx => cases hx; exact ⟨_, rfl, rfl⟩)

def aconvd (d : TypeDesc) (x : AV) : Option AV :=
  match d, x with
  | .int k, .p (.int _ n) => some (.p (.int k (k.wrap n)))
  | .string, .st s => some (.st s)
  | _, _ => none
def aconv (P : Program) (src dst : TypeId) (x : AV) : Option AV := (P.underlying src).bind fun _ => (P.underlying dst).bind fun d => aconvd d x
theorem aconv_sound {P : Program} {src dst : TypeId} {x : AV} {vx : Value} {E : Env} {r : AV} {w : World} (hx : Rel E x vx) (h : aconv P src dst x = some r) :
    ∃ v, (convert src dst vx).run P w = .ok v w ∧ PRel E.S r v := by
  unfold aconv at h
  obtain ⟨d1, h1, h⟩ := Option.bind_eq_some_iff.1 h
  obtain ⟨d2, h2, h⟩ := Option.bind_eq_some_iff.1 h
  unfold aconvd at h
  split at h <;> simp only [Option.some.injEq, reduceCtorEq] at h
  · subst h
    cases hx with
    | pure hx =>
      cases hx
      exact ⟨_, by simp only [convert, underlying, Sem.run_bind, run_program, Result.andThen_ok, h1, h2, Sem.run_pure]; rfl, .p _⟩
  · subst h
    obtain rfl := hx.st_inv
    exact ⟨_, by simp only [convert, underlying, Sem.run_bind, run_program, Result.andThen_ok, h1, h2, Sem.run_pure], .st _⟩

def posO : Option (Bool × Nat) → Bool
  | some (_, n) => decide (0 < n)
  | none => false
def afieldc (ok : Bool) (off : Nat) : AV → Option (Prop × AV)
  | .bp id o => some (ok = true, .bp id (o + off))
  | .tp id i o => some (ok = true, .tp id i (o + off))
  | .ep cs => some (ok = true, .ep (cs.drop off))
  | _ => none
def afield (P : Program) (t : TypeId) (x : AV) (f : Nat) : Option (Prop × AV) := (fo P t f).bind fun q => afieldc (posO (tk P q.2)) q.1 x
theorem posO_inv {o : Option (Bool × Nat)} (h : posO o = true) : ∃ b n, o = some (b, n + 1) := by
  unfold posO at h
  split at h
  · rename_i b n
    simp only [decide_eq_true_eq] at h
    exact ⟨b, n - 1, by congr; omega⟩
  · cases h
theorem fo_run {P : Program} {t : TypeId} {f off : Nat} {ft : TypeId} (h : fo P t f = some (off, ft)) : ∃ fs g, P.underlying t = some (.struct fs) ∧ fs[f]? = some g ∧ g.offset = off ∧ g.type = ft := by
  unfold fo at h
  split at h
  · rename_i fs hu
    obtain ⟨g, hg, he⟩ := Option.map_eq_some_iff.1 h
    simp only [Prod.mk.injEq] at he
    exact ⟨fs, g, hu, hg, he.1, he.2⟩
  · cases h
theorem afield_sound [GTab] {P : Program} {t : TypeId} {f : Nat} {x : AV} {vx : Value} {E : Env} {ok : Prop} {r : AV} {w : World} {n : Nat} (hx : Rel E x vx) (hl : Lt n x) (h : afield P t x f = some (ok, r)) (hok : ok) :
    ∃ v, (Instr.fieldAt t vx f).run P w = .ok v w ∧ Rel E r v ∧ Lt n r := by
  unfold afield at h
  obtain ⟨⟨off, ft⟩, hf, h⟩ := Option.bind_eq_some_iff.1 h
  unfold afieldc at h
  split at h <;> simp only [Option.some.injEq, Prod.mk.injEq, reduceCtorEq] at h <;> obtain ⟨rfl, rfl⟩ := h <;> obtain ⟨b, m, hk⟩ := posO_inv hok
  · obtain ⟨fs, g, hu, hg, rfl, rfl⟩ := fo_run hf
    cases hx with
    | pure hx => cases hx
    | bp hb =>
      refine ⟨_, ?_, .bp hb, ?_⟩
      · simp [Instr.fieldAt, underlying, hu, hg, Instr.sureAddr, fieldPlace, tk_sizeOf hk, addr_add_lit]
      · cases hl with | bp hl => exact .bp hl
  · obtain ⟨fs, g, hu, hg, rfl, rfl⟩ := fo_run hf
    obtain ⟨b, cap, size, ln, rfl, hb⟩ := hx.tp_inv
    refine ⟨.pointer (some ⟨b, _ * size + (_ + g.offset), none⟩), ?_, .tp hb, .tp hl.tp_inv⟩
    simp [Instr.fieldAt, underlying, hu, hg, Instr.sureAddr, fieldPlace, tk_sizeOf hk, addr_add_lit, Nat.add_assoc]
  · obtain ⟨fs, g, hu, hg, rfl, rfl⟩ := fo_run hf
    cases hx with | pure hx => cases hx with
    | @ep cs a us h1 h2 =>
      refine ⟨.pointer (some (a.add g.offset)), ?_, .pure (.ep (fun j => us (g.offset + j)) ?_ ?_), .ep _⟩
      · simp [Instr.fieldAt, underlying, hu, hg, Instr.sureAddr, fieldPlace, tk_sizeOf hk]
      · intro j x hx; rw [addr_add_add]; exact h1 _ x (by simpa using hx)
      · intro j x hx; exact h2 _ x (by simpa using hx)
end Go.Up

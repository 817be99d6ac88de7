/- Vp, part a: abstract values, what they stand for in a world, abstract heaps; lookups and growth. No program in sight. -/
import Derived.WalkKit
import Derived.WalkSpells
import Derived.WalkLawsBesides
set_option linter.unusedVariables false
set_option linter.unusedSimpArgs false
namespace Go.Vp
open Go.RowKit

/-- Abstract values: a slice is its list of elements (each a list of cells). -/
inductive AV where
  | p (v : Value)
  | agg (l : List AV)
  | tup (l : List AV)
  | sl (size : Nat) (els : List (List AV)) (cap : Option Nat)
  | own (id size : Nat) (els : List (List AV))
  | ep (cs : List AV)
  | bp (id off : Nat)
  | ifc (t : TypeId) (v : AV)
  | fn (f : Fn) (first captured : List AV)
  | gd (c : Bool) (v : AV)
  | junk

/-- What an abstract value without objects stands for, over cells that never turn. -/
inductive PRel (S : Addr → Option Value) : AV → Value → Prop
  | p (v : Value) : PRel S (.p v) v
  | junk (v : Value) : PRel S .junk v
  | ifc {t x v} : PRel S x v → PRel S (.ifc t x) (.iface t v)
  | agg {l : List AV} {vs : List Value} : vs.length = l.length → (∀ (i : Nat) (x : AV) (v : Value), l[i]? = some x → vs[i]? = some v → PRel S x v) → PRel S (.agg l) (.agg vs.toArray)
  | tup {l : List AV} {vs : List Value} : vs.length = l.length → (∀ (i : Nat) (x : AV) (v : Value), l[i]? = some x → vs[i]? = some v → PRel S x v) → PRel S (.tup l) (.tuple vs.toArray)
  | ep {cs : List AV} {a : Addr} (us : Nat → Value) : (∀ (j : Nat) (x : AV), cs[j]? = some x → S (a.add j) = some (us j)) → (∀ (j : Nat) (x : AV), cs[j]? = some x → PRel S x (us j)) → PRel S (.ep cs) (.pointer (some a))
  | sl {size : Nat} {els : List (List AV)} {cap : Option Nat} {a : Option Addr} {n c : Nat} (us : Nat → Nat → Value) : n = els.length → n ≤ c → c ≤ maxLen → (∀ k, cap = some k → c = k) → (∀ e ∈ els, e.length = size) → (a = none → els = [] ∧ c = 0) →
      (∀ (ad : Addr) (i j : Nat) (e : List AV) (x : AV), a = some ad → els[i]? = some e → e[j]? = some x → S (ad.add (i * size + j)) = some (us i j)) → (∀ (i j : Nat) (e : List AV) (x : AV), els[i]? = some e → e[j]? = some x → PRel S x (us i j)) → PRel S (.sl size els cap) (.slice a n c)

/-- What an object's number stands for. -/
inductive EO where
  | box (b : Nat)
  | row (base : Option Addr) (cap tip size : Nat)

def EO.blk : EO → Option Nat
  | .box b => some b
  | .row base cap tip _ => if tip < cap then base.map (·.block) else none

structure Env where
  S : Addr → Option Value
  obj : Nat → EO

inductive Rel (E : Env) : AV → Value → Prop
  | pure {x v} : PRel E.S x v → Rel E x v
  | own {id els base cap tip size a c} : E.obj id = .row base cap tip size → els.length ≤ tip → (els.length = tip → a = base ∧ c = cap) → PRel E.S (.sl size els none) (.slice a els.length c) → Rel E (.own id size els) (.slice a els.length c)
  | bp {id off b} : E.obj id = .box b → Rel E (.bp id off) (.pointer (some ⟨b, off, none⟩))
  | agg {l : List AV} {vs : List Value} : vs.length = l.length → (∀ (i : Nat) (x : AV) (v : Value), l[i]? = some x → vs[i]? = some v → Rel E x v) → Rel E (.agg l) (.agg vs.toArray)
  | tup {l : List AV} {vs : List Value} : vs.length = l.length → (∀ (i : Nat) (x : AV) (v : Value), l[i]? = some x → vs[i]? = some v → Rel E x v) → Rel E (.tup l) (.tuple vs.toArray)
  | fn {f : Fn} {l m : List AV} {vs us : List Value} : vs.length = l.length → us.length = m.length → (∀ (i : Nat) (x : AV) (v : Value), l[i]? = some x → vs[i]? = some v → Rel E x v) → (∀ (i : Nat) (x : AV) (v : Value), m[i]? = some x → us[i]? = some v → Rel E x v) →
      Rel E (.fn f l m) (.func f vs.toArray us.toArray)
  | gdT {x v} : Rel E x v → Rel E (.gd true x) v
  | gdF {x} : Rel E (.gd false x) undef

theorem Rel.p_inv {E : Env} {v u : Value} (h : Rel E (.p v) u) : u = v := by
  cases h with
  | pure h => cases h; rfl
theorem Rel.sl_inv {E : Env} {size : Nat} {els : List (List AV)} {cap : Option Nat} {u : Value} (h : Rel E (.sl size els cap) u) : PRel E.S (.sl size els cap) u := by
  cases h with
  | pure h => exact h
theorem Rel.ep_inv {E : Env} {cs : List AV} {u : Value} (h : Rel E (.ep cs) u) : ∃ (a : Addr) (us : Nat → Value), u = .pointer (some a) ∧ (∀ (j : Nat) (x : AV), cs[j]? = some x → E.S (a.add j) = some (us j)) ∧ (∀ (j : Nat) (x : AV), cs[j]? = some x → PRel E.S x (us j)) := by
  cases h with
  | pure h =>
    cases h with
    | @ep _ a us h1 h2 => exact ⟨a, us, rfl, h1, h2⟩
theorem Rel.bp_inv {E : Env} {id off : Nat} {u : Value} (h : Rel E (.bp id off) u) : ∃ b, u = .pointer (some ⟨b, off, none⟩) ∧ E.obj id = .box b := by
  cases h with
  | pure h => cases h
  | bp h => exact ⟨_, rfl, h⟩
/-- Two lists, place by place. -/
def Rels (E : Env) (l : List AV) (vs : List Value) : Prop := vs.length = l.length ∧ ∀ (i : Nat) (x : AV) (v : Value), l[i]? = some x → vs[i]? = some v → Rel E x v

theorem Rels.nil (E : Env) : Rels E [] [] := ⟨rfl, fun i x v h => by simp at h⟩
theorem Rels.cons {E : Env} {x : AV} {v : Value} {l : List AV} {vs : List Value} (h : Rel E x v) (t : Rels E l vs) : Rels E (x :: l) (v :: vs) := by
  refine ⟨by simp [t.1], fun i y u hy hu => ?_⟩
  cases i with
  | zero => simp at hy hu; subst hy; subst hu; exact h
  | succ i => simp at hy hu; exact t.2 i y u hy hu
theorem Rels.head {E : Env} {x : AV} {v : Value} {l : List AV} {vs : List Value} (h : Rels E (x :: l) (v :: vs)) : Rel E x v := h.2 0 x v rfl rfl
theorem Rels.tail {E : Env} {x : AV} {v : Value} {l : List AV} {vs : List Value} (h : Rels E (x :: l) (v :: vs)) : Rels E l vs :=
  ⟨by have := h.1; simpa using this, fun i y u hy hu => h.2 (i + 1) y u (by simpa using hy) (by simpa using hu)⟩
theorem Rels.nil_inv {E : Env} {vs : List Value} (h : Rels E [] vs) : vs = [] := List.eq_nil_of_length_eq_zero (by simpa using h.1)
theorem Rels.cons_inv {E : Env} {x : AV} {l : List AV} {vs : List Value} (h : Rels E (x :: l) vs) : ∃ v us, vs = v :: us ∧ Rel E x v ∧ Rels E l us := by
  cases vs with
  | nil => have := h.1; simp at this
  | cons v us => exact ⟨v, us, rfl, h.head, h.tail⟩
theorem Rels.getElem {E : Env} {l : List AV} {vs : List Value} (h : Rels E l vs) {i : Nat} {x : AV} (hx : l[i]? = some x) : ∃ v, vs[i]? = some v ∧ Rel E x v := by
  have hi : i < vs.length := by
    have := (List.getElem?_eq_some_iff.1 hx).1
    rw [h.1]; exact this
  exact ⟨vs[i], List.getElem?_eq_getElem hi, h.2 i x _ hx (List.getElem?_eq_getElem hi)⟩
theorem Rels.append {E : Env} {l m : List AV} {vs us : List Value} (h : Rels E l vs) (k : Rels E m us) : Rels E (l ++ m) (vs ++ us) := by
  refine ⟨by simp [h.1, k.1], fun i x v hx hv => ?_⟩
  by_cases hi : i < l.length
  · rw [List.getElem?_append_left hi] at hx
    rw [List.getElem?_append_left (by rw [h.1]; exact hi)] at hv
    exact h.2 i x v hx hv
  · rw [List.getElem?_append_right (by omega)] at hx
    rw [List.getElem?_append_right (by rw [h.1]; omega), h.1] at hv
    exact k.2 _ x v hx hv
theorem Rels.drop {E : Env} {l : List AV} {vs : List Value} (h : Rels E l vs) (n : Nat) : Rels E (l.drop n) (vs.drop n) :=
  ⟨by simp [h.1], fun i x v hx hv => h.2 (n + i) x v (by simpa using hx) (by simpa using hv)⟩
theorem Rels.take {E : Env} {l : List AV} {vs : List Value} (h : Rels E l vs) (n : Nat) : Rels E (l.take n) (vs.take n) := by
  refine ⟨by simp [h.1], fun i x v hx hv => ?_⟩
  rw [List.getElem?_take] at hx hv
  split at hx
  · rename_i hi; rw [if_pos hi] at hv; exact h.2 i x v hx hv
  · cases hx

/-- Objects: a variable's cells; a row that is appended to. -/
inductive AO where
  | box (l : List AV)
  | row (tip size : Nat)

structure AH where
  o : Nat → Option AO
  n : Nat

structure HRel (E : Env) (h : AH) (w : World) : Prop where
  cells : ∀ a v, E.S a = some v → w.cell? a = some v
  box : ∀ id l, id < h.n → h.o id = some (.box l) → ∃ b cs T, E.obj id = .box b ∧ w.heap[b]? = some (.cells cs T (0, 0)) ∧ Rels E l cs.toList ∧ (∀ a, a.block = b → E.S a = none)
  row : ∀ id tip size, id < h.n → h.o id = some (.row tip size) → ∃ base cap, E.obj id = .row base cap tip size ∧ tip ≤ cap ∧ cap ≤ maxLen ∧ (base = none → cap = 0) ∧
    (tip < cap → ∃ b cur T, base = some ⟨b, 0, none⟩ ∧ w.heap[b]? = some (.cells cur T (0, 0)) ∧ cur.size = cap * size ∧ ∀ j, tip * size ≤ j → E.S ⟨b, j, none⟩ = none)
  inj : ∀ i j b, i < h.n → j < h.n → (E.obj i).blk = some b → (E.obj j).blk = some b → i = j
  lt : ∀ i b, i < h.n → (E.obj i).blk = some b → b < w.heap.size

/-- What is known of an environment stays known. -/
structure Ext (E : Env) (n : Nat) (E' : Env) : Prop where
  S : ∀ a v, E.S a = some v → E'.S a = some v
  box : ∀ id b, id < n → E.obj id = .box b → E'.obj id = .box b
  row : ∀ id base cap tip size, id < n → E.obj id = .row base cap tip size → ∃ base' cap' tip', E'.obj id = .row base' cap' tip' size ∧ ((base' = base ∧ cap' = cap ∧ tip' = tip) ∨ tip < tip')

theorem Ext.refl (E : Env) (n : Nat) : Ext E n E := ⟨fun _ _ h => h, fun _ _ _ h => h, fun _ base cap tip _ _ h => ⟨base, cap, tip, h, .inl ⟨rfl, rfl, rfl⟩⟩⟩
theorem Ext.trans {E E' E'' : Env} {n m : Nat} (h : Ext E n E') (k : Ext E' m E'') (hn : n ≤ m) : Ext E n E'' := by
  refine ⟨fun a v ha => k.S a v (h.S a v ha), fun id b hi hb => k.box id b (by omega) (h.box id b hi hb), fun id base cap tip size hi hr => ?_⟩
  obtain ⟨b1, c1, t1, h1, e1⟩ := h.row id base cap tip size hi hr
  obtain ⟨b2, c2, t2, h2, e2⟩ := k.row id b1 c1 t1 size (by omega) h1
  refine ⟨b2, c2, t2, h2, ?_⟩
  rcases e1 with ⟨rfl, rfl, rfl⟩ | e1
  · exact e2
  · rcases e2 with ⟨rfl, rfl, rfl⟩ | e2
    · exact .inr e1
    · exact .inr (by omega)

/-- All objects that a value names lie below a number. -/
inductive Lt (n : Nat) : AV → Prop
  | p (v) : Lt n (.p v)
  | junk : Lt n .junk
  | sl (size els cap) : Lt n (.sl size els cap)
  | ep (cs) : Lt n (.ep cs)
  | ifc (t x) : Lt n (.ifc t x)
  | own {id size els} : id < n → Lt n (.own id size els)
  | bp {id off} : id < n → Lt n (.bp id off)
  | agg {l : List AV} : (∀ (i : Nat) (x : AV), l[i]? = some x → Lt n x) → Lt n (.agg l)
  | tup {l : List AV} : (∀ (i : Nat) (x : AV), l[i]? = some x → Lt n x) → Lt n (.tup l)
  | fn {f l m} : (∀ (i : Nat) (x : AV), l[i]? = some x → Lt n x) → (∀ (i : Nat) (x : AV), m[i]? = some x → Lt n x) → Lt n (.fn f l m)
  | gd {c x} : (c = true → Lt n x) → Lt n (.gd c x)

theorem Lt.bp_inv {n id off : Nat} (h : Lt n (.bp id off)) : id < n := by
  cases h with
  | bp h => exact h
theorem Lt.own_inv {n id size : Nat} {els : List (List AV)} (h : Lt n (.own id size els)) : id < n := by
  cases h with
  | own h => exact h

theorem Lt.mono {n m : Nat} {x : AV} (h : Lt n x) (hn : n ≤ m) : Lt m x := by
  induction h with
  | p => exact .p _
  | junk => exact .junk
  | sl => exact .sl _ _ _
  | ep => exact .ep _
  | ifc => exact .ifc _ _
  | own h => exact .own (by omega)
  | bp h => exact .bp (by omega)
  | agg _ ih => exact .agg ih
  | tup _ ih => exact .tup ih
  | fn _ _ ih1 ih2 => exact .fn ih1 ih2
  | gd _ ih => exact .gd ih

theorem PRel.mono {S S' : Addr → Option Value} {x : AV} {v : Value} (h : PRel S x v) (hS : ∀ a v, S a = some v → S' a = some v) : PRel S' x v := by
  induction h with
  | p => exact .p _
  | junk => exact .junk _
  | ifc _ ih => exact .ifc ih
  | agg hl _ ih => exact .agg hl ih
  | tup hl _ ih => exact .tup hl ih
  | ep us hs _ ih => exact .ep us (fun j x hx => hS _ _ (hs j x hx)) ih
  | sl us h1 h2 h3 h4 h5 h6 h7 _ ih => exact .sl us h1 h2 h3 h4 h5 h6 (fun ad i j e x ha he hx => hS _ _ (h7 ad i j e x ha he hx)) ih

theorem Rel.mono {E E' : Env} {n : Nat} {x : AV} {v : Value} (h : Rel E x v) (hl : Lt n x) (he : Ext E n E') : Rel E' x v := by
  induction h with
  | pure hp => exact .pure (hp.mono he.S)
  | @own id els base cap tip size a c ho hle htip hp =>
    cases hl with
    | own hid =>
      obtain ⟨b', c', t', ho', e'⟩ := he.row id base cap tip size hid ho
      refine .own ho' ?_ ?_ (hp.mono he.S)
      · rcases e' with ⟨rfl, rfl, rfl⟩ | e' <;> omega
      · intro hh
        rcases e' with ⟨rfl, rfl, rfl⟩ | e'
        · exact htip hh
        · omega
  | bp ho => cases hl with | bp hid => exact .bp (he.box _ _ hid ho)
  | agg hlen _ ih => cases hl with | agg hl => exact .agg hlen (fun i x v hx hv => ih i x v hx hv (hl i x hx))
  | tup hlen _ ih => cases hl with | tup hl => exact .tup hlen (fun i x v hx hv => ih i x v hx hv (hl i x hx))
  | fn hlen hlen2 _ _ ih1 ih2 => cases hl with | fn hl hm => exact .fn hlen hlen2 (fun i x v hx hv => ih1 i x v hx hv (hl i x hx)) (fun i x v hx hv => ih2 i x v hx hv (hm i x hx))
  | gdT _ ih => cases hl with | gd hl => exact .gdT (ih (hl rfl))
  | gdF => exact .gdF

theorem Rels.mono {E E' : Env} {n : Nat} {l : List AV} {vs : List Value} (h : Rels E l vs) (hl : ∀ (i : Nat) (x : AV), l[i]? = some x → Lt n x) (he : Ext E n E') : Rels E' l vs :=
  ⟨h.1, fun i x v hx hv => (h.2 i x v hx hv).mono (hl i x hx) he⟩

/-- What the world keeps: all blocks but those of the objects that a caller handed over. -/
structure Keep (E : Env) (n : Nat) (w w' : World) : Prop where
  os : w'.os = w.os
  tape : w'.tape = w.tape
  output : w'.output = w.output
  size : w.heap.size ≤ w'.heap.size
  block : ∀ k, k < w.heap.size → (∀ id, id < n → (E.obj id).blk ≠ some k) → w'.heap[k]? = w.heap[k]?
theorem Keep.refl (E : Env) (n : Nat) (w : World) : Keep E n w w := ⟨rfl, rfl, rfl, Nat.le_refl _, fun _ _ _ => rfl⟩

/-- Each object's block is new, or was that object's. -/
def Fr (E0 : Env) (n0 : Nat) (w0 : World) (E : Env) (n : Nat) : Prop :=
  ∀ id b, id < n → (E.obj id).blk = some b → w0.heap.size ≤ b ∨ (id < n0 ∧ (E0.obj id).blk = some b)
theorem Fr.refl (E : Env) (n : Nat) (w : World) : Fr E n w E n := fun id b hi hb => .inr ⟨hi, hb⟩

theorem Keep.trans {E0 E : Env} {n0 n : Nat} {w0 w w' : World} (h : Keep E0 n0 w0 w) (k : Keep E n w w') (hf : Fr E0 n0 w0 E n) : Keep E0 n0 w0 w' := by
  refine ⟨k.os.trans h.os, k.tape.trans h.tape, k.output.trans h.output, Nat.le_trans h.size k.size, fun b hb hne => ?_⟩
  rw [k.block b (Nat.lt_of_lt_of_le hb h.size) (fun id hid hh => ?_)]
  · exact h.block b hb hne
  · rcases hf id b hid hh with h' | ⟨h1, h2⟩
    · omega
    · exact hne id h1 h2
theorem Fr.trans {E0 E E' : Env} {n0 n n' : Nat} {w0 w w' : World} (h : Fr E0 n0 w0 E n) (k : Fr E n w E' n') (hs : w0.heap.size ≤ w.heap.size) : Fr E0 n0 w0 E' n' := by
  intro id b hi hb
  rcases k id b hi hb with h' | ⟨h1, h2⟩
  · exact .inl (by omega)
  · exact h id b h1 h2

/-! ### The temporaries -/
def look : List (Nat × AV) → Nat → AV
  | [], _ => .junk
  | (i, x) :: l, j => if i = j then x else look l j

structure St where
  t : List (Nat × AV)
  h : AH

def St.put (σ : St) (d : Option Tmp) (x : AV) : St :=
  match d with
  | some d => { σ with t := (d, x) :: σ.t }
  | none => σ

def ev (σ : St) : Operand → AV
  | .tmp t => look σ.t t
  | .const v => .p v
  | .global g => .p (.pointer (some ⟨g, 0, none⟩))
  | .func f => .p (.func (.func f) #[] #[])

structure SRel (E0 : Env) (n0 : Nat) (w0 : World) (nt : Nat) (E : Env) (σ : St) (a : Act) (w : World) : Prop where
  tm : ∀ i, Rel E (look σ.t i) (a.tmps.getD i undef)
  lt : ∀ i, Lt σ.h.n (look σ.t i)
  blt : ∀ (id : Nat) (l : List AV) (i : Nat) (x : AV), id < σ.h.n → σ.h.o id = some (.box l) → l[i]? = some x → Lt σ.h.n x
  sz : a.tmps.size = nt
  df : a.defers = []
  hr : HRel E σ.h w
  ex : Ext E0 n0 E
  kp : Keep E0 n0 w0 w
  fr : Fr E0 n0 w0 E σ.h.n
  nn : n0 ≤ σ.h.n

section
variable {E0 : Env} {n0 : Nat} {w0 : World} {nt : Nat} {E : Env} {σ : St} {a : Act} {w : World}

theorem SRel.ev (h : SRel E0 n0 w0 nt E σ a w) (x : Operand) : Rel E (ev σ x) (a.eval x) := by
  cases x with
  | tmp t => exact h.tm t
  | const v => exact .pure (.p v)
  | global g => exact .pure (.p _)
  | func f => exact .pure (.p _)
theorem SRel.evlt (h : SRel E0 n0 w0 nt E σ a w) (x : Operand) : Lt σ.h.n (Vp.ev σ x) := by
  cases x with
  | tmp t => exact h.lt t
  | const v => exact .p v
  | global g => exact .p _
  | func f => exact .p _

def okDst (nt : Nat) : Option Tmp → Bool
  | some d => decide (d < nt)
  | none => true

theorem SRel.put (h : SRel E0 n0 w0 nt E σ a w) {d : Option Tmp} {x : AV} {v : Value} (hd : okDst nt d = true) (hx : Rel E x v) (hl : Lt σ.h.n x) :
    SRel E0 n0 w0 nt E (σ.put d x) (a.put d v) w := by
  cases d with
  | none => exact h
  | some d =>
    simp only [okDst, decide_eq_true_eq] at hd
    refine ⟨fun i => ?_, fun i => ?_, h.blt, ?_, h.df, h.hr, h.ex, h.kp, h.fr, h.nn⟩
    · simp only [St.put, look, Act.put]
      by_cases hi : d = i
      · subst hi
        rw [if_pos rfl]
        have : d < a.tmps.size := by rw [h.sz]; exact hd
        simp [Array.getD, this]
        exact hx
      · rw [if_neg hi]
        have e : (a.tmps.setIfInBounds d v).getD i undef = a.tmps.getD i undef := by
          simp only [Array.getD_eq_getD_getElem?, Array.getElem?_setIfInBounds]
          rw [if_neg hi]
        rw [e]; exact h.tm i
    · simp only [St.put, look]
      split
      · exact hl
      · exact h.lt i
    · simp [Act.put, h.sz]

theorem St.put_h (σ : St) (d : Option Tmp) (x : AV) : (σ.put d x).h = σ.h := by cases d <;> rfl
end
end Go.Vp

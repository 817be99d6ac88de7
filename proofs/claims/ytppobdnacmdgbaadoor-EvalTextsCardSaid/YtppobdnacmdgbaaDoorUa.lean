/- Up, part a: abstract values, what they stand for in a world, abstract heaps; lookups and growth. No program in sight. -/
import Derived.Test.YtppobdnacmdgbaaDoorU0
set_option linter.unusedVariables false
set_option linter.unusedSimpArgs false
namespace Go.Up
open Go.RowKit

/-- Abstract values: a slice is its list of elements (each a list of cells). -/
inductive AV where
  | p (v : Value)
  | agg (l : List AV)
  | tup (l : List AV)
  | sl (size : Nat) (els : List (List AV)) (cap : Option Nat)
  | ep (cs : List AV)
  | bp (id off : Nat)
  | ifc (t : TypeId) (v : AV)
  | fn (f : Fn) (first captured : List AV)
  | st (l : Str)
  | tl (t : Ty) (l : List (El t)) (cap : Option Nat)
  | rw (id : Nat)
  | ms (id off len : Nat)
  | mw (id : Nat)
  | tp (id i off : Nat)
  | mp (id : Nat)
  | ib (t : TypeId) (id off : Nat)
  | junk
/-- What the package-level variables hold whose cells are known. -/
class GTab where
  cells : Nat → List AV

/-- An error's cell. -/
def encE (tf tc : Nat) : Err → AV
  | .nil => .p .nilIface
  | .code c => .p (.iface tc (.int .i64 c))
  | .fault l c k => .ifc tf (.ep [.p (.int .i64 l), .p (.int .i64 c), .p (.iface tc (.int .i64 k))])
def encF (tc : Nat) : Flt → AV
  | .nil => .p (.pointer none)
  | .at l c k => .ep [.p (.int .i64 l), .p (.int .i64 c), .p (.iface tc (.int .i64 k))]
/-- The cells of plain data. -/
def enc : (t : Ty) → El t → List AV
  | .int k, n => [.p (.int k n)]
  | .bool, b => [.p (.bool b)]
  | .str, s => [.st s]
  | .err tf tc, e => [encE tf tc e]
  | .flt tc, e => [encF tc e]
  | .ins, i => [.p (.int .i64 i.op), .p (.int .i64 i.rd), .p (.int .i64 i.rs1), .p (.int .i64 i.rs2), .p (.int .i32 i.imm)]
  | .tok, t => [.p (.int .i64 t.kind), .p (.int .i64 t.line), .p (.int .i64 t.col), .st t.text, .p (.int .u32 t.num), .p (.int .i64 t.scope)]
  | .nod, n => [.p (.int .i64 n.kind), .p (.int .i64 n.line), .p (.int .i64 n.col), .p (.int .u32 n.num), .st n.name]
  | .itm, i => [.p (.int .i64 i.kind), .p (.int .i64 i.line), .p (.int .i64 i.col), .st i.name, .p (.int .i64 i.ins.op), .p (.int .i64 i.ins.rd), .p (.int .i64 i.ins.rs1), .p (.int .i64 i.ins.rs2), .p (.int .i32 i.ins.imm),
      .st i.short, .p (.int .i64 i.size), .tl .nod i.nodes none, .p (.int .u32 i.num), .p (.bool i.grow), .p (.bool i.rvc)]
  | .opn, o => [.p (.int .i64 o.kind), .p (.int .i64 o.line), .p (.int .i64 o.col), .p (.int .i64 o.reg), .tl .nod o.nodes none, .st o.text]
  | .lab, l => [.st l.name, .p (.int .i64 l.line), .p (.int .i64 l.col)]
  | .stm, s => [.tl .lab s.labels none, .st s.name, .p (.int .i64 s.line), .p (.int .i64 s.col), .tl .opn s.args none]
  | .opt, o => [.p (.bool o.rvc), .p (.bool o.relax)]
  | .sym, s => [.st s.name, .p (.int .u32 s.value), .p (.int .i64 s.cls)]
  | .slice t, l => [.tl t l none]
  | .pair a b, x => enc a x.1 ++ enc b x.2
theorem enc_length : ∀ (t : Ty) (x : El t), (enc t x).length = sz t
  | .int _, _ => rfl
  | .bool, _ => rfl
  | .str, _ => rfl
  | .err _ _, _ => rfl
  | .flt _, _ => rfl
  | .ins, _ => rfl
  | .tok, _ => rfl
  | .nod, _ => rfl
  | .itm, _ => rfl
  | .opn, _ => rfl
  | .lab, _ => rfl
  | .stm, _ => rfl
  | .opt, _ => rfl
  | .sym, _ => rfl
  | .slice _, _ => rfl
  | .pair a b, x => by simp only [enc, sz, List.length_append, enc_length a, enc_length b]

/-- What an abstract value without objects stands for, over cells that never turn. -/
inductive PRel (S : Addr → Option Value) : AV → Value → Prop
  | p (v : Value) : PRel S (.p v) v
  | junk (v : Value) : PRel S .junk v
  | ifc {t x v} : PRel S x v → PRel S (.ifc t x) (.iface t v)
  | agg {l : List AV} {vs : List Value} : vs.length = l.length → (∀ (i : Nat) (x : AV) (v : Value), l[i]? = some x → vs[i]? = some v → PRel S x v) → PRel S (.agg l) (.agg vs.toArray)
  | tup {l : List AV} {vs : List Value} : vs.length = l.length → (∀ (i : Nat) (x : AV) (v : Value), l[i]? = some x → vs[i]? = some v → PRel S x v) → PRel S (.tup l) (.tuple vs.toArray)
  | ep {cs : List AV} {a : Addr} (us : Nat → Value) : (∀ (j : Nat) (x : AV), cs[j]? = some x → S (a.add j) = some (us j)) → (∀ (j : Nat) (x : AV), cs[j]? = some x → PRel S x (us j)) → PRel S (.ep cs) (.pointer (some a))
  | sl {size : Nat} {els : List (List AV)} {cap : Option Nat} {a : Option Addr} {n c : Nat} (us : Nat → Nat → Value) : n = els.length → n ≤ c → c ≤ maxLen → (∀ k, cap = some k → c = k) → (∀ e ∈ els, e.length = size) → (a = none → els = [] ∧ c = 0) →
      (∀ (ad : Addr) (i j : Nat) (e : List AV) (x : AV), a = some ad → els[i]? = some e → e[j]? = some x → S (ad.add (i * size + j)) = some (us i j)) → (∀ (i j : Nat) (e : List AV) (x : AV), els[i]? = some e → e[j]? = some x → PRel S x (us i j)) → PRel S (.sl size els cap) (.slice a n c)
  | st (l : Str) : PRel S (.st l) (.string ⟨l.toArray⟩)
  | tl {t : Ty} {l : List (El t)} {cap : Option Nat} {v : Value} : PRel S (.sl (sz t) (l.map (enc t)) cap) v → PRel S (.tl t l cap) v

/-- What an object's number stands for. -/
inductive EO where
  | box (b : Nat)
  | row (base : Option Addr) (cap tip size : Nat)
  | arr (b cap size len : Nat)
  | map (b : Nat)

def EO.blk : EO → Option Nat
  | .box b => some b
  | .arr b cap _ _ => if 0 < cap then some b else none
  | .map b => some b
  | .row base cap tip _ => if tip < cap then base.map (·.block) else none

structure Env where
  S : Addr → Option Value
  obj : Nat → EO

inductive Rel (E : Env) : AV → Value → Prop
  | pure {x v} : PRel E.S x v → Rel E x v
  | bp {id off b} : E.obj id = .box b → Rel E (.bp id off) (.pointer (some ⟨b, off, none⟩))
  | agg {l : List AV} {vs : List Value} : vs.length = l.length → (∀ (i : Nat) (x : AV) (v : Value), l[i]? = some x → vs[i]? = some v → Rel E x v) → Rel E (.agg l) (.agg vs.toArray)
  | tup {l : List AV} {vs : List Value} : vs.length = l.length → (∀ (i : Nat) (x : AV) (v : Value), l[i]? = some x → vs[i]? = some v → Rel E x v) → Rel E (.tup l) (.tuple vs.toArray)
  | fn {f : Fn} {l m : List AV} {vs us : List Value} : vs.length = l.length → us.length = m.length → (∀ (i : Nat) (x : AV) (v : Value), l[i]? = some x → vs[i]? = some v → Rel E x v) → (∀ (i : Nat) (x : AV) (v : Value), m[i]? = some x → us[i]? = some v → Rel E x v) →
      Rel E (.fn f l m) (.func f vs.toArray us.toArray)
  | rw {id base cap tip size} : E.obj id = .row base cap tip size → Rel E (.rw id) (.slice base tip cap)
  | mw {id b cap size len a c} : E.obj id = .arr b cap size len → c ≤ cap → len ≤ c → cap ≤ maxLen → (0 < c → a = some ⟨b, 0, none⟩) → Rel E (.mw id) (.slice a len c)
  | ms {id off len b cap size ln a c} : E.obj id = .arr b cap size ln → off + c ≤ cap → len ≤ c → cap ≤ maxLen → (0 < c → a = some ⟨b, off * size, none⟩) → Rel E (.ms id off len) (.slice a len c)
  | tp {id i off b cap size ln} : E.obj id = .arr b cap size ln → Rel E (.tp id i off) (.pointer (some ⟨b, i * size + off, none⟩))
  | mp {id b} : E.obj id = .map b → Rel E (.mp id) (.map (some b))
  | ib {t id off b} : E.obj id = .box b → Rel E (.ib t id off) (.iface t (.pointer (some ⟨b, off, none⟩)))

theorem Rel.p_inv {E : Env} {v u : Value} (h : Rel E (.p v) u) : u = v := by
  cases h with
  | pure h => cases h; rfl
theorem Rel.sl_inv {E : Env} {size : Nat} {els : List (List AV)} {cap : Option Nat} {u : Value} (h : Rel E (.sl size els cap) u) : PRel E.S (.sl size els cap) u := by
  cases h with
  | pure h => exact h
theorem Rel.ep_inv {E : Env} {cs : List AV} {u : Value} (h : Rel E (.ep cs) u) : ∃ (a : Addr) (us : Nat → Value), u = .pointer (some a) ∧ (∀ (j : Nat) (x : AV), cs[j]? = some x → E.S (a.add j) = some (us j)) ∧ (∀ (j : Nat) (x : AV), cs[j]? = some x → PRel E.S x (us j)) := by
  cases h with
  | pure h =>
    cases h with
    | @ep _ a us h1 h2 => exact ⟨a, us, rfl, h1, h2⟩
theorem Rel.bp_inv {E : Env} {id off : Nat} {u : Value} (h : Rel E (.bp id off) u) : ∃ b, u = .pointer (some ⟨b, off, none⟩) ∧ E.obj id = .box b := by
  cases h with
  | pure h => cases h
  | bp h => exact ⟨_, rfl, h⟩
theorem Rel.ib_inv {E : Env} {t : TypeId} {id off : Nat} {u : Value} (h : Rel E (.ib t id off) u) : ∃ b, u = .iface t (.pointer (some ⟨b, off, none⟩)) ∧ E.obj id = .box b := by
  cases h with
  | pure h => cases h
  | ib h => exact ⟨_, rfl, h⟩
theorem Rel.st_inv {E : Env} {l : Str} {u : Value} (h : Rel E (.st l) u) : u = .string ⟨l.toArray⟩ := by
  cases h with
  | pure h => cases h; rfl
theorem Rel.tl_inv {E : Env} {t : Ty} {l : List (El t)} {cap : Option Nat} {u : Value} (h : Rel E (.tl t l cap) u) : PRel E.S (.sl (sz t) (l.map (enc t)) cap) u := by
  cases h with
  | pure h => cases h with | tl h => exact h
theorem Rel.rw_inv {E : Env} {id : Nat} {u : Value} (h : Rel E (.rw id) u) : ∃ base cap tip size, u = .slice base tip cap ∧ E.obj id = .row base cap tip size := by
  cases h with
  | pure h => cases h
  | rw h => exact ⟨_, _, _, _, rfl, h⟩
theorem Rel.mp_inv {E : Env} {id : Nat} {u : Value} (h : Rel E (.mp id) u) : ∃ b, u = .map (some b) ∧ E.obj id = .map b := by
  cases h with
  | pure h => cases h
  | mp h => exact ⟨_, rfl, h⟩
theorem Rel.tp_inv {E : Env} {id i off : Nat} {u : Value} (h : Rel E (.tp id i off) u) : ∃ b cap size ln, u = .pointer (some ⟨b, i * size + off, none⟩) ∧ E.obj id = .arr b cap size ln := by
  cases h with
  | pure h => cases h
  | tp h1 => exact ⟨_, _, _, _, rfl, h1⟩
theorem Rel.ms_inv {E : Env} {id off len : Nat} {u : Value} (h : Rel E (.ms id off len) u) : ∃ b cap size ln a c, u = .slice a len c ∧ E.obj id = .arr b cap size ln ∧ off + c ≤ cap ∧ len ≤ c ∧ cap ≤ maxLen ∧ (0 < c → a = some ⟨b, off * size, none⟩) := by
  cases h with
  | pure h => cases h
  | ms h1 h2 h3 h4 h5 => exact ⟨_, _, _, _, _, _, rfl, h1, h2, h3, h4, h5⟩
theorem Rel.mw_inv {E : Env} {id : Nat} {u : Value} (h : Rel E (.mw id) u) : ∃ b cap size len a c, u = .slice a len c ∧ E.obj id = .arr b cap size len ∧ c ≤ cap ∧ len ≤ c ∧ cap ≤ maxLen ∧ (0 < c → a = some ⟨b, 0, none⟩) := by
  cases h with
  | pure h => cases h
  | mw h1 h2 h3 h4 h5 => exact ⟨_, _, _, _, _, _, rfl, h1, h2, h3, h4, h5⟩
/-- Two lists, place by place. -/
def Rels (E : Env) (l : List AV) (vs : List Value) : Prop := vs.length = l.length ∧ ∀ (i : Nat) (x : AV) (v : Value), l[i]? = some x → vs[i]? = some v → Rel E x v

theorem Rels.nil (E : Env) : Rels E [] [] := ⟨rfl, fun i x v h => by simp at h⟩
theorem Rels.cons {E : Env} {x : AV} {v : Value} {l : List AV} {vs : List Value} (h : Rel E x v) (t : Rels E l vs) : Rels E (x :: l) (v :: vs) := by
  refine ⟨by simp [t.1], fun i y u hy hu => ?_⟩
  cases i with
  | zero => simp at hy hu; subst hy; subst hu; exact h
  | succ i => simp at hy hu; exact t.2 i y u hy hu
theorem Rels.head {E : Env} {x : AV} {v : Value} {l : List AV} {vs : List Value} (h : Rels E (x :: l) (v :: vs)) : Rel E x v := h.2 0 x v rfl rfl
theorem Rels.tail {E : Env} {x : AV} {v : Value} {l : List AV} {vs : List Value} (h : Rels E (x :: l) (v :: vs)) : Rels E l vs :=
  ⟨by have := h.1; simpa using this, fun i y u hy hu => h.2 (i + 1) y u (by simpa using hy) (by simpa using hu)⟩
theorem Rels.nil_inv {E : Env} {vs : List Value} (h : Rels E [] vs) : vs = [] := List.eq_nil_of_length_eq_zero (by simpa using h.1)
theorem Rels.cons_inv {E : Env} {x : AV} {l : List AV} {vs : List Value} (h : Rels E (x :: l) vs) : ∃ v us, vs = v :: us ∧ Rel E x v ∧ Rels E l us := by
  cases vs with
  | nil => have := h.1; simp at this
  | cons v us => exact ⟨v, us, rfl, h.head, h.tail⟩
theorem Rels.getElem {E : Env} {l : List AV} {vs : List Value} (h : Rels E l vs) {i : Nat} {x : AV} (hx : l[i]? = some x) : ∃ v, vs[i]? = some v ∧ Rel E x v := by
  have hi : i < vs.length := by
    have := (List.getElem?_eq_some_iff.1 hx).1
    rw [h.1]; exact this
  exact ⟨vs[i], List.getElem?_eq_getElem hi, h.2 i x _ hx (List.getElem?_eq_getElem hi)⟩
theorem Rels.append {E : Env} {l m : List AV} {vs us : List Value} (h : Rels E l vs) (k : Rels E m us) : Rels E (l ++ m) (vs ++ us) := by
  refine ⟨by simp [h.1, k.1], fun i x v hx hv => ?_⟩
  by_cases hi : i < l.length
  · rw [List.getElem?_append_left hi] at hx
    rw [List.getElem?_append_left (by rw [h.1]; exact hi)] at hv
    exact h.2 i x v hx hv
  · rw [List.getElem?_append_right (by omega)] at hx
    rw [List.getElem?_append_right (by rw [h.1]; omega), h.1] at hv
    exact k.2 _ x v hx hv
theorem Rels.drop {E : Env} {l : List AV} {vs : List Value} (h : Rels E l vs) (n : Nat) : Rels E (l.drop n) (vs.drop n) :=
  ⟨by simp [h.1], fun i x v hx hv => h.2 (n + i) x v (by simpa using hx) (by simpa using hv)⟩
theorem Rels.take {E : Env} {l : List AV} {vs : List Value} (h : Rels E l vs) (n : Nat) : Rels E (l.take n) (vs.take n) := by
  refine ⟨by simp [h.1], fun i x v hx hv => ?_⟩
  rw [List.getElem?_take] at hx hv
  split at hx
  · rename_i hi; rw [if_pos hi] at hv; exact h.2 i x v hx hv
  · cases hx

/-- Objects: a variable's cells; a row that is appended to. -/
inductive AO where
  | box (l : List AV)
  | trow (t : Ty) (l : List (El t))
  | tarr (t : Ty) (l : List (El t))
  | tmap (kt vt : Ty) (l : List (El kt × El vt))

structure AH where
  o : Nat → Option AO
  n : Nat
  g : List Nat := []

/-- A map's entries, in order. -/
def MRel (S : Addr → Option Value) (kt vt : Ty) (l : List (El kt × El vt)) (es : List MapEntry) : Prop :=
  es.length = l.length ∧ ∀ (i : Nat) (y : El kt × El vt) (e : MapEntry), l[i]? = some y → es[i]? = some e → (∃ x, enc kt y.1 = [x] ∧ PRel S x e.key) ∧ (∃ x, enc vt y.2 = [x] ∧ PRel S x e.val)

/-- What one object stands for. -/
def ORel (E : Env) (w : World) (eo : EO) : AO → Prop
  | .box l => ∃ b cs T, eo = .box b ∧ w.heap[b]? = some (.cells cs T (0, 0)) ∧ Rels E l cs.toList ∧ (∀ a, a.block = b → E.S a = none)
  | .trow t l => ∃ base cap, eo = .row base cap l.length (sz t) ∧ PRel E.S (.sl (sz t) (l.map (enc t)) none) (.slice base l.length cap) ∧
      (l.length < cap → ∃ b cur T, base = some ⟨b, 0, none⟩ ∧ w.heap[b]? = some (.cells cur T (0, 0)) ∧ cur.size = cap * sz t ∧ ∀ j, l.length * sz t ≤ j → E.S ⟨b, j, none⟩ = none)
  | .tarr t l => ∃ b cap, eo = .arr b cap (sz t) l.length ∧ l.length ≤ cap ∧ cap ≤ maxLen ∧ (0 < cap → ∃ cur T, w.heap[b]? = some (.cells cur T (0, 0)) ∧ cur.size = cap * sz t ∧ (∀ a, a.block = b → E.S a = none) ∧
      (∀ (i j : Nat) (y : El t) (x : AV), l[i]? = some y → (enc t y)[j]? = some x → ∃ v, cur[i * sz t + j]? = some v ∧ PRel E.S x v))
  | .tmap kt vt l => ∃ b es clk, eo = .map b ∧ w.heap[b]? = some (.map es clk) ∧ MRel E.S kt vt l es.toList

structure HRel [GTab] (E : Env) (h : AH) (w : World) : Prop where
  cells : ∀ a v, E.S a = some v → w.cell? a = some v
  obj : ∀ id x, id < h.n → h.o id = some x → ORel E w (E.obj id) x
  glo : ∀ g, g ∈ h.g → ∀ (j : Nat) (x : AV), (GTab.cells g)[j]? = some x → ∃ v, E.S ⟨g, j, none⟩ = some v ∧ PRel E.S x v
  inj : ∀ i j b, i < h.n → j < h.n → h.o i ≠ none → h.o j ≠ none → (E.obj i).blk = some b → (E.obj j).blk = some b → i = j
  lt : ∀ i b, i < h.n → (E.obj i).blk = some b → b < w.heap.size
theorem HRel.box [GTab] {E : Env} {h : AH} {w : World} (hh : HRel E h w) (id : Nat) (l : List AV) (hid : id < h.n) (ho : h.o id = some (.box l)) : ∃ b cs T, E.obj id = .box b ∧ w.heap[b]? = some (.cells cs T (0, 0)) ∧ Rels E l cs.toList ∧ (∀ a, a.block = b → E.S a = none) := hh.obj id _ hid ho
theorem HRel.row [GTab] {E : Env} {h : AH} {w : World} (hh : HRel E h w) (id : Nat) (t : Ty) (l : List (El t)) (hid : id < h.n) (ho : h.o id = some (.trow t l)) : ∃ base cap, E.obj id = .row base cap l.length (sz t) ∧ PRel E.S (.sl (sz t) (l.map (enc t)) none) (.slice base l.length cap) ∧
      (l.length < cap → ∃ b cur T, base = some ⟨b, 0, none⟩ ∧ w.heap[b]? = some (.cells cur T (0, 0)) ∧ cur.size = cap * sz t ∧ ∀ j, l.length * sz t ≤ j → E.S ⟨b, j, none⟩ = none) := hh.obj id _ hid ho
theorem HRel.arr [GTab] {E : Env} {h : AH} {w : World} (hh : HRel E h w) (id : Nat) (t : Ty) (l : List (El t)) (hid : id < h.n) (ho : h.o id = some (.tarr t l)) : ∃ b cap, E.obj id = .arr b cap (sz t) l.length ∧ l.length ≤ cap ∧ cap ≤ maxLen ∧ (0 < cap → ∃ cur T, w.heap[b]? = some (.cells cur T (0, 0)) ∧ cur.size = cap * sz t ∧ (∀ a, a.block = b → E.S a = none) ∧
      (∀ (i j : Nat) (y : El t) (x : AV), l[i]? = some y → (enc t y)[j]? = some x → ∃ v, cur[i * sz t + j]? = some v ∧ PRel E.S x v)) := hh.obj id _ hid ho
theorem HRel.map [GTab] {E : Env} {h : AH} {w : World} (hh : HRel E h w) (id : Nat) (kt vt : Ty) (l : List (El kt × El vt)) (hid : id < h.n) (ho : h.o id = some (.tmap kt vt l)) : ∃ b es clk, E.obj id = .map b ∧ w.heap[b]? = some (.map es clk) ∧ MRel E.S kt vt l es.toList := hh.obj id _ hid ho

/-- What is known of an environment stays known. -/
structure Ext (E : Env) (n : Nat) (E' : Env) : Prop where
  S : ∀ a v, E.S a = some v → E'.S a = some v
  box : ∀ id b, id < n → E.obj id = .box b → E'.obj id = .box b
  arr : ∀ id b cap size ln, id < n → E.obj id = .arr b cap size ln → E'.obj id = .arr b cap size ln
  map : ∀ id b, id < n → E.obj id = .map b → E'.obj id = .map b
  row : ∀ id base cap tip size, id < n → E.obj id = .row base cap tip size → E'.obj id = .row base cap tip size

theorem Ext.refl (E : Env) (n : Nat) : Ext E n E := ⟨fun _ _ h => h, fun _ _ _ h => h, fun _ _ _ _ _ _ h => h, fun _ _ _ h => h, fun _ _ _ _ _ _ h => h⟩
theorem Ext.trans {E E' E'' : Env} {n m : Nat} (h : Ext E n E') (k : Ext E' m E'') (hn : n ≤ m) : Ext E n E'' :=
  ⟨fun a v ha => k.S a v (h.S a v ha), fun id b hi hb => k.box id b (by omega) (h.box id b hi hb), fun id b c s ln hi hb => k.arr id b c s ln (by omega) (h.arr id b c s ln hi hb), fun id b hi hb => k.map id b (by omega) (h.map id b hi hb),
    fun id base cap tip size hi hr => k.row id base cap tip size (by omega) (h.row id base cap tip size hi hr)⟩

/-- All objects that a value names lie below a number. -/
inductive Lt (n : Nat) : AV → Prop
  | p (v) : Lt n (.p v)
  | junk : Lt n .junk
  | sl (size els cap) : Lt n (.sl size els cap)
  | ep (cs) : Lt n (.ep cs)
  | ifc (t x) : Lt n (.ifc t x)
  | bp {id off} : id < n → Lt n (.bp id off)
  | agg {l : List AV} : (∀ (i : Nat) (x : AV), l[i]? = some x → Lt n x) → Lt n (.agg l)
  | tup {l : List AV} : (∀ (i : Nat) (x : AV), l[i]? = some x → Lt n x) → Lt n (.tup l)
  | fn {f l m} : (∀ (i : Nat) (x : AV), l[i]? = some x → Lt n x) → (∀ (i : Nat) (x : AV), m[i]? = some x → Lt n x) → Lt n (.fn f l m)
  | st (l) : Lt n (.st l)
  | tl (t l c) : Lt n (.tl t l c)
  | rw {id} : id < n → Lt n (.rw id)
  | mw {id} : id < n → Lt n (.mw id)
  | ms {id off len} : id < n → Lt n (.ms id off len)
  | tp {id i off} : id < n → Lt n (.tp id i off)
  | mp {id} : id < n → Lt n (.mp id)
  | ib {t id off} : id < n → Lt n (.ib t id off)

theorem Lt.bp_inv {n id off : Nat} (h : Lt n (.bp id off)) : id < n := by
  cases h with
  | bp h => exact h

theorem Lt.ib_inv {n id off : Nat} {t : TypeId} (h : Lt n (.ib t id off)) : id < n := by
  cases h with
  | ib h => exact h

theorem Lt.rw_inv {n id : Nat} (h : Lt n (.rw id)) : id < n := by
  cases h with
  | rw h => exact h
theorem Lt.mw_inv {n id : Nat} (h : Lt n (.mw id)) : id < n := by
  cases h with
  | mw h => exact h
theorem Lt.ms_inv {n id off len : Nat} (h : Lt n (.ms id off len)) : id < n := by
  cases h with
  | ms h => exact h
theorem Lt.tp_inv {n id i off : Nat} (h : Lt n (.tp id i off)) : id < n := by
  cases h with
  | tp h => exact h
theorem Lt.mp_inv {n id : Nat} (h : Lt n (.mp id)) : id < n := by
  cases h with
  | mp h => exact h
theorem Lt.mono {n m : Nat} {x : AV} (h : Lt n x) (hn : n ≤ m) : Lt m x := by
  induction h with
  | p => exact .p _
  | junk => exact .junk
  | sl => exact .sl _ _ _
  | ep => exact .ep _
  | ifc => exact .ifc _ _
  | bp h => exact .bp (by omega)
  | agg _ ih => exact .agg ih
  | tup _ ih => exact .tup ih
  | fn _ _ ih1 ih2 => exact .fn ih1 ih2
  | st => exact .st _
  | tl => exact .tl _ _ _
  | rw h => exact .rw (by omega)
  | mw h => exact .mw (by omega)
  | ms h => exact .ms (by omega)
  | tp h => exact .tp (by omega)
  | mp h => exact .mp (by omega)
  | ib h => exact .ib (by omega)

/-- What boxes hold lies below. -/
def AH.ok (h : AH) : Prop := ∀ (id : Nat) (l : List AV) (i : Nat) (x : AV), id < h.n → h.o id = some (.box l) → l[i]? = some x → Lt h.n x
theorem PRel.mono {S S' : Addr → Option Value} {x : AV} {v : Value} (h : PRel S x v) (hS : ∀ a v, S a = some v → S' a = some v) : PRel S' x v := by
  induction h with
  | p => exact .p _
  | junk => exact .junk _
  | ifc _ ih => exact .ifc ih
  | agg hl _ ih => exact .agg hl ih
  | tup hl _ ih => exact .tup hl ih
  | ep us hs _ ih => exact .ep us (fun j x hx => hS _ _ (hs j x hx)) ih
  | sl us h1 h2 h3 h4 h5 h6 h7 _ ih => exact .sl us h1 h2 h3 h4 h5 h6 (fun ad i j e x ha he hx => hS _ _ (h7 ad i j e x ha he hx)) ih
  | st => exact .st _
  | tl _ ih => exact .tl ih

theorem Rel.mono [GTab] {E E' : Env} {n : Nat} {x : AV} {v : Value} (h : Rel E x v) (hl : Lt n x) (he : Ext E n E') : Rel E' x v := by
  induction h with
  | pure hp => exact .pure (hp.mono he.S)
  | bp ho => cases hl with | bp hid => exact .bp (he.box _ _ hid ho)
  | agg hlen _ ih => cases hl with | agg hl => exact .agg hlen (fun i x v hx hv => ih i x v hx hv (hl i x hx))
  | tup hlen _ ih => cases hl with | tup hl => exact .tup hlen (fun i x v hx hv => ih i x v hx hv (hl i x hx))
  | fn hlen hlen2 _ _ ih1 ih2 => cases hl with | fn hl hm => exact .fn hlen hlen2 (fun i x v hx hv => ih1 i x v hx hv (hl i x hx)) (fun i x v hx hv => ih2 i x v hx hv (hm i x hx))
  | rw ho => cases hl with | rw hid => exact .rw (he.row _ _ _ _ _ hid ho)
  | mw h1 h2 h3 h4 h5 => cases hl with | mw hid => exact .mw (he.arr _ _ _ _ _ hid h1) h2 h3 h4 h5
  | ms h1 h2 h3 h4 h5 => cases hl with | ms hid => exact .ms (he.arr _ _ _ _ _ hid h1) h2 h3 h4 h5
  | tp h1 => cases hl with | tp hid => exact .tp (he.arr _ _ _ _ _ hid h1)
  | mp ho => cases hl with | mp hid => exact .mp (he.map _ _ hid ho)
  | ib ho => cases hl with | ib hid => exact .ib (he.box _ _ hid ho)

theorem Rels.mono [GTab] {E E' : Env} {n : Nat} {l : List AV} {vs : List Value} (h : Rels E l vs) (hl : ∀ (i : Nat) (x : AV), l[i]? = some x → Lt n x) (he : Ext E n E') : Rels E' l vs :=
  ⟨h.1, fun i x v hx hv => (h.2 i x v hx hv).mono (hl i x hx) he⟩

/-- What the world keeps: all blocks but those of the objects that a caller handed over. -/
structure Keep (E : Env) (n : Nat) (w w' : World) : Prop where
  os : w'.os = w.os
  tape : w'.tape = w.tape
  output : w'.output = w.output
  size : w.heap.size ≤ w'.heap.size
  block : ∀ k, k < w.heap.size → (∀ id, id < n → (E.obj id).blk ≠ some k) → w'.heap[k]? = w.heap[k]?
theorem Keep.refl (E : Env) (n : Nat) (w : World) : Keep E n w w := ⟨rfl, rfl, rfl, Nat.le_refl _, fun _ _ _ => rfl⟩

/-- What is known for good grows at new blocks alone, or at blocks of objects handed over. -/
def Gr (E0 : Env) (n0 : Nat) (w0 : World) (E : Env) : Prop :=
  ∀ a v, E.S a = some v → E0.S a = some v ∨ w0.heap.size ≤ a.block ∨ ∃ id, id < n0 ∧ (E0.obj id).blk = some a.block
theorem Gr.refl (E : Env) (n : Nat) (w : World) : Gr E n w E := fun _ _ h => .inl h
/-- Each object's block is new, or was that object's. -/
def Fr (E0 : Env) (n0 : Nat) (w0 : World) (E : Env) (n : Nat) : Prop :=
  ∀ id b, id < n → (E.obj id).blk = some b → w0.heap.size ≤ b ∨ ∃ j, j < n0 ∧ (E0.obj j).blk = some b
theorem Fr.refl (E : Env) (n : Nat) (w : World) : Fr E n w E n := fun id b hi hb => .inr ⟨id, hi, hb⟩

theorem Keep.trans {E0 E : Env} {n0 n : Nat} {w0 w w' : World} (h : Keep E0 n0 w0 w) (k : Keep E n w w') (hf : Fr E0 n0 w0 E n) : Keep E0 n0 w0 w' := by
  refine ⟨k.os.trans h.os, k.tape.trans h.tape, k.output.trans h.output, Nat.le_trans h.size k.size, fun b hb hne => ?_⟩
  rw [k.block b (Nat.lt_of_lt_of_le hb h.size) (fun id hid hh => ?_)]
  · exact h.block b hb hne
  · rcases hf id b hid hh with h' | ⟨j, h1, h2⟩
    · omega
    · exact hne j h1 h2
theorem Fr.trans {E0 E E' : Env} {n0 n n' : Nat} {w0 w w' : World} (h : Fr E0 n0 w0 E n) (k : Fr E n w E' n') (hs : w0.heap.size ≤ w.heap.size) : Fr E0 n0 w0 E' n' := by
  intro id b hi hb
  rcases k id b hi hb with h' | ⟨j, h1, h2⟩
  · exact .inl (by omega)
  · exact h j b h1 h2

theorem Gr.trans {E0 E E' : Env} {n0 n : Nat} {w0 w : World} (h : Gr E0 n0 w0 E) (k : Gr E n w E') (hf : Fr E0 n0 w0 E n) (hs : w0.heap.size ≤ w.heap.size) : Gr E0 n0 w0 E' := by
  intro a v ha
  rcases k a v ha with h1 | h1 | ⟨id, h1, h2⟩
  · exact h a v h1
  · exact .inr (.inl (by omega))
  · rcases hf id _ h1 h2 with h3 | ⟨j, h3, h4⟩
    · exact .inr (.inl h3)
    · exact .inr (.inr ⟨j, h3, h4⟩)
/-- What a frame may do to what its caller has: how many objects keep their numbers; the old blocks that may turn. -/
structure NB where
  n : Nat
  B : Nat → Prop
def nb0 : NB := ⟨0, fun _ => False⟩
/-- The blocks of a caller's objects. -/
def nbOf (E : Env) (n : Nat) : NB := ⟨n, fun b => ∃ id, id < n ∧ (E.obj id).blk = some b⟩
structure KeepB (B : Nat → Prop) (w w' : World) : Prop where
  os : w'.os = w.os
  tape : w'.tape = w.tape
  output : w'.output = w.output
  size : w.heap.size ≤ w'.heap.size
  block : ∀ k, k < w.heap.size → ¬ B k → w'.heap[k]? = w.heap[k]?
theorem KeepB.refl (B : Nat → Prop) (w : World) : KeepB B w w := ⟨rfl, rfl, rfl, Nat.le_refl _, fun _ _ _ => rfl⟩
def GrB (E0 : Env) (B : Nat → Prop) (w0 : World) (E : Env) : Prop :=
  ∀ a v, E.S a = some v → E0.S a = some v ∨ w0.heap.size ≤ a.block ∨ B a.block
theorem GrB.refl (E : Env) (B : Nat → Prop) (w : World) : GrB E B w E := fun _ _ h => .inl h
def FrB (B : Nat → Prop) (w0 : World) (E : Env) (n : Nat) : Prop :=
  ∀ id b, id < n → (E.obj id).blk = some b → w0.heap.size ≤ b ∨ B b
theorem KeepB.trans {B : Nat → Prop} {E : Env} {n : Nat} {w0 w w' : World} (h : KeepB B w0 w) (k : Keep E n w w') (hf : FrB B w0 E n) : KeepB B w0 w' := by
  refine ⟨k.os.trans h.os, k.tape.trans h.tape, k.output.trans h.output, Nat.le_trans h.size k.size, fun b hb hne => ?_⟩
  rw [k.block b (Nat.lt_of_lt_of_le hb h.size) (fun id hid hh => ?_)]
  · exact h.block b hb hne
  · rcases hf id b hid hh with h' | h'
    · omega
    · exact hne h'
theorem FrB.trans {B : Nat → Prop} {E E' : Env} {n n' : Nat} {w0 w w' : World} (h : FrB B w0 E n) (k : Fr E n w E' n') (hs : w0.heap.size ≤ w.heap.size) : FrB B w0 E' n' := by
  intro id b hi hb
  rcases k id b hi hb with h' | ⟨j, h1, h2⟩
  · exact .inl (by omega)
  · exact h j b h1 h2
theorem GrB.trans {B : Nat → Prop} {E0 E E' : Env} {n : Nat} {w0 w : World} (h : GrB E0 B w0 E) (k : Gr E n w E') (hf : FrB B w0 E n) (hs : w0.heap.size ≤ w.heap.size) : GrB E0 B w0 E' := by
  intro a v ha
  rcases k a v ha with h1 | h1 | ⟨id, h1, h2⟩
  · exact h a v h1
  · exact .inr (.inl (by omega))
  · rcases hf id _ h1 h2 with h3 | h3
    · exact .inr (.inl h3)
    · exact .inr (.inr h3)
/-! ### The temporaries -/
def look : List (Nat × AV) → Nat → AV
  | [], _ => .junk
  | (i, x) :: l, j => if i = j then x else look l j

structure St where
  t : List (Nat × AV)
  h : AH

def St.put (σ : St) (d : Option Tmp) (x : AV) : St :=
  match d with
  | some d => { σ with t := (d, x) :: σ.t }
  | none => σ

/-- A value, a text as its bytes. -/
def nv : Value → AV
  | .string s => .st s.data.toList
  | v => .p v
theorem nv_prel (S : Addr → Option Value) (v : Value) : PRel S (nv v) v := by
  cases v with
  | string s => exact .st s.data.toList
  | _ => exact .p _
theorem nv_rel [GTab] (E : Env) (v : Value) : Rel E (nv v) v := .pure (nv_prel _ v)
theorem nv_lt (n : Nat) (v : Value) : Lt n (nv v) := by
  cases v with
  | string s => exact .st _
  | _ => exact .p _

/-- A package-level variable whose cells are known. -/
def memG : List Nat → Nat → Bool
  | [], _ => false
  | i :: r, g => if Nat.beq i g then true else memG r g
theorem memG_ok [GTab] {g : Nat} : ∀ {gs : List Nat}, memG gs g = true → g ∈ gs
  | [], h => by cases h
  | i :: r, h => by
    unfold memG at h
    split at h
    · rename_i hi; rw [Nat.eq_of_beq_eq_true hi]; exact List.mem_cons_self
    · exact List.mem_cons_of_mem _ (memG_ok h)
def subG (gs hs : List Nat) : Bool := gs.all (memG hs)
theorem subG_ok [GTab] {gs hs : List Nat} (h : subG gs hs = true) : ∀ g, g ∈ gs → g ∈ hs := fun g hg => memG_ok (List.all_eq_true.1 h g hg)
def ev [GTab] (σ : St) : Operand → AV
  | .tmp t => look σ.t t
  | .const v => nv v
  | .global g =>
    match memG σ.h.g g with
    | true => .ep (GTab.cells g)
    | false => .p (.pointer (some ⟨g, 0, none⟩))
  | .func f => .p (.func (.func f) #[] #[])

structure SRel [GTab] (E0 : Env) (n0 : NB) (w0 : World) (nt : Nat) (E : Env) (σ : St) (a : Act) (w : World) : Prop where
  tm : ∀ i, Rel E (look σ.t i) (a.tmps.getD i undef)
  lt : ∀ i, Lt σ.h.n (look σ.t i)
  blt : ∀ (id : Nat) (l : List AV) (i : Nat) (x : AV), id < σ.h.n → σ.h.o id = some (.box l) → l[i]? = some x → Lt σ.h.n x
  sz : a.tmps.size = nt
  df : a.defers = []
  hr : HRel E σ.h w
  ex : Ext E0 n0.n E
  kp : KeepB n0.B w0 w
  fr : FrB n0.B w0 E σ.h.n
  gr : GrB E0 n0.B w0 E
  nn : n0.n ≤ σ.h.n

section
variable {E0 : Env} {n0 : NB} {w0 : World} {nt : Nat} {E : Env} {σ : St} {a : Act} {w : World}

theorem SRel.ev [GTab] (h : SRel E0 n0 w0 nt E σ a w) (x : Operand) : Rel E (ev σ x) (a.eval x) := by
  cases x with
  | tmp t => exact h.tm t
  | const v => exact nv_rel E v
  | global g =>
    simp only [Up.ev]
    split
    · rename_i hl
      have hg := h.hr.glo g (memG_ok hl)
      refine .pure (.ep (fun j => (E.S ⟨g, j, none⟩).getD undef) (fun j x hx => ?_) (fun j x hx => ?_))
      · obtain ⟨v, hv, _⟩ := hg j x hx
        have e : (⟨g, 0, none⟩ : Addr).add j = ⟨g, j, none⟩ := by
          unfold Addr.add
          by_cases hj : j = 0
          · subst hj; simp
          · simp [hj]
        rw [e, hv]; rfl
      · obtain ⟨v, hv, hp⟩ := hg j x hx
        rw [hv]; exact hp
    · exact .pure (.p _)
  | func f => exact .pure (.p _)
theorem SRel.evlt [GTab] (h : SRel E0 n0 w0 nt E σ a w) (x : Operand) : Lt σ.h.n (Up.ev σ x) := by
  cases x with
  | tmp t => exact h.lt t
  | const v => exact nv_lt _ v
  | global g =>
    simp only [Up.ev]
    split
    · exact .ep _
    · exact .p _
  | func f => exact .p _

def okDst (nt : Nat) : Option Tmp → Bool
  | some d => Nat.blt d nt
  | none => true

theorem SRel.put [GTab] (h : SRel E0 n0 w0 nt E σ a w) {d : Option Tmp} {x : AV} {v : Value} (hd : okDst nt d = true) (hx : Rel E x v) (hl : Lt σ.h.n x) :
    SRel E0 n0 w0 nt E (σ.put d x) (a.put d v) w := by
  cases d with
  | none => exact h
  | some d =>
    have hd : d < nt := by simpa [okDst, Nat.blt, Nat.succ_le_iff] using hd
    refine ⟨fun i => ?_, fun i => ?_, h.blt, ?_, h.df, h.hr, h.ex, h.kp, h.fr, h.gr, h.nn⟩
    · simp only [St.put, look, Act.put]
      by_cases hi : d = i
      · subst hi
        rw [if_pos rfl]
        have : d < a.tmps.size := by rw [h.sz]; exact hd
        simp [Array.getD, this]
        exact hx
      · rw [if_neg hi]
        have e : (a.tmps.setIfInBounds d v).getD i undef = a.tmps.getD i undef := by
          simp only [Array.getD_eq_getD_getElem?, Array.getElem?_setIfInBounds]
          rw [if_neg hi]
        rw [e]; exact h.tm i
    · simp only [St.put, look]
      split
      · exact hl
      · exact h.lt i
    · simp [Act.put, h.sz]

theorem St.put_h (σ : St) (d : Option Tmp) (x : AV) : (σ.put d x).h = σ.h := by cases d <;> rfl
end
end Go.Up

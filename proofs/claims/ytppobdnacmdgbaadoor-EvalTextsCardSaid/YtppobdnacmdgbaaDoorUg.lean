/- Up, part g: plain data read off abstract values. -/
import Derived.Test.YtppobdnacmdgbaaDoorUf
set_option linter.unusedVariables false
set_option linter.unusedSimpArgs false
namespace Go.Up
open Go.RowKit

def isP : AV → Bool
  | .p _ => true
  | .sl _ _ _ => true
  | .ep _ => true
  | .ifc _ _ => true
  | .st _ => true
  | .tl _ _ _ => true
  | .junk => true
  | _ => false
theorem prel_of_isP {E : Env} {x : AV} {v : Value} (h : Rel E x v) (hp : isP x = true) : PRel E.S x v := by
  cases h with
  | pure h => exact h
  | _ => simp [isP] at hp
theorem encF_isP (tc : Nat) (e : Flt) : isP (encF tc e) = true := by cases e <;> rfl
theorem encE_isP (tf tc : Nat) (e : Err) : isP (encE tf tc e) = true := by cases e <;> rfl
theorem enc_isP [GTab] : ∀ (t : Ty) (y : El t), ∀ x ∈ enc t y, isP x = true
  | .int _, _, x, h => by simp only [enc, List.mem_singleton] at h; subst h; rfl
  | .bool, _, x, h => by simp only [enc, List.mem_singleton] at h; subst h; rfl
  | .str, _, x, h => by simp only [enc, List.mem_singleton] at h; subst h; rfl
  | .err _ _, _, x, h => by simp only [enc, List.mem_singleton] at h; subst h; exact encE_isP _ _ _
  | .flt _, _, x, h => by simp only [enc, List.mem_singleton] at h; subst h; exact encF_isP _ _
  | .slice _, _, x, h => by simp only [enc, List.mem_singleton] at h; subst h; rfl
  | .pair a b, y, x, h => by
    simp only [enc, List.mem_append] at h
    rcases h with h | h
    · exact enc_isP a _ x h
    · exact enc_isP b _ x h
  | .ins, _, x, h => by simp only [enc, List.mem_cons, List.not_mem_nil, or_false] at h; rcases h with h | h | h | h | h <;> subst h <;> rfl
  | .tok, _, x, h => by simp only [enc, List.mem_cons, List.not_mem_nil, or_false] at h; rcases h with h | h | h | h | h | h <;> subst h <;> rfl
  | .nod, _, x, h => by simp only [enc, List.mem_cons, List.not_mem_nil, or_false] at h; rcases h with h | h | h | h | h <;> subst h <;> rfl
  | .itm, _, x, h => by simp only [enc, List.mem_cons, List.not_mem_nil, or_false] at h; rcases h with h | h | h | h | h | h | h | h | h | h | h | h | h | h | h <;> subst h <;> rfl
  | .opn, _, x, h => by simp only [enc, List.mem_cons, List.not_mem_nil, or_false] at h; rcases h with h | h | h | h | h | h <;> subst h <;> rfl
  | .lab, _, x, h => by simp only [enc, List.mem_cons, List.not_mem_nil, or_false] at h; rcases h with h | h | h <;> subst h <;> rfl
  | .stm, _, x, h => by simp only [enc, List.mem_cons, List.not_mem_nil, or_false] at h; rcases h with h | h | h | h | h <;> subst h <;> rfl
  | .opt, _, x, h => by simp only [enc, List.mem_cons, List.not_mem_nil, or_false] at h; rcases h with h | h <;> subst h <;> rfl
  | .sym, _, x, h => by simp only [enc, List.mem_cons, List.not_mem_nil, or_false] at h; rcases h with h | h | h <;> subst h <;> rfl

def asInt (k : IntKind) : AV → Option Int
  | .p (.int k' n) => if k' = k then some n else none
  | _ => none
def asStr : AV → Option Str
  | .st l => some l
  | _ => none
def asErr3 (tc : Nat) : List AV → Option Err
  | [a, b, c] => (asInt .i64 a).bind fun l => (asInt .i64 b).bind fun m =>
    match c with
    | .p (.iface t (.int k n)) => if t = tc then (if k = .i64 then some (.fault l m n) else none) else none
    | _ => none
  | _ => none
def asErr (tf tc : Nat) : AV → Option Err
  | .p .nilIface => some .nil
  | .p (.iface t (.int k c)) => if t = tc then (if k = .i64 then some (.code c) else none) else none
  | .ifc t (.ep l) => if t = tf then asErr3 tc l else none
  | _ => none
def asFlt (tc : Nat) : AV → Option Flt
  | .p (.pointer none) => some .nil
  | .ep [a, b, c] => (asInt .i64 a).bind fun l => (asInt .i64 b).bind fun m =>
    match c with
    | .p (.iface t (.int k n)) => if t = tc then (if k = .i64 then some (.at l m n) else none) else none
    | _ => none
  | _ => none
def full {α : Type} (f : List AV → Option (α × List AV)) (l : List AV) : Option α :=
  match f l with
  | some (y, []) => some y
  | _ => none
def asSl (h : AH) (t : Ty) (dec : List AV → Option (El t)) : AV → Option (List (El t))
  | .tl t' l _ => if e : t' = t then some (e ▸ l) else none
  | .rw id =>
    match h.o id with
    | some (.trow t' l) => if e : t' = t then some (e ▸ l) else none
    | _ => none
  | .p (.slice none 0 0) => some []
  | .sl size els _ => if size = sz t then els.mapM dec else none
  | _ => none
/-- No objects. -/
def h0 : AH := ⟨fun _ => none, 0, []⟩
def p1 {α : Type} (f : AV → Option α) : List AV → Option (α × List AV)
  | x :: r => (f x).map fun y => (y, r)
  | [] => none

def decIns (l : List AV) : Option (Ins × List AV) := (p1 (asInt .i64) l).bind fun q0 => (p1 (asInt .i64) q0.2).bind fun q1 => (p1 (asInt .i64) q1.2).bind fun q2 => (p1 (asInt .i64) q2.2).bind fun q3 => (p1 (asInt .i32) q3.2).bind fun q4 => some (⟨q0.1, q1.1, q2.1, q3.1, q4.1⟩, q4.2)
def decTok (l : List AV) : Option (Tok × List AV) := (p1 (asInt .i64) l).bind fun q0 => (p1 (asInt .i64) q0.2).bind fun q1 => (p1 (asInt .i64) q1.2).bind fun q2 => (p1 asStr q2.2).bind fun q3 => (p1 (asInt .u32) q3.2).bind fun q4 => (p1 (asInt .i64) q4.2).bind fun q5 => some (⟨q0.1, q1.1, q2.1, q3.1, q4.1, q5.1⟩, q5.2)
def decNod (l : List AV) : Option (Nod × List AV) := (p1 (asInt .i64) l).bind fun q0 => (p1 (asInt .i64) q0.2).bind fun q1 => (p1 (asInt .i64) q1.2).bind fun q2 => (p1 (asInt .u32) q2.2).bind fun q3 => (p1 asStr q3.2).bind fun q4 => some (⟨q0.1, q1.1, q2.1, q3.1, q4.1⟩, q4.2)
def decLab (l : List AV) : Option (Lab × List AV) := (p1 asStr l).bind fun q0 => (p1 (asInt .i64) q0.2).bind fun q1 => (p1 (asInt .i64) q1.2).bind fun q2 => some (⟨q0.1, q1.1, q2.1⟩, q2.2)
def decSym (l : List AV) : Option (Sym × List AV) := (p1 asStr l).bind fun q0 => (p1 (asInt .u32) q0.2).bind fun q1 => (p1 (asInt .i64) q1.2).bind fun q2 => some (⟨q0.1, q1.1, q2.1⟩, q2.2)
def decOpt (l : List AV) : Option (Opt × List AV) := (p1 asBool? l).bind fun q0 => (p1 asBool? q0.2).bind fun q1 => some (⟨q0.1, q1.1⟩, q1.2)
def decOpn (h : AH) (l : List AV) : Option (Opn × List AV) := (p1 (asInt .i64) l).bind fun q0 => (p1 (asInt .i64) q0.2).bind fun q1 => (p1 (asInt .i64) q1.2).bind fun q2 => (p1 (asInt .i64) q2.2).bind fun q3 => (p1 (asSl h .nod (full (decNod))) q3.2).bind fun q4 => (p1 asStr q4.2).bind fun q5 => some (⟨q0.1, q1.1, q2.1, q3.1, q4.1, q5.1⟩, q5.2)
def decStm (h : AH) (l : List AV) : Option (Stm × List AV) := (p1 (asSl h .lab (full (decLab))) l).bind fun q0 => (p1 asStr q0.2).bind fun q1 => (p1 (asInt .i64) q1.2).bind fun q2 => (p1 (asInt .i64) q2.2).bind fun q3 => (p1 (asSl h .opn (full (decOpn h0))) q3.2).bind fun q4 => some (⟨q0.1, q1.1, q2.1, q3.1, q4.1⟩, q4.2)
def decItm (h : AH) (l : List AV) : Option (Itm × List AV) := (p1 (asInt .i64) l).bind fun q0 => (p1 (asInt .i64) q0.2).bind fun q1 => (p1 (asInt .i64) q1.2).bind fun q2 => (p1 asStr q2.2).bind fun q3 => (p1 (asInt .i64) q3.2).bind fun q4 => (p1 (asInt .i64) q4.2).bind fun q5 => (p1 (asInt .i64) q5.2).bind fun q6 => (p1 (asInt .i64) q6.2).bind fun q7 => (p1 (asInt .i32) q7.2).bind fun q8 => (p1 asStr q8.2).bind fun q9 => (p1 (asInt .i64) q9.2).bind fun q10 => (p1 (asSl h .nod (full (decNod))) q10.2).bind fun q11 => (p1 (asInt .u32) q11.2).bind fun q12 => (p1 asBool? q12.2).bind fun q13 => (p1 asBool? q13.2).bind fun q14 => some (⟨q0.1, q1.1, q2.1, q3.1, ⟨q4.1, q5.1, q6.1, q7.1, q8.1⟩, q9.1, q10.1, q11.1, q12.1, q13.1, q14.1⟩, q14.2)
def decC (h : AH) : (t : Ty) → List AV → Option (El t × List AV)
  | .int k => p1 (asInt k)
  | .bool => p1 asBool?
  | .str => p1 asStr
  | .err tf tc => p1 (asErr tf tc)
  | .flt tc => p1 (asFlt tc)
  | .ins => decIns
  | .tok => decTok
  | .nod => decNod
  | .itm => decItm h
  | .opn => decOpn h
  | .lab => decLab
  | .stm => decStm h
  | .opt => decOpt
  | .sym => decSym
  | .slice t => p1 (asSl h t (full (decC h0 t)))
  | .pair a b => fun l => (decC h a l).bind fun q => (decC h b q.2).bind fun r => some ((q.1, r.1), r.2)
theorem decC_o (o : Nat → Option AO) (n n' : Nat) (g g' : List Nat) : ∀ t : Ty, decC ⟨o, n, g⟩ t = decC ⟨o, n', g'⟩ t
  | .int _ => rfl
  | .bool => rfl
  | .str => rfl
  | .err _ _ => rfl
  | .flt _ => rfl
  | .ins => rfl
  | .tok => rfl
  | .nod => rfl
  | .itm => rfl
  | .opn => rfl
  | .lab => rfl
  | .stm => rfl
  | .opt => rfl
  | .sym => rfl
  | .slice t => rfl
  | .pair a b => by
    funext l
    simp only [decC, decC_o o n n' g g' a, decC_o o n n' g g' b]
/-- One value: its cells, or itself. -/
def isAg : Ty → Bool
  | .int _ => false
  | .bool => false
  | .str => false
  | .err _ _ => false
  | .flt _ => false
  | .slice _ => false
  | _ => true
def decV (h : AH) (t : Ty) (x : AV) : Option (El t) :=
  match isAg t, x with
  | true, .agg l => full (decC h t) l
  | false, x => full (decC h t) [x]
  | _, _ => none
def encV (t : Ty) (y : El t) : AV :=
  match isAg t with
  | true => .agg (enc t y)
  | false => (enc t y).headD .junk

/-! ### Reading is right -/
section
variable {E : Env} {h : AH} {w : World}
theorem p1_inv {α : Type} {f : AV → Option α} {l r : List AV} {y : α} (hp : p1 f l = some (y, r)) : ∃ x, l = x :: r ∧ f x = some y := by
  cases l with
  | nil => cases hp
  | cons x l =>
    obtain ⟨z, hz, he⟩ := Option.map_eq_some_iff.1 hp
    cases he
    exact ⟨x, rfl, hz⟩
theorem full_inv {α : Type} {f : List AV → Option (α × List AV)} {l : List AV} {y : α} (h : full f l = some y) : f l = some (y, []) := by
  unfold full at h
  split at h
  · cases h; assumption
  · cases h
theorem asInt_ok {k : IntKind} {x : AV} {n : Int} (hx : asInt k x = some n) : x = .p (.int k n) := by
  unfold asInt at hx
  split at hx
  · split at hx
    · rename_i he; cases hx; subst he; rfl
    · cases hx
  · cases hx
theorem asStr_ok {x : AV} {n : Str} (hx : asStr x = some n) : x = .st n := by
  unfold asStr at hx
  split at hx
  · cases hx; rfl
  · cases hx
theorem asFlt_ok [GTab] {tc : Nat} {x : AV} {e : Flt} (hx : asFlt tc x = some e) : x = encF tc e := by
  unfold asFlt at hx
  split at hx
  · cases hx; rfl
  · obtain ⟨l, hl, hx⟩ := Option.bind_eq_some_iff.1 hx
    obtain ⟨m, hm, hx⟩ := Option.bind_eq_some_iff.1 hx
    split at hx
    · split at hx
      · rename_i h1
        split at hx
        · rename_i h2; cases hx; subst h1; subst h2; rw [asInt_ok hl, asInt_ok hm]; rfl
        · cases hx
      · cases hx
    · cases hx
  · cases hx
theorem asErr_ok [GTab] {tf tc : Nat} {x : AV} {e : Err} (hx : asErr tf tc x = some e) : x = encE tf tc e := by
  unfold asErr at hx
  split at hx
  · cases hx; rfl
  · split at hx
    · rename_i h1
      split at hx
      · rename_i h2; cases hx; subst h1; subst h2; rfl
      · cases hx
    · cases hx
  · split at hx
    · rename_i h1
      subst h1
      unfold asErr3 at hx
      split at hx
      · obtain ⟨l, hl, hx⟩ := Option.bind_eq_some_iff.1 hx
        obtain ⟨m, hm, hx⟩ := Option.bind_eq_some_iff.1 hx
        split at hx
        · split at hx
          · rename_i h1
            split at hx
            · rename_i h2; cases hx; subst h1; subst h2; rw [asInt_ok hl, asInt_ok hm]; rfl
            · cases hx
          · cases hx
        · cases hx
      · cases hx
    · cases hx
  · cases hx
/-- What is read stands for the same. -/
def Reads (E : Env) (l l' : List AV) : Prop := ∀ vs, Rels E l vs → Rels E l' vs
def Read1 (E : Env) (x x' : AV) : Prop := ∀ v, Rel E x v → Rel E x' v
theorem Read1.of_eq {x x' : AV} (h : x = x') : Read1 E x x' := fun _ hv => h ▸ hv
theorem Reads.refl (l : List AV) : Reads E l l := fun _ h => h
theorem Reads.cons {x x' : AV} {l l' : List AV} (h : Read1 E x x') (k : Reads E l l') : Reads E (x :: l) (x' :: l') := fun vs hv => by
  obtain ⟨v, us, rfl, h1, h2⟩ := hv.cons_inv
  exact .cons (h v h1) (k us h2)
theorem Rels.append_inv {l m : List AV} {vs : List Value} (hr : Rels E (l ++ m) vs) : ∃ us ws, vs = us ++ ws ∧ Rels E l us ∧ Rels E m ws := by
  refine ⟨vs.take l.length, vs.drop l.length, (List.take_append_drop _ _).symm, ?_, ?_⟩
  · have := hr.take l.length; simpa using this
  · have := hr.drop l.length; simpa using this
theorem Reads.append [GTab] {x y l1 l2 l : List AV} (h1 : Reads E l (x ++ l1)) (h2 : Reads E l1 (y ++ l2)) : Reads E l (x ++ y ++ l2) := fun vs hv => by
  obtain ⟨us, ws, rfl, k1, k2⟩ := (h1 vs hv).append_inv
  rw [List.append_assoc]
  exact k1.append (h2 ws k2)

theorem sl_of_rels {S : Addr → Option Value} {size : Nat} {els els' : List (List AV)} {cap : Option Nat} {v : Value} (hp : PRel S (.sl size els cap) v) (hl : els'.length = els.length) (hz : ∀ e ∈ els', e.length = size)
    (hr : ∀ (i : Nat) (e e' : List AV), els[i]? = some e → els'[i]? = some e' → ∀ (j : Nat) (x x' : AV) (u : Value), e[j]? = some x → e'[j]? = some x' → PRel S x u → PRel S x' u) : PRel S (.sl size els' cap) v := by
  cases hp with
  | sl us h1 h2 h3 h4 h5 h6 h7 h8 =>
    have old : ∀ (i j : Nat) (e' : List AV) (x' : AV), els'[i]? = some e' → e'[j]? = some x' → ∃ e x, els[i]? = some e ∧ e[j]? = some x := by
      intro i j e' x' he hx
      have hi : i < els.length := by rw [← hl]; exact (List.getElem?_eq_some_iff.1 he).1
      have hj : j < (els[i]).length := by rw [h5 _ (List.getElem_mem hi), ← hz e' (List.mem_of_getElem? he)]; exact (List.getElem?_eq_some_iff.1 hx).1
      exact ⟨els[i], (els[i])[j], List.getElem?_eq_getElem hi, List.getElem?_eq_getElem hj⟩
    refine .sl us (by omega) h2 h3 h4 hz (fun ha => ?_) (fun ad i j e' x' ha he hx => ?_) (fun i j e' x' he hx => ?_)
    · obtain ⟨q1, q2⟩ := h6 ha
      refine ⟨List.eq_nil_of_length_eq_zero (by rw [hl, q1]; rfl), q2⟩
    · obtain ⟨e, x, k1, k2⟩ := old i j e' x' he hx
      exact h7 ad i j e x ha k1 k2
    · obtain ⟨e, x, k1, k2⟩ := old i j e' x' he hx
      exact hr i e e' k1 he j x x' _ k2 hx (h8 i j e x k1 k2)
theorem sl_nocap {S : Addr → Option Value} {size : Nat} {els : List (List AV)} {cap : Option Nat} {v : Value} (hp : PRel S (.sl size els cap) v) : PRel S (.sl size els none) v := by
  cases hp with
  | sl us h1 h2 h3 h4 h5 h6 h7 h8 => exact .sl us h1 h2 h3 (fun _ hk => by cases hk) h5 h6 h7 h8
theorem prel_nil (S : Addr → Option Value) (sz : Nat) (cap : Option Nat) (hc : ∀ k, cap = some k → 0 = k) : PRel S (.sl sz [] cap) (.slice none 0 0) :=
  .sl (fun _ _ => undef) rfl (Nat.le_refl _) (by simp [maxLen]) hc (by simp) (fun _ => ⟨rfl, rfl⟩) (fun _ _ _ _ _ h => by cases h) (fun _ _ _ _ h => by cases h)
theorem mapM_get [GTab] {α β : Type} {f : α → Option β} : ∀ {l : List α} {r : List β}, l.mapM f = some r → r.length = l.length ∧ ∀ (i : Nat) (x : α) (y : β), l[i]? = some x → r[i]? = some y → f x = some y
  | [], r, h => by simp at h; subst h; exact ⟨rfl, fun i x y hx => by simp at hx⟩
  | a :: l, r, h => by
    simp only [List.mapM_cons, Option.bind_eq_bind, Option.pure_def] at h
    obtain ⟨b, hb, h⟩ := Option.bind_eq_some_iff.1 h
    obtain ⟨bs, hbs, h⟩ := Option.bind_eq_some_iff.1 h
    cases h
    obtain ⟨h1, h2⟩ := mapM_get hbs
    refine ⟨by simp [h1], fun i x y hx hy => ?_⟩
    cases i with
    | zero => cases hx; cases hy; exact hb
    | succ i => exact h2 i x y hx hy

def RwOk (h : AH) (x : AV) : Prop := ∀ id, x = .rw id → h.o id ≠ none → id < h.n
theorem RwOk.of_lt [GTab] {x : AV} (hl : Lt h.n x) : RwOk h x := fun id e _ => by subst e; exact hl.rw_inv
theorem RwOk.h0 (x : AV) : RwOk h0 x := fun id e ho => absurd rfl ho
theorem HRel.h0 [GTab] (hh : HRel E h w) : HRel E h0 w := ⟨hh.cells, fun id x hid => absurd hid (Nat.not_lt_zero _), fun g hg => absurd hg List.not_mem_nil, fun i j b hi => absurd hi (Nat.not_lt_zero _), fun i b hi => absurd hi (Nat.not_lt_zero _)⟩
/-- An element's reader that is right. -/
def DecOk (E : Env) (t : Ty) (dec : List AV → Option (El t)) : Prop := ∀ l y, dec l = some y → Reads E l (enc t y)
theorem asSl_ok [GTab] {t : Ty} {dec : List AV → Option (El t)} (hh : HRel E h w) (hd : DecOk E t dec) {x : AV} {l : List (El t)} (hlt : RwOk h x) (hx : asSl h t dec x = some l) : Read1 E x (.tl t l none) := by
  intro v hv
  unfold asSl at hx
  split at hx
  · split at hx
    · rename_i e; subst e; cases hx; exact .pure (.tl (sl_nocap hv.tl_inv))
    · cases hx
  · split at hx
    · rename_i t' l' ho
      split at hx
      · rename_i e
        subst e
        cases hx
        obtain ⟨base, cap, tip, size, rfl, h1⟩ := hv.rw_inv
        obtain ⟨base', cap', h2, h3, _⟩ := hh.row _ _ _ (hlt _ rfl (by rw [ho]; simp)) ho
        rw [h1] at h2
        cases h2
        exact .pure (.tl h3)
      · cases hx
    · cases hx
  · cases hx
    obtain rfl := hv.p_inv
    exact .pure (.tl (prel_nil _ _ _ (fun _ hk => by cases hk)))
  · split at hx
    · rename_i size els cap hs
      subst hs
      obtain ⟨m1, m2⟩ := mapM_get hx
      refine .pure (.tl (sl_nocap (sl_of_rels hv.sl_inv (by simp [m1]) (fun e he => ?_) (fun i e e' he he' j y y' u hy hy' hp => ?_))))
      · obtain ⟨z, _, rfl⟩ := List.mem_map.1 he
        exact enc_length _ _
      · rw [List.getElem?_map] at he'
        obtain ⟨z, hz, rfl⟩ := Option.map_eq_some_iff.1 he'
        have hr := hd e z (m2 i e z he hz)
        -- one cell is read as the others are: all cells are told by themselves
        have he2 : e.length = (enc t z).length := by
          cases hv.sl_inv with
          | sl us h1 h2 h3 h4 h5 h6 h7 h8 => rw [h5 e (List.mem_of_getElem? he), enc_length]
        cases hv.sl_inv with
        | sl us h1 h2 h3 h4 h5 h6 h7 h8 =>
          have hall : Rels E e ((List.range e.length).map fun k => if k = j then u else us i k) := by
            refine rels_of_prels (by simp) fun k q v' hq hv' => ?_
            rw [List.getElem?_map] at hv'
            obtain ⟨k', hk', rfl⟩ := Option.map_eq_some_iff.1 hv'
            have := (List.getElem?_eq_some_iff.1 hk').2
            simp at this
            subst this
            split
            · rename_i hkj; subst hkj; rw [hy] at hq; cases hq; exact hp
            · exact h8 i _ e q he hq
          have h9 := hr _ hall
          have hj : j < e.length := (List.getElem?_eq_some_iff.1 hy).1
          have h10 := h9.2 j y' u hy' (by simp [hj])
          exact prel_of_isP h10 (enc_isP t z y' (List.mem_of_getElem? hy'))
    · cases hx
  · cases hx

theorem decIns_ok [GTab] {l r : List AV} {y : Ins} (hd : decIns l = some (y, r)) : Reads E l (enc .ins y ++ r) := by
  unfold decIns at hd
  obtain ⟨⟨v0, r0⟩, g0, hd⟩ := Option.bind_eq_some_iff.1 hd
  obtain ⟨⟨v1, r1⟩, g1, hd⟩ := Option.bind_eq_some_iff.1 hd
  obtain ⟨⟨v2, r2⟩, g2, hd⟩ := Option.bind_eq_some_iff.1 hd
  obtain ⟨⟨v3, r3⟩, g3, hd⟩ := Option.bind_eq_some_iff.1 hd
  obtain ⟨⟨v4, r4⟩, g4, hd⟩ := Option.bind_eq_some_iff.1 hd
  obtain ⟨x0, h0, e0⟩ := p1_inv g0
  obtain ⟨x1, h1, e1⟩ := p1_inv g1
  obtain ⟨x2, h2, e2⟩ := p1_inv g2
  obtain ⟨x3, h3, e3⟩ := p1_inv g3
  obtain ⟨x4, h4, e4⟩ := p1_inv g4
  simp only at h0 h1 h2 h3 h4
  cases hd
  subst h4
  subst h3
  subst h2
  subst h1
  subst h0
  exact Reads.cons (.of_eq (asInt_ok e0)) (.cons (.of_eq (asInt_ok e1)) (.cons (.of_eq (asInt_ok e2)) (.cons (.of_eq (asInt_ok e3)) (.cons (.of_eq (asInt_ok e4)) (.refl _)))))

theorem decTok_ok [GTab] {l r : List AV} {y : Tok} (hd : decTok l = some (y, r)) : Reads E l (enc .tok y ++ r) := by
  unfold decTok at hd
  obtain ⟨⟨v0, r0⟩, g0, hd⟩ := Option.bind_eq_some_iff.1 hd
  obtain ⟨⟨v1, r1⟩, g1, hd⟩ := Option.bind_eq_some_iff.1 hd
  obtain ⟨⟨v2, r2⟩, g2, hd⟩ := Option.bind_eq_some_iff.1 hd
  obtain ⟨⟨v3, r3⟩, g3, hd⟩ := Option.bind_eq_some_iff.1 hd
  obtain ⟨⟨v4, r4⟩, g4, hd⟩ := Option.bind_eq_some_iff.1 hd
  obtain ⟨⟨v5, r5⟩, g5, hd⟩ := Option.bind_eq_some_iff.1 hd
  obtain ⟨x0, h0, e0⟩ := p1_inv g0
  obtain ⟨x1, h1, e1⟩ := p1_inv g1
  obtain ⟨x2, h2, e2⟩ := p1_inv g2
  obtain ⟨x3, h3, e3⟩ := p1_inv g3
  obtain ⟨x4, h4, e4⟩ := p1_inv g4
  obtain ⟨x5, h5, e5⟩ := p1_inv g5
  simp only at h0 h1 h2 h3 h4 h5
  cases hd
  subst h5
  subst h4
  subst h3
  subst h2
  subst h1
  subst h0
  exact Reads.cons (.of_eq (asInt_ok e0)) (.cons (.of_eq (asInt_ok e1)) (.cons (.of_eq (asInt_ok e2)) (.cons (.of_eq (asStr_ok e3)) (.cons (.of_eq (asInt_ok e4)) (.cons (.of_eq (asInt_ok e5)) (.refl _))))))

theorem decNod_ok [GTab] {l r : List AV} {y : Nod} (hd : decNod l = some (y, r)) : Reads E l (enc .nod y ++ r) := by
  unfold decNod at hd
  obtain ⟨⟨v0, r0⟩, g0, hd⟩ := Option.bind_eq_some_iff.1 hd
  obtain ⟨⟨v1, r1⟩, g1, hd⟩ := Option.bind_eq_some_iff.1 hd
  obtain ⟨⟨v2, r2⟩, g2, hd⟩ := Option.bind_eq_some_iff.1 hd
  obtain ⟨⟨v3, r3⟩, g3, hd⟩ := Option.bind_eq_some_iff.1 hd
  obtain ⟨⟨v4, r4⟩, g4, hd⟩ := Option.bind_eq_some_iff.1 hd
  obtain ⟨x0, h0, e0⟩ := p1_inv g0
  obtain ⟨x1, h1, e1⟩ := p1_inv g1
  obtain ⟨x2, h2, e2⟩ := p1_inv g2
  obtain ⟨x3, h3, e3⟩ := p1_inv g3
  obtain ⟨x4, h4, e4⟩ := p1_inv g4
  simp only at h0 h1 h2 h3 h4
  cases hd
  subst h4
  subst h3
  subst h2
  subst h1
  subst h0
  exact Reads.cons (.of_eq (asInt_ok e0)) (.cons (.of_eq (asInt_ok e1)) (.cons (.of_eq (asInt_ok e2)) (.cons (.of_eq (asInt_ok e3)) (.cons (.of_eq (asStr_ok e4)) (.refl _)))))

theorem decLab_ok [GTab] {l r : List AV} {y : Lab} (hd : decLab l = some (y, r)) : Reads E l (enc .lab y ++ r) := by
  unfold decLab at hd
  obtain ⟨⟨v0, r0⟩, g0, hd⟩ := Option.bind_eq_some_iff.1 hd
  obtain ⟨⟨v1, r1⟩, g1, hd⟩ := Option.bind_eq_some_iff.1 hd
  obtain ⟨⟨v2, r2⟩, g2, hd⟩ := Option.bind_eq_some_iff.1 hd
  obtain ⟨x0, h0, e0⟩ := p1_inv g0
  obtain ⟨x1, h1, e1⟩ := p1_inv g1
  obtain ⟨x2, h2, e2⟩ := p1_inv g2
  simp only at h0 h1 h2
  cases hd
  subst h2
  subst h1
  subst h0
  exact Reads.cons (.of_eq (asStr_ok e0)) (.cons (.of_eq (asInt_ok e1)) (.cons (.of_eq (asInt_ok e2)) (.refl _)))

theorem decSym_ok [GTab] {l r : List AV} {y : Sym} (hd : decSym l = some (y, r)) : Reads E l (enc .sym y ++ r) := by
  unfold decSym at hd
  obtain ⟨⟨v0, r0⟩, g0, hd⟩ := Option.bind_eq_some_iff.1 hd
  obtain ⟨⟨v1, r1⟩, g1, hd⟩ := Option.bind_eq_some_iff.1 hd
  obtain ⟨⟨v2, r2⟩, g2, hd⟩ := Option.bind_eq_some_iff.1 hd
  obtain ⟨x0, h0, e0⟩ := p1_inv g0
  obtain ⟨x1, h1, e1⟩ := p1_inv g1
  obtain ⟨x2, h2, e2⟩ := p1_inv g2
  simp only at h0 h1 h2
  cases hd
  subst h2
  subst h1
  subst h0
  exact Reads.cons (.of_eq (asStr_ok e0)) (.cons (.of_eq (asInt_ok e1)) (.cons (.of_eq (asInt_ok e2)) (.refl _)))

theorem decOpt_ok [GTab] {l r : List AV} {y : Opt} (hd : decOpt l = some (y, r)) : Reads E l (enc .opt y ++ r) := by
  unfold decOpt at hd
  obtain ⟨⟨v0, r0⟩, g0, hd⟩ := Option.bind_eq_some_iff.1 hd
  obtain ⟨⟨v1, r1⟩, g1, hd⟩ := Option.bind_eq_some_iff.1 hd
  obtain ⟨x0, h0, e0⟩ := p1_inv g0
  obtain ⟨x1, h1, e1⟩ := p1_inv g1
  simp only at h0 h1
  cases hd
  subst h1
  subst h0
  exact Reads.cons (.of_eq (asBool?_inv e0)) (.cons (.of_eq (asBool?_inv e1)) (.refl _))

theorem decOpn_ok [GTab] (hh : HRel E h w) {l r : List AV} {y : Opn} (hl : ∀ x ∈ l, RwOk h x) (hd : decOpn h l = some (y, r)) : Reads E l (enc .opn y ++ r) := by
  unfold decOpn at hd
  obtain ⟨⟨v0, r0⟩, g0, hd⟩ := Option.bind_eq_some_iff.1 hd
  obtain ⟨⟨v1, r1⟩, g1, hd⟩ := Option.bind_eq_some_iff.1 hd
  obtain ⟨⟨v2, r2⟩, g2, hd⟩ := Option.bind_eq_some_iff.1 hd
  obtain ⟨⟨v3, r3⟩, g3, hd⟩ := Option.bind_eq_some_iff.1 hd
  obtain ⟨⟨v4, r4⟩, g4, hd⟩ := Option.bind_eq_some_iff.1 hd
  obtain ⟨⟨v5, r5⟩, g5, hd⟩ := Option.bind_eq_some_iff.1 hd
  obtain ⟨x0, h0, e0⟩ := p1_inv g0
  obtain ⟨x1, h1, e1⟩ := p1_inv g1
  obtain ⟨x2, h2, e2⟩ := p1_inv g2
  obtain ⟨x3, h3, e3⟩ := p1_inv g3
  obtain ⟨x4, h4, e4⟩ := p1_inv g4
  obtain ⟨x5, h5, e5⟩ := p1_inv g5
  simp only at h0 h1 h2 h3 h4 h5
  cases hd
  subst h5
  subst h4
  subst h3
  subst h2
  subst h1
  subst h0
  exact Reads.cons (.of_eq (asInt_ok e0)) (.cons (.of_eq (asInt_ok e1)) (.cons (.of_eq (asInt_ok e2)) (.cons (.of_eq (asInt_ok e3)) (.cons (asSl_ok hh (fun l y hy => by simpa using decNod_ok (full_inv hy)) (hl _ (by simp)) e4) (.cons (.of_eq (asStr_ok e5)) (.refl _))))))

theorem decStm_ok [GTab] (hh : HRel E h w) {l r : List AV} {y : Stm} (hl : ∀ x ∈ l, RwOk h x) (hd : decStm h l = some (y, r)) : Reads E l (enc .stm y ++ r) := by
  unfold decStm at hd
  obtain ⟨⟨v0, r0⟩, g0, hd⟩ := Option.bind_eq_some_iff.1 hd
  obtain ⟨⟨v1, r1⟩, g1, hd⟩ := Option.bind_eq_some_iff.1 hd
  obtain ⟨⟨v2, r2⟩, g2, hd⟩ := Option.bind_eq_some_iff.1 hd
  obtain ⟨⟨v3, r3⟩, g3, hd⟩ := Option.bind_eq_some_iff.1 hd
  obtain ⟨⟨v4, r4⟩, g4, hd⟩ := Option.bind_eq_some_iff.1 hd
  obtain ⟨x0, h0, e0⟩ := p1_inv g0
  obtain ⟨x1, h1, e1⟩ := p1_inv g1
  obtain ⟨x2, h2, e2⟩ := p1_inv g2
  obtain ⟨x3, h3, e3⟩ := p1_inv g3
  obtain ⟨x4, h4, e4⟩ := p1_inv g4
  simp only at h0 h1 h2 h3 h4
  cases hd
  subst h4
  subst h3
  subst h2
  subst h1
  subst h0
  exact Reads.cons (asSl_ok hh (fun l y hy => by simpa using decLab_ok (full_inv hy)) (hl _ (by simp)) e0) (.cons (.of_eq (asStr_ok e1)) (.cons (.of_eq (asInt_ok e2)) (.cons (.of_eq (asInt_ok e3)) (.cons (asSl_ok hh (fun l y hy => by simpa using decOpn_ok hh.h0 (fun _ _ => .h0 _) (full_inv hy)) (hl _ (by simp)) e4) (.refl _)))))

theorem decItm_ok [GTab] (hh : HRel E h w) {l r : List AV} {y : Itm} (hl : ∀ x ∈ l, RwOk h x) (hd : decItm h l = some (y, r)) : Reads E l (enc .itm y ++ r) := by
  unfold decItm at hd
  obtain ⟨⟨v0, r0⟩, g0, hd⟩ := Option.bind_eq_some_iff.1 hd
  obtain ⟨⟨v1, r1⟩, g1, hd⟩ := Option.bind_eq_some_iff.1 hd
  obtain ⟨⟨v2, r2⟩, g2, hd⟩ := Option.bind_eq_some_iff.1 hd
  obtain ⟨⟨v3, r3⟩, g3, hd⟩ := Option.bind_eq_some_iff.1 hd
  obtain ⟨⟨v4, r4⟩, g4, hd⟩ := Option.bind_eq_some_iff.1 hd
  obtain ⟨⟨v5, r5⟩, g5, hd⟩ := Option.bind_eq_some_iff.1 hd
  obtain ⟨⟨v6, r6⟩, g6, hd⟩ := Option.bind_eq_some_iff.1 hd
  obtain ⟨⟨v7, r7⟩, g7, hd⟩ := Option.bind_eq_some_iff.1 hd
  obtain ⟨⟨v8, r8⟩, g8, hd⟩ := Option.bind_eq_some_iff.1 hd
  obtain ⟨⟨v9, r9⟩, g9, hd⟩ := Option.bind_eq_some_iff.1 hd
  obtain ⟨⟨v10, r10⟩, g10, hd⟩ := Option.bind_eq_some_iff.1 hd
  obtain ⟨⟨v11, r11⟩, g11, hd⟩ := Option.bind_eq_some_iff.1 hd
  obtain ⟨⟨v12, r12⟩, g12, hd⟩ := Option.bind_eq_some_iff.1 hd
  obtain ⟨⟨v13, r13⟩, g13, hd⟩ := Option.bind_eq_some_iff.1 hd
  obtain ⟨⟨v14, r14⟩, g14, hd⟩ := Option.bind_eq_some_iff.1 hd
  obtain ⟨x0, h0, e0⟩ := p1_inv g0
  obtain ⟨x1, h1, e1⟩ := p1_inv g1
  obtain ⟨x2, h2, e2⟩ := p1_inv g2
  obtain ⟨x3, h3, e3⟩ := p1_inv g3
  obtain ⟨x4, h4, e4⟩ := p1_inv g4
  obtain ⟨x5, h5, e5⟩ := p1_inv g5
  obtain ⟨x6, h6, e6⟩ := p1_inv g6
  obtain ⟨x7, h7, e7⟩ := p1_inv g7
  obtain ⟨x8, h8, e8⟩ := p1_inv g8
  obtain ⟨x9, h9, e9⟩ := p1_inv g9
  obtain ⟨x10, h10, e10⟩ := p1_inv g10
  obtain ⟨x11, h11, e11⟩ := p1_inv g11
  obtain ⟨x12, h12, e12⟩ := p1_inv g12
  obtain ⟨x13, h13, e13⟩ := p1_inv g13
  obtain ⟨x14, h14, e14⟩ := p1_inv g14
  simp only at h0 h1 h2 h3 h4 h5 h6 h7 h8 h9 h10 h11 h12 h13 h14
  cases hd
  subst h14
  subst h13
  subst h12
  subst h11
  subst h10
  subst h9
  subst h8
  subst h7
  subst h6
  subst h5
  subst h4
  subst h3
  subst h2
  subst h1
  subst h0
  exact Reads.cons (.of_eq (asInt_ok e0)) (.cons (.of_eq (asInt_ok e1)) (.cons (.of_eq (asInt_ok e2)) (.cons (.of_eq (asStr_ok e3)) (.cons (.of_eq (asInt_ok e4)) (.cons (.of_eq (asInt_ok e5)) (.cons (.of_eq (asInt_ok e6)) (.cons (.of_eq (asInt_ok e7)) (.cons (.of_eq (asInt_ok e8)) (.cons (.of_eq (asStr_ok e9)) (.cons (.of_eq (asInt_ok e10)) (.cons (asSl_ok hh (fun l y hy => by simpa using decNod_ok (full_inv hy)) (hl _ (by simp)) e11) (.cons (.of_eq (asInt_ok e12)) (.cons (.of_eq (asBool?_inv e13)) (.cons (.of_eq (asBool?_inv e14)) (.refl _)))))))))))))))

theorem decIns_sub [GTab] {l r : List AV} {y : Ins} (hd : decIns l = some (y, r)) : ∀ x ∈ r, x ∈ l := by
  unfold decIns at hd
  obtain ⟨⟨v0, r0⟩, g0, hd⟩ := Option.bind_eq_some_iff.1 hd
  obtain ⟨⟨v1, r1⟩, g1, hd⟩ := Option.bind_eq_some_iff.1 hd
  obtain ⟨⟨v2, r2⟩, g2, hd⟩ := Option.bind_eq_some_iff.1 hd
  obtain ⟨⟨v3, r3⟩, g3, hd⟩ := Option.bind_eq_some_iff.1 hd
  obtain ⟨⟨v4, r4⟩, g4, hd⟩ := Option.bind_eq_some_iff.1 hd
  obtain ⟨x0, h0, e0⟩ := p1_inv g0
  obtain ⟨x1, h1, e1⟩ := p1_inv g1
  obtain ⟨x2, h2, e2⟩ := p1_inv g2
  obtain ⟨x3, h3, e3⟩ := p1_inv g3
  obtain ⟨x4, h4, e4⟩ := p1_inv g4
  simp only at h0 h1 h2 h3 h4
  cases hd
  subst h4
  subst h3
  subst h2
  subst h1
  subst h0
  intro x hx; simp [hx]
theorem decTok_sub [GTab] {l r : List AV} {y : Tok} (hd : decTok l = some (y, r)) : ∀ x ∈ r, x ∈ l := by
  unfold decTok at hd
  obtain ⟨⟨v0, r0⟩, g0, hd⟩ := Option.bind_eq_some_iff.1 hd
  obtain ⟨⟨v1, r1⟩, g1, hd⟩ := Option.bind_eq_some_iff.1 hd
  obtain ⟨⟨v2, r2⟩, g2, hd⟩ := Option.bind_eq_some_iff.1 hd
  obtain ⟨⟨v3, r3⟩, g3, hd⟩ := Option.bind_eq_some_iff.1 hd
  obtain ⟨⟨v4, r4⟩, g4, hd⟩ := Option.bind_eq_some_iff.1 hd
  obtain ⟨⟨v5, r5⟩, g5, hd⟩ := Option.bind_eq_some_iff.1 hd
  obtain ⟨x0, h0, e0⟩ := p1_inv g0
  obtain ⟨x1, h1, e1⟩ := p1_inv g1
  obtain ⟨x2, h2, e2⟩ := p1_inv g2
  obtain ⟨x3, h3, e3⟩ := p1_inv g3
  obtain ⟨x4, h4, e4⟩ := p1_inv g4
  obtain ⟨x5, h5, e5⟩ := p1_inv g5
  simp only at h0 h1 h2 h3 h4 h5
  cases hd
  subst h5
  subst h4
  subst h3
  subst h2
  subst h1
  subst h0
  intro x hx; simp [hx]
theorem decNod_sub [GTab] {l r : List AV} {y : Nod} (hd : decNod l = some (y, r)) : ∀ x ∈ r, x ∈ l := by
  unfold decNod at hd
  obtain ⟨⟨v0, r0⟩, g0, hd⟩ := Option.bind_eq_some_iff.1 hd
  obtain ⟨⟨v1, r1⟩, g1, hd⟩ := Option.bind_eq_some_iff.1 hd
  obtain ⟨⟨v2, r2⟩, g2, hd⟩ := Option.bind_eq_some_iff.1 hd
  obtain ⟨⟨v3, r3⟩, g3, hd⟩ := Option.bind_eq_some_iff.1 hd
  obtain ⟨⟨v4, r4⟩, g4, hd⟩ := Option.bind_eq_some_iff.1 hd
  obtain ⟨x0, h0, e0⟩ := p1_inv g0
  obtain ⟨x1, h1, e1⟩ := p1_inv g1
  obtain ⟨x2, h2, e2⟩ := p1_inv g2
  obtain ⟨x3, h3, e3⟩ := p1_inv g3
  obtain ⟨x4, h4, e4⟩ := p1_inv g4
  simp only at h0 h1 h2 h3 h4
  cases hd
  subst h4
  subst h3
  subst h2
  subst h1
  subst h0
  intro x hx; simp [hx]
theorem decLab_sub [GTab] {l r : List AV} {y : Lab} (hd : decLab l = some (y, r)) : ∀ x ∈ r, x ∈ l := by
  unfold decLab at hd
  obtain ⟨⟨v0, r0⟩, g0, hd⟩ := Option.bind_eq_some_iff.1 hd
  obtain ⟨⟨v1, r1⟩, g1, hd⟩ := Option.bind_eq_some_iff.1 hd
  obtain ⟨⟨v2, r2⟩, g2, hd⟩ := Option.bind_eq_some_iff.1 hd
  obtain ⟨x0, h0, e0⟩ := p1_inv g0
  obtain ⟨x1, h1, e1⟩ := p1_inv g1
  obtain ⟨x2, h2, e2⟩ := p1_inv g2
  simp only at h0 h1 h2
  cases hd
  subst h2
  subst h1
  subst h0
  intro x hx; simp [hx]
theorem decSym_sub [GTab] {l r : List AV} {y : Sym} (hd : decSym l = some (y, r)) : ∀ x ∈ r, x ∈ l := by
  unfold decSym at hd
  obtain ⟨⟨v0, r0⟩, g0, hd⟩ := Option.bind_eq_some_iff.1 hd
  obtain ⟨⟨v1, r1⟩, g1, hd⟩ := Option.bind_eq_some_iff.1 hd
  obtain ⟨⟨v2, r2⟩, g2, hd⟩ := Option.bind_eq_some_iff.1 hd
  obtain ⟨x0, h0, e0⟩ := p1_inv g0
  obtain ⟨x1, h1, e1⟩ := p1_inv g1
  obtain ⟨x2, h2, e2⟩ := p1_inv g2
  simp only at h0 h1 h2
  cases hd
  subst h2
  subst h1
  subst h0
  intro x hx; simp [hx]
theorem decOpt_sub [GTab] {l r : List AV} {y : Opt} (hd : decOpt l = some (y, r)) : ∀ x ∈ r, x ∈ l := by
  unfold decOpt at hd
  obtain ⟨⟨v0, r0⟩, g0, hd⟩ := Option.bind_eq_some_iff.1 hd
  obtain ⟨⟨v1, r1⟩, g1, hd⟩ := Option.bind_eq_some_iff.1 hd
  obtain ⟨x0, h0, e0⟩ := p1_inv g0
  obtain ⟨x1, h1, e1⟩ := p1_inv g1
  simp only at h0 h1
  cases hd
  subst h1
  subst h0
  intro x hx; simp [hx]
theorem decOpn_sub [GTab] {h : AH} {l r : List AV} {y : Opn} (hd : decOpn h l = some (y, r)) : ∀ x ∈ r, x ∈ l := by
  unfold decOpn at hd
  obtain ⟨⟨v0, r0⟩, g0, hd⟩ := Option.bind_eq_some_iff.1 hd
  obtain ⟨⟨v1, r1⟩, g1, hd⟩ := Option.bind_eq_some_iff.1 hd
  obtain ⟨⟨v2, r2⟩, g2, hd⟩ := Option.bind_eq_some_iff.1 hd
  obtain ⟨⟨v3, r3⟩, g3, hd⟩ := Option.bind_eq_some_iff.1 hd
  obtain ⟨⟨v4, r4⟩, g4, hd⟩ := Option.bind_eq_some_iff.1 hd
  obtain ⟨⟨v5, r5⟩, g5, hd⟩ := Option.bind_eq_some_iff.1 hd
  obtain ⟨x0, h0, e0⟩ := p1_inv g0
  obtain ⟨x1, h1, e1⟩ := p1_inv g1
  obtain ⟨x2, h2, e2⟩ := p1_inv g2
  obtain ⟨x3, h3, e3⟩ := p1_inv g3
  obtain ⟨x4, h4, e4⟩ := p1_inv g4
  obtain ⟨x5, h5, e5⟩ := p1_inv g5
  simp only at h0 h1 h2 h3 h4 h5
  cases hd
  subst h5
  subst h4
  subst h3
  subst h2
  subst h1
  subst h0
  intro x hx; simp [hx]
theorem decStm_sub [GTab] {h : AH} {l r : List AV} {y : Stm} (hd : decStm h l = some (y, r)) : ∀ x ∈ r, x ∈ l := by
  unfold decStm at hd
  obtain ⟨⟨v0, r0⟩, g0, hd⟩ := Option.bind_eq_some_iff.1 hd
  obtain ⟨⟨v1, r1⟩, g1, hd⟩ := Option.bind_eq_some_iff.1 hd
  obtain ⟨⟨v2, r2⟩, g2, hd⟩ := Option.bind_eq_some_iff.1 hd
  obtain ⟨⟨v3, r3⟩, g3, hd⟩ := Option.bind_eq_some_iff.1 hd
  obtain ⟨⟨v4, r4⟩, g4, hd⟩ := Option.bind_eq_some_iff.1 hd
  obtain ⟨x0, h0, e0⟩ := p1_inv g0
  obtain ⟨x1, h1, e1⟩ := p1_inv g1
  obtain ⟨x2, h2, e2⟩ := p1_inv g2
  obtain ⟨x3, h3, e3⟩ := p1_inv g3
  obtain ⟨x4, h4, e4⟩ := p1_inv g4
  simp only at h0 h1 h2 h3 h4
  cases hd
  subst h4
  subst h3
  subst h2
  subst h1
  subst h0
  intro x hx; simp [hx]
theorem decItm_sub [GTab] {h : AH} {l r : List AV} {y : Itm} (hd : decItm h l = some (y, r)) : ∀ x ∈ r, x ∈ l := by
  unfold decItm at hd
  obtain ⟨⟨v0, r0⟩, g0, hd⟩ := Option.bind_eq_some_iff.1 hd
  obtain ⟨⟨v1, r1⟩, g1, hd⟩ := Option.bind_eq_some_iff.1 hd
  obtain ⟨⟨v2, r2⟩, g2, hd⟩ := Option.bind_eq_some_iff.1 hd
  obtain ⟨⟨v3, r3⟩, g3, hd⟩ := Option.bind_eq_some_iff.1 hd
  obtain ⟨⟨v4, r4⟩, g4, hd⟩ := Option.bind_eq_some_iff.1 hd
  obtain ⟨⟨v5, r5⟩, g5, hd⟩ := Option.bind_eq_some_iff.1 hd
  obtain ⟨⟨v6, r6⟩, g6, hd⟩ := Option.bind_eq_some_iff.1 hd
  obtain ⟨⟨v7, r7⟩, g7, hd⟩ := Option.bind_eq_some_iff.1 hd
  obtain ⟨⟨v8, r8⟩, g8, hd⟩ := Option.bind_eq_some_iff.1 hd
  obtain ⟨⟨v9, r9⟩, g9, hd⟩ := Option.bind_eq_some_iff.1 hd
  obtain ⟨⟨v10, r10⟩, g10, hd⟩ := Option.bind_eq_some_iff.1 hd
  obtain ⟨⟨v11, r11⟩, g11, hd⟩ := Option.bind_eq_some_iff.1 hd
  obtain ⟨⟨v12, r12⟩, g12, hd⟩ := Option.bind_eq_some_iff.1 hd
  obtain ⟨⟨v13, r13⟩, g13, hd⟩ := Option.bind_eq_some_iff.1 hd
  obtain ⟨⟨v14, r14⟩, g14, hd⟩ := Option.bind_eq_some_iff.1 hd
  obtain ⟨x0, h0, e0⟩ := p1_inv g0
  obtain ⟨x1, h1, e1⟩ := p1_inv g1
  obtain ⟨x2, h2, e2⟩ := p1_inv g2
  obtain ⟨x3, h3, e3⟩ := p1_inv g3
  obtain ⟨x4, h4, e4⟩ := p1_inv g4
  obtain ⟨x5, h5, e5⟩ := p1_inv g5
  obtain ⟨x6, h6, e6⟩ := p1_inv g6
  obtain ⟨x7, h7, e7⟩ := p1_inv g7
  obtain ⟨x8, h8, e8⟩ := p1_inv g8
  obtain ⟨x9, h9, e9⟩ := p1_inv g9
  obtain ⟨x10, h10, e10⟩ := p1_inv g10
  obtain ⟨x11, h11, e11⟩ := p1_inv g11
  obtain ⟨x12, h12, e12⟩ := p1_inv g12
  obtain ⟨x13, h13, e13⟩ := p1_inv g13
  obtain ⟨x14, h14, e14⟩ := p1_inv g14
  simp only at h0 h1 h2 h3 h4 h5 h6 h7 h8 h9 h10 h11 h12 h13 h14
  cases hd
  subst h14
  subst h13
  subst h12
  subst h11
  subst h10
  subst h9
  subst h8
  subst h7
  subst h6
  subst h5
  subst h4
  subst h3
  subst h2
  subst h1
  subst h0
  intro x hx; simp [hx]
theorem decC_ok [GTab] : ∀ (t : Ty) {h : AH} (hh : HRel E h w) {l r : List AV} {y : El t} (hl : ∀ x ∈ l, RwOk h x) (hd : decC h t l = some (y, r)), Reads E l (enc t y ++ r) ∧ (∀ x ∈ r, x ∈ l)
  | .int k, h, hh, l, r, y, hl, hd => by
    obtain ⟨x, rfl, hx⟩ := p1_inv hd
    exact ⟨.cons (.of_eq (asInt_ok hx)) (.refl _), fun z hz => by simp [hz]⟩
  | .bool, h, hh, l, r, y, hl, hd => by
    obtain ⟨x, rfl, hx⟩ := p1_inv hd
    exact ⟨.cons (.of_eq (asBool?_inv hx)) (.refl _), fun z hz => by simp [hz]⟩
  | .str, h, hh, l, r, y, hl, hd => by
    obtain ⟨x, rfl, hx⟩ := p1_inv hd
    exact ⟨.cons (.of_eq (asStr_ok hx)) (.refl _), fun z hz => by simp [hz]⟩
  | .err tf tc, h, hh, l, r, y, hl, hd => by
    obtain ⟨x, rfl, hx⟩ := p1_inv hd
    exact ⟨.cons (.of_eq (asErr_ok hx)) (.refl _), fun z hz => by simp [hz]⟩
  | .flt tc, h, hh, l, r, y, hl, hd => by
    obtain ⟨x, rfl, hx⟩ := p1_inv hd
    exact ⟨.cons (.of_eq (asFlt_ok hx)) (.refl _), fun z hz => by simp [hz]⟩
  | .slice t, h, hh, l, r, y, hl, hd => by
    obtain ⟨x, rfl, hx⟩ := p1_inv hd
    exact ⟨.cons (asSl_ok hh (fun l y hy => by simpa using (decC_ok t hh.h0 (fun _ _ => .h0 _) (full_inv hy)).1) (hl _ (by simp)) hx) (.refl _), fun z hz => by simp [hz]⟩
  | .pair a b, h, hh, l, r, y, hl, hd => by
    obtain ⟨⟨y1, r1⟩, h1, hd⟩ := Option.bind_eq_some_iff.1 hd
    obtain ⟨⟨y2, r2⟩, h2, hd⟩ := Option.bind_eq_some_iff.1 hd
    cases hd
    obtain ⟨k1, m1⟩ := decC_ok a hh hl h1
    obtain ⟨k2, m2⟩ := decC_ok b hh (fun x hx => hl x (m1 x hx)) h2
    exact ⟨k1.append k2, fun z hz => m1 z (m2 z hz)⟩
  | .ins, h, hh, l, r, y, hl, hd => ⟨decIns_ok hd, decIns_sub hd⟩
  | .tok, h, hh, l, r, y, hl, hd => ⟨decTok_ok hd, decTok_sub hd⟩
  | .nod, h, hh, l, r, y, hl, hd => ⟨decNod_ok hd, decNod_sub hd⟩
  | .lab, h, hh, l, r, y, hl, hd => ⟨decLab_ok hd, decLab_sub hd⟩
  | .sym, h, hh, l, r, y, hl, hd => ⟨decSym_ok hd, decSym_sub hd⟩
  | .opt, h, hh, l, r, y, hl, hd => ⟨decOpt_ok hd, decOpt_sub hd⟩
  | .opn, h, hh, l, r, y, hl, hd => ⟨decOpn_ok hh hl hd, decOpn_sub hd⟩
  | .stm, h, hh, l, r, y, hl, hd => ⟨decStm_ok hh hl hd, decStm_sub hd⟩
  | .itm, h, hh, l, r, y, hl, hd => ⟨decItm_ok hh hl hd, decItm_sub hd⟩
theorem encV_rel [GTab] {t : Ty} {y : El t} {x : AV} (hd : match isAg t, x with
    | true, .agg l => Reads E l (enc t y)
    | false, x => Reads E [x] (enc t y)
    | _, _ => False) : Read1 E x (encV t y) := by
  intro v hv
  unfold encV
  have hlen := enc_length t y
  cases hA : isAg t with
  | true =>
    rw [hA] at hd
    cases x <;> first | (exact hd.elim) | skip
    obtain ⟨vs, rfl, hr⟩ := hv.agg_inv
    exact .agg (hd vs hr).1 (hd vs hr).2
  | false =>
    rw [hA] at hd
    have h1 := hd [v] (.cons hv (.nil E))
    have hn := h1.1
    cases he : enc t y with
    | nil => rw [he] at hn; simp at hn
    | cons c cs => rw [he] at h1; exact h1.head
theorem decV_ok [GTab] (hh : HRel E h w) {t : Ty} {x : AV} {y : El t} (hl : Lt h.n x) (hd : decV h t x = some y) : Read1 E x (encV t y) := by
  unfold decV at hd
  apply encV_rel
  split at hd
  · rename_i l hA
    simpa [hA] using (decC_ok t hh (fun z hz => by obtain ⟨q, hq⟩ := List.getElem?_of_mem hz; exact .of_lt (hl.agg_inv q z hq)) (full_inv hd)).1
  · rename_i hA
    simpa using (decC_ok t hh (fun z hz => by simp at hz; subst hz; exact .of_lt hl) (full_inv hd)).1
  · cases hd
theorem encV_isP [GTab] (t : Ty) (y : El t) (n : Nat) : Lt n (encV t y) := by
  have hp := enc_isP t y
  have lp : ∀ x, isP x = true → Lt n x := fun x hx => by
    cases x <;> first | exact .p _ | exact .sl _ _ _ | exact .ep _ | exact .ifc _ _ | exact .st _ | exact .tl _ _ _ | exact .junk | simp [isP] at hx
  unfold encV
  cases isAg t with
  | true => exact .agg fun i x hx => lp x (hp x (List.mem_of_getElem? hx))
  | false =>
    cases he : enc t y with
    | nil => exact .junk
    | cons c cs => exact lp c (hp c (by rw [he]; simp))
end
end Go.Up

/- Up, part h: what turns nothing, told onwards: a walk's own steps. -/
import Derived.Test.YtppobdnacmdgbaaDoorUg
set_option linter.unusedVariables false
set_option linter.unusedSimpArgs false
namespace Go.Up
open Go.RowKit

section
variable {R : Type}
/-- An error, case by case. -/
def Err.el (e : Err) (a : Option R) (f : Int → Option R) (g : Int → Int → Int → Option R) : Option R :=
  match e with
  | .nil => a
  | .code c => f c
  | .fault l c k => g l c k
def Flt.el (e : Flt) (a : Option R) (g : Int → Int → Int → Option R) : Option R :=
  match e with
  | .nil => a
  | .at l c k => g l c k
def splitC : (t : Ty) → El t → (List AV → Option R) → Option R
  | .err tf tc, e, K => Err.el e (K [encE tf tc .nil]) (fun c => K [encE tf tc (.code c)]) (fun l c k => K [encE tf tc (.fault l c k)])
  | .flt tc, e, K => Flt.el e (K [encF tc .nil]) (fun l c k => K [encF tc (.at l c k)])
  | t, y, K => K (enc t y)
theorem splitC_eq (t : Ty) (y : El t) (K : List AV → Option R) : splitC t y K = K (enc t y) := by
  cases t <;> first | rfl | (cases y <;> rfl)
def splitV (t : Ty) (y : El t) (K : AV → Option R) : Option R :=
  match isAg t with
  | true => K (.agg (enc t y))
  | false => splitC t y fun cs => K (cs.headD .junk)
theorem splitV_eq [GTab] (t : Ty) (y : El t) (K : AV → Option R) : splitV t y K = K (encV t y) := by
  unfold splitV encV
  cases isAg t
  · simp only [splitC_eq]
  · rfl
/-- The i-th one, told onwards. -/
def bindI {α : Type} (o : Option α) (K : α → Option R) : Option R := o.bind K
theorem bindI_inv {α : Type} {o : Option α} {K : α → Option R} {r : R} (h : bindI o K = some r) : ∃ x, o = some x ∧ K x = some r := Option.bind_eq_some_iff.1 h
theorem cond_inv {b : Bool} {x : Option R} {r : R} (h : (bif b then x else none) = some r) : b = true ∧ x = some r := by
  cases b
  · cases h
  · exact ⟨rfl, h⟩
end

/-- What an operation that turns nothing yields. -/
def YO [GTab] (P : Program) (h : AH) (e : Operand → AV) (op : Op) (y : AV) : Prop :=
  ∀ (nn : Nat) (E : Env) (w : World) (vals : Operand → Value), HRel E ⟨h.o, nn, h.g⟩ w → (⟨h.o, nn, h.g⟩ : AH).ok → Ops E nn e vals op.operands → ∀ o : Oper, o.op = op → ∃ v, (execOp vals o).run P w = .ok (.value v) w ∧ Rel E y v ∧ Lt nn y

/-! ### Elements -/
/-- May an element be had there? -/
def inB (n : Int) (len : Nat) : Bool := match n with
  | .ofNat k => Nat.blt k len
  | .negSucc _ => false
theorem inB_ok {n : Int} {len : Nat} (h : inB n len = true) : 0 ≤ n ∧ n < len := by
  cases n with
  | ofNat k =>
    have : k < len := by simpa [inB, Nat.blt, Nat.succ_le_iff] using h
    exact ⟨Int.natCast_nonneg k, by simpa using this⟩
  | negSucc k => cases h
def teB (P : Program) (t : TypeId) (n : Nat) : Bool := match te P t with
  | some e => e.2 == n
  | none => false
theorem teB_ok {P : Program} {t : TypeId} {n : Nat} (h : teB P t n = true) : ∃ e, te P t = some (e, n) := by
  unfold teB at h
  split at h
  · rename_i e he
    obtain ⟨a, b⟩ := e
    simp only [beq_iff_eq] at h
    subst h
    exact ⟨a, he⟩
  · cases h

section
variable {P : Program} {h : AH} {e : Operand → AV} {R : Type}

def idxK (P : Program) (h : AH) (t : TypeId) (x i : AV) (K : AV → Option R) : Option R :=
  match i with
  | .p (.int _ n) =>
    match x with
    | .tl τ l _ => if teB P t (sz τ) then bindI (geti l n) fun y => splitC τ y fun cs => K (.ep cs) else none
    | .rw id =>
      match h.o id with
      | some (.trow τ l) => if teB P t (sz τ) then bindI (geti l n) fun y => splitC τ y fun cs => K (.ep cs) else none
      | _ => none
    | .ms id off len =>
      match h.o id with
      | some (.tarr τ _) => if teB P t (sz τ) then (bif inB n len then K (.tp id (off + n.toNat) 0) else none) else none
      | _ => none
    | .mw id =>
      match h.o id with
      | some (.tarr τ l) => if teB P t (sz τ) then (bif inB n l.length then K (.tp id n.toNat 0) else none) else none
      | _ => none
    | .bp id off =>
      match ta P t with
      | some e => bif inB n e.1 then K (.bp id (off + n.toNat * e.2.2)) else none
      | none => none
    | .ep cs =>
      match ta P t with
      | some e => bif inB n e.1 then K (.ep (cs.drop (n.toNat * e.2.2))) else none
      | none => none
    | .sl size els _ => if teB P t size then (bif inB n els.length then K (.ep (els.getD n.toNat [])) else none) else none
    | _ => none
  | _ => none
theorem idxK_ok [GTab] {t : TypeId} {xo io : Operand} {K : AV → Option R} {r : R} (hk : idxK P h t (e xo) (e io) K = some r) : ∃ y, YO P h e (.indexAddr t xo io) y ∧ K y = some r := by
  -- a list of elements
  have lst : ∀ (τ : Ty) (l : List (El τ)) (k : IntKind) (n : Int), e io = .p (.int k n) → teB P t (sz τ) = true →
      (∀ (nn : Nat) (E : Env) (w : World) (v : Value), HRel E ⟨h.o, nn, h.g⟩ w → Rel E (e xo) v → Lt nn (e xo) → PRel E.S (.sl (sz τ) (l.map (enc τ)) none) v) →
      bindI (geti l n) (fun y => splitC τ y fun cs => K (.ep cs)) = some r → ∃ y, YO P h e (.indexAddr t xo io) y ∧ K y = some r := by
    intro τ l k n hi ht hp hk
    obtain ⟨y, hy, hk⟩ := bindI_inv hk
    rw [splitC_eq] at hk
    refine ⟨_, ?_, hk⟩
    obtain ⟨g1, g2, g3⟩ := geti_some hy
    obtain ⟨et, het⟩ := teB_ok ht
    intro nn E w vals hh hb hO o ho
    have hx := hp nn E w _ hh (hO.rel xo (by simp [Op.operands])) (hO.lt xo (by simp [Op.operands]))
    have hiv := hO.rel io (by simp [Op.operands])
    rw [hi] at hiv
    have hn : n < ((l.map (enc τ)).length : Nat) := by rw [List.length_map]; omega
    obtain ⟨u, hu, hpu⟩ := index_sl (P := P) (w := w) (k := k) hx het g1 hn
    have e1 : (l.map (enc τ)).getD n.toNat [] = enc τ y := by simp [List.getD, g3]
    rw [e1] at hpu
    refine ⟨u, ?_, .pure hpu, .ep _⟩
    unfold execOp
    rw [ho]
    dsimp only
    rw [hiv.p_inv]
    simp only [Sem.run_bind]
    rw [hu]; rfl
  unfold idxK at hk
  split at hk
  case h_2 => cases hk
  rename_i k n hi
  split at hk
  · rename_i τ l cap hx
    split at hk
    · rename_i ht
      exact lst τ l k n hi ht (fun nn E w v hh hv _ => by rw [hx] at hv; exact sl_nocap hv.tl_inv) hk
    · cases hk
  · rename_i id hx
    split at hk
    · rename_i τ l ho
      split at hk
      · rename_i ht
        refine lst τ l k n hi ht (fun nn E w v hh hv hl => ?_) hk
        rw [hx] at hv hl
        obtain ⟨base, cap, tip, size, rfl, h1⟩ := hv.rw_inv
        obtain ⟨base', cap', h2, h3, _⟩ := hh.row _ _ _ hl.rw_inv ho
        rw [h1] at h2
        cases h2
        exact h3
      · cases hk
    · cases hk
  · rename_i id off len hx
    split at hk
    · rename_i τ l ho
      split at hk
      · rename_i ht
        obtain ⟨hb, hk⟩ := cond_inv hk
        obtain ⟨g1, g2⟩ := inB_ok hb
        obtain ⟨et, het⟩ := teB_ok ht
        refine ⟨_, ?_, hk⟩
        intro nn E w vals hh hok hO o hop
        have hxv := hO.rel xo (by simp [Op.operands])
        have hxl := hO.lt xo (by simp [Op.operands])
        have hiv := hO.rel io (by simp [Op.operands])
        rw [hi] at hiv
        rw [hx] at hxv hxl
        obtain ⟨b, cap, size, ln, a, c, hv, h1, h2, h3, h4, h7⟩ := hxv.ms_inv
        obtain ⟨b', cap', k1, _⟩ := hh.arr _ _ _ hxl.ms_inv ho
        rw [h1] at k1
        cases k1
        obtain ⟨r1, r2, r3⟩ := te_run het w
        refine ⟨.pointer (some ⟨b, (off + n.toNat) * sz τ + 0, none⟩), ?_, .tp h1, .tp hxl.ms_inv⟩
        have ha := h7 (by omega)
        unfold execOp
        rw [hop]
        dsimp only
        rw [hiv.p_inv, hv, ha]
        have hc : (n < (len : Int)) := g2
        simp [Instr.indexAt, asIntOf, r1, g1, hc, r2, addr_add_lit, Nat.add_mul]
      · cases hk
    · cases hk
  · rename_i id hx
    split at hk
    · rename_i τ l ho
      split at hk
      · rename_i ht
        obtain ⟨hb, hk⟩ := cond_inv hk
        obtain ⟨g1, g2⟩ := inB_ok hb
        obtain ⟨et, het⟩ := teB_ok ht
        refine ⟨_, ?_, hk⟩
        intro nn E w vals hh hok hO o hop
        have hxv := hO.rel xo (by simp [Op.operands])
        have hxl := hO.lt xo (by simp [Op.operands])
        have hiv := hO.rel io (by simp [Op.operands])
        rw [hi] at hiv
        rw [hx] at hxv hxl
        obtain ⟨b, cap, size, len, a, c, hv, h1, h2, h3, h4, h7⟩ := hxv.mw_inv
        obtain ⟨b', cap', k1, _⟩ := hh.arr _ _ _ hxl.mw_inv ho
        rw [h1] at k1
        cases k1
        obtain ⟨r1, r2, r3⟩ := te_run het w
        refine ⟨.pointer (some ⟨b, n.toNat * sz τ + 0, none⟩), ?_, .tp h1, .tp hxl.mw_inv⟩
        have ha := h7 (by omega)
        unfold execOp
        rw [hop]
        dsimp only
        rw [hiv.p_inv, hv, ha]
        have hc : (n < (l.length : Int)) := g2
        simp [Instr.indexAt, asIntOf, r1, g1, hc, r2, addr_add_lit, Nat.add_mul]
      · cases hk
    · cases hk
  · rename_i id off hx
    split at hk
    · rename_i q hq
      obtain ⟨hb, hk⟩ := cond_inv hk
      refine ⟨_, ?_, hk⟩
      intro nn E w vals hh hok hO o hop
      exact ypure_sound hh hok (hop ▸ hO) (by rw [hop]; simp only [ypure, aindex, hi, hx, hq, Option.map_some]) (inB_ok hb)
    · cases hk
  · rename_i cs hx
    split at hk
    · rename_i q hq
      obtain ⟨hb, hk⟩ := cond_inv hk
      refine ⟨_, ?_, hk⟩
      intro nn E w vals hh hok hO o hop
      exact ypure_sound hh hok (hop ▸ hO) (by rw [hop]; simp only [ypure, aindex, hi, hx, hq, Option.map_some]) (inB_ok hb)
    · cases hk
  · rename_i size els cap hx
    split at hk
    · rename_i ht
      obtain ⟨hb, hk⟩ := cond_inv hk
      obtain ⟨et, het⟩ := teB_ok ht
      refine ⟨_, ?_, hk⟩
      intro nn E w vals hh hok hO o hop
      exact ypure_sound (ok := size = size ∧ 0 ≤ n ∧ n < els.length) hh hok (hop ▸ hO) (by rw [hop]; simp only [ypure, aindex, hi, hx, het, Option.map_some]) ⟨rfl, inB_ok hb⟩
    · cases hk
  · cases hk

/-- Cells that are numbers of one kind. -/
def allInts (k : IntKind) : List AV → Option (List Int)
  | [] => some []
  | x :: l =>
    match asInt k x with
    | some n => (match allInts k l with
      | some m => some (n :: m)
      | none => none)
    | none => none
def intsOf (agg : Bool) (sz : Nat) (l : List AV) : Option (IntKind × List Int) :=
  match agg, sz, l with
  | false, 1, .p (.int k n) :: l => (match allInts k l with
    | some m => some (k, n :: m)
    | none => none)
  | _, _, _ => none
theorem allInts_ok {k : IntKind} : ∀ {l : List AV} {m : List Int}, allInts k l = some m → l = m.map fun n => .p (.int k n)
  | [], _, h => by cases h; rfl
  | x :: l, m, h => by
    simp only [allInts] at h
    split at h
    · rename_i n hn
      split at h
      · rename_i m' hm
        cases h
        rw [asInt_ok hn, allInts_ok hm]
        rfl
      · cases h
    · cases h
theorem intsOf_ok {agg : Bool} {sz : Nat} {l : List AV} {z : IntKind × List Int} (h : intsOf agg sz l = some z) : agg = false ∧ sz = 1 ∧ l = z.2.map fun n => .p (.int z.1 n) := by
  unfold intsOf at h
  split at h
  · split at h
    · rename_i m hm
      cases h
      exact ⟨rfl, rfl, by rw [allInts_ok hm]; rfl⟩
    · cases h
  · cases h
/-- A text's byte. -/
def idvK (P : Program) (t : TypeId) (x i : AV) (K : AV → Option R) : Option R :=
  match x, i with
  | .st s, .p (.int _ n) =>
    match P.underlying t with
    | some .string => bindI (geti s n) fun c => K (.p (.int .u8 c.toNat))
    | _ => none
  | .agg l, .p (.int _ n) =>
    match ta P t with
    | some q =>
      match tk P q.2.1 with
      | some b =>
        match intsOf b.1 q.2.2 l with
        | some z => bif Nat.beq q.1 l.length then bindI (geti z.2 n) fun m => K (.p (.int z.1 m)) else none
        | none => bif inB n q.1 then (match cellsOf (l.drop (n.toNat * q.2.2)) b.1 b.2 with
          | some y => K y
          | none => none) else none
      | none => none
    | none => none
  | _, _ => none
theorem idvK_ok [GTab] {t : TypeId} {xo io : Operand} {K : AV → Option R} {r : R} (hk : idvK P t (e xo) (e io) K = some r) : ∃ y, YO P h e (.index t xo io) y ∧ K y = some r := by
  unfold idvK at hk
  split at hk
  · rename_i s k n hx hi
    split at hk
    · rename_i hu
      obtain ⟨c, hc, hk⟩ := bindI_inv hk
      obtain ⟨g1, g2, g3⟩ := geti_some hc
      refine ⟨_, ?_, hk⟩
      intro nn E w vals hh hok hO o hop
      exact ypure_sound (ok := 0 ≤ n ∧ n < s.length) hh hok (hop ▸ hO) (by rw [hop]; simp only [ypure, aindexv, hi, hx, hu]; rw [show s.getD n.toNat 0 = c by simp [List.getD, g3]]) ⟨g1, by omega⟩
    · cases hk
  · rename_i l k n hx hi
    split at hk
    · rename_i q hq
      split at hk
      · rename_i b hb
        split at hk
        · rename_i z hz
          obtain ⟨hlen, hk⟩ := cond_inv hk
          obtain ⟨m, hm, hk⟩ := bindI_inv hk
          obtain ⟨g1, g2, g3⟩ := geti_some hm
          obtain ⟨z1, z2, z3⟩ := intsOf_ok hz
          have hlen := Nat.eq_of_beq_eq_true hlen
          have hl : l.length = z.2.length := by rw [z3, List.length_map]
          refine ⟨_, ?_, hk⟩
          intro nn E w vals hh hok hO o hop
          have hy : cellsOf (l.drop (n.toNat * q.2.2)) b.1 b.2 = some (.p (.int z.1 m)) := by
            rw [z1, z2, Nat.mul_one]
            simp only [cellsOf, Bool.false_eq_true, if_false, List.head?_drop]
            rw [z3, List.getElem?_map, g3]
            rfl
          exact ypure_sound (ok := 0 ≤ n ∧ n < q.1) hh hok (hop ▸ hO) (by rw [hop]; obtain ⟨q1, q2, q3⟩ := q; simp only at hb hy; simp only [ypure, aindexv, hi, hx, hq, hb, hy, Option.map_some]) ⟨g1, by omega⟩
        obtain ⟨hc, hk⟩ := cond_inv hk
        split at hk
        · rename_i y hy
          refine ⟨_, ?_, hk⟩
          intro nn E w vals hh hok hO o hop
          exact ypure_sound hh hok (hop ▸ hO) (by rw [hop]; obtain ⟨q1, q2, q3⟩ := q; simp only at hb hy; simp only [ypure, aindexv, hi, hx, hq, hb, hy, Option.map_some]) (inB_ok hc)
        · cases hk
      · cases hk
    · cases hk
  · cases hk

/-- What lies somewhere. -/
def loadK (P : Program) (h : AH) (t : TypeId) (x : AV) (K : AV → Option R) : Option R :=
  match tk P t with
  | some b =>
    match x with
    | .tp id i off =>
      match h.o id with
      | some (.tarr τ l) => bindI l[i]? fun y => splitC τ y fun cs => (match cellsOf (cs.drop off) b.1 b.2 with
        | some v => K v
        | none => none)
      | _ => none
    | .bp id off =>
      match boxOf (h.o id) with
      | some l =>
        match intsOf b.1 1 l with
        | some z => bindI z.2[off]? fun m => K (.p (.int z.1 m))
        | none => match cellsOf (l.drop off) b.1 b.2 with
          | some v => K v
          | none => none
      | none => none
    | x => match aloadc h b.1 b.2 x with
      | some v => K v
      | none => none
  | none => none
theorem loadK_ok [GTab] {t : TypeId} {xo : Operand} {K : AV → Option R} {r : R} (hk : loadK P h t (e xo) K = some r) : ∃ y, YO P h e (.load t xo) y ∧ K y = some r := by
  unfold loadK at hk
  split at hk
  case h_2 => cases hk
  rename_i b hb
  have key : ∀ y, aloadc h b.1 b.2 (e xo) = some y → YO P h e (.load t xo) y := fun y hy => by
    intro nn E w vals hh hok hO o hop
    have hy' : aloadc ⟨h.o, nn, h.g⟩ b.1 b.2 (e xo) = some y := hy
    exact ypure_sound (ok := True) hh hok (hop ▸ hO) (by rw [hop]; simp only [ypure, aload, hb, Option.bind_some, hy', Option.map_some]) trivial
  split at hk
  · rename_i id i off hx
    split at hk
    · rename_i τ l ho
      obtain ⟨y, hy, hk⟩ := bindI_inv hk
      rw [splitC_eq] at hk
      split at hk
      · rename_i v hv
        exact ⟨v, key v (by simp only [hx, aloadc, ho, hy, Option.bind_some, hv]), hk⟩
      · cases hk
    · cases hk
  · rename_i id off hx
    split at hk
    case h_2 => cases hk
    rename_i l hl
    split at hk
    · rename_i z hz
      obtain ⟨m, hm, hk⟩ := bindI_inv hk
      obtain ⟨z1, z2, z3⟩ := intsOf_ok hz
      refine ⟨_, key _ ?_, hk⟩
      simp only [hx, aloadc, hl, Option.bind_some, cellsOf, z1, Bool.false_eq_true, if_false, List.head?_drop]
      rw [z3, List.getElem?_map, hm]
      rfl
    · split at hk
      · rename_i v hv
        exact ⟨v, key v (by simp only [hx, aloadc, hl, Option.bind_some, hv]), hk⟩
      · cases hk
  · split at hk
    · rename_i v hv
      exact ⟨v, key v hv, hk⟩
    · cases hk
end
end Go.Up

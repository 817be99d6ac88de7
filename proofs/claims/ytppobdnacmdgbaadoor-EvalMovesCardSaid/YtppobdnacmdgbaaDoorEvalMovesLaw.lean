/- The law EvalMoves, on plain data. -/
import Derived.Test.YtppobdnacmdgbaaDoorEvalEarlyLaw
set_option linter.unusedVariables false
set_option linter.unusedSimpArgs false
namespace Go.Proofs.YtppobdnacmdgbaaDoor
open Go Go.Up
set_option maxRecDepth 100000
def mv (d : Int) (p : Int × Bool) : Int × Bool := (bif p.2 then (p.1 + d) % 4294967296 else p.1, p.2)
def mvS (d : Int) (s : Sym) : Sym := bif isP s then ⟨s.name, (s.value + d) % 4294967296, s.cls⟩ else s
theorem mvS_name (d : Int) (s : Sym) : (mvS d s).name = s.name := by unfold mvS; cases isP s <;> rfl
theorem mvS_cls (d : Int) (s : Sym) : (mvS d s).cls = s.cls := by unfold mvS; cases isP s <;> rfl
theorem mvS_isP (d : Int) (s : Sym) : isP (mvS d s) = isP s := by unfold isP; rw [mvS_cls]
theorem mvS_val (d : Int) (s : Sym) : ((mvS d s).value, isP (mvS d s)) = mv d (s.value, isP s) := by
  rw [mvS_isP]
  unfold mv mvS
  cases isP s <;> rfl
/-- Both are refused, or one is the other, moved. -/
def RelM (d : Int) : Sum Int (Int × Bool) → Sum Int (Int × Bool) → Prop
  | .inl _, .inl _ => True
  | .inr p, .inr q => q = mv d p
  | _, _ => False
def RelS (d : Int) : Sum Int (List (Int × Bool)) → Sum Int (List (Int × Bool)) → Prop
  | .inl _, .inl _ => True
  | .inr p, .inr q => q = p.map (mv d)
  | _, _ => False
theorem oneP_mv {k : Int} (h6 : k ≠ 6) (h7 : k ≠ 7) (h8 : k ≠ 8) (a : Int × Bool) (place place' d : Int) : RelM d (oneP k a place false) (oneP k (mv d a) place' false) := by
  obtain ⟨v, p⟩ := a
  unfold oneP
  rw [if_neg h6, if_neg h7, if_neg h8, if_neg h6, if_neg h7, if_neg h8]
  cases p with
  | true => trivial
  | false =>
    simp only [mv, cond_false]
    split <;> rfl
theorem twoP_mv {k : Int} (a b : Int × Bool) (d : Int) : RelM d (twoP k a b) (twoP k (mv d a) (mv d b)) := by
  obtain ⟨v, p⟩ := a
  obtain ⟨w, q⟩ := b
  unfold twoP
  by_cases h9 : k = 9
  · rw [if_pos h9, if_pos h9]
    cases p <;> cases q <;> simp only [mv, cond_true, cond_false, Bool.and_self, Bool.and_true, Bool.and_false, Bool.or_self, Bool.or_true, Bool.or_false, RelM, Prod.mk.injEq, and_true] <;> omega
  rw [if_neg h9, if_neg h9]
  by_cases h10 : k = 10
  · rw [if_pos h10, if_pos h10]
    cases p <;> cases q <;> simp only [mv, cond_true, cond_false, Bool.not_true, Bool.not_false, Bool.and_self, Bool.and_true, Bool.and_false, RelM, Prod.mk.injEq, and_true] <;> omega
  rw [if_neg h10, if_neg h10]
  cases p <;> cases q <;> simp only [mv, cond_true, cond_false, Bool.or_self, Bool.or_true, Bool.or_false] <;> first | trivial | skip
  cases fixP k v w with
  | inl c => trivial
  | inr x => rfl
theorem stp_mv {syms : List Sym} {n : Nod} (h6 : n.kind ≠ 6) (h7 : n.kind ≠ 7) (h8 : n.kind ≠ 8) (place d : Int) (st : List (Int × Bool)) :
    RelS d (stp syms place false n st) (stp (syms.map (mvS d)) ((place + d) % 4294967296) false n (st.map (mv d))) := by
  have gd : ∀ i, (st.map (mv d)).getD i (0, false) = mv d (st.getD i (0, false)) := fun i => by
    rw [List.getD_eq_getElem?_getD, List.getD_eq_getElem?_getD, List.getElem?_map]
    cases st[i]? <;> rfl
  unfold stp
  by_cases k1 : n.kind = 1
  · rw [if_pos k1, if_pos k1]
    simp only [RelS, List.map_append, List.map_cons, List.map_nil]
    rfl
  rw [if_neg k1, if_neg k1]
  by_cases k2 : n.kind = 2
  · rw [if_pos k2, if_pos k2]
    have hf : (syms.map (mvS d)).find? (fun s => decide (s.name = n.name)) = (syms.find? (fun s => decide (s.name = n.name))).map (mvS d) := by
      rw [List.find?_map]
      congr 1
      have : ((fun s : Sym => decide (s.name = n.name)) ∘ mvS d) = fun s => decide (s.name = n.name) := by
        funext s
        simp only [Function.comp, mvS_name]
      rw [this]
    rw [hf]
    cases syms.find? (fun s => decide (s.name = n.name)) with
    | none => trivial
    | some s =>
      simp only [Option.map_some, Bool.false_and, cond_false, RelS, mvS_val, List.map_append, List.map_cons, List.map_nil]
  rw [if_neg k2, if_neg k2]
  by_cases k3 : n.kind = 3
  · rw [if_pos k3, if_pos k3]
    simp only [cond_false, RelS, List.map_append, List.map_cons, List.map_nil]
    rfl
  rw [if_neg k3, if_neg k3, List.length_map]
  split
  · rw [gd]
    have := oneP_mv h6 h7 h8 (st.getD (st.length - 1) (0, false)) place ((place + d) % 4294967296) d
    cases h1 : oneP n.kind (st.getD (st.length - 1) (0, false)) place false with
    | inl c =>
      cases h2 : oneP n.kind (mv d (st.getD (st.length - 1) (0, false))) ((place + d) % 4294967296) false with
      | inl c' => trivial
      | inr p => rw [h1, h2] at this; exact this.elim
    | inr p =>
      cases h2 : oneP n.kind (mv d (st.getD (st.length - 1) (0, false))) ((place + d) % 4294967296) false with
      | inl c' => rw [h1, h2] at this; exact this.elim
      | inr q =>
        rw [h1, h2] at this
        have this : q = mv d p := this
        subst this
        simp only [RelS, List.map_append, List.map_take, List.map_cons, List.map_nil]
  split
  · rw [gd, gd]
    have := twoP_mv (k := n.kind) (st.getD (st.length - 2) (0, false)) (st.getD (st.length - 1) (0, false)) d
    cases h1 : twoP n.kind (st.getD (st.length - 2) (0, false)) (st.getD (st.length - 1) (0, false)) with
    | inl c =>
      cases h2 : twoP n.kind (mv d (st.getD (st.length - 2) (0, false))) (mv d (st.getD (st.length - 1) (0, false))) with
      | inl c' => trivial
      | inr p => rw [h1, h2] at this; exact this.elim
    | inr p =>
      cases h2 : twoP n.kind (mv d (st.getD (st.length - 2) (0, false))) (mv d (st.getD (st.length - 1) (0, false))) with
      | inl c' => rw [h1, h2] at this; exact this.elim
      | inr q =>
        rw [h1, h2] at this
        have this : q = mv d p := this
        subst this
        simp only [RelS, List.map_append, List.map_take, List.map_cons, List.map_nil]
  · trivial
theorem evL_mv {syms : List Sym} (place d : Int) : ∀ (l : List Nod) (st : List (Int × Bool)), (∀ n ∈ l, n.kind ≠ 6 ∧ n.kind ≠ 7 ∧ n.kind ≠ 8) →
    (match evL syms place false l st, evL (syms.map (mvS d)) ((place + d) % 4294967296) false l (st.map (mv d)) with
    | .inl _, .inl _ => True
    | .inr s, .inr t => t = s.map (mv d)
    | _, _ => False)
  | [], st, _ => rfl
  | n :: l, st, h => by
    obtain ⟨h6, h7, h8⟩ := h n (List.mem_cons_self)
    have := stp_mv (syms := syms) h6 h7 h8 place d st
    unfold evL
    cases h1 : stp syms place false n st with
    | inl c =>
      cases h2 : stp (syms.map (mvS d)) ((place + d) % 4294967296) false n (st.map (mv d)) with
      | inl c' => trivial
      | inr p => rw [h1, h2] at this; exact this.elim
    | inr p =>
      cases h2 : stp (syms.map (mvS d)) ((place + d) % 4294967296) false n (st.map (mv d)) with
      | inl c' => rw [h1, h2] at this; exact this.elim
      | inr q =>
        rw [h1, h2] at this
        have this : q = p.map (mv d) := this
        subst this
        exact evL_mv place d l p fun n hn => h n (List.mem_cons_of_mem _ hn)
theorem valP_mv {syms : List Sym} (place d : Int) (l : List Nod) (h : ∀ n ∈ l, n.kind ≠ 6 ∧ n.kind ≠ 7 ∧ n.kind ≠ 8) :
    (match valP syms place false l, valP (syms.map (mvS d)) ((place + d) % 4294967296) false l with
    | .inl _, .inl _ => True
    | .inr p, .inr q => q = mv d p
    | _, _ => False) := by
  have := evL_mv (syms := syms) place d l [] h
  rw [List.map_nil] at this
  unfold valP
  cases h1 : evL syms place false l [] with
  | inl c =>
    cases h2 : evL (syms.map (mvS d)) ((place + d) % 4294967296) false l [] with
    | inl c' => trivial
    | inr p => rw [h1, h2] at this; exact this.elim
  | inr p =>
    cases h2 : evL (syms.map (mvS d)) ((place + d) % 4294967296) false l [] with
    | inl c' => rw [h1, h2] at this; exact this.elim
    | inr q =>
      rw [h1, h2] at this
      have this : q = p.map (mv d) := this
      subst this
      match p with
      | [] => trivial
      | [x] => rfl
      | x :: y :: z => trivial

/-! ### The law -/
theorem ask_loop (N : Nat) (syms : List Sym) (place d : Int) (l : List Nod) (hl : l.length ≤ 1000000) : ∀ (f i : Nat), i ≤ l.length → l.length < i + f →
    typecaselaw12_EvalMoves_L1 N f ((l, syms, place, d, (i : Int), ()), ()) = some (.ret ((true, ()), ())) ∨
      ((∀ n ∈ l.drop i, n.kind ≠ 6 ∧ n.kind ≠ 7 ∧ n.kind ≠ 8) ∧ typecaselaw12_EvalMoves_L1 N f ((l, syms, place, d, (i : Int), ()), ()) = some (.out ((l, syms, place, d, ()), ())))
  | 0, i, hi, hf => by omega
  | f + 1, i, hi, hf => by
    rw [typecaselaw12_EvalMoves_L1_succ]
    simp only [typecaselaw12_EvalMoves_L1s]
    by_cases hlt : i < l.length
    · have e1 : decide ((i : Int) < (l.length : Int)) = true := decide_eq_true (by omega)
      have g1 : geti l (i : Int) = some l[i] := by rw [geti_nat]; exact List.getElem?_eq_getElem hlt
      have hw : IntKind.i64.wrap ((i : Int) + 1) = ((i + 1 : Nat) : Int) := by rw [wi64n (by omega) (by omega)]; omega
      have hd : l.drop i = l[i] :: l.drop (i + 1) := List.drop_eq_getElem_cons hlt
      simp only [e1, cond_true, g1, bindI_some, hw, Bool.cond_decide]
      by_cases h6 : l[i].kind = 6
      · left; simp only [h6, if_pos, bindI_some, cond_true]
      by_cases h7 : l[i].kind = 7
      · left; simp only [h7, Int.reduceEq, if_neg, not_false_eq_true, decide_true, bindI_some, cond_true]
      by_cases h8 : l[i].kind = 8
      · left; simp only [h8, Int.reduceEq, if_neg, not_false_eq_true, decide_true, decide_false, bindI_some, cond_true, cond_false]
      simp only [if_neg h6, decide_eq_false h7, decide_eq_false h8, bindI_some, cond_false]
      rcases ask_loop N syms place d l hl f (i + 1) (by omega) (by omega) with h | ⟨h, h'⟩
      · exact .inl h
      · refine .inr ⟨fun n hn => ?_, h'⟩
        rw [hd] at hn
        rcases List.mem_cons.1 hn with rfl | hn
        · exact ⟨h6, h7, h8⟩
        · exact h n hn
    · have e1 : decide ((i : Int) < (l.length : Int)) = false := decide_eq_false (by omega)
      have hd : l.drop i = [] := List.drop_of_length_le (by omega)
      rw [hd]
      simp only [e1, cond_false]
      exact .inr ⟨(fun n hn => by cases hn), trivial⟩
theorem move_loop (N : Nat) (syms : List Sym) (place d : Int) (l : List Nod) (hl : syms.length ≤ 1000000) : ∀ (f i : Nat), i ≤ syms.length → syms.length < i + f →
    typecaselaw12_EvalMoves_L0 N f ((l, syms, place, d, (i : Int), ()), (syms.take i).map (mvS d), ()) = some (.out ((l, syms, place, d, ()), syms.map (mvS d), ()))
  | 0, i, hi, hf => by omega
  | f + 1, i, hi, hf => by
    rw [typecaselaw12_EvalMoves_L0_succ]
    simp only [typecaselaw12_EvalMoves_L0s]
    by_cases hlt : i < syms.length
    · have e1 : decide ((i : Int) < (syms.length : Int)) = true := decide_eq_true (by omega)
      have g1 : geti syms (i : Int) = some syms[i] := by rw [geti_nat]; exact List.getElem?_eq_getElem _
      have hw : IntKind.i64.wrap ((i : Int) + 1) = ((i + 1 : Nat) : Int) := by rw [wi64n (by omega) (by omega)]; omega
      have e2 : (syms.take (i + 1)).map (mvS d) = (syms.take i).map (mvS d) ++ [mvS d syms[i]] := by rw [List.take_succ_eq_append_getElem hlt, List.map_append]; rfl
      have hb : ((syms.take i).map (mvS d) ++ [mvS d syms[i]]).length.ble 4294967296 = true := Nat.ble_eq_true_of_le (by simp; omega)
      have ih := move_loop N syms place d l hl f (i + 1) (by omega) (by omega)
      rw [e2] at ih
      simp only [e1, cond_true, g1, bindI_some, hw, wu]
      cases hc : isP syms[i] with
      | true =>
        have dd : decide (syms[i].cls = 0) = false := by simpa [isP] using hc
        have e3 : (⟨syms[i].name, (syms[i].value + d) % 4294967296, syms[i].cls⟩ : Sym) = mvS d syms[i] := by unfold mvS; rw [hc]; rfl
        simp only [dd, Bool.not_false, cond_true, e3, hb]
        exact ih
      | false =>
        have dd : decide (syms[i].cls = 0) = true := by simpa [isP] using hc
        have e3 : mvS d syms[i] = syms[i] := by unfold mvS; rw [hc]; rfl
        rw [e3] at ih hb
        simp only [dd, Bool.not_true, cond_false, hb, cond_true]
        exact ih
    · have e1 : decide ((i : Int) < (syms.length : Int)) = false := decide_eq_false (by omega)
      have : syms.take i = syms := List.take_of_length_le (by omega)
      simp only [e1, cond_false, this]
theorem evalMoves_law (x : VD [(.slice .nod), (.slice .sym), (.int .u32), (.int .u32)]) (hx : Wfs [(.slice .nod), (.slice .sym), (.int .u32), (.int .u32)] x) : ∃ N, typecaselaw12_EvalMoves N x.1 x.2.1 x.2.2.1 x.2.2.2.1 = some (true, ()) := by
  obtain ⟨l, syms, place, d, u⟩ := x
  obtain ⟨hl, hs, hp, hd, _⟩ := hx
  refine ⟨1000, ?_⟩
  simp only [typecaselaw12_EvalMoves, awake12, bindI_some, Bool.not_true, cond_false]
  by_cases h1 : (300 : Int) < (l.length : Int)
  · simp only [decide_eq_true h1, cond_true, bindI_some]
  by_cases h2 : (100 : Int) < (syms.length : Int)
  · simp only [decide_eq_false h1, decide_eq_true h2, cond_true, cond_false, bindI_some]
  have hsy : ∀ x ∈ syms, U32 x.value := fun x hx => (hs.2 x hx).value.u32
  have hln : ∀ n ∈ l, U32 n.num := fun n hn => (hl.2 n hn).num.u32
  have hsm : ∀ x ∈ syms.map (mvS d), U32 x.value := fun x hx => by
    obtain ⟨s, hs, rfl⟩ := List.mem_map.1 hx
    unfold mvS
    cases isP s with
    | true => exact u32mod _
    | false => exact hsy s hs
  have e0 : (((0 : Nat) : Int)) = 0 := rfl
  simp only [decide_eq_false h1, decide_eq_false h2, cond_false, bindI_some]
  have ha := ask_loop 1000 syms place d l (by omega) 1000 0 (by omega) (by omega)
  have hm := move_loop 1000 syms place d l (by omega) 1000 0 (by omega) (by omega)
  rw [e0] at ha hm
  rw [List.take_zero, List.map_nil] at hm
  rw [List.drop_zero] at ha
  rcases ha with ha | ⟨hk, ha⟩
  · simp only [ha, bindX_ret]
  simp only [ha, hm, bindX_out, bindI_some, wu, syms_ok 1000 syms (by omega) (by omega), syms_ok 1000 (syms.map (mvS d)) (by rw [List.length_map]; omega) (by rw [List.length_map]; omega),
    prog_value 1000 syms (by omega) (by omega) hsy place (WfI.u32 hp) false l (by omega) (by omega) hln,
    prog_value 1000 (syms.map (mvS d)) (by rw [List.length_map]; omega) (by rw [List.length_map]; omega) hsm ((place + d) % 4294967296) (u32mod _) false l (by omega) (by omega) hln]
  have hv := valP_mv (syms := syms) place d l hk
  cases h3 : valP syms place false l with
  | inl f =>
    cases h4 : valP (syms.map (mvS d)) ((place + d) % 4294967296) false l with
    | inl g => rfl
    | inr q => rw [h3, h4] at hv; exact hv.elim
  | inr p =>
    cases h4 : valP (syms.map (mvS d)) ((place + d) % 4294967296) false l with
    | inl g => rw [h3, h4] at hv; exact hv.elim
    | inr q =>
      rw [h3, h4] at hv
      have hv : q = mv d p := hv
      subst hv
      obtain ⟨v, b⟩ := p
      cases b <;> simp [bindI_some, Err.el, cl, mv]
end Go.Proofs.YtppobdnacmdgbaaDoor

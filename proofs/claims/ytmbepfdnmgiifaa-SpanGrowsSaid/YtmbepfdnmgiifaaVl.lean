/- Vp, part l: regions that draw their order; code; contracts out of code. -/
import Derived.Test.YtmbepfdnmgiifaaVp
import Derived.Deep.LoopGhost
set_option linter.unusedVariables false
set_option linter.unusedSimpArgs false
namespace Go.Vp
open Go.RowKit

section
variable {P : Program} {E0 : Env} {n0 : Nat} {w0 : World} {nt : Nat}

/-- A state of which less is known. -/
structure Wk (n0 : Nat) (σ σ' : St) : Prop where
  t : ∀ i x, (i, x) ∈ σ'.t → look σ.t i = x ∨ w2 (look σ.t i) = x
  lo : n0 ≤ σ'.h.n
  hi : σ'.h.n ≤ σ.h.n
  o : ∀ id, id < σ'.h.n → σ'.h.o id = σ.h.o id
  lt : ∀ i x, (i, x) ∈ σ'.t → Lt σ'.h.n x
  ok : σ'.h.ok

theorem look_mem : ∀ (t : List (Nat × AV)) (i : Nat), look t i = .junk ∨ (i, look t i) ∈ t
  | [], _ => .inl rfl
  | (j, x) :: t, i => by
    simp only [look]
    split
    · rename_i h; subst h; exact .inr (by simp)
    · rcases look_mem t i with h | h
      · exact .inl h
      · exact .inr (by simp [h])

theorem SRel.weak {E : Env} {σ σ' : St} {a : Act} {w : World} (h : SRel E0 n0 w0 nt E σ a w) (k : Wk n0 σ σ') : SRel E0 n0 w0 nt E σ' a w :=
  { tm := fun i => by
      rcases look_mem σ'.t i with hj | hm
      · rw [hj]; exact .pure (.junk _)
      · rcases k.t i _ hm with he | he
        · rw [← he]; exact h.tm i
        · rw [← he]; exact rel_w2 (h.tm i)
    lt := fun i => by
      rcases look_mem σ'.t i with hj | hm
      · rw [hj]; exact .junk
      · exact k.lt i _ hm
    blt := k.ok
    sz := h.sz
    df := h.df
    hr := h.hr.cut k.hi k.o
    ex := h.ex
    kp := h.kp
    fr := fun id b hid hb => h.fr id b (Nat.lt_of_lt_of_le hid k.hi) hb
    nn := k.lo }

def seqQ (K : St → Prop) (Q : Exit → St → Prop) : Exit → St → Prop
  | .normal, σ => K σ
  | e, σ => Q e σ
def blockQ (id : Nat) (Q : Exit → St → Prop) : Exit → St → Prop
  | .exit i, σ => if i = id then Q .normal σ else Q (.exit i) σ
  | e, σ => Q e σ

/-- What an abstract state must be like for a code to end as Q says. -/
def awp (P : Program) (nt n0 : Nat) : Code → St → (Exit → St → Prop) → Prop
  | .skip, σ, Q => Q .normal σ
  | .label _, σ, Q => Q .normal σ
  | .region _ ops draw, σ, Q =>
    match draw with
    | false => aops P nt ops ops.toList σ (Q .normal)
    | true => P.follows .mixedOrders = true ∧ Region.lexB .any ops = true ∧ apure P nt ops ops.toList σ (Q .normal)
  | .seq x y, σ, Q => awp P nt n0 x σ (seqQ (fun σ' => awp P nt n0 y σ' Q) Q)
  | .cond c x y, σ, Q => oM (asBool? (ev σ c)) (fun b => (b = true → awp P nt n0 x σ Q) ∧ (b = false → awp P nt n0 y σ Q)) .mk
  | .block id x, σ, Q => awp P nt n0 x σ (blockQ id Q)
  | .loop x, σ, Q => ∃ (I : Nat → St → Prop), (∃ n σ1, Wk n0 σ σ1 ∧ I n σ1) ∧
      ∀ n σ1, I n σ1 → awp P nt n0 x σ1 (seqQ (fun σ2 => ∃ m σ3, m < n ∧ Wk n0 σ2 σ3 ∧ I m σ3) Q)
  | .exit id, σ, Q => Q (.exit id) σ
  | .ret, σ, Q => Q .ret σ
  | _, _, _ => False

/-- The same with what follows kept from the simplifier. -/
def W (P : Program) (nt n0 : Nat) (c : Code) (σ : St) (Q : Exit → St → Prop) (_ : Ph Q) : Prop := awp P nt n0 c σ Q
def Ops (P : Program) (nt : Nat) (ops : Array Oper) (l : List Oper) (σ : St) (K : St → Prop) (_ : Ph K) : Prop := aops P nt ops l σ K
def Pur (P : Program) (nt : Nat) (ops : Array Oper) (l : List Oper) (σ : St) (K : St → Prop) (_ : Ph K) : Prop := apure P nt ops l σ K
theorem awp_of_W {P : Program} {nt n0 : Nat} {c : Code} {σ : St} {Q : Exit → St → Prop} (h : W P nt n0 c σ Q .mk) : awp P nt n0 c σ Q := h
theorem W_region {P : Program} {nt n0 id : Nat} {ops : Array Oper} {σ : St} {Q : Exit → St → Prop} {ph : Ph Q} : W P nt n0 (.region id ops false) σ Q ph = Ops P nt ops ops.toList σ (fun σ' => Q .normal σ') .mk := propext ⟨fun h => h, fun h => h⟩
theorem W_draw {P : Program} {nt n0 id : Nat} {ops : Array Oper} {σ : St} {Q : Exit → St → Prop} {ph : Ph Q} : W P nt n0 (.region id ops true) σ Q ph = (P.follows .mixedOrders = true ∧ Region.lexB .any ops = true ∧ Pur P nt ops ops.toList σ (fun σ' => Q .normal σ') .mk) := propext ⟨fun h => h, fun h => h⟩
theorem W_seq {P : Program} {nt n0 : Nat} {x y : Code} {σ : St} {Q : Exit → St → Prop} {ph : Ph Q} : W P nt n0 (.seq x y) σ Q ph = W P nt n0 x σ (seqQ (fun σ' => W P nt n0 y σ' Q ph) Q) .mk := propext ⟨fun h => h, fun h => h⟩
theorem W_cond {P : Program} {nt n0 : Nat} {c : Operand} {x y : Code} {σ : St} {Q : Exit → St → Prop} {ph : Ph Q} : W P nt n0 (.cond c x y) σ Q ph = oM (asBool? (ev σ c)) (fun b => (b = true → W P nt n0 x σ Q ph) ∧ (b = false → W P nt n0 y σ Q ph)) .mk := propext ⟨fun h => h, fun h => h⟩
theorem W_block {P : Program} {nt n0 id : Nat} {x : Code} {σ : St} {Q : Exit → St → Prop} {ph : Ph Q} : W P nt n0 (.block id x) σ Q ph = W P nt n0 x σ (blockQ id Q) .mk := propext ⟨fun h => h, fun h => h⟩
theorem W_exit {P : Program} {nt n0 id : Nat} {σ : St} {Q : Exit → St → Prop} {ph : Ph Q} : W P nt n0 (.exit id) σ Q ph = Q (.exit id) σ := propext ⟨fun h => h, fun h => h⟩
theorem W_skip {P : Program} {nt n0 : Nat} {σ : St} {Q : Exit → St → Prop} {ph : Ph Q} : W P nt n0 .skip σ Q ph = Q .normal σ := propext ⟨fun h => h, fun h => h⟩
theorem W_ret {P : Program} {nt n0 : Nat} {σ : St} {Q : Exit → St → Prop} {ph : Ph Q} : W P nt n0 .ret σ Q ph = Q .ret σ := propext ⟨fun h => h, fun h => h⟩
theorem W_loop {P : Program} {nt n0 : Nat} {x : Code} {σ : St} {Q : Exit → St → Prop} {ph : Ph Q} (I : Nat → St → Prop) (h0 : ∃ n σ1, Wk n0 σ σ1 ∧ I n σ1)
    (h1 : ∀ n σ1, I n σ1 → W P nt n0 x σ1 (seqQ (fun σ2 => ∃ m σ3, m < n ∧ Wk n0 σ2 σ3 ∧ I m σ3) Q) .mk) : W P nt n0 (.loop x) σ Q ph := ⟨I, h0, h1⟩

/-- The concrete side. -/
def Lift (E0 : Env) (n0 : Nat) (w0 : World) (nt : Nat) (Q : Exit → St → Prop) : Exit → Act → World → Prop := fun e a w => ∃ E σ, SRel E0 n0 w0 nt E σ a w ∧ Q e σ

theorem awp_sound : ∀ (c : Code) (E : Env) (σ : St) (a : Act) (w : World) (Q : Exit → St → Prop), SRel E0 n0 w0 nt E σ a w → awp P nt n0 c σ Q → c.wp P (Lift E0 n0 w0 nt Q) a w
  | .skip, E, σ, a, w, Q, h, hk => wp_skip ⟨E, σ, h, hk⟩
  | .label _, E, σ, a, w, Q, h, hk => wp_label ⟨E, σ, h, hk⟩
  | .exit id, E, σ, a, w, Q, h, hk => wp_exit ⟨E, σ, h, hk⟩
  | .ret, E, σ, a, w, Q, h, hk => wp_ret ⟨E, σ, h, hk⟩
  | .region id ops draw, E, σ, a, w, Q, h, hk => by
    simp only [awp] at hk
    cases draw with
    | false =>
      simp only at hk
      exact wp_region_list (aops_sound (K := Q .normal) (fun E' σ' a' w' h' hk' => ⟨E', σ', h', hk'⟩) ops.toList E σ a w h hk)
    | true =>
      simp only at hk
      obtain ⟨h1, h2, hk⟩ := hk
      exact apure_any h1 h2 h hk (fun E' σ' a' w' h' hk' => ⟨E', σ', h', hk'⟩)
  | .seq x y, E, σ, a, w, Q, h, hk => by
    simp only [awp] at hk
    refine wp_seq (wp_mono (awp_sound x E σ a w _ h hk) fun e a' w' hq => ?_)
    obtain ⟨E', σ', h', hq⟩ := hq
    cases e with
    | normal => exact awp_sound y E' σ' a' w' Q h' hq
    | _ => exact ⟨E', σ', h', hq⟩
  | .cond c x y, E, σ, a, w, Q, h, hk => by
    simp only [awp] at hk
    obtain ⟨b, hc, hk⟩ := oM_inv hk
    have hr := h.ev c
    rw [asBool?_inv hc] at hr
    exact wp_cond_split hr.p_inv (fun hb => awp_sound x E σ a w Q h (hk.1 hb)) (fun hb => awp_sound y E σ a w Q h (hk.2 hb))
  | .block id x, E, σ, a, w, Q, h, hk => by
    simp only [awp] at hk
    refine wp_block (wp_mono (awp_sound x E σ a w _ h hk) fun e a' w' hq => ?_)
    obtain ⟨E', σ', h', hq⟩ := hq
    cases e with
    | exit i =>
      simp only [blockQ] at hq
      simp only [Exit.inBlock]
      split
      · rename_i hi; rw [if_pos hi] at hq; exact ⟨E', σ', h', hq⟩
      · rename_i hi; rw [if_neg hi] at hq; exact ⟨E', σ', h', hq⟩
    | _ => exact ⟨E', σ', h', hq⟩
  | .loop x, E, σ, a, w, Q, h, hk => by
    simp only [awp] at hk
    obtain ⟨I, ⟨n, σ1, hw, hI⟩, hround⟩ := hk
    refine wp_loop_ghost (fun n a w => ∃ E σ, SRel E0 n0 w0 nt E σ a w ∧ I n σ) n ⟨E, σ1, h.weak hw, hI⟩ ?_
    rintro n a w ⟨E, σ, h, hI⟩
    refine wp_mono (awp_sound x E σ a w _ h (hround n σ hI)) fun e a' w' hq => ?_
    obtain ⟨E', σ', h', hq⟩ := hq
    cases e with
    | normal =>
      obtain ⟨m, σ3, hlt, hw3, hI3⟩ := hq
      exact ⟨m, hlt, E', σ3, h'.weak hw3, hI3⟩
    | _ => exact ⟨E', σ', h', hq⟩
  | .rangeFunc .., E, σ, a, w, Q, h, hk => by simp only [awp] at hk
  | .scope _, E, σ, a, w, Q, h, hk => by simp only [awp] at hk
  | .goto _, E, σ, a, w, Q, h, hk => by simp only [awp] at hk
  | .refuse _, E, σ, a, w, Q, h, hk => by simp only [awp] at hk

/-- What a function hands back out of its temporaries. -/
def ares (P : Program) (σ : St) : ResultVar → Option AV
  | .tmp t => some (look σ.t t)
  | .cell a t => aload P σ.h t (look σ.t a)
def aresults (P : Program) (σ : St) : List ResultVar → Option (List AV)
  | [] => some []
  | r :: rs =>
    match ares P σ r, aresults P σ rs with
    | some x, some l => some (x :: l)
    | _, _ => none
def joined : List AV → AV
  | [x] => x
  | l => .tup l

def resv (tmps : Array Value) : ResultVar → Sem Value
  | .tmp t => pure (tmps.getD t undef)
  | .cell a t => do loadVar t (← asAddr (tmps.getD a undef))
theorem results_eq (fn : Func) (tmps : Array Value) : results fn tmps = (do let vs ← fn.results.mapM (resv tmps); pure (if h : vs.size = 1 then vs[0] else .tuple vs)) := rfl

theorem ares_sound {P : Program} {E0 : Env} {n0 : Nat} {w0 : World} {nt : Nat} {E : Env} {σ : St} {a : Act} {w : World} (h : SRel E0 n0 w0 nt E σ a w) {rv : ResultVar} {x : AV} (hx : ares P σ rv = some x) :
    ∃ v, (resv a.tmps rv).run P w = .ok v w ∧ Rel E x v ∧ Lt σ.h.n x := by
  cases rv with
  | tmp t =>
    simp only [ares, Option.some.injEq] at hx
    subst hx
    exact ⟨_, rfl, h.tm t, h.lt t⟩
  | cell ad t =>
    simp only [ares] at hx
    obtain ⟨v, hv, hr, hl⟩ := aload_sound (P := P) (w := w) h.hr (h.tm ad) (h.lt ad) h.blt hx
    refine ⟨v, ?_, hr, hl⟩
    simp only [Instr.loadAt, resv, Sem.run_bind] at hv ⊢
    generalize a.tmps.getD ad undef = q at hv ⊢
    cases q with
    | pointer o =>
      cases o with
      | none => simp [Instr.sureAddr] at hv
      | some ad => simpa [Instr.sureAddr, asAddr] using hv
    | _ => simp [Instr.sureAddr] at hv

theorem aresults_sound {P : Program} {E0 : Env} {n0 : Nat} {w0 : World} {nt : Nat} {E : Env} {σ : St} {a : Act} {w : World} (h : SRel E0 n0 w0 nt E σ a w) : ∀ (rs : List ResultVar) (l : List AV), aresults P σ rs = some l →
    ∃ vs, (rs.mapM (resv a.tmps)).run P w = .ok vs w ∧ Rels E l vs ∧ ∀ (i : Nat) (x : AV), l[i]? = some x → Lt σ.h.n x
  | [], l, hl => by
    simp only [aresults, Option.some.injEq] at hl
    subst hl
    exact ⟨[], by simp, .nil E, fun i x hx => by cases hx⟩
  | r :: rs, l, hl => by
    simp only [aresults] at hl
    split at hl
    · rename_i x l' hx hl'
      cases hl
      obtain ⟨v, hv, hr, hlt⟩ := ares_sound h hx
      obtain ⟨vs, hvs, hrs, hlts⟩ := aresults_sound h rs l' hl'
      refine ⟨v :: vs, ?_, .cons hr hrs, fun i y hy => ?_⟩
      · rw [List.mapM_cons, Sem.run_bind, hv]
        simp only [Result.andThen_ok, Sem.run_bind]
        rw [hvs]
        rfl
      · cases i with
        | zero => cases hy; exact hlt
        | succ i => exact hlts i y (by simpa using hy)
    · cases hl

theorem joined_sound {P : Program} {E0 : Env} {n0 : Nat} {w0 : World} {nt : Nat} {E : Env} {σ : St} {a : Act} {w : World} {fn : Func} {l : List AV} (h : SRel E0 n0 w0 nt E σ a w) (hl : aresults P σ fn.results.toList = some l) :
    ∃ v, (results fn a.tmps).run P w = .ok v w ∧ Rel E (joined l) v ∧ Lt σ.h.n (joined l) := by
  obtain ⟨vs, hvs, hrs, hlts⟩ := aresults_sound h _ l hl
  have hm : (fn.results.mapM (resv a.tmps)).run P w = .ok vs.toArray w := by
    rw [Array.mapM_eq_mapM_toList, Sem.run_map, hvs]
    rfl
  refine ⟨if h : vs.toArray.size = 1 then vs.toArray[0] else .tuple vs.toArray, ?_, ?_⟩
  · rw [results_eq, Sem.run_bind, hm]
    rfl
  · match l, hrs, hlts with
    | [x], hrs, hlts =>
      obtain ⟨v, us, rfl, h1, h2⟩ := hrs.cons_inv
      rw [h2.nil_inv]
      exact ⟨h1, hlts 0 x rfl⟩
    | [], hrs, hlts =>
      rw [hrs.nil_inv]
      exact ⟨.tup rfl (fun i x v hx => by cases hx), .tup hlts⟩
    | x :: y :: l, hrs, hlts =>
      have hne : ¬ vs.toArray.size = 1 := by have := hrs.1; simp at this ⊢; omega
      rw [dif_neg hne]
      exact ⟨.tup hrs.1 hrs.2, .tup hlts⟩

def args0 : Nat → List AV → List (Nat × AV)
  | _, [] => []
  | k, x :: l => (k, x) :: args0 (k + 1) l
theorem look_args0 : ∀ (l : List AV) (k i : Nat), look (args0 k l) i = if k ≤ i then (l[i - k]?).getD .junk else .junk
  | [], k, i => by simp [args0, look]
  | x :: l, k, i => by
    simp only [args0, look]
    by_cases h : k = i
    · subst h; simp
    · rw [if_neg h, look_args0 l (k + 1) i]
      by_cases h2 : k + 1 ≤ i
      · rw [if_pos h2, if_pos (by omega)]
        have : i - k = (i - (k + 1)) + 1 := by omega
        rw [this]; simp
      · rw [if_neg h2, if_neg (by omega)]

/-- How a body must end. -/
def retQ (P : Program) (fn : Func) (h : AH) (Q : AV → AH → Prop) : Exit → St → Prop
  | .normal, σ => ∃ l, aresults P σ fn.results.toList = some l ∧ ∃ r h', (r = joined l ∨ r = w3 (joined l)) ∧ h.n ≤ h'.n ∧ h'.n ≤ σ.h.n ∧ (∀ id, id < h'.n → h'.o id = σ.h.o id) ∧ Lt h'.n r ∧ h'.ok ∧ Q r h'
  | .ret, σ => ∃ l, aresults P σ fn.results.toList = some l ∧ ∃ r h', (r = joined l ∨ r = w3 (joined l)) ∧ h.n ≤ h'.n ∧ h'.n ≤ σ.h.n ∧ (∀ id, id < h'.n → h'.o id = σ.h.o id) ∧ Lt h'.n r ∧ h'.ok ∧ Q r h'
  | _, _ => False

theorem acall_of_awp {f : FuncId} {fn : Func} {c : Code} {h : AH} {args : List AV} {Q : AV → AH → Prop} (hf : P.funcs[f]? = some fn) (hb : fn.body = some c)
    (hcall : ∀ (vs : Array Value) (w : World), (callFunc f vs).run P w = .ok (.enter f vs) w) (hnt : args.length ≤ fn.ntmps)
    (hw : h.ok → W P fn.ntmps h.n c { t := args0 0 args, h := h } (retQ P fn h Q) .mk) : ACall P f h args Q := by
  refine ⟨hcall, fun E w vs hh hok hr hl => ?_⟩
  refine calls_of_wp hf hb ?_
  have hs : SRel E h.n w fn.ntmps E { t := args0 0 args, h := h } { tmps := vs.toArray ++ Array.replicate (fn.ntmps - vs.toArray.size) undef, defers := [] } w :=
    { tm := fun i => by
        simp only [look_args0, Nat.zero_le, if_true, Nat.sub_zero]
        cases hi : args[i]? with
        | none => exact .pure (.junk _)
        | some x =>
          obtain ⟨v, hv, hrel⟩ := hr.getElem hi
          have hlt : i < vs.length := (List.getElem?_eq_some_iff.1 hv).1
          have e : (vs.toArray ++ Array.replicate (fn.ntmps - vs.toArray.size) undef).getD i undef = v := by
            rw [Array.getD_eq_getD_getElem?, Array.getElem?_append_left (by simpa using hlt)]
            simp [hv]
          rw [e]
          exact hrel
      lt := fun i => by
        simp only [look_args0, Nat.zero_le, if_true, Nat.sub_zero]
        cases hi : args[i]? with
        | none => exact .junk
        | some x => exact hl i x hi
      blt := hok
      sz := by have := hr.1; simp; omega
      df := rfl
      hr := hh
      ex := Ext.refl ..
      kp := Keep.refl ..
      fr := fun _ _ h1 h2 => .inr ⟨h1, h2⟩
      nn := Nat.le_refl _ }
  refine wp_mono (awp_sound c E _ _ w _ hs (hw hok)) ?_
  rintro e a w' ⟨E', σ, h', hq⟩
  have fin : (∃ l, aresults P σ fn.results.toList = some l ∧ ∃ r h', (r = joined l ∨ r = w3 (joined l)) ∧ h.n ≤ h'.n ∧ h'.n ≤ σ.h.n ∧ (∀ id, id < h'.n → h'.o id = σ.h.o id) ∧ Lt h'.n r ∧ h'.ok ∧ Q r h') →
      a.defers = [] ∧ ∃ v, (results fn a.tmps).run P w' = .ok v w' ∧ ∃ v' r h' E', Ending.returned v = .returned v' ∧ Q r h' ∧ h.n ≤ h'.n ∧ Ext E h.n E' ∧ HRel E' h' w' ∧ h'.ok ∧ Rel E' r v' ∧ Lt h'.n r ∧ Keep E h.n w w' ∧ Fr E h.n w E' h'.n := by
    rintro ⟨l, hl, r, h2, hr2, hn, hn2, ho, hlt, hok2, hQ⟩
    obtain ⟨v, hv, hrel, _⟩ := joined_sound h' hl
    refine ⟨h'.df, v, hv, v, r, h2, E', rfl, hQ, hn, h'.ex, h'.hr.cut hn2 ho, hok2, ?_, hlt, h'.kp, fun id b hid hb => h'.fr id b (by omega) hb⟩
    rcases hr2 with rfl | rfl
    · exact hrel
    · exact rel_w3 hrel
  cases e with
  | normal => exact fin hq
  | ret => exact fin hq
  | _ => exact hq.elim

/-- What names no object. -/
def ltB : AV → Bool
  | .agg l => l.all isP
  | .tup l => l.all fun x => match x with
    | .agg m => m.all isP
    | x => isP x
  | x => isP x
theorem lt_isP {n : Nat} {x : AV} (h : isP x = true) : Lt n x := by
  cases x with
  | p v => exact .p v
  | sl s e c => exact .sl s e c
  | ep c => exact .ep c
  | ifc t v => exact .ifc t v
  | junk => exact .junk
  | _ => simp [isP] at h
theorem lt_ltB {n : Nat} {x : AV} (h : ltB x = true) : Lt n x := by
  unfold ltB at h
  split at h
  · rw [List.all_eq_true] at h
    exact .agg fun i x hx => lt_isP (h x (List.mem_of_getElem? hx))
  · rw [List.all_eq_true] at h
    refine .tup fun i x hx => ?_
    have := h x (List.mem_of_getElem? hx)
    split at this
    · rw [List.all_eq_true] at this
      exact .agg fun i x hx => lt_isP (this x (List.mem_of_getElem? hx))
    · exact lt_isP this
  · exact lt_isP h

/-- Below a number two heaps are the same. -/
def Same (n : Nat) (f g : Nat → Option AO) : Prop := ∀ id, id < n → f id = g id

/-- How the body of a function of values alone must end. -/
def retP (P : Program) (fn : Func) (h : AH) (r : AV) : Exit → St → Prop
  | .normal, σ => (aresults P σ fn.results.toList).map (fun l => w3 (joined l)) = some r ∧ Same h.n σ.h.o h.o
  | .ret, σ => (aresults P σ fn.results.toList).map (fun l => w3 (joined l)) = some r ∧ Same h.n σ.h.o h.o
  | _, _ => False

theorem apure_of_awp {f : FuncId} {fn : Func} {c : Code} {args : List AV} {r : AV} (hf : P.funcs[f]? = some fn) (hb : fn.body = some c)
    (hcall : ∀ (vs : Array Value) (w : World), (callFunc f vs).run P w = .ok (.enter f vs) w) (hnt : args.length ≤ fn.ntmps) (hr : ltB r = true)
    (hw : ∀ h : AH, h.ok → W P fn.ntmps h.n c { t := args0 0 args, h := h } (retP P fn h r) .mk) : APure P f args r := by
  intro h
  refine ⟨hcall, fun E w vs hh hok hrr hl => ?_⟩
  refine calls_of_wp hf hb ?_
  have hs : SRel E h.n w fn.ntmps E { t := args0 0 args, h := h } { tmps := vs.toArray ++ Array.replicate (fn.ntmps - vs.toArray.size) undef, defers := [] } w :=
    { tm := fun i => by
        simp only [look_args0, Nat.zero_le, if_true, Nat.sub_zero]
        cases hi : args[i]? with
        | none => exact .pure (.junk _)
        | some x =>
          obtain ⟨v, hv, hrel⟩ := hrr.getElem hi
          have hlt : i < vs.length := (List.getElem?_eq_some_iff.1 hv).1
          have e : (vs.toArray ++ Array.replicate (fn.ntmps - vs.toArray.size) undef).getD i undef = v := by
            rw [Array.getD_eq_getD_getElem?, Array.getElem?_append_left (by simpa using hlt)]
            simp [hv]
          rw [e]
          exact hrel
      lt := fun i => by
        simp only [look_args0, Nat.zero_le, if_true, Nat.sub_zero]
        cases hi : args[i]? with
        | none => exact .junk
        | some x => exact hl i x hi
      blt := hok
      sz := by have := hrr.1; simp; omega
      df := rfl
      hr := hh
      ex := Ext.refl ..
      kp := Keep.refl ..
      fr := fun _ _ h1 h2 => .inr ⟨h1, h2⟩
      nn := Nat.le_refl _ }
  refine wp_mono (awp_sound c E _ _ w _ hs (hw h hok)) ?_
  rintro e a w' ⟨E', σ, h', hq⟩
  have fin : ((aresults P σ fn.results.toList).map (fun l => w3 (joined l)) = some r ∧ Same h.n σ.h.o h.o) →
      a.defers = [] ∧ ∃ v, (results fn a.tmps).run P w' = .ok v w' ∧ ∃ v' r' h' E', Ending.returned v = .returned v' ∧ (r' = r ∧ h' = h) ∧ h.n ≤ h'.n ∧ Ext E h.n E' ∧ HRel E' h' w' ∧ h'.ok ∧ Rel E' r' v' ∧ Lt h'.n r' ∧ Keep E h.n w w' ∧ Fr E h.n w E' h'.n := by
    rintro ⟨hl, ho⟩
    obtain ⟨l, hl2, rfl⟩ := Option.map_eq_some_iff.1 hl
    obtain ⟨v, hv, hrel, _⟩ := joined_sound h' hl2
    exact ⟨h'.df, v, hv, v, _, h, E', rfl, ⟨rfl, rfl⟩, Nat.le_refl _, h'.ex, h'.hr.cut h'.nn (fun id hid => (ho id hid).symm), hok, rel_w3 hrel, lt_ltB hr, h'.kp, fun id b hid hb => h'.fr id b (Nat.lt_of_lt_of_le hid h'.nn) hb⟩
  cases e with
  | normal => exact fin hq
  | ret => exact fin hq
  | _ => exact hq.elim

/-- Capacities forgotten. -/
def fc1 : AV → AV
  | .sl s e _ => .sl s e none
  | x => x
def fc2 : AV → AV
  | .agg l => .agg (l.map fc1)
  | x => fc1 x
def fc3 : AV → AV
  | .tup l => .tup (l.map fc2)
  | x => fc2 x
theorem rel_fc1 {E : Env} {x : AV} {v : Value} (h : Rel E x v) : Rel E (fc1 x) v := by
  unfold fc1
  split
  · cases h.sl_inv with
    | sl us h1 h2 h3 h4 h5 h6 h7 h8 => exact .pure (.sl us h1 h2 h3 (fun _ hk => by cases hk) h5 h6 h7 h8)
  · exact h
theorem rel_fc2 {E : Env} {x : AV} {v : Value} (h : Rel E x v) : Rel E (fc2 x) v := by
  unfold fc2
  split
  · obtain ⟨vs, rfl, hr⟩ := h.agg_inv
    have := rels_map_of (g := fc1) (fun x v h => rel_fc1 h) hr
    exact .agg this.1 this.2
  · exact rel_fc1 h
theorem rel_fc3 {E : Env} {x : AV} {v : Value} (h : Rel E x v) : Rel E (fc3 x) v := by
  unfold fc3
  split
  · obtain ⟨vs, rfl, hr⟩ := h.tup_inv
    have := rels_map_of (g := fc2) (fun x v h => rel_fc2 h) hr
    exact .tup this.1 this.2
  · exact rel_fc2 h
/-- The same, capacities forgotten. -/
def retF (P : Program) (fn : Func) (h : AH) (r : AV) : Exit → St → Prop
  | .normal, σ => (aresults P σ fn.results.toList).map (fun l => fc3 (w3 (joined l))) = some r ∧ Same h.n σ.h.o h.o
  | .ret, σ => (aresults P σ fn.results.toList).map (fun l => fc3 (w3 (joined l))) = some r ∧ Same h.n σ.h.o h.o
  | _, _ => False

theorem apure_of_awpF {f : FuncId} {fn : Func} {c : Code} {args : List AV} {r : AV} (hf : P.funcs[f]? = some fn) (hb : fn.body = some c)
    (hcall : ∀ (vs : Array Value) (w : World), (callFunc f vs).run P w = .ok (.enter f vs) w) (hnt : args.length ≤ fn.ntmps) (hr : ltB r = true)
    (hw : ∀ h : AH, h.ok → W P fn.ntmps h.n c { t := args0 0 args, h := h } (retF P fn h r) .mk) : APure P f args r := by
  intro h
  refine ⟨hcall, fun E w vs hh hok hrr hl => ?_⟩
  refine calls_of_wp hf hb ?_
  have hs : SRel E h.n w fn.ntmps E { t := args0 0 args, h := h } { tmps := vs.toArray ++ Array.replicate (fn.ntmps - vs.toArray.size) undef, defers := [] } w :=
    { tm := fun i => by
        simp only [look_args0, Nat.zero_le, if_true, Nat.sub_zero]
        cases hi : args[i]? with
        | none => exact .pure (.junk _)
        | some x =>
          obtain ⟨v, hv, hrel⟩ := hrr.getElem hi
          have hlt : i < vs.length := (List.getElem?_eq_some_iff.1 hv).1
          have e : (vs.toArray ++ Array.replicate (fn.ntmps - vs.toArray.size) undef).getD i undef = v := by
            rw [Array.getD_eq_getD_getElem?, Array.getElem?_append_left (by simpa using hlt)]
            simp [hv]
          rw [e]
          exact hrel
      lt := fun i => by
        simp only [look_args0, Nat.zero_le, if_true, Nat.sub_zero]
        cases hi : args[i]? with
        | none => exact .junk
        | some x => exact hl i x hi
      blt := hok
      sz := by have := hrr.1; simp; omega
      df := rfl
      hr := hh
      ex := Ext.refl ..
      kp := Keep.refl ..
      fr := fun _ _ h1 h2 => .inr ⟨h1, h2⟩
      nn := Nat.le_refl _ }
  refine wp_mono (awp_sound c E _ _ w _ hs (hw h hok)) ?_
  rintro e a w' ⟨E', σ, h', hq⟩
  have fin : ((aresults P σ fn.results.toList).map (fun l => fc3 (w3 (joined l))) = some r ∧ Same h.n σ.h.o h.o) →
      a.defers = [] ∧ ∃ v, (results fn a.tmps).run P w' = .ok v w' ∧ ∃ v' r' h' E', Ending.returned v = .returned v' ∧ (r' = r ∧ h' = h) ∧ h.n ≤ h'.n ∧ Ext E h.n E' ∧ HRel E' h' w' ∧ h'.ok ∧ Rel E' r' v' ∧ Lt h'.n r' ∧ Keep E h.n w w' ∧ Fr E h.n w E' h'.n := by
    rintro ⟨hl, ho⟩
    obtain ⟨l, hl2, rfl⟩ := Option.map_eq_some_iff.1 hl
    obtain ⟨v, hv, hrel, _⟩ := joined_sound h' hl2
    exact ⟨h'.df, v, hv, v, _, h, E', rfl, ⟨rfl, rfl⟩, Nat.le_refl _, h'.ex, h'.hr.cut h'.nn (fun id hid => (ho id hid).symm), hok, rel_fc3 (rel_w3 hrel), lt_ltB hr, h'.kp, fun id b hid hb => h'.fr id b (Nat.lt_of_lt_of_le hid h'.nn) hb⟩
  cases e with
  | normal => exact fin hq
  | ret => exact fin hq
  | _ => exact hq.elim

/-- What follows stands behind a variable. -/
theorem W_seq_k {nt n0 : Nat} {x y : Code} {σ : St} {Q : Exit → St → Prop} {ph : Ph Q} (h : ∀ K : St → Prop, (∀ σ', W P nt n0 y σ' Q .mk → K σ') → W P nt n0 x σ (seqQ K Q) .mk) : W P nt n0 (.seq x y) σ Q ph := h _ fun _ h => h
theorem W_cond_k {nt n0 : Nat} {c : Operand} {x y : Code} {σ : St} {Q : Exit → St → Prop} {ph : Ph Q} (b : Bool) (hc : asBool? (ev σ c) = some b) (hx : b = true → W P nt n0 x σ Q .mk) (hy : b = false → W P nt n0 y σ Q .mk) : W P nt n0 (.cond c x y) σ Q ph := by
  rw [W_cond, hc, oM_some]; exact ⟨hx, hy⟩
theorem W_draw_k {nt n0 id : Nat} {ops : Array Oper} {σ : St} {Q : Exit → St → Prop} {ph : Ph Q} (h1 : P.follows .mixedOrders = true) (h2 : Region.lexB .any ops = true) (h3 : Pur P nt ops ops.toList σ (fun σ' => Q .normal σ') .mk) : W P nt n0 (.region id ops true) σ Q ph := by rw [W_draw]; exact ⟨h1, h2, h3⟩
/-- What follows a block stands behind a variable. -/
theorem W_block_k {nt n0 id : Nat} {x : Code} {σ : St} {Q : Exit → St → Prop} {ph : Ph Q} (h : ∀ Q' : Exit → St → Prop, (∀ e σ', Q e σ' → Q' e σ') → W P nt n0 x σ (blockQ id Q') .mk) : W P nt n0 (.block id x) σ Q ph := h Q fun _ _ h => h

theorem apure_of {f : FuncId} {fn : Func} {c : Code} {args : List AV} {r : AV} (hf : P.funcs[f]? = some fn) (hb : fn.body = some c)
    (hcall : ∀ (vs : Array Value) (w : World), (callFunc f vs).run P w = .ok (.enter f vs) w) (hnt : args.length ≤ fn.ntmps) (hr : ltB r = true)
    (hw : ∀ h : AH, h.ok → ∀ Q : Exit → St → Prop, (∀ σ, retP P fn h r .ret σ → Q .ret σ) → (∀ σ, retP P fn h r .normal σ → Q .normal σ) → W P fn.ntmps h.n c { t := args0 0 args, h := h } Q .mk) : APure P f args r :=
  apure_of_awp hf hb hcall hnt hr fun h hok => hw h hok _ (fun _ h => h) (fun _ h => h)
theorem apure_ofF {f : FuncId} {fn : Func} {c : Code} {args : List AV} {r : AV} (hf : P.funcs[f]? = some fn) (hb : fn.body = some c)
    (hcall : ∀ (vs : Array Value) (w : World), (callFunc f vs).run P w = .ok (.enter f vs) w) (hnt : args.length ≤ fn.ntmps) (hr : ltB r = true)
    (hw : ∀ h : AH, h.ok → ∀ Q : Exit → St → Prop, (∀ σ, retF P fn h r .ret σ → Q .ret σ) → (∀ σ, retF P fn h r .normal σ → Q .normal σ) → W P fn.ntmps h.n c { t := args0 0 args, h := h } Q .mk) : APure P f args r :=
  apure_of_awpF hf hb hcall hnt hr fun h hok => hw h hok _ (fun _ h => h) (fun _ h => h)
theorem acall_of {f : FuncId} {fn : Func} {c : Code} {h : AH} {args : List AV} {Q : AV → AH → Prop} (hf : P.funcs[f]? = some fn) (hb : fn.body = some c)
    (hcall : ∀ (vs : Array Value) (w : World), (callFunc f vs).run P w = .ok (.enter f vs) w) (hnt : args.length ≤ fn.ntmps)
    (hw : h.ok → ∀ Q' : Exit → St → Prop, (∀ σ, retQ P fn h Q .ret σ → Q' .ret σ) → (∀ σ, retQ P fn h Q .normal σ → Q' .normal σ) → W P fn.ntmps h.n c { t := args0 0 args, h := h } Q' .mk) : ACall P f h args Q :=
  acall_of_awp hf hb hcall hnt fun hok => hw hok _ (fun _ h => h) (fun _ h => h)
end
end Go.Vp

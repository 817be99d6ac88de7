/- Vp, part q: what comes in: from a reading to abstract values; from a contract to a row. -/
import Derived.Test.YtmbepfdnmgiifaaVo
import Derived.ProofKit
import Derived.Carry
set_option linter.unusedVariables false
set_option linter.unusedSimpArgs false
namespace Go.Vp
open Go.RowKit Go.ChangeShapes Go.WideShapes

/-- The abstract cells of plain data of a type. -/
inductive Sh (P : Program) : TypeId → List AV → Prop
  | bool {t : TypeId} {b : Bool} : P.underlying t = some .bool → Sh P t [.p (.bool b)]
  | int {t : TypeId} {k : IntKind} {n : Int} : P.underlying t = some (.int k) → (Lit.int k n).wf = true → Sh P t [.p (.int k n)]
  | string {t : TypeId} {s : ByteArray} : P.underlying t = some .string → s.size ≤ maxLen → Sh P t [.p (.string s)]
  | slice {t e : TypeId} {els : List (List AV)} : P.underlying t = some (.slice e) → els.length ≤ maxLen → (∀ el ∈ els, Sh P e el) → (∀ el ∈ els, el.length = P.cellsOf e) → Sh P t [.sl (P.cellsOf e) els none]
  | struct {t : TypeId} {fs : Array Go.Field} {parts : List (List AV)} : P.underlying t = some (.struct fs) → parts.length = fs.size → (∀ (i : Nat) (f : Go.Field) (p : List AV), fs[i]? = some f → parts[i]? = some p → Sh P f.type p) → Sh P t parts.flatten

def PRels (S : Addr → Option Value) (l : List AV) (vs : List Value) : Prop := vs.length = l.length ∧ ∀ (i : Nat) (x : AV) (v : Value), l[i]? = some x → vs[i]? = some v → PRel S x v
theorem PRels.one {S : Addr → Option Value} {x : AV} {v : Value} (h : PRel S x v) : PRels S [x] [v] := ⟨rfl, fun i y u hy hu => by
  cases i with
  | zero => simp at hy hu; subst hy; subst hu; exact h
  | succ i => simp at hy⟩
theorem PRels.append {S : Addr → Option Value} {l m : List AV} {vs us : List Value} (h : PRels S l vs) (k : PRels S m us) : PRels S (l ++ m) (vs ++ us) := by
  refine ⟨by simp [h.1, k.1], fun i x v hx hv => ?_⟩
  by_cases hi : i < l.length
  · rw [List.getElem?_append_left hi] at hx
    rw [List.getElem?_append_left (by rw [h.1]; exact hi)] at hv
    exact h.2 i x v hx hv
  · rw [List.getElem?_append_right (by omega)] at hx
    rw [List.getElem?_append_right (by rw [h.1]; omega), h.1] at hv
    exact k.2 _ x v hx hv

/-- Fields one behind the other. -/
def contig (P : Program) : List Go.Field → Nat → Option Nat
  | [], o => some o
  | f :: r, o => if f.offset = o then contig P r (o + P.cellsOf f.type) else none
/-- Plain data, so deep. -/
def okT (P : Program) : Nat → TypeId → Bool
  | 0, _ => false
  | n + 1, t =>
    match P.underlying t with
    | some .bool => true
    | some (.int _) => true
    | some .string => true
    | some (.slice e) => okT P n e
    | some (.struct fs) => (contig P fs.toList 0 == some (P.cellsOf t)) && fs.toList.all fun f => okT P n f.type
    | _ => false

section
variable {H : Type} {enc : TypeId × Value → H} {P : Program} {w : World} {base : Nat} {spare : Nat → Bool} {held : Bool}

/-- The fields of a struct, one behind the other. -/
theorem sh_fields {fuel : Nat} {ok : TypeId → Bool} (ih : ∀ (t : TypeId) (cs : List Value) (x : DataW H × List MemPlace), ok t = true → DataW.trod enc P w base spare held fuel t cs = some x → ∃ l, Sh P t l ∧ PRels w.cell? l cs) (cs : List Value) :
    ∀ (fs : List Go.Field) (o total : Nat), contig P fs o = some total → cs.length = total → (∀ f ∈ fs, ok f.type = true) →
      (∀ f ∈ fs, ∃ x, DataW.trod enc P w base spare held fuel f.type ((cs.drop f.offset).take (P.cellsOf f.type)) = some x) →
      o ≤ total ∧ ∃ parts : List (List AV), parts.length = fs.length ∧ (∀ (i : Nat) (f : Go.Field) (p : List AV), fs[i]? = some f → parts[i]? = some p → Sh P f.type p) ∧ PRels w.cell? parts.flatten (cs.drop o)
  | [], o, total, hc, hl, _, h => by
    simp only [contig, Option.some.injEq] at hc
    subst hc
    refine ⟨Nat.le_refl _, [], rfl, fun i f p hf => by simp at hf, ?_⟩
    rw [List.drop_of_length_le (by omega)]
    exact ⟨rfl, fun i x v hx => by simp at hx⟩
  | f :: fs, o, total, hc, hl, hok, h => by
    simp only [contig] at hc
    split at hc
    case isFalse => cases hc
    rename_i ho
    obtain ⟨x, hx⟩ := h f (List.mem_cons_self ..)
    obtain ⟨hle, parts, h1, h2, h3⟩ := sh_fields ih cs fs (o + P.cellsOf f.type) total hc hl (fun g hg => hok g (List.mem_cons_of_mem _ hg)) (fun g hg => h g (List.mem_cons_of_mem _ hg))
    obtain ⟨l, hs, hr⟩ := ih f.type _ x (hok f (List.mem_cons_self ..)) hx
    refine ⟨by omega, l :: parts, by simp [h1], fun i g p hg hp => ?_, ?_⟩
    · cases i with
      | zero => simp at hg hp; subst hg; subst hp; exact hs
      | succ i => simp at hg hp; exact h2 i g p hg hp
    · rw [List.flatten_cons]
      rw [ho] at hr
      have e : cs.drop o = (cs.drop o).take (P.cellsOf f.type) ++ cs.drop (o + P.cellsOf f.type) := by
        rw [← List.drop_drop, List.take_append_drop]
      rw [e]
      exact hr.append h3

theorem sh_of_trod : ∀ (n fuel : Nat) (t : TypeId) (cs : List Value) (x : DataW H × List MemPlace), okT P n t = true → DataW.trod enc P w base spare held fuel t cs = some x → ∃ l, Sh P t l ∧ PRels w.cell? l cs
  | 0, _, _, _, _, hok, _ => by cases hok
  | n + 1, fuel, t, cs, x, hok, h => by
    unfold okT at hok
    split at hok
    · rename_i hu
      obtain ⟨b, rfl, _⟩ := DataW.trod_bool hu h
      exact ⟨_, .bool hu, .one (.p _)⟩
    · rename_i k hu
      obtain ⟨m, rfl, _, hw⟩ := DataW.trod_int hu h
      exact ⟨_, .int hu hw, .one (.p _)⟩
    · rename_i hu
      obtain ⟨s, rfl, _, hs⟩ := DataW.trod_string hu h
      exact ⟨_, .string hu hs, .one (.p _)⟩
    · rename_i e hu
      rcases DataW.trod_slice hu h with ⟨rfl, _⟩ | ⟨a, len, cap, elems, rest, m, hf, rfl, hx, hb, hlc, hcm, hel, hat, _⟩
      · refine ⟨_, .slice (els := []) hu (by simp) (fun _ h => by cases h) (fun _ h => by cases h), .one ?_⟩
        exact .sl (fun _ _ => undef) rfl (Nat.le_refl _) (by decide) (fun _ h => by cases h) (fun e h => by cases h) (fun _ => ⟨rfl, rfl⟩) (fun _ _ _ _ _ h => by cases h) (fun _ _ _ _ h => by simp at h)
      · have hex : ∀ i : Nat, ∃ (l : List AV) (c : List Value), i < len → w.cells? base (a.add (i * P.cellsOf e)) (P.cellsOf e) = some c ∧ Sh P e l ∧ PRels w.cell? l c := by
          intro i
          by_cases hi : i < len
          · have h1 := hat i hi
            rw [List.getElem?_eq_getElem (by omega)] at h1
            obtain ⟨c, hc, ht⟩ := Option.bind_eq_some_iff.1 h1
            obtain ⟨l, hs, hr⟩ := sh_of_trod n m e c _ hok ht
            exact ⟨l, c, fun _ => ⟨hc, hs, hr⟩⟩
          · exact ⟨[], [], fun h => absurd h hi⟩
        let L : Nat → List AV := fun i => Classical.choose (hex i)
        have hL : ∀ i, ∃ c, i < len → w.cells? base (a.add (i * P.cellsOf e)) (P.cellsOf e) = some c ∧ Sh P e (L i) ∧ PRels w.cell? (L i) c := fun i => Classical.choose_spec (hex i)
        let C : Nat → List Value := fun i => Classical.choose (hL i)
        have hC : ∀ i, i < len → w.cells? base (a.add (i * P.cellsOf e)) (P.cellsOf e) = some (C i) ∧ Sh P e (L i) ∧ PRels w.cell? (L i) (C i) := fun i => Classical.choose_spec (hL i)
        have hget : ∀ (i : Nat) (el : List AV), ((List.range len).map L)[i]? = some el → i < len ∧ el = L i := by
          intro i el hi
          rw [List.getElem?_map] at hi
          obtain ⟨q, hq, rfl⟩ := Option.map_eq_some_iff.1 hi
          have hlt : i < len := by
            have := (List.getElem?_eq_some_iff.1 hq).1
            simpa using this
          rw [List.getElem?_range hlt] at hq
          injection hq with hq
          exact ⟨hlt, by rw [← hq]⟩
        have hmem : ∀ el ∈ (List.range len).map L, ∃ i, i < len ∧ el = L i := fun el hm => by
          obtain ⟨i, hi, rfl⟩ := List.mem_map.1 hm
          exact ⟨i, List.mem_range.1 hi, rfl⟩
        have hlen : ∀ el ∈ (List.range len).map L, el.length = P.cellsOf e := fun el hm => by
          obtain ⟨i, hi, rfl⟩ := hmem el hm
          obtain ⟨h1, h2, h3⟩ := hC i hi
          rw [← h3.1]; exact (World.cells?_some h1).2.1
        refine ⟨_, .slice (els := (List.range len).map L) hu (by simp; omega) (fun el hm => ?_) hlen, .one ?_⟩
        · obtain ⟨i, hi, rfl⟩ := hmem el hm
          exact (hC i hi).2.1
        · refine .sl (fun i j => ((C i)[j]?).getD undef) (by simp) hlc hcm (fun _ h => by cases h) hlen (fun h => by cases h) ?_ ?_
          · intro ad i j el x had hi hj
            injection had with had; subst had
            obtain ⟨hlt, rfl⟩ := hget i el hi
            obtain ⟨h1, h2, h3⟩ := hC i hlt
            obtain ⟨_, hcl, hcell⟩ := World.cells?_some h1
            have hjl : j < P.cellsOf e := by
              have := (List.getElem?_eq_some_iff.1 hj).1
              rw [← hcl, h3.1]; exact this
            have := hcell j hjl
            rw [Addr.add_add] at this
            rw [this, List.getElem?_eq_getElem (by omega)]
            rfl
          · intro i j el x hi hj
            obtain ⟨hlt, rfl⟩ := hget i el hi
            obtain ⟨h1, h2, h3⟩ := hC i hlt
            have hjl : j < (C i).length := by
              have := (List.getElem?_eq_some_iff.1 hj).1
              rw [h3.1]; exact this
            have := h3.2 j x _ hj (List.getElem?_eq_getElem hjl)
            rw [List.getElem?_eq_getElem hjl]
            exact this
    · rename_i fs hu
      rw [Bool.and_eq_true, beq_iff_eq, List.all_eq_true] at hok
      obtain ⟨xs, m, hf, _, hlen, hxl, hat⟩ := DataW.trod_struct hu h
      obtain ⟨_, parts, h1, h2, h3⟩ := sh_fields (fuel := m) (ok := okT P n) (fun t cs x => sh_of_trod n m t cs x) cs fs.toList 0 (P.cellsOf t) hok.1 hlen hok.2 (fun f hfm => by
        obtain ⟨i, hi, rfl⟩ := List.mem_iff_getElem.1 hfm
        have hs : i < fs.size := by simpa using hi
        have := hat i fs[i] (Array.getElem?_eq_getElem hs)
        rw [List.getElem?_eq_getElem (by omega)] at this
        exact ⟨_, by simpa using this⟩)
      exact ⟨_, .struct hu (by simpa using h1) (fun i f p hf hp => h2 i f p (by simpa using hf) hp), by simpa using h3⟩
    · cases hok

/-- One argument's abstract value. -/
inductive ShA (P : Program) (t : TypeId) : AV → Prop
  | one {x : AV} : (∀ fs, P.underlying t ≠ some (.struct fs)) → Sh P t [x] → ShA P t x
  | agg {fs : Array Go.Field} {l : List AV} : P.underlying t = some (.struct fs) → Sh P t l → ShA P t (.agg l)
inductive ShAs (P : Program) : List TypeId → List AV → Prop
  | nil : ShAs P [] []
  | cons {t : TypeId} {ts : List TypeId} {x : AV} {l : List AV} : ShA P t x → ShAs P ts l → ShAs P (t :: ts) (x :: l)

theorem shA_of_trod {t : TypeId} {v : Value} {d : DataW H} {ps : List MemPlace} {n : Nat} (hok : okT P n t = true) {r : Reach} {b : Nat} (hv : Value.okWide P w r b t v) (h : DataW.Trod enc P w base spare held t v d ps) : ∃ x, ShA P t x ∧ PRel w.cell? x v := by
  obtain ⟨fuel, hf⟩ := h
  obtain ⟨l, hs, hr⟩ := sh_of_trod n fuel t _ _ hok hf
  cases hu : P.underlying t with
  | none => cases n <;> simp [okT, hu] at hok
  | some u =>
    have one : (∀ cs, v ≠ .agg cs) → (∀ fs, P.underlying t ≠ some (.struct fs)) → ∃ x, ShA P t x ∧ PRel w.cell? x v := fun hna hns => by
      have hc : v.cells.toList = [v] := by cases v <;> first | rfl | exact absurd rfl (hna _)
      rw [hc] at hr
      have hl := hr.1
      cases l with
      | nil => simp at hl
      | cons x l =>
        cases l with
        | nil => exact ⟨x, .one hns hs, hr.2 0 x v rfl rfl⟩
        | cons => simp at hl
    cases u with
    | struct fs =>
      simp only [Value.okWide, hu] at hv
      obtain ⟨cs, rfl, _, _⟩ := hv
      exact ⟨.agg l, .agg hu hs, by
        have : cs = (Value.cells (.agg cs)).toList.toArray := by simp [Value.cells]
        rw [this]
        exact .agg hr.1 hr.2⟩
    | bool => refine one (fun cs hc => ?_) (fun fs hc => by rw [hu] at hc; cases hc); subst hc; simp [Value.okWide, hu, Cell.okWide, Cell.ok] at hv
    | int k => refine one (fun cs hc => ?_) (fun fs hc => by rw [hu] at hc; cases hc); subst hc; simp [Value.okWide, hu, Cell.okWide, Cell.ok] at hv
    | string => refine one (fun cs hc => ?_) (fun fs hc => by rw [hu] at hc; cases hc); subst hc; simp [Value.okWide, hu, Cell.okWide, Cell.ok] at hv
    | slice e => refine one (fun cs hc => ?_) (fun fs hc => by rw [hu] at hc; cases hc); subst hc; simp [Value.okWide, hu, Cell.okWide, Cell.ok] at hv
    | _ => cases n <;> simp [okT, hu] at hok

theorem shAs_of_trod {n : Nat} {r : Reach} {b : Nat} : ∀ {ts : List TypeId} {vs : List Value} {ds : List (DataW H)} {ps : List MemPlace}, (∀ t ∈ ts, okT P n t = true) → (∀ (j : Nat) (t : TypeId) (v : Value), ts[j]? = some t → vs[j]? = some v → Value.okWide P w r b t v) →
    DataW.TrodAll enc P w base spare held ts vs ds ps → ∃ l, ShAs P ts l ∧ PRels w.cell? l vs
  | [], [], [], _, _, _, _ => ⟨[], .nil, rfl, fun i x v hx => by simp at hx⟩
  | t :: ts, v :: vs, d :: ds, _, hok, hv, ⟨p, q, h1, h2, _⟩ => by
    obtain ⟨x, hx, hr⟩ := shA_of_trod (hok t (List.mem_cons_self ..)) (hv 0 t v rfl rfl) h1
    obtain ⟨l, hl, hrs⟩ := shAs_of_trod (fun t ht => hok t (List.mem_cons_of_mem _ ht)) (fun j t v hj hv' => hv (j + 1) t v (by simpa using hj) (by simpa using hv')) h2
    refine ⟨x :: l, .cons hx hl, by simp [hrs.1], fun i y u hy hu => ?_⟩
    cases i with
    | zero => simp at hy hu; subst hy; subst hu; exact hr
    | succ i => simp at hy hu; exact hrs.2 i y u hy hu
end

/-- What a contract on values alone says of a call from any world. -/
theorem calls_of_pure {P : Program} {f : FuncId} {l : List AV} {r : Value} {w : World} {vs : List Value} (hc : APure P f l (.p r)) (hr : PRels w.cell? l vs) :
    Calls P f vs.toArray w fun e w' => e = .returned r ∧ Below w.heap.size w w' := by
  have h := (hc ⟨fun _ => none, 0⟩).2 ⟨w.cell?, fun _ => .box 0⟩ w vs ⟨fun a v h => h, fun id l h => (Nat.not_lt_zero _ h).elim, fun id t s h => (Nat.not_lt_zero _ h).elim, fun i j b h => (Nat.not_lt_zero _ h).elim, fun i b h => (Nat.not_lt_zero _ h).elim⟩ (fun id l i x h => (Nat.not_lt_zero _ h).elim) ⟨hr.1, fun i x v hx hv => .pure (hr.2 i x v hx hv)⟩
    (fun i x hx => prel_lt (hr.2 i x _ hx (List.getElem?_eq_getElem (by rw [hr.1]; exact (List.getElem?_eq_some_iff.1 hx).1))) 0)
  refine h.mono fun e w' ⟨v, r', h', E', he, ⟨h1, h2⟩, _, _, _, _, hv, _, hk, _⟩ => ⟨?_, hk.os, hk.tape, hk.output, hk.size, fun k hkk => hk.block k hkk (fun id hid => (Nat.not_lt_zero _ hid).elim)⟩
  subst h1
  rw [he, hv.p_inv]

section
variable {H : Type} {enc : TypeId × Value → H} {P : Program}
theorem trodAll_stays (hl : laidOutB P = true) {W W' : World} {sp : Nat → Bool} (hb : Below W.heap.size W W') : ∀ {ts : List TypeId} {vs : List Value} {ds : List (DataW H)} {ps : List MemPlace}, (∀ t ∈ ts, P.readableRec t = true ∧ t < P.types.size) →
    DataW.TrodAll enc P W 0 (fun _ => true) true ts vs ds ps → (∀ x ∈ ps, x.block < W.heap.size) → (∀ x ∈ ps, sp x.block = true) → DataW.TrodAll enc P W' 0 sp true ts vs ds ps
  | [], [], [], _, _, h, _, _ => h
  | t :: ts, v :: vs, d :: ds, _, hok, ⟨p, q, h1, h2, e⟩, hlt, hs => by
    subst e
    exact ⟨p, q, WideElems.Trod_stays hl (hok t (List.mem_cons_self ..)).1 (hok t (List.mem_cons_self ..)).2 h1 (fun x hx => hb.same (hlt x (List.mem_append_left _ hx))) (fun x hx => hs x (List.mem_append_left _ hx)),
      trodAll_stays hl hb (fun t ht => hok t (List.mem_cons_of_mem _ ht)) h2 (fun x hx => hlt x (List.mem_append_right _ hx)) (fun x hx => hs x (List.mem_append_right _ hx)), rfl⟩

theorem post_of_below {f : Func} {s : ChangeSpec} {apart fresh handsOn again : Bool} {W W' : World} {args : Array Value} {v : Value} {ds gs : List (DataW H)} {before : List MemPlace}
    (hW : DataW.Whole enc P f.params.toList s.vars apart W args.toList ds gs before) (hv : s.vars = [])
    (hres : ∀ (b : Nat) (sp : Nat → Bool) (hd : Bool), DataW.TrodAll enc P W' b sp hd f.resultTypes.toList (v.resultList f.resultTypes.size) (s.fn H (ds ++ gs)).results [])
    (hargs : ∀ sp : Nat → Bool, (∀ p ∈ before, sp p.block = true) → DataW.TrodAll enc P W' 0 sp true f.params.toList args.toList (s.fn H (ds ++ gs)).args before) (hvr : (s.fn H (ds ++ gs)).vars = [])
    (hb : Below W.heap.size W W')
    (hok : ∀ (j : Nat) (t : TypeId) (r : Value), f.resultTypes[j]? = some t → (v.resultList f.resultTypes.size)[j]? = some r → Value.okWide P W' .any 0 t r) :
    s.post enc P f apart fresh handsOn again W args v W' := by
  have hold : ∀ p ∈ before, (fun b => decide (b < W.heap.size)) p.block = true := fun p hp => by simpa using hW.lt p hp
  have hvars : ∀ sp : Nat → Bool, DataW.TrodVars enc P W' sp s.vars (s.fn H (ds ++ gs)).vars [] := fun sp => by rw [hv, hvr]; exact rfl
  refine ⟨ds, gs, before, [], before, [], hW, hres _ _ _, hargs _ hold, hvars _, World.keptBut_mono (fun p hp => ⟨hp, ?_⟩) (hb.frame (· ∈ before)), fun _ => ?_⟩
  · exact Or.inr (by simpa using hp)
  · have hlt : ∀ p ∈ before, p.block < W.heap.size := fun p hp => hW.lt p hp
    obtain ⟨_, _, _, _, _, hz, hn⟩ := hW
    refine ⟨hok, _, _, ([] ++ before) ++ [], ⟨[] ++ before, [], trodAll_append (hargs _ (fun _ _ => rfl)) (hres _ _ _), hvars _, rfl, ?_, ?_⟩, ?_⟩
    · intro b off hp
      have hp' : MemPlace.cell b off ∈ before := by simpa using hp
      rw [hb.frozen (hlt _ hp')]
      exact hz b off hp'
    · intro ha
      simpa using hn ha
    · intro p hp _
      simpa using hp

/-- A LAW'S ROW: whatever comes in, of plain data, the call hands back true, and nothing has turned. -/
theorem law_calls {fn : Func} {f : FuncId} {s : ChangeSpec} {apart fresh handsOn again : Bool} {n : Nat} {bt : TypeId} (hl : laidOutB P = true)
    (hparams : fn.params.toList.all (fun t => P.readableRec t && decide (t < P.types.size) && okT P n t) = true) (hrt : fn.resultTypes = #[bt]) (hbt : P.underlying bt = some .bool)
    (hvars : s.vars = []) (hs : ∀ (H : Type) (ds : List (DataW H)), ds.length = fn.params.toList.length → s.fn H ds = { results := [.lit (.bool true)], args := ds })
    (hlaw : ∀ l, ShAs P fn.params.toList l → APure P f l (.p (.bool true)))
    (W : World) (base : Nat) (args : Array Value) (ds gs : List (DataW H)) (before : List MemPlace)
    (hval : ∀ (j : Nat) t v, fn.params[j]? = some t → args[j]? = some v → Value.okWide P W .any base t v)
    (hW : DataW.Whole enc P fn.params.toList s.vars apart W args.toList ds gs before) :
    Calls P f args W fun e W' => ∃ v, e = .returned v ∧ s.post enc P fn apart fresh handsOn again W args v W' := by
  have hW' := hW
  obtain ⟨p, q, hA, hV, rfl, hfz, hnd⟩ := hW
  rw [hvars] at hV
  obtain ⟨rfl, rfl⟩ := trodVars_none hV
  rw [List.all_eq_true] at hparams
  have hp : ∀ t ∈ fn.params.toList, (P.readableRec t = true ∧ t < P.types.size) ∧ okT P n t = true := fun t ht => by
    have := hparams t ht
    rw [Bool.and_eq_true, Bool.and_eq_true, decide_eq_true_eq] at this
    exact this
  obtain ⟨l, hl2, hr⟩ := shAs_of_trod (n := n) (fun t ht => (hp t ht).2) (fun j t v hj hv => hval j t v (by simpa using hj) (by simpa using hv)) hA
  have hc := calls_of_pure (hlaw l hl2) hr
  have hlen : ds.length = fn.params.toList.length := by
    have : ∀ {ts : List TypeId} {vs : List Value} {ds : List (DataW H)} {ps : List MemPlace}, DataW.TrodAll enc P W 0 (fun _ => true) true ts vs ds ps → ds.length = ts.length := by
      intro ts
      induction ts with
      | nil => intro vs ds ps h; cases vs <;> cases ds <;> simp_all [DataW.TrodAll]
      | cons t ts ih =>
        intro vs ds ps h
        cases vs with
        | nil => simp [DataW.TrodAll] at h
        | cons v vs =>
          cases ds with
          | nil => simp [DataW.TrodAll] at h
          | cons d ds => obtain ⟨_, _, _, h2, _⟩ := h; simp [ih h2]
    exact this hA
  have hfn := hs H (ds ++ []) (by simpa using hlen)
  simp only [List.append_nil] at hW' hfz hnd
  refine hc.mono fun e W' ⟨he, hb⟩ => ?_
  refine ⟨_, he, post_of_below hW' hvars (fun b sp hd => ?_) (fun sp hsp => ?_) (by rw [hfn]) hb ?_⟩
  · rw [hfn, hrt]; exact trodAll_mk1 (shut_bool hbt _)
  · rw [hfn]
    simp only [List.append_nil]
    exact trodAll_stays hl hb (fun t ht => (hp t ht).1) hA (fun x hx => hW'.lt x hx) hsp
  · exact ok_one hrt rfl (okWide_bool_mk hbt _)
end
end Go.Vp

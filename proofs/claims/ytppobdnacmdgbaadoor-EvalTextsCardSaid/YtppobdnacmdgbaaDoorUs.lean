/- Up, part s: regions, told onwards; guarded operations. -/
import Derived.Test.YtppobdnacmdgbaaDoorUr
set_option linter.unusedVariables false
set_option linter.unusedSimpArgs false
namespace Go.Up
open Go.RowKit

/-- Calls that leave the abstract heap as it is. -/
abbrev Rok := (R : Type) → FuncId → AH → List AV → (AV → Option R) → Option R
/-- All that is known of one heap, another has too. -/
structure Ups (v h : AH) : Prop where
  up : ∀ j x, v.o j = some x → h.o j = some x
  g : v.g = h.g
theorem Ups.refl (h : AH) : Ups h h := ⟨fun _ _ h => h, rfl⟩
theorem HRel.sub [GTab] {E : Env} {h v : AH} {w : World} (hh : HRel E h w) (hok : h.ok) (hu : ∀ j x, v.o j = some x → h.o j = some x) (hg : v.g = h.g) : HRel E ⟨v.o, h.n, v.g⟩ w ∧ (⟨v.o, h.n, v.g⟩ : AH).ok :=
  ⟨⟨hh.cells, fun id x hid ho => hh.obj id x hid (hu id x ho), fun g hgm => hh.glo g (hg ▸ hgm), fun i j b hi hj hoi hoj => hh.inj i j b hi hj (fun e => hoi (by
      cases hv : v.o i with
      | none => rfl
      | some x => rw [hu i x hv] at e; cases e)) (fun e => hoj (by
      cases hv : v.o j with
      | none => rfl
      | some x => rw [hu j x hv] at e; cases e)), hh.lt⟩, fun id l i x hid ho hx => hok id l i x hid (hu id _ ho) hx⟩
def RokOk [GTab] (P : Program) (ro : Rok) : Prop := ∀ (R : Type) f v args (K : AV → Option R) r, ro R f v args K = some r → ∃ y, (∀ h, Ups v h → ACall P f h args (fun z h2 => z = y ∧ h2 = h)) ∧ K y = some r

section
variable {P : Program} {h : AH} {e : Operand → AV} {R : Type}
/-- What leaves the abstract heap alone. -/
def neuK (C : Cfg) (ro : Rok) (h : AH) (e : Operand → AV) (op : Op) (K : AV → Option R) : Option R :=
  match op with
  | .buildSlice t len parts => litK C.P h t len (parts.toList.map fun x => (x.1, e x.2)) K
  | .convert s d x => cnvK C.P h s d (e x) K
  | .call c =>
    match c.callee with
    | .value fo => (match fcall (e fo) (c.args.toList.map e) with
      | some q => ro R q.1 h q.2 K
      | none => none)
    | _ => pureK C.P h e (.call c) K
  | op => pureK C.P h e op K
theorem call_imp [GTab] {fo : Operand} {args : Array Operand} {ts : Array TypeId} {q : FuncId × List AV} {y : AV} (hq : fcall (e fo) (args.toList.map e) = some q) (h1 : ACall P q.1 h q.2 (fun z h2 => z = y ∧ h2 = h)) : ImpS P h e (.call ⟨.value fo, args, ts⟩) h y := by
  obtain ⟨g, xs⟩ := q
  intro E w vals hh hok hO o hop
  have mf : fo ∈ (Op.call ⟨.value fo, args, ts⟩).operands := by simp [Op.operands, Call.operands]
  have ma : ∀ x ∈ args.toList, x ∈ (Op.call ⟨.value fo, args, ts⟩).operands := fun x hx => by simp [Op.operands, Call.operands]; exact .inr (by simpa using hx)
  obtain ⟨first, cap, vs, hv, hvs, hrels, hlts⟩ := fcall_sound (vargs := args.toList.map vals) (hO.rel fo mf) (hO.lt fo mf) (rels_map hO _ ma) (fun i x hx => by
    rw [List.getElem?_map] at hx
    obtain ⟨q, hq, rfl⟩ := Option.map_eq_some_iff.1 hx
    exact hO.lt q (ma q (List.mem_of_getElem? hq))) hq
  have hrun : (execOp vals o).run P w = .ok (.enter g vs.toArray) w := by
    unfold execOp
    rw [hop]
    dsimp only
    have e1 : (first ++ Array.map vals args) ++ cap = vs.toArray := by rw [← hvs, arr_map vals args]
    simp only [resolve, Deferred.ofValue, hv, Sem.run_bind, Sem.run_pure, Result.andThen_ok, invoke]
    rw [e1, h1.1]
  unfold Lands
  rw [hrun]
  exact (h1.2 E w vs hh hok hrels hlts).mono fun e w' ⟨v, r, h2, E', h3, ⟨h4, h5⟩, h6, h7, h8⟩ => by
    subst h4; subst h5
    exact ⟨v, h3, E', h6, h7, h8⟩
theorem neuK_ok [GTab] {C : Cfg} {ro : Rok} (hro : RokOk C.P ro) {op : Op} {K : AV → Option R} {r : R} (hk : neuK C ro h e op K = some r) : ∃ y, ImpS C.P h e op h y ∧ K y = some r := by
  have pu : ∀ {op : Op}, pureK C.P h e op K = some r → ∃ y, ImpS C.P h e op h y ∧ K y = some r := fun hk => by
    obtain ⟨y, h1, h2⟩ := pureK_ok hk
    exact ⟨y, h1.imp, h2⟩
  unfold neuK at hk
  split at hk
  · exact litK_ok hk
  · exact cnvK_ok hk
  · rename_i c
    obtain ⟨callee, args, ts⟩ := c
    split at hk
    · rename_i fo hc
      simp only at hc hk
      subst hc
      split at hk
      · rename_i q hq
        obtain ⟨y, h1, h2⟩ := hro R _ _ _ _ _ hk
        exact ⟨y, call_imp hq (h1 h (.refl h)), h2⟩
      · cases hk
    · exact pu hk
  · exact pu hk
end

/-- The operations up to the one that picks by a slot; where it puts what is picked; the others. -/
def splitPick (s : Tmp) : List Oper → Option (List Oper × Tmp × List Oper)
  | [] => none
  | o :: rest =>
    match o.op, o.dst with
    | .pick (.tmp c) _ _, some d => if Nat.beq c s then some ([o], d, rest) else (splitPick s rest).map fun q => (o :: q.1, q.2.1, q.2.2)
    | _, _ => (splitPick s rest).map fun q => (o :: q.1, q.2.1, q.2.2)
theorem splitPick_ok [GTab] {s : Tmp} : ∀ {l : List Oper} {grp : List Oper} {d : Tmp} {rest : List Oper}, splitPick s l = some (grp, d, rest) → l = grp ++ rest
  | [], _, _, _, h => by cases h
  | o :: l, grp, d, rest, h => by
    have rc : (splitPick s l).map (fun q => (o :: q.1, q.2.1, q.2.2)) = some (grp, d, rest) → o :: l = grp ++ rest := fun h => by
      obtain ⟨⟨g, d', r⟩, hq, he⟩ := Option.map_eq_some_iff.1 h
      cases he
      rw [splitPick_ok hq]; rfl
    unfold splitPick at h
    split at h
    · split at h
      · cases h; rfl
      · exact rc h
    · exact rc h
def memT : List Tmp → Tmp → Bool
  | [], _ => false
  | t :: l, s => Nat.beq t s || memT l s
def junks : List Oper → St → St
  | [], σ => σ
  | o :: l, σ => junks l (σ.put o.dst .junk)
theorem junks_h [GTab] : ∀ (l : List Oper) (σ : St), (junks l σ).h = σ.h
  | [], _ => rfl
  | o :: l, σ => by rw [junks, junks_h l, St.put_h]
theorem junks_look [GTab] (i : Nat) : ∀ (l : List Oper) (σ : St), look (junks l σ).t i = .junk ∨ (look (junks l σ).t i = look σ.t i ∧ ∀ o ∈ l, o.dst ≠ some i)
  | [], σ => .inr ⟨rfl, fun o h => by cases h⟩
  | o :: l, σ => by
    rw [junks]
    rcases junks_look i l (σ.put o.dst .junk) with h | ⟨h1, h2⟩
    · exact .inl h
    · by_cases ho : o.dst = some i
      · refine .inl (h1.trans ?_)
        rw [ho]; simp [St.put, look]
      · refine .inr ⟨h1.trans (look_put ho), fun q hq => ?_⟩
        rcases List.mem_cons.1 hq with rfl | hq
        · exact ho
        · exact h2 q hq

/-! ### Values and states, forced -/
section
variable {R : Type}
def forceP (v : Value) (K : Value → Option R) : Option R :=
  match v with
  | .int k n => K (.int k n)
  | .bool b => K (.bool b)
  | v => K v
def force0 (x : AV) (K : AV → Option R) : Option R :=
  match x with
  | .p v => forceP v fun v => K (.p v)
  | .agg l => K (.agg l)
  | x => K x
def forceL : List AV → (List AV → Option R) → Option R
  | [], K => K []
  | x :: l, K => force0 x fun x => forceL l fun l => K (x :: l)
def force1 (x : AV) (K : AV → Option R) : Option R :=
  match x with
  | .p v => forceP v fun v => K (.p v)
  | .agg l => forceL l fun l => K (.agg l)
  | .ep l => forceL l fun l => K (.ep l)
  | x => K x
def forceL1 : List AV → (List AV → Option R) → Option R
  | [], K => K []
  | x :: l, K => force1 x fun x => forceL1 l fun l => K (x :: l)
def forceV (x : AV) (K : AV → Option R) : Option R :=
  match x with
  | .p v => forceP v fun v => K (.p v)
  | .agg l => forceL l fun l => K (.agg l)
  | .ep l => forceL l fun l => K (.ep l)
  | .tup l => forceL1 l fun l => K (.tup l)
  | x => K x
theorem forceP_eq (v : Value) (K : Value → Option R) : forceP v K = K v := by cases v <;> rfl
theorem force0_eq [GTab] (x : AV) (K : AV → Option R) : force0 x K = K x := by cases x <;> simp only [force0, forceP_eq]
theorem forceL_eq [GTab] : ∀ (l : List AV) (K : List AV → Option R), forceL l K = K l
  | [], K => rfl
  | x :: l, K => by simp only [forceL, force0_eq, forceL_eq l]
theorem force1_eq [GTab] (x : AV) (K : AV → Option R) : force1 x K = K x := by cases x <;> simp only [force1, forceP_eq, forceL_eq]
theorem forceL1_eq [GTab] : ∀ (l : List AV) (K : List AV → Option R), forceL1 l K = K l
  | [], K => rfl
  | x :: l, K => by simp only [forceL1, force1_eq, forceL1_eq l]
theorem forceV_eq [GTab] (x : AV) (K : AV → Option R) : forceV x K = K x := by cases x <;> simp only [forceV, forceP_eq, forceL_eq, forceL1_eq]
def putF (d : Option Tmp) (y : AV) (σ : St) (K : St → Option R) : Option R :=
  match d, σ with
  | some d, ⟨t, ⟨o, n, g⟩⟩ => K ⟨(d, y) :: t, ⟨o, n, g⟩⟩
  | none, ⟨t, ⟨o, n, g⟩⟩ => K ⟨t, ⟨o, n, g⟩⟩
theorem putF_eq (d : Option Tmp) (y : AV) (σ : St) (K : St → Option R) : putF d y σ K = K (σ.put d y) := by
  obtain ⟨t, o, n, g⟩ := σ
  cases d <;> rfl
def putV (d : Option Tmp) (y : AV) (σ : St) (K : St → Option R) : Option R := forceV y fun y => putF d y σ K
theorem putV_eq [GTab] (d : Option Tmp) (y : AV) (σ : St) (K : St → Option R) : putV d y σ K = K (σ.put d y) := by simp only [putV, forceV_eq, putF_eq]
end

def nopsK [GTab] (C : Cfg) (ro : Rok) (nt : Nat) (ops : Array Oper) : Nat → (R : Type) → List Tmp → List Oper → St → (St → Option R) → Option R
  | 0, _, _, _, _, _ => none
  | n + 1, R, res, l, σ, K =>
    match l with
    | [] => K σ
    | o :: rest =>
      if okDst nt o.dst then
        match o.guard with
        | none => neuK C ro σ.h (ev σ) o.op fun y => putV o.dst y σ fun σ => nopsK C ro nt ops n R res rest σ K
        | some q =>
          match gslot ops q.1 with
          | none => none
          | some s =>
            if Nat.blt s nt then
              match look σ.t s with
              | .p (.tuple _) => putF o.dst (.p undef) σ fun σ => nopsK C ro nt ops n R res rest σ K
              | .p (.bool b) =>
                if memT res s then
                  bif b == q.2 then neuK C ro σ.h (ev σ) o.op fun y => putV o.dst y σ fun σ => nopsK C ro nt ops n R res rest σ K
                  else putF o.dst (.p undef) σ fun σ => nopsK C ro nt ops n R res rest σ K
                else
                  match splitPick s (o :: rest) with
                  | some g =>
                    bindI (bif b then nopsK C ro nt ops n Bool (s :: res) g.1 (σ.put (some s) (.p (.bool true))) (fun τ => asBool? (look τ.t g.2.1))
                      else nopsK C ro nt ops n Bool (s :: res) g.1 (σ.put (some s) (.p (.bool false))) (fun τ => asBool? (look τ.t g.2.1)))
                      fun t => nopsK C ro nt ops n R res g.2.2 ((junks g.1 σ).put (some g.2.1) (.p (.bool t))) K
                  | none => none
              | _ => none
            else none
      else none

section
variable {P : Program} {nt : Nat} {ops : Array Oper}
theorem NTr.other [GTab] {l : List Oper} {σ τ : St} (h : NTr P nt ops l σ τ) (i : Nat) : (∀ o ∈ l, o.dst ≠ some i) → look τ.t i = look σ.t i := by
  induction h with
  | nil => exact fun _ => rfl
  | cons hd hy _ ih => exact fun hn => (ih fun o ho => hn o (List.mem_cons_of_mem _ ho)).trans (look_put (hn _ List.mem_cons_self))
theorem sim_put {σ : St} {s : Nat} {x : AV} (h : look σ.t s = x) : Sim σ (σ.put (some s) x) := ⟨fun i => by
  simp only [St.put, look]
  split
  · rename_i he; subst he; exact h
  · rfl, rfl⟩
/-- Behind a guarded part. -/
theorem after [GTab] {g : List Oper} {σ τ : St} {d : Nat} {t : Bool} (h : NTr P nt ops g σ τ) (hd : look τ.t d = .p (.bool t)) : Weak τ ((junks g σ).put (some d) (.p (.bool t))) := by
  refine ⟨by rw [St.put_h, junks_h, h.heap], fun i => ?_⟩
  by_cases hi : d = i
  · subst hi
    exact .inr (by simp [St.put, look, hd])
  · rw [look_put (fun e => hi (Option.some.inj e))]
    rcases junks_look i g σ with h1 | ⟨h1, h2⟩
    · exact .inl h1
    · exact .inr (h1.trans (h.other i h2).symm)
theorem nopsK_ok [GTab] {C : Cfg} {ro : Rok} (hro : RokOk C.P ro) : ∀ (n : Nat) (R : Type) (res : List Tmp) (l : List Oper) (σ : St) (K : St → Option R) (r : R), nopsK C ro nt ops n R res l σ K = some r → ∃ τ τ', NTr C.P nt ops l σ τ ∧ Weak τ τ' ∧ K τ' = some r
  | 0, _, _, _, _, _, _, hk => by cases hk
  | n + 1, R, res, l, σ, K, r, hk => by
    have ih := nopsK_ok hro n
    unfold nopsK at hk
    simp only [putV_eq, putF_eq] at hk
    split at hk
    · exact ⟨σ, σ, .nil _, .refl _, hk⟩
    · rename_i o rest
      split at hk
      case isFalse => cases hk
      rename_i hd
      -- one operation, carried out
      have on : Gd nt ops σ o true → neuK C ro σ.h (ev σ) o.op (fun y => nopsK C ro nt ops n R res rest (σ.put o.dst y) K) = some r → ∃ τ τ', NTr C.P nt ops (o :: rest) σ τ ∧ Weak τ τ' ∧ K τ' = some r := fun hg hk => by
        obtain ⟨y, h1, h2⟩ := neuK_ok hro hk
        obtain ⟨τ, τ', h3, h4, h5⟩ := ih R res rest _ K r h2
        exact ⟨τ, τ', .cons hd (.on hg h1) h3, h4, h5⟩
      have off : Gd nt ops σ o false → nopsK C ro nt ops n R res rest (σ.put o.dst (.p undef)) K = some r → ∃ τ τ', NTr C.P nt ops (o :: rest) σ τ ∧ Weak τ τ' ∧ K τ' = some r := fun hg hk => by
        obtain ⟨τ, τ', h3, h4, h5⟩ := ih R res rest _ K r hk
        exact ⟨τ, τ', .cons hd (.off hg) h3, h4, h5⟩
      split at hk
      · rename_i hg
        exact on (.none hg) hk
      · rename_i q hg
        obtain ⟨j, want⟩ := q
        split at hk
        · cases hk
        · rename_i s hs
          split at hk
          case isFalse => cases hk
          rename_i hlt
          have hlt : s < nt := by simpa [Nat.blt, Nat.succ_le_iff] using hlt
          split at hk
          · rename_i vs hl
            exact off (.some hg hs hlt (by rw [hl]; rfl)) hk
          · rename_i b hl
            split at hk
            · have hgd : Gd nt ops σ o (b == want) := .some hg hs hlt (by rw [hl]; rfl)
              cases hbw : b == want with
              | true => rw [hbw] at hk hgd; exact on hgd hk
              | false => rw [hbw] at hk hgd; exact off hgd hk
            · split at hk
              · rename_i g hsp
                obtain ⟨grp, d, rest2⟩ := g
                have hll := splitPick_ok hsp
                obtain ⟨t, hin, hk⟩ := bindI_inv hk
                obtain ⟨τ1, τ1', h1, h2, h3⟩ : ∃ τ1 τ1', NTr C.P nt ops grp (σ.put (some s) (.p (.bool b))) τ1 ∧ Weak τ1 τ1' ∧ asBool? (look τ1'.t d) = some t := by
                  cases b with
                  | true => exact ih Bool _ grp _ _ t hin
                  | false => exact ih Bool _ grp _ _ t hin
                have h3 := asBool?_inv h3
                obtain ⟨τ2, h4, h5⟩ := h1.strong (Weak.sim (sim_put hl))
                have hd2 : look τ2.t d = .p (.bool t) := by
                  rcases h2.2 d with h6 | h6
                  · rw [h6] at h3; cases h3
                  · rcases h5.2 d with h7 | h7
                    · rw [h6, h7] at h3; cases h3
                    · rw [← h7, ← h6]; exact h3
                obtain ⟨τ3, τ3', h6, h7, h8⟩ := ih R res rest2 _ K r hk
                obtain ⟨τ4, h9, h10⟩ := h6.strong (after h4 hd2)
                exact ⟨τ4, τ3', hll ▸ h4.append h9, h10.trans h7, h8⟩
              · cases hk
          · cases hk

def opsK [GTab] (C : Cfg) (call : Callk) (ro : Rok) (nt : Nat) (ops : Array Oper) {R : Type} : Nat → List Oper → St → (St → Option R) → Option R
  | 0, _, _, _ => none
  | n + 1, l, σ, K =>
    match l with
    | [] => K σ
    | o :: rest =>
      if okDst nt o.dst then
        match o.guard with
        | none => stepK C call σ.h (ev σ) o.op fun h' y => putV o.dst y ⟨σ.t, h'⟩ fun σ => opsK C call ro nt ops n rest σ K
        | some q =>
          match gslot ops q.1 with
          | none => none
          | some s =>
            if Nat.blt s nt then
              match look σ.t s with
              | .p (.bool b) =>
                match splitPick s (o :: rest) with
                | some g =>
                  bindI (bif b then nopsK C ro nt ops n Bool [s] g.1 (σ.put (some s) (.p (.bool true))) (fun τ => asBool? (look τ.t g.2.1))
                    else nopsK C ro nt ops n Bool [s] g.1 (σ.put (some s) (.p (.bool false))) (fun τ => asBool? (look τ.t g.2.1)))
                    fun t => opsK C call ro nt ops n g.2.2 ((junks g.1 σ).put (some g.2.1) (.p (.bool t))) K
                | none => none
              | _ => none
            else none
      else none
theorem opsK_ok [GTab] {C : Cfg} {call : Callk} {ro : Rok} (hcall : CallOk C.P call) (hro : RokOk C.P ro) {R : Type} : ∀ (n : Nat) (l : List Oper) (σ : St) (K : St → Option R) (r : R), opsK C call ro nt ops n l σ K = some r → ∃ τ τ', Tr C.P nt ops l σ τ ∧ Weak τ τ' ∧ K τ' = some r
  | 0, _, _, _, _, hk => by cases hk
  | n + 1, l, σ, K, r, hk => by
    have ih := opsK_ok hcall hro (R := R) n
    unfold opsK at hk
    simp only [putV_eq, putF_eq] at hk
    split at hk
    · exact ⟨σ, σ, .nil _, .refl _, hk⟩
    · rename_i o rest
      split at hk
      case isFalse => cases hk
      rename_i hd
      split at hk
      · rename_i hg
        obtain ⟨h', y, h1, h2⟩ := stepK_ok hcall hk
        obtain ⟨τ, τ', h3, h4, h5⟩ := ih rest _ K r h2
        exact ⟨τ, τ', .on hd (.none hg) h1 h3, h4, h5⟩
      · rename_i q hg
        obtain ⟨j, want⟩ := q
        split at hk
        · cases hk
        · rename_i s hs
          split at hk
          case isFalse => cases hk
          split at hk
          · rename_i b hl
            split at hk
            · rename_i g hsp
              obtain ⟨grp, d, rest2⟩ := g
              have hll := splitPick_ok hsp
              obtain ⟨t, hin, hk⟩ := bindI_inv hk
              obtain ⟨τ1, τ1', h1, h2, h3⟩ : ∃ τ1 τ1', NTr C.P nt ops grp (σ.put (some s) (.p (.bool b))) τ1 ∧ Weak τ1 τ1' ∧ asBool? (look τ1'.t d) = some t := by
                cases b with
                | true => exact nopsK_ok hro n Bool _ grp _ _ t hin
                | false => exact nopsK_ok hro n Bool _ grp _ _ t hin
              have h3 := asBool?_inv h3
              obtain ⟨τ2, h4, h5⟩ := h1.strong (Weak.sim (sim_put hl))
              have hd2 : look τ2.t d = .p (.bool t) := by
                rcases h2.2 d with h6 | h6
                · rw [h6] at h3; cases h3
                · rcases h5.2 d with h7 | h7
                  · rw [h6, h7] at h3; cases h3
                  · rw [← h7, ← h6]; exact h3
              obtain ⟨τ3, τ3', h6, h7, h8⟩ := ih rest2 _ K r hk
              obtain ⟨τ4, h9, h10⟩ := h6.strong (after h4 hd2)
              exact ⟨τ4, τ3', hll ▸ h4.tr.append h9, h10.trans h7, h8⟩
            · cases hk
          · cases hk
end
end Go.Up

/- Vp, part p: regions that draw their order: one walk in the text's order serves every order. -/
import Derived.Test.YtmbepfdnmgiifaaVk
import Derived.Still
set_option linter.unusedVariables false
set_option linter.unusedSimpArgs false
namespace Go.Vp
open Go.RowKit

/-- A call of a function of values alone, what follows told of its value. -/
def PCallW (P : Program) (g : Bool) (f : FuncId) (args : List AV) (R : AV → Prop) (_ : Ph R) : Prop := ∃ r, (g = true → APure P f args r) ∧ R r
theorem APure.callQ {P : Program} {g : Bool} {f : FuncId} {args : List AV} {r : AV} {R : AV → Prop} {ph : Ph R} (hc : APure P f args r) (hq : R r) : PCallW P g f args R ph := ⟨r, fun _ => hc, hq⟩
theorem APure.callQE {P : Program} {g : Bool} {f : FuncId} {args args' : List AV} {r : AV} {R : AV → Prop} {ph : Ph R} (hc : APure P f args r) (he : args' = args) (hq : R r) : PCallW P g f args' R ph := ⟨r, fun _ => he ▸ hc, hq⟩
theorem APure.callQg {P : Program} {g : Bool} {f : FuncId} {args : List AV} {R : AV → Prop} {ph : Ph R} (r : AV) (hc : g = true → APure P f args r) (hq : R r) : PCallW P g f args R ph := ⟨r, hc, hq⟩

/-- What leaves the abstract heap alone, beside the pure operations. -/
def qimp (P : Program) (e : Operand → AV) (g : Bool) (op : Op) (R : AV → Prop) (_ : Ph R) : Prop :=
  match op with
  | .buildSlice t len parts => oM (tz P t) (fun k => parts.toList.map (·.1) = List.range len ∧ len ≤ 16777216 ∧ len * k.2.1 ≤ 16777216 ∧ chunk k.2.1 (parts.toList.map fun x => e x.2) ∧
        R (.sl k.2.1 (parts.toList.map fun x => (e x.2).cells.map w1) (some len))) .mk
  | .call c => if isAppend c.callee = true then False
      else oM (valueOf c.callee) (fun fo => oks g (c.args.toList.map e) ∧ oM (fcall (e fo) (c.args.toList.map fun x => (ug g (e x)).2)) (fun fa => PCallW P g fa.1 fa.2 R .mk) .mk) .mk
  | _ => False

theorem qimp_inv {P : Program} {e : Operand → AV} {g : Bool} {op : Op} {R : AV → Prop} {ph : Ph R} (h : qimp P e g op R ph) : ∃ r, R r ∧ qimp P e g op (fun r' => r' = r) .mk := by
  unfold qimp at h
  split at h
  · obtain ⟨k, hk, h1, h2, h3, h4, h5⟩ := oM_inv h
    exact ⟨_, h5, by unfold qimp; dsimp only; rw [hk]; exact ⟨h1, h2, h3, h4, rfl⟩⟩
  · rename_i c
    split at h
    · exact h.elim
    · rename_i hn
      obtain ⟨fo, hf, ho, h⟩ := oM_inv h
      obtain ⟨fa, hfa, r, hc, hr⟩ := oM_inv h
      exact ⟨r, hr, by unfold qimp; dsimp only; rw [if_neg hn, hf]; refine ⟨ho, ?_⟩; rw [hfa]; exact ⟨r, hc, rfl⟩⟩
  · exact h.elim

theorem qimp_aimp {P : Program} {σ : St} {g : Bool} {o : Oper} {r : AV} {ph : Ph (fun r' => r' = r)} (hg : g = true) (h : qimp P (ev σ) g o.op (fun r' => r' = r) ph) : aimp P σ g o (fun σ' => σ' = σ.put o.dst r) := by
  unfold qimp at h
  unfold aimp
  split at h
  · rename_i hop
    rw [hop]; dsimp only
    obtain ⟨k, hk, h1, h2, h3, h4, h5⟩ := oM_inv h
    rw [hk]; exact ⟨h1, h2, h3, h4, by rw [h5]⟩
  · rename_i c hop
    rw [hop]; dsimp only
    split at h
    · exact h.elim
    · rename_i hn
      rw [if_neg hn]
      obtain ⟨fo, hf, ho, h⟩ := oM_inv h
      rw [hf]
      obtain ⟨fa, hfa, r2, hc, hr⟩ := oM_inv h
      refine ⟨ho, ?_⟩
      rw [hfa]
      exact (hc hg).call (by rw [hr])
  · exact h.elim

section
variable {P : Program} {E0 : Env} {n0 : Nat} {w0 : World} {nt : Nat} {ops : Array Oper} {md : Region.Mode}

/-- What an operation yields. -/
inductive AY (P : Program) (nt : Nat) (ops : Array Oper) (σ : St) (o : Oper) : AV → Prop
  | pure {ok : Prop} {r : AV} : o.guard = none → ypure P σ true o.op = some (ok, r) → ok → AY P nt ops σ o r
  | imp {r : AV} : o.guard = none → ypure P σ true o.op = none → qimp P (ev σ) true o.op (fun r' => r' = r) .mk → AY P nt ops σ o r
  | gpure {j s : Nat} {want g : Bool} {ok : Prop} {r : AV} : o.guard = some (j, want) → gslot ops j = some s → s < nt → gq want (look σ.t s) = some g → ypure P σ g o.op = some (ok, r) → (g = true → ok) → AY P nt ops σ o (.gd g r)
  | gimp {j s : Nat} {want g : Bool} {r : AV} : o.guard = some (j, want) → gslot ops j = some s → s < nt → gq want (look σ.t s) = some g → ypure P σ g o.op = none → qimp P (ev σ) g o.op (fun r' => r' = r) .mk → AY P nt ops σ o (.gd g r)
  | goff {j s : Nat} {want : Bool} : o.guard = some (j, want) → gslot ops j = some s → s < nt → gq want (look σ.t s) = some false → AY P nt ops σ o (.p undef)

theorem SRel.gdT {E : Env} {σ : St} {a : Act} {w : World} {d : Option Tmp} {r : AV} (h : SRel E0 n0 w0 nt E (σ.put d r) a w) : SRel E0 n0 w0 nt E (σ.put d (.gd true r)) a w := by
  cases d with
  | none => exact h
  | some d =>
    refine { h with tm := fun i => ?_, lt := fun i => ?_ }
    · have := h.tm i
      simp only [St.put, look] at this ⊢
      split
      · rename_i hi; rw [if_pos hi] at this; exact Rel.gd (fun _ => this) (fun hf => by cases hf)
      · rename_i hi; rw [if_neg hi] at this; exact this
    · have := h.lt i
      simp only [St.put, look] at this ⊢
      split
      · rename_i hi; rw [if_pos hi] at this; exact .gd fun _ => this
      · rename_i hi; rw [if_neg hi] at this; exact this

theorem AY.sound {E : Env} {σ : St} {a : Act} {w : World} {o : Oper} {r : AV} {i : Nat} {K : Act → World → Prop} {Q : Exit → Act → World → Prop} (h : SRel E0 n0 w0 nt E σ a w) (hi : ops[i]? = some o) (hd : okDst nt o.dst = true) (hy : AY P nt ops σ o r)
    (hK : ∀ E' a' w', SRel E0 n0 w0 nt E' (σ.put o.dst r) a' w' → K a' w') : wpOp P ops Q i K a w := by
  unfold wpOp
  rw [hi]
  dsimp only
  cases hy with
  | pure hg hy hok =>
    rw [if_pos (by simp [Region.wanted, hg])]
    obtain ⟨v, hv, hr, hl⟩ := ypure_sound h rfl hy hok
    refine .inl ?_
    simp only [Oper.wp, hv, Oper.upon]
    exact hK E _ w (h.put hd hr hl)
  | imp hg hy hq =>
    rw [if_pos (by simp [Region.wanted, hg])]
    exact .inl (aimp_sound h rfl hd (qimp_aimp rfl hq) (fun E' σ' a' w' h' hk' => by subst hk'; exact hK E' a' w' h'))
  | @gpure j s want g ok r hg hs hlt hq hy hok =>
    have hw := gq_sound h hg hs hlt hq
    cases hgv : g with
    | true =>
      rw [hw, hgv, if_pos rfl]
      obtain ⟨v, hv, hr, hl⟩ := ypure_sound h hgv hy (hok hgv)
      refine .inl ?_
      simp only [Oper.wp, hv, Oper.upon]
      rw [hgv] at hK
      exact hK E _ w (h.put hd (Rel.gd (fun _ => hr) (fun hf => by cases hf)) (.gd fun _ => hl))
    | false =>
      rw [hw, hgv, if_neg (by simp)]
      rw [hgv] at hK
      exact hK E _ w (h.put hd (Rel.gd (fun ht => by cases ht) (fun _ => rfl)) (.gd fun ht => by cases ht))
  | @gimp j s want g r hg hs hlt hq hy hqi =>
    have hw := gq_sound h hg hs hlt hq
    cases hgv : g with
    | true =>
      rw [hw, hgv, if_pos rfl]
      rw [hgv] at hK
      exact .inl (aimp_sound h hgv hd (qimp_aimp hgv hqi) (fun E' σ' a' w' h' hk' => by subst hk'; exact hK E' a' w' h'.gdT))
    | false =>
      rw [hw, hgv, if_neg (by simp)]
      rw [hgv] at hK
      exact hK E _ w (h.put hd (Rel.gd (fun ht => by cases ht) (fun _ => rfl)) (.gd fun ht => by cases ht))
  | goff hg hs hlt hq =>
    have hw := gq_sound h hg hs hlt hq
    rw [hw, if_neg (by simp)]
    exact hK E _ w (h.put hd (.pure (.p _)) (.p _))

/-! ### What an operation does not look at plays no part -/
theorem ypure_congr {σ σ' : St} {g : Bool} (hh : σ.h = σ'.h) (op : Op) (h : ∀ x ∈ op.operands, ev σ x = ev σ' x) : ypure P σ g op = ypure P σ' g op := by
  cases op <;> simp only [Op.operands] at h <;> simp only [ypure]
  case build t ps =>
    congr 1
    exact List.map_congr_left fun p hp => by rw [h p.2 (by simp; exact ⟨p.1, by simpa using hp⟩)]
  case makeFunc fn first captured =>
    rw [List.map_congr_left (l := first.toList) fun x hx => h x (by simp at hx; simp [hx]), List.map_congr_left (l := captured.toList) fun x hx => h x (by simp at hx; simp [hx])]
  case call c =>
    have hargs : ∀ x ∈ c.args.toList, ev σ x = ev σ' x := fun x hx => h x (by simp at hx; simp [Call.operands, hx])
    cases c.callee <;> dsimp only
    rw [List.map_congr_left (l := c.args.toList) (f := fun x => (ug g (ev σ x)).2) (g := fun x => (ug g (ev σ' x)).2) fun x hx => by rw [hargs x hx], List.map_congr_left (l := c.args.toList) hargs]
  case slice t x lo hi mx => cases lo <;> cases hi <;> cases mx <;> simp_all
  all_goals (first | rfl | (simp_all; done))

theorem qimp_congr {e e' : Operand → AV} {g : Bool} {R : AV → Prop} {ph : Ph R} (op : Op) (h : ∀ x ∈ op.operands, e x = e' x) (hq : qimp P e g op R ph) : qimp P e' g op R ph := by
  unfold qimp at *
  split at hq
  · rename_i t len parts
    simp only [Op.operands] at h
    have h1 : (parts.toList.map fun x => e x.2) = parts.toList.map fun x => e' x.2 := List.map_congr_left fun p hp => by rw [h p.2 (by simp; exact ⟨p.1, by simpa using hp⟩)]
    have h2 : (parts.toList.map fun x => (e x.2).cells.map w1) = parts.toList.map fun x => (e' x.2).cells.map w1 := List.map_congr_left fun p hp => by rw [h p.2 (by simp; exact ⟨p.1, by simpa using hp⟩)]
    rw [← h1, ← h2]; exact hq
  · rename_i c
    simp only [Op.operands] at h
    have hargs : ∀ x ∈ c.args.toList, e x = e' x := fun x hx => h x (by simp at hx; simp [Call.operands, hx])
    split at hq
    · exact hq.elim
    · rename_i hn
      rw [if_neg hn]
      obtain ⟨fo, hf, ho, hq⟩ := oM_inv hq
      have hfo : e fo = e' fo := h fo (by
        unfold valueOf at hf
        split at hf
        · rename_i hc; injection hf with hf; subst hf; simp [Call.operands, hc]
        · cases hf)
      rw [hf]
      have h1 : c.args.toList.map e = c.args.toList.map e' := List.map_congr_left hargs
      have h2 : (c.args.toList.map fun x => (ug g (e x)).2) = c.args.toList.map fun x => (ug g (e' x)).2 := List.map_congr_left fun x hx => by rw [hargs x hx]
      refine ⟨h1 ▸ ho, ?_⟩
      rw [← h2, ← hfo]; exact hq
  · exact hq.elim

theorem AY.congr {σ σ' : St} {o : Oper} {r : AV} (hh : σ.h = σ'.h) (h : ∀ d ∈ o.looksAt ops, look σ.t d = look σ'.t d) (hy : AY P nt ops σ o r) : AY P nt ops σ' o r := by
  have hx : ∀ x ∈ o.op.operands, ev σ x = ev σ' x := fun x hx => by
    cases x with
    | tmp t => exact h t (List.mem_append_left _ (List.mem_filterMap.2 ⟨.tmp t, by simpa using hx, rfl⟩))
    | _ => rfl
  have hgd : ∀ {j s : Nat} {want : Bool}, o.guard = some (j, want) → gslot ops j = some s → look σ.t s = look σ'.t s := fun {j s want} hg hs => h s (by
    refine List.mem_append_right _ ?_
    unfold gslot at hs
    simp [hg, hs])
  cases hy with
  | pure hg hy hok => exact .pure hg (by rw [← ypure_congr hh _ hx]; exact hy) hok
  | imp hg hy hq => exact .imp hg (by rw [← ypure_congr hh _ hx]; exact hy) (qimp_congr _ hx hq)
  | gpure hg hs hlt hq hy hok => exact .gpure hg hs hlt (by rw [← hgd hg hs]; exact hq) (by rw [← ypure_congr hh _ hx]; exact hy) hok
  | gimp hg hs hlt hq hy hqi => exact .gimp hg hs hlt (by rw [← hgd hg hs]; exact hq) (by rw [← ypure_congr hh _ hx]; exact hy) (qimp_congr _ hx hqi)
  | goff hg hs hlt hq => exact .goff hg hs hlt (by rw [← hgd hg hs]; exact hq)

/-- The same state, slot by slot. -/
def Sim (σ σ' : St) : Prop := (∀ i, look σ.t i = look σ'.t i) ∧ σ.h = σ'.h
theorem Sim.refl (σ : St) : Sim σ σ := ⟨fun _ => rfl, rfl⟩
theorem Sim.symm {σ σ' : St} (h : Sim σ σ') : Sim σ' σ := ⟨fun i => (h.1 i).symm, h.2.symm⟩
theorem Sim.trans {σ σ' σ'' : St} (h : Sim σ σ') (k : Sim σ' σ'') : Sim σ σ'' := ⟨fun i => (h.1 i).trans (k.1 i), h.2.trans k.2⟩
theorem Sim.put {σ σ' : St} (h : Sim σ σ') (d : Option Tmp) (x : AV) : Sim (σ.put d x) (σ'.put d x) := by
  cases d with
  | none => exact h
  | some d => exact ⟨fun i => by simp only [St.put, look]; rw [h.1 i], h.2⟩
theorem look_put {σ : St} {d : Option Tmp} {x : AV} {i : Nat} (h : d ≠ some i) : look (σ.put d x).t i = look σ.t i := by
  cases d with
  | none => rfl
  | some d => simp only [St.put, look]; rw [if_neg fun e => h (by rw [e])]
theorem Sim.comm (σ : St) {d e : Option Tmp} (x y : AV) (h : ∀ k, d = some k → e ≠ some k) : Sim ((σ.put d x).put e y) ((σ.put e y).put d x) := by
  cases d with
  | none => exact .refl _
  | some d =>
    cases e with
    | none => exact .refl _
    | some e =>
      have hne : d ≠ e := fun he => h d rfl (he ▸ rfl)
      refine ⟨fun i => ?_, rfl⟩
      simp only [St.put, look]
      by_cases h1 : e = i
      · rw [if_pos h1, if_neg (fun h2 => hne (h2.trans h1.symm)), if_pos h1]
      · rw [if_neg h1, if_neg h1]
theorem SRel.sim {E : Env} {σ σ' : St} {a : Act} {w : World} (h : SRel E0 n0 w0 nt E σ a w) (k : Sim σ σ') : SRel E0 n0 w0 nt E σ' a w := by
  obtain ⟨t, hp⟩ := σ; obtain ⟨t', hp'⟩ := σ'
  obtain ⟨k1, k2⟩ := k
  dsimp only at k1 k2
  subst k2
  exact { h with tm := fun i => (k1 i) ▸ h.tm i, lt := fun i => (k1 i) ▸ h.lt i }

def aOp (P : Program) (nt : Nat) (ops : Array Oper) (i : Nat) (K : St → Prop) (σ : St) : Prop :=
  match ops[i]? with
  | none => K σ
  | some o => okDst nt o.dst = true ∧ ∃ r, AY P nt ops σ o r ∧ K (σ.put o.dst r)
def anyA (P : Program) (nt : Nat) (md : Region.Mode) (ops : Array Oper) (K : St → Prop) : Nat → Array Bool → St → Prop
  | 0, listed, σ => Region.ready md ops listed = [] ∧ K σ
  | fuel + 1, listed, σ => (Region.ready md ops listed = [] → K σ) ∧ ∀ i ∈ Region.ready md ops listed, aOp P nt ops i (anyA P nt md ops K fuel (listed.setIfInBounds i true)) σ

theorem aOp_mono {i : Nat} {σ : St} {K K' : St → Prop} (h : ∀ σ, K σ → K' σ) (hh : aOp P nt ops i K σ) : aOp P nt ops i K' σ := by
  unfold aOp at *
  split
  · rename_i e; rw [e] at hh; exact h _ hh
  · rename_i o e; rw [e] at hh; obtain ⟨h1, r, h2, h3⟩ := hh; exact ⟨h1, r, h2, h _ h3⟩
theorem aOp_sim {i : Nat} {σ σ' : St} {K : St → Prop} (hK : ∀ σ σ', Sim σ σ' → K σ → K σ') (h : Sim σ σ') (hh : aOp P nt ops i K σ) : aOp P nt ops i K σ' := by
  unfold aOp at *
  split
  · rename_i e; rw [e] at hh; exact hK _ _ h hh
  · rename_i o e; rw [e] at hh; obtain ⟨h1, r, h2, h3⟩ := hh; exact ⟨h1, r, h2.congr h.2 (fun d _ => h.1 d), hK _ _ (h.put _ _) h3⟩
theorem anyA_sim {K : St → Prop} (hK : ∀ σ σ', Sim σ σ' → K σ → K σ') : ∀ (fuel : Nat) (listed : Array Bool) (σ σ' : St), Sim σ σ' → anyA P nt md ops K fuel listed σ → anyA P nt md ops K fuel listed σ'
  | 0, _, _, _, h, hh => ⟨hh.1, hK _ _ h hh.2⟩
  | fuel + 1, _, _, _, h, hh => ⟨fun e => hK _ _ h (hh.1 e), fun i hi => aOp_sim (anyA_sim hK fuel _) h (hh.2 i hi)⟩

theorem aOp_put {j : Nat} {oi oj : Oper} {v : AV} (hj : ops[j]? = some oj) (hap : oi.apart ops oj = true) {K : St → Prop} (hK : ∀ σ σ', Sim σ σ' → K σ → K σ') {σ : St}
    (hy : AY P nt ops σ oi v) (h : aOp P nt ops j K (σ.put oi.dst v)) : aOp P nt ops j (fun σ' => AY P nt ops σ' oi v ∧ K (σ'.put oi.dst v)) σ := by
  obtain ⟨h1, h2, h3⟩ := Oper.apart_spec hap
  unfold aOp at *
  rw [hj] at h ⊢
  dsimp only at h ⊢
  obtain ⟨hd, r, hr, hk⟩ := h
  refine ⟨hd, r, hr.congr (St.put_h _ _ _) (fun d hdm => look_put fun e => h1 d e hdm), ?_, hK _ _ (Sim.comm σ v r h2) hk⟩
  exact hy.congr (St.put_h _ _ _).symm fun d hdm => (look_put fun e => h3 d e hdm).symm

theorem anyA_first {K : St → Prop} (hK : ∀ σ σ', Sim σ σ' → K σ → K σ') {i : Nat} {oi : Oper} {v : AV} (hi : ops[i]? = some oi) (hd : okDst nt oi.dst = true) :
    ∀ (fuel : Nat) (listed : Array Bool) (σ : St),
      (∀ j oj, ops[j]? = some oj → j ≠ i → listed.getD j true = false → (∀ e ∈ oj.after, Region.binds md e = true → e.on ≠ i) → oi.apart ops oj = true) →
      i ∈ Region.ready md ops listed → AY P nt ops σ oi v →
      anyA P nt md ops K fuel (listed.setIfInBounds i true) (σ.put oi.dst v) → anyA P nt md ops K (fuel + 1) listed σ := by
  have start : ∀ (fuel : Nat) (listed : Array Bool) (σ : St), AY P nt ops σ oi v → anyA P nt md ops K fuel listed (σ.put oi.dst v) → aOp P nt ops i (anyA P nt md ops K fuel listed) σ := fun fuel listed σ hy H => by
    unfold aOp; rw [hi]; exact ⟨hd, v, hy, H⟩
  intro fuel
  induction fuel with
  | zero =>
    intro listed σ _ hr hy H
    refine ⟨fun h => (by rw [h] at hr; cases hr), fun j hj => ?_⟩
    by_cases hji : j = i
    · subst hji; exact start _ _ _ hy H
    · have := ready_mono hj hji
      rw [H.1] at this
      cases this
  | succ fuel ih =>
    intro listed σ hfree hr hy H
    refine ⟨fun h => (by rw [h] at hr; cases hr), fun j hj => ?_⟩
    by_cases hji : j = i
    · subst hji; exact start _ _ _ hy H
    · have h1 := H.2 j (ready_mono hj hji)
      obtain ⟨hjun, oj, hoj, hall⟩ := mem_ready.1 hj
      have hnot : ∀ e ∈ oj.after, Region.binds md e = true → e.on ≠ i := fun e he hb heq => by
        have h1 := hall e he hb
        have h0 := (mem_ready.1 hr).1
        rw [heq] at h1
        rcases Nat.lt_or_ge i listed.size with h' | h'
        · simp [h'] at h0 h1; rw [h0] at h1; cases h1
        · simp [Array.getElem?_eq_none h'] at h1
      have h2 := aOp_put hoj (hfree j oj hoj hji hjun hnot) (anyA_sim hK _ _) hy h1
      have hfree' : ∀ k ok, ops[k]? = some ok → k ≠ i → (listed.setIfInBounds j true).getD k true = false →
          (∀ e ∈ ok.after, Region.binds md e = true → e.on ≠ i) → oi.apart ops ok = true := fun k ok hk hki hun hno => by
        refine hfree k ok hk hki ?_ hno
        by_cases hjk : j = k
        · subst hjk; exact hjun
        · rw [getD_set_ne true hjk] at hun; exact hun
      refine aOp_mono (fun σ' h3 => ih (listed.setIfInBounds j true) σ' hfree' (ready_mono hr (Ne.symm hji)) h3.1 ?_) h2
      rw [Array.setIfInBounds_comm _ _ hji]
      exact h3.2

theorem anyA_sound {K : St → Prop} {Q : Exit → Act → World → Prop} (hQ : ∀ E σ a w, SRel E0 n0 w0 nt E σ a w → K σ → Q .normal a w) : ∀ (fuel : Nat) (listed : Array Bool) (E : Env) (σ : St) (a : Act) (w : World), SRel E0 n0 w0 nt E σ a w →
    anyA P nt md ops K fuel listed σ → wpAny P md ops Q fuel listed a w
  | 0, _, _, _, _, _, h, hh => ⟨hh.1, hQ _ _ _ _ h hh.2⟩
  | fuel + 1, listed, E, σ, a, w, h, hh => ⟨fun e => hQ _ _ _ _ h (hh.1 e), fun i hi => by
    have h1 := hh.2 i hi
    unfold aOp at h1
    cases ho : ops[i]? with
    | none => rw [ho] at h1; unfold wpOp; rw [ho]; exact anyA_sound hQ fuel _ E σ a w h h1
    | some o =>
      rw [ho] at h1
      obtain ⟨hd, r, hy, hk⟩ := h1
      exact hy.sound h ho hd fun E' a' w' h' => anyA_sound hQ fuel _ E' _ a' w' h' hk⟩

/-- A guarded operation that is no pure one: left out, or carried out. -/
def Gq (g : Bool) (x y : Prop) (_ : PhP x) (_ : PhP y) : Prop := (g = false ∧ y) ∨ x
theorem Gq_true {x y : Prop} {p : PhP x} {q : PhP y} : Gq true x y p q = x := propext ⟨fun h => h.elim (fun h => by cases h.1) id, .inr⟩
theorem Gq_false {x y : Prop} {p : PhP x} {q : PhP y} (h : y) : Gq false x y p q := .inl ⟨rfl, h⟩
theorem Gq_any {g : Bool} {x y : Prop} {p : PhP x} {q : PhP y} (h : x) : Gq g x y p q := .inr h

/-- Operations that leave the abstract heap alone, one behind the other. -/
def apure (P : Program) (nt : Nat) (ops : Array Oper) : List Oper → St → (St → Prop) → Prop
  | [], σ, K => K σ
  | o :: rest, σ, K =>
    okDst nt o.dst = true ∧
    match o.guard with
    | none => bO (ypure P σ true o.op) (fun ok r => ok ∧ apure P nt ops rest (σ.put o.dst r) K) (qimp P (ev σ) true o.op (fun r => apure P nt ops rest (σ.put o.dst r) K) .mk) .mk .mk
    | some (j, want) => oM (gslot ops j) (fun s => s < nt ∧ oM (gq want (look σ.t s)) (fun g =>
        bO (ypure P σ g o.op) (fun ok r => (g = true → ok) ∧ apure P nt ops rest (σ.put o.dst (.gd g r)) K)
          (Gq g (qimp P (ev σ) g o.op (fun r => apure P nt ops rest (σ.put o.dst (.gd g r)) K) .mk) (apure P nt ops rest (σ.put o.dst (.p undef)) K) .mk .mk) .mk .mk) .mk) .mk

theorem apure_step {o : Oper} {rest : List Oper} {σ : St} {K : St → Prop} (h : apure P nt ops (o :: rest) σ K) : okDst nt o.dst = true ∧ ∃ r, AY P nt ops σ o r ∧ apure P nt ops rest (σ.put o.dst r) K := by
  simp only [apure] at h
  refine ⟨h.1, ?_⟩
  have h := h.2
  cases hg : o.guard with
  | none =>
    rw [hg] at h
    dsimp only at h
    unfold bO at h
    split at h
    · rename_i ok r hy
      exact ⟨r, .pure hg hy h.1, h.2⟩
    · rename_i hy
      obtain ⟨r, hr, hq⟩ := qimp_inv h
      exact ⟨r, .imp hg hy hq, hr⟩
  | some jw =>
    obtain ⟨j, want⟩ := jw
    rw [hg] at h
    dsimp only at h
    obtain ⟨s, hs, hlt, h⟩ := oM_inv h
    obtain ⟨g, hq, h⟩ := oM_inv h
    unfold bO at h
    split at h
    · rename_i ok r hy
      exact ⟨_, .gpure hg hs hlt hq hy h.1, h.2⟩
    · rename_i hy
      rcases h with ⟨h1, h2⟩ | h
      · subst h1; exact ⟨_, .goff hg hs hlt hq, h2⟩
      · obtain ⟨r, hr, hqi⟩ := qimp_inv h
        exact ⟨_, .gimp hg hs hlt hq hy hqi, hr⟩

theorem apure_lex {K K' : St → Prop} (hKK : ∀ σ, K σ → K' σ) (hK : ∀ σ σ', Sim σ σ' → K' σ → K' σ') : ∀ (l : List Oper) (k : Nat) (listed : Array Bool) (σ : St), (∀ j, l[j]? = ops[k + j]?) →
    Region.lexFrom md ops l.length k listed = true → apure P nt ops l σ K → anyA P nt md ops K' l.length listed σ
  | [], _, _, _, _, hB, h => ⟨by simpa [Region.lexFrom] using hB, hKK _ h⟩
  | o :: l, k, listed, σ, hl, hB, h => by
    have h0 : ops[k]? = some o := by simpa using (hl 0).symm
    simp only [List.length_cons, Region.lexFrom, Bool.and_eq_true] at hB
    obtain ⟨⟨hr, hf⟩, hB'⟩ := hB
    obtain ⟨hd, r, hy, hk⟩ := apure_step h
    exact anyA_first hK h0 hd l.length listed σ (Region.free_spec h0 hf) (by simpa using hr) hy
      (apure_lex hKK hK l (k + 1) _ _ (fun j => by have := hl (j + 1); simpa [Nat.add_assoc, Nat.add_comm 1 j] using this) hB' hk)

theorem SRel.drew {E : Env} {σ : St} {a : Act} {w : World} (h : SRel E0 n0 w0 nt E σ a w) : SRel E0 n0 w0 nt E σ a w.drew :=
  { tm := h.tm, lt := h.lt, blt := h.blt, sz := h.sz, df := h.df
    hr := ⟨h.hr.cells, h.hr.box, h.hr.row, h.hr.inj, h.hr.lt⟩
    ex := h.ex
    kp := ⟨h.kp.os, h.kp.tape, h.kp.output, h.kp.size, h.kp.block⟩
    fr := h.fr, nn := h.nn }

theorem apure_any {id : Nat} {K : St → Prop} {Q : Exit → Act → World → Prop} {E : Env} {σ : St} {a : Act} {w : World} (hm : P.follows .mixedOrders = true) (hB : Region.lexB .any ops = true) (h : SRel E0 n0 w0 nt E σ a w) (hk : apure P nt ops ops.toList σ K)
    (hK : ∀ E' σ' a' w', SRel E0 n0 w0 nt E' σ' a' w' → K σ' → Q .normal a' w') : (Code.region id ops true).wp P Q a w := by
  simp only [Region.lexB, Bool.and_eq_true] at hB
  refine wp_region_any hm (anyA_sound (K := fun σ' => ∃ σ'', Sim σ'' σ' ∧ K σ'') (fun E' σ' a' w' h' ⟨σ'', hs, hk⟩ => hK E' σ'' a' w' (h'.sim hs.symm) hk) _ _ E σ a _ h.drew ?_)
  have := apure_lex (P := P) (nt := nt) (ops := ops) (md := .any) (K' := fun σ' => ∃ σ'', Sim σ'' σ' ∧ K σ'') (fun σ h => ⟨σ, .refl _, h⟩) (fun σ σ' hs ⟨σ'', h1, h2⟩ => ⟨σ'', h1.trans hs, h2⟩) ops.toList 0 (Array.replicate ops.size false) σ (by simp) (by simpa using hB.2) hk
  simpa using this
end
end Go.Vp

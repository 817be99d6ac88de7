/- Up, part r: regions: one operation behind the other; regions that draw their order. -/
import Derived.Test.YtppobdnacmdgbaaDoorUq
import Derived.Still
import Derived.StillTail
set_option linter.unusedVariables false
set_option linter.unusedSimpArgs false
namespace Go.Up
open Go.RowKit

/-- Does a guard hold? -/
def gq (want : Bool) : AV → Option Bool
  | .p (.bool b) => some (b == want)
  | .p (.tuple _) => some false
  | _ => none
def gslot (ops : Array Oper) (j : Nat) : Option Tmp := (ops[j]?).bind (·.dst)

section
variable {P : Program} {E0 : Env} {n0 : NB} {w0 : World} {nt : Nat} {ops : Array Oper} {md : Region.Mode}

theorem gq_sound [GTab] {E : Env} {σ : St} {a : Act} {w : World} (h : SRel E0 n0 w0 nt E σ a w) {o : Oper} {j : Nat} {want g : Bool} {s : Tmp} (hg : o.guard = some (j, want)) (hs : gslot ops j = some s) (hlt : s < nt) (hq : gq want (look σ.t s) = some g) :
    Region.wanted o (yielded ops a.tmps) = g := by
  have hr := h.tm s
  have hsz : s < a.tmps.size := by rw [h.sz]; exact hlt
  have hget : a.tmps[s]? = some (a.tmps.getD s undef) := by simp [Array.getD, hsz]
  have hy : yielded ops a.tmps j = (match a.tmps.getD s undef with | .bool b => some b | _ => none) := by
    simp only [yielded]
    simp only [gslot] at hs
    rw [hs]
    simp only [Option.bind_some, hget]
    cases a.tmps.getD s undef <;> rfl
  simp only [Region.wanted, hg, hy]
  unfold gq at hq
  split at hq
  · rename_i b hl
    rw [hl] at hr
    rw [hr.p_inv]
    simp only [Option.some.injEq] at hq
    rw [← hq]
    cases b <;> cases want <;> rfl
  · rename_i c hl
    rw [hl] at hr
    rw [hr.p_inv]
    simp only [Option.some.injEq] at hq
    rw [← hq]
    cases want <;> rfl
  · cases hq

/-- What a guard comes to. -/
inductive Gd (nt : Nat) (ops : Array Oper) (σ : St) (o : Oper) : Bool → Prop
  | none : o.guard = none → Gd nt ops σ o true
  | some {j s : Nat} {want g : Bool} : o.guard = some (j, want) → gslot ops j = some s → s < nt → gq want (look σ.t s) = some g → Gd nt ops σ o g
theorem Gd.wanted [GTab] {E : Env} {σ : St} {a : Act} {w : World} {o : Oper} {g : Bool} (h : SRel E0 n0 w0 nt E σ a w) (hg : Gd nt ops σ o g) : Region.wanted o (yielded ops a.tmps) = g := by
  cases hg with
  | none h1 => simp [Region.wanted, h1]
  | some h1 h2 h3 h4 => exact gq_sound h h1 h2 h3 h4

/-- What an operation yields. -/
inductive AY [GTab] (P : Program) (nt : Nat) (ops : Array Oper) (σ : St) (o : Oper) : AV → Prop
  | on {r : AV} : Gd nt ops σ o true → ImpS P σ.h (ev σ) o.op σ.h r → AY P nt ops σ o r
  | off : Gd nt ops σ o false → AY P nt ops σ o (.p undef)

theorem ImpS.next [GTab] {E : Env} {σ : St} {a : Act} {w : World} {o : Oper} {h' : AH} {r : AV} {K : Act → World → Prop} {Q : Exit → Act → World → Prop} (h : SRel E0 n0 w0 nt E σ a w) (hd : okDst nt o.dst = true) (hi : ImpS P σ.h (ev σ) o.op h' r)
    (hK : ∀ E' a' w', SRel E0 n0 w0 nt E' (({ σ with h := h' } : St).put o.dst r) a' w' → K a' w') : o.wp P a w K Q :=
  (hi E w a.eval h.hr h.ok (h.ops _) o rfl).wp fun v w' ⟨E', h1, h2, h3⟩ => hK E' _ w' (h.step h1 hd h2 h3)
theorem AY.sound [GTab] {E : Env} {σ : St} {a : Act} {w : World} {o : Oper} {r : AV} {i : Nat} {K : Act → World → Prop} {Q : Exit → Act → World → Prop} (h : SRel E0 n0 w0 nt E σ a w) (hi : ops[i]? = some o) (hd : okDst nt o.dst = true) (hy : AY P nt ops σ o r)
    (hK : ∀ E' a' w', SRel E0 n0 w0 nt E' (σ.put o.dst r) a' w' → K a' w') : wpOp P ops Q i K a w := by
  unfold wpOp
  rw [hi]
  dsimp only
  cases hy with
  | on hg hi =>
    rw [hg.wanted h, if_pos rfl]
    exact .inl (ImpS.next h hd hi hK)
  | off hg =>
    rw [hg.wanted h, if_neg (by simp)]
    exact hK E _ w (h.put hd (.pure (.p _)) (.p _))

/-! ### What an operation does not look at plays no part -/
theorem ImpS.congr [GTab] {h : AH} {e e' : Operand → AV} {op : Op} {h' : AH} {r : AV} (he : ∀ x ∈ op.operands, e x = e' x) (hi : ImpS P h e op h' r) : ImpS P h e' op h' r :=
  fun E w vals hh hok hO o hop => hi E w vals hh hok ⟨fun x hx => he x hx ▸ hO.rel x hx, fun x hx => he x hx ▸ hO.lt x hx⟩ o hop
theorem Gd.congr {σ σ' : St} {o : Oper} {g : Bool} (h : ∀ d ∈ o.looksAt ops, look σ.t d = look σ'.t d) (hy : Gd nt ops σ o g) : Gd nt ops σ' o g := by
  cases hy with
  | none h1 => exact .none h1
  | @some j s want g hg hs hlt hq =>
    have : look σ.t s = look σ'.t s := h s (by
      refine List.mem_append_right _ ?_
      unfold gslot at hs
      simp [hg, hs])
    exact .some hg hs hlt (by rw [← this]; exact hq)
theorem AY.congr [GTab] {σ σ' : St} {o : Oper} {r : AV} (hh : σ.h = σ'.h) (h : ∀ d ∈ o.looksAt ops, look σ.t d = look σ'.t d) (hy : AY P nt ops σ o r) : AY P nt ops σ' o r := by
  have hx : ∀ x ∈ o.op.operands, ev σ x = ev σ' x := fun x hx => by
    cases x with
    | tmp t => exact h t (List.mem_append_left _ (List.mem_filterMap.2 ⟨.tmp t, by simpa using hx, rfl⟩))
    | const v => rfl
    | global g => simp only [ev, hh]
    | func f => rfl
  cases hy with
  | on hg hi => exact .on (hg.congr h) (by rw [← hh]; exact hi.congr hx)
  | off hg => exact .off (hg.congr h)

/-- The same state, slot by slot. -/
def Sim (σ σ' : St) : Prop := (∀ i, look σ.t i = look σ'.t i) ∧ σ.h = σ'.h
theorem Sim.refl (σ : St) : Sim σ σ := ⟨fun _ => rfl, rfl⟩
theorem Sim.symm {σ σ' : St} (h : Sim σ σ') : Sim σ' σ := ⟨fun i => (h.1 i).symm, h.2.symm⟩
theorem Sim.trans {σ σ' σ'' : St} (h : Sim σ σ') (k : Sim σ' σ'') : Sim σ σ'' := ⟨fun i => (h.1 i).trans (k.1 i), h.2.trans k.2⟩
theorem Sim.put {σ σ' : St} (h : Sim σ σ') (d : Option Tmp) (x : AV) : Sim (σ.put d x) (σ'.put d x) := by
  cases d with
  | none => exact h
  | some d => exact ⟨fun i => by simp only [St.put, look]; rw [h.1 i], h.2⟩
theorem look_put {σ : St} {d : Option Tmp} {x : AV} {i : Nat} (h : d ≠ some i) : look (σ.put d x).t i = look σ.t i := by
  cases d with
  | none => rfl
  | some d => simp only [St.put, look]; rw [if_neg fun e => h (by rw [e])]
theorem Sim.comm [GTab] (σ : St) {d e : Option Tmp} (x y : AV) (h : ∀ k, d = some k → e ≠ some k) : Sim ((σ.put d x).put e y) ((σ.put e y).put d x) := by
  cases d with
  | none => exact .refl _
  | some d =>
    cases e with
    | none => exact .refl _
    | some e =>
      have hne : d ≠ e := fun he => h d rfl (he ▸ rfl)
      refine ⟨fun i => ?_, rfl⟩
      simp only [St.put, look]
      by_cases h1 : e = i
      · rw [if_pos h1, if_neg (fun h2 => hne (h2.trans h1.symm)), if_pos h1]
      · rw [if_neg h1, if_neg h1]
theorem SRel.sim [GTab] {E : Env} {σ σ' : St} {a : Act} {w : World} (h : SRel E0 n0 w0 nt E σ a w) (k : Sim σ σ') : SRel E0 n0 w0 nt E σ' a w := by
  obtain ⟨t, hp⟩ := σ; obtain ⟨t', hp'⟩ := σ'
  obtain ⟨k1, k2⟩ := k
  dsimp only at k1 k2
  subst k2
  exact { h with tm := fun i => (k1 i) ▸ h.tm i, lt := fun i => (k1 i) ▸ h.lt i }

def aOp [GTab] (P : Program) (nt : Nat) (ops : Array Oper) (i : Nat) (K : St → Prop) (σ : St) : Prop :=
  match ops[i]? with
  | none => K σ
  | some o => okDst nt o.dst = true ∧ ∃ r, AY P nt ops σ o r ∧ K (σ.put o.dst r)
def anyA [GTab] (P : Program) (nt : Nat) (md : Region.Mode) (ops : Array Oper) (K : St → Prop) : Nat → Array Bool → St → Prop
  | 0, listed, σ => Region.ready md ops listed = [] ∧ K σ
  | fuel + 1, listed, σ => (Region.ready md ops listed = [] → K σ) ∧ ∀ i ∈ Region.ready md ops listed, aOp P nt ops i (anyA P nt md ops K fuel (listed.setIfInBounds i true)) σ

theorem aOp_mono [GTab] {i : Nat} {σ : St} {K K' : St → Prop} (h : ∀ σ, K σ → K' σ) (hh : aOp P nt ops i K σ) : aOp P nt ops i K' σ := by
  unfold aOp at *
  split
  · rename_i e; rw [e] at hh; exact h _ hh
  · rename_i o e; rw [e] at hh; obtain ⟨h1, r, h2, h3⟩ := hh; exact ⟨h1, r, h2, h _ h3⟩
theorem aOp_sim [GTab] {i : Nat} {σ σ' : St} {K : St → Prop} (hK : ∀ σ σ', Sim σ σ' → K σ → K σ') (h : Sim σ σ') (hh : aOp P nt ops i K σ) : aOp P nt ops i K σ' := by
  unfold aOp at *
  split
  · rename_i e; rw [e] at hh; exact hK _ _ h hh
  · rename_i o e; rw [e] at hh; obtain ⟨h1, r, h2, h3⟩ := hh; exact ⟨h1, r, h2.congr h.2 (fun d _ => h.1 d), hK _ _ (h.put _ _) h3⟩
theorem anyA_sim [GTab] {K : St → Prop} (hK : ∀ σ σ', Sim σ σ' → K σ → K σ') : ∀ (fuel : Nat) (listed : Array Bool) (σ σ' : St), Sim σ σ' → anyA P nt md ops K fuel listed σ → anyA P nt md ops K fuel listed σ'
  | 0, _, _, _, h, hh => ⟨hh.1, hK _ _ h hh.2⟩
  | fuel + 1, _, _, _, h, hh => ⟨fun e => hK _ _ h (hh.1 e), fun i hi => aOp_sim (anyA_sim hK fuel _) h (hh.2 i hi)⟩

theorem aOp_put [GTab] {j : Nat} {oi oj : Oper} {v : AV} (hj : ops[j]? = some oj) (hap : oi.apart ops oj = true) {K : St → Prop} (hK : ∀ σ σ', Sim σ σ' → K σ → K σ') {σ : St}
    (hy : AY P nt ops σ oi v) (h : aOp P nt ops j K (σ.put oi.dst v)) : aOp P nt ops j (fun σ' => AY P nt ops σ' oi v ∧ K (σ'.put oi.dst v)) σ := by
  obtain ⟨h1, h2, h3⟩ := Oper.apart_spec hap
  unfold aOp at *
  rw [hj] at h ⊢
  dsimp only at h ⊢
  obtain ⟨hd, r, hr, hk⟩ := h
  refine ⟨hd, r, hr.congr (St.put_h _ _ _) (fun d hdm => look_put fun e => h1 d e hdm), ?_, hK _ _ (Sim.comm σ v r h2) hk⟩
  exact hy.congr (St.put_h _ _ _).symm fun d hdm => (look_put fun e => h3 d e hdm).symm

theorem anyA_first [GTab] {K : St → Prop} (hK : ∀ σ σ', Sim σ σ' → K σ → K σ') {i : Nat} {oi : Oper} {v : AV} (hi : ops[i]? = some oi) (hd : okDst nt oi.dst = true) :
    ∀ (fuel : Nat) (listed : Array Bool) (σ : St),
      (∀ j oj, ops[j]? = some oj → j ≠ i → listed.getD j true = false → (∀ e ∈ oj.after, Region.binds md e = true → e.on ≠ i) → oi.apart ops oj = true) →
      i ∈ Region.ready md ops listed → AY P nt ops σ oi v →
      anyA P nt md ops K fuel (listed.setIfInBounds i true) (σ.put oi.dst v) → anyA P nt md ops K (fuel + 1) listed σ := by
  have start : ∀ (fuel : Nat) (listed : Array Bool) (σ : St), AY P nt ops σ oi v → anyA P nt md ops K fuel listed (σ.put oi.dst v) → aOp P nt ops i (anyA P nt md ops K fuel listed) σ := fun fuel listed σ hy H => by
    unfold aOp; rw [hi]; exact ⟨hd, v, hy, H⟩
  intro fuel
  induction fuel with
  | zero =>
    intro listed σ _ hr hy H
    refine ⟨fun h => (by rw [h] at hr; cases hr), fun j hj => ?_⟩
    by_cases hji : j = i
    · subst hji; exact start _ _ _ hy H
    · have := ready_mono hj hji
      rw [H.1] at this
      cases this
  | succ fuel ih =>
    intro listed σ hfree hr hy H
    refine ⟨fun h => (by rw [h] at hr; cases hr), fun j hj => ?_⟩
    by_cases hji : j = i
    · subst hji; exact start _ _ _ hy H
    · have h1 := H.2 j (ready_mono hj hji)
      obtain ⟨hjun, oj, hoj, hall⟩ := mem_ready.1 hj
      have hnot : ∀ e ∈ oj.after, Region.binds md e = true → e.on ≠ i := fun e he hb heq => by
        have h1 := hall e he hb
        have h0 := (mem_ready.1 hr).1
        rw [heq] at h1
        rcases Nat.lt_or_ge i listed.size with h' | h'
        · simp [h'] at h0 h1; rw [h0] at h1; cases h1
        · simp [Array.getElem?_eq_none h'] at h1
      have h2 := aOp_put hoj (hfree j oj hoj hji hjun hnot) (anyA_sim hK _ _) hy h1
      have hfree' : ∀ k ok, ops[k]? = some ok → k ≠ i → (listed.setIfInBounds j true).getD k true = false →
          (∀ e ∈ ok.after, Region.binds md e = true → e.on ≠ i) → oi.apart ops ok = true := fun k ok hk hki hun hno => by
        refine hfree k ok hk hki ?_ hno
        by_cases hjk : j = k
        · subst hjk; exact hjun
        · rw [getD_set_ne true hjk] at hun; exact hun
      refine aOp_mono (fun σ' h3 => ih (listed.setIfInBounds j true) σ' hfree' (ready_mono hr (Ne.symm hji)) h3.1 ?_) h2
      rw [Array.setIfInBounds_comm _ _ hji]
      exact h3.2

theorem anyA_sound [GTab] {K : St → Prop} {Q : Exit → Act → World → Prop} (hQ : ∀ E σ a w, SRel E0 n0 w0 nt E σ a w → K σ → Q .normal a w) : ∀ (fuel : Nat) (listed : Array Bool) (E : Env) (σ : St) (a : Act) (w : World), SRel E0 n0 w0 nt E σ a w →
    anyA P nt md ops K fuel listed σ → wpAny P md ops Q fuel listed a w
  | 0, _, _, _, _, _, h, hh => ⟨hh.1, hQ _ _ _ _ h hh.2⟩
  | fuel + 1, listed, E, σ, a, w, h, hh => ⟨fun e => hQ _ _ _ _ h (hh.1 e), fun i hi => by
    have h1 := hh.2 i hi
    unfold aOp at h1
    cases ho : ops[i]? with
    | none => rw [ho] at h1; unfold wpOp; rw [ho]; exact anyA_sound hQ fuel _ E σ a w h h1
    | some o =>
      rw [ho] at h1
      obtain ⟨hd, r, hy, hk⟩ := h1
      exact hy.sound h ho hd fun E' a' w' h' => anyA_sound hQ fuel _ E' _ a' w' h' hk⟩


/-- Operations one behind the other: how they go. -/
inductive Tr [GTab] (P : Program) (nt : Nat) (ops : Array Oper) : List Oper → St → St → Prop
  | nil (σ) : Tr P nt ops [] σ σ
  | on {o l σ τ h' r} : okDst nt o.dst = true → Gd nt ops σ o true → ImpS P σ.h (ev σ) o.op h' r → Tr P nt ops l (({ σ with h := h' } : St).put o.dst r) τ → Tr P nt ops (o :: l) σ τ
  | off {o l σ τ} : okDst nt o.dst = true → Gd nt ops σ o false → Tr P nt ops l (σ.put o.dst (.p undef)) τ → Tr P nt ops (o :: l) σ τ
/-- The same, where the abstract heap stays. -/
inductive NTr [GTab] (P : Program) (nt : Nat) (ops : Array Oper) : List Oper → St → St → Prop
  | nil (σ) : NTr P nt ops [] σ σ
  | cons {o l σ τ r} : okDst nt o.dst = true → AY P nt ops σ o r → NTr P nt ops l (σ.put o.dst r) τ → NTr P nt ops (o :: l) σ τ
theorem NTr.tr [GTab] {l : List Oper} {σ τ : St} (h : NTr P nt ops l σ τ) : Tr P nt ops l σ τ := by
  induction h with
  | nil => exact .nil _
  | cons hd hy _ ih =>
    cases hy with
    | on hg hi => exact .on hd hg hi ih
    | off hg => exact .off hd hg ih
theorem Tr.sound [GTab] {Q : Exit → Act → World → Prop} {l : List Oper} {σ τ : St} (ht : Tr P nt ops l σ τ) (hQ : ∀ E a w, SRel E0 n0 w0 nt E τ a w → Q .normal a w) : ∀ (E : Env) (a : Act) (w : World), SRel E0 n0 w0 nt E σ a w → wpList P ops Q l a w := by
  induction ht with
  | nil => exact fun E a w h => hQ E a w h
  | on hd hg hi _ ih =>
    intro E a w h
    unfold wpList
    rw [hg.wanted h, if_pos rfl]
    exact .inl (ImpS.next h hd hi fun E' a' w' h' => ih hQ E' a' w' h')
  | off hd hg _ ih =>
    intro E a w h
    unfold wpList
    rw [hg.wanted h, if_neg (by simp)]
    exact ih hQ E _ w (h.put hd (.pure (.p _)) (.p _))
theorem Tr.append [GTab] {l m : List Oper} {σ τ ρ : St} (h : Tr P nt ops l σ τ) (k : Tr P nt ops m τ ρ) : Tr P nt ops (l ++ m) σ ρ := by
  induction h with
  | nil => exact k
  | on hd hg hi _ ih => exact .on hd hg hi (ih k)
  | off hd hg _ ih => exact .off hd hg (ih k)
theorem NTr.append [GTab] {l m : List Oper} {σ τ ρ : St} (h : NTr P nt ops l σ τ) (k : NTr P nt ops m τ ρ) : NTr P nt ops (l ++ m) σ ρ := by
  induction h with
  | nil => exact k
  | cons hd hy _ ih => exact .cons hd hy (ih k)
theorem NTr.heap [GTab] {l : List Oper} {σ τ : St} (h : NTr P nt ops l σ τ) : τ.h = σ.h := by
  induction h with
  | nil => rfl
  | cons _ _ _ ih => rw [ih, St.put_h]

/-- What is known of a state, or less. -/
def Weak (σ σ' : St) : Prop := σ'.h = σ.h ∧ ∀ i, look σ'.t i = .junk ∨ look σ'.t i = look σ.t i
theorem Weak.refl (σ : St) : Weak σ σ := ⟨rfl, fun _ => .inr rfl⟩
theorem Weak.trans {σ τ ρ : St} (h : Weak σ τ) (k : Weak τ ρ) : Weak σ ρ := ⟨k.1.trans h.1, fun i => by
  rcases k.2 i with h1 | h1
  · exact .inl h1
  · rcases h.2 i with h2 | h2
    · exact .inl (h1.trans h2)
    · exact .inr (h1.trans h2)⟩
theorem Weak.sim {σ τ : St} (h : Sim σ τ) : Weak σ τ := ⟨h.2.symm, fun i => .inr (h.1 i).symm⟩
theorem SRel.weak [GTab] {E : Env} {σ σ' : St} {a : Act} {w : World} (h : SRel E0 n0 w0 nt E σ a w) (k : Weak σ σ') : SRel E0 n0 w0 nt E σ' a w := by
  obtain ⟨t, hp⟩ := σ; obtain ⟨t', hp'⟩ := σ'
  obtain ⟨k1, k2⟩ := k
  dsimp only at k1 k2
  subst k1
  refine { h with tm := fun i => ?_, lt := fun i => ?_ }
  · rcases k2 i with h1 | h1
    · dsimp only; rw [h1]; exact .pure (.junk _)
    · dsimp only; rw [h1]; exact h.tm i
  · rcases k2 i with h1 | h1
    · dsimp only; rw [h1]; exact .junk
    · dsimp only; rw [h1]; exact h.lt i
theorem Weak.put {σ σ' : St} (h : Weak σ σ') (d : Option Tmp) (x : AV) : Weak (σ.put d x) (σ'.put d x) := by
  cases d with
  | none => exact h
  | some d => exact ⟨h.1, fun i => by
      simp only [St.put, look]
      split
      · exact .inr rfl
      · exact h.2 i⟩
theorem Weak.heap {σ σ' : St} (h : Weak σ σ') (h' : AH) : Weak ({ σ with h := h' } : St) ({ σ' with h := h' } : St) := ⟨rfl, h.2⟩
theorem Weak.ev [GTab] {σ σ' : St} (h : Weak σ σ') (x : Operand) : ev σ' x = .junk ∨ ev σ' x = ev σ x := by
  cases x with
  | tmp t => exact h.2 t
  | const v => exact .inr rfl
  | global g => exact .inr (by simp only [Up.ev, h.1])
  | func f => exact .inr rfl
theorem ImpS.strong [GTab] {h : AH} {e e' : Operand → AV} {op : Op} {h' : AH} {r : AV} (he : ∀ x, e x = .junk ∨ e x = e' x) (hi : ImpS P h e op h' r) : ImpS P h e' op h' r :=
  fun E w vals hh hok hO o hop => hi E w vals hh hok ⟨fun x hx => by
    rcases he x with h1 | h1
    · rw [h1]; exact .pure (.junk _)
    · rw [h1]; exact hO.rel x hx, fun x hx => by
    rcases he x with h1 | h1
    · rw [h1]; exact .junk
    · rw [h1]; exact hO.lt x hx⟩ o hop
theorem Gd.strong {σ σ' : St} {o : Oper} {g : Bool} (hw : Weak σ σ') (hg : Gd nt ops σ' o g) : Gd nt ops σ o g := by
  cases hg with
  | none h1 => exact .none h1
  | @some j s want g h1 h2 h3 h4 =>
    rcases hw.2 s with h5 | h5
    · rw [h5] at h4; cases h4
    · rw [h5] at h4; exact .some h1 h2 h3 h4
theorem AY.strong [GTab] {σ σ' : St} {o : Oper} {r : AV} (hw : Weak σ σ') (hy : AY P nt ops σ' o r) : AY P nt ops σ o r := by
  cases hy with
  | on hg hi => exact .on (hg.strong hw) (by rw [← hw.1]; exact hi.strong hw.ev)
  | off hg => exact .off (hg.strong hw)
theorem NTr.strong [GTab] {l : List Oper} {σ' τ' : St} (h : NTr P nt ops l σ' τ') : ∀ {σ : St}, Weak σ σ' → ∃ τ, NTr P nt ops l σ τ ∧ Weak τ τ' := by
  induction h with
  | nil σ' => exact fun hw => ⟨_, .nil _, hw⟩
  | cons hd hy _ ih =>
    intro σ hw
    obtain ⟨τ, h1, h2⟩ := ih (hw.put _ _)
    exact ⟨τ, .cons hd (hy.strong hw) h1, h2⟩
theorem Tr.strong [GTab] {l : List Oper} {σ' τ' : St} (h : Tr P nt ops l σ' τ') : ∀ {σ : St}, Weak σ σ' → ∃ τ, Tr P nt ops l σ τ ∧ Weak τ τ' := by
  induction h with
  | nil σ' => exact fun hw => ⟨_, .nil _, hw⟩
  | on hd hg hi _ ih =>
    intro σ hw
    obtain ⟨τ, h1, h2⟩ := ih ((hw.heap _).put _ _)
    exact ⟨τ, .on hd (hg.strong hw) (by rw [← hw.1]; exact hi.strong hw.ev) h1, h2⟩
  | off hd hg _ ih =>
    intro σ hw
    obtain ⟨τ, h1, h2⟩ := ih (hw.put _ _)
    exact ⟨τ, .off hd (hg.strong hw) h1, h2⟩

theorem NTr.lex [GTab] {K : St → Prop} (hK : ∀ σ σ', Sim σ σ' → K σ → K σ') : ∀ (l : List Oper) (k : Nat) (listed : Array Bool) (σ τ : St), (∀ j, l[j]? = ops[k + j]?) →
    Region.lexFrom md ops l.length k listed = true → NTr P nt ops l σ τ → K τ → anyA P nt md ops K l.length listed σ
  | [], _, _, _, _, _, hB, h, hk => by
    cases h
    exact ⟨by simpa [Region.lexFrom] using hB, hk⟩
  | o :: l, k, listed, σ, τ, hl, hB, h, hk => by
    have h0 : ops[k]? = some o := by simpa using (hl 0).symm
    simp only [List.length_cons, Region.lexFrom, Bool.and_eq_true] at hB
    obtain ⟨⟨hr, hf⟩, hB'⟩ := hB
    cases h with
    | cons hd hy ht =>
      exact anyA_first hK h0 hd l.length listed σ (Region.free_spec h0 hf) (by simpa using hr) hy
        (NTr.lex hK l (k + 1) _ _ τ (fun j => by have := hl (j + 1); simpa [Nat.add_assoc, Nat.add_comm 1 j] using this) hB' ht hk)

theorem SRel.drew [GTab] {E : Env} {σ : St} {a : Act} {w : World} (h : SRel E0 n0 w0 nt E σ a w) : SRel E0 n0 w0 nt E σ a w.drew :=
  { tm := h.tm, lt := h.lt, blt := h.blt, sz := h.sz, df := h.df
    hr := ⟨h.hr.cells, h.hr.obj, h.hr.glo, h.hr.inj, h.hr.lt⟩
    ex := h.ex
    kp := ⟨h.kp.os, h.kp.tape, h.kp.output, h.kp.size, h.kp.block⟩
    fr := h.fr, gr := h.gr, nn := h.nn }


theorem NTr.any [GTab] {id : Nat} {Q : Exit → Act → World → Prop} {E : Env} {σ τ : St} {a : Act} {w : World} (hm : P.follows .mixedOrders = true) (hB : Region.lexB .any ops = true) (h : SRel E0 n0 w0 nt E σ a w) (ht : NTr P nt ops ops.toList σ τ)
    (hK : ∀ E' a' w', SRel E0 n0 w0 nt E' τ a' w' → Q .normal a' w') : (Code.region id ops true).wp P Q a w := by
  simp only [Region.lexB, Bool.and_eq_true] at hB
  refine wp_region_any hm (anyA_sound (K := fun σ' => Sim τ σ') (fun E' σ' a' w' h' hs => hK E' a' w' (h'.sim hs.symm)) _ _ E σ a _ h.drew ?_)
  have := NTr.lex (P := P) (nt := nt) (ops := ops) (md := .any) (K := fun σ' => Sim τ σ') (fun σ σ' hs h1 => h1.trans hs) ops.toList 0 (Array.replicate ops.size false) σ τ (by simp) (by simpa using hB.2) ht (.refl _)
  simpa using this

/-! ### Regions that draw, with a tail in one order -/
def anyL [GTab] (P : Program) (nt : Nat) (md : Region.Mode) (ops : Array Oper) (n : Nat) (L : Array Bool → St → Prop) : Nat → Array Bool → St → Prop
  | 0, listed, σ => L listed σ
  | f + 1, listed, σ => Region.ready md ops listed ≠ [] ∧ ∀ i ∈ Region.ready md ops listed, i < n ∧ aOp P nt ops i (anyL P nt md ops n L f (listed.setIfInBounds i true)) σ
theorem anyL_sim [GTab] {n : Nat} {L : Array Bool → St → Prop} (hK : ∀ l σ σ', Sim σ σ' → L l σ → L l σ') : ∀ (fuel : Nat) (listed : Array Bool) (σ σ' : St), Sim σ σ' → anyL P nt md ops n L fuel listed σ → anyL P nt md ops n L fuel listed σ'
  | 0, _, _, _, h, hh => hK _ _ _ h hh
  | fuel + 1, _, _, _, h, hh => ⟨hh.1, fun i hi => ⟨(hh.2 i hi).1, aOp_sim (anyL_sim hK fuel _) h (hh.2 i hi).2⟩⟩
theorem anyL_first [GTab] {n : Nat} {L : Array Bool → St → Prop} (hK : ∀ l σ σ', Sim σ σ' → L l σ → L l σ') {i : Nat} {oi : Oper} {v : AV} (hi : ops[i]? = some oi) (hd : okDst nt oi.dst = true)
    (hw : ∀ listed, HeadInv md ops n listed → ∀ i, i < n → listed.getD i true = false → ∀ t, n ≤ t → t ∉ Region.ready md ops listed) (hin : i < n) (hdone : ∀ listed σ, L listed σ → ∀ j ∈ Region.ready md ops listed, n ≤ j) :
    ∀ (fuel : Nat) (listed : Array Bool) (σ : St), HeadInv md ops n listed →
      (∀ j oj, ops[j]? = some oj → j ≠ i → listed.getD j true = false → (∀ e ∈ oj.after, Region.binds md e = true → e.on ≠ i) → oi.apart ops oj = true) →
      i ∈ Region.ready md ops listed → AY P nt ops σ oi v →
      anyL P nt md ops n L fuel (listed.setIfInBounds i true) (σ.put oi.dst v) → anyL P nt md ops n L (fuel + 1) listed σ := by
  have start : ∀ (fuel : Nat) (listed : Array Bool) (σ : St), AY P nt ops σ oi v → anyL P nt md ops n L fuel listed (σ.put oi.dst v) → aOp P nt ops i (anyL P nt md ops n L fuel listed) σ := fun fuel listed σ hy H => by
    unfold aOp; rw [hi]; exact ⟨hd, v, hy, H⟩
  intro fuel
  induction fuel with
  | zero =>
    intro listed σ inv _ hr hy H
    have hun := (mem_ready.1 hr).1
    refine ⟨fun h => (by rw [h] at hr; cases hr), fun j hj => ?_⟩
    have hjn : j < n := by
      rcases Nat.lt_or_ge j n with h | h
      · exact h
      · exact absurd hj (hw _ inv i hin hun j h)
    refine ⟨hjn, ?_⟩
    by_cases hji : j = i
    · subst hji; exact start _ _ _ hy H
    · have := hdone _ _ H j (ready_mono hj hji)
      omega
  | succ fuel ih =>
    intro listed σ inv hfree hr hy H
    have hun := (mem_ready.1 hr).1
    refine ⟨fun h => (by rw [h] at hr; cases hr), fun j hj => ?_⟩
    have hjn : j < n := by
      rcases Nat.lt_or_ge j n with h | h
      · exact h
      · exact absurd hj (hw _ inv i hin hun j h)
    refine ⟨hjn, ?_⟩
    by_cases hji : j = i
    · subst hji; exact start _ _ _ hy H
    · have h1 := (H.2 j (ready_mono hj hji)).2
      obtain ⟨hjun, oj, hoj, hall⟩ := mem_ready.1 hj
      have hnot : ∀ e ∈ oj.after, Region.binds md e = true → e.on ≠ i := fun e he hb heq => by
        have h1 := hall e he hb
        rw [heq, getD_both hun] at h1
        cases h1
      have h2 := aOp_put hoj (hfree j oj hoj hji hjun hnot) (anyL_sim hK _ _) hy h1
      have hfree' : ∀ k ok, ops[k]? = some ok → k ≠ i → (listed.setIfInBounds j true).getD k true = false →
          (∀ e ∈ ok.after, Region.binds md e = true → e.on ≠ i) → oi.apart ops ok = true := fun k ok hk hki hun hno => by
        refine hfree k ok hk hki ?_ hno
        by_cases hjk : j = k
        · subst hjk; exact hjun
        · rw [getD_set_ne true hjk] at hun; exact hun
      refine aOp_mono (fun σ' h3 => ih (listed.setIfInBounds j true) σ' (inv.set hj hjn) hfree' (ready_mono hr (Ne.symm hji)) h3.1 ?_) h2
      rw [Array.setIfInBounds_comm _ _ hji]
      exact h3.2
theorem anyL_sound [GTab] {n g : Nat} {L : Array Bool → St → Prop} {Q : Exit → Act → World → Prop} (hQ : ∀ listed E σ a w, SRel E0 n0 w0 nt E σ a w → L listed σ → wpAny P md ops Q g listed a w) : ∀ (fuel : Nat) (listed : Array Bool) (E : Env) (σ : St) (a : Act) (w : World), SRel E0 n0 w0 nt E σ a w →
    anyL P nt md ops n L fuel listed σ → wpAny P md ops Q (fuel + g) listed a w
  | 0, listed, E, σ, a, w, h, hh => by rw [Nat.zero_add]; exact hQ _ _ _ _ _ h hh
  | fuel + 1, listed, E, σ, a, w, h, hh => by
    rw [show fuel + 1 + g = (fuel + g) + 1 by omega]
    refine ⟨fun e => absurd e hh.1, fun i hi => ?_⟩
    have h1 := (hh.2 i hi).2
    unfold aOp at h1
    cases ho : ops[i]? with
    | none => rw [ho] at h1; unfold wpOp; rw [ho]; exact anyL_sound hQ fuel _ E σ a w h h1
    | some o =>
      rw [ho] at h1
      obtain ⟨hd, r, hy, hk⟩ := h1
      exact hy.sound h ho hd fun E' a' w' h' => anyL_sound hQ fuel _ E' _ a' w' h' hk
theorem NTr.lexL [GTab] {n g : Nat} {τ : St} (hs : Region.sinkB md ops n = true) (hc : Region.chainB md ops n = true) (hn : n < ops.size) : ∀ (l : List Oper) (k : Nat) (listed : Array Bool) (σ : St), (∀ j, j < l.length → l[j]? = ops[k + j]?) → k + l.length = n → HeadInv md ops n listed →
    Region.lexHead md ops g l.length k listed = true → NTr P nt ops l σ τ → anyL P nt md ops n (fun listed' σ' => Region.seqB md ops g n listed' = true ∧ Sim τ σ') l.length listed σ
  | [], k, listed, σ, _, hk, _, hB, h => by
    have : k = n := by simpa using hk
    subst this
    cases h
    exact ⟨by simpa [Region.lexHead] using hB, .refl _⟩
  | o :: l, k, listed, σ, hl, hk, inv, hB, h => by
    have h0 : ops[k]? = some o := by simpa using (hl 0 (by simp)).symm
    simp only [List.length_cons, Region.lexHead, Bool.and_eq_true] at hB
    obtain ⟨⟨hr, hf⟩, hB'⟩ := hB
    have hkn : k < n := by simp only [List.length_cons] at hk; omega
    have hr' : k ∈ Region.ready md ops listed := by simpa using hr
    cases h with
    | cons hd hy ht =>
      exact anyL_first (fun l σ σ' hs h1 => ⟨h1.1, h1.2.trans hs⟩) h0 hd (fun _ inv i hin hun j => tail_waits hs hc hn inv _ i rfl hin hun j) hkn (fun listed' a' hL => seqB_ready hL.1) l.length listed σ inv (Region.free_spec h0 hf) hr' hy
        (NTr.lexL hs hc hn l (k + 1) _ _ (fun j hj => by have := hl (j + 1) (by simp; omega); simpa [Nat.add_assoc, Nat.add_comm 1 j] using this) (by simp only [List.length_cons] at hk; omega) (inv.set hr' hkn) hB' ht)
theorem NTr.tail [GTab] {id n : Nat} {Q : Exit → Act → World → Prop} {E : Env} {σ τ ρ : St} {a : Act} {w : World} (hm : P.follows .mixedOrders = true) (hB : Region.lexTailB .any ops n = true) (h : SRel E0 n0 w0 nt E σ a w) (ht : NTr P nt ops (ops.toList.take n) σ τ) (ht2 : Tr P nt ops (ops.toList.drop n) τ ρ)
    (hK : ∀ E' a' w', SRel E0 n0 w0 nt E' ρ a' w' → Q .normal a' w') : (Code.region id ops true).wp P Q a w := by
  simp only [Region.lexTailB, Bool.and_eq_true, decide_eq_true_eq] at hB
  obtain ⟨⟨⟨⟨_, hn⟩, hs⟩, hc⟩, hlex⟩ := hB
  have htl : (ops.toList.take n).length = n := by simp; omega
  have hdl : (ops.toList.drop n).length = ops.size - n := by simp
  have inv0 : HeadInv .any ops n (Array.replicate ops.size false) :=
    ⟨by simp, fun j oj _ hl => (by rw [getD_replicate_false] at hl; cases hl), fun t _ ht => getD_in (by simpa using ht) (getD_replicate_false _ _)⟩
  have H := NTr.lexL (P := P) (nt := nt) (md := .any) (g := ops.size - n) (τ := τ) hs hc hn (ops.toList.take n) 0 _ σ (fun j hj => by
    have hj' : j < n := by rw [htl] at hj; exact hj
    simp [hj']) (by simpa using htl) inv0 (by rw [htl]; exact hlex) ht
  refine wp_region_any hm ?_
  have := anyL_sound (E0 := E0) (n0 := n0) (w0 := w0) (Q := Q) (g := ops.size - n) (fun listed E' σ' a' w' h' hL => by
    have := wpAny_of_seq (md := .any) (Q' := Q) (ops.toList.drop n) n listed a' w' (fun j => by simp [List.getElem?_drop]) (by rw [hdl]; exact hL.1) (ht2.sound hK E' a' w' (h'.sim hL.2.symm))
    rwa [hdl] at this) _ _ _ _ _ _ h.drew H
  rw [htl, show n + (ops.size - n) = ops.size by omega] at this
  exact this
end
end Go.Up

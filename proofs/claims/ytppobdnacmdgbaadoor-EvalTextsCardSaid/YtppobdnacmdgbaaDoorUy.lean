/- Up, part y: regions that draw, with one store that waits for its own data alone. -/
import Derived.Test.YtppobdnacmdgbaaDoorUs
set_option linter.unusedVariables false
set_option linter.unusedSimpArgs false
namespace Go.Up
open Go.RowKit

section
variable {P : Program} {E0 : Env} {n0 : NB} {w0 : World} {nt : Nat} {ops : Array Oper} {md : Region.Mode} {Y : St → Oper → AV → Prop}

def yOp (nt : Nat) (ops : Array Oper) (Y : St → Oper → AV → Prop) (i : Nat) (K : St → Prop) (σ : St) : Prop :=
  match ops[i]? with
  | none => K σ
  | some o => okDst nt o.dst = true ∧ ∃ r, Y σ o r ∧ K (σ.put o.dst r)
def anyY (nt : Nat) (md : Region.Mode) (ops : Array Oper) (Y : St → Oper → AV → Prop) (K : Array Bool → St → Prop) : Nat → Array Bool → St → Prop
  | 0, listed, σ => Region.ready md ops listed = [] ∧ K listed σ
  | fuel + 1, listed, σ => (Region.ready md ops listed = [] → K listed σ) ∧ ∀ i ∈ Region.ready md ops listed, yOp nt ops Y i (anyY nt md ops Y K fuel (listed.setIfInBounds i true)) σ
/-- What an operation does not look at plays no part. -/
def YC (ops : Array Oper) (Y : St → Oper → AV → Prop) : Prop := ∀ (σ σ' : St) (o : Oper) (r : AV), σ.h = σ'.h → (∀ d ∈ o.looksAt ops, look σ.t d = look σ'.t d) → Y σ o r → Y σ' o r

theorem yOp_mono {i : Nat} {σ : St} {K K' : St → Prop} (h : ∀ σ, K σ → K' σ) (hh : yOp nt ops Y i K σ) : yOp nt ops Y i K' σ := by
  unfold yOp at *
  split
  · rename_i e; rw [e] at hh; exact h _ hh
  · rename_i o e; rw [e] at hh; obtain ⟨h1, r, h2, h3⟩ := hh; exact ⟨h1, r, h2, h _ h3⟩
theorem yOp_sim [GTab] (hy : YC ops Y) {i : Nat} {σ σ' : St} {K : St → Prop} (hK : ∀ σ σ', Sim σ σ' → K σ → K σ') (h : Sim σ σ') (hh : yOp nt ops Y i K σ) : yOp nt ops Y i K σ' := by
  unfold yOp at *
  split
  · rename_i e; rw [e] at hh; exact hK _ _ h hh
  · rename_i o e; rw [e] at hh; obtain ⟨h1, r, h2, h3⟩ := hh; exact ⟨h1, r, hy _ _ _ _ h.2 (fun d _ => h.1 d) h2, hK _ _ (h.put _ _) h3⟩
theorem anyY_sim [GTab] (hy : YC ops Y) {K : Array Bool → St → Prop} (hK : ∀ l σ σ', Sim σ σ' → K l σ → K l σ') : ∀ (fuel : Nat) (listed : Array Bool) (σ σ' : St), Sim σ σ' → anyY nt md ops Y K fuel listed σ → anyY nt md ops Y K fuel listed σ'
  | 0, _, _, _, h, hh => ⟨hh.1, hK _ _ _ h hh.2⟩
  | fuel + 1, _, _, _, h, hh => ⟨fun e => hK _ _ _ h (hh.1 e), fun i hi => yOp_sim hy (anyY_sim hy hK fuel _) h (hh.2 i hi)⟩
theorem yOp_put [GTab] (hyc : YC ops Y) {j : Nat} {oi oj : Oper} {v : AV} (hj : ops[j]? = some oj) (hap : oi.apart ops oj = true) {K : St → Prop} (hK : ∀ σ σ', Sim σ σ' → K σ → K σ') {σ : St}
    (hy : Y σ oi v) (h : yOp nt ops Y j K (σ.put oi.dst v)) : yOp nt ops Y j (fun σ' => Y σ' oi v ∧ K (σ'.put oi.dst v)) σ := by
  obtain ⟨h1, h2, h3⟩ := Oper.apart_spec hap
  unfold yOp at *
  rw [hj] at h ⊢
  dsimp only at h ⊢
  obtain ⟨hd, r, hr, hk⟩ := h
  refine ⟨hd, r, hyc _ _ _ _ (St.put_h _ _ _) (fun d hdm => look_put fun e => h1 d e hdm) hr, ?_, hK _ _ (Sim.comm σ v r h2) hk⟩
  exact hyc _ _ _ _ (St.put_h _ _ _).symm (fun d hdm => (look_put fun e => h3 d e hdm).symm) hy
theorem anyY_first [GTab] (hyc : YC ops Y) {K : Array Bool → St → Prop} (hK : ∀ l σ σ', Sim σ σ' → K l σ → K l σ') {i : Nat} {oi : Oper} {v : AV} (hi : ops[i]? = some oi) (hd : okDst nt oi.dst = true) :
    ∀ (fuel : Nat) (listed : Array Bool) (σ : St),
      (∀ j oj, ops[j]? = some oj → j ≠ i → listed.getD j true = false → (∀ e ∈ oj.after, Region.binds md e = true → e.on ≠ i) → oi.apart ops oj = true) →
      i ∈ Region.ready md ops listed → Y σ oi v →
      anyY nt md ops Y K fuel (listed.setIfInBounds i true) (σ.put oi.dst v) → anyY nt md ops Y K (fuel + 1) listed σ := by
  have start : ∀ (fuel : Nat) (listed : Array Bool) (σ : St), Y σ oi v → anyY nt md ops Y K fuel listed (σ.put oi.dst v) → yOp nt ops Y i (anyY nt md ops Y K fuel listed) σ := fun fuel listed σ hy H => by
    unfold yOp; rw [hi]; exact ⟨hd, v, hy, H⟩
  intro fuel
  induction fuel with
  | zero =>
    intro listed σ _ hr hy H
    refine ⟨fun h => (by rw [h] at hr; cases hr), fun j hj => ?_⟩
    by_cases hji : j = i
    · subst hji; exact start _ _ _ hy H
    · have := ready_mono hj hji
      rw [H.1] at this
      cases this
  | succ fuel ih =>
    intro listed σ hfree hr hy H
    refine ⟨fun h => (by rw [h] at hr; cases hr), fun j hj => ?_⟩
    by_cases hji : j = i
    · subst hji; exact start _ _ _ hy H
    · have h1 := H.2 j (ready_mono hj hji)
      obtain ⟨hjun, oj, hoj, hall⟩ := mem_ready.1 hj
      have hnot : ∀ e ∈ oj.after, Region.binds md e = true → e.on ≠ i := fun e he hb heq => by
        have h1 := hall e he hb
        have h0 := (mem_ready.1 hr).1
        rw [heq] at h1
        rcases Nat.lt_or_ge i listed.size with h' | h'
        · simp [h'] at h0 h1; rw [h0] at h1; cases h1
        · simp [Array.getElem?_eq_none h'] at h1
      have h2 := yOp_put hyc hoj (hfree j oj hoj hji hjun hnot) (anyY_sim hyc hK _ _) hy h1
      have hfree' : ∀ k ok, ops[k]? = some ok → k ≠ i → (listed.setIfInBounds j true).getD k true = false →
          (∀ e ∈ ok.after, Region.binds md e = true → e.on ≠ i) → oi.apart ops ok = true := fun k ok hk hki hun hno => by
        refine hfree k ok hk hki ?_ hno
        by_cases hjk : j = k
        · subst hjk; exact hjun
        · rw [getD_set_ne true hjk] at hun; exact hun
      refine yOp_mono (fun σ' h3 => ih (listed.setIfInBounds j true) σ' hfree' (ready_mono hr (Ne.symm hji)) h3.1 ?_) h2
      rw [Array.setIfInBounds_comm _ _ hji]
      exact h3.2

inductive YTr (nt : Nat) (Y : St → Oper → AV → Prop) : List Oper → St → St → Prop
  | nil (σ) : YTr nt Y [] σ σ
  | cons {o l σ τ r} : okDst nt o.dst = true → Y σ o r → YTr nt Y l (σ.put o.dst r) τ → YTr nt Y (o :: l) σ τ
theorem YTr.append {l m : List Oper} {σ τ ρ : St} (h : YTr nt Y l σ τ) (k : YTr nt Y m τ ρ) : YTr nt Y (l ++ m) σ ρ := by
  induction h with
  | nil => exact k
  | cons hd hy _ ih => exact .cons hd hy (ih k)
/-- All that stand ahead are listed. -/
def AllTo (k : Nat) (listed : Array Bool) : Prop := ∀ j, j < k → listed.getD j false = true
theorem YTr.lex [GTab] (hyc : YC ops Y) {τ : St} : ∀ (l : List Oper) (k : Nat) (listed : Array Bool) (σ : St), (∀ j, l[j]? = ops[k + j]?) → k + l.length = ops.size → listed.size = ops.size → AllTo k listed →
    Region.lexFrom md ops l.length k listed = true → YTr nt Y l σ τ → anyY nt md ops Y (fun listed' σ' => AllTo ops.size listed' ∧ Sim τ σ') l.length listed σ
  | [], k, listed, σ, _, hk, hsz, hall, hB, h => by
    cases h
    have : k = ops.size := by simpa using hk
    exact ⟨by simpa [Region.lexFrom] using hB, this ▸ hall, .refl _⟩
  | o :: l, k, listed, σ, hl, hk, hsz, hall, hB, h => by
    have h0 : ops[k]? = some o := by simpa using (hl 0).symm
    simp only [List.length_cons, Region.lexFrom, Bool.and_eq_true] at hB
    obtain ⟨⟨hr, hf⟩, hB'⟩ := hB
    have hkl : k < listed.size := by rw [hsz]; exact (Array.getElem?_eq_some_iff.1 h0).1
    cases h with
    | cons hd hy ht =>
      refine anyY_first hyc (fun l σ σ' hs h1 => ⟨h1.1, h1.2.trans hs⟩) h0 hd l.length listed σ (Region.free_spec h0 hf) (by simpa using hr) hy
        (YTr.lex hyc l (k + 1) _ _ (fun j => by have := hl (j + 1); simpa [Nat.add_assoc, Nat.add_comm 1 j] using this) (by simp only [List.length_cons] at hk; omega) (by simp [hsz]) (fun j hj => ?_) hB' ht)
      by_cases hjk : j = k
      · subst hjk; simp [hkl]
      · rw [getD_set_ne false (Ne.symm hjk)]; exact hall j (by omega)
end

/-! ### One store, the others pure -/
def isSto (o : Oper) : Bool :=
  match o.op with
  | .store _ _ _ => true
  | _ => false
/-- What an operation yields beside the store of a variable. -/
def YS [GTab] (P : Program) (h h' hd : AH) (σ : St) (o : Oper) (r : AV) : Prop :=
  (isSto o = true ∧ r = .p undef ∧ o.dst = none ∧ o.guard = none ∧ ImpS P h (ev σ) o.op h' (.p undef)) ∨ (isSto o = false ∧ o.guard = none ∧ YO P hd (ev σ) o.op r)
section
variable {P : Program} {E0 : Env} {n0 : NB} {w0 : World} {nt : Nat} {ops : Array Oper} {md : Region.Mode} {h h' hd : AH}
theorem ev_eq [GTab] {σ σ' : St} (ht : σ.t = σ'.t) (hg : σ.h.g = σ'.h.g) : ev σ = ev σ' := by
  funext x
  cases x with
  | tmp t => simp only [ev, ht]
  | const v => rfl
  | global g => simp only [ev, hg]
  | func f => rfl
theorem YO.congr [GTab] {e e' : Operand → AV} {op : Op} {r : AV} (he : ∀ x ∈ op.operands, e x = e' x) (hi : YO P h e op r) : YO P h e' op r :=
  fun nn E w vals hh hok hO o hop => hi nn E w vals hh hok ⟨fun x hx => he x hx ▸ hO.rel x hx, fun x hx => he x hx ▸ hO.lt x hx⟩ o hop
theorem YS.congr [GTab] : YC ops (YS P h h' hd) := by
  intro σ σ' o r hh hl hy
  have hx : ∀ x ∈ o.op.operands, ev σ x = ev σ' x := fun x hx => by
    cases x with
    | tmp t => exact hl t (List.mem_append_left _ (List.mem_filterMap.2 ⟨.tmp t, by simpa using hx, rfl⟩))
    | const v => rfl
    | global g => simp only [ev, hh]
    | func f => rfl
  rcases hy with ⟨h1, h2, h3, h4, h5⟩ | ⟨h1, h2, h3⟩
  · exact .inl ⟨h1, h2, h3, h4, h5.congr hx⟩
  · exact .inr ⟨h1, h2, h3.congr hx⟩
theorem YO.impAt [GTab] {e : Operand → AV} {op : Op} {y : AV} {hr : AH} (hy : YO P hd e op y) (hc : ∀ E w, HRel E hr w → hr.ok → HRel E ⟨hd.o, hr.n, hd.g⟩ w ∧ (⟨hd.o, hr.n, hd.g⟩ : AH).ok) : ImpS P hr e op hr y := by
  intro E w vals hh hok hO o hop
  obtain ⟨g1, g2⟩ := hc E w hh hok
  obtain ⟨v, k1, k2, k3⟩ := hy hr.n E w vals g1 g2 hO o hop
  unfold Lands
  rw [k1]
  exact ⟨E, .refl hh hok, k2, k3⟩
theorem anyYS_sound [GTab] {Q : Exit → Act → World → Prop} {K : St → Prop} {p id : Nat} {x' : AO} {st : Oper} (he' : h' = h.set id (some x')) (hed : hd = h.set id none) (hp : ops[p]? = some st) (hst : isSto st = true) (hun : ∀ i o, ops[i]? = some o → isSto o = true → i = p)
    (hQ : ∀ E σ a w, SRel E0 n0 w0 nt E ⟨σ.t, h'⟩ a w → K σ → Q .normal a w) : ∀ (fuel : Nat) (listed : Array Bool) (E : Env) (σ : St) (a : Act) (w : World), σ.h = hd → listed.size = ops.size → SRel E0 n0 w0 nt E ⟨σ.t, if listed.getD p false = true then h' else h⟩ a w →
    anyY nt md ops (YS P h h' hd) (fun l σ => AllTo ops.size l ∧ K σ) fuel listed σ → wpAny P md ops Q fuel listed a w := by
  have hps : p < ops.size := (Array.getElem?_eq_some_iff.1 hp).1
  have fin : ∀ (listed : Array Bool) (E : Env) (σ : St) (a : Act) (w : World), SRel E0 n0 w0 nt E ⟨σ.t, if listed.getD p false = true then h' else h⟩ a w → (AllTo ops.size listed ∧ K σ) → Q .normal a w := fun listed E σ a w hs hk => by
    rw [if_pos (hk.1 p hps)] at hs
    exact hQ E σ a w hs hk.2
  have hdn : ∀ b : Bool, hd.n = (if b = true then h' else h).n := fun b => by cases b <;> simp [he', hed, AH.set]
  have hdg : ∀ b : Bool, hd.g = (if b = true then h' else h).g := fun b => by cases b <;> simp [he', hed, AH.set]
  have hdc : ∀ (b : Bool) E w, HRel E (if b = true then h' else h) w → (if b = true then h' else h).ok → HRel E hd w ∧ hd.ok := fun b E w hh hok => by
    have e : hd = (if b = true then h' else h).set id none := by
      cases b
      · exact hed
      · simp only [if_true, he', hed, AH.set]
        congr 1
        funext j
        simp only [upd]
        split <;> rfl
    rw [e]
    exact hh.kill hok id
  intro fuel
  induction fuel with
  | zero => exact fun listed E σ a w hσ hsz hs hh => ⟨hh.1, fin _ _ _ _ _ hs hh.2⟩
  | succ fuel ih =>
    intro listed E σ a w hσ hsz hs hh
    refine ⟨fun e => fin _ _ _ _ _ hs (hh.1 e), fun i hi => ?_⟩
    have h1 := hh.2 i hi
    unfold yOp at h1
    have hsz' : (listed.setIfInBounds i true).size = ops.size := by simp [hsz]
    cases ho : ops[i]? with
    | none =>
      rw [ho] at h1
      unfold wpOp
      rw [ho]
      have hip : i ≠ p := fun e => by subst e; rw [hp] at ho; cases ho
      exact ih _ E σ a w hσ hsz' (by rw [getD_set_ne false hip]; exact hs) h1
    | some o =>
      rw [ho] at h1
      obtain ⟨hdst, r, hy, hk⟩ := h1
      have hev : ev σ = ev (⟨σ.t, if listed.getD p false = true then h' else h⟩ : St) := ev_eq rfl (by rw [hσ]; exact hdg _)
      rcases hy with ⟨g1, g2, g3, g4, g5⟩ | ⟨g1, g2, g3⟩
      · have hip := hun i o ho g1
        subst hip
        have hlp : listed.getD i false = false := getD_both (mem_ready.1 hi).1
        have hil : i < listed.size := by rw [hsz]; exact hps
        rw [hlp] at hs hev
        simp only [Bool.false_eq_true, if_false] at hs hev
        rw [hev] at g5
        unfold wpOp
        rw [ho]
        dsimp only
        rw [(Gd.none (nt := nt) (ops := ops) (σ := ⟨σ.t, h⟩) g4).wanted hs, if_pos rfl]
        refine .inl (ImpS.next hs hdst g5 fun E' a' w' h2 => ?_)
        rw [g3] at h2 hk
        have e1 : (listed.setIfInBounds i true).getD i false = true := by simp [hil]
        exact ih _ E' σ a' w' hσ hsz' (by rw [e1]; exact h2) hk
      · have hip : i ≠ p := fun e => by subst e; rw [hp] at ho; cases ho; rw [hst] at g1; cases g1
        have hy2 : ImpS P (if listed.getD p false = true then h' else h) (ev (⟨σ.t, if listed.getD p false = true then h' else h⟩ : St)) o.op (if listed.getD p false = true then h' else h) r := by
          rw [← hev]
          refine g3.impAt fun E w a b => ?_
          rw [← hdn]
          exact hdc _ E w a b
        have ay : AY P nt ops (⟨σ.t, if listed.getD p false = true then h' else h⟩ : St) o r := .on (.none g2) hy2
        refine ay.sound hs ho hdst fun E' a' w' h2 => ih _ E' (σ.put o.dst r) a' w' (by rw [St.put_h]; exact hσ) hsz' ?_ hk
        rw [getD_set_ne false hip]
        cases hd2 : o.dst with
        | none => rw [hd2] at h2; exact h2
        | some d => rw [hd2] at h2; exact h2
end
section
variable {P : Program} {E0 : Env} {n0 : NB} {w0 : World} {nt : Nat} {ops : Array Oper} {R : Type}
def popsK [GTab] (P : Program) (nt : Nat) (hd : AH) : List Oper → St → (St → Option R) → Option R
  | [], σ, K => K σ
  | o :: l, σ, K =>
    match okDst nt o.dst, o.guard, isSto o with
    | true, none, false => pureK P hd (ev σ) o.op fun y => putV o.dst y σ fun σ => popsK P nt hd l σ K
    | _, _, _ => none
theorem popsK_ok [GTab] {hd : AH} : ∀ {l : List Oper} {σ : St} {K : St → Option R} {r : R}, popsK P nt hd l σ K = some r → (∀ o ∈ l, isSto o = false) ∧ ∃ τ, (∀ h h' : AH, YTr nt (YS P h h' hd) l σ τ) ∧ τ.h = σ.h ∧ K τ = some r
  | [], σ, K, r, hk => ⟨fun o ho => (by cases ho), σ, fun _ _ => YTr.nil _, rfl, hk⟩
  | o :: l, σ, K, r, hk => by
    unfold popsK at hk
    simp only [putV_eq] at hk
    split at hk
    · rename_i h1 h2 h3
      obtain ⟨y, hy, hk⟩ := pureK_ok hk
      obtain ⟨k1, τ, k2, k3, k4⟩ := popsK_ok hk
      refine ⟨fun o' ho' => ?_, τ, fun h h' => YTr.cons h1 (.inr ⟨h3, h2, hy⟩) (k2 h h'), by rw [k3, St.put_h], k4⟩
      rcases List.mem_cons.1 ho' with rfl | ho'
      · exact h3
      · exact k1 o' ho'
    · cases hk
def splitS : List Oper → Option (List Oper × Oper × List Oper)
  | [] => none
  | o :: l =>
    match isSto o with
    | true => some ([], o, l)
    | false => (match splitS l with
      | some q => some (o :: q.1, q.2.1, q.2.2)
      | none => none)
theorem splitS_ok [GTab] : ∀ {l : List Oper} {q : List Oper × Oper × List Oper}, splitS l = some q → l = q.1 ++ q.2.1 :: q.2.2 ∧ isSto q.2.1 = true
  | [], _, h => by cases h
  | o :: l, q, h => by
    unfold splitS at h
    split at h
    · rename_i ho; cases h; exact ⟨rfl, ho⟩
    · split at h
      · rename_i q' hq'
        cases h
        obtain ⟨h1, h2⟩ := splitS_ok hq'
        exact ⟨by simp [h1], h2⟩
      · cases h
/-- A region that draws: pure operations and one store of a variable. -/
def stoRK [GTab] (P : Program) (nt : Nat) (ops : Array Oper) (σ : St) (K : St → Option R) : Option R :=
  match splitS ops.toList with
  | some q =>
    match q.2.1.op, q.2.1.dst, q.2.1.guard with
    | .store t a x, none, none =>
      match ev σ a with
      | .bp id _ =>
        popsK P nt (σ.h.set id none) q.1 ⟨σ.t, σ.h.set id none⟩ fun σ1 =>
          match ev σ1 a with
          | .bp id' off =>
            if Nat.beq id' id then
              stoK P σ.h t (.bp id' off) (ev σ1 x) fun h' _ => popsK P nt (σ.h.set id none) q.2.2 σ1 fun σ2 => K ⟨σ2.t, h'⟩
            else none
          | _ => none
      | _ => none
    | _, _, _ => none
  | none => none
theorem stoK_form {h : AH} {t : TypeId} {id off : Nat} {x : AV} {K : AH → AV → Option R} {r : R} (hk : stoK P h t (.bp id off) x K = some r) : ∃ l', K (h.set id (some (.box l'))) (.p undef) = some r ∧ stoK P h t (.bp id off) x (fun h' y => some (h', y)) = some (h.set id (some (.box l')), .p undef) := by
  unfold stoK at hk ⊢
  cases hq : tk P t with
  | none => rw [hq] at hk; cases hk
  | some q =>
    rw [hq] at hk
    dsimp only at hk ⊢
    by_cases hc : (known x && Nat.beq x.cells.length q.2) = true
    · rw [if_pos hc] at hk ⊢
      cases ho : h.o id with
      | none => rw [ho] at hk; cases hk
      | some ao =>
        rw [ho] at hk
        cases ao with
        | box l =>
          dsimp only at hk ⊢
          by_cases hf : (Nat.ble (off + q.2) l.length) = true
          · rw [if_pos hf] at hk ⊢
            exact ⟨_, hk, rfl⟩
          · rw [if_neg hf] at hk; cases hk
        | _ => cases hk
    · rw [if_neg hc] at hk; cases hk
theorem stoRK_ok [GTab] {σ : St} {K : St → Option R} {r : R} (hm : P.follows .mixedOrders = true) (hB : Region.lexB .any ops = true) (hk : stoRK P nt ops σ K = some r) :
    ∃ τ, K τ = some r ∧ ∀ (E0 : Env) (n0 : NB) (w0 : World) (E : Env) (a : Act) (w : World) (id : Nat) (Q : Exit → Act → World → Prop), SRel E0 n0 w0 nt E σ a w → (∀ E' a' w', SRel E0 n0 w0 nt E' τ a' w' → Q .normal a' w') → (Code.region id ops true).wp P Q a w := by
  unfold stoRK at hk
  split at hk
  case h_2 => cases hk
  rename_i q hq
  obtain ⟨pre, st, suf⟩ := q
  obtain ⟨hl, hst⟩ := splitS_ok hq
  simp only at hl hst hk
  split at hk
  case h_2 => cases hk
  rename_i t ao xo hop hdst hgd
  split at hk
  case h_2 => cases hk
  rename_i id off0 ha0
  obtain ⟨hpre, σ1, y1, g1, hk⟩ := popsK_ok hk
  split at hk
  case h_2 => cases hk
  rename_i id' off ha
  split at hk
  case isFalse => cases hk
  rename_i hid
  have hid := Nat.eq_of_beq_eq_true hid
  subst hid
  obtain ⟨l', hk, hf⟩ := stoK_form hk
  have himp : ImpS P σ.h (ev σ1) (.store t ao xo) (σ.h.set id' (some (.box l'))) (.p undef) := by
    rw [← ha] at hf
    obtain ⟨h', y, k1, k2⟩ := stoK_ok hf
    cases k2
    exact k1
  obtain ⟨hsuf, σ2, y2, g2, hk⟩ := popsK_ok hk
  refine ⟨_, hk, fun E0 n0 w0 E a w rid Q hs hQ => ?_⟩
  have ytr : YTr nt (YS P σ.h (σ.h.set id' (some (.box l'))) (σ.h.set id' none)) ops.toList ⟨σ.t, σ.h.set id' none⟩ σ2 := by
    rw [hl]
    refine (y1 _ _).append (.cons (r := .p undef) (by rw [hdst]; rfl) (.inl ⟨hst, rfl, hdst, hgd, by rw [hop]; exact himp⟩) ?_)
    rw [hdst]
    exact y2 _ _
  simp only [Region.lexB, Bool.and_eq_true] at hB
  have hany := YTr.lex (nt := nt) (ops := ops) (md := .any) YS.congr ops.toList 0 (Array.replicate ops.size false) _ (by simp) (by simp) (by simp) (fun j hj => absurd hj (Nat.not_lt_zero _)) (by simpa using hB.2) ytr
  have hp : ops[pre.length]? = some st := by
    have : ops.toList[pre.length]? = some st := by rw [hl]; simp
    simpa using this
  have hun : ∀ i o, ops[i]? = some o → isSto o = true → i = pre.length := fun i o ho hso => by
    have ho2 : (pre ++ st :: suf)[i]? = some o := by rw [← hl]; simpa using ho
    rcases Nat.lt_trichotomy i pre.length with hi | hi | hi
    · rw [List.getElem?_append_left hi] at ho2
      have := hpre o (List.mem_of_getElem? ho2)
      rw [this] at hso; cases hso
    · exact hi
    · rw [List.getElem?_append_right (by omega)] at ho2
      obtain ⟨k, hk⟩ : ∃ k, i - pre.length = k + 1 := ⟨i - pre.length - 1, by omega⟩
      rw [hk] at ho2
      have := hsuf o (List.mem_of_getElem? (l := suf) (i := k) (by simpa using ho2))
      rw [this] at hso; cases hso
  refine wp_region_any hm (anyYS_sound (E0 := E0) (n0 := n0) (w0 := w0) (p := pre.length) (K := fun σ' => Sim σ2 σ') rfl rfl hp hst hun (fun E' σ' a' w' h' hsim => hQ E' a' w' (h'.sim ⟨fun i => (hsim.1 i).symm, rfl⟩)) _ _ E ⟨σ.t, σ.h.set id' none⟩ a _ rfl (by simp) ?_ (by simpa using hany))
  rw [getD_replicate_false]
  simp only [Bool.false_eq_true, if_false]
  exact hs.drew
end
end Go.Up

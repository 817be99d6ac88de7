/- Up, part y3: regions that draw, with one call that all ahead of it lead to, and all behind it wait for. -/
import Derived.Test.YtppobdnacmdgbaaDoorUy2
set_option linter.unusedVariables false
set_option linter.unusedSimpArgs false
namespace Go.Up
open Go.RowKit

section
variable {P : Program} {E0 : Env} {n0 : NB} {w0 : World} {nt : Nat} {ops : Array Oper} {md : Region.Mode} {R : Type}
/-- Whoever stands behind waits for the call, or for one that stands behind it. -/
def midB (md : Region.Mode) (ops : Array Oper) (n : Nat) : Bool :=
  (List.range ops.size).all fun t => decide (t ≤ n) || (List.range t).any fun j => decide (n ≤ j) && Region.waitsFor md ops t j
def lexMid (md : Region.Mode) (ops : Array Oper) (g : Nat) : Nat → Nat → Array Bool → Bool
  | 0, k, listed => decide (Region.ready md ops listed = [k]) && Region.lexFrom md ops g (k + 1) (listed.setIfInBounds k true)
  | f + 1, k, listed => (Region.ready md ops listed).contains k && Region.free md ops listed k && lexMid md ops g f (k + 1) (listed.setIfInBounds k true)
def lexMidB (md : Region.Mode) (ops : Array Oper) (n : Nat) : Bool :=
  Region.noSelect ops && decide (n < ops.size) && Region.sinkB md ops n && midB md ops n && lexMid md ops (ops.size - n - 1) n 0 (Array.replicate ops.size false)

theorem tail_waits2 {n : Nat} {listed : Array Bool} (hs : Region.sinkB md ops n = true) (hc : midB md ops n = true) (hn : n < ops.size) (inv : HeadInv md ops n listed) :
    ∀ (d i : Nat), n - i = d → i < n → listed.getD i true = false → ∀ t, n ≤ t → t ∉ Region.ready md ops listed := by
  intro d
  induction d using Nat.strongRecOn with
  | _ d ih =>
    intro i hd hi hun t ht hr
    obtain ⟨_, ot, hot, hall⟩ := mem_ready.1 hr
    have htlt : t < ops.size := (Array.getElem?_eq_some_iff.1 hot).1
    by_cases htn : t = n
    · subst htn
      have h1 := List.all_eq_true.1 hs i (List.mem_range.2 hi)
      obtain ⟨j, hj, hj2⟩ := List.any_eq_true.1 h1
      simp only [Bool.and_eq_true, decide_eq_true_eq] at hj2
      obtain ⟨oj, hoj, e, he, hb, hon⟩ := Region.waitsFor_spec hj2.2
      have hjle : j ≤ t := by have := List.mem_range.1 hj; omega
      by_cases hjt : j = t
      · subst hjt
        have : oj = ot := Option.some.inj (hoj.symm.trans hot)
        subst this
        have h2 := hall e he hb
        rw [hon, getD_both hun] at h2
        cases h2
      · cases hl : listed.getD j false with
        | true =>
          have h2 := inv.closed j oj hoj hl e he hb
          rw [hon, getD_both hun] at h2
          cases h2
        | false =>
          have hjs : j < listed.size := by rw [inv.size]; omega
          exact ih (t - j) (by omega) j rfl (by omega) (getD_in hjs hl) t (Nat.le_refl _) hr
    · have h1 := List.all_eq_true.1 hc t (List.mem_range.2 htlt)
      simp only [Bool.or_eq_true, decide_eq_true_eq] at h1
      rcases h1 with h1 | h1
      · omega
      · obtain ⟨j, hj, hj2⟩ := List.any_eq_true.1 h1
        simp only [Bool.and_eq_true, decide_eq_true_eq] at hj2
        obtain ⟨o', ho', e, he, hb, hon⟩ := Region.waitsFor_spec hj2.2
        have hjt := List.mem_range.1 hj
        have : o' = ot := Option.some.inj (ho'.symm.trans hot)
        subst this
        have h2 := hall e he hb
        rw [hon, getD_both (inv.tail j hj2.1 (by omega))] at h2
        cases h2

/-- What is known when the head is through. -/
structure AtMid (md : Region.Mode) (ops : Array Oper) (n : Nat) (τ : St) (listed : Array Bool) (σ : St) : Prop where
  one : Region.ready md ops listed = [n]
  lex : Region.lexFrom md ops (ops.size - n - 1) (n + 1) (listed.setIfInBounds n true) = true
  all : AllTo n listed
  inv : HeadInv md ops n listed
  sim : Sim τ σ
theorem NTr.lexM [GTab] {n : Nat} {τ : St} (hs : Region.sinkB md ops n = true) (hc : midB md ops n = true) (hn : n < ops.size) : ∀ (l : List Oper) (k : Nat) (listed : Array Bool) (σ : St), (∀ j, j < l.length → l[j]? = ops[k + j]?) → k + l.length = n → HeadInv md ops n listed → AllTo k listed →
    lexMid md ops (ops.size - n - 1) l.length k listed = true → NTr P nt ops l σ τ → anyL P nt md ops n (AtMid md ops n τ) l.length listed σ
  | [], k, listed, σ, _, hk, inv, hall, hB, h => by
    have : k = n := by simpa using hk
    subst this
    cases h
    simp only [List.length_nil, lexMid, Bool.and_eq_true, decide_eq_true_eq] at hB
    exact ⟨hB.1, hB.2, hall, inv, .refl _⟩
  | o :: l, k, listed, σ, hl, hk, inv, hall, hB, h => by
    have h0 : ops[k]? = some o := by simpa using (hl 0 (by simp)).symm
    simp only [List.length_cons, lexMid, Bool.and_eq_true] at hB
    obtain ⟨⟨hr, hf⟩, hB'⟩ := hB
    have hkn : k < n := by simp only [List.length_cons] at hk; omega
    have hr' : k ∈ Region.ready md ops listed := by simpa using hr
    have hkl : k < listed.size := by rw [inv.size]; omega
    cases h with
    | cons hd hy ht =>
      refine anyL_first (fun l σ σ' hs h1 => ⟨h1.one, h1.lex, h1.all, h1.inv, h1.sim.trans hs⟩) h0 hd (fun _ inv i hin hun j => tail_waits2 hs hc hn inv _ i rfl hin hun j) hkn (fun listed' a' hL j hj => by rw [hL.one] at hj; have := List.mem_singleton.1 hj; omega) l.length listed σ inv (Region.free_spec h0 hf) hr' hy
        (NTr.lexM hs hc hn l (k + 1) _ _ (fun j hj => by have := hl (j + 1) (by simp; omega); simpa [Nat.add_assoc, Nat.add_comm 1 j] using this) (by simp only [List.length_cons] at hk; omega) (inv.set hr' hkn) (fun j hj => ?_) hB' ht)
      by_cases hjk : j = k
      · subst hjk; simp [hkl]
      · rw [getD_set_ne false (Ne.symm hjk)]; exact hall j (by omega)

/-- What may come behind the call. -/
def RestOk [GTab] (P : Program) (nt : Nat) (ops : Array Oper) (k : Nat) (σ τ : St) : Prop :=
  ∀ (E0 : Env) (n0 : NB) (w0 : World) (Q : Exit → Act → World → Prop), (∀ E a w, SRel E0 n0 w0 nt E τ a w → Q .normal a w) → ∀ (listed : Array Bool) (E : Env) (a : Act) (w : World), listed.size = ops.size → AllTo k listed → (∀ t, k ≤ t → t < ops.size → listed.getD t true = false) →
    Region.lexFrom .any ops (ops.size - k) k listed = true → SRel E0 n0 w0 nt E σ a w → wpAny P .any ops Q (ops.size - k) listed a w
theorem mid_ok [GTab] {id n : Nat} {Q : Exit → Act → World → Prop} {E : Env} {σ τ ρ ρ' π : St} {a : Act} {w : World} {o : Oper} (hm : P.follows .mixedOrders = true) (hB : lexMidB .any ops n = true) (h : SRel E0 n0 w0 nt E σ a w) (ht : NTr P nt ops (ops.toList.take n) σ τ)
    (ho : ops[n]? = some o) (ht2 : Tr P nt ops [o] τ ρ) (hw : Weak ρ ρ') (hr : RestOk P nt ops (n + 1) ρ' π)
    (hK : ∀ E' a' w', SRel E0 n0 w0 nt E' π a' w' → Q .normal a' w') : (Code.region id ops true).wp P Q a w := by
  simp only [lexMidB, Bool.and_eq_true, decide_eq_true_eq] at hB
  obtain ⟨⟨⟨⟨_, hn⟩, hs⟩, hc⟩, hlex⟩ := hB
  have htl : (ops.toList.take n).length = n := by simp; omega
  have inv0 : HeadInv .any ops n (Array.replicate ops.size false) :=
    ⟨by simp, fun j oj _ hl => (by rw [getD_replicate_false] at hl; cases hl), fun t _ ht => getD_in (by simpa using ht) (getD_replicate_false _ _)⟩
  have H := NTr.lexM (P := P) (nt := nt) (md := .any) (τ := τ) hs hc hn (ops.toList.take n) 0 _ σ (fun j hj => by
    have hj' : j < n := by rw [htl] at hj; exact hj
    simp [hj']) (by simpa using htl) inv0 (fun j hj => absurd hj (Nat.not_lt_zero _)) (by rw [htl]; exact hlex) ht
  refine wp_region_any hm ?_
  have := anyL_sound (E0 := E0) (n0 := n0) (w0 := w0) (Q := Q) (g := ops.size - (n + 1) + 1) (fun listed E' σ' a' w' h' hL => by
    refine ⟨fun e => (by rw [hL.one] at e; cases e), fun i hi => ?_⟩
    rw [hL.one] at hi
    have hi := List.mem_singleton.1 hi
    subst hi
    have hil : i < listed.size := by rw [hL.inv.size]; exact hn
    have go : ∀ E1 a1 w1, SRel E0 n0 w0 nt E1 ρ' a1 w1 → wpAny P .any ops Q (ops.size - (i + 1)) (listed.setIfInBounds i true) a1 w1 := fun E1 a1 w1 h1 =>
      hr E0 n0 w0 Q hK _ E1 a1 w1 (by simp [hL.inv.size]) (fun j hj => by
        by_cases hji : j = i
        · subst hji; simp [hil]
        · rw [getD_set_ne false (Ne.symm hji)]; exact hL.all j (by omega)) (fun t ht ht' => by
        rw [getD_set_ne true (by omega)]
        exact hL.inv.tail t (by omega) ht') (by have := hL.lex; rwa [Nat.sub_sub] at this) h1
    have h2 := h'.sim hL.sim.symm
    unfold wpOp
    rw [ho]
    dsimp only
    cases ht2 with
    | on hd hg hi htr =>
      cases htr
      rw [hg.wanted h2, if_pos rfl]
      exact .inl (ImpS.next h2 hd hi fun E1 a1 w1 h3 => go E1 a1 w1 (h3.weak hw))
    | off hd hg htr =>
      cases htr
      rw [hg.wanted h2, if_neg (by simp)]
      exact go E' _ w' ((h2.put hd (.pure (.p _)) (.p _)).weak hw)) _ _ _ _ _ _ h.drew H
  rw [htl, show n + (ops.size - (n + 1) + 1) = ops.size by omega] at this
  exact this

theorem rest_pure [GTab] {k : Nat} {l : List Oper} {σ τ τ' : St} (hl : ∀ j, l[j]? = ops[k + j]?) (hk : k + l.length = ops.size) (ht : NTr P nt ops l σ τ) (hw : Weak τ τ') : RestOk P nt ops k σ τ' := by
  intro E0 n0 w0 Q hQ listed E a w hsz hall hun hB h
  have e : ops.size - k = l.length := by omega
  rw [e] at hB ⊢
  refine anyA_sound (K := fun σ' => Sim τ σ') (fun E' σ' a' w' h' hs => hQ E' a' w' ((h'.sim hs.symm).weak hw)) _ _ E σ a _ h ?_
  exact NTr.lex (fun σ σ' hs h1 => h1.trans hs) l k listed σ τ hl hB ht (.refl _)

/-- Pure operations and one store of a variable. -/
def stoL [GTab] (P : Program) (nt : Nat) (q : List Oper × Oper × List Oper) (σ : St) (K : St → Option R) : Option R :=
  match q.2.1.op, q.2.1.dst, q.2.1.guard with
  | .store t a x, none, none =>
    match ev σ a with
    | .bp id _ =>
      popsK P nt (σ.h.set id none) q.1 ⟨σ.t, σ.h.set id none⟩ fun σ1 =>
        match ev σ1 a with
        | .bp id' off =>
          if Nat.beq id' id then
            stoK P σ.h t (.bp id' off) (ev σ1 x) fun h' _ => popsK P nt (σ.h.set id none) q.2.2 σ1 fun σ2 => K ⟨σ2.t, h'⟩
          else none
        | _ => none
    | _ => none
  | _, _, _ => none
theorem stoL_ok [GTab] {k : Nat} {q : List Oper × Oper × List Oper} {σ : St} {K : St → Option R} {r : R} (hl : ∀ j, (q.1 ++ q.2.1 :: q.2.2)[j]? = ops[k + j]?) (hk0 : k + (q.1 ++ q.2.1 :: q.2.2).length = ops.size) (hst : isSto q.2.1 = true) (hno : (ops.toList.take k).all (fun o => !isSto o) = true)
    (hk : stoL P nt q σ K = some r) : ∃ τ, K τ = some r ∧ RestOk P nt ops k σ τ := by
  obtain ⟨pre, st, suf⟩ := q
  simp only at hl hk0 hst
  unfold stoL at hk
  simp only at hk
  split at hk
  case h_2 => cases hk
  rename_i t ao xo hop hdst hgd
  split at hk
  case h_2 => cases hk
  rename_i id off0 ha0
  obtain ⟨hpre, σ1, y1, g1, hk⟩ := popsK_ok hk
  split at hk
  case h_2 => cases hk
  rename_i id' off ha
  split at hk
  case isFalse => cases hk
  rename_i hid
  have hid := Nat.eq_of_beq_eq_true hid
  subst hid
  obtain ⟨l', hk, hf⟩ := stoK_form hk
  have himp : ImpS P σ.h (ev σ1) (.store t ao xo) (σ.h.set id' (some (.box l'))) (.p undef) := by
    rw [← ha] at hf
    obtain ⟨h', y, k1, k2⟩ := stoK_ok hf
    cases k2
    exact k1
  obtain ⟨hsuf, σ2, y2, g2, hk⟩ := popsK_ok hk
  refine ⟨_, hk, fun E0 n0 w0 Q hQ listed E a w hsz hall hun hB hs => ?_⟩
  have ytr : YTr nt (YS P σ.h (σ.h.set id' (some (.box l'))) (σ.h.set id' none)) (pre ++ st :: suf) ⟨σ.t, σ.h.set id' none⟩ σ2 := by
    refine (y1 _ _).append (.cons (r := .p undef) (by rw [hdst]; rfl) (.inl ⟨hst, rfl, hdst, hgd, by rw [hop]; exact himp⟩) ?_)
    rw [hdst]
    exact y2 _ _
  have e : ops.size - k = (pre ++ st :: suf).length := by omega
  rw [e] at hB ⊢
  have hany := YTr.lex (nt := nt) (ops := ops) (md := .any) YS.congr (pre ++ st :: suf) k listed _ hl hk0 hsz hall hB ytr
  have hp : ops[k + pre.length]? = some st := by
    rw [← hl]; simp
  have hps : k + pre.length < ops.size := (Array.getElem?_eq_some_iff.1 hp).1
  have hun2 : ∀ i o, ops[i]? = some o → isSto o = true → i = k + pre.length := fun i o ho hso => by
    rcases Nat.lt_or_ge i k with hik | hik
    · have hm : o ∈ ops.toList.take k := by
        refine List.mem_of_getElem? (i := i) ?_
        rw [List.getElem?_take_of_lt hik]
        simpa using ho
      have := List.all_eq_true.1 hno o hm
      rw [hso] at this; cases this
    obtain ⟨j, rfl⟩ : ∃ j, i = k + j := ⟨i - k, by omega⟩
    have ho2 : (pre ++ st :: suf)[j]? = some o := by rw [hl]; exact ho
    rcases Nat.lt_trichotomy j pre.length with hi | hi | hi
    · rw [List.getElem?_append_left hi] at ho2
      have := hpre o (List.mem_of_getElem? ho2)
      rw [this] at hso; cases hso
    · rw [hi]
    · rw [List.getElem?_append_right (by omega)] at ho2
      obtain ⟨m, hm⟩ : ∃ m, j - pre.length = m + 1 := ⟨j - pre.length - 1, by omega⟩
      rw [hm] at ho2
      have := hsuf o (List.mem_of_getElem? (l := suf) (i := m) (by simpa using ho2))
      rw [this] at hso; cases hso
  refine anyYS_sound (E0 := E0) (n0 := n0) (w0 := w0) (p := k + pre.length) (K := fun σ' => Sim σ2 σ') rfl rfl hp hst hun2 (fun E' σ' a' w' h' hsim => hQ E' a' w' (h'.sim ⟨fun i => (hsim.1 i).symm, rfl⟩)) _ _ E ⟨σ.t, σ.h.set id' none⟩ a _ rfl hsz ?_ hany
  rw [getD_both (hun _ (by omega) hps)]
  simp only [Bool.false_eq_true, if_false]
  exact hs

def restK [GTab] (C : Cfg) (ro : Rok) (nt : Nat) (ops : Array Oper) (k : Nat) (σ : St) (K : St → Option R) : Option R :=
  match splitS (ops.toList.drop k) with
  | none => nopsK C ro nt ops (ops.size + ops.size + 2) R [] (ops.toList.drop k) σ K
  | some q => if (ops.toList.take k).all (fun o => !isSto o) then stoL C.P nt q σ K else none
theorem restK_ok [GTab] {C : Cfg} {ro : Rok} (hro : RokOk C.P ro) {k : Nat} {σ : St} {K : St → Option R} {r : R} (hkl : k ≤ ops.size) (hk : restK C ro nt ops k σ K = some r) : ∃ τ, K τ = some r ∧ RestOk C.P nt ops k σ τ := by
  have hl : ∀ j, (ops.toList.drop k)[j]? = ops[k + j]? := fun j => by simp [List.getElem?_drop]
  have hlen : k + (ops.toList.drop k).length = ops.size := by simp; omega
  unfold restK at hk
  split at hk
  · obtain ⟨τ, τ', h1, h2, h3⟩ := nopsK_ok hro _ _ _ _ _ _ _ hk
    exact ⟨τ', h3, rest_pure hl hlen h1 h2⟩
  · rename_i q hq
    split at hk
    case isFalse => cases hk
    rename_i hno
    obtain ⟨h1, h2⟩ := splitS_ok hq
    rw [h1] at hl hlen
    exact stoL_ok hl hlen h2 hno hk

def isCall : Option Oper → Bool
  | some o => (match o.op with
    | .call _ => true
    | _ => false)
  | none => false
/-- A region that draws, with one call amid. -/
def midRK [GTab] (C : Cfg) (call : Callk) (ro : Rok) (nt : Nat) (ops : Array Oper) (n : Nat) (σ : St) (K : St → Option R) : Option R :=
  match ops[n]? with
  | some o => nopsK C ro nt ops (ops.size + ops.size + 2) R [] (ops.toList.take n) σ fun σ => opsK C call ro nt ops (ops.size + ops.size + 2) [o] σ fun σ => restK C ro nt ops (n + 1) σ K
  | none => none
theorem midRK_ok [GTab] {C : Cfg} {call : Callk} {ro : Rok} (hcall : CallOk C.P call) (hro : RokOk C.P ro) {n : Nat} {σ : St} {K : St → Option R} {r : R} (hm : C.P.follows .mixedOrders = true) (hB : lexMidB .any ops n = true) (hk : midRK C call ro nt ops n σ K = some r) :
    ∃ τ, K τ = some r ∧ ∀ (E0 : Env) (n0 : NB) (w0 : World) (E : Env) (a : Act) (w : World) (id : Nat) (Q : Exit → Act → World → Prop), SRel E0 n0 w0 nt E σ a w → (∀ E' a' w', SRel E0 n0 w0 nt E' τ a' w' → Q .normal a' w') → (Code.region id ops true).wp C.P Q a w := by
  unfold midRK at hk
  split at hk
  case h_2 => cases hk
  rename_i o ho
  have hn : n + 1 ≤ ops.size := (Array.getElem?_eq_some_iff.1 ho).1
  obtain ⟨τ, τ', h1, h2, h3⟩ := nopsK_ok hro _ _ _ _ _ _ _ hk
  obtain ⟨ρ, ρ', h4, h5, h6⟩ := opsK_ok hcall hro _ _ _ _ _ h3
  obtain ⟨ρ2, h7, h8⟩ := h4.strong h2
  obtain ⟨π, h9, h10⟩ := restK_ok hro hn h6
  exact ⟨π, h9, fun E0 n0 w0 E a w id Q h hK => mid_ok hm hB h h1 ho h7 (h8.trans h5) h10 hK⟩
end
end Go.Up

/- Up, part y4: regions that draw: operations that turn the heap, in one order; the others pure, each over a heap that all it may meet agree on. -/
import Derived.Test.YtppobdnacmdgbaaDoorUy3
set_option linter.unusedVariables false
set_option linter.unusedSimpArgs false
namespace Go.Up
open Go.RowKit

/-! ### Any order, by places -/
section
variable {P : Program} {nt : Nat} {ops : Array Oper} {md : Region.Mode} {Y : Nat → St → AV → Prop}
def zOp (nt : Nat) (ops : Array Oper) (Y : Nat → St → AV → Prop) (i : Nat) (K : St → Prop) (σ : St) : Prop :=
  match ops[i]? with
  | none => K σ
  | some o => okDst nt o.dst = true ∧ ∃ r, Y i σ r ∧ K (σ.put o.dst r)
def anyZ (nt : Nat) (md : Region.Mode) (ops : Array Oper) (Y : Nat → St → AV → Prop) (K : Array Bool → St → Prop) : Nat → Array Bool → St → Prop
  | 0, listed, σ => Region.ready md ops listed = [] ∧ K listed σ
  | fuel + 1, listed, σ => (Region.ready md ops listed = [] → K listed σ) ∧ ∀ i ∈ Region.ready md ops listed, zOp nt ops Y i (anyZ nt md ops Y K fuel (listed.setIfInBounds i true)) σ
def ZC (ops : Array Oper) (Y : Nat → St → AV → Prop) : Prop := ∀ (i : Nat) (o : Oper) (σ σ' : St) (r : AV), ops[i]? = some o → σ.h = σ'.h → (∀ d ∈ o.looksAt ops, look σ.t d = look σ'.t d) → Y i σ r → Y i σ' r
theorem zOp_mono {i : Nat} {σ : St} {K K' : St → Prop} (h : ∀ σ, K σ → K' σ) (hh : zOp nt ops Y i K σ) : zOp nt ops Y i K' σ := by
  unfold zOp at *
  split
  · rename_i e; rw [e] at hh; exact h _ hh
  · rename_i o e; rw [e] at hh; obtain ⟨h1, r, h2, h3⟩ := hh; exact ⟨h1, r, h2, h _ h3⟩
theorem zOp_sim [GTab] (hy : ZC ops Y) {i : Nat} {σ σ' : St} {K : St → Prop} (hK : ∀ σ σ', Sim σ σ' → K σ → K σ') (h : Sim σ σ') (hh : zOp nt ops Y i K σ) : zOp nt ops Y i K σ' := by
  unfold zOp at *
  split
  · rename_i e; rw [e] at hh; exact hK _ _ h hh
  · rename_i o e; rw [e] at hh; obtain ⟨h1, r, h2, h3⟩ := hh; exact ⟨h1, r, hy _ _ _ _ _ e h.2 (fun d _ => h.1 d) h2, hK _ _ (h.put _ _) h3⟩
theorem anyZ_sim [GTab] (hy : ZC ops Y) {K : Array Bool → St → Prop} (hK : ∀ l σ σ', Sim σ σ' → K l σ → K l σ') : ∀ (fuel : Nat) (listed : Array Bool) (σ σ' : St), Sim σ σ' → anyZ nt md ops Y K fuel listed σ → anyZ nt md ops Y K fuel listed σ'
  | 0, _, _, _, h, hh => ⟨hh.1, hK _ _ _ h hh.2⟩
  | fuel + 1, _, _, _, h, hh => ⟨fun e => hK _ _ _ h (hh.1 e), fun i hi => zOp_sim hy (anyZ_sim hy hK fuel _) h (hh.2 i hi)⟩
theorem zOp_put [GTab] (hyc : ZC ops Y) {i j : Nat} {oi oj : Oper} {v : AV} (hi : ops[i]? = some oi) (hj : ops[j]? = some oj) (hap : oi.apart ops oj = true) {K : St → Prop} (hK : ∀ σ σ', Sim σ σ' → K σ → K σ') {σ : St}
    (hy : Y i σ v) (h : zOp nt ops Y j K (σ.put oi.dst v)) : zOp nt ops Y j (fun σ' => Y i σ' v ∧ K (σ'.put oi.dst v)) σ := by
  obtain ⟨h1, h2, h3⟩ := Oper.apart_spec hap
  unfold zOp at *
  rw [hj] at h ⊢
  dsimp only at h ⊢
  obtain ⟨hd, r, hr, hk⟩ := h
  refine ⟨hd, r, hyc _ _ _ _ _ hj (St.put_h _ _ _) (fun d hdm => look_put fun e => h1 d e hdm) hr, ?_, hK _ _ (Sim.comm σ v r h2) hk⟩
  exact hyc _ _ _ _ _ hi (St.put_h _ _ _).symm (fun d hdm => (look_put fun e => h3 d e hdm).symm) hy
theorem anyZ_first [GTab] (hyc : ZC ops Y) {K : Array Bool → St → Prop} (hK : ∀ l σ σ', Sim σ σ' → K l σ → K l σ') {i : Nat} {oi : Oper} {v : AV} (hi : ops[i]? = some oi) (hd : okDst nt oi.dst = true) :
    ∀ (fuel : Nat) (listed : Array Bool) (σ : St),
      (∀ j oj, ops[j]? = some oj → j ≠ i → listed.getD j true = false → (∀ e ∈ oj.after, Region.binds md e = true → e.on ≠ i) → oi.apart ops oj = true) →
      i ∈ Region.ready md ops listed → Y i σ v →
      anyZ nt md ops Y K fuel (listed.setIfInBounds i true) (σ.put oi.dst v) → anyZ nt md ops Y K (fuel + 1) listed σ := by
  have start : ∀ (fuel : Nat) (listed : Array Bool) (σ : St), Y i σ v → anyZ nt md ops Y K fuel listed (σ.put oi.dst v) → zOp nt ops Y i (anyZ nt md ops Y K fuel listed) σ := fun fuel listed σ hy H => by
    unfold zOp; rw [hi]; exact ⟨hd, v, hy, H⟩
  intro fuel
  induction fuel with
  | zero =>
    intro listed σ _ hr hy H
    refine ⟨fun h => (by rw [h] at hr; cases hr), fun j hj => ?_⟩
    by_cases hji : j = i
    · subst hji; exact start _ _ _ hy H
    · have := ready_mono hj hji
      rw [H.1] at this
      cases this
  | succ fuel ih =>
    intro listed σ hfree hr hy H
    refine ⟨fun h => (by rw [h] at hr; cases hr), fun j hj => ?_⟩
    by_cases hji : j = i
    · subst hji; exact start _ _ _ hy H
    · have h1 := H.2 j (ready_mono hj hji)
      obtain ⟨hjun, oj, hoj, hall⟩ := mem_ready.1 hj
      have hnot : ∀ e ∈ oj.after, Region.binds md e = true → e.on ≠ i := fun e he hb heq => by
        have h1 := hall e he hb
        have h0 := (mem_ready.1 hr).1
        rw [heq] at h1
        rcases Nat.lt_or_ge i listed.size with h' | h'
        · simp [h'] at h0 h1; rw [h0] at h1; cases h1
        · simp [Array.getElem?_eq_none h'] at h1
      have h2 := zOp_put hyc hi hoj (hfree j oj hoj hji hjun hnot) (anyZ_sim hyc hK _ _) hy h1
      have hfree' : ∀ k ok, ops[k]? = some ok → k ≠ i → (listed.setIfInBounds j true).getD k true = false →
          (∀ e ∈ ok.after, Region.binds md e = true → e.on ≠ i) → oi.apart ops ok = true := fun k ok hk hki hun hno => by
        refine hfree k ok hk hki ?_ hno
        by_cases hjk : j = k
        · subst hjk; exact hjun
        · rw [getD_set_ne true hjk] at hun; exact hun
      refine zOp_mono (fun σ' h3 => ih (listed.setIfInBounds j true) σ' hfree' (ready_mono hr (Ne.symm hji)) h3.1 ?_) h2
      rw [Array.setIfInBounds_comm _ _ hji]
      exact h3.2
/-- One behind the other, from a place on. -/
inductive ZTr (nt : Nat) (Y : Nat → St → AV → Prop) : Nat → List Oper → St → St → Prop
  | nil (k σ) : ZTr nt Y k [] σ σ
  | cons {k o l σ τ r} : okDst nt o.dst = true → Y k σ r → ZTr nt Y (k + 1) l (σ.put o.dst r) τ → ZTr nt Y k (o :: l) σ τ
theorem ZTr.lex [GTab] (hyc : ZC ops Y) {τ : St} : ∀ (l : List Oper) (k : Nat) (listed : Array Bool) (σ : St), (∀ j, l[j]? = ops[k + j]?) → k + l.length = ops.size → listed.size = ops.size → AllTo k listed →
    Region.lexFrom md ops l.length k listed = true → ZTr nt Y k l σ τ → anyZ nt md ops Y (fun listed' σ' => AllTo ops.size listed' ∧ Sim τ σ') l.length listed σ
  | [], k, listed, σ, _, hk, hsz, hall, hB, h => by
    cases h
    have : k = ops.size := by simpa using hk
    exact ⟨by simpa [Region.lexFrom] using hB, this ▸ hall, .refl _⟩
  | o :: l, k, listed, σ, hl, hk, hsz, hall, hB, h => by
    have h0 : ops[k]? = some o := by simpa using (hl 0).symm
    simp only [List.length_cons, Region.lexFrom, Bool.and_eq_true] at hB
    obtain ⟨⟨hr, hf⟩, hB'⟩ := hB
    have hkl : k < listed.size := by rw [hsz]; exact (Array.getElem?_eq_some_iff.1 h0).1
    cases h with
    | cons hd hy ht =>
      refine anyZ_first hyc (fun l σ σ' hs h1 => ⟨h1.1, h1.2.trans hs⟩) h0 hd l.length listed σ (Region.free_spec h0 hf) (by simpa using hr) hy
        (ZTr.lex hyc l (k + 1) _ _ (fun j => by have := hl (j + 1); simpa [Nat.add_assoc, Nat.add_comm 1 j] using this) (by simp only [List.length_cons] at hk; omega) (by simp [hsz]) (fun j hj => ?_) hB' ht)
      by_cases hjk : j = k
      · subst hjk; simp [hkl]
      · rw [getD_set_ne false (Ne.symm hjk)]; exact hall j (by omega)
end

/-! ### Which waits for which -/
/-- The places of what turns the heap; for each place, how many of these stand surely ahead, and how many may. -/
structure Pl where
  ps : List Nat
  lo : List Nat
  hi : List Nat
def posOf : List Nat → Nat → Option Nat
  | [], _ => none
  | x :: l, k => if Nat.beq x k then some 0 else (match posOf l k with
    | some j => some (j + 1)
    | none => none)
theorem posOf_some : ∀ {ps : List Nat} {k j : Nat}, posOf ps k = some j → ps[j]? = some k
  | [], _, _, h => by cases h
  | x :: l, k, j, h => by
    unfold posOf at h
    split at h
    · rename_i hb
      cases h
      rw [Nat.eq_of_beq_eq_true hb]; rfl
    · split at h
      · rename_i j' hj
        cases h
        have := posOf_some hj
        simpa using this
      · cases h
theorem posOf_none : ∀ {ps : List Nat} {k j : Nat}, posOf ps k = none → ps[j]? ≠ some k
  | [], _, _, _, h => by cases h
  | x :: l, k, j, h, hj => by
    unfold posOf at h
    split at h
    · cases h
    · rename_i hb
      split at h
      · cases h
      · rename_i hn
        cases j with
        | zero => simp only [List.getElem?_cons_zero, Option.some.injEq] at hj; subst hj; exact hb (Nat.beq_refl _)
        | succ j => exact posOf_none hn (by simpa using hj)
def loOf (md : Region.Mode) (ps : List Nat) : List Oper → List Nat → List Nat
  | [], acc => acc
  | o :: l, acc => loOf md ps l (acc ++ [o.after.toList.foldl (fun a e => if Region.binds md e then max a (max (acc.getD e.on 0) (match posOf ps e.on with
    | some j => j + 1
    | none => 0)) else a) 0])
def hiOf (md : Region.Mode) (ops : Array Oper) (ps : List Nat) : Nat → List Nat → List Nat
  | 0, acc => acc
  | i + 1, acc => hiOf md ops ps i (((List.range ops.size).foldl (fun a t => if Nat.blt i t && Region.waitsFor md ops t i then min a (match posOf ps t with
    | some j => j
    | none => acc.getD (t - (i + 1)) ps.length) else a) ps.length) :: acc)
def plOf (md : Region.Mode) (ops : Array Oper) (ps : List Nat) : Pl := ⟨ps, loOf md ps ops.toList [], hiOf md ops ps ops.size []⟩
def Pl.l (p : Pl) (i : Nat) : Nat := p.lo.getD i 0
def Pl.h (p : Pl) (i : Nat) : Nat := p.hi.getD i p.ps.length
/-- Is it so? -/
def plB (md : Region.Mode) (ops : Array Oper) (p : Pl) : Bool :=
  ((List.range ops.size).all fun i => Nat.beq (p.l i) 0 || (List.range i).any fun k => Region.waitsFor md ops i k && (p.ps[p.l i - 1]? == some k || Nat.ble (p.l i) (p.l k))) &&
  ((List.range ops.size).all fun i => Nat.ble p.ps.length (p.h i) || (List.range ops.size).any fun t => Nat.blt i t && Region.waitsFor md ops t i && (p.ps[p.h i]? == some t || Nat.ble (p.h t) (p.h i))) &&
  ((List.range p.ps.length).all fun j => match p.ps[j]? with
    | some i => Nat.ble j (p.l i) && Nat.blt i ops.size
    | none => false) &&
  decide p.ps.Nodup

section
variable {ops : Array Oper} {md : Region.Mode} {p : Pl}
structure PlOk (md : Region.Mode) (ops : Array Oper) (p : Pl) : Prop where
  lo : ∀ i, i < ops.size → p.l i = 0 ∨ ∃ k, k < i ∧ Region.waitsFor md ops i k = true ∧ (p.ps[p.l i - 1]? = some k ∨ p.l i ≤ p.l k)
  hi : ∀ i, i < ops.size → p.ps.length ≤ p.h i ∨ ∃ t, t < ops.size ∧ i < t ∧ Region.waitsFor md ops t i = true ∧ (p.ps[p.h i]? = some t ∨ p.h t ≤ p.h i)
  ch : ∀ (j i : Nat), p.ps[j]? = some i → j ≤ p.l i ∧ i < ops.size
  nd : ∀ (j k i : Nat), p.ps[j]? = some i → p.ps[k]? = some i → j = k
theorem plB_ok (h : plB md ops p = true) : PlOk md ops p := by
  simp only [plB, Bool.and_eq_true, decide_eq_true_eq] at h
  obtain ⟨⟨⟨h1, h2⟩, h3⟩, h4⟩ := h
  refine ⟨fun i hi => ?_, fun i hi => ?_, fun j i hj => ?_, fun j k i hj hk => ?_⟩
  · have := List.all_eq_true.1 h1 i (List.mem_range.2 hi)
    rw [Bool.or_eq_true] at this
    rcases this with h | h
    · exact .inl (Nat.eq_of_beq_eq_true h)
    · obtain ⟨k, hk, hk2⟩ := List.any_eq_true.1 h
      simp only [Bool.and_eq_true, Bool.or_eq_true, beq_iff_eq] at hk2
      exact .inr ⟨k, List.mem_range.1 hk, hk2.1, hk2.2.imp id Nat.le_of_ble_eq_true⟩
  · have := List.all_eq_true.1 h2 i (List.mem_range.2 hi)
    rw [Bool.or_eq_true] at this
    rcases this with h | h
    · exact .inl (Nat.le_of_ble_eq_true h)
    · obtain ⟨t, ht, ht2⟩ := List.any_eq_true.1 h
      simp only [Bool.and_eq_true, Bool.or_eq_true, beq_iff_eq] at ht2
      exact .inr ⟨t, List.mem_range.1 ht, by simpa [Nat.blt, Nat.succ_le_iff] using ht2.1.1, ht2.1.2, ht2.2.imp id Nat.le_of_ble_eq_true⟩
  · have hjl : j < p.ps.length := (List.getElem?_eq_some_iff.1 hj).1
    have := List.all_eq_true.1 h3 j (List.mem_range.2 hjl)
    rw [hj] at this
    simp only [Bool.and_eq_true] at this
    exact ⟨Nat.le_of_ble_eq_true this.1, by simpa [Nat.blt, Nat.succ_le_iff] using this.2⟩
  · obtain ⟨a1, a2⟩ := List.getElem?_eq_some_iff.1 hj
    obtain ⟨b1, b2⟩ := List.getElem?_eq_some_iff.1 hk
    exact (List.getElem_inj h4).1 (a2.trans b2.symm)

/-- So many of those that turn the heap are through. -/
structure AtC (p : Pl) (listed : Array Bool) (c : Nat) : Prop where
  le : c ≤ p.ps.length
  iff : ∀ (j i : Nat), p.ps[j]? = some i → (listed.getD i false = true ↔ j < c)
theorem inv_before {listed : Array Bool} (inv : HeadInv md ops ops.size listed) {i : Nat} (hi : listed.getD i false = true) {k : Nat} (hw : Region.waitsFor md ops i k = true) : listed.getD k false = true := by
  obtain ⟨oj, hoj, e, he, hb, hon⟩ := Region.waitsFor_spec hw
  have := inv.closed i oj hoj hi e he hb
  rwa [hon] at this
theorem AtC.lo {listed : Array Bool} {c : Nat} (hp : PlOk md ops p) (ha : AtC p listed c) (inv : HeadInv md ops ops.size listed) : ∀ (i : Nat), i < ops.size → (∀ k, Region.waitsFor md ops i k = true → listed.getD k false = true) → p.l i ≤ c := by
  intro i
  induction i using Nat.strongRecOn with
  | _ i ih =>
    intro hi hw
    rcases hp.lo i hi with h | ⟨k, hk, hwk, h⟩
    · omega
    · have hkl := hw k hwk
      rcases h with h | h
      · have := (ha.iff _ _ h).1 hkl
        omega
      · have := ih k hk (by omega) (fun k' hk' => inv_before inv hkl hk')
        omega
theorem AtC.hi {listed : Array Bool} {c : Nat} (hp : PlOk md ops p) (ha : AtC p listed c) (inv : HeadInv md ops ops.size listed) : ∀ (d i : Nat), ops.size - i = d → i < ops.size → listed.getD i false = false → c ≤ p.h i := by
  intro d
  induction d using Nat.strongRecOn with
  | _ d ih =>
    intro i hd hi hun
    rcases hp.hi i hi with h | ⟨t, ht, hit, hwt, h⟩
    · have := ha.le; omega
    · have htun : listed.getD t false = false := by
        cases hl : listed.getD t false with
        | false => rfl
        | true => have := inv_before inv hl hwt; rw [hun] at this; cases this
      rcases h with h | h
      · rcases Nat.lt_or_ge (p.h i) c with h1 | h1
        · have := (ha.iff _ _ h).2 h1
          rw [htun] at this; cases this
        · exact h1
      · have := ih (ops.size - t) (by omega) t rfl ht htun
        omega
end

/-! ### Heaps that agree -/
theorem Lies.of_up [GTab] {v h : AH} (hu : ∀ j x, v.o j = some x → h.o j = some x) (hg : v.g = h.g) : Lies v h := ⟨hu, fun _ _ hh hok => hh.sub hok hu hg⟩
/-- But for some objects, and such as are new. -/
structure Agr (n0 : Nat) (ks : List Nat) (h h' : AH) : Prop where
  o : ∀ j, j < n0 → memT ks j = false → h'.o j = h.o j
  g : h'.g = h.g
theorem memT_append : ∀ (a b : List Nat) (j : Nat), memT (a ++ b) j = (memT a j || memT b j)
  | [], _, _ => rfl
  | x :: a, b, j => by simp only [List.cons_append, memT, memT_append a b j, Bool.or_assoc]
theorem Agr.refl (n0 : Nat) (h : AH) : Agr n0 [] h h := ⟨fun _ _ _ => rfl, rfl⟩
theorem Agr.trans {n0 : Nat} {a b : List Nat} {h h' h'' : AH} (x : Agr n0 a h h') (y : Agr n0 b h' h'') : Agr n0 (a ++ b) h h'' :=
  ⟨fun j hj hm => by
    rw [memT_append, Bool.or_eq_false_iff] at hm
    exact (y.o j hj hm.2).trans (x.o j hj hm.1), y.g.trans x.g⟩
def viewO (n0 : Nat) (ks : List Nat) (h : AH) : AH := ⟨fun j => if Nat.blt j n0 && !memT ks j then h.o j else none, h.n, h.g⟩
theorem viewO_lies [GTab] {n0 : Nat} {ks : List Nat} {h h' : AH} (ha : ∀ j, j < n0 → memT ks j = false → h'.o j = h.o j) (hg : h'.g = h.g) : Lies (viewO n0 ks h) h' := by
  refine .of_up (fun j x hx => ?_) hg.symm
  simp only [viewO] at hx
  split at hx
  · rename_i hc
    rw [Bool.and_eq_true, Bool.not_eq_true'] at hc
    rw [ha j (by simpa [Nat.blt, Nat.succ_le_iff] using hc.1) hc.2]
    exact hx
  · cases hx

/-! ### One that turns nothing -/
section
variable {P : Program} {R : Type}
def nl1K (P : Program) (ro : Rok) (v : AH) (e : Operand → AV) (op : Op) (K : AV → Option R) : Option R :=
  match op with
  | .buildSlice t len parts => litK P v t len (parts.toList.map fun x => (x.1, e x.2)) K
  | .call c =>
    match c.callee with
    | .value fo => (match fcall (e fo) (c.args.toList.map e) with
      | some q => ro R q.1 v q.2 K
      | none => none)
    | _ => pureK P v e (.call c) K
  | op => pureK P v e op K
theorem nl1K_ok [GTab] {ro : Rok} (hro : RokOk P ro) {v : AH} {e : Operand → AV} {op : Op} {K : AV → Option R} {r : R} (hk : nl1K P ro v e op K = some r) : ∃ y, (∀ h, Lies v h → v.g = h.g → ImpS P h e op h y) ∧ K y = some r := by
  unfold nl1K at hk
  split at hk
  · rename_i t len parts
    rw [litK_bind] at hk
    obtain ⟨y, hy, hk⟩ := Option.bind_eq_some_iff.1 hk
    refine ⟨y, fun h hl _ => ?_, hk⟩
    obtain ⟨z, h5, h6⟩ := litK_ok (litK_up hl.up hy)
    cases h6
    exact h5
  · rename_i c
    obtain ⟨callee, args, ts⟩ := c
    split at hk
    · rename_i fo hc
      simp only at hc hk
      subst hc
      split at hk
      · rename_i q hq
        obtain ⟨y, h1, h2⟩ := hro R _ _ _ _ _ hk
        exact ⟨y, fun h hl hg => call_imp hq (h1 h ⟨hl.up, hg⟩), h2⟩
      · cases hk
    · obtain ⟨y, hy, hk⟩ := pureK_ok hk
      exact ⟨y, fun h hl _ => hy.impAt hl.rel, hk⟩
  · obtain ⟨y, hy, hk⟩ := pureK_ok hk
    exact ⟨y, fun h hl _ => hy.impAt hl.rel, hk⟩
end

/-! ### One that turns the heap, beside pure ones -/
/-- The objects that are turned. -/
def touS : AV → List Nat
  | .rw id => [id]
  | .mw id => [id]
  | .ms id _ _ => [id]
  | .bp id _ => [id]
  | _ => []
def touX : AV → List Nat
  | .mw id => [id]
  | _ => []
def subT (a b : List Nat) : Bool := a.all (memT b)
theorem subT_ok {a b : List Nat} (h : subT a b = true) {j : Nat} (hj : memT b j = false) : memT a j = false := by
  cases ha : memT a j with
  | false => rfl
  | true =>
    exfalso
    have : ∀ a : List Nat, a.all (memT b) = true → memT a j = true → memT b j = true := fun a => by
      induction a with
      | nil => intro _ h; cases h
      | cons x a ih =>
        intro h1 h2
        simp only [List.all_cons, Bool.and_eq_true] at h1
        simp only [memT, Bool.or_eq_true] at h2
        rcases h2 with h2 | h2
        · rw [← Nat.eq_of_beq_eq_true h2]; exact h1.1
        · exact ih h1.2 h2
    rw [this a h ha] at hj
    cases hj
section
variable {R : Type}
def pairO {α β : Type} (a : α) (b : β) : Option (α × β) := some (a, b)
theorem appK_bind {C : Cfg} {h : AH} {t : TypeId} {s x : AV} {K : AH → AV → Option R} : appK C h t s x K = (appK C h t s x pairO).bind fun q => K q.1 q.2 := by
  have cb : ∀ {A B : Type} (b : Bool) (a : Option A) (f : A → Option B), Option.bind (cond b a none) f = cond b (Option.bind a f) none := fun b a f => by cases b <;> rfl
  unfold appK
  repeat' (first | rfl | split)
  all_goals first
    | rfl
    | (rw [cb]; rfl)
theorem appF_bind {C : Cfg} {h : AH} {t : TypeId} {s x : AV} {K : AH → AV → Option R} : appF C h t s x K = (appF C h t s x pairO).bind fun q => K q.1 q.2 := by
  unfold appF
  split
  · split
    · exact appK_bind
    · rfl
  · exact appK_bind
theorem set_other {h : AH} {id j : Nat} {x : Option AO} (h1 : memT [id] j = false) : (h.set id x).o j = h.o j := by
  simp only [memT, Bool.or_false] at h1
  have : ¬ j = id := fun e => by subst e; rw [Nat.beq_refl] at h1; cases h1
  simp only [AH.set, upd]
  rw [if_neg this]
theorem new_other {h : AH} {j : Nat} {x : AO} (hj : j < h.n) : (h.new x).o j = h.o j := by
  have : ¬ j = h.n := by omega
  simp only [AH.new, upd]
  rw [if_neg this]
theorem appK_agr {C : Cfg} {h : AH} {t : TypeId} {s x : AV} {q : AH × AV} (hk : appK C h t s x pairO = some q) : (∀ j, j < h.n → memT (touS s) j = false → q.1.o j = h.o j) ∧ q.1.g = h.g ∧ h.n ≤ q.1.n := by
  unfold appK at hk
  split at hk
  · split at hk
    · split at hk
      · split at hk
        · obtain ⟨_, hk⟩ := cond_inv hk
          cases hk
          exact ⟨fun j hj hm => (new_other (by exact hj)).trans (set_other hm), rfl, Nat.le_succ _⟩
        · cases hk
      · cases hk
    · cases hk
  · split at hk
    · split at hk
      · split at hk
        · obtain ⟨_, hk⟩ := cond_inv hk
          cases hk
          exact ⟨fun j hj hm => (new_other (by exact hj)).trans (set_other hm), rfl, Nat.le_succ _⟩
        · cases hk
      · cases hk
    · cases hk
  · split at hk
    · split at hk
      · split at hk
        · obtain ⟨_, hk⟩ := cond_inv hk
          cases hk
          exact ⟨fun j hj hm => (new_other (by exact hj)).trans (set_other hm), rfl, Nat.le_succ _⟩
        · cases hk
      · cases hk
    · cases hk
  · split at hk
    · split at hk
      · split at hk
        · split at hk
          · split at hk
            · obtain ⟨_, hk⟩ := cond_inv hk
              cases hk
              exact ⟨fun j hj hm => new_other hj, rfl, Nat.le_succ _⟩
            · obtain ⟨_, hk⟩ := cond_inv hk
              cases hk
              exact ⟨fun j hj hm => new_other hj, rfl, Nat.le_succ _⟩
          · cases hk
        · cases hk
      · cases hk
    · cases hk
theorem appF_agr {C : Cfg} {h : AH} {t : TypeId} {s x : AV} {q : AH × AV} (hk : appF C h t s x pairO = some q) : (∀ j, j < h.n → memT (touS s ++ touX x) j = false → q.1.o j = h.o j) ∧ q.1.g = h.g ∧ h.n ≤ q.1.n := by
  unfold appF at hk
  split at hk
  · split at hk
    · obtain ⟨h1, h2, h3⟩ := appK_agr hk
      refine ⟨fun j hj hm => ?_, h2, h3⟩
      rw [memT_append, Bool.or_eq_false_iff] at hm
      exact (h1 j hj hm.1).trans (set_other hm.2)
    · cases hk
  · obtain ⟨h1, h2, h3⟩ := appK_agr hk
    refine ⟨fun j hj hm => h1 j hj ?_, h2, h3⟩
    rw [memT_append, Bool.or_eq_false_iff] at hm
    exact hm.1
/-- A store of a variable, or an append. -/
def hp1K (C : Cfg) (ks : List Nat) (h : AH) (e : Operand → AV) (op : Op) (K : AH → AV → Option R) : Option R :=
  match op with
  | .store t a x =>
    match e a with
    | .bp id off => bif memT ks id then stoK C.P h t (.bp id off) (e x) K else none
    | _ => none
  | .call c =>
    match c.callee with
    | .builtin .append => (match c.args.toList, c.argTypes.toList with
      | [s, x], [t, t'] => if Nat.beq t t' then (bif subT (touS (e s) ++ touX (e x)) ks then appF C h t (e s) (e x) K else none) else none
      | _, _ => none)
    | _ => none
  | _ => none
theorem hp1K_ok [GTab] {C : Cfg} {call : Callk} (hcall : CallOk C.P call) {ks : List Nat} {h : AH} {e : Operand → AV} {op : Op} {K : AH → AV → Option R} {r : R} (hk : hp1K C ks h e op K = some r) :
    ∃ h' y, ImpS C.P h e op h' y ∧ (∀ j, j < h.n → memT ks j = false → h'.o j = h.o j) ∧ h'.g = h.g ∧ h.n ≤ h'.n ∧ K h' y = some r := by
  unfold hp1K at hk
  split at hk
  · rename_i t a x
    split at hk
    case h_2 => cases hk
    rename_i id off ha
    obtain ⟨hm, hk⟩ := cond_inv hk
    obtain ⟨l', hk, hf⟩ := stoK_form hk
    refine ⟨h.set id (some (.box l')), .p undef, ?_, fun j hj hj2 => ?_, rfl, Nat.le_refl _, hk⟩
    · rw [← ha] at hf
      obtain ⟨h', y, k1, k2⟩ := stoK_ok hf
      cases k2
      exact k1
    · refine set_other ?_
      simp only [memT, Bool.or_false]
      cases hb : Nat.beq id j with
      | false => rfl
      | true => rw [Nat.eq_of_beq_eq_true hb] at hm; rw [hm] at hj2; cases hj2
  · rename_i c
    split at hk
    case h_2 => cases hk
    rename_i hc
    split at hk
    case h_2 => cases hk
    rename_i s x t t' hargs htys
    split at hk
    case isFalse => cases hk
    rename_i htt
    obtain ⟨hsub, hk⟩ := cond_inv hk
    rw [appF_bind] at hk
    obtain ⟨q, hq, hk⟩ := Option.bind_eq_some_iff.1 hk
    obtain ⟨h1, h2, h3⟩ := appF_agr hq
    refine ⟨q.1, q.2, ?_, fun j hj hm => h1 j hj (subT_ok hsub hm), h2, h3, hk⟩
    have hst : stepK C call h e (.call c) pairO = some q := by
      simp only [stepK, hc, hargs, htys]
      rw [if_pos htt]
      exact hq
    obtain ⟨h', y, k1, k2⟩ := stepK_ok hcall hst
    cases k2
    exact k1
  · cases hk
end

/-! ### The region -/
section
variable {nt : Nat} {ops : Array Oper} {R : Type}
/-- What operations that turn the heap would turn, before any has run: where pointers come from. -/
def peek [GTab] (P : Program) (ops : List Oper) (σ : St) : Nat → Operand → AV
  | 0, x => ev σ x
  | n + 1, .tmp d =>
    match ops.find? fun o => match o.dst with
      | some d' => Nat.beq d d'
      | none => false with
    | some o => (match o.op with
      | .move x => peek P ops σ n x
      | .assign x => peek P ops σ n x
      | .nilCheck x => peek P ops σ n x
      | .fieldAddr t x f => (match ypure P σ.h (peek P ops σ n) (.fieldAddr t x f) with
        | some q => q.2
        | none => .junk)
      | .load t x => (match ypure P σ.h (peek P ops σ n) (.load t x) with
        | some q => q.2
        | none => .junk)
      | .slice t x lo hi mx => (match peek P ops σ n x with
        | .mw id => .mw id
        | .ms id _ _ => .mw id
        | _ => .junk)
      | _ => .junk)
    | none => ev σ (.tmp d)
  | _ + 1, x => ev σ x
def touched [GTab] (P : Program) (ops : List Oper) (σ : St) (op : Op) : List Nat :=
  match op with
  | .store _ a _ => touS (peek P ops σ 8 a)
  | .call c => (match c.callee, c.args.toList with
    | .builtin .append, [s, x] => touS (peek P ops σ 8 s) ++ touX (peek P ops σ 8 x)
    | _, _ => [])
  | _ => []
def opAt (ops : List Oper) (i : Nat) : Op := match ops[i]? with
  | some o => o.op
  | none => .move (.tmp 0)
/-- Stands one that turns nothing beside one that turns the heap? -/
def spans (p : Pl) (size j : Nat) : Bool := (List.range size).any fun i => (posOf p.ps i).isNone && Nat.ble (p.l i) j && Nat.blt j (p.h i)
def killsOf : List (List Nat) → Nat → Nat → List Nat
  | [], _, _ => []
  | k :: ks, 0, 0 => []
  | k :: ks, 0, n + 1 => k ++ killsOf ks 0 n
  | _ :: ks, l + 1, h => killsOf ks l (h - 1)
def eqG : List Nat → List Nat → Bool
  | [], [] => true
  | a :: l, b :: m => Nat.beq a b && eqG l m
  | _, _ => false
theorem eqG_ok : ∀ {l m : List Nat}, eqG l m = true → l = m
  | [], [], _ => rfl
  | a :: l, b :: m, h => by
    simp only [eqG, Bool.and_eq_true] at h
    rw [Nat.eq_of_beq_eq_true h.1, eqG_ok h.2]
  | [], _ :: _, h => by cases h
  | _ :: _, [], h => by cases h
def genK [GTab] (C : Cfg) (call : Callk) (ro : Rok) (nt : Nat) (p : Pl) (size n0 : Nat) (ks : List (List Nat)) : Nat → Nat → List Oper → AH → St → (AH → St → Option R) → Option R
  | _, c, [], h, σ, K => bif Nat.beq c p.ps.length then K h σ else none
  | i, c, o :: l, h, σ, K =>
    match okDst nt o.dst, o.guard with
    | true, none =>
      match posOf p.ps i with
      | some j =>
        bif Nat.beq j c && Nat.ble n0 h.n then
          (match spans p size j with
          | true => hp1K C (ks.getD j []) h (ev σ) o.op fun h' y => putV o.dst y σ fun σ => genK C call ro nt p size n0 ks (i + 1) (c + 1) l h' σ K
          | false => stepK C call h (ev σ) o.op fun h' y => bif eqG h'.g h.g then (putV o.dst y σ fun σ => genK C call ro nt p size n0 ks (i + 1) (c + 1) l h' σ K) else none)
        else none
      | none =>
        bif Nat.ble (p.l i) c && Nat.ble c (p.h i) then
          (match Nat.beq (p.l i) (p.h i) with
          | true => nl1K C.P ro h (ev σ) o.op fun y => putV o.dst y σ fun σ => genK C call ro nt p size n0 ks (i + 1) c l h σ K
          | false => nl1K C.P ro (viewO n0 (killsOf ks (p.l i) (p.h i)) h) (ev σ) o.op fun y => putV o.dst y σ fun σ => genK C call ro nt p size n0 ks (i + 1) c l h σ K)
        else none
    | _, _ => none

/-- What the operation at a place yields. -/
def ZY [GTab] (P : Program) (ops : Array Oper) (p : Pl) (H : Nat → AH) (i : Nat) (σ : St) (r : AV) : Prop :=
  ∃ o, ops[i]? = some o ∧ o.guard = none ∧ (∀ j, posOf p.ps i = some j → ImpS P (H j) (ev σ) o.op (H (j + 1)) r) ∧ (posOf p.ps i = none → ∀ c, p.l i ≤ c → c ≤ p.h i → ImpS P (H c) (ev σ) o.op (H c) r)
theorem ZY.congr [GTab] {P : Program} {p : Pl} {H : Nat → AH} : ZC ops (ZY P ops p H) := by
  intro i o σ σ' r ho hh hl ⟨o', ho', hg, h1, h2⟩
  rw [ho] at ho'
  cases ho'
  have hx : ∀ x ∈ o.op.operands, ev σ x = ev σ' x := fun x hx => by
    cases x with
    | tmp t => exact hl t (List.mem_append_left _ (List.mem_filterMap.2 ⟨.tmp t, by simpa using hx, rfl⟩))
    | const v => rfl
    | global g => simp only [ev, hh]
    | func f => rfl
  exact ⟨o, ho, hg, fun j hj => (h1 j hj).congr hx, fun hn c h3 h4 => (h2 hn c h3 h4).congr hx⟩

theorem killsOf_mem {n0 : Nat} {ks : List (List Nat)} {H : Nat → AH} : ∀ (l h : Nat), (∀ j, l ≤ j → j < h → Agr n0 (ks.getD j []) (H j) (H (j + 1))) → ∀ (j : Nat), j < n0 → memT (killsOf ks l h) j = false → ∀ c, l ≤ c → c ≤ h → (H c).o j = (H l).o j := by
  -- what is not killed anywhere between
  have key : ∀ (ks : List (List Nat)) (l h j : Nat), memT (killsOf ks l h) j = false → ∀ i, l ≤ i → i < h → memT (ks.getD i []) j = false := by
    intro ks
    induction ks with
    | nil => intro l h j _ i _ _; rfl
    | cons k ks ih =>
      intro l h j hm i hi hih
      cases l with
      | zero =>
        cases h with
        | zero => omega
        | succ h =>
          simp only [killsOf] at hm
          rw [memT_append, Bool.or_eq_false_iff] at hm
          cases i with
          | zero => exact hm.1
          | succ i => exact ih 0 h j hm.2 i (Nat.zero_le _) (by omega)
      | succ l =>
        cases i with
        | zero => omega
        | succ i =>
          cases h with
          | zero => omega
          | succ h =>
            simp only [killsOf, Nat.add_sub_cancel] at hm
            exact ih l h j hm i (by omega) (by omega)
  intro l h hA j hj hm c hlc hch
  induction c with
  | zero => have : l = 0 := by omega
            rw [this]
  | succ c ih =>
    rcases Nat.lt_or_ge c l with h1 | h1
    · have : l = c + 1 := by omega
      rw [this]
    · rw [(hA c h1 (by omega)).o j hj (key ks l h j hm c h1 (by omega))]
      exact ih h1 (by omega)

theorem genK_ok [GTab] {C : Cfg} {call : Callk} {ro : Rok} (hcall : CallOk C.P call) (hro : RokOk C.P ro) {p : Pl} {n0 : Nat} {ks : List (List Nat)} (hp : PlOk .any ops p) :
    ∀ (l : List Oper) (i c : Nat) (h : AH) (σ : St) (K : AH → St → Option R) (r : R) (Hp : Nat → AH), (∀ j, l[j]? = ops[i + j]?) → Hp c = h → (∀ j, j < c → (Hp (j + 1)).g = (Hp j).g ∧ (spans p ops.size j = true → Agr n0 (ks.getD j []) (Hp j) (Hp (j + 1)))) →
      genK C call ro nt p ops.size n0 ks i c l h σ K = some r →
      ∃ (H : Nat → AH) (τ : St), (∀ j, j ≤ c → H j = Hp j) ∧ (∀ j, (H (j + 1)).g = (H j).g ∧ (spans p ops.size j = true → Agr n0 (ks.getD j []) (H j) (H (j + 1)))) ∧ K (H p.ps.length) τ = some r ∧ τ.h = σ.h ∧ ZTr nt (ZY C.P ops p H) i l σ τ
  | [], i, c, h, σ, K, r, Hp, hl, hc, hA, hk => by
    unfold genK at hk
    obtain ⟨hcm, hk⟩ := cond_inv hk
    have hcm := Nat.eq_of_beq_eq_true hcm
    refine ⟨fun j => Hp (min j c), σ, fun j hj => by simp only [Nat.min_eq_left hj], fun j => ?_, ?_, rfl, .nil _ _⟩
    · show (Hp (min (j + 1) c)).g = (Hp (min j c)).g ∧ (spans p ops.size j = true → Agr n0 (ks.getD j []) (Hp (min j c)) (Hp (min (j + 1) c)))
      rcases Nat.lt_or_ge j c with hjc | hjc
      · rw [show min (j + 1) c = j + 1 by omega, show min j c = j by omega]
        exact hA j hjc
      · rw [show min (j + 1) c = c by omega, show min j c = c by omega]
        exact ⟨rfl, fun _ => ⟨fun _ _ _ => rfl, rfl⟩⟩
    · rw [← hcm]
      show K (Hp (min c c)) σ = some r
      rw [Nat.min_self, hc]
      exact hk
  | o :: l, i, c, h, σ, K, r, Hp, hl, hc, hA, hk => by
    have h0 : ops[i]? = some o := by simpa using (hl 0).symm
    have hi : i < ops.size := (Array.getElem?_eq_some_iff.1 h0).1
    have hl' : ∀ j, l[j]? = ops[(i + 1) + j]? := fun j => by have := hl (j + 1); simpa [Nat.add_assoc, Nat.add_comm 1 j] using this
    unfold genK at hk
    simp only [putV_eq] at hk
    split at hk
    case h_2 => cases hk
    rename_i hd hg
    -- one that turns the heap
    have turn : ∀ {j h' y}, posOf p.ps i = some j → j = c → ImpS C.P h (ev σ) o.op h' y → h'.g = h.g → (spans p ops.size j = true → Agr n0 (ks.getD j []) h h') → genK C call ro nt p ops.size n0 ks (i + 1) (c + 1) l h' (σ.put o.dst y) K = some r →
        ∃ (H : Nat → AH) (τ : St), (∀ j, j ≤ c → H j = Hp j) ∧ (∀ j, (H (j + 1)).g = (H j).g ∧ (spans p ops.size j = true → Agr n0 (ks.getD j []) (H j) (H (j + 1)))) ∧ K (H p.ps.length) τ = some r ∧ τ.h = σ.h ∧ ZTr nt (ZY C.P ops p H) i (o :: l) σ τ := fun {j h' y} hj hjc himp hgg hag hk => by
      subst hjc
      obtain ⟨H, τ, g1, g2, g3, g4, g5⟩ := genK_ok hcall hro hp l (i + 1) (j + 1) h' _ K r (fun k => if k ≤ j then Hp k else h') hl' (by rw [if_neg (by omega)]) (fun k hk => by
        rcases Nat.lt_or_ge k j with h1 | h1
        · rw [if_pos (by omega), if_pos (by omega)]; exact hA k h1
        · have : k = j := by omega
          subst this
          rw [if_neg (by omega), if_pos (by omega), hc]
          exact ⟨hgg, hag⟩) hk
      have e1 : H j = h := by rw [g1 j (by omega), if_pos (by omega), hc]
      have e2 : H (j + 1) = h' := by rw [g1 (j + 1) (by omega), if_neg (by omega)]
      refine ⟨H, τ, fun k hk => by rw [g1 k (by omega), if_pos hk], g2, g3, by rw [g4, St.put_h], .cons hd ⟨o, h0, hg, fun j' hj' => ?_, (fun hn => by rw [hj] at hn; cases hn)⟩ g5⟩
      rw [hj] at hj'
      cases hj'
      rw [e1, e2]
      exact himp
    split at hk
    · rename_i j hj
      obtain ⟨hjc, hk⟩ := cond_inv hk
      rw [Bool.and_eq_true] at hjc
      obtain ⟨hjc, hn0⟩ := hjc
      have hjc := Nat.eq_of_beq_eq_true hjc
      have hn0 := Nat.le_of_ble_eq_true hn0
      split at hk
      · obtain ⟨h', y, k1, k2, k3, k4, k5⟩ := hp1K_ok hcall hk
        exact turn hj hjc k1 k3 (fun _ => ⟨fun x hx hm => k2 x (by omega) hm, k3⟩) k5
      · rename_i hs
        obtain ⟨h', y, k1, k2⟩ := stepK_ok hcall hk
        obtain ⟨hgg, k2⟩ := cond_inv k2
        exact turn hj hjc k1 (eqG_ok hgg) (fun h1 => by rw [hs] at h1; cases h1) k2
    · rename_i hj
      obtain ⟨hlh, hk⟩ := cond_inv hk
      rw [Bool.and_eq_true] at hlh
      have hlc := Nat.le_of_ble_eq_true hlh.1
      have hch := Nat.le_of_ble_eq_true hlh.2
      have still : ∀ {v y}, (∀ H : Nat → AH, H c = h → (∀ j, (H (j + 1)).g = (H j).g ∧ (spans p ops.size j = true → Agr n0 (ks.getD j []) (H j) (H (j + 1)))) → ∀ k, p.l i ≤ k → k ≤ p.h i → Lies v (H k) ∧ v.g = (H k).g) → (∀ h, Lies v h → v.g = h.g → ImpS C.P h (ev σ) o.op h y) →
          genK C call ro nt p ops.size n0 ks (i + 1) c l h (σ.put o.dst y) K = some r →
          ∃ (H : Nat → AH) (τ : St), (∀ j, j ≤ c → H j = Hp j) ∧ (∀ j, (H (j + 1)).g = (H j).g ∧ (spans p ops.size j = true → Agr n0 (ks.getD j []) (H j) (H (j + 1)))) ∧ K (H p.ps.length) τ = some r ∧ τ.h = σ.h ∧ ZTr nt (ZY C.P ops p H) i (o :: l) σ τ := fun {v y} hv hy hk => by
        obtain ⟨H, τ, g1, g2, g3, g4, g5⟩ := genK_ok hcall hro hp l (i + 1) c h _ K r Hp hl' hc hA hk
        refine ⟨H, τ, g1, g2, g3, by rw [g4, St.put_h], .cons hd ⟨o, h0, hg, (fun j' hj' => by rw [hj] at hj'; cases hj'), (fun _ k k1 k2 => (hv H (by rw [g1 c (Nat.le_refl _), hc]) g2 k k1 k2).elim fun a b => hy _ a b)⟩ g5⟩
      split at hk
      · rename_i he
        have he := Nat.eq_of_beq_eq_true he
        obtain ⟨y, k1, k2⟩ := nl1K_ok hro hk
        refine still (v := h) (fun H hHc hH k k1 k2 => ?_) k1 k2
        have : k = c := by omega
        rw [this, hHc]
        exact ⟨.of_up (fun _ _ h => h) rfl, rfl⟩
      · obtain ⟨y, k1, k2⟩ := nl1K_ok hro hk
        refine still (fun H hHc hH k k1 k2 => ?_) k1 k2
        have hag : ∀ j, p.l i ≤ j → j < p.h i → Agr n0 (ks.getD j []) (H j) (H (j + 1)) := fun j h1 h2 => (hH j).2 (by
          unfold spans
          refine List.any_eq_true.2 ⟨i, List.mem_range.2 hi, ?_⟩
          simp only [hj, Option.isNone_none, Bool.true_and, Bool.and_eq_true]
          exact ⟨Nat.ble_eq_true_of_le h1, by simpa [Nat.blt, Nat.succ_le_iff] using h2⟩)
        have hgc : ∀ a b, (H a).g = (H b).g := by
          have : ∀ a, (H a).g = (H 0).g := fun a => by
            induction a with
            | zero => rfl
            | succ a ih => rw [(hH a).1, ih]
          exact fun a b => (this a).trans (this b).symm
        refine ⟨viewO_lies (fun j hj hm => ?_) (by rw [← hHc]; exact hgc _ _), by rw [← hHc]; exact hgc _ _⟩
        rw [← hHc, killsOf_mem (H := H) _ _ hag j hj hm k k1 k2, killsOf_mem (H := H) _ _ hag j hj hm c hlc hch]

theorem anyZ_sound [GTab] {P : Program} {E0 : Env} {n0 : NB} {w0 : World} {p : Pl} {H : Nat → AH} {Q : Exit → Act → World → Prop} {K : St → Prop} (hp : PlOk .any ops p) (hg : ∀ c, (H c).g = (H 0).g)
    (hQ : ∀ E σ a w, SRel E0 n0 w0 nt E ⟨σ.t, H p.ps.length⟩ a w → K σ → Q .normal a w) : ∀ (fuel : Nat) (listed : Array Bool) (c : Nat) (E : Env) (σ : St) (a : Act) (w : World), σ.h.g = (H 0).g → HeadInv .any ops ops.size listed → AtC p listed c → SRel E0 n0 w0 nt E ⟨σ.t, H c⟩ a w →
    anyZ nt .any ops (ZY P ops p H) (fun l σ => AllTo ops.size l ∧ K σ) fuel listed σ → wpAny P .any ops Q fuel listed a w := by
  have fin : ∀ (listed : Array Bool) (c : Nat) (E : Env) (σ : St) (a : Act) (w : World), AtC p listed c → SRel E0 n0 w0 nt E ⟨σ.t, H c⟩ a w → (AllTo ops.size listed ∧ K σ) → Q .normal a w := fun listed c E σ a w ha hs hk => by
    have : c = p.ps.length := by
      rcases Nat.lt_or_ge c p.ps.length with h | h
      · exfalso
        have hj : p.ps[c]? = some p.ps[c] := List.getElem?_eq_getElem h
        have := (ha.iff c _ hj).1 (hk.1 _ (hp.ch c _ hj).2)
        omega
      · have := ha.le; omega
    rw [this] at hs
    exact hQ E σ a w hs hk.2
  intro fuel
  induction fuel with
  | zero => exact fun listed c E σ a w _ _ ha hs hh => ⟨hh.1, fin _ _ _ _ _ _ ha hs hh.2⟩
  | succ fuel ih =>
    intro listed c E σ a w hσ inv ha hs hh
    refine ⟨fun e => fin _ _ _ _ _ _ ha hs (hh.1 e), fun i hi => ?_⟩
    have h1 := hh.2 i hi
    obtain ⟨hun, oi, hoi, hall⟩ := mem_ready.1 hi
    have hil : i < ops.size := (Array.getElem?_eq_some_iff.1 hoi).1
    have hils : i < listed.size := by rw [inv.size]; exact hil
    have hunf := getD_both hun
    unfold zOp at h1
    rw [hoi] at h1
    obtain ⟨hdst, r, ⟨o, ho, hgd, hy1, hy2⟩, hk⟩ := h1
    rw [hoi] at ho
    cases ho
    have hev : ∀ c, ev σ = ev (⟨σ.t, H c⟩ : St) := fun c => ev_eq rfl (by rw [hσ]; exact (hg c).symm)
    have hbef : ∀ k, Region.waitsFor .any ops i k = true → listed.getD k false = true := fun k hw => by
      obtain ⟨oj, hoj, e, he, hb, hon⟩ := Region.waitsFor_spec hw
      rw [hoi] at hoj
      cases hoj
      have := hall e he hb
      rwa [hon] at this
    have hlo := ha.lo hp inv i hil hbef
    have hhi := ha.hi hp inv _ i rfl hil hunf
    have hset : ∀ j k, p.ps[j]? = some k → k ≠ i → ((listed.setIfInBounds i true).getD k false = true ↔ j < c) := fun j k hj hki => by
      rw [getD_set_ne false (Ne.symm hki)]
      exact ha.iff j k hj
    have next : ∀ {c'}, AtC p (listed.setIfInBounds i true) c' → ImpS P (H c) (ev σ) oi.op (H c') r → wpOp P ops Q i (wpAny P .any ops Q fuel (listed.setIfInBounds i true)) a w := fun {c'} ha' himp => by
      rw [hev c] at himp
      unfold wpOp
      rw [hoi]
      dsimp only
      rw [(Gd.none (nt := nt) (ops := ops) (σ := ⟨σ.t, H c⟩) hgd).wanted hs, if_pos rfl]
      refine .inl (ImpS.next hs hdst himp fun E' a' w' h2 => ih _ c' E' (σ.put oi.dst r) a' w' (by rw [St.put_h]; exact hσ) (inv.set hi hil) ha' ?_ hk)
      cases hd2 : oi.dst with
      | none => rw [hd2] at h2; exact h2
      | some d => rw [hd2] at h2; exact h2
    cases hpos : posOf p.ps i with
    | some j =>
      have hj := posOf_some hpos
      have hjl : j < p.ps.length := (List.getElem?_eq_some_iff.1 hj).1
      have hcj : c = j := by
        have h2 : ¬ j < c := fun h => by have := (ha.iff j i hj).2 h; rw [hunf] at this; cases this
        have := (hp.ch j i hj).1
        omega
      subst hcj
      refine next (c' := c + 1) ⟨by omega, fun j' k hj' => ?_⟩ (hy1 c hpos)
      by_cases hki : k = i
      · subst hki
        have := hp.nd _ _ _ hj hj'
        subst this
        simp [hils]
      · rw [hset j' k hj' hki]
        have : j' ≠ c := fun e => by subst e; rw [hj] at hj'; cases hj'; exact hki rfl
        omega
    | none =>
      refine next (c' := c) ⟨ha.le, fun j' k hj' => hset j' k hj' fun e => by subst e; exact posOf_none hpos hj'⟩ (hy2 hpos c hlo hhi)

/-- Does an operation turn the heap? -/
def isTurn (big : FuncId → Bool) (o : Oper) : Bool :=
  match o.op with
  | .box _ _ => true
  | .alloc _ => true
  | .store _ _ _ => true
  | .makeSlice _ _ _ => true
  | .makeMap _ _ => true
  | .mapUpdate _ _ _ _ => true
  | .call c => (match c.callee with
    | .builtin .append => true
    | .value (.func f) => big f
    | .value _ => true
    | _ => false)
  | _ => false
def turnsAt (big : FuncId → Bool) : Nat → List Oper → List Nat
  | _, [] => []
  | i, o :: l => match isTurn big o with
    | true => i :: turnsAt big (i + 1) l
    | false => turnsAt big (i + 1) l
/-- A region that draws: some turn the heap, in one order. -/
def genRK [GTab] (C : Cfg) (call : Callk) (ro : Rok) (nt : Nat) (ops : Array Oper) (p : Pl) (σ : St) (K : St → Option R) : Option R :=
  genK C call ro nt p ops.size σ.h.n (p.ps.map fun i => touched C.P ops.toList σ (opAt ops.toList i)) 0 0 ops.toList σ.h σ fun h σ => K ⟨σ.t, h⟩
theorem genRK_ok [GTab] {C : Cfg} {call : Callk} {ro : Rok} (hcall : CallOk C.P call) (hro : RokOk C.P ro) {p : Pl} {σ : St} {K : St → Option R} {r : R} (hm : C.P.follows .mixedOrders = true) (hB : Region.lexB .any ops = true) (hP : plB .any ops p = true) (hk : genRK C call ro nt ops p σ K = some r) :
    ∃ τ, K τ = some r ∧ ∀ (E0 : Env) (n0 : NB) (w0 : World) (E : Env) (a : Act) (w : World) (id : Nat) (Q : Exit → Act → World → Prop), SRel E0 n0 w0 nt E σ a w → (∀ E' a' w', SRel E0 n0 w0 nt E' τ a' w' → Q .normal a' w') → (Code.region id ops true).wp C.P Q a w := by
  unfold genRK at hk
  have hp := plB_ok hP
  obtain ⟨H, τ, g1, g2, g3, g4, g5⟩ := genK_ok (ops := ops) hcall hro hp ops.toList 0 0 σ.h σ _ r (fun _ => σ.h) (by simp) rfl (fun j hj => absurd hj (Nat.not_lt_zero _)) hk
  refine ⟨_, g3, fun E0 n0 w0 E a w id Q hs hQ => ?_⟩
  have hH0 : H 0 = σ.h := g1 0 (Nat.le_refl _)
  have hgc : ∀ a, (H a).g = (H 0).g := fun a => by
    induction a with
    | zero => rfl
    | succ a ih => rw [(g2 a).1, ih]
  simp only [Region.lexB, Bool.and_eq_true] at hB
  have hany := ZTr.lex (nt := nt) (ops := ops) (md := .any) ZY.congr ops.toList 0 (Array.replicate ops.size false) _ (by simp) (by simp) (by simp) (fun j hj => absurd hj (Nat.not_lt_zero _)) (by simpa using hB.2) g5
  refine wp_region_any hm (anyZ_sound (E0 := E0) (n0 := n0) (w0 := w0) (K := fun σ' => Sim τ σ') hp hgc (fun E' σ' a' w' h' hsim => hQ E' a' w' (h'.sim ⟨fun i => (hsim.1 i).symm, rfl⟩)) _ _ 0 E σ a _ (by rw [hH0]) ⟨by simp, fun j oj _ hl => (by rw [getD_replicate_false] at hl; cases hl), fun t h1 h2 => by omega⟩ ⟨Nat.zero_le _, fun j i hj => by rw [getD_replicate_false]; simp⟩ ?_ (by simpa using hany))
  rw [hH0]
  exact hs.drew
end
end Go.Up

/- Vp, part g: contracts; operations that make or turn objects. -/
import Derived.Test.YtmbepfdnmgiifaaVf
set_option linter.unusedVariables false
set_option linter.unusedSimpArgs false
namespace Go.Vp
open Go.RowKit

/-- A contract: called over an abstract heap with abstract arguments, the function returns what Q takes. -/
def ACall (P : Program) (f : FuncId) (h : AH) (args : List AV) (Q : AV → AH → Prop) : Prop :=
  (∀ (vs : Array Value) (w : World), (callFunc f vs).run P w = .ok (.enter f vs) w) ∧
  ∀ (E : Env) (w : World) (vs : List Value), HRel E h w → h.ok → Rels E args vs → (∀ (i : Nat) (x : AV), args[i]? = some x → Lt h.n x) →
    Calls P f vs.toArray w fun e w' => ∃ v r h' E', e = .returned v ∧ Q r h' ∧ h.n ≤ h'.n ∧ Ext E h.n E' ∧ HRel E' h' w' ∧ h'.ok ∧ Rel E' r v ∧ Lt h'.n r ∧ Keep E h.n w w' ∧ Fr E h.n w E' h'.n

theorem ACall.mono {P : Program} {f : FuncId} {h : AH} {args : List AV} {Q Q' : AV → AH → Prop} (hc : ACall P f h args Q) (hq : ∀ r h', Q r h' → Q' r h') : ACall P f h args Q' :=
  ⟨hc.1, fun E w vs a b c d => (hc.2 E w vs a b c d).mono fun e w' ⟨v, r, h', E', h1, h2, h3⟩ => ⟨v, r, h', E', h1, hq _ _ h2, h3⟩⟩

/-- The same, what follows kept from the simplifier. -/
def ACallW (P : Program) (f : FuncId) (h : AH) (args : List AV) (Q : AV → AH → Prop) (_ : Ph Q) : Prop := ACall P f h args Q

/-- A function of values alone. -/
def APure (P : Program) (f : FuncId) (args : List AV) (r : AV) : Prop := ∀ h : AH, ACall P f h args fun r' h' => r' = r ∧ h' = h
theorem APure.call {P : Program} {f : FuncId} {h : AH} {args : List AV} {r : AV} {Q : AV → AH → Prop} (hc : APure P f args r) (hq : Q r h) : ACall P f h args Q :=
  (hc h).mono fun _ _ ⟨h1, h2⟩ => by subst h1; subst h2; exact hq

theorem APure.callW {P : Program} {f : FuncId} {h : AH} {args : List AV} {r : AV} {Q : AV → AH → Prop} {ph : Ph Q} (hc : APure P f args r) (hq : Q r h) : ACallW P f h args Q ph := hc.call hq

theorem APure.callE {P : Program} {f : FuncId} {h : AH} {args args' : List AV} {r : AV} {Q : AV → AH → Prop} {ph : Ph Q} (hc : APure P f args r) (he : args' = args) (hq : Q r h) : ACallW P f h args' Q ph := by subst he; exact hc.call hq

/-! ### Ownership given up -/
def w1 : AV → AV
  | .own _ s e => .sl s e none
  | x => x
def w2 : AV → AV
  | .agg l => .agg (l.map w1)
  | x => w1 x
def w3 : AV → AV
  | .tup l => .tup (l.map w2)
  | x => w2 x
theorem rel_w1 {E : Env} {x : AV} {v : Value} (h : Rel E x v) : Rel E (w1 x) v := by
  unfold w1
  split
  · cases h with
    | pure h => cases h
    | own _ _ _ h => exact .pure h
  · exact h
theorem rels_map_of {E : Env} {g : AV → AV} (hg : ∀ x v, Rel E x v → Rel E (g x) v) {l : List AV} {vs : List Value} (h : Rels E l vs) : Rels E (l.map g) vs :=
  ⟨by simp [h.1], fun i x v hx hv => by
    rw [List.getElem?_map] at hx
    obtain ⟨y, hy, rfl⟩ := Option.map_eq_some_iff.1 hx
    exact hg y v (h.2 i y v hy hv)⟩
theorem rel_w2 {E : Env} {x : AV} {v : Value} (h : Rel E x v) : Rel E (w2 x) v := by
  unfold w2
  split
  · obtain ⟨vs, rfl, hr⟩ := h.agg_inv
    have := rels_map_of (g := w1) (fun x v h => rel_w1 h) hr
    exact .agg this.1 this.2
  · exact rel_w1 h
theorem rel_w3 {E : Env} {x : AV} {v : Value} (h : Rel E x v) : Rel E (w3 x) v := by
  unfold w3
  split
  · obtain ⟨vs, rfl, hr⟩ := h.tup_inv
    have := rels_map_of (g := w2) (fun x v h => rel_w2 h) hr
    exact .tup this.1 this.2
  · exact rel_w2 h
theorem lt_w1 {n : Nat} {x : AV} (h : Lt n x) : Lt n (w1 x) := by
  unfold w1
  split
  · exact .sl _ _ _
  · exact h
theorem lt_map {n : Nat} {g : AV → AV} (hg : ∀ x, Lt n x → Lt n (g x)) {l : List AV} (h : ∀ (i : Nat) (x : AV), l[i]? = some x → Lt n x) : ∀ (i : Nat) (x : AV), (l.map g)[i]? = some x → Lt n x := by
  intro i x hx
  rw [List.getElem?_map] at hx
  obtain ⟨y, hy, rfl⟩ := Option.map_eq_some_iff.1 hx
  exact hg y (h i y hy)
theorem lt_w2 {n : Nat} {x : AV} (h : Lt n x) : Lt n (w2 x) := by
  unfold w2
  split
  · exact .agg (lt_map (fun x h => lt_w1 h) h.agg_inv)
  · exact lt_w1 h
theorem lt_w3 {n : Nat} {x : AV} (h : Lt n x) : Lt n (w3 x) := by
  unfold w3
  split
  · exact .tup (lt_map (fun x h => lt_w2 h) h.tup_inv)
  · exact lt_w2 h

/-- Arguments handed over without what is owned. -/
theorem ACall.weak {P : Program} {f : FuncId} {h : AH} {args : List AV} {Q : AV → AH → Prop} (hc : ACall P f h (args.map w2) Q) : ACall P f h args Q :=
  ⟨hc.1, fun E w vs a b c d => hc.2 E w vs a b (rels_map_of (fun x v h => rel_w2 h) c) (lt_map (fun x h => lt_w2 h) d)⟩

section
variable {E0 : Env} {n0 : Nat} {w0 : World} {nt : Nat} {E : Env} {σ : St} {a : Act} {w : World}

theorem SRel.ok (h : SRel E0 n0 w0 nt E σ a w) : σ.h.ok := h.blt

theorem SRel.step (h : SRel E0 n0 w0 nt E σ a w) {E' : Env} {h' : AH} {w' : World} {r : AV} {v : Value} {d : Option Tmp}
    (hext : Ext E σ.h.n E') (hh : HRel E' h' w') (hok : h'.ok) (hn : σ.h.n ≤ h'.n) (hk : Keep E σ.h.n w w') (hf : Fr E σ.h.n w E' h'.n)
    (hd : okDst nt d = true) (hr : Rel E' r v) (hl : Lt h'.n r) : SRel E0 n0 w0 nt E' (({ σ with h := h' } : St).put d r) (a.put d v) w' := by
  have h2 : SRel E0 n0 w0 nt E' ({ σ with h := h' } : St) a w' :=
    { tm := fun i => (h.tm i).mono (h.lt i) hext
      lt := fun i => (h.lt i).mono hn
      blt := hok
      sz := h.sz
      df := h.df
      hr := hh
      ex := h.ex.trans hext h.nn
      kp := h.kp.trans hk h.fr
      fr := Fr.trans (w' := w') h.fr hf h.kp.size
      nn := Nat.le_trans h.nn hn }
  exact h2.put hd hr hl
end

theorem HRel.cut {E : Env} {h h' : AH} {w : World} (hh : HRel E h w) (hn : h'.n ≤ h.n) (ho : ∀ id, id < h'.n → h'.o id = h.o id) : HRel E h' w :=
  ⟨hh.cells, fun id l hid he => hh.box id l (by omega) (by rw [← ho id hid]; exact he), fun id tip sz hid he => hh.row id tip sz (by omega) (by rw [← ho id hid]; exact he),
    fun i j b hi hj => hh.inj i j b (by omega) (by omega), fun i b hi => hh.lt i b (by omega)⟩

/-! ### A row that grows -/
theorem row_step {E : Env} {h : AH} {w w' : World} {id tip size cap cap' tip' : Nat} {base base' : Option Addr} {S' : Addr → Option Value}
    (hh : HRel E h w) (hok : h.ok) (hid : id < h.n) (hobj : E.obj id = .row base cap tip size)
    (hsz : w.heap.size ≤ w'.heap.size) (hold : ∀ k, k < w.heap.size → (E.obj id).blk ≠ some k → w'.heap[k]? = w.heap[k]?)
    (hS : ∀ a v, E.S a = some v → S' a = some v) (hcells : ∀ a v, S' a = some v → w'.cell? a = some v)
    (hS2 : ∀ a v, S' a = some v → E.S a = some v ∨ (E.obj id).blk = some a.block ∨ w.heap.size ≤ a.block)
    (ht : tip < tip')
    (hblk : ∀ b, (EO.row base' cap' tip' size).blk = some b → (E.obj id).blk = some b ∨ (w.heap.size ≤ b ∧ b < w'.heap.size))
    (hrow : tip' ≤ cap' ∧ cap' ≤ maxLen ∧ (base' = none → cap' = 0) ∧
      (tip' < cap' → ∃ b cur T, base' = some ⟨b, 0, none⟩ ∧ w'.heap[b]? = some (.cells cur T (0, 0)) ∧ cur.size = cap' * size ∧ ∀ j, tip' * size ≤ j → S' ⟨b, j, none⟩ = none)) :
    HRel ({ S := S', obj := fun j => if j = id then .row base' cap' tip' size else E.obj j } : Env) ({ h with o := upd h.o id (some (.row tip' size)) } : AH) w' ∧
      Ext E h.n ({ S := S', obj := fun j => if j = id then .row base' cap' tip' size else E.obj j } : Env) ∧ ({ h with o := upd h.o id (some (.row tip' size)) } : AH).ok ∧
      Fr E h.n w ({ S := S', obj := fun j => if j = id then .row base' cap' tip' size else E.obj j } : Env) h.n := by
  have hext : Ext E h.n ({ S := S', obj := fun j => if j = id then .row base' cap' tip' size else E.obj j } : Env) := by
    refine ⟨hS, fun j b hj hb => ?_, fun j base2 cap2 tip2 size2 hj hr => ?_⟩
    · simp only []
      by_cases he : j = id
      · subst he; rw [hobj] at hb; cases hb
      · rw [if_neg he]; exact hb
    · simp only []
      by_cases he : j = id
      · subst he
        rw [hobj] at hr
        cases hr
        exact ⟨base', cap', tip', by simp, .inr ht⟩
      · exact ⟨base2, cap2, tip2, by simp [he, hr], .inl ⟨rfl, rfl, rfl⟩⟩
  have hfr : Fr E h.n w ({ S := S', obj := fun j => if j = id then .row base' cap' tip' size else E.obj j } : Env) h.n := by
    intro j b hj hb
    simp only [] at hb
    by_cases he : j = id
    · subst he
      rw [if_pos rfl] at hb
      rcases hblk b hb with h' | h'
      · exact .inr ⟨hj, h'⟩
      · exact .inl h'.1
    · rw [if_neg he] at hb; exact .inr ⟨hj, hb⟩
  -- blocks of the others
  have hother : ∀ j b, j < h.n → j ≠ id → (E.obj j).blk = some b → b < w.heap.size ∧ (E.obj id).blk ≠ some b := fun j b hj hne hb => ⟨hh.lt j b hj hb, fun hb' => hne (hh.inj j id b hj hid hb hb')⟩
  refine ⟨⟨hcells, fun j l hj ho => ?_, fun j tip2 size2 hj ho => ?_, fun i j b hi hj hbi hbj => ?_, fun j b hj hb => ?_⟩, hext, fun j l i x hj ho hx => ?_, hfr⟩
  · simp only [] at hj ho ⊢
    by_cases he : j = id
    · subst he; rw [upd_same] at ho; cases ho
    · rw [upd_other _ _ he] at ho
      obtain ⟨b, cs, T, h1, h2, h3, h4⟩ := hh.box j l hj ho
      obtain ⟨g1, g2⟩ := hother j b hj he (by simp [EO.blk, h1])
      refine ⟨b, cs, T, by simp [he, h1], (hold b g1 g2).trans h2, h3.mono (fun i y hy => hok j l i y hj ho hy) hext, fun a ha => ?_⟩
      cases hs : S' a with
      | none => rfl
      | some v =>
        rcases hS2 a v hs with h' | h' | h'
        · rw [h4 a ha] at h'; cases h'
        · rw [ha] at h'; exact absurd h' g2
        · omega
  · simp only [] at hj ho ⊢
    by_cases he : j = id
    · subst he
      rw [upd_same] at ho
      simp only [Option.some.injEq, AO.row.injEq] at ho
      obtain ⟨rfl, rfl⟩ := ho
      exact ⟨base', cap', by simp, hrow⟩
    · rw [upd_other _ _ he] at ho
      obtain ⟨base2, cap2, h1, h2, h3, h4, h5⟩ := hh.row j tip2 size2 hj ho
      refine ⟨base2, cap2, by simp [he, h1], h2, h3, h4, fun hlt => ?_⟩
      obtain ⟨b, cur, T, hb, hheap, hcur, hfree⟩ := h5 hlt
      obtain ⟨g1, g2⟩ := hother j b hj he (by simp [EO.blk, h1, hlt, hb])
      refine ⟨b, cur, T, hb, (hold b g1 g2).trans hheap, hcur, fun k hk => ?_⟩
      cases hs : S' ⟨b, k, none⟩ with
      | none => rfl
      | some v =>
        rcases hS2 _ v hs with h' | h' | h'
        · rw [hfree k hk] at h'; cases h'
        · exact absurd h' g2
        · simp only at h'; omega
  · simp only [] at hi hj hbi hbj
    by_cases hi' : i = id
    · by_cases hj' : j = id
      · omega
      · rw [if_pos hi'] at hbi
        rw [if_neg hj'] at hbj
        obtain ⟨g1, g2⟩ := hother j b hj hj' hbj
        rcases hblk b hbi with h' | h'
        · exact absurd h' g2
        · omega
    · rw [if_neg hi'] at hbi
      by_cases hj' : j = id
      · rw [if_pos hj'] at hbj
        obtain ⟨g1, g2⟩ := hother i b hi hi' hbi
        rcases hblk b hbj with h' | h'
        · exact absurd h' g2
        · omega
      · rw [if_neg hj'] at hbj
        exact hh.inj i j b hi hj hbi hbj
  · simp only [] at hj hb
    by_cases he : j = id
    · rw [if_pos he] at hb
      rcases hblk b hb with h' | h'
      · have := hh.lt id b hid h'; omega
      · exact h'.2
    · rw [if_neg he] at hb
      have := hh.lt j b hj hb
      omega
  · simp only [] at hj ho
    by_cases he : j = id
    · subst he; rw [upd_same] at ho; cases ho
    · rw [upd_other _ _ he] at ho; exact hok j l i x hj ho hx

/-- A box whose cells turn. -/
theorem box_step {E : Env} {h : AH} {w w' : World} {id b : Nat} {l' : List AV} {cs : Array Value} {T : TypeId}
    (hh : HRel E h w) (hok : h.ok) (hid : id < h.n) (hobj : E.obj id = .box b) (hS : ∀ a, a.block = b → E.S a = none)
    (hsz : w'.heap.size = w.heap.size) (hold : ∀ k, k ≠ b → w'.heap[k]? = w.heap[k]?) (hnew : w'.heap[b]? = some (.cells cs T (0, 0))) (hr : Rels E l' cs.toList)
    (hl : ∀ (i : Nat) (x : AV), l'[i]? = some x → Lt h.n x) :
    HRel E ({ h with o := upd h.o id (some (.box l')) } : AH) w' ∧ ({ h with o := upd h.o id (some (.box l')) } : AH).ok := by
  have hother : ∀ j c, j < h.n → j ≠ id → (E.obj j).blk = some c → c ≠ b := fun j c hj hne hc hcb => hne (hh.inj j id c hj hid hc (by simp [EO.blk, hobj, hcb]))
  refine ⟨⟨fun a v ha => ?_, fun j l hj ho => ?_, fun j tip2 size2 hj ho => ?_, fun i j c hi hj => hh.inj i j c hi hj, fun j c hj hc => ?_⟩, fun j l i x hj ho hx => ?_⟩
  · have hne : a.block ≠ b := fun hb => by rw [hS a hb] at ha; cases ha
    rw [World.cell?_of_block (hold _ hne)]; exact hh.cells a v ha
  · simp only [] at hj ho
    by_cases he : j = id
    · subst he
      rw [upd_same] at ho
      simp only [Option.some.injEq, AO.box.injEq] at ho
      subst ho
      exact ⟨b, cs, T, hobj, hnew, hr, hS⟩
    · rw [upd_other _ _ he] at ho
      obtain ⟨c, cs', T', h1, h2, h3, h4⟩ := hh.box j l hj ho
      exact ⟨c, cs', T', h1, (hold c (hother j c hj he (by simp [EO.blk, h1]))).trans h2, h3, h4⟩
  · simp only [] at hj ho
    by_cases he : j = id
    · subst he; rw [upd_same] at ho; cases ho
    · rw [upd_other _ _ he] at ho
      obtain ⟨base2, cap2, h1, h2, h3, h4, h5⟩ := hh.row j tip2 size2 hj ho
      refine ⟨base2, cap2, h1, h2, h3, h4, fun hlt => ?_⟩
      obtain ⟨c, cur, T', hb, hheap, hcur, hfree⟩ := h5 hlt
      exact ⟨c, cur, T', hb, (hold c (hother j c hj he (by simp [EO.blk, h1, hlt, hb]))).trans hheap, hcur, hfree⟩
  · have := hh.lt j c hj hc; omega
  · simp only [] at hj ho
    by_cases he : j = id
    · subst he
      rw [upd_same] at ho
      simp only [Option.some.injEq, AO.box.injEq] at ho
      subst ho
      exact hl i x hx
    · rw [upd_other _ _ he] at ho; exact hok j l i x hj ho hx

/-- An object is forgotten, what its block holds is known for good from now on. -/
theorem freeze_step {E : Env} {h : AH} {w : World} {id b : Nat} {l : List AV} {cs : Array Value} {T : TypeId}
    (hh : HRel E h w) (hok : h.ok) (hid : id < h.n) (ho : h.o id = some (.box l)) (hobj : E.obj id = .box b) (hheap : w.heap[b]? = some (.cells cs T (0, 0))) :
    HRel (E.addS b 0 cs.size cs) ({ h with o := upd h.o id none } : AH) w ∧ ({ h with o := upd h.o id none } : AH).ok ∧ Ext E h.n (E.addS b 0 cs.size cs) := by
  obtain ⟨b', cs', T', g1, g2, g3, g4⟩ := hh.box id l hid ho
  rw [hobj] at g1
  cases g1
  have hother : ∀ j c, j < h.n → j ≠ id → (E.obj j).blk = some c → c ≠ b := fun j c hj hne hc hcb => hne (hh.inj j id c hj hid hc (by simp [EO.blk, hobj, hcb]))
  have hext : Ext E h.n (E.addS b 0 cs.size cs) := by
    refine ⟨fun a v ha => ?_, fun _ _ _ h => h, fun _ base cap tip _ _ h => ⟨base, cap, tip, h, .inl ⟨rfl, rfl, rfl⟩⟩⟩
    simp only [Env.addS]
    rw [if_neg (fun hc => by rw [g4 a hc.1] at ha; cases ha)]
    exact ha
  refine ⟨⟨fun a v ha => ?_, fun j l' hj ho' => ?_, fun j tip2 size2 hj ho' => ?_, fun i j c hi hj => hh.inj i j c hi hj, fun j c hj hc => hh.lt j c hj hc⟩, fun j l' i x hj ho' hx => ?_, hext⟩
  · simp only [Env.addS] at ha
    split at ha
    · rename_i hc
      obtain ⟨h1, h2, _, _⟩ := hc
      simp only [World.cell?, h1, hheap, h2]
      simpa using ha
    · exact hh.cells a v ha
  · simp only [] at hj ho'
    by_cases he : j = id
    · subst he; rw [upd_same] at ho'; cases ho'
    · rw [upd_other _ _ he] at ho'
      obtain ⟨c, cs', T', h1, h2, h3, h4⟩ := hh.box j l' hj ho'
      have hne := hother j c hj he (by simp [EO.blk, h1])
      refine ⟨c, cs', T', h1, h2, h3.mono (fun i y hy => hok j l' i y hj ho' hy) hext, fun a ha => ?_⟩
      simp only [Env.addS]
      rw [if_neg (fun hc => hne (ha ▸ hc.1))]
      exact h4 a ha
  · simp only [] at hj ho'
    by_cases he : j = id
    · subst he; rw [upd_same] at ho'; cases ho'
    · rw [upd_other _ _ he] at ho'
      obtain ⟨base2, cap2, h1, h2, h3, h4, h5⟩ := hh.row j tip2 size2 hj ho'
      refine ⟨base2, cap2, h1, h2, h3, h4, fun hlt => ?_⟩
      obtain ⟨c, cur, T', hb, hheap', hcur, hfree⟩ := h5 hlt
      have hne := hother j c hj he (by simp [EO.blk, h1, hlt, hb])
      refine ⟨c, cur, T', hb, hheap', hcur, fun k hk => ?_⟩
      simp only [Env.addS]
      rw [if_neg (fun hc => hne hc.1)]
      exact hfree k hk
  · simp only [] at hj ho'
    by_cases he : j = id
    · subst he; rw [upd_same] at ho'; cases ho'
    · rw [upd_other _ _ he] at ho'; exact hok j l' i x hj ho' hx
end Go.Vp

/- Vp, part o: loops: what a turn keeps. -/
import Derived.Test.YtmbepfdnmgiifaaVn
set_option linter.unusedVariables false
set_option linter.unusedSimpArgs false
namespace Go.Vp
open Go.RowKit

/-- What stands for x' stands for x. -/
def Sb (x' x : AV) : Prop := (∀ E v, Rel E x' v → Rel E x v) ∧ ∀ n, Lt n x' → Lt n x
def Sbs : List AV → List AV → Prop
  | [], [] => True
  | x' :: l', x :: l => Sb x' x ∧ Sbs l' l
  | _, _ => False
theorem Sb.refl (x : AV) : Sb x x := ⟨fun _ _ h => h, fun _ h => h⟩
theorem Sb.nil (s : Nat) : Sb (.p (.slice none 0 0)) (.sl s [] none) :=
  ⟨fun E v h => by
    rw [h.p_inv]
    exact .pure (.sl (fun _ _ => undef) rfl (Nat.le_refl _) (by decide) (fun _ h => by cases h) (fun e h => by cases h) (fun _ => ⟨rfl, rfl⟩) (fun _ _ _ _ _ h => by cases h) (fun _ _ _ _ h => by simp at h)), fun _ _ => .sl _ _ _⟩
theorem Sb.cap (s : Nat) (e : List (List AV)) (c : Option Nat) : Sb (.sl s e c) (.sl s e none) := ⟨fun E v h => by have := rel_fc1 h; exact this, fun _ _ => .sl _ _ _⟩
theorem Sbs.rels {E : Env} : ∀ {l' l : List AV} {vs : List Value}, Sbs l' l → Rels E l' vs → Rels E l vs
  | [], [], vs, _, h => h
  | x' :: l', x :: l, vs, hs, h => by
    obtain ⟨v, us, he, h1, h2⟩ := h.cons_inv
    subst he
    exact .cons (hs.1.1 E v h1) (Sbs.rels hs.2 h2)
  | [], _ :: _, _, hs, _ => hs.elim
  | _ :: _, [], _, hs, _ => hs.elim
theorem Sbs.lts {n : Nat} : ∀ {l' l : List AV}, Sbs l' l → (∀ (i : Nat) (x : AV), l'[i]? = some x → Lt n x) → ∀ (i : Nat) (x : AV), l[i]? = some x → Lt n x
  | [], [], _, h, i, x, hx => h i x hx
  | x' :: l', y :: l, hs, h, i, x, hx => by
    cases i with
    | zero => simp at hx; subst hx; exact hs.1.2 n (h 0 x' rfl)
    | succ i => exact Sbs.lts hs.2 (fun i x hx => h (i + 1) x (by simpa using hx)) i x (by simpa using hx)
  | [], _ :: _, hs, _, _, _, _ => hs.elim
  | _ :: _, [], hs, _, _, _, _ => hs.elim
theorem Sb.agg {l' l : List AV} (h : Sbs l' l) : Sb (.agg l') (.agg l) :=
  ⟨fun E v hr => by
    obtain ⟨vs, rfl, hr2⟩ := hr.agg_inv
    have := h.rels hr2
    exact .agg this.1 this.2, fun n hl => by
    refine .agg (h.lts ?_)
    cases hl with
    | agg hl => exact hl⟩
theorem sb_refl (x : AV) : Sb x x = True := propext ⟨fun _ => trivial, fun _ => .refl x⟩
theorem sb_nil (s : Nat) : Sb (.p (.slice none 0 0)) (.sl s [] none) = True := propext ⟨fun _ => trivial, fun _ => .nil s⟩
theorem sb_cap (s : Nat) (e : List (List AV)) (c : Option Nat) : Sb (.sl s e c) (.sl s e none) = True := propext ⟨fun _ => trivial, fun _ => .cap s e c⟩
theorem Sbs.refl : ∀ l : List AV, Sbs l l
  | [] => trivial
  | x :: l => ⟨.refl x, .refl l⟩
theorem sbs_refl (l : List AV) : Sbs l l = True := propext ⟨fun _ => trivial, fun _ => .refl l⟩
/-- The same for arguments, an aggregate's cells one by one. -/
def SB : AV → AV → Prop
  | .agg l', .agg l => Sbs l' l
  | x', x => Sb x' x
def SBs : List AV → List AV → Prop
  | [], [] => True
  | x' :: l', x :: l => SB x' x ∧ SBs l' l
  | _, _ => False
theorem SB.sb {x' x : AV} (h : SB x' x) : Sb x' x := by
  unfold SB at h
  split at h
  · exact .agg h
  · exact h
theorem SBs.sbs : ∀ {l' l : List AV}, SBs l' l → Sbs l' l
  | [], [], _ => trivial
  | _ :: _, _ :: _, h => ⟨h.1.sb, SBs.sbs h.2⟩
  | [], _ :: _, h => h.elim
  | _ :: _, [], h => h.elim
theorem sB_agg (l' l : List AV) : SB (.agg l') (.agg l) = Sbs l' l := rfl
theorem sB_p (v : Value) (x : AV) : SB (.p v) x = Sb (.p v) x := by cases x <;> rfl
theorem sB_sl (s : Nat) (e : List (List AV)) (c : Option Nat) (x : AV) : SB (.sl s e c) x = Sb (.sl s e c) x := by cases x <;> rfl
theorem sB_own (i s : Nat) (e : List (List AV)) (x : AV) : SB (.own i s e) x = Sb (.own i s e) x := by cases x <;> rfl
theorem sB_ep (e : List AV) (x : AV) : SB (.ep e) x = Sb (.ep e) x := by cases x <;> rfl
theorem sB_ifc (t : TypeId) (e x : AV) : SB (.ifc t e) x = Sb (.ifc t e) x := by cases x <;> rfl
theorem sB_bp (i o : Nat) (x : AV) : SB (.bp i o) x = Sb (.bp i o) x := by cases x <;> rfl
theorem sB_fn (f : Fn) (l m : List AV) (x : AV) : SB (.fn f l m) x = Sb (.fn f l m) x := by cases x <;> rfl
theorem sBs_nil : SBs [] [] = True := rfl
theorem sBs_cons (x' x : AV) (l' l : List AV) : SBs (x' :: l') (x :: l) = (SB x' x ∧ SBs l' l) := rfl
theorem Sb.own (i s : Nat) (e : List (List AV)) : Sb (.own i s e) (.sl s e none) := ⟨fun E v h => rel_w1 h, fun _ _ => .sl _ _ _⟩
theorem sb_own (i s : Nat) (e : List (List AV)) : Sb (.own i s e) (.sl s e none) = True := propext ⟨fun _ => trivial, fun _ => .own i s e⟩
theorem sbs_nil : Sbs [] [] = True := rfl
theorem sbs_cons (x' x : AV) (l' l : List AV) : Sbs (x' :: l') (x :: l) = (Sb x' x ∧ Sbs l' l) := rfl
theorem APure.sub {P : Program} {f : FuncId} {args args' : List AV} {r : AV} (hc : APure P f args r) (hs : Sbs args' args) : APure P f args' r := fun h =>
  ⟨(hc h).1, fun E w vs a b c d => (hc h).2 E w vs a b (hs.rels c) (hs.lts d)⟩
theorem APure.callS {P : Program} {f : FuncId} {h : AH} {args args' : List AV} {r : AV} {Q : AV → AH → Prop} {ph : Ph Q} (hc : APure P f args r) (hs : SBs args' args) (hq : Q r h) : ACallW P f h args' Q ph := (hc.sub hs.sbs).call hq
theorem APure.callQS {P : Program} {g : Bool} {f : FuncId} {args args' : List AV} {r : AV} {R : AV → Prop} {ph : Ph R} (hc : APure P f args r) (hs : SBs args' args) (hq : R r) : PCallW P g f args' R ph := ⟨r, fun _ => hc.sub hs.sbs, hq⟩
def LtQ (n : Nat) : AV → Prop
  | .own id _ _ => id < n
  | .bp id _ => id < n
  | .agg l => ltB (.agg l) = true
  | .tup l => ltB (.tup l) = true
  | .fn _ _ _ => False
  | .gd _ _ => False
  | _ => True
theorem LtQ.lt {n : Nat} {x : AV} (h : LtQ n x) : Lt n x := by
  cases x with
  | p v => exact .p v
  | sl s e c => exact .sl s e c
  | ep c => exact .ep c
  | ifc t v => exact .ifc t v
  | junk => exact .junk
  | own => exact .own h
  | bp => exact .bp h
  | agg => exact lt_ltB h
  | tup => exact lt_ltB h
  | fn => exact h.elim
  | gd => exact h.elim
theorem ltq_p (n : Nat) (v : Value) : LtQ n (.p v) = True := rfl
theorem ltq_sl (n s : Nat) (e : List (List AV)) (c : Option Nat) : LtQ n (.sl s e c) = True := rfl
theorem ltq_ep (n : Nat) (e : List AV) : LtQ n (.ep e) = True := rfl
theorem ltq_ifc (n : Nat) (t : TypeId) (e : AV) : LtQ n (.ifc t e) = True := rfl
theorem ltq_own (n i s : Nat) (e : List (List AV)) : LtQ n (.own i s e) = (i < n) := rfl
theorem ltq_bp (n i o : Nat) : LtQ n (.bp i o) = (i < n) := rfl
theorem ltq_agg (n : Nat) (l : List AV) : LtQ n (.agg l) = (l.all isP = true) := rfl

def wkl (t : List (Nat × AV)) (n : Nat) : List (Nat × AV) → Prop
  | [] => True
  | (i, x) :: r => (look t i = x ∨ w2 (look t i) = x) ∧ LtQ n x ∧ wkl t n r
theorem wkl_nil (t : List (Nat × AV)) (n : Nat) : wkl t n [] = True := rfl
theorem wkl_cons (t : List (Nat × AV)) (n i : Nat) (x : AV) (r : List (Nat × AV)) : wkl t n ((i, x) :: r) = ((look t i = x ∨ w2 (look t i) = x) ∧ LtQ n x ∧ wkl t n r) := rfl
theorem wkl_mem {t : List (Nat × AV)} {n : Nat} : ∀ {r : List (Nat × AV)}, wkl t n r → ∀ i x, (i, x) ∈ r → (look t i = x ∨ w2 (look t i) = x) ∧ LtQ n x
  | [], _, _, _, h => by cases h
  | (j, y) :: r, h, i, x, hm => by
    rcases List.mem_cons.mp hm with he | hm
    · injection he with h1 h2; subst h1; subst h2; exact ⟨h.1, h.2.1⟩
    · exact wkl_mem h.2.2 i x hm
theorem Wk.of {n0 : Nat} {t t' : List (Nat × AV)} {h h' : AH} (hok : h'.ok) (h0 : n0 ≤ h'.n) (h1 : h'.n ≤ h.n) (hs : Same h'.n h.o h'.o) (hw : wkl t h'.n t') : Wk n0 ⟨t, h⟩ ⟨t', h'⟩ where
  t := fun i x hm => (wkl_mem hw i x hm).1
  lo := h0
  hi := h1
  o := fun id hid => (hs id hid).symm
  lt := fun i x hm => (wkl_mem hw i x hm).2.lt
  ok := hok
/-- A state keeps what another one lists. -/
structure Kept (n0 : Nat) (t : List (Nat × AV)) (h : AH) (t' : List (Nat × AV)) (h' : AH) : Prop where
  ok : h'.ok
  lo : n0 ≤ h'.n
  hi : h'.n ≤ h.n
  o : Same h'.n h.o h'.o
  t : wkl t h'.n t'
theorem Kept.same {n0 : Nat} {t : List (Nat × AV)} {h : AH} {t' : List (Nat × AV)} (hok : h.ok) (hn : n0 ≤ h.n) (hw : wkl t h.n t') : Kept n0 t h t' h := ⟨hok, hn, Nat.le_refl _, fun _ _ => rfl, hw⟩
/-- What the end of a loop's turn may lead to. -/
structure LoopK {α : Type} (n0 : Nat) (T : α → List (Nat × AV)) (H : α → AH) (m : α → Nat) (ok : α → Prop) (a : α) (K : St → Prop) : Prop where
  go : ∀ a', ok a' → m a' < m a → ∀ t2 h2, Kept n0 t2 h2 (T a') (H a') → K ⟨t2, h2⟩
theorem LoopK.step {α : Type} {n0 : Nat} {T : α → List (Nat × AV)} {H : α → AH} {m : α → Nat} {ok : α → Prop} {a : α} {K : St → Prop} (hK : LoopK n0 T H m ok a K) (a' : α) (h1 : ok a') (h2 : m a' < m a) {t2 : List (Nat × AV)} {h' : AH} (h3 : Kept n0 t2 h' (T a') (H a')) : K ⟨t2, h'⟩ := hK.go a' h1 h2 t2 h' h3
/-- A loop, its states told by an index. -/
theorem W_loop_ix {α : Type} {P : Program} {nt n0 : Nat} {x : Code} {t : List (Nat × AV)} {h : AH} {Q : Exit → St → Prop} {ph : Ph Q} (T : α → List (Nat × AV)) (H : α → AH) (m : α → Nat) (ok : α → Prop) (a0 : α) (h0 : ok a0) (hk : Kept n0 t h (T a0) (H a0))
    (hb : ∀ a, ok a → ∀ K : St → Prop, LoopK n0 T H m ok a K → W P nt n0 x ⟨T a, H a⟩ (seqQ K Q) .mk) : W P nt n0 (.loop x) ⟨t, h⟩ Q ph :=
  W_loop (fun n σ => ∃ a, ok a ∧ n = m a ∧ σ = ⟨T a, H a⟩) ⟨_, _, .of hk.ok hk.lo hk.hi hk.o hk.t, a0, h0, rfl, rfl⟩ fun n σ1 ⟨a, ha, hn, hs⟩ => by
    subst hn; subst hs
    exact hb a ha _ ⟨fun a' h1 h2 t2 h2' h3 => ⟨m a', _, h2, .of h3.ok h3.lo h3.hi h3.o h3.t, a', h1, rfl, rfl⟩⟩
theorem wrap_small {n : Int} (h0 : 0 ≤ n) (h1 : n < 2 ^ 62) : IntKind.i64.wrap n = n := by rw [IntKind.wrap_i64]; omega
theorem wrap_i64 {n : Int} (h0 : -2 ^ 63 ≤ n) (h1 : n < 2 ^ 63) : IntKind.i64.wrap n = n := by rw [IntKind.wrap_i64]; omega
theorem wrap_i32 {n : Int} (h0 : -2 ^ 31 ≤ n) (h1 : n < 2 ^ 31) : IntKind.i32.wrap n = n := by rw [IntKind.wrap_i32]; omega
theorem wrap_u32 {n : Int} (h0 : 0 ≤ n) (h1 : n < 2 ^ 32) : IntKind.u32.wrap n = n := by rw [IntKind.wrap_u32]; omega
section
variable {P : Program}
theorem aun_undef (o : UnOp) : aun o (.p undef) = none := by cases o <;> rfl
theorem aconvd_undef (d : TypeDesc) : aconvd d (.p undef) = none := by cases d <;> rfl
theorem afieldc_undef (b : Bool) (n : Nat) : afieldc b n (.p undef) = none := rfl
theorem aloadc_undef (h : AH) (b : Bool) (n : Nat) : aloadc h b n (.p undef) = none := rfl
theorem aindex_undef_l (t : TypeId) (k : IntKind) (n : Int) : aindex P t (.p undef) (.p (.int k n)) = none := rfl
theorem aindex_undef_r (t : TypeId) (x : AV) : aindex P t x (.p undef) = none := rfl
end
section
variable {P : Program}
/-- A struct's nought, its fields' places. -/
def tbl (P : Program) (t : TypeId) : Option (List Value × List (Nat × Nat)) :=
  match P.underlying t, (P.info? t).bind (·.zero) with
  | some (.struct fs), some z => (fs.toList.mapM fun (f : Go.Field) => (P.info? f.type).map fun g => (f.offset, g.size)).map fun l => (z.cells.toList, l)
  | _, _ => none
def kn : List (Nat × AV) → Prop
  | [] => True
  | x :: l => known x.2 = true ∧ kn l
theorem kn_iff : ∀ l : List (Nat × AV), kn l ↔ ∀ x ∈ l, known x.2 = true
  | [] => by simp [kn]
  | x :: l => by simp [kn, kn_iff l]
theorem kn_nil : kn [] = True := rfl
theorem kn_cons (x : Nat × AV) (l : List (Nat × AV)) : kn (x :: l) = (known x.2 = true ∧ kn l) := rfl
theorem mapM_some {α β : Type} {f : α → Option β} : ∀ {l : List α} {r : List β}, l.mapM f = some r → ∀ i : Nat, (l[i]?).bind f = r[i]?
  | [], r, h, i => by simp at h; subst h; simp
  | a :: l, r, h, i => by
    rw [List.mapM_cons] at h
    simp only [Option.bind_eq_bind, Option.bind_eq_some_iff, Option.pure_def, Option.some.injEq] at h
    obtain ⟨b, hb, bs, hbs, hr⟩ := h
    subst hr
    cases i with
    | zero => simpa using hb
    | succ i => simpa using mapM_some hbs i
theorem mapM_len {α β : Type} {f : α → Option β} : ∀ {l : List α} {r : List β}, l.mapM f = some r → l.length = r.length
  | [], r, h => by simp at h; subst h; rfl
  | a :: l, r, h => by
    rw [List.mapM_cons] at h
    simp only [Option.bind_eq_bind, Option.bind_eq_some_iff, Option.pure_def, Option.some.injEq] at h
    obtain ⟨b, hb, bs, hbs, hr⟩ := h
    subst hr
    simp [mapM_len hbs]
theorem abuild_of {t : TypeId} {pl : List (Nat × Nat)} {parts : List (Nat × AV)} {zl : List AV} (h : (tbl P t).map (fun q => (q.1.map AV.p, q.2)) = some (zl, pl)) :
    abuild P t parts = (fillA (fun i => pl[i]?) zl parts).map fun l => (kn parts, .agg l) := by
  obtain ⟨q, hq, he⟩ := Option.map_eq_some_iff.1 h
  obtain ⟨z, pl'⟩ := q
  simp only [Prod.mk.injEq] at he
  obtain ⟨he1, he2⟩ := he
  subst he1; subst he2
  unfold tbl at hq
  split at hq
  · rename_i fs z' hu hz
    obtain ⟨l, hl, he⟩ := Option.map_eq_some_iff.1 hq
    simp only [Prod.mk.injEq] at he
    obtain ⟨he1, he2⟩ := he
    subst he1; subst he2
    have hp := mapM_some hl
    unfold abuild tb
    rw [hu, hz]
    dsimp only
    have e : (fun (i : Nat) => (fs[i]?).bind fun (f : Go.Field) => (P.info? f.type).map fun g => (f.offset, g.size)) = fun i => l[i]? := by
      funext i; rw [← hp i]; simp
    rw [e]
    cases fillA (fun i => l[i]?) (z'.cells.toList.map AV.p) parts with
    | none => rfl
    | some c =>
      simp only [Option.map_some, Option.some.injEq, Prod.mk.injEq, and_true]
      refine propext ⟨fun ⟨h1, _, _⟩ => (kn_iff _).2 h1, fun h1 => ⟨(kn_iff _).1 h1, fun fs2 h2 => ?_, fun n e h2 => ?_⟩⟩
      · injection h2 with h2; try (injection h2 with h2)
        subst h2
        intro i f hf
        have h3 := hp i
        rw [Array.getElem?_toList, hf] at h3
        simp only [Option.bind_some] at h3
        cases hg : P.info? f.type with
        | some g => exact ⟨g, rfl⟩
        | none =>
          exfalso
          rw [hg] at h3
          simp only [Option.map_none] at h3
          have hlen : l.length = fs.size := by
            have := mapM_len hl
            simpa using this.symm
          have hi : i < fs.size := (Array.getElem?_eq_some_iff.1 hf).1
          rw [List.getElem?_eq_getElem (by omega)] at h3
          cases h3
      · cases h2
  · cases hq
theorem fillA_nil (pl : Nat → Option (Nat × Nat)) (cells : List AV) : fillA pl cells [] = some cells := rfl
theorem fillA_cons (pl : Nat → Option (Nat × Nat)) (cells : List AV) (i : Nat) (x : AV) (rest : List (Nat × AV)) : fillA pl cells ((i, x) :: rest) = (pl i).bind fun q => if x.cells.length = q.2 ∧ q.1 + q.2 ≤ cells.length then fillA pl (setAt cells q.1 x.cells) rest else none := by
  rw [fillA]; cases pl i <;> rfl
theorem setAt_eq (cells : List AV) (off : Nat) (xs : List AV) : setAt cells off xs = cells.take off ++ xs ++ cells.drop (off + xs.length) := rfl
theorem cells_vagg (cs : Array Value) : Value.cells (.agg cs) = cs := rfl
end
attribute [go_sem] sb_refl sb_nil sb_cap sb_own sbs_refl sbs_nil sbs_cons sB_agg sB_p sB_sl sB_own sB_ep sB_ifc sB_bp sB_fn sBs_nil sBs_cons
attribute [go_sem] kn_nil kn_cons fillA_nil fillA_cons setAt_eq cells_vagg
attribute [go_sem] aun_undef aconvd_undef afieldc_undef aloadc_undef aindex_undef_l aindex_undef_r
theorem AH.ok_new {h : AH} (hok : h.ok) {l : List AV} (hl : l.all isP = true) : (h.new (.box l)).ok := by
  intro id m i x hid hm hx
  by_cases e : id = h.n
  · subst e
    have e2 : (h.new (.box l)).o h.n = some (.box l) := by simp [AH.new, upd]
    rw [e2] at hm; injection hm with hm; injection hm with hm; subst hm
    exact lt_isP (List.all_eq_true.mp hl x (List.mem_of_getElem? hx))
  · have e2 : (h.new (.box l)).o id = h.o id := by simp [AH.new, upd, e]
    rw [e2] at hm
    have hlt : id < h.n := by simp only [AH.new] at hid; omega
    exact (hok id m i x hlt hm hx).mono (by simp [AH.new])
/-- A state keeps what another one lists, but not its newest object. -/
theorem Kept.drop {n0 : Nat} {t : List (Nat × AV)} {h : AH} {y : AO} {t' : List (Nat × AV)} (hok : h.ok) (hn : n0 ≤ h.n) (hw : wkl t h.n t') : Kept n0 t (h.new y) t' h :=
  ⟨hok, hn, by simp [AH.new], fun id hid => by simp only [AH.new, upd]; rw [if_neg (by omega)], hw⟩
attribute [go_sem] ltq_p ltq_sl ltq_ep ltq_ifc ltq_own ltq_bp ltq_agg wkl_nil wkl_cons
end Go.Vp

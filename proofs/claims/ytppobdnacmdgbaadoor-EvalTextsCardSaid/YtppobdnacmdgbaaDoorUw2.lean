/- Up, part w2: functions that are handed objects. -/
import Derived.Test.YtppobdnacmdgbaaDoorUw
set_option linter.unusedVariables false
set_option linter.unusedSimpArgs false
namespace Go.Up
open Go.RowKit

section
variable {R : Type}
/-- Arguments: plain data, or references to objects. -/
def encAs : (l : List B) → LD l → List AV
  | [], _ => []
  | .v t :: l, d => encV t d.1 :: encAs l d.2
  | .r k :: l, d => encR k :: encAs l d
def encAsK : (l : List B) → LD l → (List AV → Option R) → Option R
  | [], _, K => K []
  | .v t :: l, d, K => splitV t d.1 fun x => encAsK l d.2 fun r => K (x :: r)
  | .r k :: l, d, K => encAsK l d fun r => K (encR k :: r)
theorem encAsK_eq [GTab] : ∀ (l : List B) (d : LD l) (K : List AV → Option R), encAsK l d K = K (encAs l d)
  | [], _, _ => rfl
  | .v t :: l, d, K => by simp only [encAsK, encAs, encAsK_eq l]; exact splitV_eq t d.1 _
  | .r k :: l, d, K => by simp only [encAsK, encAs, encAsK_eq l]
theorem encAs_length : ∀ (l : List B) (d : LD l), (encAs l d).length = l.length
  | [], _ => rfl
  | .v _ :: l, d => by simp [encAs, encAs_length l]
  | .r _ :: l, d => by simp [encAs, encAs_length l]
theorem encTs_args : ∀ (l : List B) (d : LD l) (k : Nat), encTs (pinsFrom k l.length) l d = args0 k (encAs l d)
  | [], _, _ => rfl
  | .v t :: l, d, k => by simp only [List.length_cons, pinsFrom, encTs, encAs, args0, encTs_args l]
  | .r r :: l, d, k => by simp only [List.length_cons, pinsFrom, encTs, encAs, args0, encTs_args l]
end

/-- A function that is handed objects: the first p are variables that stay; of the others new ones come back. -/
structure EntO where
  f : FuncId
  p : Nat
  bs : List B
  ios : List O
  rs : List Ty
  os : List O
  ipre : List Pre
  run : LD bs × OL ios → Option (VD rs × OL os)
def objs (gs : List Nat) (os : List O) (d : OL os) : AH := { o := encOs os d, n := os.length, g := gs }
/-- A function's model that is right. -/
def EntOOk [GTab] (P : Program) (gs : List Nat) (e : EntO) : Prop :=
  e.p ≤ e.ios.length ∧ (∀ (vs : Array Value) (w : World), (callFunc e.f vs).run P w = .ok (.enter e.f vs) w) ∧
  ∀ x y o', e.run x = some (y, o') → ∀ (E : Env) (w : World) (vs : List Value), Glo E gs → HRel E (objs gs e.ios x.2) w → (objs gs e.ios x.2).ok → Rels E (encAs e.bs x.1) vs → (∀ (i : Nat) (z : AV), (encAs e.bs x.1)[i]? = some z → Lt e.ios.length z) →
    Calls P e.f vs.toArray w fun ed w' => ∃ v E', ed = .returned v ∧ Rel E' (joined (encVs e.rs y)) v ∧ HRel E' (objs gs e.os o') w' ∧ (objs gs e.os o').ok ∧ e.p ≤ e.os.length ∧
      Ext E e.p E' ∧ KeepB (nbOf E e.ios.length).B w w' ∧ FrB (nbOf E e.ios.length).B w E' e.os.length ∧ GrB E (nbOf E e.ios.length).B w E'
section
variable {R : Type}
def retO [GTab] (P : Program) (p : Nat) (res : List ResultVar) (rs : List Ty) (os : List O) (pre : List Pre) (σ : St) : Option (VD rs × OL os) :=
  prep (frzs res) σ fun σ => match resA P σ res with
    | some l => (match decVs σ.h rs l with
      | some y => (match norm p ⟨[], [], os, pre⟩ σ with
        | some d => some (y, d.2)
        | none => none)
      | none => none)
    | none => none
def runO [GTab] (T : Tab) (c : Code) (bs : List B) (ios : List O) (rs : List Ty) (os : List O) (pre : List Pre) (res : List ResultVar) (x : LD bs × OL ios) : Option (VD rs × OL os) :=
  encAsK bs x.1 fun args => encOsK ios x.2 fun o => exec T c [] (VD rs × OL os) { t := args0 0 args, h := ⟨o, ios.length, T.gs⟩ } (retO T.C.P T.n0 res rs os pre) (fun _ _ => none) (retO T.C.P T.n0 res rs os pre)
theorem entO_ok [GTab] {T : Tab} {f : FuncId} {fn : Func} {c : Code} {bs : List B} {ios : List O} {rs : List Ty} {os : List O} {pre ipre : List Pre} (hp : T.n0 ≤ ios.length) (hf : T.C.P.funcs[f]? = some fn) (hb : fn.body = some c) (hnt : T.nt = fn.ntmps) (hps : bs.length ≤ fn.ntmps)
    (hcf : ∀ (vs : Array Value) (w : World), (callFunc f vs).run T.C.P w = .ok (.enter f vs) w)
    (hcall : CallOk T.C.P T.call) (hro : RokOk T.C.P T.ro) (hloop : ∀ π A b, T.loop π = some A → subAt c π = some (.loop b) → LoopOk T.C.P T.nt T.gs T.n0 A b) : EntOOk T.C.P T.gs ⟨f, T.n0, bs, ios, rs, os, ipre, runO T c bs ios rs os pre fn.results.toList⟩ := by
  refine ⟨hp, hcf, fun x y o' hrun E w vs hg hh hok hr hl => ?_⟩
  refine calls_of_wp hf hb ?_
  simp only at x y o' hrun hh hok hr hl ⊢
  simp only [runO, encAsK_eq, encOsK_eq] at hrun
  let n0 : NB := ⟨T.n0, (nbOf E ios.length).B⟩
  have hs := start (fn := fn) (n0 := n0) hh hok hr hl (by rw [encAs_length]; exact hps) hp (fun id b h1 h2 => ⟨id, h1, h2⟩)
  obtain ⟨m, τ, hm, hgo⟩ := exec_ok hcall hro hloop c [] _ _ _ _ _ _ rfl hrun
  refine wp_mono (hgo E n0 w rfl hg E _ w (hnt.symm ▸ hs)) fun e a w' hpp => ?_
  obtain ⟨rfl, E', h'⟩ := hpp
  have fin : retO T.C.P T.n0 fn.results.toList rs os pre τ = some (y, o') → a.defers = [] ∧ ∃ v, (results fn a.tmps).run T.C.P w' = .ok v w' ∧ ∃ v' E', Ending.returned v = .returned v' ∧ Rel E' (joined (encVs rs y)) v' ∧ HRel E' (objs T.gs os o') w' ∧ (objs T.gs os o').ok ∧ T.n0 ≤ os.length ∧
      Ext E T.n0 E' ∧ KeepB (nbOf E ios.length).B w w' ∧ FrB (nbOf E ios.length).B w E' os.length ∧ GrB E (nbOf E ios.length).B w E' := fun hm => by
    unfold retO at hm
    obtain ⟨E', τ, h', _, hm⟩ := prep_ok h' hm
    split at hm
    case h_2 => cases hm
    rename_i l hl'
    split at hm
    case h_2 => cases hm
    rename_i y' hy'
    split at hm
    case h_2 => cases hm
    rename_i d hd
    cases hm
    obtain ⟨us, h1, h2, h3⟩ := resA_ok (P := T.C.P) h' hl'
    have h4 := decVs_ok h'.hr hy' h2 h3
    obtain ⟨E2, h5, h6⟩ := norm_ok' (n0 := n0) h' hg hd
    obtain ⟨v, h7, h8, h9⟩ := joined_ok (fn := fn) (l' := []) (E' := E2) (n := 0) h1 (encVs_prel (E := E') (E' := E2) h6 h4) (fun i x hx => encVs_lt i x hx)
    exact ⟨h'.df, v, h7, v, E2, rfl, h8, h5.hr, h5.blt, h5.nn, h5.ex, h5.kp, h5.fr, h5.gr⟩
  cases m with
  | norm => exact fin hm
  | exit i => cases hm
  | ret => exact fin hm

/-! ### The call -/
def reA (f : Nat → Nat) : AV → AV
  | .bp id off => .bp (f id) off
  | .rw id => .rw (f id)
  | .mw id => .mw (f id)
  | .mp id => .mp (f id)
  | .fn g l m => .fn g l (m.map fun x => match x with
    | .bp id off => .bp (f id) off
    | x => x)
  | x => x
def reO (f : Nat → Nat) : AO → AO
  | .box l => .box (l.map (reA f))
  | x => x
def posN : List Nat → Nat → Nat → Option Nat
  | [], _, _ => none
  | i :: l, k, id => match Nat.beq i id with
    | true => some k
    | false => posN l (k + 1) id
/-- The objects' numbers, in the caller's heap. -/
def numO (ρ : List Nat) (p n j : Nat) : Nat := match Nat.blt j p with
  | true => (nthN ρ j).getD 0
  | false => n + (j - p)
/-- The caller's heap, behind the call. -/
def behind (h : AH) (ρ : List Nat) (p m : Nat) (o : Nat → Option AO) : AH :=
  { o := fun id => match Nat.blt id h.n with
      | true => (match posN ρ 0 id with
        | some j => (match Nat.blt j p with
          | true => (match o j with
            | some x => some (reO (numO ρ p h.n) x)
            | none => none)
          | false => none)
        | none => h.o id)
      | false => (match o (id - h.n + p) with
        | some x => some (reO (numO ρ p h.n) x)
        | none => none)
    n := h.n + (m - p)
    g := h.g }
def entOK1 [GTab] (e : EntO) (R : Type) (t : List (Nat × AV)) (h : AH) (K : AH → AV → Option R) : Option R :=
  match matTs h t (pinsFrom 0 e.bs.length) e.bs [] with
  | some q => (match matOs h e.ios 0 q.2 with
    | some q' => if Nat.beq q'.2.length e.ios.length then
        bindI (e.run (q.1, q'.1)) fun yo => encVsK e.rs yo.1 fun l => encOsK e.os yo.2 fun o => K (behind h q'.2 e.p e.os.length o) (joined l)
      else none
    | none => none)
  | none => none
end

section
theorem posN_of : ∀ {ρ : List Nat} {k id j : Nat}, posN ρ k id = some j → k ≤ j ∧ nthN ρ (j - k) = some id
  | [], _, _, _, h => by cases h
  | i :: l, k, id, j, h => by
    unfold posN at h
    split at h
    · rename_i hb
      cases h
      rw [Nat.eq_of_beq_eq_true hb]
      simp [nthN]
    · obtain ⟨h1, h2⟩ := posN_of h
      refine ⟨by omega, ?_⟩
      have : j - k = (j - (k + 1)) + 1 := by omega
      rw [this]
      exact h2
theorem posN_none : ∀ {ρ : List Nat} {k id : Nat}, posN ρ k id = none → ∀ j, nthN ρ j ≠ some id
  | [], _, _, _, j => by simp [nthN]
  | i :: l, k, id, h, j => by
    unfold posN at h
    split at h
    · cases h
    · rename_i hb
      cases j with
      | zero =>
        simp only [nthN, ne_eq, Option.some.injEq]
        intro e
        subst e
        simp at hb
      | succ j => exact posN_none h j
variable {E E' Es' : Env} {f : Nat → Nat} {m : Nat}
/-- A value, its objects numbered anew. -/
theorem re_rel {x : AV} {v : Value} (h : Rel Es' x v) (hl : Lt m x) (hS : ∀ a v, Es'.S a = some v → E'.S a = some v) (hf : ∀ j, j < m → E'.obj (f j) = Es'.obj j) (hfn : ∀ g l c, x = .fn g l c → l = [] ∧ ∀ y ∈ c, ∃ id off, y = .bp id off) (hpl : ∀ l, x ≠ .agg l) (hpt : ∀ l, x ≠ .tup l) (hms : ∀ a b c, x ≠ .ms a b c) (htp : ∀ a b c, x ≠ .tp a b c) (hib : ∀ a b c, x ≠ .ib a b c) : Rel E' (reA f x) v := by
  cases h with
  | pure hp =>
    cases hp with
    | p v => exact .pure (.p _)
    | junk v => exact .pure (.junk _)
    | ifc h => exact .pure (.ifc (h.mono hS))
    | agg h1 h2 => exact absurd rfl (hpl _)
    | tup h1 h2 => exact absurd rfl (hpt _)
    | ep us h1 h2 => exact .pure (PRel.mono (.ep us h1 h2) hS)
    | sl us a1 a2 a3 a4 a5 a6 a7 a8 => exact .pure (PRel.mono (.sl us a1 a2 a3 a4 a5 a6 a7 a8) hS)
    | st l => exact .pure (.st _)
    | tl h => exact .pure (PRel.mono (.tl h) hS)
  | bp h => exact .bp (by rw [hf _ hl.bp_inv]; exact h)
  | agg h1 h2 => exact absurd rfl (hpl _)
  | tup h1 h2 => exact absurd rfl (hpt _)
  | rw h => exact .rw (by rw [hf _ hl.rw_inv]; exact h)
  | mw h1 h2 h3 h4 h5 => exact .mw (by rw [hf _ hl.mw_inv]; exact h1) h2 h3 h4 h5
  | ms h1 h2 h3 h4 h5 => exact absurd rfl (hms _ _ _)
  | tp h1 => exact absurd rfl (htp _ _ _)
  | mp h => exact .mp (by rw [hf _ hl.mp_inv]; exact h)
  | ib h => exact absurd rfl (hib _ _ _)
  | @fn g l c vs us h1 h2 h3 h4 =>
    obtain ⟨rfl, hc⟩ := hfn g l c rfl
    cases hl with
    | fn l1 l2 =>
      refine .fn h1 (by rw [List.length_map]; exact h2) (fun i x v hx => by cases hx) (fun i y v hy hv => ?_)
      rw [List.getElem?_map] at hy
      obtain ⟨z, hz, rfl⟩ := Option.map_eq_some_iff.1 hy
      obtain ⟨id, off, rfl⟩ := hc z (List.mem_of_getElem? hz)
      have hr := h4 i _ v hz hv
      obtain ⟨b, rfl, hb⟩ := hr.bp_inv
      exact .bp (by rw [hf _ (l2 i _ hz).bp_inv]; exact hb)
theorem re_lt {n : Nat} {x : AV} (hl : Lt m x) (hf : ∀ j, j < m → f j < n) (hfn : ∀ g l c, x = .fn g l c → l = [] ∧ ∀ y ∈ c, ∃ id off, y = .bp id off) (hpl : ∀ l, x ≠ .agg l) (hpt : ∀ l, x ≠ .tup l) (hms : ∀ a b c, x ≠ .ms a b c) (htp : ∀ a b c, x ≠ .tp a b c) (hib : ∀ a b c, x ≠ .ib a b c) : Lt n (reA f x) := by
  cases hl with
  | p => exact .p _
  | junk => exact .junk
  | sl => exact .sl _ _ _
  | ep => exact .ep _
  | ifc => exact .ifc _ _
  | st => exact .st _
  | tl => exact .tl _ _ _
  | bp h => exact .bp (hf _ h)
  | rw h => exact .rw (hf _ h)
  | mw h => exact .mw (hf _ h)
  | mp h => exact .mp (hf _ h)
  | agg _ => exact absurd rfl (hpl _)
  | tup _ => exact absurd rfl (hpt _)
  | ms _ => exact absurd rfl (hms _ _ _)
  | tp _ => exact absurd rfl (htp _ _ _)
  | ib _ => exact absurd rfl (hib _ _ _)
  | @fn g l c l1 l2 =>
    obtain ⟨rfl, hc⟩ := hfn g l c rfl
    refine .fn (fun i x hx => by cases hx) (fun i y hy => ?_)
    rw [List.getElem?_map] at hy
    obtain ⟨z, hz, rfl⟩ := Option.map_eq_some_iff.1 hy
    obtain ⟨id, off, rfl⟩ := hc z (List.mem_of_getElem? hz)
    exact .bp (hf _ (l2 i _ hz).bp_inv)
/-- Cells of a shape: no aggregates, no parts of arrays. -/
structure Flat (x : AV) : Prop where
  fn : ∀ g l c, x = .fn g l c → l = [] ∧ ∀ y ∈ c, ∃ id off, y = .bp id off
  agg : ∀ l, x ≠ .agg l
  tup : ∀ l, x ≠ .tup l
  ms : ∀ a b c, x ≠ .ms a b c
  tp : ∀ a b c, x ≠ .tp a b c
  ib : ∀ a b c, x ≠ .ib a b c
theorem Flat.of_isP {x : AV} (h : isP x = true) : Flat x := by
  cases x <;> first | (cases h; done) | exact ⟨fun _ _ _ e => (by cases e), fun _ e => (by cases e), fun _ e => (by cases e), fun _ _ _ e => (by cases e), fun _ _ _ e => (by cases e), fun _ _ _ e => (by cases e)⟩
theorem Flat.encR (k : Rf) : Flat (encR k) := by
  cases k with
  | fn f cap => exact ⟨fun g l c e => by
      cases e
      exact ⟨rfl, fun y hy => by
        obtain ⟨j, _, rfl⟩ := List.mem_map.1 hy
        exact ⟨j, 0, rfl⟩⟩, fun _ e => (by cases e), fun _ e => (by cases e), fun _ _ _ e => (by cases e), fun _ _ _ e => (by cases e), fun _ _ _ e => (by cases e)⟩
  | _ => exact ⟨fun _ _ _ e => (by cases e), fun _ e => (by cases e), fun _ e => (by cases e), fun _ _ _ e => (by cases e), fun _ _ _ e => (by cases e), fun _ _ _ e => (by cases e)⟩
theorem encCs_flat [GTab] : ∀ (l : List B) (d : LD l), ∀ x ∈ encCs l d, Flat x
  | [], _, x, h => by cases h
  | .v t :: l, d, x, h => by
    simp only [encCs, List.mem_append] at h
    rcases h with h | h
    · exact .of_isP (enc_isP t d.1 x h)
    · exact encCs_flat l d.2 x h
  | .r k :: l, d, x, h => by
    rcases List.mem_cons.1 h with rfl | h
    · exact .encR k
    · exact encCs_flat l d x h
end

section
variable {R : Type}
theorem entOK1_ok [GTab] {P : Program} {gs : List Nat} {e : EntO} (he : EntOOk P gs e) {t0 : List (Nat × AV)} {h : AH} {K : AH → AV → Option R} {r : R} (hgs : subG gs h.g = true) (hk : entOK1 e R t0 h K = some r) :
    ∃ h' y, (∀ (E : Env) (w : World) (vs : List Value), HRel E h w → h.ok → vs.length = e.bs.length → (∀ i, Rel E (look t0 i) ((vs[i]?).getD undef)) → (∀ i, Lt h.n (look t0 i)) →
      Calls P e.f vs.toArray w fun ed w' => ∃ v E', ed = .returned v ∧ Step E h w E' h' w' ∧ Rel E' y v ∧ Lt h'.n y) ∧ K h' y = some r := by
  obtain ⟨hple, hcf, hrun⟩ := he
  unfold entOK1 at hk
  split at hk
  case h_2 => cases hk
  rename_i q hq
  split at hk
  case h_2 => cases hk
  rename_i q' hq'
  split at hk
  case isFalse => cases hk
  rename_i hcc
  have hlen := Nat.eq_of_beq_eq_true hcc
  obtain ⟨yo, hyo, hk2⟩ := bindI_inv hk
  clear hk
  obtain ⟨y, o'⟩ := yo
  rw [encVsK_eq, encOsK_eq] at hk2
  refine ⟨_, _, fun E w vs hh hok hvl htm hlt => ?_, hk2⟩
  have hgE : Glo E gs := fun g hg => hh.glo g (subG_ok hgs g hg)
  -- the part of the heap that is handed over
  let s : Sh := ⟨pinsFrom 0 e.bs.length, e.bs, e.ios, []⟩
  have hp : Part E h w s gs (q.1, q'.1) [] q'.2 (fun i => (vs[i]?).getD undef) := part_ok hh hok htm hlt (s := s) hgE (fun i id hi => by cases hi) (fun i j id hi => by cases hi) hq hq' hlen
  obtain ⟨ρ, hρ⟩ : ∃ ρ, q'.2 = ρ := ⟨_, rfl⟩
  rw [hρ] at hp ⊢
  have hplen : ρ.length = e.ios.length := hp.len
  have eT : (encS s gs (q.1, q'.1)).t = args0 0 (encAs e.bs q.1) := encTs_args e.bs q.1 0
  have hargs : Rels (E.via ρ) (encAs e.bs q.1) vs := by
    refine ⟨by rw [hvl, encAs_length], fun i x v hx hv => ?_⟩
    have h1 := hp.tm i
    rw [eT, look_args0] at h1
    simp only [Nat.zero_le, if_true, Nat.sub_zero, hx, hv, Option.getD_some] at h1
    exact h1
  have halt : ∀ (i : Nat) (z : AV), (encAs e.bs q.1)[i]? = some z → Lt e.ios.length z := fun i z hz => by
    have h1 := hp.lt i
    rw [eT, look_args0] at h1
    simp only [Nat.zero_le, if_true, Nat.sub_zero, hz, Option.getD_some] at h1
    exact h1
  have hgV : Glo (E.via ρ) gs := hgE
  refine (hrun _ _ _ hyo (E.via ρ) w vs hgV hp.rel hp.ok hargs halt).mono fun ed w' ⟨v, Es', g1, g2, g3, g4, g5, g6, g7, g8, g9⟩ => ?_
  -- what of the caller's objects stays
  have isIn : ∀ b, (nbOf (E.via ρ) e.ios.length).B b → ∃ j id, nthN ρ j = some id ∧ j < e.ios.length ∧ id < h.n ∧ h.o id ≠ none ∧ (E.obj id).blk = some b := fun b ⟨j, h1, h2⟩ => by
    obtain ⟨id, r1, r2, r3⟩ := hp.at' h1
    simp only [Env.via, r1, Option.getD_some] at h2
    exact ⟨j, id, r1, h1, r3, r2, h2⟩
  have viaObj : ∀ {j id}, nthN ρ j = some id → (E.via ρ).obj j = E.obj id := fun {j id} hj => by simp only [Env.via, hj, Option.getD_some]
  let f : Nat → Nat := numO ρ e.p h.n
  let E' : Env := { S := Es'.S, obj := fun id => if id < h.n then E.obj id else Es'.obj (id - h.n + e.p) }
  have hS : ∀ a v, E.S a = some v → Es'.S a = some v := g6.S
  have fp : ∀ j, j < e.p → ∃ id, nthN ρ j = some id ∧ f j = id ∧ id < h.n ∧ h.o id ≠ none := fun j hj => by
    obtain ⟨id, r1, r2, r3⟩ := hp.at' (i := j) (by show j < e.ios.length; omega)
    refine ⟨id, r1, ?_, r3, r2⟩
    have : Nat.blt j e.p = true := by simp [Nat.blt]; omega
    simp only [f, numO, this, r1, Option.getD_some]
  have fq : ∀ j, ¬ j < e.p → f j = h.n + (j - e.p) := fun j hj => by
    have : Nat.blt j e.p = false := by rw [Bool.eq_false_iff]; simp [Nat.blt]; omega
    simp only [f, numO, this]
  -- variables that stay are the same blocks
  have pinBox : ∀ {j id b}, j < e.p → nthN ρ j = some id → Es'.obj j = .box b → E.obj id = .box b := fun {j id b} hj hid hb => by
    cases ho : E.obj id with
    | box b' =>
      have := g6.box j b' hj (by rw [viaObj hid]; exact ho)
      rw [hb] at this
      cases this
      rfl
    | row a c t z =>
      have := g6.row j a c t z hj (by rw [viaObj hid]; exact ho)
      rw [hb] at this
      cases this
    | arr a c t z =>
      have := g6.arr j a c t z hj (by rw [viaObj hid]; exact ho)
      rw [hb] at this
      cases this
    | map a =>
      have := g6.map j a hj (by rw [viaObj hid]; exact ho)
      rw [hb] at this
      cases this
  have pinObj : ∀ {j id}, j < e.p → nthN ρ j = some id → Es'.obj j = E.obj id := fun {j id} hj hid => by
    cases ho : E.obj id with
    | box b => exact g6.box j b hj (by rw [viaObj hid]; exact ho)
    | row a c t z => exact g6.row j a c t z hj (by rw [viaObj hid]; exact ho)
    | arr a c t z => exact g6.arr j a c t z hj (by rw [viaObj hid]; exact ho)
    | map a => exact g6.map j a hj (by rw [viaObj hid]; exact ho)
  have objF : ∀ j, j < e.os.length → E'.obj (f j) = Es'.obj j := fun j hj => by
    by_cases hjp : j < e.p
    · obtain ⟨id, r1, r2, r3, r4⟩ := fp j hjp
      show (if f j < h.n then E.obj (f j) else _) = _
      rw [r2, if_pos r3]
      exact (pinObj hjp r1).symm
    · rw [fq j hjp]
      show (if h.n + (j - e.p) < h.n then _ else Es'.obj (h.n + (j - e.p) - h.n + e.p)) = _
      rw [if_neg (by omega)]
      congr 1
      omega
  have fLt : ∀ j, j < e.os.length → f j < h.n + (e.os.length - e.p) := fun j hj => by
    by_cases hjp : j < e.p
    · obtain ⟨id, r1, r2, r3, r4⟩ := fp j hjp
      omega
    · rw [fq j hjp]; omega
  -- an object that comes back
  have back : ∀ j ao, encOs e.os o' j = some ao → ORel E' w' (E'.obj (f j)) (reO f ao) ∧ (reO f ao).lt (h.n + (e.os.length - e.p)) := fun j ao hj => by
    have hjl : j < e.os.length := by
      rcases Nat.lt_or_ge j e.os.length with hh | hh
      · exact hh
      · exfalso
        have none_ge : ∀ (l : List O) (d : OL l) (i : Nat), l.length ≤ i → encOs l d i = none := by
          intro l
          induction l with
          | nil => intro d i _; cases i <;> rfl
          | cons o l ih =>
            intro d i hi
            cases i with
            | zero => simp at hi
            | succ i => exact ih d.2 i (by simpa using hi)
        rw [none_ge e.os o' j hh] at hj
        cases hj
    have hor := g3.obj j ao hjl hj
    rw [objF j hjl]
    have hflat : ∀ l, ao = .box l → (∀ x ∈ l, Flat x) ∧ ∀ (i : Nat) (x : AV), l[i]? = some x → Lt e.os.length x := fun l hl => by
      subst hl
      refine ⟨?_, fun i x hx => g4 j l i x hjl hj hx⟩
      have flat_os : ∀ (os : List O) (d : OL os) (i : Nat) (l : List AV), encOs os d i = some (.box l) → ∀ x ∈ l, Flat x := by
        intro os
        induction os with
        | nil => intro d i l hi; cases i <;> cases hi
        | cons o os ih =>
          intro d i l hi
          cases i with
          | zero =>
            cases o with
            | box bl => cases hi; exact encCs_flat bl d.1
            | _ => cases hi
          | succ i => exact ih d.2 i l hi
      exact flat_os e.os o' j l hj
    cases ao with
    | box l =>
      obtain ⟨hf1, hf2⟩ := hflat l rfl
      obtain ⟨b, cs, T, h1, h2, h3, h4⟩ := hor
      refine ⟨⟨b, cs, T, h1, h2, ⟨by rw [List.length_map]; exact h3.1, fun i x v hx hv => ?_⟩, h4⟩, fun i x hx => ?_⟩
      · rw [List.getElem?_map] at hx
        obtain ⟨z, hz, rfl⟩ := Option.map_eq_some_iff.1 hx
        have ff := hf1 z (List.mem_of_getElem? hz)
        exact re_rel (h3.2 i z v hz hv) (hf2 i z hz) (fun _ _ h => h) objF ff.fn ff.agg ff.tup ff.ms ff.tp ff.ib
      · rw [List.getElem?_map] at hx
        obtain ⟨z, hz, rfl⟩ := Option.map_eq_some_iff.1 hx
        have ff := hf1 z (List.mem_of_getElem? hz)
        exact re_lt (hf2 i z hz) fLt ff.fn ff.agg ff.tup ff.ms ff.tp ff.ib
    | trow t l => exact ⟨hor, trivial⟩
    | tarr t l => exact ⟨hor, trivial⟩
    | tmap kt vt l => exact ⟨hor, trivial⟩
  have hn' : (behind h ρ e.p e.os.length (encOs e.os o')).n = h.n + (e.os.length - e.p) := rfl
  have extE : Ext E h.n E' := ⟨hS, fun id b hid hb => by show (if id < h.n then E.obj id else _) = _; rw [if_pos hid]; exact hb, fun id b c t z hid hb => by show (if id < h.n then E.obj id else _) = _; rw [if_pos hid]; exact hb,
    fun id b hid hb => by show (if id < h.n then E.obj id else _) = _; rw [if_pos hid]; exact hb, fun id b c t z hid hb => by show (if id < h.n then E.obj id else _) = _; rw [if_pos hid]; exact hb⟩
  have eOld : ∀ id, id < h.n → E'.obj id = E.obj id := fun id hid => if_pos hid
  have eNew : ∀ id, ¬ id < h.n → E'.obj id = Es'.obj (id - h.n + e.p) := fun id hid => if_neg hid
  -- what stands where, behind the call
  have cases' : ∀ id x, id < h.n + (e.os.length - e.p) → (behind h ρ e.p e.os.length (encOs e.os o')).o id = some x →
      (∃ j ao, encOs e.os o' j = some ao ∧ x = reO f ao ∧ f j = id ∧ j < e.os.length ∧ ((id < h.n ∧ j < e.p ∧ nthN ρ j = some id) ∨ (¬ id < h.n ∧ ¬ j < e.p ∧ j = id - h.n + e.p))) ∨ (id < h.n ∧ (∀ j, nthN ρ j ≠ some id) ∧ h.o id = some x) := fun id x hid ho => by
    simp only [behind] at ho
    by_cases hlt : id < h.n
    · have hb : Nat.blt id h.n = true := by simp [Nat.blt]; omega
      rw [hb] at ho
      dsimp only at ho
      split at ho
      · rename_i j hj
        obtain ⟨_, hj2⟩ := posN_of hj
        rw [Nat.sub_zero] at hj2
        split at ho
        · rename_i hjp
          have hjp : j < e.p := by simpa [Nat.blt, Nat.succ_le_iff] using hjp
          split at ho
          · rename_i ao hao
            cases ho
            obtain ⟨id', r1, r2, r3, r4⟩ := fp j hjp
            rw [hj2] at r1
            cases r1
            exact .inl ⟨j, ao, hao, rfl, r2, by omega, .inl ⟨hlt, hjp, hj2⟩⟩
          · cases ho
        · cases ho
      · rename_i hj
        exact .inr ⟨hlt, posN_none hj, ho⟩
    · have hb : Nat.blt id h.n = false := by rw [Bool.eq_false_iff]; simp [Nat.blt]; omega
      rw [hb] at ho
      dsimp only at ho
      split at ho
      · rename_i ao hao
        cases ho
        refine .inl ⟨id - h.n + e.p, ao, hao, rfl, ?_, by omega, .inr ⟨hlt, by omega, rfl⟩⟩
        rw [fq _ (by omega)]
        omega
      · cases ho
  have notB : ∀ id x b, id < h.n → (∀ j, nthN ρ j ≠ some id) → h.o id = some x → (E.obj id).blk = some b → ¬ (nbOf (E.via ρ) e.ios.length).B b := fun id x b hid hne ho hb hB => by
    obtain ⟨j, id', r1, r2, r3, r4, r5⟩ := isIn b hB
    have := hh.inj id id' b hid r3 (by rw [ho]; simp) r4 hb r5
    subst this
    exact hne j r1
  have hrel : HRel E' (behind h ρ e.p e.os.length (encOs e.os o')) w' := by
    refine ⟨g3.cells, fun id x hid ho => ?_, fun g hg j x hx => ?_, fun i j b hi hj hi0 hj0 hbi hbj => ?_, fun i b hi hb => ?_⟩
    · rcases cases' id x hid ho with ⟨j, ao, k1, rfl, rfl, _, _⟩ | ⟨hlt, hne, ho2⟩
      · exact (back j ao k1).1
      · rw [eOld id hlt]
        refine (hh.obj id x hlt ho2).keep extE (AH.ok_lt hok hlt ho2) fun b hb => ?_
        have hb1 := hh.lt id b hlt hb
        refine ⟨g7.block b hb1 (notB id x b hlt hne ho2 hb), fun a ha => ?_⟩
        show Es'.S a = E.S a
        cases hs : E.S a with
        | some v => exact hS a v hs
        | none =>
          cases hs' : Es'.S a with
          | none => rfl
          | some v =>
            rcases g9 a v hs' with r | r | r
            · have r : E.S a = some v := r
              rw [hs] at r; cases r
            · omega
            · rw [ha] at r; exact absurd r (notB id x b hlt hne ho2 hb)
    · obtain ⟨v, r1, r2⟩ := hh.glo g hg j x hx
      exact ⟨v, hS _ _ r1, r2.mono hS⟩
    · -- no two objects have one block
      have back2 : ∀ (i : Nat) (hi : i < h.n + (e.os.length - e.p)) (x : AO), (behind h ρ e.p e.os.length (encOs e.os o')).o i = some x → (E'.obj i).blk = some b →
          (∃ j, j < e.os.length ∧ f j = i ∧ (Es'.obj j).blk = some b ∧ encOs e.os o' j ≠ none) ∨ (i < h.n ∧ (∀ j, nthN ρ j ≠ some i) ∧ h.o i = some x ∧ (E.obj i).blk = some b) := fun i hi x ho hb => by
        rcases cases' i x hi ho with ⟨j, ao, k1, _, k3, k4, _⟩ | ⟨hlt, hne, ho2⟩
        · subst k3
          rw [objF j k4] at hb
          exact .inl ⟨j, k4, rfl, hb, by rw [k1]; simp⟩
        · rw [eOld i hlt] at hb
          exact .inr ⟨hlt, hne, ho2, hb⟩
      have mix : ∀ {j i' : Nat} {x : AO}, j < e.os.length → (Es'.obj j).blk = some b → i' < h.n → (∀ j, nthN ρ j ≠ some i') → h.o i' = some x → (E.obj i').blk = some b → False := fun {j i' x} hj hb hi' hne ho hb' => by
        rcases g8 j b hj hb with r | r
        · have := hh.lt i' b hi' hb'; omega
        · exact notB i' x b hi' hne ho hb' r
      obtain ⟨x, hx⟩ := Option.ne_none_iff_exists'.1 hi0
      obtain ⟨x', hx'⟩ := Option.ne_none_iff_exists'.1 hj0
      rcases back2 i hi x hx hbi with ⟨a1, k1, k2, k3, k4⟩ | ⟨k1, k2, k3, k4⟩ <;> rcases back2 j hj x' hx' hbj with ⟨a2, m1, m2, m3, m4⟩ | ⟨m1, m2, m3, m4⟩
      · have := g3.inj a1 a2 b k1 m1 k4 m4 k3 m3
        subst this
        rw [← k2, ← m2]
      · exact (mix k1 k3 m1 m2 m3 m4).elim
      · exact (mix m1 m3 k1 k2 k3 k4).elim
      · exact hh.inj i j b k1 m1 (by rw [k3]; simp) (by rw [m3]; simp) k4 m4
    · by_cases hlt : i < h.n
      · rw [eOld i hlt] at hb
        exact Nat.lt_of_lt_of_le (hh.lt i b hlt hb) g7.size
      · rw [eNew i hlt] at hb
        exact g3.lt _ b (by show i - h.n + e.p < e.os.length; rw [hn'] at hi; omega) hb
  have hok' : (behind h ρ e.p e.os.length (encOs e.os o')).ok := fun id l i x hid ho hx => by
    rcases cases' id _ hid ho with ⟨j, ao, k1, k2, _, _, _⟩ | ⟨hlt, hne, ho2⟩
    · have := (back j ao k1).2
      rw [← k2] at this
      exact this i x hx
    · exact (hok id l i x hlt ho2 hx).mono (by rw [hn']; omega)
  have hB : ∀ b, (nbOf (E.via ρ) e.ios.length).B b → ∃ id, id < h.n ∧ (E.obj id).blk = some b := fun b hb => by
    obtain ⟨j, id, r1, r2, r3, r4, r5⟩ := isIn b hb
    exact ⟨id, r3, r5⟩
  have hstep : Step E h w E' (behind h ρ e.p e.os.length (encOs e.os o')) w' :=
    ⟨extE, hrel, hok', by rw [hn']; omega, ⟨g7.os, g7.tape, g7.output, g7.size, fun k hk hne => g7.block k hk fun hb => by
      obtain ⟨id, r1, r2⟩ := hB k hb
      exact hne id r1 r2⟩, fun id b hid hb => by
      by_cases hlt : id < h.n
      · rw [eOld id hlt] at hb
        exact .inr ⟨id, hlt, hb⟩
      · rw [eNew id hlt] at hb
        rcases g8 _ b (by rw [hn'] at hid; omega) hb with r | r
        · exact .inl r
        · exact .inr (hB b r), fun a v ha => by
      rcases g9 a v ha with r | r | r
      · exact .inl r
      · exact .inr (.inl r)
      · exact .inr (.inr (hB _ r))⟩
  have jlt : ∀ (l : List AV) (n : Nat), (∀ (i : Nat) (x : AV), l[i]? = some x → Lt n x) → Lt n (joined l) := fun l n hl => by
    match l, hl with
    | [x], hl => exact hl 0 x rfl
    | [], hl => exact .tup hl
    | x :: y :: l, hl => exact .tup hl
  refine ⟨v, E', g1, hstep, ?_, jlt _ _ fun i x hx => encVs_lt i x hx⟩
  · exact g2.mono (n := 0) (jlt _ _ fun i x hx => encVs_lt i x hx) ⟨fun _ _ h => h, fun _ _ h => absurd h (Nat.not_lt_zero _), fun _ _ _ _ _ h => absurd h (Nat.not_lt_zero _), fun _ _ h => absurd h (Nat.not_lt_zero _), fun _ _ _ _ _ h => absurd h (Nat.not_lt_zero _)⟩
end
section
variable {R : Type}
theorem prep1_bind {p : Pre} {σ : St} {K : St → Option R} : prep1 p σ K = (prep1 p σ some).bind K := by
  have cb : ∀ (b : Bool) (x : Option St), (bif b then x else none).bind K = bif b then x.bind K else none := fun b x => by cases b <;> rfl
  cases p with
  | tmp i τ => simp only [prep1]; split <;> rfl
  | cell i off τ =>
    simp only [prep1]
    split
    · split
      · split <;> rfl
      · rfl
    · rfl
  | arr i τ =>
    simp only [prep1]
    split
    · rfl
    · split
      · rw [cb, cb]; rfl
      · rfl
    · rfl
  | arrc i off τ =>
    simp only [prep1]
    split
    · split
      · split
        · rfl
        · split
          · rw [cb, cb]; rfl
          · rfl
        · rfl
      · rfl
    · rfl
  | frz i =>
    simp only [prep1]
    split
    · split <;> rfl
    · rfl
theorem prep_bind : ∀ {l : List Pre} {σ : St} {K : St → Option R}, prep l σ K = (prep l σ some).bind K
  | [], _, _ => rfl
  | p :: l, σ, K => by
    simp only [prep]
    rw [prep1_bind (K := fun σ => prep l σ K), prep1_bind (K := fun σ => prep l σ some), Option.bind_assoc]
    congr 1
    funext σ'
    exact prep_bind
def entOK [GTab] (e : EntO) (R : Type) (h : AH) (args : List AV) (K : AH → AV → Option R) : Option R :=
  if Nat.beq args.length e.bs.length then prep e.ipre ⟨args0 0 args, h⟩ fun σ => entOK1 e R σ.t σ.h K else none
theorem prep_g : ∀ {l : List Pre} {σ σ' : St}, prep l σ some = some σ' → σ'.h.g = σ.h.g
  | [], σ, σ', h => by cases h; rfl
  | p :: l, σ, σ', h => by
    simp only [prep] at h
    rw [prep1_bind] at h
    obtain ⟨σ1, h1, h2⟩ := Option.bind_eq_some_iff.1 h
    rw [prep_g h2]
    cases p with
    | tmp i τ => simp only [prep1] at h1; split at h1 <;> (cases h1; rfl)
    | cell i off τ =>
      simp only [prep1] at h1
      split at h1
      · split at h1
        · split at h1 <;> (cases h1; rfl)
        · cases h1; rfl
      · cases h1; rfl
    | arr i τ =>
      simp only [prep1] at h1
      split at h1
      · cases h1; rfl
      · split at h1
        · obtain ⟨_, h1⟩ := cond_inv h1
          obtain ⟨_, h1⟩ := cond_inv h1
          cases h1; rfl
        · cases h1; rfl
      · cases h1; rfl
    | arrc i off τ =>
      simp only [prep1] at h1
      split at h1
      · split at h1
        · split at h1
          · cases h1; rfl
          · split at h1
            · obtain ⟨_, h1⟩ := cond_inv h1
              obtain ⟨_, h1⟩ := cond_inv h1
              cases h1; rfl
            · cases h1; rfl
          · cases h1; rfl
        · cases h1; rfl
      · cases h1; rfl
    | frz i =>
      simp only [prep1] at h1
      split at h1
      · split at h1 <;> (cases h1; rfl)
      · cases h1; rfl
theorem entOK_ok [GTab] {P : Program} {gs : List Nat} {e : EntO} (he : EntOOk P gs e) {h : AH} {args : List AV} {K : AH → AV → Option R} {r : R} (hgs : subG gs h.g = true) (hk : entOK e R h args K = some r) :
    ∃ h' y, ACall P e.f h args (fun v h2 => v = y ∧ h2 = h') ∧ K h' y = some r := by
  unfold entOK at hk
  split at hk
  case isFalse => cases hk
  rename_i hal
  have hal := Nat.eq_of_beq_eq_true hal
  rw [prep_bind] at hk
  obtain ⟨σ1, hσ1, hk1⟩ := Option.bind_eq_some_iff.1 hk
  obtain ⟨h', y, hcalls, hk2⟩ := entOK1_ok he (by rw [prep_g hσ1]; exact hgs) hk1
  refine ⟨h', y, ⟨he.2.1, fun E w vs hh hok hr hl => ?_⟩, hk2⟩
  have hs := start (fn := { (default : Func) with ntmps := args.length }) (n0 := nbOf E h.n) hh hok hr hl (Nat.le_refl _) (Nat.le_refl _) (fun id b h1 h2 => ⟨id, h1, h2⟩)
  obtain ⟨E1, σ2, h2, hS, h3⟩ := prep_ok hs hσ1
  cases h3
  have hst : Step E h w E1 σ1.h w := ⟨h2.ex, h2.hr, h2.blt, h2.nn, ⟨h2.kp.os, h2.kp.tape, h2.kp.output, h2.kp.size, fun k hk hne => h2.kp.block k hk fun ⟨id, h1, h2⟩ => hne id h1 h2⟩, h2.fr, h2.gr⟩
  have hvl : vs.length = args.length := hr.1
  refine (hcalls E1 w vs h2.hr h2.blt (by rw [hvl, hal]) (fun i => ?_) h2.lt).mono fun ed w' ⟨v, E', g1, g2, g3, g4⟩ => ⟨v, y, h', E', g1, ⟨rfl, rfl⟩, hst.trans g2, g3, g4⟩
  have ht := h2.tm i
  have e1 : (vs.toArray ++ Array.replicate (args.length - vs.toArray.size) undef).getD i undef = (vs[i]?).getD undef := by
    have : args.length - vs.toArray.size = 0 := by simp [hvl]
    rw [this]
    simp [Array.getD_eq_getD_getElem?]
  rw [← e1]
  exact ht
end

/-! ### All calls -/
def isAs (a : Option AsI) (f : FuncId) : Option AsI := match a with
  | some A => if Nat.beq A.f f then some A else none
  | none => none
def findO : List EntO → FuncId → Option EntO
  | [], _ => none
  | e :: l, f => if Nat.beq e.f f then some e else findO l f
theorem findO_ok : ∀ {l : List EntO} {f : FuncId} {e : EntO}, findO l f = some e → e ∈ l ∧ e.f = f
  | [], _, _, h => by cases h
  | e :: l, f, e', h => by
    unfold findO at h
    split at h
    · rename_i hb
      cases h
      exact ⟨List.mem_cons_self, Nat.eq_of_beq_eq_true hb⟩
    · obtain ⟨h1, h2⟩ := findO_ok h
      exact ⟨List.mem_cons_of_mem _ h1, h2⟩
def callT [GTab] (a : Option AsI) (gs : List Nat) (eos : List EntO) (ro : Rok) (l : List Inl) : Callk := fun R f h args K =>
  match isAs a f with
  | some A => asK A R h args K
  | none =>
    match findO eos f with
    | some e => if subG gs h.g then entOK e R h args K else none
    | none =>
      match findI l f with
      | some i => inlK i R h args K
      | none => ro R f h args (K h)
theorem callT_ok [GTab] {P : Program} {a : Option AsI} {gs : List Nat} {eos : List EntO} {ro : Rok} {l : List Inl} (ha : ∀ A, a = some A → AsOk P A) (he : ∀ e ∈ eos, EntOOk P gs e) (hro : RokOk P ro) (hl : ∀ i ∈ l, InlOk P i) : CallOk P (callT a gs eos ro l) := by
  intro R f h args K r hk
  unfold callT at hk
  split at hk
  · rename_i A hA
    unfold isAs at hA
    split at hA
    case h_2 => cases hA
    rename_i A'
    split at hA
    case isFalse => cases hA
    rename_i hf
    cases hA
    obtain rfl := Nat.eq_of_beq_eq_true hf
    exact asK_ok (ha A rfl) hk
  split at hk
  · rename_i e he'
    obtain ⟨hm, rfl⟩ := findO_ok he'
    split at hk
    case isFalse => cases hk
    rename_i hgs
    exact entOK_ok (he e hm) hgs hk
  split at hk
  · rename_i i hi
    obtain ⟨hm, rfl⟩ := findI_ok hi
    exact inlK_ok (hl i hm) hk
  · obtain ⟨y, h1, h2⟩ := hro R f h args _ r hk
    exact ⟨h, y, h1 h (.refl h), h2⟩
end Go.Up

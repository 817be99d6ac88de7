/- Up, part w: functions: such as make plain data of plain data; such as run in the caller's heap. -/
import Derived.Test.YtppobdnacmdgbaaDoorUv
import Derived.Test.YtppobdnacmdgbaaDoorUz
set_option linter.unusedVariables false
set_option linter.unusedSimpArgs false
namespace Go.Up
open Go.RowKit

@[reducible] def VD : List Ty → Type
  | [] => Unit
  | t :: l => El t × VD l
def encVs : (l : List Ty) → VD l → List AV
  | [], _ => []
  | t :: l, d => encV t d.1 :: encVs l d.2
section
variable {R : Type}
def encVsK : (l : List Ty) → VD l → (List AV → Option R) → Option R
  | [], _, K => K []
  | t :: l, d, K => splitV t d.1 fun x => encVsK l d.2 fun r => K (x :: r)
theorem encVsK_eq [GTab] : ∀ (l : List Ty) (d : VD l) (K : List AV → Option R), encVsK l d K = K (encVs l d)
  | [], _, _ => rfl
  | t :: l, d, K => by simp only [encVsK, encVs, splitV_eq, encVsK_eq l]
end
def decVs (h : AH) : (l : List Ty) → List AV → Option (VD l)
  | [], [] => some ()
  | t :: l, x :: xs =>
    match decV h t x with
    | some y => (match decVs h l xs with
      | some r => some (y, r)
      | none => none)
    | none => none
  | _, _ => none
theorem decVs_ok [GTab] {E : Env} {h : AH} {w : World} (hh : HRel E h w) : ∀ {l : List Ty} {xs : List AV} {d : VD l} {vs : List Value}, decVs h l xs = some d → Rels E xs vs → (∀ (i : Nat) (x : AV), xs[i]? = some x → Lt h.n x) → Rels E (encVs l d) vs
  | [], [], _, vs, _, hr, _ => by rw [hr.nil_inv]; exact .nil _
  | t :: l, x :: xs, d, vs, hd, hr, hl => by
    simp only [decVs] at hd
    split at hd
    case h_2 => cases hd
    rename_i y hy
    split at hd
    case h_2 => cases hd
    rename_i r hr'
    cases hd
    obtain ⟨v, us, rfl, h1, h2⟩ := hr.cons_inv
    exact .cons (decV_ok hh (hl 0 x rfl) hy v h1) (decVs_ok hh hr' h2 fun i x hx => hl (i + 1) x hx)
  | [], _ :: _, _, _, hd, _, _ => by simp [decVs] at hd
  | _ :: _, [], _, _, hd, _, _ => by simp [decVs] at hd
theorem decVs_o (o : Nat → Option AO) (n n' : Nat) (g g' : List Nat) : ∀ (l : List Ty) (xs : List AV), decVs ⟨o, n, g⟩ l xs = decVs ⟨o, n', g'⟩ l xs
  | [], [] => rfl
  | t :: l, x :: xs => by
    have e : decV ⟨o, n, g⟩ t x = decV ⟨o, n', g'⟩ t x := by simp only [decV, decC_o o n n' g g' t]
    simp only [decVs, e, decVs_o o n n' g g' l xs]
  | [], _ :: _ => rfl
  | _ :: _, [] => rfl
theorem encVs_prel [GTab] {E E' : Env} (hS : ∀ a v, E.S a = some v → E'.S a = some v) : ∀ {l : List Ty} {d : VD l} {vs : List Value}, Rels E (encVs l d) vs → Rels E' (encVs l d) vs
  | [], _, _, h => by rw [h.nil_inv]; exact .nil _
  | t :: l, d, vs, h => by
    obtain ⟨v, us, rfl, h1, h2⟩ := h.cons_inv
    exact .cons (.pure ((encV_prel h1).mono hS)) (encVs_prel hS h2)
theorem encVs_lt [GTab] {n : Nat} : ∀ {l : List Ty} {d : VD l} (i : Nat) (x : AV), (encVs l d)[i]? = some x → Lt n x
  | [], _, i, x, h => by simp [encVs] at h
  | t :: l, d, 0, x, h => by cases h; exact encV_isP _ _ _
  | t :: l, d, i + 1, x, h => encVs_lt (l := l) (d := d.2) i x h

def res1 (P : Program) (σ : St) : ResultVar → Option AV
  | .tmp i => some (look σ.t i)
  | .cell a t => aload P σ.h t (look σ.t a)
def resA (P : Program) (σ : St) : List ResultVar → Option (List AV)
  | [] => some []
  | r :: rs =>
    match res1 P σ r with
    | some x => (match resA P σ rs with
      | some l => some (x :: l)
      | none => none)
    | none => none
def joined : List AV → AV
  | [x] => x
  | l => .tup l
def args0 : Nat → List AV → List (Nat × AV)
  | _, [] => []
  | k, x :: l => (k, x) :: args0 (k + 1) l
theorem look_args0 [GTab] : ∀ (l : List AV) (k i : Nat), look (args0 k l) i = if k ≤ i then (l[i - k]?).getD .junk else .junk
  | [], k, i => by simp [args0, look]
  | x :: l, k, i => by
    simp only [args0, look]
    by_cases h : k = i
    · subst h; simp
    · rw [if_neg h, look_args0 l (k + 1) i]
      by_cases h2 : k + 1 ≤ i
      · rw [if_pos h2, if_pos (by omega)]
        have : i - k = (i - (k + 1)) + 1 := by omega
        rw [this]; simp
      · rw [if_neg h2, if_neg (by omega)]

def resv (tmps : Array Value) : ResultVar → Sem Value
  | .tmp t => pure (tmps.getD t undef)
  | .cell a t => do loadVar t (← asAddr (tmps.getD a undef))
theorem results_eq (fn : Func) (tmps : Array Value) : results fn tmps = (do let vs ← fn.results.mapM (resv tmps); pure (if h : vs.size = 1 then vs[0] else .tuple vs)) := rfl
section
variable {P : Program} {E0 : Env} {n0 : NB} {w0 : World} {nt : Nat} {E : Env} {σ : St} {a : Act} {w : World}
theorem res1_ok [GTab] (h : SRel E0 n0 w0 nt E σ a w) {rv : ResultVar} {x : AV} (hx : res1 P σ rv = some x) : ∃ v, (resv a.tmps rv).run P w = .ok v w ∧ Rel E x v ∧ Lt σ.h.n x := by
  cases rv with
  | tmp t =>
    simp only [res1, Option.some.injEq] at hx
    subst hx
    exact ⟨_, rfl, h.tm t, h.lt t⟩
  | cell ad t =>
    simp only [res1] at hx
    obtain ⟨v, hv, hr, hl⟩ := aload_sound (P := P) (w := w) h.hr (h.tm ad) (h.lt ad) h.blt hx
    refine ⟨v, ?_, hr, hl⟩
    simp only [Instr.loadAt, resv, Sem.run_bind] at hv ⊢
    generalize a.tmps.getD ad undef = q at hv ⊢
    cases q with
    | pointer o =>
      cases o with
      | none => simp [Instr.sureAddr] at hv
      | some ad => simpa [Instr.sureAddr, asAddr] using hv
    | _ => simp [Instr.sureAddr] at hv
theorem resA_ok [GTab] (h : SRel E0 n0 w0 nt E σ a w) : ∀ {rs : List ResultVar} {l : List AV}, resA P σ rs = some l → ∃ vs, (rs.mapM (resv a.tmps)).run P w = .ok vs w ∧ Rels E l vs ∧ ∀ (i : Nat) (x : AV), l[i]? = some x → Lt σ.h.n x
  | [], l, hl => by
    simp only [resA, Option.some.injEq] at hl
    subst hl
    exact ⟨[], by simp, .nil E, fun i x hx => by cases hx⟩
  | r :: rs, l, hl => by
    simp only [resA] at hl
    split at hl
    case h_2 => cases hl
    rename_i x hx
    split at hl
    case h_2 => cases hl
    rename_i l' hl'
    cases hl
    obtain ⟨v, hv, hr, hlt⟩ := res1_ok h hx
    obtain ⟨vs, hvs, hrs, hlts⟩ := resA_ok h hl'
    refine ⟨v :: vs, ?_, .cons hr hrs, fun i y hy => ?_⟩
    · rw [List.mapM_cons, Sem.run_bind, hv]
      simp only [Result.andThen_ok, Sem.run_bind]
      rw [hvs]
      rfl
    · cases i with
      | zero => cases hy; exact hlt
      | succ i => exact hlts i y (by simpa using hy)
theorem joined_ok [GTab] {fn : Func} {l l' : List AV} {vs : List Value} {E' : Env} {n : Nat} (hm : (fn.results.toList.mapM (resv a.tmps)).run P w = .ok vs w) (hr : Rels E' l vs) (hl : ∀ (i : Nat) (x : AV), l[i]? = some x → Lt n x) :
    ∃ v, (results fn a.tmps).run P w = .ok v w ∧ Rel E' (joined l) v ∧ Lt n (joined l) := by
  have hm2 : (fn.results.mapM (resv a.tmps)).run P w = .ok vs.toArray w := by
    rw [Array.mapM_eq_mapM_toList, Sem.run_map, hm]
    rfl
  refine ⟨if h : vs.toArray.size = 1 then vs.toArray[0] else .tuple vs.toArray, ?_, ?_⟩
  · rw [results_eq, Sem.run_bind, hm2]
    rfl
  · match l, hr, hl with
    | [x], hr, hl =>
      obtain ⟨v, us, rfl, h1, h2⟩ := hr.cons_inv
      rw [h2.nil_inv]
      exact ⟨h1, hl 0 x rfl⟩
    | [], hr, hl =>
      rw [hr.nil_inv]
      exact ⟨.tup rfl (fun i x v hx => by cases hx), .tup hl⟩
    | x :: y :: l, hr, hl =>
      have hne : ¬ vs.toArray.size = 1 := by have := hr.1; simp at this ⊢; omega
      rw [dif_neg hne]
      exact ⟨.tup hr.1 hr.2, .tup hl⟩

/-- A frame's first state. -/
theorem start [GTab] {h : AH} {args : List AV} {vs : List Value} {fn : Func} {n0 : NB} (hh : HRel E h w) (hok : h.ok) (hr : Rels E args vs) (hl : ∀ (i : Nat) (x : AV), args[i]? = some x → Lt h.n x) (hnt : args.length ≤ fn.ntmps) (hn : n0.n ≤ h.n)
    (hB : ∀ id b, id < h.n → (E.obj id).blk = some b → n0.B b) :
    SRel E n0 w fn.ntmps E { t := args0 0 args, h := h } { tmps := vs.toArray ++ Array.replicate (fn.ntmps - vs.toArray.size) undef, defers := [] } w :=
  { tm := fun i => by
      simp only [look_args0, Nat.zero_le, if_true, Nat.sub_zero]
      cases hi : args[i]? with
      | none => exact .pure (.junk _)
      | some x =>
        obtain ⟨v, hv, hrel⟩ := hr.getElem hi
        have hlt : i < vs.length := (List.getElem?_eq_some_iff.1 hv).1
        have e : (vs.toArray ++ Array.replicate (fn.ntmps - vs.toArray.size) undef).getD i undef = v := by
          rw [Array.getD_eq_getD_getElem?, Array.getElem?_append_left (by simpa using hlt)]
          simp [hv]
        rw [e]
        exact hrel
    lt := fun i => by
      simp only [look_args0, Nat.zero_le, if_true, Nat.sub_zero]
      cases hi : args[i]? with
      | none => exact .junk
      | some x => exact hl i x hi
    blt := hok
    sz := by have := hr.1; simp; omega
    df := rfl
    hr := hh
    ex := Ext.refl ..
    kp := KeepB.refl ..
    fr := fun id b h1 h2 => .inr (hB id b h1 h2)
    gr := GrB.refl E _ w
    nn := hn }
end

/-! ### Plain data out of plain data -/
/-- Owned arrays that are handed back as plain data. -/
def frzs : List ResultVar → List Pre
  | [] => []
  | .tmp i :: rs => .frz i :: frzs rs
  | .cell _ _ :: rs => frzs rs
def retK (P : Program) (res : List ResultVar) (rs : List Ty) (σ : St) : Option (VD rs) :=
  prep (frzs res) σ fun σ => match resA P σ res with
    | some l => decVs σ.h rs l
    | none => none
/-- What a function makes of plain data. -/
def runF [GTab] (T : Tab) (c : Code) (ps rs : List Ty) (res : List ResultVar) (x : VD ps) : Option (VD rs) :=
  encVsK ps x fun args => exec T c [] (VD rs) { t := args0 0 args, h := ⟨fun _ => none, 0, T.gs⟩ } (retK T.C.P res rs) (fun _ _ => none) (retK T.C.P res rs)
/-- What of a caller's heap is kept, when a function of plain data has run. -/
theorem frame [GTab] {E E' : Env} {h : AH} {w w' : World} {nt : Nat} {σ : St} {a : Act} (hh : HRel E h w) (hok : h.ok) (h' : SRel E nb0 w nt E' σ a w') : Step E h w { S := E'.S, obj := E.obj } h w' := by
  have hext : Ext E h.n { S := E'.S, obj := E.obj } := ⟨h'.ex.S, fun _ _ _ h => h, fun _ _ _ _ _ _ h => h, fun _ _ _ h => h, fun _ _ _ _ _ _ h => h⟩
  have hgr : ∀ a v, E'.S a = some v → E.S a = some v ∨ w.heap.size ≤ a.block := fun a v ha => by
    rcases h'.gr a v ha with h1 | h1 | h1
    · exact .inl h1
    · exact .inr h1
    · exact h1.elim
  refine ⟨hext, ⟨h'.hr.cells, fun id x hid ho => ?_, fun g hg j x hx => ?_, hh.inj, fun i b hi hb => Nat.lt_of_lt_of_le (hh.lt i b hi hb) h'.kp.size⟩, hok, Nat.le_refl _,
    ⟨h'.kp.os, h'.kp.tape, h'.kp.output, h'.kp.size, fun k hk _ => h'.kp.block k hk fun hB => hB⟩, fun id b hid hb => .inr ⟨id, hid, hb⟩, fun a v ha => ?_⟩
  · refine (hh.obj id x hid ho).keep hext (AH.ok_lt hok hid ho) fun b hb => ?_
    have hlt := hh.lt id b hid hb
    refine ⟨h'.kp.block b hlt fun hB => hB, fun a ha => ?_⟩
    show E'.S a = E.S a
    cases hs : E.S a with
    | some v => exact h'.ex.S a v hs
    | none =>
      cases hs' : E'.S a with
      | none => rfl
      | some v =>
        rcases hgr a v hs' with h1 | h1
        · rw [hs] at h1; cases h1
        · omega
  · obtain ⟨v, h1, h2⟩ := hh.glo g hg j x hx
    exact ⟨v, h'.ex.S _ _ h1, h2.mono h'.ex.S⟩
  · rcases hgr a v ha with h1 | h1
    · exact .inl h1
    · exact .inr (.inl h1)

structure Ent where
  f : FuncId
  ps : List Ty
  rs : List Ty
  run : VD ps → Option (VD rs)
/-- A function's model that is right. -/
def EntOk [GTab] (P : Program) (gs : List Nat) (e : Ent) : Prop :=
  ∀ x y, e.run x = some y → ∀ h : AH, subG gs h.g = true → ACall P e.f h (encVs e.ps x) (fun v h2 => v = joined (encVs e.rs y) ∧ h2 = h)
theorem encVs_length [GTab] : ∀ (l : List Ty) (d : VD l), (encVs l d).length = l.length
  | [], _ => rfl
  | _ :: l, d => by simp [encVs, encVs_length l]
theorem ent_ok [GTab] {T : Tab} {f : FuncId} {fn : Func} {c : Code} {ps rs : List Ty} (hn0 : T.n0 = 0) (hf : T.C.P.funcs[f]? = some fn) (hb : fn.body = some c) (hnt : T.nt = fn.ntmps) (hps : ps.length ≤ fn.ntmps)
    (hcf : ∀ (vs : Array Value) (w : World), (callFunc f vs).run T.C.P w = .ok (.enter f vs) w)
    (hcall : CallOk T.C.P T.call) (hro : RokOk T.C.P T.ro) (hloop : ∀ π A b, T.loop π = some A → subAt c π = some (.loop b) → LoopOk T.C.P T.nt T.gs T.n0 A b) : EntOk T.C.P T.gs ⟨f, ps, rs, runF T c ps rs fn.results.toList⟩ := by
  intro x y hrun h hgl
  refine ⟨hcf, fun E w vs hh hok hr hl => ?_⟩
  refine calls_of_wp hf hb ?_
  simp only at x y hrun hr hl ⊢
  simp only [runF, encVsK_eq] at hrun
  have hg : Glo E T.gs := fun g hg => hh.glo g (subG_ok hgl g hg)
  have hh0 : HRel E ⟨fun _ => none, 0, T.gs⟩ w := ⟨hh.cells, fun id x hid => absurd hid (Nat.not_lt_zero _), hg, fun i j b hi => absurd hi (Nat.not_lt_zero _), fun i b hi => absurd hi (Nat.not_lt_zero _)⟩
  have hs := start (fn := fn) (n0 := nb0) hh0 (fun id l i x hid => absurd hid (Nat.not_lt_zero _)) hr (fun i x hx => encVs_lt i x hx) (by rw [encVs_length]; exact hps) (Nat.zero_le _) (fun id b hid => absurd hid (Nat.not_lt_zero _))
  obtain ⟨m, τ, hm, hgo⟩ := exec_ok hcall hro hloop c [] _ _ _ _ _ _ rfl hrun
  refine wp_mono (hgo E nb0 w hn0.symm hg E _ w (hnt.symm ▸ hs)) fun e a w' hp => ?_
  obtain ⟨rfl, E', h'⟩ := hp
  have fin : retK T.C.P fn.results.toList rs τ = some y → a.defers = [] ∧ ∃ v, (results fn a.tmps).run T.C.P w' = .ok v w' ∧ ∃ v' r h' E', Ending.returned v = .returned v' ∧ (r = joined (encVs rs y) ∧ h' = h) ∧ Step E h w E' h' w' ∧ Rel E' r v' ∧ Lt h'.n r := fun hm => by
    unfold retK at hm
    obtain ⟨E', τ, h', _, hm⟩ := prep_ok h' hm
    split at hm
    case h_2 => cases hm
    rename_i l hl'
    obtain ⟨us, h1, h2, h3⟩ := resA_ok (P := T.C.P) h' hl'
    have h4 := decVs_ok h'.hr hm h2 h3
    obtain ⟨v, h5, h6, h7⟩ := joined_ok (fn := fn) (l' := []) (E' := { S := E'.S, obj := E.obj }) (n := h.n) h1 (encVs_prel (E := E') (E' := { S := E'.S, obj := E.obj }) (fun _ _ h => h) h4) (fun i x hx => encVs_lt i x hx)
    exact ⟨h'.df, v, h5, v, _, h, _, rfl, ⟨rfl, rfl⟩, frame hh hok h', h6, h7⟩
  cases m with
  | norm => exact fin hm
  | exit i => cases hm
  | ret => exact fin hm

def entK (e : Ent) (R : Type) (h : AH) (args : List AV) (K : AV → Option R) : Option R :=
  match decVs h e.ps args with
  | some x => bindI (e.run x) fun y => encVsK e.rs y fun l => K (joined l)
  | none => none
def findE : List Ent → FuncId → Option Ent
  | [], _ => none
  | e :: l, f => if Nat.beq e.f f then some e else findE l f
theorem findE_ok [GTab] : ∀ {l : List Ent} {f : FuncId} {e : Ent}, findE l f = some e → e ∈ l ∧ e.f = f
  | [], _, _, h => by cases h
  | e :: l, f, e', h => by
    unfold findE at h
    split at h
    · rename_i hb
      cases h
      exact ⟨List.mem_cons_self, Nat.eq_of_beq_eq_true hb⟩
    · obtain ⟨h1, h2⟩ := findE_ok h
      exact ⟨List.mem_cons_of_mem _ h1, h2⟩
def roT (gs : List Nat) (l : List Ent) : Rok := fun R f h args K =>
  match findE l f with
  | some e => if subG gs h.g then entK e R h args K else none
  | none => none
theorem roT_ok [GTab] {P : Program} {gs : List Nat} {l : List Ent} (hl : ∀ e ∈ l, EntOk P gs e) : RokOk P (roT gs l) := by
  intro R f h args K r hk
  unfold roT at hk
  split at hk
  case h_2 => cases hk
  rename_i e he
  obtain ⟨hm, rfl⟩ := findE_ok he
  split at hk
  case isFalse => cases hk
  rename_i hgs
  unfold entK at hk
  split at hk
  case h_2 => cases hk
  rename_i x hx
  obtain ⟨y, hy, hk⟩ := bindI_inv hk
  rw [encVsK_eq] at hk
  refine ⟨_, fun h' hu => ?_, hk⟩
  obtain ⟨h1, h2⟩ := hl e hm x y hy h' (by rw [← hu.g]; exact hgs)
  refine ⟨h1, fun E w vs hh hok hr hlt => h2 E w vs hh hok ?_ (fun i x hx => encVs_lt i x hx)⟩
  have hs := hh.sub hok hu.up hu.g
  have hx' : decVs ⟨h.o, h'.n, h.g⟩ e.ps args = some x := by rw [← hx]; exact decVs_o _ _ _ _ _ _ _
  exact decVs_ok hs.1 hx' hr hlt

/-! ### Functions that run in the caller's heap -/
structure Inl where
  f : FuncId
  c : Code
  res : List ResultVar
  T : Tab
def inlK [GTab] (i : Inl) (R : Type) (h : AH) (args : List AV) (K : AH → AV → Option R) : Option R :=
  if Nat.ble args.length i.T.nt && subG i.T.gs h.g then
    exec { i.T with n0 := h.n } i.c [] R { t := args0 0 args, h := h } (fun σ => match resA i.T.C.P σ i.res with | some l => K σ.h (joined l) | none => none) (fun _ _ => none) (fun σ => match resA i.T.C.P σ i.res with | some l => K σ.h (joined l) | none => none)
  else none
/-- A function that is right to run in place. -/
structure InlOk [GTab] (P : Program) (i : Inl) : Prop where
  prog : i.T.C.P = P
  fn : ∃ fn, P.funcs[i.f]? = some fn ∧ fn.body = some i.c ∧ i.T.nt = fn.ntmps ∧ i.res = fn.results.toList
  cf : ∀ (vs : Array Value) (w : World), (callFunc i.f vs).run P w = .ok (.enter i.f vs) w
  call : CallOk P i.T.call
  ro : RokOk P i.T.ro
  loop : ∀ π, i.T.loop π = none
theorem inlK_ok [GTab] {P : Program} {i : Inl} (hi : InlOk P i) {R : Type} {h : AH} {args : List AV} {K : AH → AV → Option R} {r : R} (hk : inlK i R h args K = some r) : ∃ h' y, ACall P i.f h args (fun v h2 => v = y ∧ h2 = h') ∧ K h' y = some r := by
  unfold inlK at hk
  split at hk
  case isFalse => cases hk
  rename_i hlen
  rw [Bool.and_eq_true] at hlen
  obtain ⟨hlen, hgs⟩ := hlen
  have hlen := Nat.le_of_ble_eq_true hlen
  obtain ⟨fn, hf, hb, hnt, hres⟩ := hi.fn
  have hprog := hi.prog
  obtain ⟨m, τ, hm, hgo⟩ := exec_ok (T := { i.T with n0 := h.n }) (root := i.c) (by simpa only [hprog] using hi.call) (by simpa only [hprog] using hi.ro) (fun π A b hA => by have := hi.loop π; rw [show ({ i.T with n0 := h.n } : Tab).loop π = i.T.loop π from rfl] at hA; rw [this] at hA; cases hA) i.c [] _ _ _ _ _ _ rfl hk
  have done : (match resA i.T.C.P τ i.res with | some l => K τ.h (joined l) | none => none) = some r → (∀ e, e = m.x → e = .normal ∨ e = .ret) → ∃ h' y, ACall P i.f h args (fun v h2 => v = y ∧ h2 = h') ∧ K h' y = some r := fun hm he => by
    split at hm
    case h_2 => cases hm
    rename_i l hl'
    refine ⟨_, _, ⟨hi.cf, fun E w vs hh hok hr hl => ?_⟩, hm⟩
    refine calls_of_wp hf hb ?_
    have hs := start (fn := fn) (n0 := nbOf E h.n) hh hok hr hl (by rw [← hnt]; exact hlen) (Nat.le_refl _) (fun id b h1 h2 => ⟨id, h1, h2⟩)
    have hg : Glo E i.T.gs := fun g hg => hh.glo g (subG_ok hgs g hg)
    have hgo' := hgo E (nbOf E h.n) w rfl hg E _ w (by simpa only [hnt] using hs)
    simp only [hprog] at hgo'
    refine wp_mono hgo' fun e a w' hp => ?_
    obtain ⟨rfl, E', h'⟩ := hp
    rw [hres, hprog] at hl'
    obtain ⟨us, h1, h2, h3⟩ := resA_ok (P := P) h' hl'
    obtain ⟨v, h5, h6, h7⟩ := joined_ok (fn := fn) (l' := []) h1 h2 h3
    have fin : a.defers = [] ∧ ∃ v, (results fn a.tmps).run P w' = .ok v w' ∧ ∃ v' r h' E', Ending.returned v = .returned v' ∧ (r = joined l ∧ h' = τ.h) ∧ Step E h w E' h' w' ∧ Rel E' r v' ∧ Lt h'.n r :=
      ⟨h'.df, v, h5, v, _, _, E', rfl, ⟨rfl, rfl⟩, ⟨h'.ex, h'.hr, h'.blt, h'.nn, ⟨h'.kp.os, h'.kp.tape, h'.kp.output, h'.kp.size, fun k hk hne => h'.kp.block k hk fun ⟨id, h1, h2⟩ => hne id h1 h2⟩, h'.fr, h'.gr⟩, h6, h7⟩
    rcases he _ rfl with he | he <;> (rw [he]; exact fin)
  cases m with
  | norm => exact done hm fun e he => .inl he
  | exit i => cases hm
  | ret => exact done hm fun e he => .inr he
def findI : List Inl → FuncId → Option Inl
  | [], _ => none
  | e :: l, f => if Nat.beq e.f f then some e else findI l f
theorem findI_ok [GTab] : ∀ {l : List Inl} {f : FuncId} {e : Inl}, findI l f = some e → e ∈ l ∧ e.f = f
  | [], _, _, h => by cases h
  | e :: l, f, e', h => by
    unfold findI at h
    split at h
    · rename_i hb
      cases h
      exact ⟨List.mem_cons_self, Nat.eq_of_beq_eq_true hb⟩
    · obtain ⟨h1, h2⟩ := findI_ok h
      exact ⟨List.mem_cons_of_mem _ h1, h2⟩
end Go.Up

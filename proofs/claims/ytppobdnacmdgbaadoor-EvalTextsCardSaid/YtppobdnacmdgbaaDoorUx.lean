/- Up, part x: tables of loops; functions with their loops. -/
import Derived.Test.YtppobdnacmdgbaaDoorUw2
set_option linter.unusedVariables false
set_option linter.unusedSimpArgs false
namespace Go.Up
open Go.RowKit
def bodyOf (f : Func) : Code := f.body.getD .skip
def findT : List (Nat × Ty) → Nat → Option Ty
  | [], _ => none
  | (i, t) :: l, n => if Nat.beq i n then some t else findT l n
def eqL : List Nat → List Nat → Bool
  | [], [] => true
  | a :: l, b :: m => Nat.beq a b && eqL l m
  | _, _ => false
theorem eqL_ok [GTab] : ∀ {l m : List Nat}, eqL l m = true → l = m
  | [], [], _ => rfl
  | a :: l, b :: m, h => by
    simp only [eqL, Bool.and_eq_true] at h
    rw [Nat.eq_of_beq_eq_true h.1, eqL_ok h.2]
  | [], _ :: _, h => by cases h
  | _ :: _, [], h => by cases h
def findL : List (List Nat × LoopA) → List Nat → Option LoopA
  | [], _ => none
  | (p, A) :: l, π => if eqL p π then some A else findL l π
theorem findL_ok [GTab] : ∀ {l : List (List Nat × LoopA)} {π : List Nat} {A : LoopA}, findL l π = some A → (π, A) ∈ l
  | [], _, _, h => by cases h
  | (p, B) :: l, π, A, h => by
    unfold findL at h
    split at h
    · rename_i he
      cases h
      rw [eqL_ok he]
      exact List.mem_cons_self
    · exact List.mem_cons_of_mem _ (findL_ok h)
def bigOf (l : List Ent) (f : FuncId) : Bool := match findE l f with
  | some _ => false
  | none => true
def tabOf [GTab] (C : Cfg) (p nt : Nat) (ents : List Ent) (eos : List EntO) (inls : List Inl) (loops : List (List Nat × LoopA)) : Tab := ⟨C, callT C.as C.gs eos (roT C.gs ents) inls, roT C.gs ents, C.gs, nt, p, findL loops, fun _ => none, bigOf ents⟩

def EOsOk [GTab] (P : Program) (gs : List Nat) : List EntO → Prop
  | [] => True
  | e :: l => EntOOk P gs e ∧ EOsOk P gs l
theorem EOsOk.all [GTab] {P : Program} {gs : List Nat} : ∀ {l : List EntO}, EOsOk P gs l → ∀ e ∈ l, EntOOk P gs e
  | [], _, e, h => by cases h
  | _ :: l, hl, e, h => by
    rcases List.mem_cons.1 h with rfl | h
    · exact hl.1
    · exact EOsOk.all hl.2 e h
def EntsOk [GTab] (P : Program) (gs : List Nat) : List Ent → Prop
  | [] => True
  | e :: l => EntOk P gs e ∧ EntsOk P gs l
def InlsOk [GTab] (P : Program) : List Inl → Prop
  | [] => True
  | e :: l => InlOk P e ∧ InlsOk P l
theorem EntsOk.all [GTab] {P : Program} {gs : List Nat} : ∀ {l : List Ent}, EntsOk P gs l → ∀ e ∈ l, EntOk P gs e
  | [], _, e, h => by cases h
  | _ :: l, hl, e, h => by
    rcases List.mem_cons.1 h with rfl | h
    · exact hl.1
    · exact EntsOk.all hl.2 e h
theorem InlsOk.all [GTab] {P : Program} : ∀ {l : List Inl}, InlsOk P l → ∀ e ∈ l, InlOk P e
  | [], _, e, h => by cases h
  | _ :: l, hl, e, h => by
    rcases List.mem_cons.1 h with rfl | h
    · exact hl.1
    · exact InlsOk.all hl.2 e h
structure TabOk [GTab] (C : Cfg) (p nt : Nat) (ents : List Ent) (eos : List EntO) (inls : List Inl) (loops : List (List Nat × LoopA)) (root : Code) : Prop where
  as : ∀ A, C.as = some A → AsOk C.P A
  ents : EntsOk C.P C.gs ents
  eos : EOsOk C.P C.gs eos
  inls : InlsOk C.P inls
  loops : ∀ q ∈ loops, ∀ b, subAt root q.1 = some (.loop b) → LoopOk C.P nt C.gs p q.2 b
section
variable {C : Cfg} {p nt : Nat} {ents : List Ent} {eos : List EntO} {inls : List Inl} {loops : List (List Nat × LoopA)} {root : Code}
theorem TabOk.nil [GTab] (h0 : ∀ A, C.as = some A → AsOk C.P A) (h1 : EntsOk C.P C.gs ents) (h3 : EOsOk C.P C.gs eos) (h2 : InlsOk C.P inls) : TabOk C p nt ents eos inls [] root := ⟨h0, h1, h3, h2, fun p hp => by cases hp⟩
theorem TabOk.call [GTab] (h : TabOk C p nt ents eos inls loops root) : CallOk C.P (callT C.as C.gs eos (roT C.gs ents) inls) := callT_ok h.as h.eos.all (roT_ok h.ents.all) h.inls.all
theorem TabOk.ro [GTab] (h : TabOk C p nt ents eos inls loops root) : RokOk C.P (roT C.gs ents) := roT_ok h.ents.all
theorem TabOk.loop [GTab] (h : TabOk C p nt ents eos inls loops root) : ∀ π A b, (tabOf C p nt ents eos inls loops).loop π = some A → subAt root π = some (.loop b) → LoopOk C.P nt C.gs p A b := fun π A b hA hb => h.loops (π, A) (findL_ok hA) b hb
/-- One more loop. -/
theorem TabOk.snoc [GTab] (h : TabOk C p nt ents eos inls loops root) {π : List Nat} {b : Code} {inn out ret : Sh} {xid n : Nat} {step : inn.D → (inn.D → Option (Ex out.D ret.D)) → Option (Ex out.D ret.D)}
    (hb : subAt root π = some (.loop b)) (hs : ∀ x k, stepL (tabOf C p nt ents eos inls loops) inn out ret xid b π x k = step x k) : TabOk C p nt ents eos inls (loops ++ [(π, ⟨inn, out, ret, xid, loopN step n⟩)]) root := by
  refine ⟨h.as, h.ents, h.eos, h.inls, fun q hp b' hb' => ?_⟩
  rcases List.mem_append.1 hp with hp | hp
  · exact h.loops q hp b' hb'
  · have hp : q = _ := List.mem_singleton.1 hp
    subst hp
    rw [hb] at hb'
    cases hb'
    have e : step = stepL (tabOf C p nt ents eos inls loops) inn out ret xid b π := by
      funext x k
      exact (hs x k).symm
    subst e
    exact loop_ok (T := tabOf C p nt ents eos inls loops) h.call h.ro h.loop hb
/-- A function that runs in its caller's heap. -/
theorem TabOk.inl [GTab] {fn : Func} {f : FuncId} (h : TabOk C 0 fn.ntmps ents eos inls [] (bodyOf fn)) (hf : C.P.funcs[f]? = some fn) (hb : fn.body = some (bodyOf fn)) (hcf : ∀ (vs : Array Value) (w : World), (callFunc f vs).run C.P w = .ok (.enter f vs) w) :
    InlOk C.P ⟨f, bodyOf fn, fn.results.toList, tabOf C 0 fn.ntmps ents eos inls []⟩ :=
  { prog := rfl, fn := ⟨fn, hf, hb, rfl, rfl⟩, cf := hcf, call := h.call, ro := h.ro, loop := fun π => rfl }
/-- A function. -/
theorem TabOk.ent [GTab] {fn : Func} {f : FuncId} {ps rs : List Ty} {run : VD ps → Option (VD rs)} (h : TabOk C 0 fn.ntmps ents eos inls loops (bodyOf fn)) (hf : C.P.funcs[f]? = some fn) (hb : fn.body = some (bodyOf fn)) (hps : Nat.ble ps.length fn.ntmps = true)
    (hcf : ∀ (vs : Array Value) (w : World), (callFunc f vs).run C.P w = .ok (.enter f vs) w) (hrun : ∀ x, runF (tabOf C 0 fn.ntmps ents eos inls loops) (bodyOf fn) ps rs fn.results.toList x = run x) : EntOk C.P C.gs ⟨f, ps, rs, run⟩ := by
  have e : run = runF (tabOf C 0 fn.ntmps ents eos inls loops) (bodyOf fn) ps rs fn.results.toList := by
    funext x
    exact (hrun x).symm
  subst e
  exact ent_ok (T := tabOf C 0 fn.ntmps ents eos inls loops) rfl hf hb rfl (Nat.le_of_ble_eq_true hps) hcf h.call h.ro h.loop
/-- A function that is handed objects. -/
theorem TabOk.entO [GTab] {fn : Func} {f : FuncId} {bs : List B} {ios : List O} {rs : List Ty} {os : List O} {pre ipre : List Pre} {run : LD bs × OL ios → Option (VD rs × OL os)} (h : TabOk C p fn.ntmps ents eos inls loops (bodyOf fn)) (hf : C.P.funcs[f]? = some fn) (hb : fn.body = some (bodyOf fn)) (hps : Nat.ble bs.length fn.ntmps = true) (hp : Nat.ble p ios.length = true)
    (hcf : ∀ (vs : Array Value) (w : World), (callFunc f vs).run C.P w = .ok (.enter f vs) w) (hrun : ∀ x, runO (tabOf C p fn.ntmps ents eos inls loops) (bodyOf fn) bs ios rs os pre fn.results.toList x = run x) : EntOOk C.P C.gs ⟨f, p, bs, ios, rs, os, ipre, run⟩ := by
  have e : run = runO (tabOf C p fn.ntmps ents eos inls loops) (bodyOf fn) bs ios rs os pre fn.results.toList := by
    funext x
    exact (hrun x).symm
  subst e
  exact entO_ok (T := tabOf C p fn.ntmps ents eos inls loops) (Nat.le_of_ble_eq_true hp) hf hb rfl (Nat.le_of_ble_eq_true hps) hcf h.call h.ro h.loop
end
end Go.Up

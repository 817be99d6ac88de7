/- Up, part v: code, told onwards; loops. -/
import Derived.Test.YtppobdnacmdgbaaDoorUu
import Derived.LoopN
import Derived.Tactics
set_option linter.unusedVariables false
set_option linter.unusedSimpArgs false
namespace Go.Up
open Go.RowKit

/-- How a part of a body ends: behind it, or the function returns. -/
inductive Ex (X Y : Type) where
  | out (x : X)
  | ret (y : Y)
def bindX {X Y R : Type} (o : Option (Ex X Y)) (f : X → Option R) (g : Y → Option R) : Option R :=
  match o with
  | some (.out x) => f x
  | some (.ret y) => g y
  | none => none
structure LoopA where
  inn : Sh
  out : Sh
  ret : Sh
  xid : Nat
  run : inn.D → Option (Ex out.D ret.D)
structure CutA where
  out : Sh
  ret : Sh
/-- What is known where code is run: calls, loops, cuts. -/
structure Tab where
  C : Cfg
  call : Callk
  ro : Rok
  gs : List Nat
  nt : Nat
  n0 : Nat
  loop : List Nat → Option LoopA
  cut : List Nat → Option CutA
  big : FuncId → Bool

def child : Code → Nat → Option Code
  | .seq a _, 0 => some a
  | .seq _ b, _ => some b
  | .cond _ a _, 0 => some a
  | .cond _ _ b, _ => some b
  | .block _ b, _ => some b
  | .loop b, _ => some b
  | _, _ => none
def subAt (c : Code) : List Nat → Option Code
  | [] => some c
  | d :: π => match subAt c π with
    | some x => child x d
    | none => none

def tested (c : Operand) (b : Bool) (nt : Nat) (σ : St) : St :=
  match c with
  | .tmp t => bif Nat.blt t nt then σ.put (some t) (.p (.bool b)) else σ
  | _ => σ
def testedK {R : Type} (c : Operand) (b : Bool) (nt : Nat) (σ : St) (K : St → Option R) : Option R :=
  match c with
  | .tmp t => bif Nat.blt t nt then putF (some t) (.p (.bool b)) σ K else K σ
  | _ => K σ
theorem testedK_eq [GTab] {R : Type} (c : Operand) (b : Bool) (nt : Nat) (σ : St) (K : St → Option R) : testedK c b nt σ K = K (tested c b nt σ) := by
  unfold testedK tested
  split
  · cases Nat.blt _ nt <;> simp only [cond_true, cond_false, putF_eq]
  · rfl
def putX {R X Y : Type} (o : Option X) (K : X → Option (Ex R Y)) : Option (Ex R Y) := match o with
  | some x => K x
  | none => none

/-- How many operations stand ahead of the first that turns the heap. -/
def headN (big : FuncId → Bool) : List Oper → Nat
  | [] => 0
  | o :: l =>
    match o.op with
    | .box _ _ => 0
    | .alloc _ => 0
    | .store _ _ _ => 0
    | .makeSlice _ _ _ => 0
    | .makeMap _ _ => 0
    | .mapUpdate _ _ _ _ => 0
    | .call c => (match c.callee with
      | .builtin .append => 0
      | .value (.func f) => bif big f then 0 else headN big l + 1
      | _ => headN big l + 1)
    | _ => headN big l + 1
def plainOp (o : Oper) : Bool :=
  match o.op with
  | .buildSlice _ _ _ => false
  | .call c => (match c.callee with
    | .value _ => false
    | _ => true)
  | _ => true
/-- How a region with one store, or an append to an array and a store, is told; 2: otherwise. -/
def oldR [GTab] (big : FuncId → Bool) (ops : Array Oper) (σ : St) : Nat :=
  match splitA ops.toList with
  | some q => (match appArgs q.2.1.op with
    | some a => (match arrOf (ev σ (rootT q.1 4 a.2.1)) with
      | some _ => 0
      | none => 2)
    | none => 2)
  | none => (match turnsAt big 0 ops.toList, splitS ops.toList with
    | [_], some _ => if ops.toList.all plainOp then 1 else 2
    | _, _ => 2)
def exec [GTab] (T : Tab) : Code → List Nat → (R : Type) → St → (St → Option R) → (Nat → St → Option R) → (St → Option R) → Option R
  | .skip, _, _, σ, kn, _, _ => kn σ
  | .label _, _, _, σ, kn, _, _ => kn σ
  | .region _ ops draw, _, R, σ, kn, _, _ =>
    match draw with
    | true =>
      if T.C.P.follows .mixedOrders then
        match Nat.beq (headN T.big ops.toList) ops.size with
        | true => if Region.lexB .any ops then nopsK T.C T.ro T.nt ops (ops.size + ops.size + 2) R [] ops.toList σ kn else none
        | false =>
          match Region.lexTailB .any ops (headN T.big ops.toList) with
          | true => nopsK T.C T.ro T.nt ops (ops.size + ops.size + 2) R [] (ops.toList.take (headN T.big ops.toList)) σ (fun σ => opsK T.C T.call T.ro T.nt ops (ops.size + ops.size + 2) (ops.toList.drop (headN T.big ops.toList)) σ kn)
          | false =>
            match isCall ops[headN T.big ops.toList]? && lexMidB .any ops (headN T.big ops.toList) with
            | true => midRK T.C T.call T.ro T.nt ops (headN T.big ops.toList) σ kn
            | false => if Region.lexB .any ops then (match oldR T.big ops σ with
              | 0 => wrRK T.C T.nt ops σ kn
              | 1 => stoRK T.C.P T.nt ops σ kn
              | _ => if plB .any ops (plOf .any ops (turnsAt T.big 0 ops.toList)) then genRK T.C T.call T.ro T.nt ops (plOf .any ops (turnsAt T.big 0 ops.toList)) σ kn else none) else none
      else none
    | false => opsK T.C T.call T.ro T.nt ops (ops.size + ops.size + 2) ops.toList σ kn
  | .seq a b, π, R, σ, kn, kx, kr =>
    match T.cut π with
    | none => exec T a (0 :: π) R σ (fun σ' => exec T b (1 :: π) R σ' kn kx kr) kx kr
    | some A =>
      bindX (exec T a (0 :: π) (Ex A.out.D A.ret.D) σ (fun σ' => match norm T.n0 A.out σ' with | some x => some (.out x) | none => none) (fun _ _ => none) (fun σ' => match norm T.n0 A.ret σ' with | some y => some (.ret y) | none => none))
        (fun x => encSK A.out T.gs x fun σ' => exec T b (1 :: π) R σ' kn kx kr) (fun y => encSK A.ret T.gs y kr)
  | .cond c a b, π, R, σ, kn, kx, kr =>
    match asBool? (ev σ c) with
    | some v => bif v then testedK c true T.nt σ (fun σ => exec T a (0 :: π) R σ kn kx kr) else testedK c false T.nt σ (fun σ => exec T b (1 :: π) R σ kn kx kr)
    | none => none
  | .block i b, π, R, σ, kn, kx, kr => exec T b (0 :: π) R σ kn (fun j σ' => if Nat.beq j i then kn σ' else kx j σ') kr
  | .loop _, π, _, σ, _, kx, kr =>
    match T.loop π with
    | some A =>
      match norm T.n0 A.inn σ with
      | some x => bindX (A.run x) (fun y => encSK A.out T.gs y (kx A.xid)) (fun y => encSK A.ret T.gs y kr)
      | none => none
    | none => none
  | .exit i, _, _, σ, _, kx, _ => kx i σ
  | .ret, _, _, σ, _, _, kr => kr σ
  | _, _, _, _, _, _, _ => none

theorem bindX_inv {X Y R : Type} {o : Option (Ex X Y)} {f : X → Option R} {g : Y → Option R} {r : R} (h : bindX o f g = some r) : (∃ x, o = some (.out x) ∧ f x = some r) ∨ (∃ y, o = some (.ret y) ∧ g y = some r) := by
  unfold bindX at h
  split at h
  · exact .inl ⟨_, rfl, h⟩
  · exact .inr ⟨_, rfl, h⟩
  · cases h

section
variable {E0 : Env} {n0 : NB} {w0 : World} {nt : Nat}
/-- How a loop ends. -/
def LQ [GTab] (E0 : Env) (n0 : NB) (w0 : World) (nt : Nat) (gs : List Nat) (out ret : Sh) (xid : Nat) : Ex out.D ret.D → Exit → Act → World → Prop
  | .out y, .exit i, a, w => i = xid ∧ ∃ E, SRel E0 n0 w0 nt E (encS out gs y) a w
  | .ret y, .ret, a, w => ∃ E, SRel E0 n0 w0 nt E (encS ret gs y) a w
  | _, _, _, _ => False
/-- A loop's function that is right. -/
def LoopOk [GTab] (P : Program) (nt : Nat) (gs : List Nat) (p : Nat) (A : LoopA) (b : Code) : Prop :=
  ∀ (E0 : Env) (n0 : NB) (w0 : World) (E : Env) (x : A.inn.D) (e : Ex A.out.D A.ret.D) (a : Act) (w : World), n0.n = p → Glo E0 gs → SRel E0 n0 w0 nt E (encS A.inn gs x) a w → A.run x = some e →
    (Code.loop b).wp P (LQ E0 n0 w0 nt gs A.out A.ret A.xid e) a w

theorem tested_ok [GTab] {E : Env} {σ : St} {a : Act} {w : World} {c : Operand} {b : Bool} (h : SRel E0 n0 w0 nt E σ a w) (hc : a.eval c = .bool b) : SRel E0 n0 w0 nt E (tested c b nt σ) a w := by
  unfold tested
  split
  · rename_i t
    cases ht : Nat.blt t nt with
    | false => exact h
    | true =>
      simp only [cond_true, St.put]
      refine { h with tm := fun i => ?_, lt := fun i => ?_ }
      · simp only [look]
        split
        · rename_i hi
          subst hi
          have hc : a.tmps.getD t undef = .bool b := hc
          rw [hc]
          exact .pure (.p _)
        · exact h.tm i
      · simp only [look]
        split
        · exact .p _
        · exact h.lt i
  · exact h

/-- How a run of code ends. -/
inductive End where
  | norm
  | exit (i : Nat)
  | ret
def End.x : End → Exit
  | .norm => .normal
  | .exit i => .exit i
  | .ret => .ret
def End.k {R : Type} (kn : St → Option R) (kx : Nat → St → Option R) (kr : St → Option R) : End → St → Option R
  | .norm => kn
  | .exit i => kx i
  | .ret => kr
/-- From one state to another, by code. -/
def Goes [GTab] (T : Tab) (c : Code) (σ : St) (m : End) (τ : St) : Prop :=
  ∀ (E0 : Env) (n0 : NB) (w0 : World), n0.n = T.n0 → Glo E0 T.gs → ∀ (E : Env) (a : Act) (w : World), SRel E0 n0 w0 T.nt E σ a w → c.wp T.C.P (fun e a' w' => e = m.x ∧ ∃ E', SRel E0 n0 w0 T.nt E' τ a' w') a w

theorem exec_ok [GTab] {T : Tab} {root : Code} (hcall : CallOk T.C.P T.call) (hro : RokOk T.C.P T.ro) (hloop : ∀ π A b, T.loop π = some A → subAt root π = some (.loop b) → LoopOk T.C.P T.nt T.gs T.n0 A b) :
    ∀ (c : Code) (π : List Nat) (R : Type) (σ : St) (kn : St → Option R) (kx : Nat → St → Option R) (kr : St → Option R) (r : R),
      subAt root π = some c → exec T c π R σ kn kx kr = some r → ∃ m τ, End.k kn kx kr m τ = some r ∧ Goes T c σ m τ
  | .skip, π, R, σ, kn, kx, kr, r, _, hk => ⟨.norm, σ, hk, fun E0 n0 w0 hn0 hg E a w h => wp_skip ⟨rfl, E, h⟩⟩
  | .label _, π, R, σ, kn, kx, kr, r, _, hk => ⟨.norm, σ, hk, fun E0 n0 w0 hn0 hg E a w h => wp_label ⟨rfl, E, h⟩⟩
  | .exit i, π, R, σ, kn, kx, kr, r, _, hk => ⟨.exit i, σ, hk, fun E0 n0 w0 hn0 hg E a w h => wp_exit ⟨rfl, E, h⟩⟩
  | .ret, π, R, σ, kn, kx, kr, r, _, hk => ⟨.ret, σ, hk, fun E0 n0 w0 hn0 hg E a w h => wp_ret ⟨rfl, E, h⟩⟩
  | .region id ops draw, π, R, σ, kn, kx, kr, r, _, hk => by
    cases draw with
    | true =>
      simp only [exec] at hk
      split at hk
      case isFalse => cases hk
      rename_i hm
      split at hk
      · split at hk
        case isFalse => cases hk
        rename_i hc
        obtain ⟨τ, τ', h1, h2, h3⟩ := nopsK_ok hro _ _ _ _ _ _ _ hk
        exact ⟨.norm, τ', h3, fun E0 n0 w0 hn0 hg E a w h => h1.any hm hc h fun E' a' w' h' => ⟨rfl, E', h'.weak h2⟩⟩
      · split at hk
        · rename_i hc
          obtain ⟨τ, τ', h1, h2, h3⟩ := nopsK_ok hro _ _ _ _ _ _ _ hk
          obtain ⟨ρ, ρ', h4, h5, h6⟩ := opsK_ok hcall hro _ _ _ _ _ h3
          obtain ⟨ρ2, h7, h8⟩ := h4.strong h2
          exact ⟨.norm, ρ', h6, fun E0 n0 w0 hn0 hg E a w h => h1.tail hm hc h h7 fun E' a' w' h' => ⟨rfl, E', h'.weak (h8.trans h5)⟩⟩
        · split at hk
          · rename_i hc
            rw [Bool.and_eq_true] at hc
            obtain ⟨τ, h1, h2⟩ := midRK_ok hcall hro hm hc.2 hk
            exact ⟨.norm, τ, h1, fun E0 n0 w0 hn0 hg E a w h => h2 E0 n0 w0 E a w _ _ h fun E' a' w' h' => ⟨rfl, E', h'⟩⟩
          split at hk
          case isFalse => cases hk
          rename_i hc
          split at hk
          · obtain ⟨τ, h1, h2⟩ := wrRK_ok hm hc hk
            exact ⟨.norm, τ, h1, fun E0 n0 w0 hn0 hg E a w h => h2 E0 n0 w0 E a w _ _ h fun E' a' w' h' => ⟨rfl, E', h'⟩⟩
          · obtain ⟨τ, h1, h2⟩ := stoRK_ok hm hc hk
            exact ⟨.norm, τ, h1, fun E0 n0 w0 hn0 hg E a w h => h2 E0 n0 w0 E a w _ _ h fun E' a' w' h' => ⟨rfl, E', h'⟩⟩
          · split at hk
            case isFalse => cases hk
            rename_i hP
            obtain ⟨τ, h1, h2⟩ := genRK_ok hcall hro hm hc hP hk
            exact ⟨.norm, τ, h1, fun E0 n0 w0 hn0 hg E a w h => h2 E0 n0 w0 E a w _ _ h fun E' a' w' h' => ⟨rfl, E', h'⟩⟩
    | false =>
      simp only [exec] at hk
      obtain ⟨τ, τ', h1, h2, h3⟩ := opsK_ok hcall hro _ _ _ _ _ hk
      exact ⟨.norm, τ', h3, fun E0 n0 w0 hn0 hg E a w h => wp_region_list (h1.sound (fun E' a' w' h' => ⟨rfl, E', h'.weak h2⟩) E a w h)⟩
  | .seq x y, π, R, σ, kn, kx, kr, r, hs, hk => by
    have hx : subAt root (0 :: π) = some x := by simp [subAt, hs, child]
    have hy : subAt root (1 :: π) = some y := by simp [subAt, hs, child]
    -- what does not end behind the first part, ends so
    have early : ∀ {m τ}, m ≠ .norm → Goes T x σ m τ → Goes T (.seq x y) σ m τ := fun {m τ} hm hg1 E0 n0 w0 hn0 hg E a w h => by
      refine wp_seq (wp_mono (hg1 E0 n0 w0 hn0 hg E a w h) fun e a' w' hp => ?_)
      obtain ⟨rfl, hp⟩ := hp
      cases m with
      | norm => exact absurd rfl hm
      | exit i => exact ⟨rfl, hp⟩
      | ret => exact ⟨rfl, hp⟩
    have late : ∀ {τ m ρ}, Goes T x σ .norm τ → Goes T y τ m ρ → Goes T (.seq x y) σ m ρ := fun {τ m ρ} h1 h2 E0 n0 w0 hn0 hg E a w h => by
      refine wp_seq (wp_mono (h1 E0 n0 w0 hn0 hg E a w h) fun e a' w' hp => ?_)
      obtain ⟨rfl, E', h'⟩ := hp
      exact h2 E0 n0 w0 hn0 hg E' a' w' h'
    simp only [exec] at hk
    split at hk
    · obtain ⟨m, τ, hm, hg1⟩ := exec_ok hcall hro hloop x _ _ _ _ _ _ _ hx hk
      cases m with
      | norm =>
        obtain ⟨m', ρ, hm', hg2⟩ := exec_ok hcall hro hloop y _ _ _ _ _ _ _ hy hm
        exact ⟨m', ρ, hm', late hg1 hg2⟩
      | exit i => exact ⟨.exit i, τ, hm, early (by simp) hg1⟩
      | ret => exact ⟨.ret, τ, hm, early (by simp) hg1⟩
    · rename_i A hA
      have nrm : ∀ {m τ} {s : Sh} {d : s.D}, Goes T x σ m τ → norm T.n0 s τ = some d → Goes T x σ m (encS s T.gs d) := fun {m τ s d} h1 h2 E0 n0 w0 hn0 hg E a w h => by
        refine wp_mono (h1 E0 n0 w0 hn0 hg E a w h) fun e a' w' hp => ?_
        obtain ⟨he, E', h'⟩ := hp
        obtain ⟨E2, h3⟩ := norm_ok h' hg (hn0.symm ▸ h2)
        exact ⟨he, E2, h3⟩
      rcases bindX_inv hk with ⟨d, hd, hk⟩ | ⟨d, hd, hk⟩
      · obtain ⟨m, τ, hm, hg1⟩ := exec_ok hcall hro hloop x _ _ _ _ _ _ _ hx hd
        cases m with
        | norm =>
          dsimp only [End.k] at hm
          split at hm
          case h_2 => cases hm
          rename_i d' hd'
          cases hm
          rw [encSK_eq] at hk
          obtain ⟨m', ρ, hm', hg2⟩ := exec_ok hcall hro hloop y _ _ _ _ _ _ _ hy hk
          exact ⟨m', ρ, hm', late (nrm hg1 hd') hg2⟩
        | exit i => cases hm
        | ret =>
          dsimp only [End.k] at hm
          split at hm <;> cases hm
      · obtain ⟨m, τ, hm, hg1⟩ := exec_ok hcall hro hloop x _ _ _ _ _ _ _ hx hd
        cases m with
        | norm =>
          dsimp only [End.k] at hm
          split at hm <;> cases hm
        | exit i => cases hm
        | ret =>
          dsimp only [End.k] at hm
          split at hm
          case h_2 => cases hm
          rename_i d' hd'
          cases hm
          rw [encSK_eq] at hk
          exact ⟨.ret, _, hk, early (by simp) (nrm hg1 hd')⟩
  | .cond c x y, π, R, σ, kn, kx, kr, r, hs, hk => by
    have hx : subAt root (0 :: π) = some x := by simp [subAt, hs, child]
    have hy : subAt root (1 :: π) = some y := by simp [subAt, hs, child]
    simp only [exec, testedK_eq] at hk
    split at hk
    case h_2 => cases hk
    rename_i v hv
    have hc : ∀ {E0 n0 w0 E a w}, SRel E0 n0 w0 T.nt E σ a w → a.eval c = .bool v := fun {E0 n0 w0 E a w} h => by
      have hc := h.ev c
      rw [asBool?_inv hv] at hc
      exact hc.p_inv
    cases v with
    | true =>
      obtain ⟨m, τ, hm, hg1⟩ := exec_ok hcall hro hloop x _ _ _ _ _ _ _ hx hk
      exact ⟨m, τ, hm, fun E0 n0 w0 hn0 hg E a w h => wp_cond_true (hc h) (hg1 E0 n0 w0 hn0 hg E a w (tested_ok h (hc h)))⟩
    | false =>
      obtain ⟨m, τ, hm, hg1⟩ := exec_ok hcall hro hloop y _ _ _ _ _ _ _ hy hk
      exact ⟨m, τ, hm, fun E0 n0 w0 hn0 hg E a w h => wp_cond_false (hc h) (hg1 E0 n0 w0 hn0 hg E a w (tested_ok h (hc h)))⟩
  | .block i x, π, R, σ, kn, kx, kr, r, hs, hk => by
    have hx : subAt root (0 :: π) = some x := by simp [subAt, hs, child]
    simp only [exec] at hk
    obtain ⟨m, τ, hm, hg1⟩ := exec_ok hcall hro hloop x _ _ _ _ _ _ _ hx hk
    have blk : ∀ {m'}, (∀ a' w' E0 n0 w0 E', SRel E0 n0 w0 T.nt E' τ a' w' → Exit.inBlock i (fun e a' w' => e = m'.x ∧ ∃ E', SRel E0 n0 w0 T.nt E' τ a' w') m.x a' w') → Goes T (.block i x) σ m' τ := fun {m'} hb E0 n0 w0 hn0 hg E a w h => by
      refine wp_block (wp_mono (hg1 E0 n0 w0 hn0 hg E a w h) fun e a' w' hp => ?_)
      obtain ⟨rfl, E', h'⟩ := hp
      exact hb a' w' E0 n0 w0 E' h'
    cases m with
    | norm => exact ⟨.norm, τ, hm, blk fun a' w' E0 n0 w0 E' h' => ⟨rfl, E', h'⟩⟩
    | exit j =>
      dsimp only [End.k] at hm
      split at hm
      · rename_i hj
        exact ⟨.norm, τ, hm, blk fun a' w' E0 n0 w0 E' h' => by
          simp only [End.x, Exit.inBlock]
          rw [if_pos (Nat.eq_of_beq_eq_true hj)]
          exact ⟨by trivial, E', h'⟩⟩
      · rename_i hj
        exact ⟨.exit j, τ, hm, blk fun a' w' E0 n0 w0 E' h' => by
          simp only [End.x, Exit.inBlock]
          rw [if_neg (fun e => hj (by rw [e]; exact Nat.beq_refl i))]
          exact ⟨by trivial, E', h'⟩⟩
    | ret => exact ⟨.ret, τ, hm, blk fun a' w' E0 n0 w0 E' h' => ⟨rfl, E', h'⟩⟩
  | .loop b, π, R, σ, kn, kx, kr, r, hs, hk => by
    simp only [exec] at hk
    split at hk
    case h_2 => cases hk
    rename_i A hA
    split at hk
    case h_2 => cases hk
    rename_i d hd
    rcases bindX_inv hk with ⟨y, hy, hk⟩ | ⟨y, hy, hk⟩
    · rw [encSK_eq] at hk
      refine ⟨.exit A.xid, _, hk, fun E0 n0 w0 hn0 hg E a w h => ?_⟩
      obtain ⟨E1, h1⟩ := norm_ok h hg (hn0.symm ▸ hd)
      refine wp_mono (hloop π A b hA hs E0 n0 w0 E1 d _ a w hn0 hg h1 hy) fun e a' w' hp => ?_
      cases e <;> first | exact hp.elim | skip
      obtain ⟨rfl, E', h2⟩ := hp
      exact ⟨rfl, E', h2⟩
    · rw [encSK_eq] at hk
      refine ⟨.ret, _, hk, fun E0 n0 w0 hn0 hg E a w h => ?_⟩
      obtain ⟨E1, h1⟩ := norm_ok h hg (hn0.symm ▸ hd)
      refine wp_mono (hloop π A b hA hs E0 n0 w0 E1 d _ a w hn0 hg h1 hy) fun e a' w' hp => ?_
      cases e <;> first | exact hp.elim | skip
      obtain ⟨E', h2⟩ := hp
      exact ⟨rfl, E', h2⟩
  | .scope _, π, R, σ, kn, kx, kr, r, _, hk => by simp [exec] at hk
  | .goto _, π, R, σ, kn, kx, kr, r, _, hk => by simp [exec] at hk
  | .refuse _, π, R, σ, kn, kx, kr, r, _, hk => by simp [exec] at hk
  | .rangeFunc _ _ _ _, π, R, σ, kn, kx, kr, r, _, hk => by simp [exec] at hk
end

/-! ### Loops -/
def loopN {X Y : Type} (step : X → (X → Option Y) → Option Y) : Nat → X → Option Y
  | 0, _ => none
  | n + 1, x => step x (loopN step n)
def stepL [GTab] (T : Tab) (inn out ret : Sh) (xid : Nat) (b : Code) (π : List Nat) (x : inn.D) (k : inn.D → Option (Ex out.D ret.D)) : Option (Ex out.D ret.D) :=
  encSK inn T.gs x fun σ => exec T b (0 :: π) (Ex out.D ret.D) σ (fun σ' => match norm T.n0 inn σ' with | some x' => k x' | none => none)
    (fun i σ' => if Nat.beq i xid then (match norm T.n0 out σ' with | some y => some (.out y) | none => none) else none) (fun σ' => match norm T.n0 ret σ' with | some y => some (.ret y) | none => none)
theorem loop_ok [GTab] {T : Tab} {root b : Code} {π : List Nat} {inn out ret : Sh} {xid n : Nat} (hcall : CallOk T.C.P T.call) (hro : RokOk T.C.P T.ro) (hloop : ∀ π A b, T.loop π = some A → subAt root π = some (.loop b) → LoopOk T.C.P T.nt T.gs T.n0 A b)
    (hb : subAt root π = some (.loop b)) : LoopOk T.C.P T.nt T.gs T.n0 ⟨inn, out, ret, xid, loopN (stepL T inn out ret xid b π) n⟩ b := by
  intro E0 n0 w0 E x e a w hn0 hg h hr
  refine wp_loop_rounds n ?_
  simp only at x e h hr
  show Code.rounds T.C.P b (LQ E0 n0 w0 T.nt T.gs out ret xid e) n a w
  induction n generalizing E x a w with
  | zero => cases hr
  | succ n ih =>
    rw [rounds_succ]
    have hb' : subAt root (0 :: π) = some b := by simp [subAt, hb, child]
    simp only [loopN, stepL, encSK_eq] at hr
    obtain ⟨m, τ, hm, hgo⟩ := exec_ok hcall hro hloop b _ _ _ _ _ _ _ hb' hr
    refine wp_mono (hgo E0 n0 w0 hn0 hg E a w h) fun ex a' w' hp => ?_
    obtain ⟨rfl, E', h'⟩ := hp
    cases m with
    | norm =>
      dsimp only [End.k] at hm
      split at hm
      case h_2 => cases hm
      rename_i x' hx'
      obtain ⟨E2, h2⟩ := norm_ok h' hg (hn0.symm ▸ hx')
      exact ih E2 x' a' w' h2 hm
    | exit i =>
      dsimp only [End.k] at hm
      split at hm
      case isFalse => cases hm
      rename_i hi
      split at hm
      case h_2 => cases hm
      rename_i y hy
      cases hm
      obtain ⟨E2, h2⟩ := norm_ok h' hg (hn0.symm ▸ hy)
      exact ⟨Nat.eq_of_beq_eq_true hi, E2, h2⟩
    | ret =>
      dsimp only [End.k] at hm
      split at hm
      case h_2 => cases hm
      rename_i y hy
      cases hm
      obtain ⟨E2, h2⟩ := norm_ok h' hg (hn0.symm ▸ hy)
      exact ⟨E2, h2⟩
end Go.Up

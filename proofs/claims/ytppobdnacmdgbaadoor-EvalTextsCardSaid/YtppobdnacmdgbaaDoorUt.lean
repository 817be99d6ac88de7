/- Up, part t: shapes of states: what of a state is plain data, told apart from how it lies. -/
import Derived.Test.YtppobdnacmdgbaaDoorUy4
set_option linter.unusedVariables false
set_option linter.unusedSimpArgs false
namespace Go.Up
open Go.RowKit

/-- What points somewhere. -/
inductive Rf where
  | row (j : Nat)
  | arr (j : Nat)
  | mp (j : Nat)
  | ptr (j off : Nat)
  | fn (f : FuncId) (cap : List Nat)
inductive B where
  | v (t : Ty)
  | r (k : Rf)
inductive O where
  | box (l : List B)
  | row (t : Ty)
  | arr (t : Ty)
  | map (kt vt : Ty)
@[reducible] def LD : List B → Type
  | [] => Unit
  | .v t :: l => El t × LD l
  | .r _ :: l => LD l
@[reducible] def OD : O → Type
  | .box l => LD l
  | .row t => List (El t)
  | .arr t => List (El t)
  | .map kt vt => List (El kt × El vt)
@[reducible] def OL : List O → Type
  | [] => Unit
  | o :: l => OD o × OL l
/-- Where a slice without elements becomes a row. -/
inductive Pre where
  | tmp (i : Nat) (t : Ty)
  | cell (i off : Nat) (t : Ty)
  | arr (i : Nat) (t : Ty)
  | arrc (i off : Nat) (t : Ty)
  | frz (i : Nat)
structure Sh where
  tm : List Nat
  bs : List B
  os : List O
  pre : List Pre
@[reducible] def Sh.D (s : Sh) : Type := LD s.bs × OL s.os

/-! ### Data laid out -/
def encR : Rf → AV
  | .row j => .rw j
  | .arr j => .mw j
  | .mp j => .mp j
  | .ptr j off => .bp j off
  | .fn f cap => .fn (.func f) [] (cap.map fun j => .bp j 0)
def encTs : List Nat → (l : List B) → LD l → List (Nat × AV)
  | i :: ts, .v t :: l, d => (i, encV t d.1) :: encTs ts l d.2
  | i :: ts, .r k :: l, d => (i, encR k) :: encTs ts l d
  | _, _, _ => []
def encCs : (l : List B) → LD l → List AV
  | [], _ => []
  | .v t :: l, d => enc t d.1 ++ encCs l d.2
  | .r k :: l, d => encR k :: encCs l d
def encO : (o : O) → OD o → AO
  | .box l, d => .box (encCs l d)
  | .row t, d => .trow t d
  | .arr t, d => .tarr t d
  | .map kt vt, d => .tmap kt vt d
def encOs : (l : List O) → OL l → Nat → Option AO
  | [], _, _ => none
  | o :: _, d, 0 => some (encO o d.1)
  | _ :: l, d, n + 1 => encOs l d.2 n
def encS (s : Sh) (gs : List Nat) (d : s.D) : St := { t := encTs s.tm s.bs d.1, h := { o := encOs s.os d.2, n := s.os.length, g := gs } }

section
variable {R : Type}
def encTsK : List Nat → (l : List B) → LD l → (List (Nat × AV) → Option R) → Option R
  | i :: ts, .v t :: l, d, K => splitV t d.1 fun x => encTsK ts l d.2 fun r => K ((i, x) :: r)
  | i :: ts, .r k :: l, d, K => encTsK ts l d fun r => K ((i, encR k) :: r)
  | _, _, _, K => K []
theorem encTsK_eq [GTab] : ∀ (ts : List Nat) (l : List B) (d : LD l) (K : List (Nat × AV) → Option R), encTsK ts l d K = K (encTs ts l d)
  | i :: ts, .v t :: l, d, K => by simp only [encTsK, encTs, splitV_eq, encTsK_eq ts l]
  | i :: ts, .r k :: l, d, K => by simp only [encTsK, encTs, encTsK_eq ts l]
  | [], [], d, K => rfl
  | [], .v t :: l, d, K => rfl
  | [], .r k :: l, d, K => rfl
  | i :: ts, [], d, K => rfl
def encCsK : (l : List B) → LD l → (List AV → Option R) → Option R
  | [], _, K => K []
  | .v t :: l, d, K => splitC t d.1 fun x => encCsK l d.2 fun r => K (x ++ r)
  | .r k :: l, d, K => encCsK l d fun r => K (encR k :: r)
theorem encCsK_eq [GTab] : ∀ (l : List B) (d : LD l) (K : List AV → Option R), encCsK l d K = K (encCs l d)
  | [], _, _ => rfl
  | .v t :: l, d, K => by simp only [encCsK, encCs, splitC_eq, encCsK_eq l]
  | .r k :: l, d, K => by simp only [encCsK, encCs, encCsK_eq l]
def encOK : (o : O) → OD o → (AO → Option R) → Option R
  | .box l, d, K => encCsK l d fun cs => K (.box cs)
  | .row t, d, K => K (.trow t d)
  | .arr t, d, K => K (.tarr t d)
  | .map kt vt, d, K => K (.tmap kt vt d)
theorem encOK_eq [GTab] (o : O) (d : OD o) (K : AO → Option R) : encOK o d K = K (encO o d) := by
  cases o <;> first | rfl | simp only [encOK, encO, encCsK_eq]
def consO (x : AO) (f : Nat → Option AO) : Nat → Option AO
  | 0 => some x
  | n + 1 => f n
def encOsK : (l : List O) → OL l → ((Nat → Option AO) → Option R) → Option R
  | [], _, K => K fun _ => none
  | o :: l, d, K => encOK o d.1 fun x => encOsK l d.2 fun f => K (consO x f)
theorem encOsK_eq [GTab] : ∀ (l : List O) (d : OL l) (K : (Nat → Option AO) → Option R), encOsK l d K = K (encOs l d)
  | [], _, K => by
    have e : encOs [] () = fun _ => none := by funext n; rfl
    simp only [encOsK]
    rw [← e]
  | o :: l, d, K => by
    have e : encOs (o :: l) d = consO (encO o d.1) (encOs l d.2) := by funext n; cases n <;> rfl
    simp only [encOsK, encOK_eq, encOsK_eq l]
    rw [← e]
def encSK (s : Sh) (gs : List Nat) (d : s.D) (K : St → Option R) : Option R := encTsK s.tm s.bs d.1 fun t => encOsK s.os d.2 fun o => K { t := t, h := { o := o, n := s.os.length, g := gs } }
theorem encSK_eq [GTab] (s : Sh) (gs : List Nat) (d : s.D) (K : St → Option R) : encSK s gs d K = K (encS s gs d) := by
  simp only [encSK, encTsK_eq, encOsK_eq]
  rfl
end

/-! ### States read -/
def nthN : List Nat → Nat → Option Nat
  | [], _ => none
  | x :: _, 0 => some x
  | _ :: l, n + 1 => nthN l n
def link (ρ : List Nat) (j id : Nat) : Option (List Nat) :=
  match nthN ρ j with
  | some k => if Nat.beq k id then some ρ else none
  | none => if Nat.beq j ρ.length && !memT ρ id then some (ρ ++ [id]) else none
def links : List Nat → List AV → List Nat → Option (List Nat)
  | [], [], ρ => some ρ
  | j :: js, .bp id 0 :: l, ρ => (link ρ j id).bind (links js l)
  | _, _, _ => none
def matR : Rf → AV → List Nat → Option (List Nat)
  | .row j, .rw id, ρ => link ρ j id
  | .arr j, .mw id, ρ => link ρ j id
  | .mp j, .mp id, ρ => link ρ j id
  | .ptr j off, .bp id off', ρ => if Nat.beq off off' then link ρ j id else none
  | .fn f cap, .fn (.func f') [] l, ρ => if Nat.beq f f' then links cap l ρ else none
  | _, _, _ => none
def matTs (h : AH) (t : List (Nat × AV)) : List Nat → (l : List B) → List Nat → Option (LD l × List Nat)
  | [], [], ρ => some ((), ρ)
  | i :: ts, .v τ :: l, ρ =>
    match decV h τ (look t i) with
    | some y => (match matTs h t ts l ρ with
      | some q => some ((y, q.1), q.2)
      | none => none)
    | none => none
  | i :: ts, .r k :: l, ρ =>
    match matR k (look t i) ρ with
    | some ρ' => matTs h t ts l ρ'
    | none => none
  | _, _, _ => none
def matCs (h : AH) : (l : List B) → List AV → List Nat → Option (LD l × List Nat)
  | [], [], ρ => some ((), ρ)
  | .v τ :: l, cs, ρ =>
    match decC h τ cs with
    | some q => (match matCs h l q.2 ρ with
      | some q' => some ((q.1, q'.1), q'.2)
      | none => none)
    | none => none
  | .r k :: l, c :: cs, ρ =>
    match matR k c ρ with
    | some ρ' => matCs h l cs ρ'
    | none => none
  | _, _, _ => none
def matO (h : AH) : (o : O) → AO → List Nat → Option (OD o × List Nat)
  | .box l, .box cs, ρ => matCs h l cs ρ
  | .row t, .trow t' l, ρ => if e : t' = t then some (e ▸ l, ρ) else none
  | .arr t, .tarr t' l, ρ => if e : t' = t then some (e ▸ l, ρ) else none
  | .map kt vt, .tmap kt' vt' l, ρ => if e : kt' = kt then (if e' : vt' = vt then some (e' ▸ e ▸ l, ρ) else none) else none
  | _, _, _ => none
def matOs (h : AH) : (l : List O) → Nat → List Nat → Option (OL l × List Nat)
  | [], _, ρ => some ((), ρ)
  | o :: l, j, ρ =>
    match nthN ρ j with
    | some id =>
      (match h.o id with
      | some ao => (match matO h o ao ρ with
        | some q => (match matOs h l (j + 1) q.2 with
          | some q' => some ((q.1, q'.1), q'.2)
          | none => none)
        | none => none)
      | none => none)
    | none => none
variable {R : Type}
def prep1 : Pre → St → (St → Option R) → Option R
  | .tmp i τ, σ, K =>
    match look σ.t i with
    | .p (.slice none 0 0) => K { t := (i, .rw σ.h.n) :: σ.t, h := σ.h.new (.trow τ []) }
    | _ => K σ
  | .cell i off τ, σ, K =>
    match look σ.t i with
    | .bp id 0 =>
      match σ.h.o id with
      | some (.box l) =>
        match l[off]? with
        | some (.p (.slice none 0 0)) => K { t := σ.t, h := (σ.h.new (.trow τ [])).set id (some (.box (l.set off (.rw σ.h.n)))) }
        | _ => K σ
      | _ => K σ
    | _ => K σ
  | .arr i τ, σ, K =>
    match look σ.t i with
    | .p (.slice none 0 0) => K { t := (i, .mw σ.h.n) :: σ.t, h := σ.h.new (.tarr τ []) }
    | .ms id off len =>
      match σ.h.o id with
      | some (.tarr τ' l) => bif Nat.beq off 0 then (bif Nat.ble len l.length then K { t := (i, .mw σ.h.n) :: σ.t, h := (σ.h.set id none).new (.tarr τ' (l.take len)) } else none) else none
      | _ => K σ
    | _ => K σ
  | .arrc i off τ, σ, K =>
    match look σ.t i with
    | .bp id 0 =>
      match σ.h.o id with
      | some (.box l) =>
        match l[off]? with
        | some (.p (.slice none 0 0)) => K { t := σ.t, h := (σ.h.new (.tarr τ [])).set id (some (.box (l.set off (.mw σ.h.n)))) }
        | some (.ms jd o len) =>
          match σ.h.o jd with
          | some (.tarr τ' m) => bif Nat.beq o 0 && !Nat.beq id jd then (bif Nat.ble len m.length then K { t := σ.t, h := ((σ.h.set jd none).new (.tarr τ' (m.take len))).set id (some (.box (l.set off (.mw σ.h.n)))) } else none) else none
          | _ => K σ
        | _ => K σ
      | _ => K σ
    | _ => K σ
  | .frz i, σ, K =>
    match look σ.t i with
    | .mw id =>
      match σ.h.o id with
      | some (.tarr τ l) => K { t := (i, .tl τ l none) :: σ.t, h := σ.h.set id none }
      | _ => K σ
    | _ => K σ
def prep : List Pre → St → (St → Option R) → Option R
  | [], σ, K => K σ
  | p :: l, σ, K => prep1 p σ fun σ => prep l σ K
/-- The objects that keep their numbers. -/
def pinsFrom : Nat → Nat → List Nat
  | _, 0 => []
  | k, p + 1 => k :: pinsFrom (k + 1) p
def norm1 (p : Nat) (s : Sh) (σ : St) : Option s.D :=
  match matTs σ.h σ.t s.tm s.bs (pinsFrom 0 p) with
  | some q => (match matOs σ.h s.os 0 q.2 with
    | some q' => if Nat.beq q'.2.length s.os.length then some (q.1, q'.1) else none
    | none => none)
  | none => none
def norm (p : Nat) (s : Sh) (σ : St) : Option s.D := prep s.pre σ (norm1 p s)
end Go.Up

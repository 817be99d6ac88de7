/- Ways of telling that a reading comes to something. -/
import Derived.Test.YtppobdnacmdgbaaDoorLb
set_option linter.unusedVariables false
set_option linter.unusedSimpArgs false
namespace Go.Up

/-- It comes to something, of which something is so. -/
def Ok {α : Type} (o : Option α) (P : α → Prop) : Prop := ∃ y, o = some y ∧ P y
theorem Ok.mk {α : Type} {P : α → Prop} {y : α} (h : P y) : Ok (some y) P := ⟨y, rfl, h⟩
theorem Ok.bind {α β : Type} {o : Option α} {K : α → Option β} {P : α → Prop} {Q : β → Prop} (h : Ok o P) (k : ∀ y, P y → Ok (K y) Q) : Ok (bindI o K) Q := by
  obtain ⟨y, rfl, hy⟩ := h
  exact k y hy
theorem Ok.bindT {α β : Type} {o : Option α} {K : α → Option β} {Q : β → Prop} (h : Ok o fun _ => True) (k : ∀ y, Ok (K y) Q) : Ok (bindI o K) Q := h.bind fun y _ => k y
theorem Ok.ite {β : Type} {c : Bool} {a b : Option β} {Q : β → Prop} (h1 : c = true → Ok a Q) (h2 : c = false → Ok b Q) : Ok (cond c a b) Q := by
  cases c with
  | true => exact h1 rfl
  | false => exact h2 rfl
theorem Ok.tt {β : Type} {c : Bool} {a b : Option β} {Q : β → Prop} (hc : c = true) (h : Ok a Q) : Ok (cond c a b) Q := by
  subst hc; exact h
theorem Ok.mono {α : Type} {o : Option α} {P Q : α → Prop} (h : Ok o P) (k : ∀ y, P y → Q y) : Ok o Q := by
  obtain ⟨y, h1, h2⟩ := h
  exact ⟨y, h1, k y h2⟩
theorem Ok.bindX {X Y R : Type} {o : Option (Ex X Y)} {P : Ex X Y → Prop} {f : X → Option R} {g : Y → Option R} {Q : R → Prop} (h : Ok o P) (hf : ∀ x, P (.out x) → Ok (f x) Q) (hg : ∀ y, P (.ret y) → Ok (g y) Q) : Ok (Go.Up.bindX o f g) Q := by
  obtain ⟨e, rfl, he⟩ := h
  cases e with
  | out x => exact hf x he
  | ret y => exact hg y he
theorem Ok.geti {α : Type} {l : List α} {i : Int} (h0 : 0 ≤ i) (h1 : i < l.length) : Ok (Go.Up.geti l i) fun y => y ∈ l :=
  ⟨_, geti_lt l h0 h1, List.getElem_mem _⟩
theorem Ok.elim {α : Type} {o : Option α} {P : α → Prop} (h : Ok o P) : ∃ y, o = some y ∧ P y := h
theorem cond_and {a b : Bool} : (bif a then some b else some false) = some (a && b) := by cases a <;> rfl
theorem cond_or {a b : Bool} : (bif a then some true else some b) = some (a || b) := by cases a <;> rfl
theorem bindI_id {α : Type} {o : Option α} : (bindI o fun y => some y) = o := by cases o <;> rfl
end Go.Up

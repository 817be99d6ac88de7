/- Up, part z: errors.As, by what is known of it. -/
import Derived.Test.YtppobdnacmdgbaaDoorUu
set_option linter.unusedVariables false
set_option linter.unusedSimpArgs false
namespace Go.Up
open Go.RowKit

/-- One object turns, and new blocks come. -/
theorem Step.turnG [GTab] {E : Env} {h : AH} {w : World} (hh : HRel E h w) (hok : h.ok) {c b : Nat} {x : AO} {w' : World} (hc : c < h.n) (hlive : h.o c ≠ none) (hb : (E.obj c).blk = some b) (hSb : ∀ a, a.block = b → E.S a = none)
    (hos : w'.os = w.os) (htape : w'.tape = w.tape) (hout : w'.output = w.output) (hsz : w.heap.size ≤ w'.heap.size) (hold : ∀ k, k < w.heap.size → k ≠ b → w'.heap[k]? = w.heap[k]?)
    (hx : ORel E w' (E.obj c) x) (hxl : x.lt h.n) : Step E h w E (h.set c (some x)) w' := by
  obtain ⟨h1, h2, h3⟩ := hh.set hok (S' := E.S) (w' := w') (c := c) (x := some x) (fun _ _ h => h)
    (fun a v ha => by
      have hne : a.block ≠ b := fun he => by rw [hSb a he] at ha; cases ha
      have hcl := hh.cells a v ha
      rw [World.cell?_of_block (hold _ (World.block_lt_of_cell? w a hcl) hne)]; exact hcl)
    hsz
    (fun j b' hj hjc hlj hbj => by
      have hne : b' ≠ b := fun he => hjc (hh.inj j c b hj hc hlj hlive (he ▸ hbj) hb)
      exact ⟨hold b' (hh.lt j b' hj hbj) hne, fun _ _ => rfl⟩)
    (fun _ => hlive) (fun y hy _ => by cases hy; exact hx) (fun y hy => by cases hy; exact hxl)
  refine ⟨h2, h1, h3, Nat.le_refl _, ⟨hos, htape, hout, hsz, fun k hk hne => hold k hk (fun he => hne c hc (he ▸ hb))⟩, fun id b' hid hb' => .inr ⟨id, hid, hb'⟩, fun a v ha => .inl ha⟩

/-- What errors.As does. -/
structure AsOk [GTab] (P : Program) (A : AsI) : Prop where
  cf : ∀ (vs : Array Value) (w : World), (callFunc A.f vs).run P w = .ok (.enter A.f vs) w
  nil : ∀ (t : Value) (w : World), Calls P A.f #[.nilIface, t] w fun e w' => e = .returned (.bool false) ∧ w' = w
  hit : ∀ (e : Addr) (b : Nat) (old : Value) (T : TypeId) (w : World), (∀ (j : Nat) (x : AV), (GTab.cells A.g)[j]? = some x → ∃ v, w.cell? ⟨A.g, j, none⟩ = some v ∧ PRel w.cell? x v) →
    w.heap[b]? = some (.cells #[old] T (0, 0)) →
    Calls P A.f #[.iface A.tf (.pointer (some e)), .iface A.tt (.pointer (some ⟨b, 0, none⟩))] w fun ev w' => ev = .returned (.bool true) ∧
      w'.os = w.os ∧ w'.tape = w.tape ∧ w'.output = w.output ∧ w.heap.size ≤ w'.heap.size ∧ (∀ k, k < w.heap.size → k ≠ b → w'.heap[k]? = w.heap[k]?) ∧ w'.heap[b]? = some (.cells #[.pointer (some e)] T (0, 0))
def asK (A : AsI) (R : Type) (h : AH) (args : List AV) (K : AH → AV → Option R) : Option R :=
  match args with
  | [x, .ib t id off] =>
    if Nat.beq t A.tt && Nat.beq off 0 && memG h.g A.g then
      match h.o id with
      | some (.box [_]) =>
        match x with
        | .p .nilIface => K h (.p (.bool false))
        | .ifc tf (.ep cs) => if Nat.beq tf A.tf then K (h.set id (some (.box [.ep cs]))) (.p (.bool true)) else none
        | _ => none
      | _ => none
    else none
  | _ => none
theorem asK_ok [GTab] {P : Program} {A : AsI} (hA : AsOk P A) {R : Type} {h : AH} {args : List AV} {K : AH → AV → Option R} {r : R} (hk : asK A R h args K = some r) : ∃ h' y, ACall P A.f h args (fun v h2 => v = y ∧ h2 = h') ∧ K h' y = some r := by
  unfold asK at hk
  split at hk
  case h_2 => cases hk
  rename_i x t id off
  split at hk
  case isFalse => cases hk
  rename_i hc
  rw [Bool.and_eq_true, Bool.and_eq_true] at hc
  obtain ⟨⟨ht, hoff⟩, hg⟩ := hc
  have ht := Nat.eq_of_beq_eq_true ht
  have hoff := Nat.eq_of_beq_eq_true hoff
  subst ht; subst hoff
  split at hk
  case h_2 => cases hk
  rename_i y ho
  split at hk
  · refine ⟨_, _, ⟨hA.cf, fun E w vs hh hok hr hl => ?_⟩, hk⟩
    obtain ⟨v, us, rfl, h1, h2⟩ := hr.cons_inv
    obtain ⟨u, us, rfl, h3, h4⟩ := h2.cons_inv
    rw [h4.nil_inv, h1.p_inv]
    refine (hA.nil u w).mono fun e w' ⟨he, hw⟩ => ?_
    subst hw
    exact ⟨_, _, _, E, he, ⟨rfl, rfl⟩, .refl hh hok, .pure (.p _), .p _⟩
  · rename_i tf cs
    split at hk
    case isFalse => cases hk
    rename_i htf
    have htf := Nat.eq_of_beq_eq_true htf
    subst htf
    refine ⟨_, _, ⟨hA.cf, fun E w vs hh hok hr hl => ?_⟩, hk⟩
    obtain ⟨v, us, rfl, h1, h2⟩ := hr.cons_inv
    obtain ⟨u, us, rfl, h3, h4⟩ := h2.cons_inv
    rw [h4.nil_inv]
    have hid : id < h.n := (hl 1 _ rfl).ib_inv
    obtain ⟨b, rfl, hobj⟩ := h3.ib_inv
    obtain ⟨b', cells, T, g1, g2, g3, g4⟩ := hh.box id _ hid ho
    rw [hobj] at g1
    cases g1
    obtain ⟨old, us', e1, h5, h6⟩ := g3.cons_inv
    rw [h6.nil_inv] at e1
    have e2 : cells = #[old] := by
      cases cells
      simp at e1
      subst e1
      rfl
    subst e2
    have hv : ∃ p, v = .iface A.tf p ∧ PRel E.S (.ep cs) p := by
      cases h1 with
      | pure h1 => cases h1 with
        | ifc h1 => exact ⟨_, rfl, h1⟩
    obtain ⟨p, rfl, hp⟩ := hv
    have hp' := hp
    cases hp with
    | @ep _ a us2 k1 k2 =>
      refine (hA.hit a b old T w (fun j x hx => ?_) g2).mono fun e w' ⟨he, q1, q2, q3, q4, q5, q6⟩ => ?_
      · obtain ⟨v, r1, r2⟩ := hh.glo A.g (memG_ok hg) j x hx
        exact ⟨v, hh.cells _ _ r1, r2.mono hh.cells⟩
      · have hst := Step.turnG (w' := w') (x := .box [.ep cs]) hh hok hid (by rw [ho]; simp) (by rw [hobj]; rfl) g4 q1 q2 q3 q4 q5
          ⟨b, _, T, hobj, q6, .cons (.pure hp') (.nil E), g4⟩ (fun i x hx => by
            cases i with
            | zero => cases hx; exact .ep _
            | succ i => simp at hx)
        exact ⟨_, _, _, E, he, ⟨rfl, rfl⟩, hst, .pure (.p _), .p _⟩
  · cases hk
end Go.Up

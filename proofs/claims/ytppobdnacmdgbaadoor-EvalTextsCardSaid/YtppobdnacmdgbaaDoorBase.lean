/- This program's numbers; errors.Is as a function of plain data. -/
import Derived.Test.YtppobdnacmdgbaaDoorErrI
set_option linter.unusedVariables false
set_option linter.unusedSimpArgs false
namespace Go.Proofs.YtppobdnacmdgbaaDoor
open Go Go.Up
instance gtab : GTab := ⟨fun g => match g with
  | 0 => etCell
  | _ => []⟩
def etyL : List (Nat × Ty) := [(22, .tok), (24, (.pair .str (.pair .bool (.slice .tok)))), (25, (.slice .tok)), (32, (.pair .str (.pair .bool (.slice .tok)))), (56, .nod), (57, .sym), (60, (.int .u8)), (68, .sym), (99, (.slice (.slice .tok))), (108, (.pair .nod (.pair (.int .i64) .bool))), (124, (.pair (.int .u32) (.int .i64))), (146, (.pair (.int .u32) .bool)), (155, .str), (156, (.int .i64)), (171, (.err 87 95)), (228, (.pair (.int .i32) (.pair (.int .i32) (.pair (.int .i32) (.int .i32)))))]
def mtL : List Nat := [60, 124]
noncomputable def CC : Cfg := ⟨Tryd.prog, findT etyL, memT mtL, [0], some asI⟩
noncomputable def tab := tabOf CC
theorem CC_as : ∀ A, CC.as = some A → AsOk CC.P A := fun A h => by
  obtain rfl := Option.some.inj h
  exact as_ok rfl
/-- errors.Is, of a fault and a code. -/
def errors_Is (N : Nat) (e t : Err) : Option (Bool × Unit) :=
  match e, t with
  | .fault _ _ k, .code c => some (k == c, ())
  | _, _ => none
def errors_Is_e (N : Nat) : Ent := ⟨39, [.err 87 95, .err 87 95], [.bool], fun x => errors_Is N x.1 x.2.1⟩
theorem errors_Is_ok (N : Nat) : EntOk CC.P CC.gs (errors_Is_e N) := by
  intro x y hy h hgs
  obtain ⟨e, t, u⟩ := x
  unfold errors_Is_e at y hy
  simp only at y hy
  unfold errors_Is at hy
  split at hy
  case h_2 => cases hy
  rename_i l c0 k c
  cases hy
  refine ⟨fun vs w => Tryd.call39 vs w, fun E w vs hh hok hr hl => ?_⟩
  obtain ⟨v, us, rfl, h1, h2⟩ := hr.cons_inv
  obtain ⟨v', us, rfl, h3, h4⟩ := h2.cons_inv
  rw [h4.nil_inv]
  have g1 : Rel E (.ifc 87 (.ep [.p (.int .i64 l), .p (.int .i64 c0), .p (.iface 95 (.int .i64 k))])) v := h1
  have g3 : Rel E (.p (.iface 95 (.int .i64 c))) v' := h3
  rw [g3.p_inv]
  have hv : ∃ a, v = .iface 87 (.pointer (some a)) ∧ w.cell? ⟨a.block, a.off + 2, none⟩ = some (.iface 95 (.int .i64 k)) := by
    cases g1 with
    | pure g2 => cases g2 with
      | ifc g4 => cases g4 with
        | @ep _ a us k1 k2 =>
          refine ⟨a, rfl, ?_⟩
          have q1 := hh.cells _ _ (k1 2 _ rfl)
          have q2 := Rel.p_inv (E := E) (.pure (k2 2 _ rfl))
          rw [q2] at q1
          simpa [Addr.add] using q1
  obtain ⟨a, rfl, hc⟩ := hv
  refine (is_calls a k c w hc).mono fun e w' ⟨he, hw⟩ => ?_
  subst hw
  exact ⟨_, _, _, E, he, ⟨rfl, rfl⟩, .refl hh hok, .pure (.p _), .p _⟩
end Go.Proofs.YtppobdnacmdgbaaDoor

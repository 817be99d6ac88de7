/- errors.Is of a fault and a code, by what it does. -/
import Derived.Test.YtppobdnacmdgbaaDoorErr
set_option linter.unusedVariables false
set_option linter.unusedSimpArgs false
namespace Go.Proofs.YtppobdnacmdgbaaDoor
open Go.RowKit Go.Extern.Stop Go.Stop Go.Extern Go.Up

theorem is_typeOf (v : Value) (w : World) : (Extern.ReflectliteType.typeOf #[.iface 95 v]).run Tryd.prog w = .ok (.iface 161 (.agg #[.pointer (some ⟨1, 95, none⟩)])) w := by kernel_rfl
def compE : Array Value → Sem Value := Extern.ReflectliteType.method fun t => do Extern.Rtype.noPackHeld "Comparable" t; pure (.bool (← typeInfo t).comparable)
theorem is_comparable (w : World) : (compE #[.agg #[.pointer (some ⟨1, 95, none⟩)]]).run Tryd.prog w = .ok (.bool true) w := by kernel_rfl
theorem is_methodComparable (v : Value) (w : World) : (Go.method 333 161 v "Comparable").run Tryd.prog w = .ok (128, v) w := by kernel_rfl
theorem is_noIsF (v : Value) (xT : TypeId) (w : World) : (Instr.typeAssert (.iface 87 v) xT 173 true).run Tryd.prog w = .ok (.tuple #[.nilIface, .bool false]) w := run_typeAssert_lacksB Tryd.underlying173 (by kernel_rfl) (by kernel_rfl) v xT w
theorem is_noIsC (v : Value) (xT : TypeId) (w : World) : (Instr.typeAssert (.iface 95 v) xT 173 true).run Tryd.prog w = .ok (.tuple #[.nilIface, .bool false]) w := run_typeAssert_lacksB Tryd.underlying173 (by kernel_rfl) (by kernel_rfl) v xT w
theorem is_unwrapF (v : Value) (xT : TypeId) (w : World) : (Instr.typeAssert (.iface 87 v) xT 168 true).run Tryd.prog w = .ok (.tuple #[.iface 87 v, .bool true]) w := run_typeAssert_hasB Tryd.underlying168 (by kernel_rfl) v xT w
theorem is_noUnwrapC (v : Value) (xT : TypeId) (w : World) : (Instr.typeAssert (.iface 95 v) xT 168 true).run Tryd.prog w = .ok (.tuple #[.nilIface, .bool false]) w := run_typeAssert_lacksB Tryd.underlying168 (by kernel_rfl) (by kernel_rfl) v xT w
theorem is_noUnwrapsC (v : Value) (xT : TypeId) (w : World) : (Instr.typeAssert (.iface 95 v) xT 170 true).run Tryd.prog w = .ok (.tuple #[.nilIface, .bool false]) w := run_typeAssert_lacksB Tryd.underlying170 (by kernel_rfl) (by kernel_rfl) v xT w
theorem is_methodUnwrap (v : Value) (w : World) : (Go.method 333 87 v "Unwrap").run Tryd.prog w = .ok (121, v) w := by kernel_rfl
theorem is_code_comparable : (Tryd.prog.info? 95).map (·.comparable) = some true := by kernel_rfl

theorem is_eql (k c : Int) (w : World) : (binOp .eql 29 (.iface 95 (.int .i64 k)) (.iface 95 (.int .i64 c))).run Tryd.prog w = .ok (.bool (k == c)) w := by
  obtain ⟨i, hi, hc⟩ := Option.map_eq_some_iff.1 is_code_comparable
  have h : ∀ d : Nat, (Op.equalIn (d + 2) 29 (.iface 95 (.int .i64 k)) (.iface 95 (.int .i64 c))).run Tryd.prog w = .ok (k == c) w := fun d => by
    simp [Op.equalIn, run_underlying Tryd.underlying29, run_underlying Tryd.underlying95, typeInfo, hi, hc]
  simp only [binOp]
  simp [Op.equal, Op.maxDepth, h 9998]

/-- (*Fault).Unwrap. -/
theorem unwrap_calls (a : Addr) (x : Value) (w : World) (h : w.cell? ⟨a.block, a.off + 2, none⟩ = some x) : Calls Tryd.prog 121 #[.pointer (some a)] w fun e w' => e = .returned x ∧ w' = w := by
  go_enter Tryd.func121, Tryd.ntmps121
  go_wp2
  go_ret
  exact ⟨rfl, rfl⟩
set_option maxRecDepth 10000 in
set_option maxHeartbeats 2000000 in
theorem is_calls (a : Addr) (k c : Int) (w : World) (h : w.cell? ⟨a.block, a.off + 2, none⟩ = some (.iface 95 (.int .i64 k))) :
    Calls Tryd.prog 39 #[.iface 87 (.pointer (some a)), .iface 95 (.int .i64 c)] w fun e w' => e = .returned (.bool (k == c)) ∧ w' = w := by
  have h8 := @run_callFunc_extern Tryd.prog 60 _ Extern.ReflectliteType.typeOf Tryd.func60 (by kernel_rfl) (by kernel_rfl) (by kernel_rfl) (by kernel_rfl)
  have h32 := @run_callFunc_extern Tryd.prog 128 _ compE Tryd.func128 (by kernel_rfl) (by kernel_rfl) (by kernel_rfl) (by kernel_rfl)
  have tT := is_typeOf
  have cT := is_comparable
  have mR := is_methodComparable
  have nF := is_noIsF
  have nC := is_noIsC
  have uF := is_unwrapF
  have uC := is_noUnwrapC
  have vC := is_noUnwrapsC
  have mU := is_methodUnwrap
  have heq := is_eql k c
  have hun := unwrap_calls a _ w h
  have hty := run_eql_iface_types (P := Tryd.prog) 87 95 (.pointer (some a)) (.int .i64 c) Tryd.underlying29 (by decide) w
  by_cases hkc : k = c
  · subst hkc
    have heq := is_eql k k
    simp only [beq_self_eq_true] at heq ⊢
    go_enter Tryd.func39, Tryd.ntmps39
    go_wp2
    refine wp_loop_rounds 2 ?_
    rw [rounds_succ]
    go_wp2
    rw [rounds_succ]
    go_wp2
    go_ret
    exact ⟨rfl, rfl⟩
  · have heq := is_eql k c
    have e : (k == c) = false := by simpa using hkc
    rw [e] at heq ⊢
    go_enter Tryd.func39, Tryd.ntmps39
    go_wp2
    refine wp_loop_rounds 2 ?_
    rw [rounds_succ]
    go_wp2
    rw [rounds_succ]
    go_wp2
    go_ret
    exact ⟨rfl, rfl⟩
end Go.Proofs.YtppobdnacmdgbaaDoor

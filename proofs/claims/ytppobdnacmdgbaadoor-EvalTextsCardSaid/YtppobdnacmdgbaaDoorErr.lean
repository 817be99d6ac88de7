/- errors.As and errors.Is, by what they do; after the guide's worked examples Toyas and Sentry. -/
import Derived.Test.YtppobdnacmdgbaaDoorChecked
import Derived.Test.YtppobdnacmdgbaaDoorUx
import Derived.WalkKit
import Derived.LaidEql
import Derived.Stop.Asserts
import Derived.RowKitTokens
set_option linter.unusedVariables false
set_option linter.unusedSimpArgs false
namespace Go.Proofs.YtppobdnacmdgbaaDoor
open Go.RowKit Go.Extern.Stop Go.Stop Go.Extern Go.Up

/-! ### errors.As, at a target that is a variable of type *api.Fault -/
/-- errors.As(nil, target). -/
theorem as_nil (t : Value) (w : World) :
    Calls Tryd.prog 35 #[.nilIface, t] w fun e w' => e = .returned (.bool false) ∧ w' = w := by
  go_enter Tryd.func35, Tryd.ntmps35
  go_wp2
  go_ret
  exact ⟨rfl, rfl⟩

/-! ### CLOSED FACTS ON THE MODEL's ENTRIES FOR internal/reflectlite, at this program's types: 25: *p.E · 27: **p.E · 23: error · 45: reflectlite's rtype · 1: how many package-level variables the dump has -/
theorem as_valueOf_pp (t : Addr) (w : World) : (ReflectliteValue.unpack (.iface 89 (.pointer (some t)))).run Tryd.prog w
    = .ok (.agg #[.pointer (some ⟨1, 89, none⟩), .pointer (some ⟨w.heap.size, 0, none⟩), .int .u64 150]) (w.alloc (.cells #[.pointer (some t)] 89)) := by kernel_rfl
theorem as_type_pp (a : Addr) (w : World) : (ReflectliteValue.methodAny (ReflectliteValue.valueError "reflectlite.Value.Type" 0) (fun t _ _ _ => ReflectliteType.toType t) #[.agg #[.pointer (some ⟨1, 89, none⟩), .pointer (some a), .int .u64 150]]).run Tryd.prog w
    = .ok (.iface 161 (.agg #[.pointer (some ⟨1, 89, none⟩)])) w := by kernel_rfl
theorem as_methodKind (h : Value) (w : World) : (Go.method 333 161 (.agg #[h]) "Kind").run Tryd.prog w = .ok (117, h) w := by kernel_rfl
theorem as_kind_pp (w : World) : ((ReflectliteType.abiMethod fun t => (fun a : Nat => Value.int IntKind.u8 (a : Int)) <$> Rtype.kind t) #[.pointer (some ⟨1, 89, none⟩)]).run Tryd.prog w = .ok (.int .u8 22) w := by kernel_rfl
theorem as_kind_p (w : World) : ((ReflectliteType.abiMethod fun t => (fun a : Nat => Value.int IntKind.u8 (a : Int)) <$> Rtype.kind t) #[.pointer (some ⟨1, 87, none⟩)]).run Tryd.prog w = .ok (.int .u8 22) w := by kernel_rfl

/-! ### THE ENTRIES THAT READ OR WRITE MEMORY: laws with a premise on the cell (after Derived/Lib/ReflectliteSlice.lean's manner: each unfolding a lemma of its own, by rfl) -/
theorem rlm (z : Sem Value) (f : TypeId → Addr → Nat → Nat → Sem Value) (v : Value) :
    ReflectliteValue.method z f #[v] = (do match ← ReflectliteValue.parts v with | none => z | some (t, a, fl) => f t a fl (fl % 32)) := rfl
theorem as_parts_pp (a : Addr) (w : World) : (ReflectliteValue.parts (.agg #[.pointer (some ⟨1, 89, none⟩), .pointer (some a), .int .u64 150])).run Tryd.prog w = .ok (some (89, a, 150)) w := by kernel_rfl
/-- (Value).IsNil at the Value of a **p.E that is not nil. -/
theorem as_isNil_pp (a p : Addr) (W : World) (ha : W.cell? a = some (.pointer (some p))) :
    (ReflectliteValue.method (ReflectliteValue.valueError "reflectlite.Value.IsNil" 0) ReflectliteValue.isNil #[.agg #[.pointer (some ⟨1, 89, none⟩), .pointer (some a), .int .u64 150]]).run Tryd.prog W = .ok (.bool false) W := by
  rw [rlm]
  simp only [Sem.run_bind, as_parts_pp, Result.andThen]
  simp [ReflectliteValue.isNil, loadVar, isAgg, underlying, Tryd.underlying89, ha, Result.andThen]

theorem as_methodElem (h : Value) (w : World) : (Go.method 333 161 (.agg #[h]) "Elem").run Tryd.prog w = .ok (129, .agg #[h]) w := by kernel_rfl
theorem as_methodImplements (h : Value) (w : World) : (Go.method 333 161 (.agg #[h]) "Implements").run Tryd.prog w = .ok (130, .agg #[h]) w := by kernel_rfl
theorem as_methodAssignableTo (h : Value) (w : World) : (Go.method 333 161 (.agg #[h]) "AssignableTo").run Tryd.prog w = .ok (127, .agg #[h]) w := by kernel_rfl
theorem as_elem_pp (w : World) : (ReflectliteType.method ReflectliteType.elem #[.agg #[.pointer (some ⟨1, 89, none⟩)]]).run Tryd.prog w = .ok (.iface 161 (.agg #[.pointer (some ⟨1, 87, none⟩)])) w := by kernel_rfl
theorem as_implements_p (w : World) : (ReflectliteType.relation "Implements" ReflectliteType.implements_ #[.agg #[.pointer (some ⟨1, 87, none⟩)], .iface 161 (.agg #[.pointer (some ⟨1, 29, none⟩)])]).run Tryd.prog w = .ok (.bool true) w := by kernel_rfl
theorem as_typeOf_p (v : Value) (w : World) : (ReflectliteType.typeOf #[.iface 87 v]).run Tryd.prog w = .ok (.iface 161 (.agg #[.pointer (some ⟨1, 87, none⟩)])) w := by kernel_rfl
theorem as_assignable_p (w : World) : (ReflectliteType.relation "AssignableTo" ReflectliteType.assignableTo #[.agg #[.pointer (some ⟨1, 87, none⟩)], .iface 161 (.agg #[.pointer (some ⟨1, 87, none⟩)])]).run Tryd.prog w = .ok (.bool true) w := by kernel_rfl
theorem as_valueOf_p (e : Addr) (w : World) : (ReflectliteValue.unpack (.iface 87 (.pointer (some e)))).run Tryd.prog w
    = .ok (.agg #[.pointer (some ⟨1, 87, none⟩), .pointer (some ⟨w.heap.size, 0, none⟩), .int .u64 150]) (w.alloc (.cells #[.pointer (some e)] 87)) := by kernel_rfl

theorem as_elemOf_pp (w : World) : (Rtype.elem? 89).run Tryd.prog w = .ok (some 87) w := by kernel_rfl
theorem as_mk_p (p : Addr) (w : World) : (ReflectliteValue.mk 87 p ReflectliteValue.flagAddr).run Tryd.prog w = .ok (.agg #[.pointer (some ⟨1, 87, none⟩), .pointer (some p), .int .u64 406]) w := by kernel_rfl
/-- (Value).Elem at the Value of a **p.E that is not nil: the Value of the *p.E variable that it points to, addressable. -/
theorem as_elemV_pp (a p : Addr) (W : World) (ha : W.cell? a = some (.pointer (some p))) :
    (ReflectliteValue.method (ReflectliteValue.valueError "reflectlite.Value.Elem" 0) ReflectliteValue.elem #[.agg #[.pointer (some ⟨1, 89, none⟩), .pointer (some a), .int .u64 150]]).run Tryd.prog W
      = .ok (.agg #[.pointer (some ⟨1, 87, none⟩), .pointer (some p), .int .u64 406]) W := by
  rw [rlm]
  simp only [Sem.run_bind, as_parts_pp, Result.andThen]
  simp [ReflectliteValue.elem, loadVar, isAgg, underlying, Tryd.underlying89, ha, Result.andThen, as_elemOf_pp, as_mk_p]
theorem rls (v x : Value) : ReflectliteValue.set #[v, x] = (do
    let (some (dst, a, fl), some (src, b, _)) := (← ReflectliteValue.parts v, ← ReflectliteValue.parts x)
      | unsupported (.noEntry "extern/(internal/reflectlite.Value).Set.zeroValue")
    if fl / ReflectliteValue.flagAddr % 2 == 0 then unsupported (.noEntry "extern/(internal/reflectlite.Value).Set.unaddressable")
    let val ← loadVar src b
    if ← Rtype.directlyAssignable dst src then storeVar dst a val
    else if ← Rtype.implements dst src then
      if (← Rtype.kind src) == 20 then
        match val with
        | .nilIface => unsupported (.noEntry "extern/reflectlite: a nil value of one interface type handed on as a value of another")
        | _ => storeVar dst a val
      else storeVar dst a (.iface src val)
    else panicString ("reflectlite.Set: value of type " ++ (← Rtype.spelt src) ++ " is not assignable to type " ++ (← Rtype.spelt dst))
    pure (.tuple #[])) := rfl
theorem as_parts_pa (a : Addr) (w : World) : (ReflectliteValue.parts (.agg #[.pointer (some ⟨1, 87, none⟩), .pointer (some a), .int .u64 406])).run Tryd.prog w = .ok (some (87, a, 406)) w := by kernel_rfl
theorem as_parts_p (a : Addr) (w : World) : (ReflectliteValue.parts (.agg #[.pointer (some ⟨1, 87, none⟩), .pointer (some a), .int .u64 150])).run Tryd.prog w = .ok (some (87, a, 150)) w := by kernel_rfl
theorem as_direct_p (w : World) : (Rtype.directlyAssignable 87 87).run Tryd.prog w = .ok true w := by kernel_rfl
theorem as_size_p (w : World) : (sizeOf 87).run Tryd.prog w = .ok 1 w := by kernel_rfl
/-- (Value).Set: the *p.E variable at 'ta' gets what the Value's own variable 'b' holds. -/
theorem as_set_p (ta b e : Addr) (old : Value) (W : World) (hb : W.cell? b = some (.pointer (some e))) (ht : W.cell? ta = some old) (hf : W.frozen? ta = false) :
    (ReflectliteValue.set #[.agg #[.pointer (some ⟨1, 87, none⟩), .pointer (some ta), .int .u64 406], .agg #[.pointer (some ⟨1, 87, none⟩), .pointer (some b), .int .u64 150]]).run Tryd.prog W
      = .ok (.tuple #[]) (W.setCell ta (.pointer (some e))) := by
  rw [rls]
  simp only [Sem.run_bind, as_parts_pa, as_parts_p, Result.andThen]
  simp [ReflectliteValue.flagAddr, loadVar, isAgg, underlying, Tryd.underlying87, hb, Result.andThen, as_direct_p, storeVar, Value.cells, storeCells, Addr.add]
  rw [run_store Tryd.prog W ta _ _ (by rfl)]
  simp [ht, hf]

set_option maxHeartbeats 4000000 in
theorem as_hit (e t : Addr) (old : Value) (w : World) (hg : w.cell? ⟨0, 0, none⟩ = some (.iface 161 (.agg #[.pointer (some ⟨1, 29, none⟩)]))) (ht0 : w.cell? t = some old) (hf0 : w.frozen? t = false) :
    Calls Tryd.prog 35 #[.iface 87 (.pointer (some e)), .iface 89 (.pointer (some t))] w fun ev w' => ev = .returned (.bool true) ∧ w' = ((((w.alloc (.cells #[.pointer (some t)] 89)).alloc (.cells #[.pointer (some ⟨1, 89, none⟩), .pointer (some ⟨w.heap.size, 0, none⟩), .int .u64 150] 135)).alloc (.cells #[.pointer (some ⟨1, 89, none⟩), .pointer (some ⟨w.heap.size, 0, none⟩), .int .u64 150] 135)).alloc (.cells #[.pointer (some e)] 87)).setCell t (.pointer (some e)) := by
  have h6 := @run_callFunc_extern Tryd.prog 56 _ (fun args => ReflectliteValue.unpack (args.getD 0 (.tuple #[]))) Tryd.func56 (by kernel_rfl) (by kernel_rfl) (by kernel_rfl) (by kernel_rfl)
  have h7 := @run_callFunc_extern Tryd.prog 57 _ (ReflectliteValue.methodAny (ReflectliteValue.valueError "reflectlite.Value.Type" 0) (fun t _ _ _ => ReflectliteType.toType t)) Tryd.func57 (by kernel_rfl) (by kernel_rfl) (by kernel_rfl) (by kernel_rfl)
  have h8 := @run_callFunc_extern Tryd.prog 58 _ (ReflectliteValue.method (ReflectliteValue.valueError "reflectlite.Value.IsNil" 0) ReflectliteValue.isNil) Tryd.func58 (by kernel_rfl) (by kernel_rfl) (by kernel_rfl) (by kernel_rfl)
  have h27 := @run_callFunc_extern Tryd.prog 117 _ (ReflectliteType.abiMethod fun t => do pure (.int .u8 (← Rtype.kind t))) Tryd.func117 (by kernel_rfl) (by kernel_rfl) (by kernel_rfl) (by kernel_rfl)
  have h37 := @run_callFunc_extern Tryd.prog 129 _ (ReflectliteType.method ReflectliteType.elem) Tryd.func129 (by kernel_rfl) (by kernel_rfl) (by kernel_rfl) (by kernel_rfl)
  have h38 := @run_callFunc_extern Tryd.prog 130 _ (ReflectliteType.relation "Implements" ReflectliteType.implements_) Tryd.func130 (by kernel_rfl) (by kernel_rfl) (by kernel_rfl) (by kernel_rfl)
  have h10 := @run_callFunc_extern Tryd.prog 60 _ ReflectliteType.typeOf Tryd.func60 (by kernel_rfl) (by kernel_rfl) (by kernel_rfl) (by kernel_rfl)
  have h35 := @run_callFunc_extern Tryd.prog 127 _ (ReflectliteType.relation "AssignableTo" ReflectliteType.assignableTo) Tryd.func127 (by kernel_rfl) (by kernel_rfl) (by kernel_rfl) (by kernel_rfl)
  have h11 := @run_callFunc_extern Tryd.prog 73 _ (ReflectliteValue.method (ReflectliteValue.valueError "reflectlite.Value.Elem" 0) ReflectliteValue.elem) Tryd.func73 (by kernel_rfl) (by kernel_rfl) (by kernel_rfl) (by kernel_rfl)
  have h12 := @run_callFunc_extern Tryd.prog 74 _ ReflectliteValue.set Tryd.func74 (by kernel_rfl) (by kernel_rfl) (by kernel_rfl) (by kernel_rfl)
  have tO := as_typeOf_p
  have mA := as_methodAssignableTo
  have a25 := as_assignable_p
  have v25 := as_valueOf_p
  have f6 := as_valueOf_pp
  have f7 := as_type_pp
  have mK := as_methodKind
  have mE := as_methodElem
  have mI := as_methodImplements
  have k27 := as_kind_pp
  have k25 := as_kind_p
  have e27 := as_elem_pp
  have i25 := as_implements_p
  have n8 := as_isNil_pp ⟨w.heap.size, 0, none⟩ t ((w.alloc (.cells #[.pointer (some t)] 89)).alloc (.cells #[.pointer (some ⟨1, 89, none⟩), .pointer (some ⟨w.heap.size, 0, none⟩), .int .u64 150] 135)) (by simp)
  have hlt : 0 < w.heap.size := World.block_lt_of_cell? w ⟨0, 0, none⟩ hg
  have hg2 : ((w.alloc (.cells #[.pointer (some t)] 89)).alloc (.cells #[.pointer (some ⟨1, 89, none⟩), .pointer (some ⟨w.heap.size, 0, none⟩), .int .u64 150] 135)).cell? ⟨0, 0, none⟩ = some (.iface 161 (.agg #[.pointer (some ⟨1, 29, none⟩)])) := by
    rw [World.cell?_alloc_lt _ _ ⟨0, 0, none⟩ (by simp), World.cell?_alloc_lt _ _ ⟨0, 0, none⟩ hlt]; exact hg
  have htl : t.block < w.heap.size := by
    rcases Nat.lt_or_ge t.block w.heap.size with h | h
    · exact h
    · simp [World.cell?, Array.getElem?_eq_none h] at ht0
  have el := as_elemV_pp ⟨w.heap.size, 0, none⟩ t (((w.alloc (.cells #[.pointer (some t)] 89)).alloc (.cells #[.pointer (some ⟨1, 89, none⟩), .pointer (some ⟨w.heap.size, 0, none⟩), .int .u64 150] 135)).alloc (.cells #[.pointer (some ⟨1, 89, none⟩), .pointer (some ⟨w.heap.size, 0, none⟩), .int .u64 150] 135)) (by rw [World.cell?_alloc_lt _ _ ⟨w.heap.size, 0, none⟩ (by simp; omega)]; simp)
  have st := as_set_p t ⟨w.heap.size + 1 + 1 + 1, 0, none⟩ e old ((((w.alloc (.cells #[.pointer (some t)] 89)).alloc (.cells #[.pointer (some ⟨1, 89, none⟩), .pointer (some ⟨w.heap.size, 0, none⟩), .int .u64 150] 135)).alloc (.cells #[.pointer (some ⟨1, 89, none⟩), .pointer (some ⟨w.heap.size, 0, none⟩), .int .u64 150] 135)).alloc (.cells #[.pointer (some e)] 87))
    (by rw [World.cell?_alloc_at _ _ _ _ (by simp)]; rfl)
    (by rw [World.cell?_alloc_lt _ _ t (by simp; omega), World.cell?_alloc_lt _ _ t (by simp; omega), World.cell?_alloc_lt _ _ t (by simp; omega), World.cell?_alloc_lt _ _ t htl]; exact ht0)
    (by rw [World.frozen?_alloc_old _ _ t (by simp; omega), World.frozen?_alloc_old _ _ t (by simp; omega), World.frozen?_alloc_old _ _ t (by simp; omega), World.frozen?_alloc_old _ _ t (Nat.ne_of_lt htl)]; exact hf0)
  go_enter Tryd.func35, Tryd.ntmps35
  go_wp2
  refine wp_loop_rounds 1 ?_
  rw [rounds_succ]
  go_wp2
  go_ret
  exact ⟨rfl, rfl⟩

/-- What the variable holds that errors.As reads. -/
def etCell : List AV := [.p (.iface 161 (.agg #[.pointer (some ⟨1, 29, none⟩)]))]
def asI : AsI := ⟨35, 89, 87, 95, 0⟩
theorem as_ok [GTab] (hgt : GTab.cells 0 = etCell) : AsOk Tryd.prog asI := by
  refine ⟨fun vs w => Tryd.call35 vs w, fun t w => as_nil t w, fun e b old T w hg hb => ?_⟩
  have hg0 : w.cell? ⟨0, 0, none⟩ = some (.iface 161 (.agg #[.pointer (some ⟨1, 29, none⟩)])) := by
    obtain ⟨v, h1, h2⟩ := hg 0 _ (by show (GTab.cells 0)[0]? = _; rw [hgt]; rfl)
    cases h2
    exact h1
  have hbl : b < w.heap.size := (Array.getElem?_eq_some_iff.1 hb).1
  refine (as_hit e ⟨b, 0, none⟩ old w hg0 (by simp [World.cell?, hb]) (by simp [World.frozen?, hb])).mono fun ev w' ⟨he, hw⟩ => ?_
  subst hw
  have old : ∀ (o1 o2 o3 o4 : Obj) (k : Nat), k < w.heap.size → ((((w.alloc o1).alloc o2).alloc o3).alloc o4).heap[k]? = w.heap[k]? := fun o1 o2 o3 o4 k hk => by
    rw [heap_alloc_old _ _ (by simp; omega), heap_alloc_old _ _ (by simp; omega), heap_alloc_old _ _ (by simp; omega), heap_alloc_old _ _ hk]
  refine ⟨he, rfl, rfl, rfl, by simp [World.setCell]; omega, fun k hk hne => ?_, ?_⟩
  · rw [Below.heap_setCell _ _ _ _ hne, old _ _ _ _ k hk]
  · simp only [World.setCell, Array.getElem?_modify]
    rw [if_pos trivial, old _ _ _ _ b hbl, hb]
    rfl
end Go.Proofs.YtppobdnacmdgbaaDoor

/- Vp, part m: how abstract runs are reckoned: rewriting rules. -/
import Derived.Test.YtmbepfdnmgiifaaVl
set_option linter.unusedVariables false
set_option linter.unusedSimpArgs false
namespace Go.Vp
open Go.RowKit

section
variable {P : Program} {nt : Nat} {ops : Array Oper} {σ : St} {K : St → Prop}
theorem Ops_nil {ph : Ph K} : Ops P nt ops [] σ K ph = K σ := propext ⟨fun h => h, fun h => h⟩
theorem Ops_plain {d : Option Tmp} {op : Op} {ty : TypeId} {pos : String} {after : Array Edge} {rest : List Oper} {ph : Ph K} :
    Ops P nt ops (⟨d, op, ty, pos, after, none⟩ :: rest) σ K ph = (okDst nt d = true ∧ bO (ypure P σ true op) (fun ok r => ok ∧ Ops P nt ops rest (σ.put d r) K ph) (aimp P σ true ⟨d, op, ty, pos, after, none⟩ (fun σ' => Ops P nt ops rest σ' K ph)) .mk .mk) := propext ⟨fun h => h, fun h => h⟩
theorem Ops_guard {d : Option Tmp} {op : Op} {ty : TypeId} {pos : String} {after : Array Edge} {rest : List Oper} {j : Nat} {want : Bool} {ph : Ph K} :
    Ops P nt ops (⟨d, op, ty, pos, after, some (j, want)⟩ :: rest) σ K ph = (okDst nt d = true ∧ oM (gslot ops j) (fun s => s < nt ∧ oM (gq want (look σ.t s)) (fun g =>
        bO (ypure P σ g op) (fun ok r => (g = true → ok) ∧ Ops P nt ops rest (σ.put d (.gd g r)) K ph)
          ((g = true → aimp P σ g ⟨d, op, ty, pos, after, some (j, want)⟩ (fun σ' => Ops P nt ops rest σ' K ph)) ∧ (g = false → Ops P nt ops rest (σ.put d (.p undef)) K ph)) .mk .mk) .mk) .mk) := propext ⟨fun h => h, fun h => h⟩
theorem Pur_nil {ph : Ph K} : Pur P nt ops [] σ K ph = K σ := propext ⟨fun h => h, fun h => h⟩
theorem Pur_plain {d : Option Tmp} {op : Op} {ty : TypeId} {pos : String} {after : Array Edge} {rest : List Oper} {ph : Ph K} :
    Pur P nt ops (⟨d, op, ty, pos, after, none⟩ :: rest) σ K ph = (okDst nt d = true ∧ bO (ypure P σ true op) (fun ok r => ok ∧ Pur P nt ops rest (σ.put d r) K ph) (qimp P (ev σ) true op (fun r => Pur P nt ops rest (σ.put d r) K ph) .mk) .mk .mk) := propext ⟨fun h => h, fun h => h⟩
theorem Pur_guard {d : Option Tmp} {op : Op} {ty : TypeId} {pos : String} {after : Array Edge} {rest : List Oper} {j : Nat} {want : Bool} {ph : Ph K} :
    Pur P nt ops (⟨d, op, ty, pos, after, some (j, want)⟩ :: rest) σ K ph = (okDst nt d = true ∧ oM (gslot ops j) (fun s => s < nt ∧ oM (gq want (look σ.t s)) (fun g =>
        bO (ypure P σ g op) (fun ok r => (g = true → ok) ∧ Pur P nt ops rest (σ.put d (.gd g r)) K ph)
          (Gq g (qimp P (ev σ) g op (fun r => Pur P nt ops rest (σ.put d (.gd g r)) K ph) .mk) (Pur P nt ops rest (σ.put d (.p undef)) K ph) .mk .mk) .mk .mk) .mk) .mk) := propext ⟨fun h => h, fun h => h⟩

theorem okDst_some (d : Nat) : (okDst nt (some d) = true) = (d < nt) := by simp [okDst]
theorem okDst_none : (okDst nt none = true) = True := by simp [okDst]
theorem put_some (t : List (Nat × AV)) (h : AH) (d : Nat) (x : AV) : St.put ⟨t, h⟩ (some d) x = ⟨(d, x) :: t, h⟩ := rfl
theorem put_none (σ : St) (x : AV) : σ.put none x = σ := rfl
theorem look_cons (i j : Nat) (x : AV) (l : List (Nat × AV)) : look ((i, x) :: l) j = if i = j then x else look l j := rfl
theorem ev_tmp (t : List (Nat × AV)) (h : AH) (i : Nat) : ev ⟨t, h⟩ (.tmp i) = look t i := rfl
theorem ev_const (σ : St) (v : Value) : ev σ (.const v) = .p v := rfl
theorem ev_func (σ : St) (f : FuncId) : ev σ (.func f) = .p (.func (.func f) #[] #[]) := rfl
theorem ev_global (σ : St) (g : Nat) : ev σ (.global g) = .p (.pointer (some ⟨g, 0, none⟩)) := rfl
theorem args0_nil (k : Nat) : args0 k [] = [] := rfl
theorem args0_cons (k : Nat) (x : AV) (l : List AV) : args0 k (x :: l) = (k, x) :: args0 (k + 1) l := rfl

theorem seqQ_normal {K : St → Prop} {Q : Exit → St → Prop} {σ : St} : seqQ K Q .normal σ = K σ := rfl
theorem seqQ_exit {K : St → Prop} {Q : Exit → St → Prop} {σ : St} {i : Nat} : seqQ K Q (.exit i) σ = Q (.exit i) σ := rfl
theorem seqQ_ret {K : St → Prop} {Q : Exit → St → Prop} {σ : St} : seqQ K Q .ret σ = Q .ret σ := rfl
theorem blockQ_normal {id : Nat} {Q : Exit → St → Prop} {σ : St} : blockQ id Q .normal σ = Q .normal σ := rfl
theorem blockQ_ret {id : Nat} {Q : Exit → St → Prop} {σ : St} : blockQ id Q .ret σ = Q .ret σ := rfl
theorem blockQ_exit {id i : Nat} {Q : Exit → St → Prop} {σ : St} : blockQ id Q (.exit i) σ = if i = id then Q .normal σ else Q (.exit i) σ := rfl

theorem asBool?_bool (b : Bool) : asBool? (.p (.bool b)) = some b := rfl
theorem asBp_bp (i o : Nat) : asBp (.bp i o) = some (i, o) := rfl
theorem boxOf_box (l : List AV) : boxOf (some (.box l)) = some l := rfl
theorem two_two {α : Type} (x y : α) : two [x, y] = some (x, y) := rfl
theorem ownS_own (i s : Nat) (e : List (List AV)) : ownS (.own i s e) = some (i, s, e) := rfl
theorem ownS_p (v : Value) : ownS (.p v) = none := rfl
theorem ownS_sl (s : Nat) (e : List (List AV)) (c : Option Nat) : ownS (.sl s e c) = none := rfl
theorem fullS_nil (s : Nat) : fullS s (.p (.slice none 0 0)) = some [] := rfl
theorem fullS_sl (s size c : Nat) (e : List (List AV)) : fullS s (.sl size e (some c)) = if size = s ∧ e.length = c then some e else none := rfl
theorem asl_nil (s : Nat) : asl s (.p (.slice none 0 0)) = some [] := rfl
theorem asl_sl (s size : Nat) (e : List (List AV)) (c : Option Nat) : asl s (.sl size e c) = if size = s then some e else none := rfl
theorem asl_own (s i size : Nat) (e : List (List AV)) : asl s (.own i size e) = if size = s then some e else none := rfl
theorem isAppend_append : (isAppend (.builtin .append) = true) = True := by simp [isAppend]
theorem isAppend_value (f : Operand) : (isAppend (.value f) = true) = False := by simp [isAppend]
theorem valueOf_value (f : Operand) : valueOf (.value f) = some f := rfl
theorem fcall_func (g : FuncId) (l : List AV) : fcall (.p (.func (.func g) #[] #[])) l = some (g, l) := rfl
theorem fcall_fn (g : FuncId) (a b l : List AV) : fcall (.fn (.func g) a b) l = some (g, a ++ l ++ b) := rfl

theorem new_o (h : AH) (x : AO) : (h.new x).o = upd h.o h.n (some x) := rfl
theorem new_n (h : AH) (x : AO) : (h.new x).n = h.n + 1 := rfl
theorem upd_at (f : Nat → Option AO) (i j : Nat) (x : Option AO) : upd f i x j = if j = i then x else f j := rfl

theorem ug_p (g : Bool) (v : Value) : ug g (.p v) = (True, .p v) := rfl
theorem ug_agg (g : Bool) (l : List AV) : ug g (.agg l) = (True, .agg l) := rfl
theorem ug_tup (g : Bool) (l : List AV) : ug g (.tup l) = (True, .tup l) := rfl
theorem ug_sl (g : Bool) (s : Nat) (e : List (List AV)) (c : Option Nat) : ug g (.sl s e c) = (True, .sl s e c) := rfl
theorem ug_own (g : Bool) (i s : Nat) (e : List (List AV)) : ug g (.own i s e) = (True, .own i s e) := rfl
theorem ug_ep (g : Bool) (l : List AV) : ug g (.ep l) = (True, .ep l) := rfl
theorem ug_bp (g : Bool) (i o : Nat) : ug g (.bp i o) = (True, .bp i o) := rfl
theorem ug_ifc (g : Bool) (t : TypeId) (x : AV) : ug g (.ifc t x) = (True, .ifc t x) := rfl
theorem ug_fn (g : Bool) (f : Fn) (a b : List AV) : ug g (.fn f a b) = (True, .fn f a b) := rfl
theorem ug_gd (g c : Bool) (x : AV) : ug g (.gd c x) = (g = true → c = true, x) := rfl

theorem gq_bool (want b : Bool) : gq want (.p (.bool b)) = some (b == want) := rfl
theorem gq_gd (want c b : Bool) : gq want (.gd c (.p (.bool b))) = some (c && (b == want)) := rfl
theorem sel_bool (c s t : Bool) : sel c (.p (.bool s)) (.p (.bool t)) = .p (.bool (bif c then s else t)) := rfl
theorem ypick_bool {g : Bool} {c a b : AV} {cb : Bool} {q : Prop} (h : ug g c = (q, .p (.bool cb))) :
    ypick g c a b = some (q ∧ (ug (g && cb) a).1 ∧ (ug (g && !cb) b).1, sel cb (ug (g && cb) a).2 (ug (g && !cb) b).2) := by
  unfold ypick; rw [h]

section
variable {t : TypeId} {x y : Operand} {k k' : IntKind} {a b : Int}
theorem abop_eql : abop P .eql t x y (.p (.int k a)) (.p (.int k' b)) = some (k = k', .p (.bool (a == b))) := rfl
theorem abop_neq : abop P .neq t x y (.p (.int k a)) (.p (.int k' b)) = some (k = k', .p (.bool (a != b))) := rfl
theorem abop_lss : abop P .lss t x y (.p (.int k a)) (.p (.int k' b)) = some (k = k', .p (.bool (decide (a < b)))) := rfl
theorem abop_leq : abop P .leq t x y (.p (.int k a)) (.p (.int k' b)) = some (k = k', .p (.bool (decide (a ≤ b)))) := rfl
theorem abop_gtr : abop P .gtr t x y (.p (.int k a)) (.p (.int k' b)) = some (k = k', .p (.bool (decide (b < a)))) := rfl
theorem abop_geq : abop P .geq t x y (.p (.int k a)) (.p (.int k' b)) = some (k = k', .p (.bool (decide (b ≤ a)))) := rfl
theorem abop_add : abop P .add t x y (.p (.int k a)) (.p (.int k' b)) = some (k = k', .p (.int k (k.wrap (a + b)))) := rfl
theorem abop_sub : abop P .sub t x y (.p (.int k a)) (.p (.int k' b)) = some (k = k', .p (.int k (k.wrap (a - b)))) := rfl
theorem abop_mul : abop P .mul t x y (.p (.int k a)) (.p (.int k' b)) = some (k = k', .p (.int k (k.wrap (a * b)))) := rfl
theorem abop_quo : abop P .quo t x y (.p (.int k a)) (.p (.int k' b)) = some (k = k' ∧ b ≠ 0, .p (.int k (k.wrap (a.tdiv b)))) := rfl
theorem abop_rem : abop P .rem t x y (.p (.int k a)) (.p (.int k' b)) = some (k = k' ∧ b ≠ 0, .p (.int k (a.tmod b))) := rfl
theorem abop_shl : abop P .shl t x y (.p (.int k a)) (.p (.int k' b)) = some (0 ≤ b, .p (.int k (k.wrap (a * 2 ^ (min b.toNat k.bits))))) := rfl
theorem abop_shr : abop P .shr t x y (.p (.int k a)) (.p (.int k' b)) = some (0 ≤ b, .p (.int k (a.fdiv (2 ^ (min b.toNat k.bits))))) := rfl
theorem abop_and : abop P .and t x y (.p (.int k a)) (.p (.int k' b)) = some (k = k', .p (.int k (k.wrap (BitVec.ofInt k.bits a &&& BitVec.ofInt k.bits b).toNat))) := rfl
theorem abop_or : abop P .or t x y (.p (.int k a)) (.p (.int k' b)) = some (k = k', .p (.int k (k.wrap (BitVec.ofInt k.bits a ||| BitVec.ofInt k.bits b).toNat))) := rfl
theorem abop_xor : abop P .xor t x y (.p (.int k a)) (.p (.int k' b)) = some (k = k', .p (.int k (k.wrap (BitVec.ofInt k.bits a ^^^ BitVec.ofInt k.bits b).toNat))) := rfl
theorem abop_andNot : abop P .andNot t x y (.p (.int k a)) (.p (.int k' b)) = some (k = k', .p (.int k (k.wrap (BitVec.ofInt k.bits a &&& ~~~BitVec.ofInt k.bits b).toNat))) := rfl
variable {s r : ByteArray}
theorem abop_sadd : abop P .add t x y (.p (.string s)) (.p (.string r)) = some (s.size + r.size ≤ maxLen, .p (.string (s ++ r))) := rfl
theorem abop_seql : abop P .eql t x y (.p (.string s)) (.p (.string r)) = some (True, .p (.bool (s.toList == r.toList))) := rfl
theorem abop_sneq : abop P .neq t x y (.p (.string s)) (.p (.string r)) = some (True, .p (.bool (!(s.toList == r.toList)))) := rfl
variable {u v : Bool}
theorem abop_beql : abop P .eql t x y (.p (.bool u)) (.p (.bool v)) = (aeq P t x y (.p (.bool u)) (.p (.bool v))).map fun r => (r.1, .p (.bool r.2)) := rfl
theorem abop_bneq : abop P .neq t x y (.p (.bool u)) (.p (.bool v)) = (aeq P t x y (.p (.bool u)) (.p (.bool v))).map fun r => (r.1, .p (.bool (!r.2))) := rfl
variable {z q : AV} {vp : Option Addr}
theorem abop_peql : abop P .eql t x y z (.p (.pointer vp)) = (aeq P t x y z (.p (.pointer vp))).map fun r => (r.1, .p (.bool r.2)) := by cases z <;> first | rfl | (rename_i v; cases v <;> rfl)
theorem abop_pneq : abop P .neq t x y z (.p (.pointer vp)) = (aeq P t x y z (.p (.pointer vp))).map fun r => (r.1, .p (.bool (!r.2))) := by cases z <;> first | rfl | (rename_i v; cases v <;> rfl)
theorem abop_leql {n c : Nat} : abop P .eql t x y z (.p (.slice vp n c)) = (aeq P t x y z (.p (.slice vp n c))).map fun r => (r.1, .p (.bool r.2)) := by cases z <;> first | rfl | (rename_i v; cases v <;> rfl)
theorem abop_lneq {n c : Nat} : abop P .neq t x y z (.p (.slice vp n c)) = (aeq P t x y z (.p (.slice vp n c))).map fun r => (r.1, .p (.bool (!r.2))) := by cases z <;> first | rfl | (rename_i v; cases v <;> rfl)
theorem abop_ieql : abop P .eql t x y z (.p .nilIface) = (aeq P t x y z (.p .nilIface)).map fun r => (r.1, .p (.bool r.2)) := by cases z <;> first | rfl | (rename_i v; cases v <;> rfl)
theorem abop_ineq : abop P .neq t x y z (.p .nilIface) = (aeq P t x y z (.p .nilIface)).map fun r => (r.1, .p (.bool (!r.2))) := by cases z <;> first | rfl | (rename_i v; cases v <;> rfl)
theorem abop_feql : abop P .eql t x y z (.p .nilFunc) = (aeq P t x y z (.p .nilFunc)).map fun r => (r.1, .p (.bool r.2)) := by cases z <;> first | rfl | (rename_i v; cases v <;> rfl)
theorem abop_fneq : abop P .neq t x y z (.p .nilFunc) = (aeq P t x y z (.p .nilFunc)).map fun r => (r.1, .p (.bool (!r.2))) := by cases z <;> first | rfl | (rename_i v; cases v <;> rfl)
end
theorem aun_not (b : Bool) : aun .not (.p (.bool b)) = some (.p (.bool (!b))) := rfl
theorem aun_neg (k : IntKind) (n : Int) : aun .neg (.p (.int k n)) = some (.p (.int k (k.wrap (0 - n)))) := rfl
theorem aconvd_int {k k' : IntKind} {n : Int} : aconvd (.int k) (.p (.int k' n)) = some (.p (.int k (k.wrap n))) := rfl
theorem aconvd_string {r : ByteArray} : aconvd .string (.p (.string r)) = some (.p (.string r)) := rfl
theorem posO_some (b : Bool) (n : Nat) : posO (some (b, n)) = decide (0 < n) := rfl
theorem afieldc_bp {ok : Bool} {off id o : Nat} : afieldc ok off (.bp id o) = some (ok = true, .bp id (o + off)) := rfl
theorem afieldc_ep {ok : Bool} {off : Nat} {cs : List AV} : afieldc ok off (.ep cs) = some (ok = true, .ep (cs.drop off)) := rfl
theorem aloadc_ep {h : AH} {b : Bool} {n : Nat} {cs : List AV} : aloadc h b n (.ep cs) = cellsOf cs b n := rfl
theorem aloadc_bp {h : AH} {b : Bool} {n id off : Nat} : aloadc h b n (.bp id off) = (boxOf (h.o id)).bind fun l => cellsOf (l.drop off) b n := rfl
theorem cellsOf_one {cs : List AV} {n : Nat} : cellsOf cs false n = cs.head? := rfl
theorem cellsOf_agg {cs : List AV} {n : Nat} : cellsOf cs true n = if n ≤ cs.length then some (.agg (cs.take n)) else none := rfl
theorem alend_string {s : ByteArray} : alend .string (.p (.string s)) = some (.p (.int .i64 s.size)) := rfl
theorem alend_sl {e : TypeId} {s : Nat} {l : List (List AV)} {c : Option Nat} : alend (.slice e) (.sl s l c) = some (.p (.int .i64 l.length)) := rfl
theorem alend_own {e : TypeId} {i s : Nat} {l : List (List AV)} : alend (.slice e) (.own i s l) = some (.p (.int .i64 l.length)) := rfl
theorem alend_nil {e : TypeId} {a : Option Addr} {n c : Nat} : alend (.slice e) (.p (.slice a n c)) = some (.p (.int .i64 n)) := rfl
theorem amm_int {mx : Bool} {k k' : IntKind} {a b : Int} : amm mx (.p (.int k a)) (.p (.int k' b)) = some (k = k', .p (.int k (if mx then max a b else min a b))) := rfl
theorem yb_len {t : TypeId} {x : AV} : ybuiltin P .len [t] [x] = (alen P t x).map fun r => (True, r) := rfl
theorem yb_min {ts : List TypeId} {x y : AV} : ybuiltin P .min ts [x, y] = amm false x y := rfl
theorem yb_max {ts : List TypeId} {x y : AV} : ybuiltin P .max ts [x, y] = amm true x y := rfl
theorem yb_append {ts : List TypeId} {xs : List AV} : ybuiltin P .append ts xs = none := rfl
theorem aindex_sl {t : TypeId} {size : Nat} {l : List (List AV)} {c : Option Nat} {k : IntKind} {n : Int} : aindex P t (.sl size l c) (.p (.int k n)) = (te P t).map fun e => (e.2 = size ∧ 0 ≤ n ∧ n < l.length, .ep (l.getD n.toNat [])) := rfl
theorem aindex_own {t : TypeId} {i size : Nat} {l : List (List AV)} {k : IntKind} {n : Int} : aindex P t (.own i size l) (.p (.int k n)) = (te P t).map fun e => (e.2 = size ∧ 0 ≤ n ∧ n < l.length, .ep (l.getD n.toNat [])) := rfl
theorem aindex_bp {t : TypeId} {i o : Nat} {k : IntKind} {n : Int} : aindex P t (.bp i o) (.p (.int k n)) = (ta P t).map fun e => (0 ≤ n ∧ n < e.1, .bp i (o + n.toNat * e.2.2)) := rfl
theorem aindex_ep {t : TypeId} {cs : List AV} {k : IntKind} {n : Int} : aindex P t (.ep cs) (.p (.int k n)) = (ta P t).map fun e => (0 ≤ n ∧ n < e.1, .ep (cs.drop (n.toNat * e.2.2))) := rfl

theorem retP_ret {fn : Func} {h : AH} {r : AV} {σ : St} : retP P fn h r .ret σ = ((aresults P σ fn.results.toList).map (fun l => w3 (joined l)) = some r ∧ Same h.n σ.h.o h.o) := rfl
theorem retP_normal {fn : Func} {h : AH} {r : AV} {σ : St} : retP P fn h r .normal σ = ((aresults P σ fn.results.toList).map (fun l => w3 (joined l)) = some r ∧ Same h.n σ.h.o h.o) := rfl
theorem retQ_ret {fn : Func} {h : AH} {Q : AV → AH → Prop} {σ : St} : retQ P fn h Q .ret σ = ∃ l, aresults P σ fn.results.toList = some l ∧ ∃ r h', (r = joined l ∨ r = w3 (joined l)) ∧ h.n ≤ h'.n ∧ h'.n ≤ σ.h.n ∧ (∀ id, id < h'.n → h'.o id = σ.h.o id) ∧ Lt h'.n r ∧ h'.ok ∧ Q r h' := rfl
theorem ares1 {t : Tmp} : aresults P σ [.tmp t] = some [look σ.t t] := rfl
theorem ares2 {t u : Tmp} : aresults P σ [.tmp t, .tmp u] = some [look σ.t t, look σ.t u] := rfl
theorem ares3 {t u v : Tmp} : aresults P σ [.tmp t, .tmp u, .tmp v] = some [look σ.t t, look σ.t u, look σ.t v] := rfl
theorem joined1 (x : AV) : joined [x] = x := rfl
theorem joined2 (x y : AV) : joined [x, y] = .tup [x, y] := rfl
theorem joined3 (x y z : AV) : joined [x, y, z] = .tup [x, y, z] := rfl
theorem w3_p (v : Value) : w3 (.p v) = .p v := rfl
theorem w3_sl (s : Nat) (l : List (List AV)) (c : Option Nat) : w3 (.sl s l c) = .sl s l c := rfl
theorem w3_own (i s : Nat) (l : List (List AV)) : w3 (.own i s l) = .sl s l none := rfl
theorem w3_agg (l : List AV) : w3 (.agg l) = .agg (l.map w1) := rfl
theorem w3_tup (l : List AV) : w3 (.tup l) = .tup (l.map w2) := rfl
theorem w3_ifc (t : TypeId) (x : AV) : w3 (.ifc t x) = .ifc t x := rfl
theorem w3_ep (l : List AV) : w3 (.ep l) = .ep l := rfl
theorem w2_p (v : Value) : w2 (.p v) = .p v := rfl
theorem w2_sl (s : Nat) (l : List (List AV)) (c : Option Nat) : w2 (.sl s l c) = .sl s l c := rfl
theorem w2_own (i s : Nat) (l : List (List AV)) : w2 (.own i s l) = .sl s l none := rfl
theorem w2_agg (l : List AV) : w2 (.agg l) = .agg (l.map w1) := rfl
theorem w2_ifc (t : TypeId) (x : AV) : w2 (.ifc t x) = .ifc t x := rfl
theorem w2_ep (l : List AV) : w2 (.ep l) = .ep l := rfl
theorem w2_bp (i o : Nat) : w2 (.bp i o) = .bp i o := rfl
theorem w2_fn (f : Fn) (a b : List AV) : w2 (.fn f a b) = .fn f a b := rfl
theorem w1_p (v : Value) : w1 (.p v) = .p v := rfl
theorem w1_sl (s : Nat) (l : List (List AV)) (c : Option Nat) : w1 (.sl s l c) = .sl s l c := rfl
theorem w1_own (i s : Nat) (l : List (List AV)) : w1 (.own i s l) = .sl s l none := rfl
theorem w1_ifc (t : TypeId) (x : AV) : w1 (.ifc t x) = .ifc t x := rfl
theorem w1_ep (l : List AV) : w1 (.ep l) = .ep l := rfl
theorem w1_bp (i o : Nat) : w1 (.bp i o) = .bp i o := rfl
theorem cells_agg (l : List AV) : (AV.agg l).cells = l := rfl
theorem cells_p (v : Value) : (AV.p v).cells = [.p v] := rfl
theorem cells_sl (s : Nat) (l : List (List AV)) (c : Option Nat) : (AV.sl s l c).cells = [.sl s l c] := rfl
theorem cells_own (i s : Nat) (l : List (List AV)) : (AV.own i s l).cells = [.own i s l] := rfl
theorem cells_ifc (t : TypeId) (x : AV) : (AV.ifc t x).cells = [.ifc t x] := rfl
theorem cells_ep (l : List AV) : (AV.ep l).cells = [.ep l] := rfl
theorem cells_bp (i o : Nat) : (AV.bp i o).cells = [.bp i o] := rfl
theorem cells_fn (f : Fn) (a b : List AV) : (AV.fn f a b).cells = [.fn f a b] := rfl
theorem retF_ret {fn : Func} {h : AH} {r : AV} {σ : St} : retF P fn h r .ret σ = ((aresults P σ fn.results.toList).map (fun l => fc3 (w3 (joined l))) = some r ∧ Same h.n σ.h.o h.o) := rfl
theorem retF_normal {fn : Func} {h : AH} {r : AV} {σ : St} : retF P fn h r .normal σ = ((aresults P σ fn.results.toList).map (fun l => fc3 (w3 (joined l))) = some r ∧ Same h.n σ.h.o h.o) := rfl
theorem fc3_p (v : Value) : fc3 (.p v) = .p v := rfl
theorem fc3_sl (s : Nat) (l : List (List AV)) (c : Option Nat) : fc3 (.sl s l c) = .sl s l none := rfl
theorem fc3_agg (l : List AV) : fc3 (.agg l) = .agg (l.map fc1) := rfl
theorem fc3_tup (l : List AV) : fc3 (.tup l) = .tup (l.map fc2) := rfl
theorem fc3_ifc (t : TypeId) (x : AV) : fc3 (.ifc t x) = .ifc t x := rfl
theorem fc3_ep (l : List AV) : fc3 (.ep l) = .ep l := rfl
theorem fc2_p (v : Value) : fc2 (.p v) = .p v := rfl
theorem fc2_sl (s : Nat) (l : List (List AV)) (c : Option Nat) : fc2 (.sl s l c) = .sl s l none := rfl
theorem fc2_agg (l : List AV) : fc2 (.agg l) = .agg (l.map fc1) := rfl
theorem fc2_ifc (t : TypeId) (x : AV) : fc2 (.ifc t x) = .ifc t x := rfl
theorem fc2_ep (l : List AV) : fc2 (.ep l) = .ep l := rfl
theorem fc1_p (v : Value) : fc1 (.p v) = .p v := rfl
theorem fc1_sl (s : Nat) (l : List (List AV)) (c : Option Nat) : fc1 (.sl s l c) = .sl s l none := rfl
theorem fc1_ifc (t : TypeId) (x : AV) : fc1 (.ifc t x) = .ifc t x := rfl
theorem fc1_ep (l : List AV) : fc1 (.ep l) = .ep l := rfl
theorem nk1 (n k : Nat) : (n = n + (k + 1)) = False := propext ⟨fun h => by omega, fun h => h.elim⟩
theorem nk2 (n k : Nat) : (n + (k + 1) = n) = False := propext ⟨fun h => by omega, fun h => h.elim⟩
theorem nk3 (n a b : Nat) : (n + a = n + b) = (a = b) := propext ⟨fun h => by omega, fun h => by omega⟩
theorem same_refl (n : Nat) (f : Nat → Option AO) : Same n f f = True := propext ⟨fun _ => trivial, fun _ _ _ => rfl⟩
theorem same_upd (n : Nat) (f g : Nat → Option AO) (x : Option AO) : Same n (upd f n x) g = Same n f g := propext ⟨fun h id hid => by rw [← h id hid, upd_other _ _ (by omega)], fun h id hid => by rw [upd_other _ _ (by omega)]; exact h id hid⟩
theorem same_updk (n k : Nat) (f g : Nat → Option AO) (x : Option AO) : Same n (upd f (n + k) x) g = Same n f g := propext ⟨fun h id hid => by rw [← h id hid, upd_other _ _ (by omega)], fun h id hid => by rw [upd_other _ _ (by omega)]; exact h id hid⟩
theorem known_p_int (k : IntKind) (n : Int) : known (.p (.int k n)) = true := rfl
theorem known_p_bool (b : Bool) : known (.p (.bool b)) = true := rfl
theorem known_p_string (s : ByteArray) : known (.p (.string s)) = true := rfl
theorem known_p_slice (a : Option Addr) (n c : Nat) : known (.p (.slice a n c)) = true := rfl
theorem known_p_pointer (a : Option Addr) : known (.p (.pointer a)) = true := rfl
theorem known_p_nilIface : known (.p .nilIface) = true := rfl
theorem known_p_iface (t : TypeId) (v : Value) : known (.p (.iface t v)) = true := rfl
theorem known_p_func (f : Fn) (a b : Array Value) : known (.p (.func f a b)) = true := rfl
theorem known_p_map (m : Option Nat) : known (.p (.map m)) = true := rfl
theorem known_agg (l : List AV) : known (.agg l) = l.all one := rfl
theorem known_sl (s : Nat) (l : List (List AV)) (c : Option Nat) : known (.sl s l c) = true := rfl
theorem known_own (i s : Nat) (l : List (List AV)) : known (.own i s l) = true := rfl
theorem known_ep (l : List AV) : known (.ep l) = true := rfl
theorem known_bp (i o : Nat) : known (.bp i o) = true := rfl
theorem known_ifc (t : TypeId) (x : AV) : known (.ifc t x) = true := rfl
theorem known_fn (f : Fn) (a b : List AV) : known (.fn f a b) = true := rfl
theorem one_p_int (k : IntKind) (n : Int) : one (.p (.int k n)) = true := rfl
theorem one_p_bool (b : Bool) : one (.p (.bool b)) = true := rfl
theorem one_p_string (s : ByteArray) : one (.p (.string s)) = true := rfl
theorem one_p_slice (a : Option Addr) (n c : Nat) : one (.p (.slice a n c)) = true := rfl
theorem one_p_pointer (a : Option Addr) : one (.p (.pointer a)) = true := rfl
theorem one_p_nilIface : one (.p .nilIface) = true := rfl
theorem one_p_iface (t : TypeId) (v : Value) : one (.p (.iface t v)) = true := rfl
theorem one_p_func (f : Fn) (a b : Array Value) : one (.p (.func f a b)) = true := rfl
theorem one_p_map (m : Option Nat) : one (.p (.map m)) = true := rfl
theorem one_sl (s : Nat) (l : List (List AV)) (c : Option Nat) : one (.sl s l c) = true := rfl
theorem one_own (i s : Nat) (l : List (List AV)) : one (.own i s l) = true := rfl
theorem one_ep (l : List AV) : one (.ep l) = true := rfl
theorem one_bp (i o : Nat) : one (.bp i o) = true := rfl
theorem one_ifc (t : TypeId) (x : AV) : one (.ifc t x) = true := rfl
theorem one_fn (f : Fn) (a b : List AV) : one (.fn f a b) = true := rfl
theorem isP_p (v : Value) : isP (.p v) = true := rfl
theorem isP_sl (s : Nat) (l : List (List AV)) (c : Option Nat) : isP (.sl s l c) = true := rfl
theorem isP_ep (l : List AV) : isP (.ep l) = true := rfl
theorem isP_ifc (t : TypeId) (x : AV) : isP (.ifc t x) = true := rfl
theorem oks_nil (g : Bool) : oks g [] = True := propext ⟨fun _ => trivial, fun _ x hx => by cases hx⟩
theorem oks_cons (g : Bool) (x : AV) (l : List AV) : oks g (x :: l) = ((ug g x).1 ∧ oks g l) := propext (by simp [oks])
theorem chunk_nil (s : Nat) : chunk s [] = True := propext ⟨fun _ => trivial, fun _ x hx => by cases hx⟩
theorem chunk_cons (s : Nat) (x : AV) (l : List AV) : chunk s (x :: l) = ((known x = true ∧ x.cells.length = s ∧ x.cells.all (fun c => isP (w1 c)) = true) ∧ chunk s l) := propext (by simp [chunk])
theorem ones_nil : ones [] = True := propext ⟨fun _ => trivial, fun _ x hx => by cases hx⟩
theorem ones_cons (e : List AV) (l : List (List AV)) : ones (e :: l) = (e.all one = true ∧ ones l) := propext (by simp [ones])
end
attribute [go_sem ↓] W_region W_cond W_block W_exit W_skip W_ret Ops_nil Ops_plain Ops_guard Pur_nil Pur_plain Pur_guard
attribute [go_sem] qimp Gq_true ypure aimp aappend bO_some bO_none oM_some bS_some bS_none okDst_some okDst_none put_some put_none look_cons ev_tmp ev_const ev_func ev_global args0_nil args0_cons seqQ_normal seqQ_exit seqQ_ret blockQ_normal blockQ_ret blockQ_exit asBool?_bool asBp_bp boxOf_box two_two ownS_own ownS_p ownS_sl fullS_nil fullS_sl asl_nil asl_sl asl_own isAppend_append isAppend_value valueOf_value fcall_func fcall_fn new_o new_n upd_at ug_p ug_agg ug_tup ug_sl ug_own ug_ep ug_bp ug_ifc ug_fn ug_gd gq_bool gq_gd sel_bool ypick abop_eql abop_neq abop_lss abop_leq abop_gtr abop_geq abop_add abop_sub abop_mul abop_quo abop_rem abop_shl abop_shr abop_and abop_or abop_xor abop_andNot abop_sadd abop_seql abop_sneq abop_beql abop_bneq aun_not aun_neg aeq aeqd abop_peql abop_pneq abop_leql abop_lneq abop_ieql abop_ineq abop_feql abop_fneq aconv aconvd_int aconvd_string afield posO_some afieldc_bp afieldc_ep aload aloadc_ep aloadc_bp cellsOf_one cellsOf_agg alen alend_string alend_sl alend_own alend_nil amm_int yb_len yb_min yb_max yb_append aindex_sl aindex_own aindex_bp aindex_ep retP_ret retP_normal ares1 ares2 ares3 joined1 joined2 joined3 w3_p w3_sl w3_own w3_agg w3_tup w3_ifc w3_ep w2_p w2_sl w2_own w2_agg w2_ifc w2_ep w2_bp w2_fn w1_p w1_sl w1_own w1_ifc w1_ep w1_bp cells_agg cells_p cells_sl cells_own cells_ifc cells_ep cells_bp cells_fn gslot same_refl same_upd same_updk known_p_int known_p_bool known_p_string known_p_slice known_p_pointer known_p_nilIface known_p_iface known_p_func known_p_map known_agg known_sl known_own known_ep known_bp known_ifc known_fn one_p_int one_p_bool one_p_string one_p_slice one_p_pointer one_p_nilIface one_p_iface one_p_func one_p_map one_sl one_own one_ep one_bp one_ifc one_fn isP_p isP_sl isP_ep isP_ifc chunk_nil chunk_cons ones_nil ones_cons Option.map_some Option.map_none Option.bind_some Option.bind_none Option.some.injEq Prod.mk.injEq AV.p.injEq Value.bool.injEq Value.int.injEq AV.tup.injEq AV.sl.injEq List.cons.injEq ite_true ite_false and_true true_and and_self List.all_cons List.all_nil Bool.and_true Bool.true_and Bool.and_self Bool.and_eq_true true_implies forall_const implies_true List.drop_succ_cons List.drop_zero List.drop_nil List.take_succ_cons List.take_zero List.head?_cons List.map_cons List.map_nil List.length_cons List.length_nil List.cons_append List.nil_append List.append_nil List.getElem?_toArray List.getElem?_cons_zero List.getElem?_cons_succ List.getElem_toArray List.flatten_cons List.flatten_nil Nat.zero_add Nat.add_zero decide_true decide_false bne_self_eq_false beq_self_eq_true Bool.false_eq_true Bool.not_true Bool.not_false cond_true cond_false Bool.cond_true_left Bool.cond_false_right Bool.cond_true_right Bool.cond_false_left beq_true beq_false imp_self List.range_succ List.range_zero oks_nil oks_cons
attribute [go_sem] sel_true sel_false Bool.false_and Bool.and_false Bool.true_or Bool.or_true Bool.false_or Bool.or_false Bool.or_self Bool.not_not false_and and_false or_false false_or or_true true_or or_self false_implies not_true_eq_false not_false_eq_true ne_eq List.append_assoc List.getD_cons_zero List.getD_cons_succ Int.toNat_natCast Int.toNat_zero Int.toNat_one
attribute [go_sem] retF_ret retF_normal fc3_p fc3_sl fc3_agg fc3_tup fc3_ifc fc3_ep fc2_p fc2_sl fc2_agg fc2_ifc fc2_ep fc1_p fc1_sl fc1_ifc fc1_ep
attribute [go_sem] nk1 nk2 nk3
end Go.Vp

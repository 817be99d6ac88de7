/- The functions' models, printed by the driver; each with its proof. -/
import Derived.Test.YtppobdnacmdgbaaDoorBase
namespace Go.Proofs.YtppobdnacmdgbaaDoor
open Go Go.Up
set_option maxRecDepth 100000
def typecaselaw10_Fault_R : Sh := ⟨[2], [.r (.ptr 0 0)], [.box [.v (.pair (.int .i64) (.pair (.int .i64) (.int .i64)))]], []⟩
noncomputable def typecaselaw10_Fault_T0 (N : Nat) : Tab := tab 0 37 [errors_Is_e N] [] [] []
theorem typecaselaw10_Fault_T0_ok (N : Nat) : TabOk CC 0 37 [errors_Is_e N] [] [] [] (bodyOf Tryd.f17) := .nil CC_as ⟨errors_Is_ok N, trivial⟩ trivial trivial
def typecaselaw10_Fault_L0i : Sh := ⟨[2, 3, 4], [.r (.ptr 0 0), .r (.ptr 1 0), .v (.int .i64)], [.box [.v (.pair (.int .i64) (.pair (.int .i64) (.int .i64)))], .box [.v (.flt 95)]], []⟩
def typecaselaw10_Fault_L0o : Sh := ⟨[2], [.r (.ptr 0 0)], [.box [.v (.pair (.int .i64) (.pair (.int .i64) (.int .i64)))]], []⟩
def typecaselaw10_Fault_L0s (_N : Nat) (c4 : Int) (x2 : (Int × Int × Int) × PUnit) (f3 : Flt × PUnit) (k : LD typecaselaw10_Fault_L0i.2 × OL typecaselaw10_Fault_L0i.3 → Option (Ex (LD typecaselaw10_Fault_L0o.2 × OL typecaselaw10_Fault_L0o.3) (LD typecaselaw10_Fault_R.2 × OL typecaselaw10_Fault_R.3))) : Option (Ex (LD typecaselaw10_Fault_L0o.2 × OL typecaselaw10_Fault_L0o.3) (LD typecaselaw10_Fault_R.2 × OL typecaselaw10_Fault_R.3)) :=
  Flt.el f3.fst (bif decide (c4 ≤ 16) then none else some (Ex.out ((), ((x2.fst.fst, x2.fst.snd.fst, x2.fst.snd.snd), ()), ()))) fun l c k_1 =>
    bif decide (c4 ≤ 16) then
      bif decide (k_1 = c4) then some (Ex.ret ((), ((l, c, c4), ()), ()))
      else k ((IntKind.i64.wrap (c4 + 1), ()), ((x2.fst.fst, x2.fst.snd.fst, x2.fst.snd.snd), ()), (Flt.at l c k_1, ()), ())
    else some (Ex.out ((), ((x2.fst.fst, x2.fst.snd.fst, x2.fst.snd.snd), ()), ()))
def typecaselaw10_Fault_L0 (N : Nat) : Nat → typecaselaw10_Fault_L0i.D → Option (Ex typecaselaw10_Fault_L0o.D typecaselaw10_Fault_R.D) := loopN fun x k => typecaselaw10_Fault_L0s N x.1.1 x.2.1 x.2.2.1 k
theorem typecaselaw10_Fault_L0_succ (N f : Nat) (x : typecaselaw10_Fault_L0i.D) : typecaselaw10_Fault_L0 N (f + 1) x = typecaselaw10_Fault_L0s N x.1.1 x.2.1 x.2.2.1 (typecaselaw10_Fault_L0 N f) := rfl
theorem typecaselaw10_Fault_L0_eq (N : Nat) (x : typecaselaw10_Fault_L0i.D) (k : typecaselaw10_Fault_L0i.D → Option (Ex typecaselaw10_Fault_L0o.D typecaselaw10_Fault_R.D)) : stepL (typecaselaw10_Fault_T0 N) typecaselaw10_Fault_L0i typecaselaw10_Fault_L0o typecaselaw10_Fault_R 0 ((subAt (bodyOf Tryd.f17) [0, 0, 1, 0, 1, 1, 1, 1]).getD .skip) [0, 1, 0, 1, 1, 1, 1] x k = typecaselaw10_Fault_L0s N x.1.1 x.2.1 x.2.2.1 k := by kernel_rfl
noncomputable def typecaselaw10_Fault_T1 (N : Nat) : Tab := tab 0 37 [errors_Is_e N] [] [] [([0, 1, 0, 1, 1, 1, 1], ⟨typecaselaw10_Fault_L0i, typecaselaw10_Fault_L0o, typecaselaw10_Fault_R, 0, typecaselaw10_Fault_L0 N N⟩)]
theorem typecaselaw10_Fault_T1_ok (N : Nat) : TabOk CC 0 37 [errors_Is_e N] [] [] [([0, 1, 0, 1, 1, 1, 1], ⟨typecaselaw10_Fault_L0i, typecaselaw10_Fault_L0o, typecaselaw10_Fault_R, 0, typecaselaw10_Fault_L0 N N⟩)] (bodyOf Tryd.f17) := (typecaselaw10_Fault_T0_ok N).snoc (π := [0, 1, 0, 1, 1, 1, 1]) (b := ((subAt (bodyOf Tryd.f17) [0, 0, 1, 0, 1, 1, 1, 1]).getD .skip)) (inn := typecaselaw10_Fault_L0i) (out := typecaselaw10_Fault_L0o) (ret := typecaselaw10_Fault_R) (xid := 0) (n := N) (step := fun x k => typecaselaw10_Fault_L0s N x.1.1 x.2.1 x.2.2.1 k) (by kernel_rfl) (fun x k => typecaselaw10_Fault_L0_eq N x k)
def typecaselaw10_Fault (N : Nat) (e0 : Err) : Option ((Int × Int × Int) × PUnit) :=
  Err.el e0 (some ((0, 0, 0), ())) (fun _y => none) fun l c k =>
    bindX (typecaselaw10_Fault_L0 N N ((1, ()), ((0, 0, 0), ()), (Flt.at l c k, ()), ())) (fun _y => some ((-1, 0, 0), ())) fun y =>
      some ((y.snd.fst.fst.fst, y.snd.fst.fst.snd.fst, y.snd.fst.fst.snd.snd), ())
theorem typecaselaw10_Fault_eq (N : Nat) (x : VD [(.err 87 95)]) : runF (typecaselaw10_Fault_T1 N) (bodyOf Tryd.f17) [(.err 87 95)] [(.pair (.int .i64) (.pair (.int .i64) (.int .i64)))] (Tryd.f17).results.toList x = typecaselaw10_Fault N x.1 := by kernel_rfl
def typecaselaw10_Fault_e (N : Nat) : Ent := ⟨17, [(.err 87 95)], [(.pair (.int .i64) (.pair (.int .i64) (.int .i64)))], fun x => typecaselaw10_Fault N x.1⟩
theorem typecaselaw10_Fault_ok (N : Nat) : EntOk CC.P CC.gs (typecaselaw10_Fault_e N) := (typecaselaw10_Fault_T1_ok N).ent (fn := Tryd.f17) Tryd.func17 (by kernel_rfl) (by kernel_rfl) (fun vs w => Tryd.call17 vs w) (fun x => typecaselaw10_Fault_eq N x)
def eval_known_R : Sh := ⟨[2], [.v (.slice .sym)], [], []⟩
noncomputable def eval_known_T0 (_N : Nat) : Tab := tab 0 26 [] [] [] []
theorem eval_known_T0_ok (_N : Nat) : TabOk CC 0 26 [] [] [] [] (bodyOf Tryd.f49) := .nil CC_as trivial trivial trivial
def eval_known_L0i : Sh := ⟨[3, 9, 10, 11], [.r (.arr 0), .v (.slice .sym), .v (.int .i64), .v (.int .i64)], [.arr .sym], [.arr 3 .sym]⟩
def eval_known_L0o : Sh := ⟨[3], [.r (.arr 0)], [.arr .sym], [.arr 3 .sym]⟩
def eval_known_L0s (_N : Nat) (x9 : List Sym) (x10 : Int) (x11 : Int) (out3 : List Sym) (k : LD eval_known_L0i.2 × OL eval_known_L0i.3 → Option (Ex (LD eval_known_L0o.2 × OL eval_known_L0o.3) (LD eval_known_R.2 × OL eval_known_R.3))) : Option (Ex (LD eval_known_L0o.2 × OL eval_known_L0o.3) (LD eval_known_R.2 × OL eval_known_R.3)) :=
  bif decide (x11 < x10) then
    bindI (geti x9 x11) fun y =>
      bif !decide (y.cls = 0) then
        bif inB x11 out3.length then
          bindI out3[Int.toNat x11]? fun _y =>
            k ((x9, x10, IntKind.i64.wrap (x11 + 1), ()), out3.set (Int.toNat x11) { name := y.name, value := y.value, cls := 1 : Sym }, ())
        else none
      else
        bif inB x11 out3.length then
          bindI out3[Int.toNat x11]? fun _y =>
            k ((x9, x10, IntKind.i64.wrap (x11 + 1), ()), out3.set (Int.toNat x11) { name := y.name, value := y.value, cls := y.cls : Sym }, ())
        else none
  else some (Ex.out ((), out3, ()))
def eval_known_L0 (N : Nat) : Nat → eval_known_L0i.D → Option (Ex eval_known_L0o.D eval_known_R.D) := loopN fun x k => eval_known_L0s N x.1.1 x.1.2.1 x.1.2.2.1 x.2.1 k
theorem eval_known_L0_succ (N f : Nat) (x : eval_known_L0i.D) : eval_known_L0 N (f + 1) x = eval_known_L0s N x.1.1 x.1.2.1 x.1.2.2.1 x.2.1 (eval_known_L0 N f) := rfl
theorem eval_known_L0_eq (N : Nat) (x : eval_known_L0i.D) (k : eval_known_L0i.D → Option (Ex eval_known_L0o.D eval_known_R.D)) : stepL (eval_known_T0 N) eval_known_L0i eval_known_L0o eval_known_R 0 ((subAt (bodyOf Tryd.f49) [0, 0, 1, 0, 1, 1]).getD .skip) [0, 1, 0, 1, 1] x k = eval_known_L0s N x.1.1 x.1.2.1 x.1.2.2.1 x.2.1 k := by kernel_rfl
noncomputable def eval_known_T1 (N : Nat) : Tab := tab 0 26 [] [] [] [([0, 1, 0, 1, 1], ⟨eval_known_L0i, eval_known_L0o, eval_known_R, 0, eval_known_L0 N N⟩)]
theorem eval_known_T1_ok (N : Nat) : TabOk CC 0 26 [] [] [] [([0, 1, 0, 1, 1], ⟨eval_known_L0i, eval_known_L0o, eval_known_R, 0, eval_known_L0 N N⟩)] (bodyOf Tryd.f49) := (eval_known_T0_ok N).snoc (π := [0, 1, 0, 1, 1]) (b := ((subAt (bodyOf Tryd.f49) [0, 0, 1, 0, 1, 1]).getD .skip)) (inn := eval_known_L0i) (out := eval_known_L0o) (ret := eval_known_R) (xid := 0) (n := N) (step := fun x k => eval_known_L0s N x.1.1 x.1.2.1 x.1.2.2.1 x.2.1 k) (by kernel_rfl) (fun x k => eval_known_L0_eq N x k)
def eval_known (N : Nat) (syms0 : List Sym) : Option (List Sym × PUnit) :=
  bif inC (↑(List.length syms0) : Int) 16777216 && decide ((↑(List.length syms0) : Int) = (↑(List.length syms0) : Int)) then
    bindX
      (eval_known_L0 N N
        ((syms0, (↑(List.length syms0) : Int), 0, ()), List.replicate (↑(List.length syms0) : Int).toNat { name := [], value := 0, cls := 0 : Sym }, ()))
      (fun y => some (y.snd.fst, ())) fun y => some (y.fst.fst, ())
  else none
theorem eval_known_eq (N : Nat) (x : VD [(.slice .sym)]) : runF (eval_known_T1 N) (bodyOf Tryd.f49) [(.slice .sym)] [(.slice .sym)] (Tryd.f49).results.toList x = eval_known N x.1 := by kernel_rfl
def eval_known_e (N : Nat) : Ent := ⟨49, [(.slice .sym)], [(.slice .sym)], fun x => eval_known N x.1⟩
theorem eval_known_ok (N : Nat) : EntOk CC.P CC.gs (eval_known_e N) := (eval_known_T1_ok N).ent (fn := Tryd.f49) Tryd.func49 (by kernel_rfl) (by kernel_rfl) (fun vs w => Tryd.call49 vs w) (fun x => eval_known_eq N x)
def eval_parts_R : Sh := ⟨[2], [.v (.int .i64)], [], []⟩
noncomputable def eval_parts_T0 (_N : Nat) : Tab := tab 0 24 [] [] [] []
theorem eval_parts_T0_ok (_N : Nat) : TabOk CC 0 24 [] [] [] [] (bodyOf Tryd.f84) := .nil CC_as trivial trivial trivial
def eval_parts (_N : Nat) (kind0 : Int) : Option (Int × PUnit) :=
  bindI (bif decide (1 ≤ kind0) then some (decide (kind0 ≤ 3)) else some false) fun y =>
    bif y then some (0, ())
    else
      bindI (bif decide (4 ≤ kind0) then some (decide (kind0 ≤ 8)) else some false) fun y =>
        bif y then some (1, ())
        else bindI (bif decide (9 ≤ kind0) then some (decide (kind0 ≤ 17)) else some false) fun y => bif y then some (2, ()) else some (-1, ())
theorem eval_parts_eq (N : Nat) (x : VD [(.int .i64)]) : runF (eval_parts_T0 N) (bodyOf Tryd.f84) [(.int .i64)] [(.int .i64)] (Tryd.f84).results.toList x = eval_parts N x.1 := by kernel_rfl
def eval_parts_e (N : Nat) : Ent := ⟨84, [(.int .i64)], [(.int .i64)], fun x => eval_parts N x.1⟩
theorem eval_parts_ok (N : Nat) : EntOk CC.P CC.gs (eval_parts_e N) := (eval_parts_T0_ok N).ent (fn := Tryd.f84) Tryd.func84 (by kernel_rfl) (by kernel_rfl) (fun vs w => Tryd.call84 vs w) (fun x => eval_parts_eq N x)
def m__eval_reckoner__symbol_R : Sh := ⟨[0, 4, 5], [.r (.ptr 0 0), .r (.ptr 1 0), .v (.err 87 95)], [.box [.r (.arr 2), .v (.slice .sym), .v (.int .u32), .v .bool], .box [.v (.pair (.int .u32) (.int .i64))], .arr (.pair (.int .u32) (.int .i64))], [.arrc 0 0 (.pair (.int .u32) (.int .i64))]⟩
noncomputable def m__eval_reckoner__symbol_T0 (_N : Nat) : Tab := tab 1 40 [] [] [] []
theorem m__eval_reckoner__symbol_T0_ok (_N : Nat) : TabOk CC 1 40 [] [] [] [] (bodyOf Tryd.f96) := .nil CC_as trivial trivial trivial
def m__eval_reckoner__symbol_L0i : Sh := ⟨[0, 1, 4, 11, 12, 13], [.r (.ptr 0 0), .v .str, .r (.ptr 1 0), .v (.slice .sym), .v (.int .i64), .v (.int .i64)], [.box [.r (.arr 2), .v (.slice .sym), .v (.int .u32), .v .bool], .box [.v (.pair (.int .u32) (.int .i64))], .arr (.pair (.int .u32) (.int .i64))], [.arrc 0 0 (.pair (.int .u32) (.int .i64))]⟩
def m__eval_reckoner__symbol_L0o : Sh := ⟨[0, 4], [.r (.ptr 0 0), .r (.ptr 1 0)], [.box [.r (.arr 2), .v (.slice .sym), .v (.int .u32), .v .bool], .box [.v (.pair (.int .u32) (.int .i64))], .arr (.pair (.int .u32) (.int .i64))], [.arrc 0 0 (.pair (.int .u32) (.int .i64))]⟩
def m__eval_reckoner__symbol_L0s (_N : Nat) (name1 : List UInt8) (x11 : List Sym) (x12 : Int) (x13 : Int) (r0 : List Sym × Int × Bool × PUnit) (x4 : (Int × Int) × PUnit) (r0f0 : List (Int × Int)) (k : LD m__eval_reckoner__symbol_L0i.2 × OL m__eval_reckoner__symbol_L0i.3 → Option (Ex (LD m__eval_reckoner__symbol_L0o.2 × OL m__eval_reckoner__symbol_L0o.3) (LD m__eval_reckoner__symbol_R.2 × OL m__eval_reckoner__symbol_R.3))) : Option (Ex (LD m__eval_reckoner__symbol_L0o.2 × OL m__eval_reckoner__symbol_L0o.3) (LD m__eval_reckoner__symbol_R.2 × OL m__eval_reckoner__symbol_R.3)) :=
  bif decide (x13 < x12) then
    bindI (geti x11 x13) fun y =>
      bif !List.beq y.name name1 then
        k ((name1, x11, x12, IntKind.i64.wrap (x13 + 1), ()), (r0.fst, r0.snd.fst, r0.snd.snd.fst, ()), ((x4.fst.fst, x4.fst.snd), ()), r0f0, ())
      else
        bindI (bif decide (y.cls = 1) then some r0.snd.snd.fst else some false) fun y_1 =>
          bif y_1 then some (Ex.ret ((Err.code 7, ()), (r0.fst, r0.snd.fst, r0.snd.snd.fst, ()), ((0, 0), ()), r0f0, ()))
          else some (Ex.ret ((Err.nil, ()), (r0.fst, r0.snd.fst, r0.snd.snd.fst, ()), ((y.value, y.cls), ()), r0f0, ()))
  else some (Ex.out ((), (r0.fst, r0.snd.fst, r0.snd.snd.fst, ()), ((x4.fst.fst, x4.fst.snd), ()), r0f0, ()))
def m__eval_reckoner__symbol_L0 (N : Nat) : Nat → m__eval_reckoner__symbol_L0i.D → Option (Ex m__eval_reckoner__symbol_L0o.D m__eval_reckoner__symbol_R.D) := loopN fun x k => m__eval_reckoner__symbol_L0s N x.1.1 x.1.2.1 x.1.2.2.1 x.1.2.2.2.1 x.2.1 x.2.2.1 x.2.2.2.1 k
theorem m__eval_reckoner__symbol_L0_succ (N f : Nat) (x : m__eval_reckoner__symbol_L0i.D) : m__eval_reckoner__symbol_L0 N (f + 1) x = m__eval_reckoner__symbol_L0s N x.1.1 x.1.2.1 x.1.2.2.1 x.1.2.2.2.1 x.2.1 x.2.2.1 x.2.2.2.1 (m__eval_reckoner__symbol_L0 N f) := rfl
theorem m__eval_reckoner__symbol_L0_eq (N : Nat) (x : m__eval_reckoner__symbol_L0i.D) (k : m__eval_reckoner__symbol_L0i.D → Option (Ex m__eval_reckoner__symbol_L0o.D m__eval_reckoner__symbol_R.D)) : stepL (m__eval_reckoner__symbol_T0 N) m__eval_reckoner__symbol_L0i m__eval_reckoner__symbol_L0o m__eval_reckoner__symbol_R 0 ((subAt (bodyOf Tryd.f96) [0, 0, 1, 0, 1]).getD .skip) [0, 1, 0, 1] x k = m__eval_reckoner__symbol_L0s N x.1.1 x.1.2.1 x.1.2.2.1 x.1.2.2.2.1 x.2.1 x.2.2.1 x.2.2.2.1 k := by kernel_rfl
noncomputable def m__eval_reckoner__symbol_T1 (N : Nat) : Tab := tab 1 40 [] [] [] [([0, 1, 0, 1], ⟨m__eval_reckoner__symbol_L0i, m__eval_reckoner__symbol_L0o, m__eval_reckoner__symbol_R, 0, m__eval_reckoner__symbol_L0 N N⟩)]
theorem m__eval_reckoner__symbol_T1_ok (N : Nat) : TabOk CC 1 40 [] [] [] [([0, 1, 0, 1], ⟨m__eval_reckoner__symbol_L0i, m__eval_reckoner__symbol_L0o, m__eval_reckoner__symbol_R, 0, m__eval_reckoner__symbol_L0 N N⟩)] (bodyOf Tryd.f96) := (m__eval_reckoner__symbol_T0_ok N).snoc (π := [0, 1, 0, 1]) (b := ((subAt (bodyOf Tryd.f96) [0, 0, 1, 0, 1]).getD .skip)) (inn := m__eval_reckoner__symbol_L0i) (out := m__eval_reckoner__symbol_L0o) (ret := m__eval_reckoner__symbol_R) (xid := 0) (n := N) (step := fun x k => m__eval_reckoner__symbol_L0s N x.1.1 x.1.2.1 x.1.2.2.1 x.1.2.2.2.1 x.2.1 x.2.2.1 x.2.2.2.1 k) (by kernel_rfl) (fun x k => m__eval_reckoner__symbol_L0_eq N x k)
def m__eval_reckoner__symbol (N : Nat) (name1 : List UInt8) (r0 : List Sym × Int × Bool × PUnit) (r0f0 : List (Int × Int)) : Option (((Int × Int) × Err × PUnit) × (List Sym × Int × Bool × PUnit) × List (Int × Int) × PUnit) :=
  bindX
    (m__eval_reckoner__symbol_L0 N N ((name1, r0.fst, (↑(List.length r0.fst) : Int), 0, ()), (r0.fst, r0.snd.fst, r0.snd.snd.fst, ()), ((0, 0), ()), r0f0, ()))
    (fun y => some (((0, 0), Err.code 11, ()), (y.snd.fst.fst, y.snd.fst.snd.fst, y.snd.fst.snd.snd.fst, ()), y.snd.snd.snd.fst, ())) fun y =>
    Err.el y.fst.fst
      (some (((y.snd.snd.fst.fst.fst, y.snd.snd.fst.fst.snd), Err.nil, ()), (y.snd.fst.fst, y.snd.fst.snd.fst, y.snd.fst.snd.snd.fst, ()), y.snd.snd.snd.fst, ()))
      (fun c =>
        some
          (((y.snd.snd.fst.fst.fst, y.snd.snd.fst.fst.snd), Err.code c, ()), (y.snd.fst.fst, y.snd.fst.snd.fst, y.snd.fst.snd.snd.fst, ()), y.snd.snd.snd.fst,
            ()))
      fun l c k =>
      some
        (((y.snd.snd.fst.fst.fst, y.snd.snd.fst.fst.snd), Err.fault l c k, ()), (y.snd.fst.fst, y.snd.fst.snd.fst, y.snd.fst.snd.snd.fst, ()), y.snd.snd.snd.fst,
          ())
theorem m__eval_reckoner__symbol_eq (N : Nat) (x : LD [.r (.ptr 0 0), .v .str] × OL [.box [.r (.arr 1), .v (.slice .sym), .v (.int .u32), .v .bool], .arr (.pair (.int .u32) (.int .i64))]) : runO (m__eval_reckoner__symbol_T1 N) (bodyOf Tryd.f96) [.r (.ptr 0 0), .v .str] [.box [.r (.arr 1), .v (.slice .sym), .v (.int .u32), .v .bool], .arr (.pair (.int .u32) (.int .i64))] [(.pair (.int .u32) (.int .i64)), (.err 87 95)] [.box [.r (.arr 1), .v (.slice .sym), .v (.int .u32), .v .bool], .arr (.pair (.int .u32) (.int .i64))] [.arrc 0 0 (.pair (.int .u32) (.int .i64))] (Tryd.f96).results.toList x = m__eval_reckoner__symbol N x.1.1 x.2.1 x.2.2.1 := by kernel_rfl
def m__eval_reckoner__symbol_o (N : Nat) : EntO := ⟨96, 1, [.r (.ptr 0 0), .v .str], [.box [.r (.arr 1), .v (.slice .sym), .v (.int .u32), .v .bool], .arr (.pair (.int .u32) (.int .i64))], [(.pair (.int .u32) (.int .i64)), (.err 87 95)], [.box [.r (.arr 1), .v (.slice .sym), .v (.int .u32), .v .bool], .arr (.pair (.int .u32) (.int .i64))], [.arrc 0 0 (.pair (.int .u32) (.int .i64))], fun x => m__eval_reckoner__symbol N x.1.1 x.2.1 x.2.2.1⟩
theorem m__eval_reckoner__symbol_ook (N : Nat) : EntOOk CC.P CC.gs (m__eval_reckoner__symbol_o N) := (m__eval_reckoner__symbol_T1_ok N).entO (fn := Tryd.f96) (pre := [.arrc 0 0 (.pair (.int .u32) (.int .i64))]) Tryd.func96 (by kernel_rfl) (by kernel_rfl) (by kernel_rfl) (fun vs w => Tryd.call96 vs w) (fun x => m__eval_reckoner__symbol_eq N x)
def m__eval_reckoner__leaf_R : Sh := ⟨[0, 4, 5], [.r (.ptr 0 0), .r (.ptr 1 0), .v (.err 87 95)], [.box [.r (.arr 2), .v (.slice .sym), .v (.int .u32), .v .bool], .box [.v (.pair (.int .u32) (.int .i64))], .arr (.pair (.int .u32) (.int .i64))], [.arrc 0 0 (.pair (.int .u32) (.int .i64))]⟩
noncomputable def m__eval_reckoner__leaf_T0 (N : Nat) : Tab := tab 1 32 [] [m__eval_reckoner__symbol_o N] [] []
theorem m__eval_reckoner__leaf_T0_ok (N : Nat) : TabOk CC 1 32 [] [m__eval_reckoner__symbol_o N] [] [] (bodyOf Tryd.f85) := .nil CC_as trivial ⟨m__eval_reckoner__symbol_ook N, trivial⟩ trivial
def m__eval_reckoner__leaf (N : Nat) (n1 : Nod) (r0 : List Sym × Int × Bool × PUnit) (r0f0 : List (Int × Int)) : Option (((Int × Int) × Err × PUnit) × (List Sym × Int × Bool × PUnit) × List (Int × Int) × PUnit) :=
  bif decide (n1.kind = 1) then some (((n1.num, 0), Err.nil, ()), (r0.fst, r0.snd.fst, r0.snd.snd.fst, ()), r0f0, ())
  else
    bif decide (n1.kind = 2) then
      bindI (m__eval_reckoner__symbol N n1.name (r0.fst, r0.snd.fst, r0.snd.snd.fst, ()) r0f0) fun y =>
        Err.el y.fst.snd.fst
          (some (((y.fst.fst.fst, y.fst.fst.snd), Err.nil, ()), (y.snd.fst.fst, y.snd.fst.snd.fst, y.snd.fst.snd.snd.fst, ()), y.snd.snd.fst, ()))
          (fun c => some (((y.fst.fst.fst, y.fst.fst.snd), Err.code c, ()), (y.snd.fst.fst, y.snd.fst.snd.fst, y.snd.fst.snd.snd.fst, ()), y.snd.snd.fst, ()))
          fun l c k =>
          some (((y.fst.fst.fst, y.fst.fst.snd), Err.fault l c k, ()), (y.snd.fst.fst, y.snd.fst.snd.fst, y.snd.fst.snd.snd.fst, ()), y.snd.snd.fst, ())
    else
      bif r0.snd.snd.fst then some (((0, 0), Err.code 7, ()), (r0.fst, r0.snd.fst, r0.snd.snd.fst, ()), r0f0, ())
      else some (((r0.snd.fst, 1), Err.nil, ()), (r0.fst, r0.snd.fst, r0.snd.snd.fst, ()), r0f0, ())
theorem m__eval_reckoner__leaf_eq (N : Nat) (x : LD [.r (.ptr 0 0), .v .nod] × OL [.box [.r (.arr 1), .v (.slice .sym), .v (.int .u32), .v .bool], .arr (.pair (.int .u32) (.int .i64))]) : runO (m__eval_reckoner__leaf_T0 N) (bodyOf Tryd.f85) [.r (.ptr 0 0), .v .nod] [.box [.r (.arr 1), .v (.slice .sym), .v (.int .u32), .v .bool], .arr (.pair (.int .u32) (.int .i64))] [(.pair (.int .u32) (.int .i64)), (.err 87 95)] [.box [.r (.arr 1), .v (.slice .sym), .v (.int .u32), .v .bool], .arr (.pair (.int .u32) (.int .i64))] [.arrc 0 0 (.pair (.int .u32) (.int .i64))] (Tryd.f85).results.toList x = m__eval_reckoner__leaf N x.1.1 x.2.1 x.2.2.1 := by kernel_rfl
def m__eval_reckoner__leaf_o (N : Nat) : EntO := ⟨85, 1, [.r (.ptr 0 0), .v .nod], [.box [.r (.arr 1), .v (.slice .sym), .v (.int .u32), .v .bool], .arr (.pair (.int .u32) (.int .i64))], [(.pair (.int .u32) (.int .i64)), (.err 87 95)], [.box [.r (.arr 1), .v (.slice .sym), .v (.int .u32), .v .bool], .arr (.pair (.int .u32) (.int .i64))], [.arrc 0 0 (.pair (.int .u32) (.int .i64))], fun x => m__eval_reckoner__leaf N x.1.1 x.2.1 x.2.2.1⟩
theorem m__eval_reckoner__leaf_ook (N : Nat) : EntOOk CC.P CC.gs (m__eval_reckoner__leaf_o N) := (m__eval_reckoner__leaf_T0_ok N).entO (fn := Tryd.f85) (pre := [.arrc 0 0 (.pair (.int .u32) (.int .i64))]) Tryd.func85 (by kernel_rfl) (by kernel_rfl) (by kernel_rfl) (fun vs w => Tryd.call85 vs w) (fun x => m__eval_reckoner__leaf_eq N x)
def word_within_int__R : Sh := ⟨[6], [.v (.int .i64)], [], []⟩
noncomputable def word_within_int__T0 (_N : Nat) : Tab := tab 0 12 [] [] [] []
theorem word_within_int__T0_ok (_N : Nat) : TabOk CC 0 12 [] [] [] [] (bodyOf Tryd.f102) := .nil CC_as trivial trivial trivial
def word_within_int_ (_N : Nat) (n0 : Int) (low1 : Int) (high2 : Int) : Option (Int × PUnit) :=
  some (minI (maxI n0 low1) high2, ())
theorem word_within_int__eq (N : Nat) (x : VD [(.int .i64), (.int .i64), (.int .i64)]) : runF (word_within_int__T0 N) (bodyOf Tryd.f102) [(.int .i64), (.int .i64), (.int .i64)] [(.int .i64)] (Tryd.f102).results.toList x = word_within_int_ N x.1 x.2.1 x.2.2.1 := by kernel_rfl
def word_within_int__e (N : Nat) : Ent := ⟨102, [(.int .i64), (.int .i64), (.int .i64)], [(.int .i64)], fun x => word_within_int_ N x.1 x.2.1 x.2.2.1⟩
theorem word_within_int__ok (N : Nat) : EntOk CC.P CC.gs (word_within_int__e N) := (word_within_int__T0_ok N).ent (fn := Tryd.f102) Tryd.func102 (by kernel_rfl) (by kernel_rfl) (fun vs w => Tryd.call102 vs w) (fun x => word_within_int__eq N x)
def word_Sign_R : Sh := ⟨[4], [.v (.int .i32)], [], []⟩
noncomputable def word_Sign_T0 (N : Nat) : Tab := tab 0 17 [word_within_int__e N] [] [] []
theorem word_Sign_T0_ok (N : Nat) : TabOk CC 0 17 [word_within_int__e N] [] [] [] (bodyOf Tryd.f100) := .nil CC_as ⟨word_within_int__ok N, trivial⟩ trivial trivial
def word_Sign (_N : Nat) (x0 : Int) (bits1 : Int) : Option (Int × PUnit) :=
  bif decide (minI (maxI bits1 0) 32 = 0) then some (0, ())
  else
    bif decide (0 ≤ IntKind.i64.wrap (32 - minI (maxI bits1 0) 32)) then
      bif decide (0 ≤ IntKind.i64.wrap (32 - minI (maxI bits1 0) 32)) then
        some
          (shrI IntKind.i32 (IntKind.i32.wrap (shlI IntKind.u32 x0 (IntKind.i64.wrap (32 - minI (maxI bits1 0) 32))))
              (IntKind.i64.wrap (32 - minI (maxI bits1 0) 32)),
            ())
      else none
    else none
theorem word_Sign_eq (N : Nat) (x : VD [(.int .u32), (.int .i64)]) : runF (word_Sign_T0 N) (bodyOf Tryd.f100) [(.int .u32), (.int .i64)] [(.int .i32)] (Tryd.f100).results.toList x = word_Sign N x.1 x.2.1 := by kernel_rfl
def word_Sign_e (N : Nat) : Ent := ⟨100, [(.int .u32), (.int .i64)], [(.int .i32)], fun x => word_Sign N x.1 x.2.1⟩
theorem word_Sign_ok (N : Nat) : EntOk CC.P CC.gs (word_Sign_e N) := (word_Sign_T0_ok N).ent (fn := Tryd.f100) Tryd.func100 (by kernel_rfl) (by kernel_rfl) (fun vs w => Tryd.call100 vs w) (fun x => word_Sign_eq N x)
def word_Lo_R : Sh := ⟨[2], [.v (.int .i32)], [], []⟩
noncomputable def word_Lo_T0 (N : Nat) : Tab := tab 0 5 [word_Sign_e N] [] [] []
theorem word_Lo_T0_ok (N : Nat) : TabOk CC 0 5 [word_Sign_e N] [] [] [] (bodyOf Tryd.f98) := .nil CC_as ⟨word_Sign_ok N, trivial⟩ trivial trivial
def word_Lo (_N : Nat) (x0 : Int) : Option (Int × PUnit) :=
  some (shrI IntKind.i32 (IntKind.i32.wrap (shlI IntKind.u32 x0 (IntKind.i64.wrap (32 - minI (maxI 12 0) 32)))) (IntKind.i64.wrap (32 - minI (maxI 12 0) 32)), ())
theorem word_Lo_eq (N : Nat) (x : VD [(.int .u32)]) : runF (word_Lo_T0 N) (bodyOf Tryd.f98) [(.int .u32)] [(.int .i32)] (Tryd.f98).results.toList x = word_Lo N x.1 := by kernel_rfl
def word_Lo_e (N : Nat) : Ent := ⟨98, [(.int .u32)], [(.int .i32)], fun x => word_Lo N x.1⟩
theorem word_Lo_ok (N : Nat) : EntOk CC.P CC.gs (word_Lo_e N) := (word_Lo_T0_ok N).ent (fn := Tryd.f98) Tryd.func98 (by kernel_rfl) (by kernel_rfl) (fun vs w => Tryd.call98 vs w) (fun x => word_Lo_eq N x)
def word_Hi_R : Sh := ⟨[2], [.v (.int .u32)], [], []⟩
noncomputable def word_Hi_T0 (N : Nat) : Tab := tab 0 9 [word_Lo_e N] [] [] []
theorem word_Hi_T0_ok (N : Nat) : TabOk CC 0 9 [word_Lo_e N] [] [] [] (bodyOf Tryd.f97) := .nil CC_as ⟨word_Lo_ok N, trivial⟩ trivial trivial
def word_Hi (_N : Nat) (x0 : Int) : Option (Int × PUnit) :=
  some
    (shrI IntKind.u32
        (IntKind.u32.wrap
          (x0 -
            IntKind.u32.wrap
              (shrI IntKind.i32 (IntKind.i32.wrap (shlI IntKind.u32 x0 (IntKind.i64.wrap (32 - minI (maxI 12 0) 32))))
                (IntKind.i64.wrap (32 - minI (maxI 12 0) 32)))))
        12,
      ())
theorem word_Hi_eq (N : Nat) (x : VD [(.int .u32)]) : runF (word_Hi_T0 N) (bodyOf Tryd.f97) [(.int .u32)] [(.int .u32)] (Tryd.f97).results.toList x = word_Hi N x.1 := by kernel_rfl
def word_Hi_e (N : Nat) : Ent := ⟨97, [(.int .u32)], [(.int .u32)], fun x => word_Hi N x.1⟩
theorem word_Hi_ok (N : Nat) : EntOk CC.P CC.gs (word_Hi_e N) := (word_Hi_T0_ok N).ent (fn := Tryd.f97) Tryd.func97 (by kernel_rfl) (by kernel_rfl) (fun vs w => Tryd.call97 vs w) (fun x => word_Hi_eq N x)
def m__eval_reckoner__one_R : Sh := ⟨[0, 6, 7], [.r (.ptr 0 0), .r (.ptr 1 0), .v (.err 87 95)], [.box [.r (.arr 2), .v (.slice .sym), .v (.int .u32), .v .bool], .box [.v (.pair (.int .u32) (.int .i64))], .arr (.pair (.int .u32) (.int .i64))], [.arrc 0 0 (.pair (.int .u32) (.int .i64))]⟩
noncomputable def m__eval_reckoner__one_T0 (N : Nat) : Tab := tab 1 56 [word_Hi_e N, word_Lo_e N] [] [] []
theorem m__eval_reckoner__one_T0_ok (N : Nat) : TabOk CC 1 56 [word_Hi_e N, word_Lo_e N] [] [] [] (bodyOf Tryd.f86) := .nil CC_as ⟨word_Hi_ok N, word_Lo_ok N, trivial⟩ trivial trivial
def m__eval_reckoner__one (_N : Nat) (kind1 : Int) (a2 : Int × Int) (r0 : List Sym × Int × Bool × PUnit) (r0f0 : List (Int × Int)) : Option (((Int × Int) × Err × PUnit) × (List Sym × Int × Bool × PUnit) × List (Int × Int) × PUnit) :=
  bif decide (kind1 = 6) then
    some
      (((shrI IntKind.u32
              (IntKind.u32.wrap
                (a2.fst -
                  IntKind.u32.wrap
                    (shrI IntKind.i32 (IntKind.i32.wrap (shlI IntKind.u32 a2.fst (IntKind.i64.wrap (32 - minI (maxI 12 0) 32))))
                      (IntKind.i64.wrap (32 - minI (maxI 12 0) 32)))))
              12,
            0),
          Err.nil, ()),
        (r0.fst, r0.snd.fst, r0.snd.snd.fst, ()), r0f0, ())
  else
    bif decide (kind1 = 7) then
      some
        (((IntKind.u32.wrap
                (shrI IntKind.i32 (IntKind.i32.wrap (shlI IntKind.u32 a2.fst (IntKind.i64.wrap (32 - minI (maxI 12 0) 32))))
                  (IntKind.i64.wrap (32 - minI (maxI 12 0) 32))),
              0),
            Err.nil, ()),
          (r0.fst, r0.snd.fst, r0.snd.snd.fst, ()), r0f0, ())
    else
      bif decide (kind1 = 8) then
        bif r0.snd.snd.fst then some (((0, 0), Err.code 7, ()), (r0.fst, r0.snd.fst, r0.snd.snd.fst, ()), r0f0, ())
        else some (((IntKind.u32.wrap (a2.fst - r0.snd.fst), 0), Err.nil, ()), (r0.fst, r0.snd.fst, r0.snd.snd.fst, ()), r0f0, ())
      else
        bif decide (kind1 = 5) then
          bif !decide (a2.snd = 0) then some (((0, 0), Err.code 7, ()), (r0.fst, r0.snd.fst, r0.snd.snd.fst, ()), r0f0, ())
          else
            bif decide (kind1 = 4) then
              some (((IntKind.u32.wrap (0 - notI IntKind.u32 a2.fst), a2.snd), Err.nil, ()), (r0.fst, r0.snd.fst, r0.snd.snd.fst, ()), r0f0, ())
            else some (((notI IntKind.u32 a2.fst, a2.snd), Err.nil, ()), (r0.fst, r0.snd.fst, r0.snd.snd.fst, ()), r0f0, ())
        else
          bif !decide (a2.snd = 0) then some (((0, 0), Err.code 7, ()), (r0.fst, r0.snd.fst, r0.snd.snd.fst, ()), r0f0, ())
          else
            bif decide (kind1 = 4) then some (((IntKind.u32.wrap (0 - a2.fst), a2.snd), Err.nil, ()), (r0.fst, r0.snd.fst, r0.snd.snd.fst, ()), r0f0, ())
            else some (((a2.fst, a2.snd), Err.nil, ()), (r0.fst, r0.snd.fst, r0.snd.snd.fst, ()), r0f0, ())
theorem m__eval_reckoner__one_eq (N : Nat) (x : LD [.r (.ptr 0 0), .v (.int .i64), .v (.pair (.int .u32) (.int .i64))] × OL [.box [.r (.arr 1), .v (.slice .sym), .v (.int .u32), .v .bool], .arr (.pair (.int .u32) (.int .i64))]) : runO (m__eval_reckoner__one_T0 N) (bodyOf Tryd.f86) [.r (.ptr 0 0), .v (.int .i64), .v (.pair (.int .u32) (.int .i64))] [.box [.r (.arr 1), .v (.slice .sym), .v (.int .u32), .v .bool], .arr (.pair (.int .u32) (.int .i64))] [(.pair (.int .u32) (.int .i64)), (.err 87 95)] [.box [.r (.arr 1), .v (.slice .sym), .v (.int .u32), .v .bool], .arr (.pair (.int .u32) (.int .i64))] [.arrc 0 0 (.pair (.int .u32) (.int .i64))] (Tryd.f86).results.toList x = m__eval_reckoner__one N x.1.1 x.1.2.1 x.2.1 x.2.2.1 := by kernel_rfl
def m__eval_reckoner__one_o (N : Nat) : EntO := ⟨86, 1, [.r (.ptr 0 0), .v (.int .i64), .v (.pair (.int .u32) (.int .i64))], [.box [.r (.arr 1), .v (.slice .sym), .v (.int .u32), .v .bool], .arr (.pair (.int .u32) (.int .i64))], [(.pair (.int .u32) (.int .i64)), (.err 87 95)], [.box [.r (.arr 1), .v (.slice .sym), .v (.int .u32), .v .bool], .arr (.pair (.int .u32) (.int .i64))], [.arrc 0 0 (.pair (.int .u32) (.int .i64))], fun x => m__eval_reckoner__one N x.1.1 x.1.2.1 x.2.1 x.2.2.1⟩
theorem m__eval_reckoner__one_ook (N : Nat) : EntOOk CC.P CC.gs (m__eval_reckoner__one_o N) := (m__eval_reckoner__one_T0_ok N).entO (fn := Tryd.f86) (pre := [.arrc 0 0 (.pair (.int .u32) (.int .i64))]) Tryd.func86 (by kernel_rfl) (by kernel_rfl) (by kernel_rfl) (fun vs w => Tryd.call86 vs w) (fun x => m__eval_reckoner__one_eq N x)
def eval_shifted_R : Sh := ⟨[6], [.v (.int .u32)], [], []⟩
noncomputable def eval_shifted_T0 (_N : Nat) : Tab := tab 0 16 [] [] [] []
theorem eval_shifted_T0_ok (_N : Nat) : TabOk CC 0 16 [] [] [] [] (bodyOf Tryd.f101) := .nil CC_as trivial trivial trivial
def eval_shifted (_N : Nat) (v0 : Int) (by1 : Int) (up2 : Bool) : Option (Int × PUnit) :=
  bif decide (31 < by1) then some (0, ())
  else
    bif up2 then bif decide (0 ≤ by1) then some (shlI IntKind.u32 v0 by1, ()) else none
    else bif decide (0 ≤ by1) then some (shrI IntKind.u32 v0 by1, ()) else none
theorem eval_shifted_eq (N : Nat) (x : VD [(.int .u32), (.int .u32), .bool]) : runF (eval_shifted_T0 N) (bodyOf Tryd.f101) [(.int .u32), (.int .u32), .bool] [(.int .u32)] (Tryd.f101).results.toList x = eval_shifted N x.1 x.2.1 x.2.2.1 := by kernel_rfl
def eval_shifted_e (N : Nat) : Ent := ⟨101, [(.int .u32), (.int .u32), .bool], [(.int .u32)], fun x => eval_shifted N x.1 x.2.1 x.2.2.1⟩
theorem eval_shifted_ok (N : Nat) : EntOk CC.P CC.gs (eval_shifted_e N) := (eval_shifted_T0_ok N).ent (fn := Tryd.f101) Tryd.func101 (by kernel_rfl) (by kernel_rfl) (fun vs w => Tryd.call101 vs w) (fun x => eval_shifted_eq N x)
def eval_fixed_R : Sh := ⟨[6, 7], [.v (.int .u32), .v (.err 87 95)], [], []⟩
noncomputable def eval_fixed_T0 (N : Nat) : Tab := tab 0 43 [eval_shifted_e N] [] [] []
theorem eval_fixed_T0_ok (N : Nat) : TabOk CC 0 43 [eval_shifted_e N] [] [] [] (bodyOf Tryd.f99) := .nil CC_as ⟨eval_shifted_ok N, trivial⟩ trivial trivial
def eval_fixed (N : Nat) (kind0 : Int) (a1 : Int) (b2 : Int) : Option (Int × Err × PUnit) :=
  bif decide (kind0 = 11) then some (IntKind.u32.wrap (a1 * b2), Err.nil, ())
  else
    bif decide (kind0 = 12) then
      bif decide (b2 = 0) then some (0, Err.code 12, ()) else bif true && !decide (b2 = 0) then some (IntKind.u32.wrap (Int.tdiv a1 b2), Err.nil, ()) else none
    else
      bif decide (kind0 = 13) then bindI (eval_shifted N a1 b2 (decide (kind0 = 13))) fun y => some (y.fst, Err.nil, ())
      else
        bif decide (kind0 = 14) then bindI (eval_shifted N a1 b2 (decide (kind0 = 13))) fun y => some (y.fst, Err.nil, ())
        else
          bif decide (kind0 = 15) then some (andI IntKind.u32 a1 b2, Err.nil, ())
          else bif decide (kind0 = 16) then some (xorI IntKind.u32 a1 b2, Err.nil, ()) else some (orI IntKind.u32 a1 b2, Err.nil, ())
theorem eval_fixed_eq (N : Nat) (x : VD [(.int .i64), (.int .u32), (.int .u32)]) : runF (eval_fixed_T0 N) (bodyOf Tryd.f99) [(.int .i64), (.int .u32), (.int .u32)] [(.int .u32), (.err 87 95)] (Tryd.f99).results.toList x = eval_fixed N x.1 x.2.1 x.2.2.1 := by kernel_rfl
def eval_fixed_e (N : Nat) : Ent := ⟨99, [(.int .i64), (.int .u32), (.int .u32)], [(.int .u32), (.err 87 95)], fun x => eval_fixed N x.1 x.2.1 x.2.2.1⟩
theorem eval_fixed_ok (N : Nat) : EntOk CC.P CC.gs (eval_fixed_e N) := (eval_fixed_T0_ok N).ent (fn := Tryd.f99) Tryd.func99 (by kernel_rfl) (by kernel_rfl) (fun vs w => Tryd.call99 vs w) (fun x => eval_fixed_eq N x)
def eval_two_R : Sh := ⟨[6, 7], [.r (.ptr 0 0), .v (.err 87 95)], [.box [.v (.pair (.int .u32) (.int .i64))]], []⟩
noncomputable def eval_two_T0 (N : Nat) : Tab := tab 0 80 [eval_fixed_e N] [] [] []
theorem eval_two_T0_ok (N : Nat) : TabOk CC 0 80 [eval_fixed_e N] [] [] [] (bodyOf Tryd.f87) := .nil CC_as ⟨eval_fixed_ok N, trivial⟩ trivial trivial
def eval_two (N : Nat) (kind0 : Int) (a1 : Int × Int) (b2 : Int × Int) : Option ((Int × Int) × Err × PUnit) :=
  bindI (bif decide (kind0 = 9) then some (decide (IntKind.i64.wrap (a1.snd + b2.snd) ≤ 1)) else some false) fun y =>
    bif y then some ((IntKind.u32.wrap (a1.fst + b2.fst), IntKind.i64.wrap (a1.snd + b2.snd)), Err.nil, ())
    else
      bindI (bif decide (kind0 = 10) then some (decide (b2.snd ≤ a1.snd)) else some false) fun y =>
        bif y then some ((IntKind.u32.wrap (a1.fst - b2.fst), IntKind.i64.wrap (a1.snd - b2.snd)), Err.nil, ())
        else
          bindI (bif decide (kind0 ≤ 10) then some true else some !decide (a1.snd = 0)) fun y =>
            bindI (bif y then some true else some !decide (b2.snd = 0)) fun y =>
              bif y then some ((0, 0), Err.code 7, ())
              else
                bindI (eval_fixed N kind0 a1.fst b2.fst) fun y =>
                  Err.el y.snd.fst (some ((y.fst, 0), Err.nil, ())) (fun c => some ((y.fst, 0), Err.code c, ())) fun l c k =>
                    some ((y.fst, 0), Err.fault l c k, ())
theorem eval_two_eq (N : Nat) (x : VD [(.int .i64), (.pair (.int .u32) (.int .i64)), (.pair (.int .u32) (.int .i64))]) : runF (eval_two_T0 N) (bodyOf Tryd.f87) [(.int .i64), (.pair (.int .u32) (.int .i64)), (.pair (.int .u32) (.int .i64))] [(.pair (.int .u32) (.int .i64)), (.err 87 95)] (Tryd.f87).results.toList x = eval_two N x.1 x.2.1 x.2.2.1 := by kernel_rfl
def eval_two_e (N : Nat) : Ent := ⟨87, [(.int .i64), (.pair (.int .u32) (.int .i64)), (.pair (.int .u32) (.int .i64))], [(.pair (.int .u32) (.int .i64)), (.err 87 95)], fun x => eval_two N x.1 x.2.1 x.2.2.1⟩
theorem eval_two_ok (N : Nat) : EntOk CC.P CC.gs (eval_two_e N) := (eval_two_T0_ok N).ent (fn := Tryd.f87) Tryd.func87 (by kernel_rfl) (by kernel_rfl) (fun vs w => Tryd.call87 vs w) (fun x => eval_two_eq N x)
def m__eval_reckoner__node_R : Sh := ⟨[0, 4, 5], [.r (.ptr 0 0), .r (.ptr 1 0), .v (.err 87 95)], [.box [.r (.arr 2), .v (.slice .sym), .v (.int .u32), .v .bool], .box [.v (.pair (.int .u32) (.int .i64))], .arr (.pair (.int .u32) (.int .i64))], [.arrc 0 0 (.pair (.int .u32) (.int .i64))]⟩
noncomputable def m__eval_reckoner__node_T0 (N : Nat) : Tab := tab 1 81 [eval_parts_e N, eval_two_e N] [m__eval_reckoner__leaf_o N, m__eval_reckoner__one_o N] [] []
theorem m__eval_reckoner__node_T0_ok (N : Nat) : TabOk CC 1 81 [eval_parts_e N, eval_two_e N] [m__eval_reckoner__leaf_o N, m__eval_reckoner__one_o N] [] [] (bodyOf Tryd.f68) := .nil CC_as ⟨eval_parts_ok N, eval_two_ok N, trivial⟩ ⟨m__eval_reckoner__leaf_ook N, m__eval_reckoner__one_ook N, trivial⟩ trivial
def m__eval_reckoner__node (N : Nat) (n1 : Nod) (r0 : List Sym × Int × Bool × PUnit) (r0f0 : List (Int × Int)) : Option (((Int × Int) × Err × PUnit) × (List Sym × Int × Bool × PUnit) × List (Int × Int) × PUnit) :=
  bindI (eval_parts N n1.kind) fun y =>
    bindI (bif decide (y.fst < 0) then some true else some (decide ((↑r0f0.length : Int) < y.fst))) fun y_1 =>
      bif y_1 then some (((0, 0), Err.code 6, ()), (r0.fst, r0.snd.fst, r0.snd.snd.fst, ()), r0f0, ())
      else
        bif inC (IntKind.i64.wrap ((↑r0f0.length : Int) - y.fst)) r0f0.length then
          bif inC (IntKind.i64.wrap ((↑r0f0.length : Int) - y.fst)) r0f0.length then
            bif decide (y.fst = 0) then
              bif (IntKind.i64.wrap ((↑r0f0.length : Int) - y.fst)).toNat.ble r0f0.length then
                bindI
                  (m__eval_reckoner__leaf N { kind := n1.kind, line := n1.line, col := n1.col, num := n1.num, name := n1.name : Nod }
                    (r0.fst, r0.snd.fst, r0.snd.snd.fst, ()) (List.take (IntKind.i64.wrap ((↑r0f0.length : Int) - y.fst)).toNat r0f0))
                  fun y =>
                  Err.el y.fst.snd.fst
                    (some (((y.fst.fst.fst, y.fst.fst.snd), Err.nil, ()), (y.snd.fst.fst, y.snd.fst.snd.fst, y.snd.fst.snd.snd.fst, ()), y.snd.snd.fst, ()))
                    (fun c =>
                      some (((y.fst.fst.fst, y.fst.fst.snd), Err.code c, ()), (y.snd.fst.fst, y.snd.fst.snd.fst, y.snd.fst.snd.snd.fst, ()), y.snd.snd.fst, ()))
                    fun l c k =>
                    some (((y.fst.fst.fst, y.fst.fst.snd), Err.fault l c k, ()), (y.snd.fst.fst, y.snd.fst.snd.fst, y.snd.fst.snd.snd.fst, ()), y.snd.snd.fst, ())
              else none
            else
              bif decide (y.fst = 1) then
                bif inB 0 (r0f0.length.sub (IntKind.i64.wrap ((↑r0f0.length : Int) - y.fst)).toNat) then
                  bindI r0f0[(IntKind.i64.wrap ((↑r0f0.length : Int) - y.fst)).toNat.add (Int.toNat 0)]? fun y_2 =>
                    bif (IntKind.i64.wrap ((↑r0f0.length : Int) - y.fst)).toNat.ble r0f0.length then
                      bindI
                        (m__eval_reckoner__one N n1.kind (y_2.fst, y_2.snd) (r0.fst, r0.snd.fst, r0.snd.snd.fst, ())
                          (List.take (IntKind.i64.wrap ((↑r0f0.length : Int) - y.fst)).toNat r0f0))
                        fun y =>
                        Err.el y.fst.snd.fst
                          (some (((y.fst.fst.fst, y.fst.fst.snd), Err.nil, ()), (y.snd.fst.fst, y.snd.fst.snd.fst, y.snd.fst.snd.snd.fst, ()), y.snd.snd.fst, ()))
                          (fun c =>
                            some
                              (((y.fst.fst.fst, y.fst.fst.snd), Err.code c, ()), (y.snd.fst.fst, y.snd.fst.snd.fst, y.snd.fst.snd.snd.fst, ()), y.snd.snd.fst,
                                ()))
                          fun l c k =>
                          some
                            (((y.fst.fst.fst, y.fst.fst.snd), Err.fault l c k, ()), (y.snd.fst.fst, y.snd.fst.snd.fst, y.snd.fst.snd.snd.fst, ()), y.snd.snd.fst,
                              ())
                    else none
                else none
              else
                bif inB 0 (r0f0.length.sub (IntKind.i64.wrap ((↑r0f0.length : Int) - y.fst)).toNat) then
                  bindI r0f0[(IntKind.i64.wrap ((↑r0f0.length : Int) - y.fst)).toNat.add (Int.toNat 0)]? fun y_2 =>
                    bif inB 1 (r0f0.length.sub (IntKind.i64.wrap ((↑r0f0.length : Int) - y.fst)).toNat) then
                      bindI r0f0[(IntKind.i64.wrap ((↑r0f0.length : Int) - y.fst)).toNat.add (Int.toNat 1)]? fun y_3 =>
                        bindI (eval_two N n1.kind (y_2.fst, y_2.snd) (y_3.fst, y_3.snd)) fun y_4 =>
                          Err.el y_4.snd.fst
                            (bindI
                              (bif (IntKind.i64.wrap ((↑r0f0.length : Int) - y.fst)).toNat.ble r0f0.length then
                                some ((), (r0.fst, r0.snd.fst, r0.snd.snd.fst, ()), List.take (IntKind.i64.wrap ((↑r0f0.length : Int) - y.fst)).toNat r0f0, ())
                              else none)
                              fun y => some (((y_4.fst.fst, y_4.fst.snd), Err.nil, ()), y.snd))
                            (fun c =>
                              bindI
                                (bif (IntKind.i64.wrap ((↑r0f0.length : Int) - y.fst)).toNat.ble r0f0.length then
                                  some ((), (r0.fst, r0.snd.fst, r0.snd.snd.fst, ()), List.take (IntKind.i64.wrap ((↑r0f0.length : Int) - y.fst)).toNat r0f0, ())
                                else none)
                                fun y => some (((y_4.fst.fst, y_4.fst.snd), Err.code c, ()), y.snd))
                            fun l c k =>
                            bindI
                              (bif (IntKind.i64.wrap ((↑r0f0.length : Int) - y.fst)).toNat.ble r0f0.length then
                                some ((), (r0.fst, r0.snd.fst, r0.snd.snd.fst, ()), List.take (IntKind.i64.wrap ((↑r0f0.length : Int) - y.fst)).toNat r0f0, ())
                              else none)
                              fun y => some (((y_4.fst.fst, y_4.fst.snd), Err.fault l c k, ()), y.snd)
                    else none
                else none
          else none
        else none
theorem m__eval_reckoner__node_eq (N : Nat) (x : LD [.r (.ptr 0 0), .v .nod] × OL [.box [.r (.arr 1), .v (.slice .sym), .v (.int .u32), .v .bool], .arr (.pair (.int .u32) (.int .i64))]) : runO (m__eval_reckoner__node_T0 N) (bodyOf Tryd.f68) [.r (.ptr 0 0), .v .nod] [.box [.r (.arr 1), .v (.slice .sym), .v (.int .u32), .v .bool], .arr (.pair (.int .u32) (.int .i64))] [(.pair (.int .u32) (.int .i64)), (.err 87 95)] [.box [.r (.arr 1), .v (.slice .sym), .v (.int .u32), .v .bool], .arr (.pair (.int .u32) (.int .i64))] [.arrc 0 0 (.pair (.int .u32) (.int .i64))] (Tryd.f68).results.toList x = m__eval_reckoner__node N x.1.1 x.2.1 x.2.2.1 := by kernel_rfl
def m__eval_reckoner__node_o (N : Nat) : EntO := ⟨68, 1, [.r (.ptr 0 0), .v .nod], [.box [.r (.arr 1), .v (.slice .sym), .v (.int .u32), .v .bool], .arr (.pair (.int .u32) (.int .i64))], [(.pair (.int .u32) (.int .i64)), (.err 87 95)], [.box [.r (.arr 1), .v (.slice .sym), .v (.int .u32), .v .bool], .arr (.pair (.int .u32) (.int .i64))], [.arrc 0 0 (.pair (.int .u32) (.int .i64))], fun x => m__eval_reckoner__node N x.1.1 x.2.1 x.2.2.1⟩
theorem m__eval_reckoner__node_ook (N : Nat) : EntOOk CC.P CC.gs (m__eval_reckoner__node_o N) := (m__eval_reckoner__node_T0_ok N).entO (fn := Tryd.f68) (pre := [.arrc 0 0 (.pair (.int .u32) (.int .i64))]) Tryd.func68 (by kernel_rfl) (by kernel_rfl) (by kernel_rfl) (fun vs w => Tryd.call68 vs w) (fun x => m__eval_reckoner__node_eq N x)
def eval_fault_R : Sh := ⟨[4], [.v (.err 87 95)], [], []⟩
noncomputable def eval_fault_T0 (_N : Nat) : Tab := tab 0 13 [] [] [] []
theorem eval_fault_T0_ok (_N : Nat) : TabOk CC 0 13 [] [] [] [] (bodyOf Tryd.f69) := .nil CC_as trivial trivial trivial
def eval_fault (_N : Nat) (n0 : Nod) (e1 : Err) : Option (Err × PUnit) :=
  Err.el e1 none (fun c => some (Err.fault n0.line n0.col c, ())) fun _y _y_1 _y_2 => none
theorem eval_fault_eq (N : Nat) (x : VD [.nod, (.err 87 95)]) : runF (eval_fault_T0 N) (bodyOf Tryd.f69) [.nod, (.err 87 95)] [(.err 87 95)] (Tryd.f69).results.toList x = eval_fault N x.1 x.2.1 := by kernel_rfl
def eval_fault_e (N : Nat) : Ent := ⟨69, [.nod, (.err 87 95)], [(.err 87 95)], fun x => eval_fault N x.1 x.2.1⟩
theorem eval_fault_ok (N : Nat) : EntOk CC.P CC.gs (eval_fault_e N) := (eval_fault_T0_ok N).ent (fn := Tryd.f69) Tryd.func69 (by kernel_rfl) (by kernel_rfl) (fun vs w => Tryd.call69 vs w) (fun x => eval_fault_eq N x)
def m__eval_reckoner__all_R : Sh := ⟨[0, 4, 5], [.r (.ptr 0 0), .r (.ptr 1 0), .v (.err 87 95)], [.box [.r (.arr 2), .v (.slice .sym), .v (.int .u32), .v .bool], .box [.v (.pair (.int .u32) (.int .i64))], .arr (.pair (.int .u32) (.int .i64))], [.arrc 0 0 (.pair (.int .u32) (.int .i64))]⟩
noncomputable def m__eval_reckoner__all_T0 (N : Nat) : Tab := tab 1 57 [eval_fault_e N] [m__eval_reckoner__node_o N] [] []
theorem m__eval_reckoner__all_T0_ok (N : Nat) : TabOk CC 1 57 [eval_fault_e N] [m__eval_reckoner__node_o N] [] [] (bodyOf Tryd.f50) := .nil CC_as ⟨eval_fault_ok N, trivial⟩ ⟨m__eval_reckoner__node_ook N, trivial⟩ trivial
def m__eval_reckoner__all_L0i : Sh := ⟨[0, 4, 6, 11, 12, 13], [.r (.ptr 0 0), .r (.ptr 1 0), .r (.ptr 2 0), .v (.slice .nod), .v (.int .i64), .v (.int .i64)], [.box [.r (.arr 3), .v (.slice .sym), .v (.int .u32), .v .bool], .box [.v (.pair (.int .u32) (.int .i64))], .box [.v .nod], .arr (.pair (.int .u32) (.int .i64))], [.arrc 0 0 (.pair (.int .u32) (.int .i64))]⟩
def m__eval_reckoner__all_L0o : Sh := ⟨[0, 4, 6], [.r (.ptr 0 0), .r (.ptr 1 0), .r (.ptr 2 0)], [.box [.r (.arr 3), .v (.slice .sym), .v (.int .u32), .v .bool], .box [.v (.pair (.int .u32) (.int .i64))], .box [.v .nod], .arr (.pair (.int .u32) (.int .i64))], [.arrc 0 0 (.pair (.int .u32) (.int .i64))]⟩
def m__eval_reckoner__all_L0s (N : Nat) (x11 : List Nod) (x12 : Int) (x13 : Int) (r0 : List Sym × Int × Bool × PUnit) (x4 : (Int × Int) × PUnit) (last6 : Nod × PUnit) (r0f0 : List (Int × Int)) (k : LD m__eval_reckoner__all_L0i.2 × OL m__eval_reckoner__all_L0i.3 → Option (Ex (LD m__eval_reckoner__all_L0o.2 × OL m__eval_reckoner__all_L0o.3) (LD m__eval_reckoner__all_R.2 × OL m__eval_reckoner__all_R.3))) : Option (Ex (LD m__eval_reckoner__all_L0o.2 × OL m__eval_reckoner__all_L0o.3) (LD m__eval_reckoner__all_R.2 × OL m__eval_reckoner__all_R.3)) :=
  bif decide (x13 < x12) then
    bindI (geti x11 x13) fun y =>
      bindI
        (m__eval_reckoner__node N { kind := y.kind, line := y.line, col := y.col, num := y.num, name := y.name : Nod } (r0.fst, r0.snd.fst, r0.snd.snd.fst, ())
          r0f0)
        fun y_1 =>
        Err.el y_1.fst.snd.fst
          (bif (List.length (y_1.snd.snd.fst ++ [(y_1.fst.fst.fst, y_1.fst.fst.snd)])).ble 4294967296 then
            k
              ((x11, x12, IntKind.i64.wrap (x13 + 1), ()), (y_1.snd.fst.fst, y_1.snd.fst.snd.fst, y_1.snd.fst.snd.snd.fst, ()), ((x4.fst.fst, x4.fst.snd), ()),
                ({ kind := y.kind, line := y.line, col := y.col, num := y.num, name := y.name : Nod }, ()),
                y_1.snd.snd.fst ++ [(y_1.fst.fst.fst, y_1.fst.fst.snd)], ())
          else none)
          (fun c =>
            some
              (Ex.ret ((Err.fault y.line y.col c, ()), (y_1.snd.fst.fst, y_1.snd.fst.snd.fst, y_1.snd.fst.snd.snd.fst, ()), ((0, 0), ()), y_1.snd.snd.fst, ())))
          fun _y _y_1 _y_2 => none
  else
    some
      (Ex.out
        ((), (r0.fst, r0.snd.fst, r0.snd.snd.fst, ()), ((x4.fst.fst, x4.fst.snd), ()),
          ({ kind := last6.fst.kind, line := last6.fst.line, col := last6.fst.col, num := last6.fst.num, name := last6.fst.name : Nod }, ()), r0f0, ()))
def m__eval_reckoner__all_L0 (N : Nat) : Nat → m__eval_reckoner__all_L0i.D → Option (Ex m__eval_reckoner__all_L0o.D m__eval_reckoner__all_R.D) := loopN fun x k => m__eval_reckoner__all_L0s N x.1.1 x.1.2.1 x.1.2.2.1 x.2.1 x.2.2.1 x.2.2.2.1 x.2.2.2.2.1 k
theorem m__eval_reckoner__all_L0_succ (N f : Nat) (x : m__eval_reckoner__all_L0i.D) : m__eval_reckoner__all_L0 N (f + 1) x = m__eval_reckoner__all_L0s N x.1.1 x.1.2.1 x.1.2.2.1 x.2.1 x.2.2.1 x.2.2.2.1 x.2.2.2.2.1 (m__eval_reckoner__all_L0 N f) := rfl
theorem m__eval_reckoner__all_L0_eq (N : Nat) (x : m__eval_reckoner__all_L0i.D) (k : m__eval_reckoner__all_L0i.D → Option (Ex m__eval_reckoner__all_L0o.D m__eval_reckoner__all_R.D)) : stepL (m__eval_reckoner__all_T0 N) m__eval_reckoner__all_L0i m__eval_reckoner__all_L0o m__eval_reckoner__all_R 0 ((subAt (bodyOf Tryd.f50) [0, 0, 1, 0, 1, 1]).getD .skip) [0, 1, 0, 1, 1] x k = m__eval_reckoner__all_L0s N x.1.1 x.1.2.1 x.1.2.2.1 x.2.1 x.2.2.1 x.2.2.2.1 x.2.2.2.2.1 k := by kernel_rfl
noncomputable def m__eval_reckoner__all_T1 (N : Nat) : Tab := tab 1 57 [eval_fault_e N] [m__eval_reckoner__node_o N] [] [([0, 1, 0, 1, 1], ⟨m__eval_reckoner__all_L0i, m__eval_reckoner__all_L0o, m__eval_reckoner__all_R, 0, m__eval_reckoner__all_L0 N N⟩)]
theorem m__eval_reckoner__all_T1_ok (N : Nat) : TabOk CC 1 57 [eval_fault_e N] [m__eval_reckoner__node_o N] [] [([0, 1, 0, 1, 1], ⟨m__eval_reckoner__all_L0i, m__eval_reckoner__all_L0o, m__eval_reckoner__all_R, 0, m__eval_reckoner__all_L0 N N⟩)] (bodyOf Tryd.f50) := (m__eval_reckoner__all_T0_ok N).snoc (π := [0, 1, 0, 1, 1]) (b := ((subAt (bodyOf Tryd.f50) [0, 0, 1, 0, 1, 1]).getD .skip)) (inn := m__eval_reckoner__all_L0i) (out := m__eval_reckoner__all_L0o) (ret := m__eval_reckoner__all_R) (xid := 0) (n := N) (step := fun x k => m__eval_reckoner__all_L0s N x.1.1 x.1.2.1 x.1.2.2.1 x.2.1 x.2.2.1 x.2.2.2.1 x.2.2.2.2.1 k) (by kernel_rfl) (fun x k => m__eval_reckoner__all_L0_eq N x k)
def m__eval_reckoner__all (N : Nat) (l1 : List Nod) (r0 : List Sym × Int × Bool × PUnit) (r0f0 : List (Int × Int)) : Option (((Int × Int) × Err × PUnit) × (List Sym × Int × Bool × PUnit) × List (Int × Int) × PUnit) :=
  bindX
    (m__eval_reckoner__all_L0 N N
      ((l1, (↑(List.length l1) : Int), 0, ()), (r0.fst, r0.snd.fst, r0.snd.snd.fst, ()), ((0, 0), ()),
        ({ kind := 0, line := 0, col := 0, num := 0, name := [] : Nod }, ()), r0f0, ()))
    (fun y =>
      bif !decide ((↑(List.length y.snd.snd.snd.snd.fst) : Int) = 1) then
        some
          (((0, 0), Err.fault y.snd.snd.snd.fst.fst.line y.snd.snd.snd.fst.fst.col 6, ()), (y.snd.fst.fst, y.snd.fst.snd.fst, y.snd.fst.snd.snd.fst, ()),
            y.snd.snd.snd.snd.fst, ())
      else
        bif inB 0 (List.length y.snd.snd.snd.snd.fst) then
          bindI y.snd.snd.snd.snd.fst[Int.toNat 0]? fun y_1 =>
            some (((y_1.fst, y_1.snd), Err.nil, ()), (y.snd.fst.fst, y.snd.fst.snd.fst, y.snd.fst.snd.snd.fst, ()), y.snd.snd.snd.snd.fst, ())
        else none)
    fun y =>
    Err.el y.fst.fst
      (some (((y.snd.snd.fst.fst.fst, y.snd.snd.fst.fst.snd), Err.nil, ()), (y.snd.fst.fst, y.snd.fst.snd.fst, y.snd.fst.snd.snd.fst, ()), y.snd.snd.snd.fst, ()))
      (fun c =>
        some
          (((y.snd.snd.fst.fst.fst, y.snd.snd.fst.fst.snd), Err.code c, ()), (y.snd.fst.fst, y.snd.fst.snd.fst, y.snd.fst.snd.snd.fst, ()), y.snd.snd.snd.fst,
            ()))
      fun l c k =>
      some
        (((y.snd.snd.fst.fst.fst, y.snd.snd.fst.fst.snd), Err.fault l c k, ()), (y.snd.fst.fst, y.snd.fst.snd.fst, y.snd.fst.snd.snd.fst, ()), y.snd.snd.snd.fst,
          ())
theorem m__eval_reckoner__all_eq (N : Nat) (x : LD [.r (.ptr 0 0), .v (.slice .nod)] × OL [.box [.r (.arr 1), .v (.slice .sym), .v (.int .u32), .v .bool], .arr (.pair (.int .u32) (.int .i64))]) : runO (m__eval_reckoner__all_T1 N) (bodyOf Tryd.f50) [.r (.ptr 0 0), .v (.slice .nod)] [.box [.r (.arr 1), .v (.slice .sym), .v (.int .u32), .v .bool], .arr (.pair (.int .u32) (.int .i64))] [(.pair (.int .u32) (.int .i64)), (.err 87 95)] [.box [.r (.arr 1), .v (.slice .sym), .v (.int .u32), .v .bool], .arr (.pair (.int .u32) (.int .i64))] [.arrc 0 0 (.pair (.int .u32) (.int .i64))] (Tryd.f50).results.toList x = m__eval_reckoner__all N x.1.1 x.2.1 x.2.2.1 := by kernel_rfl
def m__eval_reckoner__all_o (N : Nat) : EntO := ⟨50, 1, [.r (.ptr 0 0), .v (.slice .nod)], [.box [.r (.arr 1), .v (.slice .sym), .v (.int .u32), .v .bool], .arr (.pair (.int .u32) (.int .i64))], [(.pair (.int .u32) (.int .i64)), (.err 87 95)], [.box [.r (.arr 1), .v (.slice .sym), .v (.int .u32), .v .bool], .arr (.pair (.int .u32) (.int .i64))], [.arrc 0 0 (.pair (.int .u32) (.int .i64))], fun x => m__eval_reckoner__all N x.1.1 x.2.1 x.2.2.1⟩
theorem m__eval_reckoner__all_ook (N : Nat) : EntOOk CC.P CC.gs (m__eval_reckoner__all_o N) := (m__eval_reckoner__all_T1_ok N).entO (fn := Tryd.f50) (pre := [.arrc 0 0 (.pair (.int .u32) (.int .i64))]) Tryd.func50 (by kernel_rfl) (by kernel_rfl) (by kernel_rfl) (fun vs w => Tryd.call50 vs w) (fun x => m__eval_reckoner__all_eq N x)
def eval_Value_R : Sh := ⟨[8, 9, 10], [.v (.int .u32), .v (.int .i64), .v (.err 87 95)], [], []⟩
noncomputable def eval_Value_T0 (N : Nat) : Tab := tab 0 34 [eval_known_e N] [m__eval_reckoner__all_o N] [] []
theorem eval_Value_T0_ok (N : Nat) : TabOk CC 0 34 [eval_known_e N] [m__eval_reckoner__all_o N] [] [] (bodyOf Tryd.f30) := .nil CC_as ⟨eval_known_ok N, trivial⟩ ⟨m__eval_reckoner__all_ook N, trivial⟩ trivial
def eval_Value (N : Nat) (l0 : List Nod) (syms1 : List Sym) (place2 : Int) (early3 : Bool) : Option (Int × Int × Err × PUnit) :=
  bindI (eval_known N syms1) fun y =>
    bindI (m__eval_reckoner__all N l0 (y.fst, place2, early3, ()) []) fun y =>
      Err.el y.fst.snd.fst (some (y.fst.fst.fst, y.fst.fst.snd, Err.nil, ())) (fun _y => none) fun l c k => some (0, 0, Err.fault l c k, ())
theorem eval_Value_eq (N : Nat) (x : VD [(.slice .nod), (.slice .sym), (.int .u32), .bool]) : runF (eval_Value_T0 N) (bodyOf Tryd.f30) [(.slice .nod), (.slice .sym), (.int .u32), .bool] [(.int .u32), (.int .i64), (.err 87 95)] (Tryd.f30).results.toList x = eval_Value N x.1 x.2.1 x.2.2.1 x.2.2.2.1 := by kernel_rfl
def eval_Value_e (N : Nat) : Ent := ⟨30, [(.slice .nod), (.slice .sym), (.int .u32), .bool], [(.int .u32), (.int .i64), (.err 87 95)], fun x => eval_Value N x.1 x.2.1 x.2.2.1 x.2.2.2.1⟩
theorem eval_Value_ok (N : Nat) : EntOk CC.P CC.gs (eval_Value_e N) := (eval_Value_T0_ok N).ent (fn := Tryd.f30) Tryd.func30 (by kernel_rfl) (by kernel_rfl) (fun vs w => Tryd.call30 vs w) (fun x => eval_Value_eq N x)
def typecaselaw12_awake_R : Sh := ⟨[0], [.v .bool], [], []⟩
noncomputable def typecaselaw12_awake_T0 (N : Nat) : Tab := tab 0 73 [typecaselaw10_Fault_e N, eval_Value_e N] [] [] []
theorem typecaselaw12_awake_T0_ok (N : Nat) : TabOk CC 0 73 [typecaselaw10_Fault_e N, eval_Value_e N] [] [] [] (bodyOf Tryd.f26) := .nil CC_as ⟨typecaselaw10_Fault_ok N, eval_Value_ok N, trivial⟩ trivial trivial
def typecaselaw12_awake (N : Nat) : Option (Bool × PUnit) :=
  bindI
    (eval_Value N
      [{ kind := 2, line := 3, col := 0, num := 0, name := [UInt8.ofNat 120] : Nod }, { kind := 1, line := 0, col := 0, num := 4, name := [] : Nod },
        { kind := 10, line := 0, col := 0, num := 0, name := [] : Nod }]
      [{ name := [UInt8.ofNat 120], value := 100, cls := 1 : Sym }] 0 false)
    fun y =>
    Err.el y.snd.snd.fst
      (bindI
        (eval_Value N
          [{ kind := 2, line := 3, col := 0, num := 0, name := [UInt8.ofNat 120] : Nod },
            { kind := 2, line := 3, col := 0, num := 0, name := [UInt8.ofNat 120] : Nod }, { kind := 10, line := 0, col := 0, num := 0, name := [] : Nod }]
          [{ name := [UInt8.ofNat 120], value := 100, cls := 1 : Sym }] 0 false)
        fun y_1 =>
        Err.el y_1.snd.snd.fst
          (bindI
            (eval_Value N
              [{ kind := 2, line := 3, col := 0, num := 0, name := [UInt8.ofNat 120] : Nod },
                { kind := 2, line := 3, col := 0, num := 0, name := [UInt8.ofNat 120] : Nod }, { kind := 9, line := 2, col := 5, num := 0, name := [] : Nod }]
              [{ name := [UInt8.ofNat 120], value := 100, cls := 1 : Sym }] 0 false)
            fun y_2 =>
            Err.el y_2.snd.snd.fst
              (bindI (bif decide (y.fst = 96) then some (decide (y.snd.fst = 1)) else some false) fun y =>
                bindI (bif y then some true else some false) fun y =>
                  bindI (bif y then some (decide (y_1.fst = 0)) else some false) fun y =>
                    bindI (bif y then some (decide (y_1.snd.fst = 0)) else some false) fun y =>
                      bindI (bif y then some true else some false) fun y =>
                        bindI (bif y then some (false && (false && (false && true))) else some false) fun y => some (y, ()))
              (fun _y =>
                bindI (bif decide (y.fst = 96) then some (decide (y.snd.fst = 1)) else some false) fun y =>
                  bindI (bif y then some true else some false) fun y =>
                    bindI (bif y then some (decide (y_1.fst = 0)) else some false) fun y =>
                      bindI (bif y then some (decide (y_1.snd.fst = 0)) else some false) fun y =>
                        bindI (bif y then some true else some false) fun y => bindI (bif y then none else some false) fun y => some (y, ()))
              fun l c k =>
              bindI (bif decide (y.fst = 96) then some (decide (y.snd.fst = 1)) else some false) fun y =>
                bindI (bif y then some true else some false) fun y =>
                  bindI (bif y then some (decide (y_1.fst = 0)) else some false) fun y =>
                    bindI (bif y then some (decide (y_1.snd.fst = 0)) else some false) fun y =>
                      bindI (bif y then some true else some false) fun y =>
                        bindI
                          (bif y then
                            bindI (typecaselaw10_Fault N (Err.fault l c k)) fun y =>
                              some (decide (y.fst.fst = 2) && (decide (y.fst.snd.fst = 5) && (decide (y.fst.snd.snd = 7) && true)))
                          else some false)
                          fun y => some (y, ()))
          (fun _y =>
            bindI
              (eval_Value N
                [{ kind := 2, line := 3, col := 0, num := 0, name := [UInt8.ofNat 120] : Nod },
                  { kind := 2, line := 3, col := 0, num := 0, name := [UInt8.ofNat 120] : Nod }, { kind := 9, line := 2, col := 5, num := 0, name := [] : Nod }]
                [{ name := [UInt8.ofNat 120], value := 100, cls := 1 : Sym }] 0 false)
              fun y_2 =>
              Err.el y_2.snd.snd.fst
                (bindI (bif decide (y.fst = 96) then some (decide (y.snd.fst = 1)) else some false) fun y =>
                  bindI (bif y then some true else some false) fun y =>
                    bindI (bif y then some (decide (y_1.fst = 0)) else some false) fun y =>
                      bindI (bif y then some (decide (y_1.snd.fst = 0)) else some false) fun y =>
                        bindI (bif y then some false else some false) fun y =>
                          bindI (bif y then some (false && (false && (false && true))) else some false) fun y => some (y, ()))
                (fun _y =>
                  bindI (bif decide (y.fst = 96) then some (decide (y.snd.fst = 1)) else some false) fun y =>
                    bindI (bif y then some true else some false) fun y =>
                      bindI (bif y then some (decide (y_1.fst = 0)) else some false) fun y =>
                        bindI (bif y then some (decide (y_1.snd.fst = 0)) else some false) fun y =>
                          bindI (bif y then some false else some false) fun y => bindI (bif y then none else some false) fun y => some (y, ()))
                fun l c k =>
                bindI (bif decide (y.fst = 96) then some (decide (y.snd.fst = 1)) else some false) fun y =>
                  bindI (bif y then some true else some false) fun y =>
                    bindI (bif y then some (decide (y_1.fst = 0)) else some false) fun y =>
                      bindI (bif y then some (decide (y_1.snd.fst = 0)) else some false) fun y =>
                        bindI (bif y then some false else some false) fun y =>
                          bindI
                            (bif y then
                              bindI (typecaselaw10_Fault N (Err.fault l c k)) fun y =>
                                some (decide (y.fst.fst = 2) && (decide (y.fst.snd.fst = 5) && (decide (y.fst.snd.snd = 7) && true)))
                            else some false)
                            fun y => some (y, ()))
          fun _y _y_1 _y_2 =>
          bindI
            (eval_Value N
              [{ kind := 2, line := 3, col := 0, num := 0, name := [UInt8.ofNat 120] : Nod },
                { kind := 2, line := 3, col := 0, num := 0, name := [UInt8.ofNat 120] : Nod }, { kind := 9, line := 2, col := 5, num := 0, name := [] : Nod }]
              [{ name := [UInt8.ofNat 120], value := 100, cls := 1 : Sym }] 0 false)
            fun y_2 =>
            Err.el y_2.snd.snd.fst
              (bindI (bif decide (y.fst = 96) then some (decide (y.snd.fst = 1)) else some false) fun y =>
                bindI (bif y then some true else some false) fun y =>
                  bindI (bif y then some (decide (y_1.fst = 0)) else some false) fun y =>
                    bindI (bif y then some (decide (y_1.snd.fst = 0)) else some false) fun y =>
                      bindI (bif y then some false else some false) fun y =>
                        bindI (bif y then some (false && (false && (false && true))) else some false) fun y => some (y, ()))
              (fun _y =>
                bindI (bif decide (y.fst = 96) then some (decide (y.snd.fst = 1)) else some false) fun y =>
                  bindI (bif y then some true else some false) fun y =>
                    bindI (bif y then some (decide (y_1.fst = 0)) else some false) fun y =>
                      bindI (bif y then some (decide (y_1.snd.fst = 0)) else some false) fun y =>
                        bindI (bif y then some false else some false) fun y => bindI (bif y then none else some false) fun y => some (y, ()))
              fun l c k =>
              bindI (bif decide (y.fst = 96) then some (decide (y.snd.fst = 1)) else some false) fun y =>
                bindI (bif y then some true else some false) fun y =>
                  bindI (bif y then some (decide (y_1.fst = 0)) else some false) fun y =>
                    bindI (bif y then some (decide (y_1.snd.fst = 0)) else some false) fun y =>
                      bindI (bif y then some false else some false) fun y =>
                        bindI
                          (bif y then
                            bindI (typecaselaw10_Fault N (Err.fault l c k)) fun y =>
                              some (decide (y.fst.fst = 2) && (decide (y.fst.snd.fst = 5) && (decide (y.fst.snd.snd = 7) && true)))
                          else some false)
                          fun y => some (y, ()))
      (fun _y =>
        bindI
          (eval_Value N
            [{ kind := 2, line := 3, col := 0, num := 0, name := [UInt8.ofNat 120] : Nod },
              { kind := 2, line := 3, col := 0, num := 0, name := [UInt8.ofNat 120] : Nod }, { kind := 10, line := 0, col := 0, num := 0, name := [] : Nod }]
            [{ name := [UInt8.ofNat 120], value := 100, cls := 1 : Sym }] 0 false)
          fun y_1 =>
          Err.el y_1.snd.snd.fst
            (bindI
              (eval_Value N
                [{ kind := 2, line := 3, col := 0, num := 0, name := [UInt8.ofNat 120] : Nod },
                  { kind := 2, line := 3, col := 0, num := 0, name := [UInt8.ofNat 120] : Nod }, { kind := 9, line := 2, col := 5, num := 0, name := [] : Nod }]
                [{ name := [UInt8.ofNat 120], value := 100, cls := 1 : Sym }] 0 false)
              fun y_2 =>
              Err.el y_2.snd.snd.fst
                (bindI (bif decide (y.fst = 96) then some (decide (y.snd.fst = 1)) else some false) fun y =>
                  bindI (bif y then some false else some false) fun y =>
                    bindI (bif y then some (decide (y_1.fst = 0)) else some false) fun y =>
                      bindI (bif y then some (decide (y_1.snd.fst = 0)) else some false) fun y =>
                        bindI (bif y then some true else some false) fun y =>
                          bindI (bif y then some (false && (false && (false && true))) else some false) fun y => some (y, ()))
                (fun _y =>
                  bindI (bif decide (y.fst = 96) then some (decide (y.snd.fst = 1)) else some false) fun y =>
                    bindI (bif y then some false else some false) fun y =>
                      bindI (bif y then some (decide (y_1.fst = 0)) else some false) fun y =>
                        bindI (bif y then some (decide (y_1.snd.fst = 0)) else some false) fun y =>
                          bindI (bif y then some true else some false) fun y => bindI (bif y then none else some false) fun y => some (y, ()))
                fun l c k =>
                bindI (bif decide (y.fst = 96) then some (decide (y.snd.fst = 1)) else some false) fun y =>
                  bindI (bif y then some false else some false) fun y =>
                    bindI (bif y then some (decide (y_1.fst = 0)) else some false) fun y =>
                      bindI (bif y then some (decide (y_1.snd.fst = 0)) else some false) fun y =>
                        bindI (bif y then some true else some false) fun y =>
                          bindI
                            (bif y then
                              bindI (typecaselaw10_Fault N (Err.fault l c k)) fun y =>
                                some (decide (y.fst.fst = 2) && (decide (y.fst.snd.fst = 5) && (decide (y.fst.snd.snd = 7) && true)))
                            else some false)
                            fun y => some (y, ()))
            (fun _y =>
              bindI
                (eval_Value N
                  [{ kind := 2, line := 3, col := 0, num := 0, name := [UInt8.ofNat 120] : Nod },
                    { kind := 2, line := 3, col := 0, num := 0, name := [UInt8.ofNat 120] : Nod }, { kind := 9, line := 2, col := 5, num := 0, name := [] : Nod }]
                  [{ name := [UInt8.ofNat 120], value := 100, cls := 1 : Sym }] 0 false)
                fun y_2 =>
                Err.el y_2.snd.snd.fst
                  (bindI (bif decide (y.fst = 96) then some (decide (y.snd.fst = 1)) else some false) fun y =>
                    bindI (bif y then some false else some false) fun y =>
                      bindI (bif y then some (decide (y_1.fst = 0)) else some false) fun y =>
                        bindI (bif y then some (decide (y_1.snd.fst = 0)) else some false) fun y =>
                          bindI (bif y then some false else some false) fun y =>
                            bindI (bif y then some (false && (false && (false && true))) else some false) fun y => some (y, ()))
                  (fun _y =>
                    bindI (bif decide (y.fst = 96) then some (decide (y.snd.fst = 1)) else some false) fun y =>
                      bindI (bif y then some false else some false) fun y =>
                        bindI (bif y then some (decide (y_1.fst = 0)) else some false) fun y =>
                          bindI (bif y then some (decide (y_1.snd.fst = 0)) else some false) fun y =>
                            bindI (bif y then some false else some false) fun y => bindI (bif y then none else some false) fun y => some (y, ()))
                  fun l c k =>
                  bindI (bif decide (y.fst = 96) then some (decide (y.snd.fst = 1)) else some false) fun y =>
                    bindI (bif y then some false else some false) fun y =>
                      bindI (bif y then some (decide (y_1.fst = 0)) else some false) fun y =>
                        bindI (bif y then some (decide (y_1.snd.fst = 0)) else some false) fun y =>
                          bindI (bif y then some false else some false) fun y =>
                            bindI
                              (bif y then
                                bindI (typecaselaw10_Fault N (Err.fault l c k)) fun y =>
                                  some (decide (y.fst.fst = 2) && (decide (y.fst.snd.fst = 5) && (decide (y.fst.snd.snd = 7) && true)))
                              else some false)
                              fun y => some (y, ()))
            fun _y _y_1 _y_2 =>
            bindI
              (eval_Value N
                [{ kind := 2, line := 3, col := 0, num := 0, name := [UInt8.ofNat 120] : Nod },
                  { kind := 2, line := 3, col := 0, num := 0, name := [UInt8.ofNat 120] : Nod }, { kind := 9, line := 2, col := 5, num := 0, name := [] : Nod }]
                [{ name := [UInt8.ofNat 120], value := 100, cls := 1 : Sym }] 0 false)
              fun y_2 =>
              Err.el y_2.snd.snd.fst
                (bindI (bif decide (y.fst = 96) then some (decide (y.snd.fst = 1)) else some false) fun y =>
                  bindI (bif y then some false else some false) fun y =>
                    bindI (bif y then some (decide (y_1.fst = 0)) else some false) fun y =>
                      bindI (bif y then some (decide (y_1.snd.fst = 0)) else some false) fun y =>
                        bindI (bif y then some false else some false) fun y =>
                          bindI (bif y then some (false && (false && (false && true))) else some false) fun y => some (y, ()))
                (fun _y =>
                  bindI (bif decide (y.fst = 96) then some (decide (y.snd.fst = 1)) else some false) fun y =>
                    bindI (bif y then some false else some false) fun y =>
                      bindI (bif y then some (decide (y_1.fst = 0)) else some false) fun y =>
                        bindI (bif y then some (decide (y_1.snd.fst = 0)) else some false) fun y =>
                          bindI (bif y then some false else some false) fun y => bindI (bif y then none else some false) fun y => some (y, ()))
                fun l c k =>
                bindI (bif decide (y.fst = 96) then some (decide (y.snd.fst = 1)) else some false) fun y =>
                  bindI (bif y then some false else some false) fun y =>
                    bindI (bif y then some (decide (y_1.fst = 0)) else some false) fun y =>
                      bindI (bif y then some (decide (y_1.snd.fst = 0)) else some false) fun y =>
                        bindI (bif y then some false else some false) fun y =>
                          bindI
                            (bif y then
                              bindI (typecaselaw10_Fault N (Err.fault l c k)) fun y =>
                                some (decide (y.fst.fst = 2) && (decide (y.fst.snd.fst = 5) && (decide (y.fst.snd.snd = 7) && true)))
                            else some false)
                            fun y => some (y, ()))
      fun _y _y_1 _y_2 =>
      bindI
        (eval_Value N
          [{ kind := 2, line := 3, col := 0, num := 0, name := [UInt8.ofNat 120] : Nod },
            { kind := 2, line := 3, col := 0, num := 0, name := [UInt8.ofNat 120] : Nod }, { kind := 10, line := 0, col := 0, num := 0, name := [] : Nod }]
          [{ name := [UInt8.ofNat 120], value := 100, cls := 1 : Sym }] 0 false)
        fun y_1 =>
        Err.el y_1.snd.snd.fst
          (bindI
            (eval_Value N
              [{ kind := 2, line := 3, col := 0, num := 0, name := [UInt8.ofNat 120] : Nod },
                { kind := 2, line := 3, col := 0, num := 0, name := [UInt8.ofNat 120] : Nod }, { kind := 9, line := 2, col := 5, num := 0, name := [] : Nod }]
              [{ name := [UInt8.ofNat 120], value := 100, cls := 1 : Sym }] 0 false)
            fun y_2 =>
            Err.el y_2.snd.snd.fst
              (bindI (bif decide (y.fst = 96) then some (decide (y.snd.fst = 1)) else some false) fun y =>
                bindI (bif y then some false else some false) fun y =>
                  bindI (bif y then some (decide (y_1.fst = 0)) else some false) fun y =>
                    bindI (bif y then some (decide (y_1.snd.fst = 0)) else some false) fun y =>
                      bindI (bif y then some true else some false) fun y =>
                        bindI (bif y then some (false && (false && (false && true))) else some false) fun y => some (y, ()))
              (fun _y =>
                bindI (bif decide (y.fst = 96) then some (decide (y.snd.fst = 1)) else some false) fun y =>
                  bindI (bif y then some false else some false) fun y =>
                    bindI (bif y then some (decide (y_1.fst = 0)) else some false) fun y =>
                      bindI (bif y then some (decide (y_1.snd.fst = 0)) else some false) fun y =>
                        bindI (bif y then some true else some false) fun y => bindI (bif y then none else some false) fun y => some (y, ()))
              fun l c k =>
              bindI (bif decide (y.fst = 96) then some (decide (y.snd.fst = 1)) else some false) fun y =>
                bindI (bif y then some false else some false) fun y =>
                  bindI (bif y then some (decide (y_1.fst = 0)) else some false) fun y =>
                    bindI (bif y then some (decide (y_1.snd.fst = 0)) else some false) fun y =>
                      bindI (bif y then some true else some false) fun y =>
                        bindI
                          (bif y then
                            bindI (typecaselaw10_Fault N (Err.fault l c k)) fun y =>
                              some (decide (y.fst.fst = 2) && (decide (y.fst.snd.fst = 5) && (decide (y.fst.snd.snd = 7) && true)))
                          else some false)
                          fun y => some (y, ()))
          (fun _y =>
            bindI
              (eval_Value N
                [{ kind := 2, line := 3, col := 0, num := 0, name := [UInt8.ofNat 120] : Nod },
                  { kind := 2, line := 3, col := 0, num := 0, name := [UInt8.ofNat 120] : Nod }, { kind := 9, line := 2, col := 5, num := 0, name := [] : Nod }]
                [{ name := [UInt8.ofNat 120], value := 100, cls := 1 : Sym }] 0 false)
              fun y_2 =>
              Err.el y_2.snd.snd.fst
                (bindI (bif decide (y.fst = 96) then some (decide (y.snd.fst = 1)) else some false) fun y =>
                  bindI (bif y then some false else some false) fun y =>
                    bindI (bif y then some (decide (y_1.fst = 0)) else some false) fun y =>
                      bindI (bif y then some (decide (y_1.snd.fst = 0)) else some false) fun y =>
                        bindI (bif y then some false else some false) fun y =>
                          bindI (bif y then some (false && (false && (false && true))) else some false) fun y => some (y, ()))
                (fun _y =>
                  bindI (bif decide (y.fst = 96) then some (decide (y.snd.fst = 1)) else some false) fun y =>
                    bindI (bif y then some false else some false) fun y =>
                      bindI (bif y then some (decide (y_1.fst = 0)) else some false) fun y =>
                        bindI (bif y then some (decide (y_1.snd.fst = 0)) else some false) fun y =>
                          bindI (bif y then some false else some false) fun y => bindI (bif y then none else some false) fun y => some (y, ()))
                fun l c k =>
                bindI (bif decide (y.fst = 96) then some (decide (y.snd.fst = 1)) else some false) fun y =>
                  bindI (bif y then some false else some false) fun y =>
                    bindI (bif y then some (decide (y_1.fst = 0)) else some false) fun y =>
                      bindI (bif y then some (decide (y_1.snd.fst = 0)) else some false) fun y =>
                        bindI (bif y then some false else some false) fun y =>
                          bindI
                            (bif y then
                              bindI (typecaselaw10_Fault N (Err.fault l c k)) fun y =>
                                some (decide (y.fst.fst = 2) && (decide (y.fst.snd.fst = 5) && (decide (y.fst.snd.snd = 7) && true)))
                            else some false)
                            fun y => some (y, ()))
          fun _y _y_3 _y_4 =>
          bindI
            (eval_Value N
              [{ kind := 2, line := 3, col := 0, num := 0, name := [UInt8.ofNat 120] : Nod },
                { kind := 2, line := 3, col := 0, num := 0, name := [UInt8.ofNat 120] : Nod }, { kind := 9, line := 2, col := 5, num := 0, name := [] : Nod }]
              [{ name := [UInt8.ofNat 120], value := 100, cls := 1 : Sym }] 0 false)
            fun y_2 =>
            Err.el y_2.snd.snd.fst
              (bindI (bif decide (y.fst = 96) then some (decide (y.snd.fst = 1)) else some false) fun y =>
                bindI (bif y then some false else some false) fun y =>
                  bindI (bif y then some (decide (y_1.fst = 0)) else some false) fun y =>
                    bindI (bif y then some (decide (y_1.snd.fst = 0)) else some false) fun y =>
                      bindI (bif y then some false else some false) fun y =>
                        bindI (bif y then some (false && (false && (false && true))) else some false) fun y => some (y, ()))
              (fun _y =>
                bindI (bif decide (y.fst = 96) then some (decide (y.snd.fst = 1)) else some false) fun y =>
                  bindI (bif y then some false else some false) fun y =>
                    bindI (bif y then some (decide (y_1.fst = 0)) else some false) fun y =>
                      bindI (bif y then some (decide (y_1.snd.fst = 0)) else some false) fun y =>
                        bindI (bif y then some false else some false) fun y => bindI (bif y then none else some false) fun y => some (y, ()))
              fun l c k =>
              bindI (bif decide (y.fst = 96) then some (decide (y.snd.fst = 1)) else some false) fun y =>
                bindI (bif y then some false else some false) fun y =>
                  bindI (bif y then some (decide (y_1.fst = 0)) else some false) fun y =>
                    bindI (bif y then some (decide (y_1.snd.fst = 0)) else some false) fun y =>
                      bindI (bif y then some false else some false) fun y =>
                        bindI
                          (bif y then
                            bindI (typecaselaw10_Fault N (Err.fault l c k)) fun y =>
                              some (decide (y.fst.fst = 2) && (decide (y.fst.snd.fst = 5) && (decide (y.fst.snd.snd = 7) && true)))
                          else some false)
                          fun y => some (y, ())
theorem typecaselaw12_awake_eq (N : Nat) (x : VD []) : runF (typecaselaw12_awake_T0 N) (bodyOf Tryd.f26) [] [.bool] (Tryd.f26).results.toList x = typecaselaw12_awake N  := by kernel_rfl
def typecaselaw12_awake_e (N : Nat) : Ent := ⟨26, [], [.bool], fun x => typecaselaw12_awake N ⟩
theorem typecaselaw12_awake_ok (N : Nat) : EntOk CC.P CC.gs (typecaselaw12_awake_e N) := (typecaselaw12_awake_T0_ok N).ent (fn := Tryd.f26) Tryd.func26 (by kernel_rfl) (by kernel_rfl) (fun vs w => Tryd.call26 vs w) (fun x => typecaselaw12_awake_eq N x)
def typecaselaw12_Syms_R : Sh := ⟨[2], [.v (.slice .sym)], [], []⟩
noncomputable def typecaselaw12_Syms_T0 (_N : Nat) : Tab := tab 0 34 [] [] [] []
theorem typecaselaw12_Syms_T0_ok (_N : Nat) : TabOk CC 0 34 [] [] [] [] (bodyOf Tryd.f31) := .nil CC_as trivial trivial trivial
def typecaselaw12_Syms_L0i : Sh := ⟨[0, 3, 4], [.v (.slice .sym), .r (.row 0), .v (.int .i64)], [.row .sym], [.tmp 3 .sym]⟩
def typecaselaw12_Syms_L0o : Sh := ⟨[3], [.r (.row 0)], [.row .sym], [.tmp 3 .sym]⟩
def typecaselaw12_Syms_L0s (_N : Nat) (l0 : List Sym) (i4 : Int) (out3 : List Sym) (k : LD typecaselaw12_Syms_L0i.2 × OL typecaselaw12_Syms_L0i.3 → Option (Ex (LD typecaselaw12_Syms_L0o.2 × OL typecaselaw12_Syms_L0o.3) (LD typecaselaw12_Syms_R.2 × OL typecaselaw12_Syms_R.3))) : Option (Ex (LD typecaselaw12_Syms_L0o.2 × OL typecaselaw12_Syms_L0o.3) (LD typecaselaw12_Syms_R.2 × OL typecaselaw12_Syms_R.3)) :=
  bif decide (i4 < (↑(List.length l0) : Int)) then
    bindI (geti l0 i4) fun y =>
      bif !decide (y.cls = 0) then
        bindI (geti l0 i4) fun y =>
          bindI (geti l0 i4) fun y_1 =>
            bif (out3 ++ [{ name := y.name, value := y_1.value, cls := 1 : Sym }]).length.ble 4294967296 then
              k ((l0, IntKind.i64.wrap (i4 + 1), ()), out3 ++ [{ name := y.name, value := y_1.value, cls := 1 : Sym }], ())
            else none
      else
        bindI (geti l0 i4) fun y =>
          bindI (geti l0 i4) fun y_1 =>
            bif (out3 ++ [{ name := y.name, value := y_1.value, cls := 0 : Sym }]).length.ble 4294967296 then
              k ((l0, IntKind.i64.wrap (i4 + 1), ()), out3 ++ [{ name := y.name, value := y_1.value, cls := 0 : Sym }], ())
            else none
  else some (Ex.out ((), out3, ()))
def typecaselaw12_Syms_L0 (N : Nat) : Nat → typecaselaw12_Syms_L0i.D → Option (Ex typecaselaw12_Syms_L0o.D typecaselaw12_Syms_R.D) := loopN fun x k => typecaselaw12_Syms_L0s N x.1.1 x.1.2.1 x.2.1 k
theorem typecaselaw12_Syms_L0_succ (N f : Nat) (x : typecaselaw12_Syms_L0i.D) : typecaselaw12_Syms_L0 N (f + 1) x = typecaselaw12_Syms_L0s N x.1.1 x.1.2.1 x.2.1 (typecaselaw12_Syms_L0 N f) := rfl
theorem typecaselaw12_Syms_L0_eq (N : Nat) (x : typecaselaw12_Syms_L0i.D) (k : typecaselaw12_Syms_L0i.D → Option (Ex typecaselaw12_Syms_L0o.D typecaselaw12_Syms_R.D)) : stepL (typecaselaw12_Syms_T0 N) typecaselaw12_Syms_L0i typecaselaw12_Syms_L0o typecaselaw12_Syms_R 0 ((subAt (bodyOf Tryd.f31) [0, 0, 1, 0, 1, 1]).getD .skip) [0, 1, 0, 1, 1] x k = typecaselaw12_Syms_L0s N x.1.1 x.1.2.1 x.2.1 k := by kernel_rfl
noncomputable def typecaselaw12_Syms_T1 (N : Nat) : Tab := tab 0 34 [] [] [] [([0, 1, 0, 1, 1], ⟨typecaselaw12_Syms_L0i, typecaselaw12_Syms_L0o, typecaselaw12_Syms_R, 0, typecaselaw12_Syms_L0 N N⟩)]
theorem typecaselaw12_Syms_T1_ok (N : Nat) : TabOk CC 0 34 [] [] [] [([0, 1, 0, 1, 1], ⟨typecaselaw12_Syms_L0i, typecaselaw12_Syms_L0o, typecaselaw12_Syms_R, 0, typecaselaw12_Syms_L0 N N⟩)] (bodyOf Tryd.f31) := (typecaselaw12_Syms_T0_ok N).snoc (π := [0, 1, 0, 1, 1]) (b := ((subAt (bodyOf Tryd.f31) [0, 0, 1, 0, 1, 1]).getD .skip)) (inn := typecaselaw12_Syms_L0i) (out := typecaselaw12_Syms_L0o) (ret := typecaselaw12_Syms_R) (xid := 0) (n := N) (step := fun x k => typecaselaw12_Syms_L0s N x.1.1 x.1.2.1 x.2.1 k) (by kernel_rfl) (fun x k => typecaselaw12_Syms_L0_eq N x k)
def typecaselaw12_Syms (N : Nat) (l0 : List Sym) : Option (List Sym × PUnit) :=
  bindX (typecaselaw12_Syms_L0 N N ((l0, 0, ()), [], ())) (fun y => some (y.snd.fst, ())) fun y => some (y.fst.fst, ())
theorem typecaselaw12_Syms_eq (N : Nat) (x : VD [(.slice .sym)]) : runF (typecaselaw12_Syms_T1 N) (bodyOf Tryd.f31) [(.slice .sym)] [(.slice .sym)] (Tryd.f31).results.toList x = typecaselaw12_Syms N x.1 := by kernel_rfl
def typecaselaw12_Syms_e (N : Nat) : Ent := ⟨31, [(.slice .sym)], [(.slice .sym)], fun x => typecaselaw12_Syms N x.1⟩
theorem typecaselaw12_Syms_ok (N : Nat) : EntOk CC.P CC.gs (typecaselaw12_Syms_e N) := (typecaselaw12_Syms_T1_ok N).ent (fn := Tryd.f31) Tryd.func31 (by kernel_rfl) (by kernel_rfl) (fun vs w => Tryd.call31 vs w) (fun x => typecaselaw12_Syms_eq N x)
def typecaseref12_find_R : Sh := ⟨[4], [.v (.int .i64)], [], []⟩
noncomputable def typecaseref12_find_T0 (_N : Nat) : Tab := tab 0 20 [] [] [] []
theorem typecaseref12_find_T0_ok (_N : Nat) : TabOk CC 0 20 [] [] [] [] (bodyOf Tryd.f62) := .nil CC_as trivial trivial trivial
def typecaseref12_find_L0i : Sh := ⟨[0, 1, 5], [.v (.slice .sym), .v .str, .v (.int .i64)], [], []⟩
def typecaseref12_find_L0o : Sh := ⟨[], [], [], []⟩
def typecaseref12_find_L0s (_N : Nat) (syms0 : List Sym) (name1 : List UInt8) (i5 : Int) (k : LD typecaseref12_find_L0i.2 × OL typecaseref12_find_L0i.3 → Option (Ex (LD typecaseref12_find_L0o.2 × OL typecaseref12_find_L0o.3) (LD typecaseref12_find_R.2 × OL typecaseref12_find_R.3))) : Option (Ex (LD typecaseref12_find_L0o.2 × OL typecaseref12_find_L0o.3) (LD typecaseref12_find_R.2 × OL typecaseref12_find_R.3)) :=
  bif decide (i5 < (↑(List.length syms0) : Int)) then
    bindI (geti syms0 i5) fun y => bif List.beq y.name name1 then some (Ex.ret ((i5, ()), ())) else k ((syms0, name1, IntKind.i64.wrap (i5 + 1), ()), ())
  else some (Ex.out ((), ()))
def typecaseref12_find_L0 (N : Nat) : Nat → typecaseref12_find_L0i.D → Option (Ex typecaseref12_find_L0o.D typecaseref12_find_R.D) := loopN fun x k => typecaseref12_find_L0s N x.1.1 x.1.2.1 x.1.2.2.1 k
theorem typecaseref12_find_L0_succ (N f : Nat) (x : typecaseref12_find_L0i.D) : typecaseref12_find_L0 N (f + 1) x = typecaseref12_find_L0s N x.1.1 x.1.2.1 x.1.2.2.1 (typecaseref12_find_L0 N f) := rfl
theorem typecaseref12_find_L0_eq (N : Nat) (x : typecaseref12_find_L0i.D) (k : typecaseref12_find_L0i.D → Option (Ex typecaseref12_find_L0o.D typecaseref12_find_R.D)) : stepL (typecaseref12_find_T0 N) typecaseref12_find_L0i typecaseref12_find_L0o typecaseref12_find_R 0 ((subAt (bodyOf Tryd.f62) [0, 0, 1, 0, 1]).getD .skip) [0, 1, 0, 1] x k = typecaseref12_find_L0s N x.1.1 x.1.2.1 x.1.2.2.1 k := by kernel_rfl
noncomputable def typecaseref12_find_T1 (N : Nat) : Tab := tab 0 20 [] [] [] [([0, 1, 0, 1], ⟨typecaseref12_find_L0i, typecaseref12_find_L0o, typecaseref12_find_R, 0, typecaseref12_find_L0 N N⟩)]
theorem typecaseref12_find_T1_ok (N : Nat) : TabOk CC 0 20 [] [] [] [([0, 1, 0, 1], ⟨typecaseref12_find_L0i, typecaseref12_find_L0o, typecaseref12_find_R, 0, typecaseref12_find_L0 N N⟩)] (bodyOf Tryd.f62) := (typecaseref12_find_T0_ok N).snoc (π := [0, 1, 0, 1]) (b := ((subAt (bodyOf Tryd.f62) [0, 0, 1, 0, 1]).getD .skip)) (inn := typecaseref12_find_L0i) (out := typecaseref12_find_L0o) (ret := typecaseref12_find_R) (xid := 0) (n := N) (step := fun x k => typecaseref12_find_L0s N x.1.1 x.1.2.1 x.1.2.2.1 k) (by kernel_rfl) (fun x k => typecaseref12_find_L0_eq N x k)
def typecaseref12_find (N : Nat) (syms0 : List Sym) (name1 : List UInt8) : Option (Int × PUnit) :=
  bindX (typecaseref12_find_L0 N N ((syms0, name1, 0, ()), ())) (fun _y => some (-1, ())) fun y => some (y.fst.fst, ())
theorem typecaseref12_find_eq (N : Nat) (x : VD [(.slice .sym), .str]) : runF (typecaseref12_find_T1 N) (bodyOf Tryd.f62) [(.slice .sym), .str] [(.int .i64)] (Tryd.f62).results.toList x = typecaseref12_find N x.1 x.2.1 := by kernel_rfl
def typecaseref12_find_e (N : Nat) : Ent := ⟨62, [(.slice .sym), .str], [(.int .i64)], fun x => typecaseref12_find N x.1 x.2.1⟩
theorem typecaseref12_find_ok (N : Nat) : EntOk CC.P CC.gs (typecaseref12_find_e N) := (typecaseref12_find_T1_ok N).ent (fn := Tryd.f62) Tryd.func62 (by kernel_rfl) (by kernel_rfl) (fun vs w => Tryd.call62 vs w) (fun x => typecaseref12_find_eq N x)
def typecaseref01_Held_R : Sh := ⟨[2], [.v (.int .i64)], [], []⟩
noncomputable def typecaseref01_Held_T0 (_N : Nat) : Tab := tab 0 8 [] [] [] []
theorem typecaseref01_Held_T0_ok (_N : Nat) : TabOk CC 0 8 [] [] [] [] (bodyOf Tryd.f92) := .nil CC_as trivial trivial trivial
def typecaseref01_Held (_N : Nat) (bits0 : Int) : Option (Int × PUnit) :=
  bif decide (bits0 < 0) then some (0, ()) else bif decide (32 < bits0) then some (32, ()) else some (bits0, ())
theorem typecaseref01_Held_eq (N : Nat) (x : VD [(.int .i64)]) : runF (typecaseref01_Held_T0 N) (bodyOf Tryd.f92) [(.int .i64)] [(.int .i64)] (Tryd.f92).results.toList x = typecaseref01_Held N x.1 := by kernel_rfl
def typecaseref01_Held_e (N : Nat) : Ent := ⟨92, [(.int .i64)], [(.int .i64)], fun x => typecaseref01_Held N x.1⟩
theorem typecaseref01_Held_ok (N : Nat) : EntOk CC.P CC.gs (typecaseref01_Held_e N) := (typecaseref01_Held_T0_ok N).ent (fn := Tryd.f92) Tryd.func92 (by kernel_rfl) (by kernel_rfl) (fun vs w => Tryd.call92 vs w) (fun x => typecaseref01_Held_eq N x)
def typecaseref01_Bit_R : Sh := ⟨[4], [.v (.int .u32)], [], []⟩
noncomputable def typecaseref01_Bit_T0 (_N : Nat) : Tab := tab 0 19 [] [] [] []
theorem typecaseref01_Bit_T0_ok (_N : Nat) : TabOk CC 0 19 [] [] [] [] (bodyOf Tryd.f93) := .nil CC_as trivial trivial trivial
def typecaseref01_Bit_L0i : Sh := ⟨[0, 1, 5], [.v (.int .u32), .v (.int .i64), .v (.int .i64)], [], []⟩
def typecaseref01_Bit_L0o : Sh := ⟨[0], [.v (.int .u32)], [], []⟩
def typecaseref01_Bit_L0s (_N : Nat) (x0 : Int) (i1 : Int) (k5 : Int) (k : LD typecaseref01_Bit_L0i.2 × OL typecaseref01_Bit_L0i.3 → Option (Ex (LD typecaseref01_Bit_L0o.2 × OL typecaseref01_Bit_L0o.3) (LD typecaseref01_Bit_R.2 × OL typecaseref01_Bit_R.3))) : Option (Ex (LD typecaseref01_Bit_L0o.2 × OL typecaseref01_Bit_L0o.3) (LD typecaseref01_Bit_R.2 × OL typecaseref01_Bit_R.3)) :=
  bindI (bif decide (k5 < i1) then some (decide (k5 < 40)) else some false) fun y =>
    bif y then k ((IntKind.u32.wrap (Int.tdiv x0 2), i1, IntKind.i64.wrap (k5 + 1), ()), ()) else some (Ex.out ((x0, ()), ()))
def typecaseref01_Bit_L0 (N : Nat) : Nat → typecaseref01_Bit_L0i.D → Option (Ex typecaseref01_Bit_L0o.D typecaseref01_Bit_R.D) := loopN fun x k => typecaseref01_Bit_L0s N x.1.1 x.1.2.1 x.1.2.2.1 k
theorem typecaseref01_Bit_L0_succ (N f : Nat) (x : typecaseref01_Bit_L0i.D) : typecaseref01_Bit_L0 N (f + 1) x = typecaseref01_Bit_L0s N x.1.1 x.1.2.1 x.1.2.2.1 (typecaseref01_Bit_L0 N f) := rfl
theorem typecaseref01_Bit_L0_eq (N : Nat) (x : typecaseref01_Bit_L0i.D) (k : typecaseref01_Bit_L0i.D → Option (Ex typecaseref01_Bit_L0o.D typecaseref01_Bit_R.D)) : stepL (typecaseref01_Bit_T0 N) typecaseref01_Bit_L0i typecaseref01_Bit_L0o typecaseref01_Bit_R 0 ((subAt (bodyOf Tryd.f93) [0, 0, 1, 0, 1]).getD .skip) [0, 1, 0, 1] x k = typecaseref01_Bit_L0s N x.1.1 x.1.2.1 x.1.2.2.1 k := by kernel_rfl
noncomputable def typecaseref01_Bit_T1 (N : Nat) : Tab := tab 0 19 [] [] [] [([0, 1, 0, 1], ⟨typecaseref01_Bit_L0i, typecaseref01_Bit_L0o, typecaseref01_Bit_R, 0, typecaseref01_Bit_L0 N N⟩)]
theorem typecaseref01_Bit_T1_ok (N : Nat) : TabOk CC 0 19 [] [] [] [([0, 1, 0, 1], ⟨typecaseref01_Bit_L0i, typecaseref01_Bit_L0o, typecaseref01_Bit_R, 0, typecaseref01_Bit_L0 N N⟩)] (bodyOf Tryd.f93) := (typecaseref01_Bit_T0_ok N).snoc (π := [0, 1, 0, 1]) (b := ((subAt (bodyOf Tryd.f93) [0, 0, 1, 0, 1]).getD .skip)) (inn := typecaseref01_Bit_L0i) (out := typecaseref01_Bit_L0o) (ret := typecaseref01_Bit_R) (xid := 0) (n := N) (step := fun x k => typecaseref01_Bit_L0s N x.1.1 x.1.2.1 x.1.2.2.1 k) (by kernel_rfl) (fun x k => typecaseref01_Bit_L0_eq N x k)
def typecaseref01_Bit (N : Nat) (x0 : Int) (i1 : Int) : Option (Int × PUnit) :=
  bindX (typecaseref01_Bit_L0 N N ((x0, i1, 0, ()), ())) (fun y => some (Int.tmod y.fst.fst 2, ())) fun y => some (y.fst.fst, ())
theorem typecaseref01_Bit_eq (N : Nat) (x : VD [(.int .u32), (.int .i64)]) : runF (typecaseref01_Bit_T1 N) (bodyOf Tryd.f93) [(.int .u32), (.int .i64)] [(.int .u32)] (Tryd.f93).results.toList x = typecaseref01_Bit N x.1 x.2.1 := by kernel_rfl
def typecaseref01_Bit_e (N : Nat) : Ent := ⟨93, [(.int .u32), (.int .i64)], [(.int .u32)], fun x => typecaseref01_Bit N x.1 x.2.1⟩
theorem typecaseref01_Bit_ok (N : Nat) : EntOk CC.P CC.gs (typecaseref01_Bit_e N) := (typecaseref01_Bit_T1_ok N).ent (fn := Tryd.f93) Tryd.func93 (by kernel_rfl) (by kernel_rfl) (fun vs w => Tryd.call93 vs w) (fun x => typecaseref01_Bit_eq N x)
def typecaseref01_Field_R : Sh := ⟨[6], [.v (.int .u32)], [], []⟩
noncomputable def typecaseref01_Field_T0 (N : Nat) : Tab := tab 0 32 [typecaseref01_Held_e N, typecaseref01_Bit_e N] [] [] []
theorem typecaseref01_Field_T0_ok (N : Nat) : TabOk CC 0 32 [typecaseref01_Held_e N, typecaseref01_Bit_e N] [] [] [] (bodyOf Tryd.f91) := .nil CC_as ⟨typecaseref01_Held_ok N, typecaseref01_Bit_ok N, trivial⟩ trivial trivial
def typecaseref01_Field_L0i : Sh := ⟨[0, 1, 2, 7, 8, 9], [.v (.int .u32), .v (.int .i64), .v (.int .i64), .v (.int .u32), .v (.int .u32), .v (.int .i64)], [], []⟩
def typecaseref01_Field_L0o : Sh := ⟨[7], [.v (.int .u32)], [], []⟩
def typecaseref01_Field_L0s (N : Nat) (x0 : Int) (low1 : Int) (bits2 : Int) (out7 : Int) (unit8 : Int) (i9 : Int) (k : LD typecaseref01_Field_L0i.2 × OL typecaseref01_Field_L0i.3 → Option (Ex (LD typecaseref01_Field_L0o.2 × OL typecaseref01_Field_L0o.3) (LD typecaseref01_Field_R.2 × OL typecaseref01_Field_R.3))) : Option (Ex (LD typecaseref01_Field_L0o.2 × OL typecaseref01_Field_L0o.3) (LD typecaseref01_Field_R.2 × OL typecaseref01_Field_R.3)) :=
  bindI (typecaseref01_Held N bits2) fun y =>
    bif decide (i9 < y.fst) then
      bindI (typecaseref01_Bit N x0 (IntKind.i64.wrap (low1 + i9))) fun y =>
        k ((x0, low1, bits2, IntKind.u32.wrap (out7 + IntKind.u32.wrap (unit8 * y.fst)), IntKind.u32.wrap (2 * unit8), IntKind.i64.wrap (i9 + 1), ()), ())
    else some (Ex.out ((out7, ()), ()))
def typecaseref01_Field_L0 (N : Nat) : Nat → typecaseref01_Field_L0i.D → Option (Ex typecaseref01_Field_L0o.D typecaseref01_Field_R.D) := loopN fun x k => typecaseref01_Field_L0s N x.1.1 x.1.2.1 x.1.2.2.1 x.1.2.2.2.1 x.1.2.2.2.2.1 x.1.2.2.2.2.2.1 k
theorem typecaseref01_Field_L0_succ (N f : Nat) (x : typecaseref01_Field_L0i.D) : typecaseref01_Field_L0 N (f + 1) x = typecaseref01_Field_L0s N x.1.1 x.1.2.1 x.1.2.2.1 x.1.2.2.2.1 x.1.2.2.2.2.1 x.1.2.2.2.2.2.1 (typecaseref01_Field_L0 N f) := rfl
theorem typecaseref01_Field_L0_eq (N : Nat) (x : typecaseref01_Field_L0i.D) (k : typecaseref01_Field_L0i.D → Option (Ex typecaseref01_Field_L0o.D typecaseref01_Field_R.D)) : stepL (typecaseref01_Field_T0 N) typecaseref01_Field_L0i typecaseref01_Field_L0o typecaseref01_Field_R 0 ((subAt (bodyOf Tryd.f91) [0, 0, 1, 0, 1, 1, 1, 1, 1]).getD .skip) [0, 1, 0, 1, 1, 1, 1, 1] x k = typecaseref01_Field_L0s N x.1.1 x.1.2.1 x.1.2.2.1 x.1.2.2.2.1 x.1.2.2.2.2.1 x.1.2.2.2.2.2.1 k := by kernel_rfl
noncomputable def typecaseref01_Field_T1 (N : Nat) : Tab := tab 0 32 [typecaseref01_Held_e N, typecaseref01_Bit_e N] [] [] [([0, 1, 0, 1, 1, 1, 1, 1], ⟨typecaseref01_Field_L0i, typecaseref01_Field_L0o, typecaseref01_Field_R, 0, typecaseref01_Field_L0 N N⟩)]
theorem typecaseref01_Field_T1_ok (N : Nat) : TabOk CC 0 32 [typecaseref01_Held_e N, typecaseref01_Bit_e N] [] [] [([0, 1, 0, 1, 1, 1, 1, 1], ⟨typecaseref01_Field_L0i, typecaseref01_Field_L0o, typecaseref01_Field_R, 0, typecaseref01_Field_L0 N N⟩)] (bodyOf Tryd.f91) := (typecaseref01_Field_T0_ok N).snoc (π := [0, 1, 0, 1, 1, 1, 1, 1]) (b := ((subAt (bodyOf Tryd.f91) [0, 0, 1, 0, 1, 1, 1, 1, 1]).getD .skip)) (inn := typecaseref01_Field_L0i) (out := typecaseref01_Field_L0o) (ret := typecaseref01_Field_R) (xid := 0) (n := N) (step := fun x k => typecaseref01_Field_L0s N x.1.1 x.1.2.1 x.1.2.2.1 x.1.2.2.2.1 x.1.2.2.2.2.1 x.1.2.2.2.2.2.1 k) (by kernel_rfl) (fun x k => typecaseref01_Field_L0_eq N x k)
def typecaseref01_Field (N : Nat) (x0 : Int) (low1 : Int) (bits2 : Int) : Option (Int × PUnit) :=
  bif decide (low1 < 0) then bindX (typecaseref01_Field_L0 N N ((x0, 0, bits2, 0, 1, 0, ()), ())) (fun y => some (y.fst.fst, ())) fun y => some (y.fst.fst, ())
  else
    bif decide (32 < low1) then
      bindX (typecaseref01_Field_L0 N N ((x0, 32, bits2, 0, 1, 0, ()), ())) (fun y => some (y.fst.fst, ())) fun y => some (y.fst.fst, ())
    else bindX (typecaseref01_Field_L0 N N ((x0, low1, bits2, 0, 1, 0, ()), ())) (fun y => some (y.fst.fst, ())) fun y => some (y.fst.fst, ())
theorem typecaseref01_Field_eq (N : Nat) (x : VD [(.int .u32), (.int .i64), (.int .i64)]) : runF (typecaseref01_Field_T1 N) (bodyOf Tryd.f91) [(.int .u32), (.int .i64), (.int .i64)] [(.int .u32)] (Tryd.f91).results.toList x = typecaseref01_Field N x.1 x.2.1 x.2.2.1 := by kernel_rfl
def typecaseref01_Field_e (N : Nat) : Ent := ⟨91, [(.int .u32), (.int .i64), (.int .i64)], [(.int .u32)], fun x => typecaseref01_Field N x.1 x.2.1 x.2.2.1⟩
theorem typecaseref01_Field_ok (N : Nat) : EntOk CC.P CC.gs (typecaseref01_Field_e N) := (typecaseref01_Field_T1_ok N).ent (fn := Tryd.f91) Tryd.func91 (by kernel_rfl) (by kernel_rfl) (fun vs w => Tryd.call91 vs w) (fun x => typecaseref01_Field_eq N x)
def typecaseref01_Sign_R : Sh := ⟨[4], [.v (.int .i32)], [], []⟩
noncomputable def typecaseref01_Sign_T0 (N : Nat) : Tab := tab 0 33 [typecaseref01_Field_e N, typecaseref01_Held_e N, typecaseref01_Bit_e N] [] [] []
theorem typecaseref01_Sign_T0_ok (N : Nat) : TabOk CC 0 33 [typecaseref01_Field_e N, typecaseref01_Held_e N, typecaseref01_Bit_e N] [] [] [] (bodyOf Tryd.f76) := .nil CC_as ⟨typecaseref01_Field_ok N, typecaseref01_Held_ok N, typecaseref01_Bit_ok N, trivial⟩ trivial trivial
def typecaseref01_Sign_L0i : Sh := ⟨[1, 5, 6, 7], [.v (.int .i64), .v (.int .i64), .v (.int .i64), .v (.int .i64)], [], []⟩
def typecaseref01_Sign_L0o : Sh := ⟨[5, 6], [.v (.int .i64), .v (.int .i64)], [], []⟩
def typecaseref01_Sign_L0s (_N : Nat) (bits1 : Int) (v5 : Int) (w6 : Int) (i7 : Int) (k : LD typecaseref01_Sign_L0i.2 × OL typecaseref01_Sign_L0i.3 → Option (Ex (LD typecaseref01_Sign_L0o.2 × OL typecaseref01_Sign_L0o.3) (LD typecaseref01_Sign_R.2 × OL typecaseref01_Sign_R.3))) : Option (Ex (LD typecaseref01_Sign_L0o.2 × OL typecaseref01_Sign_L0o.3) (LD typecaseref01_Sign_R.2 × OL typecaseref01_Sign_R.3)) :=
  bif decide (i7 < bits1) then k ((bits1, v5, IntKind.i64.wrap (2 * w6), IntKind.i64.wrap (i7 + 1), ()), ()) else some (Ex.out ((v5, w6, ()), ()))
def typecaseref01_Sign_L0 (N : Nat) : Nat → typecaseref01_Sign_L0i.D → Option (Ex typecaseref01_Sign_L0o.D typecaseref01_Sign_R.D) := loopN fun x k => typecaseref01_Sign_L0s N x.1.1 x.1.2.1 x.1.2.2.1 x.1.2.2.2.1 k
theorem typecaseref01_Sign_L0_succ (N f : Nat) (x : typecaseref01_Sign_L0i.D) : typecaseref01_Sign_L0 N (f + 1) x = typecaseref01_Sign_L0s N x.1.1 x.1.2.1 x.1.2.2.1 x.1.2.2.2.1 (typecaseref01_Sign_L0 N f) := rfl
theorem typecaseref01_Sign_L0_eq (N : Nat) (x : typecaseref01_Sign_L0i.D) (k : typecaseref01_Sign_L0i.D → Option (Ex typecaseref01_Sign_L0o.D typecaseref01_Sign_R.D)) : stepL (typecaseref01_Sign_T0 N) typecaseref01_Sign_L0i typecaseref01_Sign_L0o typecaseref01_Sign_R 0 ((subAt (bodyOf Tryd.f76) [0, 0, 1, 0, 1, 0, 1, 0, 1, 1, 1, 1]).getD .skip) [0, 1, 0, 1, 0, 1, 0, 1, 1, 1, 1] x k = typecaseref01_Sign_L0s N x.1.1 x.1.2.1 x.1.2.2.1 x.1.2.2.2.1 k := by kernel_rfl
noncomputable def typecaseref01_Sign_T1 (N : Nat) : Tab := tab 0 33 [typecaseref01_Field_e N, typecaseref01_Held_e N, typecaseref01_Bit_e N] [] [] [([0, 1, 0, 1, 0, 1, 0, 1, 1, 1, 1], ⟨typecaseref01_Sign_L0i, typecaseref01_Sign_L0o, typecaseref01_Sign_R, 0, typecaseref01_Sign_L0 N N⟩)]
theorem typecaseref01_Sign_T1_ok (N : Nat) : TabOk CC 0 33 [typecaseref01_Field_e N, typecaseref01_Held_e N, typecaseref01_Bit_e N] [] [] [([0, 1, 0, 1, 0, 1, 0, 1, 1, 1, 1], ⟨typecaseref01_Sign_L0i, typecaseref01_Sign_L0o, typecaseref01_Sign_R, 0, typecaseref01_Sign_L0 N N⟩)] (bodyOf Tryd.f76) := (typecaseref01_Sign_T0_ok N).snoc (π := [0, 1, 0, 1, 0, 1, 0, 1, 1, 1, 1]) (b := ((subAt (bodyOf Tryd.f76) [0, 0, 1, 0, 1, 0, 1, 0, 1, 1, 1, 1]).getD .skip)) (inn := typecaseref01_Sign_L0i) (out := typecaseref01_Sign_L0o) (ret := typecaseref01_Sign_R) (xid := 0) (n := N) (step := fun x k => typecaseref01_Sign_L0s N x.1.1 x.1.2.1 x.1.2.2.1 x.1.2.2.2.1 k) (by kernel_rfl) (fun x k => typecaseref01_Sign_L0_eq N x k)
def typecaseref01_Sign (N : Nat) (x0 : Int) (bits1 : Int) : Option (Int × PUnit) :=
  bindI (typecaseref01_Held N bits1) fun y =>
    bif decide (y.fst = 0) then some (0, ())
    else
      bindI (typecaseref01_Field N x0 0 y.fst) fun y_1 =>
        bindI (typecaseref01_Bit N x0 (IntKind.i64.wrap (y.fst - 1))) fun y_2 =>
          bif decide (y_2.fst = 1) then
            bindX (typecaseref01_Sign_L0 N N ((y.fst, IntKind.i64.wrap y_1.fst, 1, 0, ()), ()))
              (fun y => some (IntKind.i32.wrap (IntKind.i64.wrap (y.fst.fst - y.fst.snd.fst)), ())) fun y => some (y.fst.fst, ())
          else some (IntKind.i32.wrap (IntKind.i64.wrap y_1.fst), ())
theorem typecaseref01_Sign_eq (N : Nat) (x : VD [(.int .u32), (.int .i64)]) : runF (typecaseref01_Sign_T1 N) (bodyOf Tryd.f76) [(.int .u32), (.int .i64)] [(.int .i32)] (Tryd.f76).results.toList x = typecaseref01_Sign N x.1 x.2.1 := by kernel_rfl
def typecaseref01_Sign_e (N : Nat) : Ent := ⟨76, [(.int .u32), (.int .i64)], [(.int .i32)], fun x => typecaseref01_Sign N x.1 x.2.1⟩
theorem typecaseref01_Sign_ok (N : Nat) : EntOk CC.P CC.gs (typecaseref01_Sign_e N) := (typecaseref01_Sign_T1_ok N).ent (fn := Tryd.f76) Tryd.func76 (by kernel_rfl) (by kernel_rfl) (fun vs w => Tryd.call76 vs w) (fun x => typecaseref01_Sign_eq N x)
def typecaseref01_Hi_R : Sh := ⟨[2], [.v (.int .u32)], [], []⟩
noncomputable def typecaseref01_Hi_T0 (N : Nat) : Tab := tab 0 9 [typecaseref01_Sign_e N, typecaseref01_Field_e N] [] [] []
theorem typecaseref01_Hi_T0_ok (N : Nat) : TabOk CC 0 9 [typecaseref01_Sign_e N, typecaseref01_Field_e N] [] [] [] (bodyOf Tryd.f75) := .nil CC_as ⟨typecaseref01_Sign_ok N, typecaseref01_Field_ok N, trivial⟩ trivial trivial
def typecaseref01_Hi (N : Nat) (x0 : Int) : Option (Int × PUnit) :=
  bindI (typecaseref01_Sign N x0 12) fun y => bindI (typecaseref01_Field N (IntKind.u32.wrap (x0 - IntKind.u32.wrap y.fst)) 12 20) fun y => some (y.fst, ())
theorem typecaseref01_Hi_eq (N : Nat) (x : VD [(.int .u32)]) : runF (typecaseref01_Hi_T0 N) (bodyOf Tryd.f75) [(.int .u32)] [(.int .u32)] (Tryd.f75).results.toList x = typecaseref01_Hi N x.1 := by kernel_rfl
def typecaseref01_Hi_e (N : Nat) : Ent := ⟨75, [(.int .u32)], [(.int .u32)], fun x => typecaseref01_Hi N x.1⟩
theorem typecaseref01_Hi_ok (N : Nat) : EntOk CC.P CC.gs (typecaseref01_Hi_e N) := (typecaseref01_Hi_T0_ok N).ent (fn := Tryd.f75) Tryd.func75 (by kernel_rfl) (by kernel_rfl) (fun vs w => Tryd.call75 vs w) (fun x => typecaseref01_Hi_eq N x)
def typecaseref12_one_R : Sh := ⟨[8, 9], [.r (.ptr 0 0), .v (.int .i64)], [.box [.v (.pair (.int .u32) .bool)]], []⟩
noncomputable def typecaseref12_one_T0 (N : Nat) : Tab := tab 0 46 [typecaseref01_Hi_e N, typecaseref01_Sign_e N] [] [] []
theorem typecaseref12_one_T0_ok (N : Nat) : TabOk CC 0 46 [typecaseref01_Hi_e N, typecaseref01_Sign_e N] [] [] [] (bodyOf Tryd.f63) := .nil CC_as ⟨typecaseref01_Hi_ok N, typecaseref01_Sign_ok N, trivial⟩ trivial trivial
def typecaseref12_one (N : Nat) (kind0 : Int) (a1 : Int × Bool) (place2 : Int) (early3 : Bool) : Option ((Int × Bool) × Int × PUnit) :=
  bif decide (kind0 = 6) then bindI (typecaseref01_Hi N a1.fst) fun y => some ((y.fst, false), 0, ())
  else
    bif decide (kind0 = 7) then bindI (typecaseref01_Sign N a1.fst 12) fun y => some ((IntKind.u32.wrap y.fst, false), 0, ())
    else
      bif decide (kind0 = 8) then bif early3 then some ((0, false), 7, ()) else some ((IntKind.u32.wrap (a1.fst - place2), false), 0, ())
      else
        bif a1.snd then some ((0, false), 7, ())
        else bif decide (kind0 = 4) then some ((IntKind.u32.wrap (0 - a1.fst), false), 0, ()) else some ((IntKind.u32.wrap (4294967295 - a1.fst), false), 0, ())
theorem typecaseref12_one_eq (N : Nat) (x : VD [(.int .i64), (.pair (.int .u32) .bool), (.int .u32), .bool]) : runF (typecaseref12_one_T0 N) (bodyOf Tryd.f63) [(.int .i64), (.pair (.int .u32) .bool), (.int .u32), .bool] [(.pair (.int .u32) .bool), (.int .i64)] (Tryd.f63).results.toList x = typecaseref12_one N x.1 x.2.1 x.2.2.1 x.2.2.2.1 := by kernel_rfl
def typecaseref12_one_e (N : Nat) : Ent := ⟨63, [(.int .i64), (.pair (.int .u32) .bool), (.int .u32), .bool], [(.pair (.int .u32) .bool), (.int .i64)], fun x => typecaseref12_one N x.1 x.2.1 x.2.2.1 x.2.2.2.1⟩
theorem typecaseref12_one_ok (N : Nat) : EntOk CC.P CC.gs (typecaseref12_one_e N) := (typecaseref12_one_T0_ok N).ent (fn := Tryd.f63) Tryd.func63 (by kernel_rfl) (by kernel_rfl) (fun vs w => Tryd.call63 vs w) (fun x => typecaseref12_one_eq N x)
def typecaseref12_moved_R : Sh := ⟨[6], [.v (.int .u32)], [], []⟩
noncomputable def typecaseref12_moved_T0 (_N : Nat) : Tab := tab 0 23 [] [] [] []
theorem typecaseref12_moved_T0_ok (_N : Nat) : TabOk CC 0 23 [] [] [] [] (bodyOf Tryd.f77) := .nil CC_as trivial trivial trivial
def typecaseref12_moved_L0i : Sh := ⟨[0, 1, 2, 7], [.v (.int .u32), .v (.int .u32), .v .bool, .v (.int .u32)], [], []⟩
def typecaseref12_moved_L0o : Sh := ⟨[0], [.v (.int .u32)], [], []⟩
def typecaseref12_moved_L0s (_N : Nat) (a0 : Int) (n1 : Int) (up2 : Bool) (i7 : Int) (k : LD typecaseref12_moved_L0i.2 × OL typecaseref12_moved_L0i.3 → Option (Ex (LD typecaseref12_moved_L0o.2 × OL typecaseref12_moved_L0o.3) (LD typecaseref12_moved_R.2 × OL typecaseref12_moved_R.3))) : Option (Ex (LD typecaseref12_moved_L0o.2 × OL typecaseref12_moved_L0o.3) (LD typecaseref12_moved_R.2 × OL typecaseref12_moved_R.3)) :=
  bindI (bif decide (i7 < n1) then some (decide (i7 < 32)) else some false) fun y =>
    bif y then
      bif up2 then k ((IntKind.u32.wrap (2 * a0), n1, up2, IntKind.u32.wrap (i7 + 1), ()), ())
      else k ((IntKind.u32.wrap (Int.tdiv a0 2), n1, up2, IntKind.u32.wrap (i7 + 1), ()), ())
    else some (Ex.out ((a0, ()), ()))
def typecaseref12_moved_L0 (N : Nat) : Nat → typecaseref12_moved_L0i.D → Option (Ex typecaseref12_moved_L0o.D typecaseref12_moved_R.D) := loopN fun x k => typecaseref12_moved_L0s N x.1.1 x.1.2.1 x.1.2.2.1 x.1.2.2.2.1 k
theorem typecaseref12_moved_L0_succ (N f : Nat) (x : typecaseref12_moved_L0i.D) : typecaseref12_moved_L0 N (f + 1) x = typecaseref12_moved_L0s N x.1.1 x.1.2.1 x.1.2.2.1 x.1.2.2.2.1 (typecaseref12_moved_L0 N f) := rfl
theorem typecaseref12_moved_L0_eq (N : Nat) (x : typecaseref12_moved_L0i.D) (k : typecaseref12_moved_L0i.D → Option (Ex typecaseref12_moved_L0o.D typecaseref12_moved_R.D)) : stepL (typecaseref12_moved_T0 N) typecaseref12_moved_L0i typecaseref12_moved_L0o typecaseref12_moved_R 0 ((subAt (bodyOf Tryd.f77) [0, 0, 1, 0, 1]).getD .skip) [0, 1, 0, 1] x k = typecaseref12_moved_L0s N x.1.1 x.1.2.1 x.1.2.2.1 x.1.2.2.2.1 k := by kernel_rfl
noncomputable def typecaseref12_moved_T1 (N : Nat) : Tab := tab 0 23 [] [] [] [([0, 1, 0, 1], ⟨typecaseref12_moved_L0i, typecaseref12_moved_L0o, typecaseref12_moved_R, 0, typecaseref12_moved_L0 N N⟩)]
theorem typecaseref12_moved_T1_ok (N : Nat) : TabOk CC 0 23 [] [] [] [([0, 1, 0, 1], ⟨typecaseref12_moved_L0i, typecaseref12_moved_L0o, typecaseref12_moved_R, 0, typecaseref12_moved_L0 N N⟩)] (bodyOf Tryd.f77) := (typecaseref12_moved_T0_ok N).snoc (π := [0, 1, 0, 1]) (b := ((subAt (bodyOf Tryd.f77) [0, 0, 1, 0, 1]).getD .skip)) (inn := typecaseref12_moved_L0i) (out := typecaseref12_moved_L0o) (ret := typecaseref12_moved_R) (xid := 0) (n := N) (step := fun x k => typecaseref12_moved_L0s N x.1.1 x.1.2.1 x.1.2.2.1 x.1.2.2.2.1 k) (by kernel_rfl) (fun x k => typecaseref12_moved_L0_eq N x k)
def typecaseref12_moved (N : Nat) (a0 : Int) (n1 : Int) (up2 : Bool) : Option (Int × PUnit) :=
  bindX (typecaseref12_moved_L0 N N ((a0, n1, up2, 0, ()), ())) (fun y => some (y.fst.fst, ())) fun y => some (y.fst.fst, ())
theorem typecaseref12_moved_eq (N : Nat) (x : VD [(.int .u32), (.int .u32), .bool]) : runF (typecaseref12_moved_T1 N) (bodyOf Tryd.f77) [(.int .u32), (.int .u32), .bool] [(.int .u32)] (Tryd.f77).results.toList x = typecaseref12_moved N x.1 x.2.1 x.2.2.1 := by kernel_rfl
def typecaseref12_moved_e (N : Nat) : Ent := ⟨77, [(.int .u32), (.int .u32), .bool], [(.int .u32)], fun x => typecaseref12_moved N x.1 x.2.1 x.2.2.1⟩
theorem typecaseref12_moved_ok (N : Nat) : EntOk CC.P CC.gs (typecaseref12_moved_e N) := (typecaseref12_moved_T1_ok N).ent (fn := Tryd.f77) Tryd.func77 (by kernel_rfl) (by kernel_rfl) (fun vs w => Tryd.call77 vs w) (fun x => typecaseref12_moved_eq N x)
def typecaseref12_bits_R : Sh := ⟨[6], [.v (.int .u32)], [], []⟩
noncomputable def typecaseref12_bits_T0 (N : Nat) : Tab := tab 0 31 [typecaseref01_Bit_e N] [] [] []
theorem typecaseref12_bits_T0_ok (N : Nat) : TabOk CC 0 31 [typecaseref01_Bit_e N] [] [] [] (bodyOf Tryd.f78) := .nil CC_as ⟨typecaseref01_Bit_ok N, trivial⟩ trivial trivial
def typecaseref12_bits_L0i : Sh := ⟨[0, 1, 5, 7, 8, 9], [.v (.int .u32), .v (.int .u32), .r (.ptr 0 0), .v (.int .u32), .v (.int .u32), .v (.int .i64)], [.box [.v (.pair (.int .u32) (.pair (.int .u32) (.pair (.int .u32) (.int .u32))))]], []⟩
def typecaseref12_bits_L0o : Sh := ⟨[7], [.v (.int .u32)], [], []⟩
def typecaseref12_bits_L0s (N : Nat) (a0 : Int) (b1 : Int) (out7 : Int) (unit8 : Int) (i9 : Int) (table5 : (Int × Int × Int × Int) × PUnit) (k : LD typecaseref12_bits_L0i.2 × OL typecaseref12_bits_L0i.3 → Option (Ex (LD typecaseref12_bits_L0o.2 × OL typecaseref12_bits_L0o.3) (LD typecaseref12_bits_R.2 × OL typecaseref12_bits_R.3))) : Option (Ex (LD typecaseref12_bits_L0o.2 × OL typecaseref12_bits_L0o.3) (LD typecaseref12_bits_R.2 × OL typecaseref12_bits_R.3)) :=
  bif decide (i9 < 32) then
    bindI (typecaseref01_Bit N a0 i9) fun y =>
      bindI (typecaseref01_Bit N b1 i9) fun y_1 =>
        bif inB (IntKind.u32.wrap (IntKind.u32.wrap (2 * y.fst) + y_1.fst)) 4 then
          bindI
            [table5.fst.fst, table5.fst.snd.fst, table5.fst.snd.snd.fst,
                table5.fst.snd.snd.snd][Nat.add 0 (Nat.add 0 (IntKind.u32.wrap (IntKind.u32.wrap (2 * y.fst) + y_1.fst)).toNat)]?
            fun y =>
            k
              ((a0, b1, IntKind.u32.wrap (out7 + IntKind.u32.wrap (unit8 * y)), IntKind.u32.wrap (2 * unit8), IntKind.i64.wrap (i9 + 1), ()),
                ((table5.fst.fst, table5.fst.snd.fst, table5.fst.snd.snd.fst, table5.fst.snd.snd.snd), ()), ())
        else none
  else some (Ex.out ((out7, ()), ()))
def typecaseref12_bits_L0 (N : Nat) : Nat → typecaseref12_bits_L0i.D → Option (Ex typecaseref12_bits_L0o.D typecaseref12_bits_R.D) := loopN fun x k => typecaseref12_bits_L0s N x.1.1 x.1.2.1 x.1.2.2.1 x.1.2.2.2.1 x.1.2.2.2.2.1 x.2.1 k
theorem typecaseref12_bits_L0_succ (N f : Nat) (x : typecaseref12_bits_L0i.D) : typecaseref12_bits_L0 N (f + 1) x = typecaseref12_bits_L0s N x.1.1 x.1.2.1 x.1.2.2.1 x.1.2.2.2.1 x.1.2.2.2.2.1 x.2.1 (typecaseref12_bits_L0 N f) := rfl
theorem typecaseref12_bits_L0_eq (N : Nat) (x : typecaseref12_bits_L0i.D) (k : typecaseref12_bits_L0i.D → Option (Ex typecaseref12_bits_L0o.D typecaseref12_bits_R.D)) : stepL (typecaseref12_bits_T0 N) typecaseref12_bits_L0i typecaseref12_bits_L0o typecaseref12_bits_R 0 ((subAt (bodyOf Tryd.f78) [0, 0, 1, 0, 1, 1, 1]).getD .skip) [0, 1, 0, 1, 1, 1] x k = typecaseref12_bits_L0s N x.1.1 x.1.2.1 x.1.2.2.1 x.1.2.2.2.1 x.1.2.2.2.2.1 x.2.1 k := by kernel_rfl
noncomputable def typecaseref12_bits_T1 (N : Nat) : Tab := tab 0 31 [typecaseref01_Bit_e N] [] [] [([0, 1, 0, 1, 1, 1], ⟨typecaseref12_bits_L0i, typecaseref12_bits_L0o, typecaseref12_bits_R, 0, typecaseref12_bits_L0 N N⟩)]
theorem typecaseref12_bits_T1_ok (N : Nat) : TabOk CC 0 31 [typecaseref01_Bit_e N] [] [] [([0, 1, 0, 1, 1, 1], ⟨typecaseref12_bits_L0i, typecaseref12_bits_L0o, typecaseref12_bits_R, 0, typecaseref12_bits_L0 N N⟩)] (bodyOf Tryd.f78) := (typecaseref12_bits_T0_ok N).snoc (π := [0, 1, 0, 1, 1, 1]) (b := ((subAt (bodyOf Tryd.f78) [0, 0, 1, 0, 1, 1, 1]).getD .skip)) (inn := typecaseref12_bits_L0i) (out := typecaseref12_bits_L0o) (ret := typecaseref12_bits_R) (xid := 0) (n := N) (step := fun x k => typecaseref12_bits_L0s N x.1.1 x.1.2.1 x.1.2.2.1 x.1.2.2.2.1 x.1.2.2.2.2.1 x.2.1 k) (by kernel_rfl) (fun x k => typecaseref12_bits_L0_eq N x k)
def typecaseref12_bits (N : Nat) (a0 : Int) (b1 : Int) (table2 : Int × Int × Int × Int) : Option (Int × PUnit) :=
  bindX (typecaseref12_bits_L0 N N ((a0, b1, 0, 1, 0, ()), ((table2.fst, table2.snd.fst, table2.snd.snd.fst, table2.snd.snd.snd), ()), ()))
    (fun y => some (y.fst.fst, ())) fun y => some (y.fst.fst, ())
theorem typecaseref12_bits_eq (N : Nat) (x : VD [(.int .u32), (.int .u32), (.pair (.int .u32) (.pair (.int .u32) (.pair (.int .u32) (.int .u32))))]) : runF (typecaseref12_bits_T1 N) (bodyOf Tryd.f78) [(.int .u32), (.int .u32), (.pair (.int .u32) (.pair (.int .u32) (.pair (.int .u32) (.int .u32))))] [(.int .u32)] (Tryd.f78).results.toList x = typecaseref12_bits N x.1 x.2.1 x.2.2.1 := by kernel_rfl
def typecaseref12_bits_e (N : Nat) : Ent := ⟨78, [(.int .u32), (.int .u32), (.pair (.int .u32) (.pair (.int .u32) (.pair (.int .u32) (.int .u32))))], [(.int .u32)], fun x => typecaseref12_bits N x.1 x.2.1 x.2.2.1⟩
theorem typecaseref12_bits_ok (N : Nat) : EntOk CC.P CC.gs (typecaseref12_bits_e N) := (typecaseref12_bits_T1_ok N).ent (fn := Tryd.f78) Tryd.func78 (by kernel_rfl) (by kernel_rfl) (fun vs w => Tryd.call78 vs w) (fun x => typecaseref12_bits_eq N x)
def typecaseref12_two_R : Sh := ⟨[6, 7], [.r (.ptr 0 0), .v (.int .i64)], [.box [.v (.pair (.int .u32) .bool)]], []⟩
noncomputable def typecaseref12_two_T0 (N : Nat) : Tab := tab 0 121 [typecaseref12_moved_e N, typecaseref12_bits_e N] [] [] []
theorem typecaseref12_two_T0_ok (N : Nat) : TabOk CC 0 121 [typecaseref12_moved_e N, typecaseref12_bits_e N] [] [] [] (bodyOf Tryd.f64) := .nil CC_as ⟨typecaseref12_moved_ok N, typecaseref12_bits_ok N, trivial⟩ trivial trivial
def typecaseref12_two (N : Nat) (kind0 : Int) (a1 : Int × Bool) (b2 : Int × Bool) : Option ((Int × Bool) × Int × PUnit) :=
  bif decide (kind0 = 9) then
    bindI (bif a1.snd then some b2.snd else some false) fun y =>
      bif y then some ((0, false), 7, ()) else bindI (bif a1.snd then some true else some b2.snd) fun y => some ((IntKind.u32.wrap (a1.fst + b2.fst), y), 0, ())
  else
    bif decide (kind0 = 10) then
      bindI (bif !a1.snd then some b2.snd else some false) fun y =>
        bif y then some ((0, false), 7, ())
        else bindI (bif a1.snd then some !b2.snd else some false) fun y => some ((IntKind.u32.wrap (a1.fst - b2.fst), y), 0, ())
    else
      bindI (bif a1.snd then some true else some b2.snd) fun y =>
        bif y then some ((0, false), 7, ())
        else
          bif decide (kind0 = 11) then some ((IntKind.u32.wrap (a1.fst * b2.fst), false), 0, ())
          else
            bif decide (kind0 = 12) then
              bif decide (b2.fst = 0) then some ((0, false), 12, ())
              else bif true && !decide (b2.fst = 0) then some ((IntKind.u32.wrap (Int.tdiv a1.fst b2.fst), false), 0, ()) else none
            else
              bif decide (kind0 = 13) then bindI (typecaseref12_moved N a1.fst b2.fst true) fun y => some ((y.fst, false), 0, ())
              else
                bif decide (kind0 = 14) then bindI (typecaseref12_moved N a1.fst b2.fst false) fun y => some ((y.fst, false), 0, ())
                else
                  bif decide (kind0 = 15) then bindI (typecaseref12_bits N a1.fst b2.fst (0, 0, 0, 1)) fun y => some ((y.fst, false), 0, ())
                  else
                    bif decide (kind0 = 16) then bindI (typecaseref12_bits N a1.fst b2.fst (0, 1, 1, 0)) fun y => some ((y.fst, false), 0, ())
                    else bindI (typecaseref12_bits N a1.fst b2.fst (0, 1, 1, 1)) fun y => some ((y.fst, false), 0, ())
theorem typecaseref12_two_eq (N : Nat) (x : VD [(.int .i64), (.pair (.int .u32) .bool), (.pair (.int .u32) .bool)]) : runF (typecaseref12_two_T0 N) (bodyOf Tryd.f64) [(.int .i64), (.pair (.int .u32) .bool), (.pair (.int .u32) .bool)] [(.pair (.int .u32) .bool), (.int .i64)] (Tryd.f64).results.toList x = typecaseref12_two N x.1 x.2.1 x.2.2.1 := by kernel_rfl
def typecaseref12_two_e (N : Nat) : Ent := ⟨64, [(.int .i64), (.pair (.int .u32) .bool), (.pair (.int .u32) .bool)], [(.pair (.int .u32) .bool), (.int .i64)], fun x => typecaseref12_two N x.1 x.2.1 x.2.2.1⟩
theorem typecaseref12_two_ok (N : Nat) : EntOk CC.P CC.gs (typecaseref12_two_e N) := (typecaseref12_two_T0_ok N).ent (fn := Tryd.f64) Tryd.func64 (by kernel_rfl) (by kernel_rfl) (fun vs w => Tryd.call64 vs w) (fun x => typecaseref12_two_eq N x)
def typecaseref12_Value_R : Sh := ⟨[8, 9], [.r (.ptr 0 0), .r (.ptr 1 0)], [.box [.v (.pair (.int .u32) .bool)], .box [.v (.pair (.int .i64) (.pair (.int .i64) (.int .i64)))]], []⟩
noncomputable def typecaseref12_Value_T0 (N : Nat) : Tab := tab 0 185 [typecaseref12_find_e N, typecaseref12_one_e N, typecaseref12_two_e N] [] [] []
theorem typecaseref12_Value_T0_ok (N : Nat) : TabOk CC 0 185 [typecaseref12_find_e N, typecaseref12_one_e N, typecaseref12_two_e N] [] [] [] (bodyOf Tryd.f42) := .nil CC_as ⟨typecaseref12_find_ok N, typecaseref12_one_ok N, typecaseref12_two_ok N, trivial⟩ trivial trivial
def typecaseref12_Value_L0i : Sh := ⟨[0, 1, 2, 3, 8, 9, 10, 11], [.v (.slice .nod), .v (.slice .sym), .v (.int .u32), .v .bool, .r (.ptr 0 0), .r (.ptr 1 0), .v (.slice (.pair (.int .u32) .bool)), .v (.int .i64)], [.box [.v (.pair (.int .u32) .bool)], .box [.v (.pair (.int .i64) (.pair (.int .i64) (.int .i64)))]], []⟩
def typecaseref12_Value_L0o : Sh := ⟨[0, 8, 9, 10], [.v (.slice .nod), .r (.ptr 0 0), .r (.ptr 1 0), .v (.slice (.pair (.int .u32) .bool))], [.box [.v (.pair (.int .u32) .bool)], .box [.v (.pair (.int .i64) (.pair (.int .i64) (.int .i64)))]], []⟩
def typecaseref12_Value_L0s (N : Nat) (l0 : List Nod) (syms1 : List Sym) (place2 : Int) (early3 : Bool) (left10 : List (Int × Bool)) (i11 : Int) (x8 : (Int × Bool) × PUnit) (x9 : (Int × Int × Int) × PUnit) (k : LD typecaseref12_Value_L0i.2 × OL typecaseref12_Value_L0i.3 → Option (Ex (LD typecaseref12_Value_L0o.2 × OL typecaseref12_Value_L0o.3) (LD typecaseref12_Value_R.2 × OL typecaseref12_Value_R.3))) : Option (Ex (LD typecaseref12_Value_L0o.2 × OL typecaseref12_Value_L0o.3) (LD typecaseref12_Value_R.2 × OL typecaseref12_Value_R.3)) :=
  bif decide (i11 < (↑(List.length l0) : Int)) then
    bindI (geti l0 i11) fun y =>
      bif decide (y.kind = 1) then
        bif inC (↑(List.length left10) : Int) (List.length left10) then
          bif (List.take (↑(List.length left10) : Int).toNat left10).length.ble 4294967296 then
            bif (List.take (↑(List.length left10) : Int).toNat left10 ++ [(y.num, false)]).length.ble 4294967296 then
              k
                ((l0, syms1, place2, early3, List.take (↑(List.length left10) : Int).toNat left10 ++ [(y.num, false)], IntKind.i64.wrap (i11 + 1), ()),
                  ((x8.fst.fst, x8.fst.snd), ()), ((x9.fst.fst, x9.fst.snd.fst, x9.fst.snd.snd), ()), ())
            else none
          else none
        else none
      else
        bif decide (y.kind = 2) then
          bindI (typecaseref12_find N syms1 y.name) fun y_1 =>
            bif decide (y_1.fst < 0) then some (Ex.ret ((), ((0, false), ()), ((y.line, y.col, 11), ()), ()))
            else
              bindI (bif early3 then bindI (geti syms1 y_1.fst) fun y => some !decide (y.cls = 0) else some false) fun y_2 =>
                bif y_2 then some (Ex.ret ((), ((0, false), ()), ((y.line, y.col, 7), ()), ()))
                else
                  bindI (geti syms1 y_1.fst) fun y_3 =>
                    bindI (geti syms1 y_1.fst) fun y_4 =>
                      bif inC (↑(List.length left10) : Int) (List.length left10) then
                        bif (List.take (↑(List.length left10) : Int).toNat left10).length.ble 4294967296 then
                          bif (List.take (↑(List.length left10) : Int).toNat left10 ++ [(y_3.value, !decide (y_4.cls = 0))]).length.ble 4294967296 then
                            k
                              ((l0, syms1, place2, early3, List.take (↑(List.length left10) : Int).toNat left10 ++ [(y_3.value, !decide (y_4.cls = 0))],
                                  IntKind.i64.wrap (i11 + 1), ()),
                                ((x8.fst.fst, x8.fst.snd), ()), ((x9.fst.fst, x9.fst.snd.fst, x9.fst.snd.snd), ()), ())
                          else none
                        else none
                      else none
        else
          bindI (bif decide (y.kind = 3) then some early3 else some false) fun y_1 =>
            bif y_1 then some (Ex.ret ((), ((0, false), ()), ((y.line, y.col, 7), ()), ()))
            else
              bif decide (y.kind = 3) then
                bif inC (↑(List.length left10) : Int) (List.length left10) then
                  bif (List.take (↑(List.length left10) : Int).toNat left10).length.ble 4294967296 then
                    bif (List.take (↑(List.length left10) : Int).toNat left10 ++ [(place2, true)]).length.ble 4294967296 then
                      k
                        ((l0, syms1, place2, early3, List.take (↑(List.length left10) : Int).toNat left10 ++ [(place2, true)], IntKind.i64.wrap (i11 + 1), ()),
                          ((x8.fst.fst, x8.fst.snd), ()), ((x9.fst.fst, x9.fst.snd.fst, x9.fst.snd.snd), ()), ())
                    else none
                  else none
                else none
              else
                bindI (bif decide (4 ≤ y.kind) then some (decide (y.kind ≤ 8)) else some false) fun y_2 =>
                  bindI (bif y_2 then some (decide (1 ≤ (↑(List.length left10) : Int))) else some false) fun y_3 =>
                    bif y_3 then
                      bindI (geti left10 (IntKind.i64.wrap ((↑(List.length left10) : Int) - 1))) fun y_4 =>
                        bindI (typecaseref12_one N y.kind (y_4.fst, y_4.snd) place2 early3) fun y_5 =>
                          bif decide (0 < y_5.snd.fst) then some (Ex.ret ((), ((0, false), ()), ((y.line, y.col, y_5.snd.fst), ()), ()))
                          else
                            bif inC (IntKind.i64.wrap ((↑(List.length left10) : Int) - 1)) (List.length left10) then
                              bif (List.take (IntKind.i64.wrap ((↑(List.length left10) : Int) - 1)).toNat left10).length.ble 4294967296 then
                                bif
                                    (List.take (IntKind.i64.wrap ((↑(List.length left10) : Int) - 1)).toNat left10 ++ [(y_5.fst.fst, y_5.fst.snd)]).length.ble
                                      4294967296 then
                                  k
                                    ((l0, syms1, place2, early3,
                                        List.take (IntKind.i64.wrap ((↑(List.length left10) : Int) - 1)).toNat left10 ++ [(y_5.fst.fst, y_5.fst.snd)],
                                        IntKind.i64.wrap (i11 + 1), ()),
                                      ((x8.fst.fst, x8.fst.snd), ()), ((x9.fst.fst, x9.fst.snd.fst, x9.fst.snd.snd), ()), ())
                                else none
                              else none
                            else none
                    else
                      bindI (bif decide (9 ≤ y.kind) then some (decide (y.kind ≤ 17)) else some false) fun y_4 =>
                        bindI (bif y_4 then some (decide (2 ≤ (↑(List.length left10) : Int))) else some false) fun y_5 =>
                          bif y_5 then
                            bindI (geti left10 (IntKind.i64.wrap ((↑(List.length left10) : Int) - 2))) fun y_6 =>
                              bindI (geti left10 (IntKind.i64.wrap ((↑(List.length left10) : Int) - 1))) fun y_7 =>
                                bindI (typecaseref12_two N y.kind (y_6.fst, y_6.snd) (y_7.fst, y_7.snd)) fun y_8 =>
                                  bif decide (0 < y_8.snd.fst) then some (Ex.ret ((), ((0, false), ()), ((y.line, y.col, y_8.snd.fst), ()), ()))
                                  else
                                    bif inC (IntKind.i64.wrap ((↑(List.length left10) : Int) - 2)) (List.length left10) then
                                      bif (List.take (IntKind.i64.wrap ((↑(List.length left10) : Int) - 2)).toNat left10).length.ble 4294967296 then
                                        bif
                                            (List.take (IntKind.i64.wrap ((↑(List.length left10) : Int) - 2)).toNat left10 ++
                                                    [(y_8.fst.fst, y_8.fst.snd)]).length.ble
                                              4294967296 then
                                          k
                                            ((l0, syms1, place2, early3,
                                                List.take (IntKind.i64.wrap ((↑(List.length left10) : Int) - 2)).toNat left10 ++ [(y_8.fst.fst, y_8.fst.snd)],
                                                IntKind.i64.wrap (i11 + 1), ()),
                                              ((x8.fst.fst, x8.fst.snd), ()), ((x9.fst.fst, x9.fst.snd.fst, x9.fst.snd.snd), ()), ())
                                        else none
                                      else none
                                    else none
                          else some (Ex.ret ((), ((0, false), ()), ((y.line, y.col, 6), ()), ()))
  else some (Ex.out ((l0, left10, ()), ((x8.fst.fst, x8.fst.snd), ()), ((x9.fst.fst, x9.fst.snd.fst, x9.fst.snd.snd), ()), ()))
def typecaseref12_Value_L0 (N : Nat) : Nat → typecaseref12_Value_L0i.D → Option (Ex typecaseref12_Value_L0o.D typecaseref12_Value_R.D) := loopN fun x k => typecaseref12_Value_L0s N x.1.1 x.1.2.1 x.1.2.2.1 x.1.2.2.2.1 x.1.2.2.2.2.1 x.1.2.2.2.2.2.1 x.2.1 x.2.2.1 k
theorem typecaseref12_Value_L0_succ (N f : Nat) (x : typecaseref12_Value_L0i.D) : typecaseref12_Value_L0 N (f + 1) x = typecaseref12_Value_L0s N x.1.1 x.1.2.1 x.1.2.2.1 x.1.2.2.2.1 x.1.2.2.2.2.1 x.1.2.2.2.2.2.1 x.2.1 x.2.2.1 (typecaseref12_Value_L0 N f) := rfl
theorem typecaseref12_Value_L0_eq (N : Nat) (x : typecaseref12_Value_L0i.D) (k : typecaseref12_Value_L0i.D → Option (Ex typecaseref12_Value_L0o.D typecaseref12_Value_R.D)) : stepL (typecaseref12_Value_T0 N) typecaseref12_Value_L0i typecaseref12_Value_L0o typecaseref12_Value_R 0 ((subAt (bodyOf Tryd.f42) [0, 0, 1, 0, 1, 1]).getD .skip) [0, 1, 0, 1, 1] x k = typecaseref12_Value_L0s N x.1.1 x.1.2.1 x.1.2.2.1 x.1.2.2.2.1 x.1.2.2.2.2.1 x.1.2.2.2.2.2.1 x.2.1 x.2.2.1 k := by kernel_rfl
noncomputable def typecaseref12_Value_T1 (N : Nat) : Tab := tab 0 185 [typecaseref12_find_e N, typecaseref12_one_e N, typecaseref12_two_e N] [] [] [([0, 1, 0, 1, 1], ⟨typecaseref12_Value_L0i, typecaseref12_Value_L0o, typecaseref12_Value_R, 0, typecaseref12_Value_L0 N N⟩)]
theorem typecaseref12_Value_T1_ok (N : Nat) : TabOk CC 0 185 [typecaseref12_find_e N, typecaseref12_one_e N, typecaseref12_two_e N] [] [] [([0, 1, 0, 1, 1], ⟨typecaseref12_Value_L0i, typecaseref12_Value_L0o, typecaseref12_Value_R, 0, typecaseref12_Value_L0 N N⟩)] (bodyOf Tryd.f42) := (typecaseref12_Value_T0_ok N).snoc (π := [0, 1, 0, 1, 1]) (b := ((subAt (bodyOf Tryd.f42) [0, 0, 1, 0, 1, 1]).getD .skip)) (inn := typecaseref12_Value_L0i) (out := typecaseref12_Value_L0o) (ret := typecaseref12_Value_R) (xid := 0) (n := N) (step := fun x k => typecaseref12_Value_L0s N x.1.1 x.1.2.1 x.1.2.2.1 x.1.2.2.2.1 x.1.2.2.2.2.1 x.1.2.2.2.2.2.1 x.2.1 x.2.2.1 k) (by kernel_rfl) (fun x k => typecaseref12_Value_L0_eq N x k)
def typecaseref12_Value (N : Nat) (l0 : List Nod) (syms1 : List Sym) (place2 : Int) (early3 : Bool) : Option ((Int × Bool) × (Int × Int × Int) × PUnit) :=
  bindX (typecaseref12_Value_L0 N N ((l0, syms1, place2, early3, [], 0, ()), ((0, false), ()), ((0, 0, 0), ()), ()))
    (fun y =>
      bif decide ((↑(List.length y.fst.snd.fst) : Int) = 1) then bindI (geti y.fst.snd.fst 0) fun y => some ((y.fst, y.snd), (0, 0, 0), ())
      else
        bif decide ((↑(List.length y.fst.fst) : Int) = 0) then some ((0, false), (0, 0, 6), ())
        else
          bindI (geti y.fst.fst (IntKind.i64.wrap ((↑(List.length y.fst.fst) : Int) - 1))) fun y_1 =>
            bindI (geti y.fst.fst (IntKind.i64.wrap ((↑(List.length y.fst.fst) : Int) - 1))) fun y => some ((0, false), (y_1.line, y.col, 6), ()))
    fun y => some ((y.snd.fst.fst.fst, y.snd.fst.fst.snd), (y.snd.snd.fst.fst.fst, y.snd.snd.fst.fst.snd.fst, y.snd.snd.fst.fst.snd.snd), ())
theorem typecaseref12_Value_eq (N : Nat) (x : VD [(.slice .nod), (.slice .sym), (.int .u32), .bool]) : runF (typecaseref12_Value_T1 N) (bodyOf Tryd.f42) [(.slice .nod), (.slice .sym), (.int .u32), .bool] [(.pair (.int .u32) .bool), (.pair (.int .i64) (.pair (.int .i64) (.int .i64)))] (Tryd.f42).results.toList x = typecaseref12_Value N x.1 x.2.1 x.2.2.1 x.2.2.2.1 := by kernel_rfl
def typecaseref12_Value_e (N : Nat) : Ent := ⟨42, [(.slice .nod), (.slice .sym), (.int .u32), .bool], [(.pair (.int .u32) .bool), (.pair (.int .i64) (.pair (.int .i64) (.int .i64)))], fun x => typecaseref12_Value N x.1 x.2.1 x.2.2.1 x.2.2.2.1⟩
theorem typecaseref12_Value_ok (N : Nat) : EntOk CC.P CC.gs (typecaseref12_Value_e N) := (typecaseref12_Value_T1_ok N).ent (fn := Tryd.f42) Tryd.func42 (by kernel_rfl) (by kernel_rfl) (fun vs w => Tryd.call42 vs w) (fun x => typecaseref12_Value_eq N x)
def typecaselaw12_same_R : Sh := ⟨[8], [.v .bool], [], []⟩
noncomputable def typecaselaw12_same_T0 (N : Nat) : Tab := tab 0 56 [typecaselaw10_Fault_e N, eval_Value_e N, typecaselaw12_Syms_e N, typecaseref12_Value_e N] [] [] []
theorem typecaselaw12_same_T0_ok (N : Nat) : TabOk CC 0 56 [typecaselaw10_Fault_e N, eval_Value_e N, typecaselaw12_Syms_e N, typecaseref12_Value_e N] [] [] [] (bodyOf Tryd.f27) := .nil CC_as ⟨typecaselaw10_Fault_ok N, eval_Value_ok N, typecaselaw12_Syms_ok N, typecaseref12_Value_ok N, trivial⟩ trivial trivial
def typecaselaw12_same (N : Nat) (l0 : List Nod) (syms1 : List Sym) (place2 : Int) (early3 : Bool) : Option (Bool × PUnit) :=
  bindI (typecaselaw12_Syms N syms1) fun y =>
    bindI (eval_Value N l0 y.fst place2 early3) fun y =>
      Err.el y.snd.snd.fst
        (bindI (typecaseref12_Value N l0 syms1 place2 early3) fun y_1 =>
          bindI (bif decide (y.fst = y_1.fst.fst) then some (decide (decide (y.snd.fst = 1) = y_1.fst.snd)) else some false) fun y_2 =>
            bindI (bif y_2 then some !decide (decide (y.snd.fst = 0) = y_1.fst.snd) else some false) fun y =>
              bindI
                (bif y then some (decide (0 = y_1.snd.fst.fst) && (decide (0 = y_1.snd.fst.snd.fst) && (decide (0 = y_1.snd.fst.snd.snd) && true)))
                else some false)
                fun y => some (y, ()))
        (fun _y =>
          bindI (typecaseref12_Value N l0 syms1 place2 early3) fun y_1 =>
            bindI (bif decide (y.fst = y_1.fst.fst) then some (decide (decide (y.snd.fst = 1) = y_1.fst.snd)) else some false) fun y_2 =>
              bindI (bif y_2 then some !decide (decide (y.snd.fst = 0) = y_1.fst.snd) else some false) fun y =>
                bindI (bif y then none else some false) fun y => some (y, ()))
        fun l c k =>
        bindI (typecaseref12_Value N l0 syms1 place2 early3) fun y_1 =>
          bindI (bif decide (y.fst = y_1.fst.fst) then some (decide (decide (y.snd.fst = 1) = y_1.fst.snd)) else some false) fun y_2 =>
            bindI (bif y_2 then some !decide (decide (y.snd.fst = 0) = y_1.fst.snd) else some false) fun y =>
              bindI
                (bif y then
                  bindI (typecaselaw10_Fault N (Err.fault l c k)) fun y =>
                    some
                      (decide (y.fst.fst = y_1.snd.fst.fst) &&
                        (decide (y.fst.snd.fst = y_1.snd.fst.snd.fst) && (decide (y.fst.snd.snd = y_1.snd.fst.snd.snd) && true)))
                else some false)
                fun y => some (y, ())
theorem typecaselaw12_same_eq (N : Nat) (x : VD [(.slice .nod), (.slice .sym), (.int .u32), .bool]) : runF (typecaselaw12_same_T0 N) (bodyOf Tryd.f27) [(.slice .nod), (.slice .sym), (.int .u32), .bool] [.bool] (Tryd.f27).results.toList x = typecaselaw12_same N x.1 x.2.1 x.2.2.1 x.2.2.2.1 := by kernel_rfl
def typecaselaw12_same_e (N : Nat) : Ent := ⟨27, [(.slice .nod), (.slice .sym), (.int .u32), .bool], [.bool], fun x => typecaselaw12_same N x.1 x.2.1 x.2.2.1 x.2.2.2.1⟩
theorem typecaselaw12_same_ok (N : Nat) : EntOk CC.P CC.gs (typecaselaw12_same_e N) := (typecaselaw12_same_T0_ok N).ent (fn := Tryd.f27) Tryd.func27 (by kernel_rfl) (by kernel_rfl) (fun vs w => Tryd.call27 vs w) (fun x => typecaselaw12_same_eq N x)
def typecaselaw12_EvalNodes_R : Sh := ⟨[8], [.v .bool], [], []⟩
noncomputable def typecaselaw12_EvalNodes_T0 (N : Nat) : Tab := tab 0 24 [typecaselaw12_awake_e N, typecaselaw12_same_e N] [] [] []
theorem typecaselaw12_EvalNodes_T0_ok (N : Nat) : TabOk CC 0 24 [typecaselaw12_awake_e N, typecaselaw12_same_e N] [] [] [] (bodyOf Tryd.f6) := .nil CC_as ⟨typecaselaw12_awake_ok N, typecaselaw12_same_ok N, trivial⟩ trivial trivial
def typecaselaw12_EvalNodes (N : Nat) (l0 : List Nod) (syms1 : List Sym) (place2 : Int) (early3 : Bool) : Option (Bool × PUnit) :=
  bindI (typecaselaw12_awake N) fun y =>
    bif !y.fst then some (false, ())
    else
      bindI (bif decide (300 < (↑(List.length l0) : Int)) then some true else some (decide (100 < (↑(List.length syms1) : Int)))) fun y =>
        bif y then some (true, ()) else bindI (typecaselaw12_same N l0 syms1 place2 early3) fun y => some (y.fst, ())
theorem typecaselaw12_EvalNodes_eq (N : Nat) (x : VD [(.slice .nod), (.slice .sym), (.int .u32), .bool]) : runF (typecaselaw12_EvalNodes_T0 N) (bodyOf Tryd.f6) [(.slice .nod), (.slice .sym), (.int .u32), .bool] [.bool] (Tryd.f6).results.toList x = typecaselaw12_EvalNodes N x.1 x.2.1 x.2.2.1 x.2.2.2.1 := by kernel_rfl
def typecaselaw12_EvalNodes_e (N : Nat) : Ent := ⟨6, [(.slice .nod), (.slice .sym), (.int .u32), .bool], [.bool], fun x => typecaselaw12_EvalNodes N x.1 x.2.1 x.2.2.1 x.2.2.2.1⟩
theorem typecaselaw12_EvalNodes_ok (N : Nat) : EntOk CC.P CC.gs (typecaselaw12_EvalNodes_e N) := (typecaselaw12_EvalNodes_T0_ok N).ent (fn := Tryd.f6) Tryd.func6 (by kernel_rfl) (by kernel_rfl) (fun vs w => Tryd.call6 vs w) (fun x => typecaselaw12_EvalNodes_eq N x)
def typecaseref10_in_R : Sh := ⟨[4], [.v .bool], [], []⟩
noncomputable def typecaseref10_in_T0 (_N : Nat) : Tab := tab 0 17 [] [] [] []
theorem typecaseref10_in_T0_ok (_N : Nat) : TabOk CC 0 17 [] [] [] [] (bodyOf Tryd.f65) := .nil CC_as trivial trivial trivial
def typecaseref10_in_L0i : Sh := ⟨[0, 1, 5], [.v (.int .u8), .v .str, .v (.int .i64)], [], []⟩
def typecaseref10_in_L0o : Sh := ⟨[], [], [], []⟩
def typecaseref10_in_L0s (_N : Nat) (c0 : Int) (s1 : List UInt8) (i5 : Int) (k : LD typecaseref10_in_L0i.2 × OL typecaseref10_in_L0i.3 → Option (Ex (LD typecaseref10_in_L0o.2 × OL typecaseref10_in_L0o.3) (LD typecaseref10_in_R.2 × OL typecaseref10_in_R.3))) : Option (Ex (LD typecaseref10_in_L0o.2 × OL typecaseref10_in_L0o.3) (LD typecaseref10_in_R.2 × OL typecaseref10_in_R.3)) :=
  bif decide (i5 < (↑(List.length s1) : Int)) then
    bindI (geti s1 i5) fun y => bif decide ((↑y.toNat : Int) = c0) then some (Ex.ret ((true, ()), ())) else k ((c0, s1, IntKind.i64.wrap (i5 + 1), ()), ())
  else some (Ex.out ((), ()))
def typecaseref10_in_L0 (N : Nat) : Nat → typecaseref10_in_L0i.D → Option (Ex typecaseref10_in_L0o.D typecaseref10_in_R.D) := loopN fun x k => typecaseref10_in_L0s N x.1.1 x.1.2.1 x.1.2.2.1 k
theorem typecaseref10_in_L0_succ (N f : Nat) (x : typecaseref10_in_L0i.D) : typecaseref10_in_L0 N (f + 1) x = typecaseref10_in_L0s N x.1.1 x.1.2.1 x.1.2.2.1 (typecaseref10_in_L0 N f) := rfl
theorem typecaseref10_in_L0_eq (N : Nat) (x : typecaseref10_in_L0i.D) (k : typecaseref10_in_L0i.D → Option (Ex typecaseref10_in_L0o.D typecaseref10_in_R.D)) : stepL (typecaseref10_in_T0 N) typecaseref10_in_L0i typecaseref10_in_L0o typecaseref10_in_R 0 ((subAt (bodyOf Tryd.f65) [0, 0, 1, 0, 1]).getD .skip) [0, 1, 0, 1] x k = typecaseref10_in_L0s N x.1.1 x.1.2.1 x.1.2.2.1 k := by kernel_rfl
noncomputable def typecaseref10_in_T1 (N : Nat) : Tab := tab 0 17 [] [] [] [([0, 1, 0, 1], ⟨typecaseref10_in_L0i, typecaseref10_in_L0o, typecaseref10_in_R, 0, typecaseref10_in_L0 N N⟩)]
theorem typecaseref10_in_T1_ok (N : Nat) : TabOk CC 0 17 [] [] [] [([0, 1, 0, 1], ⟨typecaseref10_in_L0i, typecaseref10_in_L0o, typecaseref10_in_R, 0, typecaseref10_in_L0 N N⟩)] (bodyOf Tryd.f65) := (typecaseref10_in_T0_ok N).snoc (π := [0, 1, 0, 1]) (b := ((subAt (bodyOf Tryd.f65) [0, 0, 1, 0, 1]).getD .skip)) (inn := typecaseref10_in_L0i) (out := typecaseref10_in_L0o) (ret := typecaseref10_in_R) (xid := 0) (n := N) (step := fun x k => typecaseref10_in_L0s N x.1.1 x.1.2.1 x.1.2.2.1 k) (by kernel_rfl) (fun x k => typecaseref10_in_L0_eq N x k)
def typecaseref10_in (N : Nat) (c0 : Int) (s1 : List UInt8) : Option (Bool × PUnit) :=
  bindX (typecaseref10_in_L0 N N ((c0, s1, 0, ()), ())) (fun _y => some (false, ())) fun y => some (y.fst.fst, ())
theorem typecaseref10_in_eq (N : Nat) (x : VD [(.int .u8), .str]) : runF (typecaseref10_in_T1 N) (bodyOf Tryd.f65) [(.int .u8), .str] [.bool] (Tryd.f65).results.toList x = typecaseref10_in N x.1 x.2.1 := by kernel_rfl
def typecaseref10_in_e (N : Nat) : Ent := ⟨65, [(.int .u8), .str], [.bool], fun x => typecaseref10_in N x.1 x.2.1⟩
theorem typecaseref10_in_ok (N : Nat) : EntOk CC.P CC.gs (typecaseref10_in_e N) := (typecaseref10_in_T1_ok N).ent (fn := Tryd.f65) Tryd.func65 (by kernel_rfl) (by kernel_rfl) (fun vs w => Tryd.call65 vs w) (fun x => typecaseref10_in_eq N x)
def typecaseref10_while_R : Sh := ⟨[4], [.v (.int .i64)], [], []⟩
noncomputable def typecaseref10_while_T0 (N : Nat) : Tab := tab 0 20 [typecaseref10_in_e N] [] [] []
theorem typecaseref10_while_T0_ok (N : Nat) : TabOk CC 0 20 [typecaseref10_in_e N] [] [] [] (bodyOf Tryd.f79) := .nil CC_as ⟨typecaseref10_in_ok N, trivial⟩ trivial trivial
def typecaseref10_while_L0i : Sh := ⟨[0, 1, 5], [.v .str, .v .str, .v (.int .i64)], [], []⟩
def typecaseref10_while_L0o : Sh := ⟨[5], [.v (.int .i64)], [], []⟩
def typecaseref10_while_L0s (N : Nat) (s0 : List UInt8) (set1 : List UInt8) (n5 : Int) (k : LD typecaseref10_while_L0i.2 × OL typecaseref10_while_L0i.3 → Option (Ex (LD typecaseref10_while_L0o.2 × OL typecaseref10_while_L0o.3) (LD typecaseref10_while_R.2 × OL typecaseref10_while_R.3))) : Option (Ex (LD typecaseref10_while_L0o.2 × OL typecaseref10_while_L0o.3) (LD typecaseref10_while_R.2 × OL typecaseref10_while_R.3)) :=
  bindI
    (bif decide (n5 < (↑(List.length s0) : Int)) then bindI (geti s0 n5) fun y => bindI (typecaseref10_in N (↑y.toNat : Int) set1) fun y => some y.fst
    else some false)
    fun y => bif y then k ((s0, set1, IntKind.i64.wrap (n5 + 1), ()), ()) else some (Ex.out ((n5, ()), ()))
def typecaseref10_while_L0 (N : Nat) : Nat → typecaseref10_while_L0i.D → Option (Ex typecaseref10_while_L0o.D typecaseref10_while_R.D) := loopN fun x k => typecaseref10_while_L0s N x.1.1 x.1.2.1 x.1.2.2.1 k
theorem typecaseref10_while_L0_succ (N f : Nat) (x : typecaseref10_while_L0i.D) : typecaseref10_while_L0 N (f + 1) x = typecaseref10_while_L0s N x.1.1 x.1.2.1 x.1.2.2.1 (typecaseref10_while_L0 N f) := rfl
theorem typecaseref10_while_L0_eq (N : Nat) (x : typecaseref10_while_L0i.D) (k : typecaseref10_while_L0i.D → Option (Ex typecaseref10_while_L0o.D typecaseref10_while_R.D)) : stepL (typecaseref10_while_T0 N) typecaseref10_while_L0i typecaseref10_while_L0o typecaseref10_while_R 0 ((subAt (bodyOf Tryd.f79) [0, 0, 0, 1, 1]).getD .skip) [0, 0, 1, 1] x k = typecaseref10_while_L0s N x.1.1 x.1.2.1 x.1.2.2.1 k := by kernel_rfl
noncomputable def typecaseref10_while_T1 (N : Nat) : Tab := tab 0 20 [typecaseref10_in_e N] [] [] [([0, 0, 1, 1], ⟨typecaseref10_while_L0i, typecaseref10_while_L0o, typecaseref10_while_R, 0, typecaseref10_while_L0 N N⟩)]
theorem typecaseref10_while_T1_ok (N : Nat) : TabOk CC 0 20 [typecaseref10_in_e N] [] [] [([0, 0, 1, 1], ⟨typecaseref10_while_L0i, typecaseref10_while_L0o, typecaseref10_while_R, 0, typecaseref10_while_L0 N N⟩)] (bodyOf Tryd.f79) := (typecaseref10_while_T0_ok N).snoc (π := [0, 0, 1, 1]) (b := ((subAt (bodyOf Tryd.f79) [0, 0, 0, 1, 1]).getD .skip)) (inn := typecaseref10_while_L0i) (out := typecaseref10_while_L0o) (ret := typecaseref10_while_R) (xid := 0) (n := N) (step := fun x k => typecaseref10_while_L0s N x.1.1 x.1.2.1 x.1.2.2.1 k) (by kernel_rfl) (fun x k => typecaseref10_while_L0_eq N x k)
def typecaseref10_while (N : Nat) (s0 : List UInt8) (set1 : List UInt8) : Option (Int × PUnit) :=
  bindX (typecaseref10_while_L0 N N ((s0, set1, 0, ()), ())) (fun y => some (y.fst.fst, ())) fun y => some (y.fst.fst, ())
theorem typecaseref10_while_eq (N : Nat) (x : VD [.str, .str]) : runF (typecaseref10_while_T1 N) (bodyOf Tryd.f79) [.str, .str] [(.int .i64)] (Tryd.f79).results.toList x = typecaseref10_while N x.1 x.2.1 := by kernel_rfl
def typecaseref10_while_e (N : Nat) : Ent := ⟨79, [.str, .str], [(.int .i64)], fun x => typecaseref10_while N x.1 x.2.1⟩
theorem typecaseref10_while_ok (N : Nat) : EntOk CC.P CC.gs (typecaseref10_while_e N) := (typecaseref10_while_T1_ok N).ent (fn := Tryd.f79) Tryd.func79 (by kernel_rfl) (by kernel_rfl) (fun vs w => Tryd.call79 vs w) (fun x => typecaseref10_while_eq N x)
def typecaseref10_digit_R : Sh := ⟨[2], [.v (.int .u64)], [], []⟩
noncomputable def typecaseref10_digit_T0 (_N : Nat) : Tab := tab 0 18 [] [] [] []
theorem typecaseref10_digit_T0_ok (_N : Nat) : TabOk CC 0 18 [] [] [] [] (bodyOf Tryd.f94) := .nil CC_as trivial trivial trivial
def typecaseref10_digit (_N : Nat) (c0 : Int) : Option (Int × PUnit) :=
  bif decide (97 ≤ c0) then some (IntKind.u64.wrap (IntKind.u64.wrap (IntKind.u8.wrap (c0 - 97)) + 10), ())
  else
    bif decide (65 ≤ c0) then some (IntKind.u64.wrap (IntKind.u64.wrap (IntKind.u8.wrap (c0 - 65)) + 10), ())
    else some (IntKind.u64.wrap (IntKind.u8.wrap (c0 - 48)), ())
theorem typecaseref10_digit_eq (N : Nat) (x : VD [(.int .u8)]) : runF (typecaseref10_digit_T0 N) (bodyOf Tryd.f94) [(.int .u8)] [(.int .u64)] (Tryd.f94).results.toList x = typecaseref10_digit N x.1 := by kernel_rfl
def typecaseref10_digit_e (N : Nat) : Ent := ⟨94, [(.int .u8)], [(.int .u64)], fun x => typecaseref10_digit N x.1⟩
theorem typecaseref10_digit_ok (N : Nat) : EntOk CC.P CC.gs (typecaseref10_digit_e N) := (typecaseref10_digit_T0_ok N).ent (fn := Tryd.f94) Tryd.func94 (by kernel_rfl) (by kernel_rfl) (fun vs w => Tryd.call94 vs w) (fun x => typecaseref10_digit_eq N x)
def typecaseref10_numeral_R : Sh := ⟨[2, 3], [.v (.int .u32), .v (.int .i64)], [], []⟩
noncomputable def typecaseref10_numeral_T0 (N : Nat) : Tab := tab 0 67 [typecaseref10_in_e N, typecaseref10_while_e N, typecaseref10_digit_e N] [] [] []
theorem typecaseref10_numeral_T0_ok (N : Nat) : TabOk CC 0 67 [typecaseref10_in_e N, typecaseref10_while_e N, typecaseref10_digit_e N] [] [] [] (bodyOf Tryd.f80) := .nil CC_as ⟨typecaseref10_in_ok N, typecaseref10_while_ok N, typecaseref10_digit_ok N, trivial⟩ trivial trivial
def typecaseref10_numeral_L0i : Sh := ⟨[0, 4, 7, 8, 9], [.v .str, .v (.int .u64), .v (.int .i64), .v (.int .u64), .v (.int .i64)], [], []⟩
def typecaseref10_numeral_L0o : Sh := ⟨[7, 8], [.v (.int .i64), .v (.int .u64)], [], []⟩
def typecaseref10_numeral_L0s (N : Nat) (s0 : List UInt8) (base4 : Int) (n7 : Int) (v8 : Int) (i9 : Int) (k : LD typecaseref10_numeral_L0i.2 × OL typecaseref10_numeral_L0i.3 → Option (Ex (LD typecaseref10_numeral_L0o.2 × OL typecaseref10_numeral_L0o.3) (LD typecaseref10_numeral_R.2 × OL typecaseref10_numeral_R.3))) : Option (Ex (LD typecaseref10_numeral_L0o.2 × OL typecaseref10_numeral_L0o.3) (LD typecaseref10_numeral_R.2 × OL typecaseref10_numeral_R.3)) :=
  bif decide (i9 < n7) then
    bindI (geti s0 i9) fun y =>
      bindI (typecaseref10_digit N (↑y.toNat : Int)) fun y =>
        bif decide (4294967296 ≤ IntKind.u64.wrap (IntKind.u64.wrap (v8 * base4) + y.fst)) then some (Ex.ret ((0, 0, ()), ()))
        else k ((s0, base4, n7, IntKind.u64.wrap (IntKind.u64.wrap (v8 * base4) + y.fst), IntKind.i64.wrap (i9 + 1), ()), ())
  else some (Ex.out ((n7, v8, ()), ()))
def typecaseref10_numeral_L0 (N : Nat) : Nat → typecaseref10_numeral_L0i.D → Option (Ex typecaseref10_numeral_L0o.D typecaseref10_numeral_R.D) := loopN fun x k => typecaseref10_numeral_L0s N x.1.1 x.1.2.1 x.1.2.2.1 x.1.2.2.2.1 x.1.2.2.2.2.1 k
theorem typecaseref10_numeral_L0_succ (N f : Nat) (x : typecaseref10_numeral_L0i.D) : typecaseref10_numeral_L0 N (f + 1) x = typecaseref10_numeral_L0s N x.1.1 x.1.2.1 x.1.2.2.1 x.1.2.2.2.1 x.1.2.2.2.2.1 (typecaseref10_numeral_L0 N f) := rfl
theorem typecaseref10_numeral_L0_eq (N : Nat) (x : typecaseref10_numeral_L0i.D) (k : typecaseref10_numeral_L0i.D → Option (Ex typecaseref10_numeral_L0o.D typecaseref10_numeral_R.D)) : stepL (typecaseref10_numeral_T0 N) typecaseref10_numeral_L0i typecaseref10_numeral_L0o typecaseref10_numeral_R 0 ((subAt (bodyOf Tryd.f80) [0, 0, 1, 0, 1, 1, 1, 1, 1, 1, 1]).getD .skip) [0, 1, 0, 1, 1, 1, 1, 1, 1, 1] x k = typecaseref10_numeral_L0s N x.1.1 x.1.2.1 x.1.2.2.1 x.1.2.2.2.1 x.1.2.2.2.2.1 k := by kernel_rfl
noncomputable def typecaseref10_numeral_T1 (N : Nat) : Tab := tab 0 67 [typecaseref10_in_e N, typecaseref10_while_e N, typecaseref10_digit_e N] [] [] [([0, 1, 0, 1, 1, 1, 1, 1, 1, 1], ⟨typecaseref10_numeral_L0i, typecaseref10_numeral_L0o, typecaseref10_numeral_R, 0, typecaseref10_numeral_L0 N N⟩)]
theorem typecaseref10_numeral_T1_ok (N : Nat) : TabOk CC 0 67 [typecaseref10_in_e N, typecaseref10_while_e N, typecaseref10_digit_e N] [] [] [([0, 1, 0, 1, 1, 1, 1, 1, 1, 1], ⟨typecaseref10_numeral_L0i, typecaseref10_numeral_L0o, typecaseref10_numeral_R, 0, typecaseref10_numeral_L0 N N⟩)] (bodyOf Tryd.f80) := (typecaseref10_numeral_T0_ok N).snoc (π := [0, 1, 0, 1, 1, 1, 1, 1, 1, 1]) (b := ((subAt (bodyOf Tryd.f80) [0, 0, 1, 0, 1, 1, 1, 1, 1, 1, 1]).getD .skip)) (inn := typecaseref10_numeral_L0i) (out := typecaseref10_numeral_L0o) (ret := typecaseref10_numeral_R) (xid := 0) (n := N) (step := fun x k => typecaseref10_numeral_L0s N x.1.1 x.1.2.1 x.1.2.2.1 x.1.2.2.2.1 x.1.2.2.2.2.1 k) (by kernel_rfl) (fun x k => typecaseref10_numeral_L0_eq N x k)
def typecaseref10_numeral (N : Nat) (s0 : List UInt8) : Option (Int × Int × PUnit) :=
  bindI
    (bif decide (1 < (↑(List.length s0) : Int)) then
      bif inC 2 (List.length s0) then some ((List.take (Int.toNat 2) s0).beq [UInt8.ofNat 48, UInt8.ofNat 120]) else none
    else some false)
    fun y =>
    bif y then
      bindI
        (bif decide (1 < (↑(List.length s0) : Int)) then
          bif inC 2 (List.length s0) then some ((List.take (Int.toNat 2) s0).beq [UInt8.ofNat 48, UInt8.ofNat 98]) else none
        else some false)
        fun y =>
        bif y then
          bif inC 2 (List.length s0) then
            bindI (typecaseref10_while N (List.drop (Int.toNat 2) s0) [UInt8.ofNat 48, UInt8.ofNat 49]) fun y =>
              bindI
                (bif decide (IntKind.i64.wrap (2 + y.fst) = 2) then some true
                else
                  bindI
                    (bif decide (IntKind.i64.wrap (2 + y.fst) < (↑(List.length s0) : Int)) then
                      bindI (geti s0 (IntKind.i64.wrap (2 + y.fst))) fun y =>
                        bindI
                          (typecaseref10_in N (↑y.toNat : Int)
                            [UInt8.ofNat 97, UInt8.ofNat 98, UInt8.ofNat 99, UInt8.ofNat 100, UInt8.ofNat 101, UInt8.ofNat 102, UInt8.ofNat 103, UInt8.ofNat 104,
                              UInt8.ofNat 105, UInt8.ofNat 106, UInt8.ofNat 107, UInt8.ofNat 108, UInt8.ofNat 109, UInt8.ofNat 110, UInt8.ofNat 111,
                              UInt8.ofNat 112, UInt8.ofNat 113, UInt8.ofNat 114, UInt8.ofNat 115, UInt8.ofNat 116, UInt8.ofNat 117, UInt8.ofNat 118,
                              UInt8.ofNat 119, UInt8.ofNat 120, UInt8.ofNat 121, UInt8.ofNat 122, UInt8.ofNat 65, UInt8.ofNat 66, UInt8.ofNat 67, UInt8.ofNat 68,
                              UInt8.ofNat 69, UInt8.ofNat 70, UInt8.ofNat 71, UInt8.ofNat 72, UInt8.ofNat 73, UInt8.ofNat 74, UInt8.ofNat 75, UInt8.ofNat 76,
                              UInt8.ofNat 77, UInt8.ofNat 78, UInt8.ofNat 79, UInt8.ofNat 80, UInt8.ofNat 81, UInt8.ofNat 82, UInt8.ofNat 83, UInt8.ofNat 84,
                              UInt8.ofNat 85, UInt8.ofNat 86, UInt8.ofNat 87, UInt8.ofNat 88, UInt8.ofNat 89, UInt8.ofNat 90, UInt8.ofNat 95, UInt8.ofNat 48,
                              UInt8.ofNat 49, UInt8.ofNat 50, UInt8.ofNat 51, UInt8.ofNat 52, UInt8.ofNat 53, UInt8.ofNat 54, UInt8.ofNat 55, UInt8.ofNat 56,
                              UInt8.ofNat 57, UInt8.ofNat 46, UInt8.ofNat 36])
                          fun y => some y.fst
                    else some false)
                    fun y => some y)
                fun y_1 =>
                bif y_1 then some (0, 0, ())
                else
                  bindX (typecaseref10_numeral_L0 N N ((s0, 2, IntKind.i64.wrap (2 + y.fst), 0, 2, ()), ()))
                    (fun y => some (IntKind.u32.wrap y.fst.snd.fst, y.fst.fst, ())) fun y => some (y.fst.fst, y.fst.snd.fst, ())
          else none
        else
          bif inC 2 (List.length s0) then
            bindI
              (typecaseref10_while N (List.drop (Int.toNat 2) s0)
                [UInt8.ofNat 48, UInt8.ofNat 49, UInt8.ofNat 50, UInt8.ofNat 51, UInt8.ofNat 52, UInt8.ofNat 53, UInt8.ofNat 54, UInt8.ofNat 55, UInt8.ofNat 56,
                  UInt8.ofNat 57, UInt8.ofNat 97, UInt8.ofNat 98, UInt8.ofNat 99, UInt8.ofNat 100, UInt8.ofNat 101, UInt8.ofNat 102, UInt8.ofNat 65,
                  UInt8.ofNat 66, UInt8.ofNat 67, UInt8.ofNat 68, UInt8.ofNat 69, UInt8.ofNat 70])
              fun y =>
              bindI
                (bif decide (IntKind.i64.wrap (2 + y.fst) = 2) then some true
                else
                  bindI
                    (bif decide (IntKind.i64.wrap (2 + y.fst) < (↑(List.length s0) : Int)) then
                      bindI (geti s0 (IntKind.i64.wrap (2 + y.fst))) fun y =>
                        bindI
                          (typecaseref10_in N (↑y.toNat : Int)
                            [UInt8.ofNat 97, UInt8.ofNat 98, UInt8.ofNat 99, UInt8.ofNat 100, UInt8.ofNat 101, UInt8.ofNat 102, UInt8.ofNat 103, UInt8.ofNat 104,
                              UInt8.ofNat 105, UInt8.ofNat 106, UInt8.ofNat 107, UInt8.ofNat 108, UInt8.ofNat 109, UInt8.ofNat 110, UInt8.ofNat 111,
                              UInt8.ofNat 112, UInt8.ofNat 113, UInt8.ofNat 114, UInt8.ofNat 115, UInt8.ofNat 116, UInt8.ofNat 117, UInt8.ofNat 118,
                              UInt8.ofNat 119, UInt8.ofNat 120, UInt8.ofNat 121, UInt8.ofNat 122, UInt8.ofNat 65, UInt8.ofNat 66, UInt8.ofNat 67, UInt8.ofNat 68,
                              UInt8.ofNat 69, UInt8.ofNat 70, UInt8.ofNat 71, UInt8.ofNat 72, UInt8.ofNat 73, UInt8.ofNat 74, UInt8.ofNat 75, UInt8.ofNat 76,
                              UInt8.ofNat 77, UInt8.ofNat 78, UInt8.ofNat 79, UInt8.ofNat 80, UInt8.ofNat 81, UInt8.ofNat 82, UInt8.ofNat 83, UInt8.ofNat 84,
                              UInt8.ofNat 85, UInt8.ofNat 86, UInt8.ofNat 87, UInt8.ofNat 88, UInt8.ofNat 89, UInt8.ofNat 90, UInt8.ofNat 95, UInt8.ofNat 48,
                              UInt8.ofNat 49, UInt8.ofNat 50, UInt8.ofNat 51, UInt8.ofNat 52, UInt8.ofNat 53, UInt8.ofNat 54, UInt8.ofNat 55, UInt8.ofNat 56,
                              UInt8.ofNat 57, UInt8.ofNat 46, UInt8.ofNat 36])
                          fun y => some y.fst
                    else some false)
                    fun y => some y)
                fun y_1 =>
                bif y_1 then some (0, 0, ())
                else
                  bindX (typecaseref10_numeral_L0 N N ((s0, 16, IntKind.i64.wrap (2 + y.fst), 0, 2, ()), ()))
                    (fun y => some (IntKind.u32.wrap y.fst.snd.fst, y.fst.fst, ())) fun y => some (y.fst.fst, y.fst.snd.fst, ())
          else none
    else
      bindI
        (bif decide (1 < (↑(List.length s0) : Int)) then
          bif inC 2 (List.length s0) then some ((List.take (Int.toNat 2) s0).beq [UInt8.ofNat 48, UInt8.ofNat 98]) else none
        else some false)
        fun y =>
        bif y then
          bif inC 2 (List.length s0) then
            bindI (typecaseref10_while N (List.drop (Int.toNat 2) s0) [UInt8.ofNat 48, UInt8.ofNat 49]) fun y =>
              bindI
                (bif decide (IntKind.i64.wrap (2 + y.fst) = 2) then some true
                else
                  bindI
                    (bif decide (IntKind.i64.wrap (2 + y.fst) < (↑(List.length s0) : Int)) then
                      bindI (geti s0 (IntKind.i64.wrap (2 + y.fst))) fun y =>
                        bindI
                          (typecaseref10_in N (↑y.toNat : Int)
                            [UInt8.ofNat 97, UInt8.ofNat 98, UInt8.ofNat 99, UInt8.ofNat 100, UInt8.ofNat 101, UInt8.ofNat 102, UInt8.ofNat 103, UInt8.ofNat 104,
                              UInt8.ofNat 105, UInt8.ofNat 106, UInt8.ofNat 107, UInt8.ofNat 108, UInt8.ofNat 109, UInt8.ofNat 110, UInt8.ofNat 111,
                              UInt8.ofNat 112, UInt8.ofNat 113, UInt8.ofNat 114, UInt8.ofNat 115, UInt8.ofNat 116, UInt8.ofNat 117, UInt8.ofNat 118,
                              UInt8.ofNat 119, UInt8.ofNat 120, UInt8.ofNat 121, UInt8.ofNat 122, UInt8.ofNat 65, UInt8.ofNat 66, UInt8.ofNat 67, UInt8.ofNat 68,
                              UInt8.ofNat 69, UInt8.ofNat 70, UInt8.ofNat 71, UInt8.ofNat 72, UInt8.ofNat 73, UInt8.ofNat 74, UInt8.ofNat 75, UInt8.ofNat 76,
                              UInt8.ofNat 77, UInt8.ofNat 78, UInt8.ofNat 79, UInt8.ofNat 80, UInt8.ofNat 81, UInt8.ofNat 82, UInt8.ofNat 83, UInt8.ofNat 84,
                              UInt8.ofNat 85, UInt8.ofNat 86, UInt8.ofNat 87, UInt8.ofNat 88, UInt8.ofNat 89, UInt8.ofNat 90, UInt8.ofNat 95, UInt8.ofNat 48,
                              UInt8.ofNat 49, UInt8.ofNat 50, UInt8.ofNat 51, UInt8.ofNat 52, UInt8.ofNat 53, UInt8.ofNat 54, UInt8.ofNat 55, UInt8.ofNat 56,
                              UInt8.ofNat 57, UInt8.ofNat 46, UInt8.ofNat 36])
                          fun y => some y.fst
                    else some false)
                    fun y => some y)
                fun y_1 =>
                bif y_1 then some (0, 0, ())
                else
                  bindX (typecaseref10_numeral_L0 N N ((s0, 2, IntKind.i64.wrap (2 + y.fst), 0, 2, ()), ()))
                    (fun y => some (IntKind.u32.wrap y.fst.snd.fst, y.fst.fst, ())) fun y => some (y.fst.fst, y.fst.snd.fst, ())
          else none
        else
          bindI
            (typecaseref10_while N (List.drop (Int.toNat 0) s0)
              [UInt8.ofNat 48, UInt8.ofNat 49, UInt8.ofNat 50, UInt8.ofNat 51, UInt8.ofNat 52, UInt8.ofNat 53, UInt8.ofNat 54, UInt8.ofNat 55, UInt8.ofNat 56,
                UInt8.ofNat 57])
            fun y =>
            bindI
              (bif decide (IntKind.i64.wrap (0 + y.fst) = 0) then some true
              else
                bindI
                  (bif decide (IntKind.i64.wrap (0 + y.fst) < (↑(List.length s0) : Int)) then
                    bindI (geti s0 (IntKind.i64.wrap (0 + y.fst))) fun y =>
                      bindI
                        (typecaseref10_in N (↑y.toNat : Int)
                          [UInt8.ofNat 97, UInt8.ofNat 98, UInt8.ofNat 99, UInt8.ofNat 100, UInt8.ofNat 101, UInt8.ofNat 102, UInt8.ofNat 103, UInt8.ofNat 104,
                            UInt8.ofNat 105, UInt8.ofNat 106, UInt8.ofNat 107, UInt8.ofNat 108, UInt8.ofNat 109, UInt8.ofNat 110, UInt8.ofNat 111,
                            UInt8.ofNat 112, UInt8.ofNat 113, UInt8.ofNat 114, UInt8.ofNat 115, UInt8.ofNat 116, UInt8.ofNat 117, UInt8.ofNat 118,
                            UInt8.ofNat 119, UInt8.ofNat 120, UInt8.ofNat 121, UInt8.ofNat 122, UInt8.ofNat 65, UInt8.ofNat 66, UInt8.ofNat 67, UInt8.ofNat 68,
                            UInt8.ofNat 69, UInt8.ofNat 70, UInt8.ofNat 71, UInt8.ofNat 72, UInt8.ofNat 73, UInt8.ofNat 74, UInt8.ofNat 75, UInt8.ofNat 76,
                            UInt8.ofNat 77, UInt8.ofNat 78, UInt8.ofNat 79, UInt8.ofNat 80, UInt8.ofNat 81, UInt8.ofNat 82, UInt8.ofNat 83, UInt8.ofNat 84,
                            UInt8.ofNat 85, UInt8.ofNat 86, UInt8.ofNat 87, UInt8.ofNat 88, UInt8.ofNat 89, UInt8.ofNat 90, UInt8.ofNat 95, UInt8.ofNat 48,
                            UInt8.ofNat 49, UInt8.ofNat 50, UInt8.ofNat 51, UInt8.ofNat 52, UInt8.ofNat 53, UInt8.ofNat 54, UInt8.ofNat 55, UInt8.ofNat 56,
                            UInt8.ofNat 57, UInt8.ofNat 46, UInt8.ofNat 36])
                        fun y => some y.fst
                  else some false)
                  fun y => some y)
              fun y_1 =>
              bif y_1 then some (0, 0, ())
              else
                bindX (typecaseref10_numeral_L0 N N ((s0, 10, IntKind.i64.wrap (0 + y.fst), 0, 0, ()), ()))
                  (fun y => some (IntKind.u32.wrap y.fst.snd.fst, y.fst.fst, ())) fun y => some (y.fst.fst, y.fst.snd.fst, ())
theorem typecaseref10_numeral_eq (N : Nat) (x : VD [.str]) : runF (typecaseref10_numeral_T1 N) (bodyOf Tryd.f80) [.str] [(.int .u32), (.int .i64)] (Tryd.f80).results.toList x = typecaseref10_numeral N x.1 := by kernel_rfl
def typecaseref10_numeral_e (N : Nat) : Ent := ⟨80, [.str], [(.int .u32), (.int .i64)], fun x => typecaseref10_numeral N x.1⟩
theorem typecaseref10_numeral_ok (N : Nat) : EntOk CC.P CC.gs (typecaseref10_numeral_e N) := (typecaseref10_numeral_T1_ok N).ent (fn := Tryd.f80) Tryd.func80 (by kernel_rfl) (by kernel_rfl) (fun vs w => Tryd.call80 vs w) (fun x => typecaseref10_numeral_eq N x)
def typecaseref10_escape_R : Sh := ⟨[2, 3], [.v (.int .u8), .v (.int .i64)], [], []⟩
noncomputable def typecaseref10_escape_T0 (N : Nat) : Tab := tab 0 57 [typecaseref10_in_e N, typecaseref10_digit_e N] [] [] []
theorem typecaseref10_escape_T0_ok (N : Nat) : TabOk CC 0 57 [typecaseref10_in_e N, typecaseref10_digit_e N] [] [] [] (bodyOf Tryd.f95) := .nil CC_as ⟨typecaseref10_in_ok N, typecaseref10_digit_ok N, trivial⟩ trivial trivial
def typecaseref10_escape_L0i : Sh := ⟨[0, 4, 5, 6], [.v .str, .v .str, .v .str, .v (.int .i64)], [], []⟩
def typecaseref10_escape_L0o : Sh := ⟨[0], [.v .str], [], []⟩
def typecaseref10_escape_L0s (_N : Nat) (s0 : List UInt8) (names4 : List UInt8) (bytes5 : List UInt8) (i6 : Int) (k : LD typecaseref10_escape_L0i.2 × OL typecaseref10_escape_L0i.3 → Option (Ex (LD typecaseref10_escape_L0o.2 × OL typecaseref10_escape_L0o.3) (LD typecaseref10_escape_R.2 × OL typecaseref10_escape_R.3))) : Option (Ex (LD typecaseref10_escape_L0o.2 × OL typecaseref10_escape_L0o.3) (LD typecaseref10_escape_R.2 × OL typecaseref10_escape_R.3)) :=
  bif decide (i6 < (↑(List.length names4) : Int)) then
    bindI (geti s0 1) fun y =>
      bindI (geti names4 i6) fun y_1 =>
        bif decide ((↑y.toNat : Int) = (↑y_1.toNat : Int)) then bindI (geti bytes5 i6) fun y => some (Ex.ret (((↑y.toNat : Int), 2, ()), ()))
        else k ((s0, names4, bytes5, IntKind.i64.wrap (i6 + 1), ()), ())
  else some (Ex.out ((s0, ()), ()))
def typecaseref10_escape_L0 (N : Nat) : Nat → typecaseref10_escape_L0i.D → Option (Ex typecaseref10_escape_L0o.D typecaseref10_escape_R.D) := loopN fun x k => typecaseref10_escape_L0s N x.1.1 x.1.2.1 x.1.2.2.1 x.1.2.2.2.1 k
theorem typecaseref10_escape_L0_succ (N f : Nat) (x : typecaseref10_escape_L0i.D) : typecaseref10_escape_L0 N (f + 1) x = typecaseref10_escape_L0s N x.1.1 x.1.2.1 x.1.2.2.1 x.1.2.2.2.1 (typecaseref10_escape_L0 N f) := rfl
theorem typecaseref10_escape_L0_eq (N : Nat) (x : typecaseref10_escape_L0i.D) (k : typecaseref10_escape_L0i.D → Option (Ex typecaseref10_escape_L0o.D typecaseref10_escape_R.D)) : stepL (typecaseref10_escape_T0 N) typecaseref10_escape_L0i typecaseref10_escape_L0o typecaseref10_escape_R 0 ((subAt (bodyOf Tryd.f95) [0, 0, 1, 0, 1, 1, 1, 1]).getD .skip) [0, 1, 0, 1, 1, 1, 1] x k = typecaseref10_escape_L0s N x.1.1 x.1.2.1 x.1.2.2.1 x.1.2.2.2.1 k := by kernel_rfl
noncomputable def typecaseref10_escape_T1 (N : Nat) : Tab := tab 0 57 [typecaseref10_in_e N, typecaseref10_digit_e N] [] [] [([0, 1, 0, 1, 1, 1, 1], ⟨typecaseref10_escape_L0i, typecaseref10_escape_L0o, typecaseref10_escape_R, 0, typecaseref10_escape_L0 N N⟩)]
theorem typecaseref10_escape_T1_ok (N : Nat) : TabOk CC 0 57 [typecaseref10_in_e N, typecaseref10_digit_e N] [] [] [([0, 1, 0, 1, 1, 1, 1], ⟨typecaseref10_escape_L0i, typecaseref10_escape_L0o, typecaseref10_escape_R, 0, typecaseref10_escape_L0 N N⟩)] (bodyOf Tryd.f95) := (typecaseref10_escape_T0_ok N).snoc (π := [0, 1, 0, 1, 1, 1, 1]) (b := ((subAt (bodyOf Tryd.f95) [0, 0, 1, 0, 1, 1, 1, 1]).getD .skip)) (inn := typecaseref10_escape_L0i) (out := typecaseref10_escape_L0o) (ret := typecaseref10_escape_R) (xid := 0) (n := N) (step := fun x k => typecaseref10_escape_L0s N x.1.1 x.1.2.1 x.1.2.2.1 x.1.2.2.2.1 k) (by kernel_rfl) (fun x k => typecaseref10_escape_L0_eq N x k)
def typecaseref10_escape (N : Nat) (s0 : List UInt8) : Option (Int × Int × PUnit) :=
  bindI (bif decide ((↑(List.length s0) : Int) < 2) then some true else bindI (geti s0 0) fun y => some !decide ((↑y.toNat : Int) = 92)) fun y =>
    bif y then some (0, 0, ())
    else
      bindX
        (typecaseref10_escape_L0 N N
          ((s0, [UInt8.ofNat 110, UInt8.ofNat 116, UInt8.ofNat 114, UInt8.ofNat 48, UInt8.ofNat 92, UInt8.ofNat 39, UInt8.ofNat 34],
              [UInt8.ofNat 10, UInt8.ofNat 9, UInt8.ofNat 13, UInt8.ofNat 0, UInt8.ofNat 92, UInt8.ofNat 39, UInt8.ofNat 34], 0, ()),
            ()))
        (fun y =>
          bindI (geti y.fst.fst 1) fun y_1 =>
            bindI (bif decide ((↑y_1.toNat : Int) = 120) then some (decide (3 < (↑(List.length y.fst.fst) : Int))) else some false) fun y_2 =>
              bindI
                (bif y_2 then
                  bindI (geti y.fst.fst 2) fun y =>
                    bindI
                      (typecaseref10_in N (↑y.toNat : Int)
                        [UInt8.ofNat 48, UInt8.ofNat 49, UInt8.ofNat 50, UInt8.ofNat 51, UInt8.ofNat 52, UInt8.ofNat 53, UInt8.ofNat 54, UInt8.ofNat 55,
                          UInt8.ofNat 56, UInt8.ofNat 57, UInt8.ofNat 97, UInt8.ofNat 98, UInt8.ofNat 99, UInt8.ofNat 100, UInt8.ofNat 101, UInt8.ofNat 102,
                          UInt8.ofNat 65, UInt8.ofNat 66, UInt8.ofNat 67, UInt8.ofNat 68, UInt8.ofNat 69, UInt8.ofNat 70])
                      fun y => some y.fst
                else some false)
                fun y_3 =>
                bindI
                  (bif y_3 then
                    bindI (geti y.fst.fst 3) fun y =>
                      bindI
                        (typecaseref10_in N (↑y.toNat : Int)
                          [UInt8.ofNat 48, UInt8.ofNat 49, UInt8.ofNat 50, UInt8.ofNat 51, UInt8.ofNat 52, UInt8.ofNat 53, UInt8.ofNat 54, UInt8.ofNat 55,
                            UInt8.ofNat 56, UInt8.ofNat 57, UInt8.ofNat 97, UInt8.ofNat 98, UInt8.ofNat 99, UInt8.ofNat 100, UInt8.ofNat 101, UInt8.ofNat 102,
                            UInt8.ofNat 65, UInt8.ofNat 66, UInt8.ofNat 67, UInt8.ofNat 68, UInt8.ofNat 69, UInt8.ofNat 70])
                        fun y => some y.fst
                  else some false)
                  fun y_4 =>
                  bif y_4 then
                    bindI (geti y.fst.fst 2) fun y_5 =>
                      bindI (typecaseref10_digit N (↑y_5.toNat : Int)) fun y_6 =>
                        bindI (geti y.fst.fst 3) fun y =>
                          bindI (typecaseref10_digit N (↑y.toNat : Int)) fun y =>
                            some (IntKind.u8.wrap (IntKind.u64.wrap (IntKind.u64.wrap (y_6.fst * 16) + y.fst)), 4, ())
                  else some (0, 0, ()))
        fun y => some (y.fst.fst, y.fst.snd.fst, ())
theorem typecaseref10_escape_eq (N : Nat) (x : VD [.str]) : runF (typecaseref10_escape_T1 N) (bodyOf Tryd.f95) [.str] [(.int .u8), (.int .i64)] (Tryd.f95).results.toList x = typecaseref10_escape N x.1 := by kernel_rfl
def typecaseref10_escape_e (N : Nat) : Ent := ⟨95, [.str], [(.int .u8), (.int .i64)], fun x => typecaseref10_escape N x.1⟩
theorem typecaseref10_escape_ok (N : Nat) : EntOk CC.P CC.gs (typecaseref10_escape_e N) := (typecaseref10_escape_T1_ok N).ent (fn := Tryd.f95) Tryd.func95 (by kernel_rfl) (by kernel_rfl) (fun vs w => Tryd.call95 vs w) (fun x => typecaseref10_escape_eq N x)
def typecaseref10_quoted_R : Sh := ⟨[4, 5], [.v (.int .u8), .v (.int .i64)], [], []⟩
noncomputable def typecaseref10_quoted_T0 (N : Nat) : Tab := tab 0 36 [typecaseref10_escape_e N] [] [] []
theorem typecaseref10_quoted_T0_ok (N : Nat) : TabOk CC 0 36 [typecaseref10_escape_e N] [] [] [] (bodyOf Tryd.f81) := .nil CC_as ⟨typecaseref10_escape_ok N, trivial⟩ trivial trivial
def typecaseref10_quoted (N : Nat) (s0 : List UInt8) (quote1 : Int) : Option (Int × Int × PUnit) :=
  bindI (bif decide ((↑(List.length s0) : Int) = 0) then some true else bindI (geti s0 0) fun y => some (decide ((↑y.toNat : Int) = quote1))) fun y =>
    bif y then some (0, 0, ())
    else
      bindI (geti s0 0) fun y =>
        bif decide ((↑y.toNat : Int) = 92) then bindI (typecaseref10_escape N s0) fun y => some (y.fst, y.snd.fst, ())
        else
          bindI (geti s0 0) fun y =>
            bindI
              (bif decide (32 ≤ (↑y.toNat : Int)) then some true
              else bindI (geti s0 0) fun y => bindI (bif decide ((↑y.toNat : Int) = 9) then some (decide (quote1 = 34)) else some false) fun y => some y)
              fun y => bif y then bindI (geti s0 0) fun y => some ((↑y.toNat : Int), 1, ()) else some (0, 0, ())
theorem typecaseref10_quoted_eq (N : Nat) (x : VD [.str, (.int .u8)]) : runF (typecaseref10_quoted_T0 N) (bodyOf Tryd.f81) [.str, (.int .u8)] [(.int .u8), (.int .i64)] (Tryd.f81).results.toList x = typecaseref10_quoted N x.1 x.2.1 := by kernel_rfl
def typecaseref10_quoted_e (N : Nat) : Ent := ⟨81, [.str, (.int .u8)], [(.int .u8), (.int .i64)], fun x => typecaseref10_quoted N x.1 x.2.1⟩
theorem typecaseref10_quoted_ok (N : Nat) : EntOk CC.P CC.gs (typecaseref10_quoted_e N) := (typecaseref10_quoted_T0_ok N).ent (fn := Tryd.f81) Tryd.func81 (by kernel_rfl) (by kernel_rfl) (fun vs w => Tryd.call81 vs w) (fun x => typecaseref10_quoted_eq N x)
def typecaseref10_text_R : Sh := ⟨[2, 3], [.v .str, .v (.int .i64)], [], []⟩
noncomputable def typecaseref10_text_T0 (N : Nat) : Tab := tab 0 38 [typecaseref10_quoted_e N] [] [] []
theorem typecaseref10_text_T0_ok (N : Nat) : TabOk CC 0 38 [typecaseref10_quoted_e N] [] [] [] (bodyOf Tryd.f82) := .nil CC_as ⟨typecaseref10_quoted_ok N, trivial⟩ trivial trivial
def typecaseref10_text_L0i : Sh := ⟨[0, 4, 5], [.v .str, .v .str, .v (.int .i64)], [], []⟩
def typecaseref10_text_L0o : Sh := ⟨[0, 4, 5], [.v .str, .v .str, .v (.int .i64)], [], []⟩
def typecaseref10_text_L0s (N : Nat) (s0 : List UInt8) (out4 : List UInt8) (i5 : Int) (k : LD typecaseref10_text_L0i.2 × OL typecaseref10_text_L0i.3 → Option (Ex (LD typecaseref10_text_L0o.2 × OL typecaseref10_text_L0o.3) (LD typecaseref10_text_R.2 × OL typecaseref10_text_R.3))) : Option (Ex (LD typecaseref10_text_L0o.2 × OL typecaseref10_text_L0o.3) (LD typecaseref10_text_R.2 × OL typecaseref10_text_R.3)) :=
  bif inC i5 (List.length s0) then
    bindI (typecaseref10_quoted N (List.drop (Int.toNat i5) s0) 34) fun y =>
      bif decide (y.snd.fst = 0) then some (Ex.out ((s0, out4, i5, ()), ()))
      else
        bif decide ((List.length out4).add (List.length (textOf [y.fst])) ≤ 9223372036854775807) then
          k ((s0, out4 ++ textOf [y.fst], IntKind.i64.wrap (i5 + y.snd.fst), ()), ())
        else none
  else none
def typecaseref10_text_L0 (N : Nat) : Nat → typecaseref10_text_L0i.D → Option (Ex typecaseref10_text_L0o.D typecaseref10_text_R.D) := loopN fun x k => typecaseref10_text_L0s N x.1.1 x.1.2.1 x.1.2.2.1 k
theorem typecaseref10_text_L0_succ (N f : Nat) (x : typecaseref10_text_L0i.D) : typecaseref10_text_L0 N (f + 1) x = typecaseref10_text_L0s N x.1.1 x.1.2.1 x.1.2.2.1 (typecaseref10_text_L0 N f) := rfl
theorem typecaseref10_text_L0_eq (N : Nat) (x : typecaseref10_text_L0i.D) (k : typecaseref10_text_L0i.D → Option (Ex typecaseref10_text_L0o.D typecaseref10_text_R.D)) : stepL (typecaseref10_text_T0 N) typecaseref10_text_L0i typecaseref10_text_L0o typecaseref10_text_R 0 ((subAt (bodyOf Tryd.f82) [0, 0, 0, 1, 1, 1]).getD .skip) [0, 0, 1, 1, 1] x k = typecaseref10_text_L0s N x.1.1 x.1.2.1 x.1.2.2.1 k := by kernel_rfl
noncomputable def typecaseref10_text_T1 (N : Nat) : Tab := tab 0 38 [typecaseref10_quoted_e N] [] [] [([0, 0, 1, 1, 1], ⟨typecaseref10_text_L0i, typecaseref10_text_L0o, typecaseref10_text_R, 0, typecaseref10_text_L0 N N⟩)]
theorem typecaseref10_text_T1_ok (N : Nat) : TabOk CC 0 38 [typecaseref10_quoted_e N] [] [] [([0, 0, 1, 1, 1], ⟨typecaseref10_text_L0i, typecaseref10_text_L0o, typecaseref10_text_R, 0, typecaseref10_text_L0 N N⟩)] (bodyOf Tryd.f82) := (typecaseref10_text_T0_ok N).snoc (π := [0, 0, 1, 1, 1]) (b := ((subAt (bodyOf Tryd.f82) [0, 0, 0, 1, 1, 1]).getD .skip)) (inn := typecaseref10_text_L0i) (out := typecaseref10_text_L0o) (ret := typecaseref10_text_R) (xid := 0) (n := N) (step := fun x k => typecaseref10_text_L0s N x.1.1 x.1.2.1 x.1.2.2.1 k) (by kernel_rfl) (fun x k => typecaseref10_text_L0_eq N x k)
def typecaseref10_text (N : Nat) (s0 : List UInt8) : Option (List UInt8 × Int × PUnit) :=
  bindX (typecaseref10_text_L0 N N ((s0, [], 1, ()), ()))
    (fun y =>
      bindI
        (bif decide (y.fst.snd.snd.fst < (↑(List.length y.fst.fst) : Int)) then
          bindI (geti y.fst.fst y.fst.snd.snd.fst) fun y => some (decide ((↑y.toNat : Int) = 34))
        else some false)
        fun y_1 => bif y_1 then some (y.fst.snd.fst, IntKind.i64.wrap (y.fst.snd.snd.fst + 1), ()) else some ([], 0, ()))
    fun y => some (y.fst.fst, y.fst.snd.fst, ())
theorem typecaseref10_text_eq (N : Nat) (x : VD [.str]) : runF (typecaseref10_text_T1 N) (bodyOf Tryd.f82) [.str] [.str, (.int .i64)] (Tryd.f82).results.toList x = typecaseref10_text N x.1 := by kernel_rfl
def typecaseref10_text_e (N : Nat) : Ent := ⟨82, [.str], [.str, (.int .i64)], fun x => typecaseref10_text N x.1⟩
theorem typecaseref10_text_ok (N : Nat) : EntOk CC.P CC.gs (typecaseref10_text_e N) := (typecaseref10_text_T1_ok N).ent (fn := Tryd.f82) Tryd.func82 (by kernel_rfl) (by kernel_rfl) (fun vs w => Tryd.call82 vs w) (fun x => typecaseref10_text_eq N x)
def typecaseref10_token_R : Sh := ⟨[2, 3, 4], [.r (.ptr 0 0), .v (.int .i64), .v (.int .i64)], [.box [.v .tok]], []⟩
noncomputable def typecaseref10_token_T0 (N : Nat) : Tab := tab 0 154 [typecaseref10_in_e N, typecaseref10_while_e N, typecaseref10_numeral_e N, typecaseref10_quoted_e N, typecaseref10_text_e N] [] [] []
theorem typecaseref10_token_T0_ok (N : Nat) : TabOk CC 0 154 [typecaseref10_in_e N, typecaseref10_while_e N, typecaseref10_numeral_e N, typecaseref10_quoted_e N, typecaseref10_text_e N] [] [] [] (bodyOf Tryd.f66) := .nil CC_as ⟨typecaseref10_in_ok N, typecaseref10_while_ok N, typecaseref10_numeral_ok N, typecaseref10_quoted_ok N, typecaseref10_text_ok N, trivial⟩ trivial trivial
def typecaseref10_token (N : Nat) (s0 : List UInt8) : Option (Tok × Int × Int × PUnit) :=
  bindI (geti s0 0) fun y =>
    bif inC 1 (List.length s0) then
      bindI
        (typecaseref10_in N (↑y.toNat : Int)
          [UInt8.ofNat 97, UInt8.ofNat 98, UInt8.ofNat 99, UInt8.ofNat 100, UInt8.ofNat 101, UInt8.ofNat 102, UInt8.ofNat 103, UInt8.ofNat 104, UInt8.ofNat 105,
            UInt8.ofNat 106, UInt8.ofNat 107, UInt8.ofNat 108, UInt8.ofNat 109, UInt8.ofNat 110, UInt8.ofNat 111, UInt8.ofNat 112, UInt8.ofNat 113,
            UInt8.ofNat 114, UInt8.ofNat 115, UInt8.ofNat 116, UInt8.ofNat 117, UInt8.ofNat 118, UInt8.ofNat 119, UInt8.ofNat 120, UInt8.ofNat 121,
            UInt8.ofNat 122, UInt8.ofNat 65, UInt8.ofNat 66, UInt8.ofNat 67, UInt8.ofNat 68, UInt8.ofNat 69, UInt8.ofNat 70, UInt8.ofNat 71, UInt8.ofNat 72,
            UInt8.ofNat 73, UInt8.ofNat 74, UInt8.ofNat 75, UInt8.ofNat 76, UInt8.ofNat 77, UInt8.ofNat 78, UInt8.ofNat 79, UInt8.ofNat 80, UInt8.ofNat 81,
            UInt8.ofNat 82, UInt8.ofNat 83, UInt8.ofNat 84, UInt8.ofNat 85, UInt8.ofNat 86, UInt8.ofNat 87, UInt8.ofNat 88, UInt8.ofNat 89, UInt8.ofNat 90,
            UInt8.ofNat 95, UInt8.ofNat 46])
        fun y_1 =>
        bif y_1.fst then
          bindI
            (typecaseref10_while N s0
              [UInt8.ofNat 97, UInt8.ofNat 98, UInt8.ofNat 99, UInt8.ofNat 100, UInt8.ofNat 101, UInt8.ofNat 102, UInt8.ofNat 103, UInt8.ofNat 104,
                UInt8.ofNat 105, UInt8.ofNat 106, UInt8.ofNat 107, UInt8.ofNat 108, UInt8.ofNat 109, UInt8.ofNat 110, UInt8.ofNat 111, UInt8.ofNat 112,
                UInt8.ofNat 113, UInt8.ofNat 114, UInt8.ofNat 115, UInt8.ofNat 116, UInt8.ofNat 117, UInt8.ofNat 118, UInt8.ofNat 119, UInt8.ofNat 120,
                UInt8.ofNat 121, UInt8.ofNat 122, UInt8.ofNat 65, UInt8.ofNat 66, UInt8.ofNat 67, UInt8.ofNat 68, UInt8.ofNat 69, UInt8.ofNat 70, UInt8.ofNat 71,
                UInt8.ofNat 72, UInt8.ofNat 73, UInt8.ofNat 74, UInt8.ofNat 75, UInt8.ofNat 76, UInt8.ofNat 77, UInt8.ofNat 78, UInt8.ofNat 79, UInt8.ofNat 80,
                UInt8.ofNat 81, UInt8.ofNat 82, UInt8.ofNat 83, UInt8.ofNat 84, UInt8.ofNat 85, UInt8.ofNat 86, UInt8.ofNat 87, UInt8.ofNat 88, UInt8.ofNat 89,
                UInt8.ofNat 90, UInt8.ofNat 95, UInt8.ofNat 48, UInt8.ofNat 49, UInt8.ofNat 50, UInt8.ofNat 51, UInt8.ofNat 52, UInt8.ofNat 53, UInt8.ofNat 54,
                UInt8.ofNat 55, UInt8.ofNat 56, UInt8.ofNat 57, UInt8.ofNat 46, UInt8.ofNat 36])
            fun y =>
            bif inC y.fst (List.length s0) then
              some ({ kind := 1, line := 0, col := 0, text := List.take (Int.toNat y.fst) s0, num := 0, scope := 0 : Tok }, y.fst, 0, ())
            else none
        else
          bindI
            (typecaseref10_in N (↑y.toNat : Int)
              [UInt8.ofNat 48, UInt8.ofNat 49, UInt8.ofNat 50, UInt8.ofNat 51, UInt8.ofNat 52, UInt8.ofNat 53, UInt8.ofNat 54, UInt8.ofNat 55, UInt8.ofNat 56,
                UInt8.ofNat 57])
            fun y_2 =>
            bif y_2.fst then
              bindI (typecaseref10_numeral N s0) fun y => some ({ kind := 5, line := 0, col := 0, text := [], num := y.fst, scope := 0 : Tok }, y.snd.fst, 3, ())
            else
              bif decide ((↑y.toNat : Int) = 39) then
                bindI (typecaseref10_quoted N (List.drop (Int.toNat 1) s0) 39) fun y =>
                  bindI (bif decide (0 < y.snd.fst) then some (decide (y.snd.fst < (↑(List.drop (Int.toNat 1) s0).length : Int))) else some false) fun y_3 =>
                    bindI (bif y_3 then bindI (geti (List.drop (Int.toNat 1) s0) y.snd.fst) fun y => some (decide ((↑y.toNat : Int) = 39)) else some false)
                      fun y_4 =>
                      bif y_4 then
                        some
                          ({ kind := 5, line := 0, col := 0, text := [], num := IntKind.u32.wrap y.fst, scope := 0 : Tok }, IntKind.i64.wrap (y.snd.fst + 2), 0,
                            ())
                      else some ({ kind := 0, line := 0, col := 0, text := [], num := 0, scope := 0 : Tok }, 0, 3, ())
              else
                bif decide ((↑y.toNat : Int) = 34) then
                  bindI (typecaseref10_text N s0) fun y => some ({ kind := 6, line := 0, col := 0, text := y.fst, num := 0, scope := 0 : Tok }, y.snd.fst, 4, ())
                else
                  bindI
                    (typecaseref10_while N (List.drop (Int.toNat 1) s0)
                      [UInt8.ofNat 97, UInt8.ofNat 98, UInt8.ofNat 99, UInt8.ofNat 100, UInt8.ofNat 101, UInt8.ofNat 102, UInt8.ofNat 103, UInt8.ofNat 104,
                        UInt8.ofNat 105, UInt8.ofNat 106, UInt8.ofNat 107, UInt8.ofNat 108, UInt8.ofNat 109, UInt8.ofNat 110, UInt8.ofNat 111, UInt8.ofNat 112,
                        UInt8.ofNat 113, UInt8.ofNat 114, UInt8.ofNat 115, UInt8.ofNat 116, UInt8.ofNat 117, UInt8.ofNat 118, UInt8.ofNat 119, UInt8.ofNat 120,
                        UInt8.ofNat 121, UInt8.ofNat 122, UInt8.ofNat 65, UInt8.ofNat 66, UInt8.ofNat 67, UInt8.ofNat 68, UInt8.ofNat 69, UInt8.ofNat 70,
                        UInt8.ofNat 71, UInt8.ofNat 72, UInt8.ofNat 73, UInt8.ofNat 74, UInt8.ofNat 75, UInt8.ofNat 76, UInt8.ofNat 77, UInt8.ofNat 78,
                        UInt8.ofNat 79, UInt8.ofNat 80, UInt8.ofNat 81, UInt8.ofNat 82, UInt8.ofNat 83, UInt8.ofNat 84, UInt8.ofNat 85, UInt8.ofNat 86,
                        UInt8.ofNat 87, UInt8.ofNat 88, UInt8.ofNat 89, UInt8.ofNat 90, UInt8.ofNat 95, UInt8.ofNat 48, UInt8.ofNat 49, UInt8.ofNat 50,
                        UInt8.ofNat 51, UInt8.ofNat 52, UInt8.ofNat 53, UInt8.ofNat 54, UInt8.ofNat 55, UInt8.ofNat 56, UInt8.ofNat 57])
                    fun y_3 =>
                    bindI
                      (bif decide ((↑y.toNat : Int) = 37) then
                        bif inC y_3.fst (List.drop (Int.toNat 1) s0).length then
                          bindI
                            (bif (List.take (Int.toNat y_3.fst) (List.drop (Int.toNat 1) s0)).beq [UInt8.ofNat 104, UInt8.ofNat 105] then some true
                            else
                              bif inC y_3.fst (List.drop (Int.toNat 1) s0).length then
                                some ((List.take (Int.toNat y_3.fst) (List.drop (Int.toNat 1) s0)).beq [UInt8.ofNat 108, UInt8.ofNat 111])
                              else none)
                            fun y =>
                            bindI
                              (bif y then some true
                              else
                                bif inC y_3.fst (List.drop (Int.toNat 1) s0).length then
                                  some
                                    ((List.take (Int.toNat y_3.fst) (List.drop (Int.toNat 1) s0)).beq
                                      [UInt8.ofNat 112, UInt8.ofNat 99, UInt8.ofNat 114, UInt8.ofNat 101, UInt8.ofNat 108])
                                else none)
                              fun y => some y
                        else none
                      else some false)
                      fun y_4 =>
                      bif y_4 then
                        bif inC y_3.fst (List.drop (Int.toNat 1) s0).length then
                          some
                            ({ kind := 4, line := 0, col := 0, text := List.take (Int.toNat y_3.fst) (List.drop (Int.toNat 1) s0), num := 0, scope := 0 : Tok },
                              IntKind.i64.wrap (y_3.fst + 1), 0, ())
                        else none
                      else
                        bindI (bif decide ((↑y.toNat : Int) = 64) then some true else some (decide ((↑y.toNat : Int) = 92))) fun y_5 =>
                          bindI (bif y_5 then some (decide (0 < y_3.fst)) else some false) fun y_6 =>
                            bindI
                              (bif y_6 then
                                bindI (geti (List.drop (Int.toNat 1) s0) 0) fun y =>
                                  bindI
                                    (typecaseref10_in N (↑y.toNat : Int)
                                      [UInt8.ofNat 97, UInt8.ofNat 98, UInt8.ofNat 99, UInt8.ofNat 100, UInt8.ofNat 101, UInt8.ofNat 102, UInt8.ofNat 103,
                                        UInt8.ofNat 104, UInt8.ofNat 105, UInt8.ofNat 106, UInt8.ofNat 107, UInt8.ofNat 108, UInt8.ofNat 109, UInt8.ofNat 110,
                                        UInt8.ofNat 111, UInt8.ofNat 112, UInt8.ofNat 113, UInt8.ofNat 114, UInt8.ofNat 115, UInt8.ofNat 116, UInt8.ofNat 117,
                                        UInt8.ofNat 118, UInt8.ofNat 119, UInt8.ofNat 120, UInt8.ofNat 121, UInt8.ofNat 122, UInt8.ofNat 65, UInt8.ofNat 66,
                                        UInt8.ofNat 67, UInt8.ofNat 68, UInt8.ofNat 69, UInt8.ofNat 70, UInt8.ofNat 71, UInt8.ofNat 72, UInt8.ofNat 73,
                                        UInt8.ofNat 74, UInt8.ofNat 75, UInt8.ofNat 76, UInt8.ofNat 77, UInt8.ofNat 78, UInt8.ofNat 79, UInt8.ofNat 80,
                                        UInt8.ofNat 81, UInt8.ofNat 82, UInt8.ofNat 83, UInt8.ofNat 84, UInt8.ofNat 85, UInt8.ofNat 86, UInt8.ofNat 87,
                                        UInt8.ofNat 88, UInt8.ofNat 89, UInt8.ofNat 90, UInt8.ofNat 95])
                                    fun y => some y.fst
                              else some false)
                              fun y_7 =>
                              bif y_7 then
                                bif decide ((↑y.toNat : Int) = 92) then
                                  bif inC y_3.fst (List.drop (Int.toNat 1) s0).length then
                                    some
                                      ({ kind := 3, line := 0, col := 0, text := List.take (Int.toNat y_3.fst) (List.drop (Int.toNat 1) s0), num := 0,
                                          scope := 0 : Tok },
                                        IntKind.i64.wrap (y_3.fst + 1), 0, ())
                                  else none
                                else
                                  bif inC y_3.fst (List.drop (Int.toNat 1) s0).length then
                                    some
                                      ({ kind := 2, line := 0, col := 0, text := List.take (Int.toNat y_3.fst) (List.drop (Int.toNat 1) s0), num := 0,
                                          scope := 0 : Tok },
                                        IntKind.i64.wrap (y_3.fst + 1), 0, ())
                                  else none
                              else
                                bindI
                                  (bif decide (1 < (↑(List.length s0) : Int)) then
                                    bif inC 2 (List.length s0) then
                                      bindI
                                        (bif (List.take (Int.toNat 2) s0).beq [UInt8.ofNat 60, UInt8.ofNat 60] then some true
                                        else bif inC 2 (List.length s0) then some ((List.take (Int.toNat 2) s0).beq [UInt8.ofNat 62, UInt8.ofNat 62]) else none)
                                        fun y => some y
                                    else none
                                  else some false)
                                  fun y_8 =>
                                  bif y_8 then
                                    bif inC 2 (List.length s0) then
                                      some ({ kind := 7, line := 0, col := 0, text := List.take (Int.toNat 2) s0, num := 0, scope := 0 : Tok }, 2, 0, ())
                                    else none
                                  else
                                    bindI
                                      (typecaseref10_in N (↑y.toNat : Int)
                                        [UInt8.ofNat 44, UInt8.ofNat 58, UInt8.ofNat 40, UInt8.ofNat 41, UInt8.ofNat 43, UInt8.ofNat 45, UInt8.ofNat 42,
                                          UInt8.ofNat 47, UInt8.ofNat 38, UInt8.ofNat 124, UInt8.ofNat 94, UInt8.ofNat 126, UInt8.ofNat 61])
                                      fun y =>
                                      bif y.fst then
                                        bif inC 1 (List.length s0) then
                                          some ({ kind := 7, line := 0, col := 0, text := List.take (Int.toNat 1) s0, num := 0, scope := 0 : Tok }, 1, 0, ())
                                        else none
                                      else some ({ kind := 0, line := 0, col := 0, text := [], num := 0, scope := 0 : Tok }, 0, 2, ())
    else none
theorem typecaseref10_token_eq (N : Nat) (x : VD [.str]) : runF (typecaseref10_token_T0 N) (bodyOf Tryd.f66) [.str] [.tok, (.int .i64), (.int .i64)] (Tryd.f66).results.toList x = typecaseref10_token N x.1 := by kernel_rfl
def typecaseref10_token_e (N : Nat) : Ent := ⟨66, [.str], [.tok, (.int .i64), (.int .i64)], fun x => typecaseref10_token N x.1⟩
theorem typecaseref10_token_ok (N : Nat) : EntOk CC.P CC.gs (typecaseref10_token_e N) := (typecaseref10_token_T0_ok N).ent (fn := Tryd.f66) Tryd.func66 (by kernel_rfl) (by kernel_rfl) (fun vs w => Tryd.call66 vs w) (fun x => typecaseref10_token_eq N x)
def typecaseref10_line_R : Sh := ⟨[4, 5], [.v (.slice .tok), .r (.ptr 0 0)], [.box [.v (.pair (.int .i64) (.pair (.int .i64) (.int .i64)))]], []⟩
noncomputable def typecaseref10_line_T0 (N : Nat) : Tab := tab 0 54 [typecaseref10_in_e N, typecaseref10_token_e N] [] [] []
theorem typecaseref10_line_T0_ok (N : Nat) : TabOk CC 0 54 [typecaseref10_in_e N, typecaseref10_token_e N] [] [] [] (bodyOf Tryd.f43) := .nil CC_as ⟨typecaseref10_in_ok N, typecaseref10_token_ok N, trivial⟩ trivial trivial
def typecaseref10_line_L0i : Sh := ⟨[0, 1, 5, 6, 7], [.v .str, .v (.int .i64), .r (.ptr 0 0), .r (.row 1), .v (.int .i64)], [.box [.v (.pair (.int .i64) (.pair (.int .i64) (.int .i64)))], .row .tok], [.tmp 6 .tok]⟩
def typecaseref10_line_L0o : Sh := ⟨[5, 6], [.r (.ptr 0 0), .r (.row 1)], [.box [.v (.pair (.int .i64) (.pair (.int .i64) (.int .i64)))], .row .tok], [.tmp 6 .tok]⟩
def typecaseref10_line_L0s (N : Nat) (s0 : List UInt8) (number1 : Int) (i7 : Int) (x5 : (Int × Int × Int) × PUnit) (out6 : List Tok) (k : LD typecaseref10_line_L0i.2 × OL typecaseref10_line_L0i.3 → Option (Ex (LD typecaseref10_line_L0o.2 × OL typecaseref10_line_L0o.3) (LD typecaseref10_line_R.2 × OL typecaseref10_line_R.3))) : Option (Ex (LD typecaseref10_line_L0o.2 × OL typecaseref10_line_L0o.3) (LD typecaseref10_line_R.2 × OL typecaseref10_line_R.3)) :=
  bif decide (i7 < (↑(List.length s0) : Int)) then
    bindI (geti s0 i7) fun y =>
      bindI (typecaseref10_in N (↑y.toNat : Int) [UInt8.ofNat 32, UInt8.ofNat 9, UInt8.ofNat 13]) fun y_1 =>
        bif y_1.fst then k ((s0, number1, IntKind.i64.wrap (i7 + 1), ()), ((x5.fst.fst, x5.fst.snd.fst, x5.fst.snd.snd), ()), out6, ())
        else
          bindI (geti s0 i7) fun y_2 =>
            bif decide ((↑y_2.toNat : Int) = 35) then some (Ex.out ((), ((x5.fst.fst, x5.fst.snd.fst, x5.fst.snd.snd), ()), out6, ()))
            else
              bif inC i7 (List.length s0) then
                bindI (typecaseref10_token N (List.drop (Int.toNat i7) s0)) fun y_3 =>
                  bif decide (y_3.snd.fst = 0) then some (Ex.ret (([], ()), ((number1, IntKind.i64.wrap (i7 + 1), y_3.snd.snd.fst), ()), ()))
                  else
                    bif
                        (out6 ++
                                [{ kind := y_3.fst.kind, line := number1, col := IntKind.i64.wrap (i7 + 1), text := y_3.fst.text, num := y_3.fst.num,
                                    scope := y_3.fst.scope : Tok }]).length.ble
                          4294967296 then
                      k
                        ((s0, number1, IntKind.i64.wrap (i7 + y_3.snd.fst), ()), ((x5.fst.fst, x5.fst.snd.fst, x5.fst.snd.snd), ()),
                          out6 ++
                            [{ kind := y_3.fst.kind, line := number1, col := IntKind.i64.wrap (i7 + 1), text := y_3.fst.text, num := y_3.fst.num,
                                scope := y_3.fst.scope : Tok }],
                          ())
                    else none
              else none
  else some (Ex.out ((), ((x5.fst.fst, x5.fst.snd.fst, x5.fst.snd.snd), ()), out6, ()))
def typecaseref10_line_L0 (N : Nat) : Nat → typecaseref10_line_L0i.D → Option (Ex typecaseref10_line_L0o.D typecaseref10_line_R.D) := loopN fun x k => typecaseref10_line_L0s N x.1.1 x.1.2.1 x.1.2.2.1 x.2.1 x.2.2.1 k
theorem typecaseref10_line_L0_succ (N f : Nat) (x : typecaseref10_line_L0i.D) : typecaseref10_line_L0 N (f + 1) x = typecaseref10_line_L0s N x.1.1 x.1.2.1 x.1.2.2.1 x.2.1 x.2.2.1 (typecaseref10_line_L0 N f) := rfl
theorem typecaseref10_line_L0_eq (N : Nat) (x : typecaseref10_line_L0i.D) (k : typecaseref10_line_L0i.D → Option (Ex typecaseref10_line_L0o.D typecaseref10_line_R.D)) : stepL (typecaseref10_line_T0 N) typecaseref10_line_L0i typecaseref10_line_L0o typecaseref10_line_R 0 ((subAt (bodyOf Tryd.f43) [0, 0, 1, 0, 1, 1]).getD .skip) [0, 1, 0, 1, 1] x k = typecaseref10_line_L0s N x.1.1 x.1.2.1 x.1.2.2.1 x.2.1 x.2.2.1 k := by kernel_rfl
noncomputable def typecaseref10_line_T1 (N : Nat) : Tab := tab 0 54 [typecaseref10_in_e N, typecaseref10_token_e N] [] [] [([0, 1, 0, 1, 1], ⟨typecaseref10_line_L0i, typecaseref10_line_L0o, typecaseref10_line_R, 0, typecaseref10_line_L0 N N⟩)]
theorem typecaseref10_line_T1_ok (N : Nat) : TabOk CC 0 54 [typecaseref10_in_e N, typecaseref10_token_e N] [] [] [([0, 1, 0, 1, 1], ⟨typecaseref10_line_L0i, typecaseref10_line_L0o, typecaseref10_line_R, 0, typecaseref10_line_L0 N N⟩)] (bodyOf Tryd.f43) := (typecaseref10_line_T0_ok N).snoc (π := [0, 1, 0, 1, 1]) (b := ((subAt (bodyOf Tryd.f43) [0, 0, 1, 0, 1, 1]).getD .skip)) (inn := typecaseref10_line_L0i) (out := typecaseref10_line_L0o) (ret := typecaseref10_line_R) (xid := 0) (n := N) (step := fun x k => typecaseref10_line_L0s N x.1.1 x.1.2.1 x.1.2.2.1 x.2.1 x.2.2.1 k) (by kernel_rfl) (fun x k => typecaseref10_line_L0_eq N x k)
def typecaseref10_line (N : Nat) (s0 : List UInt8) (number1 : Int) : Option (List Tok × (Int × Int × Int) × PUnit) :=
  bindX (typecaseref10_line_L0 N N ((s0, number1, 0, ()), ((0, 0, 0), ()), [], ())) (fun y => some (y.snd.snd.fst, (0, 0, 0), ())) fun y =>
    some (y.fst.fst, (y.snd.fst.fst.fst, y.snd.fst.fst.snd.fst, y.snd.fst.fst.snd.snd), ())
theorem typecaseref10_line_eq (N : Nat) (x : VD [.str, (.int .i64)]) : runF (typecaseref10_line_T1 N) (bodyOf Tryd.f43) [.str, (.int .i64)] [(.slice .tok), (.pair (.int .i64) (.pair (.int .i64) (.int .i64)))] (Tryd.f43).results.toList x = typecaseref10_line N x.1 x.2.1 := by kernel_rfl
def typecaseref10_line_e (N : Nat) : Ent := ⟨43, [.str, (.int .i64)], [(.slice .tok), (.pair (.int .i64) (.pair (.int .i64) (.int .i64)))], fun x => typecaseref10_line N x.1 x.2.1⟩
theorem typecaseref10_line_ok (N : Nat) : EntOk CC.P CC.gs (typecaseref10_line_e N) := (typecaseref10_line_T1_ok N).ent (fn := Tryd.f43) Tryd.func43 (by kernel_rfl) (by kernel_rfl) (fun vs w => Tryd.call43 vs w) (fun x => typecaseref10_line_eq N x)
def typecaseref10_Lines_R : Sh := ⟨[2, 3], [.v (.slice (.slice .tok)), .r (.ptr 0 0)], [.box [.v (.pair (.int .i64) (.pair (.int .i64) (.int .i64)))]], []⟩
noncomputable def typecaseref10_Lines_T0 (N : Nat) : Tab := tab 0 54 [typecaseref10_line_e N] [] [] []
theorem typecaseref10_Lines_T0_ok (N : Nat) : TabOk CC 0 54 [typecaseref10_line_e N] [] [] [] (bodyOf Tryd.f28) := .nil CC_as ⟨typecaseref10_line_ok N, trivial⟩ trivial trivial
def typecaseref10_Lines_L0i : Sh := ⟨[0, 3, 4, 5, 6], [.v (.slice (.int .u8)), .r (.ptr 0 0), .r (.row 1), .v (.int .i64), .v (.int .i64)], [.box [.v (.pair (.int .i64) (.pair (.int .i64) (.int .i64)))], .row (.slice .tok)], [.tmp 4 (.slice .tok)]⟩
def typecaseref10_Lines_L0o : Sh := ⟨[3, 4], [.r (.ptr 0 0), .r (.row 1)], [.box [.v (.pair (.int .i64) (.pair (.int .i64) (.int .i64)))], .row (.slice .tok)], [.tmp 4 (.slice .tok)]⟩
def typecaseref10_Lines_L0s (N : Nat) (src0 : List Int) (from5 : Int) (i6 : Int) (x3 : (Int × Int × Int) × PUnit) (out4 : List (List Tok)) (k : LD typecaseref10_Lines_L0i.2 × OL typecaseref10_Lines_L0i.3 → Option (Ex (LD typecaseref10_Lines_L0o.2 × OL typecaseref10_Lines_L0o.3) (LD typecaseref10_Lines_R.2 × OL typecaseref10_Lines_R.3))) : Option (Ex (LD typecaseref10_Lines_L0o.2 × OL typecaseref10_Lines_L0o.3) (LD typecaseref10_Lines_R.2 × OL typecaseref10_Lines_R.3)) :=
  bif decide (i6 ≤ (↑(List.length src0) : Int)) then
    bindI (bif decide (i6 < (↑(List.length src0) : Int)) then bindI (geti src0 i6) fun y => some !decide (y = 10) else some false) fun y =>
      bif y then k ((src0, from5, IntKind.i64.wrap (i6 + 1), ()), ((x3.fst.fst, x3.fst.snd.fst, x3.fst.snd.snd), ()), out4, ())
      else
        bif decide (0 ≤ from5) && decide (from5 ≤ i6) && decide (i6 ≤ (↑(List.length src0) : Int)) then
          bindI (typecaseref10_line N (textOf (List.drop (Int.toNat from5) (List.take (Int.toNat i6) src0))) (IntKind.i64.wrap ((↑out4.length : Int) + 1)))
            fun y =>
            bif decide (0 < y.snd.fst.snd.snd) then some (Ex.ret (([], ()), ((y.snd.fst.fst, y.snd.fst.snd.fst, y.snd.fst.snd.snd), ()), ()))
            else
              bif (out4 ++ [y.fst]).length.ble 4294967296 then
                k ((src0, IntKind.i64.wrap (i6 + 1), IntKind.i64.wrap (i6 + 1), ()), ((x3.fst.fst, x3.fst.snd.fst, x3.fst.snd.snd), ()), out4 ++ [y.fst], ())
              else none
        else none
  else some (Ex.out ((), ((x3.fst.fst, x3.fst.snd.fst, x3.fst.snd.snd), ()), out4, ()))
def typecaseref10_Lines_L0 (N : Nat) : Nat → typecaseref10_Lines_L0i.D → Option (Ex typecaseref10_Lines_L0o.D typecaseref10_Lines_R.D) := loopN fun x k => typecaseref10_Lines_L0s N x.1.1 x.1.2.1 x.1.2.2.1 x.2.1 x.2.2.1 k
theorem typecaseref10_Lines_L0_succ (N f : Nat) (x : typecaseref10_Lines_L0i.D) : typecaseref10_Lines_L0 N (f + 1) x = typecaseref10_Lines_L0s N x.1.1 x.1.2.1 x.1.2.2.1 x.2.1 x.2.2.1 (typecaseref10_Lines_L0 N f) := rfl
theorem typecaseref10_Lines_L0_eq (N : Nat) (x : typecaseref10_Lines_L0i.D) (k : typecaseref10_Lines_L0i.D → Option (Ex typecaseref10_Lines_L0o.D typecaseref10_Lines_R.D)) : stepL (typecaseref10_Lines_T0 N) typecaseref10_Lines_L0i typecaseref10_Lines_L0o typecaseref10_Lines_R 0 ((subAt (bodyOf Tryd.f28) [0, 0, 1, 0, 1, 1, 1, 1]).getD .skip) [0, 1, 0, 1, 1, 1, 1] x k = typecaseref10_Lines_L0s N x.1.1 x.1.2.1 x.1.2.2.1 x.2.1 x.2.2.1 k := by kernel_rfl
noncomputable def typecaseref10_Lines_T1 (N : Nat) : Tab := tab 0 54 [typecaseref10_line_e N] [] [] [([0, 1, 0, 1, 1, 1, 1], ⟨typecaseref10_Lines_L0i, typecaseref10_Lines_L0o, typecaseref10_Lines_R, 0, typecaseref10_Lines_L0 N N⟩)]
theorem typecaseref10_Lines_T1_ok (N : Nat) : TabOk CC 0 54 [typecaseref10_line_e N] [] [] [([0, 1, 0, 1, 1, 1, 1], ⟨typecaseref10_Lines_L0i, typecaseref10_Lines_L0o, typecaseref10_Lines_R, 0, typecaseref10_Lines_L0 N N⟩)] (bodyOf Tryd.f28) := (typecaseref10_Lines_T0_ok N).snoc (π := [0, 1, 0, 1, 1, 1, 1]) (b := ((subAt (bodyOf Tryd.f28) [0, 0, 1, 0, 1, 1, 1, 1]).getD .skip)) (inn := typecaseref10_Lines_L0i) (out := typecaseref10_Lines_L0o) (ret := typecaseref10_Lines_R) (xid := 0) (n := N) (step := fun x k => typecaseref10_Lines_L0s N x.1.1 x.1.2.1 x.1.2.2.1 x.2.1 x.2.2.1 k) (by kernel_rfl) (fun x k => typecaseref10_Lines_L0_eq N x k)
def typecaseref10_Lines (N : Nat) (src0 : List Int) : Option (List (List Tok) × (Int × Int × Int) × PUnit) :=
  bif decide (65536 < (↑(List.length src0) : Int)) then some ([], (1, 1, 12), ())
  else
    bindX (typecaseref10_Lines_L0 N N ((src0, 0, 0, ()), ((0, 0, 0), ()), [], ())) (fun y => some (y.snd.snd.fst, (0, 0, 0), ())) fun y =>
      some (y.fst.fst, (y.snd.fst.fst.fst, y.snd.fst.fst.snd.fst, y.snd.fst.fst.snd.snd), ())
theorem typecaseref10_Lines_eq (N : Nat) (x : VD [(.slice (.int .u8))]) : runF (typecaseref10_Lines_T1 N) (bodyOf Tryd.f28) [(.slice (.int .u8))] [(.slice (.slice .tok)), (.pair (.int .i64) (.pair (.int .i64) (.int .i64)))] (Tryd.f28).results.toList x = typecaseref10_Lines N x.1 := by kernel_rfl
def typecaseref10_Lines_e (N : Nat) : Ent := ⟨28, [(.slice (.int .u8))], [(.slice (.slice .tok)), (.pair (.int .i64) (.pair (.int .i64) (.int .i64)))], fun x => typecaseref10_Lines N x.1⟩
theorem typecaseref10_Lines_ok (N : Nat) : EntOk CC.P CC.gs (typecaseref10_Lines_e N) := (typecaseref10_Lines_T1_ok N).ent (fn := Tryd.f28) Tryd.func28 (by kernel_rfl) (by kernel_rfl) (fun vs w => Tryd.call28 vs w) (fun x => typecaseref10_Lines_eq N x)
def typecaseref11_at_R : Sh := ⟨[6], [.r (.ptr 0 0)], [.box [.v (.pair (.slice .nod) (.pair (.slice .tok) (.pair (.int .i64) (.pair (.int .i64) (.int .i64)))))]], []⟩
noncomputable def typecaseref11_at_T0 (_N : Nat) : Tab := tab 0 31 [] [] [] []
theorem typecaseref11_at_T0_ok (_N : Nat) : TabOk CC 0 31 [] [] [] [] (bodyOf Tryd.f44) := .nil CC_as trivial trivial trivial
def typecaseref11_at (_N : Nat) (l0 : List Tok) (i1 : Int) (code2 : Int) : Option ((List Nod × List Tok × Int × Int × Int) × PUnit) :=
  bif decide ((↑(List.length l0) : Int) = 0) then some (([], [], 0, 0, code2), ())
  else
    bif decide ((↑(List.length l0) : Int) ≤ i1) then
      bindI (geti l0 (IntKind.i64.wrap ((↑(List.length l0) : Int) - 1))) fun y =>
        bindI (geti l0 (IntKind.i64.wrap ((↑(List.length l0) : Int) - 1))) fun y_1 => some (([], [], y.line, y_1.col, code2), ())
    else bindI (geti l0 i1) fun y => bindI (geti l0 i1) fun y_1 => some (([], [], y.line, y_1.col, code2), ())
theorem typecaseref11_at_eq (N : Nat) (x : VD [(.slice .tok), (.int .i64), (.int .i64)]) : runF (typecaseref11_at_T0 N) (bodyOf Tryd.f44) [(.slice .tok), (.int .i64), (.int .i64)] [(.pair (.slice .nod) (.pair (.slice .tok) (.pair (.int .i64) (.pair (.int .i64) (.int .i64)))))] (Tryd.f44).results.toList x = typecaseref11_at N x.1 x.2.1 x.2.2.1 := by kernel_rfl
def typecaseref11_at_e (N : Nat) : Ent := ⟨44, [(.slice .tok), (.int .i64), (.int .i64)], [(.pair (.slice .nod) (.pair (.slice .tok) (.pair (.int .i64) (.pair (.int .i64) (.int .i64)))))], fun x => typecaseref11_at N x.1 x.2.1 x.2.2.1⟩
theorem typecaseref11_at_ok (N : Nat) : EntOk CC.P CC.gs (typecaseref11_at_e N) := (typecaseref11_at_T0_ok N).ent (fn := Tryd.f44) Tryd.func44 (by kernel_rfl) (by kernel_rfl) (fun vs w => Tryd.call44 vs w) (fun x => typecaseref11_at_eq N x)
def typecaseref11_Digits_R : Sh := ⟨[2], [.v .str], [], []⟩
noncomputable def typecaseref11_Digits_T0 (_N : Nat) : Tab := tab 0 26 [] [] [] []
theorem typecaseref11_Digits_T0_ok (_N : Nat) : TabOk CC 0 26 [] [] [] [] (bodyOf Tryd.f83) := .nil CC_as trivial trivial trivial
def typecaseref11_Digits_L0i : Sh := ⟨[0, 3, 4], [.v (.int .i64), .v .str, .v .str], [], []⟩
def typecaseref11_Digits_L0o : Sh := ⟨[2], [.v .str], [], []⟩
def typecaseref11_Digits_L0s (_N : Nat) (n0 : Int) (sign3 : List UInt8) (s4 : List UInt8) (k : LD typecaseref11_Digits_L0i.2 × OL typecaseref11_Digits_L0i.3 → Option (Ex (LD typecaseref11_Digits_L0o.2 × OL typecaseref11_Digits_L0o.3) (LD typecaseref11_Digits_R.2 × OL typecaseref11_Digits_R.3))) : Option (Ex (LD typecaseref11_Digits_L0o.2 × OL typecaseref11_Digits_L0o.3) (LD typecaseref11_Digits_R.2 × OL typecaseref11_Digits_R.3)) :=
  bif
      decide (0 ≤ IntKind.i64.wrap (0 - Int.tmod n0 10)) &&
          decide (IntKind.i64.wrap (0 - Int.tmod n0 10) ≤ IntKind.i64.wrap (IntKind.i64.wrap (0 - Int.tmod n0 10) + 1)) &&
        decide (IntKind.i64.wrap (IntKind.i64.wrap (0 - Int.tmod n0 10) + 1) ≤ 10) then
    bif
        decide
          ((List.drop (IntKind.i64.wrap (0 - Int.tmod n0 10)).toNat
                    (List.take (IntKind.i64.wrap (IntKind.i64.wrap (0 - Int.tmod n0 10) + 1)).toNat
                      [UInt8.ofNat 48, UInt8.ofNat 49, UInt8.ofNat 50, UInt8.ofNat 51, UInt8.ofNat 52, UInt8.ofNat 53, UInt8.ofNat 54, UInt8.ofNat 55,
                        UInt8.ofNat 56, UInt8.ofNat 57])).length.add
              (List.length s4) ≤
            9223372036854775807) then
      bif decide (IntKind.i64.wrap (Int.tdiv n0 10) = 0) then
        bif
            decide
              ((List.length sign3).add
                  (List.drop (IntKind.i64.wrap (0 - Int.tmod n0 10)).toNat
                        (List.take (IntKind.i64.wrap (IntKind.i64.wrap (0 - Int.tmod n0 10) + 1)).toNat
                          [UInt8.ofNat 48, UInt8.ofNat 49, UInt8.ofNat 50, UInt8.ofNat 51, UInt8.ofNat 52, UInt8.ofNat 53, UInt8.ofNat 54, UInt8.ofNat 55,
                            UInt8.ofNat 56, UInt8.ofNat 57]) ++
                      s4).length ≤
                9223372036854775807) then
          some
            (Ex.ret
              ((sign3 ++
                    (List.drop (IntKind.i64.wrap (0 - Int.tmod n0 10)).toNat
                        (List.take (IntKind.i64.wrap (IntKind.i64.wrap (0 - Int.tmod n0 10) + 1)).toNat
                          [UInt8.ofNat 48, UInt8.ofNat 49, UInt8.ofNat 50, UInt8.ofNat 51, UInt8.ofNat 52, UInt8.ofNat 53, UInt8.ofNat 54, UInt8.ofNat 55,
                            UInt8.ofNat 56, UInt8.ofNat 57]) ++
                      s4),
                  ()),
                ()))
        else none
      else
        k
          ((IntKind.i64.wrap (Int.tdiv n0 10), sign3,
              List.drop (IntKind.i64.wrap (0 - Int.tmod n0 10)).toNat
                  (List.take (IntKind.i64.wrap (IntKind.i64.wrap (0 - Int.tmod n0 10) + 1)).toNat
                    [UInt8.ofNat 48, UInt8.ofNat 49, UInt8.ofNat 50, UInt8.ofNat 51, UInt8.ofNat 52, UInt8.ofNat 53, UInt8.ofNat 54, UInt8.ofNat 55,
                      UInt8.ofNat 56, UInt8.ofNat 57]) ++
                s4,
              ()),
            ())
    else none
  else none
def typecaseref11_Digits_L0 (N : Nat) : Nat → typecaseref11_Digits_L0i.D → Option (Ex typecaseref11_Digits_L0o.D typecaseref11_Digits_R.D) := loopN fun x k => typecaseref11_Digits_L0s N x.1.1 x.1.2.1 x.1.2.2.1 k
theorem typecaseref11_Digits_L0_succ (N f : Nat) (x : typecaseref11_Digits_L0i.D) : typecaseref11_Digits_L0 N (f + 1) x = typecaseref11_Digits_L0s N x.1.1 x.1.2.1 x.1.2.2.1 (typecaseref11_Digits_L0 N f) := rfl
theorem typecaseref11_Digits_L0_eq (N : Nat) (x : typecaseref11_Digits_L0i.D) (k : typecaseref11_Digits_L0i.D → Option (Ex typecaseref11_Digits_L0o.D typecaseref11_Digits_R.D)) : stepL (typecaseref11_Digits_T0 N) typecaseref11_Digits_L0i typecaseref11_Digits_L0o typecaseref11_Digits_R 0 ((subAt (bodyOf Tryd.f83) [0, 0, 1, 1, 1, 1]).getD .skip) [0, 1, 1, 1, 1] x k = typecaseref11_Digits_L0s N x.1.1 x.1.2.1 x.1.2.2.1 k := by kernel_rfl
noncomputable def typecaseref11_Digits_T1 (N : Nat) : Tab := tab 0 26 [] [] [] [([0, 1, 1, 1, 1], ⟨typecaseref11_Digits_L0i, typecaseref11_Digits_L0o, typecaseref11_Digits_R, 0, typecaseref11_Digits_L0 N N⟩)]
theorem typecaseref11_Digits_T1_ok (N : Nat) : TabOk CC 0 26 [] [] [] [([0, 1, 1, 1, 1], ⟨typecaseref11_Digits_L0i, typecaseref11_Digits_L0o, typecaseref11_Digits_R, 0, typecaseref11_Digits_L0 N N⟩)] (bodyOf Tryd.f83) := (typecaseref11_Digits_T0_ok N).snoc (π := [0, 1, 1, 1, 1]) (b := ((subAt (bodyOf Tryd.f83) [0, 0, 1, 1, 1, 1]).getD .skip)) (inn := typecaseref11_Digits_L0i) (out := typecaseref11_Digits_L0o) (ret := typecaseref11_Digits_R) (xid := 0) (n := N) (step := fun x k => typecaseref11_Digits_L0s N x.1.1 x.1.2.1 x.1.2.2.1 k) (by kernel_rfl) (fun x k => typecaseref11_Digits_L0_eq N x k)
def typecaseref11_Digits (N : Nat) (n0 : Int) : Option (List UInt8 × PUnit) :=
  bif decide (0 ≤ n0) then
    bindX (typecaseref11_Digits_L0 N N ((IntKind.i64.wrap (0 - n0), [], [], ()), ())) (fun y => some (y.fst.fst, ())) fun y => some (y.fst.fst, ())
  else bindX (typecaseref11_Digits_L0 N N ((n0, [UInt8.ofNat 45], [], ()), ())) (fun y => some (y.fst.fst, ())) fun y => some (y.fst.fst, ())
theorem typecaseref11_Digits_eq (N : Nat) (x : VD [(.int .i64)]) : runF (typecaseref11_Digits_T1 N) (bodyOf Tryd.f83) [(.int .i64)] [.str] (Tryd.f83).results.toList x = typecaseref11_Digits N x.1 := by kernel_rfl
def typecaseref11_Digits_e (N : Nat) : Ent := ⟨83, [(.int .i64)], [.str], fun x => typecaseref11_Digits N x.1⟩
theorem typecaseref11_Digits_ok (N : Nat) : EntOk CC.P CC.gs (typecaseref11_Digits_e N) := (typecaseref11_Digits_T1_ok N).ent (fn := Tryd.f83) Tryd.func83 (by kernel_rfl) (by kernel_rfl) (fun vs w => Tryd.call83 vs w) (fun x => typecaseref11_Digits_eq N x)
def typecaseref11_Symbol_R : Sh := ⟨[2], [.v .str], [], []⟩
noncomputable def typecaseref11_Symbol_T0 (N : Nat) : Tab := tab 0 18 [typecaseref11_Digits_e N] [] [] []
theorem typecaseref11_Symbol_T0_ok (N : Nat) : TabOk CC 0 18 [typecaseref11_Digits_e N] [] [] [] (bodyOf Tryd.f67) := .nil CC_as ⟨typecaseref11_Digits_ok N, trivial⟩ trivial trivial
def typecaseref11_Symbol (N : Nat) (t0 : Tok) : Option (List UInt8 × PUnit) :=
  bif decide (t0.kind = 1) then some (t0.text, ())
  else
    bif decide (t0.kind = 2) then
      bif decide ((List.length t0.text).succ ≤ 9223372036854775807) then
        bindI (typecaseref11_Digits N t0.scope) fun y =>
          bif decide ((List.length (t0.text ++ [UInt8.ofNat 64])).add (List.length y.fst) ≤ 9223372036854775807) then
            some (t0.text ++ [UInt8.ofNat 64] ++ y.fst, ())
          else none
      else none
    else some ([], ())
theorem typecaseref11_Symbol_eq (N : Nat) (x : VD [.tok]) : runF (typecaseref11_Symbol_T0 N) (bodyOf Tryd.f67) [.tok] [.str] (Tryd.f67).results.toList x = typecaseref11_Symbol N x.1 := by kernel_rfl
def typecaseref11_Symbol_e (N : Nat) : Ent := ⟨67, [.tok], [.str], fun x => typecaseref11_Symbol N x.1⟩
theorem typecaseref11_Symbol_ok (N : Nat) : EntOk CC.P CC.gs (typecaseref11_Symbol_e N) := (typecaseref11_Symbol_T0_ok N).ent (fn := Tryd.f67) Tryd.func67 (by kernel_rfl) (by kernel_rfl) (fun vs w => Tryd.call67 vs w) (fun x => typecaseref11_Symbol_eq N x)
def typecaseref11_leaf_R : Sh := ⟨[2, 3], [.r (.ptr 0 0), .v .bool], [.box [.v .nod]], []⟩
noncomputable def typecaseref11_leaf_T0 (N : Nat) : Tab := tab 0 43 [typecaseref11_Symbol_e N] [] [] []
theorem typecaseref11_leaf_T0_ok (N : Nat) : TabOk CC 0 43 [typecaseref11_Symbol_e N] [] [] [] (bodyOf Tryd.f45) := .nil CC_as ⟨typecaseref11_Symbol_ok N, trivial⟩ trivial trivial
def typecaseref11_leaf (N : Nat) (t0 : Tok) : Option (Nod × Bool × PUnit) :=
  bif decide (t0.kind = 5) then some ({ kind := 1, line := t0.line, col := t0.col, num := t0.num, name := [] : Nod }, true, ())
  else
    bindI (bif decide (t0.kind = 1) then some (List.beq t0.text [UInt8.ofNat 46]) else some false) fun y =>
      bif y then some ({ kind := 3, line := t0.line, col := t0.col, num := 0, name := [] : Nod }, true, ())
      else
        bindI (bif decide (t0.kind = 1) then some true else some (decide (t0.kind = 2))) fun y =>
          bif y then
            bindI (typecaseref11_Symbol N { kind := t0.kind, line := t0.line, col := t0.col, text := t0.text, num := t0.num, scope := t0.scope : Tok }) fun y =>
              some ({ kind := 2, line := t0.line, col := t0.col, num := 0, name := y.fst : Nod }, true, ())
          else some ({ kind := 0, line := t0.line, col := t0.col, num := 0, name := [] : Nod }, false, ())
theorem typecaseref11_leaf_eq (N : Nat) (x : VD [.tok]) : runF (typecaseref11_leaf_T0 N) (bodyOf Tryd.f45) [.tok] [.nod, .bool] (Tryd.f45).results.toList x = typecaseref11_leaf N x.1 := by kernel_rfl
def typecaseref11_leaf_e (N : Nat) : Ent := ⟨45, [.tok], [.nod, .bool], fun x => typecaseref11_leaf N x.1⟩
theorem typecaseref11_leaf_ok (N : Nat) : EntOk CC.P CC.gs (typecaseref11_leaf_e N) := (typecaseref11_leaf_T0_ok N).ent (fn := Tryd.f45) Tryd.func45 (by kernel_rfl) (by kernel_rfl) (fun vs w => Tryd.call45 vs w) (fun x => typecaseref11_leaf_eq N x)
def typecaseref11_opens_R : Sh := ⟨[4, 5], [.r (.ptr 0 0), .v (.int .i64)], [.box [.v (.pair .nod (.pair (.int .i64) .bool))]], []⟩
noncomputable def typecaseref11_opens_T0 (_N : Nat) : Tab := tab 0 62 [] [] [] []
theorem typecaseref11_opens_T0_ok (_N : Nat) : TabOk CC 0 62 [] [] [] [] (bodyOf Tryd.f46) := .nil CC_as trivial trivial trivial
def typecaseref11_opens (_N : Nat) (l0 : List Tok) (i1 : Int) : Option ((Nod × Int × Bool) × Int × PUnit) :=
  bindI (geti l0 i1) fun y =>
    bindI
      (bif decide (y.kind = 7) then bindI (bif List.beq y.text [UInt8.ofNat 45] then some true else some (List.beq y.text [UInt8.ofNat 126])) fun y => some y
      else some false)
      fun y_1 =>
      bif y_1 then
        bif List.beq y.text [UInt8.ofNat 126] then some (({ kind := 5, line := y.line, col := y.col, num := 0, name := [] : Nod }, 7, false), 1, ())
        else some (({ kind := 4, line := y.line, col := y.col, num := 0, name := [] : Nod }, 7, false), 1, ())
      else
        bindI (bif decide (y.kind = 7) then some (List.beq y.text [UInt8.ofNat 40]) else some false) fun y_2 =>
          bif y_2 then some (({ kind := 0, line := 0, col := 0, num := 0, name := [] : Nod }, 0, true), 1, ())
          else
            bif decide (y.kind = 4) then
              bif List.beq y.text [UInt8.ofNat 104, UInt8.ofNat 105] then
                bif List.beq y.text [UInt8.ofNat 108, UInt8.ofNat 111] then
                  some (({ kind := 7, line := y.line, col := y.col, num := 0, name := [] : Nod }, 0, true), 2, ())
                else some (({ kind := 6, line := y.line, col := y.col, num := 0, name := [] : Nod }, 0, true), 2, ())
              else
                bif List.beq y.text [UInt8.ofNat 108, UInt8.ofNat 111] then
                  some (({ kind := 7, line := y.line, col := y.col, num := 0, name := [] : Nod }, 0, true), 2, ())
                else some (({ kind := 8, line := y.line, col := y.col, num := 0, name := [] : Nod }, 0, true), 2, ())
            else some (({ kind := 0, line := 0, col := 0, num := 0, name := [] : Nod }, 0, false), 0, ())
theorem typecaseref11_opens_eq (N : Nat) (x : VD [(.slice .tok), (.int .i64)]) : runF (typecaseref11_opens_T0 N) (bodyOf Tryd.f46) [(.slice .tok), (.int .i64)] [(.pair .nod (.pair (.int .i64) .bool)), (.int .i64)] (Tryd.f46).results.toList x = typecaseref11_opens N x.1 x.2.1 := by kernel_rfl
def typecaseref11_opens_e (N : Nat) : Ent := ⟨46, [(.slice .tok), (.int .i64)], [(.pair .nod (.pair (.int .i64) .bool)), (.int .i64)], fun x => typecaseref11_opens N x.1 x.2.1⟩
theorem typecaseref11_opens_ok (N : Nat) : EntOk CC.P CC.gs (typecaseref11_opens_e N) := (typecaseref11_opens_T0_ok N).ent (fn := Tryd.f46) Tryd.func46 (by kernel_rfl) (by kernel_rfl) (fun vs w => Tryd.call46 vs w) (fun x => typecaseref11_opens_eq N x)
def typecaseref11_deep_R : Sh := ⟨[2], [.v (.int .i64)], [], []⟩
noncomputable def typecaseref11_deep_T0 (_N : Nat) : Tab := tab 0 27 [] [] [] []
theorem typecaseref11_deep_T0_ok (_N : Nat) : TabOk CC 0 27 [] [] [] [] (bodyOf Tryd.f47) := .nil CC_as trivial trivial trivial
def typecaseref11_deep_L0i : Sh := ⟨[0, 3, 4], [.v (.slice (.pair .nod (.pair (.int .i64) .bool))), .v (.int .i64), .v (.int .i64)], [], []⟩
def typecaseref11_deep_L0o : Sh := ⟨[3], [.v (.int .i64)], [], []⟩
def typecaseref11_deep_L0s (_N : Nat) (l0 : List (Nod × Int × Bool)) (n3 : Int) (i4 : Int) (k : LD typecaseref11_deep_L0i.2 × OL typecaseref11_deep_L0i.3 → Option (Ex (LD typecaseref11_deep_L0o.2 × OL typecaseref11_deep_L0o.3) (LD typecaseref11_deep_R.2 × OL typecaseref11_deep_R.3))) : Option (Ex (LD typecaseref11_deep_L0o.2 × OL typecaseref11_deep_L0o.3) (LD typecaseref11_deep_R.2 × OL typecaseref11_deep_R.3)) :=
  bif decide (i4 < (↑(List.length l0) : Int)) then
    bindI (geti l0 i4) fun y =>
      bindI (bif y.snd.snd then some true else bindI (geti l0 i4) fun y => some (decide (y.snd.fst = 7))) fun y =>
        bif y then k ((l0, IntKind.i64.wrap (n3 + 1), IntKind.i64.wrap (i4 + 1), ()), ()) else k ((l0, n3, IntKind.i64.wrap (i4 + 1), ()), ())
  else some (Ex.out ((n3, ()), ()))
def typecaseref11_deep_L0 (N : Nat) : Nat → typecaseref11_deep_L0i.D → Option (Ex typecaseref11_deep_L0o.D typecaseref11_deep_R.D) := loopN fun x k => typecaseref11_deep_L0s N x.1.1 x.1.2.1 x.1.2.2.1 k
theorem typecaseref11_deep_L0_succ (N f : Nat) (x : typecaseref11_deep_L0i.D) : typecaseref11_deep_L0 N (f + 1) x = typecaseref11_deep_L0s N x.1.1 x.1.2.1 x.1.2.2.1 (typecaseref11_deep_L0 N f) := rfl
theorem typecaseref11_deep_L0_eq (N : Nat) (x : typecaseref11_deep_L0i.D) (k : typecaseref11_deep_L0i.D → Option (Ex typecaseref11_deep_L0o.D typecaseref11_deep_R.D)) : stepL (typecaseref11_deep_T0 N) typecaseref11_deep_L0i typecaseref11_deep_L0o typecaseref11_deep_R 0 ((subAt (bodyOf Tryd.f47) [0, 0, 1, 0, 1, 1]).getD .skip) [0, 1, 0, 1, 1] x k = typecaseref11_deep_L0s N x.1.1 x.1.2.1 x.1.2.2.1 k := by kernel_rfl
noncomputable def typecaseref11_deep_T1 (N : Nat) : Tab := tab 0 27 [] [] [] [([0, 1, 0, 1, 1], ⟨typecaseref11_deep_L0i, typecaseref11_deep_L0o, typecaseref11_deep_R, 0, typecaseref11_deep_L0 N N⟩)]
theorem typecaseref11_deep_T1_ok (N : Nat) : TabOk CC 0 27 [] [] [] [([0, 1, 0, 1, 1], ⟨typecaseref11_deep_L0i, typecaseref11_deep_L0o, typecaseref11_deep_R, 0, typecaseref11_deep_L0 N N⟩)] (bodyOf Tryd.f47) := (typecaseref11_deep_T0_ok N).snoc (π := [0, 1, 0, 1, 1]) (b := ((subAt (bodyOf Tryd.f47) [0, 0, 1, 0, 1, 1]).getD .skip)) (inn := typecaseref11_deep_L0i) (out := typecaseref11_deep_L0o) (ret := typecaseref11_deep_R) (xid := 0) (n := N) (step := fun x k => typecaseref11_deep_L0s N x.1.1 x.1.2.1 x.1.2.2.1 k) (by kernel_rfl) (fun x k => typecaseref11_deep_L0_eq N x k)
def typecaseref11_deep (N : Nat) (l0 : List (Nod × Int × Bool)) : Option (Int × PUnit) :=
  bindX (typecaseref11_deep_L0 N N ((l0, 0, 0, ()), ())) (fun y => some (y.fst.fst, ())) fun y => some (y.fst.fst, ())
theorem typecaseref11_deep_eq (N : Nat) (x : VD [(.slice (.pair .nod (.pair (.int .i64) .bool)))]) : runF (typecaseref11_deep_T1 N) (bodyOf Tryd.f47) [(.slice (.pair .nod (.pair (.int .i64) .bool)))] [(.int .i64)] (Tryd.f47).results.toList x = typecaseref11_deep N x.1 := by kernel_rfl
def typecaseref11_deep_e (N : Nat) : Ent := ⟨47, [(.slice (.pair .nod (.pair (.int .i64) .bool)))], [(.int .i64)], fun x => typecaseref11_deep N x.1⟩
theorem typecaseref11_deep_ok (N : Nat) : EntOk CC.P CC.gs (typecaseref11_deep_e N) := (typecaseref11_deep_T1_ok N).ent (fn := Tryd.f47) Tryd.func47 (by kernel_rfl) (by kernel_rfl) (fun vs w => Tryd.call47 vs w) (fun x => typecaseref11_deep_eq N x)
def typecaseref11_two_R : Sh := ⟨[2, 3], [.v (.int .i64), .v (.int .i64)], [], []⟩
noncomputable def typecaseref11_two_T0 (_N : Nat) : Tab := tab 0 33 [] [] [] []
theorem typecaseref11_two_T0_ok (_N : Nat) : TabOk CC 0 33 [] [] [] [] (bodyOf Tryd.f48) := .nil CC_as trivial trivial trivial
def typecaseref11_two_L0i : Sh := ⟨[1, 4, 5, 6], [.r (.ptr 0 0), .v (.slice .str), .v (.slice (.int .i64)), .v (.int .i64)], [.box [.v .tok]], []⟩
def typecaseref11_two_L0o : Sh := ⟨[], [], [], []⟩
def typecaseref11_two_L0s (_N : Nat) (marks4 : List (List UInt8)) (how5 : List Int) (i6 : Int) (t1 : Tok × PUnit) (k : LD typecaseref11_two_L0i.2 × OL typecaseref11_two_L0i.3 → Option (Ex (LD typecaseref11_two_L0o.2 × OL typecaseref11_two_L0o.3) (LD typecaseref11_two_R.2 × OL typecaseref11_two_R.3))) : Option (Ex (LD typecaseref11_two_L0o.2 × OL typecaseref11_two_L0o.3) (LD typecaseref11_two_R.2 × OL typecaseref11_two_R.3)) :=
  bif decide (i6 < (↑(List.length marks4) : Int)) then
    bindI (bif decide (t1.fst.kind = 7) then bindI (geti marks4 i6) fun y => some (List.beq t1.fst.text y) else some false) fun y =>
      bif y then bindI (geti how5 i6) fun y => some (Ex.ret ((y, IntKind.i64.wrap (9 + i6), ()), ()))
      else
        k
          ((marks4, how5, IntKind.i64.wrap (i6 + 1), ()),
            ({ kind := t1.fst.kind, line := t1.fst.line, col := t1.fst.col, text := t1.fst.text, num := t1.fst.num, scope := t1.fst.scope : Tok }, ()), ())
  else some (Ex.out ((), ()))
def typecaseref11_two_L0 (N : Nat) : Nat → typecaseref11_two_L0i.D → Option (Ex typecaseref11_two_L0o.D typecaseref11_two_R.D) := loopN fun x k => typecaseref11_two_L0s N x.1.1 x.1.2.1 x.1.2.2.1 x.2.1 k
theorem typecaseref11_two_L0_succ (N f : Nat) (x : typecaseref11_two_L0i.D) : typecaseref11_two_L0 N (f + 1) x = typecaseref11_two_L0s N x.1.1 x.1.2.1 x.1.2.2.1 x.2.1 (typecaseref11_two_L0 N f) := rfl
theorem typecaseref11_two_L0_eq (N : Nat) (x : typecaseref11_two_L0i.D) (k : typecaseref11_two_L0i.D → Option (Ex typecaseref11_two_L0o.D typecaseref11_two_R.D)) : stepL (typecaseref11_two_T0 N) typecaseref11_two_L0i typecaseref11_two_L0o typecaseref11_two_R 0 ((subAt (bodyOf Tryd.f48) [0, 0, 1, 0, 1, 1, 1]).getD .skip) [0, 1, 0, 1, 1, 1] x k = typecaseref11_two_L0s N x.1.1 x.1.2.1 x.1.2.2.1 x.2.1 k := by kernel_rfl
noncomputable def typecaseref11_two_T1 (N : Nat) : Tab := tab 0 33 [] [] [] [([0, 1, 0, 1, 1, 1], ⟨typecaseref11_two_L0i, typecaseref11_two_L0o, typecaseref11_two_R, 0, typecaseref11_two_L0 N N⟩)]
theorem typecaseref11_two_T1_ok (N : Nat) : TabOk CC 0 33 [] [] [] [([0, 1, 0, 1, 1, 1], ⟨typecaseref11_two_L0i, typecaseref11_two_L0o, typecaseref11_two_R, 0, typecaseref11_two_L0 N N⟩)] (bodyOf Tryd.f48) := (typecaseref11_two_T0_ok N).snoc (π := [0, 1, 0, 1, 1, 1]) (b := ((subAt (bodyOf Tryd.f48) [0, 0, 1, 0, 1, 1, 1]).getD .skip)) (inn := typecaseref11_two_L0i) (out := typecaseref11_two_L0o) (ret := typecaseref11_two_R) (xid := 0) (n := N) (step := fun x k => typecaseref11_two_L0s N x.1.1 x.1.2.1 x.1.2.2.1 x.2.1 k) (by kernel_rfl) (fun x k => typecaseref11_two_L0_eq N x k)
def typecaseref11_two (N : Nat) (t0 : Tok) : Option (Int × Int × PUnit) :=
  bindX
    (typecaseref11_two_L0 N N
      (([[UInt8.ofNat 43], [UInt8.ofNat 45], [UInt8.ofNat 42], [UInt8.ofNat 47], [UInt8.ofNat 60, UInt8.ofNat 60], [UInt8.ofNat 62, UInt8.ofNat 62],
            [UInt8.ofNat 38], [UInt8.ofNat 94], [UInt8.ofNat 124]],
          [5, 5, 6, 6, 4, 4, 3, 2, 1], 0, ()),
        ({ kind := t0.kind, line := t0.line, col := t0.col, text := t0.text, num := t0.num, scope := t0.scope : Tok }, ()), ()))
    (fun _y => some (0, 0, ())) fun y => some (y.fst.fst, y.fst.snd.fst, ())
theorem typecaseref11_two_eq (N : Nat) (x : VD [.tok]) : runF (typecaseref11_two_T1 N) (bodyOf Tryd.f48) [.tok] [(.int .i64), (.int .i64)] (Tryd.f48).results.toList x = typecaseref11_two N x.1 := by kernel_rfl
def typecaseref11_two_e (N : Nat) : Ent := ⟨48, [.tok], [(.int .i64), (.int .i64)], fun x => typecaseref11_two N x.1⟩
theorem typecaseref11_two_ok (N : Nat) : EntOk CC.P CC.gs (typecaseref11_two_e N) := (typecaseref11_two_T1_ok N).ent (fn := Tryd.f48) Tryd.func48 (by kernel_rfl) (by kernel_rfl) (fun vs w => Tryd.call48 vs w) (fun x => typecaseref11_two_eq N x)
def typecaseref11_Parse_R : Sh := ⟨[2], [.r (.ptr 0 0)], [.box [.v (.pair (.slice .nod) (.pair (.slice .tok) (.pair (.int .i64) (.pair (.int .i64) (.int .i64)))))]], []⟩
noncomputable def typecaseref11_Parse_T0 (N : Nat) : Tab := tab 0 225 [typecaseref11_at_e N, typecaseref11_leaf_e N, typecaseref11_opens_e N, typecaseref11_deep_e N, typecaseref11_two_e N] [] [] []
theorem typecaseref11_Parse_T0_ok (N : Nat) : TabOk CC 0 225 [typecaseref11_at_e N, typecaseref11_leaf_e N, typecaseref11_opens_e N, typecaseref11_deep_e N, typecaseref11_two_e N] [] [] [] (bodyOf Tryd.f29) := .nil CC_as ⟨typecaseref11_at_ok N, typecaseref11_leaf_ok N, typecaseref11_opens_ok N, typecaseref11_deep_ok N, typecaseref11_two_ok N, trivial⟩ trivial trivial
def typecaseref11_Parse_L0i : Sh := ⟨[0, 2, 3, 4, 5, 6, 11, 12, 13], [.v (.slice .tok), .r (.ptr 0 0), .r (.row 1), .r (.row 2), .v .bool, .v (.int .i64), .v (.int .i64), .v (.int .i64), .v .bool], [.box [.v (.pair (.slice .nod) (.pair (.slice .tok) (.pair (.int .i64) (.pair (.int .i64) (.int .i64)))))], .row .nod, .row (.pair .nod (.pair (.int .i64) .bool))], [.tmp 3 .nod, .tmp 4 (.pair .nod (.pair (.int .i64) .bool))]⟩
def typecaseref11_Parse_L0o : Sh := ⟨[0, 2, 3, 4, 5, 6, 11, 12, 13], [.v (.slice .tok), .r (.ptr 0 0), .r (.row 1), .r (.row 2), .v .bool, .v (.int .i64), .v (.int .i64), .v (.int .i64), .v .bool], [.box [.v (.pair (.slice .nod) (.pair (.slice .tok) (.pair (.int .i64) (.pair (.int .i64) (.int .i64)))))], .row .nod, .row (.pair .nod (.pair (.int .i64) .bool))], [.tmp 3 .nod, .tmp 4 (.pair .nod (.pair (.int .i64) .bool))]⟩
def typecaseref11_Parse_L0s (_N : Nat) (l0 : List Tok) (part5 : Bool) (i6 : Int) (how11 : Int) (kind12 : Int) (closing13 : Bool) (x2 : (List Nod × List Tok × Int × Int × Int) × PUnit) (out3 : List Nod) (stack4 : List (Nod × Int × Bool)) (k : LD typecaseref11_Parse_L0i.2 × OL typecaseref11_Parse_L0i.3 → Option (Ex (LD typecaseref11_Parse_L0o.2 × OL typecaseref11_Parse_L0o.3) (LD typecaseref11_Parse_R.2 × OL typecaseref11_Parse_R.3))) : Option (Ex (LD typecaseref11_Parse_L0o.2 × OL typecaseref11_Parse_L0o.3) (LD typecaseref11_Parse_R.2 × OL typecaseref11_Parse_R.3)) :=
  bindI
    (bif decide (0 < (↑stack4.length : Int)) then bindI (geti stack4 (IntKind.i64.wrap ((↑stack4.length : Int) - 1))) fun y => some !y.snd.snd else some false)
    fun y =>
    bindI (bif y then bindI (geti stack4 (IntKind.i64.wrap ((↑stack4.length : Int) - 1))) fun y => some (decide (how11 ≤ y.snd.fst)) else some false) fun y =>
      bif y then
        bindI (geti stack4 (IntKind.i64.wrap ((↑stack4.length : Int) - 1))) fun y =>
          bif (out3 ++ [{ kind := y.fst.kind, line := y.fst.line, col := y.fst.col, num := y.fst.num, name := y.fst.name : Nod }]).length.ble 4294967296 then
            bif inC (IntKind.i64.wrap ((↑stack4.length : Int) - 1)) stack4.length then
              bif (List.take (IntKind.i64.wrap ((↑stack4.length : Int) - 1)).toNat stack4).length.ble 4294967296 then
                k
                  ((l0, part5, i6, how11, kind12, closing13, ()),
                    ((x2.fst.fst, x2.fst.snd.fst, x2.fst.snd.snd.fst, x2.fst.snd.snd.snd.fst, x2.fst.snd.snd.snd.snd), ()),
                    out3 ++ [{ kind := y.fst.kind, line := y.fst.line, col := y.fst.col, num := y.fst.num, name := y.fst.name : Nod }],
                    List.take (IntKind.i64.wrap ((↑stack4.length : Int) - 1)).toNat stack4, ())
              else none
            else none
          else none
      else
        some
          (Ex.out
            ((l0, part5, i6, how11, kind12, closing13, ()),
              ((x2.fst.fst, x2.fst.snd.fst, x2.fst.snd.snd.fst, x2.fst.snd.snd.snd.fst, x2.fst.snd.snd.snd.snd), ()), out3, stack4, ()))
def typecaseref11_Parse_L0 (N : Nat) : Nat → typecaseref11_Parse_L0i.D → Option (Ex typecaseref11_Parse_L0o.D typecaseref11_Parse_R.D) := loopN fun x k => typecaseref11_Parse_L0s N x.1.1 x.1.2.1 x.1.2.2.1 x.1.2.2.2.1 x.1.2.2.2.2.1 x.1.2.2.2.2.2.1 x.2.1 x.2.2.1 x.2.2.2.1 k
theorem typecaseref11_Parse_L0_succ (N f : Nat) (x : typecaseref11_Parse_L0i.D) : typecaseref11_Parse_L0 N (f + 1) x = typecaseref11_Parse_L0s N x.1.1 x.1.2.1 x.1.2.2.1 x.1.2.2.2.1 x.1.2.2.2.2.1 x.1.2.2.2.2.2.1 x.2.1 x.2.2.1 x.2.2.2.1 (typecaseref11_Parse_L0 N f) := rfl
theorem typecaseref11_Parse_L0_eq (N : Nat) (x : typecaseref11_Parse_L0i.D) (k : typecaseref11_Parse_L0i.D → Option (Ex typecaseref11_Parse_L0o.D typecaseref11_Parse_R.D)) : stepL (typecaseref11_Parse_T0 N) typecaseref11_Parse_L0i typecaseref11_Parse_L0o typecaseref11_Parse_R 3 ((subAt (bodyOf Tryd.f29) [0, 0, 0, 1, 1, 1, 1, 0, 0, 0, 1, 1, 1, 1, 1]).getD .skip) [0, 0, 1, 1, 1, 1, 0, 0, 0, 1, 1, 1, 1, 1] x k = typecaseref11_Parse_L0s N x.1.1 x.1.2.1 x.1.2.2.1 x.1.2.2.2.1 x.1.2.2.2.2.1 x.1.2.2.2.2.2.1 x.2.1 x.2.2.1 x.2.2.2.1 k := by kernel_rfl
noncomputable def typecaseref11_Parse_T1 (N : Nat) : Tab := tab 0 225 [typecaseref11_at_e N, typecaseref11_leaf_e N, typecaseref11_opens_e N, typecaseref11_deep_e N, typecaseref11_two_e N] [] [] [([0, 0, 1, 1, 1, 1, 0, 0, 0, 1, 1, 1, 1, 1], ⟨typecaseref11_Parse_L0i, typecaseref11_Parse_L0o, typecaseref11_Parse_R, 3, typecaseref11_Parse_L0 N N⟩)]
theorem typecaseref11_Parse_T1_ok (N : Nat) : TabOk CC 0 225 [typecaseref11_at_e N, typecaseref11_leaf_e N, typecaseref11_opens_e N, typecaseref11_deep_e N, typecaseref11_two_e N] [] [] [([0, 0, 1, 1, 1, 1, 0, 0, 0, 1, 1, 1, 1, 1], ⟨typecaseref11_Parse_L0i, typecaseref11_Parse_L0o, typecaseref11_Parse_R, 3, typecaseref11_Parse_L0 N N⟩)] (bodyOf Tryd.f29) := (typecaseref11_Parse_T0_ok N).snoc (π := [0, 0, 1, 1, 1, 1, 0, 0, 0, 1, 1, 1, 1, 1]) (b := ((subAt (bodyOf Tryd.f29) [0, 0, 0, 1, 1, 1, 1, 0, 0, 0, 1, 1, 1, 1, 1]).getD .skip)) (inn := typecaseref11_Parse_L0i) (out := typecaseref11_Parse_L0o) (ret := typecaseref11_Parse_R) (xid := 3) (n := N) (step := fun x k => typecaseref11_Parse_L0s N x.1.1 x.1.2.1 x.1.2.2.1 x.1.2.2.2.1 x.1.2.2.2.2.1 x.1.2.2.2.2.2.1 x.2.1 x.2.2.1 x.2.2.2.1 k) (by kernel_rfl) (fun x k => typecaseref11_Parse_L0_eq N x k)
def typecaseref11_Parse_L1i : Sh := ⟨[0, 2, 3, 4, 5, 6], [.v (.slice .tok), .r (.ptr 0 0), .r (.row 1), .r (.row 2), .v .bool, .v (.int .i64)], [.box [.v (.pair (.slice .nod) (.pair (.slice .tok) (.pair (.int .i64) (.pair (.int .i64) (.int .i64)))))], .row .nod, .row (.pair .nod (.pair (.int .i64) .bool))], [.tmp 3 .nod, .tmp 4 (.pair .nod (.pair (.int .i64) .bool))]⟩
def typecaseref11_Parse_L1o : Sh := ⟨[2], [.r (.ptr 0 0)], [.box [.v (.pair (.slice .nod) (.pair (.slice .tok) (.pair (.int .i64) (.pair (.int .i64) (.int .i64)))))]], []⟩
def typecaseref11_Parse_L1s (N : Nat) (l0 : List Tok) (part5 : Bool) (i6 : Int) (x2 : (List Nod × List Tok × Int × Int × Int) × PUnit) (out3 : List Nod) (stack4 : List (Nod × Int × Bool)) (k : LD typecaseref11_Parse_L1i.2 × OL typecaseref11_Parse_L1i.3 → Option (Ex (LD typecaseref11_Parse_L1o.2 × OL typecaseref11_Parse_L1o.3) (LD typecaseref11_Parse_R.2 × OL typecaseref11_Parse_R.3))) : Option (Ex (LD typecaseref11_Parse_L1o.2 × OL typecaseref11_Parse_L1o.3) (LD typecaseref11_Parse_R.2 × OL typecaseref11_Parse_R.3)) :=
  bif part5 then
    bif decide ((↑(List.length l0) : Int) ≤ i6) then
      bindI (typecaseref11_at N l0 i6 6) fun y =>
        some (Ex.ret ((), ((y.fst.fst, y.fst.snd.fst, y.fst.snd.snd.fst, y.fst.snd.snd.snd.fst, y.fst.snd.snd.snd.snd), ()), ()))
    else
      bindI (geti l0 i6) fun y =>
        bindI (typecaseref11_leaf N { kind := y.kind, line := y.line, col := y.col, text := y.text, num := y.num, scope := y.scope : Tok }) fun y_1 =>
          bindI (typecaseref11_opens N l0 i6) fun y_2 =>
            bif y_1.snd.fst then
              bif
                  (out3 ++ [{ kind := y_1.fst.kind, line := y_1.fst.line, col := y_1.fst.col, num := y_1.fst.num, name := y_1.fst.name : Nod }]).length.ble
                    4294967296 then
                k
                  ((l0, false, IntKind.i64.wrap (i6 + 1), ()),
                    ((x2.fst.fst, x2.fst.snd.fst, x2.fst.snd.snd.fst, x2.fst.snd.snd.snd.fst, x2.fst.snd.snd.snd.snd), ()),
                    out3 ++ [{ kind := y_1.fst.kind, line := y_1.fst.line, col := y_1.fst.col, num := y_1.fst.num, name := y_1.fst.name : Nod }], stack4, ())
              else none
            else
              bif decide (y_2.snd.fst = 0) then
                bindI (typecaseref11_at N l0 i6 6) fun y =>
                  some (Ex.ret ((), ((y.fst.fst, y.fst.snd.fst, y.fst.snd.snd.fst, y.fst.snd.snd.snd.fst, y.fst.snd.snd.snd.snd), ()), ()))
              else
                bindI (typecaseref11_deep N stack4) fun y_3 =>
                  bif decide (32 ≤ y_3.fst) then
                    bindI (typecaseref11_at N l0 i6 14) fun y =>
                      some (Ex.ret ((), ((y.fst.fst, y.fst.snd.fst, y.fst.snd.snd.fst, y.fst.snd.snd.snd.fst, y.fst.snd.snd.snd.snd), ()), ()))
                  else
                    bindI
                      (bif decide (y_2.snd.fst = 2) then
                        bindI
                          (bif decide ((↑(List.length l0) : Int) ≤ IntKind.i64.wrap (i6 + 1)) then some true
                          else bindI (geti l0 (IntKind.i64.wrap (i6 + 1))) fun y => some !decide (y.kind = 7))
                          fun y =>
                          bindI (bif y then some true else bindI (geti l0 (IntKind.i64.wrap (i6 + 1))) fun y => some !List.beq y.text [UInt8.ofNat 40]) fun y =>
                            some y
                      else some false)
                      fun y_4 =>
                      bif y_4 then
                        bindI (typecaseref11_at N l0 (IntKind.i64.wrap (i6 + 1)) 6) fun y =>
                          some (Ex.ret ((), ((y.fst.fst, y.fst.snd.fst, y.fst.snd.snd.fst, y.fst.snd.snd.snd.fst, y.fst.snd.snd.snd.snd), ()), ()))
                      else
                        bif
                            (stack4 ++
                                    [({ kind := y_2.fst.fst.kind, line := y_2.fst.fst.line, col := y_2.fst.fst.col, num := y_2.fst.fst.num,
                                          name := y_2.fst.fst.name : Nod },
                                        y_2.fst.snd.fst, y_2.fst.snd.snd)]).length.ble
                              4294967296 then
                          k
                            ((l0, part5, IntKind.i64.wrap (i6 + y_2.snd.fst), ()),
                              ((x2.fst.fst, x2.fst.snd.fst, x2.fst.snd.snd.fst, x2.fst.snd.snd.snd.fst, x2.fst.snd.snd.snd.snd), ()), out3,
                              stack4 ++
                                [({ kind := y_2.fst.fst.kind, line := y_2.fst.fst.line, col := y_2.fst.fst.col, num := y_2.fst.fst.num, name := y_2.fst.fst.name :
                                      Nod },
                                    y_2.fst.snd.fst, y_2.fst.snd.snd)],
                              ())
                        else none
  else
    bif decide (i6 < (↑(List.length l0) : Int)) then
      bindI (geti l0 i6) fun y =>
        bindI (typecaseref11_two N { kind := y.kind, line := y.line, col := y.col, text := y.text, num := y.num, scope := y.scope : Tok }) fun y =>
          bindI (geti l0 i6) fun y_1 =>
            bindI (bif decide (y_1.kind = 7) then bindI (geti l0 i6) fun y => some (List.beq y.text [UInt8.ofNat 41]) else some false) fun y_2 =>
              bindX
                (typecaseref11_Parse_L0 N N
                  ((l0, part5, i6, y.fst, y.snd.fst, y_2, ()),
                    ((x2.fst.fst, x2.fst.snd.fst, x2.fst.snd.snd.fst, x2.fst.snd.snd.snd.fst, x2.fst.snd.snd.snd.snd), ()), out3, stack4, ()))
                (fun y =>
                  bif decide (0 < y.fst.snd.snd.snd.fst) then
                    bindI (geti y.fst.fst y.fst.snd.snd.fst) fun y_3 =>
                      bindI (geti y.fst.fst y.fst.snd.snd.fst) fun y_4 =>
                        bif
                            (List.length
                                  (y.snd.snd.snd.fst ++
                                    [({ kind := y.fst.snd.snd.snd.snd.fst, line := y_3.line, col := y_4.col, num := 0, name := [] : Nod }, y.fst.snd.snd.snd.fst,
                                        false)])).ble
                              4294967296 then
                          k
                            ((y.fst.fst, true, IntKind.i64.wrap (y.fst.snd.snd.fst + 1), ()),
                              ((y.snd.fst.fst.fst, y.snd.fst.fst.snd.fst, y.snd.fst.fst.snd.snd.fst, y.snd.fst.fst.snd.snd.snd.fst,
                                  y.snd.fst.fst.snd.snd.snd.snd),
                                ()),
                              y.snd.snd.fst,
                              y.snd.snd.snd.fst ++
                                [({ kind := y.fst.snd.snd.snd.snd.fst, line := y_3.line, col := y_4.col, num := 0, name := [] : Nod }, y.fst.snd.snd.snd.fst,
                                    false)],
                              ())
                        else none
                  else
                    bif decide ((↑(List.length y.snd.snd.snd.fst) : Int) = 0) then
                      bif inC y.fst.snd.snd.fst (List.length y.fst.fst) then
                        some (Ex.ret ((), ((y.snd.snd.fst, List.drop (Int.toNat y.fst.snd.snd.fst) y.fst.fst, 0, 0, 0), ()), ()))
                      else none
                    else
                      bif !y.fst.snd.snd.snd.snd.snd.fst then
                        bindI (typecaseref11_at N y.fst.fst y.fst.snd.snd.fst 6) fun y =>
                          some (Ex.ret ((), ((y.fst.fst, y.fst.snd.fst, y.fst.snd.snd.fst, y.fst.snd.snd.snd.fst, y.fst.snd.snd.snd.snd), ()), ()))
                      else
                        bindI (geti y.snd.snd.snd.fst (IntKind.i64.wrap ((↑(List.length y.snd.snd.snd.fst) : Int) - 1))) fun y_3 =>
                          bif inC (IntKind.i64.wrap ((↑(List.length y.snd.snd.snd.fst) : Int) - 1)) (List.length y.snd.snd.snd.fst) then
                            bif (List.take (IntKind.i64.wrap ((↑(List.length y.snd.snd.snd.fst) : Int) - 1)).toNat y.snd.snd.snd.fst).length.ble 4294967296 then
                              bif decide (0 < y_3.fst.kind) then
                                bif
                                    (List.length
                                          (y.snd.snd.fst ++
                                            [{ kind := y_3.fst.kind, line := y_3.fst.line, col := y_3.fst.col, num := y_3.fst.num, name := y_3.fst.name :
                                                Nod }])).ble
                                      4294967296 then
                                  k
                                    ((y.fst.fst, y.fst.snd.fst, IntKind.i64.wrap (y.fst.snd.snd.fst + 1), ()),
                                      ((y.snd.fst.fst.fst, y.snd.fst.fst.snd.fst, y.snd.fst.fst.snd.snd.fst, y.snd.fst.fst.snd.snd.snd.fst,
                                          y.snd.fst.fst.snd.snd.snd.snd),
                                        ()),
                                      y.snd.snd.fst ++
                                        [{ kind := y_3.fst.kind, line := y_3.fst.line, col := y_3.fst.col, num := y_3.fst.num, name := y_3.fst.name : Nod }],
                                      List.take (IntKind.i64.wrap ((↑(List.length y.snd.snd.snd.fst) : Int) - 1)).toNat y.snd.snd.snd.fst, ())
                                else none
                              else
                                k
                                  ((y.fst.fst, y.fst.snd.fst, IntKind.i64.wrap (y.fst.snd.snd.fst + 1), ()),
                                    ((y.snd.fst.fst.fst, y.snd.fst.fst.snd.fst, y.snd.fst.fst.snd.snd.fst, y.snd.fst.fst.snd.snd.snd.fst,
                                        y.snd.fst.fst.snd.snd.snd.snd),
                                      ()),
                                    y.snd.snd.fst, List.take (IntKind.i64.wrap ((↑(List.length y.snd.snd.snd.fst) : Int) - 1)).toNat y.snd.snd.snd.fst, ())
                            else none
                          else none)
                fun y =>
                some
                  (Ex.ret
                    ((),
                      ((y.snd.fst.fst.fst, y.snd.fst.fst.snd.fst, y.snd.fst.fst.snd.snd.fst, y.snd.fst.fst.snd.snd.snd.fst, y.snd.fst.fst.snd.snd.snd.snd), ()),
                      ()))
    else
      bindX
        (typecaseref11_Parse_L0 N N
          ((l0, part5, i6, 0, 0, false, ()), ((x2.fst.fst, x2.fst.snd.fst, x2.fst.snd.snd.fst, x2.fst.snd.snd.snd.fst, x2.fst.snd.snd.snd.snd), ()), out3, stack4,
            ()))
        (fun y =>
          bif decide (0 < y.fst.snd.snd.snd.fst) then
            bindI (geti y.fst.fst y.fst.snd.snd.fst) fun y_1 =>
              bindI (geti y.fst.fst y.fst.snd.snd.fst) fun y_2 =>
                bif
                    (List.length
                          (y.snd.snd.snd.fst ++
                            [({ kind := y.fst.snd.snd.snd.snd.fst, line := y_1.line, col := y_2.col, num := 0, name := [] : Nod }, y.fst.snd.snd.snd.fst,
                                false)])).ble
                      4294967296 then
                  k
                    ((y.fst.fst, true, IntKind.i64.wrap (y.fst.snd.snd.fst + 1), ()),
                      ((y.snd.fst.fst.fst, y.snd.fst.fst.snd.fst, y.snd.fst.fst.snd.snd.fst, y.snd.fst.fst.snd.snd.snd.fst, y.snd.fst.fst.snd.snd.snd.snd), ()),
                      y.snd.snd.fst,
                      y.snd.snd.snd.fst ++
                        [({ kind := y.fst.snd.snd.snd.snd.fst, line := y_1.line, col := y_2.col, num := 0, name := [] : Nod }, y.fst.snd.snd.snd.fst, false)],
                      ())
                else none
          else
            bif decide ((↑(List.length y.snd.snd.snd.fst) : Int) = 0) then
              bif inC y.fst.snd.snd.fst (List.length y.fst.fst) then
                some (Ex.ret ((), ((y.snd.snd.fst, List.drop (Int.toNat y.fst.snd.snd.fst) y.fst.fst, 0, 0, 0), ()), ()))
              else none
            else
              bif !y.fst.snd.snd.snd.snd.snd.fst then
                bindI (typecaseref11_at N y.fst.fst y.fst.snd.snd.fst 6) fun y =>
                  some (Ex.ret ((), ((y.fst.fst, y.fst.snd.fst, y.fst.snd.snd.fst, y.fst.snd.snd.snd.fst, y.fst.snd.snd.snd.snd), ()), ()))
              else
                bindI (geti y.snd.snd.snd.fst (IntKind.i64.wrap ((↑(List.length y.snd.snd.snd.fst) : Int) - 1))) fun y_1 =>
                  bif inC (IntKind.i64.wrap ((↑(List.length y.snd.snd.snd.fst) : Int) - 1)) (List.length y.snd.snd.snd.fst) then
                    bif (List.take (IntKind.i64.wrap ((↑(List.length y.snd.snd.snd.fst) : Int) - 1)).toNat y.snd.snd.snd.fst).length.ble 4294967296 then
                      bif decide (0 < y_1.fst.kind) then
                        bif
                            (List.length
                                  (y.snd.snd.fst ++
                                    [{ kind := y_1.fst.kind, line := y_1.fst.line, col := y_1.fst.col, num := y_1.fst.num, name := y_1.fst.name : Nod }])).ble
                              4294967296 then
                          k
                            ((y.fst.fst, y.fst.snd.fst, IntKind.i64.wrap (y.fst.snd.snd.fst + 1), ()),
                              ((y.snd.fst.fst.fst, y.snd.fst.fst.snd.fst, y.snd.fst.fst.snd.snd.fst, y.snd.fst.fst.snd.snd.snd.fst,
                                  y.snd.fst.fst.snd.snd.snd.snd),
                                ()),
                              y.snd.snd.fst ++
                                [{ kind := y_1.fst.kind, line := y_1.fst.line, col := y_1.fst.col, num := y_1.fst.num, name := y_1.fst.name : Nod }],
                              List.take (IntKind.i64.wrap ((↑(List.length y.snd.snd.snd.fst) : Int) - 1)).toNat y.snd.snd.snd.fst, ())
                        else none
                      else
                        k
                          ((y.fst.fst, y.fst.snd.fst, IntKind.i64.wrap (y.fst.snd.snd.fst + 1), ()),
                            ((y.snd.fst.fst.fst, y.snd.fst.fst.snd.fst, y.snd.fst.fst.snd.snd.fst, y.snd.fst.fst.snd.snd.snd.fst, y.snd.fst.fst.snd.snd.snd.snd),
                              ()),
                            y.snd.snd.fst, List.take (IntKind.i64.wrap ((↑(List.length y.snd.snd.snd.fst) : Int) - 1)).toNat y.snd.snd.snd.fst, ())
                    else none
                  else none)
        fun y =>
        some
          (Ex.ret
            ((), ((y.snd.fst.fst.fst, y.snd.fst.fst.snd.fst, y.snd.fst.fst.snd.snd.fst, y.snd.fst.fst.snd.snd.snd.fst, y.snd.fst.fst.snd.snd.snd.snd), ()), ()))
def typecaseref11_Parse_L1 (N : Nat) : Nat → typecaseref11_Parse_L1i.D → Option (Ex typecaseref11_Parse_L1o.D typecaseref11_Parse_R.D) := loopN fun x k => typecaseref11_Parse_L1s N x.1.1 x.1.2.1 x.1.2.2.1 x.2.1 x.2.2.1 x.2.2.2.1 k
theorem typecaseref11_Parse_L1_succ (N f : Nat) (x : typecaseref11_Parse_L1i.D) : typecaseref11_Parse_L1 N (f + 1) x = typecaseref11_Parse_L1s N x.1.1 x.1.2.1 x.1.2.2.1 x.2.1 x.2.2.1 x.2.2.2.1 (typecaseref11_Parse_L1 N f) := rfl
theorem typecaseref11_Parse_L1_eq (N : Nat) (x : typecaseref11_Parse_L1i.D) (k : typecaseref11_Parse_L1i.D → Option (Ex typecaseref11_Parse_L1o.D typecaseref11_Parse_R.D)) : stepL (typecaseref11_Parse_T1 N) typecaseref11_Parse_L1i typecaseref11_Parse_L1o typecaseref11_Parse_R 0 ((subAt (bodyOf Tryd.f29) [0, 0, 1, 1, 1, 1, 1]).getD .skip) [0, 1, 1, 1, 1, 1] x k = typecaseref11_Parse_L1s N x.1.1 x.1.2.1 x.1.2.2.1 x.2.1 x.2.2.1 x.2.2.2.1 k := by kernel_rfl
noncomputable def typecaseref11_Parse_T2 (N : Nat) : Tab := tab 0 225 [typecaseref11_at_e N, typecaseref11_leaf_e N, typecaseref11_opens_e N, typecaseref11_deep_e N, typecaseref11_two_e N] [] [] [([0, 0, 1, 1, 1, 1, 0, 0, 0, 1, 1, 1, 1, 1], ⟨typecaseref11_Parse_L0i, typecaseref11_Parse_L0o, typecaseref11_Parse_R, 3, typecaseref11_Parse_L0 N N⟩), ([0, 1, 1, 1, 1, 1], ⟨typecaseref11_Parse_L1i, typecaseref11_Parse_L1o, typecaseref11_Parse_R, 0, typecaseref11_Parse_L1 N N⟩)]
theorem typecaseref11_Parse_T2_ok (N : Nat) : TabOk CC 0 225 [typecaseref11_at_e N, typecaseref11_leaf_e N, typecaseref11_opens_e N, typecaseref11_deep_e N, typecaseref11_two_e N] [] [] [([0, 0, 1, 1, 1, 1, 0, 0, 0, 1, 1, 1, 1, 1], ⟨typecaseref11_Parse_L0i, typecaseref11_Parse_L0o, typecaseref11_Parse_R, 3, typecaseref11_Parse_L0 N N⟩), ([0, 1, 1, 1, 1, 1], ⟨typecaseref11_Parse_L1i, typecaseref11_Parse_L1o, typecaseref11_Parse_R, 0, typecaseref11_Parse_L1 N N⟩)] (bodyOf Tryd.f29) := (typecaseref11_Parse_T1_ok N).snoc (π := [0, 1, 1, 1, 1, 1]) (b := ((subAt (bodyOf Tryd.f29) [0, 0, 1, 1, 1, 1, 1]).getD .skip)) (inn := typecaseref11_Parse_L1i) (out := typecaseref11_Parse_L1o) (ret := typecaseref11_Parse_R) (xid := 0) (n := N) (step := fun x k => typecaseref11_Parse_L1s N x.1.1 x.1.2.1 x.1.2.2.1 x.2.1 x.2.2.1 x.2.2.2.1 k) (by kernel_rfl) (fun x k => typecaseref11_Parse_L1_eq N x k)
def typecaseref11_Parse (N : Nat) (l0 : List Tok) : Option ((List Nod × List Tok × Int × Int × Int) × PUnit) :=
  bindX (typecaseref11_Parse_L1 N N ((l0, true, 0, ()), (([], [], 0, 0, 0), ()), [], [], ()))
    (fun y => some ((y.snd.fst.fst.fst, y.snd.fst.fst.snd.fst, y.snd.fst.fst.snd.snd.fst, y.snd.fst.fst.snd.snd.snd.fst, y.snd.fst.fst.snd.snd.snd.snd), ()))
    fun y => some ((y.snd.fst.fst.fst, y.snd.fst.fst.snd.fst, y.snd.fst.fst.snd.snd.fst, y.snd.fst.fst.snd.snd.snd.fst, y.snd.fst.fst.snd.snd.snd.snd), ())
theorem typecaseref11_Parse_eq (N : Nat) (x : VD [(.slice .tok)]) : runF (typecaseref11_Parse_T2 N) (bodyOf Tryd.f29) [(.slice .tok)] [(.pair (.slice .nod) (.pair (.slice .tok) (.pair (.int .i64) (.pair (.int .i64) (.int .i64)))))] (Tryd.f29).results.toList x = typecaseref11_Parse N x.1 := by kernel_rfl
def typecaseref11_Parse_e (N : Nat) : Ent := ⟨29, [(.slice .tok)], [(.pair (.slice .nod) (.pair (.slice .tok) (.pair (.int .i64) (.pair (.int .i64) (.int .i64)))))], fun x => typecaseref11_Parse N x.1⟩
theorem typecaseref11_Parse_ok (N : Nat) : EntOk CC.P CC.gs (typecaseref11_Parse_e N) := (typecaseref11_Parse_T2_ok N).ent (fn := Tryd.f29) Tryd.func29 (by kernel_rfl) (by kernel_rfl) (fun vs w => Tryd.call29 vs w) (fun x => typecaseref11_Parse_eq N x)
def typecaselaw12_EvalTexts_R : Sh := ⟨[8], [.v .bool], [], []⟩
noncomputable def typecaselaw12_EvalTexts_T0 (N : Nat) : Tab := tab 0 46 [typecaselaw12_awake_e N, typecaselaw12_same_e N, typecaseref10_Lines_e N, typecaseref11_Parse_e N] [] [] []
theorem typecaselaw12_EvalTexts_T0_ok (N : Nat) : TabOk CC 0 46 [typecaselaw12_awake_e N, typecaselaw12_same_e N, typecaseref10_Lines_e N, typecaseref11_Parse_e N] [] [] [] (bodyOf Tryd.f7) := .nil CC_as ⟨typecaselaw12_awake_ok N, typecaselaw12_same_ok N, typecaseref10_Lines_ok N, typecaseref11_Parse_ok N, trivial⟩ trivial trivial
def typecaselaw12_EvalTexts (N : Nat) (s0 : List UInt8) (syms1 : List Sym) (place2 : Int) (early3 : Bool) : Option (Bool × PUnit) :=
  bindI (typecaselaw12_awake N) fun y =>
    bif !y.fst then some (false, ())
    else
      bindI (bif decide (300 < (↑(List.length s0) : Int)) then some true else some (decide (100 < (↑(List.length syms1) : Int)))) fun y =>
        bif y then some (true, ())
        else
          bif (List.length s0).ble 4294967296 then
            bindI (typecaseref10_Lines N (bytesOf s0)) fun y =>
              bif decide (0 < y.snd.fst.snd.snd) then some (true, ())
              else
                bindI (geti y.fst 0) fun y =>
                  bindI (typecaseref11_Parse N y) fun y =>
                    bindI
                      (bif decide (0 < y.fst.snd.snd.snd.snd) then some true else bindI (typecaselaw12_same N y.fst.fst syms1 place2 early3) fun y => some y.fst)
                      fun y => some (y, ())
          else none
theorem typecaselaw12_EvalTexts_eq (N : Nat) (x : VD [.str, (.slice .sym), (.int .u32), .bool]) : runF (typecaselaw12_EvalTexts_T0 N) (bodyOf Tryd.f7) [.str, (.slice .sym), (.int .u32), .bool] [.bool] (Tryd.f7).results.toList x = typecaselaw12_EvalTexts N x.1 x.2.1 x.2.2.1 x.2.2.2.1 := by kernel_rfl
def typecaselaw12_EvalTexts_e (N : Nat) : Ent := ⟨7, [.str, (.slice .sym), (.int .u32), .bool], [.bool], fun x => typecaselaw12_EvalTexts N x.1 x.2.1 x.2.2.1 x.2.2.2.1⟩
theorem typecaselaw12_EvalTexts_ok (N : Nat) : EntOk CC.P CC.gs (typecaselaw12_EvalTexts_e N) := (typecaselaw12_EvalTexts_T0_ok N).ent (fn := Tryd.f7) Tryd.func7 (by kernel_rfl) (by kernel_rfl) (fun vs w => Tryd.call7 vs w) (fun x => typecaselaw12_EvalTexts_eq N x)
def typecaselaw12_EvalEarly_R : Sh := ⟨[8], [.v .bool], [], []⟩
noncomputable def typecaselaw12_EvalEarly_T0 (N : Nat) : Tab := tab 0 66 [typecaselaw12_awake_e N, eval_Value_e N, typecaselaw12_Syms_e N] [] [] []
theorem typecaselaw12_EvalEarly_T0_ok (N : Nat) : TabOk CC 0 66 [typecaselaw12_awake_e N, eval_Value_e N, typecaselaw12_Syms_e N] [] [] [] (bodyOf Tryd.f8) := .nil CC_as ⟨typecaselaw12_awake_ok N, eval_Value_ok N, typecaselaw12_Syms_ok N, trivial⟩ trivial trivial
def typecaselaw12_EvalEarly (N : Nat) (l0 : List Nod) (syms1 : List Sym) (a2 : Int) (b3 : Int) : Option (Bool × PUnit) :=
  bindI (typecaselaw12_awake N) fun y =>
    bif !y.fst then some (false, ())
    else
      bindI (bif decide (300 < (↑(List.length l0) : Int)) then some true else some (decide (100 < (↑(List.length syms1) : Int)))) fun y =>
        bif y then some (true, ())
        else
          bindI (typecaselaw12_Syms N syms1) fun y =>
            bindI (eval_Value N l0 y.fst a2 true) fun y =>
              Err.el y.snd.snd.fst
                (bindI (typecaselaw12_Syms N syms1) fun y_1 =>
                  bindI (eval_Value N l0 y_1.fst b3 false) fun y_2 =>
                    Err.el y_2.snd.snd.fst
                      (bindI (bif decide (y.snd.fst = 0) then some (decide (y_2.snd.fst = 0)) else some false) fun y_3 =>
                        bindI (bif y_3 then some true else some false) fun y_4 =>
                          bindI (bif y_4 then some (decide (y.fst = y_2.fst)) else some false) fun y => some (y, ()))
                      (fun _y =>
                        bindI (bif decide (y.snd.fst = 0) then some (decide (y_2.snd.fst = 0)) else some false) fun y_3 =>
                          bindI (bif y_3 then some false else some false) fun y_4 =>
                            bindI (bif y_4 then some (decide (y.fst = y_2.fst)) else some false) fun y => some (y, ()))
                      fun _y _y_1 _y_2 =>
                      bindI (bif decide (y.snd.fst = 0) then some (decide (y_2.snd.fst = 0)) else some false) fun y_3 =>
                        bindI (bif y_3 then some false else some false) fun y_4 =>
                          bindI (bif y_4 then some (decide (y.fst = y_2.fst)) else some false) fun y => some (y, ()))
                (fun _y => bindI (bif decide (y.fst = 0) then some (decide (y.snd.fst = 0)) else some false) fun y => some (y, ())) fun _y _y_1 _y_2 =>
                bindI (bif decide (y.fst = 0) then some (decide (y.snd.fst = 0)) else some false) fun y => some (y, ())
theorem typecaselaw12_EvalEarly_eq (N : Nat) (x : VD [(.slice .nod), (.slice .sym), (.int .u32), (.int .u32)]) : runF (typecaselaw12_EvalEarly_T0 N) (bodyOf Tryd.f8) [(.slice .nod), (.slice .sym), (.int .u32), (.int .u32)] [.bool] (Tryd.f8).results.toList x = typecaselaw12_EvalEarly N x.1 x.2.1 x.2.2.1 x.2.2.2.1 := by kernel_rfl
def typecaselaw12_EvalEarly_e (N : Nat) : Ent := ⟨8, [(.slice .nod), (.slice .sym), (.int .u32), (.int .u32)], [.bool], fun x => typecaselaw12_EvalEarly N x.1 x.2.1 x.2.2.1 x.2.2.2.1⟩
theorem typecaselaw12_EvalEarly_ok (N : Nat) : EntOk CC.P CC.gs (typecaselaw12_EvalEarly_e N) := (typecaselaw12_EvalEarly_T0_ok N).ent (fn := Tryd.f8) Tryd.func8 (by kernel_rfl) (by kernel_rfl) (fun vs w => Tryd.call8 vs w) (fun x => typecaselaw12_EvalEarly_eq N x)
def typecaselaw12_EvalMoves_R : Sh := ⟨[8], [.v .bool], [], []⟩
noncomputable def typecaselaw12_EvalMoves_T0 (N : Nat) : Tab := tab 0 129 [typecaselaw12_awake_e N, eval_Value_e N, typecaselaw12_Syms_e N] [] [] []
theorem typecaselaw12_EvalMoves_T0_ok (N : Nat) : TabOk CC 0 129 [typecaselaw12_awake_e N, eval_Value_e N, typecaselaw12_Syms_e N] [] [] [] (bodyOf Tryd.f9) := .nil CC_as ⟨typecaselaw12_awake_ok N, eval_Value_ok N, typecaselaw12_Syms_ok N, trivial⟩ trivial trivial
def typecaselaw12_EvalMoves_L0i : Sh := ⟨[0, 1, 2, 3, 10, 11], [.v (.slice .nod), .v (.slice .sym), .v (.int .u32), .v (.int .u32), .r (.row 0), .v (.int .i64)], [.row .sym], [.tmp 10 .sym]⟩
def typecaselaw12_EvalMoves_L0o : Sh := ⟨[0, 1, 2, 3, 10], [.v (.slice .nod), .v (.slice .sym), .v (.int .u32), .v (.int .u32), .r (.row 0)], [.row .sym], [.tmp 10 .sym]⟩
def typecaselaw12_EvalMoves_L0s (_N : Nat) (l0 : List Nod) (syms1 : List Sym) (place2 : Int) (by3 : Int) (i11 : Int) (moved10 : List Sym) (k : LD typecaselaw12_EvalMoves_L0i.2 × OL typecaselaw12_EvalMoves_L0i.3 → Option (Ex (LD typecaselaw12_EvalMoves_L0o.2 × OL typecaselaw12_EvalMoves_L0o.3) (LD typecaselaw12_EvalMoves_R.2 × OL typecaselaw12_EvalMoves_R.3))) : Option (Ex (LD typecaselaw12_EvalMoves_L0o.2 × OL typecaselaw12_EvalMoves_L0o.3) (LD typecaselaw12_EvalMoves_R.2 × OL typecaselaw12_EvalMoves_R.3)) :=
  bif decide (i11 < (↑(List.length syms1) : Int)) then
    bindI (geti syms1 i11) fun y =>
      bif !decide (y.cls = 0) then
        bif (moved10 ++ [{ name := y.name, value := IntKind.u32.wrap (y.value + by3), cls := y.cls : Sym }]).length.ble 4294967296 then
          k
            ((l0, syms1, place2, by3, IntKind.i64.wrap (i11 + 1), ()),
              moved10 ++ [{ name := y.name, value := IntKind.u32.wrap (y.value + by3), cls := y.cls : Sym }], ())
        else none
      else
        bif (moved10 ++ [{ name := y.name, value := y.value, cls := y.cls : Sym }]).length.ble 4294967296 then
          k ((l0, syms1, place2, by3, IntKind.i64.wrap (i11 + 1), ()), moved10 ++ [{ name := y.name, value := y.value, cls := y.cls : Sym }], ())
        else none
  else some (Ex.out ((l0, syms1, place2, by3, ()), moved10, ()))
def typecaselaw12_EvalMoves_L0 (N : Nat) : Nat → typecaselaw12_EvalMoves_L0i.D → Option (Ex typecaselaw12_EvalMoves_L0o.D typecaselaw12_EvalMoves_R.D) := loopN fun x k => typecaselaw12_EvalMoves_L0s N x.1.1 x.1.2.1 x.1.2.2.1 x.1.2.2.2.1 x.1.2.2.2.2.1 x.2.1 k
theorem typecaselaw12_EvalMoves_L0_succ (N f : Nat) (x : typecaselaw12_EvalMoves_L0i.D) : typecaselaw12_EvalMoves_L0 N (f + 1) x = typecaselaw12_EvalMoves_L0s N x.1.1 x.1.2.1 x.1.2.2.1 x.1.2.2.2.1 x.1.2.2.2.2.1 x.2.1 (typecaselaw12_EvalMoves_L0 N f) := rfl
theorem typecaselaw12_EvalMoves_L0_eq (N : Nat) (x : typecaselaw12_EvalMoves_L0i.D) (k : typecaselaw12_EvalMoves_L0i.D → Option (Ex typecaselaw12_EvalMoves_L0o.D typecaselaw12_EvalMoves_R.D)) : stepL (typecaselaw12_EvalMoves_T0 N) typecaselaw12_EvalMoves_L0i typecaselaw12_EvalMoves_L0o typecaselaw12_EvalMoves_R 2 ((subAt (bodyOf Tryd.f9) [0, 0, 1, 0, 1, 1, 1, 1, 1]).getD .skip) [0, 1, 0, 1, 1, 1, 1, 1] x k = typecaselaw12_EvalMoves_L0s N x.1.1 x.1.2.1 x.1.2.2.1 x.1.2.2.2.1 x.1.2.2.2.2.1 x.2.1 k := by kernel_rfl
noncomputable def typecaselaw12_EvalMoves_T1 (N : Nat) : Tab := tab 0 129 [typecaselaw12_awake_e N, eval_Value_e N, typecaselaw12_Syms_e N] [] [] [([0, 1, 0, 1, 1, 1, 1, 1], ⟨typecaselaw12_EvalMoves_L0i, typecaselaw12_EvalMoves_L0o, typecaselaw12_EvalMoves_R, 2, typecaselaw12_EvalMoves_L0 N N⟩)]
theorem typecaselaw12_EvalMoves_T1_ok (N : Nat) : TabOk CC 0 129 [typecaselaw12_awake_e N, eval_Value_e N, typecaselaw12_Syms_e N] [] [] [([0, 1, 0, 1, 1, 1, 1, 1], ⟨typecaselaw12_EvalMoves_L0i, typecaselaw12_EvalMoves_L0o, typecaselaw12_EvalMoves_R, 2, typecaselaw12_EvalMoves_L0 N N⟩)] (bodyOf Tryd.f9) := (typecaselaw12_EvalMoves_T0_ok N).snoc (π := [0, 1, 0, 1, 1, 1, 1, 1]) (b := ((subAt (bodyOf Tryd.f9) [0, 0, 1, 0, 1, 1, 1, 1, 1]).getD .skip)) (inn := typecaselaw12_EvalMoves_L0i) (out := typecaselaw12_EvalMoves_L0o) (ret := typecaselaw12_EvalMoves_R) (xid := 2) (n := N) (step := fun x k => typecaselaw12_EvalMoves_L0s N x.1.1 x.1.2.1 x.1.2.2.1 x.1.2.2.2.1 x.1.2.2.2.2.1 x.2.1 k) (by kernel_rfl) (fun x k => typecaselaw12_EvalMoves_L0_eq N x k)
def typecaselaw12_EvalMoves_L1i : Sh := ⟨[0, 1, 2, 3, 9], [.v (.slice .nod), .v (.slice .sym), .v (.int .u32), .v (.int .u32), .v (.int .i64)], [], []⟩
def typecaselaw12_EvalMoves_L1o : Sh := ⟨[0, 1, 2, 3], [.v (.slice .nod), .v (.slice .sym), .v (.int .u32), .v (.int .u32)], [], []⟩
def typecaselaw12_EvalMoves_L1s (_N : Nat) (l0 : List Nod) (syms1 : List Sym) (place2 : Int) (by3 : Int) (i9 : Int) (k : LD typecaselaw12_EvalMoves_L1i.2 × OL typecaselaw12_EvalMoves_L1i.3 → Option (Ex (LD typecaselaw12_EvalMoves_L1o.2 × OL typecaselaw12_EvalMoves_L1o.3) (LD typecaselaw12_EvalMoves_R.2 × OL typecaselaw12_EvalMoves_R.3))) : Option (Ex (LD typecaselaw12_EvalMoves_L1o.2 × OL typecaselaw12_EvalMoves_L1o.3) (LD typecaselaw12_EvalMoves_R.2 × OL typecaselaw12_EvalMoves_R.3)) :=
  bif decide (i9 < (↑(List.length l0) : Int)) then
    bindI (geti l0 i9) fun y =>
      bindI (bif decide (y.kind = 6) then some true else bindI (geti l0 i9) fun y => some (decide (y.kind = 7))) fun y =>
        bindI (bif y then some true else bindI (geti l0 i9) fun y => some (decide (y.kind = 8))) fun y =>
          bif y then some (Ex.ret ((true, ()), ())) else k ((l0, syms1, place2, by3, IntKind.i64.wrap (i9 + 1), ()), ())
  else some (Ex.out ((l0, syms1, place2, by3, ()), ()))
def typecaselaw12_EvalMoves_L1 (N : Nat) : Nat → typecaselaw12_EvalMoves_L1i.D → Option (Ex typecaselaw12_EvalMoves_L1o.D typecaselaw12_EvalMoves_R.D) := loopN fun x k => typecaselaw12_EvalMoves_L1s N x.1.1 x.1.2.1 x.1.2.2.1 x.1.2.2.2.1 x.1.2.2.2.2.1 k
theorem typecaselaw12_EvalMoves_L1_succ (N f : Nat) (x : typecaselaw12_EvalMoves_L1i.D) : typecaselaw12_EvalMoves_L1 N (f + 1) x = typecaselaw12_EvalMoves_L1s N x.1.1 x.1.2.1 x.1.2.2.1 x.1.2.2.2.1 x.1.2.2.2.2.1 (typecaselaw12_EvalMoves_L1 N f) := rfl
theorem typecaselaw12_EvalMoves_L1_eq (N : Nat) (x : typecaselaw12_EvalMoves_L1i.D) (k : typecaselaw12_EvalMoves_L1i.D → Option (Ex typecaselaw12_EvalMoves_L1o.D typecaselaw12_EvalMoves_R.D)) : stepL (typecaselaw12_EvalMoves_T1 N) typecaselaw12_EvalMoves_L1i typecaselaw12_EvalMoves_L1o typecaselaw12_EvalMoves_R 0 ((subAt (bodyOf Tryd.f9) [0, 0, 1, 0, 1, 1, 1]).getD .skip) [0, 1, 0, 1, 1, 1] x k = typecaselaw12_EvalMoves_L1s N x.1.1 x.1.2.1 x.1.2.2.1 x.1.2.2.2.1 x.1.2.2.2.2.1 k := by kernel_rfl
noncomputable def typecaselaw12_EvalMoves_T2 (N : Nat) : Tab := tab 0 129 [typecaselaw12_awake_e N, eval_Value_e N, typecaselaw12_Syms_e N] [] [] [([0, 1, 0, 1, 1, 1, 1, 1], ⟨typecaselaw12_EvalMoves_L0i, typecaselaw12_EvalMoves_L0o, typecaselaw12_EvalMoves_R, 2, typecaselaw12_EvalMoves_L0 N N⟩), ([0, 1, 0, 1, 1, 1], ⟨typecaselaw12_EvalMoves_L1i, typecaselaw12_EvalMoves_L1o, typecaselaw12_EvalMoves_R, 0, typecaselaw12_EvalMoves_L1 N N⟩)]
theorem typecaselaw12_EvalMoves_T2_ok (N : Nat) : TabOk CC 0 129 [typecaselaw12_awake_e N, eval_Value_e N, typecaselaw12_Syms_e N] [] [] [([0, 1, 0, 1, 1, 1, 1, 1], ⟨typecaselaw12_EvalMoves_L0i, typecaselaw12_EvalMoves_L0o, typecaselaw12_EvalMoves_R, 2, typecaselaw12_EvalMoves_L0 N N⟩), ([0, 1, 0, 1, 1, 1], ⟨typecaselaw12_EvalMoves_L1i, typecaselaw12_EvalMoves_L1o, typecaselaw12_EvalMoves_R, 0, typecaselaw12_EvalMoves_L1 N N⟩)] (bodyOf Tryd.f9) := (typecaselaw12_EvalMoves_T1_ok N).snoc (π := [0, 1, 0, 1, 1, 1]) (b := ((subAt (bodyOf Tryd.f9) [0, 0, 1, 0, 1, 1, 1]).getD .skip)) (inn := typecaselaw12_EvalMoves_L1i) (out := typecaselaw12_EvalMoves_L1o) (ret := typecaselaw12_EvalMoves_R) (xid := 0) (n := N) (step := fun x k => typecaselaw12_EvalMoves_L1s N x.1.1 x.1.2.1 x.1.2.2.1 x.1.2.2.2.1 x.1.2.2.2.2.1 k) (by kernel_rfl) (fun x k => typecaselaw12_EvalMoves_L1_eq N x k)
def typecaselaw12_EvalMoves (N : Nat) (l0 : List Nod) (syms1 : List Sym) (place2 : Int) (by3 : Int) : Option (Bool × PUnit) :=
  bindI (typecaselaw12_awake N) fun y =>
    bif !y.fst then some (false, ())
    else
      bindI (bif decide (300 < (↑(List.length l0) : Int)) then some true else some (decide (100 < (↑(List.length syms1) : Int)))) fun y =>
        bif y then some (true, ())
        else
          bindX (typecaselaw12_EvalMoves_L1 N N ((l0, syms1, place2, by3, 0, ()), ()))
            (fun y =>
              bindX (typecaselaw12_EvalMoves_L0 N N ((y.fst.fst, y.fst.snd.fst, y.fst.snd.snd.fst, y.fst.snd.snd.snd.fst, 0, ()), [], ()))
                (fun y =>
                  bindI (typecaselaw12_Syms N y.fst.snd.fst) fun y_1 =>
                    bindI (eval_Value N y.fst.fst y_1.fst y.fst.snd.snd.fst false) fun y_2 =>
                      Err.el y_2.snd.snd.fst
                        (bindI (typecaselaw12_Syms N y.snd.fst) fun y_3 =>
                          bindI (eval_Value N y.fst.fst y_3.fst (IntKind.u32.wrap (y.fst.snd.snd.fst + y.fst.snd.snd.snd.fst)) false) fun y_4 =>
                            Err.el y_4.snd.snd.fst
                              (bif decide (y_2.snd.fst = 1) then
                                bindI
                                  (bif decide (y_4.snd.fst = 1) then some (decide (y_4.fst = IntKind.u32.wrap (y_2.fst + y.fst.snd.snd.snd.fst))) else some false)
                                  fun y => some (y, ())
                              else bindI (bif decide (y_4.snd.fst = 0) then some (decide (y_4.fst = y_2.fst)) else some false) fun y => some (y, ()))
                              (fun _y => some (false, ())) fun _y _y_1 _y_2 => some (false, ()))
                        (fun _y =>
                          bindI (typecaselaw12_Syms N y.snd.fst) fun y_3 =>
                            bindI (eval_Value N y.fst.fst y_3.fst (IntKind.u32.wrap (y.fst.snd.snd.fst + y.fst.snd.snd.snd.fst)) false) fun y =>
                              Err.el y.snd.snd.fst (some (!true, ())) (fun _y => some (!false, ())) fun _y _y_1 _y_2 => some (!false, ()))
                        fun _y _y_1 _y_2 =>
                        bindI (typecaselaw12_Syms N y.snd.fst) fun y_3 =>
                          bindI (eval_Value N y.fst.fst y_3.fst (IntKind.u32.wrap (y.fst.snd.snd.fst + y.fst.snd.snd.snd.fst)) false) fun y =>
                            Err.el y.snd.snd.fst (some (!true, ())) (fun _y => some (!false, ())) fun _y _y_3 _y_4 => some (!false, ()))
                fun y => some (y.fst.fst, ()))
            fun y => some (y.fst.fst, ())
theorem typecaselaw12_EvalMoves_eq (N : Nat) (x : VD [(.slice .nod), (.slice .sym), (.int .u32), (.int .u32)]) : runF (typecaselaw12_EvalMoves_T2 N) (bodyOf Tryd.f9) [(.slice .nod), (.slice .sym), (.int .u32), (.int .u32)] [.bool] (Tryd.f9).results.toList x = typecaselaw12_EvalMoves N x.1 x.2.1 x.2.2.1 x.2.2.2.1 := by kernel_rfl
def typecaselaw12_EvalMoves_e (N : Nat) : Ent := ⟨9, [(.slice .nod), (.slice .sym), (.int .u32), (.int .u32)], [.bool], fun x => typecaselaw12_EvalMoves N x.1 x.2.1 x.2.2.1 x.2.2.2.1⟩
theorem typecaselaw12_EvalMoves_ok (N : Nat) : EntOk CC.P CC.gs (typecaselaw12_EvalMoves_e N) := (typecaselaw12_EvalMoves_T2_ok N).ent (fn := Tryd.f9) Tryd.func9 (by kernel_rfl) (by kernel_rfl) (fun vs w => Tryd.call9 vs w) (fun x => typecaselaw12_EvalMoves_eq N x)
def typecaselaw12_EvalHalves_R : Sh := ⟨[2], [.v .bool], [], []⟩
noncomputable def typecaselaw12_EvalHalves_T0 (N : Nat) : Tab := tab 0 78 [typecaselaw12_awake_e N, eval_Value_e N] [] [] []
theorem typecaselaw12_EvalHalves_T0_ok (N : Nat) : TabOk CC 0 78 [typecaselaw12_awake_e N, eval_Value_e N] [] [] [] (bodyOf Tryd.f10) := .nil CC_as ⟨typecaselaw12_awake_ok N, eval_Value_ok N, trivial⟩ trivial trivial
def typecaselaw12_EvalHalves (N : Nat) (v0 : Int) : Option (Bool × PUnit) :=
  bindI (typecaselaw12_awake N) fun y =>
    bif !y.fst then some (false, ())
    else
      bindI
        (eval_Value N
          [{ kind := 1, line := 0, col := 0, num := v0, name := [] : Nod }, { kind := 6, line := 0, col := 0, num := 0, name := [] : Nod },
            { kind := 1, line := 0, col := 0, num := 12, name := [] : Nod }, { kind := 13, line := 0, col := 0, num := 0, name := [] : Nod },
            { kind := 1, line := 0, col := 0, num := v0, name := [] : Nod }, { kind := 7, line := 0, col := 0, num := 0, name := [] : Nod },
            { kind := 9, line := 0, col := 0, num := 0, name := [] : Nod }]
          [] 0 true)
        fun y =>
        Err.el y.snd.snd.fst
          (bindI
            (eval_Value N
              [{ kind := 1, line := 0, col := 0, num := v0, name := [] : Nod }, { kind := 5, line := 0, col := 0, num := 0, name := [] : Nod },
                { kind := 1, line := 0, col := 0, num := 1, name := [] : Nod }, { kind := 9, line := 0, col := 0, num := 0, name := [] : Nod }]
              [] 0 true)
            fun y_1 =>
            Err.el y_1.snd.snd.fst
              (bindI
                (eval_Value N [{ kind := 1, line := 0, col := 0, num := v0, name := [] : Nod }, { kind := 4, line := 0, col := 0, num := 0, name := [] : Nod }] []
                  0 true)
                fun y_2 =>
                Err.el y_2.snd.snd.fst
                  (bindI (bif decide (y.fst = v0) then some (decide (y_1.fst = y_2.fst)) else some false) fun y =>
                    bindI (bif y then some (decide (IntKind.u32.wrap (y_1.fst + v0) = 0)) else some false) fun y => some (y, ()))
                  (fun _y => some (false, ())) fun _y _y_1 _y_2 => some (false, ()))
              (fun _y =>
                bindI
                  (eval_Value N [{ kind := 1, line := 0, col := 0, num := v0, name := [] : Nod }, { kind := 4, line := 0, col := 0, num := 0, name := [] : Nod }]
                    [] 0 true)
                  fun y => Err.el y.snd.snd.fst (some (false, ())) (fun _y => some (false, ())) fun _y _y_1 _y_2 => some (false, ()))
              fun _y _y_1 _y_2 =>
              bindI
                (eval_Value N [{ kind := 1, line := 0, col := 0, num := v0, name := [] : Nod }, { kind := 4, line := 0, col := 0, num := 0, name := [] : Nod }] []
                  0 true)
                fun y => Err.el y.snd.snd.fst (some (false, ())) (fun _y => some (false, ())) fun _y _y_3 _y_4 => some (false, ()))
          (fun _y =>
            bindI
              (eval_Value N
                [{ kind := 1, line := 0, col := 0, num := v0, name := [] : Nod }, { kind := 5, line := 0, col := 0, num := 0, name := [] : Nod },
                  { kind := 1, line := 0, col := 0, num := 1, name := [] : Nod }, { kind := 9, line := 0, col := 0, num := 0, name := [] : Nod }]
                [] 0 true)
              fun y =>
              Err.el y.snd.snd.fst
                (bindI
                  (eval_Value N [{ kind := 1, line := 0, col := 0, num := v0, name := [] : Nod }, { kind := 4, line := 0, col := 0, num := 0, name := [] : Nod }]
                    [] 0 true)
                  fun y => Err.el y.snd.snd.fst (some (false, ())) (fun _y => some (false, ())) fun _y _y_1 _y_2 => some (false, ()))
                (fun _y =>
                  bindI
                    (eval_Value N
                      [{ kind := 1, line := 0, col := 0, num := v0, name := [] : Nod }, { kind := 4, line := 0, col := 0, num := 0, name := [] : Nod }] [] 0 true)
                    fun y => Err.el y.snd.snd.fst (some (false, ())) (fun _y => some (false, ())) fun _y _y_1 _y_2 => some (false, ()))
                fun _y _y_1 _y_2 =>
                bindI
                  (eval_Value N [{ kind := 1, line := 0, col := 0, num := v0, name := [] : Nod }, { kind := 4, line := 0, col := 0, num := 0, name := [] : Nod }]
                    [] 0 true)
                  fun y => Err.el y.snd.snd.fst (some (false, ())) (fun _y => some (false, ())) fun _y _y_3 _y_4 => some (false, ()))
          fun _y _y_1 _y_2 =>
          bindI
            (eval_Value N
              [{ kind := 1, line := 0, col := 0, num := v0, name := [] : Nod }, { kind := 5, line := 0, col := 0, num := 0, name := [] : Nod },
                { kind := 1, line := 0, col := 0, num := 1, name := [] : Nod }, { kind := 9, line := 0, col := 0, num := 0, name := [] : Nod }]
              [] 0 true)
            fun y =>
            Err.el y.snd.snd.fst
              (bindI
                (eval_Value N [{ kind := 1, line := 0, col := 0, num := v0, name := [] : Nod }, { kind := 4, line := 0, col := 0, num := 0, name := [] : Nod }] []
                  0 true)
                fun y => Err.el y.snd.snd.fst (some (false, ())) (fun _y => some (false, ())) fun _y _y_3 _y_4 => some (false, ()))
              (fun _y =>
                bindI
                  (eval_Value N [{ kind := 1, line := 0, col := 0, num := v0, name := [] : Nod }, { kind := 4, line := 0, col := 0, num := 0, name := [] : Nod }]
                    [] 0 true)
                  fun y => Err.el y.snd.snd.fst (some (false, ())) (fun _y => some (false, ())) fun _y _y_3 _y_4 => some (false, ()))
              fun _y _y_3 _y_4 =>
              bindI
                (eval_Value N [{ kind := 1, line := 0, col := 0, num := v0, name := [] : Nod }, { kind := 4, line := 0, col := 0, num := 0, name := [] : Nod }] []
                  0 true)
                fun y => Err.el y.snd.snd.fst (some (false, ())) (fun _y => some (false, ())) fun _y _y_5 _y_6 => some (false, ())
theorem typecaselaw12_EvalHalves_eq (N : Nat) (x : VD [(.int .u32)]) : runF (typecaselaw12_EvalHalves_T0 N) (bodyOf Tryd.f10) [(.int .u32)] [.bool] (Tryd.f10).results.toList x = typecaselaw12_EvalHalves N x.1 := by kernel_rfl
def typecaselaw12_EvalHalves_e (N : Nat) : Ent := ⟨10, [(.int .u32)], [.bool], fun x => typecaselaw12_EvalHalves N x.1⟩
theorem typecaselaw12_EvalHalves_ok (N : Nat) : EntOk CC.P CC.gs (typecaselaw12_EvalHalves_e N) := (typecaselaw12_EvalHalves_T0_ok N).ent (fn := Tryd.f10) Tryd.func10 (by kernel_rfl) (by kernel_rfl) (fun vs w => Tryd.call10 vs w) (fun x => typecaselaw12_EvalHalves_eq N x)
end Go.Proofs.YtppobdnacmdgbaaDoor

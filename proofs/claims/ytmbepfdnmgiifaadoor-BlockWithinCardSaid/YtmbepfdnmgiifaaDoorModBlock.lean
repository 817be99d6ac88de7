/- The functions' models, printed by the driver; each with its proof. -/
import Derived.Test.YtmbepfdnmgiifaaDoorBase
namespace Go.Proofs.YtmbepfdnmgiifaaDoor
open Go Go.Up
set_option maxRecDepth 100000
def block_KindOf_R : Sh := ⟨[2], [.v (.int .i64)], [], []⟩
noncomputable def block_KindOf_T0 (N : Nat) : Tab := tab 31 [] [] []
theorem block_KindOf_T0_ok (N : Nat) : TabOk CC 31 [] [] [] (bodyOf Tryd.f13) := .nil CC_as trivial trivial
def block_KindOf (N : Nat) (l0 : List Tok) : Option (Int × PUnit) :=
  bindI (bif decide ((↑(List.length l0) : Int) = 0) then some true else bindI (geti l0 0) fun y => some !decide (y.kind = 1)) fun y =>
    bif y then some (0, ())
    else
      bindI (geti l0 0) fun y =>
        bif List.beq y.text [UInt8.ofNat 46, UInt8.ofNat 109, UInt8.ofNat 97, UInt8.ofNat 99, UInt8.ofNat 114, UInt8.ofNat 111] then some (1, ())
        else
          bif List.beq y.text [UInt8.ofNat 46, UInt8.ofNat 101, UInt8.ofNat 110, UInt8.ofNat 100, UInt8.ofNat 109] then some (2, ())
          else
            bif List.beq y.text [UInt8.ofNat 46, UInt8.ofNat 114, UInt8.ofNat 101, UInt8.ofNat 112, UInt8.ofNat 116] then some (3, ())
            else
              bif List.beq y.text [UInt8.ofNat 46, UInt8.ofNat 101, UInt8.ofNat 110, UInt8.ofNat 100, UInt8.ofNat 114] then some (4, ())
              else
                bif List.beq y.text [UInt8.ofNat 46, UInt8.ofNat 105, UInt8.ofNat 102] then some (5, ())
                else
                  bif List.beq y.text [UInt8.ofNat 46, UInt8.ofNat 101, UInt8.ofNat 108, UInt8.ofNat 115, UInt8.ofNat 101] then some (6, ())
                  else
                    bif List.beq y.text [UInt8.ofNat 46, UInt8.ofNat 101, UInt8.ofNat 110, UInt8.ofNat 100, UInt8.ofNat 105, UInt8.ofNat 102] then some (7, ())
                    else some (0, ())
theorem block_KindOf_eq (N : Nat) (x : VD [(.slice .tok)]) : runF (block_KindOf_T0 N) (bodyOf Tryd.f13) [(.slice .tok)] [(.int .i64)] (Tryd.f13).results.toList x = block_KindOf N x.1 := by kernel_rfl
def block_KindOf_e (N : Nat) : Ent := ⟨13, [(.slice .tok)], [(.int .i64)], fun x => block_KindOf N x.1⟩
theorem block_KindOf_ok (N : Nat) : EntOk CC.P CC.gs (block_KindOf_e N) := (block_KindOf_T0_ok N).ent (fn := Tryd.f13) Tryd.func13 (by kernel_rfl) (by kernel_rfl) (fun vs w => Tryd.call13 vs w) (fun x => block_KindOf_eq N x)
def block_fault_R : Sh := ⟨[2], [.v (.err 74 87)], [], []⟩
noncomputable def block_fault_T0 (N : Nat) : Tab := tab 22 [] [] []
theorem block_fault_T0_ok (N : Nat) : TabOk CC 22 [] [] [] (bodyOf Tryd.f29) := .nil CC_as trivial trivial
def block_fault (N : Nat) (l0 : List Tok) : Option (Err × PUnit) :=
  bif decide ((↑(List.length l0) : Int) = 0) then some (Err.fault 0 0 15, ())
  else bindI (geti l0 0) fun y => bindI (geti l0 0) fun y_1 => some (Err.fault y.line y_1.col 15, ())
theorem block_fault_eq (N : Nat) (x : VD [(.slice .tok)]) : runF (block_fault_T0 N) (bodyOf Tryd.f29) [(.slice .tok)] [(.err 74 87)] (Tryd.f29).results.toList x = block_fault N x.1 := by kernel_rfl
def block_fault_e (N : Nat) : Ent := ⟨29, [(.slice .tok)], [(.err 74 87)], fun x => block_fault N x.1⟩
theorem block_fault_ok (N : Nat) : EntOk CC.P CC.gs (block_fault_e N) := (block_fault_T0_ok N).ent (fn := Tryd.f29) Tryd.func29 (by kernel_rfl) (by kernel_rfl) (fun vs w => Tryd.call29 vs w) (fun x => block_fault_eq N x)
noncomputable def m_block_stack__pop_i (N : Nat) : Inl := ⟨50, (bodyOf Tryd.f50), (Tryd.f50).results.toList, tab 16 [] [] []⟩
theorem m_block_stack__pop_iok (N : Nat) : InlOk CC.P (m_block_stack__pop_i N) := TabOk.inl (C := CC) (fn := Tryd.f50) (.nil CC_as trivial trivial) Tryd.func50 (by kernel_rfl) (fun vs w => Tryd.call50 vs w)
noncomputable def m_block_stack__line_i (N : Nat) : Inl := ⟨38, (bodyOf Tryd.f38), (Tryd.f38).results.toList, tab 73 [] [m_block_stack__pop_i N] []⟩
theorem m_block_stack__line_iok (N : Nat) : InlOk CC.P (m_block_stack__line_i N) := TabOk.inl (C := CC) (fn := Tryd.f38) (.nil CC_as trivial ⟨m_block_stack__pop_iok N, trivial⟩) Tryd.func38 (by kernel_rfl) (fun vs w => Tryd.call38 vs w)
def block_find_R : Sh := ⟨[4, 5, 6], [.r (.ptr 0 0), .v (.int .i64), .v (.err 74 87)], [.box [.v (.pair (.int .i64) (.int .i64))]], []⟩
noncomputable def block_find_T0 (N : Nat) : Tab := tab 59 [block_KindOf_e N, block_fault_e N] [m_block_stack__line_i N] []
theorem block_find_T0_ok (N : Nat) : TabOk CC 59 [block_KindOf_e N, block_fault_e N] [m_block_stack__line_i N] [] (bodyOf Tryd.f30) := .nil CC_as ⟨block_KindOf_ok N, block_fault_ok N, trivial⟩ ⟨m_block_stack__line_iok N, trivial⟩
def block_find_L0i : Sh := ⟨[0, 1, 4, 7, 8], [.v (.slice (.slice .tok)), .v (.int .i64), .r (.ptr 0 0), .r (.arr 1), .v (.int .i64)], [.box [.v (.pair (.int .i64) (.int .i64))], .arr (.pair (.int .i64) (.int .i64))], [.arr 7 (.pair (.int .i64) (.int .i64))]⟩
def block_find_L0o : Sh := ⟨[0, 1, 4], [.v (.slice (.slice .tok)), .v (.int .i64), .r (.ptr 0 0)], [.box [.v (.pair (.int .i64) (.int .i64))]], []⟩
def block_find_L0s (N : Nat) (lines0 : List (List Tok)) (at1 : Int) (i8 : Int) (x4 : (Int × Int) × PUnit) (s7 : List (Int × Int)) (k : LD block_find_L0i.2 × OL block_find_L0i.3 → Option (Ex (LD block_find_L0o.2 × OL block_find_L0o.3) (LD block_find_R.2 × OL block_find_R.3))) : Option (Ex (LD block_find_L0o.2 × OL block_find_L0o.3) (LD block_find_R.2 × OL block_find_R.3)) :=
  bif decide (i8 < (↑(List.length lines0) : Int)) then
    bindI (geti lines0 i8) fun y =>
      bindI (block_KindOf N y) fun y_1 =>
        bif inB (IntKind.i64.wrap ((↑s7.length : Int) - 1)) s7.length then
          bindI s7[(IntKind.i64.wrap ((↑s7.length : Int) - 1)).toNat]? fun y_2 =>
            bif decide (y_1.fst = 1) then
              bif (s7 ++ [(y_1.fst, -1)]).length.ble 4294967296 then
                bif decide ((↑(s7 ++ [(y_1.fst, -1)]).length : Int) = 0) then some (Ex.ret ((i8, Err.nil, ()), ((0, 0), ()), ()))
                else k ((lines0, at1, IntKind.i64.wrap (i8 + 1), ()), ((x4.fst.fst, x4.fst.snd), ()), s7 ++ [(y_1.fst, -1)], ())
              else none
            else
              bif decide (y_1.fst = 3) then
                bif (s7 ++ [(y_1.fst, -1)]).length.ble 4294967296 then
                  bif decide ((↑(s7 ++ [(y_1.fst, -1)]).length : Int) = 0) then some (Ex.ret ((i8, Err.nil, ()), ((0, 0), ()), ()))
                  else k ((lines0, at1, IntKind.i64.wrap (i8 + 1), ()), ((x4.fst.fst, x4.fst.snd), ()), s7 ++ [(y_1.fst, -1)], ())
                else none
              else
                bif decide (y_1.fst = 5) then
                  bif (s7 ++ [(y_1.fst, -1)]).length.ble 4294967296 then
                    bif decide ((↑(s7 ++ [(y_1.fst, -1)]).length : Int) = 0) then some (Ex.ret ((i8, Err.nil, ()), ((0, 0), ()), ()))
                    else k ((lines0, at1, IntKind.i64.wrap (i8 + 1), ()), ((x4.fst.fst, x4.fst.snd), ()), s7 ++ [(y_1.fst, -1)], ())
                  else none
                else
                  bif decide (y_1.fst = 6) then
                    bindI (bif !decide (y_2.fst = 5) then some true else some (decide (0 ≤ y_2.snd))) fun y_3 =>
                      bif y_3 then
                        bindI (geti lines0 i8) fun y =>
                          bindI (block_fault N y) fun y =>
                            Err.el y.fst (some (Ex.ret ((0, Err.nil, ()), ((0, 0), ()), ()))) (fun c => some (Ex.ret ((0, Err.code c, ()), ((0, 0), ()), ())))
                              fun l c k => some (Ex.ret ((0, Err.fault l c k, ()), ((0, 0), ()), ()))
                      else
                        bif inB (IntKind.i64.wrap ((↑s7.length : Int) - 1)) s7.length then
                          bindI s7[(IntKind.i64.wrap ((↑s7.length : Int) - 1)).toNat]? fun y_4 =>
                            bif decide ((↑(s7.set (IntKind.i64.wrap ((↑s7.length : Int) - 1)).toNat (y_4.fst, i8)).length : Int) = 0) then
                              some (Ex.ret ((i8, Err.nil, ()), ((0, 0), ()), ()))
                            else
                              k
                                ((lines0, at1, IntKind.i64.wrap (i8 + 1), ()), ((x4.fst.fst, x4.fst.snd), ()),
                                  s7.set (IntKind.i64.wrap ((↑s7.length : Int) - 1)).toNat (y_4.fst, i8), ())
                        else none
                  else
                    bif decide (y_1.fst = 0) then
                      bif decide ((↑s7.length : Int) = 0) then some (Ex.ret ((i8, Err.nil, ()), ((0, 0), ()), ()))
                      else k ((lines0, at1, IntKind.i64.wrap (i8 + 1), ()), ((x4.fst.fst, x4.fst.snd), ()), s7, ())
                    else
                      bif decide (y_1.fst = 2) then
                        bif !decide (y_2.fst = IntKind.i64.wrap (y_1.fst - 1)) then
                          bindI (geti lines0 i8) fun y =>
                            bindI (block_fault N y) fun y =>
                              Err.el y.fst (some (Ex.ret ((0, Err.nil, ()), ((0, 0), ()), ()))) (fun c => some (Ex.ret ((0, Err.code c, ()), ((0, 0), ()), ())))
                                fun l c k => some (Ex.ret ((0, Err.fault l c k, ()), ((0, 0), ()), ()))
                        else
                          bif inB (IntKind.i64.wrap ((↑s7.length : Int) - 1)) s7.length then
                            bindI s7[(IntKind.i64.wrap ((↑s7.length : Int) - 1)).toNat]? fun y =>
                              bif inC (IntKind.i64.wrap ((↑s7.length : Int) - 1)) s7.length then
                                bif
                                    decide ((↑(IntKind.i64.wrap ((↑s7.length : Int) - 1)).toNat : Int) ≤ IntKind.i64.wrap ((↑s7.length : Int) - 1)) &&
                                      decide (IntKind.i64.wrap ((↑s7.length : Int) - 1) ≤ (↑s7.length : Int)) then
                                  bif decide ((↑(IntKind.i64.wrap ((↑s7.length : Int) - 1)).toNat : Int) = 0) then
                                    some (Ex.ret ((i8, Err.nil, ()), ((y.fst, y.snd), ()), ()))
                                  else
                                    bindI
                                      (bif (IntKind.i64.wrap ((↑s7.length : Int) - 1)).toNat.ble s7.length then
                                        some
                                          ((lines0, at1, IntKind.i64.wrap (i8 + 1), ()), ((x4.fst.fst, x4.fst.snd), ()),
                                            List.take (IntKind.i64.wrap ((↑s7.length : Int) - 1)).toNat s7, ())
                                      else none)
                                      fun y => k y
                                else none
                              else none
                          else none
                      else
                        bif decide (y_1.fst = 4) then
                          bif !decide (y_2.fst = IntKind.i64.wrap (y_1.fst - 1)) then
                            bindI (geti lines0 i8) fun y =>
                              bindI (block_fault N y) fun y =>
                                Err.el y.fst (some (Ex.ret ((0, Err.nil, ()), ((0, 0), ()), ()))) (fun c => some (Ex.ret ((0, Err.code c, ()), ((0, 0), ()), ())))
                                  fun l c k => some (Ex.ret ((0, Err.fault l c k, ()), ((0, 0), ()), ()))
                          else
                            bif inB (IntKind.i64.wrap ((↑s7.length : Int) - 1)) s7.length then
                              bindI s7[(IntKind.i64.wrap ((↑s7.length : Int) - 1)).toNat]? fun y =>
                                bif inC (IntKind.i64.wrap ((↑s7.length : Int) - 1)) s7.length then
                                  bif
                                      decide ((↑(IntKind.i64.wrap ((↑s7.length : Int) - 1)).toNat : Int) ≤ IntKind.i64.wrap ((↑s7.length : Int) - 1)) &&
                                        decide (IntKind.i64.wrap ((↑s7.length : Int) - 1) ≤ (↑s7.length : Int)) then
                                    bif decide ((↑(IntKind.i64.wrap ((↑s7.length : Int) - 1)).toNat : Int) = 0) then
                                      some (Ex.ret ((i8, Err.nil, ()), ((y.fst, y.snd), ()), ()))
                                    else
                                      bindI
                                        (bif (IntKind.i64.wrap ((↑s7.length : Int) - 1)).toNat.ble s7.length then
                                          some
                                            ((lines0, at1, IntKind.i64.wrap (i8 + 1), ()), ((x4.fst.fst, x4.fst.snd), ()),
                                              List.take (IntKind.i64.wrap ((↑s7.length : Int) - 1)).toNat s7, ())
                                        else none)
                                        fun y => k y
                                  else none
                                else none
                            else none
                        else
                          bif !decide (y_2.fst = 5) then
                            bindI (geti lines0 i8) fun y =>
                              bindI (block_fault N y) fun y =>
                                Err.el y.fst (some (Ex.ret ((0, Err.nil, ()), ((0, 0), ()), ()))) (fun c => some (Ex.ret ((0, Err.code c, ()), ((0, 0), ()), ())))
                                  fun l c k => some (Ex.ret ((0, Err.fault l c k, ()), ((0, 0), ()), ()))
                          else
                            bif inB (IntKind.i64.wrap ((↑s7.length : Int) - 1)) s7.length then
                              bindI s7[(IntKind.i64.wrap ((↑s7.length : Int) - 1)).toNat]? fun y =>
                                bif inC (IntKind.i64.wrap ((↑s7.length : Int) - 1)) s7.length then
                                  bif
                                      decide ((↑(IntKind.i64.wrap ((↑s7.length : Int) - 1)).toNat : Int) ≤ IntKind.i64.wrap ((↑s7.length : Int) - 1)) &&
                                        decide (IntKind.i64.wrap ((↑s7.length : Int) - 1) ≤ (↑s7.length : Int)) then
                                    bif decide ((↑(IntKind.i64.wrap ((↑s7.length : Int) - 1)).toNat : Int) = 0) then
                                      some (Ex.ret ((i8, Err.nil, ()), ((y.fst, y.snd), ()), ()))
                                    else
                                      bindI
                                        (bif (IntKind.i64.wrap ((↑s7.length : Int) - 1)).toNat.ble s7.length then
                                          some
                                            ((lines0, at1, IntKind.i64.wrap (i8 + 1), ()), ((x4.fst.fst, x4.fst.snd), ()),
                                              List.take (IntKind.i64.wrap ((↑s7.length : Int) - 1)).toNat s7, ())
                                        else none)
                                        fun y => k y
                                  else none
                                else none
                            else none
        else none
  else some (Ex.out ((lines0, at1, ()), ((x4.fst.fst, x4.fst.snd), ()), ()))
def block_find_L0 (N : Nat) : Nat → block_find_L0i.D → Option (Ex block_find_L0o.D block_find_R.D) := loopN fun x k => block_find_L0s N x.1.1 x.1.2.1 x.1.2.2.1 x.2.1 x.2.2.1 k
theorem block_find_L0_succ (N f : Nat) (x : block_find_L0i.D) : block_find_L0 N (f + 1) x = block_find_L0s N x.1.1 x.1.2.1 x.1.2.2.1 x.2.1 x.2.2.1 (block_find_L0 N f) := rfl
theorem block_find_L0_eq (N : Nat) (x : block_find_L0i.D) (k : block_find_L0i.D → Option (Ex block_find_L0o.D block_find_R.D)) : stepL (block_find_T0 N) block_find_L0i block_find_L0o block_find_R 0 ((subAt (bodyOf Tryd.f30) [0, 0, 1, 0, 1, 1]).getD .skip) [0, 1, 0, 1, 1] x k = block_find_L0s N x.1.1 x.1.2.1 x.1.2.2.1 x.2.1 x.2.2.1 k := by kernel_rfl
noncomputable def block_find_T1 (N : Nat) : Tab := tab 59 [block_KindOf_e N, block_fault_e N] [m_block_stack__line_i N] [([0, 1, 0, 1, 1], ⟨block_find_L0i, block_find_L0o, block_find_R, 0, block_find_L0 N N⟩)]
theorem block_find_T1_ok (N : Nat) : TabOk CC 59 [block_KindOf_e N, block_fault_e N] [m_block_stack__line_i N] [([0, 1, 0, 1, 1], ⟨block_find_L0i, block_find_L0o, block_find_R, 0, block_find_L0 N N⟩)] (bodyOf Tryd.f30) := (block_find_T0_ok N).snoc (π := [0, 1, 0, 1, 1]) (b := ((subAt (bodyOf Tryd.f30) [0, 0, 1, 0, 1, 1]).getD .skip)) (inn := block_find_L0i) (out := block_find_L0o) (ret := block_find_R) (xid := 0) (n := N) (step := fun x k => block_find_L0s N x.1.1 x.1.2.1 x.1.2.2.1 x.2.1 x.2.2.1 k) (by kernel_rfl) (fun x k => block_find_L0_eq N x k)
def block_find (N : Nat) (lines0 : List (List Tok)) (at1 : Int) : Option ((Int × Int) × Int × Err × PUnit) :=
  bindI (geti lines0 at1) fun y =>
    bindI (block_KindOf N y) fun y =>
      bindX (block_find_L0 N N ((lines0, at1, IntKind.i64.wrap (at1 + 1), ()), ((0, 0), ()), [(y.fst, -1)], ()))
        (fun y =>
          bindI (geti y.fst.fst y.fst.snd.fst) fun y =>
            bindI (block_fault N y) fun y =>
              Err.el y.fst (some ((0, 0), 0, Err.nil, ())) (fun c => some ((0, 0), 0, Err.code c, ())) fun l c k => some ((0, 0), 0, Err.fault l c k, ()))
        fun y =>
        Err.el y.fst.snd.fst (some ((y.snd.fst.fst.fst, y.snd.fst.fst.snd), y.fst.fst, Err.nil, ()))
          (fun c => some ((y.snd.fst.fst.fst, y.snd.fst.fst.snd), y.fst.fst, Err.code c, ())) fun l c k =>
          some ((y.snd.fst.fst.fst, y.snd.fst.fst.snd), y.fst.fst, Err.fault l c k, ())
theorem block_find_eq (N : Nat) (x : VD [(.slice (.slice .tok)), (.int .i64)]) : runF (block_find_T1 N) (bodyOf Tryd.f30) [(.slice (.slice .tok)), (.int .i64)] [(.pair (.int .i64) (.int .i64)), (.int .i64), (.err 74 87)] (Tryd.f30).results.toList x = block_find N x.1 x.2.1 := by kernel_rfl
def block_find_e (N : Nat) : Ent := ⟨30, [(.slice (.slice .tok)), (.int .i64)], [(.pair (.int .i64) (.int .i64)), (.int .i64), (.err 74 87)], fun x => block_find N x.1 x.2.1⟩
theorem block_find_ok (N : Nat) : EntOk CC.P CC.gs (block_find_e N) := (block_find_T1_ok N).ent (fn := Tryd.f30) Tryd.func30 (by kernel_rfl) (by kernel_rfl) (fun vs w => Tryd.call30 vs w) (fun x => block_find_eq N x)
def block_End_R : Sh := ⟨[4, 5, 6], [.v (.int .i64), .v (.int .i64), .v (.err 74 87)], [], []⟩
noncomputable def block_End_T0 (N : Nat) : Tab := tab 47 [block_KindOf_e N, block_fault_e N, block_find_e N] [] []
theorem block_End_T0_ok (N : Nat) : TabOk CC 47 [block_KindOf_e N, block_fault_e N, block_find_e N] [] [] (bodyOf Tryd.f12) := .nil CC_as ⟨block_KindOf_ok N, block_fault_ok N, block_find_ok N, trivial⟩ trivial
def block_End (N : Nat) (lines0 : List (List Tok)) (at1 : Int) : Option (Int × Int × Err × PUnit) :=
  bindI (bif decide (at1 < 0) then some true else some (decide ((↑(List.length lines0) : Int) ≤ at1))) fun y =>
    bif y then some (0, 0, Err.fault 0 0 15, ())
    else
      bindI (geti lines0 at1) fun y =>
        bindI (block_KindOf N y) fun y =>
          bif decide (y.fst = 1) then
            bindI (block_find N lines0 at1) fun y =>
              Err.el y.snd.snd.fst (some (y.snd.fst, y.fst.snd, Err.nil, ())) (fun c => none) fun l c k => some (0, 0, Err.fault l c k, ())
          else
            bif decide (y.fst = 3) then
              bindI (block_find N lines0 at1) fun y =>
                Err.el y.snd.snd.fst (some (y.snd.fst, y.fst.snd, Err.nil, ())) (fun c => none) fun l c k => some (0, 0, Err.fault l c k, ())
            else
              bif decide (y.fst = 5) then
                bindI (block_find N lines0 at1) fun y =>
                  Err.el y.snd.snd.fst (some (y.snd.fst, y.fst.snd, Err.nil, ())) (fun c => none) fun l c k => some (0, 0, Err.fault l c k, ())
              else
                bindI (geti lines0 at1) fun y =>
                  bindI (block_fault N y) fun y =>
                    Err.el y.fst (some (0, 0, Err.nil, ())) (fun c => some (0, 0, Err.code c, ())) fun l c k => some (0, 0, Err.fault l c k, ())
theorem block_End_eq (N : Nat) (x : VD [(.slice (.slice .tok)), (.int .i64)]) : runF (block_End_T0 N) (bodyOf Tryd.f12) [(.slice (.slice .tok)), (.int .i64)] [(.int .i64), (.int .i64), (.err 74 87)] (Tryd.f12).results.toList x = block_End N x.1 x.2.1 := by kernel_rfl
def block_End_e (N : Nat) : Ent := ⟨12, [(.slice (.slice .tok)), (.int .i64)], [(.int .i64), (.int .i64), (.err 74 87)], fun x => block_End N x.1 x.2.1⟩
theorem block_End_ok (N : Nat) : EntOk CC.P CC.gs (block_End_e N) := (block_End_T0_ok N).ent (fn := Tryd.f12) Tryd.func12 (by kernel_rfl) (by kernel_rfl) (fun vs w => Tryd.call12 vs w) (fun x => block_End_eq N x)
def typecaselaw10_Fault_R : Sh := ⟨[2], [.r (.ptr 0 0)], [.box [.v (.pair (.int .i64) (.pair (.int .i64) (.int .i64)))]], []⟩
noncomputable def typecaselaw10_Fault_T0 (N : Nat) : Tab := tab 37 [errors_Is_e N] [] []
theorem typecaselaw10_Fault_T0_ok (N : Nat) : TabOk CC 37 [errors_Is_e N] [] [] (bodyOf Tryd.f22) := .nil CC_as ⟨errors_Is_ok N, trivial⟩ trivial
def typecaselaw10_Fault_L0i : Sh := ⟨[2, 3, 4], [.r (.ptr 0 0), .r (.ptr 1 0), .v (.int .i64)], [.box [.v (.pair (.int .i64) (.pair (.int .i64) (.int .i64)))], .box [.v (.flt 87)]], []⟩
def typecaselaw10_Fault_L0o : Sh := ⟨[2], [.r (.ptr 0 0)], [.box [.v (.pair (.int .i64) (.pair (.int .i64) (.int .i64)))]], []⟩
def typecaselaw10_Fault_L0s (N : Nat) (c4 : Int) (x2 : (Int × Int × Int) × PUnit) (f3 : Flt × PUnit) (k : LD typecaselaw10_Fault_L0i.2 × OL typecaselaw10_Fault_L0i.3 → Option (Ex (LD typecaselaw10_Fault_L0o.2 × OL typecaselaw10_Fault_L0o.3) (LD typecaselaw10_Fault_R.2 × OL typecaselaw10_Fault_R.3))) : Option (Ex (LD typecaselaw10_Fault_L0o.2 × OL typecaselaw10_Fault_L0o.3) (LD typecaselaw10_Fault_R.2 × OL typecaselaw10_Fault_R.3)) :=
  Flt.el f3.fst (bif decide (c4 ≤ 16) then none else some (Ex.out ((), ((x2.fst.fst, x2.fst.snd.fst, x2.fst.snd.snd), ()), ()))) fun l c k_1 =>
    bif decide (c4 ≤ 16) then
      bif decide (k_1 = c4) then some (Ex.ret ((), ((l, c, c4), ()), ()))
      else k ((IntKind.i64.wrap (c4 + 1), ()), ((x2.fst.fst, x2.fst.snd.fst, x2.fst.snd.snd), ()), (Flt.at l c k_1, ()), ())
    else some (Ex.out ((), ((x2.fst.fst, x2.fst.snd.fst, x2.fst.snd.snd), ()), ()))
def typecaselaw10_Fault_L0 (N : Nat) : Nat → typecaselaw10_Fault_L0i.D → Option (Ex typecaselaw10_Fault_L0o.D typecaselaw10_Fault_R.D) := loopN fun x k => typecaselaw10_Fault_L0s N x.1.1 x.2.1 x.2.2.1 k
theorem typecaselaw10_Fault_L0_succ (N f : Nat) (x : typecaselaw10_Fault_L0i.D) : typecaselaw10_Fault_L0 N (f + 1) x = typecaselaw10_Fault_L0s N x.1.1 x.2.1 x.2.2.1 (typecaselaw10_Fault_L0 N f) := rfl
theorem typecaselaw10_Fault_L0_eq (N : Nat) (x : typecaselaw10_Fault_L0i.D) (k : typecaselaw10_Fault_L0i.D → Option (Ex typecaselaw10_Fault_L0o.D typecaselaw10_Fault_R.D)) : stepL (typecaselaw10_Fault_T0 N) typecaselaw10_Fault_L0i typecaselaw10_Fault_L0o typecaselaw10_Fault_R 0 ((subAt (bodyOf Tryd.f22) [0, 0, 1, 0, 1, 1, 1, 1]).getD .skip) [0, 1, 0, 1, 1, 1, 1] x k = typecaselaw10_Fault_L0s N x.1.1 x.2.1 x.2.2.1 k := by kernel_rfl
noncomputable def typecaselaw10_Fault_T1 (N : Nat) : Tab := tab 37 [errors_Is_e N] [] [([0, 1, 0, 1, 1, 1, 1], ⟨typecaselaw10_Fault_L0i, typecaselaw10_Fault_L0o, typecaselaw10_Fault_R, 0, typecaselaw10_Fault_L0 N N⟩)]
theorem typecaselaw10_Fault_T1_ok (N : Nat) : TabOk CC 37 [errors_Is_e N] [] [([0, 1, 0, 1, 1, 1, 1], ⟨typecaselaw10_Fault_L0i, typecaselaw10_Fault_L0o, typecaselaw10_Fault_R, 0, typecaselaw10_Fault_L0 N N⟩)] (bodyOf Tryd.f22) := (typecaselaw10_Fault_T0_ok N).snoc (π := [0, 1, 0, 1, 1, 1, 1]) (b := ((subAt (bodyOf Tryd.f22) [0, 0, 1, 0, 1, 1, 1, 1]).getD .skip)) (inn := typecaselaw10_Fault_L0i) (out := typecaselaw10_Fault_L0o) (ret := typecaselaw10_Fault_R) (xid := 0) (n := N) (step := fun x k => typecaselaw10_Fault_L0s N x.1.1 x.2.1 x.2.2.1 k) (by kernel_rfl) (fun x k => typecaselaw10_Fault_L0_eq N x k)
def typecaselaw10_Fault (N : Nat) (e0 : Err) : Option ((Int × Int × Int) × PUnit) :=
  Err.el e0 (some ((0, 0, 0), ())) (fun c => none) fun l c k =>
    bindX (typecaselaw10_Fault_L0 N N ((1, ()), ((0, 0, 0), ()), (Flt.at l c k, ()), ())) (fun y => some ((-1, 0, 0), ())) fun y =>
      some ((y.snd.fst.fst.fst, y.snd.fst.fst.snd.fst, y.snd.fst.fst.snd.snd), ())
theorem typecaselaw10_Fault_eq (N : Nat) (x : VD [(.err 74 87)]) : runF (typecaselaw10_Fault_T1 N) (bodyOf Tryd.f22) [(.err 74 87)] [(.pair (.int .i64) (.pair (.int .i64) (.int .i64)))] (Tryd.f22).results.toList x = typecaselaw10_Fault N x.1 := by kernel_rfl
def typecaselaw10_Fault_e (N : Nat) : Ent := ⟨22, [(.err 74 87)], [(.pair (.int .i64) (.pair (.int .i64) (.int .i64)))], fun x => typecaselaw10_Fault N x.1⟩
theorem typecaselaw10_Fault_ok (N : Nat) : EntOk CC.P CC.gs (typecaselaw10_Fault_e N) := (typecaselaw10_Fault_T1_ok N).ent (fn := Tryd.f22) Tryd.func22 (by kernel_rfl) (by kernel_rfl) (fun vs w => Tryd.call22 vs w) (fun x => typecaselaw10_Fault_eq N x)
def typecaseref10_in_R : Sh := ⟨[4], [.v .bool], [], []⟩
noncomputable def typecaseref10_in_T0 (N : Nat) : Tab := tab 17 [] [] []
theorem typecaseref10_in_T0_ok (N : Nat) : TabOk CC 17 [] [] [] (bodyOf Tryd.f48) := .nil CC_as trivial trivial
def typecaseref10_in_L0i : Sh := ⟨[0, 1, 5], [.v (.int .u8), .v .str, .v (.int .i64)], [], []⟩
def typecaseref10_in_L0o : Sh := ⟨[], [], [], []⟩
def typecaseref10_in_L0s (N : Nat) (c0 : Int) (s1 : List UInt8) (i5 : Int) (k : LD typecaseref10_in_L0i.2 × OL typecaseref10_in_L0i.3 → Option (Ex (LD typecaseref10_in_L0o.2 × OL typecaseref10_in_L0o.3) (LD typecaseref10_in_R.2 × OL typecaseref10_in_R.3))) : Option (Ex (LD typecaseref10_in_L0o.2 × OL typecaseref10_in_L0o.3) (LD typecaseref10_in_R.2 × OL typecaseref10_in_R.3)) :=
  bif decide (i5 < (↑(List.length s1) : Int)) then
    bindI (geti s1 i5) fun y => bif decide ((↑y.toNat : Int) = c0) then some (Ex.ret ((true, ()), ())) else k ((c0, s1, IntKind.i64.wrap (i5 + 1), ()), ())
  else some (Ex.out ((), ()))
def typecaseref10_in_L0 (N : Nat) : Nat → typecaseref10_in_L0i.D → Option (Ex typecaseref10_in_L0o.D typecaseref10_in_R.D) := loopN fun x k => typecaseref10_in_L0s N x.1.1 x.1.2.1 x.1.2.2.1 k
theorem typecaseref10_in_L0_succ (N f : Nat) (x : typecaseref10_in_L0i.D) : typecaseref10_in_L0 N (f + 1) x = typecaseref10_in_L0s N x.1.1 x.1.2.1 x.1.2.2.1 (typecaseref10_in_L0 N f) := rfl
theorem typecaseref10_in_L0_eq (N : Nat) (x : typecaseref10_in_L0i.D) (k : typecaseref10_in_L0i.D → Option (Ex typecaseref10_in_L0o.D typecaseref10_in_R.D)) : stepL (typecaseref10_in_T0 N) typecaseref10_in_L0i typecaseref10_in_L0o typecaseref10_in_R 0 ((subAt (bodyOf Tryd.f48) [0, 0, 1, 0, 1]).getD .skip) [0, 1, 0, 1] x k = typecaseref10_in_L0s N x.1.1 x.1.2.1 x.1.2.2.1 k := by kernel_rfl
noncomputable def typecaseref10_in_T1 (N : Nat) : Tab := tab 17 [] [] [([0, 1, 0, 1], ⟨typecaseref10_in_L0i, typecaseref10_in_L0o, typecaseref10_in_R, 0, typecaseref10_in_L0 N N⟩)]
theorem typecaseref10_in_T1_ok (N : Nat) : TabOk CC 17 [] [] [([0, 1, 0, 1], ⟨typecaseref10_in_L0i, typecaseref10_in_L0o, typecaseref10_in_R, 0, typecaseref10_in_L0 N N⟩)] (bodyOf Tryd.f48) := (typecaseref10_in_T0_ok N).snoc (π := [0, 1, 0, 1]) (b := ((subAt (bodyOf Tryd.f48) [0, 0, 1, 0, 1]).getD .skip)) (inn := typecaseref10_in_L0i) (out := typecaseref10_in_L0o) (ret := typecaseref10_in_R) (xid := 0) (n := N) (step := fun x k => typecaseref10_in_L0s N x.1.1 x.1.2.1 x.1.2.2.1 k) (by kernel_rfl) (fun x k => typecaseref10_in_L0_eq N x k)
def typecaseref10_in (N : Nat) (c0 : Int) (s1 : List UInt8) : Option (Bool × PUnit) :=
  bindX (typecaseref10_in_L0 N N ((c0, s1, 0, ()), ())) (fun y => some (false, ())) fun y => some (y.fst.fst, ())
theorem typecaseref10_in_eq (N : Nat) (x : VD [(.int .u8), .str]) : runF (typecaseref10_in_T1 N) (bodyOf Tryd.f48) [(.int .u8), .str] [.bool] (Tryd.f48).results.toList x = typecaseref10_in N x.1 x.2.1 := by kernel_rfl
def typecaseref10_in_e (N : Nat) : Ent := ⟨48, [(.int .u8), .str], [.bool], fun x => typecaseref10_in N x.1 x.2.1⟩
theorem typecaseref10_in_ok (N : Nat) : EntOk CC.P CC.gs (typecaseref10_in_e N) := (typecaseref10_in_T1_ok N).ent (fn := Tryd.f48) Tryd.func48 (by kernel_rfl) (by kernel_rfl) (fun vs w => Tryd.call48 vs w) (fun x => typecaseref10_in_eq N x)
def typecaseref10_while_R : Sh := ⟨[4], [.v (.int .i64)], [], []⟩
noncomputable def typecaseref10_while_T0 (N : Nat) : Tab := tab 20 [typecaseref10_in_e N] [] []
theorem typecaseref10_while_T0_ok (N : Nat) : TabOk CC 20 [typecaseref10_in_e N] [] [] (bodyOf Tryd.f54) := .nil CC_as ⟨typecaseref10_in_ok N, trivial⟩ trivial
def typecaseref10_while_L0i : Sh := ⟨[0, 1, 5], [.v .str, .v .str, .v (.int .i64)], [], []⟩
def typecaseref10_while_L0o : Sh := ⟨[5], [.v (.int .i64)], [], []⟩
def typecaseref10_while_L0s (N : Nat) (s0 : List UInt8) (set1 : List UInt8) (n5 : Int) (k : LD typecaseref10_while_L0i.2 × OL typecaseref10_while_L0i.3 → Option (Ex (LD typecaseref10_while_L0o.2 × OL typecaseref10_while_L0o.3) (LD typecaseref10_while_R.2 × OL typecaseref10_while_R.3))) : Option (Ex (LD typecaseref10_while_L0o.2 × OL typecaseref10_while_L0o.3) (LD typecaseref10_while_R.2 × OL typecaseref10_while_R.3)) :=
  bindI
    (bif decide (n5 < (↑(List.length s0) : Int)) then bindI (geti s0 n5) fun y => bindI (typecaseref10_in N (↑y.toNat : Int) set1) fun y => some y.fst
    else some false)
    fun y => bif y then k ((s0, set1, IntKind.i64.wrap (n5 + 1), ()), ()) else some (Ex.out ((n5, ()), ()))
def typecaseref10_while_L0 (N : Nat) : Nat → typecaseref10_while_L0i.D → Option (Ex typecaseref10_while_L0o.D typecaseref10_while_R.D) := loopN fun x k => typecaseref10_while_L0s N x.1.1 x.1.2.1 x.1.2.2.1 k
theorem typecaseref10_while_L0_succ (N f : Nat) (x : typecaseref10_while_L0i.D) : typecaseref10_while_L0 N (f + 1) x = typecaseref10_while_L0s N x.1.1 x.1.2.1 x.1.2.2.1 (typecaseref10_while_L0 N f) := rfl
theorem typecaseref10_while_L0_eq (N : Nat) (x : typecaseref10_while_L0i.D) (k : typecaseref10_while_L0i.D → Option (Ex typecaseref10_while_L0o.D typecaseref10_while_R.D)) : stepL (typecaseref10_while_T0 N) typecaseref10_while_L0i typecaseref10_while_L0o typecaseref10_while_R 0 ((subAt (bodyOf Tryd.f54) [0, 0, 0, 1, 1]).getD .skip) [0, 0, 1, 1] x k = typecaseref10_while_L0s N x.1.1 x.1.2.1 x.1.2.2.1 k := by kernel_rfl
noncomputable def typecaseref10_while_T1 (N : Nat) : Tab := tab 20 [typecaseref10_in_e N] [] [([0, 0, 1, 1], ⟨typecaseref10_while_L0i, typecaseref10_while_L0o, typecaseref10_while_R, 0, typecaseref10_while_L0 N N⟩)]
theorem typecaseref10_while_T1_ok (N : Nat) : TabOk CC 20 [typecaseref10_in_e N] [] [([0, 0, 1, 1], ⟨typecaseref10_while_L0i, typecaseref10_while_L0o, typecaseref10_while_R, 0, typecaseref10_while_L0 N N⟩)] (bodyOf Tryd.f54) := (typecaseref10_while_T0_ok N).snoc (π := [0, 0, 1, 1]) (b := ((subAt (bodyOf Tryd.f54) [0, 0, 0, 1, 1]).getD .skip)) (inn := typecaseref10_while_L0i) (out := typecaseref10_while_L0o) (ret := typecaseref10_while_R) (xid := 0) (n := N) (step := fun x k => typecaseref10_while_L0s N x.1.1 x.1.2.1 x.1.2.2.1 k) (by kernel_rfl) (fun x k => typecaseref10_while_L0_eq N x k)
def typecaseref10_while (N : Nat) (s0 : List UInt8) (set1 : List UInt8) : Option (Int × PUnit) :=
  bindX (typecaseref10_while_L0 N N ((s0, set1, 0, ()), ())) (fun y => some (y.fst.fst, ())) fun y => some (y.fst.fst, ())
theorem typecaseref10_while_eq (N : Nat) (x : VD [.str, .str]) : runF (typecaseref10_while_T1 N) (bodyOf Tryd.f54) [.str, .str] [(.int .i64)] (Tryd.f54).results.toList x = typecaseref10_while N x.1 x.2.1 := by kernel_rfl
def typecaseref10_while_e (N : Nat) : Ent := ⟨54, [.str, .str], [(.int .i64)], fun x => typecaseref10_while N x.1 x.2.1⟩
theorem typecaseref10_while_ok (N : Nat) : EntOk CC.P CC.gs (typecaseref10_while_e N) := (typecaseref10_while_T1_ok N).ent (fn := Tryd.f54) Tryd.func54 (by kernel_rfl) (by kernel_rfl) (fun vs w => Tryd.call54 vs w) (fun x => typecaseref10_while_eq N x)
def typecaseref10_digit_R : Sh := ⟨[2], [.v (.int .u64)], [], []⟩
noncomputable def typecaseref10_digit_T0 (N : Nat) : Tab := tab 18 [] [] []
theorem typecaseref10_digit_T0_ok (N : Nat) : TabOk CC 18 [] [] [] (bodyOf Tryd.f59) := .nil CC_as trivial trivial
def typecaseref10_digit (N : Nat) (c0 : Int) : Option (Int × PUnit) :=
  bif decide (97 ≤ c0) then some (IntKind.u64.wrap (IntKind.u64.wrap (IntKind.u8.wrap (c0 - 97)) + 10), ())
  else
    bif decide (65 ≤ c0) then some (IntKind.u64.wrap (IntKind.u64.wrap (IntKind.u8.wrap (c0 - 65)) + 10), ())
    else some (IntKind.u64.wrap (IntKind.u8.wrap (c0 - 48)), ())
theorem typecaseref10_digit_eq (N : Nat) (x : VD [(.int .u8)]) : runF (typecaseref10_digit_T0 N) (bodyOf Tryd.f59) [(.int .u8)] [(.int .u64)] (Tryd.f59).results.toList x = typecaseref10_digit N x.1 := by kernel_rfl
def typecaseref10_digit_e (N : Nat) : Ent := ⟨59, [(.int .u8)], [(.int .u64)], fun x => typecaseref10_digit N x.1⟩
theorem typecaseref10_digit_ok (N : Nat) : EntOk CC.P CC.gs (typecaseref10_digit_e N) := (typecaseref10_digit_T0_ok N).ent (fn := Tryd.f59) Tryd.func59 (by kernel_rfl) (by kernel_rfl) (fun vs w => Tryd.call59 vs w) (fun x => typecaseref10_digit_eq N x)
def typecaseref10_numeral_R : Sh := ⟨[2, 3], [.v (.int .u32), .v (.int .i64)], [], []⟩
noncomputable def typecaseref10_numeral_T0 (N : Nat) : Tab := tab 67 [typecaseref10_in_e N, typecaseref10_while_e N, typecaseref10_digit_e N] [] []
theorem typecaseref10_numeral_T0_ok (N : Nat) : TabOk CC 67 [typecaseref10_in_e N, typecaseref10_while_e N, typecaseref10_digit_e N] [] [] (bodyOf Tryd.f55) := .nil CC_as ⟨typecaseref10_in_ok N, typecaseref10_while_ok N, typecaseref10_digit_ok N, trivial⟩ trivial
def typecaseref10_numeral_L0i : Sh := ⟨[0, 4, 7, 8, 9], [.v .str, .v (.int .u64), .v (.int .i64), .v (.int .u64), .v (.int .i64)], [], []⟩
def typecaseref10_numeral_L0o : Sh := ⟨[7, 8], [.v (.int .i64), .v (.int .u64)], [], []⟩
def typecaseref10_numeral_L0s (N : Nat) (s0 : List UInt8) (base4 : Int) (n7 : Int) (v8 : Int) (i9 : Int) (k : LD typecaseref10_numeral_L0i.2 × OL typecaseref10_numeral_L0i.3 → Option (Ex (LD typecaseref10_numeral_L0o.2 × OL typecaseref10_numeral_L0o.3) (LD typecaseref10_numeral_R.2 × OL typecaseref10_numeral_R.3))) : Option (Ex (LD typecaseref10_numeral_L0o.2 × OL typecaseref10_numeral_L0o.3) (LD typecaseref10_numeral_R.2 × OL typecaseref10_numeral_R.3)) :=
  bif decide (i9 < n7) then
    bindI (geti s0 i9) fun y =>
      bindI (typecaseref10_digit N (↑y.toNat : Int)) fun y =>
        bif decide (4294967296 ≤ IntKind.u64.wrap (IntKind.u64.wrap (v8 * base4) + y.fst)) then some (Ex.ret ((0, 0, ()), ()))
        else k ((s0, base4, n7, IntKind.u64.wrap (IntKind.u64.wrap (v8 * base4) + y.fst), IntKind.i64.wrap (i9 + 1), ()), ())
  else some (Ex.out ((n7, v8, ()), ()))
def typecaseref10_numeral_L0 (N : Nat) : Nat → typecaseref10_numeral_L0i.D → Option (Ex typecaseref10_numeral_L0o.D typecaseref10_numeral_R.D) := loopN fun x k => typecaseref10_numeral_L0s N x.1.1 x.1.2.1 x.1.2.2.1 x.1.2.2.2.1 x.1.2.2.2.2.1 k
theorem typecaseref10_numeral_L0_succ (N f : Nat) (x : typecaseref10_numeral_L0i.D) : typecaseref10_numeral_L0 N (f + 1) x = typecaseref10_numeral_L0s N x.1.1 x.1.2.1 x.1.2.2.1 x.1.2.2.2.1 x.1.2.2.2.2.1 (typecaseref10_numeral_L0 N f) := rfl
theorem typecaseref10_numeral_L0_eq (N : Nat) (x : typecaseref10_numeral_L0i.D) (k : typecaseref10_numeral_L0i.D → Option (Ex typecaseref10_numeral_L0o.D typecaseref10_numeral_R.D)) : stepL (typecaseref10_numeral_T0 N) typecaseref10_numeral_L0i typecaseref10_numeral_L0o typecaseref10_numeral_R 0 ((subAt (bodyOf Tryd.f55) [0, 0, 1, 0, 1, 1, 1, 1, 1, 1, 1]).getD .skip) [0, 1, 0, 1, 1, 1, 1, 1, 1, 1] x k = typecaseref10_numeral_L0s N x.1.1 x.1.2.1 x.1.2.2.1 x.1.2.2.2.1 x.1.2.2.2.2.1 k := by kernel_rfl
noncomputable def typecaseref10_numeral_T1 (N : Nat) : Tab := tab 67 [typecaseref10_in_e N, typecaseref10_while_e N, typecaseref10_digit_e N] [] [([0, 1, 0, 1, 1, 1, 1, 1, 1, 1], ⟨typecaseref10_numeral_L0i, typecaseref10_numeral_L0o, typecaseref10_numeral_R, 0, typecaseref10_numeral_L0 N N⟩)]
theorem typecaseref10_numeral_T1_ok (N : Nat) : TabOk CC 67 [typecaseref10_in_e N, typecaseref10_while_e N, typecaseref10_digit_e N] [] [([0, 1, 0, 1, 1, 1, 1, 1, 1, 1], ⟨typecaseref10_numeral_L0i, typecaseref10_numeral_L0o, typecaseref10_numeral_R, 0, typecaseref10_numeral_L0 N N⟩)] (bodyOf Tryd.f55) := (typecaseref10_numeral_T0_ok N).snoc (π := [0, 1, 0, 1, 1, 1, 1, 1, 1, 1]) (b := ((subAt (bodyOf Tryd.f55) [0, 0, 1, 0, 1, 1, 1, 1, 1, 1, 1]).getD .skip)) (inn := typecaseref10_numeral_L0i) (out := typecaseref10_numeral_L0o) (ret := typecaseref10_numeral_R) (xid := 0) (n := N) (step := fun x k => typecaseref10_numeral_L0s N x.1.1 x.1.2.1 x.1.2.2.1 x.1.2.2.2.1 x.1.2.2.2.2.1 k) (by kernel_rfl) (fun x k => typecaseref10_numeral_L0_eq N x k)
def typecaseref10_numeral (N : Nat) (s0 : List UInt8) : Option (Int × Int × PUnit) :=
  bindI
    (bif decide (1 < (↑(List.length s0) : Int)) then
      bif inC 2 (List.length s0) then some ((List.take (Int.toNat 2) s0).beq [UInt8.ofNat 48, UInt8.ofNat 120]) else none
    else some false)
    fun y =>
    bif y then
      bindI
        (bif decide (1 < (↑(List.length s0) : Int)) then
          bif inC 2 (List.length s0) then some ((List.take (Int.toNat 2) s0).beq [UInt8.ofNat 48, UInt8.ofNat 98]) else none
        else some false)
        fun y =>
        bif y then
          bif inC 2 (List.length s0) then
            bindI (typecaseref10_while N (List.drop (Int.toNat 2) s0) [UInt8.ofNat 48, UInt8.ofNat 49]) fun y =>
              bindI
                (bif decide (IntKind.i64.wrap (2 + y.fst) = 2) then some true
                else
                  bindI
                    (bif decide (IntKind.i64.wrap (2 + y.fst) < (↑(List.length s0) : Int)) then
                      bindI (geti s0 (IntKind.i64.wrap (2 + y.fst))) fun y =>
                        bindI
                          (typecaseref10_in N (↑y.toNat : Int)
                            [UInt8.ofNat 97, UInt8.ofNat 98, UInt8.ofNat 99, UInt8.ofNat 100, UInt8.ofNat 101, UInt8.ofNat 102, UInt8.ofNat 103, UInt8.ofNat 104,
                              UInt8.ofNat 105, UInt8.ofNat 106, UInt8.ofNat 107, UInt8.ofNat 108, UInt8.ofNat 109, UInt8.ofNat 110, UInt8.ofNat 111,
                              UInt8.ofNat 112, UInt8.ofNat 113, UInt8.ofNat 114, UInt8.ofNat 115, UInt8.ofNat 116, UInt8.ofNat 117, UInt8.ofNat 118,
                              UInt8.ofNat 119, UInt8.ofNat 120, UInt8.ofNat 121, UInt8.ofNat 122, UInt8.ofNat 65, UInt8.ofNat 66, UInt8.ofNat 67, UInt8.ofNat 68,
                              UInt8.ofNat 69, UInt8.ofNat 70, UInt8.ofNat 71, UInt8.ofNat 72, UInt8.ofNat 73, UInt8.ofNat 74, UInt8.ofNat 75, UInt8.ofNat 76,
                              UInt8.ofNat 77, UInt8.ofNat 78, UInt8.ofNat 79, UInt8.ofNat 80, UInt8.ofNat 81, UInt8.ofNat 82, UInt8.ofNat 83, UInt8.ofNat 84,
                              UInt8.ofNat 85, UInt8.ofNat 86, UInt8.ofNat 87, UInt8.ofNat 88, UInt8.ofNat 89, UInt8.ofNat 90, UInt8.ofNat 95, UInt8.ofNat 48,
                              UInt8.ofNat 49, UInt8.ofNat 50, UInt8.ofNat 51, UInt8.ofNat 52, UInt8.ofNat 53, UInt8.ofNat 54, UInt8.ofNat 55, UInt8.ofNat 56,
                              UInt8.ofNat 57, UInt8.ofNat 46, UInt8.ofNat 36])
                          fun y => some y.fst
                    else some false)
                    fun y => some y)
                fun y_1 =>
                bif y_1 then some (0, 0, ())
                else
                  bindX (typecaseref10_numeral_L0 N N ((s0, 2, IntKind.i64.wrap (2 + y.fst), 0, 2, ()), ()))
                    (fun y => some (IntKind.u32.wrap y.fst.snd.fst, y.fst.fst, ())) fun y => some (y.fst.fst, y.fst.snd.fst, ())
          else none
        else
          bif inC 2 (List.length s0) then
            bindI
              (typecaseref10_while N (List.drop (Int.toNat 2) s0)
                [UInt8.ofNat 48, UInt8.ofNat 49, UInt8.ofNat 50, UInt8.ofNat 51, UInt8.ofNat 52, UInt8.ofNat 53, UInt8.ofNat 54, UInt8.ofNat 55, UInt8.ofNat 56,
                  UInt8.ofNat 57, UInt8.ofNat 97, UInt8.ofNat 98, UInt8.ofNat 99, UInt8.ofNat 100, UInt8.ofNat 101, UInt8.ofNat 102, UInt8.ofNat 65,
                  UInt8.ofNat 66, UInt8.ofNat 67, UInt8.ofNat 68, UInt8.ofNat 69, UInt8.ofNat 70])
              fun y =>
              bindI
                (bif decide (IntKind.i64.wrap (2 + y.fst) = 2) then some true
                else
                  bindI
                    (bif decide (IntKind.i64.wrap (2 + y.fst) < (↑(List.length s0) : Int)) then
                      bindI (geti s0 (IntKind.i64.wrap (2 + y.fst))) fun y =>
                        bindI
                          (typecaseref10_in N (↑y.toNat : Int)
                            [UInt8.ofNat 97, UInt8.ofNat 98, UInt8.ofNat 99, UInt8.ofNat 100, UInt8.ofNat 101, UInt8.ofNat 102, UInt8.ofNat 103, UInt8.ofNat 104,
                              UInt8.ofNat 105, UInt8.ofNat 106, UInt8.ofNat 107, UInt8.ofNat 108, UInt8.ofNat 109, UInt8.ofNat 110, UInt8.ofNat 111,
                              UInt8.ofNat 112, UInt8.ofNat 113, UInt8.ofNat 114, UInt8.ofNat 115, UInt8.ofNat 116, UInt8.ofNat 117, UInt8.ofNat 118,
                              UInt8.ofNat 119, UInt8.ofNat 120, UInt8.ofNat 121, UInt8.ofNat 122, UInt8.ofNat 65, UInt8.ofNat 66, UInt8.ofNat 67, UInt8.ofNat 68,
                              UInt8.ofNat 69, UInt8.ofNat 70, UInt8.ofNat 71, UInt8.ofNat 72, UInt8.ofNat 73, UInt8.ofNat 74, UInt8.ofNat 75, UInt8.ofNat 76,
                              UInt8.ofNat 77, UInt8.ofNat 78, UInt8.ofNat 79, UInt8.ofNat 80, UInt8.ofNat 81, UInt8.ofNat 82, UInt8.ofNat 83, UInt8.ofNat 84,
                              UInt8.ofNat 85, UInt8.ofNat 86, UInt8.ofNat 87, UInt8.ofNat 88, UInt8.ofNat 89, UInt8.ofNat 90, UInt8.ofNat 95, UInt8.ofNat 48,
                              UInt8.ofNat 49, UInt8.ofNat 50, UInt8.ofNat 51, UInt8.ofNat 52, UInt8.ofNat 53, UInt8.ofNat 54, UInt8.ofNat 55, UInt8.ofNat 56,
                              UInt8.ofNat 57, UInt8.ofNat 46, UInt8.ofNat 36])
                          fun y => some y.fst
                    else some false)
                    fun y => some y)
                fun y_1 =>
                bif y_1 then some (0, 0, ())
                else
                  bindX (typecaseref10_numeral_L0 N N ((s0, 16, IntKind.i64.wrap (2 + y.fst), 0, 2, ()), ()))
                    (fun y => some (IntKind.u32.wrap y.fst.snd.fst, y.fst.fst, ())) fun y => some (y.fst.fst, y.fst.snd.fst, ())
          else none
    else
      bindI
        (bif decide (1 < (↑(List.length s0) : Int)) then
          bif inC 2 (List.length s0) then some ((List.take (Int.toNat 2) s0).beq [UInt8.ofNat 48, UInt8.ofNat 98]) else none
        else some false)
        fun y =>
        bif y then
          bif inC 2 (List.length s0) then
            bindI (typecaseref10_while N (List.drop (Int.toNat 2) s0) [UInt8.ofNat 48, UInt8.ofNat 49]) fun y =>
              bindI
                (bif decide (IntKind.i64.wrap (2 + y.fst) = 2) then some true
                else
                  bindI
                    (bif decide (IntKind.i64.wrap (2 + y.fst) < (↑(List.length s0) : Int)) then
                      bindI (geti s0 (IntKind.i64.wrap (2 + y.fst))) fun y =>
                        bindI
                          (typecaseref10_in N (↑y.toNat : Int)
                            [UInt8.ofNat 97, UInt8.ofNat 98, UInt8.ofNat 99, UInt8.ofNat 100, UInt8.ofNat 101, UInt8.ofNat 102, UInt8.ofNat 103, UInt8.ofNat 104,
                              UInt8.ofNat 105, UInt8.ofNat 106, UInt8.ofNat 107, UInt8.ofNat 108, UInt8.ofNat 109, UInt8.ofNat 110, UInt8.ofNat 111,
                              UInt8.ofNat 112, UInt8.ofNat 113, UInt8.ofNat 114, UInt8.ofNat 115, UInt8.ofNat 116, UInt8.ofNat 117, UInt8.ofNat 118,
                              UInt8.ofNat 119, UInt8.ofNat 120, UInt8.ofNat 121, UInt8.ofNat 122, UInt8.ofNat 65, UInt8.ofNat 66, UInt8.ofNat 67, UInt8.ofNat 68,
                              UInt8.ofNat 69, UInt8.ofNat 70, UInt8.ofNat 71, UInt8.ofNat 72, UInt8.ofNat 73, UInt8.ofNat 74, UInt8.ofNat 75, UInt8.ofNat 76,
                              UInt8.ofNat 77, UInt8.ofNat 78, UInt8.ofNat 79, UInt8.ofNat 80, UInt8.ofNat 81, UInt8.ofNat 82, UInt8.ofNat 83, UInt8.ofNat 84,
                              UInt8.ofNat 85, UInt8.ofNat 86, UInt8.ofNat 87, UInt8.ofNat 88, UInt8.ofNat 89, UInt8.ofNat 90, UInt8.ofNat 95, UInt8.ofNat 48,
                              UInt8.ofNat 49, UInt8.ofNat 50, UInt8.ofNat 51, UInt8.ofNat 52, UInt8.ofNat 53, UInt8.ofNat 54, UInt8.ofNat 55, UInt8.ofNat 56,
                              UInt8.ofNat 57, UInt8.ofNat 46, UInt8.ofNat 36])
                          fun y => some y.fst
                    else some false)
                    fun y => some y)
                fun y_1 =>
                bif y_1 then some (0, 0, ())
                else
                  bindX (typecaseref10_numeral_L0 N N ((s0, 2, IntKind.i64.wrap (2 + y.fst), 0, 2, ()), ()))
                    (fun y => some (IntKind.u32.wrap y.fst.snd.fst, y.fst.fst, ())) fun y => some (y.fst.fst, y.fst.snd.fst, ())
          else none
        else
          bindI
            (typecaseref10_while N (List.drop (Int.toNat 0) s0)
              [UInt8.ofNat 48, UInt8.ofNat 49, UInt8.ofNat 50, UInt8.ofNat 51, UInt8.ofNat 52, UInt8.ofNat 53, UInt8.ofNat 54, UInt8.ofNat 55, UInt8.ofNat 56,
                UInt8.ofNat 57])
            fun y =>
            bindI
              (bif decide (IntKind.i64.wrap (0 + y.fst) = 0) then some true
              else
                bindI
                  (bif decide (IntKind.i64.wrap (0 + y.fst) < (↑(List.length s0) : Int)) then
                    bindI (geti s0 (IntKind.i64.wrap (0 + y.fst))) fun y =>
                      bindI
                        (typecaseref10_in N (↑y.toNat : Int)
                          [UInt8.ofNat 97, UInt8.ofNat 98, UInt8.ofNat 99, UInt8.ofNat 100, UInt8.ofNat 101, UInt8.ofNat 102, UInt8.ofNat 103, UInt8.ofNat 104,
                            UInt8.ofNat 105, UInt8.ofNat 106, UInt8.ofNat 107, UInt8.ofNat 108, UInt8.ofNat 109, UInt8.ofNat 110, UInt8.ofNat 111,
                            UInt8.ofNat 112, UInt8.ofNat 113, UInt8.ofNat 114, UInt8.ofNat 115, UInt8.ofNat 116, UInt8.ofNat 117, UInt8.ofNat 118,
                            UInt8.ofNat 119, UInt8.ofNat 120, UInt8.ofNat 121, UInt8.ofNat 122, UInt8.ofNat 65, UInt8.ofNat 66, UInt8.ofNat 67, UInt8.ofNat 68,
                            UInt8.ofNat 69, UInt8.ofNat 70, UInt8.ofNat 71, UInt8.ofNat 72, UInt8.ofNat 73, UInt8.ofNat 74, UInt8.ofNat 75, UInt8.ofNat 76,
                            UInt8.ofNat 77, UInt8.ofNat 78, UInt8.ofNat 79, UInt8.ofNat 80, UInt8.ofNat 81, UInt8.ofNat 82, UInt8.ofNat 83, UInt8.ofNat 84,
                            UInt8.ofNat 85, UInt8.ofNat 86, UInt8.ofNat 87, UInt8.ofNat 88, UInt8.ofNat 89, UInt8.ofNat 90, UInt8.ofNat 95, UInt8.ofNat 48,
                            UInt8.ofNat 49, UInt8.ofNat 50, UInt8.ofNat 51, UInt8.ofNat 52, UInt8.ofNat 53, UInt8.ofNat 54, UInt8.ofNat 55, UInt8.ofNat 56,
                            UInt8.ofNat 57, UInt8.ofNat 46, UInt8.ofNat 36])
                        fun y => some y.fst
                  else some false)
                  fun y => some y)
              fun y_1 =>
              bif y_1 then some (0, 0, ())
              else
                bindX (typecaseref10_numeral_L0 N N ((s0, 10, IntKind.i64.wrap (0 + y.fst), 0, 0, ()), ()))
                  (fun y => some (IntKind.u32.wrap y.fst.snd.fst, y.fst.fst, ())) fun y => some (y.fst.fst, y.fst.snd.fst, ())
theorem typecaseref10_numeral_eq (N : Nat) (x : VD [.str]) : runF (typecaseref10_numeral_T1 N) (bodyOf Tryd.f55) [.str] [(.int .u32), (.int .i64)] (Tryd.f55).results.toList x = typecaseref10_numeral N x.1 := by kernel_rfl
def typecaseref10_numeral_e (N : Nat) : Ent := ⟨55, [.str], [(.int .u32), (.int .i64)], fun x => typecaseref10_numeral N x.1⟩
theorem typecaseref10_numeral_ok (N : Nat) : EntOk CC.P CC.gs (typecaseref10_numeral_e N) := (typecaseref10_numeral_T1_ok N).ent (fn := Tryd.f55) Tryd.func55 (by kernel_rfl) (by kernel_rfl) (fun vs w => Tryd.call55 vs w) (fun x => typecaseref10_numeral_eq N x)
def typecaseref10_escape_R : Sh := ⟨[2, 3], [.v (.int .u8), .v (.int .i64)], [], []⟩
noncomputable def typecaseref10_escape_T0 (N : Nat) : Tab := tab 57 [typecaseref10_in_e N, typecaseref10_digit_e N] [] []
theorem typecaseref10_escape_T0_ok (N : Nat) : TabOk CC 57 [typecaseref10_in_e N, typecaseref10_digit_e N] [] [] (bodyOf Tryd.f60) := .nil CC_as ⟨typecaseref10_in_ok N, typecaseref10_digit_ok N, trivial⟩ trivial
def typecaseref10_escape_L0i : Sh := ⟨[0, 4, 5, 6], [.v .str, .v .str, .v .str, .v (.int .i64)], [], []⟩
def typecaseref10_escape_L0o : Sh := ⟨[0], [.v .str], [], []⟩
def typecaseref10_escape_L0s (N : Nat) (s0 : List UInt8) (names4 : List UInt8) (bytes5 : List UInt8) (i6 : Int) (k : LD typecaseref10_escape_L0i.2 × OL typecaseref10_escape_L0i.3 → Option (Ex (LD typecaseref10_escape_L0o.2 × OL typecaseref10_escape_L0o.3) (LD typecaseref10_escape_R.2 × OL typecaseref10_escape_R.3))) : Option (Ex (LD typecaseref10_escape_L0o.2 × OL typecaseref10_escape_L0o.3) (LD typecaseref10_escape_R.2 × OL typecaseref10_escape_R.3)) :=
  bif decide (i6 < (↑(List.length names4) : Int)) then
    bindI (geti s0 1) fun y =>
      bindI (geti names4 i6) fun y_1 =>
        bif decide ((↑y.toNat : Int) = (↑y_1.toNat : Int)) then bindI (geti bytes5 i6) fun y => some (Ex.ret (((↑y.toNat : Int), 2, ()), ()))
        else k ((s0, names4, bytes5, IntKind.i64.wrap (i6 + 1), ()), ())
  else some (Ex.out ((s0, ()), ()))
def typecaseref10_escape_L0 (N : Nat) : Nat → typecaseref10_escape_L0i.D → Option (Ex typecaseref10_escape_L0o.D typecaseref10_escape_R.D) := loopN fun x k => typecaseref10_escape_L0s N x.1.1 x.1.2.1 x.1.2.2.1 x.1.2.2.2.1 k
theorem typecaseref10_escape_L0_succ (N f : Nat) (x : typecaseref10_escape_L0i.D) : typecaseref10_escape_L0 N (f + 1) x = typecaseref10_escape_L0s N x.1.1 x.1.2.1 x.1.2.2.1 x.1.2.2.2.1 (typecaseref10_escape_L0 N f) := rfl
theorem typecaseref10_escape_L0_eq (N : Nat) (x : typecaseref10_escape_L0i.D) (k : typecaseref10_escape_L0i.D → Option (Ex typecaseref10_escape_L0o.D typecaseref10_escape_R.D)) : stepL (typecaseref10_escape_T0 N) typecaseref10_escape_L0i typecaseref10_escape_L0o typecaseref10_escape_R 0 ((subAt (bodyOf Tryd.f60) [0, 0, 1, 0, 1, 1, 1, 1]).getD .skip) [0, 1, 0, 1, 1, 1, 1] x k = typecaseref10_escape_L0s N x.1.1 x.1.2.1 x.1.2.2.1 x.1.2.2.2.1 k := by kernel_rfl
noncomputable def typecaseref10_escape_T1 (N : Nat) : Tab := tab 57 [typecaseref10_in_e N, typecaseref10_digit_e N] [] [([0, 1, 0, 1, 1, 1, 1], ⟨typecaseref10_escape_L0i, typecaseref10_escape_L0o, typecaseref10_escape_R, 0, typecaseref10_escape_L0 N N⟩)]
theorem typecaseref10_escape_T1_ok (N : Nat) : TabOk CC 57 [typecaseref10_in_e N, typecaseref10_digit_e N] [] [([0, 1, 0, 1, 1, 1, 1], ⟨typecaseref10_escape_L0i, typecaseref10_escape_L0o, typecaseref10_escape_R, 0, typecaseref10_escape_L0 N N⟩)] (bodyOf Tryd.f60) := (typecaseref10_escape_T0_ok N).snoc (π := [0, 1, 0, 1, 1, 1, 1]) (b := ((subAt (bodyOf Tryd.f60) [0, 0, 1, 0, 1, 1, 1, 1]).getD .skip)) (inn := typecaseref10_escape_L0i) (out := typecaseref10_escape_L0o) (ret := typecaseref10_escape_R) (xid := 0) (n := N) (step := fun x k => typecaseref10_escape_L0s N x.1.1 x.1.2.1 x.1.2.2.1 x.1.2.2.2.1 k) (by kernel_rfl) (fun x k => typecaseref10_escape_L0_eq N x k)
def typecaseref10_escape (N : Nat) (s0 : List UInt8) : Option (Int × Int × PUnit) :=
  bindI (bif decide ((↑(List.length s0) : Int) < 2) then some true else bindI (geti s0 0) fun y => some !decide ((↑y.toNat : Int) = 92)) fun y =>
    bif y then some (0, 0, ())
    else
      bindX
        (typecaseref10_escape_L0 N N
          ((s0, [UInt8.ofNat 110, UInt8.ofNat 116, UInt8.ofNat 114, UInt8.ofNat 48, UInt8.ofNat 92, UInt8.ofNat 39, UInt8.ofNat 34],
              [UInt8.ofNat 10, UInt8.ofNat 9, UInt8.ofNat 13, UInt8.ofNat 0, UInt8.ofNat 92, UInt8.ofNat 39, UInt8.ofNat 34], 0, ()),
            ()))
        (fun y =>
          bindI (geti y.fst.fst 1) fun y_1 =>
            bindI (bif decide ((↑y_1.toNat : Int) = 120) then some (decide (3 < (↑(List.length y.fst.fst) : Int))) else some false) fun y_2 =>
              bindI
                (bif y_2 then
                  bindI (geti y.fst.fst 2) fun y =>
                    bindI
                      (typecaseref10_in N (↑y.toNat : Int)
                        [UInt8.ofNat 48, UInt8.ofNat 49, UInt8.ofNat 50, UInt8.ofNat 51, UInt8.ofNat 52, UInt8.ofNat 53, UInt8.ofNat 54, UInt8.ofNat 55,
                          UInt8.ofNat 56, UInt8.ofNat 57, UInt8.ofNat 97, UInt8.ofNat 98, UInt8.ofNat 99, UInt8.ofNat 100, UInt8.ofNat 101, UInt8.ofNat 102,
                          UInt8.ofNat 65, UInt8.ofNat 66, UInt8.ofNat 67, UInt8.ofNat 68, UInt8.ofNat 69, UInt8.ofNat 70])
                      fun y => some y.fst
                else some false)
                fun y_3 =>
                bindI
                  (bif y_3 then
                    bindI (geti y.fst.fst 3) fun y =>
                      bindI
                        (typecaseref10_in N (↑y.toNat : Int)
                          [UInt8.ofNat 48, UInt8.ofNat 49, UInt8.ofNat 50, UInt8.ofNat 51, UInt8.ofNat 52, UInt8.ofNat 53, UInt8.ofNat 54, UInt8.ofNat 55,
                            UInt8.ofNat 56, UInt8.ofNat 57, UInt8.ofNat 97, UInt8.ofNat 98, UInt8.ofNat 99, UInt8.ofNat 100, UInt8.ofNat 101, UInt8.ofNat 102,
                            UInt8.ofNat 65, UInt8.ofNat 66, UInt8.ofNat 67, UInt8.ofNat 68, UInt8.ofNat 69, UInt8.ofNat 70])
                        fun y => some y.fst
                  else some false)
                  fun y_4 =>
                  bif y_4 then
                    bindI (geti y.fst.fst 2) fun y_5 =>
                      bindI (typecaseref10_digit N (↑y_5.toNat : Int)) fun y_6 =>
                        bindI (geti y.fst.fst 3) fun y =>
                          bindI (typecaseref10_digit N (↑y.toNat : Int)) fun y =>
                            some (IntKind.u8.wrap (IntKind.u64.wrap (IntKind.u64.wrap (y_6.fst * 16) + y.fst)), 4, ())
                  else some (0, 0, ()))
        fun y => some (y.fst.fst, y.fst.snd.fst, ())
theorem typecaseref10_escape_eq (N : Nat) (x : VD [.str]) : runF (typecaseref10_escape_T1 N) (bodyOf Tryd.f60) [.str] [(.int .u8), (.int .i64)] (Tryd.f60).results.toList x = typecaseref10_escape N x.1 := by kernel_rfl
def typecaseref10_escape_e (N : Nat) : Ent := ⟨60, [.str], [(.int .u8), (.int .i64)], fun x => typecaseref10_escape N x.1⟩
theorem typecaseref10_escape_ok (N : Nat) : EntOk CC.P CC.gs (typecaseref10_escape_e N) := (typecaseref10_escape_T1_ok N).ent (fn := Tryd.f60) Tryd.func60 (by kernel_rfl) (by kernel_rfl) (fun vs w => Tryd.call60 vs w) (fun x => typecaseref10_escape_eq N x)
def typecaseref10_quoted_R : Sh := ⟨[4, 5], [.v (.int .u8), .v (.int .i64)], [], []⟩
noncomputable def typecaseref10_quoted_T0 (N : Nat) : Tab := tab 36 [typecaseref10_escape_e N] [] []
theorem typecaseref10_quoted_T0_ok (N : Nat) : TabOk CC 36 [typecaseref10_escape_e N] [] [] (bodyOf Tryd.f56) := .nil CC_as ⟨typecaseref10_escape_ok N, trivial⟩ trivial
def typecaseref10_quoted (N : Nat) (s0 : List UInt8) (quote1 : Int) : Option (Int × Int × PUnit) :=
  bindI (bif decide ((↑(List.length s0) : Int) = 0) then some true else bindI (geti s0 0) fun y => some (decide ((↑y.toNat : Int) = quote1))) fun y =>
    bif y then some (0, 0, ())
    else
      bindI (geti s0 0) fun y =>
        bif decide ((↑y.toNat : Int) = 92) then bindI (typecaseref10_escape N s0) fun y => some (y.fst, y.snd.fst, ())
        else
          bindI (geti s0 0) fun y =>
            bindI
              (bif decide (32 ≤ (↑y.toNat : Int)) then some true
              else bindI (geti s0 0) fun y => bindI (bif decide ((↑y.toNat : Int) = 9) then some (decide (quote1 = 34)) else some false) fun y => some y)
              fun y => bif y then bindI (geti s0 0) fun y => some ((↑y.toNat : Int), 1, ()) else some (0, 0, ())
theorem typecaseref10_quoted_eq (N : Nat) (x : VD [.str, (.int .u8)]) : runF (typecaseref10_quoted_T0 N) (bodyOf Tryd.f56) [.str, (.int .u8)] [(.int .u8), (.int .i64)] (Tryd.f56).results.toList x = typecaseref10_quoted N x.1 x.2.1 := by kernel_rfl
def typecaseref10_quoted_e (N : Nat) : Ent := ⟨56, [.str, (.int .u8)], [(.int .u8), (.int .i64)], fun x => typecaseref10_quoted N x.1 x.2.1⟩
theorem typecaseref10_quoted_ok (N : Nat) : EntOk CC.P CC.gs (typecaseref10_quoted_e N) := (typecaseref10_quoted_T0_ok N).ent (fn := Tryd.f56) Tryd.func56 (by kernel_rfl) (by kernel_rfl) (fun vs w => Tryd.call56 vs w) (fun x => typecaseref10_quoted_eq N x)
def typecaseref10_text_R : Sh := ⟨[2, 3], [.v .str, .v (.int .i64)], [], []⟩
noncomputable def typecaseref10_text_T0 (N : Nat) : Tab := tab 38 [typecaseref10_quoted_e N] [] []
theorem typecaseref10_text_T0_ok (N : Nat) : TabOk CC 38 [typecaseref10_quoted_e N] [] [] (bodyOf Tryd.f57) := .nil CC_as ⟨typecaseref10_quoted_ok N, trivial⟩ trivial
def typecaseref10_text_L0i : Sh := ⟨[0, 4, 5], [.v .str, .v .str, .v (.int .i64)], [], []⟩
def typecaseref10_text_L0o : Sh := ⟨[0, 4, 5], [.v .str, .v .str, .v (.int .i64)], [], []⟩
def typecaseref10_text_L0s (N : Nat) (s0 : List UInt8) (out4 : List UInt8) (i5 : Int) (k : LD typecaseref10_text_L0i.2 × OL typecaseref10_text_L0i.3 → Option (Ex (LD typecaseref10_text_L0o.2 × OL typecaseref10_text_L0o.3) (LD typecaseref10_text_R.2 × OL typecaseref10_text_R.3))) : Option (Ex (LD typecaseref10_text_L0o.2 × OL typecaseref10_text_L0o.3) (LD typecaseref10_text_R.2 × OL typecaseref10_text_R.3)) :=
  bif inC i5 (List.length s0) then
    bindI (typecaseref10_quoted N (List.drop (Int.toNat i5) s0) 34) fun y =>
      bif decide (y.snd.fst = 0) then some (Ex.out ((s0, out4, i5, ()), ()))
      else
        bif decide ((List.length out4).add (List.length (textOf [y.fst])) ≤ 9223372036854775807) then
          k ((s0, out4 ++ textOf [y.fst], IntKind.i64.wrap (i5 + y.snd.fst), ()), ())
        else none
  else none
def typecaseref10_text_L0 (N : Nat) : Nat → typecaseref10_text_L0i.D → Option (Ex typecaseref10_text_L0o.D typecaseref10_text_R.D) := loopN fun x k => typecaseref10_text_L0s N x.1.1 x.1.2.1 x.1.2.2.1 k
theorem typecaseref10_text_L0_succ (N f : Nat) (x : typecaseref10_text_L0i.D) : typecaseref10_text_L0 N (f + 1) x = typecaseref10_text_L0s N x.1.1 x.1.2.1 x.1.2.2.1 (typecaseref10_text_L0 N f) := rfl
theorem typecaseref10_text_L0_eq (N : Nat) (x : typecaseref10_text_L0i.D) (k : typecaseref10_text_L0i.D → Option (Ex typecaseref10_text_L0o.D typecaseref10_text_R.D)) : stepL (typecaseref10_text_T0 N) typecaseref10_text_L0i typecaseref10_text_L0o typecaseref10_text_R 0 ((subAt (bodyOf Tryd.f57) [0, 0, 0, 1, 1, 1]).getD .skip) [0, 0, 1, 1, 1] x k = typecaseref10_text_L0s N x.1.1 x.1.2.1 x.1.2.2.1 k := by kernel_rfl
noncomputable def typecaseref10_text_T1 (N : Nat) : Tab := tab 38 [typecaseref10_quoted_e N] [] [([0, 0, 1, 1, 1], ⟨typecaseref10_text_L0i, typecaseref10_text_L0o, typecaseref10_text_R, 0, typecaseref10_text_L0 N N⟩)]
theorem typecaseref10_text_T1_ok (N : Nat) : TabOk CC 38 [typecaseref10_quoted_e N] [] [([0, 0, 1, 1, 1], ⟨typecaseref10_text_L0i, typecaseref10_text_L0o, typecaseref10_text_R, 0, typecaseref10_text_L0 N N⟩)] (bodyOf Tryd.f57) := (typecaseref10_text_T0_ok N).snoc (π := [0, 0, 1, 1, 1]) (b := ((subAt (bodyOf Tryd.f57) [0, 0, 0, 1, 1, 1]).getD .skip)) (inn := typecaseref10_text_L0i) (out := typecaseref10_text_L0o) (ret := typecaseref10_text_R) (xid := 0) (n := N) (step := fun x k => typecaseref10_text_L0s N x.1.1 x.1.2.1 x.1.2.2.1 k) (by kernel_rfl) (fun x k => typecaseref10_text_L0_eq N x k)
def typecaseref10_text (N : Nat) (s0 : List UInt8) : Option (List UInt8 × Int × PUnit) :=
  bindX (typecaseref10_text_L0 N N ((s0, [], 1, ()), ()))
    (fun y =>
      bindI
        (bif decide (y.fst.snd.snd.fst < (↑(List.length y.fst.fst) : Int)) then
          bindI (geti y.fst.fst y.fst.snd.snd.fst) fun y => some (decide ((↑y.toNat : Int) = 34))
        else some false)
        fun y_1 => bif y_1 then some (y.fst.snd.fst, IntKind.i64.wrap (y.fst.snd.snd.fst + 1), ()) else some ([], 0, ()))
    fun y => some (y.fst.fst, y.fst.snd.fst, ())
theorem typecaseref10_text_eq (N : Nat) (x : VD [.str]) : runF (typecaseref10_text_T1 N) (bodyOf Tryd.f57) [.str] [.str, (.int .i64)] (Tryd.f57).results.toList x = typecaseref10_text N x.1 := by kernel_rfl
def typecaseref10_text_e (N : Nat) : Ent := ⟨57, [.str], [.str, (.int .i64)], fun x => typecaseref10_text N x.1⟩
theorem typecaseref10_text_ok (N : Nat) : EntOk CC.P CC.gs (typecaseref10_text_e N) := (typecaseref10_text_T1_ok N).ent (fn := Tryd.f57) Tryd.func57 (by kernel_rfl) (by kernel_rfl) (fun vs w => Tryd.call57 vs w) (fun x => typecaseref10_text_eq N x)
def typecaseref10_token_R : Sh := ⟨[2, 3, 4], [.r (.ptr 0 0), .v (.int .i64), .v (.int .i64)], [.box [.v .tok]], []⟩
noncomputable def typecaseref10_token_T0 (N : Nat) : Tab := tab 154 [typecaseref10_in_e N, typecaseref10_while_e N, typecaseref10_numeral_e N, typecaseref10_quoted_e N, typecaseref10_text_e N] [] []
theorem typecaseref10_token_T0_ok (N : Nat) : TabOk CC 154 [typecaseref10_in_e N, typecaseref10_while_e N, typecaseref10_numeral_e N, typecaseref10_quoted_e N, typecaseref10_text_e N] [] [] (bodyOf Tryd.f49) := .nil CC_as ⟨typecaseref10_in_ok N, typecaseref10_while_ok N, typecaseref10_numeral_ok N, typecaseref10_quoted_ok N, typecaseref10_text_ok N, trivial⟩ trivial
def typecaseref10_token (N : Nat) (s0 : List UInt8) : Option (Tok × Int × Int × PUnit) :=
  bindI (geti s0 0) fun y =>
    bif inC 1 (List.length s0) then
      bindI
        (typecaseref10_in N (↑y.toNat : Int)
          [UInt8.ofNat 97, UInt8.ofNat 98, UInt8.ofNat 99, UInt8.ofNat 100, UInt8.ofNat 101, UInt8.ofNat 102, UInt8.ofNat 103, UInt8.ofNat 104, UInt8.ofNat 105,
            UInt8.ofNat 106, UInt8.ofNat 107, UInt8.ofNat 108, UInt8.ofNat 109, UInt8.ofNat 110, UInt8.ofNat 111, UInt8.ofNat 112, UInt8.ofNat 113,
            UInt8.ofNat 114, UInt8.ofNat 115, UInt8.ofNat 116, UInt8.ofNat 117, UInt8.ofNat 118, UInt8.ofNat 119, UInt8.ofNat 120, UInt8.ofNat 121,
            UInt8.ofNat 122, UInt8.ofNat 65, UInt8.ofNat 66, UInt8.ofNat 67, UInt8.ofNat 68, UInt8.ofNat 69, UInt8.ofNat 70, UInt8.ofNat 71, UInt8.ofNat 72,
            UInt8.ofNat 73, UInt8.ofNat 74, UInt8.ofNat 75, UInt8.ofNat 76, UInt8.ofNat 77, UInt8.ofNat 78, UInt8.ofNat 79, UInt8.ofNat 80, UInt8.ofNat 81,
            UInt8.ofNat 82, UInt8.ofNat 83, UInt8.ofNat 84, UInt8.ofNat 85, UInt8.ofNat 86, UInt8.ofNat 87, UInt8.ofNat 88, UInt8.ofNat 89, UInt8.ofNat 90,
            UInt8.ofNat 95, UInt8.ofNat 46])
        fun y_1 =>
        bif y_1.fst then
          bindI
            (typecaseref10_while N s0
              [UInt8.ofNat 97, UInt8.ofNat 98, UInt8.ofNat 99, UInt8.ofNat 100, UInt8.ofNat 101, UInt8.ofNat 102, UInt8.ofNat 103, UInt8.ofNat 104,
                UInt8.ofNat 105, UInt8.ofNat 106, UInt8.ofNat 107, UInt8.ofNat 108, UInt8.ofNat 109, UInt8.ofNat 110, UInt8.ofNat 111, UInt8.ofNat 112,
                UInt8.ofNat 113, UInt8.ofNat 114, UInt8.ofNat 115, UInt8.ofNat 116, UInt8.ofNat 117, UInt8.ofNat 118, UInt8.ofNat 119, UInt8.ofNat 120,
                UInt8.ofNat 121, UInt8.ofNat 122, UInt8.ofNat 65, UInt8.ofNat 66, UInt8.ofNat 67, UInt8.ofNat 68, UInt8.ofNat 69, UInt8.ofNat 70, UInt8.ofNat 71,
                UInt8.ofNat 72, UInt8.ofNat 73, UInt8.ofNat 74, UInt8.ofNat 75, UInt8.ofNat 76, UInt8.ofNat 77, UInt8.ofNat 78, UInt8.ofNat 79, UInt8.ofNat 80,
                UInt8.ofNat 81, UInt8.ofNat 82, UInt8.ofNat 83, UInt8.ofNat 84, UInt8.ofNat 85, UInt8.ofNat 86, UInt8.ofNat 87, UInt8.ofNat 88, UInt8.ofNat 89,
                UInt8.ofNat 90, UInt8.ofNat 95, UInt8.ofNat 48, UInt8.ofNat 49, UInt8.ofNat 50, UInt8.ofNat 51, UInt8.ofNat 52, UInt8.ofNat 53, UInt8.ofNat 54,
                UInt8.ofNat 55, UInt8.ofNat 56, UInt8.ofNat 57, UInt8.ofNat 46, UInt8.ofNat 36])
            fun y =>
            bif inC y.fst (List.length s0) then
              some ({ kind := 1, line := 0, col := 0, text := List.take (Int.toNat y.fst) s0, num := 0, scope := 0 : Tok }, y.fst, 0, ())
            else none
        else
          bindI
            (typecaseref10_in N (↑y.toNat : Int)
              [UInt8.ofNat 48, UInt8.ofNat 49, UInt8.ofNat 50, UInt8.ofNat 51, UInt8.ofNat 52, UInt8.ofNat 53, UInt8.ofNat 54, UInt8.ofNat 55, UInt8.ofNat 56,
                UInt8.ofNat 57])
            fun y_2 =>
            bif y_2.fst then
              bindI (typecaseref10_numeral N s0) fun y => some ({ kind := 5, line := 0, col := 0, text := [], num := y.fst, scope := 0 : Tok }, y.snd.fst, 3, ())
            else
              bif decide ((↑y.toNat : Int) = 39) then
                bindI (typecaseref10_quoted N (List.drop (Int.toNat 1) s0) 39) fun y =>
                  bindI (bif decide (0 < y.snd.fst) then some (decide (y.snd.fst < (↑(List.drop (Int.toNat 1) s0).length : Int))) else some false) fun y_3 =>
                    bindI (bif y_3 then bindI (geti (List.drop (Int.toNat 1) s0) y.snd.fst) fun y => some (decide ((↑y.toNat : Int) = 39)) else some false)
                      fun y_4 =>
                      bif y_4 then
                        some
                          ({ kind := 5, line := 0, col := 0, text := [], num := IntKind.u32.wrap y.fst, scope := 0 : Tok }, IntKind.i64.wrap (y.snd.fst + 2), 0,
                            ())
                      else some ({ kind := 0, line := 0, col := 0, text := [], num := 0, scope := 0 : Tok }, 0, 3, ())
              else
                bif decide ((↑y.toNat : Int) = 34) then
                  bindI (typecaseref10_text N s0) fun y => some ({ kind := 6, line := 0, col := 0, text := y.fst, num := 0, scope := 0 : Tok }, y.snd.fst, 4, ())
                else
                  bindI
                    (typecaseref10_while N (List.drop (Int.toNat 1) s0)
                      [UInt8.ofNat 97, UInt8.ofNat 98, UInt8.ofNat 99, UInt8.ofNat 100, UInt8.ofNat 101, UInt8.ofNat 102, UInt8.ofNat 103, UInt8.ofNat 104,
                        UInt8.ofNat 105, UInt8.ofNat 106, UInt8.ofNat 107, UInt8.ofNat 108, UInt8.ofNat 109, UInt8.ofNat 110, UInt8.ofNat 111, UInt8.ofNat 112,
                        UInt8.ofNat 113, UInt8.ofNat 114, UInt8.ofNat 115, UInt8.ofNat 116, UInt8.ofNat 117, UInt8.ofNat 118, UInt8.ofNat 119, UInt8.ofNat 120,
                        UInt8.ofNat 121, UInt8.ofNat 122, UInt8.ofNat 65, UInt8.ofNat 66, UInt8.ofNat 67, UInt8.ofNat 68, UInt8.ofNat 69, UInt8.ofNat 70,
                        UInt8.ofNat 71, UInt8.ofNat 72, UInt8.ofNat 73, UInt8.ofNat 74, UInt8.ofNat 75, UInt8.ofNat 76, UInt8.ofNat 77, UInt8.ofNat 78,
                        UInt8.ofNat 79, UInt8.ofNat 80, UInt8.ofNat 81, UInt8.ofNat 82, UInt8.ofNat 83, UInt8.ofNat 84, UInt8.ofNat 85, UInt8.ofNat 86,
                        UInt8.ofNat 87, UInt8.ofNat 88, UInt8.ofNat 89, UInt8.ofNat 90, UInt8.ofNat 95, UInt8.ofNat 48, UInt8.ofNat 49, UInt8.ofNat 50,
                        UInt8.ofNat 51, UInt8.ofNat 52, UInt8.ofNat 53, UInt8.ofNat 54, UInt8.ofNat 55, UInt8.ofNat 56, UInt8.ofNat 57])
                    fun y_3 =>
                    bindI
                      (bif decide ((↑y.toNat : Int) = 37) then
                        bif inC y_3.fst (List.drop (Int.toNat 1) s0).length then
                          bindI
                            (bif (List.take (Int.toNat y_3.fst) (List.drop (Int.toNat 1) s0)).beq [UInt8.ofNat 104, UInt8.ofNat 105] then some true
                            else
                              bif inC y_3.fst (List.drop (Int.toNat 1) s0).length then
                                some ((List.take (Int.toNat y_3.fst) (List.drop (Int.toNat 1) s0)).beq [UInt8.ofNat 108, UInt8.ofNat 111])
                              else none)
                            fun y =>
                            bindI
                              (bif y then some true
                              else
                                bif inC y_3.fst (List.drop (Int.toNat 1) s0).length then
                                  some
                                    ((List.take (Int.toNat y_3.fst) (List.drop (Int.toNat 1) s0)).beq
                                      [UInt8.ofNat 112, UInt8.ofNat 99, UInt8.ofNat 114, UInt8.ofNat 101, UInt8.ofNat 108])
                                else none)
                              fun y => some y
                        else none
                      else some false)
                      fun y_4 =>
                      bif y_4 then
                        bif inC y_3.fst (List.drop (Int.toNat 1) s0).length then
                          some
                            ({ kind := 4, line := 0, col := 0, text := List.take (Int.toNat y_3.fst) (List.drop (Int.toNat 1) s0), num := 0, scope := 0 : Tok },
                              IntKind.i64.wrap (y_3.fst + 1), 0, ())
                        else none
                      else
                        bindI (bif decide ((↑y.toNat : Int) = 64) then some true else some (decide ((↑y.toNat : Int) = 92))) fun y_5 =>
                          bindI (bif y_5 then some (decide (0 < y_3.fst)) else some false) fun y_6 =>
                            bindI
                              (bif y_6 then
                                bindI (geti (List.drop (Int.toNat 1) s0) 0) fun y =>
                                  bindI
                                    (typecaseref10_in N (↑y.toNat : Int)
                                      [UInt8.ofNat 97, UInt8.ofNat 98, UInt8.ofNat 99, UInt8.ofNat 100, UInt8.ofNat 101, UInt8.ofNat 102, UInt8.ofNat 103,
                                        UInt8.ofNat 104, UInt8.ofNat 105, UInt8.ofNat 106, UInt8.ofNat 107, UInt8.ofNat 108, UInt8.ofNat 109, UInt8.ofNat 110,
                                        UInt8.ofNat 111, UInt8.ofNat 112, UInt8.ofNat 113, UInt8.ofNat 114, UInt8.ofNat 115, UInt8.ofNat 116, UInt8.ofNat 117,
                                        UInt8.ofNat 118, UInt8.ofNat 119, UInt8.ofNat 120, UInt8.ofNat 121, UInt8.ofNat 122, UInt8.ofNat 65, UInt8.ofNat 66,
                                        UInt8.ofNat 67, UInt8.ofNat 68, UInt8.ofNat 69, UInt8.ofNat 70, UInt8.ofNat 71, UInt8.ofNat 72, UInt8.ofNat 73,
                                        UInt8.ofNat 74, UInt8.ofNat 75, UInt8.ofNat 76, UInt8.ofNat 77, UInt8.ofNat 78, UInt8.ofNat 79, UInt8.ofNat 80,
                                        UInt8.ofNat 81, UInt8.ofNat 82, UInt8.ofNat 83, UInt8.ofNat 84, UInt8.ofNat 85, UInt8.ofNat 86, UInt8.ofNat 87,
                                        UInt8.ofNat 88, UInt8.ofNat 89, UInt8.ofNat 90, UInt8.ofNat 95])
                                    fun y => some y.fst
                              else some false)
                              fun y_7 =>
                              bif y_7 then
                                bif decide ((↑y.toNat : Int) = 92) then
                                  bif inC y_3.fst (List.drop (Int.toNat 1) s0).length then
                                    some
                                      ({ kind := 3, line := 0, col := 0, text := List.take (Int.toNat y_3.fst) (List.drop (Int.toNat 1) s0), num := 0,
                                          scope := 0 : Tok },
                                        IntKind.i64.wrap (y_3.fst + 1), 0, ())
                                  else none
                                else
                                  bif inC y_3.fst (List.drop (Int.toNat 1) s0).length then
                                    some
                                      ({ kind := 2, line := 0, col := 0, text := List.take (Int.toNat y_3.fst) (List.drop (Int.toNat 1) s0), num := 0,
                                          scope := 0 : Tok },
                                        IntKind.i64.wrap (y_3.fst + 1), 0, ())
                                  else none
                              else
                                bindI
                                  (bif decide (1 < (↑(List.length s0) : Int)) then
                                    bif inC 2 (List.length s0) then
                                      bindI
                                        (bif (List.take (Int.toNat 2) s0).beq [UInt8.ofNat 60, UInt8.ofNat 60] then some true
                                        else bif inC 2 (List.length s0) then some ((List.take (Int.toNat 2) s0).beq [UInt8.ofNat 62, UInt8.ofNat 62]) else none)
                                        fun y => some y
                                    else none
                                  else some false)
                                  fun y_8 =>
                                  bif y_8 then
                                    bif inC 2 (List.length s0) then
                                      some ({ kind := 7, line := 0, col := 0, text := List.take (Int.toNat 2) s0, num := 0, scope := 0 : Tok }, 2, 0, ())
                                    else none
                                  else
                                    bindI
                                      (typecaseref10_in N (↑y.toNat : Int)
                                        [UInt8.ofNat 44, UInt8.ofNat 58, UInt8.ofNat 40, UInt8.ofNat 41, UInt8.ofNat 43, UInt8.ofNat 45, UInt8.ofNat 42,
                                          UInt8.ofNat 47, UInt8.ofNat 38, UInt8.ofNat 124, UInt8.ofNat 94, UInt8.ofNat 126, UInt8.ofNat 61])
                                      fun y =>
                                      bif y.fst then
                                        bif inC 1 (List.length s0) then
                                          some ({ kind := 7, line := 0, col := 0, text := List.take (Int.toNat 1) s0, num := 0, scope := 0 : Tok }, 1, 0, ())
                                        else none
                                      else some ({ kind := 0, line := 0, col := 0, text := [], num := 0, scope := 0 : Tok }, 0, 2, ())
    else none
theorem typecaseref10_token_eq (N : Nat) (x : VD [.str]) : runF (typecaseref10_token_T0 N) (bodyOf Tryd.f49) [.str] [.tok, (.int .i64), (.int .i64)] (Tryd.f49).results.toList x = typecaseref10_token N x.1 := by kernel_rfl
def typecaseref10_token_e (N : Nat) : Ent := ⟨49, [.str], [.tok, (.int .i64), (.int .i64)], fun x => typecaseref10_token N x.1⟩
theorem typecaseref10_token_ok (N : Nat) : EntOk CC.P CC.gs (typecaseref10_token_e N) := (typecaseref10_token_T0_ok N).ent (fn := Tryd.f49) Tryd.func49 (by kernel_rfl) (by kernel_rfl) (fun vs w => Tryd.call49 vs w) (fun x => typecaseref10_token_eq N x)
def typecaseref10_line_R : Sh := ⟨[4, 5], [.v (.slice .tok), .r (.ptr 0 0)], [.box [.v (.pair (.int .i64) (.pair (.int .i64) (.int .i64)))]], []⟩
noncomputable def typecaseref10_line_T0 (N : Nat) : Tab := tab 54 [typecaseref10_in_e N, typecaseref10_token_e N] [] []
theorem typecaseref10_line_T0_ok (N : Nat) : TabOk CC 54 [typecaseref10_in_e N, typecaseref10_token_e N] [] [] (bodyOf Tryd.f37) := .nil CC_as ⟨typecaseref10_in_ok N, typecaseref10_token_ok N, trivial⟩ trivial
def typecaseref10_line_L0i : Sh := ⟨[0, 1, 5, 6, 7], [.v .str, .v (.int .i64), .r (.ptr 0 0), .r (.row 1), .v (.int .i64)], [.box [.v (.pair (.int .i64) (.pair (.int .i64) (.int .i64)))], .row .tok], [.tmp 6 .tok]⟩
def typecaseref10_line_L0o : Sh := ⟨[5, 6], [.r (.ptr 0 0), .r (.row 1)], [.box [.v (.pair (.int .i64) (.pair (.int .i64) (.int .i64)))], .row .tok], [.tmp 6 .tok]⟩
def typecaseref10_line_L0s (N : Nat) (s0 : List UInt8) (number1 : Int) (i7 : Int) (x5 : (Int × Int × Int) × PUnit) (out6 : List Tok) (k : LD typecaseref10_line_L0i.2 × OL typecaseref10_line_L0i.3 → Option (Ex (LD typecaseref10_line_L0o.2 × OL typecaseref10_line_L0o.3) (LD typecaseref10_line_R.2 × OL typecaseref10_line_R.3))) : Option (Ex (LD typecaseref10_line_L0o.2 × OL typecaseref10_line_L0o.3) (LD typecaseref10_line_R.2 × OL typecaseref10_line_R.3)) :=
  bif decide (i7 < (↑(List.length s0) : Int)) then
    bindI (geti s0 i7) fun y =>
      bindI (typecaseref10_in N (↑y.toNat : Int) [UInt8.ofNat 32, UInt8.ofNat 9, UInt8.ofNat 13]) fun y_1 =>
        bif y_1.fst then k ((s0, number1, IntKind.i64.wrap (i7 + 1), ()), ((x5.fst.fst, x5.fst.snd.fst, x5.fst.snd.snd), ()), out6, ())
        else
          bindI (geti s0 i7) fun y_2 =>
            bif decide ((↑y_2.toNat : Int) = 35) then some (Ex.out ((), ((x5.fst.fst, x5.fst.snd.fst, x5.fst.snd.snd), ()), out6, ()))
            else
              bif inC i7 (List.length s0) then
                bindI (typecaseref10_token N (List.drop (Int.toNat i7) s0)) fun y_3 =>
                  bif decide (y_3.snd.fst = 0) then some (Ex.ret (([], ()), ((number1, IntKind.i64.wrap (i7 + 1), y_3.snd.snd.fst), ()), ()))
                  else
                    bif
                        (out6 ++
                                [{ kind := y_3.fst.kind, line := number1, col := IntKind.i64.wrap (i7 + 1), text := y_3.fst.text, num := y_3.fst.num,
                                    scope := y_3.fst.scope : Tok }]).length.ble
                          4294967296 then
                      k
                        ((s0, number1, IntKind.i64.wrap (i7 + y_3.snd.fst), ()), ((x5.fst.fst, x5.fst.snd.fst, x5.fst.snd.snd), ()),
                          out6 ++
                            [{ kind := y_3.fst.kind, line := number1, col := IntKind.i64.wrap (i7 + 1), text := y_3.fst.text, num := y_3.fst.num,
                                scope := y_3.fst.scope : Tok }],
                          ())
                    else none
              else none
  else some (Ex.out ((), ((x5.fst.fst, x5.fst.snd.fst, x5.fst.snd.snd), ()), out6, ()))
def typecaseref10_line_L0 (N : Nat) : Nat → typecaseref10_line_L0i.D → Option (Ex typecaseref10_line_L0o.D typecaseref10_line_R.D) := loopN fun x k => typecaseref10_line_L0s N x.1.1 x.1.2.1 x.1.2.2.1 x.2.1 x.2.2.1 k
theorem typecaseref10_line_L0_succ (N f : Nat) (x : typecaseref10_line_L0i.D) : typecaseref10_line_L0 N (f + 1) x = typecaseref10_line_L0s N x.1.1 x.1.2.1 x.1.2.2.1 x.2.1 x.2.2.1 (typecaseref10_line_L0 N f) := rfl
theorem typecaseref10_line_L0_eq (N : Nat) (x : typecaseref10_line_L0i.D) (k : typecaseref10_line_L0i.D → Option (Ex typecaseref10_line_L0o.D typecaseref10_line_R.D)) : stepL (typecaseref10_line_T0 N) typecaseref10_line_L0i typecaseref10_line_L0o typecaseref10_line_R 0 ((subAt (bodyOf Tryd.f37) [0, 0, 1, 0, 1, 1]).getD .skip) [0, 1, 0, 1, 1] x k = typecaseref10_line_L0s N x.1.1 x.1.2.1 x.1.2.2.1 x.2.1 x.2.2.1 k := by kernel_rfl
noncomputable def typecaseref10_line_T1 (N : Nat) : Tab := tab 54 [typecaseref10_in_e N, typecaseref10_token_e N] [] [([0, 1, 0, 1, 1], ⟨typecaseref10_line_L0i, typecaseref10_line_L0o, typecaseref10_line_R, 0, typecaseref10_line_L0 N N⟩)]
theorem typecaseref10_line_T1_ok (N : Nat) : TabOk CC 54 [typecaseref10_in_e N, typecaseref10_token_e N] [] [([0, 1, 0, 1, 1], ⟨typecaseref10_line_L0i, typecaseref10_line_L0o, typecaseref10_line_R, 0, typecaseref10_line_L0 N N⟩)] (bodyOf Tryd.f37) := (typecaseref10_line_T0_ok N).snoc (π := [0, 1, 0, 1, 1]) (b := ((subAt (bodyOf Tryd.f37) [0, 0, 1, 0, 1, 1]).getD .skip)) (inn := typecaseref10_line_L0i) (out := typecaseref10_line_L0o) (ret := typecaseref10_line_R) (xid := 0) (n := N) (step := fun x k => typecaseref10_line_L0s N x.1.1 x.1.2.1 x.1.2.2.1 x.2.1 x.2.2.1 k) (by kernel_rfl) (fun x k => typecaseref10_line_L0_eq N x k)
def typecaseref10_line (N : Nat) (s0 : List UInt8) (number1 : Int) : Option (List Tok × (Int × Int × Int) × PUnit) :=
  bindX (typecaseref10_line_L0 N N ((s0, number1, 0, ()), ((0, 0, 0), ()), [], ())) (fun y => some (y.snd.snd.fst, (0, 0, 0), ())) fun y =>
    some (y.fst.fst, (y.snd.fst.fst.fst, y.snd.fst.fst.snd.fst, y.snd.fst.fst.snd.snd), ())
theorem typecaseref10_line_eq (N : Nat) (x : VD [.str, (.int .i64)]) : runF (typecaseref10_line_T1 N) (bodyOf Tryd.f37) [.str, (.int .i64)] [(.slice .tok), (.pair (.int .i64) (.pair (.int .i64) (.int .i64)))] (Tryd.f37).results.toList x = typecaseref10_line N x.1 x.2.1 := by kernel_rfl
def typecaseref10_line_e (N : Nat) : Ent := ⟨37, [.str, (.int .i64)], [(.slice .tok), (.pair (.int .i64) (.pair (.int .i64) (.int .i64)))], fun x => typecaseref10_line N x.1 x.2.1⟩
theorem typecaseref10_line_ok (N : Nat) : EntOk CC.P CC.gs (typecaseref10_line_e N) := (typecaseref10_line_T1_ok N).ent (fn := Tryd.f37) Tryd.func37 (by kernel_rfl) (by kernel_rfl) (fun vs w => Tryd.call37 vs w) (fun x => typecaseref10_line_eq N x)
def typecaseref10_Lines_R : Sh := ⟨[2, 3], [.v (.slice (.slice .tok)), .r (.ptr 0 0)], [.box [.v (.pair (.int .i64) (.pair (.int .i64) (.int .i64)))]], []⟩
noncomputable def typecaseref10_Lines_T0 (N : Nat) : Tab := tab 54 [typecaseref10_line_e N] [] []
theorem typecaseref10_Lines_T0_ok (N : Nat) : TabOk CC 54 [typecaseref10_line_e N] [] [] (bodyOf Tryd.f28) := .nil CC_as ⟨typecaseref10_line_ok N, trivial⟩ trivial
def typecaseref10_Lines_L0i : Sh := ⟨[0, 3, 4, 5, 6], [.v (.slice (.int .u8)), .r (.ptr 0 0), .r (.row 1), .v (.int .i64), .v (.int .i64)], [.box [.v (.pair (.int .i64) (.pair (.int .i64) (.int .i64)))], .row (.slice .tok)], [.tmp 4 (.slice .tok)]⟩
def typecaseref10_Lines_L0o : Sh := ⟨[3, 4], [.r (.ptr 0 0), .r (.row 1)], [.box [.v (.pair (.int .i64) (.pair (.int .i64) (.int .i64)))], .row (.slice .tok)], [.tmp 4 (.slice .tok)]⟩
def typecaseref10_Lines_L0s (N : Nat) (src0 : List Int) (from5 : Int) (i6 : Int) (x3 : (Int × Int × Int) × PUnit) (out4 : List (List Tok)) (k : LD typecaseref10_Lines_L0i.2 × OL typecaseref10_Lines_L0i.3 → Option (Ex (LD typecaseref10_Lines_L0o.2 × OL typecaseref10_Lines_L0o.3) (LD typecaseref10_Lines_R.2 × OL typecaseref10_Lines_R.3))) : Option (Ex (LD typecaseref10_Lines_L0o.2 × OL typecaseref10_Lines_L0o.3) (LD typecaseref10_Lines_R.2 × OL typecaseref10_Lines_R.3)) :=
  bif decide (i6 ≤ (↑(List.length src0) : Int)) then
    bindI (bif decide (i6 < (↑(List.length src0) : Int)) then bindI (geti src0 i6) fun y => some !decide (y = 10) else some false) fun y =>
      bif y then k ((src0, from5, IntKind.i64.wrap (i6 + 1), ()), ((x3.fst.fst, x3.fst.snd.fst, x3.fst.snd.snd), ()), out4, ())
      else
        bif decide (0 ≤ from5) && decide (from5 ≤ i6) && decide (i6 ≤ (↑(List.length src0) : Int)) then
          bindI (typecaseref10_line N (textOf (List.drop (Int.toNat from5) (List.take (Int.toNat i6) src0))) (IntKind.i64.wrap ((↑out4.length : Int) + 1)))
            fun y =>
            bif decide (0 < y.snd.fst.snd.snd) then some (Ex.ret (([], ()), ((y.snd.fst.fst, y.snd.fst.snd.fst, y.snd.fst.snd.snd), ()), ()))
            else
              bif (out4 ++ [y.fst]).length.ble 4294967296 then
                k ((src0, IntKind.i64.wrap (i6 + 1), IntKind.i64.wrap (i6 + 1), ()), ((x3.fst.fst, x3.fst.snd.fst, x3.fst.snd.snd), ()), out4 ++ [y.fst], ())
              else none
        else none
  else some (Ex.out ((), ((x3.fst.fst, x3.fst.snd.fst, x3.fst.snd.snd), ()), out4, ()))
def typecaseref10_Lines_L0 (N : Nat) : Nat → typecaseref10_Lines_L0i.D → Option (Ex typecaseref10_Lines_L0o.D typecaseref10_Lines_R.D) := loopN fun x k => typecaseref10_Lines_L0s N x.1.1 x.1.2.1 x.1.2.2.1 x.2.1 x.2.2.1 k
theorem typecaseref10_Lines_L0_succ (N f : Nat) (x : typecaseref10_Lines_L0i.D) : typecaseref10_Lines_L0 N (f + 1) x = typecaseref10_Lines_L0s N x.1.1 x.1.2.1 x.1.2.2.1 x.2.1 x.2.2.1 (typecaseref10_Lines_L0 N f) := rfl
theorem typecaseref10_Lines_L0_eq (N : Nat) (x : typecaseref10_Lines_L0i.D) (k : typecaseref10_Lines_L0i.D → Option (Ex typecaseref10_Lines_L0o.D typecaseref10_Lines_R.D)) : stepL (typecaseref10_Lines_T0 N) typecaseref10_Lines_L0i typecaseref10_Lines_L0o typecaseref10_Lines_R 0 ((subAt (bodyOf Tryd.f28) [0, 0, 1, 0, 1, 1, 1, 1]).getD .skip) [0, 1, 0, 1, 1, 1, 1] x k = typecaseref10_Lines_L0s N x.1.1 x.1.2.1 x.1.2.2.1 x.2.1 x.2.2.1 k := by kernel_rfl
noncomputable def typecaseref10_Lines_T1 (N : Nat) : Tab := tab 54 [typecaseref10_line_e N] [] [([0, 1, 0, 1, 1, 1, 1], ⟨typecaseref10_Lines_L0i, typecaseref10_Lines_L0o, typecaseref10_Lines_R, 0, typecaseref10_Lines_L0 N N⟩)]
theorem typecaseref10_Lines_T1_ok (N : Nat) : TabOk CC 54 [typecaseref10_line_e N] [] [([0, 1, 0, 1, 1, 1, 1], ⟨typecaseref10_Lines_L0i, typecaseref10_Lines_L0o, typecaseref10_Lines_R, 0, typecaseref10_Lines_L0 N N⟩)] (bodyOf Tryd.f28) := (typecaseref10_Lines_T0_ok N).snoc (π := [0, 1, 0, 1, 1, 1, 1]) (b := ((subAt (bodyOf Tryd.f28) [0, 0, 1, 0, 1, 1, 1, 1]).getD .skip)) (inn := typecaseref10_Lines_L0i) (out := typecaseref10_Lines_L0o) (ret := typecaseref10_Lines_R) (xid := 0) (n := N) (step := fun x k => typecaseref10_Lines_L0s N x.1.1 x.1.2.1 x.1.2.2.1 x.2.1 x.2.2.1 k) (by kernel_rfl) (fun x k => typecaseref10_Lines_L0_eq N x k)
def typecaseref10_Lines (N : Nat) (src0 : List Int) : Option (List (List Tok) × (Int × Int × Int) × PUnit) :=
  bif decide (65536 < (↑(List.length src0) : Int)) then some ([], (1, 1, 12), ())
  else
    bindX (typecaseref10_Lines_L0 N N ((src0, 0, 0, ()), ((0, 0, 0), ()), [], ())) (fun y => some (y.snd.snd.fst, (0, 0, 0), ())) fun y =>
      some (y.fst.fst, (y.snd.fst.fst.fst, y.snd.fst.fst.snd.fst, y.snd.fst.fst.snd.snd), ())
theorem typecaseref10_Lines_eq (N : Nat) (x : VD [(.slice (.int .u8))]) : runF (typecaseref10_Lines_T1 N) (bodyOf Tryd.f28) [(.slice (.int .u8))] [(.slice (.slice .tok)), (.pair (.int .i64) (.pair (.int .i64) (.int .i64)))] (Tryd.f28).results.toList x = typecaseref10_Lines N x.1 := by kernel_rfl
def typecaseref10_Lines_e (N : Nat) : Ent := ⟨28, [(.slice (.int .u8))], [(.slice (.slice .tok)), (.pair (.int .i64) (.pair (.int .i64) (.int .i64)))], fun x => typecaseref10_Lines N x.1⟩
theorem typecaseref10_Lines_ok (N : Nat) : EntOk CC.P CC.gs (typecaseref10_Lines_e N) := (typecaseref10_Lines_T1_ok N).ent (fn := Tryd.f28) Tryd.func28 (by kernel_rfl) (by kernel_rfl) (fun vs w => Tryd.call28 vs w) (fun x => typecaseref10_Lines_eq N x)
def typecaselaw13_awake_R : Sh := ⟨[0], [.v .bool], [], []⟩
noncomputable def typecaselaw13_awake_T0 (N : Nat) : Tab := tab 50 [block_End_e N, block_KindOf_e N, typecaselaw10_Fault_e N, typecaseref10_Lines_e N] [] []
theorem typecaselaw13_awake_T0_ok (N : Nat) : TabOk CC 50 [block_End_e N, block_KindOf_e N, typecaselaw10_Fault_e N, typecaseref10_Lines_e N] [] [] (bodyOf Tryd.f10) := .nil CC_as ⟨block_End_ok N, block_KindOf_ok N, typecaselaw10_Fault_ok N, typecaseref10_Lines_ok N, trivial⟩ trivial
def typecaselaw13_awake (N : Nat) : Option (Bool × PUnit) :=
  bindI (typecaseref10_Lines N [46, 105, 102, 10, 120, 10, 46, 101, 108, 115, 101, 10, 121, 10, 46, 101, 110, 100, 105, 102, 10, 46, 101, 110, 100, 109]) fun y =>
    bindI (block_End N y.fst 0) fun y_1 =>
      Err.el y_1.snd.snd.fst
        (bindI (block_End N y.fst 5) fun y_2 =>
          Err.el y_2.snd.snd.fst
            (bindI (bif decide (y_1.fst = 4) then some (decide (y_1.snd.fst = 2)) else some false) fun y_3 =>
              bindI (bif y_3 then some true else some false) fun y_4 =>
                bindI (bif y_4 then some (false && (false && (false && true))) else some false) fun y_5 =>
                  bindI (bif y_5 then bindI (geti y.fst 5) fun y => bindI (block_KindOf N y) fun y => some (decide (y.fst = 2)) else some false) fun y =>
                    some (y, ()))
            (fun c =>
              bindI (bif decide (y_1.fst = 4) then some (decide (y_1.snd.fst = 2)) else some false) fun y_3 =>
                bindI (bif y_3 then some true else some false) fun y_4 =>
                  bindI (bif y_4 then none else some false) fun y_5 =>
                    bindI (bif y_5 then bindI (geti y.fst 5) fun y => bindI (block_KindOf N y) fun y => some (decide (y.fst = 2)) else some false) fun y =>
                      some (y, ()))
            fun l c k =>
            bindI (bif decide (y_1.fst = 4) then some (decide (y_1.snd.fst = 2)) else some false) fun y_3 =>
              bindI (bif y_3 then some true else some false) fun y_4 =>
                bindI
                  (bif y_4 then
                    bindI (typecaselaw10_Fault N (Err.fault l c k)) fun y =>
                      some (decide (y.fst.fst = 6) && (decide (y.fst.snd.fst = 1) && (decide (y.fst.snd.snd = 15) && true)))
                  else some false)
                  fun y_5 =>
                  bindI (bif y_5 then bindI (geti y.fst 5) fun y => bindI (block_KindOf N y) fun y => some (decide (y.fst = 2)) else some false) fun y =>
                    some (y, ()))
        (fun c =>
          bindI (block_End N y.fst 5) fun y_2 =>
            Err.el y_2.snd.snd.fst
              (bindI (bif decide (y_1.fst = 4) then some (decide (y_1.snd.fst = 2)) else some false) fun y_3 =>
                bindI (bif y_3 then some false else some false) fun y_4 =>
                  bindI (bif y_4 then some (false && (false && (false && true))) else some false) fun y_5 =>
                    bindI (bif y_5 then bindI (geti y.fst 5) fun y => bindI (block_KindOf N y) fun y => some (decide (y.fst = 2)) else some false) fun y =>
                      some (y, ()))
              (fun c =>
                bindI (bif decide (y_1.fst = 4) then some (decide (y_1.snd.fst = 2)) else some false) fun y_3 =>
                  bindI (bif y_3 then some false else some false) fun y_4 =>
                    bindI (bif y_4 then none else some false) fun y_5 =>
                      bindI (bif y_5 then bindI (geti y.fst 5) fun y => bindI (block_KindOf N y) fun y => some (decide (y.fst = 2)) else some false) fun y =>
                        some (y, ()))
              fun l c k =>
              bindI (bif decide (y_1.fst = 4) then some (decide (y_1.snd.fst = 2)) else some false) fun y_3 =>
                bindI (bif y_3 then some false else some false) fun y_4 =>
                  bindI
                    (bif y_4 then
                      bindI (typecaselaw10_Fault N (Err.fault l c k)) fun y =>
                        some (decide (y.fst.fst = 6) && (decide (y.fst.snd.fst = 1) && (decide (y.fst.snd.snd = 15) && true)))
                    else some false)
                    fun y_5 =>
                    bindI (bif y_5 then bindI (geti y.fst 5) fun y => bindI (block_KindOf N y) fun y => some (decide (y.fst = 2)) else some false) fun y =>
                      some (y, ()))
        fun l c k =>
        bindI (block_End N y.fst 5) fun y_2 =>
          Err.el y_2.snd.snd.fst
            (bindI (bif decide (y_1.fst = 4) then some (decide (y_1.snd.fst = 2)) else some false) fun y_3 =>
              bindI (bif y_3 then some false else some false) fun y_4 =>
                bindI (bif y_4 then some (false && (false && (false && true))) else some false) fun y_5 =>
                  bindI (bif y_5 then bindI (geti y.fst 5) fun y => bindI (block_KindOf N y) fun y => some (decide (y.fst = 2)) else some false) fun y =>
                    some (y, ()))
            (fun c =>
              bindI (bif decide (y_1.fst = 4) then some (decide (y_1.snd.fst = 2)) else some false) fun y_3 =>
                bindI (bif y_3 then some false else some false) fun y_4 =>
                  bindI (bif y_4 then none else some false) fun y_5 =>
                    bindI (bif y_5 then bindI (geti y.fst 5) fun y => bindI (block_KindOf N y) fun y => some (decide (y.fst = 2)) else some false) fun y =>
                      some (y, ()))
            fun l c k =>
            bindI (bif decide (y_1.fst = 4) then some (decide (y_1.snd.fst = 2)) else some false) fun y_3 =>
              bindI (bif y_3 then some false else some false) fun y_4 =>
                bindI
                  (bif y_4 then
                    bindI (typecaselaw10_Fault N (Err.fault l c k)) fun y =>
                      some (decide (y.fst.fst = 6) && (decide (y.fst.snd.fst = 1) && (decide (y.fst.snd.snd = 15) && true)))
                  else some false)
                  fun y_5 =>
                  bindI (bif y_5 then bindI (geti y.fst 5) fun y => bindI (block_KindOf N y) fun y => some (decide (y.fst = 2)) else some false) fun y =>
                    some (y, ())
theorem typecaselaw13_awake_eq (N : Nat) (x : VD []) : runF (typecaselaw13_awake_T0 N) (bodyOf Tryd.f10) [] [.bool] (Tryd.f10).results.toList x = typecaselaw13_awake N  := by kernel_rfl
def typecaselaw13_awake_e (N : Nat) : Ent := ⟨10, [], [.bool], fun x => typecaselaw13_awake N ⟩
theorem typecaselaw13_awake_ok (N : Nat) : EntOk CC.P CC.gs (typecaselaw13_awake_e N) := (typecaselaw13_awake_T0_ok N).ent (fn := Tryd.f10) Tryd.func10 (by kernel_rfl) (by kernel_rfl) (fun vs w => Tryd.call10 vs w) (fun x => typecaselaw13_awake_eq N x)
def typecaselaw13_light_R : Sh := ⟨[2], [.v .bool], [], []⟩
noncomputable def typecaselaw13_light_T0 (N : Nat) : Tab := tab 26 [] [] []
theorem typecaselaw13_light_T0_ok (N : Nat) : TabOk CC 26 [] [] [] (bodyOf Tryd.f11) := .nil CC_as trivial trivial
def typecaselaw13_light_L0i : Sh := ⟨[0, 3, 4], [.v (.slice (.slice .tok)), .v (.int .i64), .v (.int .i64)], [], []⟩
def typecaselaw13_light_L0o : Sh := ⟨[3], [.v (.int .i64)], [], []⟩
def typecaselaw13_light_L0s (N : Nat) (l0 : List (List Tok)) (n3 : Int) (i4 : Int) (k : LD typecaselaw13_light_L0i.2 × OL typecaselaw13_light_L0i.3 → Option (Ex (LD typecaselaw13_light_L0o.2 × OL typecaselaw13_light_L0o.3) (LD typecaselaw13_light_R.2 × OL typecaselaw13_light_R.3))) : Option (Ex (LD typecaselaw13_light_L0o.2 × OL typecaselaw13_light_L0o.3) (LD typecaselaw13_light_R.2 × OL typecaselaw13_light_R.3)) :=
  bindI (bif decide (i4 < (↑(List.length l0) : Int)) then some (decide (n3 ≤ 600)) else some false) fun y =>
    bif y then bindI (geti l0 i4) fun y => k ((l0, IntKind.i64.wrap (n3 + (↑(List.length y) : Int)), IntKind.i64.wrap (i4 + 1), ()), ())
    else some (Ex.out ((n3, ()), ()))
def typecaselaw13_light_L0 (N : Nat) : Nat → typecaselaw13_light_L0i.D → Option (Ex typecaselaw13_light_L0o.D typecaselaw13_light_R.D) := loopN fun x k => typecaselaw13_light_L0s N x.1.1 x.1.2.1 x.1.2.2.1 k
theorem typecaselaw13_light_L0_succ (N f : Nat) (x : typecaselaw13_light_L0i.D) : typecaselaw13_light_L0 N (f + 1) x = typecaselaw13_light_L0s N x.1.1 x.1.2.1 x.1.2.2.1 (typecaselaw13_light_L0 N f) := rfl
theorem typecaselaw13_light_L0_eq (N : Nat) (x : typecaselaw13_light_L0i.D) (k : typecaselaw13_light_L0i.D → Option (Ex typecaselaw13_light_L0o.D typecaselaw13_light_R.D)) : stepL (typecaselaw13_light_T0 N) typecaselaw13_light_L0i typecaselaw13_light_L0o typecaselaw13_light_R 0 ((subAt (bodyOf Tryd.f11) [0, 0, 1, 0, 1, 1]).getD .skip) [0, 1, 0, 1, 1] x k = typecaselaw13_light_L0s N x.1.1 x.1.2.1 x.1.2.2.1 k := by kernel_rfl
noncomputable def typecaselaw13_light_T1 (N : Nat) : Tab := tab 26 [] [] [([0, 1, 0, 1, 1], ⟨typecaselaw13_light_L0i, typecaselaw13_light_L0o, typecaselaw13_light_R, 0, typecaselaw13_light_L0 N N⟩)]
theorem typecaselaw13_light_T1_ok (N : Nat) : TabOk CC 26 [] [] [([0, 1, 0, 1, 1], ⟨typecaselaw13_light_L0i, typecaselaw13_light_L0o, typecaselaw13_light_R, 0, typecaselaw13_light_L0 N N⟩)] (bodyOf Tryd.f11) := (typecaselaw13_light_T0_ok N).snoc (π := [0, 1, 0, 1, 1]) (b := ((subAt (bodyOf Tryd.f11) [0, 0, 1, 0, 1, 1]).getD .skip)) (inn := typecaselaw13_light_L0i) (out := typecaselaw13_light_L0o) (ret := typecaselaw13_light_R) (xid := 0) (n := N) (step := fun x k => typecaselaw13_light_L0s N x.1.1 x.1.2.1 x.1.2.2.1 k) (by kernel_rfl) (fun x k => typecaselaw13_light_L0_eq N x k)
def typecaselaw13_light (N : Nat) (l0 : List (List Tok)) : Option (Bool × PUnit) :=
  bindX (typecaselaw13_light_L0 N N ((l0, (↑(List.length l0) : Int), 0, ()), ())) (fun y => some (decide (y.fst.fst ≤ 600), ())) fun y => some (y.fst.fst, ())
theorem typecaselaw13_light_eq (N : Nat) (x : VD [(.slice (.slice .tok))]) : runF (typecaselaw13_light_T1 N) (bodyOf Tryd.f11) [(.slice (.slice .tok))] [.bool] (Tryd.f11).results.toList x = typecaselaw13_light N x.1 := by kernel_rfl
def typecaselaw13_light_e (N : Nat) : Ent := ⟨11, [(.slice (.slice .tok))], [.bool], fun x => typecaselaw13_light N x.1⟩
theorem typecaselaw13_light_ok (N : Nat) : EntOk CC.P CC.gs (typecaselaw13_light_e N) := (typecaselaw13_light_T1_ok N).ent (fn := Tryd.f11) Tryd.func11 (by kernel_rfl) (by kernel_rfl) (fun vs w => Tryd.call11 vs w) (fun x => typecaselaw13_light_eq N x)
def typecaselaw13_BlockBehind_R : Sh := ⟨[6], [.v .bool], [], []⟩
noncomputable def typecaselaw13_BlockBehind_T0 (N : Nat) : Tab := tab 66 [typecaselaw13_awake_e N, typecaselaw13_light_e N, block_End_e N] [] []
theorem typecaselaw13_BlockBehind_T0_ok (N : Nat) : TabOk CC 66 [typecaselaw13_awake_e N, typecaselaw13_light_e N, block_End_e N] [] [] (bodyOf Tryd.f3) := .nil CC_as ⟨typecaselaw13_awake_ok N, typecaselaw13_light_ok N, block_End_ok N, trivial⟩ trivial
def typecaselaw13_BlockBehind (N : Nat) (l0 : List (List Tok)) (at1 : Int) (more2 : List (List Tok)) : Option (Bool × PUnit) :=
  bindI (typecaselaw13_awake N) fun y =>
    bif !y.fst then some (false, ())
    else
      bindI (typecaselaw13_light N l0) fun y =>
        bindI (bif !y.fst then some true else bindI (typecaselaw13_light N more2) fun y => some !y.fst) fun y =>
          bif y then some (true, ())
          else
            bindI (block_End N l0 at1) fun y =>
              Err.el y.snd.snd.fst
                (bindI (bif decide (y.fst < 0) then some true else some (decide ((↑(List.length l0) : Int) ≤ y.fst))) fun y_1 =>
                  bif y_1 then some (false, ())
                  else
                    bif inC (IntKind.i64.wrap (y.fst + 1)) (List.length l0) then
                      bif (List.take (IntKind.i64.wrap (y.fst + 1)).toNat l0).length.ble 4294967296 then
                        bif (List.take (IntKind.i64.wrap (y.fst + 1)).toNat l0 ++ more2).length.ble 4294967296 then
                          bindI (block_End N (List.take (IntKind.i64.wrap (y.fst + 1)).toNat l0 ++ more2) at1) fun y_2 =>
                            Err.el y_2.snd.snd.fst
                              (bindI (bif decide (y_2.fst = y.fst) then some (decide (y_2.snd.fst = y.snd.fst)) else some false) fun y =>
                                bindI (bif y then some true else some false) fun y => some (y, ()))
                              (fun c =>
                                bindI (bif decide (y_2.fst = y.fst) then some (decide (y_2.snd.fst = y.snd.fst)) else some false) fun y =>
                                  bindI (bif y then some false else some false) fun y => some (y, ()))
                              fun l c k =>
                              bindI (bif decide (y_2.fst = y.fst) then some (decide (y_2.snd.fst = y.snd.fst)) else some false) fun y =>
                                bindI (bif y then some false else some false) fun y => some (y, ())
                        else none
                      else none
                    else none)
                (fun c => some (true, ())) fun l c k => some (true, ())
theorem typecaselaw13_BlockBehind_eq (N : Nat) (x : VD [(.slice (.slice .tok)), (.int .i64), (.slice (.slice .tok))]) : runF (typecaselaw13_BlockBehind_T0 N) (bodyOf Tryd.f3) [(.slice (.slice .tok)), (.int .i64), (.slice (.slice .tok))] [.bool] (Tryd.f3).results.toList x = typecaselaw13_BlockBehind N x.1 x.2.1 x.2.2.1 := by kernel_rfl
def typecaselaw13_BlockBehind_e (N : Nat) : Ent := ⟨3, [(.slice (.slice .tok)), (.int .i64), (.slice (.slice .tok))], [.bool], fun x => typecaselaw13_BlockBehind N x.1 x.2.1 x.2.2.1⟩
theorem typecaselaw13_BlockBehind_ok (N : Nat) : EntOk CC.P CC.gs (typecaselaw13_BlockBehind_e N) := (typecaselaw13_BlockBehind_T0_ok N).ent (fn := Tryd.f3) Tryd.func3 (by kernel_rfl) (by kernel_rfl) (fun vs w => Tryd.call3 vs w) (fun x => typecaselaw13_BlockBehind_eq N x)
def typecaselaw13_BlockWithin_R : Sh := ⟨[6], [.v .bool], [], []⟩
noncomputable def typecaselaw13_BlockWithin_T0 (N : Nat) : Tab := tab 80 [typecaselaw13_awake_e N, typecaselaw13_light_e N, block_End_e N] [] []
theorem typecaselaw13_BlockWithin_T0_ok (N : Nat) : TabOk CC 80 [typecaselaw13_awake_e N, typecaselaw13_light_e N, block_End_e N] [] [] (bodyOf Tryd.f4) := .nil CC_as ⟨typecaselaw13_awake_ok N, typecaselaw13_light_ok N, block_End_ok N, trivial⟩ trivial
def typecaselaw13_BlockWithin (N : Nat) (l0 : List (List Tok)) (a1 : Int) (b2 : Int) : Option (Bool × PUnit) :=
  bindI (typecaselaw13_awake N) fun y =>
    bif !y.fst then some (false, ())
    else
      bindI (typecaselaw13_light N l0) fun y =>
        bif !y.fst then some (true, ())
        else
          bindI (block_End N l0 a1) fun y =>
            Err.el y.snd.snd.fst
              (bindI (bif decide (y.fst ≤ a1) then some true else some (decide ((↑(List.length l0) : Int) ≤ y.fst))) fun y_1 =>
                bindI
                  (bif y_1 then some true
                  else
                    bindI
                      (bif !decide (y.snd.fst = -1) then bindI (bif decide (y.snd.fst ≤ a1) then some true else some (decide (y.fst ≤ y.snd.fst))) fun y => some y
                      else some false)
                      fun y => some y)
                  fun y_2 =>
                  bif y_2 then some (false, ())
                  else
                    bindI (block_End N l0 b2) fun y_3 =>
                      Err.el y_3.snd.snd.fst
                        (bindI (bif decide (b2 ≤ a1) then some true else some (decide (y.fst ≤ b2))) fun y_4 =>
                          bindI (bif y_4 then some true else some (decide (y_3.fst < y.fst))) fun y => some (y, ()))
                        (fun c => some (true, ())) fun l c k => some (true, ()))
              (fun c => bindI (bif decide (y.fst = 0) then some (decide (y.snd.fst = 0)) else some false) fun y => some (y, ())) fun l c k =>
              bindI (bif decide (y.fst = 0) then some (decide (y.snd.fst = 0)) else some false) fun y => some (y, ())
theorem typecaselaw13_BlockWithin_eq (N : Nat) (x : VD [(.slice (.slice .tok)), (.int .i64), (.int .i64)]) : runF (typecaselaw13_BlockWithin_T0 N) (bodyOf Tryd.f4) [(.slice (.slice .tok)), (.int .i64), (.int .i64)] [.bool] (Tryd.f4).results.toList x = typecaselaw13_BlockWithin N x.1 x.2.1 x.2.2.1 := by kernel_rfl
def typecaselaw13_BlockWithin_e (N : Nat) : Ent := ⟨4, [(.slice (.slice .tok)), (.int .i64), (.int .i64)], [.bool], fun x => typecaselaw13_BlockWithin N x.1 x.2.1 x.2.2.1⟩
theorem typecaselaw13_BlockWithin_ok (N : Nat) : EntOk CC.P CC.gs (typecaselaw13_BlockWithin_e N) := (typecaselaw13_BlockWithin_T0_ok N).ent (fn := Tryd.f4) Tryd.func4 (by kernel_rfl) (by kernel_rfl) (fun vs w => Tryd.call4 vs w) (fun x => typecaselaw13_BlockWithin_eq N x)
end Go.Proofs.YtmbepfdnmgiifaaDoor

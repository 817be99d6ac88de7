/- Vp, part n: the project's own types, as plain data and as cells. -/
import Derived.Test.YtmbepfdnmgiifaaVm
set_option linter.unusedVariables false
set_option linter.unusedSimpArgs false
namespace Go.Vp

structure Ins where
  op : Int
  rd : Int
  rs1 : Int
  rs2 : Int
  imm : Int
def Ins.cells (i : Ins) : List AV := [.p (.int .i64 i.op), .p (.int .i64 i.rd), .p (.int .i64 i.rs1), .p (.int .i64 i.rs2), .p (.int .i32 i.imm)]
structure Nod where
  kind : Int
  line : Int
  col : Int
  num : Int
  name : ByteArray
def Nod.cells (n : Nod) : List AV := [.p (.int .i64 n.kind), .p (.int .i64 n.line), .p (.int .i64 n.col), .p (.int .u32 n.num), .p (.string n.name)]
structure Itm where
  kind : Int
  line : Int
  col : Int
  name : ByteArray
  ins : Ins
  short : ByteArray
  size : Int
  nodes : List Nod
  num : Int
  grow : Bool
  rvc : Bool
def Itm.cells (i : Itm) : List AV := [.p (.int .i64 i.kind), .p (.int .i64 i.line), .p (.int .i64 i.col), .p (.string i.name), .p (.int .i64 i.ins.op), .p (.int .i64 i.ins.rd), .p (.int .i64 i.ins.rs1), .p (.int .i64 i.ins.rs2), .p (.int .i32 i.ins.imm),
  .p (.string i.short), .p (.int .i64 i.size), .sl 5 (i.nodes.map Nod.cells) none, .p (.int .u32 i.num), .p (.bool i.grow), .p (.bool i.rvc)]
structure Tok where
  kind : Int
  line : Int
  col : Int
  text : ByteArray
  num : Int
  scope : Int
def Tok.cells (t : Tok) : List AV := [.p (.int .i64 t.kind), .p (.int .i64 t.line), .p (.int .i64 t.col), .p (.string t.text), .p (.int .u32 t.num), .p (.int .i64 t.scope)]
theorem Ins.len (i : Ins) : i.cells.length = 5 := rfl
theorem Ins.take (i : Ins) : List.take 5 i.cells = i.cells := rfl
theorem Ins.isPs (i : Ins) : i.cells.all isP = true := rfl
theorem Ins.ones (i : Ins) : i.cells.all one = true := rfl
attribute [go_sem] Ins.len Ins.take Ins.isPs Ins.ones
theorem Nod.len (i : Nod) : i.cells.length = 5 := rfl
theorem Nod.take (i : Nod) : List.take 5 i.cells = i.cells := rfl
theorem Nod.isPs (i : Nod) : i.cells.all isP = true := rfl
theorem Nod.ones (i : Nod) : i.cells.all one = true := rfl
attribute [go_sem] Nod.len Nod.take Nod.isPs Nod.ones
theorem Itm.len (i : Itm) : i.cells.length = 15 := rfl
theorem Itm.take (i : Itm) : List.take 15 i.cells = i.cells := rfl
theorem Itm.isPs (i : Itm) : i.cells.all isP = true := rfl
theorem Itm.ones (i : Itm) : i.cells.all one = true := rfl
attribute [go_sem] Itm.len Itm.take Itm.isPs Itm.ones
theorem Tok.len (i : Tok) : i.cells.length = 6 := rfl
theorem Tok.take (i : Tok) : List.take 6 i.cells = i.cells := rfl
theorem Tok.isPs (i : Tok) : i.cells.all isP = true := rfl
theorem Tok.ones (i : Tok) : i.cells.all one = true := rfl
attribute [go_sem] Tok.len Tok.take Tok.isPs Tok.ones
/-- Numbers as a slice's elements. -/
def ints (k : Go.IntKind) (l : List Int) : List (List AV) := l.map fun x => [.p (.int k x)]
theorem ints_length (k : Go.IntKind) (l : List Int) : (ints k l).length = l.length := by simp [ints]
theorem ints_getD (k : Go.IntKind) (l : List Int) (i : Nat) (h : i < l.length) : (ints k l).getD i [] = [.p (.int k (l.getD i 0))] := by simp [ints, List.getD, h]
end Go.Vp

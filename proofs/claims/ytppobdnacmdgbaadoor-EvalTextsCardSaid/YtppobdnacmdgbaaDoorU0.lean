/- Up, part 0: the data of the project, as plain Lean types. -/
import Derived.WalkKit
import Derived.WalkSpells
import Derived.WalkLawsBesides
set_option linter.unusedVariables false
set_option linter.unusedSimpArgs false
namespace Go.Up

abbrev Str := List UInt8
/-- An error: none, a code, a code at a place. -/
inductive Err where
  | nil
  | code (c : Int)
  | fault (line col c : Int)
  deriving DecidableEq
/-- A pointer to an error at a place, or none. -/
inductive Flt where
  | nil
  | at (line col c : Int)
  deriving DecidableEq
structure Ins where
  op : Int
  rd : Int
  rs1 : Int
  rs2 : Int
  imm : Int
  deriving DecidableEq
structure Tok where
  kind : Int
  line : Int
  col : Int
  text : Str
  num : Int
  scope : Int
  deriving DecidableEq
structure Nod where
  kind : Int
  line : Int
  col : Int
  num : Int
  name : Str
  deriving DecidableEq
structure Itm where
  kind : Int
  line : Int
  col : Int
  name : Str
  ins : Ins
  short : Str
  size : Int
  nodes : List Nod
  num : Int
  grow : Bool
  rvc : Bool
  deriving DecidableEq
structure Opn where
  kind : Int
  line : Int
  col : Int
  reg : Int
  nodes : List Nod
  text : Str
  deriving DecidableEq
structure Lab where
  name : Str
  line : Int
  col : Int
  deriving DecidableEq
structure Stm where
  labels : List Lab
  name : Str
  line : Int
  col : Int
  args : List Opn
  deriving DecidableEq
structure Opt where
  rvc : Bool
  relax : Bool
  deriving DecidableEq
structure Sym where
  name : Str
  value : Int
  cls : Int
  deriving DecidableEq

/-- The types of plain data. -/
inductive Ty where
  | int (k : IntKind)
  | bool
  | str
  | err (tf tc : Nat)
  | flt (tc : Nat)
  | ins
  | tok
  | nod
  | itm
  | opn
  | lab
  | stm
  | opt
  | sym
  | slice (t : Ty)
  | pair (a b : Ty)
  deriving DecidableEq

/-- What a type's values are. -/
@[reducible] def El : Ty → Type
  | .int _ => Int
  | .bool => Bool
  | .str => Str
  | .err _ _ => Err
  | .flt _ => Flt
  | .ins => Ins
  | .tok => Tok
  | .nod => Nod
  | .itm => Itm
  | .opn => Opn
  | .lab => Lab
  | .stm => Stm
  | .opt => Opt
  | .sym => Sym
  | .slice t => List (El t)
  | .pair a b => El a × El b

/-- How many cells a type has. -/
def sz : Ty → Nat
  | .int _ => 1
  | .bool => 1
  | .str => 1
  | .err _ _ => 1
  | .flt _ => 1
  | .ins => 5
  | .tok => 6
  | .nod => 5
  | .itm => 15
  | .opn => 6
  | .lab => 3
  | .stm => 5
  | .opt => 2
  | .sym => 3
  | .slice _ => 1
  | .pair a b => sz a + sz b

def geti {α : Type} (l : List α) (n : Int) : Option α := match n with
  | .ofNat n => l[n]?
  | .negSucc _ => none
theorem geti_some {α : Type} {l : List α} {n : Int} {x : α} (h : geti l n = some x) : 0 ≤ n ∧ n.toNat < l.length ∧ l[n.toNat]? = some x := by
  cases n with
  | ofNat n => exact ⟨Int.natCast_nonneg n, (List.getElem?_eq_some_iff.1 h).1, h⟩
  | negSucc n => cases h
end Go.Up

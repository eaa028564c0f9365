/- The machine's operations. -/
import Derived.Test.YtmdddmjmppckhaaFwTy
namespace Go.Fw

inductive Opd where
  | t (n : Nat)
  | k (x : SV)

def St.get (σ : St) : Opd → SV
  | .t n => σ.t n
  | .k x => x

/-! ### Numbers -/
def opInt (op : BinOp) (k : IntKind) (x : Int) (k' : IntKind) (y : Int) : Option Cell :=
  match op with
  | .shl => if 0 ≤ y then some (.int k (k.wrap (x * 2 ^ (min y.toNat k.bits)))) else none
  | .shr => if 0 ≤ y then some (.int k (x.fdiv (2 ^ (min y.toNat k.bits)))) else none
  | .add => if k = k' then some (.int k (k.wrap (x + y))) else none
  | .sub => if k = k' then some (.int k (k.wrap (x - y))) else none
  | .mul => if k = k' then some (.int k (k.wrap (x * y))) else none
  | .quo => if k = k' ∧ y ≠ 0 then some (.int k (k.wrap (x.tdiv y))) else none
  | .rem => if k = k' ∧ y ≠ 0 then some (.int k (x.tmod y)) else none
  | .and | .or | .xor | .andNot => if k = k' then some (.int k (bits op k x y)) else none
  | .eql => if k = k' then some (.bool (x == y)) else none
  | .neq => if k = k' then some (.bool (x != y)) else none
  | .lss => if k = k' then some (.bool (decide (x < y))) else none
  | .leq => if k = k' then some (.bool (decide (x ≤ y))) else none
  | .gtr => if k = k' then some (.bool (decide (x > y))) else none
  | .geq => if k = k' then some (.bool (decide (x ≥ y))) else none

/-- Is a cell nil (of an interface, a pointer, a function)? -/
def Cell.isNil : Cell → Option Bool
  | .nili | .nilp | .nilf => some true
  | .ifc .. | .ad .. | .ar .. | .fn .. => some false
  | _ => none

/-- '==' of two cells of a scalar type. -/
def eqCell : Cell → Cell → Option Bool
  | .int k a, .int k' b => if k = k' then some (a == b) else none
  | .bool a, .bool b => some (a == b)
  | _, _ => none

/-- Is it a whole number? -/
def Cell.isInt : Cell → Bool
  | .int .. => true
  | _ => false

def eqCells : List Cell → List Cell → Option Bool
  | [], [] => some true
  | c :: cs, d :: ds => match eqCell c d, eqCells cs ds with
    | some b, some r => some (b && r)
    | _, _ => none
  | _, _ => none

end Go.Fw

/- Quiet operations: what each tells, and that Go's tells it. -/
import Derived.Test.YtmdddmjmppckhaaFwQuiet
namespace Go.Fw

inductive QO where
  | mv (x : Opd)
  | pick (c a b : Opd)
  | nilck (x : Opd)
  | bin (op : BinOp) (x y : Opd)
  | eqb (neq : Bool) (x y : Opd)
  | eqi (neq lit : Bool) (et : TypeId) (x y : Opd)
  | eqa (neq : Bool) (ks : List Bool) (x y : Opd)
  | not (x : Opd)
  | conv (k : IntKind) (x : Opd)
  | mkI (t : TypeId) (x : Opd)
  | mkF (f : FuncId) (caps : List Opd)
  | fld (off : Nat) (x : Opd)
  | idx (sz : Nat) (x i : Opd)
  | idxA (n sz : Nat) (x i : Opd)
  | load (agg : Bool) (n : Nat) (x : Opd)
  | ext (x : Opd) (i : Nat)
  | len (x : Opd)
  | lenS (x : Opd)
  | min (x y : Opd)
  | build (zero : List Cell) (parts : List (Nat × Nat × Opd))
  | slc (sz : Nat) (x : Opd) (lo hi : Option Opd)
  | fldv (agg : Bool) (off n : Nat) (x : Opd)
  | idxv (agg : Bool) (cnt sz : Nat) (x i : Opd)

def asI : SV → Option Int
  | .c (.int .i64 n) => some n
  | _ => none
def asB : SV → Option Bool
  | .c (.bool b) => some b
  | _ => none

/-- '==' of two values of an interface type. -/
def eqIface (lit : Bool) (et : TypeId) : Cell → Cell → Option Bool
  | .nili, .nili => if lit then some true else none
  | .nili, .ifc _ _ => some false
  | .ifc _ _, .nili => some false
  | .ifc t c, .ifc t' c' => if t ≠ t' then some false else if t ≠ et then none else match c, c' with
    | .int k a, .int k' b => if k = k' then some (a == b) else none
    | _, _ => none
  | _, _ => none

/-- What is read of memory that is not owned for ever: what is owned there is told as a snapshot. -/
def peek (ep : Nat) : Cell → Cell
  | .ow _ es => .sn ep (frzRows es)
  | c => c

/-- A cell read out of a snapshot. -/
def unsn (ep : Nat) : Cell → Cell
  | .ro es => .sn ep es
  | .ar cs j => .sa ep cs j
  | .int k n => .int k n
  | .bool b => .bool b
  | .str s => .str s
  | .nilp => .nilp
  | .nili => .nili
  | .nilf => .nilf
  | .z => .z
  | .ifc t (.int k n) => .ifc t (.int k n)
  | _ => .bad

def mkSV (agg : Bool) (cs : List Cell) : Option SV :=
  if agg then some (.a cs) else match cs with
    | [c] => some (.c c)
    | _ => none

def cut (cs : List Cell) (j n : Nat) : Option (List Cell) :=
  if j + n ≤ cs.length then some ((cs.drop j).take n) else none

/-- The cells of a value that may be stored. -/
def flat (ep : Nat) : SV → Option (List Cell)
  | .c .bad | .c .und | .t _ => none
  | .c (.sn e es) => if e = ep then some [.sn e es] else none
  | .c (.sa e cs j) => if e = ep then some [.sa e cs j] else none
  | .c c => some [c]
  | .a cs => some cs

def fillC (σ : St) : List (Nat × Nat × Opd) → List Cell → Option (List Cell)
  | [], cs => some cs
  | (off, n, q) :: ps, cs => match flat σ.ep (σ.get q) with
    | some xs => if xs.length = n ∧ off + n ≤ cs.length then fillC σ ps (cs.take off ++ xs ++ cs.drop (off + n)) else none
    | none => none

def bnd (σ : St) (dflt : Int) : Option Opd → Option Int
  | none => some dflt
  | some o => asI (σ.get o)

def qval (σ : St) : QO → Option SV
  | .mv x => some (σ.get x)
  | .pick c a b => match asB (σ.get c) with
    | some true => some (σ.get a)
    | some false => some (σ.get b)
    | none => none
  | .nilck x => match σ.get x with
    | .c (.ad id i j) => some (.c (.ad id i j))
    | .c (.ar cs j) => some (.c (.ar cs j))
    | .c (.sa e cs j) => if e = σ.ep then some (.c (.sa e cs j)) else none
    | _ => none
  | .bin op x y => match σ.get x, σ.get y with
    | .c (.int k a), .c (.int k' b) => (opInt op k a k' b).map .c
    | _, _ => none
  | .eqb neq x y => match asB (σ.get x), asB (σ.get y) with
    | some a, some b => some (.c (.bool (if neq then a != b else a == b)))
    | _, _ => none
  | .eqi neq lit et x y => match σ.get x, σ.get y with
    | .c c, .c d => match eqIface lit et c d with
      | some b => some (.c (.bool (if neq then !b else b)))
      | none => none
    | _, _ => none
  | .eqa neq ks x y => match σ.get x, σ.get y with
    | .a cs, .a ds => if cs.map Cell.isInt = ks then match eqCells cs ds with
      | some b => some (.c (.bool (if neq then !b else b)))
      | none => none else none
    | _, _ => none
  | .not x => match asB (σ.get x) with
    | some b => some (.c (.bool (!b)))
    | none => none
  | .conv k x => match σ.get x with
    | .c (.int _ n) => some (.c (.int k (k.wrap n)))
    | _ => none
  | .mkI t x => match σ.get x with
    | .c (.int k n) => some (.c (.ifc t (.int k n)))
    | .c (.ar cs j) => some (.c (.ifc t (.ar cs j)))
    | _ => none
  | .mkF f caps => (caps.mapM fun x => match σ.get x with | .c (.ad id i j) => some (Cell.ad id i j) | _ => none).map fun cs => .c (.fn f cs)
  | .fld off x => match σ.get x with
    | .c (.ad id i j) => some (.c (.ad id i (j + off)))
    | .c (.ar cs j) => some (.c (.ar cs (j + off)))
    | .c (.sa e cs j) => if e = σ.ep then some (.c (.sa e cs (j + off))) else none
    | _ => none
  | .idx sz x i => match σ.get x, asI (σ.get i) with
    | .c (.sl id off len), some n => match σ.h id with
      | some row => if 0 ≤ n ∧ n < len ∧ row.sz = sz ∧ off + len ≤ row.es.length then some (.c (.ad id (off + n.toNat) 0)) else none
      | none => none
    | .c (.ro es), some n => if 0 ≤ n then match es[n.toNat]? with
        | some e => if e.length = sz then some (.c (.ar e 0)) else none
        | none => none
      else none
    | .c (.sn ep es), some n => if 0 ≤ n ∧ ep = σ.ep then match es[n.toNat]? with
        | some e => if e.length = sz then some (.c (.sa ep e 0)) else none
        | none => none
      else none
    | _, _ => none
  | .idxA n sz x i => match σ.get x, asI (σ.get i) with
    | .c (.ad id r j), some m => if 0 ≤ m ∧ m < n then some (.c (.ad id r (j + m.toNat * sz))) else none
    | .c (.ar cs j), some m => if 0 ≤ m ∧ m < n then some (.c (.ar cs (j + m.toNat * sz))) else none
    | .c (.sa e cs j), some m => if 0 ≤ m ∧ m < n ∧ e = σ.ep then some (.c (.sa e cs (j + m.toNat * sz))) else none
    | _, _ => none
  | .load agg n x => match σ.get x with
    | .c (.ad id i j) => match σ.h id with
      | some row => match row.es[i]? with
        | some e => match cut e j n with
          | some cs => mkSV agg (cs.map (peek σ.ep))
          | none => none
        | none => none
      | none => none
    | .c (.ar cs j) => match cut cs j n with
      | some cs => mkSV agg cs
      | none => none
    | .c (.sa e cs j) => if e = σ.ep then match cut cs j n with
      | some cs => mkSV agg (cs.map (unsn e))
      | none => none
      else none
    | _ => none
  | .ext x i => match σ.get x with
    | .t xs => xs[i]?
    | _ => none
  | .len x => match σ.get x with
    | .c (.sl _ _ len) => some (.c (.int .i64 len))
    | .c (.ro es) => some (.c (.int .i64 es.length))
    | .c (.sn e es) => if e = σ.ep then some (.c (.int .i64 es.length)) else none
    | .c .z => some (.c (.int .i64 0))
    | _ => none
  | .lenS x => match σ.get x with
    | .c (.str s) => some (.c (.int .i64 s.size))
    | _ => none
  | .min x y => match asI (σ.get x), asI (σ.get y) with
    | some a, some b => some (.c (.int .i64 (if b < a then b else a)))
    | _, _ => none
  | .build zero parts => (fillC σ parts zero).map .a
  | .slc sz x lo hi => match σ.get x with
    | .c (.sl id off len) => match bnd σ 0 lo, bnd σ len hi, σ.h id with
      | some l, some h, some row => if 0 ≤ l ∧ l ≤ h ∧ h ≤ len ∧ row.sz = sz then some (.c (.sl id (off + l.toNat) (h - l).toNat)) else none
      | _, _, _ => none
    | .c (.ro es) => match bnd σ 0 lo, bnd σ es.length hi with
      | some l, some h => if 0 ≤ l ∧ l ≤ h ∧ h ≤ es.length ∧ es.all (fun e => decide (e.length = sz)) then some (.c (.ro ((es.drop l.toNat).take (h - l).toNat))) else none
      | _, _ => none
    | .c .z => match bnd σ 0 lo, bnd σ 0 hi with
      | some l, some h => if l = 0 ∧ h = 0 then some (.c .z) else none
      | _, _ => none
    | _ => none
  | .fldv agg off n x => match σ.get x with
    | .a xs => match cut xs off n with
      | some cs => mkSV agg cs
      | none => none
    | _ => none
  | .idxv agg cnt sz x i => match σ.get x, asI (σ.get i) with
    | .a xs, some m => if 0 ≤ m ∧ m < cnt then match cut xs (m.toNat * sz) sz with
      | some cs => mkSV agg cs
      | none => none
      else none
    | _, _ => none

end Go.Fw

/- What the machine needs to know of a type, told by the program's own tables. -/
import Derived.Test.YtmdddmjmppckhaaFwSt
namespace Go.Fw

inductive TD where
  | int (k : IntKind) | bool | str | slice (e : TypeId) | array (n : Nat) (e : TypeId) | struct (fs : List (Nat × TypeId)) | iface (bare : Bool) | ptr (e : TypeId) | fn | tuple | other
  deriving DecidableEq

structure TI where
  size : Nat
  bytes : Nat
  agg : Bool
  d : TD

def tdOf : TypeDesc → TD
  | .int k => .int k
  | .bool => .bool
  | .string => .str
  | .slice e => .slice e
  | .array n e => .array n e
  | .struct fs => .struct (fs.toList.map fun f => (f.offset, f.type))
  | .interface ms => .iface ms.isEmpty
  | .pointer e => .ptr e
  | .func .. => .fn
  | .tuple .. => .tuple
  | _ => .other

def tiOf (P : Program) (t : TypeId) : Option TI :=
  match P.info? t, P.underlying t with
  | some i, some d => some { size := i.size, bytes := i.bytes, agg := (match d with | .struct _ | .array _ _ => true | _ => false), d := tdOf d }
  | _, _ => none

def zeroCells (P : Program) : Nat → TypeId → Option (List Cell)
  | 0, _ => none
  | n + 1, t =>
    match P.underlying t with
    | some (.int k) => some [.int k 0]
    | some .bool => some [.bool false]
    | some .string => some [.str ⟨#[]⟩]
    | some (.slice e) => (P.info? e).map fun i => [.ow i.size []]
    | some (.pointer _) => some [.nilp]
    | some (.interface _) => some [.nili]
    | some (.func ..) => some [.nilf]
    | some (.array k e) => (zeroCells P n e).map fun z => (List.replicate k z).flatten
    | some (.struct fs) => fs.toList.foldr (fun f acc => match zeroCells P n f.type, acc with | some z, some r => some (z ++ r) | _, _ => none) (some [])
    | _ => none

def cellIs : Cell → Value → Bool
  | .int k n, .int k' n' => decide (k = k') && decide (n = n')
  | .bool b, .bool b' => b == b'
  | .str s, .string s' => s.data.toList == s'.data.toList
  | .nilp, .pointer none => true
  | .nili, .nilIface => true
  | .nilf, .nilFunc => true
  | .z, .slice none 0 0 => true
  | .ow _ [], .slice none 0 0 => true
  | .fn f [], .func (.func g) a b => decide (f = g) && a.isEmpty && b.isEmpty
  | _, _ => false

def cellsAre : List Cell → List Value → Bool
  | [], [] => true
  | c :: cs, v :: vs => cellIs c v && cellsAre cs vs
  | _, _ => false

theorem cellIs_RD {c : Cell} {v : Value} (h : cellIs c v = true) (w : World) (S : Nat → Prop) : RD w S c v [] := by
  unfold cellIs at h
  split at h
  · simp at h; obtain ⟨rfl, rfl⟩ := h; simp [RD]
  · simp at h; subst h; simp [RD]
  · rename_i s s'
    simp only [beq_iff_eq] at h
    have : s = s' := by cases s; cases s'; simp at h; rw [h]
    subst this; simp [RD]
  · simp [RD]
  · simp [RD]
  · simp [RD]
  · simp [RD]
  · simp [RD]
  · simp at h; obtain ⟨⟨rfl, h1⟩, h2⟩ := h; simp [RD, h1, h2]
  · cases h

/-- The cells of a type's zero value, held against the value itself. -/
def zeroOf (P : Program) (t : TypeId) : Option (List Cell) :=
  match P.info? t, zeroCells P 20 t with
  | some i, some cs => match i.zero with
    | some z => if cellsAre cs z.cells.toList && decide (i.size = cs.length) then some cs else none
    | none => none
  | _, _ => none

end Go.Fw

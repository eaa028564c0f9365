/- PRINTED by sh.py: types and encoders -/
import Derived.Test.YtmdddmjmppckhaaFwLz
import Derived.KernelRfl
namespace Go.Fw.K
open Go.Fw
def TC : TypeId := 71
def TS : TypeId := 85
inductive Er where
  | nil
  | code (n : Int)
  | spot (at_ : Int) (err : Er)
  deriving DecidableEq
def Er.isNil : Er → Bool
  | .nil => true
  | _ => false
def eEr : Er → Cell
  | .nil => .nili
  | .code n => .ifc TC (.int .i64 n)
  | .spot a e => .ifc TS (.ar [.int .i64 a, eEr e] 0)
def eE (e : Er) : List Cell := [eEr e]
theorem close_er {k : Nat} (e : Er) : ∀ σ, close1 k σ (eEr e) = some (eEr e, σ) := by intro σ; cases e <;> rfl
theorem keep_er (e : Er) : (eEr e).keep = true := by cases e <;> rfl
theorem live_er (e : Er) : (eEr e).live = false := by cases e <;> rfl
theorem frz_er (e : Er) : frz (eEr e) = eEr e := by cases e <;> rfl
theorem bor_er (e : Er) : ∀ σ, bor1 σ (eEr e) = some (false, eEr e) := by intro σ; cases e <;> rfl
theorem okStore_er (e : Er) : okStore (eEr e) = true := by cases e <;> rfl
section
variable {T : Tab} {X : Orc} {σ : St} {K : St → Prop} {L : List (Nat × SV)} {I : List (Id × Row)} {D : List Nat} {ep : Nat}
theorem Hv.eqn (hs : Hv L I D ep σ) {d : Nat} {x y : Opd} {e : Er} (hx : ∀ j h nx, St.get ⟨look L j, h, ep, nx⟩ x = .c (eEr e)) (hy : ∀ j h nx, St.get ⟨look L j, h, ep, nx⟩ y = .c .nili)
    (hk : ∀ σ', Hv ((d, .c (.bool e.isNil)) :: L) I D ep σ' → K σ') : IWp T X (some d) (.q (.eqi false true TC x y)) σ K :=
  hs.q (fun j h nx => by cases e <;> simp [qval, hx j h nx, hy j h nx, eEr, eqIface, Er.isNil]) hk
theorem Hv.nen (hs : Hv L I D ep σ) {d : Nat} {x y : Opd} {e : Er} (hx : ∀ j h nx, St.get ⟨look L j, h, ep, nx⟩ x = .c (eEr e)) (hy : ∀ j h nx, St.get ⟨look L j, h, ep, nx⟩ y = .c .nili)
    (hk : ∀ σ', Hv ((d, .c (.bool (!e.isNil))) :: L) I D ep σ' → K σ') : IWp T X (some d) (.q (.eqi true true TC x y)) σ K :=
  hs.q (fun j h nx => by cases e <;> simp [qval, hx j h nx, hy j h nx, eEr, eqIface, Er.isNil]) hk
end
structure Phi where
  Dst : Int
  Args : (List Int)
  deriving DecidableEq
structure Instr where
  Op : Int
  Dst : Int
  Args : (List Int)
  Imm : Int
  Fun : Int
  deriving DecidableEq
structure Term where
  Kind : Int
  Arg : Int
  To : (List Int)
  deriving DecidableEq
structure Block where
  Phis : (List Phi)
  Ins : (List Instr)
  Term : Term
  deriving DecidableEq
structure Func where
  Params : Int
  Result : Int
  Regs : (List Int)
  Blocks : (List Block)
  deriving DecidableEq
def ePhi_r (x : Phi) : List Cell := [.int .i64 x.Dst, .ro (x.Args.map eI)]
def eInstr_r (x : Instr) : List Cell := [.int .i64 x.Op, .int .i64 x.Dst, .ro (x.Args.map eI), .int .i64 x.Imm, .int .i64 x.Fun]
def eBlock_r (x : Block) : List Cell := [.ro (x.Phis.map ePhi_r), .ro (x.Ins.map eInstr_r), .int .i64 x.Term.Kind, .int .i64 x.Term.Arg, .ro (x.Term.To.map eI)]
def eFunc_r (x : Func) : List Cell := [.int .i64 x.Params, .int .i64 x.Result, .ro (x.Regs.map eI), .ro (x.Blocks.map eBlock_r)]
def eTerm_r (x : Term) : List Cell := [.int .i64 x.Kind, .int .i64 x.Arg, .ro (x.To.map eI)]
structure Module where
  Funcs : (List Func)
  deriving DecidableEq
structure check_looker where
  m : Module
  f : Func
  deriving DecidableEq
def echeck_looker_r (x : check_looker) : List Cell := [.ro (x.m.Funcs.map eFunc_r), .int .i64 x.f.Params, .int .i64 x.f.Result, .ro (x.f.Regs.map eI), .ro (x.f.Blocks.map eBlock_r)]
def eModule_r (x : Module) : List Cell := [.ro (x.Funcs.map eFunc_r)]
structure Spot where
  At : Int
  Err : Er
  deriving DecidableEq
def eSpot (x : Spot) : List Cell := [.int .i64 x.At, eEr x.Err]
structure Effect where
  Reads : Bool
  Writes : Bool
  Outs : Bool
  Traps : Bool
  Turns : Bool
  deriving DecidableEq
def eEffect (x : Effect) : List Cell := [.bool x.Reads, .bool x.Writes, .bool x.Outs, .bool x.Traps, .bool x.Turns]
structure calls_finder where
  calls : (List (List Int))
  number : (List Int)
  low : (List Int)
  on : (List Bool)
  stack : (List Int)
  rings : (List (List Int))
  counter : Int
  deriving DecidableEq
def ecalls_finder_mrooooo0 (x : calls_finder) : List Cell := [.ro (x.calls.map (eR eI)), .ow 1 (x.number.map eI), .ow 1 (x.low.map eI), .ow 1 (x.on.map eB), .ow 1 (x.stack.map eI), .ow 1 (x.rings.map (eO 1 eI)), .int .i64 x.counter]
def ecalls_finder_o (x : calls_finder) : List Cell := [.ow 1 (x.calls.map (eO 1 eI)), .ow 1 (x.number.map eI), .ow 1 (x.low.map eI), .ow 1 (x.on.map eB), .ow 1 (x.stack.map eI), .ow 1 (x.rings.map (eO 1 eI)), .int .i64 x.counter]
theorem eqc_Effect (a b : Effect) : eqCells (eEffect a) (eEffect b) = some (decide (a = b)) := by
  cases a; cases b
  simp [eEffect, eqCells, eqCell, Bool.beq_eq_decide_eq, Bool.decide_and]
def ePhi_o (x : Phi) : List Cell := [.int .i64 x.Dst, .ow 1 (x.Args.map eI)]
def eInstr_o (x : Instr) : List Cell := [.int .i64 x.Op, .int .i64 x.Dst, .ow 1 (x.Args.map eI), .int .i64 x.Imm, .int .i64 x.Fun]
def eBlock_o (x : Block) : List Cell := [.ow 2 (x.Phis.map ePhi_o), .ow 5 (x.Ins.map eInstr_o), .int .i64 x.Term.Kind, .int .i64 x.Term.Arg, .ow 1 (x.Term.To.map eI)]
def eFunc_o (x : Func) : List Cell := [.int .i64 x.Params, .int .i64 x.Result, .ow 1 (x.Regs.map eI), .ow 5 (x.Blocks.map eBlock_o)]
theorem frz_Phi : ∀ x, frzs (ePhi_o x) = ePhi_r x := by
  intro x
  simp only [ePhi_o, ePhi_r, frzs, frz, frzRows_map (e := eI) (e' := eI) (fun _ => rfl)]
theorem frz_Instr : ∀ x, frzs (eInstr_o x) = eInstr_r x := by
  intro x
  simp only [eInstr_o, eInstr_r, frzs, frz, frzRows_map (e := eI) (e' := eI) (fun _ => rfl)]
theorem frz_Block : ∀ x, frzs (eBlock_o x) = eBlock_r x := by
  intro x
  simp only [eBlock_o, eBlock_r, frzs, frz, frzRows_map (e := ePhi_o) (e' := ePhi_r) frz_Phi, frzRows_map (e := eInstr_o) (e' := eInstr_r) frz_Instr, frzRows_map (e := eI) (e' := eI) (fun _ => rfl)]
theorem frz_Func : ∀ x, frzs (eFunc_o x) = eFunc_r x := by
  intro x
  simp only [eFunc_o, eFunc_r, frzs, frz, frzRows_map (e := eI) (e' := eI) (fun _ => rfl), frzRows_map (e := eBlock_o) (e' := eBlock_r) frz_Block]
namespace F
def law15_EffectKinds : FuncId := 6
def check_Module : FuncId := 13
def law15_up : FuncId := 15
def effect_Effects : FuncId := 16
def effect_Quiet : FuncId := 19
def ref15_Quiet : FuncId := 20
def effect_Still : FuncId := 21
def ref15_Still : FuncId := 22
def effect_Removable : FuncId := 23
def ref15_Removable : FuncId := 24
def effect_Fixed : FuncId := 25
def check_Ahead : FuncId := 31
def slices_Clone_int_int : FuncId := 32
def check_Func : FuncId := 36
def calls_Calls : FuncId := 39
def effect_own : FuncId := 40
def calls_Rings : FuncId := 41
def slices_Contains_int_int : FuncId := 42
def effect_joined : FuncId := 43
def effect_plain : FuncId := 45
def ref01_Args : FuncId := 46
def graph_Reached : FuncId := 64
def slices_Index_int_int : FuncId := 69
def check_small : FuncId := 70
def check_typed : FuncId := 71
def check_ends : FuncId := 72
def check_looker_block : FuncId := 73
def slices_Sort_int_int : FuncId := 74
def slices_Compact_int_int : FuncId := 75
def effect_turns : FuncId := 76
def effect_instr : FuncId := 77
def calls_found : FuncId := 78
def slices_SortFunc_int_int : FuncId := 79
def calls_byFirst : FuncId := 80
def arith_Args : FuncId := 83
def arith_Traps : FuncId := 84
def graph_Next : FuncId := 90
def graph_Order : FuncId := 96
def graph_order : FuncId := 102
def check_typed_1 : FuncId := 106
def check_value : FuncId := 107
def slices_ContainsFunc_int_int : FuncId := 108
def check_looker_phi : FuncId := 109
def check_looker_instr : FuncId := 110
def check_looker_end : FuncId := 111
def effect_turns_1 : FuncId := 114
def calls_finder_visit : FuncId := 115
def graph_order_1 : FuncId := 124
def slices_Reverse_int_int : FuncId := 125
def slices_IndexFunc_int_int : FuncId := 126
def check_looker_has : FuncId := 127
def check_looker_are : FuncId := 128
def check_looker_arity : FuncId := 129
def check_looker_fits : FuncId := 130
def check_looker_has_1 : FuncId := 152
def check_looker_are_1 : FuncId := 153
def check_looker_call : FuncId := 154
end F
end Go.Fw.K

/- Quiet operations: which operation of Go's each is. -/
import Derived.Test.YtmdddmjmppckhaaFwQRun
namespace Go.Fw

def tdT (P : Program) (t : TypeId) : Option TD := (tiOf P t).map (·.d)

def optOK (N : Nat) : Option Opd → Option Operand → Bool
  | none, none => true
  | some x, some y => opdOK N x y
  | _, _ => false

def isK : Operand → Bool
  | .const _ => true
  | _ => false

def partsOK (N : Nat) (P : Program) (place : Nat → Option (Nat × Nat)) : List (Nat × Nat × Opd) → List (Nat × Operand) → Bool
  | [], [] => true
  | (off, n, x) :: ps, (i, y) :: qs => (place i == some (off, n)) && opdOK N x y && partsOK N P place ps qs
  | _, _ => false

def buildPlace (P : Program) (t : TypeId) : Nat → Option (Nat × Nat) := fun i =>
  match tdT P t with
  | some (.struct fs) => match fs[i]? with
    | some (off, ft) => (P.info? ft).map fun inf => (off, inf.size)
    | none => none
  | some (.array _ e) => (P.info? e).map fun inf => (i * inf.size, inf.size)
  | _ => none

/-- Fields that take one place each: whole numbers, bools. -/
def isTy (P : Program) (t : TypeId) (b : Bool) : Bool := match P.underlying t with
  | some (.int _) => b
  | some .bool => !b
  | _ => false
def flatFs (P : Program) : Nat → List Field → List Bool → Bool
  | _, [], [] => true
  | k, f :: fs, b :: bs => decide (f.name ≠ "_") && decide (f.offset = k) && isTy P f.type b && flatFs P (k + 1) fs bs
  | _, _, _ => false

def QO.ok (P : Program) (N : Nat) : QO → Op → Bool
  | .mv x, .move y | .mv x, .assign y => opdOK N x y
  | .pick c a b, .pick c' a' b' => opdOK N c c' && opdOK N a a' && opdOK N b b'
  | .nilck x, .nilCheck y => opdOK N x y
  | .bin op x y, .binOp op' _ x' y' _ => decide (op = op') && opdOK N x x' && opdOK N y y'
  | .eqb neq x y, .binOp op t x' y' _ => decide (op = if neq then .neq else .eql) && (tdT P t == some TD.bool) && opdOK N x x' && opdOK N y y'
  | .eqi neq lit et x y, .binOp op t x' y' _ => decide (op = if neq then .neq else .eql) && (match tdT P t with | some (.iface _) => true | _ => false) &&
      (!lit || isK x' || isK y') && (match P.underlying et, (P.info? et).map (·.comparable) with | some (.int _), some true => true | _, _ => false) && opdOK N x x' && opdOK N y y'
  | .eqa neq ks x y, .binOp op t x' y' _ => decide (op = if neq then .neq else .eql) && (match P.underlying t with | some (.struct fs) => flatFs P 0 fs.toList ks | _ => false) && !P.stoodInHeld t && !P.eqGuardType P.depth t &&
      opdOK N x x' && opdOK N y y'
  | .not x, .unOp .not _ y => opdOK N x y
  | .conv k x, .convert src dst y => (tiOf P src).isSome && (tdT P dst == some (TD.int k)) && opdOK N x y
  | .mkI t x, .makeInterface t' y => decide (t = t') && (match tdT P t with | some (.iface _) | none => false | _ => true) && opdOK N x y
  | .mkF f caps, .makeFunc (.func g) first ys => decide (f = g) && first.isEmpty && decide (caps.length = ys.size) && (caps.zip ys.toList).all fun p => opdOK N p.1 p.2
  | .fld off x, .fieldAddr s y f => (match P.underlying s with
      | some (.struct fs) => match fs[f]? with
        | some fl => decide (fl.offset = off) && (match P.info? fl.type with | some i => decide (i.size ≠ 0) | none => false)
        | none => false
      | _ => false) && opdOK N x y
  | .idx sz x i, .indexAddr t y j => (match P.underlying t with
      | some (.slice e) => (P.info? e).map (·.size) == some sz
      | _ => false) && opdOK N x y && opdOK N i j
  | .idxA n sz x i, .indexAddr t y j => (match P.underlying t with
      | some (.array m e) => decide (m = n) && ((P.info? e).map (·.size) == some sz)
      | _ => false) && opdOK N x y && opdOK N i j
  | .load agg n x, .load t y => ((tiOf P t).map (fun i => (i.agg, i.size)) == some (agg, n)) && (agg || decide (n = 1)) && opdOK N x y
  | .ext x i, .extract y j => decide (i = j) && opdOK N x y
  | .len x, .call { callee := .builtin .len, args, argTypes } => (match args.toList, argTypes.toList with
      | [y], [t] => (match P.underlying t with | some (.slice _) => true | _ => false) && opdOK N x y
      | _, _ => false)
  | .lenS x, .call { callee := .builtin .len, args, argTypes } => (match args.toList, argTypes.toList with
      | [y], [t] => (match P.underlying t with | some .string => true | _ => false) && opdOK N x y
      | _, _ => false)
  | .min x y, .call { callee := .builtin .min, args, .. } => (match args.toList with
      | [x', y'] => opdOK N x x' && opdOK N y y'
      | _ => false)
  | .build zero parts, .build t ps => (match zeroOf P t with
      | some z => decide (z.length = zero.length) && (match P.info? t with | some i => (match i.zero with | some zv => cellsAre zero zv.cells.toList | none => false) | none => false)
      | none => false) && (match P.underlying t with
        | some (.struct fs) => fs.toList.all fun f => (P.info? f.type).isSome
        | some (.array _ e) => (P.info? e).isSome
        | _ => false) && partsOK N P (buildPlace P t) parts ps.toList
  | .slc sz x lo hi, .slice t y lo' hi' none => (match P.underlying t with
      | some (.slice e) => (P.info? e).map (·.size) == some sz
      | _ => false) && opdOK N x y && optOK N lo lo' && optOK N hi hi'
  | .fldv agg off n x, .field t y f => (match P.underlying t with
      | some (.struct fs) => match fs[f]? with
        | some fl => decide (fl.offset = off) && ((tiOf P fl.type).map (fun i => (i.agg, i.size)) == some (agg, n))
        | none => false
      | _ => false) && (agg || decide (n = 1)) && opdOK N x y
  | .idxv agg cnt sz x i, .index t y j => (match P.underlying t with
      | some (.array m e) => decide (m = cnt) && ((tiOf P e).map (fun i => (i.agg, i.size)) == some (agg, sz))
      | _ => false) && (agg || decide (sz = 1)) && opdOK N x y && opdOK N i j
  | _, _ => false

section
variable {P : Program} {V : Env} {σ : St} {a : Act} {w : World} {G : Gh} {o : Oper} {x : SV}

/-- Go's operation tells a value that stands for the machine's, and leaves the world alone. -/
def Tells (P : Program) (σ : St) (a : Act) (w : World) (G : Gh) (o : Oper) (x : SV) : Prop :=
  ∃ v, (execOp a.eval o).run P w = .ok (.value v) w ∧ RS G σ.ep w x v

theorem tells_mv (h : Sim V σ a w G) {q : Opd} (hok : QO.ok P V.N (.mv q) o.op = true) (hv : qval σ (.mv q) = some x) : Tells P σ a w G o x := by
  obtain ⟨dst, op, ty, pos, aft, gd⟩ := o
  cases op <;> simp only [QO.ok, Bool.false_eq_true] at hok
  all_goals
    simp only [qval, Option.some.injEq] at hv
    subst hv
    exact ⟨_, by simp [execOp], h.get hok⟩

theorem tells_pick (h : Sim V σ a w G) {c a1 b1 : Opd} (hok : QO.ok P V.N (.pick c a1 b1) o.op = true) (hv : qval σ (.pick c a1 b1) = some x) : Tells P σ a w G o x := by
  obtain ⟨dst, op, ty, pos, aft, gd⟩ := o
  cases op <;> simp only [QO.ok, Bool.false_eq_true] at hok
  simp only [Bool.and_eq_true] at hok
  obtain ⟨⟨hc, ha⟩, hb⟩ := hok
  simp only [qval] at hv
  split at hv <;> rename_i he
  · injection hv with hv; subst hv
    have := asB_RS he (h.get hc)
    exact ⟨_, by simp [execOp, this, asBool], h.get ha⟩
  · injection hv with hv; subst hv
    have := asB_RS he (h.get hc)
    exact ⟨_, by simp [execOp, this, asBool], h.get hb⟩
  · cases hv

theorem RX_ad {ep : Nat} {id : Id} {i j : Nat} {v : Value} (h : RX G ep w (.ad id i j) v) : ∃ l, G.μ id = some l ∧ l.blk = true ∧ v = .pointer (some ⟨l.b, l.o + i * l.sz + j, none⟩) := h
theorem RX_ar {ep : Nat} {cs : List Cell} {j : Nat} {v : Value} (h : RX G ep w (.ar cs j) v) : ∃ b o, v = .pointer (some ⟨b, o + j, none⟩) ∧ G.S b ∧ RCs w G.S b o cs [] := by
  have h' : RD w G.S (.ar cs j) v [] := h
  simp only [RD] at h'
  exact h'.2
theorem RX_sa {ep e : Nat} {cs : List Cell} {j : Nat} {v : Value} (h : RX G ep w (.sa e cs j) v) (he : e = ep) : ∃ b o, v = .pointer (some ⟨b, o + j, none⟩) ∧ AllB w b ∧ RCs w (AllB w) b o cs [] := by
  have h' := h.2 he
  simp only [RD] at h'
  exact h'.2

theorem tells_nilck (h : Sim V σ a w G) {q : Opd} (hok : QO.ok P V.N (.nilck q) o.op = true) (hv : qval σ (.nilck q) = some x) : Tells P σ a w G o x := by
  obtain ⟨dst, op, ty, pos, aft, gd⟩ := o
  cases op <;> simp only [QO.ok, Bool.false_eq_true] at hok
  have hg := h.get hok
  simp only [qval] at hv
  split at hv <;> rename_i he
  · injection hv with hv; subst hv
    rw [he] at hg
    obtain ⟨l, _, _, e⟩ := RX_ad (RS_c hg)
    exact ⟨_, by simp [execOp, e], e ▸ hg⟩
  · injection hv with hv; subst hv
    rw [he] at hg
    obtain ⟨b, o, e, _⟩ := RX_ar (RS_c hg)
    exact ⟨_, by simp [execOp, e], e ▸ hg⟩
  · split at hv
    · rename_i h1
      injection hv with hv; subst hv
      rw [he] at hg
      obtain ⟨b, o, e, _⟩ := RX_sa (RS_c hg) h1
      exact ⟨_, by simp [execOp, e], e ▸ hg⟩
    · cases hv
  · cases hv

theorem tells_bin (h : Sim V σ a w G) {op' : BinOp} {q r : Opd} (hok : QO.ok P V.N (.bin op' q r) o.op = true) (hv : qval σ (.bin op' q r) = some x) : Tells P σ a w G o x := by
  obtain ⟨dst, op, ty, pos, aft, gd⟩ := o
  cases op <;> simp only [QO.ok, Bool.false_eq_true] at hok
  simp only [Bool.and_eq_true, decide_eq_true_eq] at hok
  obtain ⟨⟨rfl, hq⟩, hr⟩ := hok
  rename_i t y z yt
  have hgq := h.get hq
  have hgr := h.get hr
  simp only [qval] at hv
  split at hv
  · rename_i k a' k' b he1 he2
    rw [he1] at hgq
    rw [he2] at hgr
    have e1 := RS_int hgq
    have e2 := RS_int hgr
    cases hc : opInt op' k a' k' b with
    | none => simp [hc] at hv
    | some c =>
      simp [hc] at hv
      subst hv
      obtain ⟨v, hr, hi⟩ := opInt_run (P := P) (w := w) t hc
      refine ⟨v, ?_, .c (RX_of_is hi)⟩
      have heq : (eqGuard op' t y z (.int k a') (.int k' b)).run P w = .ok () w := by
        unfold eqGuard
        split <;> simp
      simp [execOp, e1, e2, heq, hr]
  · cases hv

theorem tells_not (h : Sim V σ a w G) {q : Opd} (hok : QO.ok P V.N (.not q) o.op = true) (hv : qval σ (.not q) = some x) : Tells P σ a w G o x := by
  obtain ⟨dst, op, ty, pos, aft, gd⟩ := o
  cases op <;> simp only [QO.ok, Bool.false_eq_true] at hok
  rename_i u t y
  cases u <;> simp only [QO.ok, Bool.false_eq_true] at hok
  simp only [qval] at hv
  split at hv <;> rename_i he
  · injection hv with hv; subst hv
    have := asB_RS he (h.get hok)
    exact ⟨_, by simp [execOp, this, Op.unary], RS_mkBool _ _ _ _⟩
  · cases hv

end
end Go.Fw

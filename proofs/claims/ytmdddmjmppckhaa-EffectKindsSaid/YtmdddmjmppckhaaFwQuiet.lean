/- The operations that leave the world alone. -/
import Derived.Test.YtmdddmjmppckhaaFwOp
namespace Go.Fw

section
variable {G : Gh} {ep : Nat} {w : World} {v : Value}

theorem RS_c {x : Cell} (h : RS G ep w (.c x) v) : RX G ep w x v := by cases h; assumption
theorem RS_int {k : IntKind} {n : Int} (h : RS G ep w (.c (.int k n)) v) : v = .int k n := by have := RS_c h; simp [RX, RD] at this; exact this
theorem RS_bool {b : Bool} (h : RS G ep w (.c (.bool b)) v) : v = .bool b := by have := RS_c h; simp [RX, RD] at this; exact this
theorem RS_mkInt (G : Gh) (ep : Nat) (w : World) (k : IntKind) (n : Int) : RS G ep w (.c (.int k n)) (.int k n) := .c (by simp [RX, RD])
theorem RS_mkBool (G : Gh) (ep : Nat) (w : World) (b : Bool) : RS G ep w (.c (.bool b)) (.bool b) := .c (by simp [RX, RD])
theorem RX_plain {c : Cell} (hc : c.live = false) : RX G ep w c v ↔ RD w G.S c v [] := by
  cases c <;> simp [Cell.live] at hc <;> simp only [RX]
  subst hc
  simp only [RD]
  constructor
  · rintro ⟨vs, rfl, hl, _⟩
    have : vs = [] := List.eq_nil_of_length_eq_zero (by simpa using hl)
    subst this; simp
  · rintro ⟨_, rfl, _⟩
    exact ⟨[], rfl, rfl, by simp⟩
theorem RX_of_is {c : Cell} (h : cellIs c v = true) : RX G ep w c v := by
  have hl : c.live = false := by
    unfold cellIs at h
    split at h <;> simp_all [Cell.live]
  exact (RX_plain hl).2 (cellIs_RD h w G.S)
theorem RXs_of_are : ∀ {cs : List Cell} {vs : List Value}, cellsAre cs vs = true → RXs G ep w cs vs
  | [], [], _ => .nil
  | [], _ :: _, h => by simp [cellsAre] at h
  | _ :: _, [], h => by simp [cellsAre] at h
  | c :: cs, v :: vs, h => by
    simp only [cellsAre, Bool.and_eq_true] at h
    exact .cons (RX_of_is h.1) (RXs_of_are h.2)
theorem RXs_length {cs : List Cell} {vs : List Value} (h : RXs G ep w cs vs) : vs.length = cs.length := by
  induction h <;> simp [*]
theorem RXs_get {cs : List Cell} {vs : List Value} (h : RXs G ep w cs vs) : ∀ (k : Nat) (c : Cell), cs[k]? = some c → ∃ u, vs[k]? = some u ∧ RX G ep w c u := by
  induction h with
  | nil => simp
  | cons h _ ih =>
    intro k c hk
    cases k with
    | zero => simp at hk; subst hk; exact ⟨_, rfl, h⟩
    | succ k => simpa using ih k c (by simpa using hk)
theorem RXs_of_get : ∀ {cs : List Cell} {vs : List Value}, vs.length = cs.length → (∀ (k : Nat) (c : Cell), cs[k]? = some c → ∃ u, vs[k]? = some u ∧ RX G ep w c u) → RXs G ep w cs vs
  | [], vs, h, _ => by have : vs = [] := List.eq_nil_of_length_eq_zero (by simpa using h); subst this; exact .nil
  | c :: cs, [], h, _ => by simp at h
  | c :: cs, u :: us, h, hk => by
    obtain ⟨u', hu, hx⟩ := hk 0 c rfl
    simp at hu; subst hu
    exact .cons hx (RXs_of_get (by simpa using h) fun k c' hc => by simpa using hk (k + 1) c' (by simpa using hc))
end

/-! ### Operands -/
def svIs : SV → Value → Bool
  | .c x, v => cellIs x v
  | .a xs, .agg vs => cellsAre xs vs.toList
  | _, _ => false

def opdOK (N : Nat) : Opd → Operand → Bool
  | .t n, .tmp m => decide (n = m) && decide (n < N)
  | .k x, .const v => svIs x v
  | .k (.c (.fn f [])), .func g => decide (f = g)
  | _, _ => false

theorem svIs_RS {G : Gh} {ep : Nat} {w : World} {x : SV} {v : Value} (h : svIs x v = true) : RS G ep w x v := by
  unfold svIs at h
  split at h
  · exact .c (RX_of_is h)
  · rename_i xs vs
    have := RS.a (G := G) (ep := ep) (w := w) (RXs_of_are h)
    simpa using this
  · cases h

section
variable {P : Program} {V : Env} {σ : St} {a : Act} {w : World} {G : Gh}

theorem Sim.get (h : Sim V σ a w G) {o : Opd} {x : Operand} (ho : opdOK V.N o x = true) : RS G σ.ep w (σ.get o) (a.eval x) := by
  unfold opdOK at ho
  split at ho
  · simp at ho
    obtain ⟨rfl, hn⟩ := ho
    exact h.slots _ hn
  · exact svIs_RS ho
  · simp at ho
    subst ho
    exact .c ⟨[], rfl, rfl, by simp⟩
  · cases ho
end

/-! ### Numbers -/
theorem opInt_run {P : Program} {w : World} {op : BinOp} {k k' : IntKind} {x y : Int} {c : Cell} (t : TypeId) (h : opInt op k x k' y = some c) :
    ∃ v, (binOp op t (.int k x) (.int k' y)).run P w = .ok v w ∧ cellIs c v = true := by
  cases op <;> simp only [opInt] at h
  case shl =>
    split at h
    · rename_i h0
      injection h with h; subst h
      exact ⟨.int k (k.wrap (x * 2 ^ (min y.toNat k.bits))), by simp [binOp, Op.shift, Int.not_lt.2 h0], by simp [cellIs]⟩
    · cases h
  case shr =>
    split at h
    · rename_i h0
      injection h with h; subst h
      exact ⟨.int k (x.fdiv (2 ^ (min y.toNat k.bits))), by simp [binOp, Op.shift, Int.not_lt.2 h0], by simp [cellIs]⟩
    · cases h
  case quo =>
    split at h
    · rename_i h0
      injection h with h; subst h
      obtain ⟨rfl, h0⟩ := h0
      exact ⟨.int k (k.wrap (x.tdiv y)), by simp [binOp, Op.intDiv, h0], by simp [cellIs]⟩
    · cases h
  case rem =>
    split at h
    · rename_i h0
      injection h with h; subst h
      obtain ⟨rfl, h0⟩ := h0
      exact ⟨.int k (x.tmod y), by simp [binOp, Op.intDiv, h0], by simp [cellIs]⟩
    · cases h
  all_goals
    split at h
    · rename_i h0
      subst h0
      injection h with h; subst h
      refine ⟨_, by simp [binOp, Op.intArith, Op.intBits, Op.intCmp, bits]; rfl, by simp [cellIs, bits]⟩
    · cases h

end Go.Fw

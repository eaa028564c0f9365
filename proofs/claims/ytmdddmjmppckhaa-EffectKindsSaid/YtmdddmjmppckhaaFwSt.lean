/- The abstract state, and how it stands in a machine. -/
import Derived.Test.YtmdddmjmppckhaaFwCell
namespace Go.Fw

inductive SV where
  | c (x : Cell)
  | a (xs : List Cell)
  | t (xs : List SV)

structure Row where
  sz : Nat
  es : List (List Cell)

structure St where
  t : Nat → SV
  h : Id → Option Row
  ep : Nat
  nx : Nat

def St.set (σ : St) (d : Nat) (x : SV) : St := { σ with t := fun s => if s = d then x else σ.t s }
def St.put (σ : St) (d : Option Nat) (x : SV) : St := match d with | some d => σ.set d x | none => σ
def St.setH (σ : St) (id : Id) (r : Option Row) : St := { σ with h := fun i => if i = id then r else σ.h i }

/-- Where an object lies; `blk = false`: it has no block (a slice without capacity). -/
structure Loc where
  b : Nat
  o : Nat
  cap : Nat
  sz : Nat
  blk : Bool

structure Gh where
  μ : Id → Option Loc
  Fp : Id → List Nat
  S : Nat → Prop

def AllB (w : World) : Nat → Prop := fun b => b < w.heap.size

def RAd (G : Gh) : Cell → Value → Prop
  | .ad id i j, v => ∃ l, G.μ id = some l ∧ l.blk = true ∧ v = .pointer (some ⟨l.b, l.o + i * l.sz + j, none⟩)
  | _, _ => False

/-- A cell that is no data, or data that owns nothing. -/
def RX (G : Gh) (ep : Nat) (w : World) : Cell → Value → Prop
  | .sl id off len, v => ∃ l, G.μ id = some l ∧
      ((l.blk = true ∧ off < l.cap ∧ off + len ≤ l.cap ∧ v = .slice (some ⟨l.b, l.o + off * l.sz, none⟩) len (l.cap - off)) ∨ (off = l.cap ∧ len = 0 ∧ ∃ a, v = .slice a 0 0))
  | .ad id i j, v => RAd G (.ad id i j) v
  | .fn f caps, v => ∃ vs : List Value, v = .func (.func f) #[] vs.toArray ∧ vs.length = caps.length ∧ ∀ (k : Nat) (c : Cell) (u : Value), caps[k]? = some c → vs[k]? = some u → RAd G c u
  | .sn e es, v => e ≤ ep ∧ (e = ep → RD w (AllB w) (.ro es) v [])
  | .sa e cs j, v => e ≤ ep ∧ (e = ep → RD w (AllB w) (.ar cs j) v [])
  | .bad, _ => True
  | c, v => RD w G.S c v []

inductive RXs (G : Gh) (ep : Nat) (w : World) : List Cell → List Value → Prop
  | nil : RXs G ep w [] []
  | cons {c : Cell} {u : Value} {cs : List Cell} {us : List Value} : RX G ep w c u → RXs G ep w cs us → RXs G ep w (c :: cs) (u :: us)

inductive RS (G : Gh) (ep : Nat) (w : World) : SV → Value → Prop
  | c {x : Cell} {v : Value} : RX G ep w x v → RS G ep w (.c x) v
  | a {xs : List Cell} {vs : List Value} : RXs G ep w xs vs → RS G ep w (.a xs) (.agg vs.toArray)
  | t {xs : List SV} {vs : List Value} : xs.length = vs.length → (∀ (k : Nat) (x : SV) (v : Value), xs[k]? = some x → vs[k]? = some v → RS G ep w x v) → RS G ep w (.t xs) (.tuple vs.toArray)

/-- Is a cell no data? -/
def Cell.live : Cell → Bool
  | .sn .. | .sa .. | .sl .. | .ad .. | .bad => true
  | .fn _ caps => !caps.isEmpty
  | _ => false

/-- A cell of an object: data with what it owns, or else a cell that owns nothing. -/
def RF (G : Gh) (ep : Nat) (w : World) (c : Cell) (v : Value) (F : List Nat) : Prop :=
  RD w G.S c v F ∨ (RX G ep w c v ∧ F = [])

def RFs (G : Gh) (ep : Nat) (w : World) (b : Nat) : Nat → List Cell → List Nat → Prop
  | _, [], F => F = []
  | k, c :: cs, F => ∃ u F1 F2, F = F1 ++ F2 ∧ w.cell? ⟨b, k, none⟩ = some u ∧ RF G ep w c u F1 ∧ RFs G ep w b (k + 1) cs F2
def RFRow (G : Gh) (ep : Nat) (w : World) (b sz : Nat) : Nat → List (List Cell) → List Nat → Prop
  | _, [], F => F = []
  | o, e :: es, F => e.length = sz ∧ ∃ F1 F2, F = F1 ++ F2 ∧ RFs G ep w b o e F1 ∧ RFRow G ep w b sz (o + sz) es F2

def ObjR (G : Gh) (ep : Nat) (w : World) (l : Loc) (row : Row) (F : List Nat) : Prop :=
  l.sz = row.sz ∧
  if l.blk = true then ∃ cur E F', w.heap[l.b]? = some (.cells cur E (0, 0)) ∧ l.o + l.cap * l.sz = cur.size ∧ row.es.length ≤ l.cap ∧ l.cap ≤ maxLen ∧
    F = l.b :: F' ∧ RFRow G ep w l.b l.sz l.o row.es F'
  else l.cap = 0 ∧ row.es = [] ∧ F = []

/-- What a call began with: the world; what is stable; the blocks that were lent; how many slots it has. -/
structure Env where
  w0 : World
  S0 : Nat → Prop
  E0 : Nat → Prop
  N : Nat

structure Sim (V : Env) (σ : St) (a : Act) (w : World) (G : Gh) : Prop where
  size : a.tmps.size = V.N
  defers : a.defers = []
  slots : ∀ s, s < V.N → RS G σ.ep w (σ.t s) (a.tmps.getD s undef)
  objs : ∀ id row, σ.h id = some row → ∃ l, G.μ id = some l ∧ ObjR G σ.ep w l row (G.Fp id)
  nodup : ∀ id row, σ.h id = some row → (G.Fp id).Nodup
  own : ∀ id row, σ.h id = some row → ∀ b ∈ G.Fp id, b < w.heap.size ∧ ¬ G.S b ∧ (V.E0 b ∨ V.w0.heap.size ≤ b)
  apart : ∀ id id' row row', σ.h id = some row → σ.h id' = some row' → id ≠ id' → ∀ b ∈ G.Fp id, b ∉ G.Fp id'
  fresh : ∀ id : Id, σ.nx < id.2 → G.μ id = none
  stable : ∀ b, G.S b → b < w.heap.size
  sOld : ∀ b, V.S0 b → G.S b
  sNew : ∀ b, G.S b → V.S0 b ∨ V.E0 b ∨ V.w0.heap.size ≤ b
  kept : ∀ b, b < V.w0.heap.size → ¬ V.E0 b → w.heap[b]? = V.w0.heap[b]?
  grow : V.w0.heap.size ≤ w.heap.size
  os : w.os = V.w0.os
  tape : w.tape = V.w0.tape
  output : w.output = V.w0.output

/-! ### A world that has more -/
/-- Nothing that was there has changed. -/
structure More (w w' : World) : Prop where
  size : w.heap.size ≤ w'.heap.size
  heap : ∀ b, b < w.heap.size → w'.heap[b]? = w.heap[b]?
  os : w'.os = w.os
  tape : w'.tape = w.tape
  output : w'.output = w.output

theorem More.refl (w : World) : More w w := ⟨Nat.le_refl _, fun _ _ => rfl, rfl, rfl, rfl⟩
theorem More.trans {w1 w2 w3 : World} (h : More w1 w2) (k : More w2 w3) : More w1 w3 :=
  ⟨Nat.le_trans h.size k.size, fun b hb => (k.heap b (Nat.lt_of_lt_of_le hb h.size)).trans (h.heap b hb), k.os.trans h.os, k.tape.trans h.tape, k.output.trans h.output⟩
theorem More.alloc (w : World) (o : Obj) : More w (w.alloc o) :=
  ⟨by simp, fun b hb => heap_alloc_old w o b hb, rfl, rfl, rfl⟩
theorem More.drew (w : World) : More w w.drew := ⟨Nat.le_refl _, fun _ _ => rfl, rfl, rfl, rfl⟩

theorem lt_of_cell? {w : World} {a : Addr} {v : Value} (h : w.cell? a = some v) : a.block < w.heap.size := World.block_lt_of_cell? w a h

/-- More is known of where objects lie, and more is stable. -/
structure Ext (G G' : Gh) : Prop where
  μ : ∀ id l, G.μ id = some l → G'.μ id = some l
  S : ∀ b, G.S b → G'.S b
theorem Ext.refl (G : Gh) : Ext G G := ⟨fun _ _ h => h, fun _ h => h⟩

/-- A step of the world as its cells see it: what is stable stays; in the same epoch nothing that was there changes. -/
structure Sees (G G' : Gh) (ep ep' : Nat) (w w' : World) : Prop where
  ext : Ext G G'
  keep : ∀ b, G.S b → w'.heap[b]? = w.heap[b]?
  le : ep ≤ ep'
  more : ep' = ep → (w.heap.size ≤ w'.heap.size ∧ ∀ b, b < w.heap.size → w'.heap[b]? = w.heap[b]?)

section
variable {G G' : Gh} {ep ep' : Nat} {w w' : World}

theorem More.sees (m : More w w') (e : Ext G G') (hs : ∀ b, G.S b → b < w.heap.size) : Sees G G' ep ep w w' :=
  ⟨e, fun b hb => m.heap b (hs b hb), Nat.le_refl _, fun _ => ⟨m.size, m.heap⟩⟩

theorem RAd_ext (e : Ext G G') {c : Cell} {v : Value} (h : RAd G c v) : RAd G' c v := by
  cases c <;> simp only [RAd] at h ⊢
  obtain ⟨l, hl, hb, hv⟩ := h
  exact ⟨l, e.μ _ _ hl, hb, hv⟩

theorem RX_sees (s : Sees G G' ep ep' w w') {c : Cell} {v : Value} (h : RX G ep w c v) : RX G' ep' w' c v := by
  have hS : ∀ b, G.S b → G'.S b ∧ w'.heap[b]? = w.heap[b]? := fun b hb => ⟨s.ext.S b hb, s.keep b hb⟩
  have hA : ep' = ep → ∀ b, AllB w b → AllB w' b ∧ w'.heap[b]? = w.heap[b]? := fun e b hb => ⟨Nat.lt_of_lt_of_le hb (s.more e).1, (s.more e).2 b hb⟩
  have hle := s.le
  cases c
  case sl => obtain ⟨l, hl, hv⟩ := h; exact ⟨l, s.ext.μ _ _ hl, hv⟩
  case ad id i j => exact RAd_ext (c := .ad id i j) s.ext h
  case fn => obtain ⟨vs, hv, hl, hc⟩ := h; exact ⟨vs, hv, hl, fun k c u h1 h2 => RAd_ext s.ext (hc k c u h1 h2)⟩
  case sn => exact ⟨Nat.le_trans h.1 hle, fun e => by
    have e1 : ep' = ep := by have := h.1; omega
    exact RD_mono (hA e1) _ _ _ (h.2 (e.trans e1)) (by simp)⟩
  case sa => exact ⟨Nat.le_trans h.1 hle, fun e => by
    have e1 : ep' = ep := by have := h.1; omega
    exact RD_mono (hA e1) _ _ _ (h.2 (e.trans e1)) (by simp)⟩
  case bad => trivial
  all_goals exact RD_mono hS _ _ _ h (by simp)

theorem RXs_sees (s : Sees G G' ep ep' w w') {cs : List Cell} {vs : List Value} (h : RXs G ep w cs vs) : RXs G' ep' w' cs vs := by
  induction h with
  | nil => exact .nil
  | cons h _ ih => exact .cons (RX_sees s h) ih

theorem RS_sees (s : Sees G G' ep ep' w w') {x : SV} {v : Value} (h : RS G ep w x v) : RS G' ep' w' x v := by
  induction h with
  | c h => exact .c (RX_sees s h)
  | a h => exact .a (RXs_sees s h)
  | t hl _ ih => exact .t hl ih

theorem RF_sees (s : Sees G G' ep ep' w w') {c : Cell} {v : Value} {F : List Nat} (h : RF G ep w c v F) (hF : ∀ b ∈ F, w'.heap[b]? = w.heap[b]?) : RF G' ep' w' c v F := by
  rcases h with h | ⟨h, rfl⟩
  · exact .inl (RD_mono (fun b hb => ⟨s.ext.S b hb, s.keep b hb⟩) _ _ _ h hF)
  · exact .inr ⟨RX_sees s h, rfl⟩

theorem RFs_sees (s : Sees G G' ep ep' w w') (b : Nat) : ∀ (cs : List Cell) (k0 : Nat) (F : List Nat), (∀ k, k0 ≤ k → k < k0 + cs.length → w'.cell? ⟨b, k, none⟩ = w.cell? ⟨b, k, none⟩) → RFs G ep w b k0 cs F → (∀ b ∈ F, w'.heap[b]? = w.heap[b]?) → RFs G' ep' w' b k0 cs F
  | [], _, _, _, h, _ => by simpa only [RFs] using h
  | c :: cs, k0, F, hc, h, hF => by
    simp only [RFs] at h ⊢
    obtain ⟨u, F1, F2, rfl, hu, h1, h2⟩ := h
    exact ⟨u, F1, F2, rfl, by rw [hc k0 (by omega) (by simp)]; exact hu, RF_sees s h1 (fun x hx => hF x (by simp [hx])), RFs_sees s b cs (k0 + 1) F2 (fun k hk hk2 => hc k (by omega) (by simp; omega)) h2 (fun x hx => hF x (by simp [hx]))⟩

theorem RFs_length {b : Nat} : ∀ (cs : List Cell) (k0 : Nat) (F : List Nat), RFs G ep w b k0 cs F → ∀ k, k0 ≤ k → k < k0 + cs.length → ∃ u, w.cell? ⟨b, k, none⟩ = some u
  | [], _, _, _, k, h1, h2 => by simp at h2; omega
  | c :: cs, k0, F, h, k, h1, h2 => by
    simp only [RFs] at h
    obtain ⟨u, F1, F2, rfl, hu, _, h3⟩ := h
    by_cases e : k = k0
    · subst e; exact ⟨u, hu⟩
    · exact RFs_length cs (k0 + 1) F2 h3 k (by omega) (by simp at h2; omega)

theorem RFRow_sees (s : Sees G G' ep ep' w w') (b sz : Nat) : ∀ (es : List (List Cell)) (o : Nat) (F : List Nat), (∀ k, o ≤ k → k < o + es.length * sz → w'.cell? ⟨b, k, none⟩ = w.cell? ⟨b, k, none⟩) → RFRow G ep w b sz o es F → (∀ b ∈ F, w'.heap[b]? = w.heap[b]?) → RFRow G' ep' w' b sz o es F
  | [], _, _, _, h, _ => by simpa only [RFRow] using h
  | e :: es, o, F, hc, h, hF => by
    simp only [RFRow] at h ⊢
    obtain ⟨hl, F1, F2, rfl, h1, h2⟩ := h
    refine ⟨hl, F1, F2, rfl, RFs_sees s b e o F1 (fun k hk hk2 => hc k hk ?_) h1 (fun x hx => hF x (by simp [hx])), RFRow_sees s b sz es (o + sz) F2 (fun k hk hk2 => hc k (by omega) ?_) h2 (fun x hx => hF x (by simp [hx]))⟩
    · rw [hl] at hk2; simp only [List.length_cons, Nat.add_mul, Nat.one_mul]; omega
    · simp only [List.length_cons, Nat.add_mul, Nat.one_mul]; omega

theorem ObjR_sees (s : Sees G G' ep ep' w w') {l : Loc} {row : Row} {F : List Nat} (h : ObjR G ep w l row F) (hF : ∀ b ∈ F, w'.heap[b]? = w.heap[b]?) : ObjR G' ep' w' l row F := by
  obtain ⟨h1, h⟩ := h
  refine ⟨h1, ?_⟩
  split at h
  · rename_i hb
    rw [if_pos hb]
    obtain ⟨cur, E, F', hh, h2, h3, h4, rfl, hr⟩ := h
    have hbk := hF l.b (by simp)
    exact ⟨cur, E, F', by rw [hbk]; exact hh, h2, h3, h4, rfl, RFRow_sees s l.b l.sz row.es l.o F' (fun k _ _ => cell?_of_heap hbk k) hr (fun x hx => hF x (by simp [hx]))⟩
  · rename_i hb
    rw [if_neg hb]
    exact h
end

/-! ### Steps of the state -/
section
variable {V : Env} {σ : St} {a : Act} {w w' : World} {G : Gh}

theorem Sim.more (h : Sim V σ a w G) (m : More w w') : Sim V σ a w' G :=
  { h with
    slots := fun s hs => RS_sees (m.sees (Ext.refl G) h.stable) (h.slots s hs)
    objs := fun id row hr => let ⟨l, hl, ho⟩ := h.objs id row hr; ⟨l, hl, ObjR_sees (m.sees (Ext.refl G) h.stable) ho fun b hb => m.heap b (h.own id row hr b hb).1⟩
    own := fun id row hr b hb => let ⟨h1, h2⟩ := h.own id row hr b hb; ⟨Nat.lt_of_lt_of_le h1 m.size, h2⟩
    stable := fun b hb => Nat.lt_of_lt_of_le (h.stable b hb) m.size
    kept := fun b hb he => (m.heap b (Nat.lt_of_lt_of_le hb h.grow)).trans (h.kept b hb he)
    grow := Nat.le_trans h.grow m.size
    os := m.os.trans h.os
    tape := m.tape.trans h.tape
    output := m.output.trans h.output }

theorem Act.put_size (a : Act) (d : Option Nat) (v : Value) : (a.put d v).tmps.size = a.tmps.size := by cases d <;> simp [Act.put]
theorem Act.put_defers' (a : Act) (d : Option Nat) (v : Value) : (a.put d v).defers = a.defers := by cases d <;> rfl

theorem Act.put_getD (a : Act) (d : Nat) (v : Value) (hd : d < a.tmps.size) (s : Nat) : (a.put (some d) v).tmps.getD s undef = if s = d then v else a.tmps.getD s undef := by
  simp only [Act.put]
  by_cases e : s = d
  · subst e; simp [Array.getD_eq_getD_getElem?, hd]
  · simp [Array.getD_eq_getD_getElem?, e, Array.getElem?_setIfInBounds_ne (Ne.symm e)]

theorem Sim.set (h : Sim V σ a w G) {d : Nat} (hd : d < V.N) {x : SV} {v : Value} (hx : RS G σ.ep w x v) : Sim V (σ.set d x) (a.put (some d) v) w G :=
  { h with
    size := by rw [Act.put_size]; exact h.size
    defers := by rw [Act.put_defers']; exact h.defers
    slots := fun s hs => by
      rw [Act.put_getD _ _ _ (by rw [h.size]; exact hd)]
      simp only [St.set]
      split
      · exact hx
      · exact h.slots s hs }
end

end Go.Fw

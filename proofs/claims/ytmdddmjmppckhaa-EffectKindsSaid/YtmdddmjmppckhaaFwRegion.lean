/- A region whose order is the text's. -/
import Derived.Test.YtmdddmjmppckhaaFwIns
import Derived.Orders
namespace Go.Fw

structure RStep where
  dst : Option Nat
  gd : Option (Nat × Bool)
  ins : Ins

def rguard (σ : St) : Option (Nat × Bool) → Option Bool
  | none => some true
  | some (g, want) => match σ.t g with
    | .c (.bool b) => some (b == want)
    | .c .und => some false
    | _ => none

def rstep (O : Orc) (σ : St) (r : RStep) : Option St :=
  match rguard σ r.gd with
  | some true => istep O σ r.dst r.ins
  | some false => some (σ.put r.dst (.c .und))
  | none => none

def rrun (O : Orc) (σ : St) : List RStep → Option St
  | [] => some σ
  | r :: rs => match rstep O σ r with
    | some σ1 => rrun O σ1 rs
    | none => none

def St.tick (σ : St) : St := { σ with nx := σ.nx + 1 }

def gdOK (ops : Array Oper) (N : Nat) : Option (Nat × Bool) → Option (Nat × Bool) → Bool
  | none, none => true
  | some (g, want), some (j, want') => decide ((ops[j]?).bind (·.dst) = some g) && decide (g < N) && decide (want = want')
  | _, _ => false

def RStep.ok (P : Program) (N : Nat) (ops : Array Oper) (r : RStep) (o : Oper) : Bool :=
  decide (o.dst = r.dst) && (match r.dst with | some d => decide (d < N) | none => true) && gdOK ops N r.gd o.guard && r.ins.ok P N o

def RStep.oks (P : Program) (N : Nat) (ops : Array Oper) : List RStep → List Oper → Bool
  | [], [] => true
  | r :: rs, o :: os => r.ok P N ops o && RStep.oks P N ops rs os
  | _, _ => false

/-- No slot is written twice. -/
def onceB : List RStep → Bool
  | [] => true
  | r :: rs => (match r.dst with | some d => rs.all (fun r' => decide (r'.dst ≠ some d)) | none => true) && onceB rs

section
variable {P : Program} {V : Env} {σ σ' : St} {a : Act} {w w' : World} {G G' : Gh} {O : Orc} {o : Oper} {ops : Array Oper}

/-- The state stands; names up to n0 are as they were. -/
def At (V : Env) (n0 : Nat) (Gb : Gh) (σ : St) (a : Act) (w : World) : Prop :=
  ∃ G, Sim V σ a w G ∧ (∀ i : Id, i.2 ≤ n0 → G.μ i = Gb.μ i) ∧ n0 ≤ σ.nx

/-- Within a region: names of the slots still to be written are free. -/
def AtR (V : Env) (n0 : Nat) (Gb : Gh) (rs : List RStep) (σ : St) (a : Act) (w : World) : Prop :=
  ∃ G, Sim V σ a w G ∧ (∀ i : Id, i.2 ≤ n0 → G.μ i = Gb.μ i) ∧ n0 < σ.nx ∧ ∀ r ∈ rs, ∀ d, r.dst = some d → ∀ k, k < 16 → G.μ (nm d k, σ.nx) = none

theorem AtR.at_ {n0 : Nat} {Gb : Gh} {rs : List RStep} (h : AtR V n0 Gb rs σ a w) : At V n0 Gb σ a w := by
  obtain ⟨G, h1, h2, h3, _⟩ := h
  exact ⟨G, h1, h2, Nat.le_of_lt h3⟩

theorem Sim.tick (h : Sim V σ a w G) : Sim V σ.tick a w G := { h with fresh := fun id hid => h.fresh id (by have : σ.nx + 1 < id.2 := hid; omega) }

theorem At.tick {n0 : Nat} {Gb : Gh} (rs : List RStep) (h : At V n0 Gb σ a w) : AtR V n0 Gb rs σ.tick a w := by
  obtain ⟨G, h1, h2, h3⟩ := h
  exact ⟨G, h1.tick, h2, by simp only [St.tick]; omega, fun _ _ d _ k _ => h1.fresh _ (by simp [St.tick])⟩

theorem yielded_of (h : Sim V σ a w G) {g : Nat} {want : Bool} {gd : Option (Nat × Bool)} {b : Bool} (hok : gdOK ops V.N gd o.guard = true) (hg : rguard σ gd = some b) : Region.wanted o (yielded ops a.tmps) = b := by
  cases gd with
  | none =>
    cases ho : o.guard with
    | none =>
      simp only [rguard, Option.some.injEq] at hg
      subst hg
      simp [Region.wanted, ho]
    | some => rw [ho] at hok; simp [gdOK] at hok
  | some p =>
    obtain ⟨g, want⟩ := p
    cases ho : o.guard with
    | none => rw [ho] at hok; simp [gdOK] at hok
    | some q =>
      obtain ⟨j, want'⟩ := q
      rw [ho] at hok
      simp only [gdOK, Bool.and_eq_true, decide_eq_true_eq] at hok
      obtain ⟨⟨hj, hN⟩, rfl⟩ := hok
      have hs := h.slots g hN
      have ht : a.tmps[g]? = some (a.tmps.getD g undef) := by
        have : g < a.tmps.size := by rw [h.size]; exact hN
        simp [this]
      simp only [Region.wanted, ho, yielded, hj, Option.bind_some, ht]
      simp only [rguard] at hg
      split at hg
      · rename_i b' hb
        rw [hb] at hs
        injection hg with hg; subst hg
        rw [RS_bool hs]
        simp
      · rename_i hb
        rw [hb] at hs
        injection hg with hg; subst hg
        have hu : a.tmps.getD g undef = undef := by
          have := RS_c hs
          simp only [RX, RD] at this
          exact this.1
        rw [hu]
        simp [undef]
      · cases hg

/-- One operation, wanted or not. -/
theorem rstep_ok {n0 : Nat} {Gb : Gh} {i : Nat} {Q : Exit → Act → World → Prop} {K : Act → World → Prop} (hO : Valid P O) (hC : ∀ f args ep nx h r, O f args ep nx h = some r → callable P f = true)
    {rs rs' : List RStep} {r : RStep} (hat : AtR V n0 Gb rs σ a w) (hr : r ∈ rs) (hrs : ∀ r' ∈ rs', r' ∈ rs ∧ ∀ d, r.dst = some d → r'.dst ≠ some d) (ho : ops[i]? = some o) (hok : r.ok P V.N ops o = true)
    (hs : rstep O σ r = some σ') (hk : ∀ a' w', AtR V n0 Gb rs' σ' a' w' → K a' w') : wpOp P ops Q i K a w := by
  obtain ⟨G, hsim, hμ, hnx, hnm⟩ := hat
  simp only [RStep.ok, Bool.and_eq_true, decide_eq_true_eq] at hok
  obtain ⟨⟨⟨hdst, hdN⟩, hgd⟩, hins⟩ := hok
  have fin : ∀ a' w' G', Left' V σ σ' a' w' G G' o.dst → K a' w' := fun a' w' G' hl => by
    refine hk a' w' ⟨G', hl.sim, fun i hi => ?_, Nat.lt_of_lt_of_le hnx hl.nx, fun r' hr' d hd k hk2 => ?_⟩
    · rw [hl.μ i (by omega)]; exact hμ i hi
    · obtain ⟨h1, h2⟩ := hrs r' hr'
      exact hl.names d k (fun e => h2 d (by rw [← hdst, e]) hd) hk2 (hnm r' h1 d hd k hk2)
  have hN' : ∀ d, o.dst = some d → d < V.N := fun d hd => by
    rw [hdst] at hd; rw [hd] at hdN; simpa using hdN
  unfold wpOp
  simp only [ho]
  unfold rstep at hs
  split at hs
  · rename_i hg
    rw [yielded_of (g := 0) (want := true) hsim hgd hg]
    simp only [if_true]
    left
    refine istep_ok hO hC hsim hN' (fun d hd k hk2 => hnm r hr d (by rw [← hdst]; exact hd) k hk2) hins (by rw [hdst]; exact hs) fin
  · rename_i hg
    rw [yielded_of (g := 0) (want := true) hsim hgd hg]
    simp only [Bool.false_eq_true, if_false]
    injection hs with hs; subst hs
    refine fin _ _ G (left_of ?_ ?_ fun i _ => rfl)
    · rw [hdst]
      cases hd : r.dst with
      | none => exact hsim
      | some d => exact hsim.set (hN' d (by rw [hdst]; exact hd)) (.c (by simp [RX, RD]))
    · cases r.dst <;> rfl
  · cases hs

theorem onceB_cons {r : RStep} {rs : List RStep} (h : onceB (r :: rs) = true) : onceB rs = true ∧ ∀ r' ∈ rs, ∀ d, r.dst = some d → r'.dst ≠ some d := by
  simp only [onceB, Bool.and_eq_true] at h
  refine ⟨h.2, fun r' hr' d hd => ?_⟩
  rw [hd] at h
  simp only [List.all_eq_true, decide_eq_true_eq] at h
  exact h.1 r' hr'

theorem rrun_ok {n0 : Nat} {Gb : Gh} {Q : Exit → Act → World → Prop} (hO : Valid P O) (hC : ∀ f args ep nx h r, O f args ep nx h = some r → callable P f = true) :
    ∀ (rs : List RStep) (k : Nat) {σ : St} {a : Act} {w : World}, RStep.oks P V.N ops rs (ops.toList.drop k) = true → onceB rs = true → AtR V n0 Gb rs σ a w → rrun O σ rs = some σ' →
      (∀ a' w', At V n0 Gb σ' a' w' → Q .normal a' w') → wpOps P ops Q (List.range' k rs.length) a w
  | [], k, σ, a, w, hok, _, hat, hr, hq => by
    simp only [rrun, Option.some.injEq] at hr
    subst hr
    exact hq a w hat.at_
  | r :: rs, k, σ, a, w, hok, honce, hat, hr, hq => by
    cases hd : ops.toList.drop k with
    | nil => rw [hd] at hok; simp [RStep.oks] at hok
    | cons o os =>
      rw [hd] at hok
      simp only [RStep.oks, Bool.and_eq_true] at hok
      have ho : ops[k]? = some o := by
        have : (ops.toList.drop k)[0]? = some o := by rw [hd]; rfl
        simpa using this
      have hos : ops.toList.drop (k + 1) = os := by
        have := congrArg List.tail hd
        simpa [List.tail_drop] using this
      simp only [rrun] at hr
      split at hr
      · rename_i σ1 h1
        obtain ⟨ho1, ho2⟩ := onceB_cons honce
        rw [List.length_cons, List.range'_succ, wpOps_cons]
        exact rstep_ok (rs := r :: rs) (rs' := rs) hO hC hat (by simp) (fun r' hr' => ⟨by simp [hr'], ho2 r' hr'⟩) ho hok.1 h1 fun a' w' hat' =>
          rrun_ok hO hC rs (k + 1) (by rw [hos]; exact hok.2) ho1 hat' hr hq
      · cases hr

theorem oks_length {N : Nat} : ∀ {rs : List RStep} {os : List Oper}, RStep.oks P N ops rs os = true → rs.length = os.length
  | [], [], _ => rfl
  | _ :: _, _ :: _, h => by
    simp only [RStep.oks, Bool.and_eq_true] at h
    simp [oks_length h.2]
  | [], _ :: _, h => by simp [RStep.oks] at h
  | _ :: _, [], h => by simp [RStep.oks] at h

/-- A region in the text's order. -/
theorem region_ok {n0 : Nat} {Gb : Gh} {Q : Exit → Act → World → Prop} {id : Nat} (hO : Valid P O) (hC : ∀ f args ep nx h r, O f args ep nx h = some r → callable P f = true)
    {rs : List RStep} (hok : RStep.oks P V.N ops rs ops.toList = true) (honce : onceB rs = true) (hat : At V n0 Gb σ a w) (hr : rrun O σ.tick rs = some σ') (hq : ∀ a' w', At V n0 Gb σ' a' w' → Q .normal a' w') :
    (Code.region id ops false).wp P Q a w := by
  refine wp_region ?_
  have := rrun_ok (Q := Q) hO hC rs 0 (by simpa using hok) honce (hat.tick rs) hr hq
  rw [oks_length hok] at this
  rw [List.range_eq_range']
  simpa using this
end
end Go.Fw

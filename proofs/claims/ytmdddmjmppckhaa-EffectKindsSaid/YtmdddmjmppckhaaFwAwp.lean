/- Rules for proofs on the abstract machine. -/
import Derived.Test.YtmdddmjmppckhaaFwMono
namespace Go.Fw

section
variable (T : Tab) (X : Orc)

def Pure (f : FuncId) (args : List SV) (rvs : List RV) : Prop := ∃ n, pureOf (orc T X n) f args = some rvs
def Lent (f : FuncId) (args : List SV) (ep nx : Nat) (h : Hp) (r : List RV × Nat × Nat × Hp) : Prop := ∃ n, orc T X n f args ep nx h = some r
def Wp (N : Nat) (b : Blk) (σ : St) (Q : Ex → St → Prop) : Prop := ∃ n e σ', brun (orc T X n) N n b σ = some (e, σ') ∧ Q e σ'
def RWp (s : List (Nat × RStep)) (σ : St) (K : St → Prop) : Prop := ∃ n σ', rrun (orc T X n) σ (s.map (·.2)) = some σ' ∧ K σ'
def IWp (d : Option Nat) (i : Ins) (σ : St) (K : St → Prop) : Prop := ∃ n σ', istep (orc T X n) σ d i = some σ' ∧ K σ'
end

section
variable {T : Tab} {X : Orc} {σ σ' : St} {N : Nat} {K K' : St → Prop} {Q Q' : Ex → St → Prop}

theorem Wp.mono {b : Blk} (h : Wp T X N b σ Q) (hq : ∀ e σ', Q e σ' → Q' e σ') : Wp T X N b σ Q' := by
  obtain ⟨n, e, σ', h1, h2⟩ := h; exact ⟨n, e, σ', h1, hq _ _ h2⟩
theorem RWp.mono {s : List (Nat × RStep)} (h : RWp T X s σ K) (hq : ∀ σ', K σ' → K' σ') : RWp T X s σ K' := by
  obtain ⟨n, σ', h1, h2⟩ := h; exact ⟨n, σ', h1, hq _ h2⟩

theorem RWp.nil (h : K σ) : RWp T X [] σ K := ⟨0, σ, rfl, h⟩

theorem RWp.cons {i : Nat} {d : Option Nat} {ins : Ins} {s : List (Nat × RStep)} (h : IWp T X d ins σ fun σ1 => RWp T X s σ1 K) : RWp T X ((i, ⟨d, none, ins⟩) :: s) σ K := by
  obtain ⟨n, σ1, h1, m, σ2, h2, hk⟩ := h
  refine ⟨max n m, σ2, ?_, hk⟩
  simp only [List.map_cons, rrun, rstep, rguard]
  rw [istep_mono (orc_mono T X (Nat.le_max_left n m)) h1]
  exact rrun_mono (orc_mono T X (Nat.le_max_right n m)) h2

theorem RWp.gd {i : Nat} {d : Option Nat} {g : Nat} {want b : Bool} {ins : Ins} {s : List (Nat × RStep)} (hg : σ.t g = .c (.bool b)) (h : if b = want then IWp T X d ins σ (fun σ1 => RWp T X s σ1 K) else RWp T X s (σ.put d (.c .und)) K) :
    RWp T X ((i, ⟨d, some (g, want), ins⟩) :: s) σ K := by
  by_cases hb : b = want
  · rw [if_pos hb] at h
    obtain ⟨n, σ1, h1, m, σ2, h2, hk⟩ := h
    refine ⟨max n m, σ2, ?_, hk⟩
    have : rguard σ (some (g, want)) = some true := by simp [rguard, hg, hb]
    simp only [List.map_cons, rrun, rstep, this]
    rw [istep_mono (orc_mono T X (Nat.le_max_left n m)) h1]
    exact rrun_mono (orc_mono T X (Nat.le_max_right n m)) h2
  · rw [if_neg hb] at h
    obtain ⟨n, σ1, h1, hk⟩ := h
    refine ⟨n, σ1, ?_, hk⟩
    have : rguard σ (some (g, want)) = some false := by simp [rguard, hg, hb]
    simp only [List.map_cons, rrun, rstep, this]
    exact h1

theorem RWp.un {i : Nat} {d : Option Nat} {g : Nat} {want : Bool} {ins : Ins} {s : List (Nat × RStep)} (hg : σ.t g = .c .und) (h : RWp T X s (σ.put d (.c .und)) K) :
    RWp T X ((i, ⟨d, some (g, want), ins⟩) :: s) σ K := by
  obtain ⟨n, σ1, h1, hk⟩ := h
  refine ⟨n, σ1, ?_, hk⟩
  have : rguard σ (some (g, want)) = some false := by simp [rguard, hg]
  simp only [List.map_cons, rrun, rstep, this]
  exact h1

theorem IWp.of {d : Option Nat} {ins : Ins} {σ1 : St} (h : ∀ n, istep (orc T X n) σ d ins = some σ1) (hk : K σ1) : IWp T X d ins σ K := ⟨0, σ1, h 0, hk⟩

theorem IWp.q {d : Option Nat} {op : QO} {x : SV} (h : qval σ op = some x) (hk : K (σ.put d x)) : IWp T X d (.q op) σ K :=
  ⟨0, _, by simp only [istep, h], hk⟩
theorem IWp.qk {d : Option Nat} {z : Nat} {op : QO} {x : SV} (hf : farOK σ z op = true) (h : qval σ op = some x) (hk : K (σ.put d x)) : IWp T X d (.qk z op) σ K :=
  ⟨0, _, by simp only [istep, hf, if_true, h], hk⟩
/-- The same, told by the plain operation's rule. -/
theorem IWp.far {d : Option Nat} {z : Nat} {op : QO} (hf : farOK σ z op = true) (h : IWp T X d (.q op) σ K) : IWp T X d (.qk z op) σ K := by
  obtain ⟨n, σ1, h1, h2⟩ := h
  exact ⟨n, σ1, by simp only [istep] at h1 ⊢; simp only [hf, if_true, h1], h2⟩
theorem IWp.m {d : Nat} {op : MO} {σ1 : St} (h : mval σ d op = some σ1) (hk : K σ1) : IWp T X (some d) (.m op) σ K := ⟨0, _, h, hk⟩
theorem IWp.st {share : Bool} {n : Nat} {ks : List Nat} {x v : Opd} {σ1 : St} (h : sval σ share n ks x v = some σ1) (hk : K σ1) : IWp T X none (.st share n ks x v) σ K := ⟨0, _, h, hk⟩
theorem IWp.app {d sz bytes : Nat} {move : Bool} {s x : Opd} {σ1 : St} (h : aval σ d sz bytes move s x = some σ1) (hk : K σ1) : IWp T X (some d) (.app sz bytes move s x) σ K := ⟨0, _, h, hk⟩
theorem IWp.appz {d sz bytes : Nat} {s x : Opd} {σ1 : St} (h : azval σ d sz bytes s x = some σ1) (hk : K σ1) : IWp T X (some d) (.appz sz bytes s x) σ K := ⟨0, _, h, hk⟩
theorem IWp.bslz {d : Nat} (hk : K (σ.set d (.c .z))) : IWp T X (some d) .bslz σ K := ⟨0, _, rfl, hk⟩

theorem IWp.call {d : Nat} {f : FuncId} {args : List Opd} {b : Bool} {xs : List SV} {rvs rvs' : List RV} {σ1 : St} (hb : borL σ (args.map σ.get) = some (b, xs)) (hp : Pure T X f xs rvs) (hr : (if b then snoRs σ.ep rvs else some rvs) = some rvs')
    (hl : land σ d rvs' = some σ1) (hk : K σ1) : IWp T X (some d) (.call f args) σ K := by
  obtain ⟨n, hn⟩ := hp
  refine ⟨n, σ1, ?_, hk⟩
  simp only [istep, pureCall, hb, hn, hr, hl]

theorem IWp.callv {d : Nat} {x : Opd} {args more : List Opd} {f : FuncId} {caps : List Cell} {b : Bool} {xs : List SV} {rvs rvs' : List RV} {σ1 : St} (hx : σ.get x = .c (.fn f caps)) (hb : borL σ (args.map σ.get ++ caps.map .c) = some (b, xs)) (hp : Pure T X f xs rvs)
    (hr : (if b then snoRs σ.ep rvs else some rvs) = some rvs') (hl : land σ d rvs' = some σ1) (hk : K σ1) : IWp T X (some d) (.callv false x args more) σ K := by
  obtain ⟨n, hn⟩ := hp
  refine ⟨n, σ1, ?_, hk⟩
  simp only [istep, hx, Bool.false_eq_true, if_false, pureCall, hb, hn, hr, hl]

/-- Where a lent call lands. -/
def back (σ : St) (L : List Id) (ep' nx' : Nat) (h' : Hp) : St := { t := σ.t, h := fun id => if id ∈ L ∨ σ.nx < id.2 then h' id else σ.h id, ep := σ.ep + ep' + 1, nx := nx' + 1 }

theorem IWp.calll {d : Nat} {f : FuncId} {args more : List Opd} {rvs : List RV} {ep' nx' : Nat} {h' : Hp} {σ1 : St}
    (hp : Lent T X f (args.map σ.get) σ.ep σ.nx (fun id => if id ∈ lidsOf ((args ++ more).map σ.get) then σ.h id else none) (rvs, ep', nx', h'))
    (hl : land (back σ (lidsOf ((args ++ more).map σ.get)) ep' nx' h') d rvs = some σ1) (hk : K σ1) : IWp T X (some d) (.calll f args more) σ K := by
  obtain ⟨n, hn⟩ := hp
  refine ⟨n, σ1, ?_, hk⟩
  simp only [istep, lentCall, hn]
  exact hl

theorem IWp.callvl {d : Nat} {x : Opd} {args more : List Opd} {f : FuncId} {caps : List Cell} {rvs : List RV} {ep' nx' : Nat} {h' : Hp} {σ1 : St} (hx : σ.get x = .c (.fn f caps))
    (hp : Lent T X f (args.map σ.get ++ caps.map .c) σ.ep σ.nx (fun id => if id ∈ lidsOf (.c (.fn f caps) :: (args ++ more).map σ.get) then σ.h id else none) (rvs, ep', nx', h'))
    (hl : land (back σ (lidsOf (.c (.fn f caps) :: (args ++ more).map σ.get)) ep' nx' h') d rvs = some σ1) (hk : K σ1) : IWp T X (some d) (.callv true x args more) σ K := by
  obtain ⟨n, hn⟩ := hp
  refine ⟨n, σ1, ?_, hk⟩
  simp only [istep, hx, if_true, lentCall, hn]
  exact hl

/-! ### Bodies -/
theorem Wp.skip (h : Q .normal σ) : Wp T X N .skip σ Q := ⟨0, _, _, rfl, h⟩
theorem Wp.ret (h : Q .ret σ) : Wp T X N .ret σ Q := ⟨0, _, _, rfl, h⟩
theorem Wp.exit {id : Nat} (h : Q (.exit id) σ) : Wp T X N (.exit id) σ Q := ⟨0, _, _, rfl, h⟩
theorem Wp.reg {s : List (Nat × RStep)} (h : RWp T X s σ.tick fun σ' => Q .normal σ') : Wp T X N (.reg s) σ Q := by
  obtain ⟨n, σ', h1, h2⟩ := h
  exact ⟨n, .normal, σ', by simp only [brun, h1], h2⟩

/-- On: what comes next stands behind the normal end. -/
def Ex.on (K : St → Prop) (Q : Ex → St → Prop) : Ex → St → Prop
  | .normal, σ => K σ
  | e, σ => Q e σ

theorem Wp.seq {a b : Blk} (h : Wp T X N a σ (Ex.on (fun σ1 => Wp T X N b σ1 Q) Q)) : Wp T X N (.seq a b) σ Q := by
  obtain ⟨n, e, σ1, h1, h2⟩ := h
  cases e with
  | normal =>
    obtain ⟨m, e2, σ2, h3, h4⟩ := h2
    refine ⟨max n m, e2, σ2, ?_, h4⟩
    simp only [brun]
    rw [brun_mono (orc_mono T X (Nat.le_max_left n m)) (Nat.le_max_left n m) h1]
    exact brun_mono (orc_mono T X (Nat.le_max_right n m)) (Nat.le_max_right n m) h3
  | exit id => exact ⟨n, _, σ1, by simp only [brun, h1], h2⟩
  | ret => exact ⟨n, _, σ1, by simp only [brun, h1], h2⟩

theorem Wp.cond {c : Opd} {a b : Blk} {t : Bool} (hc : asB (σ.get c) = some t) (h : Wp T X N (if t then a else b) σ Q) : Wp T X N (.cond c a b) σ Q := by
  obtain ⟨n, e, σ1, h1, h2⟩ := h
  refine ⟨n, e, σ1, ?_, h2⟩
  cases t <;> simp only [brun, hc] <;> exact h1

theorem Wp.ite {c : Opd} {a b : Blk} {p : Prop} [Decidable p] (hc : asB (σ.get c) = some (decide p)) (ht : p → Wp T X N a σ Q) (hf : ¬ p → Wp T X N b σ Q) : Wp T X N (.cond c a b) σ Q := by
  refine Wp.cond hc ?_
  by_cases hp : p
  · simp only [hp, decide_true, if_true]; exact ht hp
  · simp only [hp, decide_false, Bool.false_eq_true, if_false]; exact hf hp

def Ex.blk (id : Nat) (Q : Ex → St → Prop) : Ex → St → Prop
  | .exit id', σ => if id' = id then Q .normal σ else Q (.exit id') σ
  | e, σ => Q e σ

theorem Wp.block {id : Nat} {b : Blk} (h : Wp T X N b σ (Ex.blk id Q)) : Wp T X N (.block id b) σ Q := by
  obtain ⟨n, e, σ1, h1, h2⟩ := h
  cases e with
  | normal => exact ⟨n, _, σ1, by simp only [brun, h1], h2⟩
  | ret => exact ⟨n, _, σ1, by simp only [brun, h1], h2⟩
  | exit id' =>
    simp only [Ex.blk] at h2
    by_cases hid : id' = id
    · rw [if_pos hid] at h2
      exact ⟨n, .normal, σ1, by simp only [brun, h1, hid, if_true], h2⟩
    · rw [if_neg hid] at h2
      exact ⟨n, .exit id', σ1, by simp only [brun, h1, hid, if_false], h2⟩

theorem Wp.gh {gs : List GO} {b : Blk} {σ1 : St} (hg : gvals N σ.tick gs = some σ1) (h : Wp T X N b σ1 Q) : Wp T X N (.gh gs b) σ Q := by
  obtain ⟨n, e, σ2, h1, h2⟩ := h
  exact ⟨n, e, σ2, by simp only [brun, hg, h1], h2⟩

/-- A loop, by what holds ahead of each round; k falls. -/
theorem Wp.loop {b : Blk} (I : Nat → St → Prop) {k : Nat} (h0 : I k σ) (hs : ∀ k σ, I k σ → Wp T X N b σ (Ex.on (fun σ' => ∃ k', k' < k ∧ I k' σ') Q)) : Wp T X N (.loop b) σ Q := by
  induction k using Nat.strongRecOn generalizing σ with
  | _ k ih =>
    obtain ⟨n, e, σ1, h1, h2⟩ := hs k σ h0
    cases e with
    | normal =>
      obtain ⟨k', hk, hI⟩ := h2
      obtain ⟨m, e2, σ2, h3, h4⟩ := ih k' hk hI
      refine ⟨max n m + 1, e2, σ2, ?_, h4⟩
      have hn : n ≤ max n m + 1 := by omega
      have hm : m ≤ max n m := by omega
      simp only [brun, iter]
      rw [brun_mono (orc_mono T X hn) hn h1]
      simp only [brun] at h3
      exact iter_mono (fun σ r hr => brun_mono (orc_mono T X (by omega)) (by omega) hr) hm h3
    | exit id =>
      refine ⟨n + 1, _, σ1, ?_, h2⟩
      simp only [brun, iter]
      rw [brun_mono (orc_mono T X (Nat.le_succ n)) (Nat.le_succ n) h1]
    | ret =>
      refine ⟨n + 1, _, σ1, ?_, h2⟩
      simp only [brun, iter]
      rw [brun_mono (orc_mono T X (Nat.le_succ n)) (Nat.le_succ n) h1]

/-! ### Functions -/
theorem Lent.of {f : FuncId} {fi : FI} {args : List SV} {ep nx : Nat} {h : Hp} {r : List RV × Nat × Nat × Hp} (hT : T f = some fi) (ha : args.length = fi.na)
    (hb : Wp T X fi.nt fi.body (begin fi.nt args ep nx h) fun e σ => (e = .normal ∨ e = .ret) ∧ ∃ rvs σ', takeRs σ fi.res = some (rvs, σ') ∧ r = (rvs, σ'.ep, σ'.nx, σ'.h)) : Lent T X f args ep nx h r := by
  obtain ⟨n, e, σ, h1, he, rvs, σ', h2, rfl⟩ := hb
  refine ⟨n + 1, ?_⟩
  rw [orc]
  simp only [hT, fcall, ha, if_true, h1]
  rcases he with rfl | rfl <;> simp only [h2]

theorem Pure.of {f : FuncId} {fi : FI} {args : List SV} {rvs : List RV} (hT : T f = some fi) (ha : args.length = fi.na) (hd : dataRs rvs = true)
    (hb : Wp T X fi.nt fi.body (begin fi.nt args 0 0 fun _ => none) fun e σ => (e = .normal ∨ e = .ret) ∧ ∃ σ', takeRs σ fi.res = some (rvs, σ')) : Pure T X f args rvs := by
  obtain ⟨n, e, σ, h1, he, σ', h2⟩ := hb
  refine ⟨n + 1, ?_⟩
  unfold pureOf
  rw [orc]
  simp only [hT, fcall, ha, if_true, h1]
  rcases he with rfl | rfl <;> simp only [h2, hd, if_true]
end
end Go.Fw

/- A function's body. -/
import Derived.Test.YtmdddmjmppckhaaFwDrawn
import Derived.Tactics
namespace Go.Fw

inductive Blk where
  | skip
  | reg (s : List (Nat × RStep))
  | seq (a b : Blk)
  | cond (c : Opd) (a b : Blk)
  | block (id : Nat) (b : Blk)
  | loop (b : Blk)
  | exit (id : Nat)
  | ret
  | gh (gs : List GO) (b : Blk)
  | post (b : Blk) (gs : List GO)

inductive Ex where
  | normal | exit (id : Nat) | ret
  deriving DecidableEq

def iter (f : St → Option (Ex × St)) : Nat → St → Option (Ex × St)
  | 0, _ => none
  | n + 1, σ => match f σ with
    | some (.normal, σ1) => iter f n σ1
    | r => r

/-- Runs the body; N: how many slots Go has; n: how often a loop may go round. -/
def brun (O : Orc) (N n : Nat) : Blk → St → Option (Ex × St)
  | .skip, σ => some (.normal, σ)
  | .reg s, σ => match rrun O σ.tick (s.map (·.2)) with
    | some σ1 => some (.normal, σ1)
    | none => none
  | .seq a b, σ => match brun O N n a σ with
    | some (.normal, σ1) => brun O N n b σ1
    | r => r
  | .cond c a b, σ => match asB (σ.get c) with
    | some true => brun O N n a σ
    | some false => brun O N n b σ
    | none => none
  | .block id b, σ => match brun O N n b σ with
    | some (.exit id', σ1) => if id' = id then some (.normal, σ1) else some (.exit id', σ1)
    | r => r
  | .loop b, σ => iter (brun O N n b) n σ
  | .exit id, σ => some (.exit id, σ)
  | .ret, σ => some (.ret, σ)
  | .gh gs b, σ => match gvals N σ.tick gs with
    | some σ1 => brun O N n b σ1
    | none => none
  | .post b gs, σ => match brun O N n b σ with
    | some (.normal, σ1) => match gvals N σ1.tick gs with
      | some σ2 => some (.normal, σ2)
      | none => none
    | r => r

/-- Does it make a name? -/
def GO.named : GO → Bool
  | .opn .. | .ren _ | .zsl .. | .frn .. => true
  | _ => false
def gdist : List GO → Bool
  | [] => true
  | g :: gs => gs.all (fun g' => !g'.named || decide (g'.d ≠ g.d)) && gdist gs

def Blk.ok (P : Program) (N : Nat) : Blk → Code → Bool
  | .skip, .skip => true
  | .reg s, .region _ ops draw => if draw then drawnOK P N ops s else RStep.oks P N ops (s.map (·.2)) ops.toList && onceB (s.map (·.2))
  | .seq a b, .seq c d => a.ok P N c && b.ok P N d
  | .cond x a b, .cond y c d => opdOK N x y && a.ok P N c && b.ok P N d
  | .block id b, .block id' c => decide (id = id') && b.ok P N c
  | .loop b, .loop c => b.ok P N c
  | .exit id, .exit id' => decide (id = id')
  | .ret, .ret => true
  | .gh gs b, c => gdist gs && b.ok P N c
  | .post b gs, c => gdist gs && b.ok P N c
  | _, _ => false

section
variable {P : Program} {V : Env} {σ σ' : St} {a : Act} {w w' : World} {G G' : Gh} {O : Orc}

def Ex.to : Ex → Exit
  | .normal => .normal
  | .exit id => .exit id
  | .ret => .ret

theorem gvals_ok {n0 : Nat} {Gb : Gh} : ∀ {gs : List GO} {σ : St} {G : Gh}, Sim V σ a w G → (∀ i : Id, i.2 ≤ n0 → G.μ i = Gb.μ i) → n0 < σ.nx → gdist gs = true → (∀ g ∈ gs, g.named = true → ∀ k, k < 16 → G.μ (nm g.d k, σ.nx) = none) → gvals V.N σ gs = some σ' → At V n0 Gb σ' a w
  | [], σ, G, h, hμ, hn, _, _, hv => by
    simp only [gvals, Option.some.injEq] at hv
    subst hv
    exact ⟨G, h, hμ, Nat.le_of_lt hn⟩
  | g :: gs, σ, G, h, hμ, hn, hd, hnew, hv => by
    simp only [gvals] at hv
    simp only [gdist, Bool.and_eq_true, List.all_eq_true, Bool.or_eq_true, Bool.not_eq_true', decide_eq_true_eq] at hd
    split at hv
    · rename_i σ1 h1
      have key : ∃ G1, Sim V σ1 a w G1 ∧ ∀ i : Id, (∀ k, k < 16 → i ≠ (nm g.d k, σ.nx)) → G1.μ i = G.μ i := by
        by_cases hg : g.named = true
        · exact ghost_step h (hnew g (by simp) hg) h1
        · cases g with
          | opn => exact absurd rfl hg
          | ren => exact absurd rfl hg
          | zsl => exact absurd rfl hg
          | frn => exact absurd rfl hg
          | cls x => exact ghost_cls h _ h1
          | frz d => exact ghost_frz h h1
          | mv d x => exact ghost_step' h h1
          | fld d off x => exact ghost_step' h h1
          | idx d x i => exact ghost_step' h h1
          | drop d => exact ghost_step' h h1
      obtain ⟨G1, hs1, hμ1⟩ := key
      have hnx := gval_nx h1
      refine gvals_ok hs1 (fun i hi => ?_) (by rw [hnx]; exact hn) hd.2 (fun g' hg' hnm k hk => ?_) hv
      · rw [hμ1 i fun k _ e => by rw [e] at hi; simp only at hi; omega]; exact hμ i hi
      · rw [hnx, hμ1 _ fun k' hk' e => ?_]
        · exact hnew g' (by simp [hg']) hnm k hk
        · rcases hd.1 g' hg' with h2 | h2
          · rw [hnm] at h2; cases h2
          · exact nm_ne h2 hk' hk (congrArg Prod.fst e)
    · cases hv
where
  ghost_step' {g : GO} {σ1 σ : St} {G : Gh} (h : Sim V σ a w G) (hv : gval V.N σ g = some σ1) (hg : (match g with | .mv .. | .fld .. | .idx .. | .drop _ => true | _ => false) = true := by rfl) : ∃ G1, Sim V σ1 a w G1 ∧ ∀ i : Id, (∀ k, k < 16 → i ≠ (nm g.d k, σ.nx)) → G1.μ i = G.μ i := by
    cases g with
    | mv d x =>
      simp only [gval] at hv
      split at hv
      · rename_i hN; injection hv with hv; subst hv; exact ⟨G, h.setGhost hN _, fun _ _ => rfl⟩
      · cases hv
    | fld d off x =>
      simp only [gval] at hv
      split at hv
      · rename_i hN
        split at hv
        · injection hv with hv; subst hv; exact ⟨G, h.setGhost hN _, fun _ _ => rfl⟩
        · cases hv
      · cases hv
    | idx d x i =>
      simp only [gval] at hv
      split at hv
      · rename_i hN
        split at hv
        · split at hv
          · injection hv with hv; subst hv; exact ⟨G, h.setGhost hN _, fun _ _ => rfl⟩
          · cases hv
        · cases hv
      · cases hv
    | drop d =>
      simp only [gval, Option.some.injEq] at hv; subst hv
      exact ⟨G, h.setSame fun hd => .c (x := .bad) trivial, fun _ _ => rfl⟩
    | _ => simp at hg

theorem exists_least {p : Nat → Prop} : ∀ n, p n → ∃ k, p k ∧ ∀ j, p j → k ≤ j := by
  intro n
  induction n using Nat.strongRecOn with
  | _ n ih =>
    intro hn
    by_cases h : ∃ m, m < n ∧ p m
    · obtain ⟨m, hm, hp⟩ := h
      exact ih m hm hp
    · exact ⟨n, hn, fun j hj => Nat.le_of_not_lt fun hlt => h ⟨j, hlt, hj⟩⟩
open Classical in
noncomputable def leastK (p : Nat → Prop) : Nat := if h : ∃ n, p n then Classical.choose (exists_least h.choose h.choose_spec) else 0
theorem leastK_spec {p : Nat → Prop} (h : ∃ n, p n) : p (leastK p) ∧ ∀ j, p j → leastK p ≤ j := by
  unfold leastK
  rw [dif_pos h]
  exact Classical.choose_spec (exists_least h.choose h.choose_spec)

/-- What the machine says of a body is so. -/
theorem brun_ok {n0 n : Nat} {Gb : Gh} (hm : P.follows .mixedOrders = true) (hO : Valid P O) (hC : ∀ f args ep nx h r, O f args ep nx h = some r → callable P f = true) :
    ∀ (b : Blk) (c : Code) {σ σ' : St} {a : Act} {w : World} {e : Ex}, b.ok P V.N c = true → At V n0 Gb σ a w → brun O V.N n b σ = some (e, σ') → c.wp P (fun e' a' w' => e' = e.to ∧ At V n0 Gb σ' a' w') a w
  | .skip, c, σ, σ', a, w, e, hok, hat, hr => by
    cases c <;> simp only [Blk.ok, Bool.false_eq_true] at hok
    simp only [brun, Option.some.injEq, Prod.mk.injEq] at hr
    obtain ⟨rfl, rfl⟩ := hr
    exact wp_skip ⟨rfl, hat⟩
  | .reg s, c, σ, σ', a, w, e, hok, hat, hr => by
    cases c with
    | region id ops draw =>
      simp only [brun] at hr
      split at hr
      · rename_i σ1 h1
        simp only [Option.some.injEq, Prod.mk.injEq] at hr
        obtain ⟨rfl, rfl⟩ := hr
        cases draw with
        | true => exact drawn_ok hm hO hC (by simpa [Blk.ok] using hok) hat h1 fun a' w' h => ⟨rfl, h⟩
        | false =>
          simp only [Blk.ok, Bool.false_eq_true, if_false, Bool.and_eq_true] at hok
          exact region_ok hO hC hok.1 hok.2 hat h1 fun a' w' h => ⟨rfl, h⟩
      · cases hr
    | _ => simp [Blk.ok] at hok
  | .seq x y, c, σ, σ', a, w, e, hok, hat, hr => by
    cases c with
    | seq cx cy =>
      simp only [Blk.ok, Bool.and_eq_true] at hok
      simp only [brun] at hr
      split at hr
      · rename_i σ1 h1
        refine wp_seq (wp_mono (brun_ok hm hO hC x cx hok.1 hat h1) fun e' a' w' he => ?_)
        obtain ⟨rfl, hat'⟩ := he
        exact brun_ok hm hO hC y cy hok.2 hat' hr
      · rename_i hne
        refine wp_seq (wp_mono (brun_ok hm hO hC x cx hok.1 hat hr) fun e' a' w' he => ?_)
        obtain ⟨rfl, hat'⟩ := he
        cases e with
        | normal => exact absurd hr (hne _)
        | exit id => exact ⟨rfl, hat'⟩
        | ret => exact ⟨rfl, hat'⟩
    | _ => simp [Blk.ok] at hok
  | .cond x y z, c, σ, σ', a, w, e, hok, hat, hr => by
    cases c with
    | cond cx cy cz =>
      simp only [Blk.ok, Bool.and_eq_true] at hok
      obtain ⟨G, hs, h2, h3⟩ := hat
      have hg := hs.get hok.1.1
      simp only [brun] at hr
      split at hr
      · rename_i hb
        exact wp_cond_true (asB_RS hb hg) (brun_ok hm hO hC y cy hok.1.2 ⟨G, hs, h2, h3⟩ hr)
      · rename_i hb
        exact wp_cond_false (asB_RS hb hg) (brun_ok hm hO hC z cz hok.2 ⟨G, hs, h2, h3⟩ hr)
      · cases hr
    | _ => simp [Blk.ok] at hok
  | .block id b, c, σ, σ', a, w, e, hok, hat, hr => by
    cases c with
    | block id' cb =>
      simp only [Blk.ok, Bool.and_eq_true, decide_eq_true_eq] at hok
      obtain ⟨rfl, hok⟩ := hok
      simp only [brun] at hr
      refine wp_block ?_
      split at hr
      · rename_i id' σ1 h1
        refine wp_mono (brun_ok hm hO hC b cb hok hat h1) fun e' a' w' he => ?_
        obtain ⟨rfl, hat'⟩ := he
        simp only [Ex.to, Exit.inBlock]
        split at hr
        · rename_i hid
          simp only [Option.some.injEq, Prod.mk.injEq] at hr
          obtain ⟨rfl, rfl⟩ := hr
          rw [if_pos hid]; exact ⟨rfl, hat'⟩
        · rename_i hid
          simp only [Option.some.injEq, Prod.mk.injEq] at hr
          obtain ⟨rfl, rfl⟩ := hr
          rw [if_neg hid]; exact ⟨rfl, hat'⟩
      · rename_i hne
        refine wp_mono (brun_ok hm hO hC b cb hok hat hr) fun e' a' w' he => ?_
        obtain ⟨rfl, hat'⟩ := he
        cases e with
        | normal => exact ⟨rfl, hat'⟩
        | exit id => exact absurd hr (hne _ _)
        | ret => exact ⟨rfl, hat'⟩
    | _ => simp [Blk.ok] at hok
  | .loop b, c, σ, σ', a, w, e, hok, hat, hr => by
    cases c with
    | loop cb =>
      simp only [Blk.ok] at hok
      simp only [brun] at hr
      let p : Act → World → Nat → Prop := fun a w k => ∃ σ1, At V n0 Gb σ1 a w ∧ iter (brun O V.N n b) k σ1 = some (e, σ')
      refine wp_loop (fun a w => ∃ k, p a w k) (fun a w => leastK (p a w)) ⟨n, σ, hat, hr⟩ fun a w hI => ?_
      obtain ⟨⟨σ1, hat1, h1⟩, hmin⟩ := leastK_spec hI
      cases hk : leastK (p a w) with
      | zero => rw [hk] at h1; simp [iter] at h1
      | succ k =>
        rw [hk] at h1
        simp only [iter] at h1
        split at h1
        · rename_i σ2 h2
          refine wp_mono (brun_ok hm hO hC b cb hok hat1 h2) fun e' a' w' he => ?_
          obtain ⟨rfl, hat'⟩ := he
          have hp : p a' w' k := ⟨σ2, hat', h1⟩
          refine ⟨⟨k, hp⟩, ?_⟩
          have := (leastK_spec ⟨k, hp⟩).2 k hp
          omega
        · rename_i hne
          refine wp_mono (brun_ok hm hO hC b cb hok hat1 h1) fun e' a' w' he => ?_
          obtain ⟨rfl, hat'⟩ := he
          cases e with
          | normal => exact absurd h1 (hne _)
          | exit id => exact ⟨rfl, hat'⟩
          | ret => exact ⟨rfl, hat'⟩
    | _ => simp [Blk.ok] at hok
  | .exit id, c, σ, σ', a, w, e, hok, hat, hr => by
    cases c with
    | exit id' =>
      simp only [Blk.ok, decide_eq_true_eq] at hok
      subst hok
      simp only [brun, Option.some.injEq, Prod.mk.injEq] at hr
      obtain ⟨rfl, rfl⟩ := hr
      exact wp_exit ⟨rfl, hat⟩
    | _ => simp [Blk.ok] at hok
  | .ret, c, σ, σ', a, w, e, hok, hat, hr => by
    cases c with
    | ret =>
      simp only [brun, Option.some.injEq, Prod.mk.injEq] at hr
      obtain ⟨rfl, rfl⟩ := hr
      exact wp_ret ⟨rfl, hat⟩
    | _ => simp [Blk.ok] at hok
  | .gh gs b, c, σ, σ', a, w, e, hok, hat, hr => by
    simp only [Blk.ok, Bool.and_eq_true] at hok
    simp only [brun] at hr
    split at hr
    · rename_i σ1 h1
      obtain ⟨G, hs, h2, h3⟩ := hat
      exact brun_ok hm hO hC b c hok.2 (gvals_ok hs.tick h2 (by simp only [St.tick]; omega) hok.1 (fun g _ _ k _ => hs.fresh _ (by simp [St.tick])) h1) hr
    · cases hr
  | .post b gs, c, σ, σ', a, w, e, hok, hat, hr => by
    simp only [Blk.ok, Bool.and_eq_true] at hok
    simp only [brun] at hr
    split at hr
    · rename_i σ1 h1
      split at hr
      · rename_i σ2 h2
        simp only [Option.some.injEq, Prod.mk.injEq] at hr
        obtain ⟨rfl, rfl⟩ := hr
        refine wp_mono (brun_ok hm hO hC b c hok.2 hat h1) fun e' a' w' he => ?_
        obtain ⟨rfl, G, hs, h3, h4⟩ := he
        exact ⟨rfl, gvals_ok hs.tick h3 (by simp only [St.tick]; omega) hok.1 (fun g _ _ k _ => hs.fresh _ (by simp [St.tick])) h2⟩
      · cases hr
    · exact brun_ok hm hO hC b c hok.2 hat hr
end
end Go.Fw

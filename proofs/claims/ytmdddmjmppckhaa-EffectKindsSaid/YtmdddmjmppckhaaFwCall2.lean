/- Calls stand. -/
import Derived.Test.YtmdddmjmppckhaaFwCall
namespace Go.Fw

section
variable {P : Program} {V : Env} {σ σ' : St} {a : Act} {w w' : World} {G G' : Gh} {ep ep' : Nat} {O : Orc}

/-- What a step leaves. -/
structure Stp (V : Env) (σ σ' : St) (a' : Act) (w' : World) (G G' : Gh) (d : Nat) : Prop where
  sim : Sim V σ' a' w' G'
  μ : ∀ i : Id, i.2 < σ.nx → G'.μ i = G.μ i
  names : ∀ d' k, d' ≠ d → k < 16 → G.μ (nm d' k, σ.nx) = none → G'.μ (nm d' k, σ'.nx) = none
  nx : σ.nx ≤ σ'.nx

theorem nm_ne {d d' k k' : Nat} (hd : d' ≠ d) (hk : k < 16) (hk' : k' < 16) : nm d' k' ≠ nm d k := by unfold nm; omega

theorem Sim.grow' (h : Sim V σ a w G) (m : More w w') {S' : Nat → Prop} (h1 : ∀ b, G.S b → S' b) (h2 : ∀ b, S' b → b < w'.heap.size ∧ (G.S b ∨ w.heap.size ≤ b)) : Sim V σ a w' { G with S := S' } := by
  have e : Ext G { G with S := S' } := ⟨fun _ _ h => h, h1⟩
  have s := m.sees (ep := σ.ep) e h.stable
  have hm := h.more m
  exact { hm with
    slots := fun x hx => RS_sees s (h.slots x hx)
    objs := fun id row hr => let ⟨l, hl, ho⟩ := h.objs id row hr; ⟨l, hl, ObjR_sees s ho fun b hb => m.heap b (h.own id row hr b hb).1⟩
    own := fun id row hr b hb => by
      obtain ⟨k1, k2, k3⟩ := h.own id row hr b hb
      refine ⟨Nat.lt_of_lt_of_le k1 m.size, fun k4 => ?_, k3⟩
      rcases (h2 b k4).2 with k5 | k5
      · exact k2 k5
      · omega
    stable := fun b hb => (h2 b hb).1
    sOld := fun b hb => h1 b (h.sOld b hb)
    sNew := fun b hb => by
      rcases (h2 b hb).2 with k | k
      · exact h.sNew b k
      · exact .inr (.inr (Nat.le_trans h.grow k)) }

theorem land_ok (h : Sim V σ a w G) {d : Nat} (hd : d < V.N) {rvs : List RV} {us : List Value} {F : List Nat} (hr : RVsR G σ.ep w rvs us F) (ho : OwnF V σ w G F) (hn : ∀ j, j < 16 → G.μ (nm d j, σ.nx) = none) (hl : land σ d rvs = some σ') :
    ∃ G', Sim V σ' (a.put (some d) (comb us)) w G' ∧ σ'.nx = σ.nx ∧ σ'.ep = σ.ep ∧ ∀ i : Id, (∀ k, k < 16 → i ≠ (nm d k, σ.nx)) → G'.μ i = G.μ i := by
  simp only [land] at hl
  split at hl
  · rename_i hk
    injection hl with hl; subst hl
    obtain ⟨G1, o, hlen, hx⟩ := openRs_ok (d := d) (k := 0) h hr ho (fun j _ hj => hn j (by omega))
    refine ⟨G1, o.sim.set hd (combS_RS hlen fun i x u h1 h2 => by rw [o.ep]; exact hx i x u h1 h2), o.nx, o.ep, fun i hi => o.μ i fun j _ h2 => hi j (by omega)⟩
  · cases hl

theorem snos_ok : ∀ {cs : List Cell} {vs : List Value} {F : List Nat} {cs' : List Cell} {ep1 : Nat}, snos ep cs = some cs' → (cs.all fun c => !c.live) = true → (∀ b, G'.S b → b < w.heap.size) → RFL G' ep1 w cs vs F → RFL G ep w cs' vs F
  | [], [], _, _, _, hc, _, _, hr => by
    simp only [snos, Option.some.injEq] at hc; subst hc; exact hr
  | [], _ :: _, _, _, _, _, _, _, hr => hr.elim
  | _ :: _, [], _, _, _, _, _, _, hr => hr.elim
  | c :: cs, v :: vs, F, cs', ep1, hc, hl, hS, hr => by
    simp only [snos] at hc
    split at hc
    · rename_i c' cs2 e1 e2
      injection hc with hc; subst hc
      simp only [List.all_cons, Bool.and_eq_true, Bool.not_eq_true'] at hl
      obtain ⟨F1, F2, rfl, h1, h2⟩ := hr
      refine ⟨F1, F2, rfl, ?_, snos_ok e2 hl.2 hS h2⟩
      have hd := RF_data hl.1 h1
      have hall : ∀ b, G'.S b → AllB w b ∧ w.heap[b]? = w.heap[b]? := fun b hb => ⟨hS b hb, rfl⟩
      cases c with
      | ro es =>
        simp only [sno, Option.some.injEq] at e1; subst e1
        have : F1 = [] := RD_F (by simp) hd
        subst this
        exact .inr ⟨⟨Nat.le_refl _, fun _ => RD_mono hall _ _ _ hd (by simp)⟩, rfl⟩
      | ar es j =>
        simp only [sno, Option.some.injEq] at e1; subst e1
        have : F1 = [] := RD_F (by simp) hd
        subst this
        exact .inr ⟨⟨Nat.le_refl _, fun _ => RD_mono hall _ _ _ hd (by simp)⟩, rfl⟩
      | _ =>
        simp only [sno] at e1
        split at e1
        · rename_i hn
          injection e1 with e1; subst e1
          exact .inl (RD_noRo _ _ _ hn hd)
        · cases e1
    · cases hc

theorem snoRs_ok {ep1 : Nat} (hS : ∀ b, G'.S b → b < w.heap.size) : ∀ {rs : List RV} {us : List Value} {F : List Nat} {rs' : List RV}, snoRs ep rs = some rs' → dataRs rs = true → RVsR G' ep1 w rs us F → RVsR G ep w rs' us F
  | [], [], _, _, hc, _, hr => by simp only [snoRs, Option.some.injEq] at hc; subst hc; exact hr
  | [], _ :: _, _, _, _, _, hr => hr.elim
  | _ :: _, [], _, _, _, _, hr => hr.elim
  | r :: rs, u :: us, F, rs', hc, hl, hr => by
    simp only [snoRs] at hc
    split at hc
    · rename_i cs rs2 e1 e2
      injection hc with hc; subst hc
      simp only [dataRs, List.all_cons, Bool.and_eq_true] at hl
      obtain ⟨F1, F2, rfl, ⟨vs, hf, hv⟩, h2⟩ := hr
      exact ⟨F1, F2, rfl, ⟨vs, snos_ok e1 hl.1 hS hf, hv⟩, snoRs_ok hS e2 hl.2 h2⟩
    · cases hc

theorem RFL_data2 (hS : ∀ b, G'.S b → G.S b) : ∀ {cs : List Cell} {vs : List Value} {F : List Nat} {ep1 : Nat}, (cs.all fun c => !c.live) = true → RFL G' ep1 w cs vs F → RFL G ep w cs vs F
  | [], [], _, _, _, hr => hr
  | [], _ :: _, _, _, _, hr => hr.elim
  | _ :: _, [], _, _, _, hr => hr.elim
  | c :: cs, v :: vs, F, ep1, hl, hr => by
    simp only [List.all_cons, Bool.and_eq_true, Bool.not_eq_true'] at hl
    obtain ⟨F1, F2, rfl, h1, h2⟩ := hr
    exact ⟨F1, F2, rfl, .inl (RD_mono (fun b hb => ⟨hS b hb, rfl⟩) _ _ _ (RF_data hl.1 h1) (fun _ _ => rfl)), RFL_data2 hS hl.2 h2⟩

theorem RVsR_data2 (hS : ∀ b, G'.S b → G.S b) {ep1 : Nat} : ∀ {rs : List RV} {us : List Value} {F : List Nat}, dataRs rs = true → RVsR G' ep1 w rs us F → RVsR G ep w rs us F
  | [], [], _, _, hr => hr
  | [], _ :: _, _, _, hr => hr.elim
  | _ :: _, [], _, _, hr => hr.elim
  | r :: rs, u :: us, F, hl, hr => by
    simp only [dataRs, List.all_cons, Bool.and_eq_true] at hl
    obtain ⟨F1, F2, rfl, ⟨vs, hf, hv⟩, h2⟩ := hr
    exact ⟨F1, F2, rfl, ⟨vs, RFL_data2 hS hl.1 hf, hv⟩, RVsR_data2 hS hl.2 h2⟩

theorem Sim.entry (w : World) (S : Nat → Prop) (hS : ∀ b, S b → b < w.heap.size) : Sim ⟨w, S, fun _ => False, 0⟩ (stub 0 0 fun _ => none) act0 w (G0 S) :=
  { size := rfl
    defers := rfl
    slots := fun s hs => absurd hs (by simp)
    objs := fun id row hr => by simp [stub] at hr
    nodup := fun id row hr => by simp [stub] at hr
    own := fun id row hr => by simp [stub] at hr
    apart := fun id id' row row' hr => by simp [stub] at hr
    fresh := fun _ _ => rfl
    stable := hS
    sOld := fun _ h => h
    sNew := fun _ h => .inl h
    kept := fun _ _ _ => rfl
    grow := Nat.le_refl _
    os := rfl
    tape := rfl
    output := rfl }

/-- A quiet call hands data back, and touches nothing. -/
theorem pure_calls (hO : Valid P O) {f : FuncId} {args : List SV} {rvs : List RV} (hp : pureOf O f args = some rvs) {S : Nat → Prop} (hS : ∀ b, S b → b < w.heap.size) {vs : List Value} (hv : Vals (G0 S) 0 w args vs) :
    Calls P f vs.toArray w fun
      | .returned v, w' => More w w' ∧ dataRs rvs = true ∧ ∃ (G' : Gh) (ep' : Nat) (us : List Value) (F : List Nat), v = comb us ∧ RVsR G' ep' w' rvs us F ∧ (∀ b, S b → G'.S b) ∧ (∀ b, G'.S b → b < w'.heap.size ∧ (S b ∨ w.heap.size ≤ b)) ∧
          F.Nodup ∧ ∀ b ∈ F, b < w'.heap.size ∧ ¬ G'.S b ∧ w.heap.size ≤ b
      | _, _ => False := by
  unfold pureOf at hp
  split at hp
  · rename_i rvs' x hO'
    obtain ⟨ep', nx', h'⟩ := x
    split at hp
    · rename_i hdat
      injection hp with hp; subst hp
      refine Calls.mono (hO f args 0 0 _ rvs' ep' nx' h' hO' w (G0 S) (fun _ => False) vs (Sim.entry w S hS) hv) fun e w' he => ?_
      cases e with
      | returned v =>
        obtain ⟨G', us, F, hl⟩ := he
        have hs := hl.sim
        refine ⟨⟨hs.grow, fun b hb => hs.kept b hb (by simp), hs.os, hs.tape, hs.output⟩, hdat, G', ep', us, F, hl.val, hl.rvs, hs.sOld, fun b hb => ⟨hs.stable b hb, ?_⟩, hl.own.nodup, fun b hb => ?_⟩
        · rcases hs.sNew b hb with h1 | h1 | h1
          · exact .inl h1
          · exact h1.elim
          · exact .inr h1
        · obtain ⟨h1, h2, h3⟩ := hl.own.own b hb
          exact ⟨h1, h2, h3.resolve_left (by simp)⟩
      | panicked => exact he.elim
      | outgrown => exact he.elim
    · cases hp
  · cases hp

theorem pureCall_ok (hO : Valid P O) (h : Sim V σ a w G) {d : Nat} (hd : d < V.N) {f : FuncId} {args : List SV} {vs : List Value} (hv : Vals G σ.ep w args vs) (hn : ∀ k, k < 16 → G.μ (nm d k, σ.nx) = none) (hc : pureCall O σ d f args = some σ') :
    Calls P f vs.toArray w fun
      | .returned v, w' => ∃ G', Stp V σ σ' (a.put (some d) v) w' G G' d
      | _, _ => False := by
  unfold pureCall at hc
  split at hc
  · rename_i b xs hb
    obtain ⟨hb1, hb2⟩ := borL_ok h hb hv
    split at hc
    · rename_i rvs hp
      split at hc
      · rename_i rvs' hr'
        have fin : ∀ (G1 : Gh) (w' : World) (us : List Value) (F : List Nat), G1.μ = G.μ → Sim V σ a w' G1 → RVsR G1 σ.ep w' rvs' us F → OwnF V σ w' G1 F → ∃ G', Stp V σ σ' (a.put (some d) (comb us)) w' G G' d := fun G1 w' us F hμ hs hr ho => by
          obtain ⟨G2, hs2, hnx, hep, hμ2⟩ := land_ok hs hd hr ho (fun j hj => by rw [hμ]; exact hn j hj) hc
          refine ⟨G2, hs2, fun i hi => ?_, fun d' k hd' hk hnone => ?_, by omega⟩
          · rw [hμ2 i (fun k _ e => by rw [e] at hi; simp at hi), hμ]
          · rw [hnx, hμ2 _ (fun k' hk' e => nm_ne hd' hk' hk (congrArg Prod.fst e)), hμ]; exact hnone
        cases b with
        | false =>
          simp only [Bool.false_eq_true, if_false, Option.some.injEq] at hr'
          subst hr'
          refine Calls.mono (pure_calls hO hp (S := G.S) h.stable (hb1 rfl)) fun e w' he => ?_
          cases e with
          | panicked => exact he.elim
          | outgrown => exact he.elim
          | returned v =>
            obtain ⟨m, hdat, G', ep', us, F, rfl, hrv, hS1, hS2, hnd, hF⟩ := he
            refine fin { G with S := G'.S } w' us F rfl (h.grow' m hS1 hS2) (RVsR_data2 (G := { G with S := G'.S }) (G' := G') (fun _ h => h) hdat hrv) ⟨hnd, fun b hb => ⟨(hF b hb).1, (hF b hb).2.1, .inr (Nat.le_trans h.grow (hF b hb).2.2)⟩, fun b hb id row hr hb2 => ?_⟩
            have := (h.own id row hr b hb2).1
            have := (hF b hb).2.2
            omega
        | true =>
          simp only [if_true] at hr'
          refine Calls.mono (pure_calls hO hp (S := AllB w) (fun _ h => h) hb2) fun e w' he => ?_
          cases e with
          | panicked => exact he.elim
          | outgrown => exact he.elim
          | returned v =>
            obtain ⟨m, hdat, G', ep', us, F, rfl, hrv, hS1, hS2, hnd, hF⟩ := he
            refine fin G w' us F rfl (h.more m) (snoRs_ok (fun b hb => (hS2 b hb).1) hr' hdat hrv) ⟨hnd, fun b hb => ⟨(hF b hb).1, fun hb2 => ?_, .inr (Nat.le_trans h.grow (hF b hb).2.2)⟩, fun b hb id row hr hb2 => ?_⟩
            · have := h.stable b hb2
              have := (hF b hb).2.2
              omega
            · have := (h.own id row hr b hb2).1
              have := (hF b hb).2.2
              omega
      · cases hc
    · cases hc
  · cases hc

theorem lentCall_ok (hO : Valid P O) (h : Sim V σ a w G) {d : Nat} (hd : d < V.N) {f : FuncId} {args : List SV} {L : List Id} {vs : List Value} (hv : Vals G σ.ep w args vs) (hc : lentCall O σ d f args L = some σ') :
    Calls P f vs.toArray w fun
      | .returned v, w' => ∃ G', Stp V σ σ' (a.put (some d) v) w' G G' d
      | _, _ => False := by
  unfold lentCall at hc
  split at hc
  · rename_i rvs ep' nx' h' hcall
    let E0 : Nat → Prop := fun b => ∃ id row, id ∈ L ∧ σ.h id = some row ∧ b ∈ G.Fp id
    have old : ∀ id row, (stub σ.ep σ.nx (fun id => if id ∈ L then σ.h id else none)).h id = some row → id ∈ L ∧ σ.h id = some row := fun id row hr => by
      simp only [stub] at hr
      split at hr
      · exact ⟨by assumption, hr⟩
      · cases hr
    have hent : Sim ⟨w, G.S, E0, 0⟩ (stub σ.ep σ.nx (fun id => if id ∈ L then σ.h id else none)) act0 w G :=
      { size := rfl
        defers := rfl
        slots := fun s hs => absurd hs (by simp)
        objs := fun id row hr => h.objs id row (old id row hr).2
        nodup := fun id row hr => h.nodup id row (old id row hr).2
        own := fun id row hr b hb => by
          obtain ⟨h1, h2⟩ := old id row hr
          exact ⟨(h.own id row h2 b hb).1, (h.own id row h2 b hb).2.1, .inl ⟨id, row, h1, h2, hb⟩⟩
        apart := fun id id' row row' hr hr' => h.apart id id' row row' (old id row hr).2 (old id' row' hr').2
        fresh := fun id hid => h.fresh id hid
        stable := h.stable
        sOld := fun _ h => h
        sNew := fun _ h => .inl h
        kept := fun _ _ _ => rfl
        grow := Nat.le_refl _
        os := rfl
        tape := rfl
        output := rfl }
    refine Calls.mono (hO f args σ.ep σ.nx _ rvs ep' nx' h' hcall w G E0 vs hent hv) fun e w' he => ?_
    cases e with
    | panicked => exact he.elim
    | outgrown => exact he.elim
    | returned v =>
      obtain ⟨G', us, F, hl⟩ := he
      obtain rfl := hl.val
      have hs := hl.sim
      have hE : ∀ b, E0 b → b < w.heap.size ∧ ¬ G.S b ∧ (V.E0 b ∨ V.w0.heap.size ≤ b) := fun b ⟨id, row, _, h2, h3⟩ => h.own id row h2 b h3
      have hEold : ∀ id row, id ∉ L → σ.h id = some row → ∀ b ∈ G.Fp id, ¬ E0 b := fun id row hid hr b hb ⟨id2, row2, h1, h2, h3⟩ =>
        h.apart id id2 row row2 hr h2 (fun e => hid (e ▸ h1)) b hb h3
      have hkeep : ∀ b, b < w.heap.size → ¬ E0 b → w'.heap[b]? = w.heap[b]? := fun b h1 h2 => hs.kept b h1 h2
      have hμ : ∀ i l, G.μ i = some l → G'.μ i = some l := fun i l hi => by
        rw [hl.μ i (Nat.le_of_not_lt fun h1 => by rw [h.fresh i h1] at hi; cases hi)]; exact hi
      let G1 : Gh := { μ := G'.μ, Fp := fun id => if id ∈ L ∨ σ.nx < id.2 then G'.Fp id else G.Fp id, S := G'.S }
      let σ1 : St := { t := σ.t, h := fun id => if id ∈ L ∨ σ.nx < id.2 then h' id else σ.h id, ep := σ.ep + ep' + 1, nx := nx' + 1 }
      have s1 : Sees G G1 σ.ep (σ.ep + ep' + 1) w w' := ⟨⟨hμ, hs.sOld⟩, fun b hb => hkeep b (h.stable b hb) (fun hE' => (hE b hE').2.1 hb), by omega, fun e => by omega⟩
      have s2 : Sees G' G1 ep' (σ.ep + ep' + 1) w' w' := ⟨⟨fun _ _ h => h, fun _ h => h⟩, fun _ _ => rfl, by omega, fun e => by omega⟩
      have cases1 : ∀ id row, σ1.h id = some row → ((id ∈ L ∨ σ.nx < id.2) ∧ h' id = some row ∧ G1.Fp id = G'.Fp id) ∨ (id ∉ L ∧ σ.h id = some row ∧ G1.Fp id = G.Fp id) := fun id row hr => by
        by_cases hid : id ∈ L ∨ σ.nx < id.2
        · exact .inl ⟨hid, by simpa [σ1, hid] using hr, by simp only [G1, hid, if_true]⟩
        · exact .inr ⟨fun h1 => hid (.inl h1), by simpa [σ1, hid] using hr, by simp only [G1, hid, if_false]⟩
      have hown' : ∀ b, (E0 b ∨ w.heap.size ≤ b) → (V.E0 b ∨ V.w0.heap.size ≤ b) := fun b hb => by
        rcases hb with hb | hb
        · exact (hE b hb).2.2
        · exact .inr (Nat.le_trans h.grow hb)
      have hnS : ∀ id row, id ∉ L → σ.h id = some row → ∀ b ∈ G.Fp id, ¬ G'.S b := fun id row hid hr b hb h4 => by
        rcases hs.sNew b h4 with h5 | h5 | h5
        · exact (h.own id row hr b hb).2.1 h5
        · exact hEold id row hid hr b hb h5
        · have := (h.own id row hr b hb).1
          have h6 : w.heap.size ≤ b := h5
          omega
      have mixed : ∀ id row, id ∉ L → σ.h id = some row → ∀ b ∈ G.Fp id, ¬ (E0 b ∨ w.heap.size ≤ b) := fun id row hid hr b hb hb2 => by
        rcases hb2 with h5 | h5
        · exact hEold id row hid hr b hb h5
        · have := (h.own id row hr b hb).1
          omega
      have hσ1 : Sim V σ1 a w' G1 :=
        { size := h.size
          defers := h.defers
          slots := fun s hs' => RS_sees s1 (h.slots s hs')
          objs := fun id row hr => by
            rcases cases1 id row hr with ⟨_, h2, h3⟩ | ⟨h1, h2, h3⟩
            · obtain ⟨l, hl1, ho⟩ := hs.objs id row h2
              exact ⟨l, hl1, by rw [h3]; exact ObjR_sees s2 ho fun _ _ => rfl⟩
            · obtain ⟨l, hl1, ho⟩ := h.objs id row h2
              exact ⟨l, hμ _ _ hl1, by rw [h3]; exact ObjR_sees s1 ho fun b hb => hkeep b (h.own id row h2 b hb).1 (hEold id row h1 h2 b hb)⟩
          nodup := fun id row hr => by
            rcases cases1 id row hr with ⟨_, h2, h3⟩ | ⟨h1, h2, h3⟩
            · rw [h3]; exact hs.nodup id row h2
            · rw [h3]; exact h.nodup id row h2
          own := fun id row hr b hb => by
            rcases cases1 id row hr with ⟨_, h2, h3⟩ | ⟨h1, h2, h3⟩
            · rw [h3] at hb
              obtain ⟨k1, k2, k3⟩ := hs.own id row h2 b hb
              exact ⟨k1, k2, hown' b k3⟩
            · rw [h3] at hb
              obtain ⟨k1, k2, k3⟩ := h.own id row h2 b hb
              exact ⟨Nat.lt_of_lt_of_le k1 hs.grow, hnS id row h1 h2 b hb, k3⟩
          apart := fun id id' row row' hr hr' hne b hb hb' => by
            rcases cases1 id row hr with ⟨_, h2, h3⟩ | ⟨h1, h2, h3⟩ <;> rcases cases1 id' row' hr' with ⟨_, h2', h3'⟩ | ⟨h1', h2', h3'⟩ <;> rw [h3] at hb <;> rw [h3'] at hb'
            · exact hs.apart id id' row row' h2 h2' hne b hb hb'
            · exact mixed id' row' h1' h2' b hb' (hs.own id row h2 b hb).2.2
            · exact mixed id row h1 h2 b hb (hs.own id' row' h2' b hb').2.2
            · exact h.apart id id' row row' h2 h2' hne b hb hb'
          fresh := fun id hid => hs.fresh id (show nx' < id.2 by have : nx' + 1 < id.2 := hid; omega)
          stable := hs.stable
          sOld := fun b hb => hs.sOld b (h.sOld b hb)
          sNew := fun b hb => by
            rcases hs.sNew b hb with h5 | h5 | h5
            · exact h.sNew b h5
            · exact .inr (hown' b (.inl h5))
            · exact .inr (hown' b (.inr h5))
          kept := fun b hb hE' => by
            rw [hkeep b (Nat.lt_of_lt_of_le hb h.grow) (fun h5 => ?_)]
            · exact h.kept b hb hE'
            · rcases (hE b h5).2.2 with h6 | h6
              · exact hE' h6
              · omega
          grow := Nat.le_trans h.grow hs.grow
          os := hs.os.trans h.os
          tape := hs.tape.trans h.tape
          output := hs.output.trans h.output }
      have hoF : OwnF V σ1 w' G1 F := by
        refine ⟨hl.own.nodup, fun b hb => ?_, fun b hb id row hr => ?_⟩
        · obtain ⟨k1, k2, k3⟩ := hl.own.own b hb
          exact ⟨k1, k2, hown' b k3⟩
        · rcases cases1 id row hr with ⟨_, h2, h3⟩ | ⟨h1, h2, h3⟩
          · rw [h3]; exact hl.own.apart b hb id row h2
          · rw [h3]; exact fun hb2 => mixed id row h1 h2 b hb2 (hl.own.own b hb).2.2
      obtain ⟨G2, hs2, hnx, hep, hμ2⟩ := land_ok hσ1 hd (RVsR_sees s2 hl.rvs (fun _ _ => rfl)) hoF (fun j _ => hs.fresh _ (show nx' < nx' + 1 by omega)) hc
      refine ⟨G2, hs2, fun i hi => ?_, fun d' k hd' hk _ => ?_, by rw [hnx]; have := hl.nx; show σ.nx ≤ nx' + 1; omega⟩
      · rw [hμ2 i (fun k _ e => by rw [e] at hi; have := hl.nx; have h7 : nx' + 1 < σ.nx := hi; omega)]
        exact hl.μ i (Nat.le_of_lt hi)
      · rw [hnx, hμ2 _ (fun k' hk' e => nm_ne hd' hk' hk (congrArg Prod.fst e))]
        exact hs.fresh _ (show nx' < nx' + 1 by omega)
  · cases hc
end
end Go.Fw

/- What a function hands back, and how it is taken. -/
import Derived.Test.YtmdddmjmppckhaaFwGhost2
namespace Go.Fw

/-- A result: whether it is an aggregate, and its cells. -/
abbrev RV := Bool × List Cell

section
variable {P : Program} {V : Env} {σ σ' : St} {a : Act} {w w' : World} {G G' : Gh} {ep ep' : Nat}

def RVR (G : Gh) (ep : Nat) (w : World) (r : RV) (v : Value) (F : List Nat) : Prop :=
  ∃ vs : List Value, RFL G ep w r.2 vs F ∧ ((r.1 = true ∧ v = .agg vs.toArray) ∨ (r.1 = false ∧ ∃ u, vs = [u] ∧ v = u))

def RVsR (G : Gh) (ep : Nat) (w : World) : List RV → List Value → List Nat → Prop
  | [], [], F => F = []
  | r :: rs, v :: vs, F => ∃ F1 F2, F = F1 ++ F2 ∧ RVR G ep w r v F1 ∧ RVsR G ep w rs vs F2
  | _, _, _ => False

def comb (us : List Value) : Value := match us with
  | [u] => u
  | us => .tuple us.toArray

theorem RVsR_sees (s : Sees G G' ep ep' w w') : ∀ {rs : List RV} {vs : List Value} {F : List Nat}, RVsR G ep w rs vs F → (∀ b ∈ F, w'.heap[b]? = w.heap[b]?) → RVsR G' ep' w' rs vs F
  | [], [], _, h, _ => h
  | r :: rs, v :: vs, F, h, hF => by
    obtain ⟨F1, F2, rfl, ⟨us, h1, h2⟩, h3⟩ := h
    exact ⟨F1, F2, rfl, ⟨us, RFL_sees s h1 (fun b hb => hF b (by simp [hb])), h2⟩, RVsR_sees s h3 (fun b hb => hF b (by simp [hb]))⟩
  | [], _ :: _, _, h, _ => h.elim
  | _ :: _, [], _, h, _ => h.elim

/-! ### At the end of a function -/
inductive RO where
  | tmp (t : Nat)
  | cell (t : Nat) (agg : Bool) (n : Nat)

def takeR (σ : St) (ks : List Nat) : RO → Option (RV × St)
  | .tmp t => match σ.t t with
    | .c c => match closeL σ ks [c] with
      | some (cs, σ1) => some ((false, cs), σ1)
      | none => none
    | .a cs => match closeL σ ks cs with
      | some (cs', σ1) => some ((true, cs'), σ1)
      | none => none
    | .t _ => none
  | .cell t agg n => match σ.t t with
    | .c (.ad id i j) => match σ.h id with
      | some row => match row.es[i]? with
        | some e => match cut e j n with
          | some cs => if cs.all (fun c => !c.live) && (agg || decide (n = 1)) then some ((agg, cs), σ.kill id) else none
          | none => none
        | none => none
      | none => none
    | _ => none

def takeRs (σ : St) : List (RO × List Nat) → Option (List RV × St)
  | [] => some ([], σ)
  | (r, ks) :: rs => match takeR σ ks r with
    | some (v, σ1) => match takeRs σ1 rs with
      | some (vs, σ2) => some (v :: vs, σ2)
      | none => none
    | none => none

def resOK (P : Program) (N : Nat) : List (RO × List Nat) → List ResultVar → Bool
  | [], [] => true
  | (.tmp t, _) :: rs, .tmp t' :: qs => decide (t = t') && decide (t < N) && resOK P N rs qs
  | (.cell t agg n, _) :: rs, .cell t' ty :: qs => decide (t = t') && decide (t < N) && (match tiOf P ty with | some i => decide (i.size = n) && decide (i.agg = agg) && (i.agg || decide (i.size = 1)) | none => false) && resOK P N rs qs
  | _, _ => false

theorem RFL_take : ∀ (cs ds : List Cell) {vs : List Value} {F : List Nat}, RFL G ep w (cs ++ ds) vs F → ∃ v1 v2 F1 F2, vs = v1 ++ v2 ∧ F = F1 ++ F2 ∧ RFL G ep w cs v1 F1 ∧ RFL G ep w ds v2 F2 := fun _ _ _ _ h => RFL_split h

theorem run_listMapM {α : Type} (f : α → Sem Value) : ∀ (l : List α) (us : List Value), l.length = us.length → (∀ (k : Nat) (x : α) (u : Value), l[k]? = some x → us[k]? = some u → (f x).run P w = .ok u w) → (l.mapM f).run P w = .ok us w
  | [], [], _, _ => by simp [go_sem]
  | x :: l, u :: us, hl, h => by
    have h0 := h 0 x u rfl rfl
    have h1 := run_listMapM f l us (by simpa using hl) (fun k y v hy hv => h (k + 1) y v (by simpa using hy) (by simpa using hv))
    simp [List.mapM_cons, go_sem, h0, h1]
  | [], _ :: _, h, _ => by simp at h
  | _ :: _, [], h, _ => by simp at h

def readR (tmps : Array Value) : ResultVar → Sem Value
  | .tmp t => pure (tmps.getD t undef)
  | .cell a t => do loadVar t (← asAddr (tmps.getD a undef))

theorem results_run {fn : Func} {tmps : Array Value} {us : List Value} (hl : fn.results.toList.length = us.length) (h : ∀ (k : Nat) (x : ResultVar) (u : Value), fn.results.toList[k]? = some x → us[k]? = some u → (readR tmps x).run P w = .ok u w) :
    (results fn tmps).run P w = .ok (comb us) w := by
  have h1 := run_listMapM (readR tmps) fn.results.toList us hl h
  have h2 : (fn.results.mapM (readR tmps)).run P w = .ok us.toArray w := by
    rw [Array.mapM_eq_mapM_toList]
    simp [go_sem, h1]
  have h3 : results fn tmps = (do let vs ← fn.results.mapM (readR tmps); pure (if h : vs.size = 1 then vs[0] else .tuple vs)) := by
    unfold results
    have : (fun x : ResultVar => match x with | .tmp t => (pure (tmps.getD t undef) : Sem Value) | .cell a t => do loadVar t (← asAddr (tmps.getD a undef))) = readR tmps := by
      funext x; cases x <;> rfl
    rw [← this]
    rfl
  rw [h3]
  simp only [Sem.run_bind, h2, Result.andThen_ok]
  cases us with
  | nil => simp [comb, go_sem]
  | cons u us => cases us <;> simp [comb, go_sem]

structure Took (P : Program) (V : Env) (σ σ' : St) (w : World) (G : Gh) (rv : RV) (v : Value) (F : List Nat) : Prop where
  rv : RVR G σ.ep w rv v F
  own : OwnF V σ' w G F
  less : Less σ σ'
  of : ∀ b ∈ F, ∃ id row, σ.h id = some row ∧ b ∈ G.Fp id

theorem takeR_ok (h : Sim V σ a w G) {ks : List Nat} {r : RO} {q : ResultVar} {rv : RV} (hok : resOK P V.N [(r, ks)] [q] = true) (ht : takeR σ ks r = some (rv, σ')) :
    ∃ v F, (readR a.tmps q).run P w = .ok v w ∧ Took P V σ σ' w G rv v F := by
  cases r with
  | tmp t =>
    cases q with
    | cell a t => simp [resOK] at hok
    | tmp t' =>
      simp only [resOK, Bool.and_true, Bool.and_eq_true, decide_eq_true_eq] at hok
      obtain ⟨rfl, hN⟩ := hok
      have hs := h.slots t hN
      simp only [takeR] at ht
      split at ht
      · rename_i c hc
        rw [hc] at hs
        split at ht
        · rename_i cs σ1 hcl
          injection ht with ht
          obtain ⟨rfl, rfl⟩ : (false, cs) = rv ∧ σ1 = σ' := by simpa using ht
          obtain ⟨hl, F, h1, h2, h3⟩ := closeL_ok h (.cons (RS_c hs) .nil) hcl
          exact ⟨_, F, by simp [readR, go_sem], ⟨_, h1, .inr ⟨rfl, _, rfl, rfl⟩⟩, h2, hl, h3⟩
        · cases ht
      · rename_i cs hc
        rw [hc] at hs
        split at ht
        · rename_i cs' σ1 hcl
          injection ht with ht
          obtain ⟨rfl, rfl⟩ : (true, cs') = rv ∧ σ1 = σ' := by simpa using ht
          generalize hv : a.tmps.getD t undef = v at hs
          cases hs with
          | a hx =>
            obtain ⟨hl, F, h1, h2, h3⟩ := closeL_ok h hx hcl
            exact ⟨_, F, by simp only [readR, hv]; simp [go_sem], ⟨_, h1, .inl ⟨rfl, rfl⟩⟩, h2, hl, h3⟩
        · cases ht
      · cases ht
  | cell t agg n =>
    cases q with
    | tmp t => simp [resOK] at hok
    | cell t' ty =>
      simp only [resOK, Bool.and_true, Bool.and_eq_true, decide_eq_true_eq] at hok
      obtain ⟨⟨rfl, hN⟩, hty⟩ := hok
      split at hty
      · rename_i i hti
        simp only [Bool.and_eq_true, decide_eq_true_eq, Bool.or_eq_true] at hty
        obtain ⟨⟨rfl, rfl⟩, hsz⟩ := hty
        have hs := h.slots t hN
        simp only [takeR] at ht
        split at ht
        · rename_i id i1 j hc
          rw [hc] at hs
          obtain ⟨l, hl, hblk, hv⟩ := RX_ad (RS_c hs)
          split at ht
          · rename_i row hrow
            split at ht
            · rename_i e he
              split at ht
              · rename_i cs hcut
                split at ht
                · rename_i hlive
                  injection ht with ht
                  obtain ⟨rfl, rfl⟩ : (i.agg, cs) = rv ∧ σ.kill id = σ' := by simpa using ht
                  obtain ⟨l', hl', ho1, ho⟩ := h.objs id row hrow
                  obtain rfl : l' = l := by rw [hl] at hl'; injection hl' with e; exact e.symm
                  rw [if_pos hblk] at ho
                  obtain ⟨cur, E, F0, hheap, _, _, _, hFp, hr⟩ := ho
                  obtain ⟨Fa, Fe, Fb, hF0, hfe, _, _⟩ := RFRow_focus hr he
                  unfold cut at hcut
                  split at hcut
                  · rename_i hle
                    injection hcut with hcut
                    have hsplit : e = e.take j ++ (cs ++ (e.drop j).drop i.size) := by
                      rw [← hcut, List.take_append_drop, List.take_append_drop]
                    rw [hsplit] at hfe
                    obtain ⟨F1, F23, rfl, _, hf23⟩ := RFs_split hfe
                    obtain ⟨F2, F3, rfl, hf2, _⟩ := RFs_split hf23
                    obtain ⟨vs, hvl, hcell, hRFL⟩ := RFs_vals hf2
                    have hcl : cs.length = i.size := by rw [← hcut]; simp; omega
                    have hsub : F2.Sublist (G.Fp id) := by
                      rw [hFp, hF0]
                      refine List.Sublist.trans ?_ (List.sublist_cons_self _ _)
                      refine List.Sublist.trans ?_ (List.sublist_append_left _ _)
                      refine List.Sublist.trans ?_ (List.sublist_append_right _ _)
                      refine List.Sublist.trans ?_ (List.sublist_append_right _ _)
                      exact List.sublist_append_left _ _
                    have hrun := run_loadVar' (P := P) (w := w) hti hsz (b := l'.b) (k := l'.o + i1 * l'.sz + j) (vs := vs) (by omega) (fun k v hv => by
                      rw [← hcell k v hv]; congr 2; simp; omega)
                    refine ⟨if i.agg then .agg vs.toArray else vs.headD undef, F2, ?_, ⟨⟨vs, hRFL, ?_⟩, ⟨(h.nodup id row hrow).sublist hsub, fun b hb => h.own id row hrow b (hsub.subset hb), fun b hb i2 r2 hr2 => ?_⟩, Less.kill _ _, fun b hb => ⟨id, row, hrow, hsub.subset hb⟩⟩⟩
                    · simp only [readR, hv]
                      simpa [asAddr, go_sem] using hrun
                    · cases hag : i.agg with
                      | true => exact .inl ⟨rfl, by simp⟩
                      | false =>
                        refine .inr ⟨rfl, ?_⟩
                        have h1 : i.size = 1 := hsz.resolve_left (by simp [hag])
                        obtain ⟨u, hu⟩ := List.length_eq_one_iff.1 (show vs.length = 1 by omega)
                        exact ⟨u, hu, by simp [hu]⟩
                    · have hne : i2 ≠ id := fun e => by subst e; simp [St.kill, St.setH] at hr2
                      exact h.apart id i2 row r2 hrow ((Less.kill σ id).h _ _ hr2) (Ne.symm hne) b (hsub.subset hb)
                  · cases hcut
                · cases ht
              · cases ht
            · cases ht
          · cases ht
        · cases ht
      · cases hty

theorem takeRs_ok : ∀ {rs : List (RO × List Nat)} {qs : List ResultVar} {σ σ' : St} {rvs : List RV}, Sim V σ a w G → resOK P V.N rs qs = true → takeRs σ rs = some (rvs, σ') →
    ∃ us F, us.length = qs.length ∧ (∀ (k : Nat) (x : ResultVar) (u : Value), qs[k]? = some x → us[k]? = some u → (readR a.tmps x).run P w = .ok u w) ∧ RVsR G σ.ep w rvs us F ∧ OwnF V σ' w G F ∧ Less σ σ' ∧
      ∀ b ∈ F, ∃ id row, σ.h id = some row ∧ b ∈ G.Fp id
  | [], qs, σ, σ', rvs, h, hok, ht => by
    cases qs with
    | cons => simp [resOK] at hok
    | nil =>
      simp only [takeRs, Option.some.injEq, Prod.mk.injEq] at ht
      obtain ⟨rfl, rfl⟩ := ht
      exact ⟨[], [], rfl, by simp, rfl, OwnF.nil, Less.refl _, by simp⟩
  | (r, ks) :: rs, qs, σ, σ', rvs, h, hok, ht => by
    cases qs with
    | nil => cases r <;> simp [resOK] at hok
    | cons q qs =>
      have hok1 : resOK P V.N [(r, ks)] [q] = true ∧ resOK P V.N rs qs = true := by
        cases r <;> cases q <;> simp only [resOK, Bool.and_eq_true, Bool.and_true, Bool.false_eq_true] at hok ⊢ <;> exact hok
      simp only [takeRs] at ht
      split at ht
      · rename_i rv σ1 h1
        split at ht
        · rename_i rvs' σ2 h2
          simp only [Option.some.injEq, Prod.mk.injEq] at ht
          obtain ⟨rfl, rfl⟩ := ht
          obtain ⟨v, F1, hrun, hrv, ho1, hl1, hof1⟩ := takeR_ok h hok1.1 h1
          obtain ⟨us, F2, hlen, hruns, hrvs, ho2, hl2, hof2⟩ := takeRs_ok (h.less hl1) hok1.2 h2
          refine ⟨v :: us, F1 ++ F2, by simp [hlen], fun k x u hx hu => ?_, ⟨F1, F2, rfl, hrv, by rw [← hl1.ep]; exact hrvs⟩, OwnF.append (ho1.less hl2) ho2 (fun b hb hb2 => ?_), hl1.trans hl2, fun b hb => ?_⟩
          · cases k with
            | zero => simp at hx hu; subst hx hu; exact hrun
            | succ k => exact hruns k x u (by simpa using hx) (by simpa using hu)
          · obtain ⟨id, row, hr, hb3⟩ := hof2 b hb2
            exact ho1.apart b hb id row hr hb3
          · rcases List.mem_append.1 hb with hb | hb
            · exact hof1 b hb
            · obtain ⟨id, row, hr, hb3⟩ := hof2 b hb
              exact ⟨id, row, hl1.h id row hr, hb3⟩
        · cases ht
      · cases ht

/-! ### Where a call stands: what it hands back that is owned becomes objects -/
def openCs (d : Nat) : Nat → St → List Cell → List Cell × Nat × St
  | k, σ, [] => ([], k, σ)
  | k, σ, .ow sz es :: cs => let r := openCs d (k + 1) (σ.setH (nm d k, σ.nx) (some ⟨sz, es⟩)) cs; (.sl (nm d k, σ.nx) 0 es.length :: r.1, r.2.1, r.2.2)
  | k, σ, c :: cs => let r := openCs d k σ cs; (c :: r.1, r.2.1, r.2.2)

def openRs (d : Nat) : Nat → St → List RV → List SV × Nat × St
  | k, σ, [] => ([], k, σ)
  | k, σ, r :: rs =>
    let x := openCs d k σ r.2
    let y := openRs d x.2.1 x.2.2 rs
    ((if r.1 then .a x.1 else .c (x.1.headD .bad)) :: y.1, y.2.1, y.2.2)

def combS : List SV → SV
  | [x] => x
  | xs => .t xs

structure Opened (V : Env) (σ σ' : St) (a : Act) (w : World) (G G' : Gh) (d k k' : Nat) : Prop where
  sim : Sim V σ' a w G'
  ext : Ext G G'
  t : σ'.t = σ.t
  ep : σ'.ep = σ.ep
  nx : σ'.nx = σ.nx
  le : k ≤ k'
  S : G'.S = G.S
  μ : ∀ i : Id, (∀ j, k ≤ j → j < k' → i ≠ (nm d j, σ.nx)) → G'.μ i = G.μ i

theorem nm_inj {d j j' : Nat} (h : nm d j = nm d j') : j = j' := by unfold nm at h; omega

theorem openCs_keep {d k : Nat} {c : Cell} {cs : List Cell} (hc : ∀ sz es, c ≠ .ow sz es) : openCs d k σ (c :: cs) = (c :: (openCs d k σ cs).1, (openCs d k σ cs).2.1, (openCs d k σ cs).2.2) := by
  cases c <;> first
    | exact absurd rfl (hc _ _)
    | rfl

theorem openCs_le {d : Nat} : ∀ {cs : List Cell} {k : Nat} {σ : St}, k ≤ (openCs d k σ cs).2.1
  | [], _, _ => Nat.le_refl _
  | c :: cs, k, σ => by
    by_cases hw : ∃ sz es, c = .ow sz es
    · obtain ⟨sz, es, rfl⟩ := hw
      have := openCs_le (d := d) (cs := cs) (k := k + 1) (σ := σ.setH (nm d k, σ.nx) (some ⟨sz, es⟩))
      simp only [openCs]; omega
    · rw [openCs_keep fun sz es e => hw ⟨sz, es, e⟩]
      exact openCs_le (cs := cs)
theorem openRs_le {d : Nat} : ∀ {rs : List RV} {k : Nat} {σ : St}, k ≤ (openRs d k σ rs).2.1
  | [], _, _ => Nat.le_refl _
  | r :: rs, k, σ => by
    have h1 := openCs_le (d := d) (cs := r.2) (k := k) (σ := σ)
    have h2 := openRs_le (d := d) (rs := rs) (k := (openCs d k σ r.2).2.1) (σ := (openCs d k σ r.2).2.2)
    simp only [openRs]; omega

theorem openCs_ok {d : Nat} : ∀ {cs : List Cell} {vs : List Value} {F : List Nat} {k : Nat} {σ : St} {G : Gh}, Sim V σ a w G → RFL G σ.ep w cs vs F → OwnF V σ w G F → (∀ j, k ≤ j → j < (openCs d k σ cs).2.1 → G.μ (nm d j, σ.nx) = none) →
    ∃ G', Opened V σ (openCs d k σ cs).2.2 a w G G' d k (openCs d k σ cs).2.1 ∧ RXs G' σ.ep w (openCs d k σ cs).1 vs ∧ ∀ F2, OwnF V σ w G F2 → (∀ b ∈ F2, b ∉ F) → OwnF V (openCs d k σ cs).2.2 w G' F2
  | [], [], F, k, σ, G, h, hr, ho, hn => ⟨G, ⟨h, Ext.refl _, rfl, rfl, rfl, Nat.le_refl _, rfl, fun _ _ => rfl⟩, .nil, fun F2 h2 _ => h2⟩
  | [], _ :: _, _, _, _, _, _, hr, _, _ => hr.elim
  | _ :: _, [], _, _, _, _, _, hr, _, _ => hr.elim
  | c :: cs, v :: vs, F, k, σ, G, h, hr, ho, hn => by
    obtain ⟨F1, F2, rfl, hc, hr2⟩ := hr
    have ho1 : OwnF V σ w G F1 := ⟨ho.nodup.sublist (List.sublist_append_left _ _), fun b hb => ho.own b (by simp [hb]), fun b hb => ho.apart b (by simp [hb])⟩
    have ho2 : OwnF V σ w G F2 := ⟨ho.nodup.sublist (List.sublist_append_right _ _), fun b hb => ho.own b (by simp [hb]), fun b hb => ho.apart b (by simp [hb])⟩
    have hdis : ∀ b ∈ F1, b ∉ F2 := fun b h1 h2 => (List.nodup_append.1 ho.nodup).2.2 b h1 b h2 rfl
    by_cases hw : ∃ sz es, c = .ow sz es
    · obtain ⟨sz, es, rfl⟩ := hw
      have hd : RD w G.S (.ow sz es) v F1 := by
        rcases hc with h1 | ⟨h1, rfl⟩
        · exact h1
        · exact h1
      obtain ⟨l, hobj, hsl⟩ := ow_obj (G := G) (ep := σ.ep) rfl hd
      obtain ⟨G1, e1, hμ1, hμ1', hS1, hF1, hF1', hs1⟩ := h.give (id := (nm d k, σ.nx)) (Nat.le_refl _) (hn k (Nat.le_refl _) (by have := openCs_le (d := d) (cs := cs) (k := k + 1) (σ := σ.setH (nm d k, σ.nx) (some ⟨sz, es⟩)); simp only [openCs]; omega)) ho1 (row := ⟨sz, es⟩) hobj
      have ownF : ∀ F3, OwnF V σ w G F3 → (∀ b ∈ F3, b ∉ F1) → OwnF V (σ.setH (nm d k, σ.nx) (some ⟨sz, es⟩)) w G1 F3 := fun F3 h3 hd3 => by
        refine ⟨h3.nodup, fun b hb => by rw [hS1]; exact h3.own b hb, fun b hb i r hr => ?_⟩
        by_cases hi : i = (nm d k, σ.nx)
        · subst hi; rw [hF1']; exact hd3 b hb
        · rw [hF1 i hi]
          exact h3.apart b hb i r (by simpa [St.setH, hi] using hr)
      obtain ⟨G2, o2, hx2, hown2⟩ := openCs_ok (d := d) (k := k + 1) hs1 (RFL_sees (idSees e1) hr2 (fun _ _ => rfl)) (ownF F2 ho2 fun b h1 h2 => hdis b h2 h1) (fun j hj hj2 => by
        show G1.μ (nm d j, σ.nx) = none
        rw [hμ1 _ (fun e => by have := nm_inj (congrArg Prod.fst e); omega)]; exact hn j (by omega) (by simpa only [openCs] using hj2))
      refine ⟨G2, ⟨o2.sim, ⟨fun i l h => o2.ext.μ i l (e1.μ i l h), fun b hb => o2.ext.S b (e1.S b hb)⟩, o2.t, o2.ep, o2.nx, by have := o2.le; simp only [openCs]; omega, o2.S.trans hS1, fun i hi => ?_⟩, ?_, fun F3 h3 hd3 => ?_⟩
      · have hle := o2.le
        simp only [openCs] at hi
        rw [o2.μ i (fun j h1 h2 => hi j (by omega) h2), hμ1 i (hi k (Nat.le_refl _) (by omega))]
      · exact .cons (hsl G2 _ (o2.ext.μ _ _ hμ1')) hx2
      · exact hown2 F3 (ownF F3 h3 fun b hb h1 => hd3 b hb (by simp [h1])) (fun b hb h1 => hd3 b hb (by simp [h1]))
    · have hne : ∀ sz es, c ≠ .ow sz es := fun sz es e => hw ⟨sz, es, e⟩
      have hx : RX G σ.ep w c v ∧ F1 = [] := by
        rcases hc with h1 | h1
        · have := RD_F hne h1
          subst this
          refine ⟨?_, rfl⟩
          cases c <;> first
            | exact absurd rfl (hne _ _)
            | (simp only [RD] at h1; done)
            | exact h1
            | (simp only [RD] at h1; obtain ⟨rfl, rfl, _⟩ := h1; exact ⟨[], rfl, rfl, by simp⟩)
        · exact h1
      obtain ⟨hx, rfl⟩ := hx
      rw [openCs_keep hne] at hn ⊢
      obtain ⟨G2, o2, hx2, hown2⟩ := openCs_ok (d := d) (k := k) h hr2 ho2 hn
      exact ⟨G2, o2, .cons (RX_sees (idSees o2.ext) hx) hx2, fun F3 h3 hd3 => hown2 F3 h3 (by simpa using hd3)⟩

theorem RXs_headD {cs : List Cell} {u : Value} {ep : Nat} (h : RXs G ep w cs [u]) : RX G ep w (cs.headD .bad) u := by
  cases h with
  | cons h1 h2 => exact h1

theorem openRs_ok {d : Nat} : ∀ {rs : List RV} {us : List Value} {F : List Nat} {k : Nat} {σ : St} {G : Gh}, Sim V σ a w G → RVsR G σ.ep w rs us F → OwnF V σ w G F → (∀ j, k ≤ j → j < (openRs d k σ rs).2.1 → G.μ (nm d j, σ.nx) = none) →
    ∃ G', Opened V σ (openRs d k σ rs).2.2 a w G G' d k (openRs d k σ rs).2.1 ∧ (openRs d k σ rs).1.length = us.length ∧ ∀ (i : Nat) (x : SV) (u : Value), (openRs d k σ rs).1[i]? = some x → us[i]? = some u → RS G' σ.ep w x u
  | [], [], F, k, σ, G, h, hr, ho, hn => ⟨G, ⟨h, Ext.refl _, rfl, rfl, rfl, Nat.le_refl _, rfl, fun _ _ => rfl⟩, rfl, fun i x u hx => by simp [openRs] at hx⟩
  | [], _ :: _, _, _, _, _, _, hr, _, _ => hr.elim
  | _ :: _, [], _, _, _, _, _, hr, _, _ => hr.elim
  | r :: rs, u :: us, F, k, σ, G, h, hr, ho, hn => by
    obtain ⟨F1, F2, rfl, ⟨vs, hfl, hv⟩, hr2⟩ := hr
    have ho1 : OwnF V σ w G F1 := ⟨ho.nodup.sublist (List.sublist_append_left _ _), fun b hb => ho.own b (by simp [hb]), fun b hb => ho.apart b (by simp [hb])⟩
    have ho2 : OwnF V σ w G F2 := ⟨ho.nodup.sublist (List.sublist_append_right _ _), fun b hb => ho.own b (by simp [hb]), fun b hb => ho.apart b (by simp [hb])⟩
    have hdis : ∀ b ∈ F2, b ∉ F1 := fun b h1 h2 => (List.nodup_append.1 ho.nodup).2.2 b h2 b h1 rfl
    obtain ⟨G1, o1, hx1, hown1⟩ := openCs_ok (d := d) (k := k) h hfl ho1 (fun j h1 h2 => hn j h1 (by have := openRs_le (d := d) (rs := rs) (k := (openCs d k σ r.2).2.1) (σ := (openCs d k σ r.2).2.2); simp only [openRs]; omega))
    obtain ⟨G2, o2, hlen, hx2⟩ := openRs_ok (d := d) (k := (openCs d k σ r.2).2.1) o1.sim (RVsR_sees (by rw [o1.ep]; exact idSees o1.ext) hr2 (fun _ _ => rfl)) (hown1 F2 ho2 hdis) (fun j hj hj2 => by
      rw [o1.nx, o1.μ _ (fun j' h1 h2 e => by have := nm_inj (congrArg Prod.fst e); omega)]
      exact hn j (by have := o1.le; omega) (by simpa only [openRs] using hj2))
    refine ⟨G2, ⟨o2.sim, ⟨fun i l h => o2.ext.μ i l (o1.ext.μ i l h), fun b hb => o2.ext.S b (o1.ext.S b hb)⟩, o2.t.trans o1.t, o2.ep.trans o1.ep, o2.nx.trans o1.nx, by have := o2.le; have := o1.le; simp only [openRs]; omega, o2.S.trans o1.S, fun i hi => ?_⟩, by simp [openRs, hlen], fun i x u' hx hu => ?_⟩
    · have h1 := o2.le
      have h2 := o1.le
      simp only [openRs] at hi
      rw [o2.μ i (fun j h3 h4 => by rw [o1.nx]; exact hi j (by omega) h4), o1.μ i (fun j h3 h4 => hi j h3 (by omega))]
    · cases i with
      | succ i =>
        have := hx2 i x u' (by simpa [openRs] using hx) (by simpa using hu)
        rw [o1.ep] at this; exact this
      | zero =>
        simp only [openRs, List.getElem?_cons_zero, Option.some.injEq] at hx hu
        subst hx hu
        have hx3 := RXs_sees (idSees o2.ext) hx1
        rcases hv with ⟨hb, rfl⟩ | ⟨hb, u, rfl, rfl⟩
        · rw [hb]; exact .a hx3
        · rw [hb]; exact .c (RXs_headD hx3)

theorem combS_RS {ep : Nat} {xs : List SV} {us : List Value} (hl : xs.length = us.length) (h : ∀ (i : Nat) (x : SV) (u : Value), xs[i]? = some x → us[i]? = some u → RS G ep w x u) : RS G ep w (combS xs) (comb us) := by
  cases xs with
  | nil =>
    have : us = [] := List.eq_nil_of_length_eq_zero (by simpa using hl.symm)
    subst this
    exact .t rfl (by simp)
  | cons x xs =>
    cases us with
    | nil => simp at hl
    | cons u us =>
      cases xs with
      | nil =>
        have : us = [] := List.eq_nil_of_length_eq_zero (by simpa using hl.symm)
        subst this
        exact h 0 x u rfl rfl
      | cons y ys =>
        cases us with
        | nil => simp at hl
        | cons z zs => exact .t (by simpa using hl) h

end
end Go.Fw

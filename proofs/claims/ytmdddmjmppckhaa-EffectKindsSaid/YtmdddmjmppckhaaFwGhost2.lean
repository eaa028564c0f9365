/- Ghost operations stand. -/
import Derived.Test.YtmdddmjmppckhaaFwGhost
namespace Go.Fw

section
variable {P : Program} {V : Env} {σ σ' : St} {a : Act} {w w' : World} {G G' : Gh} {ep ep' : Nat}

/-- What a ghost step comes to. -/
def GStep' (V : Env) (σ σ' : St) (a : Act) (w : World) (G : Gh) (d : Nat) : Prop :=
  ∃ G', Sim V σ' a w G' ∧ ∀ i : Id, (∀ k, k < 16 → i ≠ (nm d k, σ.nx)) → G'.μ i = G.μ i

theorem GStep'.same (h : Sim V σ' a w G) (d : Nat) : GStep' V σ σ' a w G d := ⟨G, h, fun _ _ => rfl⟩

/-- Where an object that has elements lies. -/
theorem Sim.blk (h : Sim V σ a w G) {id : Id} {row : Row} {i : Nat} {e : List Cell} (hrow : σ.h id = some row) (he : row.es[i]? = some e) : ∃ l, G.μ id = some l ∧ l.blk = true := by
  obtain ⟨l, hl, _, ho⟩ := h.objs id row hrow
  refine ⟨l, hl, ?_⟩
  cases hb : l.blk with
  | true => rfl
  | false =>
    rw [if_neg (by simp [hb])] at ho
    rw [ho.2.1] at he
    simp at he

theorem ghost_opn (h : Sim V σ a w G) {d : Nat} {x : Opd} (hnew : ∀ k, k < 16 → G.μ (nm d k, σ.nx) = none) (hv : gval V.N σ (.opn d x) = some σ') : GStep' V σ σ' a w G d := by
  simp only [gval] at hv
  split at hv
  · rename_i id i j hsv
    split at hv
    · rename_i row hrow
      split at hv
      · rename_i e he
        obtain ⟨l, hl, hblk⟩ := h.blk hrow he
        split at hv
        · rename_i sz es hj
          split at hv
          · rename_i hN
            injection hv with hv; subst hv
            have hne : (nm d 0, σ.nx) ≠ id := fun e => by rw [← e, hnew 0 (by omega)] at hl; cases hl
            have hne' : id ≠ (nm d 0, σ.nx) := Ne.symm hne
            obtain ⟨u, Fc, hcell, hc, hFcnd, hFcin, hswap⟩ := h.swapCell hrow hl hblk he hj
            have hd : RD w G.S (.ow sz es) u Fc := by
              rcases hc with h1 | ⟨h1, rfl⟩
              · exact h1
              · exact h1
            -- the cell is told as nothing; what it owned becomes an object; the cell tells the object
            obtain ⟨F1, hs1, hout, _⟩ := hswap .bad [] List.nodup_nil (by simp) (by simp) (by simp) (fun _ _ _ _ => .inr ⟨trivial, rfl⟩)
            have hrow1 : ({ σ.setH id (some ⟨row.sz, row.es.set i (e.set j .bad)⟩) with ep := σ.ep + 1 } : St).h id = some ⟨row.sz, row.es.set i (e.set j .bad)⟩ := by simp [St.setH]
            have hoF : OwnF V { σ.setH id (some ⟨row.sz, row.es.set i (e.set j .bad)⟩) with ep := σ.ep + 1 } w (G.fp id F1) Fc := by
              refine ⟨hFcnd, fun b hb => h.own id row hrow b (hFcin b hb), fun b hb i2 r2 hr2 => ?_⟩
              by_cases hi2 : i2 = id
              · subst hi2; simp only [Gh.fp, if_true]; exact hout b hb (by simp)
              · simp only [Gh.fp, hi2, if_false]
                have : σ.h i2 = some r2 := by simpa [St.setH, hi2] using hr2
                exact h.apart id i2 row r2 hrow this (Ne.symm hi2) b (hFcin b hb)
            obtain ⟨l', hobj, hsl⟩ := ow_obj (G := G.fp id F1) (ep := σ.ep + 1) rfl hd
            obtain ⟨G2, e2, hμ2, hμ2', hS2, hF2, hF2', hs2⟩ := hs1.give (id := (nm d 0, σ.nx)) (Nat.le_refl _) (hnew 0 (by omega)) hoF (row := ⟨sz, es⟩) hobj
            have hl2 : G2.μ id = some l := e2.μ _ _ hl
            have hrow2 : (({ σ.setH id (some ⟨row.sz, row.es.set i (e.set j .bad)⟩) with ep := σ.ep + 1 } : St).setH (nm d 0, σ.nx) (some ⟨sz, es⟩)).h id = some ⟨row.sz, row.es.set i (e.set j .bad)⟩ := by simp [St.setH, hne']
            have hilt := (List.getElem?_eq_some_iff.1 he).1
            have hjlt := (List.getElem?_eq_some_iff.1 hj).1
            obtain ⟨u2, Fc2, hcell2, hc2, _, _, hswap2⟩ := hs2.swapCell (i := i) (j := j) (e := e.set j .bad) (c := .bad) hrow2 hl2 hblk (by simp [hilt]) (by simp [hjlt])
            have hu2 : u2 = u := by rw [hcell] at hcell2; injection hcell2 with e; exact e.symm
            subst hu2
            obtain ⟨F3, hs3, _, _⟩ := hswap2 (.sl (nm d 0, σ.nx) 0 es.length) [] List.nodup_nil (by simp) (by simp) (by simp) (fun G' _ hμ _ => .inr ⟨by
              have := hsl G' (nm d 0, σ.nx) (by rw [hμ]; exact hμ2')
              obtain ⟨l3, h3, h4⟩ := this
              exact ⟨l3, h3, h4⟩, rfl⟩)
            have hfin : Sim V (({ σ.setH id (some ⟨row.sz, row.es.set i (e.set j (.sl (nm d 0, σ.nx) 0 es.length))⟩) with ep := σ.ep + 2 } : St).newO d ⟨sz, es⟩) a w (G2.fp id F3) := by
              refine Sim.less hs3 ⟨rfl, rfl, rfl, fun i2 r2 hr2 => ?_⟩
              simp only [St.newO, St.setH] at hr2 ⊢
              by_cases h1 : i2 = (nm d 0, σ.nx)
              · subst h1; simp only [if_true, hne, if_false] at hr2 ⊢; simpa using hr2
              · by_cases h2 : i2 = id
                · subst h2; simp only [h1, if_true, if_false, List.set_set] at hr2 ⊢; simpa using hr2
                · simp only [h1, h2, if_false] at hr2 ⊢; exact hr2
            refine ⟨_, hfin.setGhost hN _, fun i2 hi2 => ?_⟩
            show G2.μ i2 = _
            rw [hμ2 i2 (hi2 0 (by omega))]; rfl
          · cases hv
        · cases hv
      · cases hv
    · cases hv
  · cases hv

theorem ghost_cls (h : Sim V σ a w G) {x : Opd} (d : Nat) (hv : gval V.N σ (.cls x) = some σ') : GStep' V σ σ' a w G d := by
  simp only [gval] at hv
  split at hv
  · rename_i id i j hsv
    split at hv
    · rename_i row hrow
      split at hv
      · rename_i e he
        obtain ⟨l, hl, hblk⟩ := h.blk hrow he
        split at hv
        · rename_i id2 len hj
          split at hv
          · rename_i r2 hr2
            split at hv
            · rename_i hc
              obtain ⟨hne, hlen, hdata⟩ := hc
              injection hv with hv; subst hv
              obtain ⟨u, Fc, hcell, hc, _, _, _⟩ := h.swapCell hrow hl hblk he hj
              have hx : RX G σ.ep w (.sl id2 0 len) u ∧ Fc = [] := by
                rcases hc with h1 | h1
                · simp only [RD] at h1
                · exact h1
              have hcl : close1 0 σ (.sl id2 0 len) = some (.ow r2.sz r2.es, σ.kill id2) := by simp [close1, hr2, hdata, hlen]
              obtain ⟨hless, F, hF, hoF, _⟩ := close1_ok h hx.1 hcl
              have h1 := h.less hless
              have hrow1 : (σ.kill id2).h id = some row := by simp [St.kill, St.setH, Ne.symm hne, hrow]
              obtain ⟨u2, Fc2, hcell2, _, _, _, hswap⟩ := h1.swapCell hrow1 hl hblk he hj
              have hu2 : u2 = u := by rw [hcell] at hcell2; injection hcell2 with e; exact e.symm
              subst hu2
              have hFd : RD w G.S (.ow r2.sz r2.es) u2 F := by
                rcases hF with h1 | ⟨h1, rfl⟩
                · exact h1
                · exact h1
              obtain ⟨F3, hs3, _, _⟩ := hswap (.ow r2.sz r2.es) F hoF.nodup hoF.own (fun b hb i r hr hne => hoF.apart b hb i r hr) (fun b hb => .inr (hoF.apart b hb id row hrow1))
                (fun G' _ _ hS => .inl (by rw [hS]; exact hFd))
              exact ⟨_, hs3, fun _ _ => rfl⟩
            · cases hv
          · cases hv
        · cases hv
      · cases hv
    · cases hv
  · cases hv

theorem ghost_zsl (h : Sim V σ a w G) {d sz : Nat} (hnew : ∀ k, k < 16 → G.μ (nm d k, σ.nx) = none) (hv : gval V.N σ (.zsl d sz) = some σ') : GStep' V σ σ' a w G d := by
  simp only [gval] at hv
  split at hv
  · rename_i hsv
    injection hv with hv; subst hv
    obtain ⟨G', e, hμ, hμ', hs⟩ := h.newNone (id := (nm d 1, σ.nx)) (Nat.le_refl _) (hnew 1 (by omega)) sz
    refine ⟨G', hs.setSame fun hd => ?_, fun i hi => hμ i (hi 1 (by omega))⟩
    have := h.slots d hd
    rw [hsv] at this
    have h1 : RD w G.S .z _ [] := RS_c this
    simp only [RD] at h1
    exact .c ⟨_, hμ', .inr ⟨rfl, rfl, h1.1⟩⟩
  · cases hv

theorem ghost_ren (h : Sim V σ a w G) {d : Nat} (hnew : ∀ k, k < 16 → G.μ (nm d k, σ.nx) = none) (hv : gval V.N σ (.ren d) = some σ') : GStep' V σ σ' a w G d := by
  simp only [gval] at hv
  split at hv
  · rename_i id off len hsv
    split at hv
    · rename_i row hrow
      split at hv
      · rename_i hle
        injection hv with hv; subst hv
        obtain ⟨l, hl, _⟩ := h.objs id row hrow
        obtain ⟨G', e, hμ, hμ', hs⟩ := h.rename (id' := (nm d 1, σ.nx)) hrow hl (Nat.le_refl _) (hnew 1 (by omega)) hle
        rw [cutRow_eq]
        refine ⟨G', hs.setSame fun hd => ?_, fun i hi => hμ i (hi 1 (by omega))⟩
        have := h.slots d hd
        rw [hsv] at this
        obtain ⟨l2, hl2, hv⟩ := RS_c this
        rw [hl] at hl2; injection hl2 with hl2; subst hl2
        refine .c ⟨_, hμ', ?_⟩
        rcases hv with ⟨h1, h2, h3, h4⟩ | ⟨h1, h2, h3⟩
        · left
          exact ⟨h1, by simp only []; omega, by simp only []; omega, by simpa using h4⟩
        · right
          exact ⟨by simp only []; omega, h2, h3⟩
      · cases hv
    · cases hv
  · cases hv

/-- What an object owns is let go: nothing in it changes any more. -/
theorem Sim.freeze (h : Sim V σ a w G) {id : Id} {row : Row} (hrow : σ.h id = some row) :
    Sim V (σ.kill id) a w { G with S := fun b => G.S b ∨ b ∈ G.Fp id } := by
  have e : Ext G { G with S := fun b => G.S b ∨ b ∈ G.Fp id } := ⟨fun _ _ h => h, fun _ h => .inl h⟩
  have s := idSees (w := w) (ep := σ.ep) e
  have l := Less.kill σ id
  have hne : ∀ i r, (σ.kill id).h i = some r → i ≠ id := fun i r hr e => by subst e; simp [St.kill, St.setH] at hr
  exact { h with
    slots := fun x hx => RS_sees s (h.slots x hx)
    objs := fun i r hr => let ⟨lo, hl, ho⟩ := h.objs i r (l.h i r hr); ⟨lo, hl, ObjR_sees s ho fun _ _ => rfl⟩
    nodup := fun i r hr => h.nodup i r (l.h i r hr)
    own := fun i r hr b hb => by
      obtain ⟨h1, h2, h3⟩ := h.own i r (l.h i r hr) b hb
      refine ⟨h1, ?_, h3⟩
      rintro (h4 | h4)
      · exact h2 h4
      · exact h.apart i id r row (l.h i r hr) hrow (hne i r hr) b hb h4
    apart := fun i i' r r' hr hr' => h.apart i i' r r' (l.h i r hr) (l.h i' r' hr')
    stable := fun b hb => by
      rcases hb with hb | hb
      · exact h.stable b hb
      · exact (h.own id row hrow b hb).1
    sOld := fun b hb => .inl (h.sOld b hb)
    sNew := fun b hb => by
      rcases hb with hb | hb
      · exact h.sNew b hb
      · exact .inr (h.own id row hrow b hb).2.2 }

theorem RRow_cut0 {S : Nat → Prop} {b sz : Nat} (off len : Nat) {es : List (List Cell)} {k : Nat} (h : RRow w S b sz k es []) (hle : off + len ≤ es.length) : RRow w S b sz (k + off * sz) ((es.drop off).take len) [] :=
  RRow_take len (RRow_drop off h (by omega))

theorem ghost_frz (h : Sim V σ a w G) {d : Nat} (hv : gval V.N σ (.frz d) = some σ') : GStep' V σ σ' a w G d := by
  simp only [gval] at hv
  split at hv
  · rename_i id off len hsv
    split at hv
    · rename_i row hrow
      split at hv
      · rename_i hc
        obtain ⟨hle, hdata⟩ := hc
        injection hv with hv; subst hv
        refine ⟨_, (h.freeze hrow).setSame fun hd => ?_, fun _ _ => rfl⟩
        have := h.slots d hd
        rw [hsv] at this
        obtain ⟨l2, hl2, hv⟩ := RS_c this
        obtain ⟨l, hl, ho1, ho⟩ := h.objs id row hrow
        rw [hl] at hl2; injection hl2 with hl2; subst hl2
        rw [cutRow_eq]
        refine .c ?_
        show RD w _ (.ro _) _ []
        simp only [RD]
        have hlen : (frzRows ((row.es.drop off).take len)).length = len := by rw [frzRows_eq]; simp; omega
        rcases hv with ⟨h1, h2, h3, h4⟩ | ⟨h1, h2, ad, h3⟩
        · rw [if_pos h1] at ho
          obtain ⟨cur, E, F', hh, _, hl3, hm, hF, hr⟩ := ho
          refine ⟨trivial, _, _, by rw [hlen]; exact h4, by rw [hlen]; omega, fun _ => ⟨l.b, _, l.sz, rfl, .inr (by rw [hF]; simp), ?_⟩⟩
          have h5 := RFRow_data hdata hr
          have h6 := RRow_frz (S' := fun b => G.S b ∨ b ∈ G.Fp id) (fun b hb => .inl hb) l.b l.sz row.es l.o F' h5 (fun x hx => .inr (by rw [hF]; simp [hx]))
          have h7 := RRow_cut0 off len h6 (by rw [frzRows_eq]; simpa using hle)
          rw [frzRows_eq, ← List.map_drop, ← List.map_take, ← frzRows_eq] at h7
          exact h7
        · subst h2
          refine ⟨trivial, ad, 0, by rw [hlen]; exact h3, by rw [hlen]; omega, fun hne => absurd (List.eq_nil_of_length_eq_zero hlen) hne⟩
      · cases hv
    · cases hv
  · rename_i id i j hsv
    split at hv
    · rename_i row hrow
      split at hv
      · rename_i e he
        split at hv
        · rename_i hdata
          injection hv with hv; subst hv
          refine ⟨_, (h.freeze hrow).setSame fun hd => ?_, fun _ _ => rfl⟩
          have := h.slots d hd
          rw [hsv] at this
          obtain ⟨l2, hl2, hb2, hv⟩ := RX_ad (RS_c this)
          obtain ⟨l, hl, ho1, ho⟩ := h.objs id row hrow
          rw [hl] at hl2; injection hl2 with hl2; subst hl2
          rw [if_pos hb2] at ho
          obtain ⟨cur, E, F', hh, _, hl3, hm, hF, hr⟩ := ho
          have h5 := RFRow_data hdata hr
          have h6 := RRow_frz (S' := fun b => G.S b ∨ b ∈ G.Fp id) (fun b hb => .inl hb) l.b l.sz row.es l.o F' h5 (fun x hx => .inr (by rw [hF]; simp [hx]))
          obtain ⟨_, h7⟩ := RRow_get h6 rfl i (frzs e) (by rw [frzRows_eq]; simp [he, frzs_eq])
          refine .c ?_
          show RD w _ (.ar _ j) _ []
          simp only [RD]
          exact ⟨trivial, l.b, _, hv, .inr (by rw [hF]; simp), h7⟩
        · cases hv
      · cases hv
    · cases hv
  · cases hv

theorem ghost_frn (h : Sim V σ a w G) {d : Nat} {x : Opd} (hnew : ∀ k, k < 16 → G.μ (nm d k, σ.nx) = none) (hv : gval V.N σ (.frn d x) = some σ') : GStep' V σ σ' a w G d := by
  simp only [gval] at hv
  split at hv
  · rename_i id i j hsv
    split at hv
    · rename_i row hrow
      split at hv
      · rename_i e he
        obtain ⟨l, hl, hblk⟩ := h.blk hrow he
        split at hv
        · rename_i sz es hj
          injection hv with hv; subst hv
          have hne : (nm d 0, σ.nx) ≠ id := fun e => by rw [← e, hnew 0 (by omega)] at hl; cases hl
          have hne' : id ≠ (nm d 0, σ.nx) := Ne.symm hne
          have hnone : σ.h (nm d 0, σ.nx) = none := by
            cases hh : σ.h (nm d 0, σ.nx) with
            | none => rfl
            | some r =>
              obtain ⟨l2, hl2, _⟩ := h.objs _ _ hh
              rw [hnew 0 (by omega)] at hl2; cases hl2
          obtain ⟨u, Fc, hcell, hc, hFcnd, hFcin, hswap⟩ := h.swapCell hrow hl hblk he hj
          have hd : RD w G.S (.ow sz es) u Fc := by
            rcases hc with h1 | ⟨h1, rfl⟩
            · exact h1
            · exact h1
          obtain ⟨F1, hs1, hout, _⟩ := hswap .bad [] List.nodup_nil (by simp) (by simp) (by simp) (fun _ _ _ _ => .inr ⟨trivial, rfl⟩)
          have hoF : OwnF V { σ.setH id (some ⟨row.sz, row.es.set i (e.set j .bad)⟩) with ep := σ.ep + 1 } w (G.fp id F1) Fc := by
            refine ⟨hFcnd, fun b hb => h.own id row hrow b (hFcin b hb), fun b hb i2 r2 hr2 => ?_⟩
            by_cases hi2 : i2 = id
            · subst hi2; simp only [Gh.fp, if_true]; exact hout b hb (by simp)
            · simp only [Gh.fp, hi2, if_false]
              have : σ.h i2 = some r2 := by simpa [St.setH, hi2] using hr2
              exact h.apart id i2 row r2 hrow this (Ne.symm hi2) b (hFcin b hb)
          obtain ⟨l', hobj, hsl⟩ := ow_obj (G := G.fp id F1) (ep := σ.ep + 1) rfl hd
          obtain ⟨G2, e2, hμ2, hμ2', hS2, hF2, hF2', hs2⟩ := hs1.give (id := (nm d 0, σ.nx)) (Nat.le_refl _) (hnew 0 (by omega)) hoF (row := ⟨sz, es⟩) hobj
          have hl2 : G2.μ id = some l := e2.μ _ _ hl
          have hnewrow : (({ σ.setH id (some ⟨row.sz, row.es.set i (e.set j .bad)⟩) with ep := σ.ep + 1 } : St).setH (nm d 0, σ.nx) (some ⟨sz, es⟩)).h (nm d 0, σ.nx) = some ⟨sz, es⟩ := by simp [St.setH]
          have hs3 := hs2.freeze hnewrow
          have hrow3 : ((({ σ.setH id (some ⟨row.sz, row.es.set i (e.set j .bad)⟩) with ep := σ.ep + 1 } : St).setH (nm d 0, σ.nx) (some ⟨sz, es⟩)).kill (nm d 0, σ.nx)).h id = some ⟨row.sz, row.es.set i (e.set j .bad)⟩ := by simp [St.setH, St.kill, hne']
          have hilt := (List.getElem?_eq_some_iff.1 he).1
          have hjlt := (List.getElem?_eq_some_iff.1 hj).1
          obtain ⟨u2, Fc2, hcell2, hc2, _, _, hswap2⟩ := hs3.swapCell (i := i) (j := j) (e := e.set j .bad) (c := .bad) (l := l) hrow3 hl2 hblk (by simp [hilt]) (by simp [hjlt])
          have hu2 : u2 = u := by rw [hcell] at hcell2; injection hcell2 with e; exact e.symm
          subst hu2
          obtain ⟨F3, hs4, _, _⟩ := hswap2 (.ro (frzRows es)) [] List.nodup_nil (by simp) (by simp) (by simp) (fun G' _ _ hS => .inl (by
            have h5 := RD_frz (S' := G'.S) (fun b hb => by rw [hS]; exact .inl (e2.S b hb)) (.ow sz es) u2 Fc hd (fun b hb => by rw [hS]; exact .inr (by rw [hF2']; exact hb))
            exact h5))
          refine ⟨_, Sim.less hs4 ⟨rfl, rfl, rfl, fun i2 r2 hr2 => ?_⟩, fun i2 hi2 => ?_⟩
          · simp only [St.setH, St.kill] at hr2 ⊢
            by_cases h1 : i2 = (nm d 0, σ.nx)
            · subst h1; simp only [hne, if_false, hnone] at hr2; cases hr2
            · by_cases h2 : i2 = id
              · subst h2; simp only [h1, if_true, if_false, List.set_set] at hr2 ⊢; simpa using hr2
              · simp only [h1, h2, if_false] at hr2 ⊢; exact hr2
          · show G2.μ i2 = _
            rw [hμ2 i2 (hi2 0 (by omega))]; rfl
        · cases hv
      · cases hv
    · cases hv
  · cases hv

def GO.d : GO → Nat
  | .opn d _ | .ren d | .frz d | .mv d _ | .fld d _ _ | .idx d _ _ | .drop d | .zsl d _ | .frn d _ => d
  | .cls _ => 0

theorem ghost_step (h : Sim V σ a w G) {g : GO} (hnew : ∀ k, k < 16 → G.μ (nm g.d k, σ.nx) = none) (hv : gval V.N σ g = some σ') : GStep' V σ σ' a w G g.d := by
  cases g with
  | opn d x => exact ghost_opn h hnew hv
  | cls x => exact ghost_cls h _ hv
  | ren d => exact ghost_ren h hnew hv
  | zsl d sz => exact ghost_zsl h hnew hv
  | frn d x => exact ghost_frn h hnew hv
  | frz d => exact ghost_frz h hv
  | mv d x =>
    simp only [gval] at hv
    split at hv
    · rename_i hN; injection hv with hv; subst hv; exact .same (h.setGhost hN _) d
    · cases hv
  | fld d off x =>
    simp only [gval] at hv
    split at hv
    · rename_i hN
      split at hv
      · injection hv with hv; subst hv; exact .same (h.setGhost hN _) d
      · cases hv
    · cases hv
  | idx d x i =>
    simp only [gval] at hv
    split at hv
    · rename_i hN
      split at hv
      · split at hv
        · injection hv with hv; subst hv; exact .same (h.setGhost hN _) d
        · cases hv
      · cases hv
    · cases hv
  | drop d =>
    simp only [gval, Option.some.injEq] at hv; subst hv
    exact .same (h.setSame fun hd => .c (x := .bad) trivial) d

/-- Ghost steps use each name once. -/
theorem gval_nx {N : Nat} {g : GO} (hv : gval N σ g = some σ') : σ'.nx = σ.nx := by
  cases g <;> simp only [gval] at hv <;> repeat' split at hv
  all_goals first
    | (cases hv; done)
    | (injection hv with hv; subst hv; rfl)

def gvals (N : Nat) (σ : St) : List GO → Option St
  | [] => some σ
  | g :: gs => match gval N σ g with
    | some σ1 => gvals N σ1 gs
    | none => none

end
end Go.Fw

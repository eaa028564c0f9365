/- Steps of the state alone: the world stays. -/
import Derived.Test.YtmdddmjmppckhaaFwApp2
namespace Go.Fw

section
variable {P : Program} {V : Env} {σ σ' : St} {a : Act} {w w' : World} {G G' : Gh} {ep ep' : Nat}

theorem idSees (e : Ext G G') : Sees G G' ep ep w w := ⟨e, fun _ _ => rfl, Nat.le_refl _, fun _ => ⟨Nat.le_refl _, fun _ _ => rfl⟩⟩

/-- Blocks that are owned become an object's. -/
theorem Sim.give (h : Sim V σ a w G) {id : Id} (hid : id.2 ≤ σ.nx) (hnew : G.μ id = none) {F : List Nat} (ho : OwnF V σ w G F) {row : Row} {l : Loc} (hobj : ∀ G', Ext G G' → ObjR G' σ.ep w l row F) :
    ∃ G', Ext G G' ∧ (∀ i, i ≠ id → G'.μ i = G.μ i) ∧ G'.μ id = some l ∧ G'.S = G.S ∧ (∀ i, i ≠ id → G'.Fp i = G.Fp i) ∧ G'.Fp id = F ∧ Sim V (σ.setH id (some row)) a w G' := by
  have e := Gh.add_ext hnew l F
  have s : Sees G (G.add id l F) σ.ep σ.ep w w := idSees e
  have old : ∀ i r, (σ.setH id (some row)).h i = some r → i ≠ id → σ.h i = some r := fun i r hr hne => by
    simp only [St.setH] at hr
    rw [if_neg hne] at hr; exact hr
  refine ⟨_, e, fun i hi => by simp [Gh.add, hi], by simp [Gh.add], rfl, fun i hi => by simp [Gh.add, hi], by simp [Gh.add], { h with
    slots := fun x hx => RS_sees s (h.slots x hx)
    objs := fun i r hr => ?_
    nodup := fun i r hr => ?_
    own := fun i r hr b hb => ?_
    apart := fun i i' r r' hr hr' hii b hb hb' => ?_
    fresh := fun i hi => ?_ }⟩
  · by_cases ei : i = id
    · subst ei
      have : r = row := by simp only [St.setH] at hr; simpa using hr.symm
      subst this
      refine ⟨l, by simp [Gh.add], ?_⟩
      have : (G.add i l F).Fp i = F := by simp [Gh.add]
      rw [this]; exact hobj _ e
    · obtain ⟨l2, hl2, ho2⟩ := h.objs i r (old i r hr ei)
      refine ⟨l2, e.μ _ _ hl2, ?_⟩
      have : (G.add id l F).Fp i = G.Fp i := by simp [Gh.add, ei]
      rw [this]
      exact ObjR_sees s ho2 fun _ _ => rfl
  · by_cases ei : i = id
    · subst ei; simp only [Gh.add, if_true]; exact ho.nodup
    · simp only [Gh.add, ei, if_false]; exact h.nodup i r (old i r hr ei)
  · by_cases ei : i = id
    · subst ei; simp only [Gh.add, if_true] at hb; exact ho.own b hb
    · simp only [Gh.add, ei, if_false] at hb; exact h.own i r (old i r hr ei) b hb
  · by_cases ei : i = id
    · subst ei
      simp only [Gh.add, if_true] at hb
      simp only [Gh.add, Ne.symm hii, if_false] at hb'
      exact ho.apart b hb i' r' (old i' r' hr' (Ne.symm hii)) hb'
    · by_cases ei' : i' = id
      · subst ei'
        simp only [Gh.add, if_true] at hb'
        simp only [Gh.add, ei, if_false] at hb
        exact ho.apart b hb' i r (old i r hr ei) hb
      · simp only [Gh.add, ei, ei', if_false] at hb hb'
        exact h.apart i i' r r' (old i r hr ei) (old i' r' hr' ei') hii b hb hb'
  · simp only [Gh.add]
    have hi' : σ.nx < i.2 := hi
    rw [if_neg (fun e => by subst e; omega)]
    exact h.fresh i hi'

/-- An owned slice as an object: where it lies. -/
theorem ow_obj {S : Nat → Prop} {sz : Nat} {es : List (List Cell)} {v : Value} {F : List Nat} (hs : S = G.S) (h : RD w S (.ow sz es) v F) :
    ∃ l : Loc, (∀ G', Ext G G' → ObjR G' ep w l ⟨sz, es⟩ F) ∧ ∀ G' id, G'.μ id = some l → RX G' ep w (.sl id 0 es.length) v := by
  subst hs
  simp only [RD] at h
  rcases h with ⟨rfl, rfl, ad, hv⟩ | ⟨b, o, cap, cur, E, F', hv, hh, hcap, hle, hm, rfl, hrow⟩
  · refine ⟨⟨0, 0, 0, sz, false⟩, fun G' _ => ⟨rfl, by simp⟩, fun G' id hid => ⟨_, hid, .inr ⟨rfl, rfl, ad, hv⟩⟩⟩
  · refine ⟨⟨b, o, cap, sz, true⟩, fun G' e => ⟨rfl, ?_⟩, fun G' id hid => ⟨_, hid, ?_⟩⟩
    · simp only [if_true]
      exact ⟨cur, E, F', hh, hcap, hle, hm, rfl, RFRow_sees (idSees (ep := ep) e) b sz _ _ _ (fun _ _ _ => rfl) (RRow_RFRow hrow) (fun _ _ => rfl)⟩
    · rcases Nat.eq_zero_or_pos cap with h0 | h0
      · right
        have : es.length = 0 := by omega
        exact ⟨h0.symm, this, some ⟨b, o, none⟩, by rw [hv, this, h0]⟩
      · left
        exact ⟨rfl, h0, by simpa using hle, by simpa using hv⟩

/-- An object's row in the same block, told otherwise. -/
theorem Sim.retell (h : Sim V σ a w G) {id : Id} {row row' : Row} {l : Loc} (hrow : σ.h id = some row) (hμ : G.μ id = some l) (hblk : l.blk = true) {F : List Nat} (hsz : row'.sz = row.sz) (hlen : row'.es.length = row.es.length)
    (hnd : (l.b :: F).Nodup) (hown : ∀ b ∈ F, b < w.heap.size ∧ ¬ G.S b ∧ (V.E0 b ∨ V.w0.heap.size ≤ b)) (hap : ∀ b ∈ F, ∀ i r, σ.h i = some r → i ≠ id → b ∉ G.Fp i)
    (hr : RFRow (G.fp id (l.b :: F)) (σ.ep + 1) w l.b l.sz l.o row'.es F) :
    Sim V { σ.setH id (some row') with ep := σ.ep + 1 } a w (G.fp id (l.b :: F)) := by
  obtain ⟨l', hl', ho1, ho⟩ := h.objs id row hrow
  obtain rfl : l' = l := by rw [hμ] at hl'; injection hl' with e; exact e.symm
  rw [if_pos hblk] at ho
  obtain ⟨cur, E, F0, hheap, hcap, hlen2, hm, _, _⟩ := ho
  have hself : w.setRow l'.b cur = w := setRow_self w l'.b cur E (0, 0) hheap
  have := h.write (cur' := cur) hrow hμ hblk hheap rfl hcap hm hsz (by omega) hnd hown hap (by rw [hself]; exact hr)
  rw [hself] at this
  exact this

/-! ### Ghost operations -/
inductive GO where
  | opn (d : Nat) (x : Opd)      -- the owned slice at an address becomes an object
  | cls (x : Opd)                -- and is closed again
  | ren (d : Nat)                -- the slice in a slot gets the slot's own name
  | frz (d : Nat)                -- the slice, or the pointer, in a slot is frozen
  | mv (d : Nat) (x : Opd)       -- a slot that Go doesn't have
  | fld (d off : Nat) (x : Opd)
  | idx (d : Nat) (x i : Opd)
  | drop (d : Nat)
  | zsl (d sz : Nat)             -- the empty slice in a slot becomes an object
  | frn (d : Nat) (x : Opd)      -- the owned slice at an address is frozen where it is

def gval (N : Nat) (σ : St) : GO → Option St
  | .opn d x => match σ.get x with
    | .c (.ad id i j) => match σ.h id with
      | some row => match row.es[i]? with
        | some e => match e[j]? with
          | some (.ow sz es) => if N ≤ d then
              some ((({ σ.setH id (some ⟨row.sz, row.es.set i (e.set j (.sl (nm d 0, σ.nx) 0 es.length))⟩) with ep := σ.ep + 2 } : St).newO d ⟨sz, es⟩).set d (.c (.sl (nm d 0, σ.nx) 0 es.length)))
            else none
          | _ => none
        | none => none
      | none => none
    | _ => none
  | .cls x => match σ.get x with
    | .c (.ad id i j) => match σ.h id with
      | some row => match row.es[i]? with
        | some e => match e[j]? with
          | some (.sl id2 0 len) => match σ.h id2 with
            | some r2 => if id2 ≠ id ∧ len = r2.es.length ∧ dataRow r2.es = true then
                some { (σ.kill id2).setH id (some ⟨row.sz, row.es.set i (e.set j (.ow r2.sz r2.es))⟩) with ep := σ.ep + 1 }
              else none
            | none => none
          | _ => none
        | none => none
      | none => none
    | _ => none
  | .ren d => match σ.t d with
    | .c (.sl id off len) => match σ.h id with
      | some row => if off + len ≤ row.es.length then some (((σ.kill id).setH (nm d 1, σ.nx) (some ⟨row.sz, cutRow row.es off len⟩)).set d (.c (.sl (nm d 1, σ.nx) 0 len))) else none
      | none => none
    | _ => none
  | .frz d => match σ.t d with
    | .c (.sl id off len) => match σ.h id with
      | some row => if off + len ≤ row.es.length ∧ dataRow row.es = true then some ((σ.kill id).set d (.c (.ro (frzRows (cutRow row.es off len))))) else none
      | none => none
    | .c (.ad id i j) => match σ.h id with
      | some row => match row.es[i]? with
        | some e => if dataRow row.es = true then some ((σ.kill id).set d (.c (.ar (frzs e) j))) else none
        | none => none
      | none => none
    | _ => none
  | .mv d x => if N ≤ d then some (σ.set d (σ.get x)) else none
  | .fld d off x => if N ≤ d then (match σ.get x with
      | .c (.ad id i j) => some (σ.set d (.c (.ad id i (j + off))))
      | _ => none) else none
  | .idx d x i => if N ≤ d then (match σ.get x, asI (σ.get i) with
      | .c (.sl id off _), some n => if 0 ≤ n then some (σ.set d (.c (.ad id (off + n.toNat) 0))) else none
      | _, _ => none) else none
  | .drop d => some (σ.set d (.c .bad))
  | .frn _ x => match σ.get x with
    | .c (.ad id i j) => match σ.h id with
      | some row => match row.es[i]? with
        | some e => match e[j]? with
          | some (.ow _ es) => some { σ.setH id (some ⟨row.sz, row.es.set i (e.set j (.ro (frzRows es)))⟩) with ep := σ.ep + 2 }
          | _ => none
        | none => none
      | none => none
    | _ => none
  | .zsl d sz => match σ.t d with
    | .c .z => some ((σ.setH (nm d 1, σ.nx) (some ⟨sz, []⟩)).set d (.c (.sl (nm d 1, σ.nx) 0 0)))
    | _ => none

theorem Sim.setGhost (h : Sim V σ a w G) {d : Nat} (hd : V.N ≤ d) (x : SV) : Sim V (σ.set d x) a w G :=
  { h with
    slots := fun s hs => by
      simp only [St.set]
      rw [if_neg (by omega)]
      exact h.slots s hs }

theorem Sim.setSame (h : Sim V σ a w G) {d : Nat} {x : SV} (hx : d < V.N → RS G σ.ep w x (a.tmps.getD d undef)) : Sim V (σ.set d x) a w G :=
  { h with
    slots := fun s hs => by
      simp only [St.set]
      split
      · rename_i e; subst e; exact hx hs
      · exact h.slots s hs }

theorem RFs_focus {b : Nat} : ∀ {e : List Cell} {j : Nat} {c : Cell} {k : Nat} {F : List Nat}, RFs G ep w b k e F → e[j]? = some c →
    ∃ F1 Fc F2 u, F = F1 ++ Fc ++ F2 ∧ w.cell? ⟨b, k + j, none⟩ = some u ∧ RF G ep w c u Fc ∧
      ∀ (G' : Gh) (ep' : Nat) (c' : Cell) (Fc' : List Nat), Sees G G' ep ep' w w → RF G' ep' w c' u Fc' → RFs G' ep' w b k (e.set j c') (F1 ++ Fc' ++ F2)
  | [], j, c, k, F, h, hj => by simp at hj
  | c0 :: e, 0, c, k, F, h, hj => by
    simp at hj; subst hj
    obtain ⟨u, F1, F2, rfl, hu, h1, h2⟩ := h
    refine ⟨[], F1, F2, u, rfl, by simpa using hu, h1, fun G' ep' c' Fc' s hc => ?_⟩
    exact ⟨u, Fc', F2, rfl, hu, hc, RFs_sees s b e (k + 1) F2 (fun _ _ _ => rfl) h2 (fun _ _ => rfl)⟩
  | c0 :: e, j + 1, c, k, F, h, hj => by
    obtain ⟨u0, F1, F2, rfl, hu, h1, h2⟩ := h
    obtain ⟨Fa, Fc, Fb, u, rfl, h3, h4, h5⟩ := RFs_focus h2 (by simpa using hj)
    refine ⟨F1 ++ Fa, Fc, Fb, u, by simp, by rw [← h3]; congr 2; omega, h4, fun G' ep' c' Fc' s hc => ?_⟩
    exact ⟨u0, F1, Fa ++ Fc' ++ Fb, by simp, hu, RF_sees s h1 (fun _ _ => rfl), h5 G' ep' c' Fc' s hc⟩

/-- One cell of an object told otherwise: what it owned is owned by nobody for now. -/
theorem Sim.swapCell (h : Sim V σ a w G) {id : Id} {row : Row} {l : Loc} {i j : Nat} {e : List Cell} {c : Cell} (hrow : σ.h id = some row) (hμ : G.μ id = some l) (hblk : l.blk = true) (he : row.es[i]? = some e) (hj : e[j]? = some c) :
    ∃ u Fc, w.cell? ⟨l.b, l.o + i * l.sz + j, none⟩ = some u ∧ RF G σ.ep w c u Fc ∧ Fc.Nodup ∧ (∀ b ∈ Fc, b ∈ G.Fp id) ∧ ∀ (c' : Cell) (F' : List Nat), F'.Nodup → (∀ b ∈ F', b < w.heap.size ∧ ¬ G.S b ∧ (V.E0 b ∨ V.w0.heap.size ≤ b)) → (∀ b ∈ F', ∀ i r, σ.h i = some r → i ≠ id → b ∉ G.Fp i) →
      (∀ b ∈ F', b ∈ Fc ∨ b ∉ G.Fp id) → (∀ G', Ext G G' → G'.μ = G.μ → G'.S = G.S → RF G' (σ.ep + 1) w c' u F') →
      ∃ F, Sim V { σ.setH id (some ⟨row.sz, row.es.set i (e.set j c')⟩) with ep := σ.ep + 1 } a w (G.fp id F) ∧ (∀ b ∈ Fc, b ∉ F' → b ∉ F) ∧ (∀ b ∈ F, b ∈ F' ∨ b ∈ G.Fp id) := by
  obtain ⟨l', hl', ho1, ho⟩ := h.objs id row hrow
  obtain rfl : l' = l := by rw [hμ] at hl'; injection hl' with e; exact e.symm
  rw [if_pos hblk] at ho
  obtain ⟨cur, E, F0, hheap, hcap, hlen2, hm, hFp, hr⟩ := ho
  obtain ⟨Fa, Fe, Fb, hF0, hfe, hel, hset⟩ := RFRow_focus hr he
  obtain ⟨F1, Fc, F2, u, hFe, hu, hc, hcset⟩ := RFs_focus hfe hj
  have hnd := h.nodup id row hrow
  rw [hFp, hF0, hFe] at hnd
  have hFcsub : Fc.Sublist (l'.b :: (Fa ++ (F1 ++ Fc ++ F2) ++ Fb)) := by
    refine List.Sublist.trans ?_ (List.sublist_cons_self _ _)
    refine List.Sublist.trans ?_ (List.sublist_append_left _ _)
    refine List.Sublist.trans ?_ (List.sublist_append_right _ _)
    refine List.Sublist.trans ?_ (List.sublist_append_left _ _)
    exact List.sublist_append_right _ _
  refine ⟨u, Fc, hu, hc, hnd.sublist hFcsub, fun b hb => by rw [hFp, hF0, hFe]; exact hFcsub.subset hb, fun c' F' hF'nd hF'own hF'ap hF'in hc' => ?_⟩
  have hn2 := (List.nodup_cons.1 hnd).2
  have hbn := (List.nodup_cons.1 hnd).1
  simp only [List.nodup_append, List.mem_append] at hn2
  obtain ⟨⟨q1, ⟨⟨q2, q3, q4⟩, q5, q6⟩, q7⟩, q8, q9⟩ := hn2
  have hmemFp : ∀ b, b ∈ G.Fp id ↔ b = l'.b ∨ b ∈ Fa ∨ b ∈ F1 ∨ b ∈ Fc ∨ b ∈ F2 ∨ b ∈ Fb := fun b => by
    rw [hFp, hF0, hFe]; simp only [List.mem_cons, List.mem_append]
    constructor
    · rintro (h | (h | (h | h) | h) | h) <;> simp [h]
    · rintro (h | h | h | h | h | h) <;> simp [h]
  have hbF' : l'.b ∉ F' := fun hb => by
    rcases hF'in _ hb with h1 | h1
    · exact hbn (by simp [h1])
    · exact h1 ((hmemFp _).2 (.inl rfl))
  have notF' : ∀ b, b ∈ Fa ∨ b ∈ F1 ∨ b ∈ F2 ∨ b ∈ Fb → b ∉ F' := fun b hb hbF => by
    rcases hF'in b hbF with h1 | h1
    · rcases hb with hb | hb | hb | hb
      · exact q7 b hb b (.inl (.inr h1)) rfl
      · exact q4 b hb b h1 rfl
      · exact q6 b (.inr h1) b hb rfl
      · exact q9 b (.inr (.inl (.inr h1))) b hb rfl
    · refine h1 ((hmemFp b).2 ?_)
      rcases hb with hb | hb | hb | hb <;> simp [hb]
  have s0 : Sees G (G.fp id (l'.b :: (Fa ++ (F1 ++ F' ++ F2) ++ Fb))) σ.ep (σ.ep + 1) w w := ⟨Gh.fp_ext G id _, fun _ _ => rfl, Nat.le_succ _, fun h => by omega⟩
  have hnew : RFRow (G.fp id (l'.b :: (Fa ++ (F1 ++ F' ++ F2) ++ Fb))) (σ.ep + 1) w l'.b l'.sz l'.o (row.es.set i (e.set j c')) (Fa ++ (F1 ++ F' ++ F2) ++ Fb) :=
    hset _ _ _ _ _ s0 (fun _ _ => rfl) (fun _ _ => rfl) (by simp [hel]) (hcset _ _ _ _ s0 (hc' _ (Gh.fp_ext G id _) rfl rfl))
  refine ⟨l'.b :: (Fa ++ (F1 ++ F' ++ F2) ++ Fb), h.retell hrow hμ hblk (row' := ⟨row.sz, row.es.set i (e.set j c')⟩) rfl (by simp) ?_ ?_ ?_ hnew, ?_, ?_⟩
  · refine List.nodup_cons.2 ⟨fun hb => ?_, ?_⟩
    · simp only [List.mem_append] at hb hbn
      rcases hb with (hb | (hb | hb) | hb) | hb
      · exact hbn (.inl (.inl hb))
      · exact hbn (.inl (.inr (.inl (.inl hb))))
      · exact hbF' hb
      · exact hbn (.inl (.inr (.inr hb)))
      · exact hbn (.inr hb)
    · simp only [List.nodup_append, List.mem_append]
      refine ⟨⟨q1, ⟨⟨q2, hF'nd, fun x hx y hy e => ?_⟩, q5, fun x hx y hy e => ?_⟩, fun x hx y hy e => ?_⟩, q8, fun x hx y hy e => ?_⟩
      · subst e; exact notF' x (.inr (.inl hx)) hy
      · subst e
        rcases hx with hx | hx
        · exact q6 x (.inl hx) x hy rfl
        · exact notF' x (.inr (.inr (.inl hy))) hx
      · subst e
        rcases hy with (hy | hy) | hy
        · exact q7 x hx x (.inl (.inl hy)) rfl
        · exact notF' x (.inl hx) hy
        · exact q7 x hx x (.inr hy) rfl
      · subst e
        rcases hx with hx | (hx | hx) | hx
        · exact q9 x (.inl hx) x hy rfl
        · exact q9 x (.inr (.inl (.inl hx))) x hy rfl
        · exact notF' x (.inr (.inr (.inr hy))) hx
        · exact q9 x (.inr (.inr hx)) x hy rfl
  · intro b hb
    by_cases hbF : b ∈ F'
    · exact hF'own b hbF
    · refine h.own id row hrow b ((hmemFp b).2 ?_)
      simp only [List.mem_append] at hb
      rcases hb with (hb | (hb | hb) | hb) | hb <;> simp_all
  · intro b hb i2 r2 hr2 hne
    by_cases hbF : b ∈ F'
    · exact hF'ap b hbF i2 r2 hr2 hne
    · refine h.apart id i2 row r2 hrow hr2 (Ne.symm hne) b ((hmemFp b).2 ?_)
      simp only [List.mem_append] at hb
      rcases hb with (hb | (hb | hb) | hb) | hb <;> simp_all
  · intro b hb hnb hbF
    simp only [List.mem_cons, List.mem_append] at hbF
    rcases hbF with rfl | (hbF | (hbF | hbF) | hbF) | hbF
    · exact hbn (by simp [hb])
    · exact q7 b hbF b (.inl (.inr hb)) rfl
    · exact q4 b hbF b hb rfl
    · exact hnb hbF
    · exact q6 b (.inr hb) b hbF rfl
    · exact q9 b (.inr (.inl (.inr hb))) b hbF rfl
  · intro b hb
    by_cases hbF : b ∈ F'
    · exact .inl hbF
    · right
      refine (hmemFp b).2 ?_
      simp only [List.mem_cons, List.mem_append] at hb
      rcases hb with rfl | (hb | (hb | hb) | hb) | hb <;> simp_all

end
end Go.Fw

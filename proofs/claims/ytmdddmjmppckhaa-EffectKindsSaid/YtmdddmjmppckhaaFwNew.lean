/- New objects. -/
import Derived.Test.YtmdddmjmppckhaaFwOwn
import Derived.Laws.MakeOwn
namespace Go.Fw

def Gh.add (G : Gh) (id : Id) (l : Loc) (F : List Nat) : Gh :=
  { μ := fun i => if i = id then some l else G.μ i, Fp := fun i => if i = id then F else G.Fp i, S := G.S }

section
variable {P : Program} {V : Env} {σ σ' : St} {a : Act} {w w' : World} {G G' : Gh} {ep : Nat}

theorem Gh.add_ext {id : Id} (h : G.μ id = none) (l : Loc) (F : List Nat) : Ext G (G.add id l F) :=
  ⟨fun i l' hl => by
    simp only [Gh.add]
    split
    · rename_i e; subst e; rw [h] at hl; cases hl
    · exact hl, fun _ hb => hb⟩

/-- A new block, and an object that lies in it. -/
theorem Sim.newObj (h : Sim V σ a w G) {id : Id} (hid : id.2 ≤ σ.nx) (hnew : G.μ id = none) {F : List Nat} (ho : OwnF V σ w G F) {cs : Array Value} {E : TypeId} {row : Row} {cap : Nat}
    (hcap : cap * row.sz = cs.size) (hle : row.es.length ≤ cap) (hm : cap ≤ maxLen)
    (hrow : RFRow (G.add id ⟨w.heap.size, 0, cap, row.sz, true⟩ (w.heap.size :: F)) σ.ep (w.alloc (.cells cs E)) w.heap.size row.sz 0 row.es F) :
    Sim V (σ.setH id (some row)) a (w.alloc (.cells cs E)) (G.add id ⟨w.heap.size, 0, cap, row.sz, true⟩ (w.heap.size :: F)) := by
  have m : More w (w.alloc (.cells cs E)) := More.alloc w _
  have s : Sees G (G.add id ⟨w.heap.size, 0, cap, row.sz, true⟩ (w.heap.size :: F)) σ.ep σ.ep w (w.alloc (.cells cs E)) := m.sees (Gh.add_ext hnew _ _) h.stable
  have notid : ∀ i r, σ.h i = some r → i ≠ id := fun i r hr e => by
    subst e
    obtain ⟨l, hl, _⟩ := h.objs i r hr
    rw [hnew] at hl; cases hl
  have fpo : ∀ i r, σ.h i = some r → (G.add id ⟨w.heap.size, 0, cap, row.sz, true⟩ (w.heap.size :: F)).Fp i = G.Fp i := fun i r hr => by simp [Gh.add, notid i r hr]
  have fpn : (G.add id ⟨w.heap.size, 0, cap, row.sz, true⟩ (w.heap.size :: F)).Fp id = w.heap.size :: F := by simp [Gh.add]
  have old : ∀ i r, (σ.setH id (some row)).h i = some r → i ≠ id → σ.h i = some r := fun i r hr hne => by
    simp only [St.setH] at hr
    rw [if_neg hne] at hr; exact hr
  have new : ∀ r, (σ.setH id (some row)).h id = some r → r = row := fun r hr => by
    simp only [St.setH] at hr
    simpa using hr.symm
  have lt : ∀ b ∈ w.heap.size :: F, ∀ i r, σ.h i = some r → b ∉ G.Fp i := fun b hb i r hr hbi => by
    rcases List.mem_cons.1 hb with rfl | hb
    · have := (h.own i r hr _ hbi).1; omega
    · exact ho.apart b hb i r hr hbi
  refine { h with
    slots := fun x hx => RS_sees s (h.slots x hx)
    objs := fun i r hr => ?_
    nodup := fun i r hr => ?_
    own := fun i r hr b hb => ?_
    apart := fun i i' r r' hr hr' hne b hb hb' => ?_
    fresh := fun i hi => ?_
    stable := fun b hb => Nat.lt_of_lt_of_le (h.stable b hb) m.size
    sOld := h.sOld
    sNew := h.sNew
    kept := fun b hb he => (m.heap b (Nat.lt_of_lt_of_le hb h.grow)).trans (h.kept b hb he)
    grow := Nat.le_trans h.grow m.size
    os := m.os.trans h.os
    tape := m.tape.trans h.tape
    output := m.output.trans h.output }
  · by_cases e : i = id
    · subst e
      obtain rfl := new r hr
      refine ⟨⟨w.heap.size, 0, cap, r.sz, true⟩, by simp [Gh.add], rfl, ?_⟩
      rw [if_pos rfl, fpn]
      exact ⟨cs, E, F, heap_alloc_new w _, by simpa using hcap, hle, hm, rfl, hrow⟩
    · have hr' := old i r hr e
      obtain ⟨l, hl, ho'⟩ := h.objs i r hr'
      refine ⟨l, (Gh.add_ext hnew _ _).μ _ _ hl, ?_⟩
      rw [fpo i r hr']
      exact ObjR_sees s ho' fun b hb => m.heap b (h.own i r hr' b hb).1
  · by_cases e : i = id
    · subst e
      rw [fpn]
      exact List.nodup_cons.2 ⟨fun hb => by have := (ho.own _ hb).1; omega, ho.nodup⟩
    · rw [fpo i r (old i r hr e)]; exact h.nodup i r (old i r hr e)
  · by_cases e : i = id
    · subst e
      rw [fpn] at hb
      rcases List.mem_cons.1 hb with rfl | hb
      · exact ⟨by simp, fun hs => by have := h.stable _ hs; omega, .inr h.grow⟩
      · obtain ⟨h1, h2, h3⟩ := ho.own b hb
        exact ⟨Nat.lt_of_lt_of_le h1 m.size, h2, h3⟩
    · rw [fpo i r (old i r hr e)] at hb
      obtain ⟨h1, h2, h3⟩ := h.own i r (old i r hr e) b hb
      exact ⟨Nat.lt_of_lt_of_le h1 m.size, h2, h3⟩
  · by_cases e : i = id
    · subst e
      rw [fpn] at hb
      rw [fpo i' r' (old i' r' hr' (Ne.symm hne))] at hb'
      exact lt b hb i' r' (old i' r' hr' (Ne.symm hne)) hb'
    · by_cases e' : i' = id
      · subst e'
        rw [fpn] at hb'
        rw [fpo i r (old i r hr e)] at hb
        exact lt b hb' i r (old i r hr e) hb
      · rw [fpo i r (old i r hr e)] at hb
        rw [fpo i' r' (old i' r' hr' e')] at hb'
        exact h.apart i i' r r' (old i r hr e) (old i' r' hr' e') hne b hb hb'
  · simp only [Gh.add]
    have hi' : σ.nx < i.2 := hi
    rw [if_neg (fun e => by subst e; omega)]
    exact h.fresh i hi'

theorem RFL_split : ∀ {c1 c2 : List Cell} {vs : List Value} {F : List Nat}, RFL G ep w (c1 ++ c2) vs F → ∃ v1 v2 F1 F2, vs = v1 ++ v2 ∧ F = F1 ++ F2 ∧ RFL G ep w c1 v1 F1 ∧ RFL G ep w c2 v2 F2
  | [], c2, vs, F, h => ⟨[], vs, [], F, rfl, rfl, rfl, h⟩
  | c :: c1, c2, [], F, h => h.elim
  | c :: c1, c2, v :: vs, F, h => by
    obtain ⟨F1, F2, rfl, h1, h2⟩ := h
    obtain ⟨v1, v2, F3, F4, rfl, rfl, h3, h4⟩ := RFL_split h2
    exact ⟨v :: v1, v2, F1 ++ F3, F4, rfl, by simp, ⟨F1, F3, rfl, h1, h3⟩, h4⟩

theorem RFL_RFRow {b sz : Nat} : ∀ {es : List (List Cell)} {vs : List Value} {F : List Nat} {k : Nat}, RFL G ep w es.flatten vs F → (∀ e ∈ es, e.length = sz) → (∀ (i : Nat) (v : Value), vs[i]? = some v → w.cell? ⟨b, k + i, none⟩ = some v) → RFRow G ep w b sz k es F
  | [], [], F, _, h, _, _ => h
  | [], _ :: _, _, _, h, _, _ => h.elim
  | e :: es, vs, F, k, h, hl, hc => by
    rw [List.flatten_cons] at h
    obtain ⟨v1, v2, F1, F2, rfl, rfl, h1, h2⟩ := RFL_split h
    have hle : e.length = sz := hl e (by simp)
    have hv1 : v1.length = sz := by rw [RFL_length h1, hle]
    refine ⟨hle, F1, F2, rfl, RFL_RFs h1 fun i v hv => hc i v ?_, RFL_RFRow h2 (fun x hx => hl x (by simp [hx])) fun i v hv => ?_⟩
    · rw [List.getElem?_append_left (List.getElem?_eq_some_iff.1 hv).1]; exact hv
    · have := hc (sz + i) v (by rw [List.getElem?_append_right (by omega)]; simpa [hv1] using hv)
      rw [← this]; congr 2; omega

/-- The cells of a new block. -/
theorem cell_alloc (w : World) (cs : Array Value) (E : TypeId) (i : Nat) (v : Value) (h : cs.toList[i]? = some v) : (w.alloc (.cells cs E)).cell? ⟨w.heap.size, i, none⟩ = some v := by
  have := heap_alloc_new w (.cells cs E)
  simp only [World.cell?, this]
  simpa using h

/-- A new object out of cells whose values are at hand. -/
theorem Sim.new (h : Sim V σ a w G) {id : Id} (hid : id.2 ≤ σ.nx) (hnew : G.μ id = none) {F : List Nat} (ho : OwnF V σ w G F) {vs : List Value} {E : TypeId} {es : List (List Cell)} {sz : Nat}
    (hl : ∀ e ∈ es, e.length = sz) (hm : es.length ≤ maxLen) (hr : RFL G σ.ep w es.flatten vs F) :
    ∃ G', Ext G G' ∧ (∀ i, i ≠ id → G'.μ i = G.μ i) ∧ G'.μ id = some ⟨w.heap.size, 0, es.length, sz, true⟩ ∧ Sim V (σ.setH id (some ⟨sz, es⟩)) a (w.alloc (.cells vs.toArray E)) G' := by
  have hlen : es.length * sz = vs.length := by
    rw [RFL_length hr, List.length_flatten]
    have : ∀ es : List (List Cell), (∀ e ∈ es, e.length = sz) → (es.map List.length).sum = es.length * sz := by
      intro es
      induction es with
      | nil => simp
      | cons e es ih => intro h; simp [h e (by simp), ih (fun x hx => h x (by simp [hx])), Nat.add_mul]; omega
    exact (this es hl).symm
  have e := Gh.add_ext hnew ⟨w.heap.size, 0, es.length, sz, true⟩ (w.heap.size :: F)
  refine ⟨_, e, fun i hi => by simp [Gh.add, hi], by simp [Gh.add], h.newObj (row := ⟨sz, es⟩) hid hnew ho (by simpa using hlen) (Nat.le_refl _) hm ?_⟩
  have m : More w (w.alloc (.cells vs.toArray E)) := More.alloc w _
  refine RFL_RFRow (RFL_sees (m.sees e h.stable) hr fun b hb => m.heap b (ho.own b hb).1) hl fun i v hv => ?_
  rw [Nat.zero_add]
  exact cell_alloc w _ E i v (by simpa using hv)

end
end Go.Fw

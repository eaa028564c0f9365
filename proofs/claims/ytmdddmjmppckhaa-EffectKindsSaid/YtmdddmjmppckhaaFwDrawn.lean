/- A region whose order is drawn. -/
import Derived.Test.YtmdddmjmppckhaaFwSwap3
namespace Go.Fw

def depB (md : Region.Mode) (ops : Array Oper) : Nat → Nat → Nat → Bool
  | 0, _, _ => false
  | n + 1, i, j => match ops[i]? with
    | some o => o.after.any fun e => Region.binds md e && (decide (e.on = j) || depB md ops n e.on j)
    | none => false

def pairB (md : Region.Mode) (ops : Array Oper) : List (Nat × RStep) → Bool
  | [] => true
  | (j, rj) :: s => s.all (fun p => depB md ops ops.size p.1 j || indep rj p.2) && pairB md ops s

def topoB (md : Region.Mode) (ops : Array Oper) : List Nat → List (Nat × RStep) → Bool
  | _, [] => true
  | seen, (i, _) :: s => (match ops[i]? with | some o => o.after.all fun e => !Region.binds md e || seen.contains e.on | none => false) && topoB md ops (i :: seen) s

def eachB (P : Program) (N : Nat) (ops : Array Oper) (s : List (Nat × RStep)) : Bool :=
  s.all fun p => match ops[p.1]? with | some o => p.2.ok P N ops o | none => false

def coverB (n : Nat) (s : List (Nat × RStep)) : Bool := (List.range n).all fun i => s.any fun p => decide (p.1 = i)
def distB : List (Nat × RStep) → Bool
  | [] => true
  | (i, _) :: s => s.all (fun p => decide (p.1 ≠ i)) && distB s

def drawnOK (P : Program) (N : Nat) (ops : Array Oper) (s : List (Nat × RStep)) : Bool :=
  pairB .any ops s && topoB .any ops [] s && eachB P N ops s && coverB ops.size s && distB s && onceB (s.map (·.2)) && decide (s.length ≤ ops.size)

section
variable {P : Program} {V : Env} {σ σ' : St} {a : Act} {w w' : World} {G G' : Gh} {O : Orc} {o : Oper} {ops : Array Oper} {md : Region.Mode}

def FreeN (σ : St) (r : RStep) : Prop := ∀ d k, r.dst = some d → k < 16 → σ.h (nm d k, σ.nx) = none

theorem rstep_adds {r : RStep} (h : rstep O σ r = some σ') (hadd : r.ins.adds = true) {r' : RStep} (hne : ∀ d, r.dst = some d → r'.dst ≠ some d) (hf : FreeN σ r') : FreeN σ' r' := by
  have fin : ∀ {ρ x a b c}, RLoc O σ σ' r ρ x a b c → FreeN σ' r' := fun {ρ x a b c} l d k hd hk => by
    rw [l.is, put_h, put_nx]
    show (match ρ (nm d k, σ.nx) with | some r => some r | none => σ.h (nm d k, σ.nx)) = none
    cases hρ : ρ (nm d k, σ.nx) with
    | none => exact hf d k hd hk
    | some r1 =>
      obtain ⟨dd, j, h1, h2, h3⟩ := l.names _ (by rw [hρ]; simp)
      exact absurd (congrArg Prod.fst h3) (nm_ne (fun e => hne dd h1 (by rw [hd, e])) h2 hk)
  rcases rstep_cases h with ⟨g, hs⟩ | ⟨g, rfl⟩
  · obtain ⟨ρ, x, l⟩ := rloc_wanted g hs hadd
    exact fin l
  · exact fin (rloc_un (O := O) g)

theorem indep_adds {r1 r2 : RStep} (h : indep r1 r2 = true) : r1.ins.adds = true ∧ ∀ d, r1.dst = some d → r2.dst ≠ some d := by
  simp only [indep, Bool.and_eq_true] at h
  obtain ⟨⟨hs1, _⟩, hk⟩ := h
  refine ⟨?_, fun d hd => ?_⟩
  · simp only [Bool.or_eq_true, Bool.and_eq_true] at hk
    rcases hk with (hk | hk) | hk
    · exact hk.1.1
    · exact quiet_adds hk.1.1
    · obtain ⟨op, _, _, _, _, _, e, _⟩ := far_some hk; rw [e]; rfl
  · rw [hd] at hs1; simp only [Bool.and_eq_true, decide_eq_true_eq] at hs1; exact hs1.2

theorem to_front : ∀ {pre post : List RStep} {r : RStep} {σ : St}, (∀ r' ∈ pre, indep r' r = true) → rrun O σ (pre ++ r :: post) = some σ' → FreeN σ r → ∃ σ2, rstep O σ r = some σ2 ∧ rrun O σ2 (pre ++ post) = some σ'
  | [], post, r, σ, _, h, _ => by
    simp only [List.nil_append, rrun] at h
    split at h
    · rename_i σ2 h2; exact ⟨σ2, h2, h⟩
    · cases h
  | r1 :: pre, post, r, σ, hi, h, hf => by
    simp only [List.cons_append, rrun] at h
    split at h
    · rename_i σ1 h1
      have hi1 := hi r1 (by simp)
      obtain ⟨hadd, hne⟩ := indep_adds hi1
      obtain ⟨σ1', h2, h3⟩ := to_front (fun r' hr' => hi r' (by simp [hr'])) h (rstep_adds h1 hadd hne hf)
      obtain ⟨σ2, h4, h5⟩ := swap_ok hi1 h1 h2 hf
      exact ⟨σ2, h4, by simp only [List.cons_append, rrun, h5]; exact h3⟩
    · cases h

def Topo (md : Region.Mode) (ops : Array Oper) : (Nat → Prop) → List (Nat × RStep) → Prop
  | _, [] => True
  | seen, (i, _) :: s => (∀ o, ops[i]? = some o → ∀ e ∈ o.after, Region.binds md e = true → seen e.on) ∧ Topo md ops (fun x => seen x ∨ x = i) s

theorem Topo.mono : ∀ {s : List (Nat × RStep)} {p q : Nat → Prop}, (∀ x, p x → q x) → Topo md ops p s → Topo md ops q s
  | [], _, _, _, _ => trivial
  | (i, _) :: s, p, q, h, ht => ⟨fun o ho e he hb => h _ (ht.1 o ho e he hb), ht.2.mono fun x hx => hx.imp (h x) id⟩

theorem Topo.drop : ∀ {pre post : List (Nat × RStep)} {i : Nat} {r : RStep} {p : Nat → Prop}, Topo md ops p (pre ++ (i, r) :: post) → Topo md ops (fun x => p x ∨ x = i) (pre ++ post)
  | [], _, _, _, _, h => h.2
  | (j, _) :: pre, post, i, r, p, h => ⟨fun o ho e he hb => .inl (h.1 o ho e he hb), (Topo.drop h.2).mono fun x hx => by
      rcases hx with (hx | hx) | hx
      · exact .inl (.inl hx)
      · exact .inr hx
      · exact .inl (.inr hx)⟩

theorem topo_of : ∀ {s : List (Nat × RStep)} {seen : List Nat}, topoB md ops seen s = true → Topo md ops (fun x => x ∈ seen) s
  | [], _, _ => trivial
  | (i, r) :: s, seen, h => by
    simp only [topoB, Bool.and_eq_true] at h
    refine ⟨fun o ho e he hb => ?_, (topo_of h.2).mono fun x hx => by simpa [or_comm] using hx⟩
    have h1 := h.1
    rw [ho] at h1
    have := Array.all_eq_true_iff_forall_mem.1 h1 e he
    simpa [hb] using this

/-- What is listed has all that it waits for listed. -/
def Down (md : Region.Mode) (ops : Array Oper) (listed : Array Bool) : Prop :=
  ∀ i o, ops[i]? = some o → listed.getD i false = true → ∀ e ∈ o.after, Region.binds md e = true → listed.getD e.on false = true

theorem dep_listed {listed : Array Bool} (hd : Down md ops listed) : ∀ (n i j : Nat), depB md ops n i j = true → (∀ o, ops[i]? = some o → ∀ e ∈ o.after, Region.binds md e = true → listed.getD e.on false = true) → listed.getD j false = true
  | 0, _, _, h, _ => by simp [depB] at h
  | n + 1, i, j, h, hi => by
    simp only [depB] at h
    split at h
    · rename_i o ho
      obtain ⟨e, he, h1⟩ := Array.any_eq_true'.1 h
      simp only [Bool.and_eq_true, Bool.or_eq_true, decide_eq_true_eq] at h1
      obtain ⟨hb, h1⟩ := h1
      have hl := hi o ho e he hb
      rcases h1 with rfl | h1
      · exact hl
      · exact dep_listed hd n e.on j h1 fun o' ho' => hd e.on o' ho' hl
    · cases h

theorem pair_mem : ∀ {pre post : List (Nat × RStep)} {p : Nat × RStep}, pairB md ops (pre ++ p :: post) = true → ∀ q ∈ pre, depB md ops ops.size p.1 q.1 = true ∨ indep q.2 p.2 = true
  | [], _, _, _, q, hq => by simp at hq
  | (j, rj) :: pre, post, p, h, q, hq => by
    simp only [List.cons_append, pairB, Bool.and_eq_true, List.all_eq_true, Bool.or_eq_true] at h
    rcases List.mem_cons.1 hq with rfl | hq
    · exact h.1 p (by simp)
    · exact pair_mem h.2 q hq

theorem pair_drop : ∀ {pre post : List (Nat × RStep)} {p : Nat × RStep}, pairB md ops (pre ++ p :: post) = true → pairB md ops (pre ++ post) = true
  | [], _, _, h => by
    simp only [List.nil_append, pairB, Bool.and_eq_true] at h
    exact h.2
  | (j, rj) :: pre, post, p, h => by
    simp only [List.cons_append, pairB, Bool.and_eq_true, List.all_eq_true, List.mem_append, List.mem_cons] at h ⊢
    exact ⟨fun q hq => h.1 q (hq.imp id .inr), pair_drop h.2⟩

theorem once_drop : ∀ {pre post : List RStep} {r : RStep}, onceB (pre ++ r :: post) = true → onceB (pre ++ post) = true ∧ ∀ r' ∈ pre ++ post, ∀ d, r.dst = some d → r'.dst ≠ some d
  | [], _, _, h => onceB_cons h
  | r1 :: pre, post, r, h => by
    obtain ⟨h1, h2⟩ := onceB_cons (rs := pre ++ r :: post) h
    obtain ⟨h3, h4⟩ := once_drop h1
    refine ⟨?_, fun r' hr' d hd => ?_⟩
    · simp only [List.cons_append, onceB, Bool.and_eq_true]
      refine ⟨?_, h3⟩
      cases hd : r1.dst with
      | none => rfl
      | some d =>
        simp only [List.all_eq_true, decide_eq_true_eq, List.mem_append]
        exact fun r' hr' => h2 r' (by simp only [List.mem_append, List.mem_cons]; exact hr'.imp id .inr) d hd
    · rcases List.mem_cons.1 hr' with rfl | hr'
      · intro he
        exact h2 r (by simp) d he hd
      · exact h4 r' hr' d hd

theorem drawn_run {n0 : Nat} {Gb : Gh} {Q : Exit → Act → World → Prop} (hO : Valid P O) (hC : ∀ f args ep nx h r, O f args ep nx h = some r → callable P f = true) (hq : ∀ a' w', At V n0 Gb σ' a' w' → Q .normal a' w') :
    ∀ (fuel : Nat) (s : List (Nat × RStep)) (listed : Array Bool) (σ : St) (a : Act) (w : World), s.length ≤ fuel → pairB md ops s = true → Topo md ops (fun x => listed.getD x false = true) s → eachB P V.N ops s = true → onceB (s.map (·.2)) = true → distB s = true →
      listed.size = ops.size → Down md ops listed → (∀ i, i < ops.size → (listed.getD i true = false ↔ ∃ r, (i, r) ∈ s)) → AtR V n0 Gb (s.map (·.2)) σ a w → rrun O σ (s.map (·.2)) = some σ' → wpAny P md ops Q fuel listed a w := by
  have empty : ∀ {listed : Array Bool}, (∀ i, i < ops.size → (listed.getD i true = false ↔ ∃ r, (i, r) ∈ ([] : List (Nat × RStep)))) → Region.ready md ops listed = [] := fun {listed} h => by
    refine List.eq_nil_iff_forall_not_mem.2 fun j hj => ?_
    obtain ⟨h1, o, ho, _⟩ := mem_ready.1 hj
    obtain ⟨r, hr⟩ := (h j (Array.getElem?_eq_some_iff.1 ho).1).1 h1
    simp at hr
  have first : ∀ {i : Nat} {r : RStep} {s : List (Nat × RStep)} {listed : Array Bool}, Topo md ops (fun x => listed.getD x false = true) ((i, r) :: s) → eachB P V.N ops ((i, r) :: s) = true → (∀ i', i' < ops.size → (listed.getD i' true = false ↔ ∃ r', (i', r') ∈ (i, r) :: s)) → i ∈ Region.ready md ops listed := fun {i r s listed} ht he hl => by
    simp only [eachB, List.all_cons, Bool.and_eq_true] at he
    have h1 := he.1
    cases ho : ops[i]? with
    | none => rw [ho] at h1; cases h1
    | some o =>
      exact mem_ready.2 ⟨(hl i (Array.getElem?_eq_some_iff.1 ho).1).2 ⟨r, by simp⟩, o, ho, ht.1 o ho⟩
  intro fuel
  induction fuel with
  | zero =>
    intro s listed σ a w hlen _ _ _ _ _ _ _ hl hat hr
    have : s = [] := List.eq_nil_of_length_eq_zero (by omega)
    subst this
    simp only [List.map_nil, rrun, Option.some.injEq] at hr
    subst hr
    exact ⟨empty hl, hq a w hat.at_⟩
  | succ fuel ih =>
    intro s listed σ a w hlen hp ht he ho hdist hsz hdn hl hat hr
    refine ⟨fun hre => ?_, fun i hi => ?_⟩
    · cases s with
      | nil =>
        simp only [List.map_nil, rrun, Option.some.injEq] at hr
        subst hr
        exact hq a w hat.at_
      | cons p s =>
        obtain ⟨i, r⟩ := p
        have := first ht he hl
        rw [hre] at this
        cases this
    · obtain ⟨h1, oi, hoi, hall⟩ := mem_ready.1 hi
      have hilt := (Array.getElem?_eq_some_iff.1 hoi).1
      obtain ⟨r, hmem⟩ := (hl i hilt).1 h1
      obtain ⟨pre, post, rfl⟩ := List.append_of_mem hmem
      have hpre : ∀ q ∈ pre, indep q.2 r = true := fun q hq2 => by
        rcases pair_mem hp q hq2 with h3 | h3
        · exfalso
          have h4 := dep_listed hdn ops.size i q.1 h3 fun o' ho' => by
            rw [hoi] at ho'; injection ho' with ho'; subst ho'; exact hall
          have hqe : eachB P V.N ops (pre ++ (i, r) :: post) = true := he
          simp only [eachB, List.all_eq_true] at hqe
          have hq5 := hqe q (by simp [hq2])
          cases hoq : ops[q.1]? with
          | none => rw [hoq] at hq5; cases hq5
          | some oq =>
            have := (hl q.1 (Array.getElem?_eq_some_iff.1 hoq).1).2 ⟨q.2, by simp [hq2]⟩
            have hqlt : q.1 < listed.size := by rw [hsz]; exact (Array.getElem?_eq_some_iff.1 hoq).1
            simp [hqlt] at this h4
            rw [this] at h4; cases h4
        · exact h3
      rw [List.map_append, List.map_cons] at hr hat ho
      obtain ⟨G, hsim, hμ, hnx, hnm⟩ := hat
      have hfree : FreeN σ r := fun d k hd hk => by
        have := hnm r (by simp) d hd k hk
        cases hh : σ.h (nm d k, σ.nx) with
        | none => rfl
        | some row =>
          obtain ⟨l, hl1, _⟩ := hsim.objs _ row hh
          rw [this] at hl1; cases hl1
      obtain ⟨σ2, hs2, hr2⟩ := to_front (fun r' hr' => by
        obtain ⟨q, hq2, rfl⟩ := List.mem_map.1 hr'
        exact hpre q hq2) hr hfree
      obtain ⟨ho1, ho2⟩ := once_drop ho
      have hok : r.ok P V.N ops oi = true := by
        simp only [eachB, List.all_eq_true] at he
        have := he (i, r) (by simp)
        rw [hoi] at this; exact this
      refine rstep_ok (rs := pre.map (·.2) ++ r :: post.map (·.2)) (rs' := pre.map (·.2) ++ post.map (·.2)) hO hC ⟨G, hsim, hμ, hnx, hnm⟩ (by simp) (fun r' hr' => ⟨?_, ho2 r' hr'⟩) hoi hok hs2 fun a' w' hat' => ?_
      · rcases List.mem_append.1 hr' with h | h
        · exact List.mem_append.2 (.inl h)
        · exact List.mem_append.2 (.inr (by simp [h]))
      · have hi_lt : i < listed.size := by rw [hsz]; exact hilt
        have hset : ∀ j, (listed.setIfInBounds i true).getD j false = true ↔ (listed.getD j false = true ∨ j = i) := fun j => by
          by_cases hj : j = i
          · subst hj; simp [hi_lt]
          · rw [getD_set_ne false (Ne.symm hj)]; simp [hj]
        have hdist' : distB (pre ++ post) = true ∧ ∀ q ∈ pre ++ post, q.1 ≠ i := dist_drop hdist
        refine ih (pre ++ post) (listed.setIfInBounds i true) σ2 a' w' ?_ (pair_drop hp) ((Topo.drop ht).mono fun x hx => (hset x).2 hx) ?_ (by rw [List.map_append]; exact ho1) hdist'.1 (by simpa using hsz) ?_ ?_ (by rw [List.map_append]; exact hat') (by rw [List.map_append]; exact hr2)
        · simp only [List.length_append, List.length_cons] at hlen ⊢; omega
        · simp only [eachB, List.all_eq_true] at he ⊢
          intro q hq2
          refine he q ?_
          rcases List.mem_append.1 hq2 with h | h
          · exact List.mem_append.2 (.inl h)
          · exact List.mem_append.2 (.inr (by simp [h]))
        · intro j o' ho' hj e he' hb
          rcases (hset j).1 hj with hj | rfl
          · exact (hset _).2 (.inl (hdn j o' ho' hj e he' hb))
          · rw [hoi] at ho'; injection ho' with ho'; subst ho'
            exact (hset _).2 (.inl (hall e he' hb))
        · intro j hj
          by_cases hji : j = i
          · subst hji
            constructor
            · intro h
              simp [hi_lt] at h
            · rintro ⟨r', hr'⟩
              exact absurd rfl (hdist'.2 _ hr')
          · rw [getD_set_ne true (Ne.symm hji), hl j hj]
            constructor
            · rintro ⟨r', hr'⟩
              refine ⟨r', ?_⟩
              simp only [List.mem_append, List.mem_cons] at hr' ⊢
              rcases hr' with h | h | h
              · exact .inl h
              · exact absurd (congrArg Prod.fst h) hji
              · exact .inr h
            · rintro ⟨r', hr'⟩
              refine ⟨r', ?_⟩
              simp only [List.mem_append, List.mem_cons] at hr' ⊢
              exact hr'.imp id .inr
where
  dist_drop : ∀ {pre post : List (Nat × RStep)} {i : Nat} {r : RStep}, distB (pre ++ (i, r) :: post) = true → distB (pre ++ post) = true ∧ ∀ q ∈ pre ++ post, q.1 ≠ i
    | [], post, i, r, h => by
      simp only [List.nil_append, distB, Bool.and_eq_true, List.all_eq_true, decide_eq_true_eq] at h
      exact ⟨h.2, h.1⟩
    | (j, rj) :: pre, post, i, r, h => by
      simp only [List.cons_append, distB, Bool.and_eq_true, List.all_eq_true, decide_eq_true_eq] at h
      obtain ⟨h1, h2⟩ := dist_drop h.2
      refine ⟨?_, fun q hq => ?_⟩
      · simp only [List.cons_append, distB, Bool.and_eq_true, List.all_eq_true, decide_eq_true_eq]
        refine ⟨fun q hq => h.1 q ?_, h1⟩
        simp only [List.mem_append, List.mem_cons] at hq ⊢
        exact hq.imp id .inr
      · rcases List.mem_cons.1 hq with rfl | hq
        · exact fun e => h.1 (i, r) (by simp) e.symm
        · exact h2 q hq

/-- A region whose order is drawn. -/
theorem drawn_ok {n0 : Nat} {Gb : Gh} {Q : Exit → Act → World → Prop} {id : Nat} (hm : P.follows .mixedOrders = true) (hO : Valid P O) (hC : ∀ f args ep nx h r, O f args ep nx h = some r → callable P f = true)
    {s : List (Nat × RStep)} (hok : drawnOK P V.N ops s = true) (hat : At V n0 Gb σ a w) (hr : rrun O σ.tick (s.map (·.2)) = some σ') (hq : ∀ a' w', At V n0 Gb σ' a' w' → Q .normal a' w') :
    (Code.region id ops true).wp P Q a w := by
  simp only [drawnOK, Bool.and_eq_true] at hok
  obtain ⟨⟨⟨⟨⟨⟨h1, h2⟩, h3⟩, h4⟩, h5⟩, h6⟩, hlen⟩ := hok
  refine wp_region_any hm ?_
  have hat' : At V n0 Gb σ a { w with drawn := w.drawn + 1 } := by
    obtain ⟨G, g1, g2, g3⟩ := hat
    exact ⟨G, g1.more (More.drew w), g2, g3⟩
  refine drawn_run hO hC hq ops.size s (Array.replicate ops.size false) σ.tick a _ (of_decide_eq_true hlen) h1 ((topo_of h2).mono fun x hx => by simp at hx) h3 h6 h5 (by simp) ?_ ?_ (hat'.tick _) hr
  · intro i o ho hl
    exfalso
    have hi := (Array.getElem?_eq_some_iff.1 ho).1
    simp [hi] at hl
  · intro i hi
    simp only [coverB, List.all_eq_true, List.mem_range, List.any_eq_true, decide_eq_true_eq] at h4
    obtain ⟨p, hp, hpe⟩ := h4 i hi
    have : (Array.replicate ops.size false).getD i true = false := by simp [hi]
    simp only [this, true_iff]
    exact ⟨p.2, by rw [← hpe]; exact hp⟩
end
end Go.Fw

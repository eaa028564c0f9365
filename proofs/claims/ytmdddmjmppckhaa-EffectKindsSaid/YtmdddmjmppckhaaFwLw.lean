/- More words for printed proofs. -/
import Derived.Test.YtmdddmjmppckhaaFwLv
namespace Go.Fw

/-! ### Short forms of the machine's text -/
abbrev c (i d : Nat) (x : Ins) : Nat × RStep := (i, ⟨some d, none, x⟩)
abbrev v (i : Nat) (x : Ins) : Nat × RStep := (i, ⟨none, none, x⟩)
abbrev cg (i d g : Nat) (w : Bool) (x : Ins) : Nat × RStep := (i, ⟨some d, some (g, w), x⟩)
abbrev vg (i g : Nat) (w : Bool) (x : Ins) : Nat × RStep := (i, ⟨none, some (g, w), x⟩)

theorem dataRow_map {α : Type} {e : α → List Cell} {xs : List α} (h : ∀ x, ((e x).all fun c => !c.live) = true) : dataRow (xs.map e) = true := by simp [dataRow, h]
theorem frzRows_map {α : Type} {e e' : α → List Cell} {xs : List α} (h : ∀ x, frzs (e x) = e' x) : frzRows (xs.map e) = xs.map e' := by
  rw [frzRows_eq, List.map_map]
  apply List.map_congr_left
  intro x _
  rw [← h x, frzs_eq]; rfl
theorem frz_eO {α : Type} {n : Nat} {e e' : α → List Cell} (h : ∀ x, frzs (e x) = e' x) : ∀ xs, frzs (eO n e xs) = eR e' xs := by
  intro xs
  simp [eO, eR, frzs, frz, frzRows_map h]

section
variable {T : Tab} {X : Orc} {σ σ' : St} {N : Nat} {K K' : St → Prop} {Q Q' : Ex → St → Prop} {L : List (Nat × SV)} {I : List (Id × Row)} {D : List Nat} {ep : Nat}

theorem nodup_pick {α β : Type} {I : List (α × β)} (hI : (I.map (·.1)).Nodup) : ∀ {ks : List Nat} {I' : List (α × β)}, ks.map (fun k => I[k]?) = I'.map some → ks.Nodup → (I'.map (·.1)).Nodup
  | [], [], _, _ => by simp
  | [], _ :: _, h, _ => by simp at h
  | _ :: _, [], h, _ => by simp at h
  | k :: ks, p :: I', h, hk => by
    simp only [List.map_cons, List.cons.injEq] at h
    simp only [List.nodup_cons] at hk
    simp only [List.map_cons, List.nodup_cons]
    refine ⟨fun hm => ?_, nodup_pick hI h.2 hk.2⟩
    obtain ⟨q, hq, he⟩ := List.mem_map.1 hm
    obtain ⟨n, hn⟩ := List.mem_iff_getElem?.1 hq
    have h1 : (ks.map fun k => I[k]?)[n]? = some (some q) := by rw [h.2, List.getElem?_map, hn]; rfl
    rw [List.getElem?_map] at h1
    cases hk2 : ks[n]? with
    | none => rw [hk2] at h1; cases h1
    | some m =>
      rw [hk2] at h1
      simp only [Option.map_some, Option.some.injEq] at h1
      have hm1 : m ∈ ks := List.mem_of_getElem? hk2
      have h2 : (I.map (·.1))[m]? = some q.1 := by rw [List.getElem?_map, h1]; rfl
      have h3 : (I.map (·.1))[k]? = some q.1 := by rw [List.getElem?_map, h.1]; simp [he]
      have hlt : m < (I.map (·.1)).length := (List.getElem?_eq_some_iff.1 h2).1
      have : m = k := (List.getElem?_inj hlt hI).1 (h2.trans h3.symm)
      subst this
      exact hk.1 hm1

theorem Hv.pick (hs : Hv L I D ep σ) (ks : List Nat) {I' : List (Id × Row)} (h : ks.map (fun k => I[k]?) = I'.map some) (hk : ks.Nodup) : Hv L I' D ep σ := by
  have hm : ∀ p ∈ I', p ∈ I := fun p hp => by
    have h1 : some p ∈ ks.map (fun k => I[k]?) := by rw [h]; exact List.mem_map.2 ⟨p, hp, rfl⟩
    obtain ⟨k, _, h2⟩ := List.mem_map.1 h1
    exact List.mem_of_getElem? h2
  exact { hs with
    h := fun k p hk => by
      obtain ⟨k', hk'⟩ := List.mem_iff_getElem?.1 (hm p (List.mem_of_getElem? hk))
      exact hs.h k' p hk'
    nd := nodup_pick hs.nd h hk
    bd := fun p hp => hs.bd p (hm p hp) }

theorem Hv.xp (hs : Hv L I D ep σ) {L' : List (Nat × SV)} {I' : List (Id × Row)} (h : ∀ j, L'.map (fun p => (p.1, look L j p.1)) = L') (ks : List Nat) (hi : ks.map (fun k => I[k]?) = I'.map some) (hk : ks.Nodup) : Hx L' I' σ := ⟨D, ep, (hs.sub h).pick ks hi hk⟩

theorem Hv.upd (hs : Hv L I D ep σ) (k : Nat) {id : Id} {row : Row} (hk : I[k]? = some (id, row)) (row' : Row) (ep' : Nat) :
    Hv L (I.set k (id, row')) D ep' { t := σ.t, h := fun i => if i = id then some row' else σ.h i, ep := ep', nx := σ.nx } := by
  refine ⟨hs.t, fun k' p hk' => ?_, ?_, fun p hp => ?_, rfl⟩
  · rw [List.getElem?_set] at hk'
    show (if p.1 = id then some row' else σ.h p.1) = some p.2
    split at hk'
    · rename_i em; subst em
      split at hk'
      · injection hk' with hk'; subst hk'; simp
      · cases hk'
    · rename_i em
      have hne : p.1 ≠ id := fun ep => by
        have hlt := (List.getElem?_eq_some_iff.1 hk).1
        have h4 : (I.map (·.1))[k']? = some id := by rw [List.getElem?_map, hk']; simp [ep]
        have h5 : (I.map (·.1))[k]? = some id := by rw [List.getElem?_map, hk]; rfl
        exact em ((List.getElem?_inj (by simpa using hlt) hs.nd).1 (h5.trans h4.symm))
      rw [if_neg hne]; exact hs.h k' p hk'
  · have : (I.set k (id, row')).map (·.1) = I.map (·.1) := by
      rw [List.map_set]
      apply List.ext_getElem?
      intro m
      rw [List.getElem?_set]
      split
      · rename_i em; subst em
        rw [List.getElem?_map, hk]
        split
        · rfl
        · rename_i hl; simp at hl; have := (List.getElem?_eq_some_iff.1 hk).1; omega
      · rfl
    rw [this]; exact hs.nd
  · rcases List.mem_or_eq_of_mem_set hp with hp | rfl
    · exact hs.bd p hp
    · exact hs.bd (id, row) (List.mem_of_getElem? hk)

/-- A variable of plain data is stored to as a whole. -/
theorem Hv.stw (hs : Hv L I D ep σ) (k : Nat) {n : Nat} {ks : List Nat} {x v : Opd} {id : Id} {row : Row} {e cs : List Cell} (hk : I[k]? = some (id, row)) (hx : ∀ j h nx, St.get ⟨look L j, h, ep, nx⟩ x = .c (.ad id 0 0)) (hv : ∀ j h nx, flat ep (St.get ⟨look L j, h, ep, nx⟩ v) = some cs)
    (hc : ∀ σ, closeL σ ks cs = some (cs, σ)) (hn : cs.length = n) (he : row = ⟨n, [e]⟩ ∧ e.length = n)
    (h : ∀ σ', Hv L (I.set k (id, ⟨n, [cs]⟩)) D (ep + 1) σ' → K σ') : IWp T X none (.st false n ks x v) σ K := by
  obtain ⟨rfl, hel⟩ := he
  obtain ⟨j, hh, nx, e1⟩ := hs.eta
  have h1 : σ.get x = .c (.ad id 0 0) := by rw [e1]; exact hx j hh nx
  have h2 : flat σ.ep (σ.get v) = some cs := by rw [hs.ep, e1]; exact hv j hh nx
  have h3 := hs.h k _ hk
  have h4 := hs.upd k hk ⟨n, [cs]⟩ (ep + 1)
  rw [← hs.ep] at h4
  refine IWp.st (σ1 := { σ.setH id (some ⟨n, [cs]⟩) with ep := σ.ep + 1 }) ?_ (h _ (by rw [← hs.ep]; exact h4))
  simp only [sval, h1, h2, hn, if_true, Bool.false_eq_true, if_false, hc, h3]
  simp only [List.getElem?_cons_zero, Nat.zero_add, hel, Nat.le_refl, if_true, List.set_cons_zero, splice, true_and, hn]

theorem RWp.split {s : List (Nat × RStep)} (n : Nat) {M : St → Prop} (h1 : RWp T X (s.take n) σ M) (h2 : ∀ σ', M σ' → RWp T X (s.drop n) σ' K) : RWp T X s σ K := by
  obtain ⟨m, σ1, h3, h4⟩ := h1
  obtain ⟨m2, σ2, h5, h6⟩ := h2 σ1 h4
  refine ⟨max m m2, σ2, ?_, h6⟩
  have key : ∀ (a b : List RStep) (σ : St) (O : Orc), rrun O σ (a ++ b) = (match rrun O σ a with | some σ1 => rrun O σ1 b | none => none) := by
    intro a
    induction a with
    | nil => intro b σ O; rfl
    | cons r a ih =>
      intro b σ O
      simp only [List.cons_append, rrun]
      split
      · exact ih b _ O
      · rfl
  have e : s.map (·.2) = (s.take n).map (·.2) ++ (s.drop n).map (·.2) := by rw [← List.map_append, List.take_append_drop]
  rw [e, key, rrun_mono (orc_mono T X (Nat.le_max_left m m2)) h3]
  exact rrun_mono (orc_mono T X (Nat.le_max_right m m2)) h5
theorem RWp.seg {s : List (Nat × RStep)} (_hs : Hv L I D ep σ) (n : Nat) (L' : List (Nat × SV)) (h1 : RWp T X (s.take n) σ fun σ' => Hv L' I D ep σ') (h2 : ∀ σ', Hv L' I D ep σ' → RWp T X (s.drop n) σ' K) : RWp T X s σ K := RWp.split n h1 h2
end
end Go.Fw

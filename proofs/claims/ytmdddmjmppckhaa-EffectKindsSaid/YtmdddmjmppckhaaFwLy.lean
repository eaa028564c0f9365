/- Calls that are lent objects, in printed proofs. -/
import Derived.Test.YtmdddmjmppckhaaFwLx
namespace Go.Fw

/-! ### Names grow -/
def XUp (X : Orc) : Prop := ∀ f args ep nx h rvs ep' nx' h', X f args ep nx h = some (rvs, ep', nx', h') → nx ≤ nx'

theorem openCs_nx (d : Nat) : ∀ (cs : List Cell) (k : Nat) (σ : St), (openCs d k σ cs).2.2.nx = σ.nx
  | [], _, _ => rfl
  | c :: cs, k, σ => by
    cases c <;> simp only [openCs] <;> first | exact openCs_nx d cs _ _ | (rw [openCs_nx d cs]; rfl)
theorem openRs_nx (d : Nat) : ∀ (rs : List RV) (k : Nat) (σ : St), (openRs d k σ rs).2.2.nx = σ.nx
  | [], _, _ => rfl
  | r :: rs, k, σ => by simp only [openRs]; rw [openRs_nx d rs, openCs_nx]
theorem land_nx {σ σ' : St} {d : Nat} {rvs : List RV} (h : land σ d rvs = some σ') : σ'.nx = σ.nx := by
  simp only [land] at h
  split at h
  · injection h with h; subst h; exact openRs_nx d rvs 0 σ
  · cases h
theorem closeL_nx : ∀ {cs : List Cell} {ks : List Nat} {σ σ' : St} {cs' : List Cell}, closeL σ ks cs = some (cs', σ') → σ'.nx = σ.nx
  | [], ks, σ, σ', cs', h => by simp only [closeL, Option.some.injEq, Prod.mk.injEq] at h; rw [h.2]
  | c :: cs, ks, σ, σ', cs', h => by
    simp only [closeL] at h
    split at h
    · rename_i c' σ1 h1
      split at h
      · rename_i cs2 σ2 h2
        simp only [Option.some.injEq, Prod.mk.injEq] at h
        obtain ⟨_, rfl⟩ := h
        rw [closeL_nx h2]
        unfold close1 at h1
        repeat' split at h1
        all_goals first
          | (cases h1; done)
          | (simp only [Option.some.injEq, Prod.mk.injEq] at h1; obtain ⟨_, rfl⟩ := h1; rfl)
      · cases h
    · cases h

theorem lent_nx {O : Orc} (hO : XUp O) {σ σ' : St} {d : Nat} {f : FuncId} {args : List SV} {L : List Id} (h : lentCall O σ d f args L = some σ') : σ.nx ≤ σ'.nx := by
  simp only [lentCall] at h
  split at h
  · rename_i rvs ep' nx' h' h1
    have := hO _ _ _ _ _ _ _ _ _ h1
    rw [land_nx h]
    show σ.nx ≤ nx' + 1
    omega
  · cases h
theorem pure_nx {O : Orc} {σ σ' : St} {d : Nat} {f : FuncId} {args : List SV} (h : pureCall O σ d f args = some σ') : σ'.nx = σ.nx := by
  simp only [pureCall] at h
  repeat' split at h
  all_goals first
    | (cases h; done)
    | exact land_nx h
theorem mvalNx {σ σ' : St} {d : Nat} {op : MO} (h : mval σ d op = some σ') : σ'.nx = σ.nx := by
  cases op <;> simp only [mval] at h
  case alloc => injection h with h; subst h; rfl
  case box =>
    split at h
    · split at h
      · rename_i h2; injection h with h; subst h; have h3 := closeL_nx h2; exact h3
      · cases h
    · cases h
  case bsl =>
    split at h
    · split at h
      · rename_i h2; injection h with h; subst h; have h3 := closeL_nx h2; exact h3
      · cases h
    · cases h
  case mks =>
    split at h
    · split at h
      · injection h with h; subst h; rfl
      · cases h
    · cases h
theorem istep_nx {O : Orc} (hO : XUp O) {σ σ' : St} {d : Option Nat} {i : Ins} (h : istep O σ d i = some σ') : σ.nx ≤ σ'.nx := by
  cases i <;> simp only [istep] at h
  case qk =>
    split at h
    · split at h
      · injection h with h; subst h; cases d <;> exact Nat.le_refl _
      · cases h
    · cases h
  case q =>
    split at h
    · injection h with h; subst h; cases d <;> exact Nat.le_refl _
    · cases h
  case m => split at h; exact Nat.le_of_eq (mvalNx h).symm; cases h
  case st =>
    split at h
    · simp only [sval] at h
      split at h
      · split at h
        · split at h
          · rename_i cs σ1 h1
            have h2 : σ1.nx = σ.nx := by
              split at h1
              · split at h1
                · simp only [Option.some.injEq, Prod.mk.injEq] at h1; rw [h1.2]
                · cases h1
              · exact closeL_nx h1
            repeat' split at h
            all_goals first
              | (cases h; done)
              | (injection h with h; subst h; exact Nat.le_of_eq h2.symm)
          · cases h
        · cases h
      · cases h
    · cases h
  case app =>
    split at h
    · simp only [aval] at h
      split at h
      · rename_i h1
        split at h
        · rename_i h2
          split at h
          · injection h with h; subst h
            exact Nat.le_of_eq ((asrc_nx h2).trans (abase_nx h1)).symm
          · cases h
        · cases h
      · cases h
    · cases h
  case appz =>
    split at h
    · simp only [azval] at h
      repeat' split at h
      all_goals first
        | (cases h; done)
        | (injection h with h; subst h; exact Nat.le_refl _)
    · cases h
  case bslz => split at h; (injection h with h; subst h; exact Nat.le_refl _); cases h
  case boxp =>
    repeat' split at h
    all_goals first
      | (cases h; done)
      | exact Nat.le_of_eq (mvalNx h).symm
  case boxr =>
    repeat' split at h
    all_goals first
      | (cases h; done)
      | (injection h with h; subst h; exact Nat.le_refl _)
  case bslp =>
    repeat' split at h
    all_goals first
      | (cases h; done)
      | exact Nat.le_of_eq (mvalNx h).symm
  case call => split at h; exact Nat.le_of_eq (pure_nx h).symm; cases h
  case calll => split at h; exact lent_nx hO h; cases h
  case callv =>
    repeat' split at h
    all_goals first
      | (cases h; done)
      | exact lent_nx hO h
      | exact Nat.le_of_eq (pure_nx h).symm

theorem rrun_nx {O : Orc} (hO : XUp O) : ∀ {rs : List RStep} {σ σ' : St}, rrun O σ rs = some σ' → σ.nx ≤ σ'.nx
  | [], σ, σ', h => by simp only [rrun, Option.some.injEq] at h; subst h; exact Nat.le_refl _
  | r :: rs, σ, σ', h => by
    simp only [rrun] at h
    split at h
    · rename_i σ1 h1
      refine Nat.le_trans ?_ (rrun_nx hO h)
      unfold rstep at h1
      split at h1
      · exact istep_nx hO h1
      · injection h1 with h1; subst h1; cases r.dst <;> exact Nat.le_refl _
      · cases h1
    · cases h
theorem gvals_nx {N : Nat} : ∀ {gs : List GO} {σ σ' : St}, gvals N σ gs = some σ' → σ'.nx = σ.nx
  | [], σ, σ', h => by simp only [gvals, Option.some.injEq] at h; rw [h]
  | g :: gs, σ, σ', h => by
    simp only [gvals] at h
    split at h
    · rename_i σ1 h1; rw [gvals_nx h, gval_nx h1]
    · cases h
theorem iter_nx {f : St → Option (Ex × St)} (hf : ∀ σ e σ', f σ = some (e, σ') → σ.nx ≤ σ'.nx) : ∀ {n : Nat} {σ σ' : St} {e : Ex}, iter f n σ = some (e, σ') → σ.nx ≤ σ'.nx
  | 0, _, _, _, h => by simp [iter] at h
  | n + 1, σ, σ', e, h => by
    simp only [iter] at h
    split at h
    · rename_i σ1 h1; exact Nat.le_trans (hf _ _ _ h1) (iter_nx hf h)
    · exact hf _ _ _ h
theorem brun_nx {O : Orc} (hO : XUp O) {N n : Nat} : ∀ {b : Blk} {σ σ' : St} {e : Ex}, brun O N n b σ = some (e, σ') → σ.nx ≤ σ'.nx
  | .skip, σ, σ', e, h => by simp only [brun, Option.some.injEq, Prod.mk.injEq] at h; rw [h.2]; exact Nat.le_refl _
  | .reg s, σ, σ', e, h => by
    simp only [brun] at h
    split at h
    · rename_i σ1 h1
      simp only [Option.some.injEq, Prod.mk.injEq] at h; obtain ⟨_, rfl⟩ := h
      have := rrun_nx hO h1
      exact Nat.le_trans (by simp [St.tick]) this
    · cases h
  | .seq a b, σ, σ', e, h => by
    simp only [brun] at h
    split at h
    · rename_i σ1 h1; exact Nat.le_trans (brun_nx hO h1) (brun_nx hO h)
    · exact brun_nx hO h
  | .cond c a b, σ, σ', e, h => by
    simp only [brun] at h
    split at h
    · exact brun_nx hO h
    · exact brun_nx hO h
    · cases h
  | .block id b, σ, σ', e, h => by
    simp only [brun] at h
    split at h
    · rename_i id' σ1 h1
      split at h <;> (simp only [Option.some.injEq, Prod.mk.injEq] at h; obtain ⟨_, rfl⟩ := h; exact brun_nx hO h1)
    · exact brun_nx hO h
  | .loop b, σ, σ', e, h => by simp only [brun] at h; exact iter_nx (fun _ _ _ h => brun_nx hO h) h
  | .exit id, σ, σ', e, h => by simp only [brun, Option.some.injEq, Prod.mk.injEq] at h; rw [h.2]; exact Nat.le_refl _
  | .ret, σ, σ', e, h => by simp only [brun, Option.some.injEq, Prod.mk.injEq] at h; rw [h.2]; exact Nat.le_refl _
  | .gh gs b, σ, σ', e, h => by
    simp only [brun] at h
    split at h
    · rename_i σ1 h1
      have h2 := gvals_nx h1
      have h3 := brun_nx hO h
      simp only [St.tick] at h2
      omega
    · cases h
  | .post b gs, σ, σ', e, h => by
    simp only [brun] at h
    split at h
    · rename_i σ1 h1
      split at h
      · rename_i σ2 h2
        simp only [Option.some.injEq, Prod.mk.injEq] at h; obtain ⟨_, rfl⟩ := h
        have h3 := gvals_nx h2
        have h4 := brun_nx hO h1
        simp only [St.tick] at h3
        omega
      · cases h
    · exact brun_nx hO h
theorem takeRs_nx : ∀ {res : List (RO × List Nat)} {σ σ' : St} {rvs : List RV}, takeRs σ res = some (rvs, σ') → σ'.nx = σ.nx
  | [], σ, σ', rvs, h => by simp only [takeRs, Option.some.injEq, Prod.mk.injEq] at h; rw [h.2]
  | (r, ks) :: res, σ, σ', rvs, h => by
    simp only [takeRs] at h
    split at h
    · rename_i v σ1 h1
      split at h
      · rename_i vs σ2 h2
        simp only [Option.some.injEq, Prod.mk.injEq] at h
        obtain ⟨_, rfl⟩ := h
        rw [takeRs_nx h2]
        cases r <;> simp only [takeR] at h1
        all_goals repeat' split at h1
        all_goals first
          | (cases h1; done)
          | (rename_i h3; simp only [Option.some.injEq, Prod.mk.injEq] at h1; obtain ⟨_, rfl⟩ := h1; first | exact closeL_nx h3 | rfl)
      · cases h
    · cases h
theorem orc_nx {T : Tab} {X : Orc} (hX : XUp X) : ∀ n, XUp (orc T X n)
  | 0 => fun f args ep nx h rvs ep' nx' h' hc => by
    simp only [orc] at hc
    split at hc
    · cases hc
    · exact hX _ _ _ _ _ _ _ _ _ hc
  | n + 1 => fun f args ep nx h rvs ep' nx' h' hc => by
    simp only [orc] at hc
    split at hc
    · simp only [fcall] at hc
      split at hc
      · split at hc
        · cases hc
        · rename_i e σ h1
          split at hc
          · rename_i rvs1 σ1 h2
            simp only [Option.some.injEq, Prod.mk.injEq] at hc
            obtain ⟨_, _, rfl, _⟩ := hc
            rw [takeRs_nx h2]
            exact brun_nx (orc_nx hX n) (by assumption)
          · cases hc
        · cases hc
      · cases hc
    · exact hX _ _ _ _ _ _ _ _ _ hc

/-! ### What a function does that is lent objects -/
def HI (I : List (Id × Row)) (h : Hp) (nx : Nat) : Prop := (∀ p ∈ I, h p.1 = some p.2) ∧ (I.map (·.1)).Nodup ∧ ∀ p ∈ I, p.1.2 ≤ nx
def LentS (T : Tab) (X : Orc) (f : FuncId) (xs : List SV) (I : List (Id × Row)) (rvs : List RV) (I' : List (Id × Row)) : Prop :=
  ∀ ep nx h, HI I h nx → ∃ ep' nx' h', Lent T X f xs ep nx h (rvs, ep', nx', h') ∧ ∀ p ∈ I', h' p.1 = some p.2
def RtL (res : List (RO × List Nat)) (rvs : List RV) (I' : List (Id × Row)) (e : Ex) (σ : St) : Prop := (e = .normal ∨ e = .ret) ∧ ∃ σ', takeRs σ res = some (rvs, σ') ∧ ∀ p ∈ I', σ'.h p.1 = some p.2

section
variable {T : Tab} {X : Orc} {σ σ' : St} {N : Nat} {K K' : St → Prop} {Q Q' : Ex → St → Prop} {L : List (Nat × SV)} {I I' : List (Id × Row)} {D : List Nat} {ep : Nat}

theorem LentS.mk {f : FuncId} {fi : FI} {args : List SV} {rvs : List RV} (hT : T f = some fi) (ha : args.length = fi.na)
    (hb : ∀ σ D ep, Hv (args.zipIdx.map fun p => (p.2, p.1)) I D ep σ → Wp T X fi.nt fi.body σ (RtL fi.res rvs I')) : LentS T X f args I rvs I' := by
  intro ep nx h hI
  have h0 : Hv (args.zipIdx.map fun p => (p.2, p.1)) I (I.map fun p => p.1.1 / 16) ep (begin fi.nt args ep nx h) := by
    refine { t := ⟨(begin fi.nt args ep nx h).t, ?_⟩, h := fun k p hk => hI.1 p (List.mem_of_getElem? hk), nd := hI.2.1, bd := fun p hp => ?_, ep := rfl }
    · have key : ∀ (xs : List SV) (n s : Nat) (j : Nat → SV), (∀ k x, xs[k]? = some x → j (n + k) = x) → look ((xs.zipIdx n).map fun p => (p.2, p.1)) j s = j s := by
        intro xs
        induction xs with
        | nil => intro n s j _; rfl
        | cons x xs ih =>
          intro n s j hj
          simp only [List.zipIdx_cons, List.map_cons, look]
          split
          · rename_i e; subst e; exact (hj 0 x rfl).symm
          · exact ih (n + 1) s j fun k y hk => by rw [show n + 1 + k = n + (k + 1) by omega]; exact hj (k + 1) y (by simpa using hk)
      funext s
      exact (key args 0 s _ fun k x hk => by simp [begin, hk]).symm
    · rcases Nat.lt_or_eq_of_le (hI.2.2 p hp) with h1 | h1
      · exact .inl h1
      · exact .inr ⟨h1, List.mem_map.2 ⟨p, hp, rfl⟩⟩
  obtain ⟨n, e, σ1, h1, he, σ2, h2, h3⟩ := hb _ _ _ h0
  exact ⟨_, _, _, Lent.of hT ha ⟨n, e, σ1, h1, he, rvs, σ2, h2, rfl⟩, h3⟩

theorem Hv.rtl (hs : Hv L I D ep σ) {res : List (RO × List Nat)} {rvs : List RV} {e : Ex} {I1 Ls : List (Id × Row)} (he : e = .normal ∨ e = .ret) (h : Tk L I res rvs I1) (ks : List Nat) (hk : ks.map (fun k => I1[k]?) = Ls.map some) : RtL res rvs Ls e σ := by
  obtain ⟨σ', h1, h2, _⟩ := h.run hs
  refine ⟨he, σ', h1, fun p hp => ?_⟩
  have h3 : some p ∈ ks.map (fun k => I1[k]?) := by rw [hk]; exact List.mem_map.2 ⟨p, hp, rfl⟩
  obtain ⟨k, _, h4⟩ := List.mem_map.1 h3
  exact h2.h k p h4
theorem Hv.rtlI (hs : Hv L I D ep σ) {res : List (RO × List Nat)} {rvs : List RV} {e : Ex} (he : e = .normal ∨ e = .ret) (h : Tk L I res rvs I) : RtL res rvs I e σ := by
  obtain ⟨σ', h1, h2, _⟩ := h.run hs
  refine ⟨he, σ', h1, fun p hp => ?_⟩
  obtain ⟨k, hk⟩ := List.mem_iff_getElem?.1 hp
  exact h2.h k p hk

def setAll (I : List (Id × Row)) : List Nat → List (Id × Row) → List (Id × Row)
  | k :: ks, p :: ps => setAll (I.set k p) ks ps
  | _, _ => I

theorem setAll_get : ∀ {ks : List Nat} {ps I : List (Id × Row)} {k : Nat} {p : Id × Row}, ks.Nodup → (setAll I ks ps)[k]? = some p → (∃ i : Nat, ks[i]? = some k ∧ ps[i]? = some p) ∨ ((k ∉ ks ∨ ks.length ≠ ps.length) ∧ I[k]? = some p)
  | [], ps, I, k, p, _, h => .inr ⟨.inl (by simp), by simpa [setAll] using h⟩
  | k0 :: ks, [], I, k, p, _, h => .inr ⟨.inr (by simp), by simpa [setAll] using h⟩
  | k0 :: ks, q :: ps, I, k, p, hn, h => by
    simp only [setAll] at h
    simp only [List.nodup_cons] at hn
    rcases setAll_get hn.2 h with ⟨i, h1, h2⟩ | ⟨h1, h2⟩
    · exact .inl ⟨i + 1, by simpa using h1, by simpa using h2⟩
    · rw [List.getElem?_set] at h2
      split at h2
      · rename_i e; subst e
        split at h2
        · exact .inl ⟨0, rfl, by simpa using h2⟩
        · cases h2
      · rename_i hne
        rcases h1 with h1 | h1
        · exact .inr ⟨.inl (by simp only [List.mem_cons, not_or]; exact ⟨fun e => hne e.symm, h1⟩), h2⟩
        · exact .inr ⟨.inr (by simpa using h1), h2⟩

theorem setAll_fst : ∀ {ks : List Nat} {ps I : List (Id × Row)}, (∀ (i k : Nat) (p : Id × Row), ks[i]? = some k → ps[i]? = some p → ∃ q, I[k]? = some q ∧ q.1 = p.1) → (setAll I ks ps).map (·.1) = I.map (·.1)
  | [], ps, I, _ => by simp [setAll]
  | k0 :: ks, [], I, _ => by simp [setAll]
  | k0 :: ks, q :: ps, I, h => by
    simp only [setAll]
    have h0 : (I.set k0 q).map (·.1) = I.map (·.1) := by
      obtain ⟨q0, h1, h2⟩ := h 0 k0 q rfl rfl
      rw [List.map_set]
      apply List.ext_getElem?
      intro m
      rw [List.getElem?_set]
      split
      · rename_i em; subst em
        rw [List.getElem?_map, h1]
        split
        · simp [h2]
        · rename_i hl; simp at hl; have := (List.getElem?_eq_some_iff.1 h1).1; omega
      · rfl
    rw [setAll_fst fun i k p h1 h2 => ?_, h0]
    obtain ⟨q1, h3, h4⟩ := h (i + 1) k p (by simpa using h1) (by simpa using h2)
    rw [List.getElem?_set]
    split
    · rename_i e; subst e
      have hlt := (List.getElem?_eq_some_iff.1 h3).1
      rw [if_pos hlt]
      obtain ⟨q0, h5, h6⟩ := h 0 k0 q rfl rfl
      rw [h3] at h5; injection h5 with h5; subst h5
      exact ⟨q, rfl, h6.symm.trans h4⟩
    · exact ⟨q1, h3, h4⟩

/-- What stands behind a call that was lent objects. -/
theorem Hv.back (hX : XUp X) (hs : Hv L I D ep σ) {d : Nat} {f : FuncId} {xs : List SV} {ids : List Id} {Ls Ls' : List (Id × Row)} {rvs : List RV} {x : SV} (hp : LentS T X f xs Ls rvs Ls') (ks : List Nat)
    (hks : ks.map (fun k => I[k]?) = Ls.map some) (hkn : ks.Nodup) (hfst : Ls'.map (·.1) = Ls.map (·.1)) (hids : ids = Ls.map (·.1)) (hl : ∀ σ : St, land σ d rvs = some (σ.set d x)) :
    ∃ n σ1, lentCall (orc T X n) σ d f xs ids = some σ1 ∧ ∃ ep', Hv ((d, x) :: L) (setAll I ks Ls') [] ep' σ1 := by
  have hmem : ∀ (i k : Nat), ks[i]? = some k → ∃ p, I[k]? = some p ∧ Ls[i]? = some p := fun i k hk => by
    have h1 : (ks.map fun k => I[k]?)[i]? = some I[k]? := by rw [List.getElem?_map, hk]; rfl
    rw [hks, List.getElem?_map] at h1
    cases h2 : Ls[i]? with
    | none => rw [h2] at h1; cases h1
    | some p => rw [h2] at h1; simp only [Option.map_some, Option.some.injEq] at h1; exact ⟨p, h1.symm, rfl⟩
  have hLs : ∀ p ∈ Ls, p ∈ I := fun p hp => by
    have h1 : some p ∈ ks.map (fun k => I[k]?) := by rw [hks]; exact List.mem_map.2 ⟨p, hp, rfl⟩
    obtain ⟨k, _, h2⟩ := List.mem_map.1 h1
    exact List.mem_of_getElem? h2
  have hI : HI Ls (fun id => if id ∈ ids then σ.h id else none) σ.nx := by
    refine ⟨fun p hp => ?_, nodup_pick hs.nd hks hkn, fun p hp => ?_⟩
    · have h1 : p.1 ∈ ids := by rw [hids]; exact List.mem_map.2 ⟨p, hp, rfl⟩
      obtain ⟨k, hk⟩ := List.mem_iff_getElem?.1 (hLs p hp)
      simp only [h1, if_true]
      exact hs.h k p hk
    · rcases hs.bd p (hLs p hp) with h | ⟨h, _⟩ <;> omega
  obtain ⟨ep', nx', h', ⟨n, hn⟩, hh⟩ := hp σ.ep σ.nx _ hI
  have hnx := orc_nx hX n _ _ _ _ _ _ _ _ _ hn
  refine ⟨n, _, by simp only [lentCall, hn]; exact hl _, σ.ep + ep' + 1, ?_⟩
  have hlen : ks.length = Ls'.length := by
    have h1 := congrArg List.length hks
    have h2 := congrArg List.length hfst
    simp only [List.length_map] at h1 h2
    omega
  have hfst2 : (setAll I ks Ls').map (·.1) = I.map (·.1) := setAll_fst fun i k p h1 h2 => by
    obtain ⟨q, h3, h4⟩ := hmem i k h1
    refine ⟨q, h3, ?_⟩
    have h5 : (Ls'.map (·.1))[i]? = some p.1 := by rw [List.getElem?_map, h2]; rfl
    rw [hfst, List.getElem?_map, h4] at h5
    simpa using h5
  refine
    { t := by obtain ⟨j, hj⟩ := hs.t; exact ⟨j, by funext s; simp only [St.set, look, hj]⟩
      h := fun k p hk => ?_
      nd := by rw [hfst2]; exact hs.nd
      bd := fun p hp => ?_
      ep := rfl }
  · show (if p.1 ∈ ids ∨ σ.nx < p.1.2 then h' p.1 else σ.h p.1) = some p.2
    rcases setAll_get hkn hk with ⟨i, h1, h2⟩ | ⟨h1, h2⟩
    · have h3 : p ∈ Ls' := List.mem_of_getElem? h2
      have h4 : p.1 ∈ ids := by rw [hids, ← hfst]; exact List.mem_map.2 ⟨p, h3, rfl⟩
      rw [if_pos (.inl h4)]
      exact hh p h3
    · have h1 : k ∉ ks := by rcases h1 with h1 | h1; exact h1; exact absurd hlen h1
      have h3 : p.1 ∉ ids := fun hm => by
        rw [hids] at hm
        obtain ⟨q, hq, e⟩ := List.mem_map.1 hm
        have h4 : some q ∈ ks.map (fun k => I[k]?) := by rw [hks]; exact List.mem_map.2 ⟨q, hq, rfl⟩
        obtain ⟨k', hk', h5⟩ := List.mem_map.1 h4
        have h6 : (I.map (·.1))[k']? = some p.1 := by rw [List.getElem?_map, h5]; simp [e]
        have h7 : (I.map (·.1))[k]? = some p.1 := by rw [List.getElem?_map, h2]; rfl
        have hlt := (List.getElem?_eq_some_iff.1 h6).1
        have h8 := (List.getElem?_inj hlt hs.nd).1 (h6.trans h7.symm)
        subst h8
        exact h1 hk'
      have h4 : ¬ σ.nx < p.1.2 := by
        rcases hs.bd p (List.mem_of_getElem? h2) with h | ⟨h, _⟩ <;> omega
      rw [if_neg (by simp only [h3, h4, or_self, not_false_eq_true])]
      exact hs.h k p h2
  · left
    show p.1.2 < nx' + 1
    have h1 : p.1 ∈ I.map (·.1) := by rw [← hfst2]; exact List.mem_map.2 ⟨p, hp, rfl⟩
    obtain ⟨q, hq, e⟩ := List.mem_map.1 h1
    rcases hs.bd q hq with h | ⟨h, _⟩ <;> (rw [e] at h; omega)

theorem Hv.calll (hX : XUp X) (hs : Hv L I D ep σ) {d : Nat} {f : FuncId} {args more : List Opd} {xs : List SV} {Ls Ls' : List (Id × Row)} {rvs : List RV} {x : SV} (hp : LentS T X f xs Ls rvs Ls') (ks : List Nat)
    (hks : ks.map (fun k => I[k]?) = Ls.map some) (hkn : ks.Nodup) (hfst : Ls'.map (·.1) = Ls.map (·.1)) (hx : ∀ j h nx, args.map (St.get ⟨look L j, h, ep, nx⟩) = xs) (hids : ∀ j h nx, lidsOf ((args ++ more).map (St.get ⟨look L j, h, ep, nx⟩)) = Ls.map (·.1))
    (hl : ∀ σ : St, land σ d rvs = some (σ.set d x)) (hk : ∀ ep' σ', Hv ((d, x) :: L) (setAll I ks Ls') [] ep' σ' → K σ') : IWp T X (some d) (.calll f args more) σ K := by
  obtain ⟨j, hh, nx, e⟩ := hs.eta
  have h1 : args.map σ.get = xs := by rw [e]; exact hx j hh nx
  have h2 : lidsOf ((args ++ more).map σ.get) = Ls.map (·.1) := by rw [e]; exact hids j hh nx
  obtain ⟨n, σ1, h3, ep', h4⟩ := hs.back hX hp ks hks hkn hfst rfl hl
  exact ⟨n, σ1, by simp only [istep, h1, h2]; exact h3, hk _ _ h4⟩

/-- A function value is called. -/
theorem Hv.callvl (hX : XUp X) (hs : Hv L I D ep σ) {d : Nat} {f : FuncId} {caps : List Cell} {x0 : Opd} {args more : List Opd} {xs ys : List SV} {Ls Ls' : List (Id × Row)} {rvs : List RV} {x : SV} (hp : LentS T X f (xs ++ caps.map .c) Ls rvs Ls') (ks : List Nat)
    (hks : ks.map (fun k => I[k]?) = Ls.map some) (hkn : ks.Nodup) (hfst : Ls'.map (·.1) = Ls.map (·.1)) (hf : ∀ j h nx, St.get ⟨look L j, h, ep, nx⟩ x0 = .c (.fn f caps)) (hx : ∀ j h nx, args.map (St.get ⟨look L j, h, ep, nx⟩) = xs)
    (hm : ∀ j h nx, (args ++ more).map (St.get ⟨look L j, h, ep, nx⟩) = ys) (hids : lidsOf (.c (.fn f caps) :: ys) = Ls.map (·.1))
    (hl : ∀ σ : St, land σ d rvs = some (σ.set d x)) (hk : ∀ ep' σ', Hv ((d, x) :: L) (setAll I ks Ls') [] ep' σ' → K σ') : IWp T X (some d) (.callv true x0 args more) σ K := by
  obtain ⟨j, hh, nx, e⟩ := hs.eta
  have h0 : σ.get x0 = .c (.fn f caps) := by rw [e]; exact hf j hh nx
  have h1 : args.map σ.get = xs := by rw [e]; exact hx j hh nx
  have h2 : (args ++ more).map σ.get = ys := by rw [e]; exact hm j hh nx
  obtain ⟨n, σ1, h3, ep', h4⟩ := hs.back hX hp ks hks hkn hfst rfl hl
  refine ⟨n, σ1, ?_, hk _ _ h4⟩
  simp only [istep, h0, if_true, h1, h2, hids]
  exact h3

/-! ### Function values that are handed in -/
/-- A function value that reads its objects alone. -/
structure Clo (T : Tab) (X : Orc) {α β : Type} (f : FuncId) (caps : List Cell) (I : List (Id × Row)) (enc : α → SV) (rv : β → List RV) (p : α → Option β) : Prop where
  run : ∀ a b, p a = some b → LentS T X f (enc a :: caps.map .c) I (rv b) I
  ids : lidsOf [.c (.fn f caps)] = I.map (·.1)

theorem range_all (I : List (Id × Row)) : (List.range I.length).map (fun k => I[k]?) = I.map some := by
  apply List.ext_getElem?
  intro i
  rw [List.getElem?_map, List.getElem?_map]
  by_cases h : i < I.length
  · rw [List.getElem?_range h]; simp [h]
  · rw [List.getElem?_eq_none (by simpa using h), List.getElem?_eq_none (by omega)]; rfl
theorem setAll_same : ∀ {ks : List Nat} {I J : List (Id × Row)}, ks.map (fun k => I[k]?) = J.map some → setAll I ks J = I
  | [], I, J, _ => by simp [setAll]
  | k :: ks, I, [], h => by simp at h
  | k :: ks, I, p :: J, h => by
    simp only [List.map_cons, List.cons.injEq] at h
    have h1 : I.set k p = I := by
      apply List.ext_getElem?
      intro m
      rw [List.getElem?_set]
      split
      · rename_i e; subst e
        rw [h.1]
        have := (List.getElem?_eq_some_iff.1 h.1).1
        rw [if_pos this]
      · rfl
    simp only [setAll, h1]
    exact setAll_same h.2

theorem Hv.callvI (hX : XUp X) (hs : Hv L I D ep σ) {d : Nat} {α β : Type} {f : FuncId} {caps : List Cell} {enc : α → SV} {rv : β → List RV} {p : α → Option β} {x0 y : Opd} {a : α} {b : β} {x : SV} (hc : Clo T X f caps I enc rv p) (hab : p a = some b)
    (hf : ∀ j h nx, St.get ⟨look L j, h, ep, nx⟩ x0 = .c (.fn f caps)) (hx : ∀ j h nx, St.get ⟨look L j, h, ep, nx⟩ y = enc a) (hno : lidsOf [enc a] = [])
    (hl : ∀ σ : St, land σ d (rv b) = some (σ.set d x)) (hk : ∀ ep' σ', Hv ((d, x) :: L) I [] ep' σ' → K σ') : IWp T X (some d) (.callv true x0 [y] []) σ K := by
  refine hs.callvl hX (xs := [enc a]) (ys := [enc a]) (hc.run a b hab) (List.range I.length) (range_all I) List.nodup_range rfl hf (fun j h nx => by simp [hx j h nx]) (fun j h nx => by simp [hx j h nx]) ?_ hl (fun ep' σ' h => hk ep' σ' (by rwa [setAll_same (range_all I)] at h))
  have h1 := hc.ids
  simp only [lidsOf, List.flatMap_cons, List.flatMap_nil, List.append_nil] at h1 hno ⊢
  rw [h1, hno, List.append_nil]
theorem Hv.calllI (hX : XUp X) (hs : Hv L I D ep σ) {d : Nat} {f : FuncId} {args : List Opd} {xs : List SV} {rvs : List RV} {x : SV} (hp : LentS T X f xs I rvs I)
    (hx : ∀ j h nx, args.map (St.get ⟨look L j, h, ep, nx⟩) = xs) (hids : lidsOf xs = I.map (·.1))
    (hl : ∀ σ : St, land σ d rvs = some (σ.set d x)) (hk : ∀ ep' σ', Hv ((d, x) :: L) I [] ep' σ' → K σ') : IWp T X (some d) (.calll f args []) σ K :=
  hs.calll hX hp (List.range I.length) (range_all I) List.nodup_range rfl hx (fun j h nx => by rw [List.append_nil, hx j h nx]; exact hids) hl (fun ep' σ' h => hk ep' σ' (by rwa [setAll_same (range_all I)] at h))
theorem Hv.xo (hs : Hv L I D ep σ) {L' : List (Nat × SV)} (h : ∀ j, L'.map (fun p => (p.1, look L j p.1)) = L') : Hx L' I σ := ⟨D, ep, hs.sub h⟩

/-! ### Calls that hand back memory -/
def addR (σ : St) (d : Nat) : Nat → List Row → St
  | _, [] => σ
  | k, r :: rs => addR (σ.setH (nm d k, σ.nx) (some r)) d (k + 1) rs
def addI (ids : Nat → Id) : Nat → List Row → List (Id × Row) → List (Id × Row)
  | _, [], I => I
  | k, r :: rs, I => addI ids (k + 1) rs ((ids k, r) :: I)

theorem addR_nx (d : Nat) : ∀ (rows : List Row) (k : Nat) (σ : St), (addR σ d k rows).nx = σ.nx
  | [], _, _ => rfl
  | r :: rs, k, σ => by simp only [addR]; rw [addR_nx d rs]; rfl

theorem Hv.addR {d : Nat} : ∀ {rows : List Row} {k : Nat} {σ : St} {I : List (Id × Row)} {D : List Nat}, Hv L I D ep σ → d ∈ D → (∀ j, k ≤ j → j < 16 → ∀ p ∈ I, p.1 ≠ (nm d j, σ.nx)) → k + rows.length ≤ 16 →
    Hv L (addI (fun j => (nm d j, σ.nx)) k rows I) D ep (addR σ d k rows)
  | [], k, σ, I, D, hs, _, _, _ => hs
  | r :: rs, k, σ, I, D, hs, hd, hf, hn => by
    simp only [List.length_cons] at hn
    simp only [Go.Fw.addR, addI]
    have h1 : Hv L (((nm d k, σ.nx), r) :: I) D ep (σ.setH (nm d k, σ.nx) (some r)) := by
      refine { t := hs.t, ep := hs.ep, h := fun m p hm => ?_, nd := ?_, bd := fun p hp => ?_ }
      · simp only [St.setH]
        cases m with
        | zero => simp at hm; subst hm; simp
        | succ m =>
          have hm : I[m]? = some p := by simpa using hm
          rw [if_neg (hf k (Nat.le_refl _) (by omega) p (List.mem_of_getElem? hm))]
          exact hs.h m p hm
      · simp only [List.map_cons, List.nodup_cons]
        refine ⟨fun hm => ?_, hs.nd⟩
        obtain ⟨p, hp, e⟩ := List.mem_map.1 hm
        exact hf k (Nat.le_refl _) (by omega) p hp e
      · simp only [List.mem_cons] at hp
        rcases hp with rfl | hp
        · right
          refine ⟨rfl, ?_⟩
          have : nm d k / 16 = d := by unfold nm; omega
          simpa [this] using hd
        · exact hs.bd p hp
    exact Hv.addR h1 hd (fun j hj hj2 p hp => by
      simp only [List.mem_cons] at hp
      rcases hp with rfl | hp
      · intro e
        have := congrArg Prod.fst e
        simp only [nm] at this
        omega
      · exact hf j (by omega) hj2 p hp) (by omega)

theorem Hv.moreD (hs : Hv L I D ep σ) (d : Nat) : Hv L I (d :: D) ep σ := { hs with bd := fun p hp => by rcases hs.bd p hp with h | ⟨h1, h2⟩; exact .inl h; exact .inr ⟨h1, by simp [h2]⟩ }

theorem Hv.callm (hs : Hv L I D ep σ) {d : Nat} {f : FuncId} {args : List Opd} {ys xs : List SV} {b : Bool} {rvs : List RV} (rows : List Row) (x : (Nat → Id) → SV) (hp : Pure T X f xs rvs) (hd : d ∉ D) (hy : ∀ j h nx, args.map (St.get ⟨look L j, h, ep, nx⟩) = ys) (hb : Bor I ep ys b xs)
    (hr : ∀ ep, snoRs ep rvs = some rvs) (hl : ∀ σ : St, land σ d rvs = some ((Go.Fw.addR σ d 0 rows).set d (x fun k => (nm d k, σ.nx)))) (hn : rows.length ≤ 16)
    (hk : ∀ ids σ', Hv ((d, x ids) :: L) (addI ids 0 rows I) (d :: D) ep σ' → K σ') : IWp T X (some d) (.call f args) σ K := by
  obtain ⟨j, hh, nx, e⟩ := hs.eta
  have h2 := Hv.addR (d := d) (rows := rows) (k := 0) (hs.moreD d) (by simp) (fun j _ hj => hs.fresh hd hj) (by omega)
  refine IWp.call (b := b) (xs := xs) (rvs' := rvs) ?_ hp ?_ (hl σ) (hk _ _ (h2.put d _))
  · have h1 := hy j hh nx
    rw [← e] at h1
    rw [h1]; exact hb.run hs
  · cases b
    · rfl
    · exact hr _

/-- A call that takes a slice, and hands back one. -/
theorem Hv.calllc (hX : XUp X) (hs : Hv L I D ep σ) {d : Nat} {f : FuncId} {args : List Opd} {xs : List SV} {id : Id} {row : Row} {sz : Nat} {es : List (List Cell)} (k : Nat) (hp : LentS T X f xs [(id, row)] [(false, [.ow sz es])] []) (hks : I[k]? = some (id, row))
    (hx : ∀ j h nx, args.map (St.get ⟨look L j, h, ep, nx⟩) = xs) (hids : ∀ j h nx, lidsOf (args.map (St.get ⟨look L j, h, ep, nx⟩)) = [id])
    (hk : ∀ i2 ep' σ', Hv ((d, .c (.sl i2 0 es.length)) :: L) ((i2, ⟨sz, es⟩) :: I.eraseIdx k) [d] ep' σ' → K σ') : IWp T X (some d) (.calll f args []) σ K := by
  obtain ⟨j, hh, nx, e⟩ := hs.eta
  have h1 : args.map σ.get = xs := by rw [e]; exact hx j hh nx
  have h2 : lidsOf ((args ++ []).map σ.get) = [id] := by rw [List.append_nil, e]; exact hids j hh nx
  have hI : HI [(id, row)] (fun i => if i ∈ [id] then σ.h i else none) σ.nx := by
    refine ⟨fun p hp => ?_, by simp, fun p hp => ?_⟩
    · simp only [List.mem_singleton] at hp; subst hp
      simp only [List.mem_singleton, if_true]; exact hs.h k _ hks
    · simp only [List.mem_singleton] at hp; subst hp
      rcases hs.bd _ (List.mem_of_getElem? hks) with h | ⟨h, _⟩ <;> omega
  obtain ⟨ep', nx', h', ⟨n, hn⟩, _⟩ := hp σ.ep σ.nx _ hI
  have hnx := orc_nx hX n _ _ _ _ _ _ _ _ _ hn
  let σ1 : St := { t := σ.t, h := fun i => if i ∈ [id] ∨ σ.nx < i.2 then h' i else σ.h i, ep := σ.ep + ep' + 1, nx := nx' + 1 }
  have hk1 := hs.kill k hks
  have hne : ∀ p ∈ I.eraseIdx k, p.1 ≠ id := fun p hp e2 => by
    obtain ⟨m, hm⟩ := List.mem_iff_getElem?.1 hp
    have h3 := hk1.h m p hm
    rw [e2] at h3; simp [St.kill, St.setH] at h3
  have h3 : Hv L (I.eraseIdx k) [] (σ.ep + ep' + 1) σ1 :=
    { t := hs.t, ep := rfl, nd := hk1.nd
      h := fun m p hm => by
        have hp2 := List.mem_of_getElem? hm
        have h4 : ¬ σ.nx < p.1.2 := by rcases hk1.bd p hp2 with h | ⟨h, _⟩ <;> (have : (σ.kill id).nx = σ.nx := rfl; omega)
        have h5 := hk1.h m p hm
        simp only [St.kill, St.setH] at h5
        rw [if_neg (hne p hp2)] at h5
        show (if p.1 ∈ [id] ∨ σ.nx < p.1.2 then h' p.1 else σ.h p.1) = some p.2
        rw [if_neg (by simp only [List.mem_singleton, hne p hp2, h4, or_self, not_false_eq_true])]
        exact h5
      bd := fun p hp2 => by
        left
        show p.1.2 < nx' + 1
        rcases hk1.bd p hp2 with h | ⟨h, _⟩ <;> (have : (σ.kill id).nx = σ.nx := rfl; omega) }
  refine ⟨n, (σ1.newO d ⟨sz, es⟩).set d (.c (.sl (nm d 0, σ1.nx) 0 es.length)), ?_, hk _ _ _ (h3.add (by simp) ⟨sz, es⟩ _)⟩
  simp only [istep, h1, h2, lentCall, hn]
  rfl
end
end Go.Fw

/- Operations that may change places: those that change objects; the exchange. -/
import Derived.Test.YtmdddmjmppckhaaFwSwap2
namespace Go.Fw

def St.withT (σ : St) (t : Nat → SV) : St := { σ with t := t }

section
variable {σ τ σ' : St} {O : Orc} {t : Nat → SV}

theorem close1_withT {k : Nat} {c c' : Cell} (h : close1 k σ c = some (c', σ')) : close1 k (σ.withT t) c = some (c', σ'.withT t) := by
  cases c with
  | sl id off len =>
    simp only [close1] at h
    split at h
    · rename_i row hr
      split at h
      · rename_i hd
        split at h
        · rename_i hc
          simp only [Option.some.injEq, Prod.mk.injEq] at h
          obtain ⟨rfl, rfl⟩ := h
          simp only [close1, St.withT, hr, hd, if_true, if_pos hc]; rfl
        · rename_i hc
          split at h
          · rename_i hc2
            simp only [Option.some.injEq, Prod.mk.injEq] at h
            obtain ⟨rfl, rfl⟩ := h
            simp only [close1, St.withT, hr, hd, if_true, if_neg hc, if_pos hc2]; rfl
          · cases h
      · cases h
    · cases h
  | _ =>
    simp only [close1] at h
    first
      | (cases h; done)
      | (simp only [Option.some.injEq, Prod.mk.injEq] at h
         obtain ⟨rfl, rfl⟩ := h
         rfl)

theorem closeL_withT : ∀ {cs cs' : List Cell} {ks : List Nat} {σ σ' : St}, closeL σ ks cs = some (cs', σ') → closeL (σ.withT t) ks cs = some (cs', σ'.withT t)
  | [], _, _, _, _, h => by
    simp only [closeL, Option.some.injEq, Prod.mk.injEq] at h
    obtain ⟨rfl, rfl⟩ := h; rfl
  | c :: cs, cs', ks, σ, σ', h => by
    simp only [closeL] at h
    split at h
    · rename_i h1
      split at h
      · rename_i h2
        simp only [Option.some.injEq, Prod.mk.injEq] at h
        obtain ⟨rfl, rfl⟩ := h
        simp only [closeL, close1_withT h1, closeL_withT h2]
      · cases h
    · cases h

theorem closeL_t : ∀ {cs cs' : List Cell} {ks : List Nat} {σ σ' : St}, closeL σ ks cs = some (cs', σ') → σ'.t = σ.t
  | [], _, _, _, _, h => by
    simp only [closeL, Option.some.injEq, Prod.mk.injEq] at h
    rw [← h.2]
  | c :: cs, cs', ks, σ, σ', h => by
    simp only [closeL] at h
    split at h
    · rename_i h1
      split at h
      · rename_i h2
        simp only [Option.some.injEq, Prod.mk.injEq] at h
        rw [← h.2, closeL_t h2]
        unfold close1 at h1
        repeat' split at h1
        all_goals first
          | (cases h1; done)
          | (simp only [Option.some.injEq, Prod.mk.injEq] at h1; rw [← h1.2]; done)
          | (simp only [Option.some.injEq, Prod.mk.injEq] at h1; rw [← h1.2]; rfl)
      · cases h
    · cases h

theorem abase_withT {sz : Nat} {x : SV} {es : List (List Cell)} (h : abase σ sz x = some (es, σ')) : abase (σ.withT t) sz x = some (es, σ'.withT t) := by
  unfold abase at h ⊢
  split at h
  · simp only [Option.some.injEq, Prod.mk.injEq] at h
    obtain ⟨rfl, rfl⟩ := h; rfl
  · split at h
    · rename_i row hr
      split at h
      · rename_i hc
        simp only [Option.some.injEq, Prod.mk.injEq] at h
        obtain ⟨rfl, rfl⟩ := h
        simp only [St.withT, hr, if_pos hc]; rfl
      · cases h
    · cases h
  · cases h

theorem asrc_withT {sz : Nat} {move : Bool} {x : SV} {es : List (List Cell)} (h : asrc σ sz move x = some (es, σ')) : asrc (σ.withT t) sz move x = some (es, σ'.withT t) := by
  unfold asrc at h ⊢
  split at h
  · simp only [Option.some.injEq, Prod.mk.injEq] at h
    obtain ⟨rfl, rfl⟩ := h; rfl
  · split at h
    · rename_i hc
      simp only [Option.some.injEq, Prod.mk.injEq] at h
      obtain ⟨rfl, rfl⟩ := h
      rw [if_pos hc]
    · cases h
  · split at h
    · rename_i he
      split at h
      · rename_i hc
        simp only [Option.some.injEq, Prod.mk.injEq] at h
        obtain ⟨rfl, rfl⟩ := h
        rw [if_pos (show _ = (σ.withT t).ep from he), if_pos hc]
      · cases h
    · cases h
  · split at h
    · rename_i row hr
      have hr' : (σ.withT t).h _ = some row := hr
      simp only [hr']
      split at h
      · rename_i hc
        rw [if_pos hc]
        cases move with
        | true =>
          simp only [if_true] at h ⊢
          split at h
          · rename_i hc2
            simp only [Option.some.injEq, Prod.mk.injEq] at h
            obtain ⟨rfl, rfl⟩ := h
            rw [if_pos hc2]; rfl
          · cases h
        | false =>
          simp only [Bool.false_eq_true, if_false] at h ⊢
          split at h
          · rename_i hc2
            simp only [Option.some.injEq, Prod.mk.injEq] at h
            obtain ⟨rfl, rfl⟩ := h
            rw [if_pos hc2]
          · cases h
      · cases h
    · cases h
  · cases h

/-- The slots that a step leaves. -/
def stT (d : Option Nat) (x : SV) (t : Nat → SV) : Nat → SV := match d with
  | some d => fun s => if s = d then x else t s
  | none => t

theorem stT_set (d : Nat) (x : SV) : (σ.set d x).t = stT (some d) x σ.t := rfl

/-- A step that changes objects: the slots do no more than be read, and one written. -/
structure IsFrame (O : Orc) (σ σ' : St) (d : Option Nat) (ins : Ins) (x : SV) : Prop where
  t : σ'.t = stT d x σ.t
  at_ : ∀ t, (∀ s ∈ ins.rd, t s = σ.t s) → istep O (σ.withT t) d ins = some (σ'.withT (stT d x t))

theorem withT_get {o : Opd} (h : ∀ s ∈ opdRd o, t s = σ.t s) : (σ.withT t).get o = σ.get o := get_same (τ := σ.withT t) h

theorem land_withT {d : Nat} {rvs : List RV} (h : land σ d rvs = some σ') : ∃ x, σ'.t = stT (some d) x σ.t ∧ ∀ t, land (σ.withT t) d rvs = some (σ'.withT (stT (some d) x t)) := by
  rcases land_add (d := d) (rvs := rvs) (n := σ.nx) with hl | ⟨ρ, x, _, h2⟩
  · rw [hl σ rfl] at h; cases h
  · rw [h2 σ rfl] at h
    injection h with h; subst h
    exact ⟨x, rfl, fun t => by rw [h2 (σ.withT t) rfl]; rfl⟩

theorem aval_frame {d sz bytes : Nat} {move : Bool} {s q : Opd} (h : aval σ d sz bytes move s q = some σ') : ∃ x, σ'.t = stT (some d) x σ.t ∧ ∀ t, (∀ y ∈ opdRd s ++ opdRd q, t y = σ.t y) → aval (σ.withT t) d sz bytes move s q = some (σ'.withT (stT (some d) x t)) := by
  simp only [aval] at h
  split at h
  · rename_i es1 σ1 h1
    split at h
    · rename_i es2 σ2 h2
      split at h
      · rename_i hc
        injection h with h; subst h
        have t1 : σ1.t = σ.t := by
          unfold abase at h1
          repeat' split at h1
          all_goals first
            | (cases h1; done)
            | (simp only [Option.some.injEq, Prod.mk.injEq] at h1; rw [← h1.2]; done)
            | (simp only [Option.some.injEq, Prod.mk.injEq] at h1; rw [← h1.2]; rfl)
        have t2 : σ2.t = σ1.t := by
          unfold asrc at h2
          repeat' split at h2
          all_goals first
            | (cases h2; done)
            | (simp only [Option.some.injEq, Prod.mk.injEq] at h2; rw [← h2.2]; done)
            | (simp only [Option.some.injEq, Prod.mk.injEq] at h2; rw [← h2.2]; rfl)
        refine ⟨.c (.sl (nm d 0, σ.nx) 0 (es1.length + es2.length)), ?_, fun t ht => ?_⟩
        · rw [stT_set]; exact congrArg _ (t2.trans t1)
        · simp only [aval]
          rw [withT_get (fun x hx => ht x (by simp [hx])), withT_get (fun x hx => ht x (by simp [hx])), abase_withT h1]
          simp only [asrc_withT h2, if_pos hc]
          rfl
      · cases h
    · cases h
  · cases h

theorem abase_nx {σ σ' : St} {sz : Nat} {x : SV} {es : List (List Cell)} (h : abase σ sz x = some (es, σ')) : σ'.nx = σ.nx := by
  unfold abase at h
  repeat' split at h
  all_goals first
    | (cases h; done)
    | (simp only [Option.some.injEq, Prod.mk.injEq] at h; obtain ⟨_, rfl⟩ := h; rfl)
theorem asrc_nx {σ σ' : St} {sz : Nat} {m : Bool} {x : SV} {es : List (List Cell)} (h : asrc σ sz m x = some (es, σ')) : σ'.nx = σ.nx := by
  unfold asrc at h
  repeat' split at h
  all_goals first
    | (cases h; done)
    | (simp only [Option.some.injEq, Prod.mk.injEq] at h; obtain ⟨_, rfl⟩ := h; rfl)

/-- An append leaves objects of other rows. -/
theorem aval_far {d sz bytes : Nat} {move : Bool} {s q : Opd} (h : aval σ d sz bytes move s q = some σ') {id : Id} {row : Row} (hid : σ.h id = some row) (hsz : row.sz ≠ sz) (hn : id ≠ (nm d 0, σ.nx)) : σ'.h id = some row := by
  simp only [aval] at h
  split at h
  · rename_i es1 σ1 h1
    split at h
    · rename_i es2 σ2 h2
      split at h
      · injection h with h; subst h
        have kl : ∀ {τ : St} {i0 : Id} {r0 : Row}, τ.h i0 = some r0 → r0.sz = sz → τ.h id = some row → (τ.kill i0).h id = some row := fun {τ i0 r0} h0 hz hr => by
          simp only [St.kill, St.setH]
          rw [if_neg (fun e => by subst e; rw [h0] at hr; injection hr with hr; exact hsz (by rw [← hr]; exact hz))]
          exact hr
        have k1 : σ1.h id = some row := by
          unfold abase at h1
          split at h1
          · simp only [Option.some.injEq, Prod.mk.injEq] at h1; rw [← h1.2]; exact hid
          · split at h1
            · rename_i r0 hr0
              split at h1
              · rename_i hc
                simp only [Option.some.injEq, Prod.mk.injEq] at h1; rw [← h1.2]; exact kl hr0 hc.1 hid
              · cases h1
            · cases h1
          · cases h1
        have k2 : σ2.h id = some row := by
          unfold asrc at h2
          split at h2
          · simp only [Option.some.injEq, Prod.mk.injEq] at h2; rw [← h2.2]; exact k1
          · split at h2
            · simp only [Option.some.injEq, Prod.mk.injEq] at h2; rw [← h2.2]; exact k1
            · cases h2
          · split at h2
            · split at h2
              · simp only [Option.some.injEq, Prod.mk.injEq] at h2; rw [← h2.2]; exact k1
              · cases h2
            · cases h2
          · split at h2
            · rename_i r0 hr0
              split at h2
              · rename_i hc
                split at h2
                · split at h2
                  · simp only [Option.some.injEq, Prod.mk.injEq] at h2; rw [← h2.2]; exact kl hr0 hc.1 k1
                  · cases h2
                · split at h2
                  · simp only [Option.some.injEq, Prod.mk.injEq] at h2; rw [← h2.2]; exact k1
                  · cases h2
              · cases h2
            · cases h2
          · cases h2
        have n1 : σ1.nx = σ.nx := abase_nx h1
        have n2 : σ2.nx = σ1.nx := asrc_nx h2
        show (if id = (nm d 0, σ2.nx) then _ else σ2.h id) = _
        rw [if_neg (by rw [n2, n1]; exact hn)]
        exact k2
      · cases h
    · cases h
  · cases h

theorem istep_frame {ins : Ins} {d : Option Nat} (hk : ins.adds = false) (h : istep O σ d ins = some σ') : ∃ x, IsFrame O σ σ' d ins x := by
  cases ins with
  | q => simp [Ins.adds] at hk
  | qk => simp [Ins.adds] at hk
  | bslz => simp [Ins.adds] at hk
  | boxp => simp [Ins.adds] at hk
  | boxr => simp [Ins.adds] at hk
  | bslp => simp [Ins.adds] at hk
  | appz => simp [Ins.adds] at hk
  | call => simp [Ins.adds] at hk
  | m op =>
    cases op with
    | alloc => simp [Ins.adds] at hk
    | mks => simp [Ins.adds] at hk
    | box ks q =>
      simp only [istep] at h
      split at h
      · rename_i d
        simp only [mval] at h
        split at h
        · rename_i xs hxs
          split at h
          · rename_i cs σ1 hc
            injection h with h; subst h
            refine ⟨.c (.ad (nm d 0, σ.nx) 0 0), ?_, fun t ht => ?_⟩
            · rw [stT_set]; exact congrArg _ (show σ1.t = σ.t from closeL_t hc)
            · simp only [istep, mval]
              rw [withT_get ht, show (σ.withT t).ep = σ.ep from rfl, hxs]
              simp only [closeL_withT hc]
              rfl
          · cases h
        · cases h
      · cases h
    | bsl sz n zero parts ks =>
      simp only [istep] at h
      split at h
      · rename_i d
        simp only [mval] at h
        split at h
        · rename_i xs hxs
          split at h
          · rename_i cs σ1 hc
            injection h with h; subst h
            refine ⟨.c (.sl (nm d 0, σ.nx) 0 n), ?_, fun t ht => ?_⟩
            · rw [stT_set]; exact congrArg _ (show σ1.t = σ.t from closeL_t hc)
            · simp only [istep, mval]
              rw [fillC_same (τ := σ.withT t) (σ := σ) rfl ht, hxs]
              simp only [closeL_withT hc]
              rfl
          · cases h
        · cases h
      · cases h
  | st share n ks q v =>
    simp only [istep] at h
    split at h
    · simp only [sval] at h
      split at h
      · rename_i id i j xs hq hxs
        split at h
        · rename_i hn
          split at h
          · rename_i cs σ1 hc
            split at h
            · rename_i row hrow
              split at h
              · rename_i e he
                split at h
                · rename_i hj
                  injection h with h; subst h
                  have ht1 : σ1.t = σ.t := by
                    cases share with
                    | true =>
                      simp only [if_true] at hc
                      split at hc
                      · simp only [Option.some.injEq, Prod.mk.injEq] at hc; rw [← hc.2]
                      · cases hc
                    | false => exact closeL_t hc
                  refine ⟨.c .bad, ht1, fun t ht => ?_⟩
                  have hc' : (if share = true then (if xs.all okStore = true then some (xs, σ.withT t) else none) else closeL (σ.withT t) ks xs) = some (cs, σ1.withT t) := by
                    cases share with
                    | true =>
                      simp only [if_true] at hc ⊢
                      split at hc
                      · rename_i hc2
                        simp only [Option.some.injEq, Prod.mk.injEq] at hc
                        obtain ⟨rfl, rfl⟩ := hc
                        rw [if_pos hc2]
                      · cases hc
                    | false => exact closeL_withT hc
                  have hrow' : (σ1.withT t).h id = some row := hrow
                  simp only [istep, sval]
                  rw [withT_get (fun s hs => ht s (by simp [Ins.rd, hs])), withT_get (fun s hs => ht s (by simp [Ins.rd, hs])), hq, show (σ.withT t).ep = σ.ep from rfl, hxs]
                  simp only [hn, if_true, hc', hrow', he, hj]
                  rfl
                · cases h
              · cases h
            · cases h
          · cases h
        · cases h
      · cases h
    · cases h
  | app sz bytes move s q =>
    simp only [istep] at h
    split at h
    · rename_i d
      obtain ⟨x, h1, h2⟩ := aval_frame h
      exact ⟨x, h1, fun t ht => h2 t ht⟩
    · cases h
  | calll f args more =>
    simp only [istep] at h
    split at h
    · rename_i d
      obtain ⟨x, h1, h2⟩ := lent_frame h
      refine ⟨x, h1, fun t ht => ?_⟩
      simp only [istep]
      rw [args_same (τ := σ.withT t) (σ := σ) (args := args) (fun s hs => ht s (by simp only [Ins.rd, List.flatMap_append, List.mem_append]; exact .inl hs)), args_same (τ := σ.withT t) (σ := σ) (args := args ++ more) ht]
      exact h2 t
    · cases h
  | callv lent q args more =>
    cases lent with
    | false => simp [Ins.adds] at hk
    | true =>
      simp only [istep] at h
      split at h
      · rename_i d
        split at h
        · rename_i f caps hq
          simp only [if_true] at h
          obtain ⟨x, h1, h2⟩ := lent_frame h
          refine ⟨x, h1, fun t ht => ?_⟩
          simp only [istep]
          rw [withT_get (fun s hs => ht s (by simp [Ins.rd, hs])), hq]
          simp only [if_true]
          rw [args_same (τ := σ.withT t) (σ := σ) (args := args) (fun s hs => ht s (by simp only [Ins.rd, List.flatMap_append, List.mem_append]; exact .inr (.inl hs))), args_same (τ := σ.withT t) (σ := σ) (args := args ++ more) (fun s hs => ht s (by simp only [Ins.rd, List.mem_append]; exact .inr hs))]
          exact h2 t
        · cases h
      · cases h
where
  lent_frame {σ σ' : St} {d : Nat} {f : FuncId} {args : List SV} {L : List Id} (h : lentCall O σ d f args L = some σ') : ∃ x, σ'.t = stT (some d) x σ.t ∧ ∀ t, lentCall O (σ.withT t) d f args L = some (σ'.withT (stT (some d) x t)) := by
    unfold lentCall at h
    split at h
    · rename_i rvs ep' nx' h' hc
      obtain ⟨x, h1, h2⟩ := land_withT h
      refine ⟨x, h1, fun t => ?_⟩
      have := h2 t
      unfold lentCall
      simp only [St.withT] at this ⊢
      rw [hc]
      exact this
    · cases h

/-! ### The exchange -/
def gdRd : Option (Nat × Bool) → List Nat
  | some (g, _) => [g]
  | none => []
def RStep.rd (r : RStep) : List Nat := gdRd r.gd ++ r.ins.rd

/-- Does an append leave what the first looks at? -/
def far : Ins → Ins → Bool
  | .qk z _, .app sz .. => decide (z = sz)
  | _, _ => false
theorem far_some {i j : Ins} (h : far i j = true) : ∃ op sz bytes mv s x, i = .qk sz op ∧ j = .app sz bytes mv s x := by
  unfold far at h
  split at h
  · simp only [decide_eq_true_eq] at h; subst h; exact ⟨_, _, _, _, _, _, rfl, rfl⟩
  · cases h

theorem peek_still {a b : Nat} : ∀ {cs : List Cell}, cs.all Cell.still = true → cs.map (peek a) = cs.map (peek b)
  | [], _ => rfl
  | c :: cs, h => by
    simp only [List.all_cons, Bool.and_eq_true] at h
    have e : peek a c = peek b c := by
      have := h.1
      cases c <;> first | rfl | simp [Cell.still] at this
    rw [List.map_cons, List.map_cons, e, peek_still h.2]

/-- What is looked at stands behind the append as it stood. -/
theorem far_q {op : QO} {z : Nat} {σ τ : St} (hf : farOK σ z op = true) (ht : ∀ s ∈ op.rd, τ.t s = σ.t s) (hh : ∀ id row, σ.h id = some row → row.sz ≠ z → τ.h id = some row) {x : SV} (hx : qval σ op = some x) : farOK τ z op = true ∧ qval τ op = some x := by
  unfold farOK at hf
  split at hf
  · rename_i k
    have e : τ.t k = σ.t k := ht k (by simp [QO.rd, opdRd])
    simp only [qval, St.get, farOK, e] at hx ⊢
    refine ⟨hf, ?_⟩
    split at hf
    · rename_i e1; rw [e1] at hx ⊢; exact hx
    · rename_i e1; rw [e1] at hx ⊢; exact hx
    · cases hf
  · rename_i k
    have e : τ.t k = σ.t k := ht k (by simp [QO.rd, opdRd])
    simp only [qval, St.get, farOK, e] at hx ⊢
    refine ⟨hf, ?_⟩
    split at hf
    · rename_i e1; rw [e1] at hx ⊢; exact hx
    · rename_i e1; rw [e1] at hx ⊢; exact hx
    · cases hf
  · rename_i ag n k
    have e : τ.t k = σ.t k := ht k (by simp [QO.rd, opdRd])
    simp only [qval, St.get, farOK, e] at hx ⊢
    split at hf
    · rename_i id i j e1
      rw [e1] at hx ⊢
      split at hf
      · rename_i row hr
        simp only [Bool.and_eq_true, decide_eq_true_eq] at hf
        have hr2 := hh id row hr hf.1
        simp only [hr, hr2] at hx ⊢
        refine ⟨by simp only [Bool.and_eq_true, decide_eq_true_eq]; exact hf, ?_⟩
        have h3 := hf.2
        split at h3
        · rename_i el hel
          simp only [hel] at hx ⊢
          split at h3
          · rename_i cs hcs
            simp only [hcs] at hx ⊢
            rw [← hx]
            congr 1
            exact peek_still h3
          · cases h3
        · cases h3
      · cases hf
    · rename_i e1; rw [e1] at hx ⊢; exact ⟨rfl, hx⟩
    · cases hf
  · cases hf

/-- The first stands ahead of the second in the order that is told; may the second be taken first? -/
def indep (r1 r2 : RStep) : Bool :=
  (match r1.dst with | some d => !(r2.rd.contains d) && decide (r2.dst ≠ some d) | none => true) &&
  (match r2.dst with | some d => !(r1.rd.contains d) | none => true) &&
  (r1.ins.adds && r2.ins.adds && (r1.ins.quiet || !r2.ins.heap) || r1.ins.quiet && !r1.ins.heap && !r1.ins.ep || far r1.ins r2.ins)

theorem quiet_adds {i : Ins} (h : i.quiet = true) : i.adds = true := by
  cases i with
  | q => rfl
  | qk => rfl
  | _ => simp [Ins.quiet] at h

structure RLoc (O : Orc) (σ σ' : St) (r : RStep) (ρ : Hp) (x : SV) (hp ep nx : Bool) : Prop where
  names : ∀ id, ρ id ≠ none → ∃ dd j, r.dst = some dd ∧ j < 16 ∧ id = (nm dd j, σ.nx)
  is : σ' = (σ.add ρ).put r.dst x
  no : nx = false → ρ = noρ
  at_ : ∀ τ : St, (∀ s ∈ r.rd, τ.t s = σ.t s) → (ep = true → τ.ep = σ.ep) → (nx = true → τ.nx = σ.nx) → (hp = true → ∀ id r, σ.h id = some r → τ.h id = some r) → rstep O τ r = some ((τ.add ρ).put r.dst x)

theorem rguard_same {gd : Option (Nat × Bool)} (h : ∀ s ∈ gdRd gd, τ.t s = σ.t s) : rguard τ gd = rguard σ gd := by
  cases gd with
  | none => rfl
  | some p =>
    obtain ⟨g, want⟩ := p
    simp only [rguard, h g (by simp [gdRd])]

theorem rloc_wanted {r : RStep} (hg : rguard σ r.gd = some true) (h : istep O σ r.dst r.ins = some σ') (hadd : r.ins.adds = true) : ∃ ρ x, RLoc O σ σ' r ρ x r.ins.heap r.ins.ep (!r.ins.quiet) := by
  obtain ⟨ρ, x, hl⟩ := istep_loc hadd h
  refine ⟨ρ, x, hl.names, hl.is, fun hq => hl.quiet (by simpa using hq), fun τ h1 h2 h3 h4 => ?_⟩
  unfold rstep
  rw [rguard_same (σ := σ) (τ := τ) fun s hs => h1 s (by simp [RStep.rd, hs]), hg]
  exact hl.at_ τ (fun s hs => h1 s (by simp [RStep.rd, hs])) h2 (fun hq => h3 (by simpa using hq)) h4

theorem rloc_un {r : RStep} (hg : rguard σ r.gd = some false) : RLoc O σ (σ.put r.dst (.c .und)) r noρ (.c .und) false false false := by
  refine ⟨fun id hid => absurd rfl hid, rfl, fun _ => rfl, fun τ h1 _ _ _ => ?_⟩
  unfold rstep
  rw [rguard_same (σ := σ) (τ := τ) fun s hs => h1 s (by simp [RStep.rd, hs]), hg]
  rfl

theorem rstep_cases {r : RStep} (h : rstep O σ r = some σ') : (rguard σ r.gd = some true ∧ istep O σ r.dst r.ins = some σ') ∨ (rguard σ r.gd = some false ∧ σ' = σ.put r.dst (.c .und)) := by
  unfold rstep at h
  split at h
  · left; exact ⟨by assumption, h⟩
  · right; injection h with h; exact ⟨by assumption, h.symm⟩
  · cases h

theorem put_t (σ : St) (d : Option Nat) (x : SV) : (σ.put d x).t = stT d x σ.t := by cases d <;> rfl
theorem put_h (σ : St) (d : Option Nat) (x : SV) : (σ.put d x).h = σ.h := by cases d <;> rfl
theorem put_ep (σ : St) (d : Option Nat) (x : SV) : (σ.put d x).ep = σ.ep := by cases d <;> rfl
theorem put_nx (σ : St) (d : Option Nat) (x : SV) : (σ.put d x).nx = σ.nx := by cases d <;> rfl
theorem stT_ne {d : Option Nat} {x : SV} {s : Nat} (h : d ≠ some s) : stT d x t s = t s := by
  cases d with
  | none => rfl
  | some d => simp only [stT]; rw [if_neg (fun e => h (by rw [e]))]
theorem stT_comm {d1 d2 : Option Nat} {x1 x2 : SV} (h : ∀ d, d1 = some d → d2 ≠ some d) : stT d1 x1 (stT d2 x2 t) = stT d2 x2 (stT d1 x1 t) := by
  cases d1 with
  | none => rfl
  | some a =>
    cases d2 with
    | none => rfl
    | some b =>
      have hne : a ≠ b := fun e => h a rfl (by rw [e])
      funext s
      simp only [stT]
      by_cases h1 : s = a
      · subst h1; simp [hne]
      · simp [h1]

theorem swap_far {r1 r2 : RStep} {σ1 : St} (hk : far r1.ins r2.ins = true) (rd1 : ∀ s ∈ r1.rd, r2.dst ≠ some s) (rd2 : ∀ s ∈ r2.rd, r1.dst ≠ some s) (d12 : ∀ d, r1.dst = some d → r2.dst ≠ some d)
    (h1 : rstep O σ r1 = some σ1) (g2 : rguard σ1 r2.gd = some true) (h2 : istep O σ1 r2.dst r2.ins = some σ') (n2 : ∀ d k, r2.dst = some d → k < 16 → σ.h (nm d k, σ.nx) = none) :
    ∃ σ2, rstep O σ r2 = some σ2 ∧ rstep O σ2 r1 = some σ' := by
  obtain ⟨op, sz, bytes, mv, s, q, e1, e2⟩ := far_some hk
  -- the first changes one slot alone
  obtain ⟨x1, hs1, hat⟩ : ∃ x, σ1 = σ.put r1.dst x ∧ ∀ τ : St, (∀ s ∈ r1.rd, τ.t s = σ.t s) → (∀ y, farOK σ sz op = true → qval σ op = some y → farOK τ sz op = true ∧ qval τ op = some y) → rstep O τ r1 = some (τ.put r1.dst x) := by
    rcases rstep_cases h1 with ⟨g, hs⟩ | ⟨g, rfl⟩
    · rw [e1] at hs
      simp only [istep] at hs
      split at hs
      case isFalse => cases hs
      rename_i hf
      cases hq : qval σ op with
      | none => rw [hq] at hs; cases hs
      | some y =>
        rw [hq] at hs
        injection hs with hs
        refine ⟨y, hs.symm, fun τ hτ hqq => ?_⟩
        unfold rstep
        rw [rguard_same (σ := σ) (τ := τ) fun s hs => hτ s (by simp [RStep.rd, hs]), g, e1]
        obtain ⟨k1, k2⟩ := hqq y hf rfl
        simp only [istep, k1, k2, if_true]
    · refine ⟨_, rfl, fun τ hτ _ => ?_⟩
      unfold rstep
      rw [rguard_same (σ := σ) (τ := τ) fun s hs => hτ s (by simp [RStep.rd, hs]), g]
  have ht1 : σ1.t = stT r1.dst x1 σ.t := by rw [hs1, put_t]
  have hσ : σ1.withT σ.t = σ := by rw [hs1]; cases r1.dst <;> rfl
  have add2' : r2.ins.adds = false := by rw [e2]; rfl
  obtain ⟨x2, fr⟩ := istep_frame add2' h2
  have hr2 := fr.at_ σ.t fun s hs => by rw [ht1, stT_ne (rd2 s (by simp [RStep.rd, hs]))]
  rw [hσ] at hr2
  have hr2' := hr2
  rw [e2] at hr2'
  simp only [istep] at hr2'
  split at hr2'
  case h_2 => cases hr2'
  rename_i d hd
  refine ⟨σ'.withT (stT r2.dst x2 σ.t), ?_, ?_⟩
  · unfold rstep
    rw [rguard_same (σ := σ1) (τ := σ) fun s hs => by rw [ht1, stT_ne (rd2 s (by simp [RStep.rd, hs]))], g2]
    exact hr2
  · have hslot : ∀ s ∈ r1.rd, (σ'.withT (stT r2.dst x2 σ.t)).t s = σ.t s := fun s hs => by show stT r2.dst x2 σ.t s = σ.t s; rw [stT_ne (rd1 s hs)]
    rw [hat _ hslot fun y hf hy => far_q hf (fun s hs => hslot s (by simp [RStep.rd, e1, Ins.rd, hs])) (fun id row hid hz => by
        rw [hd] at hr2' ⊢
        exact aval_far hr2' hid hz (fun e => by rw [e, n2 d 0 hd (by omega)] at hid; cases hid)) hy]
    congr 1
    refine St.ext' ?_ ?_ ?_ ?_
    · rw [put_t, fr.t, ht1]; exact stT_comm d12
    · rw [put_h]; rfl
    · rw [put_ep]; rfl
    · rw [put_nx]; rfl

theorem swap_ok {r1 r2 : RStep} {σ1 : St} (hi : indep r1 r2 = true) (h1 : rstep O σ r1 = some σ1) (h2 : rstep O σ1 r2 = some σ')
    (n2 : ∀ d k, r2.dst = some d → k < 16 → σ.h (nm d k, σ.nx) = none) :
    ∃ σ2, rstep O σ r2 = some σ2 ∧ rstep O σ2 r1 = some σ' := by
  simp only [indep, Bool.and_eq_true] at hi
  obtain ⟨⟨hs1, hs2⟩, hk⟩ := hi
  have d12 : ∀ d, r1.dst = some d → r2.dst ≠ some d := fun d hd => by
    rw [hd] at hs1; simp only [Bool.and_eq_true, decide_eq_true_eq] at hs1; exact hs1.2
  have rd2 : ∀ s ∈ r2.rd, r1.dst ≠ some s := fun s hs hd => by
    rw [hd] at hs1; simp only [Bool.and_eq_true, Bool.not_eq_true', decide_eq_true_eq] at hs1
    have := hs1.1
    simp at this
    exact this hs
  have rd1 : ∀ s ∈ r1.rd, r2.dst ≠ some s := fun s hs hd => by
    rw [hd] at hs2; simp at hs2
    exact hs2 hs
  have locloc : ∀ {ρ1 ρ2 : Hp} {x1 x2 : SV} {a1 b1 c1 a2 b2 c2 : Bool}, RLoc O σ σ1 r1 ρ1 x1 a1 b1 c1 → RLoc O σ1 σ' r2 ρ2 x2 a2 b2 c2 → (a2 = true → ρ1 = noρ) → ∃ σ2, rstep O σ r2 = some σ2 ∧ rstep O σ2 r1 = some σ' := by
    intro ρ1 ρ2 x1 x2 a1 b1 c1 a2 b2 c2 l1 l2 hhp
    have e1 := l1.is
    have ht1 : σ1.t = stT r1.dst x1 σ.t := by rw [e1, put_t]; rfl
    have hnx1 : σ1.nx = σ.nx := by rw [e1, put_nx]; rfl
    have hep1 : σ1.ep = σ.ep := by rw [e1, put_ep]; rfl
    have hr2 := l2.at_ σ (fun s hs => by rw [ht1, stT_ne (rd2 s hs)]) (fun _ => hep1.symm) (fun _ => hnx1.symm) (fun hp id r hr => by
      rw [e1, put_h, hhp hp] at hr; exact hr)
    refine ⟨_, hr2, ?_⟩
    have hr1 := l1.at_ ((σ.add ρ2).put r2.dst x2) (fun s hs => by rw [put_t, stT_ne (rd1 s hs)]; rfl) (fun _ => by rw [put_ep]; rfl) (fun _ => by rw [put_nx]; rfl) (fun _ id r hr => by
      rw [put_h]
      show (match ρ2 id with | some r => some r | none => σ.h id) = some r
      cases hρ : ρ2 id with
      | none => exact hr
      | some r' =>
        obtain ⟨dd, j, h3, h4, h5⟩ := l2.names id (by rw [hρ]; simp)
        rw [h5, hnx1, n2 dd j h3 h4] at hr
        cases hr)
    rw [hr1, l2.is, e1]
    congr 1
    refine St.ext' ?_ ?_ ?_ ?_
    · simp only [put_t]
      show stT r1.dst x1 (((σ.add ρ2).put r2.dst x2)).t = stT r2.dst x2 ((σ.add ρ1).put r1.dst x1).t
      rw [put_t, put_t]
      exact stT_comm d12
    · simp only [put_h]
      funext id
      show (match ρ1 id with | some r => some r | none => ((σ.add ρ2).put r2.dst x2).h id) = (match ρ2 id with | some r => some r | none => ((σ.add ρ1).put r1.dst x1).h id)
      rw [put_h, put_h]
      show (match ρ1 id with | some r => some r | none => (match ρ2 id with | some r => some r | none => σ.h id)) = (match ρ2 id with | some r => some r | none => (match ρ1 id with | some r => some r | none => σ.h id))
      cases h3 : ρ1 id with
      | none => cases ρ2 id <;> rfl
      | some ra =>
        cases h4 : ρ2 id with
        | none => rfl
        | some rb =>
          obtain ⟨dd, j, k1, k2, k3⟩ := l1.names id (by rw [h3]; simp)
          obtain ⟨dd', j', m1, m2, m3⟩ := l2.names id (by rw [h4]; simp)
          rw [k3] at m3
          exact absurd (congrArg Prod.fst m3) (nm_ne (fun e => d12 dd k1 (by rw [m1, e])) m2 k2)
    · rw [put_ep, put_ep]; show ((σ.add ρ2).put r2.dst x2).ep = ((σ.add ρ1).put r1.dst x1).ep; rw [put_ep, put_ep]; rfl
    · rw [put_nx, put_nx]; show ((σ.add ρ2).put r2.dst x2).nx = ((σ.add ρ1).put r1.dst x1).nx; rw [put_nx, put_nx]; rfl
  have add1 : r1.ins.adds = true := by
    simp only [Bool.or_eq_true, Bool.and_eq_true] at hk
    rcases hk with (hk | hk) | hk
    · exact hk.1.1
    · exact quiet_adds hk.1.1
    · obtain ⟨op, _, _, _, _, _, e, _⟩ := far_some hk; rw [e]; rfl
  obtain ⟨ρ1, x1, a1, b1, c1, l1, hq1⟩ : ∃ ρ x a b c, RLoc O σ σ1 r1 ρ x a b c ∧ (r1.ins.quiet = true → ρ = noρ) := by
    rcases rstep_cases h1 with ⟨g, hs⟩ | ⟨g, rfl⟩
    · obtain ⟨ρ, x, l⟩ := rloc_wanted g hs add1
      exact ⟨ρ, x, _, _, _, l, fun hq => l.no (by rw [hq]; rfl)⟩
    · exact ⟨_, _, _, _, _, rloc_un g, fun _ => rfl⟩
  rcases rstep_cases h2 with ⟨g2, hs2'⟩ | ⟨g2, rfl⟩
  · by_cases add2 : r2.ins.adds = true
    · obtain ⟨ρ2, x2, l2⟩ := rloc_wanted g2 hs2' add2
      refine locloc l1 l2 fun ha => hq1 ?_
      simp only [Bool.or_eq_true, Bool.and_eq_true, Bool.not_eq_true'] at hk
      rcases hk with (⟨_, hk⟩ | hk) | hk
      · rcases hk with hk | hk
        · exact hk
        · rw [ha] at hk; cases hk
      · exact hk.1.1
      · obtain ⟨op, _, _, _, _, _, e, _⟩ := far_some hk; rw [e]; rfl
    · have add2' : r2.ins.adds = false := by simpa using add2
      simp only [add2', Bool.and_false, Bool.false_and, Bool.false_or, Bool.or_eq_true, Bool.and_eq_true, Bool.not_eq_true'] at hk
      rcases hk with hk | hk
      case inr => exact swap_far hk rd1 rd2 d12 h1 g2 hs2' n2
      obtain ⟨⟨q1, q2⟩, q3⟩ := hk
      obtain ⟨x2, fr⟩ := istep_frame add2' hs2'
      -- the first looks at slots alone
      obtain ⟨x1', hs1, hat1⟩ : ∃ x, σ1 = σ.put r1.dst x ∧ ∀ τ : St, (∀ s ∈ r1.rd, τ.t s = σ.t s) → rstep O τ r1 = some (τ.put r1.dst x) := by
        rcases rstep_cases h1 with ⟨g, hs⟩ | ⟨g, rfl⟩
        · obtain ⟨ρ, x, l⟩ := rloc_wanted g hs add1
          have hρ := l.no (by rw [q1]; rfl)
          subst hρ
          exact ⟨x, by rw [l.is, St.add_no], fun τ hτ => by
            have := l.at_ τ hτ (fun h => by rw [q3] at h; cases h) (fun h => by rw [q1] at h; cases h) (fun h => by rw [q2] at h; cases h)
            rwa [St.add_no] at this⟩
        · have l := rloc_un (O := O) g
          exact ⟨.c .und, rfl, fun τ hτ => by
            have := l.at_ τ hτ (by simp) (by simp) (by simp)
            rwa [St.add_no] at this⟩
      have ht1 : σ1.t = stT r1.dst x1' σ.t := by rw [hs1, put_t]
      have hσ : σ1.withT σ.t = σ := by rw [hs1]; cases r1.dst <;> rfl
      have hr2 := fr.at_ σ.t fun s hs => by rw [ht1, stT_ne (rd2 s (by simp [RStep.rd, hs]))]
      rw [hσ] at hr2
      refine ⟨σ'.withT (stT r2.dst x2 σ.t), ?_, ?_⟩
      · unfold rstep
        rw [rguard_same (σ := σ1) (τ := σ) fun s hs => by rw [ht1, stT_ne (rd2 s (by simp [RStep.rd, hs]))], g2]
        exact hr2
      · rw [hat1 _ fun s hs => by show stT r2.dst x2 σ.t s = σ.t s; rw [stT_ne (rd1 s hs)]]
        congr 1
        refine St.ext' ?_ ?_ ?_ ?_
        · rw [put_t, fr.t, ht1]; exact stT_comm d12
        · rw [put_h]; rfl
        · rw [put_ep]; rfl
        · rw [put_nx]; rfl
  · exact locloc l1 (rloc_un g2) (by simp)
end
end Go.Fw

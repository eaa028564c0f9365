/- Functions, and what calls of them come to. -/
import Derived.Test.YtmdddmjmppckhaaFwBlk
namespace Go.Fw

structure FI where
  nt : Nat
  na : Nat
  body : Blk
  res : List (RO × List Nat)

abbrev Tab := FuncId → Option FI

def begin (nt : Nat) (args : List SV) (ep nx : Nat) (h : Hp) : St :=
  { t := fun s => match args[s]? with
      | some x => x
      | none => if s < nt then .c .und else .c .bad
    h := h, ep := ep, nx := nx }

def fcall (O : Orc) (n : Nat) (fi : FI) (args : List SV) (ep nx : Nat) (h : Hp) : Option (List RV × Nat × Nat × Hp) :=
  if args.length = fi.na then
    match brun O fi.nt n fi.body (begin fi.nt args ep nx h) with
    | some (.exit _, _) => none
    | some (_, σ) => match takeRs σ fi.res with
      | some (rvs, σ') => some (rvs, σ'.ep, σ'.nx, σ'.h)
      | none => none
    | none => none
  else none

/-- What is known of calls, as deep as n; X: of functions that the table doesn't hold. -/
def orc (T : Tab) (X : Orc) : Nat → Orc
  | 0 => fun f args ep nx h => match T f with
    | some _ => none
    | none => X f args ep nx h
  | n + 1 => fun f args ep nx h => match T f with
    | some fi => fcall (orc T X n) n fi args ep nx h
    | none => X f args ep nx h

def FI.ok (P : Program) (f : FuncId) (fi : FI) : Bool :=
  match P.funcs[f]? with
  | some fn => (match fn.body with
    | some c => fi.body.ok P fi.nt c
    | none => false) && decide (fn.ntmps = fi.nt) && decide (fi.na ≤ fi.nt) && resOK P fi.nt fi.res fn.results.toList && !(fn.name == "runtime.NumGoroutine")
  | none => false

section
variable {P : Program} {V : Env} {σ σ' : St} {a : Act} {w w' : World} {G G' : Gh} {O : Orc}

def Callable (P : Program) (O : Orc) : Prop := ∀ f args ep nx h r, O f args ep nx h = some r → callable P f = true

theorem Vals.length {ep : Nat} {xs : List SV} {vs : List Value} (h : Vals G ep w xs vs) : xs.length = vs.length := by
  induction h <;> simp [*]
theorem Vals.get {ep : Nat} {xs : List SV} {vs : List Value} (h : Vals G ep w xs vs) : ∀ (k : Nat) (x : SV), xs[k]? = some x → ∃ v, vs[k]? = some v ∧ RS G ep w x v := by
  induction h with
  | nil => simp
  | cons h _ ih =>
    intro k x hk
    cases k with
    | zero => simp at hk; subst hk; exact ⟨_, rfl, h⟩
    | succ k => simpa using ih k x (by simpa using hk)

theorem fcall_ok {n : Nat} {f : FuncId} {fi : FI} (hm : P.follows .mixedOrders = true) (hO : Valid P O) (hC : Callable P O) (hfi : fi.ok P f = true) {args : List SV} {ep nx : Nat} {h : Hp} {rvs : List RV} {ep' nx' : Nat} {h' : Hp}
    (hc : fcall O n fi args ep nx h = some (rvs, ep', nx', h')) {E0 : Nat → Prop} {vs : List Value} (hs : Sim ⟨w, G.S, E0, 0⟩ (stub ep nx h) act0 w G) (hv : Vals G ep w args vs) :
    Calls P f vs.toArray w (callPost w G E0 ep nx ep' nx' h' rvs) := by
  unfold FI.ok at hfi
  split at hfi
  · rename_i fn hfn
    simp only [Bool.and_eq_true, decide_eq_true_eq] at hfi
    obtain ⟨⟨⟨⟨hbody, hnt⟩, hna⟩, hres⟩, _⟩ := hfi
    split at hbody
    · rename_i c hcb
      unfold fcall at hc
      split at hc
      · rename_i hlen
        refine calls_of_wp hfn hcb ?_
        let V : Env := ⟨w, G.S, E0, fi.nt⟩
        have hvl := hv.length
        have h0 : Sim V (begin fi.nt args ep nx h) { tmps := vs.toArray ++ Array.replicate (fn.ntmps - vs.toArray.size) undef, defers := [] } w G :=
          { size := by show _ = fi.nt; simp; omega
            defers := rfl
            slots := fun s hs2 => by
              simp only [begin]
              cases hx : args[s]? with
              | some x =>
                obtain ⟨v, hv1, hv2⟩ := hv.get s x hx
                have hlt := (List.getElem?_eq_some_iff.1 hv1).1
                have : (vs.toArray ++ Array.replicate (fn.ntmps - vs.toArray.size) undef).getD s undef = v := by
                  rw [Array.getD_eq_getD_getElem?, Array.getElem?_append_left (by simpa using hlt)]
                  simp [hv1]
                rw [this]; exact hv2
              | none =>
                have hge : args.length ≤ s := List.getElem?_eq_none_iff.1 hx
                have hs3 : s < fi.nt := hs2
                have : (vs.toArray ++ Array.replicate (fn.ntmps - vs.toArray.size) undef).getD s undef = undef := by
                  rw [Array.getD_eq_getD_getElem?, Array.getElem?_append_right (by simp; omega)]
                  rw [Array.getElem?_replicate]
                  split <;> rfl
                rw [this]
                simp only [hs3, if_true]
                exact .c (by simp [RX, RD])
            objs := hs.objs
            nodup := hs.nodup
            own := hs.own
            apart := hs.apart
            fresh := hs.fresh
            stable := hs.stable
            sOld := fun _ h => h
            sNew := fun _ h => .inl h
            kept := fun _ _ _ => rfl
            grow := Nat.le_refl _
            os := rfl
            tape := rfl
            output := rfl }
        have hat : At V nx G (begin fi.nt args ep nx h) { tmps := vs.toArray ++ Array.replicate (fn.ntmps - vs.toArray.size) undef, defers := [] } w := ⟨G, h0, fun _ _ => rfl, Nat.le_refl _⟩
        have fin : ∀ {e σ2}, brun O fi.nt n fi.body (begin fi.nt args ep nx h) = some (e, σ2) → (e = .normal ∨ e = .ret) → (match takeRs σ2 fi.res with | some (rvs, σ') => some (rvs, σ'.ep, σ'.nx, σ'.h) | none => none) = some (rvs, ep', nx', h') →
            c.wp P (bodyPost P fn (callPost w G E0 ep nx ep' nx' h' rvs)) { tmps := vs.toArray ++ Array.replicate (fn.ntmps - vs.toArray.size) undef, defers := [] } w := fun {e σ2} hr he ht => by
          refine wp_mono (brun_ok (V := V) hm hO hC fi.body c hbody hat hr) fun e' a' w' hq => ?_
          obtain ⟨rfl, G', hs', hμ, hnx⟩ := hq
          have post : a'.defers = [] ∧ ∃ v, (results fn a'.tmps).run P w' = .ok v w' ∧ callPost w G E0 ep nx ep' nx' h' rvs (.returned v) w' := by
            split at ht
            · rename_i rvs1 σ3 h3
              simp only [Option.some.injEq, Prod.mk.injEq] at ht
              obtain ⟨rfl, rfl, rfl, rfl⟩ := ht
              obtain ⟨us, F, hul, hrun, hrv, hown, hless, _⟩ := takeRs_ok hs' hres h3
              have hs3 := hs'.less hless
              refine ⟨hs'.defers, comb us, results_run (by simpa using hul.symm) hrun, G', us, F, rfl, by rw [hless.ep]; exact hrv, ?_, ⟨hown.nodup, hown.own, hown.apart⟩, hμ, by rw [hless.nx]; exact hnx⟩
              exact
                { size := rfl
                  defers := rfl
                  slots := fun s hs => absurd hs (by simp)
                  objs := hs3.objs
                  nodup := hs3.nodup
                  own := hs3.own
                  apart := hs3.apart
                  fresh := hs3.fresh
                  stable := hs3.stable
                  sOld := hs3.sOld
                  sNew := hs3.sNew
                  kept := hs3.kept
                  grow := hs3.grow
                  os := hs3.os
                  tape := hs3.tape
                  output := hs3.output }
            · cases ht
          rcases he with rfl | rfl
          · exact post
          · exact post
        split at hc
        · cases hc
        · rename_i e σ2 hne hr
          refine fin hr ?_ hc
          cases e with
          | normal => exact .inl rfl
          | ret => exact .inr rfl
          | exit id => exact (hne _ rfl).elim
        · cases hc
      · cases hc
    · cases hbody
  · cases hfi

theorem callable_of_ok {f : FuncId} {fi : FI} (h : fi.ok P f = true) : callable P f = true := by
  unfold FI.ok at h
  unfold callable
  split at h
  · rename_i fn hfn
    simp only [Bool.and_eq_true] at h
    rw [hfn]
    obtain ⟨⟨⟨⟨h1, _⟩, _⟩, _⟩, h2⟩ := h
    split at h1
    · rename_i c hc
      simp only [hc, Option.isSome_some, Bool.true_and]
      exact h2
    · cases h1
  · cases h

/-- What the machine says of calls is so. -/
theorem orc_ok {T : Tab} {X : Orc} (hm : P.follows .mixedOrders = true) (hT : ∀ f fi, T f = some fi → fi.ok P f = true) (hX : Valid P X) (hXC : Callable P X) : ∀ n, Valid P (orc T X n) ∧ Callable P (orc T X n)
  | 0 => by
    refine ⟨fun f args ep nx h rvs ep' nx' h' hc => ?_, fun f args ep nx h r hc => ?_⟩ <;> simp only [orc] at hc <;> split at hc
    · cases hc
    · exact hX f args ep nx h rvs ep' nx' h' hc
    · cases hc
    · exact hXC f args ep nx h r hc
  | n + 1 => by
    obtain ⟨h1, h2⟩ := orc_ok hm hT hX hXC n
    refine ⟨fun f args ep nx h rvs ep' nx' h' hc => ?_, fun f args ep nx h r hc => ?_⟩ <;> simp only [orc] at hc <;> split at hc
    · rename_i fi hfi
      exact fun w G E0 vs hs hv => fcall_ok hm h1 h2 (hT f fi hfi) hc hs hv
    · exact hX f args ep nx h rvs ep' nx' h' hc
    · rename_i fi hfi
      exact callable_of_ok (hT f fi hfi)
    · exact hXC f args ep nx h r hc
end
end Go.Fw

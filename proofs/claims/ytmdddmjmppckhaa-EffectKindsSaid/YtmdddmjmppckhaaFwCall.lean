/- Calls: what a call is told to be, and that it is so. -/
import Derived.Test.YtmdddmjmppckhaaFwRet
namespace Go.Fw

abbrev Hp := Id → Option Row
/-- What is known of calls: a function, its arguments, the epoch, the names, the objects that are lent. -/
abbrev Orc := FuncId → List SV → Nat → Nat → Hp → Option (List RV × Nat × Nat × Hp)

def stub (ep nx : Nat) (h : Hp) : St := { t := fun _ => .c .bad, h := h, ep := ep, nx := nx }
def act0 : Act := ⟨#[], []⟩

inductive Vals (G : Gh) (ep : Nat) (w : World) : List SV → List Value → Prop
  | nil : Vals G ep w [] []
  | cons {x : SV} {v : Value} {xs : List SV} {vs : List Value} : RS G ep w x v → Vals G ep w xs vs → Vals G ep w (x :: xs) (v :: vs)

/-- What stands behind a call. -/
structure Left (w w' : World) (G G' : Gh) (E0 : Nat → Prop) (ep nx ep' nx' : Nat) (h' : Hp) (rvs : List RV) (v : Value) (us : List Value) (F : List Nat) : Prop where
  val : v = comb us
  rvs : RVsR G' ep' w' rvs us F
  sim : Sim ⟨w, G.S, E0, 0⟩ (stub ep' nx' h') act0 w' G'
  own : OwnF ⟨w, G.S, E0, 0⟩ (stub ep' nx' h') w' G' F
  μ : ∀ i : Id, i.2 ≤ nx → G'.μ i = G.μ i
  nx : nx ≤ nx'

def callPost (w : World) (G : Gh) (E0 : Nat → Prop) (ep nx ep' nx' : Nat) (h' : Hp) (rvs : List RV) : Ending → World → Prop
  | .returned v, w' => ∃ G' us F, Left w w' G G' E0 ep nx ep' nx' h' rvs v us F
  | _, _ => False

def Valid (P : Program) (O : Orc) : Prop :=
  ∀ (f : FuncId) (args : List SV) (ep nx : Nat) (h : Hp) (rvs : List RV) (ep' nx' : Nat) (h' : Hp), O f args ep nx h = some (rvs, ep', nx', h') →
    ∀ (w : World) (G : Gh) (E0 : Nat → Prop) (vs : List Value), Sim ⟨w, G.S, E0, 0⟩ (stub ep nx h) act0 w G → Vals G ep w args vs →
      Calls P f vs.toArray w (callPost w G E0 ep nx ep' nx' h' rvs)

/-! ### What is borrowed -/
def bor1 (σ : St) : Cell → Option (Bool × Cell)
  | .sn e es => if e = σ.ep then some (true, .ro es) else none
  | .sa e cs j => if e = σ.ep then some (true, .ar cs j) else none
  | .sl id off len => match σ.h id with
    | some row => if off + len ≤ row.es.length ∧ dataRow row.es = true then some (true, .ro (frzRows (cutRow row.es off len))) else none
    | none => none
  | .ad id i j => match σ.h id with
    | some row => match row.es[i]? with
      | some e => if dataRow row.es = true then some (true, .ar (frzs e) j) else none
      | none => none
    | none => none
  | .fn f [] => some (false, .fn f [])
  | .fn _ (_ :: _) => none
  | .bad => none
  | .und => none
  | .z => some (false, .ro [])
  | .ow _ [] => some (false, .ro [])
  | .ow _ (_ :: _) => none
  | c => some (false, c)

def borCs (σ : St) : List Cell → Option (Bool × List Cell)
  | [] => some (false, [])
  | c :: cs => match bor1 σ c, borCs σ cs with
    | some (b, c'), some (b', cs') => some (b || b', c' :: cs')
    | _, _ => none

def borL (σ : St) : List SV → Option (Bool × List SV)
  | [] => some (false, [])
  | .c c :: xs => match bor1 σ c, borL σ xs with
    | some (b, c'), some (b', xs') => some (b || b', .c c' :: xs')
    | _, _ => none
  | .a cs :: xs => match borCs σ cs, borL σ xs with
    | some (b, cs'), some (b', xs') => some (b || b', .a cs' :: xs')
    | _, _ => none
  | .t _ :: _ => none

section
variable {P : Program} {V : Env} {σ σ' : St} {a : Act} {w w' : World} {G G' : Gh} {ep ep' : Nat}

def G0 (S : Nat → Prop) : Gh := { μ := fun _ => none, Fp := fun _ => [], S := S }

theorem bor1_ok (h : Sim V σ a w G) {c c' : Cell} {b : Bool} {v : Value} (hc : bor1 σ c = some (b, c')) (hx : RX G σ.ep w c v) :
    c'.live = false ∧ (b = false → RD w G.S c' v []) ∧ RD w (AllB w) c' v [] := by
  have up : ∀ {c v}, RD w G.S c v [] → RD w (AllB w) c v [] := fun h1 => RD_mono (fun b hb => ⟨h.stable b hb, rfl⟩) _ _ _ h1 (by simp)
  cases c with
  | sn e es =>
    simp only [bor1] at hc
    split at hc
    · rename_i he
      injection hc with hc
      obtain ⟨rfl, rfl⟩ : true = b ∧ Cell.ro es = c' := by simpa using hc
      exact ⟨rfl, by simp, hx.2 he⟩
    · cases hc
  | sa e cs j =>
    simp only [bor1] at hc
    split at hc
    · rename_i he
      injection hc with hc
      obtain ⟨rfl, rfl⟩ : true = b ∧ Cell.ar cs j = c' := by simpa using hc
      exact ⟨rfl, by simp, hx.2 he⟩
    · cases hc
  | sl id off len =>
    simp only [bor1] at hc
    split at hc
    · rename_i row hrow
      split at hc
      · rename_i hle
        obtain ⟨hle, hdata⟩ := hle
        injection hc with hc
        obtain ⟨rfl, rfl⟩ : true = b ∧ Cell.ro (frzRows (cutRow row.es off len)) = c' := by simpa using hc
        refine ⟨rfl, by simp, ?_⟩
        obtain ⟨l, hl, ho1, ho⟩ := h.objs id row hrow
        obtain ⟨l2, hl2, hv⟩ := hx
        rw [hl] at hl2; injection hl2 with hl2; subst hl2
        rw [cutRow_eq]
        simp only [RD]
        have hlen : (frzRows ((row.es.drop off).take len)).length = len := by rw [frzRows_eq]; simp; omega
        rcases hv with ⟨h1, h2, h3, h4⟩ | ⟨h1, h2, ad, h3⟩
        · rw [if_pos h1] at ho
          obtain ⟨cur, E, F', hh, _, hl3, hm, hF, hr⟩ := ho
          have hbl : ∀ x ∈ l.b :: F', AllB w x := fun x hx => (h.own id row hrow x (by rw [hF]; exact hx)).1
          refine ⟨trivial, _, _, by rw [hlen]; exact h4, by rw [hlen]; omega, fun _ => ⟨l.b, _, l.sz, rfl, hbl _ (by simp), ?_⟩⟩
          have h5 := RFRow_data hdata hr
          have h6 := RRow_frz (S' := AllB w) (fun b hb => h.stable b hb) l.b l.sz row.es l.o F' h5 (fun x hx => hbl x (by simp [hx]))
          have h7 := RRow_cut0 off len h6 (by rw [frzRows_eq]; simpa using hle)
          rw [frzRows_eq, ← List.map_drop, ← List.map_take, ← frzRows_eq] at h7
          exact h7
        · subst h2
          exact ⟨trivial, ad, 0, by rw [hlen]; exact h3, by rw [hlen]; omega, fun hne => absurd (List.eq_nil_of_length_eq_zero hlen) hne⟩
      · cases hc
    · cases hc
  | ad id i j =>
    simp only [bor1] at hc
    split at hc
    · rename_i row hrow
      split at hc
      · rename_i e he
        split at hc
        · rename_i hdata
          injection hc with hc
          obtain ⟨rfl, rfl⟩ : true = b ∧ Cell.ar (frzs e) j = c' := by simpa using hc
          refine ⟨rfl, by simp, ?_⟩
          obtain ⟨l2, hl2, hb2, hv⟩ := RX_ad hx
          obtain ⟨l, hl, ho1, ho⟩ := h.objs id row hrow
          rw [hl] at hl2; injection hl2 with hl2; subst hl2
          rw [if_pos hb2] at ho
          obtain ⟨cur, E, F', hh, _, hl3, hm, hF, hr⟩ := ho
          have hbl : ∀ x ∈ l.b :: F', AllB w x := fun x hx => (h.own id row hrow x (by rw [hF]; exact hx)).1
          have h5 := RFRow_data hdata hr
          have h6 := RRow_frz (S' := AllB w) (fun b hb => h.stable b hb) l.b l.sz row.es l.o F' h5 (fun x hx => hbl x (by simp [hx]))
          obtain ⟨_, h7⟩ := RRow_get h6 rfl i (frzs e) (by rw [frzRows_eq]; simp [he, frzs_eq])
          simp only [RD]
          exact ⟨trivial, l.b, _, hv, hbl _ (by simp), h7⟩
        · cases hc
      · cases hc
    · cases hc
  | fn f caps =>
    cases caps with
    | nil =>
      simp only [bor1] at hc
      injection hc with hc
      obtain ⟨rfl, rfl⟩ : false = b ∧ Cell.fn f [] = c' := by simpa using hc
      have h1 := (RX_plain (c := .fn f []) (by simp [Cell.live])).1 hx
      exact ⟨rfl, fun _ => h1, up h1⟩
    | cons => simp [bor1] at hc
  | bad => simp [bor1] at hc
  | und => simp [bor1] at hc
  | z =>
    simp only [bor1, Option.some.injEq, Prod.mk.injEq] at hc
    obtain ⟨rfl, rfl⟩ := hc
    have h1 : RD w G.S .z v [] := hx
    simp only [RD] at h1
    obtain ⟨⟨ad, hv⟩, _⟩ := h1
    have h2 : ∀ S, RD w S (.ro []) v [] := fun S => by simp only [RD]; exact ⟨trivial, ad, 0, by simpa using hv, by simp, fun h => absurd rfl h⟩
    exact ⟨rfl, fun _ => h2 _, h2 _⟩
  | ow sz es =>
    cases es with
    | cons => simp [bor1] at hc
    | nil =>
      simp only [bor1, Option.some.injEq, Prod.mk.injEq] at hc
      obtain ⟨rfl, rfl⟩ := hc
      have h1 : RD w G.S (.ow sz []) v [] := hx
      have h2 : ∃ ad, v = .slice ad 0 0 := by
        simp only [RD] at h1
        rcases h1 with ⟨_, _, h⟩ | ⟨b, o, cap, cur, E, F', _, _, _, _, _, hF, _⟩
        · exact h
        · cases hF
      obtain ⟨ad, hv⟩ := h2
      have h2 : ∀ S, RD w S (.ro []) v [] := fun S => by simp only [RD]; exact ⟨trivial, ad, 0, by simpa using hv, by simp, fun h => absurd rfl h⟩
      exact ⟨rfl, fun _ => h2 _, h2 _⟩
  | _ =>
    simp only [bor1] at hc
    injection hc with hc
    simp only [Prod.mk.injEq] at hc
    obtain ⟨rfl, rfl⟩ := hc
    have h1 : RD w G.S _ v [] := hx
    exact ⟨rfl, fun _ => h1, up h1⟩

theorem borCs_ok (h : Sim V σ a w G) : ∀ {cs : List Cell} {vs : List Value} {b : Bool} {cs' : List Cell}, borCs σ cs = some (b, cs') → RXs G σ.ep w cs vs →
    (b = false → RXs (G0 G.S) 0 w cs' vs) ∧ RXs (G0 (AllB w)) 0 w cs' vs
  | [], vs, b, cs', hc, hx => by
    cases hx
    simp only [borCs, Option.some.injEq, Prod.mk.injEq] at hc
    obtain ⟨rfl, rfl⟩ := hc
    exact ⟨fun _ => .nil, .nil⟩
  | c :: cs, _, b, cs', hc, .cons h1 h2 => by
    simp only [borCs] at hc
    split at hc
    · rename_i b1 c1 b2 cs2 e1 e2
      simp only [Option.some.injEq, Prod.mk.injEq] at hc
      obtain ⟨rfl, rfl⟩ := hc
      obtain ⟨hl, k1, k2⟩ := bor1_ok h e1 h1
      obtain ⟨m1, m2⟩ := borCs_ok h e2 h2
      refine ⟨fun hb => ?_, .cons ((RX_plain hl).2 k2) m2⟩
      simp only [Bool.or_eq_false_iff] at hb
      exact .cons ((RX_plain hl).2 (k1 hb.1)) (m1 hb.2)
    · cases hc

theorem borL_ok (h : Sim V σ a w G) : ∀ {xs : List SV} {vs : List Value} {b : Bool} {xs' : List SV}, borL σ xs = some (b, xs') → Vals G σ.ep w xs vs →
    (b = false → Vals (G0 G.S) 0 w xs' vs) ∧ Vals (G0 (AllB w)) 0 w xs' vs
  | [], vs, b, xs', hc, hx => by
    cases hx
    simp only [borL, Option.some.injEq, Prod.mk.injEq] at hc
    obtain ⟨rfl, rfl⟩ := hc
    exact ⟨fun _ => .nil, .nil⟩
  | .c c :: xs, _, b, xs', hc, .cons h1 h2 => by
    simp only [borL] at hc
    split at hc
    · rename_i b1 c1 b2 xs2 e1 e2
      simp only [Option.some.injEq, Prod.mk.injEq] at hc
      obtain ⟨rfl, rfl⟩ := hc
      obtain ⟨hl, k1, k2⟩ := bor1_ok h e1 (RS_c h1)
      obtain ⟨m1, m2⟩ := borL_ok h e2 h2
      refine ⟨fun hb => ?_, .cons (.c ((RX_plain hl).2 k2)) m2⟩
      simp only [Bool.or_eq_false_iff] at hb
      exact .cons (.c ((RX_plain hl).2 (k1 hb.1))) (m1 hb.2)
    · cases hc
  | .a cs :: xs, _, b, xs', hc, .cons h1 h2 => by
    simp only [borL] at hc
    split at hc
    · rename_i b1 c1 b2 xs2 e1 e2
      simp only [Option.some.injEq, Prod.mk.injEq] at hc
      obtain ⟨rfl, rfl⟩ := hc
      cases h1 with
      | a h1 =>
        obtain ⟨k1, k2⟩ := borCs_ok h e1 h1
        obtain ⟨m1, m2⟩ := borL_ok h e2 h2
        refine ⟨fun hb => ?_, .cons (.a k2) m2⟩
        simp only [Bool.or_eq_false_iff] at hb
        exact .cons (.a (k1 hb.1)) (m1 hb.2)
    · cases hc
  | .t _ :: _, _, _, _, hc, _ => by simp [borL] at hc

/-! ### What stands in the memory of nobody else -/
mutual
def Cell.noRo : Cell → Bool
  | .int .. | .bool .. | .str .. | .nilp | .nili | .nilf | .z => true
  | .ifc _ c => c.noRo
  | .fn _ caps => caps.isEmpty
  | .ow _ es => noRoRows es
  | .und | .ro _ | .ar .. | .sn .. | .sa .. | .sl .. | .ad .. | .bad => false
def noRoRows : List (List Cell) → Bool
  | [] => true
  | e :: es => noRos e && noRoRows es
def noRos : List Cell → Bool
  | [] => true
  | c :: cs => c.noRo && noRos cs
end

mutual
theorem RD_noRo {S S' : Nat → Prop} : ∀ (c : Cell) (v : Value) (F : List Nat), c.noRo = true → RD w S c v F → RD w S' c v F
  | .int .., _, _, _, h | .bool .., _, _, _, h | .str .., _, _, _, h | .nilp, _, _, _, h | .nili, _, _, _, h | .nilf, _, _, _, h | .fn .., _, _, _, h | .z, _, _, _, h => by
    simpa only [RD] using h
  | .ifc t c, v, F, hn, h => by
    simp only [RD] at h ⊢
    obtain ⟨e0, u, e, hu⟩ := h
    exact ⟨e0, u, e, RD_noRo c u [] (by simpa [Cell.noRo] using hn) hu⟩
  | .ow sz es, v, F, hn, h => by
    simp only [RD] at h ⊢
    rcases h with h | ⟨b, o, cap, cur, E, F', hv, hh, hcap, hle, hm, rfl, hrow⟩
    · exact .inl h
    · exact .inr ⟨b, o, cap, cur, E, F', hv, hh, hcap, hle, hm, rfl, RRow_noRo b sz es o F' (by simpa [Cell.noRo] using hn) hrow⟩
  | .und, _, _, hn, _ | .ro _, _, _, hn, _ | .ar .., _, _, hn, _ | .sn .., _, _, hn, _ | .sa .., _, _, hn, _ | .sl .., _, _, hn, _ | .ad .., _, _, hn, _ | .bad, _, _, hn, _ => by simp [Cell.noRo] at hn
theorem RRow_noRo {S S' : Nat → Prop} (b sz : Nat) : ∀ (es : List (List Cell)) (o : Nat) (F : List Nat), noRoRows es = true → RRow w S b sz o es F → RRow w S' b sz o es F
  | [], _, _, _, h => by simpa only [RRow] using h
  | e :: es, o, F, hn, h => by
    simp only [noRoRows, Bool.and_eq_true] at hn
    simp only [RRow] at h ⊢
    obtain ⟨hl, F1, F2, rfl, h1, h2⟩ := h
    exact ⟨hl, F1, F2, rfl, RCs_noRo b e o F1 hn.1 h1, RRow_noRo b sz es (o + sz) F2 hn.2 h2⟩
theorem RCs_noRo {S S' : Nat → Prop} (b : Nat) : ∀ (cs : List Cell) (k : Nat) (F : List Nat), noRos cs = true → RCs w S b k cs F → RCs w S' b k cs F
  | [], _, _, _, h => by simpa only [RCs] using h
  | c :: cs, k, F, hn, h => by
    simp only [noRos, Bool.and_eq_true] at hn
    simp only [RCs] at h ⊢
    obtain ⟨u, F1, F2, rfl, hu, h1, h2⟩ := h
    exact ⟨u, F1, F2, rfl, hu, RD_noRo c u F1 hn.1 h1, RCs_noRo b cs (k + 1) F2 hn.2 h2⟩
end

/-- A cell that comes back from a call which borrowed. -/
def sno (ep : Nat) : Cell → Option Cell
  | .ro es => some (.sn ep es)
  | .ar cs j => some (.sa ep cs j)
  | c => if c.noRo then some c else none

def snos (ep : Nat) : List Cell → Option (List Cell)
  | [] => some []
  | c :: cs => match sno ep c, snos ep cs with
    | some c', some cs' => some (c' :: cs')
    | _, _ => none

def snoRs (ep : Nat) : List RV → Option (List RV)
  | [] => some []
  | r :: rs => match snos ep r.2, snoRs ep rs with
    | some cs, some rs' => some ((r.1, cs) :: rs')
    | _, _ => none

def dataRs (rs : List RV) : Bool := rs.all fun r => r.2.all fun c => !c.live

def pureOf (O : Orc) (f : FuncId) (args : List SV) : Option (List RV) :=
  match O f args 0 0 (fun _ => none) with
  | some (rvs, _) => if dataRs rvs then some rvs else none
  | none => none

/-- What was handed back is laid down. -/
def land (σ : St) (d : Nat) (rvs : List RV) : Option St :=
  let r := openRs d 0 σ rvs
  if r.2.1 ≤ 16 then some (r.2.2.set d (combS r.1)) else none

def pureCall (O : Orc) (σ : St) (d : Nat) (f : FuncId) (args : List SV) : Option St :=
  match borL σ args with
  | some (b, xs) => match pureOf O f xs with
    | some rvs => match (if b then snoRs σ.ep rvs else some rvs) with
      | some rvs' => land σ d rvs'
      | none => none
    | none => none
  | none => none

def lentCall (O : Orc) (σ : St) (d : Nat) (f : FuncId) (args : List SV) (L : List Id) : Option St :=
  match O f args σ.ep σ.nx (fun id => if id ∈ L then σ.h id else none) with
  | some (rvs, ep', nx', h') => land { t := σ.t, h := fun id => if id ∈ L ∨ σ.nx < id.2 then h' id else σ.h id, ep := σ.ep + ep' + 1, nx := nx' + 1 } d rvs
  | none => none
end
end Go.Fw

/- One operation of a region. -/
import Derived.Test.YtmdddmjmppckhaaFwApp3
namespace Go.Fw

inductive Ins where
  | q (op : QO)
  | qk (z : Nat) (op : QO)
  | m (op : MO)
  | st (share : Bool) (n : Nat) (ks : List Nat) (x v : Opd)
  | app (sz bytes : Nat) (move : Bool) (s x : Opd)
  | appz (sz bytes : Nat) (s x : Opd)
  | bslz
  | boxp (x : Opd)
  | boxr (x : Opd)
  | bslp (sz n : Nat) (zero : List Cell) (parts : List (Nat × Nat × Opd))
  | call (f : FuncId) (args : List Opd)
  | calll (f : FuncId) (args : List Opd) (more : List Opd)
  | callv (lent : Bool) (x : Opd) (args : List Opd) (more : List Opd)

/-- A cell that is kept as it is. -/
def Cell.keep : Cell → Bool
  | .z | .sl .. | .sn .. | .sa .. | .bad | .und => false
  | _ => true

def cellIds : Cell → List Id
  | .sl id _ _ | .ad id _ _ => [id]
  | .fn _ caps => caps.flatMap fun | .ad id _ _ => [id] | _ => []
  | _ => []
def svIds : SV → List Id
  | .c c => cellIds c
  | .a cs => cs.flatMap cellIds
  | .t _ => []

def lidsOf (xs : List SV) : List Id := xs.flatMap svIds

/-- A cell that is read as it is, whatever the epoch. -/
def Cell.still : Cell → Bool
  | .ow .. => false
  | _ => true
/-- It looks at no object of rows of size z, and at nothing that passes. -/
def farOK (σ : St) (z : Nat) : QO → Bool
  | .nilck (.t k) | .fld _ (.t k) => (match σ.t k with | .c (.ad ..) | .c (.ar ..) => true | _ => false)
  | .load _ n (.t k) => (match σ.t k with
    | .c (.ad id i j) => (match σ.h id with
      | some row => decide (row.sz ≠ z) && (match row.es[i]? with
        | some e => (match cut e j n with | some cs => cs.all Cell.still | none => false)
        | none => false)
      | none => false)
    | .c (.ar ..) => true
    | _ => false)
  | _ => false

def istep (O : Orc) (σ : St) (d : Option Nat) : Ins → Option St
  | .q op => match qval σ op with
    | some x => some (σ.put d x)
    | none => none
  | .qk z op => if farOK σ z op then match qval σ op with
    | some x => some (σ.put d x)
    | none => none
    else none
  | .m op => match d with
    | some d => mval σ d op
    | none => none
  | .st share n ks x v => match d with
    | none => sval σ share n ks x v
    | some _ => none
  | .app sz bytes move s x => match d with
    | some d => aval σ d sz bytes move s x
    | none => none
  | .appz sz bytes s x => match d with
    | some d => azval σ d sz bytes s x
    | none => none
  | .bslz => match d with
    | some d => some (σ.set d (.c .z))
    | none => none
  | .boxp x => match d with
    | some d => match flat σ.ep (σ.get x) with
      | some xs => if xs.all Cell.keep then mval σ d (.box [] x) else none
      | none => none
    | none => none
  | .boxr x => match d with
    | some d => match flat σ.ep (σ.get x) with
      | some xs => if xs.all Cell.keep && xs.all (fun c => !c.live) then some (σ.set d (.c (.ar (frzs xs) 0))) else none
      | none => none
    | none => none
  | .bslp sz n zero parts => match d with
    | some d => match fillC σ parts ((List.replicate n zero).flatten) with
      | some xs => if xs.all Cell.keep then mval σ d (.bsl sz n zero parts []) else none
      | none => none
    | none => none
  | .call f args => match d with
    | some d => pureCall O σ d f (args.map σ.get)
    | none => none
  | .calll f args more => match d with
    | some d => lentCall O σ d f (args.map σ.get) (lidsOf ((args ++ more).map σ.get))
    | none => none
  | .callv lent x args more => match d with
    | some d => match σ.get x with
      | .c (.fn f caps) => if lent then lentCall O σ d f (args.map σ.get ++ caps.map .c) (lidsOf (.c (.fn f caps) :: (args ++ more).map σ.get)) else pureCall O σ d f (args.map σ.get ++ caps.map .c)
      | _ => none
    | none => none

def callable (P : Program) (f : FuncId) : Bool := match P.funcs[f]? with
  | some fn => fn.body.isSome && !(fn.name == "runtime.NumGoroutine")
  | none => false

def argsOK (N : Nat) (xs : List Opd) (ys : List Operand) : Bool := decide (xs.length = ys.length) && (xs.zip ys).all fun p => opdOK N p.1 p.2

def Ins.ok (P : Program) (N : Nat) (o : Oper) : Ins → Bool
  | .q op => op.ok P N o.op
  | .qk _ op => op.ok P N o.op
  | .m op => op.ok P N o.op
  | .st _ n _ x v => storeOK P N n x v o.op
  | .app sz bytes _ s x => appOK P N sz bytes s x o.op
  | .appz sz bytes s x => appOK P N sz bytes s x o.op
  | .bslz => bslzOK P o.op
  | .boxp x => MO.ok P N (.box [] x) o.op
  | .boxr x => MO.ok P N (.box [] x) o.op
  | .bslp sz n zero parts => MO.ok P N (.bsl sz n zero parts []) o.op
  | .call f args | .calll f args _ => match o.op with
    | .call { callee := .value (.func g), args := ys, .. } => decide (f = g) && argsOK N args ys.toList
    | _ => false
  | .callv _ x args _ => match o.op with
    | .call { callee := .value y, args := ys, .. } => opdOK N x y && argsOK N args ys.toList
    | _ => false

section
variable {P : Program} {V : Env} {σ σ' : St} {a : Act} {w w' : World} {G G' : Gh} {ep ep' : Nat} {O : Orc} {o : Oper}

theorem closeL_keep0 : ∀ {cs : List Cell}, cs.all Cell.keep = true → closeL σ [] cs = some (cs, σ)
  | [], _ => rfl
  | c :: cs, h => by
    simp only [List.all_cons, Bool.and_eq_true] at h
    have h1 : close1 0 σ c = some (c, σ) := by
      have := h.1
      cases c <;> simp [Cell.keep] at this <;> rfl
    simp only [closeL, List.headD_nil, h1, List.tail_nil, closeL_keep0 h.2]

/-- A variable that is never written: it is stable at once. -/
theorem step_boxr (h : Sim V σ a w G) {x : Opd} {xs : List Cell} {d : Nat} (hd : o.dst = some d) (hN : d < V.N) (hnew : ∀ k, k < 16 → G.μ (nm d k, σ.nx) = none) (hok : MO.ok P V.N (.box [] x) o.op = true)
    (hxs : flat σ.ep (σ.get x) = some xs) (hkp : xs.all Cell.keep = true) (hl : xs.all (fun c => !c.live) = true) (hs : σ.set d (.c (.ar (frzs xs) 0)) = σ') : Step P V σ σ' a w G o d := by
  have hm : mval σ d (.box [] x) = some ((σ.newO d ⟨xs.length, [xs]⟩).set d (.c (.ad (nm d 0, σ.nx) 0 0))) := by simp only [mval, hxs, closeL_keep0 hkp]
  obtain ⟨v, w', G1, hr, hs1, hμ1⟩ := step_box h hd hN hnew hok hm
  have hf : gval V.N ((σ.newO d ⟨xs.length, [xs]⟩).set d (.c (.ad (nm d 0, σ.nx) 0 0))) (.frz d) = some ((((σ.newO d ⟨xs.length, [xs]⟩).set d (.c (.ad (nm d 0, σ.nx) 0 0))).kill (nm d 0, σ.nx)).set d (.c (.ar (frzs xs) 0))) := by
    have h1 : ((σ.newO d ⟨xs.length, [xs]⟩).set d (.c (.ad (nm d 0, σ.nx) 0 0))).t d = .c (.ad (nm d 0, σ.nx) 0 0) := by simp [St.set]
    have h2 : ((σ.newO d ⟨xs.length, [xs]⟩).set d (.c (.ad (nm d 0, σ.nx) 0 0))).h (nm d 0, σ.nx) = some ⟨xs.length, [xs]⟩ := by simp [St.set, St.newO, St.setH]
    have h3 : dataRow [xs] = true := by simp only [dataRow, List.all_cons, List.all_nil, Bool.and_true]; exact hl
    simp only [gval, h1, h2, List.getElem?_cons_zero, h3, if_true]
  obtain ⟨G2, hs2, hμ2⟩ := ghost_frz hs1 hf
  have hnone : σ.h (nm d 0, σ.nx) = none := by
    cases hh : σ.h (nm d 0, σ.nx) with
    | none => rfl
    | some row =>
      obtain ⟨l, hl2, _⟩ := h.objs _ _ hh
      rw [hnew 0 (by omega)] at hl2; cases hl2
  have e : (((σ.newO d ⟨xs.length, [xs]⟩).set d (.c (.ad (nm d 0, σ.nx) 0 0))).kill (nm d 0, σ.nx)).set d (.c (.ar (frzs xs) 0)) = σ' := by
    rw [← hs]
    unfold St.set St.kill St.newO St.setH
    simp only [St.mk.injEq, and_true]
    constructor
    · funext s; by_cases hsd : s = d <;> simp [hsd]
    · funext i; by_cases hi : i = (nm d 0, σ.nx)
      · subst hi; simp [hnone]
      · simp [hi]
  rw [e] at hs2
  exact ⟨v, w', G2, hr, hs2, fun i hi => (hμ2 i hi).trans (hμ1 i hi)⟩

/-- What a step leaves. -/
structure Left' (V : Env) (σ σ' : St) (a' : Act) (w' : World) (G G' : Gh) (d : Option Nat) : Prop where
  sim : Sim V σ' a' w' G'
  μ : ∀ i : Id, i.2 < σ.nx → G'.μ i = G.μ i
  names : ∀ d' k, d ≠ some d' → k < 16 → G.μ (nm d' k, σ.nx) = none → G'.μ (nm d' k, σ'.nx) = none
  nx : σ.nx ≤ σ'.nx

theorem Stp.left {a' : Act} {d : Nat} (h : Stp V σ σ' a' w' G G' d) : Left' V σ σ' a' w' G G' (some d) :=
  ⟨h.sim, h.μ, fun d' k hd => h.names d' k (fun e => hd (by rw [e])), h.nx⟩

theorem left_of {a' : Act} {d : Option Nat} (hs : Sim V σ' a' w' G') (hnx : σ'.nx = σ.nx) (hμ : ∀ i : Id, (∀ dd k, d = some dd → k < 16 → i ≠ (nm dd k, σ.nx)) → G'.μ i = G.μ i) : Left' V σ σ' a' w' G G' d :=
  ⟨hs, fun i hi => hμ i fun dd k _ _ e => by rw [e] at hi; simp at hi, fun d' k hd hk hn => by
    rw [hnx, hμ _ fun dd k' hdd hk' e => nm_ne (fun e2 => hd (by rw [hdd, e2])) hk' hk (congrArg Prod.fst e)]; exact hn, by omega⟩

theorem step_left {d : Nat} (hd : o.dst = some d) (hnx : σ'.nx = σ.nx) (h : Step P V σ σ' a w G o d) {next : Act → World → Prop} {Q : Exit → Act → World → Prop} (hk : ∀ a' w' G', Left' V σ σ' a' w' G G' o.dst → next a' w') : o.wp P a w next Q := by
  obtain ⟨v, w', G', hr, hs, hμ⟩ := h
  have hl : Left' V σ σ' (a.put o.dst v) w' G G' o.dst := left_of hs hnx fun i hi => hμ i fun k hk => hi d k hd hk
  unfold Oper.wp
  rcases hr with hr | ⟨hr, rfl⟩
  · rw [hr]; exact hk _ _ _ hl
  · rw [hr]; exact hk _ _ _ hl

theorem mval_nx {d : Nat} {op : MO} (h : mval σ d op = some σ') : σ'.nx = σ.nx := by
  cases op <;> simp only [mval] at h
  case alloc => injection h with h; subst h; rfl
  case box ks x =>
    split at h
    · split at h
      · rename_i hc
        injection h with h; subst h
        have := closeL_nx hc
        exact this
      · cases h
    · cases h
  case bsl =>
    split at h
    · split at h
      · rename_i hc
        injection h with h; subst h
        have := closeL_nx hc
        exact this
      · cases h
    · cases h
  case mks =>
    split at h
    · split at h
      · injection h with h; subst h; rfl
      · cases h
    · cases h
where
  close1_nx {k : Nat} {σ σ' : St} {c c' : Cell} (h : close1 k σ c = some (c', σ')) : σ'.nx = σ.nx := by
    unfold close1 at h
    repeat' split at h
    all_goals first
      | (cases h; done)
      | (simp only [Option.some.injEq, Prod.mk.injEq] at h; rw [← h.2]; done)
      | (simp only [Option.some.injEq, Prod.mk.injEq] at h; rw [← h.2]; rfl)
  closeL_nx : ∀ {ks : List Nat} {cs cs' : List Cell} {σ σ' : St}, closeL σ ks cs = some (cs', σ') → σ'.nx = σ.nx
    | _, [], _, _, _, h => by simp only [closeL, Option.some.injEq, Prod.mk.injEq] at h; rw [← h.2]
    | ks, c :: cs, cs', σ, σ', h => by
      simp only [closeL] at h
      split at h
      · rename_i h1
        split at h
        · rename_i h2
          simp only [Option.some.injEq, Prod.mk.injEq] at h
          rw [← h.2, closeL_nx h2, close1_nx h1]
        · cases h
      · cases h

theorem aval_nx {d sz bytes : Nat} {move : Bool} {s x : Opd} (h : aval σ d sz bytes move s x = some σ') : σ'.nx = σ.nx := by
  have hb : ∀ {y es σ1}, abase σ sz y = some (es, σ1) → σ1.nx = σ.nx := fun {y es σ1} h => by
    unfold abase at h
    repeat' split at h
    all_goals first
      | (cases h; done)
      | (simp only [Option.some.injEq, Prod.mk.injEq] at h; rw [← h.2]; done)
      | (simp only [Option.some.injEq, Prod.mk.injEq] at h; rw [← h.2]; rfl)
  have hx : ∀ {y es σ1 σ2}, asrc σ1 sz move y = some (es, σ2) → σ2.nx = σ1.nx := fun {y es σ1 σ2} h => by
    unfold asrc at h
    repeat' split at h
    all_goals first
      | (cases h; done)
      | (simp only [Option.some.injEq, Prod.mk.injEq] at h; rw [← h.2]; done)
      | (simp only [Option.some.injEq, Prod.mk.injEq] at h; rw [← h.2]; rfl)
  unfold aval at h
  split at h
  · rename_i h1
    split at h
    · rename_i h2
      split at h
      · injection h with h; subst h
        exact (hx h2).trans (hb h1)
      · cases h
    · cases h
  · cases h

theorem azval_nx {d sz bytes : Nat} {s x : Opd} (h : azval σ d sz bytes s x = some σ') : σ'.nx = σ.nx := by
  unfold azval at h
  repeat' split at h
  all_goals first
    | (cases h; done)
    | (injection h with h; subst h; rfl)

theorem sval_nx {share : Bool} {n : Nat} {ks : List Nat} {x v : Opd} (h : sval σ share n ks x v = some σ') : σ'.nx = σ.nx := by
  unfold sval at h
  split at h
  · split at h
    · split at h
      · rename_i cs σ1 hc
        have h1 : σ1.nx = σ.nx := by
          cases share with
          | true =>
            simp only [if_true] at hc
            split at hc
            · simp only [Option.some.injEq, Prod.mk.injEq] at hc; rw [← hc.2]
            · cases hc
          | false => exact mval_nx.closeL_nx hc
        repeat' split at h
        all_goals first
          | (cases h; done)
          | (injection h with h; subst h; exact h1)
      · cases h
    · cases h
  · cases h

theorem vals_of (h : Sim V σ a w G) : ∀ {xs : List Opd} {ys : List Operand}, argsOK V.N xs ys = true → Vals G σ.ep w (xs.map σ.get) (ys.map a.eval)
  | [], [], _ => .nil
  | [], _ :: _, h => by simp [argsOK] at h
  | _ :: _, [], h => by simp [argsOK] at h
  | x :: xs, y :: ys, hok => by
    simp only [argsOK, List.length_cons, Nat.add_right_cancel_iff, List.zip_cons_cons, List.all_cons, Bool.and_eq_true, decide_eq_true_eq] at hok
    exact .cons (h.get hok.2.1) (vals_of h (by simp [argsOK, hok.1, hok.2.2]))

theorem Vals.append {xs ys : List SV} {us vs : List Value} (h : Vals G ep w xs us) (k : Vals G ep w ys vs) : Vals G ep w (xs ++ ys) (us ++ vs) := by
  induction h with
  | nil => exact k
  | cons h _ ih => exact .cons h ih

theorem vals_caps {f : FuncId} {caps : List Cell} {v : Value} (h : RX G ep w (.fn f caps) v) : ∃ vs : List Value, v = .func (.func f) #[] vs.toArray ∧ Vals G ep w (caps.map .c) vs := by
  obtain ⟨vs, hv, hl, hc⟩ := h
  refine ⟨vs, hv, ?_⟩
  clear hv
  induction caps generalizing vs with
  | nil =>
    have : vs = [] := List.eq_nil_of_length_eq_zero (by simpa using hl)
    subst this; exact .nil
  | cons c cs ih =>
    cases vs with
    | nil => simp at hl
    | cons u us =>
      refine .cons (.c ?_) (ih us (by simpa using hl) fun k c u h1 h2 => hc (k + 1) c u (by simpa using h1) (by simpa using h2))
      have := hc 0 c u rfl rfl
      cases c <;> simp only [RAd] at this
      exact this

theorem run_callFunc {f : FuncId} (hf : callable P f = true) (args : Array Value) : (callFunc f args).run P w = .ok (.enter f args) w := by
  unfold callable at hf
  split at hf
  · rename_i fn hfn
    simp only [Bool.and_eq_true, Bool.not_eq_true'] at hf
    obtain ⟨h1, h2⟩ := hf
    have h3 : fn.body ≠ none := by intro h; simp [h] at h1
    have h4 : fn.name ≠ "runtime.NumGoroutine" := by simpa using h2
    simp [callFunc, go_sem, hfn, h4, h3]
  · cases hf

theorem tells_q {x : SV} {op : QO} (h : Sim V σ a w G) (hok : op.ok P V.N o.op = true) (hx : qval σ op = some x) : Tells P σ a w G o x := by
  cases op with
  | mv => exact tells_mv h hok hx
  | pick => exact tells_pick h hok hx
  | nilck => exact tells_nilck h hok hx
  | bin => exact tells_bin h hok hx
  | eqb => exact tells_eqb h hok hx
  | eqi => exact tells_eqi h hok hx
  | eqa => exact tells_eqa h hok hx
  | not => exact tells_not h hok hx
  | conv => exact tells_conv h hok hx
  | mkI => exact tells_mkI h hok hx
  | mkF => exact tells_mkF h hok hx
  | fld => exact tells_fld h hok hx
  | idx => exact tells_idx h hok hx
  | idxA => exact tells_idxA h hok hx
  | load => exact tells_load h hok hx
  | ext => exact tells_ext h hok hx
  | len => exact tells_len h hok hx
  | lenS => exact tells_lenS h hok hx
  | min => exact tells_min h hok hx
  | build => exact tells_build h hok hx
  | slc => exact tells_slc h hok hx
  | fldv => exact tells_fldv h hok hx
  | idxv => exact tells_idxv h hok hx

theorem istep_ok (hO : Valid P O) (hC : ∀ f args ep nx h r, O f args ep nx h = some r → callable P f = true) (h : Sim V σ a w G) {ins : Ins} (hN : ∀ d, o.dst = some d → d < V.N)
    (hnew : ∀ d, o.dst = some d → ∀ k, k < 16 → G.μ (nm d k, σ.nx) = none) (hok : ins.ok P V.N o = true) (hs : istep O σ o.dst ins = some σ')
    {next : Act → World → Prop} {Q : Exit → Act → World → Prop} (hk : ∀ a' w' G', Left' V σ σ' a' w' G G' o.dst → next a' w') : o.wp P a w next Q := by
  have pcall : ∀ {d f args vs}, o.dst = some d → Vals G σ.ep w args vs → (execOp a.eval o).run P w = (callFunc f vs.toArray).run P w → pureCall O σ d f args = some σ' → o.wp P a w next Q := fun {d f args vs} hd hv he hc => by
    have hcf : callable P f = true := by
      unfold pureCall at hc
      split at hc
      · split at hc
        · rename_i hp
          unfold pureOf at hp
          split at hp
          · rename_i h1; exact hC _ _ _ _ _ _ h1
          · cases hp
        · cases hc
      · cases hc
    unfold Oper.wp
    rw [he, run_callFunc hcf]
    rw [Oper.upon_enter]
    refine Calls.mono (pureCall_ok hO h (hN d hd) hv (hnew d hd) hc) fun e w' he => ?_
    cases e with
    | returned v => obtain ⟨G', hst⟩ := he; exact hk _ _ G' (by rw [hd]; exact hst.left)
    | panicked => exact he.elim
    | outgrown => exact he.elim
  have lcall : ∀ {d f args vs L}, o.dst = some d → Vals G σ.ep w args vs → (execOp a.eval o).run P w = (callFunc f vs.toArray).run P w → lentCall O σ d f args L = some σ' → o.wp P a w next Q := fun {d f args vs L} hd hv he hc => by
    have hcf : callable P f = true := by
      unfold lentCall at hc
      split at hc
      · rename_i h1; exact hC _ _ _ _ _ _ h1
      · cases hc
    unfold Oper.wp
    rw [he, run_callFunc hcf]
    rw [Oper.upon_enter]
    refine Calls.mono (lentCall_ok hO h (hN d hd) hv hc) fun e w' he => ?_
    cases e with
    | returned v => obtain ⟨G', hst⟩ := he; exact hk _ _ G' (by rw [hd]; exact hst.left)
    | panicked => exact he.elim
    | outgrown => exact he.elim
  cases ins with
  | q op =>
    simp only [istep] at hs
    split at hs
    · rename_i x hx
      injection hs with hs; subst hs
      obtain ⟨v, hr, hv⟩ := tells_q h hok hx
      have hl : Left' V σ (σ.put o.dst x) (a.put o.dst v) w G G o.dst := by
        refine left_of ?_ ?_ fun i _ => rfl
        · cases hd : o.dst with
          | none => exact h
          | some d => exact h.set (hN d hd) hv
        · cases o.dst <;> rfl
      unfold Oper.wp
      rw [hr]
      exact hk _ _ _ hl
    · cases hs
  | qk z op =>
    simp only [istep] at hs
    split at hs
    case isFalse => cases hs
    split at hs
    · rename_i x hx
      injection hs with hs; subst hs
      obtain ⟨v, hr, hv⟩ := tells_q h hok hx
      have hl : Left' V σ (σ.put o.dst x) (a.put o.dst v) w G G o.dst := by
        refine left_of ?_ ?_ fun i _ => rfl
        · cases hd : o.dst with
          | none => exact h
          | some d => exact h.set (hN d hd) hv
        · cases o.dst <;> rfl
      unfold Oper.wp
      rw [hr]
      exact hk _ _ _ hl
    · cases hs
  | m op =>
    simp only [istep] at hs
    split at hs
    · rename_i d hd
      refine step_left hd (mval_nx hs) ?_ hk
      cases op with
      | alloc zs => exact step_alloc h hd (hN d hd) (hnew d hd) hok hs
      | box ks x => exact step_box h hd (hN d hd) (hnew d hd) hok hs
      | bsl sz n zero parts ks => exact step_bsl h hd (hN d hd) (hnew d hd) hok hs
      | mks bytes zero n => exact step_mks h hd (hN d hd) (hnew d hd) hok hs
    · cases hs
  | st share n ks x v =>
    simp only [istep] at hs
    split at hs
    · rename_i hd
      obtain ⟨w', G', hr, hsim, hμ⟩ := step_store h hd hok hs
      have hl : Left' V σ σ' (a.put o.dst undef) w' G G' o.dst := left_of (by rw [hd]; exact hsim) (sval_nx hs) fun i _ => by rw [hμ]
      unfold Oper.wp
      rw [hr]
      exact hk _ _ _ hl
    · cases hs
  | app sz bytes move s x =>
    simp only [istep] at hs
    split at hs
    · rename_i d hd
      exact step_left hd (aval_nx hs) (step_app h hd (hN d hd) (hnew d hd) hok hs) hk
    · cases hs
  | appz sz bytes s x =>
    simp only [istep] at hs
    split at hs
    · rename_i d hd
      exact step_left hd (azval_nx hs) (step_appz h hd (hN d hd) (hnew d hd) hok hs) hk
    · cases hs
  | bslz =>
    simp only [istep] at hs
    split at hs
    · rename_i d hd
      injection hs with hs; subst hs
      exact step_left (σ := σ) hd (rfl : (σ.set d (.c .z)).nx = σ.nx) (step_bslz h hd (hN d hd) hok) hk
    · cases hs
  | boxp x =>
    simp only [istep] at hs
    split at hs
    · rename_i d hd
      split at hs
      · split at hs
        · exact step_left hd (mval_nx hs) (step_box h hd (hN d hd) (hnew d hd) hok hs) hk
        · cases hs
      · cases hs
    · cases hs
  | boxr x =>
    simp only [istep] at hs
    split at hs
    · rename_i d hd
      split at hs
      · rename_i xs hxs
        split at hs
        · rename_i hkp
          simp only [Bool.and_eq_true] at hkp
          injection hs with hs
          exact step_left hd (by rw [← hs]; rfl) (step_boxr h hd (hN d hd) (hnew d hd) hok hxs hkp.1 hkp.2 hs) hk
        · cases hs
      · cases hs
    · cases hs
  | bslp sz n zero parts =>
    simp only [istep] at hs
    split at hs
    · rename_i d hd
      split at hs
      · split at hs
        · exact step_left hd (mval_nx hs) (step_bsl h hd (hN d hd) (hnew d hd) hok hs) hk
        · cases hs
      · cases hs
    · cases hs
  | call f args =>
    simp only [istep] at hs
    split at hs
    · rename_i d hd
      obtain ⟨dst, op, ty, pos, aft, gd⟩ := o
      simp only [Ins.ok] at hok
      split at hok
      · rename_i _ g ys ats
        simp only [Bool.and_eq_true, decide_eq_true_eq] at hok
        obtain ⟨rfl, hargs⟩ := hok
        refine pcall hd (vals_of h hargs) ?_ hs
        have : (ys.map a.eval) = (ys.toList.map a.eval).toArray := Array.ext' (by simp)
        rw [← this, show execOp a.eval ⟨dst, .call ⟨.value (.func f), ys, ats⟩, ty, pos, aft, gd⟩ = callFunc f (#[] ++ ys.map a.eval ++ #[]) from rfl]
        simp
      · cases hok
    · cases hs
  | calll f args more =>
    simp only [istep] at hs
    split at hs
    · rename_i d hd
      obtain ⟨dst, op, ty, pos, aft, gd⟩ := o
      simp only [Ins.ok] at hok
      split at hok
      · rename_i _ g ys ats
        simp only [Bool.and_eq_true, decide_eq_true_eq] at hok
        obtain ⟨rfl, hargs⟩ := hok
        refine lcall hd (vals_of h hargs) ?_ hs
        have : (ys.map a.eval) = (ys.toList.map a.eval).toArray := Array.ext' (by simp)
        rw [← this, show execOp a.eval ⟨dst, .call ⟨.value (.func f), ys, ats⟩, ty, pos, aft, gd⟩ = callFunc f (#[] ++ ys.map a.eval ++ #[]) from rfl]
        simp
      · cases hok
    · cases hs
  | callv lent x args more =>
    simp only [istep] at hs
    split at hs
    · rename_i d hd
      split at hs
      · rename_i f caps hx
        obtain ⟨dst, op, ty, pos, aft, gd⟩ := o
        simp only [Ins.ok] at hok
        split at hok
        · rename_i _ y ys ats
          simp only [Bool.and_eq_true] at hok
          obtain ⟨hxo, hargs⟩ := hok
          have hg := h.get hxo
          rw [hx] at hg
          obtain ⟨vs, hv, hvc⟩ := vals_caps (RS_c hg)
          have hrun : (execOp a.eval ⟨dst, .call ⟨.value y, ys, ats⟩, ty, pos, aft, gd⟩).run P w = (callFunc f (ys.toList.map a.eval ++ vs).toArray).run P w := by
            have : (ys.map a.eval) = (ys.toList.map a.eval).toArray := Array.ext' (by simp)
            rw [show execOp a.eval ⟨dst, .call ⟨.value y, ys, ats⟩, ty, pos, aft, gd⟩ = (do let d ← Deferred.ofValue (a.eval y) (ys.map a.eval); invoke d.target d.args) from rfl, hv,
              show (do let d ← Deferred.ofValue (.func (.func f) #[] vs.toArray) (ys.map a.eval); invoke d.target d.args) = callFunc f (#[] ++ ys.map a.eval ++ vs.toArray) from rfl, this]
            simp
          cases lent with
          | true =>
            simp only [if_true] at hs
            exact lcall hd ((vals_of h hargs).append hvc) hrun hs
          | false =>
            simp only [Bool.false_eq_true, if_false] at hs
            exact pcall hd ((vals_of h hargs).append hvc) hrun hs
        · cases hok
      · cases hs
    · cases hs
end
end Go.Fw

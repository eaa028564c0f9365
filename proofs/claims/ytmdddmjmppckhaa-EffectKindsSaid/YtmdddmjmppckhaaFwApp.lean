/- append. -/
import Derived.Test.YtmdddmjmppckhaaFwStore
namespace Go.Fw

section
variable {P : Program} {V : Env} {σ σ' : St} {a : Act} {w w' : World} {G G' : Gh} {ep ep' : Nat}

/-! ### What Go's append comes to -/
section
variable {t ty e : TypeId} {i : TypeInfo} {z : Value} (ht : P.underlying t = some (.slice e)) (hi : P.info? e = some i)
include ht hi

theorem run_app_grow (hz : i.zero = some z) (base xa : Option Addr) (sLen sCap n xc : Nat) (olds news : Array Value)
    (hfo : (Builtin.firstCells i.size sLen (.slice base sLen sCap)).run P w.drew = .ok olds w.drew) (hf : (Builtin.firstCells i.size n (.slice xa n xc)).run P w.drew = .ok news w.drew)
    (hg : sCap < sLen + n) (h63 : sLen + n ≤ 9223372036854775807) (hfit : (sLen + n) * i.bytes ≤ 140737488355328) :
    (Builtin.append_ #[t, t] ty #[.slice base sLen sCap, .slice xa n xc]).run P w =
      .ok (.slice (some ⟨w.heap.size, 0, none⟩) (sLen + n) (grownCap w (sLen + n) sCap e))
        (w.drew.alloc (.cells (olds ++ news ++ Builtin.zeroCells z.cells (grownCap w (sLen + n) sCap e - (sLen + n))) e)) := by
  have hn : ¬ (sLen + n ≤ sCap) := by omega
  have h63' : ¬ (9223372036854775807 < ((sLen : Int) + (n : Int))) := by omega
  have h48 := growslice_fits hg hfit
  have h48' : ¬ (281474976710656 < Builtin.nextslicecap (sLen + n) sCap * i.bytes) := by omega
  simp [Builtin.append_, run_underlying ht, sizeOf, typeInfo, zeroValue, hi, hz, Builtin.lenOf, hn, h63', h48', Question.forced, hf, hfo, newRow, grownCap]

theorem run_app_room (g o sLen sCap n xc : Nat) (xa : Option Addr) (vs : List Value) (cur : Array Value) (E : TypeId) (hg : w.heap[g]? = some (.cells cur E (0, 0)))
    (hf : (Builtin.firstCells i.size n (.slice xa n xc)).run P w = .ok vs.toArray w) (h1 : ∀ u ∈ vs, u.oneCell' = true) (hroom : sLen + n ≤ sCap) (hfit : o + sLen * i.size + vs.length ≤ cur.size) :
    (Builtin.append_ #[t, t] ty #[.slice (some ⟨g, o, none⟩) sLen sCap, .slice xa n xc]).run P w =
      .ok (.slice (some ⟨g, o, none⟩) (sLen + n) sCap) (w.setRow g (cur.toList.take (o + sLen * i.size) ++ vs ++ cur.toList.drop (o + sLen * i.size + vs.length)).toArray) := by
  have hst := run_storeCells_at P g (o + sLen * i.size) E vs 0 cur w hg (by simpa using hfit) h1
  simp only [Nat.add_zero] at hst
  simp [Builtin.append_, run_underlying ht, sizeOf, typeInfo, hi, Builtin.lenOf, hroom, hf, addr_add, hst]

theorem run_app_none (base xa : Option Addr) (xc : Nat) :
    (Builtin.append_ #[t, t] ty #[.slice base 0 0, .slice xa 0 xc]).run P w = .ok (.slice base 0 0) w := by
  have hf : (Builtin.firstCells i.size 0 (.slice xa 0 xc)).run P w = .ok #[] w := by
    cases xa <;> simp [Builtin.firstCells, loadCells, loadCellsFrom]
  cases base <;> simp [Builtin.append_, run_underlying ht, sizeOf, typeInfo, hi, Builtin.lenOf, hf, storeCells]
end

theorem RFRow_append {b sz : Nat} : ∀ {es ds : List (List Cell)} {k : Nat} {F F' : List Nat}, RFRow G ep w b sz k es F → RFRow G ep w b sz (k + es.length * sz) ds F' → RFRow G ep w b sz k (es ++ ds) (F ++ F')
  | [], ds, k, F, F', h, h' => by obtain rfl : F = [] := h; simpa using h'
  | e :: es, ds, k, F, F', h, h' => by
    obtain ⟨hl, F1, F2, rfl, h1, h2⟩ := h
    refine ⟨hl, F1, F2 ++ F', by simp, h1, RFRow_append h2 ?_⟩
    rw [show k + sz + es.length * sz = k + (e :: es).length * sz by simp [Nat.add_mul]; omega]
    exact h'

/-- The values of a row. -/
theorem RFs_vals {b : Nat} : ∀ {cs : List Cell} {k : Nat} {F : List Nat}, RFs G ep w b k cs F → ∃ vs : List Value, vs.length = cs.length ∧ (∀ (i : Nat) (v : Value), vs[i]? = some v → w.cell? ⟨b, k + i, none⟩ = some v) ∧ RFL G ep w cs vs F
  | [], k, F, h => ⟨[], rfl, by simp, h⟩
  | c :: cs, k, F, h => by
    obtain ⟨u, F1, F2, rfl, hu, h1, h2⟩ := h
    obtain ⟨vs, hl, hc, hr⟩ := RFs_vals h2
    refine ⟨u :: vs, by simp [hl], fun i v hv => ?_, F1, F2, rfl, h1, hr⟩
    cases i with
    | zero => simp at hv; subst hv; simpa using hu
    | succ i => rw [← hc i v (by simpa using hv)]; congr 2; omega
theorem RFRow_vals {b sz : Nat} : ∀ {es : List (List Cell)} {k : Nat} {F : List Nat}, RFRow G ep w b sz k es F → ∃ vs : List Value, vs.length = es.length * sz ∧ (∀ (i : Nat) (v : Value), vs[i]? = some v → w.cell? ⟨b, k + i, none⟩ = some v) ∧ RFL G ep w es.flatten vs F
  | [], k, F, h => ⟨[], by simp, by simp, h⟩
  | e :: es, k, F, h => by
    obtain ⟨hl, F1, F2, rfl, h1, h2⟩ := h
    obtain ⟨v1, hl1, hc1, hr1⟩ := RFs_vals h1
    obtain ⟨v2, hl2, hc2, hr2⟩ := RFRow_vals h2
    refine ⟨v1 ++ v2, by simp [hl1, hl2, hl, Nat.add_mul]; omega, fun i v hv => ?_, by rw [List.flatten_cons]; exact RFL_append hr1 hr2⟩
    by_cases h3 : i < v1.length
    · rw [List.getElem?_append_left h3] at hv; exact hc1 i v hv
    · rw [List.getElem?_append_right (by omega)] at hv
      rw [← hc2 _ v hv]; congr 2; omega

/-- A cut of an object's row becomes an object of its own. -/
theorem Sim.rename (h : Sim V σ a w G) {id id' : Id} {row : Row} {l : Loc} (hrow : σ.h id = some row) (hl : G.μ id = some l) (hid : id'.2 ≤ σ.nx) (hnew : G.μ id' = none) {off len : Nat} (hle : off + len ≤ row.es.length) :
    ∃ G', Ext G G' ∧ (∀ i, i ≠ id' → G'.μ i = G.μ i) ∧ G'.μ id' = some ⟨l.b, l.o + off * l.sz, l.cap - off, l.sz, l.blk⟩ ∧ Sim V ((σ.kill id).setH id' (some ⟨row.sz, (row.es.drop off).take len⟩)) a w G' := by
  obtain ⟨l', hl', ho1, ho⟩ := h.objs id row hrow
  obtain rfl : l' = l := by rw [hl] at hl'; injection hl' with e; exact e.symm
  have hne : id' ≠ id := fun e => by subst e; rw [hnew] at hl; cases hl
  -- the blocks that stay
  obtain ⟨F, hsub, hobj⟩ : ∃ F, F.Sublist (G.Fp id) ∧ ∀ G', Ext G G' → ObjR G' σ.ep w ⟨l'.b, l'.o + off * l'.sz, l'.cap - off, l'.sz, l'.blk⟩ ⟨row.sz, (row.es.drop off).take len⟩ F := by
    split at ho
    · rename_i hb
      obtain ⟨cur, E, F0, hh, hcap, hlen, hm, hF, hr⟩ := ho
      obtain ⟨F', h1, h2⟩ := RFRow_cut off len hr hle
      refine ⟨l'.b :: F', by rw [hF]; simpa using h2, fun G' e => ⟨ho1, ?_⟩⟩
      simp only [hb, if_true]
      refine ⟨cur, E, F', hh, ?_, by simp; omega, by omega, rfl, ?_⟩
      · rw [← hcap, Nat.add_assoc, ← Nat.add_mul]; congr 2; omega
      · exact RFRow_sees (ep' := σ.ep) ⟨e, fun _ _ => rfl, Nat.le_refl _, fun _ => ⟨Nat.le_refl _, fun _ _ => rfl⟩⟩ l'.b l'.sz _ _ _ (fun _ _ _ => rfl) h1 (fun _ _ => rfl)
    · rename_i hb
      refine ⟨[], List.nil_sublist _, fun G' e => ⟨ho1, ?_⟩⟩
      simp only [hb, if_false]
      simp [ho.1, ho.2.1]
  have e := Gh.add_ext hnew ⟨l'.b, l'.o + off * l'.sz, l'.cap - off, l'.sz, l'.blk⟩ F
  have s : Sees G (G.add id' ⟨l'.b, l'.o + off * l'.sz, l'.cap - off, l'.sz, l'.blk⟩ F) σ.ep σ.ep w w := ⟨e, fun _ _ => rfl, Nat.le_refl _, fun _ => ⟨Nat.le_refl _, fun _ _ => rfl⟩⟩
  have notid : ∀ i r, σ.h i = some r → i ≠ id' := fun i r hr e => by
    subst e
    obtain ⟨l2, hl2, _⟩ := h.objs i r hr
    rw [hnew] at hl2; cases hl2
  have old : ∀ i r, ((σ.kill id).setH id' (some ⟨row.sz, (row.es.drop off).take len⟩)).h i = some r → i ≠ id' → σ.h i = some r ∧ i ≠ id := fun i r hr hne => by
    simp only [St.setH, St.kill] at hr
    rw [if_neg hne] at hr
    split at hr
    · cases hr
    · rename_i h; exact ⟨hr, h⟩
  refine ⟨_, e, fun i hi => by simp [Gh.add, hi], by simp [Gh.add], { h with
    slots := fun x hx => RS_sees s (h.slots x hx)
    objs := fun i r hr => ?_
    nodup := fun i r hr => ?_
    own := fun i r hr b hb => ?_
    apart := fun i i' r r' hr hr' hii b hb hb' => ?_
    fresh := fun i hi => ?_ }⟩
  · by_cases ei : i = id'
    · subst ei
      have : r = ⟨row.sz, (row.es.drop off).take len⟩ := by simp only [St.setH] at hr; simpa using hr.symm
      subst this
      refine ⟨_, by simp [Gh.add]; rfl, ?_⟩
      have : (G.add i ⟨l'.b, l'.o + off * l'.sz, l'.cap - off, l'.sz, l'.blk⟩ F).Fp i = F := by simp [Gh.add]
      rw [this]
      exact hobj _ e
    · obtain ⟨hr', _⟩ := old i r hr ei
      obtain ⟨l2, hl2, ho2⟩ := h.objs i r hr'
      refine ⟨l2, e.μ _ _ hl2, ?_⟩
      have : (G.add id' ⟨l'.b, l'.o + off * l'.sz, l'.cap - off, l'.sz, l'.blk⟩ F).Fp i = G.Fp i := by simp [Gh.add, ei]
      rw [this]
      exact ObjR_sees s ho2 fun _ _ => rfl
  · by_cases ei : i = id'
    · subst ei; simp only [Gh.add, if_true]; exact (h.nodup id row hrow).sublist hsub
    · simp only [Gh.add, ei, if_false]; exact h.nodup i r (old i r hr ei).1
  · by_cases ei : i = id'
    · subst ei; simp only [Gh.add, if_true] at hb; exact h.own id row hrow b (hsub.subset hb)
    · simp only [Gh.add, ei, if_false] at hb; exact h.own i r (old i r hr ei).1 b hb
  · by_cases ei : i = id'
    · subst ei
      simp only [Gh.add, if_true] at hb
      simp only [Gh.add, Ne.symm hii, if_false] at hb'
      obtain ⟨h1, h2⟩ := old i' r' hr' (Ne.symm hii)
      exact h.apart id i' row r' hrow h1 (Ne.symm h2) b (hsub.subset hb) hb'
    · by_cases ei' : i' = id'
      · subst ei'
        simp only [Gh.add, if_true] at hb'
        simp only [Gh.add, ei, if_false] at hb
        obtain ⟨h1, h2⟩ := old i r hr ei
        exact h.apart i id r row h1 hrow h2 b hb (hsub.subset hb')
      · simp only [Gh.add, ei, ei', if_false] at hb hb'
        exact h.apart i i' r r' (old i r hr ei).1 (old i' r' hr' ei').1 hii b hb hb'
  · simp only [Gh.add]
    have hi' : σ.nx < i.2 := hi
    rw [if_neg (fun e => by subst e; omega)]
    exact h.fresh i hi'

/-- An object without a block. -/
theorem Sim.newNone (h : Sim V σ a w G) {id : Id} (hid : id.2 ≤ σ.nx) (hnew : G.μ id = none) (sz : Nat) :
    ∃ G', Ext G G' ∧ (∀ i, i ≠ id → G'.μ i = G.μ i) ∧ G'.μ id = some ⟨0, 0, 0, sz, false⟩ ∧ Sim V (σ.setH id (some ⟨sz, []⟩)) a w G' := by
  have e := Gh.add_ext hnew ⟨0, 0, 0, sz, false⟩ []
  have s : Sees G (G.add id ⟨0, 0, 0, sz, false⟩ []) σ.ep σ.ep w w := ⟨e, fun _ _ => rfl, Nat.le_refl _, fun _ => ⟨Nat.le_refl _, fun _ _ => rfl⟩⟩
  have old : ∀ i r, (σ.setH id (some ⟨sz, []⟩)).h i = some r → i ≠ id → σ.h i = some r := fun i r hr hne => by
    simp only [St.setH] at hr
    rw [if_neg hne] at hr; exact hr
  refine ⟨_, e, fun i hi => by simp [Gh.add, hi], by simp [Gh.add], { h with
    slots := fun x hx => RS_sees s (h.slots x hx)
    objs := fun i r hr => ?_
    nodup := fun i r hr => ?_
    own := fun i r hr b hb => ?_
    apart := fun i i' r r' hr hr' hne b hb hb' => ?_
    fresh := fun i hi => ?_ }⟩
  · by_cases ei : i = id
    · subst ei
      have : r = ⟨sz, []⟩ := by simp only [St.setH] at hr; simpa using hr.symm
      subst this
      exact ⟨_, by simp [Gh.add]; rfl, rfl, by simp [Gh.add]⟩
    · obtain ⟨l2, hl2, ho2⟩ := h.objs i r (old i r hr ei)
      refine ⟨l2, e.μ _ _ hl2, ?_⟩
      have : (G.add id ⟨0, 0, 0, sz, false⟩ []).Fp i = G.Fp i := by simp [Gh.add, ei]
      rw [this]
      exact ObjR_sees s ho2 fun _ _ => rfl
  · by_cases ei : i = id
    · subst ei; simp [Gh.add]
    · simp only [Gh.add, ei, if_false]; exact h.nodup i r (old i r hr ei)
  · by_cases ei : i = id
    · subst ei; simp [Gh.add] at hb
    · simp only [Gh.add, ei, if_false] at hb; exact h.own i r (old i r hr ei) b hb
  · by_cases ei : i = id
    · subst ei; simp [Gh.add] at hb
    · by_cases ei' : i' = id
      · subst ei'; simp [Gh.add] at hb'
      · simp only [Gh.add, ei, ei', if_false] at hb hb'
        exact h.apart i i' r r' (old i r hr ei) (old i' r' hr' ei') hne b hb hb'
  · simp only [Gh.add]
    have hi' : σ.nx < i.2 := hi
    rw [if_neg (fun e => by subst e; omega)]
    exact h.fresh i hi'

/-! ### The operation -/
def cutRow (es : List (List Cell)) (off len : Nat) : List (List Cell) :=
  if off = 0 ∧ len = es.length then es else (es.drop off).take len

theorem cutRow_eq (es : List (List Cell)) (off len : Nat) : cutRow es off len = (es.drop off).take len := by
  unfold cutRow
  split
  · rename_i h; obtain ⟨rfl, rfl⟩ := h; simp
  · rfl

/-- A cell that may be told twice. -/
def Cell.copy : Cell → Bool
  | .ow .. | .bad | .und | .sn .. | .sa .. => false
  | _ => true
/-- A cell that tells no memory. -/
def Cell.plain : Cell → Bool
  | .int .. | .bool .. | .str .. | .nilp | .nili | .nilf => true
  | _ => false

/-- What is appended: its elements; what is left. -/
def asrc (σ : St) (sz : Nat) (move : Bool) : SV → Option (List (List Cell) × St)
  | .c .z => some ([], σ)
  | .c (.ro es) => if es.all (fun e => decide (e.length = sz)) && es.all (fun e => e.all Cell.copy) then some (es, σ) else none
  | .c (.sn e es) => if e = σ.ep then (if es.all (fun e => decide (e.length = sz)) && es.all (fun e => e.all Cell.plain) then some (es, σ) else none) else none
  | .c (.sl id off len) => match σ.h id with
    | some row => if row.sz = sz ∧ off + len ≤ row.es.length then
        (if move then (if (cutRow row.es off len).all (fun e => e.all okStore) then some (cutRow row.es off len, σ.kill id) else none) else if (cutRow row.es off len).all (fun e => e.all Cell.copy) then some (cutRow row.es off len, σ) else none)
      else none
    | none => none
  | _ => none

def abase (σ : St) (sz : Nat) : SV → Option (List (List Cell) × St)
  | .c .z => some ([], σ)
  | .c (.sl id off len) => match σ.h id with
    | some row => if row.sz = sz ∧ off + len ≤ row.es.length then some (cutRow row.es off len, σ.kill id) else none
    | none => none
  | _ => none

def aval (σ : St) (d sz bytes : Nat) (move : Bool) (s x : Opd) : Option St :=
  match abase σ sz (σ.get s) with
  | some (es1, σ1) => match asrc σ1 sz move (σ.get x) with
    | some (es2, σ2) => if (es1.length + es2.length) * bytes ≤ 140737488355328 ∧ es1.length + es2.length ≤ 9223372036854775807 then
        some (({ σ2.newO d ⟨sz, es1 ++ es2⟩ with ep := σ.ep + 1 } : St).set d (.c (.sl (nm d 0, σ.nx) 0 (es1.length + es2.length))))
      else none
    | none => none
  | none => none

def appOK (P : Program) (N sz bytes : Nat) (s x : Opd) : Op → Bool
  | .call { callee := .builtin .append, args, argTypes } => (match args.toList, argTypes.toList with
    | [y, z], [t, t'] => decide (t = t') && (match P.underlying t with
        | some (.slice e) => (match P.info? e with | some i => decide (i.size = sz) && decide (i.bytes = bytes) && (match i.zero with | some z => decide (z.cells.size = sz) | none => false) | none => false)
        | _ => false) && decide (0 < sz) && opdOK N s y && opdOK N x z
    | _, _ => false)
  | _ => false

theorem RX_copy {c : Cell} {v : Value} {F : List Nat} (hc : c.copy = true) (h : RF G ep w c v F) : RX G ep w c v ∧ F = [] := by
  rcases h with h | ⟨h, rfl⟩
  · have hF : F = [] := RD_F (fun sz es e => by subst e; simp [Cell.copy] at hc) h
    subst hF
    refine ⟨?_, rfl⟩
    by_cases hl : c.live = false
    · exact (RX_plain hl).2 h
    · exfalso
      cases c <;> simp [Cell.live] at hl <;> simp only [RD] at h
      exact hl h.1
  · exact ⟨h, rfl⟩

theorem RFL_copy : ∀ {cs : List Cell} {vs : List Value} {F : List Nat}, cs.all Cell.copy = true → RFL G ep w cs vs F → RFL G ep w cs vs []
  | [], [], _, _, _ => rfl
  | [], _ :: _, _, _, h => h.elim
  | _ :: _, [], _, _, h => h.elim
  | c :: cs, v :: vs, F, hc, h => by
    simp only [List.all_cons, Bool.and_eq_true] at hc
    obtain ⟨F1, F2, _, h1, h2⟩ := h
    exact ⟨[], [], rfl, .inr ⟨(RX_copy hc.1 h1).1, rfl⟩, RFL_copy hc.2 h2⟩

theorem RFL_oneCell' : ∀ {cs : List Cell} {vs : List Value} {F : List Nat}, (∀ c ∈ cs, ∀ v F, RF G ep w c v F → v.oneCell' = true) → RFL G ep w cs vs F → ∀ v ∈ vs, v.oneCell' = true
  | [], [], _, _, _, v, hv => by simp at hv
  | [], _ :: _, _, _, h, _, _ => h.elim
  | _ :: _, [], _, _, h, _, _ => h.elim
  | c :: cs, u :: vs, F, ho, h, v, hv => by
    obtain ⟨F1, F2, _, h1, h2⟩ := h
    rcases List.mem_cons.1 hv with rfl | hv
    · exact ho c (by simp) _ _ h1
    · exact RFL_oneCell' (fun c hc => ho c (by simp [hc])) h2 v hv

theorem okStore_of_copy {c : Cell} (h : c.copy = true) : okStore c = true := by cases c <;> simp_all [Cell.copy, okStore]
theorem copy_of_plain {c : Cell} (h : c.plain = true) : c.copy = true := by cases c <;> simp_all [Cell.copy, Cell.plain]

theorem all_flatten {p : Cell → Bool} {es : List (List Cell)} (h : es.all (fun e => e.all p) = true) : es.flatten.all p = true := by
  simp only [List.all_eq_true] at h ⊢
  intro c hc
  obtain ⟨e, he, hce⟩ := List.mem_flatten.1 hc
  exact h e he c hce

theorem RRow_RFL {S : Nat → Prop} {b sz : Nat} {es : List (List Cell)} {k : Nat} (h : RRow w S b sz k es []) (hp : ∀ c ∈ es.flatten, ∀ v, RD w S c v [] → RX G ep w c v) :
    ∃ vs : List Value, vs.length = es.length * sz ∧ (∀ (i : Nat) (v : Value), vs[i]? = some v → w.cell? ⟨b, k + i, none⟩ = some v) ∧ RFL G ep w es.flatten vs [] := by
  induction es generalizing k with
  | nil => exact ⟨[], by simp, by simp, rfl⟩
  | cons e es ih =>
    simp only [RRow] at h
    obtain ⟨hl, F1, F2, hF, h1, h2⟩ := h
    obtain ⟨rfl, rfl⟩ : F1 = [] ∧ F2 = [] := by simpa using hF.symm
    obtain ⟨v2, hl2, hc2, hr2⟩ := ih h2 (fun c hc => hp c (by simp [hc]))
    obtain ⟨v1, hl1, hc1, hq1⟩ := exists_vals (Q := fun c u => RX G ep w c u) (c0 := fun i => w.cell? ⟨b, k + i, none⟩) e (fun i c hi => by
      obtain ⟨u, hu, hd⟩ := RCs_get h1 rfl i c hi
      exact ⟨u, hu, hp c (by simp [List.mem_of_getElem? hi]) u hd⟩)
    refine ⟨v1 ++ v2, by simp [hl1, hl2, hl, Nat.add_mul]; omega, fun i v hv => ?_, by rw [List.flatten_cons]; exact RFL_append (RFL_of_RXs (RXs_of_get hl1 hq1)) hr2⟩
    by_cases h3 : i < v1.length
    · rw [List.getElem?_append_left h3] at hv; exact hc1 i v hv
    · rw [List.getElem?_append_right (by omega)] at hv
      rw [← hc2 _ v hv]; congr 2; omega

/-- What is appended: its values. -/
structure Src (P : Program) (V : Env) (σ σ' : St) (w : World) (G : Gh) (sz : Nat) (v : Value) (es : List (List Cell)) (xa : Option Addr) (xc : Nat) (vs : List Value) (F : List Nat) : Prop where
  val : v = .slice xa es.length xc
  less : Less σ σ'
  cells : ∀ w2, More w w2 → (Builtin.firstCells sz es.length (.slice xa es.length xc)).run P w2 = .ok vs.toArray w2
  len : vs.length = es.length * sz
  each : ∀ e ∈ es, e.length = sz
  rep : RFL G σ.ep w es.flatten vs F
  own : OwnF V σ' w G F
  from_ : ∀ b ∈ F, ∃ id row, σ.h id = some row ∧ b ∈ G.Fp id
  one : ∀ u ∈ vs, u.oneCell' = true

theorem src_some {sz b k n xc : Nat} {vs : List Value} (hl : vs.length = n * sz) (hc : ∀ (i : Nat) (v : Value), vs[i]? = some v → w.cell? ⟨b, k + i, none⟩ = some v) (w2 : World) (m : More w w2) :
    (Builtin.firstCells sz n (.slice (some ⟨b, k, none⟩) n xc)).run P w2 = .ok vs.toArray w2 :=
  run_firstCells_some w2 sz n ⟨b, k, none⟩ n xc vs hl fun i v hv => by
    rw [addr_add]
    have h1 := hc i v hv
    have hlt := lt_of_cell? h1
    rw [← h1]
    exact cell?_of_heap (m.heap b hlt) _
theorem src_none (sz : Nat) (xa : Option Addr) (xc : Nat) (w2 : World) : (Builtin.firstCells sz 0 (.slice xa 0 xc)).run P w2 = .ok #[] w2 := by
  cases xa <;> simp [Builtin.firstCells, loadCells, loadCellsFrom]

theorem each_of_all {sz : Nat} {es : List (List Cell)} (h : es.all (fun e => decide (e.length = sz)) = true) : ∀ e ∈ es, e.length = sz := by
  simp only [List.all_eq_true, decide_eq_true_eq] at h
  exact h

theorem RFRow_each {b sz : Nat} : ∀ {es : List (List Cell)} {k : Nat} {F : List Nat}, RFRow G ep w b sz k es F → ∀ e ∈ es, e.length = sz
  | [], _, _, _, e, he => by simp at he
  | e0 :: es, k, F, h, e, he => by
    obtain ⟨hl, F1, F2, _, _, h2⟩ := h
    rcases List.mem_cons.1 he with rfl | he
    · exact hl
    · exact RFRow_each h2 e he

theorem asrc_ok (h : Sim V σ a w G) {sz : Nat} {move : Bool} {x : SV} {v : Value} {es : List (List Cell)} (hx : RS G σ.ep w x v) (hs : asrc σ sz move x = some (es, σ')) :
    ∃ xa xc vs F, Src P V σ σ' w G sz v es xa xc vs F := by
  unfold asrc at hs
  split at hs
  · injection hs with e; obtain ⟨rfl, rfl⟩ := Prod.mk.inj e
    have hd : RD w G.S .z v [] := RS_c hx
    simp only [RD] at hd
    obtain ⟨⟨ad, rfl⟩, _⟩ := hd
    exact ⟨ad, 0, [], [], rfl, Less.refl _, fun w2 _ => by simpa using src_none sz ad 0 w2, by simp, by simp, rfl, OwnF.nil, by simp, by simp⟩
  · rename_i es0
    split at hs
    · rename_i hc
      simp only [Bool.and_eq_true] at hc
      injection hs with e; obtain ⟨rfl, rfl⟩ := Prod.mk.inj e
      have hd : RD w G.S (.ro es0) v [] := RS_c hx
      simp only [RD] at hd
      obtain ⟨_, ad, cap, rfl, hcap, hrow⟩ := hd
      by_cases hne : es0 = []
      · subst hne
        exact ⟨ad, cap, [], [], rfl, Less.refl _, fun w2 _ => by simpa using src_none sz ad cap w2, by simp, by simp, rfl, OwnF.nil, by simp, by simp⟩
      · obtain ⟨b, k, s, rfl, hb, hrr⟩ := hrow hne
        have hcp := all_flatten hc.2
        simp only [List.all_eq_true] at hcp
        have hs2 : s = sz := by
          cases es0 with
          | nil => exact absurd rfl hne
          | cons e0 es0 =>
            have q1 := (RRow_get hrr rfl 0 e0 rfl).1
            have q2 := each_of_all hc.1 e0 (by simp)
            omega
        subst hs2
        obtain ⟨vs, hl, hcl, hr⟩ := RRow_RFL (G := G) (ep := σ.ep) hrr (fun c hcm u hu => (RX_copy (hcp c hcm) (.inl hu)).1)
        exact ⟨_, cap, vs, [], rfl, Less.refl _, src_some hl hcl, hl, each_of_all hc.1, hr, OwnF.nil, by simp, RFL_oneCell (by simp only [List.all_eq_true]; exact fun c hcm => okStore_of_copy (hcp c hcm)) hr⟩
    · cases hs
  · rename_i e0 es0
    split at hs
    · rename_i hep
      split at hs
      · rename_i hc
        simp only [Bool.and_eq_true] at hc
        injection hs with e; obtain ⟨rfl, rfl⟩ := Prod.mk.inj e
        have hd : RD w (AllB w) (.ro es0) v [] := (RS_c hx).2 hep
        simp only [RD] at hd
        obtain ⟨_, ad, cap, rfl, hcap, hrow⟩ := hd
        by_cases hne : es0 = []
        · subst hne
          exact ⟨ad, cap, [], [], rfl, Less.refl _, fun w2 _ => by simpa using src_none sz ad cap w2, by simp, by simp, rfl, OwnF.nil, by simp, by simp⟩
        · obtain ⟨b, k, s, rfl, hb, hrr⟩ := hrow hne
          have hcp := all_flatten hc.2
          simp only [List.all_eq_true] at hcp
          have hs2 : s = sz := by
            cases es0 with
            | nil => exact absurd rfl hne
            | cons e0 es0 =>
              have q1 := (RRow_get hrr rfl 0 e0 rfl).1
              have q2 := each_of_all hc.1 e0 (by simp)
              omega
          subst hs2
          obtain ⟨vs, hl, hcl, hr⟩ := RRow_RFL (G := G) (ep := σ.ep) hrr (fun c hcm u hu => by
            have hp := hcp c hcm
            cases c <;> simp [Cell.plain] at hp <;> exact (RX_plain rfl).2 (by simp only [RD] at hu ⊢; exact hu))
          exact ⟨_, cap, vs, [], rfl, Less.refl _, src_some hl hcl, hl, each_of_all hc.1, hr, OwnF.nil, by simp, RFL_oneCell (by simp only [List.all_eq_true]; exact fun c hcm => okStore_of_copy (copy_of_plain (hcp c hcm))) hr⟩
      · cases hs
    · cases hs
  · rename_i id off len
    split at hs
    · rename_i row hrow
      split at hs
      · rename_i hc
        obtain ⟨hsz, hle⟩ := hc
        obtain ⟨l, hl, hv⟩ := RS_c hx
        obtain ⟨l', hl', ho1, ho⟩ := h.objs id row hrow
        obtain rfl : l' = l := by rw [hl] at hl'; injection hl' with e; exact e.symm
        have hlen : (cutRow row.es off len).length = len := by rw [cutRow_eq]; simp; omega
        -- the values, and what they own
        obtain ⟨xa, xc, vs, F, hval, hfirst, hvl, heach, hrep, hsub⟩ : ∃ xa xc vs F, v = .slice xa len xc ∧ (∀ w2, More w w2 → (Builtin.firstCells sz len (.slice xa len xc)).run P w2 = .ok vs.toArray w2) ∧
            vs.length = len * sz ∧ (∀ e ∈ cutRow row.es off len, e.length = sz) ∧ RFL G σ.ep w (cutRow row.es off len).flatten vs F ∧ F.Sublist (G.Fp id) := by
          rcases hv with ⟨hb, hlt, hle2, ev⟩ | ⟨hoc, rfl, ad, ev⟩
          · rw [if_pos hb] at ho
            obtain ⟨cur, E, F0, hh, hcap, hlen2, hm, hF, hr⟩ := ho
            obtain ⟨F', h1, h2⟩ := RFRow_cut off len hr hle
            obtain ⟨vs, hvl, hvc, hvr⟩ := RFRow_vals h1
            have hll : ((row.es.drop off).take len).length = len := by simp; omega
            rw [hll] at hvl
            rw [ho1, hsz] at hvl
            refine ⟨_, _, vs, F', ev, src_some hvl hvc, hvl, ?_, by rw [cutRow_eq]; exact hvr, ?_⟩
            · rw [cutRow_eq, ← hsz, ← ho1]; exact RFRow_each h1
            · rw [hF]; exact h2.trans (List.sublist_cons_self _ _)
          · have : cutRow row.es off 0 = [] := List.eq_nil_of_length_eq_zero hlen
            rw [this]
            exact ⟨ad, 0, [], [], ev, fun w2 _ => by simpa using src_none sz ad 0 w2, by simp, by simp, rfl, List.nil_sublist _⟩
        cases move with
        | true =>
          simp only [if_true] at hs
          split at hs
          · rename_i hok
            injection hs with e; obtain ⟨rfl, rfl⟩ := Prod.mk.inj e
            refine ⟨xa, xc, vs, F, by rw [hlen]; exact hval, Less.kill _ _, by rw [hlen]; exact hfirst, by rw [hlen]; exact hvl, heach, hrep, ⟨(h.nodup id row hrow).sublist hsub, fun b hb => h.own id row hrow b (hsub.subset hb), fun b hb id2 row2 hr2 => ?_⟩,
              fun b hb => ⟨id, row, hrow, hsub.subset hb⟩, RFL_oneCell (all_flatten hok) hrep⟩
            simp only [St.kill, St.setH] at hr2
            split at hr2
            · cases hr2
            · rename_i hne
              exact h.apart id id2 row row2 hrow hr2 (Ne.symm hne) b (hsub.subset hb)
          · cases hs
        | false =>
          simp only [Bool.false_eq_true, if_false] at hs
          split at hs
          · rename_i hok
            injection hs with e; obtain ⟨rfl, rfl⟩ := Prod.mk.inj e
            have hcp := all_flatten hok
            have hrep' := RFL_copy hcp hrep
            simp only [List.all_eq_true] at hcp
            exact ⟨xa, xc, vs, [], by rw [hlen]; exact hval, Less.refl _, by rw [hlen]; exact hfirst, by rw [hlen]; exact hvl, heach, hrep', OwnF.nil, by simp,
              RFL_oneCell (by simp only [List.all_eq_true]; exact fun c hcm => okStore_of_copy (hcp c hcm)) hrep'⟩
          · cases hs
      · cases hs
    · cases hs
  · cases hs

end
end Go.Fw

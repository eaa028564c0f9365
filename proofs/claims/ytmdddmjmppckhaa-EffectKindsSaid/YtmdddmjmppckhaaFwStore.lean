/- Stores. -/
import Derived.Test.YtmdddmjmppckhaaFwMOp
import Derived.Laws.CopyRow
namespace Go.Fw

section
variable {P : Program} {V : Env} {σ σ' : St} {a : Act} {w w' : World} {G G' : Gh} {ep : Nat}

def Gh.fp (G : Gh) (id : Id) (F : List Nat) : Gh := { μ := G.μ, Fp := fun i => if i = id then F else G.Fp i, S := G.S }

theorem Gh.fp_ext (G : Gh) (id : Id) (F : List Nat) : Ext G (G.fp id F) := ⟨fun _ _ h => h, fun _ h => h⟩

/-- A step that writes one block alone. -/
theorem write_sees {g : Nat} (hS : ∀ b, G.S b → b ≠ g) {cs : Array Value} (id : Id) (F : List Nat) : Sees G (G.fp id F) ep (ep + 1) w (w.setRow g cs) :=
  ⟨Gh.fp_ext G id F, fun b hb => setRow_other w g b cs (hS b hb), Nat.le_succ _, fun h => by omega⟩

/-- What an object's block holds has changed. -/
theorem Sim.write (h : Sim V σ a w G) {id : Id} {row row' : Row} {l : Loc} (hrow : σ.h id = some row) (hμ : G.μ id = some l) (hblk : l.blk = true) {cur' : Array Value} {E : TypeId} {cur : Array Value}
    (hheap : w.heap[l.b]? = some (.cells cur E (0, 0))) (hsize : cur'.size = cur.size) (hcap : l.o + l.cap * l.sz = cur.size) (hm : l.cap ≤ maxLen) {F : List Nat} (hsz : row'.sz = row.sz) (hle : row'.es.length ≤ l.cap)
    (hnd : (l.b :: F).Nodup) (hown : ∀ b ∈ F, b < w.heap.size ∧ ¬ G.S b ∧ (V.E0 b ∨ V.w0.heap.size ≤ b)) (hap : ∀ b ∈ F, ∀ i r, σ.h i = some r → i ≠ id → b ∉ G.Fp i)
    (hr : RFRow (G.fp id (l.b :: F)) (σ.ep + 1) (w.setRow l.b cur') l.b l.sz l.o row'.es F) :
    Sim V { σ.setH id (some row') with ep := σ.ep + 1 } a (w.setRow l.b cur') (G.fp id (l.b :: F)) := by
  obtain ⟨l', hl', ho1, ho⟩ := h.objs id row hrow
  obtain rfl : l' = l := by rw [hμ] at hl'; injection hl' with e; exact e.symm
  rw [if_pos hblk] at ho
  obtain ⟨cur0, E0, F0, hh0, _, _, _, hF0, _⟩ := ho
  have hbid : l'.b ∈ G.Fp id := by rw [hF0]; simp
  have hbS : ¬ G.S l'.b := (h.own id row hrow _ hbid).2.1
  have s : Sees G (G.fp id (l'.b :: F)) σ.ep (σ.ep + 1) w (w.setRow l'.b cur') := write_sees (fun b hb e => hbS (by rw [← e]; exact hb)) id _
  have other : ∀ b, b ≠ l'.b → (w.setRow l'.b cur').heap[b]? = w.heap[b]? := fun b hb => setRow_other w l'.b b cur' hb
  have hsz' : (w.setRow l'.b cur').heap.size = w.heap.size := by simp [World.setRow]
  have old : ∀ i r, (({ σ.setH id (some row') with ep := σ.ep + 1 } : St)).h i = some r → i ≠ id → σ.h i = some r := fun i r hr hne => by
    simp only [St.setH] at hr
    rw [if_neg hne] at hr; exact hr
  have fpo : ∀ i, i ≠ id → (G.fp id (l'.b :: F)).Fp i = G.Fp i := fun i hi => by simp [Gh.fp, hi]
  have fpn : (G.fp id (l'.b :: F)).Fp id = l'.b :: F := by simp [Gh.fp]
  have notb : ∀ i r, σ.h i = some r → i ≠ id → ∀ b ∈ G.Fp i, b ≠ l'.b := fun i r hr hne b hb e => by
    subst e
    exact h.apart i id r row hr hrow hne _ hb hbid
  refine { h with
    slots := fun x hx => RS_sees s (h.slots x hx)
    objs := fun i r hr' => ?_
    nodup := fun i r hr' => ?_
    own := fun i r hr' b hb => ?_
    apart := fun i i' r r' hr1 hr2 hne b hb hb' => ?_
    fresh := h.fresh
    stable := fun b hb => by rw [hsz']; exact h.stable b hb
    sOld := h.sOld
    sNew := h.sNew
    kept := fun b hb he => ?_
    grow := by rw [hsz']; exact h.grow
    os := h.os
    tape := h.tape
    output := h.output }
  · by_cases e : i = id
    · subst e
      have : r = row' := by simp only [St.setH] at hr'; simpa using hr'.symm
      subst this
      refine ⟨l', hμ, by rw [ho1, hsz], ?_⟩
      rw [if_pos hblk, fpn]
      exact ⟨cur', E, F, setRow_heap w l'.b cur cur' E (0, 0) hheap, by rw [hsize]; exact hcap, hle, hm, rfl, hr⟩
    · have hr2 := old i r hr' e
      obtain ⟨l2, hl2, ho2⟩ := h.objs i r hr2
      refine ⟨l2, hl2, ?_⟩
      rw [fpo i e]
      exact ObjR_sees s ho2 fun b hb => other b (notb i r hr2 e b hb)
  · by_cases e : i = id
    · subst e; rw [fpn]; exact hnd
    · rw [fpo i e]; exact h.nodup i r (old i r hr' e)
  · rw [hsz']
    by_cases e : i = id
    · subst e
      rw [fpn] at hb
      rcases List.mem_cons.1 hb with rfl | hb
      · exact h.own i row hrow _ hbid
      · exact hown b hb
    · rw [fpo i e] at hb; exact h.own i r (old i r hr' e) b hb
  · by_cases e : i = id
    · subst e
      rw [fpn] at hb
      rw [fpo i' (Ne.symm hne)] at hb'
      rcases List.mem_cons.1 hb with rfl | hb
      · exact notb i' r' (old i' r' hr2 (Ne.symm hne)) (Ne.symm hne) _ hb' rfl
      · exact hap b hb i' r' (old i' r' hr2 (Ne.symm hne)) (Ne.symm hne) hb'
    · by_cases e' : i' = id
      · subst e'
        rw [fpn] at hb'
        rw [fpo i e] at hb
        rcases List.mem_cons.1 hb' with rfl | hb'
        · exact notb i r (old i r hr1 e) e _ hb rfl
        · exact hap b hb' i r (old i r hr1 e) e hb
      · rw [fpo i e] at hb
        rw [fpo i' e'] at hb'
        exact h.apart i i' r r' (old i r hr1 e) (old i' r' hr2 e') hne b hb hb'
  · have hne : b ≠ l'.b := fun e => by
      subst e
      rcases (h.own id row hrow _ hbid).2.2 with h1 | h1
      · exact he h1
      · omega
    rw [other b hne]; exact h.kept b hb he

/-- Where an element stands in its row, and what another one in its place comes to. -/
theorem RFRow_focus {b sz : Nat} : ∀ {es : List (List Cell)} {i : Nat} {e : List Cell} {k : Nat} {F : List Nat}, RFRow G ep w b sz k es F → es[i]? = some e →
    ∃ F1 Fe F2, F = F1 ++ Fe ++ F2 ∧ RFs G ep w b (k + i * sz) e Fe ∧ e.length = sz ∧
      ∀ (G' : Gh) (ep' : Nat) (w' : World) (e' : List Cell) (Fe' : List Nat), Sees G G' ep ep' w w' → (∀ j, (j < k + i * sz ∨ k + i * sz + sz ≤ j) → w'.cell? ⟨b, j, none⟩ = w.cell? ⟨b, j, none⟩) →
        (∀ x ∈ F1 ++ F2, w'.heap[x]? = w.heap[x]?) → e'.length = sz → RFs G' ep' w' b (k + i * sz) e' Fe' → RFRow G' ep' w' b sz k (es.set i e') (F1 ++ Fe' ++ F2)
  | [], i, e, k, F, h, hi => by simp at hi
  | e0 :: es, 0, e, k, F, h, hi => by
    simp at hi; subst hi
    obtain ⟨hl, F1, F2, rfl, h1, h2⟩ := h
    refine ⟨[], F1, F2, rfl, by simpa using h1, hl, fun G' ep' w' e' Fe' s hc hF hl' hr' => ?_⟩
    simp only [List.set_cons_zero, List.nil_append]
    refine ⟨hl', Fe', F2, rfl, by simpa using hr', RFRow_sees s b sz es (k + sz) F2 (fun j hj _ => hc j (.inr (by omega))) h2 (fun x hx => hF x (by simp [hx]))⟩
  | e0 :: es, i + 1, e, k, F, h, hi => by
    obtain ⟨hl, F1, F2, rfl, h1, h2⟩ := h
    obtain ⟨Fa, Fe, Fb, rfl, h3, h4, h5⟩ := RFRow_focus h2 (by simpa using hi)
    have hk : k + (i + 1) * sz = k + sz + i * sz := by rw [Nat.add_mul]; omega
    refine ⟨F1 ++ Fa, Fe, Fb, by simp, by rw [hk]; exact h3, h4, fun G' ep' w' e' Fe' s hc hF hl' hr' => ?_⟩
    simp only [List.set_cons_succ]
    refine ⟨hl, F1, Fa ++ Fe' ++ Fb, by simp, RFs_sees s b e0 k F1 (fun j hj hj2 => hc j (.inl (by rw [hl] at hj2; omega))) h1 (fun x hx => hF x (by simp [hx])), ?_⟩
    exact h5 G' ep' w' e' Fe' s (fun j hj => hc j (by omega)) (fun x hx => hF x (by simp at hx ⊢; rcases hx with hx | hx <;> simp [hx])) hl' (by rw [← hk]; exact hr')

theorem RFs_split {b : Nat} : ∀ {c1 c2 : List Cell} {k : Nat} {F : List Nat}, RFs G ep w b k (c1 ++ c2) F → ∃ F1 F2, F = F1 ++ F2 ∧ RFs G ep w b k c1 F1 ∧ RFs G ep w b (k + c1.length) c2 F2
  | [], c2, k, F, h => ⟨[], F, rfl, rfl, by simpa using h⟩
  | c :: c1, c2, k, F, h => by
    obtain ⟨u, F1, F2, rfl, hu, h1, h2⟩ := h
    obtain ⟨F3, F4, rfl, h3, h4⟩ := RFs_split h2
    exact ⟨F1 ++ F3, F4, by simp, ⟨u, F1, F3, rfl, hu, h1, h3⟩, by rw [show k + (c :: c1).length = k + 1 + c1.length by simp; omega]; exact h4⟩
theorem RFs_join {b : Nat} : ∀ {c1 c2 : List Cell} {k : Nat} {F1 F2 : List Nat}, RFs G ep w b k c1 F1 → RFs G ep w b (k + c1.length) c2 F2 → RFs G ep w b k (c1 ++ c2) (F1 ++ F2)
  | [], c2, k, F1, F2, h, h' => by obtain rfl : F1 = [] := h; simpa using h'
  | c :: c1, c2, k, F1, F2, h, h' => by
    obtain ⟨u, Fa, Fb, rfl, hu, h1, h2⟩ := h
    exact ⟨u, Fa, Fb ++ F2, by simp, hu, h1, RFs_join h2 (by rw [show k + 1 + c1.length = k + (c :: c1).length by simp; omega]; exact h')⟩

/-! ### store -/
def okStore : Cell → Bool
  | .sn .. | .sa .. | .bad | .und => false
  | _ => true

/-- e with cs from place j on. -/
def splice (sz : Nat) (e : List Cell) (j : Nat) (cs : List Cell) : List Cell :=
  if j = 0 ∧ cs.length = sz then cs else e.take j ++ cs ++ e.drop (j + cs.length)

def sval (σ : St) (share : Bool) (n : Nat) (ks : List Nat) (x v : Opd) : Option St :=
  match σ.get x, flat σ.ep (σ.get v) with
  | .c (.ad id i j), some xs =>
    if xs.length = n then
      match (if share then (if xs.all okStore then some (xs, σ) else none) else closeL σ ks xs) with
      | some (cs, σ1) => match σ1.h id with
        | some row => match row.es[i]? with
          | some e => if j + n ≤ e.length then some { σ1.setH id (some ⟨row.sz, row.es.set i (splice row.sz e j cs)⟩) with ep := σ.ep + 1 } else none
          | none => none
        | none => none
      | none => none
    else none
  | _, _ => none

def storeOK (P : Program) (N n : Nat) (x v : Opd) : Op → Bool
  | .store t y z => (match P.info? t with | some i => decide (i.size = n) | none => false) && opdOK N x y && opdOK N v z
  | _ => false

theorem RD_oneCell {w : World} {S : Nat → Prop} : ∀ {c : Cell} {v : Value} {F : List Nat}, c ≠ .und → RD w S c v F → v.oneCell' = true := by
  intro c v F hc h
  cases c <;> simp only [RD] at h
  case und => exact absurd rfl hc
  case ow sz es => rcases h with ⟨_, _, a, rfl⟩ | ⟨_, _, _, _, _, _, rfl, _⟩ <;> rfl
  case ro es => obtain ⟨_, _, _, rfl, _⟩ := h; rfl
  case ar cs j => obtain ⟨_, _, _, rfl, _⟩ := h; rfl
  case ifc t c => obtain ⟨_, u, rfl, _⟩ := h; rfl
  case fn f caps => obtain ⟨_, rfl, _⟩ := h; rfl
  case z => obtain ⟨⟨_, rfl⟩, _⟩ := h; rfl
  all_goals first
    | exact h.elim
    | (obtain ⟨rfl, _⟩ := h; rfl)

theorem RX_oneCell {c : Cell} {v : Value} (hc : okStore c = true) (h : RX G ep w c v) : v.oneCell' = true := by
  cases c
  case sl id off len => obtain ⟨b, cc, rfl⟩ := RX_sl_len h; rfl
  case ad id i j => obtain ⟨l, _, _, rfl⟩ := RX_ad h; rfl
  case fn f caps => obtain ⟨vs, rfl, _⟩ := h; rfl
  case sn => simp [okStore] at hc
  case sa => simp [okStore] at hc
  case bad => simp [okStore] at hc
  case und => simp [okStore] at hc
  all_goals exact RD_oneCell (by simp) h

theorem RF_oneCell {c : Cell} {v : Value} {F : List Nat} (hc : okStore c = true) (h : RF G ep w c v F) : v.oneCell' = true := by
  rcases h with h | ⟨h, _⟩
  · exact RD_oneCell (by rintro rfl; simp [okStore] at hc) h
  · exact RX_oneCell hc h

theorem close1_okStore {k : Nat} {c c' : Cell} (h : close1 k σ c = some (c', σ')) : okStore c' = true := by
  cases c <;> simp only [close1] at h
  case sl id off len =>
    split at h
    · split at h
      · split at h
        · injection h with e; obtain ⟨rfl, _⟩ := Prod.mk.inj e; rfl
        · split at h
          · injection h with e; obtain ⟨rfl, _⟩ := Prod.mk.inj e; rfl
          · cases h
      · cases h
    · cases h
  all_goals first
    | (cases h; done)
    | (injection h with e; obtain ⟨rfl, _⟩ := Prod.mk.inj e; rfl)

theorem closeL_okStore : ∀ {cs : List Cell} {ks : List Nat} {σ σ' : St} {ds : List Cell}, closeL σ ks cs = some (ds, σ') → ds.all okStore = true
  | [], ks, σ, σ', ds, h => by simp [closeL] at h; obtain ⟨rfl, _⟩ := h; rfl
  | c :: cs, ks, σ, σ', ds, h => by
    simp only [closeL] at h
    split at h
    · rename_i h1
      split at h
      · rename_i h2
        injection h with e
        obtain ⟨rfl, _⟩ := Prod.mk.inj e
        simp [close1_okStore h1, closeL_okStore h2]
      · cases h
    · cases h

theorem RFL_oneCell : ∀ {cs : List Cell} {vs : List Value} {F : List Nat}, cs.all okStore = true → RFL G ep w cs vs F → ∀ v ∈ vs, v.oneCell' = true
  | [], [], _, _, _, v, hv => by simp at hv
  | [], _ :: _, _, _, h, _, _ => h.elim
  | _ :: _, [], _, _, h, _, _ => h.elim
  | c :: cs, u :: vs, F, ho, h, v, hv => by
    simp only [List.all_cons, Bool.and_eq_true] at ho
    obtain ⟨F1, F2, _, h1, h2⟩ := h
    rcases List.mem_cons.1 hv with rfl | hv
    · exact RF_oneCell ho.1 h1
    · exact RFL_oneCell ho.2 h2 v hv

theorem cell_splice {b : Nat} {cur : Array Value} {E : TypeId} (hh : w.heap[b]? = some (.cells cur E (0, 0))) {K n : Nat} {vs : List Value} (hv : vs.length = n) (hK : K + n ≤ cur.size) (x : Nat) :
    (w.setRow b (cur.toList.take K ++ vs ++ cur.toList.drop (K + n)).toArray).cell? ⟨b, x, none⟩ = if K ≤ x ∧ x < K + n then vs[x - K]? else w.cell? ⟨b, x, none⟩ := by
  rw [cell_setRow_same w b x cur _ E (0, 0) hh]
  simp only [List.getElem?_toArray]
  have hc : w.cell? ⟨b, x, none⟩ = cur[x]? := by simp [World.cell?, hh]
  rw [hc]
  split
  · rename_i h1
    rw [List.getElem?_append_left (by simp; omega), List.getElem?_append_right (by simp; omega)]
    simp [show min K cur.size = K by omega]
  · rename_i h1
    by_cases h2 : x < K
    · rw [List.getElem?_append_left (by simp; omega), List.getElem?_append_left (by simp; omega)]
      simp [h2]
    · rw [List.getElem?_append_right (by simp; omega)]
      simp [show min K cur.size = K by omega]
      congr 1; omega

theorem splice_eq {sz : Nat} {e cs : List Cell} {j : Nat} (he : e.length = sz) : splice sz e j cs = e.take j ++ cs ++ e.drop (j + cs.length) := by
  unfold splice
  split
  · rename_i h
    obtain ⟨rfl, h⟩ := h
    simp [h, ← he]
  · rfl

theorem step_store (h : Sim V σ a w G) {share : Bool} {n : Nat} {ks : List Nat} {x v : Opd} {o : Oper} (hd : o.dst = none) (hok : storeOK P V.N n x v o.op = true)
    (hm : sval σ share n ks x v = some σ') :
    ∃ w' G', (execOp a.eval o).run P w = .ok .skip w' ∧ Sim V σ' a w' G' ∧ G'.μ = G.μ := by
  obtain ⟨dst, op, ty, pos, aft, gd⟩ := o
  cases op <;> try (simp [storeOK] at hok; done)
  rename_i t y z
  simp only [storeOK, Bool.and_eq_true] at hok
  obtain ⟨⟨hsz, hx⟩, hv⟩ := hok
  obtain ⟨inf, hinf, hn⟩ : ∃ inf, P.info? t = some inf ∧ inf.size = n := by
    split at hsz
    · rename_i inf hi; exact ⟨inf, hi, by simpa using hsz⟩
    · cases hsz
  have hgx := h.get hx
  have hgv := h.get hv
  simp only [sval] at hm
  split at hm
  · rename_i id i j xs he hxs
    rw [he] at hgx
    obtain ⟨l, hl, hblk, ev⟩ := RX_ad (RS_c hgx)
    split at hm
    · rename_i hxl
      have hflat := flat_RS hxs hgv
      -- the cells that are stored, and what they own
      obtain ⟨cs, σ1, F, hst, hless, hr, ho, hok1, hclen⟩ : ∃ cs σ1 F, (match (some (cs, σ1) : Option (List Cell × St)) with
          | some (cs, σ1) => match σ1.h id with
            | some row => match row.es[i]? with
              | some e => if j + n ≤ e.length then some { σ1.setH id (some ⟨row.sz, row.es.set i (splice row.sz e j cs)⟩) with ep := σ.ep + 1 } else none
              | none => none
            | none => none
          | none => none) = some σ' ∧ Less σ σ1 ∧ RFL G σ.ep w cs (a.eval z).cells.toList F ∧ OwnF V σ1 w G F ∧ cs.all okStore = true ∧ cs.length = n := by
        cases share with
        | true =>
          simp only [if_true] at hm
          by_cases hall : xs.all okStore = true
          · rw [if_pos hall] at hm
            exact ⟨xs, σ, [], hm, Less.refl _, RFL_of_RXs hflat, OwnF.nil, hall, hxl⟩
          · rw [if_neg hall] at hm; cases hm
        | false =>
          simp only [Bool.false_eq_true, if_false] at hm
          cases hc : closeL σ ks xs with
          | none => rw [hc] at hm; cases hm
          | some p =>
            obtain ⟨cs, σ1⟩ := p
            rw [hc] at hm
            obtain ⟨hless, F, hr, ho, _⟩ := closeL_ok h hflat hc
            exact ⟨cs, σ1, F, hm, hless, hr, ho, closeL_okStore hc, by rw [closeL_length hc, hxl]⟩
      simp only at hst
      split at hst
      · rename_i row hrow
        split at hst
        · rename_i e hel
          split at hst
          · rename_i hje
            injection hst with hst; subst hst
            have h1 := h.less hless
            obtain ⟨l', hl', ho1, hobj⟩ := h1.objs id row hrow
            obtain rfl : l' = l := by rw [hl] at hl'; injection hl' with e; exact e.symm
            rw [if_pos hblk] at hobj
            obtain ⟨cur, E, F', hheap, hcap, hlen, hmx, hFp, hrr⟩ := hobj
            rw [hless.ep] at hrr
            obtain ⟨F1, Fe, F2, hFF, hfs, hesz, hset⟩ := RFRow_focus hrr hel
            have hvl : (a.eval z).cells.toList.length = n := by rw [RFL_length hr, hclen]
            have hvs0 : (a.eval z).cells.size = n := by simpa using hvl
            have hilt : i < row.es.length := (List.getElem?_eq_some_iff.1 hel).1
            have hin : i * l'.sz + l'.sz ≤ l'.cap * l'.sz := by
              have := Nat.mul_le_mul_right l'.sz (show i + 1 ≤ l'.cap by omega)
              rw [Nat.add_mul] at this; omega
            have hend : l'.o + i * l'.sz + j + n ≤ cur.size := by omega
            -- the run
            have hrun := run_storeCells_at P l'.b (l'.o + i * l'.sz + j) E (a.eval z).cells.toList 0 cur w hheap (by omega) (RFL_oneCell hok1 hr)
            simp only [Nat.add_zero, hvl] at hrun
            -- the element, in three parts
            have hesplit : e = e.take j ++ ((e.drop j).take n ++ e.drop (j + n)) := by
              rw [show e.drop (j + n) = (e.drop j).drop n by rw [List.drop_drop], List.take_append_drop, List.take_append_drop]
            rw [hesplit] at hfs
            obtain ⟨Fa, Fr, hFe, hfa, hfr⟩ := RFs_split hfs
            obtain ⟨Fm, Fb, hFr, hfm, hfb⟩ := RFs_split hfr
            subst hFr; subst hFe
            have hlj : (e.take j).length = j := by simp; omega
            have hln : ((e.drop j).take n).length = n := by simp; omega
            rw [hlj, hln] at hfb
            rw [hlj] at hfm
            have hFid : G.Fp id = l'.b :: (F1 ++ (Fa ++ (Fm ++ Fb)) ++ F2) := by rw [hFp, hFF]
            have hnd := h1.nodup id row hrow
            rw [hFid] at hnd
            -- what is owned, old and new
            have hmem : ∀ b ∈ F1 ++ (Fa ++ F ++ Fb) ++ F2, b ∈ F ∨ (b ∈ G.Fp id ∧ b ≠ l'.b) := fun b hb => by
              have hne : b ∈ F1 ++ (Fa ++ (Fm ++ Fb)) ++ F2 → b ≠ l'.b := fun hb e => by subst e; exact (List.nodup_cons.1 hnd).1 hb
              simp only [List.mem_append] at hb
              by_cases hbF : b ∈ F
              · exact .inl hbF
              · have : b ∈ F1 ++ (Fa ++ (Fm ++ Fb)) ++ F2 := by
                  simp only [List.mem_append]
                  rcases hb with (hb | (hb | hb) | hb) | hb <;> first | exact absurd hb hbF | simp [hb]
                exact .inr ⟨by rw [hFid]; exact List.mem_cons_of_mem _ this, hne this⟩
            have hFnot : ∀ b ∈ F, b ∉ G.Fp id := fun b hb => ho.apart b hb id row hrow
            have hFb : l'.b ∉ F := fun hb => hFnot _ hb (by rw [hFid]; simp)
            have other : ∀ b, b ≠ l'.b → (w.setRow l'.b (cur.toList.take (l'.o + i * l'.sz + j) ++ (a.eval z).cells.toList ++ cur.toList.drop (l'.o + i * l'.sz + j + n)).toArray).heap[b]? = w.heap[b]? := fun b hb => setRow_other w l'.b b _ hb
            have hcellW := cell_splice (w := w) hheap hvl hend
            have hbS : ∀ b, G.S b → b ≠ l'.b := fun b hb e => (h1.own id row hrow l'.b (by rw [hFid]; simp)).2.1 (by rw [← e]; exact hb)
            have s0 : Sees G (G.fp id (l'.b :: (F1 ++ (Fa ++ F ++ Fb) ++ F2))) σ.ep (σ.ep + 1) w (w.setRow l'.b (cur.toList.take (l'.o + i * l'.sz + j) ++ (a.eval z).cells.toList ++ cur.toList.drop (l'.o + i * l'.sz + j + n)).toArray) := write_sees hbS id _
            have hold : ∀ b ∈ F1 ++ (Fa ++ (Fm ++ Fb)) ++ F2, b ≠ l'.b := fun b hb e => by subst e; exact (List.nodup_cons.1 hnd).1 hb
            have hw := h1.write hrow hl hblk hheap (cur' := (cur.toList.take (l'.o + i * l'.sz + j) ++ (a.eval z).cells.toList ++ cur.toList.drop (l'.o + i * l'.sz + j + n)).toArray) (by simp [hvs0]; omega) hcap hmx
              (row' := ⟨row.sz, row.es.set i (splice row.sz e j cs)⟩) (F := F1 ++ (Fa ++ F ++ Fb) ++ F2) rfl (by simpa using hlen) ?_ ?_ ?_ ?_
            · refine ⟨_, G.fp id (l'.b :: (F1 ++ (Fa ++ F ++ Fb) ++ F2)), ?_, by rw [← hless.ep]; exact hw, rfl⟩
              simp only [execOp, ev, Instr.storeAt, Instr.sureAddr, storeVar, sizeOf, typeInfo]
              have hvs : (a.eval z).cells.size = inf.size := by rw [hn, ← hvl]; simp
              simp [hinf, hvs, hrun]
            · -- no block twice
              refine List.nodup_cons.2 ⟨fun hb => ?_, ?_⟩
              · rcases hmem _ hb with h1 | h1
                · exact hFb h1
                · exact h1.2 rfl
              · have n1 := (List.nodup_cons.1 hnd).2
                have n2 := ho.nodup
                have dis : ∀ b, b ∈ F → b ∉ F1 ++ (Fa ++ (Fm ++ Fb)) ++ F2 := fun b hb hb2 => hFnot b hb (by rw [hFid]; exact List.mem_cons_of_mem _ hb2)
                simp only [List.nodup_append, List.mem_append] at n1 dis ⊢
                obtain ⟨⟨q1, ⟨q2, ⟨q3, q4, q5⟩, q6⟩, q7⟩, q8, q9⟩ := n1
                refine ⟨⟨q1, ⟨⟨q2, n2, fun x hx y hy e => ?_⟩, q4, fun x hx y hy e => ?_⟩, fun x hx y hy e => ?_⟩, q8, fun x hx y hy e => ?_⟩
                · subst e; exact dis x hy (.inl (.inr (.inl hx)))
                · subst e
                  rcases hx with hx | hx
                  · exact q6 x hx x (.inr hy) rfl
                  · exact dis x hx (.inl (.inr (.inr (.inr hy))))
                · subst e
                  rcases hy with (hy | hy) | hy
                  · exact q7 x hx x (.inl hy) rfl
                  · exact dis x hy (.inl (.inl hx))
                  · exact q7 x hx x (.inr (.inr hy)) rfl
                · subst e
                  rcases hx with hx | (hx | hx) | hx
                  · exact q9 x (.inl hx) x hy rfl
                  · exact q9 x (.inr (.inl hx)) x hy rfl
                  · exact dis x hx (.inr hy)
                  · exact q9 x (.inr (.inr (.inr hx))) x hy rfl
            · intro b hb
              rcases hmem b hb with h2 | h2
              · exact ho.own b h2
              · exact h1.own id row hrow b h2.1
            · intro b hb i2 r2 hr2 hne
              rcases hmem b hb with h2 | h2
              · exact ho.apart b h2 i2 r2 hr2
              · exact h1.apart id i2 row r2 hrow hr2 (Ne.symm hne) b h2.1
            · rw [hless.ep]
              refine hset _ _ _ _ _ s0 (fun x hx => ?_) (fun b hb => other b (hold b (by rcases List.mem_append.1 hb with hb | hb <;> simp [hb]))) ?_ ?_
              · rw [hcellW x, if_neg (by omega)]
              · rw [splice_eq (by rw [hesz, ho1])]; simp; omega
              · rw [splice_eq (by rw [hesz, ho1]), hclen]
                refine RFs_join (RFs_join ?_ ?_) ?_
                · exact RFs_sees s0 l'.b _ _ _ (fun x hx hx2 => by rw [hcellW x, if_neg (by omega)]) hfa (fun b hb => other b (hold b (by simp [hb])))
                · rw [hlj]
                  refine RFL_RFs ?_ (fun k u hu => ?_) (vs := (a.eval z).cells.toList)
                  · exact RFL_sees s0 hr fun b hb => other b fun e => hFb (by rw [← e]; exact hb)
                  · have := (List.getElem?_eq_some_iff.1 hu).1
                    rw [hcellW, if_pos (by omega)]
                    rw [← hu]; congr 1; omega
                · simp only [List.length_append, hlj, hclen]
                  rw [← Nat.add_assoc]
                  exact RFs_sees s0 l'.b _ _ _ (fun x hx hx2 => by rw [hcellW x, if_neg (by omega)]) hfb (fun b hb => other b (hold b (by simp [hb])))
          · cases hst
        · cases hst
      · cases hst
    · cases hm
  · cases hm

end
end Go.Fw

/- What is owned: objects are closed into cells, and new ones are made. -/
import Derived.Test.YtmdddmjmppckhaaFwQOk6
namespace Go.Fw

def RFL (G : Gh) (ep : Nat) (w : World) : List Cell → List Value → List Nat → Prop
  | [], [], F => F = []
  | c :: cs, v :: vs, F => ∃ F1 F2, F = F1 ++ F2 ∧ RF G ep w c v F1 ∧ RFL G ep w cs vs F2
  | _, _, _ => False

/-- Is a row data alone? -/
def dataRow (es : List (List Cell)) : Bool := es.all fun e => e.all fun c => !c.live

def St.kill (σ : St) (id : Id) : St := σ.setH id none

/-- A cell as it is kept in an object: a whole slice gives its object away. -/
def close1 (k : Nat) (σ : St) : Cell → Option (Cell × St)
  | .z => some (.ow k [], σ)
  | .sl id off len => match σ.h id with
    | some row => if dataRow row.es then
        if off = 0 ∧ len = row.es.length then some (.ow row.sz row.es, σ.kill id)
        else if off + len ≤ row.es.length then some (.ow row.sz ((row.es.drop off).take len), σ.kill id) else none
      else none
    | none => none
  | .sn .. | .sa .. | .bad | .und => none
  | c => some (c, σ)

def closeL (σ : St) : List Nat → List Cell → Option (List Cell × St)
  | _, [] => some ([], σ)
  | ks, c :: cs => match close1 (ks.headD 0) σ c with
    | some (c', σ1) => match closeL σ1 ks.tail cs with
      | some (cs', σ2) => some (c' :: cs', σ2)
      | none => none
    | none => none

section
variable {P : Program} {V : Env} {σ σ' : St} {a : Act} {w w' : World} {G G' : Gh} {ep ep' : Nat}

theorem RFL_length : ∀ {cs : List Cell} {vs : List Value} {F : List Nat}, RFL G ep w cs vs F → vs.length = cs.length
  | [], [], _, _ => rfl
  | [], _ :: _, _, h => h.elim
  | _ :: _, [], _, h => h.elim
  | c :: cs, v :: vs, F, h => by
    obtain ⟨F1, F2, _, _, h2⟩ := h
    simp [RFL_length h2]

theorem RFL_RFs {b : Nat} : ∀ {cs : List Cell} {vs : List Value} {F : List Nat} {k : Nat}, RFL G ep w cs vs F → (∀ (i : Nat) (v : Value), vs[i]? = some v → w.cell? ⟨b, k + i, none⟩ = some v) → RFs G ep w b k cs F
  | [], [], F, _, h, _ => h
  | [], _ :: _, _, _, h, _ => h.elim
  | _ :: _, [], _, _, h, _ => h.elim
  | c :: cs, v :: vs, F, k, h, hc => by
    obtain ⟨F1, F2, rfl, h1, h2⟩ := h
    refine ⟨v, F1, F2, rfl, by simpa using hc 0 v rfl, h1, RFL_RFs h2 fun i u hu => ?_⟩
    have := hc (i + 1) u (by simpa using hu)
    rw [← this]; congr 2; omega

theorem RFL_append : ∀ {cs : List Cell} {vs : List Value} {F : List Nat} {ds : List Cell} {us : List Value} {F' : List Nat}, RFL G ep w cs vs F → RFL G ep w ds us F' → RFL G ep w (cs ++ ds) (vs ++ us) (F ++ F')
  | [], [], F, ds, us, F', h, k => by obtain rfl : F = [] := h; simpa using k
  | [], _ :: _, _, _, _, _, h, _ => h.elim
  | _ :: _, [], _, _, _, _, h, _ => h.elim
  | c :: cs, v :: vs, F, ds, us, F', h, k => by
    obtain ⟨F1, F2, rfl, h1, h2⟩ := h
    exact ⟨F1, F2 ++ F', by simp, h1, RFL_append h2 k⟩

theorem RFL_sees (s : Sees G G' ep ep' w w') : ∀ {cs : List Cell} {vs : List Value} {F : List Nat}, RFL G ep w cs vs F → (∀ b ∈ F, w'.heap[b]? = w.heap[b]?) → RFL G' ep' w' cs vs F
  | [], [], F, h, _ => h
  | [], _ :: _, _, h, _ => h.elim
  | _ :: _, [], _, h, _ => h.elim
  | c :: cs, v :: vs, F, h, hF => by
    obtain ⟨F1, F2, rfl, h1, h2⟩ := h
    exact ⟨F1, F2, rfl, RF_sees s h1 fun x hx => hF x (by simp [hx]), RFL_sees s h2 fun x hx => hF x (by simp [hx])⟩

theorem RFL_of_RXs {cs : List Cell} {vs : List Value} (h : RXs G ep w cs vs) : RFL G ep w cs vs [] := by
  induction h with
  | nil => rfl
  | cons h _ ih => exact ⟨[], [], rfl, .inr ⟨h, rfl⟩, ih⟩

/-- A row whose cells are data. -/
theorem RF_data {c : Cell} {v : Value} {F : List Nat} (hl : c.live = false) (h : RF G ep w c v F) : RD w G.S c v F := by
  rcases h with h | ⟨h, rfl⟩
  · exact h
  · exact (RX_plain hl).1 h
theorem RFs_data {b : Nat} : ∀ {cs : List Cell} {k : Nat} {F : List Nat}, (cs.all fun c => !c.live) = true → RFs G ep w b k cs F → RCs w G.S b k cs F
  | [], _, _, _, h => by simpa only [RCs, RFs] using h
  | c :: cs, k, F, hl, h => by
    simp only [List.all_cons, Bool.and_eq_true, Bool.not_eq_true'] at hl
    obtain ⟨u, F1, F2, rfl, hu, h1, h2⟩ := h
    simp only [RCs]
    exact ⟨u, F1, F2, rfl, hu, RF_data hl.1 h1, RFs_data hl.2 h2⟩
theorem RFRow_data {b sz : Nat} : ∀ {es : List (List Cell)} {k : Nat} {F : List Nat}, dataRow es = true → RFRow G ep w b sz k es F → RRow w G.S b sz k es F
  | [], _, _, _, h => by simpa only [RRow, RFRow] using h
  | e :: es, k, F, hl, h => by
    simp only [dataRow, List.all_cons, Bool.and_eq_true] at hl
    obtain ⟨h0, F1, F2, rfl, h1, h2⟩ := h
    simp only [RRow]
    exact ⟨h0, F1, F2, rfl, RFs_data hl.1 h1, RFRow_data (es := es) (by simpa [dataRow] using hl.2) h2⟩

/-- The other way. -/
theorem RCs_RFs {b : Nat} : ∀ {cs : List Cell} {k : Nat} {F : List Nat}, RCs w G.S b k cs F → RFs G ep w b k cs F
  | [], _, _, h => by simpa only [RCs, RFs] using h
  | c :: cs, k, F, h => by
    simp only [RCs] at h
    obtain ⟨u, F1, F2, rfl, hu, h1, h2⟩ := h
    exact ⟨u, F1, F2, rfl, hu, .inl h1, RCs_RFs h2⟩
theorem RRow_RFRow {b sz : Nat} : ∀ {es : List (List Cell)} {k : Nat} {F : List Nat}, RRow w G.S b sz k es F → RFRow G ep w b sz k es F
  | [], _, _, h => by simpa only [RRow, RFRow] using h
  | e :: es, k, F, h => by
    simp only [RRow] at h
    obtain ⟨h0, F1, F2, rfl, h1, h2⟩ := h
    exact ⟨h0, F1, F2, rfl, RCs_RFs h1, RRow_RFRow h2⟩

/-- A cut of a row; what falls away is not owned any more. -/
theorem RFRow_cut {b sz : Nat} : ∀ (off len : Nat) {es : List (List Cell)} {k : Nat} {F : List Nat}, RFRow G ep w b sz k es F → off + len ≤ es.length → ∃ F', RFRow G ep w b sz (k + off * sz) ((es.drop off).take len) F' ∧ F'.Sublist F
  | 0, 0, es, k, F, h, _ => ⟨[], by simp [RFRow], List.nil_sublist _⟩
  | 0, len + 1, [], k, F, h, hl => by simp at hl
  | 0, len + 1, e :: es, k, F, h, hl => by
    obtain ⟨h0, F1, F2, rfl, h1, h2⟩ := h
    obtain ⟨F', h3, h4⟩ := RFRow_cut 0 len h2 (by simp at hl; omega)
    refine ⟨F1 ++ F', ?_, List.Sublist.append (List.Sublist.refl _) h4⟩
    simp only [List.drop_zero, List.take_succ_cons, Nat.zero_mul, Nat.add_zero] at h3 ⊢
    exact ⟨h0, F1, F', rfl, h1, h3⟩
  | off + 1, len, [], k, F, h, hl => by simp at hl
  | off + 1, len, e :: es, k, F, h, hl => by
    obtain ⟨h0, F1, F2, rfl, h1, h2⟩ := h
    obtain ⟨F', h3, h4⟩ := RFRow_cut off len h2 (by simp at hl; omega)
    refine ⟨F', ?_, h4.trans (List.sublist_append_right _ _)⟩
    rw [show k + (off + 1) * sz = k + sz + off * sz by rw [Nat.add_mul]; omega]
    simpa using h3

/-- Blocks that are owned, and by no object. -/
structure OwnF (V : Env) (σ : St) (w : World) (G : Gh) (F : List Nat) : Prop where
  nodup : F.Nodup
  own : ∀ b ∈ F, b < w.heap.size ∧ ¬ G.S b ∧ (V.E0 b ∨ V.w0.heap.size ≤ b)
  apart : ∀ b ∈ F, ∀ id row, σ.h id = some row → b ∉ G.Fp id

theorem OwnF.nil : OwnF V σ w G [] := ⟨List.nodup_nil, by simp, by simp⟩

/-- A state with fewer objects. -/
structure Less (σ σ' : St) : Prop where
  t : σ'.t = σ.t
  ep : σ'.ep = σ.ep
  nx : σ'.nx = σ.nx
  h : ∀ id row, σ'.h id = some row → σ.h id = some row

theorem Less.refl (σ : St) : Less σ σ := ⟨rfl, rfl, rfl, fun _ _ h => h⟩
theorem Less.trans {σ1 σ2 σ3 : St} (h : Less σ1 σ2) (k : Less σ2 σ3) : Less σ1 σ3 := ⟨k.t.trans h.t, k.ep.trans h.ep, k.nx.trans h.nx, fun id row hr => h.h id row (k.h id row hr)⟩
theorem Less.kill (σ : St) (id : Id) : Less σ (σ.kill id) := ⟨rfl, rfl, rfl, fun i row h => by
  simp only [St.kill, St.setH] at h
  split at h
  · cases h
  · exact h⟩

theorem Sim.less (h : Sim V σ a w G) (l : Less σ σ') : Sim V σ' a w G :=
  { h with
    slots := fun s hs => by rw [l.t, l.ep]; exact h.slots s hs
    objs := fun id row hr => by rw [l.ep]; exact h.objs id row (l.h id row hr)
    nodup := fun id row hr => h.nodup id row (l.h id row hr)
    own := fun id row hr => h.own id row (l.h id row hr)
    apart := fun id id' row row' hr hr' => h.apart id id' row row' (l.h id row hr) (l.h id' row' hr')
    fresh := fun id hid => h.fresh id (by rw [l.nx] at hid; exact hid) }

theorem close1_ok (h : Sim V σ a w G) {k : Nat} {c c' : Cell} {v : Value} (hx : RX G σ.ep w c v) (hc : close1 k σ c = some (c', σ')) :
    Less σ σ' ∧ ∃ F, RF G σ.ep w c' v F ∧ OwnF V σ' w G F ∧ ∀ b ∈ F, ∃ id row, σ.h id = some row ∧ b ∈ G.Fp id := by
  have keep : some (c, σ) = some (c', σ') → Less σ σ' ∧ ∃ F, RF G σ.ep w c' v F ∧ OwnF V σ' w G F ∧ ∀ b ∈ F, ∃ id row, σ.h id = some row ∧ b ∈ G.Fp id := fun e => by
    injection e with e
    obtain ⟨rfl, rfl⟩ : c = c' ∧ σ = σ' := by simpa using e
    exact ⟨Less.refl _, [], .inr ⟨hx, rfl⟩, OwnF.nil, by simp⟩
  cases c <;> simp only [close1] at hc <;> try exact keep hc
  all_goals try (cases hc; done)
  case z =>
    injection hc with e
    obtain ⟨rfl, rfl⟩ : Cell.ow k [] = c' ∧ σ = σ' := by simpa using e
    refine ⟨Less.refl _, [], .inl ?_, OwnF.nil, by simp⟩
    have hd : RD w G.S .z v [] := hx
    simp only [RD] at hd ⊢
    exact .inl ⟨trivial, trivial, hd.1⟩
  case sl id off len =>
    split at hc
    · rename_i row hrow
      split at hc
      · rename_i hdata
        obtain ⟨l, hl, hv⟩ := hx
        obtain ⟨l', hl', ho1, ho⟩ := h.objs id row hrow
        obtain rfl : l' = l := by rw [hl] at hl'; injection hl' with e; exact e.symm
        -- what the object's blocks are
        have main : ∀ es', (∃ F', RRow w G.S l'.b l'.sz (l'.o + off * l'.sz) es' F' ∧ F'.Sublist ((G.Fp id).drop 1)) ∨ es' = [] → es'.length = len → off + len ≤ row.es.length → σ' = σ.kill id → c' = .ow row.sz es' →
            Less σ σ' ∧ ∃ F, RF G σ.ep w c' v F ∧ OwnF V σ' w G F ∧ ∀ b ∈ F, ∃ id row, σ.h id = some row ∧ b ∈ G.Fp id := by
          rintro es' hes hlen hle rfl rfl
          refine ⟨Less.kill _ _, ?_⟩
          have ownSub : ∀ F, F.Sublist (G.Fp id) → OwnF V (σ.kill id) w G F := fun F hs =>
            ⟨(h.nodup id row hrow).sublist hs, fun b hb => h.own id row hrow b (hs.subset hb), fun b hb id2 row2 hr2 => by
              simp only [St.kill, St.setH] at hr2
              split at hr2
              · cases hr2
              · rename_i hne
                exact h.apart id id2 row row2 hrow hr2 (Ne.symm hne) b (hs.subset hb)⟩
          rcases hv with ⟨hb, hlt, hle2, ev⟩ | ⟨hoc, rfl, ad, ev⟩
          · rw [if_pos hb] at ho
            obtain ⟨cur, E, F0, hh, hcap, hlen2, hm, hF, hr⟩ := ho
            rcases hes with ⟨F', hrr, hsub⟩ | rfl
            · have hsub' : (l'.b :: F').Sublist (G.Fp id) := by rw [hF] at hsub ⊢; simpa using hsub
              refine ⟨l'.b :: F', .inl ?_, ownSub _ hsub', fun b hb => ⟨id, row, hrow, hsub'.subset hb⟩⟩
              simp only [RD]
              refine .inr ⟨l'.b, l'.o + off * l'.sz, l'.cap - off, cur, E, F', by rw [hlen]; exact ev, hh, ?_, by rw [hlen]; omega, by omega, rfl, by rw [← ho1]; exact hrr⟩
              rw [← ho1, ← hcap, Nat.add_assoc, ← Nat.add_mul]
              congr 2; omega
            · refine ⟨[l'.b], .inl ?_, ownSub _ (by rw [hF]; simp), fun b hb => ⟨id, row, hrow, by rw [hF]; simp at hb; simp [hb]⟩⟩
              simp only [RD]
              refine .inr ⟨l'.b, l'.o + off * l'.sz, l'.cap - off, cur, E, [], by rw [hlen]; exact ev, hh, ?_, by simp, by omega, rfl, by simp [RRow]⟩
              rw [← ho1, ← hcap, Nat.add_assoc, ← Nat.add_mul]
              congr 2; omega
          · have he : es' = [] := List.eq_nil_of_length_eq_zero hlen
            subst he
            refine ⟨[], .inl ?_, OwnF.nil, by simp⟩
            simp only [RD]
            exact .inl ⟨trivial, trivial, ad, ev⟩
        have rows : ∀ off' len', off' + len' ≤ row.es.length → (∃ F', RRow w G.S l'.b l'.sz (l'.o + off' * l'.sz) ((row.es.drop off').take len') F' ∧ F'.Sublist ((G.Fp id).drop 1)) ∨ (row.es.drop off').take len' = [] := fun off' len' hle => by
          split at ho
          · obtain ⟨cur, E, F0, hh, hcap, hlen2, hm, hF, hr⟩ := ho
            obtain ⟨F', h1, h2⟩ := RFRow_cut off' len' hr hle
            left
            refine ⟨F', RFRow_data ?_ h1, by rw [hF]; simpa using h2⟩
            simp only [dataRow, List.all_eq_true] at hdata ⊢
            exact fun e he => hdata e (List.mem_of_mem_drop (List.mem_of_mem_take he))
          · right; rw [ho.2.1]; simp
        split at hc
        · rename_i hfull
          injection hc with e
          obtain ⟨rfl, rfl⟩ : Cell.ow row.sz row.es = c' ∧ σ.kill id = σ' := by simpa using e
          obtain ⟨rfl, rfl⟩ := hfull
          have := rows 0 row.es.length (by omega)
          simp only [List.drop_zero, List.take_length] at this
          exact main row.es this rfl (by omega) rfl rfl
        · split at hc
          · rename_i hle
            injection hc with e
            obtain ⟨rfl, rfl⟩ : Cell.ow row.sz ((row.es.drop off).take len) = c' ∧ σ.kill id = σ' := by simpa using e
            exact main _ (rows off len hle) (by simp; omega) hle rfl rfl
          · cases hc
      · cases hc
    · cases hc

theorem closeL_ok : ∀ {cs : List Cell} {vs : List Value} {ks : List Nat} {σ σ' : St} {cs' : List Cell}, Sim V σ a w G → RXs G σ.ep w cs vs → closeL σ ks cs = some (cs', σ') →
    Less σ σ' ∧ ∃ F, RFL G σ.ep w cs' vs F ∧ OwnF V σ' w G F ∧ ∀ b ∈ F, ∃ id row, σ.h id = some row ∧ b ∈ G.Fp id
  | [], vs, ks, σ, σ', cs', h, hx, hc => by
    cases hx
    simp only [closeL] at hc
    injection hc with e
    obtain ⟨rfl, rfl⟩ : [] = cs' ∧ σ = σ' := by simpa using e
    exact ⟨Less.refl _, [], rfl, OwnF.nil, by simp⟩
  | c :: cs, _, ks, σ, σ', cs', h, hx, hc => by
    cases hx with
    | cons hx1 hx2 =>
      rename_i v vs
      simp only [closeL] at hc
      split at hc
      · rename_i c1 σ1 h1
        split at hc
        · rename_i cs2 σ2 h2
          injection hc with e
          obtain ⟨rfl, rfl⟩ : c1 :: cs2 = cs' ∧ σ2 = σ' := by simpa using e
          obtain ⟨l1, F1, r1, o1, f1⟩ := close1_ok h hx1 h1
          have hs1 := h.less l1
          obtain ⟨l2, F2, r2, o2, f2⟩ := closeL_ok hs1 (by rw [l1.ep]; exact hx2) h2
          rw [l1.ep] at r2
          refine ⟨l1.trans l2, F1 ++ F2, ⟨F1, F2, rfl, r1, r2⟩, ⟨?_, ?_, ?_⟩, ?_⟩
          · refine List.nodup_append.2 ⟨o1.nodup, o2.nodup, fun x hx y hy e => ?_⟩
            subst e
            obtain ⟨id, row, hr, hb⟩ := f2 x hy
            exact o1.apart x hx id row hr hb
          · intro b hb
            rcases List.mem_append.1 hb with hb | hb
            · exact o1.own b hb
            · exact o2.own b hb
          · intro b hb id row hr
            rcases List.mem_append.1 hb with hb | hb
            · exact o1.apart b hb id row (l2.h id row hr)
            · exact o2.apart b hb id row hr
          · intro b hb
            rcases List.mem_append.1 hb with hb | hb
            · exact f1 b hb
            · obtain ⟨id, row, hr, hb⟩ := f2 b hb
              exact ⟨id, row, l1.h id row hr, hb⟩
        · cases hc
      · cases hc

end
end Go.Fw

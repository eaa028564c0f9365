/- What a claim's arguments are, as cells. -/
import Derived.Test.YtmdddmjmppckhaaFwProg
import Derived.ChangeArms
import GoSem.ClaimJoined
namespace Go.Fw

inductive Ty where
  | int (k : IntKind)
  | bool
  | sl (bytes : Nat) (e : Ty)
  | st (fs : List Ty)

mutual
def HasTy : Ty → List Cell → Prop
  | .int k, cs => ∃ n, cs = [.int k n] ∧ (Lit.int k n).wf = true
  | .bool, cs => ∃ b, cs = [.bool b]
  | .sl B e, cs => ∃ es, cs = [.ro es] ∧ es.length ≤ maxLen ∧ es.length * B ≤ reachBytes ∧ ∀ x ∈ es, HasTy e x
  | .st fs, cs => HasTys fs cs
def HasTys : List Ty → List Cell → Prop
  | [], cs => cs = []
  | T :: Ts, cs => ∃ c1 c2, cs = c1 ++ c2 ∧ HasTy T c1 ∧ HasTys Ts c2
end

def tysOf (P : Program) (g : TypeId → Option Ty) : Nat → List (Nat × TypeId) → Option (List Ty)
  | _, [] => some []
  | k, (off, t) :: fs => if off = k then match g t, tysOf P g (k + P.cellsOf t) fs with
    | some T, some Ts => some (T :: Ts)
    | _, _ => none
    else none

def tyOf (P : Program) : Nat → TypeId → Option Ty
  | 0, _ => none
  | n + 1, t => match P.underlying t with
    | some (.int k) => if P.cellsOf t = 1 then some (.int k) else none
    | some .bool => if P.cellsOf t = 1 then some .bool else none
    | some (.slice e) => if P.cellsOf t = 1 ∧ 0 < P.cellsOf e then (tyOf P n e).map (.sl (P.bytesOf e)) else none
    | some (.struct fs) => if (fs.toList.map fun f => P.cellsOf f.type).sum = P.cellsOf t then (tysOf P (tyOf P n) 0 (fs.toList.map fun f => (f.offset, f.type))).map .st else none
    | _ => none

section
variable {H : Type} {enc : TypeId × Value → H} {P : Program} {w : World} {base : Nat} {spare : Nat → Bool} {held : Bool}

/-- Cells that stand for values, all of them data. -/
def Stand (w : World) (cs : List Cell) (vs : List Value) : Prop := RXs (G0 (AllB w)) 0 w cs vs

theorem stand_one {c : Cell} {v : Value} (hl : c.live = false) (h : RD w (AllB w) c v []) : Stand w [c] [v] := .cons ((RX_plain hl).2 h) .nil

theorem noLive : ∀ {T : Ty} {cs : List Cell}, HasTy T cs → (cs.all fun c => !c.live) = true
  | .int k, _, h => by simp only [HasTy] at h; obtain ⟨n, rfl, _⟩ := h; rfl
  | .bool, _, h => by simp only [HasTy] at h; obtain ⟨b, rfl⟩ := h; rfl
  | .sl B e, _, h => by simp only [HasTy] at h; obtain ⟨es, rfl, _⟩ := h; rfl
  | .st fs, cs, h => by simp only [HasTy] at h; exact noLives h
where
  noLives : ∀ {Ts : List Ty} {cs : List Cell}, HasTys Ts cs → (cs.all fun c => !c.live) = true
    | [], _, h => by simp only [HasTys] at h; subst h; rfl
    | T :: Ts, _, h => by
      simp only [HasTys] at h
      obtain ⟨c1, c2, rfl, h1, h2⟩ := h
      rw [List.all_append, noLive h1, noLives h2]; rfl

theorem stand_RCs {b : Nat} : ∀ {cs : List Cell} {vs : List Value} {k : Nat}, Stand w cs vs → (cs.all fun c => !c.live) = true → (∀ (i : Nat) (v : Value), vs[i]? = some v → w.cell? ⟨b, k + i, none⟩ = some v) → RCs w (AllB w) b k cs []
  | [], _, _, .nil, _, _ => by simp [RCs]
  | c :: cs, _, k, .cons h1 h2, hl, hc => by
    simp only [List.all_cons, Bool.and_eq_true, Bool.not_eq_true'] at hl
    simp only [RCs]
    refine ⟨_, [], [], rfl, by simpa using hc 0 _ rfl, (RX_plain hl.1).1 h1, stand_RCs h2 hl.2 fun i v hv => ?_⟩
    rw [show k + 1 + i = k + (i + 1) by omega]
    exact hc (i + 1) v (by simpa using hv)

theorem weightsAll_mem {H : Type} {P : Program} {e : TypeId} : ∀ {ds : List (DataW H)} {d : DataW H} {x : Nat}, d ∈ ds → x ∈ DataW.weights P e d → x ∈ DataW.weightsAll P e ds
  | [], _, _, h, _ => by simp at h
  | d0 :: ds, d, x, h, hx => by
    simp only [DataW.weightsAll, List.mem_append]
    rcases List.mem_cons.1 h with rfl | h
    · exact .inl hx
    · exact .inr (weightsAll_mem h hx)
theorem mapM_range_get {n : Nat} {f : Nat → Option Value} {us : List Value} (h : (List.range n).mapM f = some us) (j : Nat) (v : Value) (hv : us[j]? = some v) : f j = some v := by
  have hlt := (List.getElem?_eq_some_iff.1 hv).1
  have hl := mapM_some_length h
  simp only [List.length_range] at hl
  have := mapM_some_get h j j (by rw [List.getElem?_range (by omega)])
  rw [this, hv]

/-- What a claim reads of an argument is cells of its type. -/
theorem trod_ty : ∀ (n : Nat) {t : TypeId} {T : Ty} {fuel : Nat} {vs : List Value} {d : DataW H} {ps : List MemPlace}, tyOf P n t = some T → DataW.trod enc P w base spare held fuel t vs = some (d, ps) → (∀ x ∈ DataW.weights P t d, x ≤ reachBytes) →
    vs.length = P.cellsOf t ∧ ∃ cs, HasTy T cs ∧ Stand w cs vs
  | 0, _, _, _, _, _, _, h, _, _ => by simp [tyOf] at h
  | n + 1, t, T, fuel, vs, d, ps, h, ht, hw => by
    simp only [tyOf] at h
    split at h
    · rename_i k hu
      split at h
      · rename_i hc1
        injection h with h; subst h
        cases fuel with
        | zero => simp [DataW.trod] at ht
        | succ fuel =>
          unfold DataW.trod at ht
          rw [hu] at ht
          split at ht <;> try (cases ht; done)
          all_goals rename_i heq; cases heq
          rename_i k' m
          split at ht
          · rename_i hk
            obtain ⟨rfl, hwf⟩ := hk
            exact ⟨by rw [hc1]; rfl, [.int _ m], ⟨m, rfl, hwf⟩, stand_one rfl (by simp [RD])⟩
          · cases ht
      · cases h
    · rename_i hu
      split at h
      · rename_i hc1
        injection h with h; subst h
        cases fuel with
        | zero => simp [DataW.trod] at ht
        | succ fuel =>
          unfold DataW.trod at ht
          rw [hu] at ht
          split at ht <;> try (cases ht; done)
          all_goals rename_i heq; cases heq
          rename_i b
          exact ⟨by rw [hc1]; rfl, [.bool b], ⟨b, rfl⟩, stand_one rfl (by simp [RD])⟩
      · cases h
    · rename_i e hu
      split at h
      · rename_i hc
        obtain ⟨hc1, hcp⟩ := hc
        obtain ⟨E, hE, rfl⟩ := Option.map_eq_some_iff.1 h
        rcases DataW.trod_slice hu ht with ⟨rfl, hx⟩ | ⟨a, len, cap, elems, rest, m, rfl, rfl, hx, hb, hlc, hcm, hel, helem, _, _⟩
        · exact ⟨by rw [hc1]; rfl, [.ro []], ⟨[], rfl, by simp, by simp, by simp⟩, stand_one rfl (by simp [RD])⟩
        · injection hx with hd hps
          subst hd
          have hwl : ∀ x ∈ DataW.weightsAll P e (elems.map (·.1)), x ≤ reachBytes := fun x hx => hw x (by
            simp only [DataW.weights, hu]; exact List.mem_cons_of_mem _ (List.mem_append.2 (.inl hx)))
          have hwb : len * P.bytesOf e ≤ reachBytes := by
            have := hw _ (show ((elems.map (·.1)).length + (rest.map (·.1)).length) * P.bytesOf e ∈ DataW.weights P t (.slice (elems.map (·.1)) (rest.map (·.1))) by simp only [DataW.weights, hu]; exact List.mem_cons_self)
            simp only [List.length_map] at this
            exact Nat.le_trans (Nat.mul_le_mul_right _ (by omega)) this
          -- each element
          have each : ∀ i, i < len → ∃ us cs, us.length = P.cellsOf e ∧ (∀ (j : Nat) (v : Value), us[j]? = some v → w.cell? ((a.add (i * P.cellsOf e)).add j) = some v) ∧ HasTy E cs ∧ Stand w cs us := fun i hi => by
            have h1 := helem i hi
            have hi' : i < elems.length := by omega
            rw [List.getElem?_eq_getElem hi'] at h1
            obtain ⟨us, hus, htr⟩ := Option.bind_eq_some_iff.1 h1
            obtain ⟨hl, cs, h2, h3⟩ := trod_ty n (d := elems[i].1) (ps := elems[i].2) hE htr (fun x hx => hwl x (weightsAll_mem (d := elems[i].1) (List.mem_map.2 ⟨elems[i], List.getElem_mem _, rfl⟩) hx))
            refine ⟨us, cs, hl, fun j v hv => ?_, h2, h3⟩
            unfold World.cells? at hus
            split at hus
            · exact mapM_range_get hus j v hv
            · cases hus
          obtain ⟨f, hf⟩ : ∃ f : Nat → List Cell, ∀ i, i < len → ∃ us, us.length = P.cellsOf e ∧ (∀ (j : Nat) (v : Value), us[j]? = some v → w.cell? ((a.add (i * P.cellsOf e)).add j) = some v) ∧ HasTy E (f i) ∧ Stand w (f i) us := by
            refine ⟨fun i => if hi : i < len then (each i hi).choose_spec.choose else [], fun i hi => ?_⟩
            simp only [hi, dif_pos]
            exact ⟨_, (each i hi).choose_spec.choose_spec⟩
          have hlen : ((List.range len).map f).length = len := by simp
          refine ⟨by rw [hc1]; rfl, [.ro ((List.range len).map f)], ⟨_, rfl, by rw [hlen]; omega, by rw [hlen]; exact hwb, fun x hx => ?_⟩, stand_one rfl ?_⟩
          · obtain ⟨i, hi, rfl⟩ := List.mem_map.1 hx
            obtain ⟨us, _, _, h4, _⟩ := hf i (List.mem_range.1 hi)
            exact h4
          · simp only [RD]
            refine ⟨trivial, some a, cap, by rw [hlen], by rw [hlen]; exact hlc, fun hne => ?_⟩
            have hpos : 0 < len := by
              rcases Nat.eq_zero_or_pos len with h0 | h0
              · subst h0; simp at hne
              · exact h0
            -- the slice's own address has no spot
            obtain ⟨us0, hl0, hc0, _, _⟩ := hf 0 hpos
            have hspot : a.spot = none := by
              have : us0[0]? = some (us0[0]'(by omega)) := List.getElem?_eq_getElem _
              have h5 := hc0 0 _ this
              simp only [Nat.zero_mul, Addr.add, if_true, World.cell?] at h5
              split at h5
              · split at h5
                · cases h5
                · rename_i hsp; cases hs : a.spot with
                  | none => rfl
                  | some s => simp [hs] at hsp
              · cases h5
            have ha : a = ⟨a.block, a.off, none⟩ := by cases a; simp only at hspot; rw [hspot]
            have hblk : a.block < w.heap.size := by
              have : us0[0]? = some (us0[0]'(by omega)) := List.getElem?_eq_getElem _
              have h5 := hc0 0 _ this
              have := lt_of_cell? h5
              simpa [Addr.add] using this
            refine ⟨a.block, a.off, P.cellsOf e, by rw [← ha], hblk, ?_⟩
            have row : ∀ (m k : Nat), k + m = len → RRow w (AllB w) a.block (P.cellsOf e) (a.off + k * P.cellsOf e) ((List.range' k m).map f) [] := by
              intro m
              induction m with
              | zero => intro k _; simp [RRow]
              | succ m ih =>
                intro k hk
                obtain ⟨us, hul, huc, h4, h5⟩ := hf k (by omega)
                rw [List.range'_succ, List.map_cons]
                simp only [RRow]
                refine ⟨by rw [← RXs_length h5]; exact hul, [], [], rfl, stand_RCs h5 (noLive h4) fun j v hv => ?_, ?_⟩
                · have h6 := huc j v hv
                  rw [ha, addr_add, addr_add] at h6
                  exact h6
                · have := ih (k + 1) (by omega)
                  rw [show a.off + k * P.cellsOf e + P.cellsOf e = a.off + (k + 1) * P.cellsOf e by rw [Nat.add_mul]; omega]
                  exact this
            have := row len 0 (by omega)
            rw [List.range_eq_range']
            simpa using this
      · cases h
    · rename_i fs hu
      split at h
      · rename_i hsum
        obtain ⟨Ts, hTs, rfl⟩ := Option.map_eq_some_iff.1 h
        obtain ⟨xs, m, rfl, hx, hl, hxl, hf⟩ := DataW.trod_struct hu ht
        injection hx with hd hps
        subst hd
        refine ⟨hl, ?_⟩
        have hws : ∀ x ∈ DataW.weightsEach P (fs.toList.map (·.type)) (xs.map (·.1)), x ≤ reachBytes := fun x hx => hw x (by simp only [DataW.weights, hu]; exact hx)
        have key : ∀ (fl : List Field) (ys : List (DataW H × List MemPlace)) (k : Nat) (Ts : List Ty), tysOf P (tyOf P n) k (fl.map fun f => (f.offset, f.type)) = some Ts → ys.length = fl.length →
            (∀ (i : Nat) (f : Field), fl[i]? = some f → DataW.trod enc P w base spare held m f.type ((vs.drop f.offset).take (P.cellsOf f.type)) = ys[i]?) → (∀ x ∈ DataW.weightsEach P (fl.map (·.type)) (ys.map (·.1)), x ≤ reachBytes) →
            (fl.map fun f => P.cellsOf f.type).sum + k = vs.length → ∃ cs, HasTys Ts cs ∧ Stand w cs (vs.drop k) := by
          intro fl
          induction fl with
          | nil =>
            intro ys k Ts h1 _ _ _ h5
            simp only [List.map_nil, tysOf, Option.some.injEq] at h1
            subst h1
            refine ⟨[], rfl, ?_⟩
            rw [List.drop_eq_nil_of_le (by simp at h5; omega)]
            exact .nil
          | cons f fl ih =>
            intro ys k Ts h1 h2 h3 h4 h5
            cases ys with
            | nil => simp at h2
            | cons y ys =>
              simp only [List.map_cons, tysOf] at h1
              split at h1
              · rename_i hoff
                split at h1
                · rename_i T1 Ts1 hT1 hTs1
                  injection h1 with h1; subst h1
                  have h6 := h3 0 f rfl
                  simp only [List.getElem?_cons_zero] at h6
                  simp only [List.map_cons, DataW.weightsEach, List.mem_append] at h4
                  obtain ⟨hlen, cs1, g1, g2⟩ := trod_ty n (d := y.1) (ps := y.2) hT1 h6 (fun x hx => h4 x (.inl hx))
                  simp only [List.map_cons, List.sum_cons] at h5
                  obtain ⟨cs2, g3, g4⟩ := ih ys (k + P.cellsOf f.type) Ts1 hTs1 (by simpa using h2) (fun i f' hf' => by simpa using h3 (i + 1) f' (by simpa using hf')) (fun x hx => h4 x (.inr hx)) (by omega)
                  refine ⟨cs1 ++ cs2, ⟨cs1, cs2, rfl, g1, g3⟩, ?_⟩
                  have : vs.drop k = (vs.drop f.offset).take (P.cellsOf f.type) ++ vs.drop (k + P.cellsOf f.type) := by
                    rw [hoff, ← List.drop_drop, List.take_append_drop]
                  rw [this]
                  exact RXs_append g2 g4
                · cases h1
              · cases h1
        obtain ⟨cs, h1, h2⟩ := key fs.toList xs 0 Ts hTs (by simpa using hxl) (fun i f hf' => hf i f (by simpa using hf')) hws (by rw [hsum, hl]; rfl)
        exact ⟨cs, h1, by simpa using h2⟩
      · cases h
    · cases h
end
end Go.Fw

/- Operations that make objects. -/
import Derived.Test.YtmdddmjmppckhaaFwNew
namespace Go.Fw

def nm (d k : Nat) : Nat := d * 16 + k

inductive MO where
  | alloc (zs : List Cell)
  | box (ks : List Nat) (x : Opd)
  | bsl (sz n : Nat) (zero : List Cell) (parts : List (Nat × Nat × Opd)) (ks : List Nat)
  | mks (bytes : Nat) (zero : List Cell) (n : Opd)

def chunk (sz : Nat) : Nat → List Cell → List (List Cell)
  | 0, _ => []
  | n + 1, cs => cs.take sz :: chunk sz n (cs.drop sz)

def St.newO (σ : St) (d : Nat) (row : Row) : St := σ.setH (nm d 0, σ.nx) (some row)

def mval (σ : St) (d : Nat) : MO → Option St
  | .alloc zs => some ((σ.newO d ⟨zs.length, [zs]⟩).set d (.c (.ad (nm d 0, σ.nx) 0 0)))
  | .box ks x => match flat σ.ep (σ.get x) with
    | some xs => match closeL σ ks xs with
      | some (cs, σ1) => some ((σ1.newO d ⟨cs.length, [cs]⟩).set d (.c (.ad (nm d 0, σ.nx) 0 0)))
      | none => none
    | none => none
  | .bsl sz n zero parts ks => match fillC σ parts ((List.replicate n zero).flatten) with
    | some xs => match closeL σ ks xs with
      | some (cs, σ1) => some ((σ1.newO d ⟨sz, chunk sz n cs⟩).set d (.c (.sl (nm d 0, σ.nx) 0 n)))
      | none => none
    | none => none
  | .mks bytes zero n => match asI (σ.get n) with
    | some m => if 0 ≤ m ∧ m * bytes ≤ 140737488355328 ∧ m ≤ 9223372036854775807 then
        some ((σ.newO d ⟨zero.length, List.replicate m.toNat zero⟩).set d (.c (.sl (nm d 0, σ.nx) 0 m.toNat)))
      else none
    | none => none

def zeroIs (P : Program) (t : TypeId) (zs : List Cell) : Bool :=
  match P.info? t with
  | some i => match i.zero with
    | some z => cellsAre zs z.cells.toList && decide (i.size = zs.length)
    | none => false
  | none => false

def bslPlace (sz : Nat) : Nat → Option (Nat × Nat) := fun i => some (i * sz, sz)

def MO.ok (P : Program) (N : Nat) : MO → Op → Bool
  | .alloc zs, .alloc t => zeroIs P t zs
  | .box _ x, .box _ y => opdOK N x y
  | .bsl sz n zero parts _, .buildSlice t m ps => decide (n = m) && decide (n * sz ≤ 16777216) && (match P.underlying t with
      | some (.slice e) => zeroIs P e zero && decide (zero.length = sz) && decide (0 < sz)
      | _ => false) && partsOK N P (bslPlace sz) parts ps.toList
  | .mks bytes zero n, .makeSlice t l c => (match P.underlying t with
      | some (.slice e) => zeroIs P e zero && (match P.info? e with | some i => decide (i.bytes = bytes) | none => false)
      | _ => false) && opdOK N n l && opdOK N n c
  | _, _ => false

section
variable {P : Program} {V : Env} {σ σ' : St} {a : Act} {w w' : World} {G G' : Gh} {ep : Nat}

/-- An operation comes to a state. -/
def Step (P : Program) (V : Env) (σ σ' : St) (a : Act) (w : World) (G : Gh) (o : Oper) (d : Nat) : Prop :=
  ∃ v w' G', ((execOp a.eval o).run P w = .ok (.value v) w' ∨ ((execOp a.eval o).run P w = .ok .skip w' ∧ v = undef)) ∧ Sim V σ' (a.put o.dst v) w' G' ∧
    ∀ i : Id, (∀ k, k < 16 → i ≠ (nm d k, σ.nx)) → G'.μ i = G.μ i

theorem zeroIs_spec {t : TypeId} {zs : List Cell} (h : zeroIs P t zs = true) : ∃ i z, P.info? t = some i ∧ i.zero = some z ∧ cellsAre zs z.cells.toList = true ∧ i.size = zs.length := by
  unfold zeroIs at h
  split at h
  · rename_i i hi
    split at h
    · rename_i z hz
      simp only [Bool.and_eq_true, decide_eq_true_eq] at h
      exact ⟨i, z, hi, hz, h.1, h.2⟩
    · cases h
  · cases h

theorem step_alloc (h : Sim V σ a w G) {zs : List Cell} {o : Oper} {d : Nat} (hd : o.dst = some d) (hN : d < V.N) (hnew : ∀ k, k < 16 → G.μ (nm d k, σ.nx) = none) (hok : MO.ok P V.N (.alloc zs) o.op = true)
    (hm : mval σ d (.alloc zs) = some σ') : Step P V σ σ' a w G o d := by
  obtain ⟨dst, op, ty, pos, aft, gd⟩ := o
  cases op <;> try (simp [MO.ok] at hok; done)
  rename_i t
  simp only at hd
  subst hd
  simp only [MO.ok] at hok
  obtain ⟨i, z, hi, hz, hzs, hsz⟩ := zeroIs_spec hok
  simp only [mval, Option.some.injEq] at hm
  subst hm
  have hr : RFL G σ.ep w [zs].flatten z.cells.toList [] := by simpa using RFL_of_RXs (RXs_of_are (G := G) (ep := σ.ep) (w := w) hzs)
  obtain ⟨G', e, hμ, hμ', hs⟩ := h.new (id := (nm d 0, σ.nx)) (Nat.le_refl _) (hnew 0 (by omega)) OwnF.nil (E := t) (es := [zs]) (sz := zs.length) (by simp) (by simp [maxLen]) hr
  refine ⟨.pointer (some ⟨w.heap.size, 0, none⟩), _, G', .inl ?_, hs.set hN (.c ⟨_, hμ', rfl, by simp⟩), fun i hi => hμ i (hi 0 (by omega))⟩
  simp [execOp, Instr.alloc, zeroValue, typeInfo, hi, hz, newVar, newRow]

theorem step_box (h : Sim V σ a w G) {ks : List Nat} {x : Opd} {o : Oper} {d : Nat} (hd : o.dst = some d) (hN : d < V.N) (hnew : ∀ k, k < 16 → G.μ (nm d k, σ.nx) = none) (hok : MO.ok P V.N (.box ks x) o.op = true)
    (hm : mval σ d (.box ks x) = some σ') : Step P V σ σ' a w G o d := by
  obtain ⟨dst, op, ty, pos, aft, gd⟩ := o
  cases op <;> try (simp [MO.ok] at hok; done)
  rename_i t y
  simp only at hd
  subst hd
  simp only [MO.ok] at hok
  have hg := h.get hok
  simp only [mval] at hm
  split at hm
  · rename_i xs hxs
    split at hm
    · rename_i cs σ1 hc
      injection hm with hm; subst hm
      obtain ⟨l, F, hr, ho, _⟩ := closeL_ok h (flat_RS hxs hg) hc
      have h1 := h.less l
      rw [← l.ep] at hr
      obtain ⟨G', e, hμ, hμ', hs⟩ := h1.new (id := (nm d 0, σ.nx)) (by rw [l.nx]; exact Nat.le_refl _) (hnew 0 (by omega)) ho (E := t) (es := [cs]) (sz := cs.length) (by simp) (by simp [maxLen]) (by simpa using hr)
      refine ⟨.pointer (some ⟨w.heap.size, 0, none⟩), w.alloc (.cells (a.eval y).cells.toList.toArray t), G', .inl ?_, ?_, fun i hi => hμ i (hi 0 (by omega))⟩
      · simp [execOp, Instr.box, newVar, newRow]
      · simp only [St.newO, l.nx]
        exact hs.set hN (.c ⟨_, hμ', rfl, by simp⟩)
    · cases hm
  · cases hm

theorem chunk_length (sz : Nat) : ∀ (n : Nat) (cs : List Cell), (chunk sz n cs).length = n
  | 0, _ => rfl
  | n + 1, cs => by simp [chunk, chunk_length sz n]
theorem chunk_flatten (sz : Nat) : ∀ (n : Nat) (cs : List Cell), cs.length = n * sz → (chunk sz n cs).flatten = cs
  | 0, cs, h => by simp [chunk]; exact List.eq_nil_of_length_eq_zero (by simpa using h)
  | n + 1, cs, h => by
    simp only [chunk, List.flatten_cons]
    rw [chunk_flatten sz n (cs.drop sz) (by simp [h, Nat.add_mul])]
    exact List.take_append_drop _ _
theorem chunk_each (sz : Nat) : ∀ (n : Nat) (cs : List Cell), cs.length = n * sz → ∀ e ∈ chunk sz n cs, e.length = sz
  | 0, cs, _, e, he => by simp [chunk] at he
  | n + 1, cs, h, e, he => by
    simp only [chunk, List.mem_cons] at he
    rcases he with rfl | he
    · simp [h, Nat.add_mul]
    · exact chunk_each sz n (cs.drop sz) (by simp [h, Nat.add_mul]) e he

theorem cellsAre_length : ∀ {cs : List Cell} {vs : List Value}, cellsAre cs vs = true → cs.length = vs.length
  | [], [], _ => rfl
  | [], _ :: _, h => by simp [cellsAre] at h
  | _ :: _, [], h => by simp [cellsAre] at h
  | _ :: cs, _ :: vs, h => by
    simp only [cellsAre, Bool.and_eq_true] at h
    simp [cellsAre_length h.2]

theorem are_append : ∀ {c1 c2 : List Cell} {v1 v2 : List Value}, cellsAre c1 v1 = true → cellsAre c2 v2 = true → cellsAre (c1 ++ c2) (v1 ++ v2) = true
  | [], _, [], _, _, h => h
  | [], _, _ :: _, _, h, _ => by simp [cellsAre] at h
  | _ :: _, _, [], _, h, _ => by simp [cellsAre] at h
  | c :: c1, c2, v :: v1, v2, h, k => by
    simp only [List.cons_append, cellsAre, Bool.and_eq_true] at h ⊢
    exact ⟨h.1, are_append h.2 k⟩

theorem are_replicate {zs : List Cell} {vs : List Value} (h : cellsAre zs vs = true) : ∀ n, cellsAre (List.replicate n zs).flatten (List.replicate n vs).flatten = true
  | 0 => rfl
  | n + 1 => by simp only [List.replicate_succ, List.flatten_cons]; exact are_append h (are_replicate h n)

/-- n zeros, one behind the other. -/
theorem zeros_eq (z : Array Value) (n : Nat) : (Array.range (n * z.size)).map (fun i => z[i % z.size]!) = (List.replicate n z.toList).flatten.toArray := by
  apply Array.ext'
  simp only [Array.toList_map, Array.toList_range]
  induction n with
  | zero => simp
  | succ n ih =>
    rw [Nat.add_mul, Nat.one_mul, List.range_add, List.map_append, ih, List.replicate_succ', List.flatten_append]
    congr 1
    simp only [List.map_map, List.flatten_cons, List.flatten_nil, List.append_nil]
    apply List.ext_getElem?
    intro i
    by_cases hi : i < z.size
    · rw [List.getElem?_map, List.getElem?_range hi]
      simp only [Option.map_some, Function.comp]
      rw [Nat.add_comm, Nat.add_mul_mod_self_right, Nat.mod_eq_of_lt hi]
      simp [hi]
    · rw [List.getElem?_eq_none (by simpa using hi), List.getElem?_eq_none (by simpa using hi)]

theorem run_bsl {t e : TypeId} {i : TypeInfo} {z : Value} {n : Nat} (hu : P.underlying t = some (.slice e)) (hi : P.info? e = some i) (hz : i.zero = some z) (hzs : z.cells.size = i.size) (hpos : 0 < i.size)
    (hbig : n * i.size ≤ 16777216) {parts : Array (Nat × Value)} {vs : Array Value} (hf : Instr.fill (fun j => some (j * i.size, i.size)) (List.replicate n z.cells.toList).flatten.toArray parts.toList = some vs) :
    (Instr.buildSlice t n parts).run P w = .ok (.slice (some ⟨w.heap.size, 0, none⟩) n n) (w.alloc (.cells vs e)) := by
  have hnb : ¬ 16777216 < n * i.size := by omega
  unfold Instr.buildSlice
  simp only [Sem.run_bind, run_underlying hu, Result.andThen_ok, sizeOf, typeInfo]
  by_cases hn0 : n = 0
  · subst hn0
    simp only [List.replicate_zero, List.flatten_nil] at hf
    have hr0 : Array.range 0 = #[] := rfl
    simp [hi, newRow, hr0, hf]
  · have hne : ¬ (n * i.size = 0) := by
      intro h
      rcases Nat.mul_eq_zero.1 h with h | h <;> omega
    have hzz := zeros_eq z.cells n
    rw [hzs] at hzz
    simp [hi, newRow, hnb, zeroValue, typeInfo, hz, hzs, hzz, hf]
    exact fun h => absurd h hne

theorem fillC_length : ∀ {ps : List (Nat × Nat × Opd)} {cs ds : List Cell}, fillC σ ps cs = some ds → ds.length = cs.length
  | [], cs, ds, h => by simp only [fillC] at h; injection h with h; rw [h]
  | (off, n, q) :: ps, cs, ds, h => by
    simp only [fillC] at h
    split at h
    · split at h
      · rename_i xs _ hc
        rw [fillC_length h]
        simp; omega
      · cases h
    · cases h

theorem closeL_length : ∀ {cs : List Cell} {ks : List Nat} {σ σ' : St} {ds : List Cell}, closeL σ ks cs = some (ds, σ') → ds.length = cs.length
  | [], ks, σ, σ', ds, h => by simp [closeL] at h; obtain ⟨rfl, _⟩ := h; rfl
  | c :: cs, ks, σ, σ', ds, h => by
    simp only [closeL] at h
    split at h
    · split at h
      · rename_i h2
        injection h with e
        obtain ⟨rfl, _⟩ := Prod.mk.inj e
        simp [closeL_length h2]
      · cases h
    · cases h

theorem step_bsl (h : Sim V σ a w G) {sz n : Nat} {zero : List Cell} {parts : List (Nat × Nat × Opd)} {ks : List Nat} {o : Oper} {d : Nat} (hd : o.dst = some d) (hN : d < V.N) (hnew : ∀ k, k < 16 → G.μ (nm d k, σ.nx) = none)
    (hok : MO.ok P V.N (.bsl sz n zero parts ks) o.op = true) (hm : mval σ d (.bsl sz n zero parts ks) = some σ') : Step P V σ σ' a w G o d := by
  obtain ⟨dst, op, ty, pos, aft, gd⟩ := o
  cases op <;> try (simp [MO.ok] at hok; done)
  rename_i t m ps
  simp only at hd
  subst hd
  simp only [MO.ok, Bool.and_eq_true, decide_eq_true_eq] at hok
  obtain ⟨⟨⟨rfl, hbig⟩, ht⟩, hparts⟩ := hok
  obtain ⟨e, hu, hze, hzl, hpos⟩ : ∃ e, P.underlying t = some (.slice e) ∧ zeroIs P e zero = true ∧ zero.length = sz ∧ 0 < sz := by
    split at ht
    · rename_i e hu
      simp only [Bool.and_eq_true, decide_eq_true_eq] at ht
      exact ⟨e, hu, ht.1.1, ht.1.2, ht.2⟩
    · cases ht
  obtain ⟨i, z, hi, hz, hzs, hsz⟩ := zeroIs_spec hze
  have hzsz : z.cells.size = sz := by rw [← hzl, cellsAre_length hzs]; simp
  simp only [mval] at hm
  split at hm
  · rename_i xs hxs
    split at hm
    · rename_i cs σ1 hc
      injection hm with hm; subst hm
      obtain ⟨vs, hf1, hf2⟩ := fill_RXs h (bslPlace sz) parts ps.toList _ (List.replicate n z.cells.toList).flatten.toArray xs hparts (by simpa using RXs_of_are (are_replicate hzs n)) hxs
      obtain ⟨l, F, hr, ho, _⟩ := closeL_ok h hf2 hc
      have h1 := h.less l
      rw [← l.ep] at hr
      have hcl : cs.length = n * sz := by
        rw [closeL_length hc, fillC_length hxs, List.length_flatten]
        simp [hzl]
      obtain ⟨G', e', hμ, hμ', hs⟩ := h1.new (id := (nm d 0, σ.nx)) (by rw [l.nx]; exact Nat.le_refl _) (hnew 0 (by omega)) ho (E := e) (es := chunk sz n cs) (sz := sz) (chunk_each sz n cs hcl)
        (by rw [chunk_length]; simp only [maxLen]; have : n ≤ n * sz := Nat.le_mul_of_pos_right n hpos; omega) (by rw [chunk_flatten sz n cs hcl]; exact hr)
      refine ⟨.slice (some ⟨w.heap.size, 0, none⟩) n n, w.alloc (.cells vs.toList.toArray e), G', .inl ?_, ?_, fun i hi => hμ i (hi 0 (by omega))⟩
      · have hsi : i.size = sz := by omega
        have hr := run_bsl (P := P) (w := w) (n := n) hu hi hz (by omega) (by omega) (by rw [hsi]; exact hbig) (parts := ps.map fun (i, x) => (i, a.eval x)) (vs := vs)
          (by rw [hsi]; have h' := hf1; unfold bslPlace at h'; simpa using h')
        simp [execOp, hr]
      · simp only [St.newO, l.nx]
        refine hs.set hN (.c ⟨_, hμ', ?_⟩)
        rcases Nat.eq_zero_or_pos n with h0 | h0
        · right; simp [chunk_length, h0]
        · left; simp [chunk_length, h0]
    · cases hm
  · cases hm

theorem step_mks (h : Sim V σ a w G) {bytes : Nat} {zero : List Cell} {n : Opd} {o : Oper} {d : Nat} (hd : o.dst = some d) (hN : d < V.N) (hnew : ∀ k, k < 16 → G.μ (nm d k, σ.nx) = none)
    (hok : MO.ok P V.N (.mks bytes zero n) o.op = true) (hm : mval σ d (.mks bytes zero n) = some σ') : Step P V σ σ' a w G o d := by
  obtain ⟨dst, op, ty, pos, aft, gd⟩ := o
  cases op <;> try (simp [MO.ok] at hok; done)
  rename_i t l c
  simp only at hd
  subst hd
  simp only [MO.ok, Bool.and_eq_true] at hok
  obtain ⟨⟨ht, hl⟩, hc⟩ := hok
  obtain ⟨e, hu, hze, i, hi, hby⟩ : ∃ e, P.underlying t = some (.slice e) ∧ zeroIs P e zero = true ∧ ∃ i, P.info? e = some i ∧ i.bytes = bytes := by
    split at ht
    · rename_i e hu
      simp only [Bool.and_eq_true] at ht
      obtain ⟨h1, h2⟩ := ht
      split at h2
      · rename_i i hi
        exact ⟨e, hu, h1, i, hi, by simpa using h2⟩
      · cases h2
    · cases ht
  obtain ⟨i', z, hi', hz, hzs, hsz⟩ := zeroIs_spec hze
  obtain rfl : i' = i := by rw [hi] at hi'; injection hi' with e; exact e.symm
  have hzl : z.cells.size = zero.length := by rw [cellsAre_length hzs]; simp
  simp only [mval] at hm
  split at hm
  · rename_i m hmn
    split at hm
    · rename_i hcond
      obtain ⟨h0, hb, h63⟩ := hcond
      injection hm with hm; subst hm
      have el := asI_RS hmn (h.get hl)
      have ec := asI_RS hmn (h.get hc)
      have hbm : (i'.bytes : Int) * m ≤ 281474976710656 := by rw [hby, Int.mul_comm]; omega
      have hrun := run_make (P := P) w t e i' z hu hi hz .i64 .i64 m m h0 (Int.le_refl m) hbm h63
      have hcells : (madeCells z.cells (m.toNat * i'.size)) = ((List.replicate m.toNat z.cells.toList).flatten).toArray := by
        have := zeros_eq z.cells m.toNat
        unfold madeCells
        rw [hsz, ← hzl]
        simpa using this
      rw [hcells] at hrun
      have hr : RFL G σ.ep w (List.replicate m.toNat zero).flatten (List.replicate m.toNat z.cells.toList).flatten [] := RFL_of_RXs (RXs_of_are (are_replicate hzs _))
      obtain ⟨G', e', hμ, hμ', hs⟩ := h.new (id := (nm d 0, σ.nx)) (Nat.le_refl _) (hnew 0 (by omega)) OwnF.nil (E := e) (es := List.replicate m.toNat zero) (sz := zero.length)
        (fun x hx => by rw [List.eq_of_mem_replicate hx]) (by simp only [List.length_replicate, maxLen]; omega) hr
      refine ⟨.slice (some ⟨w.heap.size, 0, none⟩) m.toNat m.toNat, w.alloc (.cells (List.replicate m.toNat z.cells.toList).flatten.toArray e), G', .inl ?_, hs.set hN (.c ⟨_, hμ', ?_⟩), fun i hi => hμ i (hi 0 (by omega))⟩
      · simp [execOp, el, ec, hrun]
      · rcases Nat.eq_zero_or_pos m.toNat with h0 | h0
        · right; simp [h0]
        · left; simp [h0]
    · cases hm
  · cases hm

end
end Go.Fw

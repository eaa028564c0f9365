/- Quiet operations: addresses and loads. -/
import Derived.Test.YtmdddmjmppckhaaFwQOk2
namespace Go.Fw

theorem addr_add (b o n : Nat) : (⟨b, o, none⟩ : Addr).add n = ⟨b, o + n, none⟩ := by
  unfold Addr.add; split <;> simp_all

section
variable {P : Program} {V : Env} {σ : St} {a : Act} {w : World} {G : Gh} {o : Oper} {x : SV}

theorem under_struct {s : TypeId} {f off : Nat} (h : (match P.underlying s with
      | some (.struct fs) => match fs[f]? with
        | some fl => decide (fl.offset = off) && (match P.info? fl.type with | some i => decide (i.size ≠ 0) | none => false)
        | none => false
      | _ => false) = true) : ∃ fs fl i, P.underlying s = some (.struct fs) ∧ fs[f]? = some fl ∧ fl.offset = off ∧ P.info? fl.type = some i ∧ i.size ≠ 0 := by
  split at h
  · rename_i fs hu
    split at h
    · rename_i fl hf
      simp only [Bool.and_eq_true, decide_eq_true_eq] at h
      obtain ⟨h1, h2⟩ := h
      split at h2
      · rename_i i hi
        exact ⟨fs, fl, i, hu, hf, h1, hi, by simpa using h2⟩
      · cases h2
    · cases h
  · cases h

theorem run_fieldAt' {s : TypeId} {f : Nat} {fs : Array Field} {fl : Field} {i : TypeInfo} (hu : P.underlying s = some (.struct fs)) (hf : fs[f]? = some fl) (hi : P.info? fl.type = some i) (hz : i.size ≠ 0) (b k : Nat) :
    (Instr.fieldAt s (.pointer (some ⟨b, k, none⟩)) f).run P w = .ok (.pointer (some ⟨b, k + fl.offset, none⟩)) w := by
  simp [Instr.fieldAt, run_underlying hu, hf, Instr.sureAddr, fieldPlace, sizeOf, typeInfo, hi, hz, addr_add]

theorem tells_fld (h : Sim V σ a w G) {off : Nat} {q : Opd} (hok : QO.ok P V.N (.fld off q) o.op = true) (hv : qval σ (.fld off q) = some x) : Tells P σ a w G o x := by
  obtain ⟨dst, op, ty, pos, aft, gd⟩ := o
  cases op <;> simp only [QO.ok, Bool.false_eq_true] at hok
  rw [Bool.and_eq_true] at hok
  obtain ⟨hs, hq⟩ := hok
  obtain ⟨fs, fl, i, hu, hf, rfl, hi, hz⟩ := under_struct hs
  have hg := h.get hq
  simp only [qval] at hv
  split at hv <;> rename_i he
  · injection hv with hv; subst hv
    rw [he] at hg
    obtain ⟨l, h1, h2, e⟩ := RX_ad (RS_c hg)
    exact ⟨_, by simp only [execOp, e]; simp [run_fieldAt' hu hf hi hz]; rfl, .c ⟨l, h1, h2, by rw [Nat.add_assoc]⟩⟩
  · injection hv with hv; subst hv
    rw [he] at hg
    obtain ⟨b, k, e, h1, h2⟩ := RX_ar (RS_c hg)
    refine ⟨_, by simp only [execOp, e]; simp [run_fieldAt' hu hf hi hz]; rfl, .c ?_⟩
    show RD w G.S (.ar _ _) _ []
    simp only [RD]
    exact ⟨trivial, b, k, by rw [Nat.add_assoc], h1, h2⟩
  · split at hv
    · rename_i h0
      injection hv with hv; subst hv
      rw [he] at hg
      have hx := RS_c hg
      obtain ⟨b, k, e, h1, h2⟩ := RX_sa hx h0
      refine ⟨_, by simp only [execOp, e]; simp [run_fieldAt' hu hf hi hz]; rfl, .c ⟨hx.1, fun _ => ?_⟩⟩
      simp only [RD]
      exact ⟨trivial, b, k, by rw [Nat.add_assoc], h1, h2⟩
    · cases hv
  · cases hv

theorem under_slice {t : TypeId} {sz : Nat} (h : (match P.underlying t with
      | some (.slice e) => (P.info? e).map (·.size) == some sz
      | _ => false) = true) : ∃ e i, P.underlying t = some (.slice e) ∧ P.info? e = some i ∧ i.size = sz := by
  split at h
  · rename_i e hu
    simp only [beq_iff_eq] at h
    obtain ⟨i, hi, hs⟩ := Option.map_eq_some_iff.1 h
    exact ⟨e, i, hu, hi, hs⟩
  · cases h

theorem run_indexAt' {t e : TypeId} {i : TypeInfo} (hu : P.underlying t = some (.slice e)) (hi : P.info? e = some i) {b k len cap : Nat} {n : Int} {kk : IntKind} (h0 : 0 ≤ n) (h1 : n < len) :
    (Instr.indexAt t (.slice (some ⟨b, k, none⟩) len cap) (.int kk n)).run P w = .ok (.pointer (some ⟨b, k + n.toNat * i.size, none⟩)) w := by
  simp [Instr.indexAt, run_underlying hu, asIntOf, h0, h1, sizeOf, typeInfo, hi, addr_add]

theorem Sim.obj (h : Sim V σ a w G) {id : Id} {row : Row} (hr : σ.h id = some row) : ∃ l, G.μ id = some l ∧ ObjR G σ.ep w l row (G.Fp id) := h.objs id row hr

theorem tells_idx (h : Sim V σ a w G) {sz : Nat} {q r : Opd} (hok : QO.ok P V.N (.idx sz q r) o.op = true) (hv : qval σ (.idx sz q r) = some x) : Tells P σ a w G o x := by
  obtain ⟨dst, op, ty, pos, aft, gd⟩ := o
  cases op <;> simp only [QO.ok, Bool.false_eq_true] at hok
  simp only [Bool.and_eq_true] at hok
  obtain ⟨⟨hs, hq⟩, hr⟩ := hok
  obtain ⟨e, i, hu, hi, hsz⟩ := under_slice hs
  have hg := h.get hq
  have hgr := h.get hr
  simp only [qval] at hv
  split at hv
  · rename_i id off len n he hn
    have en := asI_RS hn hgr
    rw [he] at hg
    split at hv
    · rename_i row hrow
      split at hv
      · rename_i hc
        obtain ⟨h0, h1, h2, h3⟩ := hc
        injection hv with hv; subst hv
        obtain ⟨l, hl, hx⟩ := RS_c hg
        obtain ⟨l', hl', ho1, ho⟩ := h.obj hrow
        obtain rfl : l' = l := by rw [hl] at hl'; injection hl' with e; exact e.symm
        rcases hx with ⟨hb, hlt, _, ev⟩ | ⟨_, h4, _⟩
        · refine ⟨_, by simp only [execOp, ev, en]; simp [run_indexAt' hu hi h0 h1]; rfl, .c ⟨l', hl, hb, ?_⟩⟩
          rw [hsz, ← h2, ← ho1, Nat.add_mul]
          congr 3; omega
        · omega
      · cases hv
    · cases hv
  · rename_i es n he hn
    have en := asI_RS hn hgr
    rw [he] at hg
    split at hv
    · rename_i h0
      split at hv
      · rename_i el hel
        split at hv
        · rename_i hlen
          injection hv with hv; subst hv
          have hx : RD w G.S (.ro es) _ [] := RS_c hg
          simp only [RD] at hx
          obtain ⟨_, ad, cap, ev, hcap, hrow⟩ := hx
          have hlt : n.toNat < es.length := (List.getElem?_eq_some_iff.1 hel).1
          obtain ⟨b, k, s, rfl, hb, hrr⟩ := hrow (by intro e0; rw [e0] at hlt; simp at hlt)
          obtain ⟨hl1, hl2⟩ := RRow_get hrr rfl _ _ hel
          have hn2 : n < (es.length : Int) := by omega
          refine ⟨_, by simp only [execOp, ev, en]; simp [run_indexAt' hu hi h0 hn2]; rfl, .c ?_⟩
          show RD w G.S (.ar _ _) _ []
          simp only [RD]
          refine ⟨trivial, b, k + n.toNat * i.size, rfl, hb, ?_⟩
          rw [hsz, ← hlen, hl1]
          exact hl2
        · cases hv
      · cases hv
    · cases hv
  · rename_i ep es n he hn
    have en := asI_RS hn hgr
    rw [he] at hg
    split at hv
    · rename_i h0
      obtain ⟨h0, hep⟩ := h0
      split at hv
      · rename_i el hel
        split at hv
        · rename_i hlen
          injection hv with hv; subst hv
          have hx' := RS_c hg
          have hx : RD w (AllB w) (.ro es) _ [] := hx'.2 hep
          simp only [RD] at hx
          obtain ⟨_, ad, cap, ev, hcap, hrow⟩ := hx
          have hlt : n.toNat < es.length := (List.getElem?_eq_some_iff.1 hel).1
          obtain ⟨b, k, s, rfl, hb, hrr⟩ := hrow (by intro e0; rw [e0] at hlt; simp at hlt)
          obtain ⟨hl1, hl2⟩ := RRow_get hrr rfl _ _ hel
          have hn2 : n < (es.length : Int) := by omega
          refine ⟨_, by simp only [execOp, ev, en]; simp [run_indexAt' hu hi h0 hn2]; rfl, .c ⟨hx'.1, fun _ => ?_⟩⟩
          simp only [RD]
          refine ⟨trivial, b, k + n.toNat * i.size, rfl, hb, ?_⟩
          rw [hsz, ← hlen, hl1]
          exact hl2
        · cases hv
      · cases hv
    · cases hv
  · cases hv

theorem under_array {t : TypeId} {n sz : Nat} (h : (match P.underlying t with
      | some (.array m e) => decide (m = n) && ((P.info? e).map (·.size) == some sz)
      | _ => false) = true) : ∃ e i, P.underlying t = some (.array n e) ∧ P.info? e = some i ∧ i.size = sz := by
  split at h
  · rename_i m e hu
    simp only [Bool.and_eq_true, decide_eq_true_eq, beq_iff_eq] at h
    obtain ⟨rfl, h⟩ := h
    obtain ⟨i, hi, hs⟩ := Option.map_eq_some_iff.1 h
    exact ⟨e, i, hu, hi, hs⟩
  · cases h

theorem run_indexAtA {t e : TypeId} {m : Nat} {i : TypeInfo} (hu : P.underlying t = some (.array m e)) (hi : P.info? e = some i) {b k : Nat} {n : Int} {kk : IntKind} (h0 : 0 ≤ n) (h1 : n < m) :
    (Instr.indexAt t (.pointer (some ⟨b, k, none⟩)) (.int kk n)).run P w = .ok (.pointer (some ⟨b, k + n.toNat * i.size, none⟩)) w := by
  simp [Instr.indexAt, run_underlying hu, asIntOf, Instr.sureAddr, h0, h1, sizeOf, typeInfo, hi, addr_add]

theorem tells_idxA (h : Sim V σ a w G) {n sz : Nat} {q r : Opd} (hok : QO.ok P V.N (.idxA n sz q r) o.op = true) (hv : qval σ (.idxA n sz q r) = some x) : Tells P σ a w G o x := by
  obtain ⟨dst, op, ty, pos, aft, gd⟩ := o
  cases op <;> simp only [QO.ok, Bool.false_eq_true] at hok
  simp only [Bool.and_eq_true] at hok
  obtain ⟨⟨hs, hq⟩, hr⟩ := hok
  obtain ⟨e, i, hu, hi, hsz⟩ := under_array hs
  have hg := h.get hq
  have hgr := h.get hr
  simp only [qval] at hv
  split at hv
  · rename_i id rr j m he hn
    have en := asI_RS hn hgr
    rw [he] at hg
    split at hv
    · rename_i hc
      injection hv with hv; subst hv
      obtain ⟨l, h1, h2, ev⟩ := RX_ad (RS_c hg)
      refine ⟨_, by simp only [execOp, ev, en]; simp [run_indexAtA hu hi hc.1 hc.2]; rfl, .c ⟨l, h1, h2, by rw [hsz, Nat.add_assoc]⟩⟩
    · cases hv
  · rename_i cs j m he hn
    have en := asI_RS hn hgr
    rw [he] at hg
    split at hv
    · rename_i hc
      injection hv with hv; subst hv
      obtain ⟨b, k, ev, h1, h2⟩ := RX_ar (RS_c hg)
      refine ⟨_, by simp only [execOp, ev, en]; simp [run_indexAtA hu hi hc.1 hc.2]; rfl, .c ?_⟩
      show RD w G.S (.ar _ _) _ []
      simp only [RD]
      exact ⟨trivial, b, k, by rw [hsz, Nat.add_assoc], h1, h2⟩
    · cases hv
  · rename_i ee cs j m he hn
    have en := asI_RS hn hgr
    rw [he] at hg
    split at hv
    · rename_i hc
      injection hv with hv; subst hv
      have hx := RS_c hg
      obtain ⟨b, k, ev, h1, h2⟩ := RX_sa hx hc.2.2
      refine ⟨_, by simp only [execOp, ev, en]; simp [run_indexAtA hu hi hc.1 hc.2.1]; rfl, .c ⟨hx.1, fun _ => ?_⟩⟩
      simp only [RD]
      exact ⟨trivial, b, k, by rw [hsz, Nat.add_assoc], h1, h2⟩
    · cases hv
  · cases hv

/-! ### Loads -/
theorem run_loadVar' {t : TypeId} {i : TI} (ht : tiOf P t = some i) (hn : i.agg = true ∨ i.size = 1) {b k : Nat} {vs : List Value} (hl : vs.length = i.size) (hc : ∀ (j : Nat) (v : Value), vs[j]? = some v → w.cell? ⟨b, k + j, none⟩ = some v) :
    (loadVar t ⟨b, k, none⟩).run P w = .ok (if i.agg then .agg vs.toArray else vs.headD undef) w := by
  obtain ⟨inf, u, hi, hu, hs, _, hag, _⟩ := tiOf_info ht
  have hisAgg : (isAgg t).run P w = .ok i.agg w := by
    simp only [isAgg, Sem.run_bind, run_underlying hu, Result.andThen_ok]
    rw [← hag]
    cases u <;> rfl
  unfold loadVar
  simp only [Sem.run_bind, hisAgg, Result.andThen_ok]
  by_cases hg : i.agg = true
  · have hlc := run_loadCells_list (P := P) w ⟨b, k, none⟩ vs (fun j v hv => by rw [addr_add]; exact hc j v hv)
    rw [hl] at hlc
    simp [hg, sizeOf, typeInfo, hi, hs, hlc]
  · have h1 : i.size = 1 := hn.resolve_left hg
    rw [h1] at hl
    obtain ⟨v, rfl⟩ := List.length_eq_one_iff.1 hl
    have := hc 0 v rfl
    simp [hg, load, Sem.run, show w.cell? ⟨b, k, none⟩ = some v by simpa using this]

theorem cut_get {cs : List Cell} {j n : Nat} {ds : List Cell} (h : cut cs j n = some ds) : ds.length = n ∧ ∀ (k : Nat) (c : Cell), ds[k]? = some c → cs[j + k]? = some c := by
  unfold cut at h
  split at h
  · rename_i hl
    injection h with h; subst h
    refine ⟨by simp; omega, fun k c hk => ?_⟩
    rw [List.getElem?_take] at hk
    split at hk
    · simpa using hk
    · cases hk
  · cases h

/-- Values that stand for cells, one by one. -/
theorem exists_vals {Q : Cell → Value → Prop} {c0 : Nat → Option Value} : ∀ (ds : List Cell), (∀ (k : Nat) (c : Cell), ds[k]? = some c → ∃ u, c0 k = some u ∧ Q c u) → ∃ vs : List Value, vs.length = ds.length ∧ (∀ (k : Nat) (v : Value), vs[k]? = some v → c0 k = some v) ∧ ∀ (k : Nat) (c : Cell), ds[k]? = some c → ∃ u, vs[k]? = some u ∧ Q c u := by
  intro ds
  induction ds generalizing c0 with
  | nil => intro _; exact ⟨[], rfl, by simp, by simp⟩
  | cons d ds ih =>
    intro h
    obtain ⟨u, hu, hq⟩ := h 0 d rfl
    obtain ⟨vs, hl, h1, h2⟩ := ih (c0 := fun k => c0 (k + 1)) (fun k c hk => h (k + 1) c (by simpa using hk))
    refine ⟨u :: vs, by simp [hl], fun k v hk => ?_, fun k c hk => ?_⟩
    · cases k with
      | zero => simp at hk; subst hk; exact hu
      | succ k => exact h1 k v (by simpa using hk)
    · cases k with
      | zero => simp at hk; subst hk; exact ⟨u, rfl, hq⟩
      | succ k => simpa using h2 k c (by simpa using hk)

theorem mkSV_RS {ep : Nat} {agg : Bool} {cs : List Cell} {y : SV} (h : mkSV agg cs = some y) {vs : List Value} (hr : RXs G ep w cs vs) : RS G ep w y (if agg then .agg vs.toArray else vs.headD undef) := by
  unfold mkSV at h
  split at h
  · rename_i ha
    injection h with h; subst h
    simp only [ha, if_true]
    exact .a hr
  · rename_i ha
    simp only [ha, Bool.false_eq_true, if_false]
    split at h
    · rename_i c
      injection h with h; subst h
      cases hr with
      | cons h1 h2 => cases h2; exact .c h1
    · cases h

theorem unsn_RX {ep e : Nat} (he : e = ep) {c : Cell} {v : Value} (h : RD w (AllB w) c v []) : RX G ep w (unsn e c) v := by
  subst he
  cases c
  case ro es => exact ⟨Nat.le_refl _, fun _ => h⟩
  case ar cs j => exact ⟨Nat.le_refl _, fun _ => h⟩
  case ifc t c =>
    cases c
    case int k n =>
      simp only [unsn]
      refine (RX_plain rfl).2 ?_
      simp only [RD] at h ⊢
      exact h
    all_goals (simp only [unsn]; trivial)
  case int => exact (RX_plain rfl).2 (by simp only [unsn, RD] at h ⊢; exact h)
  case bool => exact (RX_plain rfl).2 (by simp only [unsn, RD] at h ⊢; exact h)
  case str => exact (RX_plain rfl).2 (by simp only [unsn, RD] at h ⊢; exact h)
  case nilp => exact (RX_plain rfl).2 (by simp only [unsn, RD] at h ⊢; exact h)
  case nili => exact (RX_plain rfl).2 (by simp only [unsn, RD] at h ⊢; exact h)
  case nilf => exact (RX_plain rfl).2 (by simp only [unsn, RD] at h ⊢; exact h)
  case z => exact (RX_plain rfl).2 (by simp only [unsn, RD] at h ⊢; exact h)
  all_goals (simp only [unsn]; trivial)

theorem tells_load (h : Sim V σ a w G) {agg : Bool} {n : Nat} {q : Opd} (hok : QO.ok P V.N (.load agg n q) o.op = true) (hv : qval σ (.load agg n q) = some x) : Tells P σ a w G o x := by
  obtain ⟨dst, op, ty, pos, aft, gd⟩ := o
  cases op <;> simp only [QO.ok, Bool.false_eq_true] at hok
  rename_i t y
  simp only [Bool.and_eq_true, Bool.or_eq_true, decide_eq_true_eq, beq_iff_eq] at hok
  obtain ⟨⟨ht, hn⟩, hq⟩ := hok
  obtain ⟨i, hti, hp⟩ := Option.map_eq_some_iff.1 ht
  obtain ⟨rfl, rfl⟩ : i.agg = agg ∧ i.size = n := by simpa using hp
  have hg := h.get hq
  -- one way for all three
  have fin : ∀ (b k : Nat) (ds cs : List Cell), a.eval y = .pointer (some ⟨b, k, none⟩) → ds.length = i.size → mkSV i.agg cs = some x →
      (∃ f : Cell → Cell, cs = ds.map f ∧ ∀ (j : Nat) (c : Cell), ds[j]? = some c → ∃ u, w.cell? ⟨b, k + j, none⟩ = some u ∧ RX G σ.ep w (f c) u) → Tells P σ a w G ⟨dst, .load t y, ty, pos, aft, gd⟩ x := by
    rintro b k ds cs ev hl hmk ⟨f, rfl, hcell⟩
    obtain ⟨vs, hvl, hv1, hv2⟩ := exists_vals (Q := fun c u => RX G σ.ep w (f c) u) (c0 := fun j => w.cell? ⟨b, k + j, none⟩) ds hcell
    refine ⟨_, ?_, mkSV_RS hmk (RXs_of_get (vs := vs) (by simp [hvl]) fun j c hj => ?_)⟩
    · have := run_loadVar' (P := P) (w := w) hti hn (b := b) (k := k) (vs := vs) (by rw [hvl, hl]) hv1
      simp [execOp, ev, Instr.loadAt, Instr.sureAddr, this]
    · rw [List.getElem?_map] at hj
      obtain ⟨c', hc', rfl⟩ := Option.map_eq_some_iff.1 hj
      exact hv2 j c' hc'
  simp only [qval] at hv
  split at hv <;> rename_i he
  · rw [he] at hg
    obtain ⟨l, h1, h2, ev⟩ := RX_ad (RS_c hg)
    split at hv
    · rename_i row hrow
      split at hv
      · rename_i el hel
        split at hv
        · rename_i cs hcut
          obtain ⟨hcl, hcg⟩ := cut_get hcut
          obtain ⟨l', hl', ho1, ho⟩ := h.obj hrow
          obtain rfl : l' = l := by rw [h1] at hl'; injection hl' with e; exact e.symm
          rw [if_pos h2] at ho
          obtain ⟨cur, E, F', hh, _, _, _, hF, hr⟩ := ho
          obtain ⟨_, F1, hfs, hF1⟩ := RFRow_get hr _ _ hel
          refine fin _ _ cs _ ev hcl hv ⟨peek σ.ep, rfl, fun j c hj => ?_⟩
          obtain ⟨u, F2, hu, hrf, hF2⟩ := RFs_get hfs _ _ (hcg j c hj)
          refine ⟨u, by rw [← hu]; congr 2; omega, RX_peek h.stable (fun b hb => ?_) hrf⟩
          refine (h.own _ _ hrow b ?_).1
          rw [hF]
          exact List.mem_cons_of_mem _ (hF1 b (hF2 b hb))
        · cases hv
      · cases hv
    · cases hv
  · rw [he] at hg
    obtain ⟨b, k, ev, hb, hcs⟩ := RX_ar (RS_c hg)
    split at hv
    · rename_i cs hcut
      obtain ⟨hcl, hcg⟩ := cut_get hcut
      refine fin _ _ cs cs ev hcl hv ⟨id, by simp, fun j c hj => ?_⟩
      obtain ⟨u, hu, hd⟩ := RCs_get hcs rfl _ _ (hcg j c hj)
      refine ⟨u, by rw [← hu]; congr 2; omega, ?_⟩
      refine (RX_plain ?_).2 hd
      cases c <;> simp only [RD] at hd <;> simp [Cell.live]
      exact hd.1
    · cases hv
  · split at hv
    · rename_i h0
      rw [he] at hg
      obtain ⟨b, k, ev, hb, hcs⟩ := RX_sa (RS_c hg) h0
      split at hv
      · rename_i cs hcut
        obtain ⟨hcl, hcg⟩ := cut_get hcut
        refine fin _ _ cs _ ev hcl hv ⟨unsn _, rfl, fun j c hj => ?_⟩
        obtain ⟨u, hu, hd⟩ := RCs_get hcs rfl _ _ (hcg j c hj)
        exact ⟨u, by rw [← hu]; congr 2; omega, unsn_RX h0 hd⟩
      · cases hv
    · cases hv
  · cases hv

end
end Go.Fw

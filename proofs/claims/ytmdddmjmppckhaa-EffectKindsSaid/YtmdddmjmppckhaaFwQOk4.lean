/- Quiet operations: slices, tuples, structs by value. -/
import Derived.Test.YtmdddmjmppckhaaFwQOk3
import Derived.Laws.Tables
import Derived.Laws.Slices
import Derived.Laws.Small
import Derived.Laws.StructEq
namespace Go.Fw

section
variable {P : Program} {V : Env} {σ : St} {a : Act} {w : World} {G : Gh} {o : Oper} {x : SV}

theorem RXs_append {ep : Nat} {cs ds : List Cell} {vs us : List Value} (h : RXs G ep w cs vs) (k : RXs G ep w ds us) : RXs G ep w (cs ++ ds) (vs ++ us) := by
  induction h with
  | nil => exact k
  | cons h _ ih => exact .cons h ih
theorem RXs_take {ep : Nat} {cs : List Cell} {vs : List Value} (h : RXs G ep w cs vs) : ∀ n, RXs G ep w (cs.take n) (vs.take n) := by
  induction h with
  | nil => intro n; simp; exact .nil
  | cons h _ ih =>
    intro n
    cases n with
    | zero => simp; exact .nil
    | succ n => simpa using RXs.cons h (ih n)
theorem RXs_drop {ep : Nat} {cs : List Cell} {vs : List Value} (h : RXs G ep w cs vs) : ∀ n, RXs G ep w (cs.drop n) (vs.drop n) := by
  induction h with
  | nil => intro n; simp; exact .nil
  | cons h h2 ih =>
    intro n
    cases n with
    | zero => simpa using RXs.cons h h2
    | succ n => simpa using ih n

theorem tells_ext (h : Sim V σ a w G) {i : Nat} {q : Opd} (hok : QO.ok P V.N (.ext q i) o.op = true) (hv : qval σ (.ext q i) = some x) : Tells P σ a w G o x := by
  obtain ⟨dst, op, ty, pos, aft, gd⟩ := o
  cases op <;> simp only [QO.ok, Bool.false_eq_true] at hok
  simp only [Bool.and_eq_true, decide_eq_true_eq] at hok
  obtain ⟨rfl, hq⟩ := hok
  have hg := h.get hq
  simp only [qval] at hv
  split at hv
  · rename_i xs he
    rw [he] at hg
    generalize hev : a.eval _ = v at hg
    cases hg with
    | t hl hk =>
      rename_i vs
      have hlt := (List.getElem?_eq_some_iff.1 hv).1
      have hvs : vs[i]? = some (vs[i]'(by omega)) := List.getElem?_eq_getElem (by omega)
      exact ⟨_, by simp [execOp, hev, Instr.extract, hvs], hk i x _ hv hvs⟩
  · cases hv

theorem RX_sl_len {ep : Nat} {id : Id} {off len : Nat} {v : Value} (h : RX G ep w (.sl id off len) v) : ∃ b c, v = .slice b len c := by
  obtain ⟨l, _, h | ⟨_, rfl, ad, h⟩⟩ := h
  · exact ⟨_, _, h.2.2.2⟩
  · exact ⟨_, _, h⟩

theorem run_len' {t ty e : TypeId} (hu : P.underlying t = some (.slice e)) (b : Option Addr) (n c : Nat) : (Builtin.len_ #[t] ty #[.slice b n c]).run P w = .ok (goInt n) w := by
  simp [Builtin.len_, run_underlying hu]

theorem tells_len (h : Sim V σ a w G) {q : Opd} (hok : QO.ok P V.N (.len q) o.op = true) (hv : qval σ (.len q) = some x) : Tells P σ a w G o x := by
  obtain ⟨dst, op, ty, pos, aft, gd⟩ := o
  cases op <;> simp only [QO.ok, Bool.false_eq_true] at hok
  rename_i c
  obtain ⟨callee, args, ats⟩ := c
  cases callee <;> try (simp at hok; done)
  rename_i bi
  cases bi <;> try (simp at hok; done)
  simp only at hok
  split at hok
  · rename_i y t hargs hats
    rw [Bool.and_eq_true] at hok
    obtain ⟨ht, hq⟩ := hok
    obtain ⟨e, hu⟩ : ∃ e, P.underlying t = some (.slice e) := by
      split at ht
      · rename_i e hu; exact ⟨e, hu⟩
      · cases ht
    have hargs' : args = #[y] := by rw [← Array.toList_inj]; exact hargs
    have hats' : ats = #[t] := by rw [← Array.toList_inj]; exact hats
    subst hargs'; subst hats'
    have hg := h.get hq
    have fin : ∀ b n c, a.eval y = .slice b n c → x = .c (.int .i64 n) → Tells P σ a w G ⟨dst, .call ⟨.builtin .len, #[y], #[t]⟩, ty, pos, aft, gd⟩ x := by
      rintro b n c ev rfl
      exact ⟨.int .i64 n, by simp [execOp, resolve, invoke, builtin, ev, run_len' hu, goInt], RS_mkInt _ _ _ _ _⟩
    simp only [qval] at hv
    split at hv <;> rename_i he
    · injection hv with hv
      rw [he] at hg
      obtain ⟨b, c, ev⟩ := RX_sl_len (RS_c hg)
      exact fin _ _ _ ev hv.symm
    · injection hv with hv
      rw [he] at hg
      have hx : RD w G.S (.ro _) _ [] := RS_c hg
      simp only [RD] at hx
      obtain ⟨_, ad, cap, ev, _⟩ := hx
      exact fin _ _ _ ev hv.symm
    · split at hv
      · rename_i h0
        injection hv with hv
        rw [he] at hg
        have hx : RD w (AllB w) (.ro _) _ [] := (RS_c hg).2 h0
        simp only [RD] at hx
        obtain ⟨_, ad, cap, ev, _⟩ := hx
        exact fin _ _ _ ev hv.symm
      · cases hv
    · injection hv with hv
      rw [he] at hg
      have hx : RD w G.S .z _ [] := RS_c hg
      simp only [RD] at hx
      obtain ⟨⟨ad, ev⟩, _⟩ := hx
      exact fin _ 0 _ ev (by simpa using hv.symm)
    · cases hv
  · cases hok

theorem tells_lenS (h : Sim V σ a w G) {q : Opd} (hok : QO.ok P V.N (.lenS q) o.op = true) (hv : qval σ (.lenS q) = some x) : Tells P σ a w G o x := by
  obtain ⟨dst, op, ty, pos, aft, gd⟩ := o
  cases op <;> simp only [QO.ok, Bool.false_eq_true] at hok
  rename_i c
  obtain ⟨callee, args, ats⟩ := c
  cases callee <;> try (simp at hok; done)
  rename_i bi
  cases bi <;> try (simp at hok; done)
  simp only at hok
  split at hok
  · rename_i y t hargs hats
    rw [Bool.and_eq_true] at hok
    obtain ⟨ht, hq⟩ := hok
    have hu : P.underlying t = some .string := by
      split at ht
      · assumption
      · cases ht
    have hargs' : args = #[y] := by rw [← Array.toList_inj]; exact hargs
    have hats' : ats = #[t] := by rw [← Array.toList_inj]; exact hats
    subst hargs'; subst hats'
    have hg := h.get hq
    simp only [qval] at hv
    split at hv
    · rename_i s he
      injection hv with hv; subst hv
      rw [he] at hg
      have hx : RD w G.S (.str s) _ [] := RS_c hg
      simp only [RD] at hx
      exact ⟨.int .i64 s.size, by simp [execOp, resolve, invoke, builtin, hx.1, Builtin.len_, run_underlying hu, goInt], RS_mkInt _ _ _ _ _⟩
    · cases hv
  · cases hok

theorem tells_min (h : Sim V σ a w G) {q r : Opd} (hok : QO.ok P V.N (.min q r) o.op = true) (hv : qval σ (.min q r) = some x) : Tells P σ a w G o x := by
  obtain ⟨dst, op, ty, pos, aft, gd⟩ := o
  cases op <;> simp only [QO.ok, Bool.false_eq_true] at hok
  rename_i c
  obtain ⟨callee, args, ats⟩ := c
  cases callee <;> try (simp at hok; done)
  rename_i bi
  cases bi <;> try (simp at hok; done)
  simp only at hok
  split at hok
  · rename_i y z hargs
    rw [Bool.and_eq_true] at hok
    obtain ⟨hq, hr⟩ := hok
    have hargs' : args = #[y, z] := by rw [← Array.toList_inj]; exact hargs
    subst hargs'
    simp only [qval] at hv
    split at hv
    · rename_i m n he1 he2
      injection hv with hv; subst hv
      have e1 := asI_RS he1 (h.get hq)
      have e2 := asI_RS he2 (h.get hr)
      exact ⟨.int .i64 (if n < m then n else m), by simp [execOp, resolve, invoke, builtin, e1, e2, run_min_int2], RS_mkInt _ _ _ _ _⟩
    · cases hv
  · cases hok

theorem part_RS {ep : Nat} {t : TypeId} {i : TI} (ht : tiOf P t = some i) (hn : i.agg = true ∨ i.size = 1) {cs ds : List Cell} {vs : List Value} {off : Nat} (hr : RXs G ep w cs vs) (hc : cut cs off i.size = some ds) {y : SV} (hm : mkSV i.agg ds = some y) :
    ∃ v, (part t vs.toArray off).run P w = .ok v w ∧ RS G ep w y v := by
  obtain ⟨inf, u, hi, hu, hs, _, hag, _⟩ := tiOf_info ht
  have hisAgg : (isAgg t).run P w = .ok i.agg w := by
    simp only [isAgg, Sem.run_bind, run_underlying hu, Result.andThen_ok]
    rw [← hag]
    cases u <;> rfl
  obtain ⟨hl, hg⟩ := cut_get hc
  have hlen := RXs_length hr
  have hle : off + i.size ≤ cs.length := by
    unfold cut at hc
    split at hc
    · assumption
    · cases hc
  have hds : ds = (cs.drop off).take i.size := by
    unfold cut at hc
    rw [if_pos hle] at hc
    injection hc with hc
    exact hc.symm
  have hsub : RXs G ep w ds ((vs.drop off).take i.size) := hds ▸ RXs_take (RXs_drop hr off) _
  refine ⟨_, ?_, mkSV_RS hm hsub⟩
  unfold part
  simp only [Sem.run_bind, hisAgg, Result.andThen_ok]
  by_cases hgg : i.agg = true
  · simp [hgg, sizeOf, typeInfo, hi, hs]
  · have h1 : i.size = 1 := hn.resolve_left hgg
    have : vs[off]? = some (vs[off]'(by omega)) := List.getElem?_eq_getElem (by omega)
    simp [hgg, this, h1, List.head?_eq_getElem?]

theorem run_part1 {t : TypeId} {b : Bool} (ht : isTy P t b = true) {us : List Value} {k : Nat} {u : Value} (hu : us[k]? = some u) : (part t us.toArray k).run P w = .ok u w := by
  unfold part
  have h1 : (isAgg t).run P w = .ok false w := by
    unfold isTy at ht
    split at ht
    · rename_i k' hk; simp only [isAgg, Sem.run_bind, run_underlying hk, Result.andThen_ok]; rfl
    · rename_i hk; simp only [isAgg, Sem.run_bind, run_underlying hk, Result.andThen_ok]; rfl
    · cases ht
  simp only [Sem.run_bind, h1, Result.andThen_ok, Bool.false_eq_true, if_false]
  simp [hu]

theorem eqCell_run {t : TypeId} {c d : Cell} {u v : Value} {b : Bool} {ep : Nat} (ht : isTy P t c.isInt = true) (he : eqCell c d = some b) (hc : RX G ep w c u) (hd : RX G ep w d v) (n : Nat) : (Op.equalIn (n + 1) t u v).run P w = .ok b w := by
  unfold eqCell at he
  split at he
  · rename_i k a k' a'
    split at he
    · rename_i hkk
      subst hkk
      injection he with he; subst he
      have e1 : u = .int k a := by simpa [RX, RD] using hc
      have e2 : v = .int k a' := by simpa [RX, RD] using hd
      subst e1; subst e2
      unfold isTy at ht
      split at ht
      · rename_i k2 hu; exact run_equalIn_int w n t k k2 a a' hu
      · simp [Cell.isInt] at ht
      · cases ht
    · cases he
  · rename_i a a'
    injection he with he; subst he
    have e1 : u = .bool a := by simpa [RX, RD] using hc
    have e2 : v = .bool a' := by simpa [RX, RD] using hd
    subst e1; subst e2
    unfold isTy at ht
    split at ht
    · simp [Cell.isInt] at ht
    · rename_i hu; exact run_equalIn_bool' w n t a a' hu
    · cases ht
  · cases he

theorem eqFields_run {ep : Nat} (n : Nat) {us vs : List Value} : ∀ {fs : List Field} {k : Nat} {cs ds : List Cell} {us1 vs1 : List Value} {b : Bool}, flatFs P k fs (cs.map Cell.isInt) = true → eqCells cs ds = some b →
    RXs G ep w cs us1 → RXs G ep w ds vs1 → us.drop k = us1 → vs.drop k = vs1 → (Op.eqFields (n + 1) us.toArray vs.toArray fs).run P w = .ok b w
  | [], k, cs, ds, us1, vs1, b, hf, he, hc, hd, h1, h2 => by
    cases cs with
    | nil =>
      cases ds with
      | nil => simp only [eqCells, Option.some.injEq] at he; subst he; simp [Op.eqFields]
      | cons => simp [eqCells] at he
    | cons => simp [flatFs] at hf
  | f :: fs, k, cs, ds, us1, vs1, b, hf, he, hc, hd, h1, h2 => by
    cases cs with
    | nil => simp [flatFs] at hf
    | cons c cs =>
      cases ds with
      | nil => simp [eqCells] at he
      | cons d ds =>
        cases hc with
        | @cons _ u _ us2 hcu hcs =>
          cases hd with
          | @cons _ v _ vs2 hdv hds =>
            simp only [List.map_cons, flatFs, Bool.and_eq_true, decide_eq_true_eq] at hf
            obtain ⟨⟨⟨hname, hoff⟩, hty⟩, hrest⟩ := hf
            simp only [eqCells] at he
            split at he
            · rename_i b1 r e1 e2
              injection he with he; subst he
              have g1 : us[k]? = some u := by rw [← List.head?_drop, h1]; rfl
              have g2 : vs[k]? = some v := by rw [← List.head?_drop, h2]; rfl
              have ih := eqFields_run n (us := us) (vs := vs) hrest e2 hcs hds (by rw [← List.drop_drop, h1]; rfl) (by rw [← List.drop_drop, h2]; rfl)
              have p1 := run_part1 (w := w) (P := P) hty (us := us) g1
              have p2 := run_part1 (w := w) (P := P) hty (us := vs) g2
              have q := eqCell_run hty e1 hcu hdv n
              simp only [Op.eqFields, hoff]
              rw [if_pos hname]
              simp only [Sem.run_bind, p1, p2, q, Result.andThen_ok]
              cases b1 with
              | true => simpa using ih
              | false => simp
            · cases he

theorem RS_agg {ep : Nat} {cs : List Cell} {v : Value} (h : RS G ep w (.a cs) v) : ∃ vs : List Value, v = .agg vs.toArray ∧ RXs G ep w cs vs := by
  cases h with
  | a h => exact ⟨_, rfl, h⟩

theorem tells_eqa (h : Sim V σ a w G) {neq : Bool} {ks : List Bool} {q r : Opd} (hok : QO.ok P V.N (.eqa neq ks q r) o.op = true) (hv : qval σ (.eqa neq ks q r) = some x) : Tells P σ a w G o x := by
  obtain ⟨dst, op, ty, pos, aft, gd⟩ := o
  cases op <;> simp only [QO.ok, Bool.false_eq_true] at hok
  rename_i op t y z yt
  simp only [Bool.and_eq_true, decide_eq_true_eq, Bool.not_eq_true'] at hok
  obtain ⟨⟨⟨⟨⟨hop, hfs⟩, hst⟩, hgd⟩, hq⟩, hr⟩ := hok
  split at hfs
  case h_2 => cases hfs
  rename_i fs hu
  simp only [qval] at hv
  split at hv
  · rename_i cs ds e1 e2
    split at hv
    · rename_i hk
      split at hv
      · rename_i b he
        injection hv with hv; subst hv
        have g1 := h.get hq
        have g2 := h.get hr
        rw [e1] at g1
        rw [e2] at g2
        obtain ⟨us, hu1, hus⟩ := RS_agg g1
        obtain ⟨vs, hu2, hvs⟩ := RS_agg g2
        · · have hfo : P.fieldsOf t = fs := by simp [Program.fieldsOf, hu]
            have hE : (Op.equalIn 10000 t (.agg us.toArray) (.agg vs.toArray)).run P w = .ok b w := by
              rw [run_equalIn_struct w 9999 t us.toArray vs.toArray (by rw [hfo]; exact hu) hst, hfo]
              exact eqFields_run 9998 (by rw [hk]; exact hfs) he hus hvs rfl rfl
            have hG := run_eqGuard_agg w op t y z us.toArray vs.toArray hgd
            cases neq <;> simp only [Bool.false_eq_true, if_false, if_true] at hop <;> subst hop
            · refine ⟨.bool b, ?_, RS_mkBool _ _ _ _⟩
              simp [execOp, hu1, hu2, hG, run_eql_struct, hE]
            · refine ⟨.bool (!b), ?_, RS_mkBool _ _ _ _⟩
              simp [execOp, hu1, hu2, hG, run_neq_struct, hE]
      · cases hv
    · cases hv
  · cases hv

theorem tells_fldv (h : Sim V σ a w G) {agg : Bool} {off n : Nat} {q : Opd} (hok : QO.ok P V.N (.fldv agg off n q) o.op = true) (hv : qval σ (.fldv agg off n q) = some x) : Tells P σ a w G o x := by
  obtain ⟨dst, op, ty, pos, aft, gd⟩ := o
  cases op <;> simp only [QO.ok, Bool.false_eq_true] at hok
  simp only [Bool.and_eq_true, Bool.or_eq_true, decide_eq_true_eq] at hok
  obtain ⟨⟨hs, hn⟩, hq⟩ := hok
  split at hs
  · rename_i fs hu
    split at hs
    · rename_i fl hf
      simp only [Bool.and_eq_true, decide_eq_true_eq, beq_iff_eq] at hs
      obtain ⟨rfl, ht⟩ := hs
      obtain ⟨i, hti, hp⟩ := Option.map_eq_some_iff.1 ht
      obtain ⟨rfl, rfl⟩ : i.agg = agg ∧ i.size = n := by simpa using hp
      have hg := h.get hq
      simp only [qval] at hv
      split at hv
      · rename_i xs he
        rw [he] at hg
        split at hv
        · rename_i cs hcut
          generalize hev : a.eval _ = v at hg
          cases hg with
          | a hr =>
            obtain ⟨v, h1, h2⟩ := part_RS (P := P) hti hn hr hcut hv
            exact ⟨v, by simp [execOp, hev, Instr.field, run_underlying hu, hf, asAgg, h1], h2⟩
        · cases hv
      · cases hv
    · cases hs
  · cases hs

theorem tells_idxv (h : Sim V σ a w G) {agg : Bool} {cnt sz : Nat} {q r : Opd} (hok : QO.ok P V.N (.idxv agg cnt sz q r) o.op = true) (hv : qval σ (.idxv agg cnt sz q r) = some x) : Tells P σ a w G o x := by
  obtain ⟨dst, op, ty, pos, aft, gd⟩ := o
  cases op <;> simp only [QO.ok, Bool.false_eq_true] at hok
  simp only [Bool.and_eq_true, Bool.or_eq_true, decide_eq_true_eq] at hok
  obtain ⟨⟨⟨hs, hn⟩, hq⟩, hr⟩ := hok
  split at hs
  · rename_i m e hu
    simp only [Bool.and_eq_true, decide_eq_true_eq, beq_iff_eq] at hs
    obtain ⟨rfl, ht⟩ := hs
    obtain ⟨i, hti, hp⟩ := Option.map_eq_some_iff.1 ht
    obtain ⟨rfl, rfl⟩ : i.agg = agg ∧ i.size = sz := by simpa using hp
    have hg := h.get hq
    have hgr := h.get hr
    simp only [qval] at hv
    split at hv
    · rename_i xs k he hk
      rw [he] at hg
      have en := asI_RS hk hgr
      split at hv
      · rename_i h0
        split at hv
        · rename_i cs hcut
          generalize hev : a.eval _ = v at hg
          cases hg with
          | a hr =>
            obtain ⟨v, h1, h2⟩ := part_RS (P := P) hti hn hr hcut hv
            obtain ⟨inf, _, hi, _, hsz, _⟩ := tiOf_info hti
            refine ⟨v, ?_, h2⟩
            simp [execOp, hev, en, Instr.index, asIntOf, run_underlying hu, h0, sizeOf, typeInfo, hi, hsz, h1]
        · cases hv
      · cases hv
    · cases hv
  · cases hs

end
end Go.Fw

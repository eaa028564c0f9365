/- Quiet operations: building structs by value, making function values. -/
import Derived.Test.YtmdddmjmppckhaaFwQOk5
namespace Go.Fw

section
variable {P : Program} {V : Env} {σ : St} {a : Act} {w : World} {G : Gh} {o : Oper} {x : SV}

theorem mapM_ad (h : Sim V σ a w G) : ∀ (caps : List Opd) (ys : List Operand), caps.length = ys.length → ((caps.zip ys).all fun p => opdOK V.N p.1 p.2) = true → ∀ cs : List Cell,
    (caps.mapM fun x => match σ.get x with | .c (.ad id i j) => some (Cell.ad id i j) | _ => none) = some cs →
    cs.length = ys.length ∧ ∀ (k : Nat) (c : Cell) (u : Value), cs[k]? = some c → (ys.map a.eval)[k]? = some u → RAd G c u
  | [], [], _, _, cs, hm => by simp at hm; subst hm; simp
  | [], _ :: _, hl, _, _, _ => by simp at hl
  | _ :: _, [], hl, _, _, _ => by simp at hl
  | q :: caps, y :: ys, hl, hok, cs, hm => by
    simp only [List.zip_cons_cons, List.all_cons, Bool.and_eq_true] at hok
    simp only [List.mapM_cons, Option.bind_eq_bind, Option.pure_def] at hm
    have hg := h.get hok.1
    split at hm
    · rename_i id i j he
      cases hr : (caps.mapM fun x => match σ.get x with | .c (.ad id i j) => some (Cell.ad id i j) | _ => none) with
      | none => rw [hr] at hm; simp at hm
      | some r =>
        rw [hr] at hm
        simp at hm
        subst hm
        obtain ⟨h1, h2⟩ := mapM_ad h caps ys (by simpa using hl) hok.2 r hr
        refine ⟨by simp [h1], fun k c u hc hu => ?_⟩
        cases k with
        | zero =>
          simp at hc hu
          subst hc; subst hu
          rw [he] at hg
          exact RS_c hg
        | succ k => exact h2 k c u (by simpa using hc) (by simpa using hu)
    · simp at hm

theorem tells_mkF (h : Sim V σ a w G) {f : FuncId} {caps : List Opd} (hok : QO.ok P V.N (.mkF f caps) o.op = true) (hv : qval σ (.mkF f caps) = some x) : Tells P σ a w G o x := by
  obtain ⟨dst, op, ty, pos, aft, gd⟩ := o
  cases op <;> try (simp [QO.ok] at hok; done)
  rename_i fn first ys
  cases fn <;> try (simp [QO.ok] at hok; done)
  simp only [QO.ok, Bool.and_eq_true, decide_eq_true_eq] at hok
  obtain ⟨⟨⟨rfl, h1⟩, h2⟩, h3⟩ := hok
  simp only [qval] at hv
  obtain ⟨cs, hcs, rfl⟩ := Option.map_eq_some_iff.1 hv
  obtain ⟨hl, hk⟩ := mapM_ad h caps ys.toList (by simpa using h2) h3 cs hcs
  have hf : first = #[] := by simpa using h1
  subst hf
  refine ⟨.func (.func f) #[] (ys.toList.map a.eval).toArray, ?_, .c ⟨ys.toList.map a.eval, rfl, by simpa using hl.symm, hk⟩⟩
  simp [execOp, Instr.makeFunc]
  rw [← Array.toList_inj]; simp

/-! ### Structs and arrays by value -/
theorem foldl_set (off : Nat) : ∀ (vs : List Value) (k : Nat) (cs : Array Value), off + k + vs.length ≤ cs.size →
    ((vs.zipIdx k).foldl (fun cs (p : Value × Nat) => cs.setIfInBounds (off + p.2) p.1) cs).toList = cs.toList.take (off + k) ++ vs ++ cs.toList.drop (off + k + vs.length)
  | [], k, cs, _ => by simp
  | v :: vs, k, cs, h => by
    simp only [List.zipIdx_cons, List.foldl_cons, List.length_cons] at h ⊢
    rw [foldl_set off vs (k + 1) _ (by simp; omega)]
    have hlt : off + k < cs.toList.length := by simp; omega
    simp only [Array.toList_setIfInBounds]
    rw [List.take_set, List.drop_set, if_pos (by omega)]
    have e1 : off + (k + 1) + vs.length = off + k + (vs.length + 1) := by omega
    rw [e1]
    have e2 : (cs.toList.take (off + (k + 1))).set (off + k) v = cs.toList.take (off + k) ++ [v] := by
      rw [show off + (k + 1) = off + k + 1 by omega, List.take_succ_eq_append_getElem hlt]
      rw [List.set_append_right _ _ (by simp; omega)]
      simp [show min (off + k) cs.size = off + k by omega]
    rw [e2]
    simp

theorem flat_RS {ep : Nat} {y : SV} {v : Value} {xs : List Cell} (hf : flat ep y = some xs) (hr : RS G ep w y v) : RXs G ep w xs v.cells.toList := by
  have one : ∀ c, RX G ep w c v → (∀ vs, v ≠ .agg vs) → RXs G ep w [c] v.cells.toList := fun c hx hv => by
    have : v.cells = #[v] := by cases v <;> first | rfl | exact absurd rfl (hv _)
    rw [this]; exact .cons hx .nil
  cases hr with
  | c hx =>
    rename_i c
    cases c <;> simp only [flat] at hf
    case sn e es =>
      split at hf
      · rename_i h0
        injection hf with hf; subst hf
        have hd : RD w (AllB w) (.ro es) v [] := hx.2 h0
        refine one _ hx fun vs e => ?_
        simp only [RD] at hd
        obtain ⟨_, _, _, hv, _⟩ := hd
        rw [hv] at e; cases e
      · cases hf
    case sa e cs j =>
      split at hf
      · rename_i h0
        injection hf with hf; subst hf
        obtain ⟨b, k, hv, _⟩ := RX_sa hx h0
        exact one _ hx fun vs e => by rw [hv] at e; cases e
      · cases hf
    case sl id off len =>
      injection hf with hf; subst hf
      obtain ⟨b, cc, hv⟩ := RX_sl_len hx
      exact one _ hx fun vs e => by rw [hv] at e; cases e
    case ad id i j =>
      injection hf with hf; subst hf
      obtain ⟨l, _, _, hv⟩ := RX_ad hx
      exact one _ hx fun vs e => by rw [hv] at e; cases e
    case fn f caps =>
      injection hf with hf; subst hf
      obtain ⟨vs', hv, _⟩ := id hx
      exact one _ hx fun vs e => by rw [hv] at e; cases e
    case ow sz es =>
      injection hf with hf; subst hf
      have hd : RD w G.S (.ow sz es) v [] := hx
      refine one _ hx fun vs e => ?_
      subst e
      simp only [RD] at hd
      rcases hd with ⟨_, _, _, h⟩ | ⟨_, _, _, _, _, _, h, _⟩ <;> cases h
    case ro es =>
      injection hf with hf; subst hf
      have hd : RD w G.S (.ro es) v [] := hx
      refine one _ hx fun vs e => ?_
      subst e
      simp only [RD] at hd
      obtain ⟨_, _, _, h, _⟩ := hd
      cases h
    case ar cs j =>
      injection hf with hf; subst hf
      obtain ⟨b, k, hv, _⟩ := RX_ar hx
      exact one _ hx fun vs e => by rw [hv] at e; cases e
    case ifc t c =>
      injection hf with hf; subst hf
      have hd : RD w G.S (.ifc t c) v [] := hx
      refine one _ hx fun vs e => ?_
      subst e
      simp only [RD] at hd
      obtain ⟨_, _, h, _⟩ := hd
      cases h
    case z =>
      injection hf with hf; subst hf
      have hd : RD w G.S .z v [] := hx
      refine one _ hx fun vs e => ?_
      subst e
      simp only [RD] at hd
      obtain ⟨⟨_, h⟩, _⟩ := hd
      cases h
    case int =>
      injection hf with hf; subst hf
      exact one _ hx fun vs e => by subst e; simp [RX, RD] at hx
    case bool =>
      injection hf with hf; subst hf
      exact one _ hx fun vs e => by subst e; simp [RX, RD] at hx
    case str =>
      injection hf with hf; subst hf
      exact one _ hx fun vs e => by subst e; simp [RX, RD] at hx
    case nilp =>
      injection hf with hf; subst hf
      exact one _ hx fun vs e => by subst e; simp [RX, RD] at hx
    case nili =>
      injection hf with hf; subst hf
      exact one _ hx fun vs e => by subst e; simp [RX, RD] at hx
    case nilf =>
      injection hf with hf; subst hf
      exact one _ hx fun vs e => by subst e; simp [RX, RD] at hx
    all_goals cases hf
  | a hx => simp only [flat] at hf; injection hf with hf; subst hf; exact hx
  | t => simp [flat] at hf

theorem fill_RXs (h : Sim V σ a w G) (place : Nat → Option (Nat × Nat)) : ∀ (parts : List (Nat × Nat × Opd)) (qs : List (Nat × Operand)) (cs0 : List Cell) (vs0 : Array Value) (cs : List Cell),
    partsOK V.N P place parts qs = true → RXs G σ.ep w cs0 vs0.toList → fillC σ parts cs0 = some cs →
    ∃ vs, Instr.fill place vs0 (qs.map fun p => (p.1, a.eval p.2)) = some vs ∧ RXs G σ.ep w cs vs.toList
  | [], [], cs0, vs0, cs, _, hr, hf => by
    simp only [fillC] at hf
    injection hf with hf; subst hf
    exact ⟨vs0, rfl, hr⟩
  | [], _ :: _, _, _, _, hok, _, _ => by simp [partsOK] at hok
  | _ :: _, [], _, _, _, hok, _, _ => by simp [partsOK] at hok
  | (off, n, q) :: parts, (i, y) :: qs, cs0, vs0, cs, hok, hr, hf => by
    simp only [partsOK, Bool.and_eq_true, beq_iff_eq] at hok
    obtain ⟨⟨hp, hq⟩, hrest⟩ := hok
    have hg := h.get hq
    simp only [fillC] at hf
    have hlen := RXs_length hr
    split at hf
    · rename_i xs hxs
      split at hf
      · rename_i hc
        obtain ⟨hc1, hc2⟩ := hc
        have hx := flat_RS hxs hg
        have hxl := RXs_length hx
        have hs1 : (a.eval y).cells.size = n := by rw [← hc1, ← hxl]; simp
        have hs0 : vs0.size = cs0.length := by rw [← hlen]; simp
        have hfold := foldl_set off (a.eval y).cells.toList 0 vs0 (by simp; omega)
        have hfold' : ((a.eval y).cells.zipIdx.foldl (fun cs (p : Value × Nat) => cs.setIfInBounds (off + p.2) p.1) vs0).toList = vs0.toList.take off ++ (a.eval y).cells.toList ++ vs0.toList.drop (off + n) := by
          rw [← Array.foldl_toList, Array.toList_zipIdx]
          rw [hfold]
          simp [hs1]
        have hr' : RXs G σ.ep w (cs0.take off ++ xs ++ cs0.drop (off + n)) ((a.eval y).cells.zipIdx.foldl (fun cs (p : Value × Nat) => cs.setIfInBounds (off + p.2) p.1) vs0).toList := by
          rw [hfold']
          exact RXs_append (RXs_append (RXs_take hr _) hx) (RXs_drop hr _)
        obtain ⟨vs, h1, h2⟩ := fill_RXs h place parts qs _ _ cs hrest hr' hf
        refine ⟨vs, ?_, h2⟩
        simp only [List.map_cons, Instr.fill, hp]
        rw [if_neg (by simp [hs1]; omega)]
        exact h1
      · cases hf
    · cases hf

theorem mapM_places : ∀ (fs : List Field), (fs.all fun f => (P.info? f.type).isSome) = true → ∃ ps, fs.mapM (fun f => (P.info? f.type).map fun i => (f.offset, i.size)) = some ps ∧
    ∀ i : Nat, ps[i]? = (fs[i]?).bind fun f => (P.info? f.type).map fun inf => (f.offset, inf.size)
  | [], _ => ⟨[], rfl, by simp⟩
  | f :: fs, h => by
    simp only [List.all_cons, Bool.and_eq_true] at h
    obtain ⟨inf, hi⟩ := Option.isSome_iff_exists.1 h.1
    obtain ⟨ps, h1, h2⟩ := mapM_places fs h.2
    refine ⟨(f.offset, inf.size) :: ps, by simp [hi, h1], fun i => ?_⟩
    cases i with
    | zero => simp [hi]
    | succ i => simpa using h2 i

theorem tells_build (h : Sim V σ a w G) {zero : List Cell} {parts : List (Nat × Nat × Opd)} (hok : QO.ok P V.N (.build zero parts) o.op = true) (hv : qval σ (.build zero parts) = some x) : Tells P σ a w G o x := by
  obtain ⟨dst, op, ty, pos, aft, gd⟩ := o
  cases op <;> try (simp [QO.ok] at hok; done)
  rename_i t ps
  simp only [QO.ok, Bool.and_eq_true] at hok
  obtain ⟨⟨hz, hsome⟩, hparts⟩ := hok
  simp only [qval] at hv
  obtain ⟨cs, hcs, rfl⟩ := Option.map_eq_some_iff.1 hv
  split at hz
  · rename_i zc hzc
    simp only [Bool.and_eq_true] at hz
    obtain ⟨_, hz⟩ := hz
    split at hz
    · rename_i it hit
      split at hz
      · rename_i zv hzv
        obtain ⟨vs, h1, h2⟩ := fill_RXs h (buildPlace P t) parts ps.toList zero zv.cells cs hparts (RXs_of_are hz) hcs
        refine ⟨.agg vs, ?_, ?_⟩
        · have hb : P.built t (ps.map fun (i, x) => (i, a.eval x)).toList = some vs := by
            have hps : (ps.map fun (i, x) => (i, a.eval x)).toList = ps.toList.map fun p => (p.1, a.eval p.2) := by simp
            rw [hps]
            unfold Program.built
            split at hsome
            · rename_i fs hu
              obtain ⟨places, hp1, hp2⟩ := mapM_places fs.toList hsome
              simp only [hit, hu, hzv, hp1]
              have : (fun i => places.toArray[i]?) = buildPlace P t := by
                funext i
                simp only [List.getElem?_toArray, hp2, buildPlace, tdT, tiOf, hit, hu, Option.map_some, tdOf, List.getElem?_map, Array.getElem?_toList]
                cases fs[i]? <;> simp
              rw [this]; exact h1
            · rename_i n e hu
              simp only [hit, hu, hzv]
              cases hie : P.info? e with
              | none => rw [hie] at hsome; cases hsome
              | some ie =>
                have : (fun i => some (i * ie.size, ie.size)) = buildPlace P t := by
                  funext i
                  simp [buildPlace, tdT, tiOf, hit, hu, tdOf, hie]
                simp only
                rw [this]; exact h1
            · cases hsome
          simp [execOp, run_build w t _ vs hb]
        · have := RS.a (G := G) (ep := σ.ep) (w := w) h2
          simpa using this
      · cases hz
    · cases hz
  · cases hz

end
end Go.Fw

/- An append to nothing, and an empty slice: nothing that was there changes. -/
import Derived.Test.YtmdddmjmppckhaaFwCall2
namespace Go.Fw

section
variable {P : Program} {V : Env} {σ σ' : St} {a : Act} {w w' : World} {G G' : Gh} {ep ep' : Nat}

def azval (σ : St) (d sz bytes : Nat) (s x : Opd) : Option St :=
  match σ.get s with
  | .c .z => match asrc σ sz false (σ.get x) with
    | some (es, _) => if es.length * bytes ≤ 140737488355328 ∧ es.length ≤ 9223372036854775807 then
        some ((σ.newO d ⟨sz, es⟩).set d (.c (.sl (nm d 0, σ.nx) 0 es.length)))
      else none
    | none => none
  | _ => none

theorem asrc_false {sz : Nat} {x : SV} {es : List (List Cell)} (h : asrc σ sz false x = some (es, σ')) : σ' = σ := by
  unfold asrc at h
  repeat' split at h
  all_goals first
    | (cases h; done)
    | (simp only [Option.some.injEq, Prod.mk.injEq] at h; exact h.2.symm)
    | (exfalso; simp_all; done)

theorem step_appz (h : Sim V σ a w G) {sz bytes : Nat} {s x : Opd} {o : Oper} {d : Nat} (hd : o.dst = some d) (hN : d < V.N) (hnew : ∀ k, k < 16 → G.μ (nm d k, σ.nx) = none)
    (hok : appOK P V.N sz bytes s x o.op = true) (hm : azval σ d sz bytes s x = some σ') : Step P V σ σ' a w G o d := by
  obtain ⟨dst, op, ty, pos, aft, gd⟩ := o
  simp only at hd
  subst hd
  obtain ⟨y, z, t, e, i, zv, rfl, hu, hi, hsz, hby, hz, hzv, hpos, hs, hx⟩ := app_ok_spec hok
  have hgs := h.get hs
  have hgx := h.get hx
  simp only [azval] at hm
  split at hm
  · rename_i hsv
    split at hm
    · rename_i es2 σ2 hsrc
      obtain rfl := asrc_false hsrc
      split at hm
      · rename_i hbound
        injection hm with hm; subst hm
        obtain ⟨hb1, hb2⟩ := hbound
        have hrun : ∀ {v1 v2 : Value} {r : Result Value}, a.eval y = v1 → a.eval z = v2 → (Builtin.append_ #[t, t] ty #[v1, v2]).run P w = r → ∀ v' w', r = .ok v' w' →
            (execOp a.eval ⟨some d, .call ⟨.builtin .append, #[y, z], #[t, t]⟩, ty, pos, aft, gd⟩).run P w = .ok (.value v') w' := by
          rintro v1 v2 r e1 e2 hr v' w' rfl
          simp [execOp, resolve, invoke, builtin, e1, e2, hr]
        rw [hsv] at hgs
        have hd : RD w G.S .z _ [] := RS_c hgs
        simp only [RD] at hd
        obtain ⟨⟨base, ev⟩, _⟩ := hd
        obtain ⟨xa, xc, vs, F, src⟩ := asrc_ok (P := P) h hgx hsrc
        by_cases hm0 : es2 = []
        · subst hm0
          obtain ⟨G', e', hμ, hμ', hs'⟩ := h.newNone (id := (nm d 0, σ2.nx)) (Nat.le_refl _) (hnew 0 (by omega)) sz
          exact ⟨.slice base 0 0, w, G', .inl (hrun ev src.val (run_app_none hu hi base xa xc) _ _ rfl), Sim.set hs' hN (.c ⟨_, hμ', .inr ⟨rfl, rfl, base, rfl⟩⟩), fun i hi => hμ i (hi 0 (by omega))⟩
        · have hpos2 : 0 < es2.length := List.length_pos_iff.2 hm0
          have hgrow := run_app_grow (w := w) (ty := ty) hu hi hz base xa 0 0 es2.length xc #[] vs.toArray (src_none _ base 0 _) (by rw [hsz]; exact src.cells _ (More.drew w)) (by omega) (by simpa using hb2) (by rw [hby]; simpa using hb1)
          rw [Nat.zero_add] at hgrow
          have hge := grownCap_ge w es2.length 0 e
          have hmx := grownCap_le_maxLen w es2.length 0 e (by simp only [maxLen]; simpa using hb2)
          obtain ⟨G', hμ, hμ', hs'⟩ := app_grow h (d := d) (sz := sz) (n := 0) (m := es2.length) (cap := grownCap w es2.length 0 e) (e := e) (zv := zv) (hnew 0 (by omega)) (es1 := []) (es2 := es2) (v1 := []) (v2 := vs) (F1 := []) (F2 := F) rfl rfl hzv (by omega) hmx (by simp) src.each rfl src.rep (by simpa using src.own)
          rw [Nat.zero_add] at hs'
          refine ⟨_, _, G', .inl (hrun ev src.val hgrow _ _ rfl), ?_, fun i hi => hμ i (hi 0 (by omega))⟩
          exact Sim.set hs' hN (.c ⟨_, hμ', .inl ⟨rfl, Nat.lt_of_lt_of_le hpos2 hge, by simpa using hge, by simp⟩⟩)
      · cases hm
    · cases hm
  · cases hm

/-- A slice literal without elements. -/
def bslzOK (P : Program) : Op → Bool
  | .buildSlice t 0 ps => (match P.underlying t with
      | some (.slice e) => (match P.info? e with | some i => (match i.zero with | some z => decide (z.cells.size = i.size) && decide (0 < i.size) | none => false) | none => false)
      | _ => false) && ps.toList.isEmpty
  | _ => false

theorem step_bslz (h : Sim V σ a w G) {o : Oper} {d : Nat} (hd : o.dst = some d) (hN : d < V.N) (hok : bslzOK P o.op = true) : Step P V σ (σ.set d (.c .z)) a w G o d := by
  obtain ⟨dst, op, ty, pos, aft, gd⟩ := o
  simp only at hd
  subst hd
  cases op <;> try (simp [bslzOK] at hok; done)
  rename_i t m ps
  cases m with
  | succ => simp [bslzOK] at hok
  | zero =>
    simp only [bslzOK, Bool.and_eq_true] at hok
    obtain ⟨ht, hps⟩ := hok
    split at ht
    · rename_i e hu
      split at ht
      · rename_i i hi
        split at ht
        · rename_i z hz
          simp only [Bool.and_eq_true, decide_eq_true_eq] at ht
          have hps' : ps = #[] := by simpa using hps
          subst hps'
          have hr := run_bsl (P := P) (w := w) (n := 0) hu hi hz ht.1 ht.2 (by omega) (parts := #[]) (vs := #[]) (by simp [Instr.fill])
          refine ⟨.slice (some ⟨w.heap.size, 0, none⟩) 0 0, w.alloc (.cells #[] e), G, .inl ?_, (h.more (More.alloc w _)).set hN (RS.c (x := .z) ?_), fun _ _ => rfl⟩
          · simp [execOp, hr]
          · show RD (w.alloc (.cells #[] e)) G.S .z _ []
            simp only [RD]
            exact ⟨⟨_, rfl⟩, trivial⟩
        · cases ht
      · cases ht
    · cases ht
end
end Go.Fw

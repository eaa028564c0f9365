/- For every instruction, list of effects and effect, the law fettlelaw15.EffectKinds returns true, and the input reads as it did. Conditions: none. -/
import Derived.Test.YtmdddmjmppckhaaFwKP
import Derived.Test.YtmdddmjmppckhaaFwKV
import Derived.Test.YtmdddmjmppckhaaFwShape
import Derived.Test.YtmdddmjmppckhaaRows
import Derived.WalkKit
import Derived.ProofKit
import Derived.OpenShut
import Derived.ShutString
import Derived.ChangeOld
import Derived.Below
import Derived.SizedLaws
import Derived.Carry
namespace Go.Fw.K
open Go.Proofs Go.Proofs.Ytmdddmjmppckhaa
open Go.ChangeShapes Go.WideShapes Go.ChangeAt Go.RowKit
theorem own : ownKnob Try.prog.godebug = none := by kernel_rfl
theorem laidOut : laidOutB Try.prog = true := by kernel_rfl

theorem arg_agg {P : Program} {H : Type} {enc : TypeId × Value → H} {w : World} {base : Nat} {spare : Nat → Bool} {held : Bool} {t : TypeId} {v : Value} {d : DataW H} {p : List MemPlace} {n : Nat} {T : Ty} {fs : Array Field} {r : Reach} {base2 : Nat}
    (hT : tyOf P n t = some T) (hu : P.underlying t = some (.struct fs)) (hv : Value.okWide P w r base2 t v) (h : DataW.Trod enc P w base spare held t v d p) (hw : ∀ x ∈ DataW.weights P t d, x ≤ reachBytes) :
    ∃ cs, HasTy T cs ∧ RS (G0 (AllB w)) 0 w (.a cs) v := by
  obtain ⟨us, rfl, _⟩ := okWide_struct hu hv
  obtain ⟨fuel, hf⟩ := h
  obtain ⟨_, cs, h1, h2⟩ := trod_ty n hT hf hw
  refine ⟨cs, h1, ?_⟩
  have := RS.a h2
  simpa [Value.cells] using this
theorem arg_sl {P : Program} {H : Type} {enc : TypeId × Value → H} {w : World} {base : Nat} {spare : Nat → Bool} {held : Bool} {t e : TypeId} {v : Value} {d : DataW H} {p : List MemPlace} {n : Nat} {T : Ty} {r : Reach} {B base2 : Nat}
    (hT : tyOf P n t = some (.sl B T)) (hu : P.underlying t = some (.slice e)) (hv : Value.okWide P w r base2 t v) (h : DataW.Trod enc P w base spare held t v d p) (hw : ∀ x ∈ DataW.weights P t d, x ≤ reachBytes) :
    ∃ es, (∀ x ∈ es, HasTy T x) ∧ es.length ≤ maxLen ∧ es.length * B ≤ reachBytes ∧ RS (G0 (AllB w)) 0 w (.c (.ro es)) v := by
  obtain ⟨a, len, cap, rfl⟩ := okWide_slice hu hv
  obtain ⟨fuel, hf⟩ := h
  obtain ⟨_, cs, h1, h2⟩ := trod_ty n hT hf hw
  simp only [HasTy] at h1
  obtain ⟨es, rfl, h3, h4, h5⟩ := h1
  refine ⟨es, h5, h3, h4, ?_⟩
  simp only [Value.cells] at h2
  cases h2 with
  | cons h6 _ => exact .c h6

theorem instr_of {cs : List Cell} (h : HasTy (.st [.int .i64, .int .i64, .sl 8 (.int .i64), .int .i64, .int .i64]) cs) : ∃ x : Instr, cs = eInstr_r x := by
  simp only [HasTy, HasTys] at h
  obtain ⟨_, _, rfl, ⟨a, rfl, _⟩, _, _, rfl, ⟨b, rfl, _⟩, _, _, rfl, ⟨es, rfl, _, _, hes⟩, _, _, rfl, ⟨c, rfl, _⟩, _, _, rfl, ⟨d, rfl, _⟩, rfl⟩ := h
  obtain ⟨xs, rfl⟩ : ∃ xs : List Int, es = xs.map eI := ints_of hes
  exact ⟨⟨a, b, xs, c, d⟩, rfl⟩
where
  ints_of : ∀ {es : List (List Cell)}, (∀ x ∈ es, ∃ n, x = [.int .i64 n] ∧ (Lit.int .i64 n).wf = true) → ∃ xs : List Int, es = xs.map eI
    | [], _ => ⟨[], rfl⟩
    | e :: es, h => by
      obtain ⟨xs, rfl⟩ := ints_of fun x hx => h x (List.mem_cons_of_mem _ hx)
      obtain ⟨n, rfl, _⟩ := h e (by simp)
      exact ⟨n :: xs, rfl⟩
theorem effect_of {cs : List Cell} (h : HasTy (.st [.bool, .bool, .bool, .bool, .bool]) cs) : ∃ x : Effect, cs = eEffect x := by
  simp only [HasTy, HasTys] at h
  obtain ⟨_, _, rfl, ⟨a, rfl⟩, _, _, rfl, ⟨b, rfl⟩, _, _, rfl, ⟨c, rfl⟩, _, _, rfl, ⟨d, rfl⟩, _, _, rfl, ⟨e, rfl⟩, rfl⟩ := h
  exact ⟨⟨a, b, c, d, e⟩, rfl⟩
theorem effects_of : ∀ {es : List (List Cell)}, (∀ x ∈ es, HasTy (.st [.bool, .bool, .bool, .bool, .bool]) x) → ∃ xs : List Effect, es = xs.map eEffect
  | [], _ => ⟨[], rfl⟩
  | e :: es, h => by
    obtain ⟨xs, rfl⟩ := effects_of fun x hx => h x (List.mem_cons_of_mem _ hx)
    obtain ⟨n, rfl⟩ := effect_of (h e (by simp))
    exact ⟨n :: xs, rfl⟩

theorem walk {w : World} {v0 v1 v2 : Value} {x : Instr} {l : List Effect} {e : Effect} (h0 : RS (G0 (AllB w)) 0 w (.a (eInstr_r x)) v0) (h1 : RS (G0 (AllB w)) 0 w (.c (.ro (l.map eEffect))) v1) (h2 : RS (G0 (AllB w)) 0 w (.a (eEffect e)) v2) :
    Calls Try.prog 6 #[v0, v1, v2] w fun r w' => r = .returned (.bool true) ∧ Below w.heap.size w w' := by
  obtain ⟨n, hn⟩ := law15_EffectKinds_w (kinds x l e)
  refine (pure_calls (valid n) hn (S := AllB w) (fun b hb => hb) (.cons h0 (.cons h1 (.cons h2 .nil)))).mono fun r w' hr => ?_
  cases r with
  | returned v =>
    obtain ⟨m, _, G', ep', us, F, rfl, hrv, _⟩ := hr
    refine ⟨?_, ⟨m.os, m.tape, m.output, m.size, m.heap⟩⟩
    unfold law15_EffectKinds_rv at hrv
    cases us with
    | nil => exact hrv.elim
    | cons u us =>
      obtain ⟨F1, F2, _, ⟨vs, hf, h3⟩, h4⟩ := hrv
      cases us with
      | cons => exact h4.elim
      | nil =>
        rcases h3 with ⟨h3, _⟩ | ⟨_, u', rfl, rfl⟩
        · cases h3
        · obtain ⟨Fa, Fb, _, h5, _⟩ := hf
          have : u = .bool true := by
            rcases h5 with h5 | ⟨h5, _⟩
            · simpa [RD] using h5.1
            · simpa [RX, RD] using h5
          rw [this]; rfl
  | panicked => exact hr.elim
  | outgrown => exact hr.elim

set_option maxRecDepth 100000 in
theorem lifted (os : Os) (started : os.Started) (H : Type) (enc : TypeId × Value → H) :
    ReturnsInHanded {} Try.checked os 6 .any (Rows.effectKindsSpec.pre6 enc Try.prog Try.f6 Rows.effectKindsRow.domain false) (Rows.effectKindsSpec.post enc Try.prog Try.f6 false true false false) := by
  refine returnsInHanded_of_change_sized (C := Try.checked) own started (by kernel_rfl) Try.func6
    (ChangeSpec.witness6 (enc := enc) (C := Try.checked) false ⟨#[], #[.agg #[.int .i64 0, .int .i64 0, .slice none 0 0, .int .i64 0, .int .i64 0], .slice none 0 0, .agg #[.bool false, .bool false, .bool false, .bool false, .bool false]], []⟩ 8 (by kernel_rfl) (by kernel_rfl) (by kernel_rfl) (by kernel_rfl)) ?_
  intro W base args ds gs before hval0 hW hcnd hsz0 _
  have hsz : (DataW.weightsEach Try.prog (Try.f6.params.toList ++ Rows.effectKindsSpec.plain.varTypes Try.prog) (ds ++ gs)).all (· ≤ reachBytes) = true := hsz0
  have hval : ∀ (j : Nat) t v, Try.f6.params[j]? = some t → args[j]? = some v → Value.okWide Try.prog W .any base t v := hval0
  have hW' := hW
  obtain ⟨p, q, hA0, hV, rfl, hfz, hnd⟩ := hW
  have hA : DataW.TrodAll enc Try.prog W 0 (fun _ => true) true Try.f6.params.toList args.toList ds p := hA0
  rw [Try.params6] at hA hval hsz
  obtain ⟨v0, vs0, d0, ds0, p0, q0, hargs, rfl, rfl, h0, r0⟩ := trodAll_cons hA
  obtain ⟨v1, vs1, d1, ds1, p1, q1, rfl, rfl, rfl, h1, r1⟩ := trodAll_cons r0
  obtain ⟨v2, vs2, d2, ds2, p2, q2, rfl, rfl, rfl, h2, r2⟩ := trodAll_cons r1
  obtain ⟨rfl, rfl, rfl⟩ := trodAll_nil r2
  obtain rfl : args = #[v0, v1, v2] := by cases args; simp_all
  obtain ⟨rfl, rfl⟩ := trodVars_none hV
  have hw : ∀ (j : Nat) t d, ([56, 47, 51] : List TypeId)[j]? = some t → ([d0, d1, d2] : List (DataW H))[j]? = some d → ∀ x ∈ DataW.weights Try.prog t d, x ≤ reachBytes := fun j t d ht hd x hx => by
    have hj : j < 3 := by
      have := (List.getElem?_eq_some_iff.1 ht).1
      simpa using this
    have := List.all_eq_true.1 hsz x (DataW.weights_mem_each (j := j) (by rw [List.getElem?_append_left (by simpa using hj)]; exact ht) (by rw [List.getElem?_append_left (by simpa using hj)]; exact hd) x hx)
    simpa using this
  obtain ⟨c0, t0, s0⟩ := arg_agg (n := 10) (T := .st [.int .i64, .int .i64, .sl 8 (.int .i64), .int .i64, .int .i64]) (by kernel_rfl) Try.underlying56 (hval 0 56 v0 rfl rfl) h0 (hw 0 _ _ rfl rfl)
  obtain ⟨c1, t1, _, _, s1⟩ := arg_sl (n := 10) (B := 5) (T := .st [.bool, .bool, .bool, .bool, .bool]) (by kernel_rfl) Try.underlying47 (hval 1 47 v1 rfl rfl) h1 (hw 1 _ _ rfl rfl)
  obtain ⟨c2, t2, s2⟩ := arg_agg (n := 10) (T := .st [.bool, .bool, .bool, .bool, .bool]) (by kernel_rfl) Try.underlying51 (hval 2 51 v2 rfl rfl) h2 (hw 2 _ _ rfl rfl)
  obtain ⟨x, rfl⟩ := instr_of t0
  obtain ⟨l, rfl⟩ := effects_of t1
  obtain ⟨e, rfl⟩ := effect_of t2
  have lt : ∀ {t : TypeId} {v : Value} {d : DataW H} {p : List MemPlace}, DataW.Trod enc Try.prog W 0 (fun _ => true) true t v d p → ∀ x ∈ p, x.block < W.heap.size := fun h x hx => by obtain ⟨m, hm⟩ := h; exact DataW.trod_lt m _ _ _ hm x hx
  clear hA0 hval0 hsz0 hsz
  refine (walk s0 s1 s2).mono fun e W' ⟨he, bel⟩ => ?_
  subst he
  exact ⟨_, rfl, _, _, _, [], _, [], hW', trodAll_mk1 (shut_bool Try.underlying4 _), (trodAll_cons_mk (Below.trod laidOut (by kernel_rfl) (of_decide_eq_true (by kernel_rfl)) h0 bel (lt h0)) (trodAll_cons_mk (Below.trod laidOut (by kernel_rfl) (of_decide_eq_true (by kernel_rfl)) h1 bel (lt h1)) (trodAll_cons_mk (Below.trod laidOut (by kernel_rfl) (of_decide_eq_true (by kernel_rfl)) h2 bel (lt h2)) trodAll_mk0))), rfl, bel.frame _, fun h => by cases h⟩
theorem over : Rows.effectKindsRow.holds Try.pinned (OpenSpec.ofChange Rows.effectKindsSpec) :=
  OpenClaim.holds_of_wide 6 Try.f6 rfl rfl rfl rfl rfl rfl rfl ⟨rfl, rfl, rfl, rfl, rfl⟩ rfl rfl rfl rfl rfl (by kernel_rfl) Try.func6 (by kernel_rfl)
    (of_decide_eq_true (by kernel_rfl)) (by unfold Func.isWrapper; first | (rw [if_pos (by decide +kernel)]; kernel_rfl) | (rw [if_neg (by decide +kernel)]; exact ⟨rfl, rfl⟩))
    (fun os started H enc _ => lifted os started H enc)
theorem proved : Rows.EffectKindsSaid := over
end Go.Fw.K
namespace Go.Proofs.Ytmdddmjmppckhaa
/-- Whatever the input: the law returns true; the input reads as it did. No condition. -/
theorem effectKinds_holds : Rows.EffectKindsSaid := Go.Fw.K.over
end Go.Proofs.Ytmdddmjmppckhaa

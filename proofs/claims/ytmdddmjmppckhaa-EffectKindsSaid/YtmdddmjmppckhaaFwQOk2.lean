/- Quiet operations, the rest. -/
import Derived.Test.YtmdddmjmppckhaaFwQOk
namespace Go.Fw

section
variable {P : Program} {V : Env} {σ : St} {a : Act} {w : World} {G : Gh} {o : Oper} {x : SV}

theorem tdT_under {t : TypeId} {d : TD} (h : tdT P t = some d) : ∃ u, P.underlying t = some u ∧ tdOf u = d := by
  unfold tdT tiOf at h
  split at h
  · rename_i i u h1 h2
    simp at h
    exact ⟨u, h2, h⟩
  · simp at h

theorem tiOf_info {t : TypeId} {i : TI} (h : tiOf P t = some i) : ∃ inf u, P.info? t = some inf ∧ P.underlying t = some u ∧ inf.size = i.size ∧ inf.bytes = i.bytes ∧
    (match u with | .struct _ | .array _ _ => true | _ => false) = i.agg ∧ tdOf u = i.d := by
  unfold tiOf at h
  split at h
  · rename_i inf u h1 h2
    injection h with h; subst h
    exact ⟨inf, u, h1, h2, rfl, rfl, rfl, rfl⟩
  · cases h

theorem equal_of {t : TypeId} {x y : Value} {b : Bool} (h : ∀ d, (Op.equalIn (d + 2) t x y).run P w = .ok b w) : (Op.equal t x y).run P w = .ok b w := h 9998

theorem equalIn_iface_int (d : Nat) {ti tn : TypeId} {ms : Array (String × TypeId)} {i : TypeInfo} {kk k : IntKind} (a b : Int)
    (hi : P.underlying ti = some (.interface ms)) (hn : P.underlying tn = some (.int kk)) (hinfo : P.info? tn = some i) (hcomp : i.comparable = true) :
    (Op.equalIn (d + 2) ti (.iface tn (.int k a)) (.iface tn (.int k b))).run P w = .ok (a == b) w := by
  rw [Op.equalIn]
  simp only [Sem.run_bind, run_underlying hi, Result.andThen_ok]
  simp [typeInfo, hinfo, hcomp, Op.equalIn, run_underlying hn]

theorem equalIn_iface_ne (d : Nat) {ti t1 t2 : TypeId} {ms : Array (String × TypeId)} {u1 u2 : Value} (hi : P.underlying ti = some (.interface ms)) (hne : t1 ≠ t2) :
    (Op.equalIn (d + 2) ti (.iface t1 u1) (.iface t2 u2)).run P w = .ok false w := by
  rw [Op.equalIn]
  simp only [Sem.run_bind, run_underlying hi, Result.andThen_ok, ne_eq, hne, not_false_eq_true, if_true]
  rfl

theorem tells_eqb (h : Sim V σ a w G) {neq : Bool} {q r : Opd} (hok : QO.ok P V.N (.eqb neq q r) o.op = true) (hv : qval σ (.eqb neq q r) = some x) : Tells P σ a w G o x := by
  obtain ⟨dst, op, ty, pos, aft, gd⟩ := o
  cases op <;> simp only [QO.ok, Bool.false_eq_true] at hok
  rename_i op t y z yt
  simp only [Bool.and_eq_true, decide_eq_true_eq, beq_iff_eq] at hok
  obtain ⟨⟨⟨hop, hd⟩, hq⟩, hr⟩ := hok
  obtain ⟨u, hu, hud⟩ := tdT_under hd
  have hub : u = .bool := by cases u <;> simp [tdOf] at hud; rfl
  subst hub
  simp only [qval] at hv
  split at hv
  · rename_i b1 b2 he1 he2
    injection hv with hv; subst hv
    have e1 := asB_RS he1 (h.get hq)
    have e2 := asB_RS he2 (h.get hr)
    have hE : (Op.equal t (.bool b1) (.bool b2)).run P w = .ok (b1 == b2) w := equal_of fun d => by simp [Op.equalIn, run_underlying hu]
    cases neq <;> simp only [Bool.false_eq_true, if_false, if_true] at hop <;> subst hop
    · refine ⟨.bool (b1 == b2), ?_, RS_mkBool _ _ _ _⟩
      have hB : binOp .eql t (.bool b1) (.bool b2) = (do pure (.bool (← Op.equal t (.bool b1) (.bool b2)))) := rfl
      simp [execOp, e1, e2, eqGuard, hB, hE]
    · refine ⟨.bool (b1 != b2), ?_, RS_mkBool _ _ _ _⟩
      have hB : binOp .neq t (.bool b1) (.bool b2) = (do pure (.bool (!(← Op.equal t (.bool b1) (.bool b2))))) := rfl
      simp [execOp, e1, e2, eqGuard, hB, hE, bne]
  · cases hv

theorem RX_nili {ep : Nat} {v : Value} (h : RX G ep w .nili v) : v = .nilIface := by simp [RX, RD] at h; exact h
theorem RX_ifc {ep : Nat} {t : TypeId} {c : Cell} {v : Value} (h : RX G ep w (.ifc t c) v) : ∃ u, v = .iface t u ∧ RD w G.S c u [] := by
  have h' : RD w G.S (.ifc t c) v [] := h
  simp only [RD] at h'
  exact h'.2

/-- Values of an interface type. -/
def Value.isI : Value → Bool
  | .nilIface | .iface .. => true
  | _ => false

theorem binOp_isI {t : TypeId} {x y : Value} (hx : Value.isI x = true) (hy : Value.isI y = true) : binOp .eql t x y = (do pure (.bool (← Op.equal t x y))) ∧ binOp .neq t x y = (do pure (.bool (!(← Op.equal t x y)))) := by
  cases x <;> simp [Value.isI] at hx <;> cases y <;> simp [Value.isI] at hy <;> exact ⟨rfl, rfl⟩

theorem tells_eqi (h : Sim V σ a w G) {neq lit : Bool} {et : TypeId} {q r : Opd} (hok : QO.ok P V.N (.eqi neq lit et q r) o.op = true) (hv : qval σ (.eqi neq lit et q r) = some x) : Tells P σ a w G o x := by
  obtain ⟨dst, op, ty, pos, aft, gd⟩ := o
  cases op <;> simp only [QO.ok, Bool.false_eq_true] at hok
  rename_i op t y z yt
  simp only [Bool.and_eq_true, decide_eq_true_eq, Bool.or_eq_true, Bool.not_eq_true'] at hok
  obtain ⟨⟨⟨⟨⟨hop, hd⟩, hlit⟩, het⟩, hq⟩, hr⟩ := hok
  have hgq := h.get hq
  have hgr := h.get hr
  obtain ⟨ms, hu⟩ : ∃ ms, P.underlying t = some (.interface ms) := by
    cases hd' : tdT P t with
    | none => rw [hd'] at hd; cases hd
    | some d =>
      rw [hd'] at hd
      obtain ⟨u, hu, hud⟩ := tdT_under hd'
      cases d <;> simp at hd
      cases u <;> simp [tdOf] at hud
      exact ⟨_, hu⟩
  simp only [qval] at hv
  split at hv
  · rename_i c d he1 he2
    rw [he1] at hgq
    rw [he2] at hgr
    have r1 := RS_c hgq
    have r2 := RS_c hgr
    cases hb : eqIface lit et c d with
    | none => rw [hb] at hv; cases hv
    | some b =>
      rw [hb] at hv
      simp only [Option.some.injEq] at hv
      subst hv
      -- the guard, and the equation
      have key : (eqGuard op t y z (a.eval y) (a.eval z)).run P w = .ok () w ∧ (Op.equal t (a.eval y) (a.eval z)).run P w = .ok b w ∧ Value.isI (a.eval y) = true ∧ Value.isI (a.eval z) = true := by
        unfold eqIface at hb
        split at hb
        · have e1 := RX_nili r1
          have e2 := RX_nili r2
          rw [e1, e2]
          split at hb
          · rename_i hl
            injection hb with hb; subst hb
            refine ⟨?_, equal_of fun d => by simp [Op.equalIn, run_underlying hu], rfl, rfl⟩
            unfold eqGuard
            rcases hlit with (hlit | hlit) | hlit
            · rw [hl] at hlit; cases hlit
            · cases y <;> simp [isK] at hlit
              split <;> simp
            · cases z <;> simp [isK] at hlit
              split <;> simp
          · cases hb
        · have e1 := RX_nili r1
          obtain ⟨u, e2, _⟩ := RX_ifc r2
          rw [e1, e2]
          injection hb with hb; subst hb
          refine ⟨?_, equal_of fun d => by simp [Op.equalIn, run_underlying hu], rfl, rfl⟩
          unfold eqGuard; split <;> simp
        · have e1 := RX_nili r2
          obtain ⟨u, e2, _⟩ := RX_ifc r1
          rw [e1, e2]
          injection hb with hb; subst hb
          refine ⟨?_, equal_of fun d => by simp [Op.equalIn, run_underlying hu], rfl, rfl⟩
          unfold eqGuard; split <;> simp
        · rename_i t1 c1 t2 c2
          obtain ⟨u1, e1, d1⟩ := RX_ifc r1
          obtain ⟨u2, e2, d2⟩ := RX_ifc r2
          rw [e1, e2]
          refine ⟨by unfold eqGuard; split <;> simp, ?_, rfl, rfl⟩
          split at hb
          · rename_i hne
            injection hb with hb; subst hb
            exact equal_of fun d => equalIn_iface_ne d hu hne
          · rename_i heq
            have heq : t1 = t2 := by simpa using heq
            subst heq
            split at hb
            · cases hb
            · rename_i het'
              have het' : t1 = et := by simpa using het'
              subst het'
              split at hb
              · rename_i k a1 k' b1
                split at hb
                · rename_i hk
                  subst hk
                  injection hb with hb; subst hb
                  simp only [RD] at d1 d2
                  obtain ⟨rfl, _⟩ := d1
                  obtain ⟨rfl, _⟩ := d2
                  split at het
                  · rename_i kk hue hce
                    obtain ⟨inf, hinf, hcomp⟩ := Option.map_eq_some_iff.1 hce
                    exact equal_of fun d => equalIn_iface_int d _ _ hu hue hinf hcomp
                  · cases het
                · cases hb
              · cases hb
        · cases hb
      obtain ⟨k1, k2, k3, k4⟩ := key
      obtain ⟨b1, b2⟩ := binOp_isI (t := t) k3 k4
      cases neq <;> simp only [Bool.false_eq_true, if_false, if_true] at hop <;> subst hop
      · exact ⟨.bool b, by simp [execOp, k1, b1, k2], RS_mkBool _ _ _ _⟩
      · exact ⟨.bool !b, by simp [execOp, k1, b2, k2], RS_mkBool _ _ _ _⟩
  · cases hv

theorem tells_conv (h : Sim V σ a w G) {k : IntKind} {q : Opd} (hok : QO.ok P V.N (.conv k q) o.op = true) (hv : qval σ (.conv k q) = some x) : Tells P σ a w G o x := by
  obtain ⟨dst, op, ty, pos, aft, gd⟩ := o
  cases op <;> simp only [QO.ok, Bool.false_eq_true] at hok
  simp only [Bool.and_eq_true, beq_iff_eq] at hok
  obtain ⟨⟨hs, hd⟩, hq⟩ := hok
  have hg := h.get hq
  obtain ⟨u, hu, hud⟩ := tdT_under hd
  have hub : u = .int k := by cases u <;> simp [tdOf] at hud; subst hud; rfl
  subst hub
  obtain ⟨i, hi⟩ := Option.isSome_iff_exists.1 hs
  obtain ⟨_, us, _, hus, _⟩ := tiOf_info hi
  simp only [qval] at hv
  split at hv
  · rename_i k' n he
    injection hv with hv; subst hv
    rw [he] at hg
    have e := RS_int hg
    exact ⟨.int k (k.wrap n), by simp [execOp, e, convert, run_underlying hus, run_underlying hu, Conv.intToInt], RS_mkInt _ _ _ _ _⟩
  · cases hv

theorem tells_mkI (h : Sim V σ a w G) {t : TypeId} {q : Opd} (hok : QO.ok P V.N (.mkI t q) o.op = true) (hv : qval σ (.mkI t q) = some x) : Tells P σ a w G o x := by
  obtain ⟨dst, op, ty, pos, aft, gd⟩ := o
  cases op <;> simp only [QO.ok, Bool.false_eq_true] at hok
  simp only [Bool.and_eq_true, decide_eq_true_eq] at hok
  obtain ⟨⟨rfl, hd⟩, hq⟩ := hok
  have hg := h.get hq
  obtain ⟨u, hu, hn⟩ : ∃ u, P.underlying t = some u ∧ ∀ ms, u ≠ .interface ms := by
    cases hd' : tdT P t with
    | none => rw [hd'] at hd; cases hd
    | some d =>
      rw [hd'] at hd
      obtain ⟨u, hu, hud⟩ := tdT_under hd'
      refine ⟨u, hu, fun ms e => ?_⟩
      subst e
      simp only [tdOf] at hud
      subst hud
      simp at hd
  have run : ∀ v, (Instr.makeInterface t v).run P w = .ok (.iface t v) w := fun v => by
    simp only [Instr.makeInterface, Sem.run_bind, run_underlying hu, Result.andThen_ok]
    cases u <;> first | rfl | exact absurd rfl (hn _)
  simp only [qval] at hv
  split at hv
  · rename_i k n he
    injection hv with hv; subst hv
    rw [he] at hg
    have e := RS_int hg
    refine ⟨.iface t (.int k n), by simp [execOp, e, run], .c ?_⟩
    show RD w G.S (.ifc t (.int k n)) _ []
    simp [RD]
  · rename_i y _ cs j he
    injection hv with hv; subst hv
    rw [he] at hg
    refine ⟨.iface t (a.eval y), by simp [execOp, run], .c ?_⟩
    show RD w G.S (.ifc t (.ar cs j)) _ []
    have hx : RD w G.S (.ar cs j) _ [] := RS_c hg
    rw [RD]
    exact ⟨rfl, _, rfl, hx⟩
  · cases hv

end
end Go.Fw

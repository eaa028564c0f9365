/- PRINTED by sh.py: plain functions, and that the machine comes to what they tell -/
import Derived.Test.YtmdddmjmppckhaaFwKI
namespace Go.Fw.K
open Go.Fw
set_option maxRecDepth 4000
set_option maxHeartbeats 4000000
set_option linter.unusedVariables false
set_option linter.unusedSimpArgs false
def XX : Orc := fun f => if f = F.slices_Sort_int_int then sortX else if f = F.slices_Compact_int_int then compactX else if f = F.slices_Clone_int_int then cloneX 1 8 else if f = F.slices_SortFunc_int_int then sortFX F.calls_byFirst else fun _ _ _ _ => none
theorem XXup : XUp XX := by
  intro f
  show Up1 (XX f)
  unfold XX
  split
  · exact sort_up
  split
  · exact compact_up
  split
  · exact clone_up
  split
  · exact sortF_up
  exact none_up
def arith_Args_rv (r : Int × Bool) : List RV := [(false, [.int .i64 r.1]), (false, [.bool r.2])]
noncomputable def arith_Args_f (a0 : Int) : Option (Int × Bool) :=
  if ((decide (a0 = 2)) || (decide (a0 = 14))) = true then
    some (1, true)
  else
    if ((decide (a0 ≥ 3)) && (decide (a0 ≤ 13))) = true then
      some (2, true)
    else
      some (0, false)
theorem arith_Args_w {a0 : Int} {r : Int × Bool} (h : arith_Args_f a0 = some r) : Pure tab XX F.arith_Args [.c (.int .i64 a0)] (arith_Args_rv r) := by
  refine Pure.mk (fi := arith_Args.fi) rfl rfl rfl fun σ hs => ?_
  unfold arith_Args_f at h
  refine Wp.seq ?_
  refine Wp.reg ?_
  have hs := hs.tick
  iterate 2 refine RWp.cons (hs.q (fun _ _ _ => rfl) fun _ hs => ?_)
  refine RWp.nil ?_
  refine Wp.seq ?_
  refine Wp.block ?_
  refine Wp.seq ?_
  refine Wp.reg ?_
  have hs := hs.tick
  refine RWp.cons (hs.q (fun _ _ _ => rfl) fun _ hs => ?_)
  refine RWp.cons (hs.q (x := .c (.bool (decide (a0 = 2)))) (fun _ _ _ => rfl) fun _ hs => ?_)
  refine RWp.cons (hs.q (fun _ _ _ => rfl) fun _ hs => ?_)
  refine RWp.segD hs 3 [(0, .c (.int .i64 a0)), (10, .c (.bool ((decide (a0 = 2)) || (decide (a0 = 14)))))] [] ?_ fun _ _ hs => ?_
  · by_cases hc1 : a0 = 2
    · have hs := hs.kn 7 (c := true) (fun _ => rfl) (show (decide (a0 = 2)) = true from decide_eq_true hc1)
      refine hs.gf (fun _ => rfl) (by decide) fun _ hs => ?_
      refine hs.gf (fun _ => rfl) (by decide) fun _ hs => ?_
      refine RWp.cons (hs.q (fun _ _ _ => rfl) fun _ hs => ?_)
      exact RWp.nil ((hs.as 10 (x := .c (.bool true)) (y := .c (.bool ((decide (a0 = 2)) || (decide (a0 = 14))))) (fun _ => rfl) (by rw [(show (decide (a0 = 2)) = true from decide_eq_true hc1)]; rfl)).leave (fun _ => rfl) [] rfl (by decide) (by decide))
    · have hs := hs.kn 7 (c := false) (fun _ => rfl) (show (decide (a0 = 2)) = false from decide_eq_false hc1)
      refine hs.gt (fun _ => rfl) ?_
      refine hs.q (fun _ _ _ => rfl) fun _ hs => ?_
      refine hs.gt (fun _ => rfl) ?_
      refine hs.q (x := .c (.bool (decide (a0 = 14)))) (fun _ _ _ => rfl) fun _ hs => ?_
      refine RWp.cons (hs.q (fun _ _ _ => rfl) fun _ hs => ?_)
      exact RWp.nil ((hs.as 10 (x := .c (.bool (decide (a0 = 14)))) (y := .c (.bool ((decide (a0 = 2)) || (decide (a0 = 14))))) (fun _ => rfl) (by rw [(show (decide (a0 = 2)) = false from decide_eq_false hc1)]; rfl)).leave (fun _ => rfl) [] rfl (by decide) (by decide))
  · refine RWp.cons (hs.q (fun _ _ _ => rfl) fun _ hs => ?_)
    refine RWp.nil ?_
    by_cases hc2 : ((decide (a0 = 2)) || (decide (a0 = 14))) = true
    · rw [if_pos hc2] at h
      refine Wp.condT hs (fun _ _ _ => rfl) (show ((decide (a0 = 2)) || (decide (a0 = 14))) = true from hc2) ?_
      refine Wp.seq ?_
      refine Wp.reg ?_
      have hs := hs.tick
      iterate 2 refine RWp.cons (hs.q (fun _ _ _ => rfl) fun _ hs => ?_)
      refine RWp.nil ?_
      refine Wp.ret ?_
      have h := Option.some.inj h
      subst h
      have hr : Rt arith_Args.fi.res (arith_Args_rv (1, true)) Ex.ret _ := hs.rt (.inr rfl) fun _ _ _ => rfl
      exact hr
    · rw [if_neg hc2] at h
      refine Wp.condF hs (fun _ _ _ => rfl) (show ((decide (a0 = 2)) || (decide (a0 = 14))) = false from Bool.eq_false_iff.2 hc2) ?_
      refine Wp.seq ?_
      refine Wp.reg ?_
      have hs := hs.tick
      refine RWp.cons (hs.q (fun _ _ _ => rfl) fun _ hs => ?_)
      refine RWp.cons (hs.q (x := .c (.bool (decide (a0 ≥ 3)))) (fun _ _ _ => rfl) fun _ hs => ?_)
      refine RWp.cons (hs.q (fun _ _ _ => rfl) fun _ hs => ?_)
      refine RWp.segD hs 3 [(17, .c (.bool ((decide (a0 ≥ 3)) && (decide (a0 ≤ 13)))))] [] ?_ fun _ _ hs => ?_
      · by_cases hc3 : a0 ≥ 3
        · have hs := hs.kn 14 (c := true) (fun _ => rfl) (show (decide (a0 ≥ 3)) = true from decide_eq_true hc3)
          refine hs.gt (fun _ => rfl) ?_
          refine hs.q (fun _ _ _ => rfl) fun _ hs => ?_
          refine hs.gt (fun _ => rfl) ?_
          refine hs.q (x := .c (.bool (decide (a0 ≤ 13)))) (fun _ _ _ => rfl) fun _ hs => ?_
          refine RWp.cons (hs.q (fun _ _ _ => rfl) fun _ hs => ?_)
          exact RWp.nil ((hs.as 17 (x := .c (.bool (decide (a0 ≤ 13)))) (y := .c (.bool ((decide (a0 ≥ 3)) && (decide (a0 ≤ 13))))) (fun _ => rfl) (by rw [(show (decide (a0 ≥ 3)) = true from decide_eq_true hc3)]; rfl)).leave (fun _ => rfl) [] rfl (by decide) (by decide))
        · have hs := hs.kn 14 (c := false) (fun _ => rfl) (show (decide (a0 ≥ 3)) = false from decide_eq_false hc3)
          refine hs.gf (fun _ => rfl) (by decide) fun _ hs => ?_
          refine hs.gf (fun _ => rfl) (by decide) fun _ hs => ?_
          refine RWp.cons (hs.q (fun _ _ _ => rfl) fun _ hs => ?_)
          exact RWp.nil ((hs.as 17 (x := .c (.bool false)) (y := .c (.bool ((decide (a0 ≥ 3)) && (decide (a0 ≤ 13))))) (fun _ => rfl) (by rw [(show (decide (a0 ≥ 3)) = false from decide_eq_false hc3)]; rfl)).leave (fun _ => rfl) [] rfl (by decide) (by decide))
      · refine RWp.cons (hs.q (fun _ _ _ => rfl) fun _ hs => ?_)
        refine RWp.nil ?_
        by_cases hc4 : ((decide (a0 ≥ 3)) && (decide (a0 ≤ 13))) = true
        · rw [if_pos hc4] at h
          refine Wp.condT hs (fun _ _ _ => rfl) (show ((decide (a0 ≥ 3)) && (decide (a0 ≤ 13))) = true from hc4) ?_
          refine Wp.seq ?_
          refine Wp.reg ?_
          have hs := hs.tick
          iterate 2 refine RWp.cons (hs.q (fun _ _ _ => rfl) fun _ hs => ?_)
          refine RWp.nil ?_
          refine Wp.ret ?_
          have h := Option.some.inj h
          subst h
          have hr : Rt arith_Args.fi.res (arith_Args_rv (2, true)) Ex.ret _ := hs.rt (.inr rfl) fun _ _ _ => rfl
          exact hr
        · rw [if_neg hc4] at h
          refine Wp.condF hs (fun _ _ _ => rfl) (show ((decide (a0 ≥ 3)) && (decide (a0 ≤ 13))) = false from Bool.eq_false_iff.2 hc4) ?_
          refine Wp.skip ?_
          refine Wp.seq ?_
          refine Wp.reg ?_
          have hs := hs.tick
          iterate 2 refine RWp.cons (hs.q (fun _ _ _ => rfl) fun _ hs => ?_)
          refine RWp.nil ?_
          refine Wp.ret ?_
          have h := Option.some.inj h
          subst h
          have hr : Rt arith_Args.fi.res (arith_Args_rv (0, false)) Ex.ret _ := hs.rt (.inr rfl) fun _ _ _ => rfl
          exact hr
def arith_Traps_rv (r : Bool) : List RV := [(false, [.bool r])]
noncomputable def arith_Traps_f (a0 : Int) : Option Bool :=
  some (decide (a0 = 11))
theorem arith_Traps_w {a0 : Int} {r : Bool} (h : arith_Traps_f a0 = some r) : Pure tab XX F.arith_Traps [.c (.int .i64 a0)] (arith_Traps_rv r) := by
  refine Pure.mk (fi := arith_Traps.fi) rfl rfl rfl fun σ hs => ?_
  unfold arith_Traps_f at h
  refine Wp.seq ?_
  refine Wp.reg ?_
  have hs := hs.tick
  refine RWp.cons (hs.q (fun _ _ _ => rfl) fun _ hs => ?_)
  refine RWp.nil ?_
  refine Wp.seq ?_
  refine Wp.reg ?_
  have hs := hs.tick
  refine RWp.cons (hs.q (fun _ _ _ => rfl) fun _ hs => ?_)
  refine RWp.cons (hs.q (x := .c (.bool (decide (a0 = 11)))) (fun _ _ _ => rfl) fun _ hs => ?_)
  refine RWp.cons (hs.q (fun _ _ _ => rfl) fun _ hs => ?_)
  refine RWp.nil ?_
  refine Wp.ret ?_
  have h := Option.some.inj h
  subst h
  have hr : Rt arith_Traps.fi.res (arith_Traps_rv (decide (a0 = 11))) Ex.ret _ := hs.rt (.inr rfl) fun _ _ _ => rfl
  exact hr
def effect_Quiet_rv (r : Bool) : List RV := [(false, [.bool r])]
noncomputable def effect_Quiet_f (a0 : Effect) : Option Bool :=
  some ((((!a0.Writes) && (!a0.Outs)) && (!a0.Traps)) && (!a0.Turns))
theorem effect_Quiet_w {a0 : Effect} {r : Bool} (h : effect_Quiet_f a0 = some r) : Pure tab XX F.effect_Quiet [.a (eEffect a0)] (effect_Quiet_rv r) := by
  refine Pure.mk (fi := effect_Quiet.fi) rfl rfl rfl fun σ hs => ?_
  unfold effect_Quiet_f at h
  refine Wp.seq ?_
  refine Wp.reg ?_
  have hs := hs.tick
  refine RWp.cons (hs.boxr (cs := eEffect a0) (ds := eEffect a0) (fun _ _ _ => rfl) rfl rfl fun _ hs => ?_)
  refine RWp.cons (hs.q (fun _ _ _ => rfl) fun _ hs => ?_)
  refine RWp.nil ?_
  refine Wp.seq ?_
  refine Wp.reg ?_
  have hs := hs.tick
  iterate 2 refine RWp.cons (hs.q (fun _ _ _ => rfl) fun _ hs => ?_)
  refine RWp.cons (hs.q (x := .c (.bool (!a0.Writes))) (fun _ _ _ => rfl) fun _ hs => ?_)
  refine RWp.cons (hs.q (fun _ _ _ => rfl) fun _ hs => ?_)
  refine RWp.segD hs 4 [(1, .c (.ar (eEffect a0) 0)), (2, .c (.bool false)), (10, .c (.bool ((!a0.Writes) && (!a0.Outs))))] [] ?_ fun _ _ hs => ?_
  · by_cases hc2 : a0.Writes = true
    · have hs := hs.kn 6 (c := false) (fun _ => rfl) (show (!a0.Writes) = false by rw [(show a0.Writes = true from hc2)]; rfl)
      refine hs.gf (fun _ => rfl) (by decide) fun _ hs => ?_
      refine hs.gf (fun _ => rfl) (by decide) fun _ hs => ?_
      refine hs.gf (fun _ => rfl) (by decide) fun _ hs => ?_
      refine RWp.cons (hs.q (fun _ _ _ => rfl) fun _ hs => ?_)
      exact RWp.nil ((hs.as 10 (x := .c (.bool false)) (y := .c (.bool ((!a0.Writes) && (!a0.Outs)))) (fun _ => rfl) (by rw [(show (!a0.Writes) = false by rw [(show a0.Writes = true from hc2)]; rfl)]; rfl)).leave (fun _ => rfl) [] rfl (by decide) (by decide))
    · have hs := hs.kn 6 (c := true) (fun _ => rfl) (show (!a0.Writes) = true by rw [(show a0.Writes = false from Bool.eq_false_iff.2 hc2)]; rfl)
      refine hs.gt (fun _ => rfl) ?_
      refine hs.q (fun _ _ _ => rfl) fun _ hs => ?_
      refine hs.gt (fun _ => rfl) ?_
      refine hs.q (fun _ _ _ => rfl) fun _ hs => ?_
      refine hs.gt (fun _ => rfl) ?_
      refine hs.q (x := .c (.bool (!a0.Outs))) (fun _ _ _ => rfl) fun _ hs => ?_
      refine RWp.cons (hs.q (fun _ _ _ => rfl) fun _ hs => ?_)
      exact RWp.nil ((hs.as 10 (x := .c (.bool (!a0.Outs))) (y := .c (.bool ((!a0.Writes) && (!a0.Outs)))) (fun _ => rfl) (by rw [(show (!a0.Writes) = true by rw [(show a0.Writes = false from Bool.eq_false_iff.2 hc2)]; rfl)]; rfl)).leave (fun _ => rfl) [] rfl (by decide) (by decide))
  · refine RWp.cons (hs.q (fun _ _ _ => rfl) fun _ hs => ?_)
    refine RWp.segD hs 4 [(1, .c (.ar (eEffect a0) 0)), (2, .c (.bool false)), (15, .c (.bool (((!a0.Writes) && (!a0.Outs)) && (!a0.Traps))))] [] ?_ fun _ _ hs => ?_
    · by_cases hc3 : ((!a0.Writes) && (!a0.Outs)) = true
      · have hs := hs.kn 11 (c := true) (fun _ => rfl) (show ((!a0.Writes) && (!a0.Outs)) = true from hc3)
        refine hs.gt (fun _ => rfl) ?_
        refine hs.q (fun _ _ _ => rfl) fun _ hs => ?_
        refine hs.gt (fun _ => rfl) ?_
        refine hs.q (fun _ _ _ => rfl) fun _ hs => ?_
        refine hs.gt (fun _ => rfl) ?_
        refine hs.q (x := .c (.bool (!a0.Traps))) (fun _ _ _ => rfl) fun _ hs => ?_
        refine RWp.cons (hs.q (fun _ _ _ => rfl) fun _ hs => ?_)
        exact RWp.nil ((hs.as 15 (x := .c (.bool (!a0.Traps))) (y := .c (.bool (((!a0.Writes) && (!a0.Outs)) && (!a0.Traps)))) (fun _ => rfl) (by rw [(show ((!a0.Writes) && (!a0.Outs)) = true from hc3)]; rfl)).leave (fun _ => rfl) [] rfl (by decide) (by decide))
      · have hs := hs.kn 11 (c := false) (fun _ => rfl) (show ((!a0.Writes) && (!a0.Outs)) = false from Bool.eq_false_iff.2 hc3)
        refine hs.gf (fun _ => rfl) (by decide) fun _ hs => ?_
        refine hs.gf (fun _ => rfl) (by decide) fun _ hs => ?_
        refine hs.gf (fun _ => rfl) (by decide) fun _ hs => ?_
        refine RWp.cons (hs.q (fun _ _ _ => rfl) fun _ hs => ?_)
        exact RWp.nil ((hs.as 15 (x := .c (.bool false)) (y := .c (.bool (((!a0.Writes) && (!a0.Outs)) && (!a0.Traps)))) (fun _ => rfl) (by rw [(show ((!a0.Writes) && (!a0.Outs)) = false from Bool.eq_false_iff.2 hc3)]; rfl)).leave (fun _ => rfl) [] rfl (by decide) (by decide))
    · refine RWp.cons (hs.q (fun _ _ _ => rfl) fun _ hs => ?_)
      refine RWp.segD hs 4 [(2, .c (.bool false)), (20, .c (.bool ((((!a0.Writes) && (!a0.Outs)) && (!a0.Traps)) && (!a0.Turns))))] [] ?_ fun _ _ hs => ?_
      · by_cases hc4 : (((!a0.Writes) && (!a0.Outs)) && (!a0.Traps)) = true
        · have hs := hs.kn 16 (c := true) (fun _ => rfl) (show (((!a0.Writes) && (!a0.Outs)) && (!a0.Traps)) = true from hc4)
          refine hs.gt (fun _ => rfl) ?_
          refine hs.q (fun _ _ _ => rfl) fun _ hs => ?_
          refine hs.gt (fun _ => rfl) ?_
          refine hs.q (fun _ _ _ => rfl) fun _ hs => ?_
          refine hs.gt (fun _ => rfl) ?_
          refine hs.q (x := .c (.bool (!a0.Turns))) (fun _ _ _ => rfl) fun _ hs => ?_
          refine RWp.cons (hs.q (fun _ _ _ => rfl) fun _ hs => ?_)
          exact RWp.nil ((hs.as 20 (x := .c (.bool (!a0.Turns))) (y := .c (.bool ((((!a0.Writes) && (!a0.Outs)) && (!a0.Traps)) && (!a0.Turns)))) (fun _ => rfl) (by rw [(show (((!a0.Writes) && (!a0.Outs)) && (!a0.Traps)) = true from hc4)]; rfl)).leave (fun _ => rfl) [] rfl (by decide) (by decide))
        · have hs := hs.kn 16 (c := false) (fun _ => rfl) (show (((!a0.Writes) && (!a0.Outs)) && (!a0.Traps)) = false from Bool.eq_false_iff.2 hc4)
          refine hs.gf (fun _ => rfl) (by decide) fun _ hs => ?_
          refine hs.gf (fun _ => rfl) (by decide) fun _ hs => ?_
          refine hs.gf (fun _ => rfl) (by decide) fun _ hs => ?_
          refine RWp.cons (hs.q (fun _ _ _ => rfl) fun _ hs => ?_)
          exact RWp.nil ((hs.as 20 (x := .c (.bool false)) (y := .c (.bool ((((!a0.Writes) && (!a0.Outs)) && (!a0.Traps)) && (!a0.Turns)))) (fun _ => rfl) (by rw [(show (((!a0.Writes) && (!a0.Outs)) && (!a0.Traps)) = false from Bool.eq_false_iff.2 hc4)]; rfl)).leave (fun _ => rfl) [] rfl (by decide) (by decide))
      · refine RWp.cons (hs.q (fun _ _ _ => rfl) fun _ hs => ?_)
        refine RWp.nil ?_
        refine Wp.ret ?_
        have h := Option.some.inj h
        subst h
        have hr : Rt effect_Quiet.fi.res (effect_Quiet_rv ((((!a0.Writes) && (!a0.Outs)) && (!a0.Traps)) && (!a0.Turns))) Ex.ret _ := hs.rt (.inr rfl) fun _ _ _ => rfl
        exact hr
def effect_Still_rv (r : Bool) : List RV := [(false, [.bool r])]
noncomputable def effect_Still_f (a0 : Effect) : Option Bool :=
  (effect_Quiet_f a0).bind fun r2 =>
  some (r2 && (!a0.Reads))
theorem effect_Still_w {a0 : Effect} {r : Bool} (h : effect_Still_f a0 = some r) : Pure tab XX F.effect_Still [.a (eEffect a0)] (effect_Still_rv r) := by
  refine Pure.mk (fi := effect_Still.fi) rfl rfl rfl fun σ hs => ?_
  unfold effect_Still_f at h
  refine Wp.seq ?_
  refine Wp.reg ?_
  have hs := hs.tick
  refine RWp.cons (hs.boxr (cs := eEffect a0) (ds := eEffect a0) (fun _ _ _ => rfl) rfl rfl fun _ hs => ?_)
  refine RWp.cons (hs.q (fun _ _ _ => rfl) fun _ hs => ?_)
  refine RWp.nil ?_
  refine Wp.seq ?_
  refine Wp.reg ?_
  have hs := hs.tick
  refine RWp.cons (hs.q (fun _ _ _ => rfl) fun _ hs => ?_)
  obtain ⟨r2, h3, h⟩ := bind_some h
  refine RWp.cons (hs.call (x := .c (.bool r2)) (effect_Quiet_w h3) (fun _ _ _ => rfl) (fun _ => rfl) fun _ hs => ?_)
  refine RWp.cons (hs.q (fun _ _ _ => rfl) fun _ hs => ?_)
  refine RWp.segD hs 4 [(2, .c (.bool false)), (9, .c (.bool (r2 && (!a0.Reads))))] [] ?_ fun _ _ hs => ?_
  · by_cases hc4 : r2 = true
    · have hs := hs.kn 5 (c := true) (fun _ => rfl) (show r2 = true from hc4)
      refine hs.gt (fun _ => rfl) ?_
      refine hs.q (fun _ _ _ => rfl) fun _ hs => ?_
      refine hs.gt (fun _ => rfl) ?_
      refine hs.q (fun _ _ _ => rfl) fun _ hs => ?_
      refine hs.gt (fun _ => rfl) ?_
      refine hs.q (x := .c (.bool (!a0.Reads))) (fun _ _ _ => rfl) fun _ hs => ?_
      refine RWp.cons (hs.q (fun _ _ _ => rfl) fun _ hs => ?_)
      exact RWp.nil ((hs.as 9 (x := .c (.bool (!a0.Reads))) (y := .c (.bool (r2 && (!a0.Reads)))) (fun _ => rfl) (by rw [(show r2 = true from hc4)]; rfl)).leave (fun _ => rfl) [] rfl (by decide) (by decide))
    · have hs := hs.kn 5 (c := false) (fun _ => rfl) (show r2 = false from Bool.eq_false_iff.2 hc4)
      refine hs.gf (fun _ => rfl) (by decide) fun _ hs => ?_
      refine hs.gf (fun _ => rfl) (by decide) fun _ hs => ?_
      refine hs.gf (fun _ => rfl) (by decide) fun _ hs => ?_
      refine RWp.cons (hs.q (fun _ _ _ => rfl) fun _ hs => ?_)
      exact RWp.nil ((hs.as 9 (x := .c (.bool false)) (y := .c (.bool (r2 && (!a0.Reads)))) (fun _ => rfl) (by rw [(show r2 = false from Bool.eq_false_iff.2 hc4)]; rfl)).leave (fun _ => rfl) [] rfl (by decide) (by decide))
  · refine RWp.cons (hs.q (fun _ _ _ => rfl) fun _ hs => ?_)
    refine RWp.nil ?_
    refine Wp.ret ?_
    have h := Option.some.inj h
    subst h
    have hr : Rt effect_Still.fi.res (effect_Still_rv (r2 && (!a0.Reads))) Ex.ret _ := hs.rt (.inr rfl) fun _ _ _ => rfl
    exact hr
def law15_up_rv (r : Bool) : List RV := [(false, [.bool r])]
def law15_up_f : Option Bool := some true
theorem law15_up_run : pureOf (orc tab XX 64) F.law15_up [] = some [(false, [.bool true])] := by kernel_rfl
theorem law15_up_w {r : Bool} (h : law15_up_f = some r) : Pure tab XX F.law15_up [] (law15_up_rv r) := by
  have h := Option.some.inj h
  subst h
  exact ⟨64, law15_up_run⟩
def ref15_Quiet_rv (r : Bool) : List RV := [(false, [.bool r])]
noncomputable def ref15_Quiet_f (a0 : Effect) : Option Bool :=
  some (!(((a0.Writes || a0.Outs) || a0.Traps) || a0.Turns))
theorem ref15_Quiet_w {a0 : Effect} {r : Bool} (h : ref15_Quiet_f a0 = some r) : Pure tab XX F.ref15_Quiet [.a (eEffect a0)] (ref15_Quiet_rv r) := by
  refine Pure.mk (fi := ref15_Quiet.fi) rfl rfl rfl fun σ hs => ?_
  unfold ref15_Quiet_f at h
  refine Wp.seq ?_
  refine Wp.reg ?_
  have hs := hs.tick
  refine RWp.cons (hs.boxr (cs := eEffect a0) (ds := eEffect a0) (fun _ _ _ => rfl) rfl rfl fun _ hs => ?_)
  refine RWp.cons (hs.q (fun _ _ _ => rfl) fun _ hs => ?_)
  refine RWp.nil ?_
  refine Wp.seq ?_
  refine Wp.reg ?_
  have hs := hs.tick
  iterate 3 refine RWp.cons (hs.q (fun _ _ _ => rfl) fun _ hs => ?_)
  refine RWp.segD hs 3 [(1, .c (.ar (eEffect a0) 0)), (2, .c (.bool false)), (8, .c (.bool (a0.Writes || a0.Outs)))] [] ?_ fun _ _ hs => ?_
  · by_cases hc2 : a0.Writes = true
    · have hs := hs.kn 5 (c := true) (fun _ => rfl) (show a0.Writes = true from hc2)
      refine hs.gf (fun _ => rfl) (by decide) fun _ hs => ?_
      refine hs.gf (fun _ => rfl) (by decide) fun _ hs => ?_
      refine RWp.cons (hs.q (fun _ _ _ => rfl) fun _ hs => ?_)
      exact RWp.nil ((hs.as 8 (x := .c (.bool true)) (y := .c (.bool (a0.Writes || a0.Outs))) (fun _ => rfl) (by rw [(show a0.Writes = true from hc2)]; rfl)).leave (fun _ => rfl) [] rfl (by decide) (by decide))
    · have hs := hs.kn 5 (c := false) (fun _ => rfl) (show a0.Writes = false from Bool.eq_false_iff.2 hc2)
      refine hs.gt (fun _ => rfl) ?_
      refine hs.q (fun _ _ _ => rfl) fun _ hs => ?_
      refine hs.gt (fun _ => rfl) ?_
      refine hs.q (fun _ _ _ => rfl) fun _ hs => ?_
      refine RWp.cons (hs.q (fun _ _ _ => rfl) fun _ hs => ?_)
      exact RWp.nil ((hs.as 8 (x := .c (.bool a0.Outs)) (y := .c (.bool (a0.Writes || a0.Outs))) (fun _ => rfl) (by rw [(show a0.Writes = false from Bool.eq_false_iff.2 hc2)]; rfl)).leave (fun _ => rfl) [] rfl (by decide) (by decide))
  · refine RWp.cons (hs.q (fun _ _ _ => rfl) fun _ hs => ?_)
    refine RWp.segD hs 3 [(1, .c (.ar (eEffect a0) 0)), (2, .c (.bool false)), (12, .c (.bool ((a0.Writes || a0.Outs) || a0.Traps)))] [] ?_ fun _ _ hs => ?_
    · by_cases hc3 : (a0.Writes || a0.Outs) = true
      · have hs := hs.kn 9 (c := true) (fun _ => rfl) (show (a0.Writes || a0.Outs) = true from hc3)
        refine hs.gf (fun _ => rfl) (by decide) fun _ hs => ?_
        refine hs.gf (fun _ => rfl) (by decide) fun _ hs => ?_
        refine RWp.cons (hs.q (fun _ _ _ => rfl) fun _ hs => ?_)
        exact RWp.nil ((hs.as 12 (x := .c (.bool true)) (y := .c (.bool ((a0.Writes || a0.Outs) || a0.Traps))) (fun _ => rfl) (by rw [(show (a0.Writes || a0.Outs) = true from hc3)]; rfl)).leave (fun _ => rfl) [] rfl (by decide) (by decide))
      · have hs := hs.kn 9 (c := false) (fun _ => rfl) (show (a0.Writes || a0.Outs) = false from Bool.eq_false_iff.2 hc3)
        refine hs.gt (fun _ => rfl) ?_
        refine hs.q (fun _ _ _ => rfl) fun _ hs => ?_
        refine hs.gt (fun _ => rfl) ?_
        refine hs.q (fun _ _ _ => rfl) fun _ hs => ?_
        refine RWp.cons (hs.q (fun _ _ _ => rfl) fun _ hs => ?_)
        exact RWp.nil ((hs.as 12 (x := .c (.bool a0.Traps)) (y := .c (.bool ((a0.Writes || a0.Outs) || a0.Traps))) (fun _ => rfl) (by rw [(show (a0.Writes || a0.Outs) = false from Bool.eq_false_iff.2 hc3)]; rfl)).leave (fun _ => rfl) [] rfl (by decide) (by decide))
    · refine RWp.cons (hs.q (fun _ _ _ => rfl) fun _ hs => ?_)
      refine RWp.segD hs 3 [(2, .c (.bool false)), (16, .c (.bool (((a0.Writes || a0.Outs) || a0.Traps) || a0.Turns)))] [] ?_ fun _ _ hs => ?_
      · by_cases hc4 : ((a0.Writes || a0.Outs) || a0.Traps) = true
        · have hs := hs.kn 13 (c := true) (fun _ => rfl) (show ((a0.Writes || a0.Outs) || a0.Traps) = true from hc4)
          refine hs.gf (fun _ => rfl) (by decide) fun _ hs => ?_
          refine hs.gf (fun _ => rfl) (by decide) fun _ hs => ?_
          refine RWp.cons (hs.q (fun _ _ _ => rfl) fun _ hs => ?_)
          exact RWp.nil ((hs.as 16 (x := .c (.bool true)) (y := .c (.bool (((a0.Writes || a0.Outs) || a0.Traps) || a0.Turns))) (fun _ => rfl) (by rw [(show ((a0.Writes || a0.Outs) || a0.Traps) = true from hc4)]; rfl)).leave (fun _ => rfl) [] rfl (by decide) (by decide))
        · have hs := hs.kn 13 (c := false) (fun _ => rfl) (show ((a0.Writes || a0.Outs) || a0.Traps) = false from Bool.eq_false_iff.2 hc4)
          refine hs.gt (fun _ => rfl) ?_
          refine hs.q (fun _ _ _ => rfl) fun _ hs => ?_
          refine hs.gt (fun _ => rfl) ?_
          refine hs.q (fun _ _ _ => rfl) fun _ hs => ?_
          refine RWp.cons (hs.q (fun _ _ _ => rfl) fun _ hs => ?_)
          exact RWp.nil ((hs.as 16 (x := .c (.bool a0.Turns)) (y := .c (.bool (((a0.Writes || a0.Outs) || a0.Traps) || a0.Turns))) (fun _ => rfl) (by rw [(show ((a0.Writes || a0.Outs) || a0.Traps) = false from Bool.eq_false_iff.2 hc4)]; rfl)).leave (fun _ => rfl) [] rfl (by decide) (by decide))
      · refine RWp.cons (hs.q (x := .c (.bool (!(((a0.Writes || a0.Outs) || a0.Traps) || a0.Turns)))) (fun _ _ _ => rfl) fun _ hs => ?_)
        refine RWp.cons (hs.q (fun _ _ _ => rfl) fun _ hs => ?_)
        refine RWp.nil ?_
        refine Wp.ret ?_
        have h := Option.some.inj h
        subst h
        have hr : Rt ref15_Quiet.fi.res (ref15_Quiet_rv (!(((a0.Writes || a0.Outs) || a0.Traps) || a0.Turns))) Ex.ret _ := hs.rt (.inr rfl) fun _ _ _ => rfl
        exact hr
def ref15_Still_rv (r : Bool) : List RV := [(false, [.bool r])]
noncomputable def ref15_Still_f (a0 : Effect) : Option Bool :=
  (ref15_Quiet_f a0).bind fun r2 =>
  some (r2 && (!a0.Reads))
theorem ref15_Still_w {a0 : Effect} {r : Bool} (h : ref15_Still_f a0 = some r) : Pure tab XX F.ref15_Still [.a (eEffect a0)] (ref15_Still_rv r) := by
  refine Pure.mk (fi := ref15_Still.fi) rfl rfl rfl fun σ hs => ?_
  unfold ref15_Still_f at h
  refine Wp.seq ?_
  refine Wp.reg ?_
  have hs := hs.tick
  refine RWp.cons (hs.boxr (cs := eEffect a0) (ds := eEffect a0) (fun _ _ _ => rfl) rfl rfl fun _ hs => ?_)
  refine RWp.cons (hs.q (fun _ _ _ => rfl) fun _ hs => ?_)
  refine RWp.nil ?_
  refine Wp.seq ?_
  refine Wp.reg ?_
  have hs := hs.tick
  refine RWp.cons (hs.q (fun _ _ _ => rfl) fun _ hs => ?_)
  obtain ⟨r2, h3, h⟩ := bind_some h
  refine RWp.cons (hs.call (x := .c (.bool r2)) (ref15_Quiet_w h3) (fun _ _ _ => rfl) (fun _ => rfl) fun _ hs => ?_)
  refine RWp.cons (hs.q (fun _ _ _ => rfl) fun _ hs => ?_)
  refine RWp.segD hs 4 [(2, .c (.bool false)), (9, .c (.bool (r2 && (!a0.Reads))))] [] ?_ fun _ _ hs => ?_
  · by_cases hc4 : r2 = true
    · have hs := hs.kn 5 (c := true) (fun _ => rfl) (show r2 = true from hc4)
      refine hs.gt (fun _ => rfl) ?_
      refine hs.q (fun _ _ _ => rfl) fun _ hs => ?_
      refine hs.gt (fun _ => rfl) ?_
      refine hs.q (fun _ _ _ => rfl) fun _ hs => ?_
      refine hs.gt (fun _ => rfl) ?_
      refine hs.q (x := .c (.bool (!a0.Reads))) (fun _ _ _ => rfl) fun _ hs => ?_
      refine RWp.cons (hs.q (fun _ _ _ => rfl) fun _ hs => ?_)
      exact RWp.nil ((hs.as 9 (x := .c (.bool (!a0.Reads))) (y := .c (.bool (r2 && (!a0.Reads)))) (fun _ => rfl) (by rw [(show r2 = true from hc4)]; rfl)).leave (fun _ => rfl) [] rfl (by decide) (by decide))
    · have hs := hs.kn 5 (c := false) (fun _ => rfl) (show r2 = false from Bool.eq_false_iff.2 hc4)
      refine hs.gf (fun _ => rfl) (by decide) fun _ hs => ?_
      refine hs.gf (fun _ => rfl) (by decide) fun _ hs => ?_
      refine hs.gf (fun _ => rfl) (by decide) fun _ hs => ?_
      refine RWp.cons (hs.q (fun _ _ _ => rfl) fun _ hs => ?_)
      exact RWp.nil ((hs.as 9 (x := .c (.bool false)) (y := .c (.bool (r2 && (!a0.Reads)))) (fun _ => rfl) (by rw [(show r2 = false from Bool.eq_false_iff.2 hc4)]; rfl)).leave (fun _ => rfl) [] rfl (by decide) (by decide))
  · refine RWp.cons (hs.q (fun _ _ _ => rfl) fun _ hs => ?_)
    refine RWp.nil ?_
    refine Wp.ret ?_
    have h := Option.some.inj h
    subst h
    have hr : Rt ref15_Still.fi.res (ref15_Still_rv (r2 && (!a0.Reads))) Ex.ret _ := hs.rt (.inr rfl) fun _ _ _ => rfl
    exact hr
def effect_plain_rv (r : Bool) : List RV := [(false, [.bool r])]
noncomputable def effect_plain_f (a0 : Instr) : Option Bool :=
  (arith_Args_f a0.Op).bind fun r2 =>
  ((if a0.Op = 1 then
      some true
    else
      ((if r2.2 = true then
          (arith_Traps_f a0.Op).bind fun r8 =>
          some (!r8)
        else
          some false) : Option Bool).bind fun p7 =>
      some p7) : Option Bool).bind fun p5 =>
  some p5
theorem effect_plain_w {a0 : Instr} {r : Bool} (h : effect_plain_f a0 = some r) : Pure tab XX F.effect_plain [.a (eInstr_r a0)] (effect_plain_rv r) := by
  refine Pure.mk (fi := effect_plain.fi) rfl rfl rfl fun σ hs => ?_
  unfold effect_plain_f at h
  refine Wp.seq ?_
  refine Wp.reg ?_
  have hs := hs.tick
  refine RWp.cons (hs.boxr (cs := eInstr_r a0) (ds := eInstr_r a0) (fun _ _ _ => rfl) rfl rfl fun _ hs => ?_)
  refine RWp.cons (hs.q (fun _ _ _ => rfl) fun _ hs => ?_)
  refine RWp.nil ?_
  refine Wp.seq ?_
  refine Wp.reg ?_
  have hs := hs.tick
  iterate 2 refine RWp.cons (hs.q (fun _ _ _ => rfl) fun _ hs => ?_)
  obtain ⟨r2, h3, h⟩ := bind_some h
  refine RWp.cons (hs.call (x := .t [.c (.int .i64 r2.1), .c (.bool r2.2)]) (arith_Args_w h3) (fun _ _ _ => rfl) (fun _ => rfl) fun _ hs => ?_)
  iterate 5 refine RWp.cons (hs.q (fun _ _ _ => rfl) fun _ hs => ?_)
  refine RWp.nil ?_
  refine Wp.seq ?_
  refine Wp.reg ?_
  have hs := hs.tick
  iterate 2 refine RWp.cons (hs.q (fun _ _ _ => rfl) fun _ hs => ?_)
  refine RWp.cons (hs.q (x := .c (.bool (decide (a0.Op = 1)))) (fun _ _ _ => rfl) fun _ hs => ?_)
  refine RWp.cons (hs.q (fun _ _ _ => rfl) fun _ hs => ?_)
  obtain ⟨p5, h11, h⟩ := bind_some h
  refine RWp.segD hs 8 [(2, .c (.bool false)), (22, .c (.bool p5))] [19] ?_ fun _ _ hs => ?_
  · clear h
    have h := h11
    clear h11
    by_cases hc4 : a0.Op = 1
    · rw [if_pos hc4] at h
      have hs := hs.kn 14 (c := true) (fun _ => rfl) (show (decide (a0.Op = 1)) = true from decide_eq_true hc4)
      refine hs.gf (fun _ => rfl) (by decide) fun _ hs => ?_
      refine hs.gf (fun _ => rfl) (by decide) fun _ hs => ?_
      refine hs.gu (fun _ => rfl) fun _ hs => ?_
      refine hs.gu (fun _ => rfl) fun _ hs => ?_
      refine hs.gu (fun _ => rfl) fun _ hs => ?_
      refine hs.gu (fun _ => rfl) fun _ hs => ?_
      refine hs.gf (fun _ => rfl) (by decide) fun _ hs => ?_
      refine RWp.cons (hs.q (fun _ _ _ => rfl) fun _ hs => ?_)
      have h := Option.some.inj h
      subst h
      exact RWp.nil (hs.leave (fun _ => rfl) [] rfl (by decide) (by decide))
    · rw [if_neg hc4] at h
      have hs := hs.kn 14 (c := false) (fun _ => rfl) (show (decide (a0.Op = 1)) = false from decide_eq_false hc4)
      refine hs.gt (fun _ => rfl) ?_
      refine hs.q (fun _ _ _ => rfl) fun _ hs => ?_
      refine hs.gt (fun _ => rfl) ?_
      refine hs.q (fun _ _ _ => rfl) fun _ hs => ?_
      obtain ⟨p7, h10, h⟩ := bind_some h
      refine RWp.segD hs 5 [(2, .c (.bool false)), (14, .c (.bool false)), (21, .c (.bool p7))] [19] ?_ fun _ _ hs => ?_
      · clear h
        have h := h10
        clear h10
        by_cases hc6 : r2.2 = true
        · rw [if_pos hc6] at h
          have hs := hs.kn 16 (c := true) (fun _ => rfl) (show r2.2 = true from hc6)
          refine hs.gt (fun _ => rfl) ?_
          refine hs.q (fun _ _ _ => rfl) fun _ hs => ?_
          refine hs.gt (fun _ => rfl) ?_
          refine hs.q (fun _ _ _ => rfl) fun _ hs => ?_
          obtain ⟨r8, h9, h⟩ := bind_some h
          refine hs.gt (fun _ => rfl) ?_
          refine hs.call (x := .c (.bool r8)) (arith_Traps_w h9) (fun _ _ _ => rfl) (fun _ => rfl) fun _ hs => ?_
          refine hs.gt (fun _ => rfl) ?_
          refine hs.q (x := .c (.bool (!r8))) (fun _ _ _ => rfl) fun _ hs => ?_
          refine hs.gt (fun _ => rfl) ?_
          refine hs.q (fun _ _ _ => rfl) fun _ hs => ?_
          have h := Option.some.inj h
          subst h
          exact RWp.nil (hs.leave (fun _ => rfl) [] rfl (by decide) (by decide))
        · rw [if_neg hc6] at h
          have hs := hs.kn 16 (c := false) (fun _ => rfl) (show r2.2 = false from Bool.eq_false_iff.2 hc6)
          refine hs.gf (fun _ => rfl) (by decide) fun _ hs => ?_
          refine hs.gf (fun _ => rfl) (by decide) fun _ hs => ?_
          refine hs.gf (fun _ => rfl) (by decide) fun _ hs => ?_
          refine hs.gf (fun _ => rfl) (by decide) fun _ hs => ?_
          refine hs.gt (fun _ => rfl) ?_
          refine hs.q (fun _ _ _ => rfl) fun _ hs => ?_
          have h := Option.some.inj h
          subst h
          exact RWp.nil (hs.leave (fun _ => rfl) [] rfl (by decide) (by decide))
      · refine RWp.cons (hs.q (fun _ _ _ => rfl) fun _ hs => ?_)
        have h := Option.some.inj h
        subst h
        exact RWp.nil (hs.leave (fun _ => rfl) [] rfl (by decide) (by decide))
  · refine RWp.cons (hs.q (fun _ _ _ => rfl) fun _ hs => ?_)
    refine RWp.nil ?_
    refine Wp.ret ?_
    have h := Option.some.inj h
    subst h
    have hr : Rt effect_plain.fi.res (effect_plain_rv p5) Ex.ret _ := hs.rt (.inr rfl) fun _ _ _ => rfl
    exact hr
def effect_Removable_rv (r : Bool) : List RV := [(false, [.bool r])]
noncomputable def effect_Removable_f (a0 : Instr) (a1 : (List Effect)) : Option Bool :=
  (effect_plain_f a0).bind fun r2 =>
  ((if r2 = true then
      some true
    else
      ((if (((decide (a0.Op = 17)) && (decide (a0.Fun ≥ 0))) && (decide (a0.Fun < (a1.length : Int)))) = true then
          (at? a1 a0.Fun).bind fun v10 =>
          (effect_Quiet_f v10).bind fun r12 =>
          some r12
        else
          some false) : Option Bool).bind fun p9 =>
      some p9) : Option Bool).bind fun p5 =>
  some p5
theorem effect_Removable_w {a0 : Instr} {a1 : (List Effect)} {r : Bool} (h : effect_Removable_f a0 a1 = some r) : Pure tab XX F.effect_Removable [.a (eInstr_r a0), .c (.ro (a1.map eEffect))] (effect_Removable_rv r) := by
  refine Pure.mk (fi := effect_Removable.fi) rfl rfl rfl fun σ hs => ?_
  unfold effect_Removable_f at h
  refine Wp.seq ?_
  refine Wp.reg ?_
  have hs := hs.tick
  refine RWp.cons (hs.boxr (cs := eInstr_r a0) (ds := eInstr_r a0) (fun _ _ _ => rfl) rfl rfl fun _ hs => ?_)
  refine RWp.cons (hs.q (fun _ _ _ => rfl) fun _ hs => ?_)
  refine RWp.nil ?_
  refine Wp.seq ?_
  refine Wp.reg ?_
  have hs := hs.tick
  refine RWp.cons (hs.q (fun _ _ _ => rfl) fun _ hs => ?_)
  obtain ⟨r2, h3, h⟩ := bind_some h
  refine RWp.cons (hs.call (x := .c (.bool r2)) (effect_plain_w h3) (fun _ _ _ => rfl) (fun _ => rfl) fun _ hs => ?_)
  refine RWp.cons (hs.q (fun _ _ _ => rfl) fun _ hs => ?_)
  obtain ⟨p5, h15, h⟩ := bind_some h
  refine RWp.segD hs 24 [(4, .c (.bool false)), (31, .c (.bool p5))] [29] ?_ fun _ _ hs => ?_
  · clear h
    have h := h15
    clear h15
    by_cases hc4 : r2 = true
    · rw [if_pos hc4] at h
      have hs := hs.kn 7 (c := true) (fun _ => rfl) (show r2 = true from hc4)
      refine hs.gf (fun _ => rfl) (by decide) fun _ hs => ?_
      refine hs.gf (fun _ => rfl) (by decide) fun _ hs => ?_
      refine hs.gf (fun _ => rfl) (by decide) fun _ hs => ?_
      refine hs.gf (fun _ => rfl) (by decide) fun _ hs => ?_
      refine hs.gu (fun _ => rfl) fun _ hs => ?_
      refine hs.gu (fun _ => rfl) fun _ hs => ?_
      refine hs.gu (fun _ => rfl) fun _ hs => ?_
      refine hs.gf (fun _ => rfl) (by decide) fun _ hs => ?_
      refine hs.gf (fun _ => rfl) (by decide) fun _ hs => ?_
      refine hs.gu (fun _ => rfl) fun _ hs => ?_
      refine hs.gu (fun _ => rfl) fun _ hs => ?_
      refine hs.gu (fun _ => rfl) fun _ hs => ?_
      refine hs.gu (fun _ => rfl) fun _ hs => ?_
      refine hs.gu (fun _ => rfl) fun _ hs => ?_
      refine hs.gf (fun _ => rfl) (by decide) fun _ hs => ?_
      refine hs.gf (fun _ => rfl) (by decide) fun _ hs => ?_
      refine hs.gu (fun _ => rfl) fun _ hs => ?_
      refine hs.gu (fun _ => rfl) fun _ hs => ?_
      refine hs.gu (fun _ => rfl) fun _ hs => ?_
      refine hs.gu (fun _ => rfl) fun _ hs => ?_
      refine hs.gu (fun _ => rfl) fun _ hs => ?_
      refine hs.gu (fun _ => rfl) fun _ hs => ?_
      refine hs.gf (fun _ => rfl) (by decide) fun _ hs => ?_
      refine RWp.cons (hs.q (fun _ _ _ => rfl) fun _ hs => ?_)
      have h := Option.some.inj h
      subst h
      exact RWp.nil (hs.leave (fun _ => rfl) [] rfl (by decide) (by decide))
    · rw [if_neg hc4] at h
      have hs := hs.kn 7 (c := false) (fun _ => rfl) (show r2 = false from Bool.eq_false_iff.2 hc4)
      refine hs.gt (fun _ => rfl) ?_
      refine hs.q (fun _ _ _ => rfl) fun _ hs => ?_
      refine hs.gt (fun _ => rfl) ?_
      refine hs.q (fun _ _ _ => rfl) fun _ hs => ?_
      refine hs.gt (fun _ => rfl) ?_
      refine hs.q (x := .c (.bool (decide (a0.Op = 17)))) (fun _ _ _ => rfl) fun _ hs => ?_
      refine hs.gt (fun _ => rfl) ?_
      refine hs.q (fun _ _ _ => rfl) fun _ hs => ?_
      refine RWp.segD hs 4 [(1, .c (.ro (a1.map eEffect))), (2, .c (.ar (eInstr_r a0) 0)), (4, .c (.bool false)), (7, .c (.bool false)), (15, .c (.bool ((decide (a0.Op = 17)) && (decide (a0.Fun ≥ 0)))))] [] ?_ fun _ _ hs => ?_
      · by_cases hc6 : a0.Op = 17
        · have hs := hs.kn 11 (c := true) (fun _ => rfl) (show (decide (a0.Op = 17)) = true from decide_eq_true hc6)
          refine hs.gt (fun _ => rfl) ?_
          refine hs.q (fun _ _ _ => rfl) fun _ hs => ?_
          refine hs.gt (fun _ => rfl) ?_
          refine hs.q (fun _ _ _ => rfl) fun _ hs => ?_
          refine hs.gt (fun _ => rfl) ?_
          refine hs.q (x := .c (.bool (decide (a0.Fun ≥ 0)))) (fun _ _ _ => rfl) fun _ hs => ?_
          refine hs.gt (fun _ => rfl) ?_
          refine hs.q (fun _ _ _ => rfl) fun _ hs => ?_
          exact RWp.nil ((hs.as 15 (x := .c (.bool (decide (a0.Fun ≥ 0)))) (y := .c (.bool ((decide (a0.Op = 17)) && (decide (a0.Fun ≥ 0))))) (fun _ => rfl) (by rw [(show (decide (a0.Op = 17)) = true from decide_eq_true hc6)]; rfl)).leave (fun _ => rfl) [] rfl (by decide) (by decide))
        · have hs := hs.kn 11 (c := false) (fun _ => rfl) (show (decide (a0.Op = 17)) = false from decide_eq_false hc6)
          refine hs.gf (fun _ => rfl) (by decide) fun _ hs => ?_
          refine hs.gf (fun _ => rfl) (by decide) fun _ hs => ?_
          refine hs.gf (fun _ => rfl) (by decide) fun _ hs => ?_
          refine hs.gt (fun _ => rfl) ?_
          refine hs.q (fun _ _ _ => rfl) fun _ hs => ?_
          exact RWp.nil ((hs.as 15 (x := .c (.bool false)) (y := .c (.bool ((decide (a0.Op = 17)) && (decide (a0.Fun ≥ 0))))) (fun _ => rfl) (by rw [(show (decide (a0.Op = 17)) = false from decide_eq_false hc6)]; rfl)).leave (fun _ => rfl) [] rfl (by decide) (by decide))
      · refine hs.gt (fun _ => rfl) ?_
        refine hs.q (fun _ _ _ => rfl) fun _ hs => ?_
        refine RWp.segD hs 6 [(1, .c (.ro (a1.map eEffect))), (2, .c (.ar (eInstr_r a0) 0)), (4, .c (.bool false)), (7, .c (.bool false)), (22, .c (.bool (((decide (a0.Op = 17)) && (decide (a0.Fun ≥ 0))) && (decide (a0.Fun < (a1.length : Int))))))] [] ?_ fun _ _ hs => ?_
        · by_cases hc7 : ((decide (a0.Op = 17)) && (decide (a0.Fun ≥ 0))) = true
          · have hs := hs.kn 16 (c := true) (fun _ => rfl) (show ((decide (a0.Op = 17)) && (decide (a0.Fun ≥ 0))) = true from hc7)
            refine hs.gt (fun _ => rfl) ?_
            refine hs.q (fun _ _ _ => rfl) fun _ hs => ?_
            refine hs.gt (fun _ => rfl) ?_
            refine hs.q (fun _ _ _ => rfl) fun _ hs => ?_
            refine hs.gt (fun _ => rfl) ?_
            refine hs.q (fun _ _ _ => rfl) fun _ hs => ?_
            refine hs.gt (fun _ => rfl) ?_
            refine hs.lenr (fun _ _ _ => rfl) fun _ hs => ?_
            refine hs.gt (fun _ => rfl) ?_
            refine hs.q (x := .c (.bool (decide (a0.Fun < (a1.length : Int))))) (fun _ _ _ => rfl) fun _ hs => ?_
            refine hs.gt (fun _ => rfl) ?_
            refine hs.q (fun _ _ _ => rfl) fun _ hs => ?_
            exact RWp.nil ((hs.as 22 (x := .c (.bool (decide (a0.Fun < (a1.length : Int))))) (y := .c (.bool (((decide (a0.Op = 17)) && (decide (a0.Fun ≥ 0))) && (decide (a0.Fun < (a1.length : Int)))))) (fun _ => rfl) (by rw [(show ((decide (a0.Op = 17)) && (decide (a0.Fun ≥ 0))) = true from hc7)]; rfl)).leave (fun _ => rfl) [] rfl (by decide) (by decide))
          · have hs := hs.kn 16 (c := false) (fun _ => rfl) (show ((decide (a0.Op = 17)) && (decide (a0.Fun ≥ 0))) = false from Bool.eq_false_iff.2 hc7)
            refine hs.gf (fun _ => rfl) (by decide) fun _ hs => ?_
            refine hs.gf (fun _ => rfl) (by decide) fun _ hs => ?_
            refine hs.gf (fun _ => rfl) (by decide) fun _ hs => ?_
            refine hs.gf (fun _ => rfl) (by decide) fun _ hs => ?_
            refine hs.gf (fun _ => rfl) (by decide) fun _ hs => ?_
            refine hs.gt (fun _ => rfl) ?_
            refine hs.q (fun _ _ _ => rfl) fun _ hs => ?_
            exact RWp.nil ((hs.as 22 (x := .c (.bool false)) (y := .c (.bool (((decide (a0.Op = 17)) && (decide (a0.Fun ≥ 0))) && (decide (a0.Fun < (a1.length : Int)))))) (fun _ => rfl) (by rw [(show ((decide (a0.Op = 17)) && (decide (a0.Fun ≥ 0))) = false from Bool.eq_false_iff.2 hc7)]; rfl)).leave (fun _ => rfl) [] rfl (by decide) (by decide))
        · refine hs.gt (fun _ => rfl) ?_
          refine hs.q (fun _ _ _ => rfl) fun _ hs => ?_
          obtain ⟨p9, h14, h⟩ := bind_some h
          refine RWp.segD hs 7 [(4, .c (.bool false)), (7, .c (.bool false)), (30, .c (.bool p9))] [29] ?_ fun _ _ hs => ?_
          · clear h
            have h := h14
            clear h14
            by_cases hc8 : (((decide (a0.Op = 17)) && (decide (a0.Fun ≥ 0))) && (decide (a0.Fun < (a1.length : Int)))) = true
            · rw [if_pos hc8] at h
              have hs := hs.kn 23 (c := true) (fun _ => rfl) (show (((decide (a0.Op = 17)) && (decide (a0.Fun ≥ 0))) && (decide (a0.Fun < (a1.length : Int)))) = true from hc8)
              refine hs.gt (fun _ => rfl) ?_
              refine hs.q (fun _ _ _ => rfl) fun _ hs => ?_
              refine hs.gt (fun _ => rfl) ?_
              refine hs.q (fun _ _ _ => rfl) fun _ hs => ?_
              refine hs.gt (fun _ => rfl) ?_
              refine hs.q (fun _ _ _ => rfl) fun _ hs => ?_
              obtain ⟨v10, h11, h⟩ := bind_some h
              refine hs.gt (fun _ => rfl) ?_
              refine hs.idxr (enc := eEffect) (fun _ _ _ => rfl) (fun _ _ _ => rfl) h11 rfl fun _ hs => ?_
              refine hs.gt (fun _ => rfl) ?_
              refine hs.q (fun _ _ _ => rfl) fun _ hs => ?_
              obtain ⟨r12, h13, h⟩ := bind_some h
              refine hs.gt (fun _ => rfl) ?_
              refine hs.call (x := .c (.bool r12)) (effect_Quiet_w h13) (fun _ _ _ => rfl) (fun _ => rfl) fun _ hs => ?_
              refine hs.gt (fun _ => rfl) ?_
              refine hs.q (fun _ _ _ => rfl) fun _ hs => ?_
              have h := Option.some.inj h
              subst h
              exact RWp.nil (hs.leave (fun _ => rfl) [] rfl (by decide) (by decide))
            · rw [if_neg hc8] at h
              have hs := hs.kn 23 (c := false) (fun _ => rfl) (show (((decide (a0.Op = 17)) && (decide (a0.Fun ≥ 0))) && (decide (a0.Fun < (a1.length : Int)))) = false from Bool.eq_false_iff.2 hc8)
              refine hs.gf (fun _ => rfl) (by decide) fun _ hs => ?_
              refine hs.gf (fun _ => rfl) (by decide) fun _ hs => ?_
              refine hs.gf (fun _ => rfl) (by decide) fun _ hs => ?_
              refine hs.gf (fun _ => rfl) (by decide) fun _ hs => ?_
              refine hs.gf (fun _ => rfl) (by decide) fun _ hs => ?_
              refine hs.gf (fun _ => rfl) (by decide) fun _ hs => ?_
              refine hs.gt (fun _ => rfl) ?_
              refine hs.q (fun _ _ _ => rfl) fun _ hs => ?_
              have h := Option.some.inj h
              subst h
              exact RWp.nil (hs.leave (fun _ => rfl) [] rfl (by decide) (by decide))
          · refine RWp.cons (hs.q (fun _ _ _ => rfl) fun _ hs => ?_)
            have h := Option.some.inj h
            subst h
            exact RWp.nil (hs.leave (fun _ => rfl) [] rfl (by decide) (by decide))
  · refine RWp.cons (hs.q (fun _ _ _ => rfl) fun _ hs => ?_)
    refine RWp.nil ?_
    refine Wp.ret ?_
    have h := Option.some.inj h
    subst h
    have hr : Rt effect_Removable.fi.res (effect_Removable_rv p5) Ex.ret _ := hs.rt (.inr rfl) fun _ _ _ => rfl
    exact hr
def ref01_Args_rv (r : Int) : List RV := [(false, [.int .i64 r])]
noncomputable def ref01_Args_f (a0 : Int) : Option Int :=
  ((if a0 = 2 then
      some (decide (a0 = 2))
    else
      some (decide (a0 = 14))) : Option (Bool)).bind fun p3 =>
    if p3 = true then
      some 1
    else
      ((if a0 = 3 then
          some (decide (a0 = 3))
        else
          if a0 = 4 then
            some (decide (a0 = 4))
          else
            if a0 = 5 then
              some (decide (a0 = 5))
            else
              if a0 = 6 then
                some (decide (a0 = 6))
              else
                if a0 = 7 then
                  some (decide (a0 = 7))
                else
                  if a0 = 8 then
                    some (decide (a0 = 8))
                  else
                    if a0 = 9 then
                      some (decide (a0 = 9))
                    else
                      if a0 = 10 then
                        some (decide (a0 = 10))
                      else
                        if a0 = 11 then
                          some (decide (a0 = 11))
                        else
                          if a0 = 12 then
                            some (decide (a0 = 12))
                          else
                            some (decide (a0 = 13))) : Option (Bool)).bind fun p16 =>
        if p16 = true then
          some 2
        else
          some (-1)
theorem ref01_Args_w {a0 : Int} {r : Int} (h : ref01_Args_f a0 = some r) : Pure tab XX F.ref01_Args [.c (.int .i64 a0)] (ref01_Args_rv r) := by
  refine Pure.mk (fi := ref01_Args.fi) rfl rfl rfl fun σ hs => ?_
  unfold ref01_Args_f at h
  refine Wp.seq ?_
  refine Wp.reg ?_
  have hs := hs.tick
  refine RWp.cons (hs.q (fun _ _ _ => rfl) fun _ hs => ?_)
  refine RWp.nil ?_
  refine Wp.seq ?_
  refine Wp.seq ?_
  refine Wp.reg ?_
  have hs := hs.tick
  refine RWp.cons (hs.q (fun _ _ _ => rfl) fun _ hs => ?_)
  refine RWp.nil ?_
  refine Wp.block ?_
  obtain ⟨p3, h2, h⟩ := bind_some h
  refine Wp.mid (fun e σ => e = Ex.normal ∧ Hx [(3, .c (.int .i64 a0)), (4, .c (.bool p3))] [] σ) ?_ (fun e σ hM => ?_)
  · clear h
    have h := h2
    clear h2
    refine Wp.seq ?_
    refine Wp.reg ?_
    have hs := hs.tick
    refine RWp.cons (hs.q (x := .c (.bool (decide (a0 = 2)))) (fun _ _ _ => rfl) fun _ hs => ?_)
    refine RWp.cons (hs.q (fun _ _ _ => rfl) fun _ hs => ?_)
    refine RWp.nil ?_
    by_cases hc1 : a0 = 2
    · rw [if_pos hc1] at h
      refine Wp.condT hs (fun _ _ _ => rfl) (show (decide (a0 = 2)) = true from decide_eq_true hc1) ?_
      refine Wp.skip ?_
      have h := Option.some.inj h
      subst h
      exact ⟨rfl, hs.xp (fun _ => rfl) [] rfl (by decide)⟩
    · rw [if_neg hc1] at h
      refine Wp.condF hs (fun _ _ _ => rfl) (show (decide (a0 = 2)) = false from decide_eq_false hc1) ?_
      refine Wp.reg ?_
      have hs := hs.tick
      refine RWp.cons (hs.q (x := .c (.bool (decide (a0 = 14)))) (fun _ _ _ => rfl) fun _ hs => ?_)
      refine RWp.cons (hs.q (fun _ _ _ => rfl) fun _ hs => ?_)
      refine RWp.nil ?_
      have h := Option.some.inj h
      subst h
      exact ⟨rfl, hs.xp (fun _ => rfl) [] rfl (by decide)⟩
  · obtain ⟨rfl, _, _, hs⟩ := hM
    by_cases hc4 : p3 = true
    · rw [if_pos hc4] at h
      refine Wp.condT hs (fun _ _ _ => rfl) (show p3 = true from hc4) ?_
      refine Wp.seq ?_
      refine Wp.reg ?_
      have hs := hs.tick
      refine RWp.cons (hs.q (fun _ _ _ => rfl) fun _ hs => ?_)
      refine RWp.nil ?_
      refine Wp.ret ?_
      have h := Option.some.inj h
      subst h
      have hr : Rt ref01_Args.fi.res (ref01_Args_rv 1) Ex.ret _ := hs.rt (.inr rfl) fun _ _ _ => rfl
      exact hr
    · rw [if_neg hc4] at h
      refine Wp.condF hs (fun _ _ _ => rfl) (show p3 = false from Bool.eq_false_iff.2 hc4) ?_
      obtain ⟨p16, h15, h⟩ := bind_some h
      refine Wp.mid (fun e σ => e = Ex.normal ∧ Hx [(7, .c (.bool p16))] [] σ) ?_ (fun e σ hM => ?_)
      · clear h
        have h := h15
        clear h15
        refine Wp.seq ?_
        refine Wp.reg ?_
        have hs := hs.tick
        refine RWp.cons (hs.q (x := .c (.bool (decide (a0 = 3)))) (fun _ _ _ => rfl) fun _ hs => ?_)
        refine RWp.cons (hs.q (fun _ _ _ => rfl) fun _ hs => ?_)
        refine RWp.nil ?_
        by_cases hc5 : a0 = 3
        · rw [if_pos hc5] at h
          refine Wp.condT hs (fun _ _ _ => rfl) (show (decide (a0 = 3)) = true from decide_eq_true hc5) ?_
          refine Wp.skip ?_
          have h := Option.some.inj h
          subst h
          exact ⟨rfl, hs.xp (fun _ => rfl) [] rfl (by decide)⟩
        · rw [if_neg hc5] at h
          refine Wp.condF hs (fun _ _ _ => rfl) (show (decide (a0 = 3)) = false from decide_eq_false hc5) ?_
          refine Wp.seq ?_
          refine Wp.reg ?_
          have hs := hs.tick
          refine RWp.cons (hs.q (x := .c (.bool (decide (a0 = 4)))) (fun _ _ _ => rfl) fun _ hs => ?_)
          refine RWp.cons (hs.q (fun _ _ _ => rfl) fun _ hs => ?_)
          refine RWp.nil ?_
          by_cases hc6 : a0 = 4
          · rw [if_pos hc6] at h
            refine Wp.condT hs (fun _ _ _ => rfl) (show (decide (a0 = 4)) = true from decide_eq_true hc6) ?_
            refine Wp.skip ?_
            have h := Option.some.inj h
            subst h
            exact ⟨rfl, hs.xp (fun _ => rfl) [] rfl (by decide)⟩
          · rw [if_neg hc6] at h
            refine Wp.condF hs (fun _ _ _ => rfl) (show (decide (a0 = 4)) = false from decide_eq_false hc6) ?_
            refine Wp.seq ?_
            refine Wp.reg ?_
            have hs := hs.tick
            refine RWp.cons (hs.q (x := .c (.bool (decide (a0 = 5)))) (fun _ _ _ => rfl) fun _ hs => ?_)
            refine RWp.cons (hs.q (fun _ _ _ => rfl) fun _ hs => ?_)
            refine RWp.nil ?_
            by_cases hc7 : a0 = 5
            · rw [if_pos hc7] at h
              refine Wp.condT hs (fun _ _ _ => rfl) (show (decide (a0 = 5)) = true from decide_eq_true hc7) ?_
              refine Wp.skip ?_
              have h := Option.some.inj h
              subst h
              exact ⟨rfl, hs.xp (fun _ => rfl) [] rfl (by decide)⟩
            · rw [if_neg hc7] at h
              refine Wp.condF hs (fun _ _ _ => rfl) (show (decide (a0 = 5)) = false from decide_eq_false hc7) ?_
              refine Wp.seq ?_
              refine Wp.reg ?_
              have hs := hs.tick
              refine RWp.cons (hs.q (x := .c (.bool (decide (a0 = 6)))) (fun _ _ _ => rfl) fun _ hs => ?_)
              refine RWp.cons (hs.q (fun _ _ _ => rfl) fun _ hs => ?_)
              refine RWp.nil ?_
              by_cases hc8 : a0 = 6
              · rw [if_pos hc8] at h
                refine Wp.condT hs (fun _ _ _ => rfl) (show (decide (a0 = 6)) = true from decide_eq_true hc8) ?_
                refine Wp.skip ?_
                have h := Option.some.inj h
                subst h
                exact ⟨rfl, hs.xp (fun _ => rfl) [] rfl (by decide)⟩
              · rw [if_neg hc8] at h
                refine Wp.condF hs (fun _ _ _ => rfl) (show (decide (a0 = 6)) = false from decide_eq_false hc8) ?_
                refine Wp.seq ?_
                refine Wp.reg ?_
                have hs := hs.tick
                refine RWp.cons (hs.q (x := .c (.bool (decide (a0 = 7)))) (fun _ _ _ => rfl) fun _ hs => ?_)
                refine RWp.cons (hs.q (fun _ _ _ => rfl) fun _ hs => ?_)
                refine RWp.nil ?_
                by_cases hc9 : a0 = 7
                · rw [if_pos hc9] at h
                  refine Wp.condT hs (fun _ _ _ => rfl) (show (decide (a0 = 7)) = true from decide_eq_true hc9) ?_
                  refine Wp.skip ?_
                  have h := Option.some.inj h
                  subst h
                  exact ⟨rfl, hs.xp (fun _ => rfl) [] rfl (by decide)⟩
                · rw [if_neg hc9] at h
                  refine Wp.condF hs (fun _ _ _ => rfl) (show (decide (a0 = 7)) = false from decide_eq_false hc9) ?_
                  refine Wp.seq ?_
                  refine Wp.reg ?_
                  have hs := hs.tick
                  refine RWp.cons (hs.q (x := .c (.bool (decide (a0 = 8)))) (fun _ _ _ => rfl) fun _ hs => ?_)
                  refine RWp.cons (hs.q (fun _ _ _ => rfl) fun _ hs => ?_)
                  refine RWp.nil ?_
                  by_cases hc10 : a0 = 8
                  · rw [if_pos hc10] at h
                    refine Wp.condT hs (fun _ _ _ => rfl) (show (decide (a0 = 8)) = true from decide_eq_true hc10) ?_
                    refine Wp.skip ?_
                    have h := Option.some.inj h
                    subst h
                    exact ⟨rfl, hs.xp (fun _ => rfl) [] rfl (by decide)⟩
                  · rw [if_neg hc10] at h
                    refine Wp.condF hs (fun _ _ _ => rfl) (show (decide (a0 = 8)) = false from decide_eq_false hc10) ?_
                    refine Wp.seq ?_
                    refine Wp.reg ?_
                    have hs := hs.tick
                    refine RWp.cons (hs.q (x := .c (.bool (decide (a0 = 9)))) (fun _ _ _ => rfl) fun _ hs => ?_)
                    refine RWp.cons (hs.q (fun _ _ _ => rfl) fun _ hs => ?_)
                    refine RWp.nil ?_
                    by_cases hc11 : a0 = 9
                    · rw [if_pos hc11] at h
                      refine Wp.condT hs (fun _ _ _ => rfl) (show (decide (a0 = 9)) = true from decide_eq_true hc11) ?_
                      refine Wp.skip ?_
                      have h := Option.some.inj h
                      subst h
                      exact ⟨rfl, hs.xp (fun _ => rfl) [] rfl (by decide)⟩
                    · rw [if_neg hc11] at h
                      refine Wp.condF hs (fun _ _ _ => rfl) (show (decide (a0 = 9)) = false from decide_eq_false hc11) ?_
                      refine Wp.seq ?_
                      refine Wp.reg ?_
                      have hs := hs.tick
                      refine RWp.cons (hs.q (x := .c (.bool (decide (a0 = 10)))) (fun _ _ _ => rfl) fun _ hs => ?_)
                      refine RWp.cons (hs.q (fun _ _ _ => rfl) fun _ hs => ?_)
                      refine RWp.nil ?_
                      by_cases hc12 : a0 = 10
                      · rw [if_pos hc12] at h
                        refine Wp.condT hs (fun _ _ _ => rfl) (show (decide (a0 = 10)) = true from decide_eq_true hc12) ?_
                        refine Wp.skip ?_
                        have h := Option.some.inj h
                        subst h
                        exact ⟨rfl, hs.xp (fun _ => rfl) [] rfl (by decide)⟩
                      · rw [if_neg hc12] at h
                        refine Wp.condF hs (fun _ _ _ => rfl) (show (decide (a0 = 10)) = false from decide_eq_false hc12) ?_
                        refine Wp.seq ?_
                        refine Wp.reg ?_
                        have hs := hs.tick
                        refine RWp.cons (hs.q (x := .c (.bool (decide (a0 = 11)))) (fun _ _ _ => rfl) fun _ hs => ?_)
                        refine RWp.cons (hs.q (fun _ _ _ => rfl) fun _ hs => ?_)
                        refine RWp.nil ?_
                        by_cases hc13 : a0 = 11
                        · rw [if_pos hc13] at h
                          refine Wp.condT hs (fun _ _ _ => rfl) (show (decide (a0 = 11)) = true from decide_eq_true hc13) ?_
                          refine Wp.skip ?_
                          have h := Option.some.inj h
                          subst h
                          exact ⟨rfl, hs.xp (fun _ => rfl) [] rfl (by decide)⟩
                        · rw [if_neg hc13] at h
                          refine Wp.condF hs (fun _ _ _ => rfl) (show (decide (a0 = 11)) = false from decide_eq_false hc13) ?_
                          refine Wp.seq ?_
                          refine Wp.reg ?_
                          have hs := hs.tick
                          refine RWp.cons (hs.q (x := .c (.bool (decide (a0 = 12)))) (fun _ _ _ => rfl) fun _ hs => ?_)
                          refine RWp.cons (hs.q (fun _ _ _ => rfl) fun _ hs => ?_)
                          refine RWp.nil ?_
                          by_cases hc14 : a0 = 12
                          · rw [if_pos hc14] at h
                            refine Wp.condT hs (fun _ _ _ => rfl) (show (decide (a0 = 12)) = true from decide_eq_true hc14) ?_
                            refine Wp.skip ?_
                            have h := Option.some.inj h
                            subst h
                            exact ⟨rfl, hs.xp (fun _ => rfl) [] rfl (by decide)⟩
                          · rw [if_neg hc14] at h
                            refine Wp.condF hs (fun _ _ _ => rfl) (show (decide (a0 = 12)) = false from decide_eq_false hc14) ?_
                            refine Wp.reg ?_
                            have hs := hs.tick
                            refine RWp.cons (hs.q (x := .c (.bool (decide (a0 = 13)))) (fun _ _ _ => rfl) fun _ hs => ?_)
                            refine RWp.cons (hs.q (fun _ _ _ => rfl) fun _ hs => ?_)
                            refine RWp.nil ?_
                            have h := Option.some.inj h
                            subst h
                            exact ⟨rfl, hs.xp (fun _ => rfl) [] rfl (by decide)⟩
      · obtain ⟨rfl, _, _, hs⟩ := hM
        by_cases hc17 : p16 = true
        · rw [if_pos hc17] at h
          refine Wp.condT hs (fun _ _ _ => rfl) (show p16 = true from hc17) ?_
          refine Wp.seq ?_
          refine Wp.reg ?_
          have hs := hs.tick
          refine RWp.cons (hs.q (fun _ _ _ => rfl) fun _ hs => ?_)
          refine RWp.nil ?_
          refine Wp.ret ?_
          have h := Option.some.inj h
          subst h
          have hr : Rt ref01_Args.fi.res (ref01_Args_rv 2) Ex.ret _ := hs.rt (.inr rfl) fun _ _ _ => rfl
          exact hr
        · rw [if_neg hc17] at h
          refine Wp.condF hs (fun _ _ _ => rfl) (show p16 = false from Bool.eq_false_iff.2 hc17) ?_
          refine Wp.skip ?_
          refine Wp.seq ?_
          refine Wp.reg ?_
          have hs := hs.tick
          refine RWp.cons (hs.q (fun _ _ _ => rfl) fun _ hs => ?_)
          refine RWp.nil ?_
          refine Wp.ret ?_
          have h := Option.some.inj h
          subst h
          have hr : Rt ref01_Args.fi.res (ref01_Args_rv (-1)) Ex.ret _ := hs.rt (.inr rfl) fun _ _ _ => rfl
          exact hr
def ref15_Removable_rv (r : Bool) : List RV := [(false, [.bool r])]
noncomputable def ref15_Removable_f (a0 : Instr) (a1 : (List Effect)) (a2 : Bool) : Option Bool :=
  if a0.Op = 17 then
    if ((decide (a0.Fun < 0)) || (decide (a0.Fun ≥ (a1.length : Int)))) = true then
      some false
    else
      (at? a1 a0.Fun).bind fun v5 =>
      (ref15_Quiet_f v5).bind fun r8 =>
      some (r8 && (!(a2 && v5.Reads)))
  else
    ((if a0.Op = 1 then
        some true
      else
        ((if a0.Op = 11 then
            some false
          else
            (ref01_Args_f a0.Op).bind fun r16 =>
            some (decide (r16 > 0))) : Option Bool).bind fun p15 =>
        some p15) : Option Bool).bind fun p13 =>
    some p13
theorem ref15_Removable_w {a0 : Instr} {a1 : (List Effect)} {a2 : Bool} {r : Bool} (h : ref15_Removable_f a0 a1 a2 = some r) : Pure tab XX F.ref15_Removable [.a (eInstr_r a0), .c (.ro (a1.map eEffect)), .c (.bool a2)] (ref15_Removable_rv r) := by
  refine Pure.mk (fi := ref15_Removable.fi) rfl rfl rfl fun σ hs => ?_
  unfold ref15_Removable_f at h
  refine Wp.seq ?_
  refine Wp.reg ?_
  have hs := hs.tick
  refine RWp.cons (hs.boxr (cs := eInstr_r a0) (ds := eInstr_r a0) (fun _ _ _ => rfl) rfl rfl fun _ hs => ?_)
  refine RWp.cons (hs.q (fun _ _ _ => rfl) fun _ hs => ?_)
  refine RWp.nil ?_
  refine Wp.seq ?_
  refine Wp.seq ?_
  refine Wp.reg ?_
  have hs := hs.tick
  iterate 2 refine RWp.cons (hs.q (fun _ _ _ => rfl) fun _ hs => ?_)
  refine RWp.cons (hs.q (x := .c (.bool (decide (a0.Op = 17)))) (fun _ _ _ => rfl) fun _ hs => ?_)
  refine RWp.nil ?_
  by_cases hc2 : a0.Op = 17
  · rw [if_pos hc2] at h
    refine Wp.condT hs (fun _ _ _ => rfl) (show (decide (a0.Op = 17)) = true from decide_eq_true hc2) ?_
    refine Wp.seq ?_
    refine Wp.seq ?_
    refine Wp.reg ?_
    have hs := hs.tick
    iterate 2 refine RWp.cons (hs.q (fun _ _ _ => rfl) fun _ hs => ?_)
    refine RWp.cons (hs.q (x := .c (.bool (decide (a0.Fun < 0)))) (fun _ _ _ => rfl) fun _ hs => ?_)
    refine RWp.cons (hs.q (fun _ _ _ => rfl) fun _ hs => ?_)
    refine RWp.segD hs 6 [(1, .c (.ro (a1.map eEffect))), (2, .c (.bool a2)), (3, .c (.ar (eInstr_r a0) 0)), (20, .c (.bool ((decide (a0.Fun < 0)) || (decide (a0.Fun ≥ (a1.length : Int))))))] [] ?_ fun _ _ hs => ?_
    · by_cases hc3 : a0.Fun < 0
      · have hs := hs.kn 14 (c := true) (fun _ => rfl) (show (decide (a0.Fun < 0)) = true from decide_eq_true hc3)
        refine hs.gf (fun _ => rfl) (by decide) fun _ hs => ?_
        refine hs.gf (fun _ => rfl) (by decide) fun _ hs => ?_
        refine hs.gf (fun _ => rfl) (by decide) fun _ hs => ?_
        refine hs.gf (fun _ => rfl) (by decide) fun _ hs => ?_
        refine hs.gf (fun _ => rfl) (by decide) fun _ hs => ?_
        refine RWp.cons (hs.q (fun _ _ _ => rfl) fun _ hs => ?_)
        exact RWp.nil ((hs.as 20 (x := .c (.bool true)) (y := .c (.bool ((decide (a0.Fun < 0)) || (decide (a0.Fun ≥ (a1.length : Int)))))) (fun _ => rfl) (by rw [(show (decide (a0.Fun < 0)) = true from decide_eq_true hc3)]; rfl)).leave (fun _ => rfl) [] rfl (by decide) (by decide))
      · have hs := hs.kn 14 (c := false) (fun _ => rfl) (show (decide (a0.Fun < 0)) = false from decide_eq_false hc3)
        refine hs.gt (fun _ => rfl) ?_
        refine hs.q (fun _ _ _ => rfl) fun _ hs => ?_
        refine hs.gt (fun _ => rfl) ?_
        refine hs.q (fun _ _ _ => rfl) fun _ hs => ?_
        refine hs.gt (fun _ => rfl) ?_
        refine hs.q (fun _ _ _ => rfl) fun _ hs => ?_
        refine hs.gt (fun _ => rfl) ?_
        refine hs.lenr (fun _ _ _ => rfl) fun _ hs => ?_
        refine hs.gt (fun _ => rfl) ?_
        refine hs.q (x := .c (.bool (decide (a0.Fun ≥ (a1.length : Int))))) (fun _ _ _ => rfl) fun _ hs => ?_
        refine RWp.cons (hs.q (fun _ _ _ => rfl) fun _ hs => ?_)
        exact RWp.nil ((hs.as 20 (x := .c (.bool (decide (a0.Fun ≥ (a1.length : Int))))) (y := .c (.bool ((decide (a0.Fun < 0)) || (decide (a0.Fun ≥ (a1.length : Int)))))) (fun _ => rfl) (by rw [(show (decide (a0.Fun < 0)) = false from decide_eq_false hc3)]; rfl)).leave (fun _ => rfl) [] rfl (by decide) (by decide))
    · refine RWp.nil ?_
      by_cases hc4 : ((decide (a0.Fun < 0)) || (decide (a0.Fun ≥ (a1.length : Int)))) = true
      · rw [if_pos hc4] at h
        refine Wp.condT hs (fun _ _ _ => rfl) (show ((decide (a0.Fun < 0)) || (decide (a0.Fun ≥ (a1.length : Int)))) = true from hc4) ?_
        refine Wp.seq ?_
        refine Wp.reg ?_
        have hs := hs.tick
        refine RWp.cons (hs.q (fun _ _ _ => rfl) fun _ hs => ?_)
        refine RWp.nil ?_
        refine Wp.ret ?_
        have h := Option.some.inj h
        subst h
        have hr : Rt ref15_Removable.fi.res (ref15_Removable_rv false) Ex.ret _ := hs.rt (.inr rfl) fun _ _ _ => rfl
        exact hr
      · rw [if_neg hc4] at h
        refine Wp.condF hs (fun _ _ _ => rfl) (show ((decide (a0.Fun < 0)) || (decide (a0.Fun ≥ (a1.length : Int)))) = false from Bool.eq_false_iff.2 hc4) ?_
        refine Wp.skip ?_
        refine Wp.seq ?_
        refine Wp.postg ?_
        refine Wp.reg ?_
        have hs := hs.tick
        iterate 3 refine RWp.cons (hs.q (fun _ _ _ => rfl) fun _ hs => ?_)
        obtain ⟨v5, h6, h⟩ := bind_some h
        refine RWp.cons (hs.idxr (enc := eEffect) (fun _ _ _ => rfl) (fun _ _ _ => rfl) h6 rfl fun _ hs => ?_)
        refine RWp.cons (hs.q (fun _ _ _ => rfl) fun _ hs => ?_)
        refine RWp.cons (hs.alloc (by decide) fun i7 _ hs => ?_)
        refine RWp.cons (hs.sto (es := [eEffect v5]) 0 0 (fun _ _ _ => rfl) (fun _ _ _ => rfl) (.keep (fun _ => rfl) (.keep (fun _ => rfl) (.keep (fun _ => rfl) (.keep (fun _ => rfl) (.keep (fun _ => rfl) .nil))))) rfl rfl rfl (Nat.le_of_ble_eq_true rfl) rfl fun _ hs => ?_)
        refine RWp.nil ?_
        have hs := hs.tick
        refine hs.frza 0 rfl (fun _ => rfl) rfl (by rfl) (by rfl) fun _ hs => ?_
        refine GWp.nil ?_
        refine Wp.seq ?_
        refine Wp.reg ?_
        have hs := hs.tick
        refine RWp.cons (hs.q (fun _ _ _ => rfl) fun _ hs => ?_)
        obtain ⟨r8, h9, h⟩ := bind_some h
        refine RWp.cons (hs.call (x := .c (.bool r8)) (ref15_Quiet_w h9) (fun _ _ _ => rfl) (fun _ => rfl) fun _ hs => ?_)
        refine RWp.cons (hs.q (fun _ _ _ => rfl) fun _ hs => ?_)
        refine RWp.segD hs 7 [(35, .c (.bool (r8 && (!(a2 && v5.Reads)))))] [] ?_ fun _ _ hs => ?_
        · by_cases hc10 : r8 = true
          · have hs := hs.kn 28 (c := true) (fun _ => rfl) (show r8 = true from hc10)
            refine hs.gt (fun _ => rfl) ?_
            refine hs.q (fun _ _ _ => rfl) fun _ hs => ?_
            refine hs.gt (fun _ => rfl) ?_
            refine hs.q (fun _ _ _ => rfl) fun _ hs => ?_
            refine RWp.segD hs 3 [(28, .c (.bool true)), (33, .c (.bool (a2 && v5.Reads)))] [] ?_ fun _ _ hs => ?_
            · by_cases hc11 : a2 = true
              · have hs := hs.kn 30 (c := true) (fun _ => rfl) (show a2 = true from hc11)
                refine hs.gt (fun _ => rfl) ?_
                refine hs.q (fun _ _ _ => rfl) fun _ hs => ?_
                refine hs.gt (fun _ => rfl) ?_
                refine hs.q (fun _ _ _ => rfl) fun _ hs => ?_
                refine hs.gt (fun _ => rfl) ?_
                refine hs.q (fun _ _ _ => rfl) fun _ hs => ?_
                exact RWp.nil ((hs.as 33 (x := .c (.bool v5.Reads)) (y := .c (.bool (a2 && v5.Reads))) (fun _ => rfl) (by rw [(show a2 = true from hc11)]; rfl)).leave (fun _ => rfl) [] rfl (by decide) (by decide))
              · have hs := hs.kn 30 (c := false) (fun _ => rfl) (show a2 = false from Bool.eq_false_iff.2 hc11)
                refine hs.gf (fun _ => rfl) (by decide) fun _ hs => ?_
                refine hs.gf (fun _ => rfl) (by decide) fun _ hs => ?_
                refine hs.gt (fun _ => rfl) ?_
                refine hs.q (fun _ _ _ => rfl) fun _ hs => ?_
                exact RWp.nil ((hs.as 33 (x := .c (.bool false)) (y := .c (.bool (a2 && v5.Reads))) (fun _ => rfl) (by rw [(show a2 = false from Bool.eq_false_iff.2 hc11)]; rfl)).leave (fun _ => rfl) [] rfl (by decide) (by decide))
            · refine hs.gt (fun _ => rfl) ?_
              refine hs.q (x := .c (.bool (!(a2 && v5.Reads)))) (fun _ _ _ => rfl) fun _ hs => ?_
              refine RWp.cons (hs.q (fun _ _ _ => rfl) fun _ hs => ?_)
              exact RWp.nil ((hs.as 35 (x := .c (.bool (!(a2 && v5.Reads)))) (y := .c (.bool (r8 && (!(a2 && v5.Reads))))) (fun _ => rfl) (by rw [(show r8 = true from hc10)]; rfl)).leave (fun _ => rfl) [] rfl (by decide) (by decide))
          · have hs := hs.kn 28 (c := false) (fun _ => rfl) (show r8 = false from Bool.eq_false_iff.2 hc10)
            refine hs.gf (fun _ => rfl) (by decide) fun _ hs => ?_
            refine hs.gf (fun _ => rfl) (by decide) fun _ hs => ?_
            refine hs.gu (fun _ => rfl) fun _ hs => ?_
            refine hs.gu (fun _ => rfl) fun _ hs => ?_
            refine hs.gf (fun _ => rfl) (by decide) fun _ hs => ?_
            refine hs.gf (fun _ => rfl) (by decide) fun _ hs => ?_
            refine RWp.cons (hs.q (fun _ _ _ => rfl) fun _ hs => ?_)
            exact RWp.nil ((hs.as 35 (x := .c (.bool false)) (y := .c (.bool (r8 && (!(a2 && v5.Reads))))) (fun _ => rfl) (by rw [(show r8 = false from Bool.eq_false_iff.2 hc10)]; rfl)).leave (fun _ => rfl) [] rfl (by decide) (by decide))
        · refine RWp.cons (hs.q (fun _ _ _ => rfl) fun _ hs => ?_)
          refine RWp.nil ?_
          refine Wp.ret ?_
          have h := Option.some.inj h
          subst h
          have hr : Rt ref15_Removable.fi.res (ref15_Removable_rv (r8 && (!(a2 && v5.Reads)))) Ex.ret _ := hs.rt (.inr rfl) fun _ _ _ => rfl
          exact hr
  · rw [if_neg hc2] at h
    refine Wp.condF hs (fun _ _ _ => rfl) (show (decide (a0.Op = 17)) = false from decide_eq_false hc2) ?_
    refine Wp.skip ?_
    refine Wp.seq ?_
    refine Wp.reg ?_
    have hs := hs.tick
    iterate 2 refine RWp.cons (hs.q (fun _ _ _ => rfl) fun _ hs => ?_)
    refine RWp.cons (hs.q (x := .c (.bool (decide (a0.Op = 1)))) (fun _ _ _ => rfl) fun _ hs => ?_)
    refine RWp.cons (hs.q (fun _ _ _ => rfl) fun _ hs => ?_)
    obtain ⟨p13, h19, h⟩ := bind_some h
    refine RWp.segD hs 10 [(6, .c (.bool false)), (49, .c (.bool p13))] [46] ?_ fun _ _ hs => ?_
    · clear h
      have h := h19
      clear h19
      by_cases hc12 : a0.Op = 1
      · rw [if_pos hc12] at h
        have hs := hs.kn 39 (c := true) (fun _ => rfl) (show (decide (a0.Op = 1)) = true from decide_eq_true hc12)
        refine hs.gf (fun _ => rfl) (by decide) fun _ hs => ?_
        refine hs.gf (fun _ => rfl) (by decide) fun _ hs => ?_
        refine hs.gf (fun _ => rfl) (by decide) fun _ hs => ?_
        refine hs.gf (fun _ => rfl) (by decide) fun _ hs => ?_
        refine hs.gu (fun _ => rfl) fun _ hs => ?_
        refine hs.gu (fun _ => rfl) fun _ hs => ?_
        refine hs.gu (fun _ => rfl) fun _ hs => ?_
        refine hs.gu (fun _ => rfl) fun _ hs => ?_
        refine hs.gf (fun _ => rfl) (by decide) fun _ hs => ?_
        refine RWp.cons (hs.q (fun _ _ _ => rfl) fun _ hs => ?_)
        have h := Option.some.inj h
        subst h
        exact RWp.nil (hs.leave (fun _ => rfl) [] rfl (by decide) (by decide))
      · rw [if_neg hc12] at h
        have hs := hs.kn 39 (c := false) (fun _ => rfl) (show (decide (a0.Op = 1)) = false from decide_eq_false hc12)
        refine hs.gt (fun _ => rfl) ?_
        refine hs.q (fun _ _ _ => rfl) fun _ hs => ?_
        refine hs.gt (fun _ => rfl) ?_
        refine hs.q (fun _ _ _ => rfl) fun _ hs => ?_
        refine hs.gt (fun _ => rfl) ?_
        refine hs.q (x := .c (.bool (!(decide (a0.Op = 11))))) (fun _ _ _ => rfl) fun _ hs => ?_
        refine hs.gt (fun _ => rfl) ?_
        refine hs.q (fun _ _ _ => rfl) fun _ hs => ?_
        obtain ⟨p15, h18, h⟩ := bind_some h
        refine RWp.segD hs 5 [(6, .c (.bool false)), (39, .c (.bool false)), (48, .c (.bool p15))] [46] ?_ fun _ _ hs => ?_
        · clear h
          have h := h18
          clear h18
          by_cases hc14 : a0.Op = 11
          · rw [if_pos hc14] at h
            have hs := hs.kn 43 (c := false) (fun _ => rfl) (show (!(decide (a0.Op = 11))) = false by rw [(show (decide (a0.Op = 11)) = true from decide_eq_true hc14)]; rfl)
            refine hs.gf (fun _ => rfl) (by decide) fun _ hs => ?_
            refine hs.gf (fun _ => rfl) (by decide) fun _ hs => ?_
            refine hs.gf (fun _ => rfl) (by decide) fun _ hs => ?_
            refine hs.gf (fun _ => rfl) (by decide) fun _ hs => ?_
            refine hs.gt (fun _ => rfl) ?_
            refine hs.q (fun _ _ _ => rfl) fun _ hs => ?_
            have h := Option.some.inj h
            subst h
            exact RWp.nil (hs.leave (fun _ => rfl) [] rfl (by decide) (by decide))
          · rw [if_neg hc14] at h
            have hs := hs.kn 43 (c := true) (fun _ => rfl) (show (!(decide (a0.Op = 11))) = true by rw [(show (decide (a0.Op = 11)) = false from decide_eq_false hc14)]; rfl)
            refine hs.gt (fun _ => rfl) ?_
            refine hs.q (fun _ _ _ => rfl) fun _ hs => ?_
            refine hs.gt (fun _ => rfl) ?_
            refine hs.q (fun _ _ _ => rfl) fun _ hs => ?_
            obtain ⟨r16, h17, h⟩ := bind_some h
            refine hs.gt (fun _ => rfl) ?_
            refine hs.call (x := .c (.int .i64 r16)) (ref01_Args_w h17) (fun _ _ _ => rfl) (fun _ => rfl) fun _ hs => ?_
            refine hs.gt (fun _ => rfl) ?_
            refine hs.q (x := .c (.bool (decide (r16 > 0)))) (fun _ _ _ => rfl) fun _ hs => ?_
            refine hs.gt (fun _ => rfl) ?_
            refine hs.q (fun _ _ _ => rfl) fun _ hs => ?_
            have h := Option.some.inj h
            subst h
            exact RWp.nil (hs.leave (fun _ => rfl) [] rfl (by decide) (by decide))
        · refine RWp.cons (hs.q (fun _ _ _ => rfl) fun _ hs => ?_)
          have h := Option.some.inj h
          subst h
          exact RWp.nil (hs.leave (fun _ => rfl) [] rfl (by decide) (by decide))
    · refine RWp.cons (hs.q (fun _ _ _ => rfl) fun _ hs => ?_)
      refine RWp.nil ?_
      refine Wp.ret ?_
      have h := Option.some.inj h
      subst h
      have hr : Rt ref15_Removable.fi.res (ref15_Removable_rv p13) Ex.ret _ := hs.rt (.inr rfl) fun _ _ _ => rfl
      exact hr
def effect_Fixed_rv (r : Bool) : List RV := [(false, [.bool r])]
noncomputable def effect_Fixed_f (a0 : Instr) (a1 : (List Effect)) : Option Bool :=
  (effect_plain_f a0).bind fun r2 =>
  ((if r2 = true then
      some true
    else
      ((if (((decide (a0.Op = 17)) && (decide (a0.Fun ≥ 0))) && (decide (a0.Fun < (a1.length : Int)))) = true then
          (at? a1 a0.Fun).bind fun v10 =>
          (effect_Still_f v10).bind fun r12 =>
          some r12
        else
          some false) : Option Bool).bind fun p9 =>
      some p9) : Option Bool).bind fun p5 =>
  some p5
theorem effect_Fixed_w {a0 : Instr} {a1 : (List Effect)} {r : Bool} (h : effect_Fixed_f a0 a1 = some r) : Pure tab XX F.effect_Fixed [.a (eInstr_r a0), .c (.ro (a1.map eEffect))] (effect_Fixed_rv r) := by
  refine Pure.mk (fi := effect_Fixed.fi) rfl rfl rfl fun σ hs => ?_
  unfold effect_Fixed_f at h
  refine Wp.seq ?_
  refine Wp.reg ?_
  have hs := hs.tick
  refine RWp.cons (hs.boxr (cs := eInstr_r a0) (ds := eInstr_r a0) (fun _ _ _ => rfl) rfl rfl fun _ hs => ?_)
  refine RWp.cons (hs.q (fun _ _ _ => rfl) fun _ hs => ?_)
  refine RWp.nil ?_
  refine Wp.seq ?_
  refine Wp.reg ?_
  have hs := hs.tick
  refine RWp.cons (hs.q (fun _ _ _ => rfl) fun _ hs => ?_)
  obtain ⟨r2, h3, h⟩ := bind_some h
  refine RWp.cons (hs.call (x := .c (.bool r2)) (effect_plain_w h3) (fun _ _ _ => rfl) (fun _ => rfl) fun _ hs => ?_)
  refine RWp.cons (hs.q (fun _ _ _ => rfl) fun _ hs => ?_)
  obtain ⟨p5, h15, h⟩ := bind_some h
  refine RWp.segD hs 24 [(4, .c (.bool false)), (31, .c (.bool p5))] [29] ?_ fun _ _ hs => ?_
  · clear h
    have h := h15
    clear h15
    by_cases hc4 : r2 = true
    · rw [if_pos hc4] at h
      have hs := hs.kn 7 (c := true) (fun _ => rfl) (show r2 = true from hc4)
      refine hs.gf (fun _ => rfl) (by decide) fun _ hs => ?_
      refine hs.gf (fun _ => rfl) (by decide) fun _ hs => ?_
      refine hs.gf (fun _ => rfl) (by decide) fun _ hs => ?_
      refine hs.gf (fun _ => rfl) (by decide) fun _ hs => ?_
      refine hs.gu (fun _ => rfl) fun _ hs => ?_
      refine hs.gu (fun _ => rfl) fun _ hs => ?_
      refine hs.gu (fun _ => rfl) fun _ hs => ?_
      refine hs.gf (fun _ => rfl) (by decide) fun _ hs => ?_
      refine hs.gf (fun _ => rfl) (by decide) fun _ hs => ?_
      refine hs.gu (fun _ => rfl) fun _ hs => ?_
      refine hs.gu (fun _ => rfl) fun _ hs => ?_
      refine hs.gu (fun _ => rfl) fun _ hs => ?_
      refine hs.gu (fun _ => rfl) fun _ hs => ?_
      refine hs.gu (fun _ => rfl) fun _ hs => ?_
      refine hs.gf (fun _ => rfl) (by decide) fun _ hs => ?_
      refine hs.gf (fun _ => rfl) (by decide) fun _ hs => ?_
      refine hs.gu (fun _ => rfl) fun _ hs => ?_
      refine hs.gu (fun _ => rfl) fun _ hs => ?_
      refine hs.gu (fun _ => rfl) fun _ hs => ?_
      refine hs.gu (fun _ => rfl) fun _ hs => ?_
      refine hs.gu (fun _ => rfl) fun _ hs => ?_
      refine hs.gu (fun _ => rfl) fun _ hs => ?_
      refine hs.gf (fun _ => rfl) (by decide) fun _ hs => ?_
      refine RWp.cons (hs.q (fun _ _ _ => rfl) fun _ hs => ?_)
      have h := Option.some.inj h
      subst h
      exact RWp.nil (hs.leave (fun _ => rfl) [] rfl (by decide) (by decide))
    · rw [if_neg hc4] at h
      have hs := hs.kn 7 (c := false) (fun _ => rfl) (show r2 = false from Bool.eq_false_iff.2 hc4)
      refine hs.gt (fun _ => rfl) ?_
      refine hs.q (fun _ _ _ => rfl) fun _ hs => ?_
      refine hs.gt (fun _ => rfl) ?_
      refine hs.q (fun _ _ _ => rfl) fun _ hs => ?_
      refine hs.gt (fun _ => rfl) ?_
      refine hs.q (x := .c (.bool (decide (a0.Op = 17)))) (fun _ _ _ => rfl) fun _ hs => ?_
      refine hs.gt (fun _ => rfl) ?_
      refine hs.q (fun _ _ _ => rfl) fun _ hs => ?_
      refine RWp.segD hs 4 [(1, .c (.ro (a1.map eEffect))), (2, .c (.ar (eInstr_r a0) 0)), (4, .c (.bool false)), (7, .c (.bool false)), (15, .c (.bool ((decide (a0.Op = 17)) && (decide (a0.Fun ≥ 0)))))] [] ?_ fun _ _ hs => ?_
      · by_cases hc6 : a0.Op = 17
        · have hs := hs.kn 11 (c := true) (fun _ => rfl) (show (decide (a0.Op = 17)) = true from decide_eq_true hc6)
          refine hs.gt (fun _ => rfl) ?_
          refine hs.q (fun _ _ _ => rfl) fun _ hs => ?_
          refine hs.gt (fun _ => rfl) ?_
          refine hs.q (fun _ _ _ => rfl) fun _ hs => ?_
          refine hs.gt (fun _ => rfl) ?_
          refine hs.q (x := .c (.bool (decide (a0.Fun ≥ 0)))) (fun _ _ _ => rfl) fun _ hs => ?_
          refine hs.gt (fun _ => rfl) ?_
          refine hs.q (fun _ _ _ => rfl) fun _ hs => ?_
          exact RWp.nil ((hs.as 15 (x := .c (.bool (decide (a0.Fun ≥ 0)))) (y := .c (.bool ((decide (a0.Op = 17)) && (decide (a0.Fun ≥ 0))))) (fun _ => rfl) (by rw [(show (decide (a0.Op = 17)) = true from decide_eq_true hc6)]; rfl)).leave (fun _ => rfl) [] rfl (by decide) (by decide))
        · have hs := hs.kn 11 (c := false) (fun _ => rfl) (show (decide (a0.Op = 17)) = false from decide_eq_false hc6)
          refine hs.gf (fun _ => rfl) (by decide) fun _ hs => ?_
          refine hs.gf (fun _ => rfl) (by decide) fun _ hs => ?_
          refine hs.gf (fun _ => rfl) (by decide) fun _ hs => ?_
          refine hs.gt (fun _ => rfl) ?_
          refine hs.q (fun _ _ _ => rfl) fun _ hs => ?_
          exact RWp.nil ((hs.as 15 (x := .c (.bool false)) (y := .c (.bool ((decide (a0.Op = 17)) && (decide (a0.Fun ≥ 0))))) (fun _ => rfl) (by rw [(show (decide (a0.Op = 17)) = false from decide_eq_false hc6)]; rfl)).leave (fun _ => rfl) [] rfl (by decide) (by decide))
      · refine hs.gt (fun _ => rfl) ?_
        refine hs.q (fun _ _ _ => rfl) fun _ hs => ?_
        refine RWp.segD hs 6 [(1, .c (.ro (a1.map eEffect))), (2, .c (.ar (eInstr_r a0) 0)), (4, .c (.bool false)), (7, .c (.bool false)), (22, .c (.bool (((decide (a0.Op = 17)) && (decide (a0.Fun ≥ 0))) && (decide (a0.Fun < (a1.length : Int))))))] [] ?_ fun _ _ hs => ?_
        · by_cases hc7 : ((decide (a0.Op = 17)) && (decide (a0.Fun ≥ 0))) = true
          · have hs := hs.kn 16 (c := true) (fun _ => rfl) (show ((decide (a0.Op = 17)) && (decide (a0.Fun ≥ 0))) = true from hc7)
            refine hs.gt (fun _ => rfl) ?_
            refine hs.q (fun _ _ _ => rfl) fun _ hs => ?_
            refine hs.gt (fun _ => rfl) ?_
            refine hs.q (fun _ _ _ => rfl) fun _ hs => ?_
            refine hs.gt (fun _ => rfl) ?_
            refine hs.q (fun _ _ _ => rfl) fun _ hs => ?_
            refine hs.gt (fun _ => rfl) ?_
            refine hs.lenr (fun _ _ _ => rfl) fun _ hs => ?_
            refine hs.gt (fun _ => rfl) ?_
            refine hs.q (x := .c (.bool (decide (a0.Fun < (a1.length : Int))))) (fun _ _ _ => rfl) fun _ hs => ?_
            refine hs.gt (fun _ => rfl) ?_
            refine hs.q (fun _ _ _ => rfl) fun _ hs => ?_
            exact RWp.nil ((hs.as 22 (x := .c (.bool (decide (a0.Fun < (a1.length : Int))))) (y := .c (.bool (((decide (a0.Op = 17)) && (decide (a0.Fun ≥ 0))) && (decide (a0.Fun < (a1.length : Int)))))) (fun _ => rfl) (by rw [(show ((decide (a0.Op = 17)) && (decide (a0.Fun ≥ 0))) = true from hc7)]; rfl)).leave (fun _ => rfl) [] rfl (by decide) (by decide))
          · have hs := hs.kn 16 (c := false) (fun _ => rfl) (show ((decide (a0.Op = 17)) && (decide (a0.Fun ≥ 0))) = false from Bool.eq_false_iff.2 hc7)
            refine hs.gf (fun _ => rfl) (by decide) fun _ hs => ?_
            refine hs.gf (fun _ => rfl) (by decide) fun _ hs => ?_
            refine hs.gf (fun _ => rfl) (by decide) fun _ hs => ?_
            refine hs.gf (fun _ => rfl) (by decide) fun _ hs => ?_
            refine hs.gf (fun _ => rfl) (by decide) fun _ hs => ?_
            refine hs.gt (fun _ => rfl) ?_
            refine hs.q (fun _ _ _ => rfl) fun _ hs => ?_
            exact RWp.nil ((hs.as 22 (x := .c (.bool false)) (y := .c (.bool (((decide (a0.Op = 17)) && (decide (a0.Fun ≥ 0))) && (decide (a0.Fun < (a1.length : Int)))))) (fun _ => rfl) (by rw [(show ((decide (a0.Op = 17)) && (decide (a0.Fun ≥ 0))) = false from Bool.eq_false_iff.2 hc7)]; rfl)).leave (fun _ => rfl) [] rfl (by decide) (by decide))
        · refine hs.gt (fun _ => rfl) ?_
          refine hs.q (fun _ _ _ => rfl) fun _ hs => ?_
          obtain ⟨p9, h14, h⟩ := bind_some h
          refine RWp.segD hs 7 [(4, .c (.bool false)), (7, .c (.bool false)), (30, .c (.bool p9))] [29] ?_ fun _ _ hs => ?_
          · clear h
            have h := h14
            clear h14
            by_cases hc8 : (((decide (a0.Op = 17)) && (decide (a0.Fun ≥ 0))) && (decide (a0.Fun < (a1.length : Int)))) = true
            · rw [if_pos hc8] at h
              have hs := hs.kn 23 (c := true) (fun _ => rfl) (show (((decide (a0.Op = 17)) && (decide (a0.Fun ≥ 0))) && (decide (a0.Fun < (a1.length : Int)))) = true from hc8)
              refine hs.gt (fun _ => rfl) ?_
              refine hs.q (fun _ _ _ => rfl) fun _ hs => ?_
              refine hs.gt (fun _ => rfl) ?_
              refine hs.q (fun _ _ _ => rfl) fun _ hs => ?_
              refine hs.gt (fun _ => rfl) ?_
              refine hs.q (fun _ _ _ => rfl) fun _ hs => ?_
              obtain ⟨v10, h11, h⟩ := bind_some h
              refine hs.gt (fun _ => rfl) ?_
              refine hs.idxr (enc := eEffect) (fun _ _ _ => rfl) (fun _ _ _ => rfl) h11 rfl fun _ hs => ?_
              refine hs.gt (fun _ => rfl) ?_
              refine hs.q (fun _ _ _ => rfl) fun _ hs => ?_
              obtain ⟨r12, h13, h⟩ := bind_some h
              refine hs.gt (fun _ => rfl) ?_
              refine hs.call (x := .c (.bool r12)) (effect_Still_w h13) (fun _ _ _ => rfl) (fun _ => rfl) fun _ hs => ?_
              refine hs.gt (fun _ => rfl) ?_
              refine hs.q (fun _ _ _ => rfl) fun _ hs => ?_
              have h := Option.some.inj h
              subst h
              exact RWp.nil (hs.leave (fun _ => rfl) [] rfl (by decide) (by decide))
            · rw [if_neg hc8] at h
              have hs := hs.kn 23 (c := false) (fun _ => rfl) (show (((decide (a0.Op = 17)) && (decide (a0.Fun ≥ 0))) && (decide (a0.Fun < (a1.length : Int)))) = false from Bool.eq_false_iff.2 hc8)
              refine hs.gf (fun _ => rfl) (by decide) fun _ hs => ?_
              refine hs.gf (fun _ => rfl) (by decide) fun _ hs => ?_
              refine hs.gf (fun _ => rfl) (by decide) fun _ hs => ?_
              refine hs.gf (fun _ => rfl) (by decide) fun _ hs => ?_
              refine hs.gf (fun _ => rfl) (by decide) fun _ hs => ?_
              refine hs.gf (fun _ => rfl) (by decide) fun _ hs => ?_
              refine hs.gt (fun _ => rfl) ?_
              refine hs.q (fun _ _ _ => rfl) fun _ hs => ?_
              have h := Option.some.inj h
              subst h
              exact RWp.nil (hs.leave (fun _ => rfl) [] rfl (by decide) (by decide))
          · refine RWp.cons (hs.q (fun _ _ _ => rfl) fun _ hs => ?_)
            have h := Option.some.inj h
            subst h
            exact RWp.nil (hs.leave (fun _ => rfl) [] rfl (by decide) (by decide))
  · refine RWp.cons (hs.q (fun _ _ _ => rfl) fun _ hs => ?_)
    refine RWp.nil ?_
    refine Wp.ret ?_
    have h := Option.some.inj h
    subst h
    have hr : Rt effect_Fixed.fi.res (effect_Fixed_rv p5) Ex.ret _ := hs.rt (.inr rfl) fun _ _ _ => rfl
    exact hr
def law15_EffectKinds_rv (r : Bool) : List RV := [(false, [.bool r])]
noncomputable def law15_EffectKinds_f (a0 : Instr) (a1 : (List Effect)) (a2 : Effect) : Option Bool :=
  law15_up_f.bind fun r3 =>
  if ((decide ((a1.length : Int) > 100)) || (decide ((a0.Args.length : Int) > 300))) = true then
    some r3
  else
    (effect_Quiet_f a2).bind fun r7 =>
    (ref15_Quiet_f a2).bind fun r9 =>
    ((if (r7 != r9) = true then
        some true
      else
        (effect_Still_f a2).bind fun r13 =>
        (ref15_Still_f a2).bind fun r15 =>
        some (r13 != r15)) : Option Bool).bind fun p12 =>
    if p12 = true then
      some false
    else
      ((if r3 = true then
          (effect_Removable_f a0 a1).bind fun r21 =>
          (ref15_Removable_f a0 a1 false).bind fun r23 =>
          some (r21 == r23)
        else
          some false) : Option Bool).bind fun p20 =>
      ((if p20 = true then
          (effect_Fixed_f a0 a1).bind fun r28 =>
          (ref15_Removable_f a0 a1 true).bind fun r30 =>
          some (r28 == r30)
        else
          some false) : Option Bool).bind fun p27 =>
      some p27
theorem law15_EffectKinds_w {a0 : Instr} {a1 : (List Effect)} {a2 : Effect} {r : Bool} (h : law15_EffectKinds_f a0 a1 a2 = some r) : Pure tab XX F.law15_EffectKinds [.a (eInstr_r a0), .c (.ro (a1.map eEffect)), .a (eEffect a2)] (law15_EffectKinds_rv r) := by
  refine Pure.mk (fi := law15_EffectKinds.fi) rfl rfl rfl fun σ hs => ?_
  unfold law15_EffectKinds_f at h
  refine Wp.seq ?_
  refine Wp.reg ?_
  have hs := hs.tick
  refine RWp.cons (hs.boxr (cs := eInstr_r a0) (ds := eInstr_r a0) (fun _ _ _ => rfl) rfl rfl fun _ hs => ?_)
  refine RWp.cons (hs.boxr (cs := eEffect a2) (ds := eEffect a2) (fun _ _ _ => rfl) rfl rfl fun _ hs => ?_)
  refine RWp.cons (hs.q (fun _ _ _ => rfl) fun _ hs => ?_)
  refine RWp.nil ?_
  refine Wp.seq ?_
  refine Wp.reg ?_
  have hs := hs.tick
  obtain ⟨r3, h4, h⟩ := bind_some h
  refine RWp.cons (hs.call (x := .c (.bool r3)) (law15_up_w h4) (fun _ _ _ => rfl) (fun _ => rfl) fun _ hs => ?_)
  refine RWp.cons (hs.q (fun _ _ _ => rfl) fun _ hs => ?_)
  refine RWp.nil ?_
  refine Wp.seq ?_
  refine Wp.seq ?_
  refine Wp.reg ?_
  have hs := hs.tick
  refine RWp.cons (hs.q (fun _ _ _ => rfl) fun _ hs => ?_)
  refine RWp.cons (hs.lenr (fun _ _ _ => rfl) fun _ hs => ?_)
  refine RWp.cons (hs.q (x := .c (.bool (decide ((a1.length : Int) > 100)))) (fun _ _ _ => rfl) fun _ hs => ?_)
  refine RWp.cons (hs.q (fun _ _ _ => rfl) fun _ hs => ?_)
  refine RWp.segD hs 5 [(1, .c (.ro (a1.map eEffect))), (3, .c (.ar (eInstr_r a0) 0)), (5, .c (.ar (eEffect a2) 0)), (7, .c (.bool r3)), (17, .c (.bool ((decide ((a1.length : Int) > 100)) || (decide ((a0.Args.length : Int) > 300)))))] [] ?_ fun _ _ hs => ?_
  · by_cases hc5 : (a1.length : Int) > 100
    · have hs := hs.kn 12 (c := true) (fun _ => rfl) (show (decide ((a1.length : Int) > 100)) = true from decide_eq_true hc5)
      refine hs.gf (fun _ => rfl) (by decide) fun _ hs => ?_
      refine hs.gf (fun _ => rfl) (by decide) fun _ hs => ?_
      refine hs.gf (fun _ => rfl) (by decide) fun _ hs => ?_
      refine hs.gf (fun _ => rfl) (by decide) fun _ hs => ?_
      refine RWp.cons (hs.q (fun _ _ _ => rfl) fun _ hs => ?_)
      exact RWp.nil ((hs.as 17 (x := .c (.bool true)) (y := .c (.bool ((decide ((a1.length : Int) > 100)) || (decide ((a0.Args.length : Int) > 300))))) (fun _ => rfl) (by rw [(show (decide ((a1.length : Int) > 100)) = true from decide_eq_true hc5)]; rfl)).leave (fun _ => rfl) [] rfl (by decide) (by decide))
    · have hs := hs.kn 12 (c := false) (fun _ => rfl) (show (decide ((a1.length : Int) > 100)) = false from decide_eq_false hc5)
      refine hs.gt (fun _ => rfl) ?_
      refine hs.q (fun _ _ _ => rfl) fun _ hs => ?_
      refine hs.gt (fun _ => rfl) ?_
      refine hs.q (fun _ _ _ => rfl) fun _ hs => ?_
      refine hs.gt (fun _ => rfl) ?_
      refine hs.lenr (fun _ _ _ => rfl) fun _ hs => ?_
      refine hs.gt (fun _ => rfl) ?_
      refine hs.q (x := .c (.bool (decide ((a0.Args.length : Int) > 300)))) (fun _ _ _ => rfl) fun _ hs => ?_
      refine RWp.cons (hs.q (fun _ _ _ => rfl) fun _ hs => ?_)
      exact RWp.nil ((hs.as 17 (x := .c (.bool (decide ((a0.Args.length : Int) > 300)))) (y := .c (.bool ((decide ((a1.length : Int) > 100)) || (decide ((a0.Args.length : Int) > 300))))) (fun _ => rfl) (by rw [(show (decide ((a1.length : Int) > 100)) = false from decide_eq_false hc5)]; rfl)).leave (fun _ => rfl) [] rfl (by decide) (by decide))
  · refine RWp.nil ?_
    by_cases hc6 : ((decide ((a1.length : Int) > 100)) || (decide ((a0.Args.length : Int) > 300))) = true
    · rw [if_pos hc6] at h
      refine Wp.condT hs (fun _ _ _ => rfl) (show ((decide ((a1.length : Int) > 100)) || (decide ((a0.Args.length : Int) > 300))) = true from hc6) ?_
      refine Wp.seq ?_
      refine Wp.reg ?_
      have hs := hs.tick
      iterate 2 refine RWp.cons (hs.q (fun _ _ _ => rfl) fun _ hs => ?_)
      refine RWp.nil ?_
      refine Wp.ret ?_
      have h := Option.some.inj h
      subst h
      have hr : Rt law15_EffectKinds.fi.res (law15_EffectKinds_rv r3) Ex.ret _ := hs.rt (.inr rfl) fun _ _ _ => rfl
      exact hr
    · rw [if_neg hc6] at h
      refine Wp.condF hs (fun _ _ _ => rfl) (show ((decide ((a1.length : Int) > 100)) || (decide ((a0.Args.length : Int) > 300))) = false from Bool.eq_false_iff.2 hc6) ?_
      refine Wp.skip ?_
      refine Wp.seq ?_
      refine Wp.seq ?_
      refine Wp.reg ?_
      have hs := hs.tick
      iterate 2 refine RWp.cons (hs.q (fun _ _ _ => rfl) fun _ hs => ?_)
      obtain ⟨r7, h8, h⟩ := bind_some h
      refine RWp.cons (hs.call (x := .c (.bool r7)) (effect_Quiet_w h8) (fun _ _ _ => rfl) (fun _ => rfl) fun _ hs => ?_)
      obtain ⟨r9, h10, h⟩ := bind_some h
      refine RWp.cons (hs.call (x := .c (.bool r9)) (ref15_Quiet_w h10) (fun _ _ _ => rfl) (fun _ => rfl) fun _ hs => ?_)
      refine RWp.cons (hs.q (x := .c (.bool (r7 != r9))) (fun _ _ _ => rfl) fun _ hs => ?_)
      refine RWp.cons (hs.q (fun _ _ _ => rfl) fun _ hs => ?_)
      obtain ⟨p12, h17, h⟩ := bind_some h
      refine RWp.segD hs 6 [(1, .c (.ro (a1.map eEffect))), (3, .c (.ar (eInstr_r a0) 0)), (7, .c (.bool r3)), (30, .c (.bool p12))] [26, 28] ?_ fun _ _ hs => ?_
      · clear h
        have h := h17
        clear h17
        by_cases hc11 : (r7 != r9) = true
        · rw [if_pos hc11] at h
          have hs := hs.kn 24 (c := true) (fun _ => rfl) (show (r7 != r9) = true from hc11)
          refine hs.gf (fun _ => rfl) (by decide) fun _ hs => ?_
          refine hs.gf (fun _ => rfl) (by decide) fun _ hs => ?_
          refine hs.gf (fun _ => rfl) (by decide) fun _ hs => ?_
          refine hs.gf (fun _ => rfl) (by decide) fun _ hs => ?_
          refine hs.gf (fun _ => rfl) (by decide) fun _ hs => ?_
          refine RWp.cons (hs.q (fun _ _ _ => rfl) fun _ hs => ?_)
          have h := Option.some.inj h
          subst h
          exact RWp.nil (hs.leave (fun _ => rfl) [] rfl (by decide) (by decide))
        · rw [if_neg hc11] at h
          have hs := hs.kn 24 (c := false) (fun _ => rfl) (show (r7 != r9) = false from Bool.eq_false_iff.2 hc11)
          refine hs.gt (fun _ => rfl) ?_
          refine hs.q (fun _ _ _ => rfl) fun _ hs => ?_
          refine hs.gt (fun _ => rfl) ?_
          refine hs.q (fun _ _ _ => rfl) fun _ hs => ?_
          obtain ⟨r13, h14, h⟩ := bind_some h
          refine hs.gt (fun _ => rfl) ?_
          refine hs.call (x := .c (.bool r13)) (effect_Still_w h14) (fun _ _ _ => rfl) (fun _ => rfl) fun _ hs => ?_
          obtain ⟨r15, h16, h⟩ := bind_some h
          refine hs.gt (fun _ => rfl) ?_
          refine hs.call (x := .c (.bool r15)) (ref15_Still_w h16) (fun _ _ _ => rfl) (fun _ => rfl) fun _ hs => ?_
          refine hs.gt (fun _ => rfl) ?_
          refine hs.q (x := .c (.bool (r13 != r15))) (fun _ _ _ => rfl) fun _ hs => ?_
          refine RWp.cons (hs.q (fun _ _ _ => rfl) fun _ hs => ?_)
          have h := Option.some.inj h
          subst h
          exact RWp.nil (hs.leave (fun _ => rfl) [] rfl (by decide) (by decide))
      · refine RWp.nil ?_
        by_cases hc18 : p12 = true
        · rw [if_pos hc18] at h
          refine Wp.condT hs (fun _ _ _ => rfl) (show p12 = true from hc18) ?_
          refine Wp.seq ?_
          refine Wp.reg ?_
          have hs := hs.tick
          refine RWp.cons (hs.q (fun _ _ _ => rfl) fun _ hs => ?_)
          refine RWp.nil ?_
          refine Wp.ret ?_
          have h := Option.some.inj h
          subst h
          have hr : Rt law15_EffectKinds.fi.res (law15_EffectKinds_rv false) Ex.ret _ := hs.rt (.inr rfl) fun _ _ _ => rfl
          exact hr
        · rw [if_neg hc18] at h
          refine Wp.condF hs (fun _ _ _ => rfl) (show p12 = false from Bool.eq_false_iff.2 hc18) ?_
          refine Wp.skip ?_
          refine Wp.seq ?_
          refine Wp.reg ?_
          have hs := hs.tick
          iterate 2 refine RWp.cons (hs.q (fun _ _ _ => rfl) fun _ hs => ?_)
          obtain ⟨p20, h25, h⟩ := bind_some h
          refine RWp.segD hs 8 [(1, .c (.ro (a1.map eEffect))), (3, .c (.ar (eInstr_r a0) 0)), (40, .c (.bool p20))] [35, 38] ?_ fun _ _ hs => ?_
          · clear h
            have h := h25
            clear h25
            by_cases hc19 : r3 = true
            · rw [if_pos hc19] at h
              have hs := hs.kn 32 (c := true) (fun _ => rfl) (show r3 = true from hc19)
              refine hs.gt (fun _ => rfl) ?_
              refine hs.q (fun _ _ _ => rfl) fun _ hs => ?_
              refine hs.gt (fun _ => rfl) ?_
              refine hs.q (fun _ _ _ => rfl) fun _ hs => ?_
              refine hs.gt (fun _ => rfl) ?_
              refine hs.q (fun _ _ _ => rfl) fun _ hs => ?_
              refine hs.gt (fun _ => rfl) ?_
              refine hs.q (fun _ _ _ => rfl) fun _ hs => ?_
              obtain ⟨r21, h22, h⟩ := bind_some h
              refine hs.gt (fun _ => rfl) ?_
              refine hs.call (x := .c (.bool r21)) (effect_Removable_w h22) (fun _ _ _ => rfl) (fun _ => rfl) fun _ hs => ?_
              obtain ⟨r23, h24, h⟩ := bind_some h
              refine hs.gt (fun _ => rfl) ?_
              refine hs.call (x := .c (.bool r23)) (ref15_Removable_w h24) (fun _ _ _ => rfl) (fun _ => rfl) fun _ hs => ?_
              refine hs.gt (fun _ => rfl) ?_
              refine hs.q (x := .c (.bool (r21 == r23))) (fun _ _ _ => rfl) fun _ hs => ?_
              refine RWp.cons (hs.q (fun _ _ _ => rfl) fun _ hs => ?_)
              have h := Option.some.inj h
              subst h
              exact RWp.nil (hs.leave (fun _ => rfl) [] rfl (by decide) (by decide))
            · rw [if_neg hc19] at h
              have hs := hs.kn 32 (c := false) (fun _ => rfl) (show r3 = false from Bool.eq_false_iff.2 hc19)
              refine hs.gf (fun _ => rfl) (by decide) fun _ hs => ?_
              refine hs.gf (fun _ => rfl) (by decide) fun _ hs => ?_
              refine hs.gf (fun _ => rfl) (by decide) fun _ hs => ?_
              refine hs.gf (fun _ => rfl) (by decide) fun _ hs => ?_
              refine hs.gf (fun _ => rfl) (by decide) fun _ hs => ?_
              refine hs.gf (fun _ => rfl) (by decide) fun _ hs => ?_
              refine hs.gf (fun _ => rfl) (by decide) fun _ hs => ?_
              refine RWp.cons (hs.q (fun _ _ _ => rfl) fun _ hs => ?_)
              have h := Option.some.inj h
              subst h
              exact RWp.nil (hs.leave (fun _ => rfl) [] rfl (by decide) (by decide))
          · refine RWp.cons (hs.q (fun _ _ _ => rfl) fun _ hs => ?_)
            obtain ⟨p27, h32, h⟩ := bind_some h
            refine RWp.segD hs 8 [(49, .c (.bool p27))] [44, 47] ?_ fun _ _ hs => ?_
            · clear h
              have h := h32
              clear h32
              by_cases hc26 : p20 = true
              · rw [if_pos hc26] at h
                have hs := hs.kn 41 (c := true) (fun _ => rfl) (show p20 = true from hc26)
                refine hs.gt (fun _ => rfl) ?_
                refine hs.q (fun _ _ _ => rfl) fun _ hs => ?_
                refine hs.gt (fun _ => rfl) ?_
                refine hs.q (fun _ _ _ => rfl) fun _ hs => ?_
                refine hs.gt (fun _ => rfl) ?_
                refine hs.q (fun _ _ _ => rfl) fun _ hs => ?_
                refine hs.gt (fun _ => rfl) ?_
                refine hs.q (fun _ _ _ => rfl) fun _ hs => ?_
                obtain ⟨r28, h29, h⟩ := bind_some h
                refine hs.gt (fun _ => rfl) ?_
                refine hs.call (x := .c (.bool r28)) (effect_Fixed_w h29) (fun _ _ _ => rfl) (fun _ => rfl) fun _ hs => ?_
                obtain ⟨r30, h31, h⟩ := bind_some h
                refine hs.gt (fun _ => rfl) ?_
                refine hs.call (x := .c (.bool r30)) (ref15_Removable_w h31) (fun _ _ _ => rfl) (fun _ => rfl) fun _ hs => ?_
                refine hs.gt (fun _ => rfl) ?_
                refine hs.q (x := .c (.bool (r28 == r30))) (fun _ _ _ => rfl) fun _ hs => ?_
                refine RWp.cons (hs.q (fun _ _ _ => rfl) fun _ hs => ?_)
                have h := Option.some.inj h
                subst h
                exact RWp.nil (hs.leave (fun _ => rfl) [] rfl (by decide) (by decide))
              · rw [if_neg hc26] at h
                have hs := hs.kn 41 (c := false) (fun _ => rfl) (show p20 = false from Bool.eq_false_iff.2 hc26)
                refine hs.gf (fun _ => rfl) (by decide) fun _ hs => ?_
                refine hs.gf (fun _ => rfl) (by decide) fun _ hs => ?_
                refine hs.gf (fun _ => rfl) (by decide) fun _ hs => ?_
                refine hs.gf (fun _ => rfl) (by decide) fun _ hs => ?_
                refine hs.gf (fun _ => rfl) (by decide) fun _ hs => ?_
                refine hs.gf (fun _ => rfl) (by decide) fun _ hs => ?_
                refine hs.gf (fun _ => rfl) (by decide) fun _ hs => ?_
                refine RWp.cons (hs.q (fun _ _ _ => rfl) fun _ hs => ?_)
                have h := Option.some.inj h
                subst h
                exact RWp.nil (hs.leave (fun _ => rfl) [] rfl (by decide) (by decide))
            · refine RWp.cons (hs.q (fun _ _ _ => rfl) fun _ hs => ?_)
              refine RWp.nil ?_
              refine Wp.ret ?_
              have h := Option.some.inj h
              subst h
              have hr : Rt law15_EffectKinds.fi.res (law15_EffectKinds_rv p27) Ex.ret _ := hs.rt (.inr rfl) fun _ _ _ => rfl
              exact hr
end Go.Fw.K

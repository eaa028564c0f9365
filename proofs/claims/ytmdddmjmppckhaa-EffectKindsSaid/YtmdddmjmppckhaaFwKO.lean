/- A part of the proof: plain Lean functions for the Go functions, and the machine that computes them. -/
import Derived.Test.YtmdddmjmppckhaaFwKI
import Derived.Test.YtmdddmjmppckhaaFwProg
import Derived.Test.YtmdddmjmppckhaaProg
import Derived.KernelRfl
namespace Go.Fw.K
open Go.Proofs
theorem law15_EffectKinds_ok : law15_EffectKinds.fi.ok Try.prog 6 = true := by decide +kernel
theorem check_Module_ok : check_Module.fi.ok Try.prog 13 = true := by decide +kernel
theorem law15_up_ok : law15_up.fi.ok Try.prog 15 = true := by decide +kernel
theorem effect_Effects_ok : effect_Effects.fi.ok Try.prog 16 = true := by decide +kernel
theorem effect_Quiet_ok : effect_Quiet.fi.ok Try.prog 19 = true := by decide +kernel
theorem ref15_Quiet_ok : ref15_Quiet.fi.ok Try.prog 20 = true := by decide +kernel
theorem effect_Still_ok : effect_Still.fi.ok Try.prog 21 = true := by decide +kernel
theorem ref15_Still_ok : ref15_Still.fi.ok Try.prog 22 = true := by decide +kernel
theorem effect_Removable_ok : effect_Removable.fi.ok Try.prog 23 = true := by decide +kernel
theorem ref15_Removable_ok : ref15_Removable.fi.ok Try.prog 24 = true := by decide +kernel
theorem effect_Fixed_ok : effect_Fixed.fi.ok Try.prog 25 = true := by decide +kernel
theorem check_Ahead_ok : check_Ahead.fi.ok Try.prog 31 = true := by decide +kernel
theorem check_Func_ok : check_Func.fi.ok Try.prog 36 = true := by decide +kernel
theorem calls_Calls_ok : calls_Calls.fi.ok Try.prog 39 = true := by decide +kernel
theorem effect_own_ok : effect_own.fi.ok Try.prog 40 = true := by decide +kernel
theorem calls_Rings_ok : calls_Rings.fi.ok Try.prog 41 = true := by decide +kernel
theorem slices_Contains_int_int_ok : slices_Contains_int_int.fi.ok Try.prog 42 = true := by decide +kernel
theorem effect_joined_ok : effect_joined.fi.ok Try.prog 43 = true := by decide +kernel
theorem effect_plain_ok : effect_plain.fi.ok Try.prog 45 = true := by decide +kernel
theorem ref01_Args_ok : ref01_Args.fi.ok Try.prog 46 = true := by decide +kernel
theorem graph_Reached_ok : graph_Reached.fi.ok Try.prog 64 = true := by decide +kernel
theorem slices_Index_int_int_ok : slices_Index_int_int.fi.ok Try.prog 69 = true := by decide +kernel
theorem check_small_ok : check_small.fi.ok Try.prog 70 = true := by decide +kernel
theorem check_typed_ok : check_typed.fi.ok Try.prog 71 = true := by decide +kernel
theorem check_ends_ok : check_ends.fi.ok Try.prog 72 = true := by decide +kernel
theorem check_looker_block_ok : check_looker_block.fi.ok Try.prog 73 = true := by decide +kernel
theorem effect_turns_ok : effect_turns.fi.ok Try.prog 76 = true := by decide +kernel
theorem effect_instr_ok : effect_instr.fi.ok Try.prog 77 = true := by decide +kernel
theorem calls_found_ok : calls_found.fi.ok Try.prog 78 = true := by decide +kernel
theorem arith_Args_ok : arith_Args.fi.ok Try.prog 83 = true := by decide +kernel
theorem arith_Traps_ok : arith_Traps.fi.ok Try.prog 84 = true := by decide +kernel
theorem graph_Next_ok : graph_Next.fi.ok Try.prog 90 = true := by decide +kernel
theorem graph_Order_ok : graph_Order.fi.ok Try.prog 96 = true := by decide +kernel
theorem graph_order_ok : graph_order.fi.ok Try.prog 102 = true := by decide +kernel
theorem check_typed_1_ok : check_typed_1.fi.ok Try.prog 106 = true := by decide +kernel
theorem check_value_ok : check_value.fi.ok Try.prog 107 = true := by decide +kernel
theorem slices_ContainsFunc_int_int_ok : slices_ContainsFunc_int_int.fi.ok Try.prog 108 = true := by decide +kernel
theorem check_looker_phi_ok : check_looker_phi.fi.ok Try.prog 109 = true := by decide +kernel
theorem check_looker_instr_ok : check_looker_instr.fi.ok Try.prog 110 = true := by decide +kernel
theorem check_looker_end_ok : check_looker_end.fi.ok Try.prog 111 = true := by decide +kernel
theorem effect_turns_1_ok : effect_turns_1.fi.ok Try.prog 114 = true := by decide +kernel
theorem calls_finder_visit_ok : calls_finder_visit.fi.ok Try.prog 115 = true := by decide +kernel
theorem graph_order_1_ok : graph_order_1.fi.ok Try.prog 124 = true := by decide +kernel
theorem slices_Reverse_int_int_ok : slices_Reverse_int_int.fi.ok Try.prog 125 = true := by decide +kernel
theorem slices_IndexFunc_int_int_ok : slices_IndexFunc_int_int.fi.ok Try.prog 126 = true := by decide +kernel
theorem check_looker_has_ok : check_looker_has.fi.ok Try.prog 127 = true := by decide +kernel
theorem check_looker_are_ok : check_looker_are.fi.ok Try.prog 128 = true := by decide +kernel
theorem check_looker_arity_ok : check_looker_arity.fi.ok Try.prog 129 = true := by decide +kernel
theorem check_looker_fits_ok : check_looker_fits.fi.ok Try.prog 130 = true := by decide +kernel
theorem check_looker_has_1_ok : check_looker_has_1.fi.ok Try.prog 152 = true := by decide +kernel
theorem check_looker_are_1_ok : check_looker_are_1.fi.ok Try.prog 153 = true := by decide +kernel
theorem check_looker_call_ok : check_looker_call.fi.ok Try.prog 154 = true := by decide +kernel
set_option maxRecDepth 100000 in
theorem tab_ok : ∀ f fi, tab f = some fi → fi.ok Try.prog f = true := by
  intro f fi h; unfold tab at h; split at h
  · injection h with h; subst h; exact law15_EffectKinds_ok
  · injection h with h; subst h; exact check_Module_ok
  · injection h with h; subst h; exact law15_up_ok
  · injection h with h; subst h; exact effect_Effects_ok
  · injection h with h; subst h; exact effect_Quiet_ok
  · injection h with h; subst h; exact ref15_Quiet_ok
  · injection h with h; subst h; exact effect_Still_ok
  · injection h with h; subst h; exact ref15_Still_ok
  · injection h with h; subst h; exact effect_Removable_ok
  · injection h with h; subst h; exact ref15_Removable_ok
  · injection h with h; subst h; exact effect_Fixed_ok
  · injection h with h; subst h; exact check_Ahead_ok
  · injection h with h; subst h; exact check_Func_ok
  · injection h with h; subst h; exact calls_Calls_ok
  · injection h with h; subst h; exact effect_own_ok
  · injection h with h; subst h; exact calls_Rings_ok
  · injection h with h; subst h; exact slices_Contains_int_int_ok
  · injection h with h; subst h; exact effect_joined_ok
  · injection h with h; subst h; exact effect_plain_ok
  · injection h with h; subst h; exact ref01_Args_ok
  · injection h with h; subst h; exact graph_Reached_ok
  · injection h with h; subst h; exact slices_Index_int_int_ok
  · injection h with h; subst h; exact check_small_ok
  · injection h with h; subst h; exact check_typed_ok
  · injection h with h; subst h; exact check_ends_ok
  · injection h with h; subst h; exact check_looker_block_ok
  · injection h with h; subst h; exact effect_turns_ok
  · injection h with h; subst h; exact effect_instr_ok
  · injection h with h; subst h; exact calls_found_ok
  · injection h with h; subst h; exact arith_Args_ok
  · injection h with h; subst h; exact arith_Traps_ok
  · injection h with h; subst h; exact graph_Next_ok
  · injection h with h; subst h; exact graph_Order_ok
  · injection h with h; subst h; exact graph_order_ok
  · injection h with h; subst h; exact check_typed_1_ok
  · injection h with h; subst h; exact check_value_ok
  · injection h with h; subst h; exact slices_ContainsFunc_int_int_ok
  · injection h with h; subst h; exact check_looker_phi_ok
  · injection h with h; subst h; exact check_looker_instr_ok
  · injection h with h; subst h; exact check_looker_end_ok
  · injection h with h; subst h; exact effect_turns_1_ok
  · injection h with h; subst h; exact calls_finder_visit_ok
  · injection h with h; subst h; exact graph_order_1_ok
  · injection h with h; subst h; exact slices_Reverse_int_int_ok
  · injection h with h; subst h; exact slices_IndexFunc_int_int_ok
  · injection h with h; subst h; exact check_looker_has_ok
  · injection h with h; subst h; exact check_looker_are_ok
  · injection h with h; subst h; exact check_looker_arity_ok
  · injection h with h; subst h; exact check_looker_fits_ok
  · injection h with h; subst h; exact check_looker_has_1_ok
  · injection h with h; subst h; exact check_looker_are_1_ok
  · injection h with h; subst h; exact check_looker_call_ok
  · cases h
end Go.Fw.K

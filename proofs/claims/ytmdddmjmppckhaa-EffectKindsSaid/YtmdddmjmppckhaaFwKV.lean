/- A part of the proof: plain Lean functions for the Go functions, and the machine that computes them. -/
import Derived.Test.YtmdddmjmppckhaaFwKF
import Derived.Test.YtmdddmjmppckhaaFwKO
import Derived.Test.YtmdddmjmppckhaaFwKB
import Derived.Test.YtmdddmjmppckhaaFwKL
import Derived.Test.YtmdddmjmppckhaaChecked
namespace Go.Fw.K
open Go.Proofs
theorem mixed : Try.prog.follows .mixedOrders = true := Try.laysSort.mixed
theorem enters80 : ∀ args w, (callFunc 80 args).run Try.prog w = .ok (.enter 80 args) w := enters_of Try.func80 (by kernel_rfl) rfl
theorem XX_valid : Valid Try.prog XX := by
  intro f args ep nx h rvs ep' nx' h' hx w G E0 vs hs hv
  unfold XX at hx
  split at hx
  · rename_i e; subst e; exact sort_ok Try.laysSort hx hs hv
  split at hx
  · rename_i e; subst e; exact compact_ok Try.laysCompact hx hs hv
  split at hx
  · rename_i e; subst e
    obtain ⟨i0, hi0⟩ : ∃ i, Try.prog.info? 3 = some i := Option.isSome_iff_exists.1 (by kernel_rfl)
    have hk : (Try.prog.info? 3).map (fun i => (i.size, i.bytes, i.zero)) = some (1, 8, some (.int .i64 0)) := by kernel_rfl
    rw [hi0] at hk
    simp only [Option.map_some, Option.some.injEq, Prod.mk.injEq] at hk
    exact clone_ok Try.laysClone i0 (.int .i64 0) 1 8 hi0 hk.2.2 hk.1 hk.2.1 rfl (by omega) (fun w => Try.sizeOf3 w) hx hs hv
  split at hx
  · rename_i e; subst e; exact sortF_ok Try.laysSortF enters80 byFirst hx hs hv
  · cases hx
theorem XX_callable : Callable Try.prog XX := by
  intro f args ep nx h r hx
  unfold XX at hx
  split at hx
  · rename_i e; subst e; decide +kernel
  split at hx
  · rename_i e; subst e; decide +kernel
  split at hx
  · rename_i e; subst e; decide +kernel
  split at hx
  · rename_i e; subst e; decide +kernel
  · cases hx
theorem valid (n : Nat) : Valid Try.prog (orc tab XX n) := (orc_ok mixed tab_ok XX_valid XX_callable n).1
end Go.Fw.K

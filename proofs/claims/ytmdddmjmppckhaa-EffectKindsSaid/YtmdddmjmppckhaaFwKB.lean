/- A part of the proof: plain Lean functions for the Go functions, and the machine that computes them. -/
import Derived.Test.YtmdddmjmppckhaaFwXt
import Derived.Test.YtmdddmjmppckhaaProg
import Derived.Shelf.RegionOpenPlain
import Derived.WalkKit
import Derived.Deep.QuietTactic
import Derived.BigQuiet
namespace Go.Fw.K
open Go.Proofs Go.Shelf Go.RowKit
set_option maxHeartbeats 1000000 in
theorem byFirst : ByFirst Try.prog 80 := by
  intro W b1 o1 n1 c1 b2 o2 n2 c2 x y h1 h2 hx hy rx ry
  have hw : IntKind.i64.wrap (x - y) = x - y := by rw [IntKind.wrap_i64]; omega
  go_enter Try.func80, Try.ntmps80
  go_wp2
  go_quiet (fail)
  all_goals try go_wp2
  go_ret
  exact ⟨rfl, _, rfl⟩
end Go.Fw.K

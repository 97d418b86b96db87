/- Counting. -/
import Derived.Test.YtjfkhhfdfebpeaaGreatDoorEngT
import Derived.Test.YtjfkhhfdfebpeaaGreatDoorEngTab
import Derived.Test.YtjfkhhfdfebpeaaGreatDoorEngZ
set_option linter.all false
set_option linter.unusedVariables false
set_option linter.unusedSimpArgs false
set_option maxRecDepth 100000
set_option maxHeartbeats 4000000
namespace Eng
open Go
section
variable {R : RProg} {G : Nat → AV}
theorem call3 (hR : Has R G c3) (rs : List (List PV)) : (Lim R G).call 3 [.pl (.sl 1 rs)] [] = some (.pl (.bool (decide (rs.length ≤ 500))), []) := by
  refine call_of (hR.at 3 (by kernel_rfl) tab3) (by rfl) ?_
  repeat' (first | refine uU ?_ | refine uV fun z hz => ?_ | refine uW fun zs hzs => ?_ | refine dq (fun hq => ?_) fun hq => ?_)
  · (refine fin_ret ?_; rw [decide_eq_true (by omega)]; cbv)
  · (refine fin_ret ?_; rw [decide_eq_false (by omega)]; cbv)
end
end Eng


/- The closed facts on the row of ClockKeeps, together. (Printed by a program of mine.) -/
import Derived.Test.YtiglgfonhdfpmaaGreatClClockKeepsA
import Derived.Test.YtiglgfonhdfpmaaGreatClClockKeepsB
import Derived.Test.YtiglgfonhdfpmaaGreatClClockKeepsC
import Derived.Test.YtiglgfonhdfpmaaGreatClClockKeepsD
import Derived.Test.YtiglgfonhdfpmaaGreatClClockKeepsE
import Derived.Test.YtiglgfonhdfpmaaGreatRows
import Derived.JoinedOf
import Derived.KernelRfl
import Derived.JoinedCond
set_option linter.unusedVariables false
set_option linter.unusedSimpArgs false
namespace Go.Proofs.YtiglgfonhdfpmaaGreat
open Go

theorem clockKeeps_band {a b : Bool} (ha : a = true) (hb : b = true) : (a && b) = true := by rw [ha, hb]; rfl
set_option maxRecDepth 100000 in
theorem clockKeeps_closed : joinedFacts Tryz.pinned.checked.prog 9 Tryz.f9 ((Rows.OpenSpec.upto Rows.clockKeepsSpec).bare) (Rows.clockKeepsUptoRow) = true := by
  unfold joinedFacts
  exact (clockKeeps_band (clockKeeps_band (clockKeeps_band (clockKeeps_band (clockKeeps_band (clockKeeps_band (clockKeeps_band (clockKeeps_band (clockKeeps_band (clockKeeps_band (clockKeeps_band (clockKeeps_band (clockKeeps_band (clockKeeps_band (clockKeeps_band (clockKeeps_band (clockKeeps_band (clockKeeps_band (clockKeeps_band (clockKeeps_band (clockKeeps_band (clockKeeps_band (clockKeeps_band (clockKeeps_band (clockKeeps_band (clockKeeps_band (clockKeeps_band (clockKeeps_band (clockKeeps_band (clockKeeps_band (clockKeeps_band clockKeeps_cl0 clockKeeps_cl1) clockKeeps_cl2) clockKeeps_cl3) clockKeeps_cl4) clockKeeps_cl5) clockKeeps_cl6) clockKeeps_cl7) clockKeeps_cl8) clockKeeps_cl9) clockKeeps_cl10) clockKeeps_cl11) clockKeeps_cl12) clockKeeps_cl13) clockKeeps_cl14) clockKeeps_cl15) clockKeeps_cl16) clockKeeps_cl17) clockKeeps_cl18) clockKeeps_cl19) clockKeeps_cl20) clockKeeps_cl21) clockKeeps_cl22) clockKeeps_cl23) clockKeeps_cl24) clockKeeps_cl25) clockKeeps_cl26) clockKeeps_cl27) clockKeeps_cl28) clockKeeps_cl29) clockKeeps_cl30) clockKeeps_cl31)

end Go.Proofs.YtiglgfonhdfpmaaGreat

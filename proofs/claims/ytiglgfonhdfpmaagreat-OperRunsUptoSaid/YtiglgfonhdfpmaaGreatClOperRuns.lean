/- The closed facts on the row of OperRuns, together. (Printed by a program of mine.) -/
import Derived.Test.YtiglgfonhdfpmaaGreatClOperRunsA
import Derived.Test.YtiglgfonhdfpmaaGreatClOperRunsB
import Derived.Test.YtiglgfonhdfpmaaGreatClOperRunsC
import Derived.Test.YtiglgfonhdfpmaaGreatClOperRunsD
import Derived.Test.YtiglgfonhdfpmaaGreatClOperRunsE
import Derived.Test.YtiglgfonhdfpmaaGreatRows
import Derived.JoinedOf
import Derived.KernelRfl
import Derived.JoinedCond
set_option linter.unusedVariables false
set_option linter.unusedSimpArgs false
namespace Go.Proofs.YtiglgfonhdfpmaaGreat
open Go

theorem operRuns_band {a b : Bool} (ha : a = true) (hb : b = true) : (a && b) = true := by rw [ha, hb]; rfl
set_option maxRecDepth 100000 in
theorem operRuns_closed : joinedFacts Tryz.pinned.checked.prog 4 Tryz.f4 ((Rows.OpenSpec.upto Rows.operRunsSpec).bare) (Rows.operRunsUptoRow) = true := by
  unfold joinedFacts
  exact (operRuns_band (operRuns_band (operRuns_band (operRuns_band (operRuns_band (operRuns_band (operRuns_band (operRuns_band (operRuns_band (operRuns_band (operRuns_band (operRuns_band (operRuns_band (operRuns_band (operRuns_band (operRuns_band (operRuns_band (operRuns_band (operRuns_band (operRuns_band (operRuns_band (operRuns_band (operRuns_band (operRuns_band (operRuns_band (operRuns_band (operRuns_band (operRuns_band (operRuns_band (operRuns_band (operRuns_band operRuns_cl0 operRuns_cl1) operRuns_cl2) operRuns_cl3) operRuns_cl4) operRuns_cl5) operRuns_cl6) operRuns_cl7) operRuns_cl8) operRuns_cl9) operRuns_cl10) operRuns_cl11) operRuns_cl12) operRuns_cl13) operRuns_cl14) operRuns_cl15) operRuns_cl16) operRuns_cl17) operRuns_cl18) operRuns_cl19) operRuns_cl20) operRuns_cl21) operRuns_cl22) operRuns_cl23) operRuns_cl24) operRuns_cl25) operRuns_cl26) operRuns_cl27) operRuns_cl28) operRuns_cl29) operRuns_cl30) operRuns_cl31)

end Go.Proofs.YtiglgfonhdfpmaaGreat

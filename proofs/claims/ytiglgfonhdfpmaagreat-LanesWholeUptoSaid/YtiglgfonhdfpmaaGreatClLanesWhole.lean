/- The closed facts on the row of LanesWhole, together. (Printed by a program of mine.) -/
import Derived.Test.YtiglgfonhdfpmaaGreatClLanesWholeA
import Derived.Test.YtiglgfonhdfpmaaGreatClLanesWholeB
import Derived.Test.YtiglgfonhdfpmaaGreatClLanesWholeC
import Derived.Test.YtiglgfonhdfpmaaGreatClLanesWholeD
import Derived.Test.YtiglgfonhdfpmaaGreatClLanesWholeE
import Derived.Test.YtiglgfonhdfpmaaGreatRows
import Derived.JoinedOf
import Derived.KernelRfl
import Derived.JoinedCond
set_option linter.unusedVariables false
set_option linter.unusedSimpArgs false
namespace Go.Proofs.YtiglgfonhdfpmaaGreat
open Go

theorem lanesWhole_band {a b : Bool} (ha : a = true) (hb : b = true) : (a && b) = true := by rw [ha, hb]; rfl
set_option maxRecDepth 100000 in
theorem lanesWhole_closed : joinedFacts Tryz.pinned.checked.prog 8 Tryz.f8 ((Rows.OpenSpec.upto Rows.lanesWholeSpec).bare) (Rows.lanesWholeUptoRow) = true := by
  unfold joinedFacts
  exact (lanesWhole_band (lanesWhole_band (lanesWhole_band (lanesWhole_band (lanesWhole_band (lanesWhole_band (lanesWhole_band (lanesWhole_band (lanesWhole_band (lanesWhole_band (lanesWhole_band (lanesWhole_band (lanesWhole_band (lanesWhole_band (lanesWhole_band (lanesWhole_band (lanesWhole_band (lanesWhole_band (lanesWhole_band (lanesWhole_band (lanesWhole_band (lanesWhole_band (lanesWhole_band (lanesWhole_band (lanesWhole_band (lanesWhole_band (lanesWhole_band (lanesWhole_band (lanesWhole_band (lanesWhole_band (lanesWhole_band lanesWhole_cl0 lanesWhole_cl1) lanesWhole_cl2) lanesWhole_cl3) lanesWhole_cl4) lanesWhole_cl5) lanesWhole_cl6) lanesWhole_cl7) lanesWhole_cl8) lanesWhole_cl9) lanesWhole_cl10) lanesWhole_cl11) lanesWhole_cl12) lanesWhole_cl13) lanesWhole_cl14) lanesWhole_cl15) lanesWhole_cl16) lanesWhole_cl17) lanesWhole_cl18) lanesWhole_cl19) lanesWhole_cl20) lanesWhole_cl21) lanesWhole_cl22) lanesWhole_cl23) lanesWhole_cl24) lanesWhole_cl25) lanesWhole_cl26) lanesWhole_cl27) lanesWhole_cl28) lanesWhole_cl29) lanesWhole_cl30) lanesWhole_cl31)

end Go.Proofs.YtiglgfonhdfpmaaGreat

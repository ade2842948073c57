/- The closed facts on the row of OperSplit, together. (Printed by a program of mine.) -/
import Derived.Test.YtiglgfonhdfpmaaGreatClOperSplitA
import Derived.Test.YtiglgfonhdfpmaaGreatClOperSplitB
import Derived.Test.YtiglgfonhdfpmaaGreatClOperSplitC
import Derived.Test.YtiglgfonhdfpmaaGreatClOperSplitD
import Derived.Test.YtiglgfonhdfpmaaGreatClOperSplitE
import Derived.Test.YtiglgfonhdfpmaaGreatRows
import Derived.JoinedOf
import Derived.KernelRfl
import Derived.JoinedCond
set_option linter.unusedVariables false
set_option linter.unusedSimpArgs false
namespace Go.Proofs.YtiglgfonhdfpmaaGreat
open Go

theorem operSplit_band {a b : Bool} (ha : a = true) (hb : b = true) : (a && b) = true := by rw [ha, hb]; rfl
set_option maxRecDepth 100000 in
theorem operSplit_closed : joinedFacts Tryz.pinned.checked.prog 6 Tryz.f6 ((Rows.OpenSpec.upto Rows.operSplitSpec).bare) (Rows.operSplitUptoRow) = true := by
  unfold joinedFacts
  exact (operSplit_band (operSplit_band (operSplit_band (operSplit_band (operSplit_band (operSplit_band (operSplit_band (operSplit_band (operSplit_band (operSplit_band (operSplit_band (operSplit_band (operSplit_band (operSplit_band (operSplit_band (operSplit_band (operSplit_band (operSplit_band (operSplit_band (operSplit_band (operSplit_band (operSplit_band (operSplit_band (operSplit_band (operSplit_band (operSplit_band (operSplit_band (operSplit_band (operSplit_band (operSplit_band (operSplit_band operSplit_cl0 operSplit_cl1) operSplit_cl2) operSplit_cl3) operSplit_cl4) operSplit_cl5) operSplit_cl6) operSplit_cl7) operSplit_cl8) operSplit_cl9) operSplit_cl10) operSplit_cl11) operSplit_cl12) operSplit_cl13) operSplit_cl14) operSplit_cl15) operSplit_cl16) operSplit_cl17) operSplit_cl18) operSplit_cl19) operSplit_cl20) operSplit_cl21) operSplit_cl22) operSplit_cl23) operSplit_cl24) operSplit_cl25) operSplit_cl26) operSplit_cl27) operSplit_cl28) operSplit_cl29) operSplit_cl30) operSplit_cl31)

end Go.Proofs.YtiglgfonhdfpmaaGreat

/- The closed facts on the row of OperHolds, together. (Printed by a program of mine.) -/
import Derived.Test.YtiglgfonhdfpmaaGreatClOperHoldsA
import Derived.Test.YtiglgfonhdfpmaaGreatClOperHoldsB
import Derived.Test.YtiglgfonhdfpmaaGreatClOperHoldsC
import Derived.Test.YtiglgfonhdfpmaaGreatClOperHoldsD
import Derived.Test.YtiglgfonhdfpmaaGreatClOperHoldsE
import Derived.Test.YtiglgfonhdfpmaaGreatRows
import Derived.JoinedOf
import Derived.KernelRfl
set_option linter.unusedVariables false
set_option linter.unusedSimpArgs false
namespace Go.Proofs.YtiglgfonhdfpmaaGreat
open Go

theorem operHolds_band {a b : Bool} (ha : a = true) (hb : b = true) : (a && b) = true := by rw [ha, hb]; rfl
set_option maxRecDepth 100000 in
theorem operHolds_closed : joinedFacts Tryz.pinned.checked.prog 5 Tryz.f5 (Rows.operHoldsSpec) (Rows.operHoldsRow) = true := by
  unfold joinedFacts
  exact (operHolds_band (operHolds_band (operHolds_band (operHolds_band (operHolds_band (operHolds_band (operHolds_band (operHolds_band (operHolds_band (operHolds_band (operHolds_band (operHolds_band (operHolds_band (operHolds_band (operHolds_band (operHolds_band (operHolds_band (operHolds_band (operHolds_band (operHolds_band (operHolds_band (operHolds_band (operHolds_band (operHolds_band (operHolds_band (operHolds_band (operHolds_band (operHolds_band (operHolds_band (operHolds_band (operHolds_band operHolds_cl0 operHolds_cl1) operHolds_cl2) operHolds_cl3) operHolds_cl4) operHolds_cl5) operHolds_cl6) operHolds_cl7) operHolds_cl8) operHolds_cl9) operHolds_cl10) operHolds_cl11) operHolds_cl12) operHolds_cl13) operHolds_cl14) operHolds_cl15) operHolds_cl16) operHolds_cl17) operHolds_cl18) operHolds_cl19) operHolds_cl20) operHolds_cl21) operHolds_cl22) operHolds_cl23) operHolds_cl24) operHolds_cl25) operHolds_cl26) operHolds_cl27) operHolds_cl28) operHolds_cl29) operHolds_cl30) operHolds_cl31)

end Go.Proofs.YtiglgfonhdfpmaaGreat

/- Closed facts on the row of LanesWhole. (Printed by a program of mine.) -/
import Derived.Test.YtiglgfonhdfpmaaGreatRows
import Derived.JoinedOf
import Derived.KernelRfl
import Derived.JoinedCond
set_option linter.unusedVariables false
set_option linter.unusedSimpArgs false
namespace Go.Proofs.YtiglgfonhdfpmaaGreat
open Go
set_option linter.unusedVariables false

theorem lanesWhole_cl26 : (fun (P : Program) (f : FuncId) (fn : Func) (s : ChangeSpec) (c : OpenClaim) => ((c.lifted == P.liftsFinal) : Bool)) Tryz.pinned.checked.prog 8 Tryz.f8 ((Rows.OpenSpec.upto Rows.lanesWholeSpec).bare) (Rows.lanesWholeUptoRow) = true := by kernel_rfl

end Go.Proofs.YtiglgfonhdfpmaaGreat

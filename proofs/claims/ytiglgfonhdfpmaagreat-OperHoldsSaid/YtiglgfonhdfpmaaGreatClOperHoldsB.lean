/- Closed facts on the row of OperHolds. (Printed by a program of mine.) -/
import Derived.Test.YtiglgfonhdfpmaaGreatRows
import Derived.JoinedOf
import Derived.KernelRfl
set_option linter.unusedVariables false
set_option linter.unusedSimpArgs false
namespace Go.Proofs.YtiglgfonhdfpmaaGreat
open Go
set_option linter.unusedVariables false

theorem operHolds_cl26 : (fun (P : Program) (f : FuncId) (fn : Func) (s : ChangeSpec) (c : OpenClaim) => ((c.lifted == P.liftsFinal) : Bool)) Tryz.pinned.checked.prog 5 Tryz.f5 (Rows.operHoldsSpec) (Rows.operHoldsRow) = true := by kernel_rfl

end Go.Proofs.YtiglgfonhdfpmaaGreat

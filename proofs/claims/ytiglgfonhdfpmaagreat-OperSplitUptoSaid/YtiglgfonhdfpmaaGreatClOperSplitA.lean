/- Closed facts on the row of OperSplit. (Printed by a program of mine.) -/
import Derived.Test.YtiglgfonhdfpmaaGreatRows
import Derived.JoinedOf
import Derived.KernelRfl
import Derived.JoinedCond
set_option linter.unusedVariables false
set_option linter.unusedSimpArgs false
namespace Go.Proofs.YtiglgfonhdfpmaaGreat
open Go
set_option linter.unusedVariables false

theorem operSplit_cl25 : (fun (P : Program) (f : FuncId) (fn : Func) (s : ChangeSpec) (c : OpenClaim) => (P.mayEnter : Bool)) Tryz.pinned.checked.prog 6 Tryz.f6 ((Rows.OpenSpec.upto Rows.operSplitSpec).bare) (Rows.operSplitUptoRow) = true := by kernel_rfl

end Go.Proofs.YtiglgfonhdfpmaaGreat

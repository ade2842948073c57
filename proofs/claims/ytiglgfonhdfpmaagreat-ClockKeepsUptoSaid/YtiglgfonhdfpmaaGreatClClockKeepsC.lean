/- Closed facts on the row of ClockKeeps. (Printed by a program of mine.) -/
import Derived.Test.YtiglgfonhdfpmaaGreatRows
import Derived.JoinedOf
import Derived.KernelRfl
import Derived.JoinedCond
set_option linter.unusedVariables false
set_option linter.unusedSimpArgs false
namespace Go.Proofs.YtiglgfonhdfpmaaGreat
open Go
set_option linter.unusedVariables false

theorem clockKeeps_cl27 : (fun (P : Program) (f : FuncId) (fn : Func) (s : ChangeSpec) (c : OpenClaim) => ((P.make == some c.make) : Bool)) Tryz.pinned.checked.prog 9 Tryz.f9 ((Rows.OpenSpec.upto Rows.clockKeepsSpec).bare) (Rows.clockKeepsUptoRow) = true := by kernel_rfl

end Go.Proofs.YtiglgfonhdfpmaaGreat

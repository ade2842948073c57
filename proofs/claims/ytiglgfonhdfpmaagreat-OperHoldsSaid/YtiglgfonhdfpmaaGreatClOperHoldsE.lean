/- Closed facts on the row of OperHolds. (Printed by a program of mine.) -/
import Derived.Test.YtiglgfonhdfpmaaGreatRows
import Derived.JoinedOf
import Derived.KernelRfl
set_option linter.unusedVariables false
set_option linter.unusedSimpArgs false
namespace Go.Proofs.YtiglgfonhdfpmaaGreat
open Go
set_option linter.unusedVariables false

theorem operHolds_cl0 : (fun (P : Program) (f : FuncId) (fn : Func) (s : ChangeSpec) (c : OpenClaim) => (c.wf (OpenSpec.ofChange s) : Bool)) Tryz.pinned.checked.prog 5 Tryz.f5 (Rows.operHoldsSpec) (Rows.operHoldsRow) = true := by kernel_rfl
theorem operHolds_cl1 : (fun (P : Program) (f : FuncId) (fn : Func) (s : ChangeSpec) (c : OpenClaim) => (laidOutB P : Bool)) Tryz.pinned.checked.prog 5 Tryz.f5 (Rows.operHoldsSpec) (Rows.operHoldsRow) = true := by kernel_rfl
theorem operHolds_cl2 : (fun (P : Program) (f : FuncId) (fn : Func) (s : ChangeSpec) (c : OpenClaim) => (mapsRowed P : Bool)) Tryz.pinned.checked.prog 5 Tryz.f5 (Rows.operHoldsSpec) (Rows.operHoldsRow) = true := by kernel_rfl
theorem operHolds_cl3 : (fun (P : Program) (f : FuncId) (fn : Func) (s : ChangeSpec) (c : OpenClaim) => (fn.params.all (P.readableRec ·) : Bool)) Tryz.pinned.checked.prog 5 Tryz.f5 (Rows.operHoldsSpec) (Rows.operHoldsRow) = true := by kernel_rfl
theorem operHolds_cl4 : (fun (P : Program) (f : FuncId) (fn : Func) (s : ChangeSpec) (c : OpenClaim) => (namedTie P c.named s.vars : Bool)) Tryz.pinned.checked.prog 5 Tryz.f5 (Rows.operHoldsSpec) (Rows.operHoldsRow) = true := by kernel_rfl
theorem operHolds_cl5 : (fun (P : Program) (f : FuncId) (fn : Func) (s : ChangeSpec) (c : OpenClaim) => ((c.stops == []) : Bool)) Tryz.pinned.checked.prog 5 Tryz.f5 (Rows.operHoldsSpec) (Rows.operHoldsRow) = true := by kernel_rfl
theorem operHolds_cl6 : (fun (P : Program) (f : FuncId) (fn : Func) (s : ChangeSpec) (c : OpenClaim) => ((P.stops == []) : Bool)) Tryz.pinned.checked.prog 5 Tryz.f5 (Rows.operHoldsSpec) (Rows.operHoldsRow) = true := by kernel_rfl
theorem operHolds_cl7 : (fun (P : Program) (f : FuncId) (fn : Func) (s : ChangeSpec) (c : OpenClaim) => ((c.knobs == []) : Bool)) Tryz.pinned.checked.prog 5 Tryz.f5 (Rows.operHoldsSpec) (Rows.operHoldsRow) = true := by kernel_rfl
theorem operHolds_cl8 : (fun (P : Program) (f : FuncId) (fn : Func) (s : ChangeSpec) (c : OpenClaim) => ((P.stopKnobs == []) : Bool)) Tryz.pinned.checked.prog 5 Tryz.f5 (Rows.operHoldsSpec) (Rows.operHoldsRow) = true := by kernel_rfl
theorem operHolds_cl13 : (fun (P : Program) (f : FuncId) (fn : Func) (s : ChangeSpec) (c : OpenClaim) => ((c.maps == (fn.params.toList ++ s.plain.varTypes P).any (P.mapsRec ·)) : Bool)) Tryz.pinned.checked.prog 5 Tryz.f5 (Rows.operHoldsSpec) (Rows.operHoldsRow) = true := by kernel_rfl
theorem operHolds_cl14 : (fun (P : Program) (f : FuncId) (fn : Func) (s : ChangeSpec) (c : OpenClaim) => ((c.ifaces == (fn.params.toList ++ s.plain.varTypes P).any (P.ifacesRec ·)) : Bool)) Tryz.pinned.checked.prog 5 Tryz.f5 (Rows.operHoldsSpec) (Rows.operHoldsRow) = true := by kernel_rfl
theorem operHolds_cl15 : (fun (P : Program) (f : FuncId) (fn : Func) (s : ChangeSpec) (c : OpenClaim) => ((c.mapsOut == P.mapsAmong fn.resultTypes.toList) : Bool)) Tryz.pinned.checked.prog 5 Tryz.f5 (Rows.operHoldsSpec) (Rows.operHoldsRow) = true := by kernel_rfl
theorem operHolds_cl16 : (fun (P : Program) (f : FuncId) (fn : Func) (s : ChangeSpec) (c : OpenClaim) => ((c.loops == (fn.params.toList ++ s.plain.varTypes P).any (P.loopsFrom ·)) : Bool)) Tryz.pinned.checked.prog 5 Tryz.f5 (Rows.operHoldsSpec) (Rows.operHoldsRow) = true := by kernel_rfl
theorem operHolds_cl17 : (fun (P : Program) (f : FuncId) (fn : Func) (s : ChangeSpec) (c : OpenClaim) => ((c.wideKeys == (fn.params.toList ++ s.plain.varTypes P ++ fn.resultTypes.toList).any (P.wideKeysFrom ·)) : Bool)) Tryz.pinned.checked.prog 5 Tryz.f5 (Rows.operHoldsSpec) (Rows.operHoldsRow) = true := by kernel_rfl
theorem operHolds_cl18 : (fun (P : Program) (f : FuncId) (fn : Func) (s : ChangeSpec) (c : OpenClaim) => (s.vars.all (P.varReadable ·) : Bool)) Tryz.pinned.checked.prog 5 Tryz.f5 (Rows.operHoldsSpec) (Rows.operHoldsRow) = true := by kernel_rfl
theorem operHolds_cl19 : (fun (P : Program) (f : FuncId) (fn : Func) (s : ChangeSpec) (c : OpenClaim) => (fn.resultTypes.all (fun t => P.readableRec t && decide (t < P.types.size)) : Bool)) Tryz.pinned.checked.prog 5 Tryz.f5 (Rows.operHoldsSpec) (Rows.operHoldsRow) = true := by kernel_rfl
theorem operHolds_cl20 : (fun (P : Program) (f : FuncId) (fn : Func) (s : ChangeSpec) (c : OpenClaim) => ((c.ifacesOut == fn.resultTypes.toList.any (P.ifacesRec ·)) : Bool)) Tryz.pinned.checked.prog 5 Tryz.f5 (Rows.operHoldsSpec) (Rows.operHoldsRow) = true := by kernel_rfl
theorem operHolds_cl21 : (fun (P : Program) (f : FuncId) (fn : Func) (s : ChangeSpec) (c : OpenClaim) => ((c.loopsOut == fn.resultTypes.toList.any (P.loopsFrom ·)) : Bool)) Tryz.pinned.checked.prog 5 Tryz.f5 (Rows.operHoldsSpec) (Rows.operHoldsRow) = true := by kernel_rfl
theorem operHolds_cl22 : (fun (P : Program) (f : FuncId) (fn : Func) (s : ChangeSpec) (c : OpenClaim) => ((c.plainKeys == P.plainKeys) : Bool)) Tryz.pinned.checked.prog 5 Tryz.f5 (Rows.operHoldsSpec) (Rows.operHoldsRow) = true := by kernel_rfl
theorem operHolds_cl23 : (fun (P : Program) (f : FuncId) (fn : Func) (s : ChangeSpec) (c : OpenClaim) => (c.shortTexts.isNone : Bool)) Tryz.pinned.checked.prog 5 Tryz.f5 (Rows.operHoldsSpec) (Rows.operHoldsRow) = true := by kernel_rfl
theorem operHolds_cl24 : (fun (P : Program) (f : FuncId) (fn : Func) (s : ChangeSpec) (c : OpenClaim) => (P.stopsHeard : Bool)) Tryz.pinned.checked.prog 5 Tryz.f5 (Rows.operHoldsSpec) (Rows.operHoldsRow) = true := by kernel_rfl
theorem operHolds_cl28 : (fun (P : Program) (f : FuncId) (fn : Func) (s : ChangeSpec) (c : OpenClaim) => ((c.kinds == (if c.domain.isEmpty then [] else fn.params.toList.map fun t => match P.underlying t with | some (.int k) => some k | _ => none)) : Bool)) Tryz.pinned.checked.prog 5 Tryz.f5 (Rows.operHoldsSpec) (Rows.operHoldsRow) = true := by kernel_rfl
theorem operHolds_cl29 : (fun (P : Program) (f : FuncId) (fn : Func) (s : ChangeSpec) (c : OpenClaim) => ((c.pinned == c.pinnedBy) : Bool)) Tryz.pinned.checked.prog 5 Tryz.f5 (Rows.operHoldsSpec) (Rows.operHoldsRow) = true := by kernel_rfl
theorem operHolds_cl30 : (fun (P : Program) (f : FuncId) (fn : Func) (s : ChangeSpec) (c : OpenClaim) => ((c.veiled == (fn.params.toList ++ s.plain.varTypes P ++ fn.resultTypes.toList).any (P.veiledRec ·)) : Bool)) Tryz.pinned.checked.prog 5 Tryz.f5 (Rows.operHoldsSpec) (Rows.operHoldsRow) = true := by kernel_rfl
theorem operHolds_cl31 : (fun (P : Program) (f : FuncId) (fn : Func) (s : ChangeSpec) (c : OpenClaim) => (c.veiledFits P fn.params.toList (fn.params.toList ++ s.plain.varTypes P ++ fn.resultTypes.toList) : Bool)) Tryz.pinned.checked.prog 5 Tryz.f5 (Rows.operHoldsSpec) (Rows.operHoldsRow) = true := by kernel_rfl

end Go.Proofs.YtiglgfonhdfpmaaGreat

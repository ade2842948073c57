/-
  No cell of these rows narrows 'for every input' (looked for: loops, veiled, ifaces, maps, wideKeys, modest, calm, conditions, laid).
  DERIVED. THE GIVEN ROWS OF THIS SEAT. 10 by the template 'for every input the law returns true; each argument reads behind the call as it read before'; 0 by the template 'total and deterministic' (their statements: YtiglgfonhdfpmaaGreatTotals.lean).
  GIVEN WITH THE SEED: the statements are not yours to turn. If you find one false, say at which input.
  Laid BY PROGRAM, IN A SANDBOX (cutbox-rows.mjs): the forced cells as the released guide's own fill.sh prints them over the translation 58dcb8943d0d0b00… (all of the seat's roots in one cut). By AI agents, Wed Nov 11 2026. No macro, syntax, notation, axiom, sorry.
-/
import Derived.Test.YtiglgfonhdfpmaaGreatChecked
import GoSem.Claim
import GoSem.ClaimJoined
import GoSem.ClaimMapViews
import Derived.JoinedTies
import Derived.KernelRfl
namespace Go.Proofs.YtiglgfonhdfpmaaGreat
/- THE CELL 'sum', in the pinned program and in every row, IS THE sha256 OF THE DUMP (.gsa) THAT YtiglgfonhdfpmaaGreatProg.lean LOADS. Nothing in Lean hashes anything: it is a label: what it is worth is what the hold of that sum in a sandbox is worth. -/
noncomputable def Tryz.pinned : Pinned := { name := "ytiglgfonhdfpmaagreat", sum := "58dcb8943d0d0b008bf1ceb00487c5f04cca7ccee2140b02e5727034bba2fc0d", checked := Tryz.checked }
namespace Rows
def none {H : Type} : Left H := { results := [], args := [] }

/-- 'waterclocklaw34.LintHolds': WHATEVER THE INPUT: true; the input reads as it did. -/
def lintHoldsSpec : ChangeSpec := { name := "lintHolds", fn := fun _ => fun
  | [d] => { results := [.lit (.bool true)], args := [d] }
  | _ => none }
def lintHoldsRow : OpenClaim := { program := "ytiglgfonhdfpmaagreat", sum := "58dcb8943d0d0b008bf1ceb00487c5f04cca7ccee2140b02e5727034bba2fc0d", func := "waterclock/waterclocklaw34.LintHolds", spec := "lintHolds", inPlace := ["internal/abi.NoEscape", "internal/bytealg.MakeNoZero", "internal/bytealg.IndexByteString", "math.archTrunc", "math.Float64bits", "math.Float64frombits"], unfollowed := true, recurses := true, apart := false }
def LintHoldsSaid : Prop := lintHoldsRow.holds Tryz.pinned (OpenSpec.ofChange lintHoldsSpec)

/-- ITS FALSE NEIGHBOUR: 'it returns false'. Refute it at one input. -/
def lintHoldsWrong : ChangeSpec := { name := "lintHolds", fn := fun _ => fun
  | [d] => { results := [.lit (.bool false)], args := [d] }
  | _ => none }
def LintHoldsWrongFalsely : Prop := lintHoldsRow.holds Tryz.pinned (OpenSpec.ofChange lintHoldsWrong)

/-- 'waterclocklaw10.OperRuns': WHATEVER THE INPUT: true; the input reads as it did. -/
def operRunsSpec : ChangeSpec := { name := "operRuns", fn := fun _ => fun
  | [d1, d2] => { results := [.lit (.bool true)], args := [d1, d2] }
  | _ => none }
def operRunsRow : OpenClaim := { program := "ytiglgfonhdfpmaagreat", sum := "58dcb8943d0d0b008bf1ceb00487c5f04cca7ccee2140b02e5727034bba2fc0d", func := "waterclock/waterclocklaw10.OperRuns", spec := "operRuns", inPlace := ["internal/bytealg.IndexByteString", "math.archTrunc", "math.Float64bits", "math.Float64frombits", "internal/bytealg.abigen_runtime_cmpstring", "slices.overlaps[waterclock/api.Window]", "slices.overlaps[waterclock/api.Pane]"], unfollowed := true, recurses := true, apart := false }
def OperRunsSaid : Prop := operRunsRow.holds Tryz.pinned (OpenSpec.ofChange operRunsSpec)

/-- ITS FALSE NEIGHBOUR: 'it returns false'. Refute it at one input. -/
def operRunsWrong : ChangeSpec := { name := "operRuns", fn := fun _ => fun
  | [d1, d2] => { results := [.lit (.bool false)], args := [d1, d2] }
  | _ => none }
def OperRunsWrongFalsely : Prop := operRunsRow.holds Tryz.pinned (OpenSpec.ofChange operRunsWrong)

/-- 'waterclocklaw10.OperHolds': WHATEVER THE INPUT: true; the input reads as it did. -/
def operHoldsSpec : ChangeSpec := { name := "operHolds", fn := fun _ => fun
  | [d1, d2] => { results := [.lit (.bool true)], args := [d1, d2] }
  | _ => none }
def operHoldsRow : OpenClaim := { program := "ytiglgfonhdfpmaagreat", sum := "58dcb8943d0d0b008bf1ceb00487c5f04cca7ccee2140b02e5727034bba2fc0d", func := "waterclock/waterclocklaw10.OperHolds", spec := "operHolds", inPlace := ["internal/bytealg.IndexByteString", "math.archTrunc", "math.Float64bits", "math.Float64frombits", "internal/bytealg.abigen_runtime_cmpstring", "slices.overlaps[waterclock/api.Window]", "slices.overlaps[waterclock/api.Pane]"], unfollowed := true, recurses := true, apart := false }
def OperHoldsSaid : Prop := operHoldsRow.holds Tryz.pinned (OpenSpec.ofChange operHoldsSpec)

/-- ITS FALSE NEIGHBOUR: 'it returns false'. Refute it at one input. -/
def operHoldsWrong : ChangeSpec := { name := "operHolds", fn := fun _ => fun
  | [d1, d2] => { results := [.lit (.bool false)], args := [d1, d2] }
  | _ => none }
def OperHoldsWrongFalsely : Prop := operHoldsRow.holds Tryz.pinned (OpenSpec.ofChange operHoldsWrong)

/-- 'waterclocklaw10.OperSplit': WHATEVER THE INPUT: true; the input reads as it did. -/
def operSplitSpec : ChangeSpec := { name := "operSplit", fn := fun _ => fun
  | [d1, d2, d3] => { results := [.lit (.bool true)], args := [d1, d2, d3] }
  | _ => none }
def operSplitRow : OpenClaim := { program := "ytiglgfonhdfpmaagreat", sum := "58dcb8943d0d0b008bf1ceb00487c5f04cca7ccee2140b02e5727034bba2fc0d", func := "waterclock/waterclocklaw10.OperSplit", spec := "operSplit", inPlace := ["internal/bytealg.IndexByteString", "math.archTrunc", "math.Float64bits", "math.Float64frombits", "internal/bytealg.abigen_runtime_cmpstring", "slices.overlaps[waterclock/api.Window]", "slices.overlaps[waterclock/api.Pane]"], unfollowed := true, recurses := true, apart := false }
def OperSplitSaid : Prop := operSplitRow.holds Tryz.pinned (OpenSpec.ofChange operSplitSpec)

/-- ITS FALSE NEIGHBOUR: 'it returns false'. Refute it at one input. -/
def operSplitWrong : ChangeSpec := { name := "operSplit", fn := fun _ => fun
  | [d1, d2, d3] => { results := [.lit (.bool false)], args := [d1, d2, d3] }
  | _ => none }
def OperSplitWrongFalsely : Prop := operSplitRow.holds Tryz.pinned (OpenSpec.ofChange operSplitWrong)

/-- 'waterclocklaw35.LanesStep': WHATEVER THE INPUT: true; the input reads as it did. -/
def lanesStepSpec : ChangeSpec := { name := "lanesStep", fn := fun _ => fun
  | [d1, d2] => { results := [.lit (.bool true)], args := [d1, d2] }
  | _ => none }
def lanesStepRow : OpenClaim := { program := "ytiglgfonhdfpmaagreat", sum := "58dcb8943d0d0b008bf1ceb00487c5f04cca7ccee2140b02e5727034bba2fc0d", func := "waterclock/waterclocklaw35.LanesStep", spec := "lanesStep", inPlace := ["internal/bytealg.IndexByteString", "math.archTrunc", "math.Float64bits", "math.Float64frombits", "internal/bytealg.abigen_runtime_cmpstring", "slices.overlaps[waterclock/api.Window]", "slices.overlaps[waterclock/api.Pane]"], unfollowed := true, recurses := true, apart := false }
def LanesStepSaid : Prop := lanesStepRow.holds Tryz.pinned (OpenSpec.ofChange lanesStepSpec)

/-- ITS FALSE NEIGHBOUR: 'it returns false'. Refute it at one input. -/
def lanesStepWrong : ChangeSpec := { name := "lanesStep", fn := fun _ => fun
  | [d1, d2] => { results := [.lit (.bool false)], args := [d1, d2] }
  | _ => none }
def LanesStepWrongFalsely : Prop := lanesStepRow.holds Tryz.pinned (OpenSpec.ofChange lanesStepWrong)

/-- 'waterclocklaw35.LanesWhole': WHATEVER THE INPUT: true; the input reads as it did. -/
def lanesWholeSpec : ChangeSpec := { name := "lanesWhole", fn := fun _ => fun
  | [d1, d2] => { results := [.lit (.bool true)], args := [d1, d2] }
  | _ => none }
def lanesWholeRow : OpenClaim := { program := "ytiglgfonhdfpmaagreat", sum := "58dcb8943d0d0b008bf1ceb00487c5f04cca7ccee2140b02e5727034bba2fc0d", func := "waterclock/waterclocklaw35.LanesWhole", spec := "lanesWhole", inPlace := ["internal/bytealg.IndexByteString", "math.archTrunc", "math.Float64bits", "math.Float64frombits", "internal/bytealg.abigen_runtime_cmpstring", "slices.overlaps[waterclock/api.Window]", "slices.overlaps[waterclock/api.Pane]"], unfollowed := true, recurses := true, apart := false }
def LanesWholeSaid : Prop := lanesWholeRow.holds Tryz.pinned (OpenSpec.ofChange lanesWholeSpec)

/-- ITS FALSE NEIGHBOUR: 'it returns false'. Refute it at one input. -/
def lanesWholeWrong : ChangeSpec := { name := "lanesWhole", fn := fun _ => fun
  | [d1, d2] => { results := [.lit (.bool false)], args := [d1, d2] }
  | _ => none }
def LanesWholeWrongFalsely : Prop := lanesWholeRow.holds Tryz.pinned (OpenSpec.ofChange lanesWholeWrong)

/-- 'waterclocklaw28.ClockKeeps': WHATEVER THE INPUT: true; the input reads as it did. -/
def clockKeepsSpec : ChangeSpec := { name := "clockKeeps", fn := fun _ => fun
  | [d1, d2, d3] => { results := [.lit (.bool true)], args := [d1, d2, d3] }
  | _ => none }
def clockKeepsRow : OpenClaim := { program := "ytiglgfonhdfpmaagreat", sum := "58dcb8943d0d0b008bf1ceb00487c5f04cca7ccee2140b02e5727034bba2fc0d", func := "waterclock/waterclocklaw28.ClockKeeps", spec := "clockKeeps", inPlace := ["internal/bytealg.IndexByteString", "math.archTrunc", "math.Float64bits", "math.Float64frombits", "internal/bytealg.abigen_runtime_cmpstring", "slices.overlaps[waterclock/api.Window]", "slices.overlaps[waterclock/api.Pane]"], unfollowed := true, recurses := true, apart := false }
def ClockKeepsSaid : Prop := clockKeepsRow.holds Tryz.pinned (OpenSpec.ofChange clockKeepsSpec)

/-- ITS FALSE NEIGHBOUR: 'it returns false'. Refute it at one input. -/
def clockKeepsWrong : ChangeSpec := { name := "clockKeeps", fn := fun _ => fun
  | [d1, d2, d3] => { results := [.lit (.bool false)], args := [d1, d2, d3] }
  | _ => none }
def ClockKeepsWrongFalsely : Prop := clockKeepsRow.holds Tryz.pinned (OpenSpec.ofChange clockKeepsWrong)

/-- 'waterclocklaw29.ShardWhole': WHATEVER THE INPUT: true; the input reads as it did. -/
def shardWholeSpec : ChangeSpec := { name := "shardWhole", fn := fun _ => fun
  | [d1, d2, d3] => { results := [.lit (.bool true)], args := [d1, d2, d3] }
  | _ => none }
def shardWholeRow : OpenClaim := { program := "ytiglgfonhdfpmaagreat", sum := "58dcb8943d0d0b008bf1ceb00487c5f04cca7ccee2140b02e5727034bba2fc0d", func := "waterclock/waterclocklaw29.ShardWhole", spec := "shardWhole", inPlace := ["internal/bytealg.IndexByteString", "internal/bytealg.MakeNoZero", "math.archTrunc", "math.Float64bits", "math.Float64frombits", "internal/bytealg.abigen_runtime_cmpstring", "slices.overlaps[waterclock/api.Window]", "slices.overlaps[waterclock/api.Pane]"], unfollowed := true, recurses := true, apart := false }
def ShardWholeSaid : Prop := shardWholeRow.holds Tryz.pinned (OpenSpec.ofChange shardWholeSpec)

/-- ITS FALSE NEIGHBOUR: 'it returns false'. Refute it at one input. -/
def shardWholeWrong : ChangeSpec := { name := "shardWhole", fn := fun _ => fun
  | [d1, d2, d3] => { results := [.lit (.bool false)], args := [d1, d2, d3] }
  | _ => none }
def ShardWholeWrongFalsely : Prop := shardWholeRow.holds Tryz.pinned (OpenSpec.ofChange shardWholeWrong)

/-- 'waterclocklaw29.ShardMore': WHATEVER THE INPUT: true; the input reads as it did. -/
def shardMoreSpec : ChangeSpec := { name := "shardMore", fn := fun _ => fun
  | [d1, d2] => { results := [.lit (.bool true)], args := [d1, d2] }
  | _ => none }
def shardMoreRow : OpenClaim := { program := "ytiglgfonhdfpmaagreat", sum := "58dcb8943d0d0b008bf1ceb00487c5f04cca7ccee2140b02e5727034bba2fc0d", func := "waterclock/waterclocklaw29.ShardMore", spec := "shardMore", inPlace := ["internal/bytealg.IndexByteString", "internal/bytealg.MakeNoZero", "math.archTrunc", "math.Float64bits", "math.Float64frombits", "internal/bytealg.abigen_runtime_cmpstring", "slices.overlaps[waterclock/api.Window]", "slices.overlaps[waterclock/api.Pane]"], unfollowed := true, recurses := true, apart := false }
def ShardMoreSaid : Prop := shardMoreRow.holds Tryz.pinned (OpenSpec.ofChange shardMoreSpec)

/-- ITS FALSE NEIGHBOUR: 'it returns false'. Refute it at one input. -/
def shardMoreWrong : ChangeSpec := { name := "shardMore", fn := fun _ => fun
  | [d1, d2] => { results := [.lit (.bool false)], args := [d1, d2] }
  | _ => none }
def ShardMoreWrongFalsely : Prop := shardMoreRow.holds Tryz.pinned (OpenSpec.ofChange shardMoreWrong)

/-- 'waterclocklaw34.LintSame': WHATEVER THE INPUT: true; the input reads as it did. -/
def lintSameSpec : ChangeSpec := { name := "lintSame", fn := fun _ => fun
  | [d1, d2] => { results := [.lit (.bool true)], args := [d1, d2] }
  | _ => none }
def lintSameRow : OpenClaim := { program := "ytiglgfonhdfpmaagreat", sum := "58dcb8943d0d0b008bf1ceb00487c5f04cca7ccee2140b02e5727034bba2fc0d", func := "waterclock/waterclocklaw34.LintSame", spec := "lintSame", inPlace := ["internal/abi.NoEscape", "internal/bytealg.MakeNoZero", "internal/bytealg.IndexByteString", "math.archTrunc", "math.Float64bits", "math.Float64frombits", "internal/bytealg.abigen_runtime_cmpstring", "slices.overlaps[waterclock/api.Window]", "slices.overlaps[waterclock/api.Pane]"], unfollowed := true, recurses := true, apart := false }
def LintSameSaid : Prop := lintSameRow.holds Tryz.pinned (OpenSpec.ofChange lintSameSpec)

/-- ITS FALSE NEIGHBOUR: 'it returns false'. Refute it at one input. -/
def lintSameWrong : ChangeSpec := { name := "lintSame", fn := fun _ => fun
  | [d1, d2] => { results := [.lit (.bool false)], args := [d1, d2] }
  | _ => none }
def LintSameWrongFalsely : Prop := lintSameRow.holds Tryz.pinned (OpenSpec.ofChange lintSameWrong)

/- THE SECOND FORM. 'bulk': how many values and letters a reading holds, each counted each time it is reached (what is shared counts as often as it is met; a slice's spare places count too). A statement '..UptoSaid' is the law's where the arguments, and the package variables that the reading takes, are together of bulk at most 1048576: NARROWER than '..Said'. Prove '..Said' where nothing that the law and all that it calls make is longer than what came in: it says more and counts as full. Else prove '..UptoSaid'. A law counts once. -/
mutual
def uptoBulk {H : Type} : DataW H → Nat
  | .lit (.string bytes) => bytes.length + 1
  | .lit _ => 1
  | .nil => 1
  | .ptr d => uptoBulk d + 1
  | .slice elems spare => uptoBulkAll elems + uptoBulkAll spare + 1
  | .agg parts => uptoBulkAll parts + 1
  | .iface _ d => uptoBulk d + 1
  | .map entries => uptoBulkEntries entries + 1
  | .held _ => 1
def uptoBulkAll {H : Type} : List (DataW H) → Nat
  | [] => 0
  | d :: r => uptoBulk d + uptoBulkAll r
def uptoBulkEntries {H : Type} : List (Lit × DataW H) → Nat
  | [] => 0
  | x :: r => uptoBulkEntry x + uptoBulkEntries r
def uptoBulkEntry {H : Type} : Lit × DataW H → Nat
  | (.string bytes, d) => bytes.length + uptoBulk d + 1
  | (_, d) => uptoBulk d + 1
 end
def uptoSmall : (H : Type) → List (DataW H) → Bool := fun _ ds => decide (uptoBulkAll ds ≤ 1048576)
def OpenSpec.upto (s : _root_.Go.ChangeSpec) : _root_.Go.OpenSpec := { _root_.Go.OpenSpec.ofChange s with cond := some uptoSmall }

/-- 'waterclocklaw34.LintHolds', WHERE WHAT IT READS IS OF BULK AT MOST 1048576: true; the input reads as it did. -/
def lintHoldsUptoRow : OpenClaim := { program := "ytiglgfonhdfpmaagreat", sum := "58dcb8943d0d0b008bf1ceb00487c5f04cca7ccee2140b02e5727034bba2fc0d", func := "waterclock/waterclocklaw34.LintHolds", spec := "lintHolds", inPlace := ["internal/abi.NoEscape", "internal/bytealg.MakeNoZero", "internal/bytealg.IndexByteString", "math.archTrunc", "math.Float64bits", "math.Float64frombits"], unfollowed := true, recurses := true, apart := false, narrowed := true }
def LintHoldsUptoSaid : Prop := lintHoldsUptoRow.holds Tryz.pinned (OpenSpec.upto lintHoldsSpec)

/-- 'waterclocklaw10.OperRuns', WHERE WHAT IT READS IS OF BULK AT MOST 1048576: true; the input reads as it did. -/
def operRunsUptoRow : OpenClaim := { program := "ytiglgfonhdfpmaagreat", sum := "58dcb8943d0d0b008bf1ceb00487c5f04cca7ccee2140b02e5727034bba2fc0d", func := "waterclock/waterclocklaw10.OperRuns", spec := "operRuns", inPlace := ["internal/bytealg.IndexByteString", "math.archTrunc", "math.Float64bits", "math.Float64frombits", "internal/bytealg.abigen_runtime_cmpstring", "slices.overlaps[waterclock/api.Window]", "slices.overlaps[waterclock/api.Pane]"], unfollowed := true, recurses := true, apart := false, narrowed := true }
def OperRunsUptoSaid : Prop := operRunsUptoRow.holds Tryz.pinned (OpenSpec.upto operRunsSpec)

/-- 'waterclocklaw10.OperHolds', WHERE WHAT IT READS IS OF BULK AT MOST 1048576: true; the input reads as it did. -/
def operHoldsUptoRow : OpenClaim := { program := "ytiglgfonhdfpmaagreat", sum := "58dcb8943d0d0b008bf1ceb00487c5f04cca7ccee2140b02e5727034bba2fc0d", func := "waterclock/waterclocklaw10.OperHolds", spec := "operHolds", inPlace := ["internal/bytealg.IndexByteString", "math.archTrunc", "math.Float64bits", "math.Float64frombits", "internal/bytealg.abigen_runtime_cmpstring", "slices.overlaps[waterclock/api.Window]", "slices.overlaps[waterclock/api.Pane]"], unfollowed := true, recurses := true, apart := false, narrowed := true }
def OperHoldsUptoSaid : Prop := operHoldsUptoRow.holds Tryz.pinned (OpenSpec.upto operHoldsSpec)

/-- 'waterclocklaw10.OperSplit', WHERE WHAT IT READS IS OF BULK AT MOST 1048576: true; the input reads as it did. -/
def operSplitUptoRow : OpenClaim := { program := "ytiglgfonhdfpmaagreat", sum := "58dcb8943d0d0b008bf1ceb00487c5f04cca7ccee2140b02e5727034bba2fc0d", func := "waterclock/waterclocklaw10.OperSplit", spec := "operSplit", inPlace := ["internal/bytealg.IndexByteString", "math.archTrunc", "math.Float64bits", "math.Float64frombits", "internal/bytealg.abigen_runtime_cmpstring", "slices.overlaps[waterclock/api.Window]", "slices.overlaps[waterclock/api.Pane]"], unfollowed := true, recurses := true, apart := false, narrowed := true }
def OperSplitUptoSaid : Prop := operSplitUptoRow.holds Tryz.pinned (OpenSpec.upto operSplitSpec)

/-- 'waterclocklaw35.LanesStep', WHERE WHAT IT READS IS OF BULK AT MOST 1048576: true; the input reads as it did. -/
def lanesStepUptoRow : OpenClaim := { program := "ytiglgfonhdfpmaagreat", sum := "58dcb8943d0d0b008bf1ceb00487c5f04cca7ccee2140b02e5727034bba2fc0d", func := "waterclock/waterclocklaw35.LanesStep", spec := "lanesStep", inPlace := ["internal/bytealg.IndexByteString", "math.archTrunc", "math.Float64bits", "math.Float64frombits", "internal/bytealg.abigen_runtime_cmpstring", "slices.overlaps[waterclock/api.Window]", "slices.overlaps[waterclock/api.Pane]"], unfollowed := true, recurses := true, apart := false, narrowed := true }
def LanesStepUptoSaid : Prop := lanesStepUptoRow.holds Tryz.pinned (OpenSpec.upto lanesStepSpec)

/-- 'waterclocklaw35.LanesWhole', WHERE WHAT IT READS IS OF BULK AT MOST 1048576: true; the input reads as it did. -/
def lanesWholeUptoRow : OpenClaim := { program := "ytiglgfonhdfpmaagreat", sum := "58dcb8943d0d0b008bf1ceb00487c5f04cca7ccee2140b02e5727034bba2fc0d", func := "waterclock/waterclocklaw35.LanesWhole", spec := "lanesWhole", inPlace := ["internal/bytealg.IndexByteString", "math.archTrunc", "math.Float64bits", "math.Float64frombits", "internal/bytealg.abigen_runtime_cmpstring", "slices.overlaps[waterclock/api.Window]", "slices.overlaps[waterclock/api.Pane]"], unfollowed := true, recurses := true, apart := false, narrowed := true }
def LanesWholeUptoSaid : Prop := lanesWholeUptoRow.holds Tryz.pinned (OpenSpec.upto lanesWholeSpec)

/-- 'waterclocklaw28.ClockKeeps', WHERE WHAT IT READS IS OF BULK AT MOST 1048576: true; the input reads as it did. -/
def clockKeepsUptoRow : OpenClaim := { program := "ytiglgfonhdfpmaagreat", sum := "58dcb8943d0d0b008bf1ceb00487c5f04cca7ccee2140b02e5727034bba2fc0d", func := "waterclock/waterclocklaw28.ClockKeeps", spec := "clockKeeps", inPlace := ["internal/bytealg.IndexByteString", "math.archTrunc", "math.Float64bits", "math.Float64frombits", "internal/bytealg.abigen_runtime_cmpstring", "slices.overlaps[waterclock/api.Window]", "slices.overlaps[waterclock/api.Pane]"], unfollowed := true, recurses := true, apart := false, narrowed := true }
def ClockKeepsUptoSaid : Prop := clockKeepsUptoRow.holds Tryz.pinned (OpenSpec.upto clockKeepsSpec)

/-- 'waterclocklaw29.ShardWhole', WHERE WHAT IT READS IS OF BULK AT MOST 1048576: true; the input reads as it did. -/
def shardWholeUptoRow : OpenClaim := { program := "ytiglgfonhdfpmaagreat", sum := "58dcb8943d0d0b008bf1ceb00487c5f04cca7ccee2140b02e5727034bba2fc0d", func := "waterclock/waterclocklaw29.ShardWhole", spec := "shardWhole", inPlace := ["internal/bytealg.IndexByteString", "internal/bytealg.MakeNoZero", "math.archTrunc", "math.Float64bits", "math.Float64frombits", "internal/bytealg.abigen_runtime_cmpstring", "slices.overlaps[waterclock/api.Window]", "slices.overlaps[waterclock/api.Pane]"], unfollowed := true, recurses := true, apart := false, narrowed := true }
def ShardWholeUptoSaid : Prop := shardWholeUptoRow.holds Tryz.pinned (OpenSpec.upto shardWholeSpec)

/-- 'waterclocklaw29.ShardMore', WHERE WHAT IT READS IS OF BULK AT MOST 1048576: true; the input reads as it did. -/
def shardMoreUptoRow : OpenClaim := { program := "ytiglgfonhdfpmaagreat", sum := "58dcb8943d0d0b008bf1ceb00487c5f04cca7ccee2140b02e5727034bba2fc0d", func := "waterclock/waterclocklaw29.ShardMore", spec := "shardMore", inPlace := ["internal/bytealg.IndexByteString", "internal/bytealg.MakeNoZero", "math.archTrunc", "math.Float64bits", "math.Float64frombits", "internal/bytealg.abigen_runtime_cmpstring", "slices.overlaps[waterclock/api.Window]", "slices.overlaps[waterclock/api.Pane]"], unfollowed := true, recurses := true, apart := false, narrowed := true }
def ShardMoreUptoSaid : Prop := shardMoreUptoRow.holds Tryz.pinned (OpenSpec.upto shardMoreSpec)

/-- 'waterclocklaw34.LintSame', WHERE WHAT IT READS IS OF BULK AT MOST 1048576: true; the input reads as it did. -/
def lintSameUptoRow : OpenClaim := { program := "ytiglgfonhdfpmaagreat", sum := "58dcb8943d0d0b008bf1ceb00487c5f04cca7ccee2140b02e5727034bba2fc0d", func := "waterclock/waterclocklaw34.LintSame", spec := "lintSame", inPlace := ["internal/abi.NoEscape", "internal/bytealg.MakeNoZero", "internal/bytealg.IndexByteString", "math.archTrunc", "math.Float64bits", "math.Float64frombits", "internal/bytealg.abigen_runtime_cmpstring", "slices.overlaps[waterclock/api.Window]", "slices.overlaps[waterclock/api.Pane]"], unfollowed := true, recurses := true, apart := false, narrowed := true }
def LintSameUptoSaid : Prop := lintSameUptoRow.holds Tryz.pinned (OpenSpec.upto lintSameSpec)

end Rows
end Go.Proofs.YtiglgfonhdfpmaaGreat

/-
  No cell of these rows narrows 'for every input' (looked for: loops, veiled, ifaces, maps, wideKeys, modest, calm, conditions, laid).
  DERIVED. THE GIVEN ROWS OF THIS SEAT. 8 by the template 'for every input the law returns true; each argument reads behind the call as it read before'; 0 by the template 'total and deterministic' (their statements: YtoffcoegghigoaaTotals.lean).
  GIVEN WITH THE SEED: the statements are not yours to turn. If you find one false, say at which input.
  Laid BY PROGRAM, IN A SANDBOX (cutbox-rows.mjs): the forced cells as the released guide's own fill.sh prints them over the translation 2da45483f4e9ee1d… (all of the seat's roots in one cut). By AI agents, Wed Nov 11 2026. No macro, syntax, notation, axiom, sorry.
-/
import Derived.Test.YtoffcoegghigoaaChecked
import GoSem.Claim
import GoSem.ClaimJoined
import GoSem.ClaimMapViews
import Derived.JoinedTies
import Derived.KernelRfl
namespace Go.Proofs.Ytoffcoegghigoaa
/- THE CELL 'sum', in the pinned program and in every row, IS THE sha256 OF THE DUMP (.gsa) THAT YtoffcoegghigoaaProg.lean LOADS. Nothing in Lean hashes anything: it is a label: what it is worth is what the hold of that sum in a sandbox is worth. -/
noncomputable def Try.pinned : Pinned := { name := "ytoffcoegghigoaa", sum := "2da45483f4e9ee1d69da7cd593669b5a24e83966e3dafe7d9fe383a93b37d8ae", checked := Try.checked }
namespace Rows
def none {H : Type} : Left H := { results := [], args := [] }

/-- 'waterclocklaw36.LexSplits': WHATEVER THE INPUT: true; the input reads as it did. -/
def lexSplitsSpec : ChangeSpec := { name := "lexSplits", fn := fun _ => fun
  | [d] => { results := [.lit (.bool true)], args := [d] }
  | _ => none }
def lexSplitsRow : OpenClaim := { program := "ytoffcoegghigoaa", sum := "2da45483f4e9ee1d69da7cd593669b5a24e83966e3dafe7d9fe383a93b37d8ae", func := "waterclock/waterclocklaw36.LexSplits", spec := "lexSplits", inPlace := ["internal/abi.NoEscape", "internal/bytealg.MakeNoZero"], unfollowed := true, recurses := true, apart := false }
def LexSplitsSaid : Prop := lexSplitsRow.holds Try.pinned (OpenSpec.ofChange lexSplitsSpec)

/-- ITS FALSE NEIGHBOUR: 'it returns false'. Refute it at one input. -/
def lexSplitsWrong : ChangeSpec := { name := "lexSplits", fn := fun _ => fun
  | [d] => { results := [.lit (.bool false)], args := [d] }
  | _ => none }
def LexSplitsWrongFalsely : Prop := lexSplitsRow.holds Try.pinned (OpenSpec.ofChange lexSplitsWrong)

/-- 'waterclocklaw36.LexJoins': WHATEVER THE INPUT: true; the input reads as it did. -/
def lexJoinsSpec : ChangeSpec := { name := "lexJoins", fn := fun _ => fun
  | [d] => { results := [.lit (.bool true)], args := [d] }
  | _ => none }
def lexJoinsRow : OpenClaim := { program := "ytoffcoegghigoaa", sum := "2da45483f4e9ee1d69da7cd593669b5a24e83966e3dafe7d9fe383a93b37d8ae", func := "waterclock/waterclocklaw36.LexJoins", spec := "lexJoins", inPlace := ["internal/abi.NoEscape", "internal/bytealg.MakeNoZero"], unfollowed := true, recurses := true, apart := false }
def LexJoinsSaid : Prop := lexJoinsRow.holds Try.pinned (OpenSpec.ofChange lexJoinsSpec)

/-- ITS FALSE NEIGHBOUR: 'it returns false'. Refute it at one input. -/
def lexJoinsWrong : ChangeSpec := { name := "lexJoins", fn := fun _ => fun
  | [d] => { results := [.lit (.bool false)], args := [d] }
  | _ => none }
def LexJoinsWrongFalsely : Prop := lexJoinsRow.holds Try.pinned (OpenSpec.ofChange lexJoinsWrong)

/-- 'waterclocklaw36.LexBack': WHATEVER THE INPUT: true; the input reads as it did. -/
def lexBackSpec : ChangeSpec := { name := "lexBack", fn := fun _ => fun
  | [d1, d2] => { results := [.lit (.bool true)], args := [d1, d2] }
  | _ => none }
def lexBackRow : OpenClaim := { program := "ytoffcoegghigoaa", sum := "2da45483f4e9ee1d69da7cd593669b5a24e83966e3dafe7d9fe383a93b37d8ae", func := "waterclock/waterclocklaw36.LexBack", spec := "lexBack", inPlace := ["internal/abi.NoEscape", "internal/bytealg.MakeNoZero"], unfollowed := true, recurses := true, apart := false }
def LexBackSaid : Prop := lexBackRow.holds Try.pinned (OpenSpec.ofChange lexBackSpec)

/-- ITS FALSE NEIGHBOUR: 'it returns false'. Refute it at one input. -/
def lexBackWrong : ChangeSpec := { name := "lexBack", fn := fun _ => fun
  | [d1, d2] => { results := [.lit (.bool false)], args := [d1, d2] }
  | _ => none }
def LexBackWrongFalsely : Prop := lexBackRow.holds Try.pinned (OpenSpec.ofChange lexBackWrong)

/-- 'waterclocklaw09.SessTakes': WHATEVER THE INPUT: true; the input reads as it did. -/
def sessTakesSpec : ChangeSpec := { name := "sessTakes", fn := fun _ => fun
  | [d1, d2] => { results := [.lit (.bool true)], args := [d1, d2] }
  | _ => none }
def sessTakesRow : OpenClaim := { program := "ytoffcoegghigoaa", sum := "2da45483f4e9ee1d69da7cd593669b5a24e83966e3dafe7d9fe383a93b37d8ae", func := "waterclock/waterclocklaw09.SessTakes", spec := "sessTakes", inPlace := ["internal/bytealg.IndexByteString", "internal/bytealg.abigen_runtime_cmpstring", "slices.overlaps[waterclock/api.Window]"], unfollowed := true, recurses := true, apart := false }
def SessTakesSaid : Prop := sessTakesRow.holds Try.pinned (OpenSpec.ofChange sessTakesSpec)

/-- ITS FALSE NEIGHBOUR: 'it returns false'. Refute it at one input. -/
def sessTakesWrong : ChangeSpec := { name := "sessTakes", fn := fun _ => fun
  | [d1, d2] => { results := [.lit (.bool false)], args := [d1, d2] }
  | _ => none }
def SessTakesWrongFalsely : Prop := sessTakesRow.holds Try.pinned (OpenSpec.ofChange sessTakesWrong)

/-- 'waterclocklaw09.SessTwice': WHATEVER THE INPUT: true; the input reads as it did. -/
def sessTwiceSpec : ChangeSpec := { name := "sessTwice", fn := fun _ => fun
  | [d1, d2, d3] => { results := [.lit (.bool true)], args := [d1, d2, d3] }
  | _ => none }
def sessTwiceRow : OpenClaim := { program := "ytoffcoegghigoaa", sum := "2da45483f4e9ee1d69da7cd593669b5a24e83966e3dafe7d9fe383a93b37d8ae", func := "waterclock/waterclocklaw09.SessTwice", spec := "sessTwice", inPlace := ["internal/bytealg.IndexByteString", "internal/bytealg.abigen_runtime_cmpstring", "slices.overlaps[waterclock/api.Window]"], unfollowed := true, recurses := true, apart := false }
def SessTwiceSaid : Prop := sessTwiceRow.holds Try.pinned (OpenSpec.ofChange sessTwiceSpec)

/-- ITS FALSE NEIGHBOUR: 'it returns false'. Refute it at one input. -/
def sessTwiceWrong : ChangeSpec := { name := "sessTwice", fn := fun _ => fun
  | [d1, d2, d3] => { results := [.lit (.bool false)], args := [d1, d2, d3] }
  | _ => none }
def SessTwiceWrongFalsely : Prop := sessTwiceRow.holds Try.pinned (OpenSpec.ofChange sessTwiceWrong)

/-- 'waterclocklaw09.SessGrows': WHATEVER THE INPUT: true; the input reads as it did. -/
def sessGrowsSpec : ChangeSpec := { name := "sessGrows", fn := fun _ => fun
  | [d1, d2] => { results := [.lit (.bool true)], args := [d1, d2] }
  | _ => none }
def sessGrowsRow : OpenClaim := { program := "ytoffcoegghigoaa", sum := "2da45483f4e9ee1d69da7cd593669b5a24e83966e3dafe7d9fe383a93b37d8ae", func := "waterclock/waterclocklaw09.SessGrows", spec := "sessGrows", inPlace := ["internal/bytealg.IndexByteString", "internal/bytealg.abigen_runtime_cmpstring", "slices.overlaps[waterclock/api.Window]"], unfollowed := true, recurses := true, apart := false }
def SessGrowsSaid : Prop := sessGrowsRow.holds Try.pinned (OpenSpec.ofChange sessGrowsSpec)

/-- ITS FALSE NEIGHBOUR: 'it returns false'. Refute it at one input. -/
def sessGrowsWrong : ChangeSpec := { name := "sessGrows", fn := fun _ => fun
  | [d1, d2] => { results := [.lit (.bool false)], args := [d1, d2] }
  | _ => none }
def SessGrowsWrongFalsely : Prop := sessGrowsRow.holds Try.pinned (OpenSpec.ofChange sessGrowsWrong)

/-- 'waterclocklaw28.ClockSees': WHATEVER THE INPUT: true; the input reads as it did. -/
def clockSeesSpec : ChangeSpec := { name := "clockSees", fn := fun _ => fun
  | [d1, d2, d3] => { results := [.lit (.bool true)], args := [d1, d2, d3] }
  | _ => none }
def clockSeesRow : OpenClaim := { program := "ytoffcoegghigoaa", sum := "2da45483f4e9ee1d69da7cd593669b5a24e83966e3dafe7d9fe383a93b37d8ae", func := "waterclock/waterclocklaw28.ClockSees", spec := "clockSees", inPlace := ["internal/bytealg.IndexByteString"], unfollowed := true, recurses := true, apart := false }
def ClockSeesSaid : Prop := clockSeesRow.holds Try.pinned (OpenSpec.ofChange clockSeesSpec)

/-- ITS FALSE NEIGHBOUR: 'it returns false'. Refute it at one input. -/
def clockSeesWrong : ChangeSpec := { name := "clockSees", fn := fun _ => fun
  | [d1, d2, d3] => { results := [.lit (.bool false)], args := [d1, d2, d3] }
  | _ => none }
def ClockSeesWrongFalsely : Prop := clockSeesRow.holds Try.pinned (OpenSpec.ofChange clockSeesWrong)

/-- 'waterclocklaw28.ClockWeaves': WHATEVER THE INPUT: true; the input reads as it did. -/
def clockWeavesSpec : ChangeSpec := { name := "clockWeaves", fn := fun _ => fun
  | [d1, d2, d3] => { results := [.lit (.bool true)], args := [d1, d2, d3] }
  | _ => none }
def clockWeavesRow : OpenClaim := { program := "ytoffcoegghigoaa", sum := "2da45483f4e9ee1d69da7cd593669b5a24e83966e3dafe7d9fe383a93b37d8ae", func := "waterclock/waterclocklaw28.ClockWeaves", spec := "clockWeaves", inPlace := ["internal/bytealg.IndexByteString"], unfollowed := true, recurses := true, apart := false }
def ClockWeavesSaid : Prop := clockWeavesRow.holds Try.pinned (OpenSpec.ofChange clockWeavesSpec)

/-- ITS FALSE NEIGHBOUR: 'it returns false'. Refute it at one input. -/
def clockWeavesWrong : ChangeSpec := { name := "clockWeaves", fn := fun _ => fun
  | [d1, d2, d3] => { results := [.lit (.bool false)], args := [d1, d2, d3] }
  | _ => none }
def ClockWeavesWrongFalsely : Prop := clockWeavesRow.holds Try.pinned (OpenSpec.ofChange clockWeavesWrong)

/- THE SECOND FORM. 'bulk': how many values and letters a reading holds, each counted each time it is reached (what is shared counts as often as it is met; a slice's spare places count too). A statement '..UptoSaid' is the law's where the arguments, and the package variables that the reading takes, are together of bulk at most 1048576: NARROWER than '..Said'. Prove '..Said' where nothing that the law and all that it calls make is longer than what came in: it says more and counts as full. Else prove '..UptoSaid'. A law counts once. -/
mutual
def uptoBulk {H : Type} : DataW H → Nat
  | .lit (.string bytes) => bytes.length + 1
  | .lit _ => 1
  | .nil => 1
  | .ptr d => uptoBulk d + 1
  | .slice elems spare => uptoBulkAll elems + uptoBulkAll spare + 1
  | .agg parts => uptoBulkAll parts + 1
  | .iface _ d => uptoBulk d + 1
  | .map entries => uptoBulkEntries entries + 1
  | .held _ => 1
def uptoBulkAll {H : Type} : List (DataW H) → Nat
  | [] => 0
  | d :: r => uptoBulk d + uptoBulkAll r
def uptoBulkEntries {H : Type} : List (Lit × DataW H) → Nat
  | [] => 0
  | x :: r => uptoBulkEntry x + uptoBulkEntries r
def uptoBulkEntry {H : Type} : Lit × DataW H → Nat
  | (.string bytes, d) => bytes.length + uptoBulk d + 1
  | (_, d) => uptoBulk d + 1
 end
def uptoSmall : (H : Type) → List (DataW H) → Bool := fun _ ds => decide (uptoBulkAll ds ≤ 1048576)
def OpenSpec.upto (s : _root_.Go.ChangeSpec) : _root_.Go.OpenSpec := { _root_.Go.OpenSpec.ofChange s with cond := some uptoSmall }

/-- 'waterclocklaw36.LexSplits', WHERE WHAT IT READS IS OF BULK AT MOST 1048576: true; the input reads as it did. -/
def lexSplitsUptoRow : OpenClaim := { program := "ytoffcoegghigoaa", sum := "2da45483f4e9ee1d69da7cd593669b5a24e83966e3dafe7d9fe383a93b37d8ae", func := "waterclock/waterclocklaw36.LexSplits", spec := "lexSplits", inPlace := ["internal/abi.NoEscape", "internal/bytealg.MakeNoZero"], unfollowed := true, recurses := true, apart := false, narrowed := true }
def LexSplitsUptoSaid : Prop := lexSplitsUptoRow.holds Try.pinned (OpenSpec.upto lexSplitsSpec)

/-- 'waterclocklaw36.LexJoins', WHERE WHAT IT READS IS OF BULK AT MOST 1048576: true; the input reads as it did. -/
def lexJoinsUptoRow : OpenClaim := { program := "ytoffcoegghigoaa", sum := "2da45483f4e9ee1d69da7cd593669b5a24e83966e3dafe7d9fe383a93b37d8ae", func := "waterclock/waterclocklaw36.LexJoins", spec := "lexJoins", inPlace := ["internal/abi.NoEscape", "internal/bytealg.MakeNoZero"], unfollowed := true, recurses := true, apart := false, narrowed := true }
def LexJoinsUptoSaid : Prop := lexJoinsUptoRow.holds Try.pinned (OpenSpec.upto lexJoinsSpec)

/-- 'waterclocklaw36.LexBack', WHERE WHAT IT READS IS OF BULK AT MOST 1048576: true; the input reads as it did. -/
def lexBackUptoRow : OpenClaim := { program := "ytoffcoegghigoaa", sum := "2da45483f4e9ee1d69da7cd593669b5a24e83966e3dafe7d9fe383a93b37d8ae", func := "waterclock/waterclocklaw36.LexBack", spec := "lexBack", inPlace := ["internal/abi.NoEscape", "internal/bytealg.MakeNoZero"], unfollowed := true, recurses := true, apart := false, narrowed := true }
def LexBackUptoSaid : Prop := lexBackUptoRow.holds Try.pinned (OpenSpec.upto lexBackSpec)

/-- 'waterclocklaw09.SessTakes', WHERE WHAT IT READS IS OF BULK AT MOST 1048576: true; the input reads as it did. -/
def sessTakesUptoRow : OpenClaim := { program := "ytoffcoegghigoaa", sum := "2da45483f4e9ee1d69da7cd593669b5a24e83966e3dafe7d9fe383a93b37d8ae", func := "waterclock/waterclocklaw09.SessTakes", spec := "sessTakes", inPlace := ["internal/bytealg.IndexByteString", "internal/bytealg.abigen_runtime_cmpstring", "slices.overlaps[waterclock/api.Window]"], unfollowed := true, recurses := true, apart := false, narrowed := true }
def SessTakesUptoSaid : Prop := sessTakesUptoRow.holds Try.pinned (OpenSpec.upto sessTakesSpec)

/-- 'waterclocklaw09.SessTwice', WHERE WHAT IT READS IS OF BULK AT MOST 1048576: true; the input reads as it did. -/
def sessTwiceUptoRow : OpenClaim := { program := "ytoffcoegghigoaa", sum := "2da45483f4e9ee1d69da7cd593669b5a24e83966e3dafe7d9fe383a93b37d8ae", func := "waterclock/waterclocklaw09.SessTwice", spec := "sessTwice", inPlace := ["internal/bytealg.IndexByteString", "internal/bytealg.abigen_runtime_cmpstring", "slices.overlaps[waterclock/api.Window]"], unfollowed := true, recurses := true, apart := false, narrowed := true }
def SessTwiceUptoSaid : Prop := sessTwiceUptoRow.holds Try.pinned (OpenSpec.upto sessTwiceSpec)

/-- 'waterclocklaw09.SessGrows', WHERE WHAT IT READS IS OF BULK AT MOST 1048576: true; the input reads as it did. -/
def sessGrowsUptoRow : OpenClaim := { program := "ytoffcoegghigoaa", sum := "2da45483f4e9ee1d69da7cd593669b5a24e83966e3dafe7d9fe383a93b37d8ae", func := "waterclock/waterclocklaw09.SessGrows", spec := "sessGrows", inPlace := ["internal/bytealg.IndexByteString", "internal/bytealg.abigen_runtime_cmpstring", "slices.overlaps[waterclock/api.Window]"], unfollowed := true, recurses := true, apart := false, narrowed := true }
def SessGrowsUptoSaid : Prop := sessGrowsUptoRow.holds Try.pinned (OpenSpec.upto sessGrowsSpec)

/-- 'waterclocklaw28.ClockSees', WHERE WHAT IT READS IS OF BULK AT MOST 1048576: true; the input reads as it did. -/
def clockSeesUptoRow : OpenClaim := { program := "ytoffcoegghigoaa", sum := "2da45483f4e9ee1d69da7cd593669b5a24e83966e3dafe7d9fe383a93b37d8ae", func := "waterclock/waterclocklaw28.ClockSees", spec := "clockSees", inPlace := ["internal/bytealg.IndexByteString"], unfollowed := true, recurses := true, apart := false, narrowed := true }
def ClockSeesUptoSaid : Prop := clockSeesUptoRow.holds Try.pinned (OpenSpec.upto clockSeesSpec)

/-- 'waterclocklaw28.ClockWeaves', WHERE WHAT IT READS IS OF BULK AT MOST 1048576: true; the input reads as it did. -/
def clockWeavesUptoRow : OpenClaim := { program := "ytoffcoegghigoaa", sum := "2da45483f4e9ee1d69da7cd593669b5a24e83966e3dafe7d9fe383a93b37d8ae", func := "waterclock/waterclocklaw28.ClockWeaves", spec := "clockWeaves", inPlace := ["internal/bytealg.IndexByteString"], unfollowed := true, recurses := true, apart := false, narrowed := true }
def ClockWeavesUptoSaid : Prop := clockWeavesUptoRow.holds Try.pinned (OpenSpec.upto clockWeavesSpec)

end Rows
end Go.Proofs.Ytoffcoegghigoaa

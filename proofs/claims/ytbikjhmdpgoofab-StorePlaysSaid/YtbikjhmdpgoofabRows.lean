/-
  No cell of these rows narrows 'for every input' (looked for: loops, veiled, ifaces, maps, wideKeys, modest, calm, conditions, laid).
  DERIVED. THE GIVEN ROWS OF THIS SEAT. 6 by the template 'for every input the law returns true; each argument reads behind the call as it read before'; 0 by the template 'total and deterministic' (their statements: YtbikjhmdpgoofabTotals.lean).
  GIVEN WITH THE SEED: the statements are not yours to turn. If you find one false, say at which input.
  Laid BY PROGRAM, IN A SANDBOX (cutbox-rows.mjs): the forced cells as the released guide's own fill.sh prints them over the translation 9ee04e559367515b… (all of the seat's roots in one cut). By AI agents, Wed Nov 11 2026. No macro, syntax, notation, axiom, sorry.
-/
import Derived.Test.YtbikjhmdpgoofabChecked
import GoSem.Claim
import GoSem.ClaimJoined
import GoSem.ClaimMapViews
import Derived.JoinedTies
import Derived.KernelRfl
namespace Go.Proofs.Ytbikjhmdpgoofab
/- THE CELL 'sum', in the pinned program and in every row, IS THE sha256 OF THE DUMP (.gsa) THAT YtbikjhmdpgoofabProg.lean LOADS. Nothing in Lean hashes anything: it is a label: what it is worth is what the hold of that sum in a sandbox is worth. -/
noncomputable def Try.pinned : Pinned := { name := "ytbikjhmdpgoofab", sum := "9ee04e559367515bd9d35bee4bb7501e5d141c0bb9ba201141bc4e13dc948d69", checked := Try.checked }
namespace Rows
def none {H : Type} : Left H := { results := [], args := [] }

/-- 'waterclocklaw15.RingStarts': WHATEVER THE INPUT: true; the input reads as it did. -/
def ringStartsSpec : ChangeSpec := { name := "ringStarts", fn := fun _ => fun
  | [d1, d2, d3] => { results := [.lit (.bool true)], args := [d1, d2, d3] }
  | _ => none }
def ringStartsRow : OpenClaim := { program := "ytbikjhmdpgoofab", sum := "9ee04e559367515bd9d35bee4bb7501e5d141c0bb9ba201141bc4e13dc948d69", func := "waterclock/waterclocklaw15.RingStarts", spec := "ringStarts", apart := false }
def RingStartsSaid : Prop := ringStartsRow.holds Try.pinned (OpenSpec.ofChange ringStartsSpec)

/-- ITS FALSE NEIGHBOUR: 'it returns false'. Refute it at one input. -/
def ringStartsWrong : ChangeSpec := { name := "ringStarts", fn := fun _ => fun
  | [d1, d2, d3] => { results := [.lit (.bool false)], args := [d1, d2, d3] }
  | _ => none }
def RingStartsWrongFalsely : Prop := ringStartsRow.holds Try.pinned (OpenSpec.ofChange ringStartsWrong)

/-- 'waterclocklaw15.RingWrites': WHATEVER THE INPUT: true; the input reads as it did. -/
def ringWritesSpec : ChangeSpec := { name := "ringWrites", fn := fun _ => fun
  | [d1, d2, d3] => { results := [.lit (.bool true)], args := [d1, d2, d3] }
  | _ => none }
def ringWritesRow : OpenClaim := { program := "ytbikjhmdpgoofab", sum := "9ee04e559367515bd9d35bee4bb7501e5d141c0bb9ba201141bc4e13dc948d69", func := "waterclock/waterclocklaw15.RingWrites", spec := "ringWrites", apart := false }
def RingWritesSaid : Prop := ringWritesRow.holds Try.pinned (OpenSpec.ofChange ringWritesSpec)

/-- ITS FALSE NEIGHBOUR: 'it returns false'. Refute it at one input. -/
def ringWritesWrong : ChangeSpec := { name := "ringWrites", fn := fun _ => fun
  | [d1, d2, d3] => { results := [.lit (.bool false)], args := [d1, d2, d3] }
  | _ => none }
def RingWritesWrongFalsely : Prop := ringWritesRow.holds Try.pinned (OpenSpec.ofChange ringWritesWrong)

/-- 'waterclocklaw03.PenWrites': WHATEVER THE INPUT: true; the input reads as it did. -/
def penWritesSpec : ChangeSpec := { name := "penWrites", fn := fun _ => fun
  | [d] => { results := [.lit (.bool true)], args := [d] }
  | _ => none }
def penWritesRow : OpenClaim := { program := "ytbikjhmdpgoofab", sum := "9ee04e559367515bd9d35bee4bb7501e5d141c0bb9ba201141bc4e13dc948d69", func := "waterclock/waterclocklaw03.PenWrites", spec := "penWrites", apart := false }
def PenWritesSaid : Prop := penWritesRow.holds Try.pinned (OpenSpec.ofChange penWritesSpec)

/-- ITS FALSE NEIGHBOUR: 'it returns false'. Refute it at one input. -/
def penWritesWrong : ChangeSpec := { name := "penWrites", fn := fun _ => fun
  | [d] => { results := [.lit (.bool false)], args := [d] }
  | _ => none }
def PenWritesWrongFalsely : Prop := penWritesRow.holds Try.pinned (OpenSpec.ofChange penWritesWrong)

/-- 'waterclocklaw03.PenReads': WHATEVER THE INPUT: true; the input reads as it did. -/
def penReadsSpec : ChangeSpec := { name := "penReads", fn := fun _ => fun
  | [d1, d2] => { results := [.lit (.bool true)], args := [d1, d2] }
  | _ => none }
def penReadsRow : OpenClaim := { program := "ytbikjhmdpgoofab", sum := "9ee04e559367515bd9d35bee4bb7501e5d141c0bb9ba201141bc4e13dc948d69", func := "waterclock/waterclocklaw03.PenReads", spec := "penReads", apart := false }
def PenReadsSaid : Prop := penReadsRow.holds Try.pinned (OpenSpec.ofChange penReadsSpec)

/-- ITS FALSE NEIGHBOUR: 'it returns false'. Refute it at one input. -/
def penReadsWrong : ChangeSpec := { name := "penReads", fn := fun _ => fun
  | [d1, d2] => { results := [.lit (.bool false)], args := [d1, d2] }
  | _ => none }
def PenReadsWrongFalsely : Prop := penReadsRow.holds Try.pinned (OpenSpec.ofChange penReadsWrong)

/-- 'waterclocklaw03.PenBack': WHATEVER THE INPUT: true; the input reads as it did. -/
def penBackSpec : ChangeSpec := { name := "penBack", fn := fun _ => fun
  | [d1, d2] => { results := [.lit (.bool true)], args := [d1, d2] }
  | _ => none }
def penBackRow : OpenClaim := { program := "ytbikjhmdpgoofab", sum := "9ee04e559367515bd9d35bee4bb7501e5d141c0bb9ba201141bc4e13dc948d69", func := "waterclock/waterclocklaw03.PenBack", spec := "penBack", apart := false }
def PenBackSaid : Prop := penBackRow.holds Try.pinned (OpenSpec.ofChange penBackSpec)

/-- ITS FALSE NEIGHBOUR: 'it returns false'. Refute it at one input. -/
def penBackWrong : ChangeSpec := { name := "penBack", fn := fun _ => fun
  | [d1, d2] => { results := [.lit (.bool false)], args := [d1, d2] }
  | _ => none }
def PenBackWrongFalsely : Prop := penBackRow.holds Try.pinned (OpenSpec.ofChange penBackWrong)

/-- 'waterclocklaw12.StorePlays': WHATEVER THE INPUT: true; the input reads as it did. -/
def storePlaysSpec : ChangeSpec := { name := "storePlays", fn := fun _ => fun
  | [d1, d2] => { results := [.lit (.bool true)], args := [d1, d2] }
  | _ => none }
def storePlaysRow : OpenClaim := { program := "ytbikjhmdpgoofab", sum := "9ee04e559367515bd9d35bee4bb7501e5d141c0bb9ba201141bc4e13dc948d69", func := "waterclock/waterclocklaw12.StorePlays", spec := "storePlays", unfollowed := true, recurses := true, apart := false }
def StorePlaysSaid : Prop := storePlaysRow.holds Try.pinned (OpenSpec.ofChange storePlaysSpec)

/-- ITS FALSE NEIGHBOUR: 'it returns false'. Refute it at one input. -/
def storePlaysWrong : ChangeSpec := { name := "storePlays", fn := fun _ => fun
  | [d1, d2] => { results := [.lit (.bool false)], args := [d1, d2] }
  | _ => none }
def StorePlaysWrongFalsely : Prop := storePlaysRow.holds Try.pinned (OpenSpec.ofChange storePlaysWrong)

/- THE SECOND FORM. 'bulk': how many values and letters a reading holds, each counted each time it is reached (what is shared counts as often as it is met; a slice's spare places count too). A statement '..UptoSaid' is the law's where the arguments, and the package variables that the reading takes, are together of bulk at most 1048576: NARROWER than '..Said'. Prove '..Said' where nothing that the law and all that it calls make is longer than what came in: it says more and counts as full. Else prove '..UptoSaid'. A law counts once. -/
mutual
def uptoBulk {H : Type} : DataW H → Nat
  | .lit (.string bytes) => bytes.length + 1
  | .lit _ => 1
  | .nil => 1
  | .ptr d => uptoBulk d + 1
  | .slice elems spare => uptoBulkAll elems + uptoBulkAll spare + 1
  | .agg parts => uptoBulkAll parts + 1
  | .iface _ d => uptoBulk d + 1
  | .map entries => uptoBulkEntries entries + 1
  | .held _ => 1
def uptoBulkAll {H : Type} : List (DataW H) → Nat
  | [] => 0
  | d :: r => uptoBulk d + uptoBulkAll r
def uptoBulkEntries {H : Type} : List (Lit × DataW H) → Nat
  | [] => 0
  | x :: r => uptoBulkEntry x + uptoBulkEntries r
def uptoBulkEntry {H : Type} : Lit × DataW H → Nat
  | (.string bytes, d) => bytes.length + uptoBulk d + 1
  | (_, d) => uptoBulk d + 1
 end
def uptoSmall : (H : Type) → List (DataW H) → Bool := fun _ ds => decide (uptoBulkAll ds ≤ 1048576)
def OpenSpec.upto (s : _root_.Go.ChangeSpec) : _root_.Go.OpenSpec := { _root_.Go.OpenSpec.ofChange s with cond := some uptoSmall }

/-- 'waterclocklaw15.RingStarts', WHERE WHAT IT READS IS OF BULK AT MOST 1048576: true; the input reads as it did. -/
def ringStartsUptoRow : OpenClaim := { program := "ytbikjhmdpgoofab", sum := "9ee04e559367515bd9d35bee4bb7501e5d141c0bb9ba201141bc4e13dc948d69", func := "waterclock/waterclocklaw15.RingStarts", spec := "ringStarts", apart := false, narrowed := true }
def RingStartsUptoSaid : Prop := ringStartsUptoRow.holds Try.pinned (OpenSpec.upto ringStartsSpec)

/-- 'waterclocklaw15.RingWrites', WHERE WHAT IT READS IS OF BULK AT MOST 1048576: true; the input reads as it did. -/
def ringWritesUptoRow : OpenClaim := { program := "ytbikjhmdpgoofab", sum := "9ee04e559367515bd9d35bee4bb7501e5d141c0bb9ba201141bc4e13dc948d69", func := "waterclock/waterclocklaw15.RingWrites", spec := "ringWrites", apart := false, narrowed := true }
def RingWritesUptoSaid : Prop := ringWritesUptoRow.holds Try.pinned (OpenSpec.upto ringWritesSpec)

/-- 'waterclocklaw03.PenWrites', WHERE WHAT IT READS IS OF BULK AT MOST 1048576: true; the input reads as it did. -/
def penWritesUptoRow : OpenClaim := { program := "ytbikjhmdpgoofab", sum := "9ee04e559367515bd9d35bee4bb7501e5d141c0bb9ba201141bc4e13dc948d69", func := "waterclock/waterclocklaw03.PenWrites", spec := "penWrites", apart := false, narrowed := true }
def PenWritesUptoSaid : Prop := penWritesUptoRow.holds Try.pinned (OpenSpec.upto penWritesSpec)

/-- 'waterclocklaw03.PenReads', WHERE WHAT IT READS IS OF BULK AT MOST 1048576: true; the input reads as it did. -/
def penReadsUptoRow : OpenClaim := { program := "ytbikjhmdpgoofab", sum := "9ee04e559367515bd9d35bee4bb7501e5d141c0bb9ba201141bc4e13dc948d69", func := "waterclock/waterclocklaw03.PenReads", spec := "penReads", apart := false, narrowed := true }
def PenReadsUptoSaid : Prop := penReadsUptoRow.holds Try.pinned (OpenSpec.upto penReadsSpec)

/-- 'waterclocklaw03.PenBack', WHERE WHAT IT READS IS OF BULK AT MOST 1048576: true; the input reads as it did. -/
def penBackUptoRow : OpenClaim := { program := "ytbikjhmdpgoofab", sum := "9ee04e559367515bd9d35bee4bb7501e5d141c0bb9ba201141bc4e13dc948d69", func := "waterclock/waterclocklaw03.PenBack", spec := "penBack", apart := false, narrowed := true }
def PenBackUptoSaid : Prop := penBackUptoRow.holds Try.pinned (OpenSpec.upto penBackSpec)

/-- 'waterclocklaw12.StorePlays', WHERE WHAT IT READS IS OF BULK AT MOST 1048576: true; the input reads as it did. -/
def storePlaysUptoRow : OpenClaim := { program := "ytbikjhmdpgoofab", sum := "9ee04e559367515bd9d35bee4bb7501e5d141c0bb9ba201141bc4e13dc948d69", func := "waterclock/waterclocklaw12.StorePlays", spec := "storePlays", unfollowed := true, recurses := true, apart := false, narrowed := true }
def StorePlaysUptoSaid : Prop := storePlaysUptoRow.holds Try.pinned (OpenSpec.upto storePlaysSpec)

end Rows
end Go.Proofs.Ytbikjhmdpgoofab

/-
  No cell of these rows narrows 'for every input' (looked for: loops, veiled, ifaces, maps, wideKeys, modest, calm, conditions, laid).
  DERIVED. THE GIVEN ROWS OF THIS SEAT. 6 by the template 'for every input the law returns true; each argument reads behind the call as it read before'; 0 by the template 'total and deterministic' (their statements: YtbikjhmdpgoofaaTotals.lean).
  GIVEN WITH THE SEED: the statements are not yours to turn. If you find one false, say at which input.
  Laid BY PROGRAM, IN A SANDBOX (cutbox-rows.mjs): the forced cells as the released guide's own fill.sh prints them over the translation 5d0ca49c670693f7… (all of the seat's roots in one cut). By AI agents, Wed Nov 11 2026. No macro, syntax, notation, axiom, sorry.
-/
import Derived.Test.YtbikjhmdpgoofaaChecked
import GoSem.Claim
import GoSem.ClaimJoined
import GoSem.ClaimMapViews
import Derived.JoinedTies
import Derived.KernelRfl
namespace Go.Proofs.Ytbikjhmdpgoofaa
/- THE CELL 'sum', in the pinned program and in every row, IS THE sha256 OF THE DUMP (.gsa) THAT YtbikjhmdpgoofaaProg.lean LOADS. Nothing in Lean hashes anything: it is a label: what it is worth is what the hold of that sum in a sandbox is worth. -/
noncomputable def Try.pinned : Pinned := { name := "ytbikjhmdpgoofaa", sum := "5d0ca49c670693f7d0c2967a068808325cf89f52f48f2511512c1378351a8ec8", checked := Try.checked }
namespace Rows
def none {H : Type} : Left H := { results := [], args := [] }

/-- 'waterclocklaw13.MeterPlays': WHATEVER THE INPUT: true; the input reads as it did. -/
def meterPlaysSpec : ChangeSpec := { name := "meterPlays", fn := fun _ => fun
  | [d1, d2] => { results := [.lit (.bool true)], args := [d1, d2] }
  | _ => none }
def meterPlaysRow : OpenClaim := { program := "ytbikjhmdpgoofaa", sum := "5d0ca49c670693f7d0c2967a068808325cf89f52f48f2511512c1378351a8ec8", func := "waterclock/waterclocklaw13.MeterPlays", spec := "meterPlays", unfollowed := true, recurses := true, apart := false }
def MeterPlaysSaid : Prop := meterPlaysRow.holds Try.pinned (OpenSpec.ofChange meterPlaysSpec)

/-- ITS FALSE NEIGHBOUR: 'it returns false'. Refute it at one input. -/
def meterPlaysWrong : ChangeSpec := { name := "meterPlays", fn := fun _ => fun
  | [d1, d2] => { results := [.lit (.bool false)], args := [d1, d2] }
  | _ => none }
def MeterPlaysWrongFalsely : Prop := meterPlaysRow.holds Try.pinned (OpenSpec.ofChange meterPlaysWrong)

/-- 'waterclocklaw12.StoreLasts': WHATEVER THE INPUT: true; the input reads as it did. -/
def storeLastsSpec : ChangeSpec := { name := "storeLasts", fn := fun _ => fun
  | [d] => { results := [.lit (.bool true)], args := [d] }
  | _ => none }
def storeLastsRow : OpenClaim := { program := "ytbikjhmdpgoofaa", sum := "5d0ca49c670693f7d0c2967a068808325cf89f52f48f2511512c1378351a8ec8", func := "waterclock/waterclocklaw12.StoreLasts", spec := "storeLasts", unfollowed := true, recurses := true, apart := false }
def StoreLastsSaid : Prop := storeLastsRow.holds Try.pinned (OpenSpec.ofChange storeLastsSpec)

/-- ITS FALSE NEIGHBOUR: 'it returns false'. Refute it at one input. -/
def storeLastsWrong : ChangeSpec := { name := "storeLasts", fn := fun _ => fun
  | [d] => { results := [.lit (.bool false)], args := [d] }
  | _ => none }
def StoreLastsWrongFalsely : Prop := storeLastsRow.holds Try.pinned (OpenSpec.ofChange storeLastsWrong)

/-- 'waterclocklaw32.IndexLevels': WHATEVER THE INPUT: true; the input reads as it did. -/
def indexLevelsSpec : ChangeSpec := { name := "indexLevels", fn := fun _ => fun
  | [d1, d2, d3] => { results := [.lit (.bool true)], args := [d1, d2, d3] }
  | _ => none }
def indexLevelsRow : OpenClaim := { program := "ytbikjhmdpgoofaa", sum := "5d0ca49c670693f7d0c2967a068808325cf89f52f48f2511512c1378351a8ec8", func := "waterclock/waterclocklaw32.IndexLevels", spec := "indexLevels", inPlace := ["internal/bytealg.IndexByteString"], recurses := true, apart := false }
def IndexLevelsSaid : Prop := indexLevelsRow.holds Try.pinned (OpenSpec.ofChange indexLevelsSpec)

/-- ITS FALSE NEIGHBOUR: 'it returns false'. Refute it at one input. -/
def indexLevelsWrong : ChangeSpec := { name := "indexLevels", fn := fun _ => fun
  | [d1, d2, d3] => { results := [.lit (.bool false)], args := [d1, d2, d3] }
  | _ => none }
def IndexLevelsWrongFalsely : Prop := indexLevelsRow.holds Try.pinned (OpenSpec.ofChange indexLevelsWrong)

/-- 'waterclocklaw32.IndexJoins': WHATEVER THE INPUT: true; the input reads as it did. -/
def indexJoinsSpec : ChangeSpec := { name := "indexJoins", fn := fun _ => fun
  | [d1, d2, d3] => { results := [.lit (.bool true)], args := [d1, d2, d3] }
  | _ => none }
def indexJoinsRow : OpenClaim := { program := "ytbikjhmdpgoofaa", sum := "5d0ca49c670693f7d0c2967a068808325cf89f52f48f2511512c1378351a8ec8", func := "waterclock/waterclocklaw32.IndexJoins", spec := "indexJoins", inPlace := ["internal/bytealg.IndexByteString"], recurses := true, apart := false }
def IndexJoinsSaid : Prop := indexJoinsRow.holds Try.pinned (OpenSpec.ofChange indexJoinsSpec)

/-- ITS FALSE NEIGHBOUR: 'it returns false'. Refute it at one input. -/
def indexJoinsWrong : ChangeSpec := { name := "indexJoins", fn := fun _ => fun
  | [d1, d2, d3] => { results := [.lit (.bool false)], args := [d1, d2, d3] }
  | _ => none }
def IndexJoinsWrongFalsely : Prop := indexJoinsRow.holds Try.pinned (OpenSpec.ofChange indexJoinsWrong)

/-- 'waterclocklaw32.IndexFinds': WHATEVER THE INPUT: true; the input reads as it did. -/
def indexFindsSpec : ChangeSpec := { name := "indexFinds", fn := fun _ => fun
  | [d1, d2, d3] => { results := [.lit (.bool true)], args := [d1, d2, d3] }
  | _ => none }
def indexFindsRow : OpenClaim := { program := "ytbikjhmdpgoofaa", sum := "5d0ca49c670693f7d0c2967a068808325cf89f52f48f2511512c1378351a8ec8", func := "waterclock/waterclocklaw32.IndexFinds", spec := "indexFinds", inPlace := ["internal/bytealg.IndexByteString"], recurses := true, apart := false }
def IndexFindsSaid : Prop := indexFindsRow.holds Try.pinned (OpenSpec.ofChange indexFindsSpec)

/-- ITS FALSE NEIGHBOUR: 'it returns false'. Refute it at one input. -/
def indexFindsWrong : ChangeSpec := { name := "indexFinds", fn := fun _ => fun
  | [d1, d2, d3] => { results := [.lit (.bool false)], args := [d1, d2, d3] }
  | _ => none }
def IndexFindsWrongFalsely : Prop := indexFindsRow.holds Try.pinned (OpenSpec.ofChange indexFindsWrong)

/-- 'waterclocklaw15.RingApart': WHATEVER THE INPUT: true; the input reads as it did. -/
def ringApartSpec : ChangeSpec := { name := "ringApart", fn := fun _ => fun
  | [d1, d2, d3] => { results := [.lit (.bool true)], args := [d1, d2, d3] }
  | _ => none }
def ringApartRow : OpenClaim := { program := "ytbikjhmdpgoofaa", sum := "5d0ca49c670693f7d0c2967a068808325cf89f52f48f2511512c1378351a8ec8", func := "waterclock/waterclocklaw15.RingApart", spec := "ringApart", apart := false }
def RingApartSaid : Prop := ringApartRow.holds Try.pinned (OpenSpec.ofChange ringApartSpec)

/-- ITS FALSE NEIGHBOUR: 'it returns false'. Refute it at one input. -/
def ringApartWrong : ChangeSpec := { name := "ringApart", fn := fun _ => fun
  | [d1, d2, d3] => { results := [.lit (.bool false)], args := [d1, d2, d3] }
  | _ => none }
def RingApartWrongFalsely : Prop := ringApartRow.holds Try.pinned (OpenSpec.ofChange ringApartWrong)

/- THE SECOND FORM. 'bulk': how many values and letters a reading holds, each counted each time it is reached (what is shared counts as often as it is met; a slice's spare places count too). A statement '..UptoSaid' is the law's where the arguments, and the package variables that the reading takes, are together of bulk at most 1048576: NARROWER than '..Said'. Prove '..Said' where nothing that the law and all that it calls make is longer than what came in: it says more and counts as full. Else prove '..UptoSaid'. A law counts once. -/
mutual
def uptoBulk {H : Type} : DataW H → Nat
  | .lit (.string bytes) => bytes.length + 1
  | .lit _ => 1
  | .nil => 1
  | .ptr d => uptoBulk d + 1
  | .slice elems spare => uptoBulkAll elems + uptoBulkAll spare + 1
  | .agg parts => uptoBulkAll parts + 1
  | .iface _ d => uptoBulk d + 1
  | .map entries => uptoBulkEntries entries + 1
  | .held _ => 1
def uptoBulkAll {H : Type} : List (DataW H) → Nat
  | [] => 0
  | d :: r => uptoBulk d + uptoBulkAll r
def uptoBulkEntries {H : Type} : List (Lit × DataW H) → Nat
  | [] => 0
  | x :: r => uptoBulkEntry x + uptoBulkEntries r
def uptoBulkEntry {H : Type} : Lit × DataW H → Nat
  | (.string bytes, d) => bytes.length + uptoBulk d + 1
  | (_, d) => uptoBulk d + 1
 end
def uptoSmall : (H : Type) → List (DataW H) → Bool := fun _ ds => decide (uptoBulkAll ds ≤ 1048576)
def OpenSpec.upto (s : _root_.Go.ChangeSpec) : _root_.Go.OpenSpec := { _root_.Go.OpenSpec.ofChange s with cond := some uptoSmall }

/-- 'waterclocklaw13.MeterPlays', WHERE WHAT IT READS IS OF BULK AT MOST 1048576: true; the input reads as it did. -/
def meterPlaysUptoRow : OpenClaim := { program := "ytbikjhmdpgoofaa", sum := "5d0ca49c670693f7d0c2967a068808325cf89f52f48f2511512c1378351a8ec8", func := "waterclock/waterclocklaw13.MeterPlays", spec := "meterPlays", unfollowed := true, recurses := true, apart := false, narrowed := true }
def MeterPlaysUptoSaid : Prop := meterPlaysUptoRow.holds Try.pinned (OpenSpec.upto meterPlaysSpec)

/-- 'waterclocklaw12.StoreLasts', WHERE WHAT IT READS IS OF BULK AT MOST 1048576: true; the input reads as it did. -/
def storeLastsUptoRow : OpenClaim := { program := "ytbikjhmdpgoofaa", sum := "5d0ca49c670693f7d0c2967a068808325cf89f52f48f2511512c1378351a8ec8", func := "waterclock/waterclocklaw12.StoreLasts", spec := "storeLasts", unfollowed := true, recurses := true, apart := false, narrowed := true }
def StoreLastsUptoSaid : Prop := storeLastsUptoRow.holds Try.pinned (OpenSpec.upto storeLastsSpec)

/-- 'waterclocklaw32.IndexLevels', WHERE WHAT IT READS IS OF BULK AT MOST 1048576: true; the input reads as it did. -/
def indexLevelsUptoRow : OpenClaim := { program := "ytbikjhmdpgoofaa", sum := "5d0ca49c670693f7d0c2967a068808325cf89f52f48f2511512c1378351a8ec8", func := "waterclock/waterclocklaw32.IndexLevels", spec := "indexLevels", inPlace := ["internal/bytealg.IndexByteString"], recurses := true, apart := false, narrowed := true }
def IndexLevelsUptoSaid : Prop := indexLevelsUptoRow.holds Try.pinned (OpenSpec.upto indexLevelsSpec)

/-- 'waterclocklaw32.IndexJoins', WHERE WHAT IT READS IS OF BULK AT MOST 1048576: true; the input reads as it did. -/
def indexJoinsUptoRow : OpenClaim := { program := "ytbikjhmdpgoofaa", sum := "5d0ca49c670693f7d0c2967a068808325cf89f52f48f2511512c1378351a8ec8", func := "waterclock/waterclocklaw32.IndexJoins", spec := "indexJoins", inPlace := ["internal/bytealg.IndexByteString"], recurses := true, apart := false, narrowed := true }
def IndexJoinsUptoSaid : Prop := indexJoinsUptoRow.holds Try.pinned (OpenSpec.upto indexJoinsSpec)

/-- 'waterclocklaw32.IndexFinds', WHERE WHAT IT READS IS OF BULK AT MOST 1048576: true; the input reads as it did. -/
def indexFindsUptoRow : OpenClaim := { program := "ytbikjhmdpgoofaa", sum := "5d0ca49c670693f7d0c2967a068808325cf89f52f48f2511512c1378351a8ec8", func := "waterclock/waterclocklaw32.IndexFinds", spec := "indexFinds", inPlace := ["internal/bytealg.IndexByteString"], recurses := true, apart := false, narrowed := true }
def IndexFindsUptoSaid : Prop := indexFindsUptoRow.holds Try.pinned (OpenSpec.upto indexFindsSpec)

/-- 'waterclocklaw15.RingApart', WHERE WHAT IT READS IS OF BULK AT MOST 1048576: true; the input reads as it did. -/
def ringApartUptoRow : OpenClaim := { program := "ytbikjhmdpgoofaa", sum := "5d0ca49c670693f7d0c2967a068808325cf89f52f48f2511512c1378351a8ec8", func := "waterclock/waterclocklaw15.RingApart", spec := "ringApart", apart := false, narrowed := true }
def RingApartUptoSaid : Prop := ringApartUptoRow.holds Try.pinned (OpenSpec.upto ringApartSpec)

end Rows
end Go.Proofs.Ytbikjhmdpgoofaa

/-
  DERIVED. GIVEN WITH THE SEED: THE CARDS: each row of YtaafedpjifaghaaDoorRows.lean that lists a variable, with what it lists TIED to the program's text (the seventh form; the later family's looks); each row that meets fmt, with fmt's text TOLD by the authors' own Lean function (tested against real Go, not proved from fmt's source: count such statements apart). THE CARD IS WHAT COUNTS. Prove the row's statement (the work); the ties are given (YtaafedpjifaghaaDoorTie.lean); close each card by the builder's one call (the guide's Derived/Test/ToyasCard.lean, 'card_holds'). Laid BY PROGRAM, IN A SANDBOX (cutbox-door.mjs). By AI agents, Wed Nov 11 2026. No macro, syntax, notation, axiom, sorry.
-/
import Derived.Test.YtaafedpjifaghaaDoorRows
import GoSem.ClaimSeven
namespace Go.Proofs.YtaafedpjifaghaaDoor
namespace Rows

/-- THE TIED CARD OF 'waterclocklaw24.RoguePlays'. -/
def roguePlaysCard : Claim7 := { stood := { row := roguePlaysRow, standIns := [], harness := (true, "d08c7a7f2d3a22af578229a1404335ebb2c74f793976fbb148f829886c1bec20"), looks := true }, kinds := [], alts := [], laidByText := true, laidKinds := [.data, .data, .data, .data, .sentinel, .sentinel, .pinned], laidTests := true, laidLooks := .later }
def RoguePlaysCardSaid : Prop := Claim7.holds Tryd.pinned (.plain (OpenSpec.ofChange roguePlaysSpec)) roguePlaysCard

/-- THE TIED CARD OF 'waterclocklaw24.RogueTells'. -/
def rogueTellsCard : Claim7 := { stood := { row := rogueTellsRow, standIns := [], harness := (true, "d08c7a7f2d3a22af578229a1404335ebb2c74f793976fbb148f829886c1bec20"), looks := true }, kinds := [], alts := [], laidByText := true, laidKinds := [.data, .data, .data, .data, .sentinel, .sentinel, .pinned], laidTests := true, laidLooks := .later }
def RogueTellsCardSaid : Prop := Claim7.holds Tryd.pinned (.plain (OpenSpec.ofChange rogueTellsSpec)) rogueTellsCard

/-- THE TIED CARD OF 'waterclocklaw24.RogueBack'. -/
def rogueBackCard : Claim7 := { stood := { row := rogueBackRow, standIns := [], harness := (true, "d08c7a7f2d3a22af578229a1404335ebb2c74f793976fbb148f829886c1bec20"), looks := true }, kinds := [], alts := [], laidByText := true, laidKinds := [.data, .data, .data, .data, .sentinel, .sentinel, .pinned], laidTests := true, laidLooks := .later }
def RogueBackCardSaid : Prop := Claim7.holds Tryd.pinned (.plain (OpenSpec.ofChange rogueBackSpec)) rogueBackCard

/-- THE SECOND FORM's CARD OF 'waterclocklaw24.RoguePlays'. -/
def roguePlaysUptoCard : Claim7 := { stood := { row := roguePlaysUptoRow, standIns := [], harness := (true, "d08c7a7f2d3a22af578229a1404335ebb2c74f793976fbb148f829886c1bec20"), looks := true }, kinds := [], alts := [], laidByText := true, laidKinds := [.data, .data, .data, .data, .sentinel, .sentinel, .pinned], laidTests := true, laidLooks := .later }
def RoguePlaysUptoCardSaid : Prop := Claim7.holds Tryd.pinned (.plain (OpenSpec.upto roguePlaysSpec)) roguePlaysUptoCard

/-- THE SECOND FORM's CARD OF 'waterclocklaw24.RogueTells'. -/
def rogueTellsUptoCard : Claim7 := { stood := { row := rogueTellsUptoRow, standIns := [], harness := (true, "d08c7a7f2d3a22af578229a1404335ebb2c74f793976fbb148f829886c1bec20"), looks := true }, kinds := [], alts := [], laidByText := true, laidKinds := [.data, .data, .data, .data, .sentinel, .sentinel, .pinned], laidTests := true, laidLooks := .later }
def RogueTellsUptoCardSaid : Prop := Claim7.holds Tryd.pinned (.plain (OpenSpec.upto rogueTellsSpec)) rogueTellsUptoCard

/-- THE SECOND FORM's CARD OF 'waterclocklaw24.RogueBack'. -/
def rogueBackUptoCard : Claim7 := { stood := { row := rogueBackUptoRow, standIns := [], harness := (true, "d08c7a7f2d3a22af578229a1404335ebb2c74f793976fbb148f829886c1bec20"), looks := true }, kinds := [], alts := [], laidByText := true, laidKinds := [.data, .data, .data, .data, .sentinel, .sentinel, .pinned], laidTests := true, laidLooks := .later }
def RogueBackUptoCardSaid : Prop := Claim7.holds Tryd.pinned (.plain (OpenSpec.upto rogueBackSpec)) rogueBackUptoCard
end Rows
end Go.Proofs.YtaafedpjifaghaaDoor

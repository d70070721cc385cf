/-
  DERIVED. GIVEN WITH THE SEED: THE CARDS: each row of YtdmkjfdlieokcaaGreatDoorRows.lean that lists a variable, with what it lists TIED to the program's text (the seventh form; the later family's looks); each row that meets fmt, with fmt's text TOLD by the authors' own Lean function (tested against real Go, not proved from fmt's source: count such statements apart). THE CARD IS WHAT COUNTS. Prove the row's statement (the work); the ties are given (YtdmkjfdlieokcaaGreatDoorTie.lean); close each card by the builder's one call (the guide's Derived/Test/ToyasCard.lean, 'card_holds'). Laid BY PROGRAM, IN A SANDBOX (cutbox-door.mjs). By AI agents, Wed Nov 11 2026. No macro, syntax, notation, axiom, sorry.
-/
import Derived.Test.YtdmkjfdlieokcaaGreatDoorRows
import GoSem.ClaimSeven
namespace Go.Proofs.YtdmkjfdlieokcaaGreatDoor
namespace Rows

/-- THE TIED CARD OF 'relyguardtop.TopFindRuns'. -/
def topFindRunsCard : Claim7 := { stood := { row := topFindRunsRow, standIns := [], harness := (true, "630aee169303ba0581af3058b590a554876907f891c3b11bf7add69f5f31746e"), looks := false }, kinds := [], alts := [], laidByText := true, laidKinds := [.data, .data, .data, .data], laidTests := true, laidLooks := .later }
def TopFindRunsCardSaid : Prop := Claim7.holds Tryz.pinned (.plain (OpenSpec.ofChange topFindRunsSpec)) topFindRunsCard

/-- THE SECOND FORM's CARD OF 'relyguardtop.TopFindRuns'. -/
def topFindRunsUptoCard : Claim7 := { stood := { row := topFindRunsUptoRow, standIns := [], harness := (true, "630aee169303ba0581af3058b590a554876907f891c3b11bf7add69f5f31746e"), looks := false }, kinds := [], alts := [], laidByText := true, laidKinds := [.data, .data, .data, .data], laidTests := true, laidLooks := .later }
def TopFindRunsUptoCardSaid : Prop := Claim7.holds Tryz.pinned (.plain (OpenSpec.upto topFindRunsSpec)) topFindRunsUptoCard
end Rows
end Go.Proofs.YtdmkjfdlieokcaaGreatDoor

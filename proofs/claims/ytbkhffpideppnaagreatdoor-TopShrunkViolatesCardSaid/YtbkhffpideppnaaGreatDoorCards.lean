/-
  DERIVED. GIVEN WITH THE SEED: THE CARDS: each row of YtbkhffpideppnaaGreatDoorRows.lean that lists a variable, with what it lists TIED to the program's text (the seventh form; the later family's looks); each row that meets fmt, with fmt's text TOLD by the authors' own Lean function (tested against real Go, not proved from fmt's source: count such statements apart). THE CARD IS WHAT COUNTS. Prove the row's statement (the work); the ties are given (YtbkhffpideppnaaGreatDoorTie.lean); close each card by the builder's one call (the guide's Derived/Test/ToyasCard.lean, 'card_holds'). Laid BY PROGRAM, IN A SANDBOX (cutbox-door.mjs). By AI agents, Wed Nov 11 2026. No macro, syntax, notation, axiom, sorry.
-/
import Derived.Test.YtbkhffpideppnaaGreatDoorRows
import GoSem.ClaimSeven
namespace Go.Proofs.YtbkhffpideppnaaGreatDoor
namespace Rows

/-- THE TIED CARD OF 'relyguardtop.TopShrunkViolates'. -/
def topShrunkViolatesCard : Claim7 := { stood := { row := topShrunkViolatesRow, standIns := [], harness := (true, "dde0ac818ca4c2c0ef09f965778112ec98934621bc166d4ecbed13d104128ef0"), looks := false }, kinds := [], alts := [], laidByText := true, laidKinds := [.data, .data, .data, .data], laidTests := true, laidLooks := .later }
def TopShrunkViolatesCardSaid : Prop := Claim7.holds Tryz.pinned (.plain (OpenSpec.ofChange topShrunkViolatesSpec)) topShrunkViolatesCard

/-- THE SECOND FORM's CARD OF 'relyguardtop.TopShrunkViolates'. -/
def topShrunkViolatesUptoCard : Claim7 := { stood := { row := topShrunkViolatesUptoRow, standIns := [], harness := (true, "dde0ac818ca4c2c0ef09f965778112ec98934621bc166d4ecbed13d104128ef0"), looks := false }, kinds := [], alts := [], laidByText := true, laidKinds := [.data, .data, .data, .data], laidTests := true, laidLooks := .later }
def TopShrunkViolatesUptoCardSaid : Prop := Claim7.holds Tryz.pinned (.plain (OpenSpec.upto topShrunkViolatesSpec)) topShrunkViolatesUptoCard
end Rows
end Go.Proofs.YtbkhffpideppnaaGreatDoor

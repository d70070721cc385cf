/-
  DERIVED. GIVEN WITH THE SEED: THE CARDS: each row of YtnfmmdkonagnaaaGreatDoorRows.lean that lists a variable, with what it lists TIED to the program's text (the seventh form; the later family's looks); each row that meets fmt, with fmt's text TOLD by the authors' own Lean function (tested against real Go, not proved from fmt's source: count such statements apart). THE CARD IS WHAT COUNTS. Prove the row's statement (the work); the ties are given (YtnfmmdkonagnaaaGreatDoorTie.lean); close each card by the builder's one call (the guide's Derived/Test/ToyasCard.lean, 'card_holds'). Laid BY PROGRAM, IN A SANDBOX (cutbox-door.mjs). By AI agents, Wed Nov 11 2026. No macro, syntax, notation, axiom, sorry.
-/
import Derived.Test.YtnfmmdkonagnaaaGreatDoorRows
import GoSem.ClaimSeven
namespace Go.Proofs.YtnfmmdkonagnaaaGreatDoor
namespace Rows

/-- THE TIED CARD OF 'relyguardlaw11.MachineMatchesReference'. -/
def machineMatchesReferenceCard : Claim7 := { stood := { row := machineMatchesReferenceRow, standIns := [], harness := (true, "abb3ec462cb1d6f15cc4463568f9ca3e7054bc58bc4fe32f5b4cec65f6d35a3a"), looks := false }, kinds := [], alts := [], laidByText := true, laidKinds := [.data], laidTests := true, laidLooks := .later }
def MachineMatchesReferenceCardSaid : Prop := Claim7.holds Tryz.pinned (.plain (OpenSpec.ofChange machineMatchesReferenceSpec)) machineMatchesReferenceCard

/-- THE TIED CARD OF 'relyguardlaw11.MachineChoices'. -/
def machineChoicesCard : Claim7 := { stood := { row := machineChoicesRow, standIns := [], harness := (true, "abb3ec462cb1d6f15cc4463568f9ca3e7054bc58bc4fe32f5b4cec65f6d35a3a"), looks := false }, kinds := [], alts := [], laidByText := true, laidKinds := [.data], laidTests := true, laidLooks := .later }
def MachineChoicesCardSaid : Prop := Claim7.holds Tryz.pinned (.plain (OpenSpec.ofChange machineChoicesSpec)) machineChoicesCard

/-- THE TIED CARD OF 'relyguardlaw11.MachineEnds'. -/
def machineEndsCard : Claim7 := { stood := { row := machineEndsRow, standIns := [], harness := (true, "abb3ec462cb1d6f15cc4463568f9ca3e7054bc58bc4fe32f5b4cec65f6d35a3a"), looks := false }, kinds := [], alts := [], laidByText := true, laidKinds := [.data], laidTests := true, laidLooks := .later }
def MachineEndsCardSaid : Prop := Claim7.holds Tryz.pinned (.plain (OpenSpec.ofChange machineEndsSpec)) machineEndsCard

/-- THE TIED CARD OF 'relyguardlaw11.MachineAssignment'. -/
def machineAssignmentCard : Claim7 := { stood := { row := machineAssignmentRow, standIns := [], harness := (true, "abb3ec462cb1d6f15cc4463568f9ca3e7054bc58bc4fe32f5b4cec65f6d35a3a"), looks := false }, kinds := [], alts := [], laidByText := true, laidKinds := [.data], laidTests := true, laidLooks := .later }
def MachineAssignmentCardSaid : Prop := Claim7.holds Tryz.pinned (.plain (OpenSpec.ofChange machineAssignmentSpec)) machineAssignmentCard

/-- THE TIED CARD OF 'relyguardlaw11.MachineFrame'. -/
def machineFrameCard : Claim7 := { stood := { row := machineFrameRow, standIns := [], harness := (true, "abb3ec462cb1d6f15cc4463568f9ca3e7054bc58bc4fe32f5b4cec65f6d35a3a"), looks := false }, kinds := [], alts := [], laidByText := true, laidKinds := [.data], laidTests := true, laidLooks := .later }
def MachineFrameCardSaid : Prop := Claim7.holds Tryz.pinned (.plain (OpenSpec.ofChange machineFrameSpec)) machineFrameCard

/-- THE TIED CARD OF 'relyguardlaw11.MachineIndependence'. -/
def machineIndependenceCard : Claim7 := { stood := { row := machineIndependenceRow, standIns := [], harness := (true, "abb3ec462cb1d6f15cc4463568f9ca3e7054bc58bc4fe32f5b4cec65f6d35a3a"), looks := false }, kinds := [], alts := [], laidByText := true, laidKinds := [.data], laidTests := true, laidLooks := .later }
def MachineIndependenceCardSaid : Prop := Claim7.holds Tryz.pinned (.plain (OpenSpec.ofChange machineIndependenceSpec)) machineIndependenceCard

/-- THE TIED CARD OF 'relyguardlaw11.MachineReading'. -/
def machineReadingCard : Claim7 := { stood := { row := machineReadingRow, standIns := [], harness := (true, "abb3ec462cb1d6f15cc4463568f9ca3e7054bc58bc4fe32f5b4cec65f6d35a3a"), looks := false }, kinds := [], alts := [], laidByText := true, laidKinds := [.data], laidTests := true, laidLooks := .later }
def MachineReadingCardSaid : Prop := Claim7.holds Tryz.pinned (.plain (OpenSpec.ofChange machineReadingSpec)) machineReadingCard

/-- THE SECOND FORM's CARD OF 'relyguardlaw11.MachineMatchesReference'. -/
def machineMatchesReferenceUptoCard : Claim7 := { stood := { row := machineMatchesReferenceUptoRow, standIns := [], harness := (true, "abb3ec462cb1d6f15cc4463568f9ca3e7054bc58bc4fe32f5b4cec65f6d35a3a"), looks := false }, kinds := [], alts := [], laidByText := true, laidKinds := [.data], laidTests := true, laidLooks := .later }
def MachineMatchesReferenceUptoCardSaid : Prop := Claim7.holds Tryz.pinned (.plain (OpenSpec.upto machineMatchesReferenceSpec)) machineMatchesReferenceUptoCard

/-- THE SECOND FORM's CARD OF 'relyguardlaw11.MachineChoices'. -/
def machineChoicesUptoCard : Claim7 := { stood := { row := machineChoicesUptoRow, standIns := [], harness := (true, "abb3ec462cb1d6f15cc4463568f9ca3e7054bc58bc4fe32f5b4cec65f6d35a3a"), looks := false }, kinds := [], alts := [], laidByText := true, laidKinds := [.data], laidTests := true, laidLooks := .later }
def MachineChoicesUptoCardSaid : Prop := Claim7.holds Tryz.pinned (.plain (OpenSpec.upto machineChoicesSpec)) machineChoicesUptoCard

/-- THE SECOND FORM's CARD OF 'relyguardlaw11.MachineEnds'. -/
def machineEndsUptoCard : Claim7 := { stood := { row := machineEndsUptoRow, standIns := [], harness := (true, "abb3ec462cb1d6f15cc4463568f9ca3e7054bc58bc4fe32f5b4cec65f6d35a3a"), looks := false }, kinds := [], alts := [], laidByText := true, laidKinds := [.data], laidTests := true, laidLooks := .later }
def MachineEndsUptoCardSaid : Prop := Claim7.holds Tryz.pinned (.plain (OpenSpec.upto machineEndsSpec)) machineEndsUptoCard

/-- THE SECOND FORM's CARD OF 'relyguardlaw11.MachineAssignment'. -/
def machineAssignmentUptoCard : Claim7 := { stood := { row := machineAssignmentUptoRow, standIns := [], harness := (true, "abb3ec462cb1d6f15cc4463568f9ca3e7054bc58bc4fe32f5b4cec65f6d35a3a"), looks := false }, kinds := [], alts := [], laidByText := true, laidKinds := [.data], laidTests := true, laidLooks := .later }
def MachineAssignmentUptoCardSaid : Prop := Claim7.holds Tryz.pinned (.plain (OpenSpec.upto machineAssignmentSpec)) machineAssignmentUptoCard

/-- THE SECOND FORM's CARD OF 'relyguardlaw11.MachineFrame'. -/
def machineFrameUptoCard : Claim7 := { stood := { row := machineFrameUptoRow, standIns := [], harness := (true, "abb3ec462cb1d6f15cc4463568f9ca3e7054bc58bc4fe32f5b4cec65f6d35a3a"), looks := false }, kinds := [], alts := [], laidByText := true, laidKinds := [.data], laidTests := true, laidLooks := .later }
def MachineFrameUptoCardSaid : Prop := Claim7.holds Tryz.pinned (.plain (OpenSpec.upto machineFrameSpec)) machineFrameUptoCard

/-- THE SECOND FORM's CARD OF 'relyguardlaw11.MachineIndependence'. -/
def machineIndependenceUptoCard : Claim7 := { stood := { row := machineIndependenceUptoRow, standIns := [], harness := (true, "abb3ec462cb1d6f15cc4463568f9ca3e7054bc58bc4fe32f5b4cec65f6d35a3a"), looks := false }, kinds := [], alts := [], laidByText := true, laidKinds := [.data], laidTests := true, laidLooks := .later }
def MachineIndependenceUptoCardSaid : Prop := Claim7.holds Tryz.pinned (.plain (OpenSpec.upto machineIndependenceSpec)) machineIndependenceUptoCard

/-- THE SECOND FORM's CARD OF 'relyguardlaw11.MachineReading'. -/
def machineReadingUptoCard : Claim7 := { stood := { row := machineReadingUptoRow, standIns := [], harness := (true, "abb3ec462cb1d6f15cc4463568f9ca3e7054bc58bc4fe32f5b4cec65f6d35a3a"), looks := false }, kinds := [], alts := [], laidByText := true, laidKinds := [.data], laidTests := true, laidLooks := .later }
def MachineReadingUptoCardSaid : Prop := Claim7.holds Tryz.pinned (.plain (OpenSpec.upto machineReadingSpec)) machineReadingUptoCard
end Rows
end Go.Proofs.YtnfmmdkonagnaaaGreatDoor

/-
  DERIVED. GIVEN WITH THE SEED: THE CARDS: each row of YtadooimmjnipcaaGreatDoorRows.lean that lists a variable, with what it lists TIED to the program's text (the seventh form; the later family's looks); each row that meets fmt, with fmt's text TOLD by the authors' own Lean function (tested against real Go, not proved from fmt's source: count such statements apart). THE CARD IS WHAT COUNTS. Prove the row's statement (the work); the ties are given (YtadooimmjnipcaaGreatDoorTie.lean); close each card by the builder's one call (the guide's Derived/Test/ToyasCard.lean, 'card_holds'). Laid BY PROGRAM, IN A SANDBOX (cutbox-door.mjs). By AI agents, Wed Nov 11 2026. No macro, syntax, notation, axiom, sorry.
-/
import Derived.Test.YtadooimmjnipcaaGreatDoorRows
import GoSem.ClaimSeven
namespace Go.Proofs.YtadooimmjnipcaaGreatDoor
namespace Rows

/-- THE TIED CARD OF 'relyguardlaw12.BuffersChoices'. -/
def buffersChoicesCard : Claim7 := { stood := { row := buffersChoicesRow, standIns := [], harness := (true, "019a53c05eb6aaba67dc895f0231fd91ce582d8d260c008fc552629154998a4a"), looks := false }, kinds := [], alts := [], laidByText := true, laidKinds := [.data], laidTests := true, laidLooks := .later }
def BuffersChoicesCardSaid : Prop := Claim7.holds Tryz.pinned (.plain (OpenSpec.ofChange buffersChoicesSpec)) buffersChoicesCard

/-- THE TIED CARD OF 'relyguardlaw12.BuffersSequential'. -/
def buffersSequentialCard : Claim7 := { stood := { row := buffersSequentialRow, standIns := [], harness := (true, "019a53c05eb6aaba67dc895f0231fd91ce582d8d260c008fc552629154998a4a"), looks := false }, kinds := [], alts := [], laidByText := true, laidKinds := [.data], laidTests := true, laidLooks := .later }
def BuffersSequentialCardSaid : Prop := Claim7.holds Tryz.pinned (.plain (OpenSpec.ofChange buffersSequentialSpec)) buffersSequentialCard

/-- THE TIED CARD OF 'relyguardlaw12.BuffersView'. -/
def buffersViewCard : Claim7 := { stood := { row := buffersViewRow, standIns := [], harness := (true, "019a53c05eb6aaba67dc895f0231fd91ce582d8d260c008fc552629154998a4a"), looks := false }, kinds := [], alts := [], laidByText := true, laidKinds := [.data], laidTests := true, laidLooks := .later }
def BuffersViewCardSaid : Prop := Claim7.holds Tryz.pinned (.plain (OpenSpec.ofChange buffersViewSpec)) buffersViewCard

/-- THE TIED CARD OF 'relyguardlaw12.BuffersModels'. -/
def buffersModelsCard : Claim7 := { stood := { row := buffersModelsRow, standIns := [], harness := (true, "019a53c05eb6aaba67dc895f0231fd91ce582d8d260c008fc552629154998a4a"), looks := false }, kinds := [], alts := [], laidByText := true, laidKinds := [.data], laidTests := true, laidLooks := .later }
def BuffersModelsCardSaid : Prop := Claim7.holds Tryz.pinned (.plain (OpenSpec.ofChange buffersModelsSpec)) buffersModelsCard

/-- THE TIED CARD OF 'relyguardlaw12.BuffersDraining'. -/
def buffersDrainingCard : Claim7 := { stood := { row := buffersDrainingRow, standIns := [], harness := (true, "019a53c05eb6aaba67dc895f0231fd91ce582d8d260c008fc552629154998a4a"), looks := false }, kinds := [], alts := [], laidByText := true, laidKinds := [.data], laidTests := true, laidLooks := .later }
def BuffersDrainingCardSaid : Prop := Claim7.holds Tryz.pinned (.plain (OpenSpec.ofChange buffersDrainingSpec)) buffersDrainingCard

/-- THE TIED CARD OF 'relyguardlaw12.BuffersIndependent'. -/
def buffersIndependentCard : Claim7 := { stood := { row := buffersIndependentRow, standIns := [], harness := (true, "019a53c05eb6aaba67dc895f0231fd91ce582d8d260c008fc552629154998a4a"), looks := false }, kinds := [], alts := [], laidByText := true, laidKinds := [.data], laidTests := true, laidLooks := .later }
def BuffersIndependentCardSaid : Prop := Claim7.holds Tryz.pinned (.plain (OpenSpec.ofChange buffersIndependentSpec)) buffersIndependentCard

/-- THE TIED CARD OF 'relyguardlaw12.BuffersFrame'. -/
def buffersFrameCard : Claim7 := { stood := { row := buffersFrameRow, standIns := [], harness := (true, "019a53c05eb6aaba67dc895f0231fd91ce582d8d260c008fc552629154998a4a"), looks := false }, kinds := [], alts := [], laidByText := true, laidKinds := [.data], laidTests := true, laidLooks := .later }
def BuffersFrameCardSaid : Prop := Claim7.holds Tryz.pinned (.plain (OpenSpec.ofChange buffersFrameSpec)) buffersFrameCard

/-- THE SECOND FORM's CARD OF 'relyguardlaw12.BuffersChoices'. -/
def buffersChoicesUptoCard : Claim7 := { stood := { row := buffersChoicesUptoRow, standIns := [], harness := (true, "019a53c05eb6aaba67dc895f0231fd91ce582d8d260c008fc552629154998a4a"), looks := false }, kinds := [], alts := [], laidByText := true, laidKinds := [.data], laidTests := true, laidLooks := .later }
def BuffersChoicesUptoCardSaid : Prop := Claim7.holds Tryz.pinned (.plain (OpenSpec.upto buffersChoicesSpec)) buffersChoicesUptoCard

/-- THE SECOND FORM's CARD OF 'relyguardlaw12.BuffersSequential'. -/
def buffersSequentialUptoCard : Claim7 := { stood := { row := buffersSequentialUptoRow, standIns := [], harness := (true, "019a53c05eb6aaba67dc895f0231fd91ce582d8d260c008fc552629154998a4a"), looks := false }, kinds := [], alts := [], laidByText := true, laidKinds := [.data], laidTests := true, laidLooks := .later }
def BuffersSequentialUptoCardSaid : Prop := Claim7.holds Tryz.pinned (.plain (OpenSpec.upto buffersSequentialSpec)) buffersSequentialUptoCard

/-- THE SECOND FORM's CARD OF 'relyguardlaw12.BuffersView'. -/
def buffersViewUptoCard : Claim7 := { stood := { row := buffersViewUptoRow, standIns := [], harness := (true, "019a53c05eb6aaba67dc895f0231fd91ce582d8d260c008fc552629154998a4a"), looks := false }, kinds := [], alts := [], laidByText := true, laidKinds := [.data], laidTests := true, laidLooks := .later }
def BuffersViewUptoCardSaid : Prop := Claim7.holds Tryz.pinned (.plain (OpenSpec.upto buffersViewSpec)) buffersViewUptoCard

/-- THE SECOND FORM's CARD OF 'relyguardlaw12.BuffersModels'. -/
def buffersModelsUptoCard : Claim7 := { stood := { row := buffersModelsUptoRow, standIns := [], harness := (true, "019a53c05eb6aaba67dc895f0231fd91ce582d8d260c008fc552629154998a4a"), looks := false }, kinds := [], alts := [], laidByText := true, laidKinds := [.data], laidTests := true, laidLooks := .later }
def BuffersModelsUptoCardSaid : Prop := Claim7.holds Tryz.pinned (.plain (OpenSpec.upto buffersModelsSpec)) buffersModelsUptoCard

/-- THE SECOND FORM's CARD OF 'relyguardlaw12.BuffersDraining'. -/
def buffersDrainingUptoCard : Claim7 := { stood := { row := buffersDrainingUptoRow, standIns := [], harness := (true, "019a53c05eb6aaba67dc895f0231fd91ce582d8d260c008fc552629154998a4a"), looks := false }, kinds := [], alts := [], laidByText := true, laidKinds := [.data], laidTests := true, laidLooks := .later }
def BuffersDrainingUptoCardSaid : Prop := Claim7.holds Tryz.pinned (.plain (OpenSpec.upto buffersDrainingSpec)) buffersDrainingUptoCard

/-- THE SECOND FORM's CARD OF 'relyguardlaw12.BuffersIndependent'. -/
def buffersIndependentUptoCard : Claim7 := { stood := { row := buffersIndependentUptoRow, standIns := [], harness := (true, "019a53c05eb6aaba67dc895f0231fd91ce582d8d260c008fc552629154998a4a"), looks := false }, kinds := [], alts := [], laidByText := true, laidKinds := [.data], laidTests := true, laidLooks := .later }
def BuffersIndependentUptoCardSaid : Prop := Claim7.holds Tryz.pinned (.plain (OpenSpec.upto buffersIndependentSpec)) buffersIndependentUptoCard

/-- THE SECOND FORM's CARD OF 'relyguardlaw12.BuffersFrame'. -/
def buffersFrameUptoCard : Claim7 := { stood := { row := buffersFrameUptoRow, standIns := [], harness := (true, "019a53c05eb6aaba67dc895f0231fd91ce582d8d260c008fc552629154998a4a"), looks := false }, kinds := [], alts := [], laidByText := true, laidKinds := [.data], laidTests := true, laidLooks := .later }
def BuffersFrameUptoCardSaid : Prop := Claim7.holds Tryz.pinned (.plain (OpenSpec.upto buffersFrameSpec)) buffersFrameUptoCard
end Rows
end Go.Proofs.YtadooimmjnipcaaGreatDoor

/-
  DERIVED. GIVEN WITH THE SEED: THE CARDS: each row of YtamaecmfhphpeaaGreatDoorRows.lean that lists a variable, with what it lists TIED to the program's text (the seventh form; the later family's looks); each row that meets fmt, with fmt's text TOLD by the authors' own Lean function (tested against real Go, not proved from fmt's source: count such statements apart). THE CARD IS WHAT COUNTS. Prove the row's statement (the work); the ties are given (YtamaecmfhphpeaaGreatDoorTie.lean); close each card by the builder's one call (the guide's Derived/Test/ToyasCard.lean, 'card_holds'). Laid BY PROGRAM, IN A SANDBOX (cutbox-door.mjs). By AI agents, Wed Nov 11 2026. No macro, syntax, notation, axiom, sorry.
-/
import Derived.Test.YtamaecmfhphpeaaGreatDoorRows
import GoSem.ClaimSeven
namespace Go.Proofs.YtamaecmfhphpeaaGreatDoor
namespace Rows

/-- THE TIED CARD OF 'relyguardlaw07.ProgramMatchesReference'. -/
def programMatchesReferenceCard : Claim7 := { stood := { row := programMatchesReferenceRow, standIns := [], harness := (true, "4f619e2e9b73514b9696fb49b79038e47aaaa4fd9976e396615be4384918b816"), looks := false }, kinds := [], alts := [], laidByText := true, laidKinds := [.data, .data, .data, .data, .data], laidTests := true, laidLooks := .later }
def ProgramMatchesReferenceCardSaid : Prop := Claim7.holds Tryz.pinned (.plain (OpenSpec.ofChange programMatchesReferenceSpec)) programMatchesReferenceCard

/-- THE TIED CARD OF 'relyguardlaw07.ProgramCells'. -/
def programCellsCard : Claim7 := { stood := { row := programCellsRow, standIns := [], harness := (true, "4f619e2e9b73514b9696fb49b79038e47aaaa4fd9976e396615be4384918b816"), looks := false }, kinds := [], alts := [], laidByText := true, laidKinds := [.data, .data, .data, .data, .data], laidTests := true, laidLooks := .later }
def ProgramCellsCardSaid : Prop := Claim7.holds Tryz.pinned (.plain (OpenSpec.ofChange programCellsSpec)) programCellsCard

/-- THE TIED CARD OF 'relyguardlaw07.ProgramKinds'. -/
def programKindsCard : Claim7 := { stood := { row := programKindsRow, standIns := [], harness := (true, "4f619e2e9b73514b9696fb49b79038e47aaaa4fd9976e396615be4384918b816"), looks := false }, kinds := [], alts := [], laidByText := true, laidKinds := [.data, .data, .data, .data, .data], laidTests := true, laidLooks := .later }
def ProgramKindsCardSaid : Prop := Claim7.holds Tryz.pinned (.plain (OpenSpec.ofChange programKindsSpec)) programKindsCard

/-- THE TIED CARD OF 'relyguardlaw07.ProgramText'. -/
def programTextCard : Claim7 := { stood := { row := programTextRow, standIns := [], harness := (true, "4f619e2e9b73514b9696fb49b79038e47aaaa4fd9976e396615be4384918b816"), looks := false }, kinds := [], alts := [], laidByText := true, laidKinds := [.data, .data, .data, .data, .data], laidTests := true, laidLooks := .later }
def ProgramTextCardSaid : Prop := Claim7.holds Tryz.pinned (.plain (OpenSpec.ofChange programTextSpec)) programTextCard

/-- THE TIED CARD OF 'relyguardlaw07.ProgramNumbering'. -/
def programNumberingCard : Claim7 := { stood := { row := programNumberingRow, standIns := [], harness := (true, "4f619e2e9b73514b9696fb49b79038e47aaaa4fd9976e396615be4384918b816"), looks := false }, kinds := [], alts := [], laidByText := true, laidKinds := [.data, .data, .data, .data, .data], laidTests := true, laidLooks := .later }
def ProgramNumberingCardSaid : Prop := Claim7.holds Tryz.pinned (.plain (OpenSpec.ofChange programNumberingSpec)) programNumberingCard

/-- THE TIED CARD OF 'relyguardlaw07.ProgramParts'. -/
def programPartsCard : Claim7 := { stood := { row := programPartsRow, standIns := [], harness := (true, "4f619e2e9b73514b9696fb49b79038e47aaaa4fd9976e396615be4384918b816"), looks := false }, kinds := [], alts := [], laidByText := true, laidKinds := [.data, .data, .data, .data, .data], laidTests := true, laidLooks := .later }
def ProgramPartsCardSaid : Prop := Claim7.holds Tryz.pinned (.plain (OpenSpec.ofChange programPartsSpec)) programPartsCard

/-- THE TIED CARD OF 'relyguardlaw07.ProgramFirst'. -/
def programFirstCard : Claim7 := { stood := { row := programFirstRow, standIns := [], harness := (true, "4f619e2e9b73514b9696fb49b79038e47aaaa4fd9976e396615be4384918b816"), looks := false }, kinds := [], alts := [], laidByText := true, laidKinds := [.data, .data, .data, .data, .data], laidTests := true, laidLooks := .later }
def ProgramFirstCardSaid : Prop := Claim7.holds Tryz.pinned (.plain (OpenSpec.ofChange programFirstSpec)) programFirstCard

/-- THE TIED CARD OF 'relyguardlaw07.ProgramReading'. -/
def programReadingCard : Claim7 := { stood := { row := programReadingRow, standIns := [], harness := (true, "4f619e2e9b73514b9696fb49b79038e47aaaa4fd9976e396615be4384918b816"), looks := false }, kinds := [], alts := [], laidByText := true, laidKinds := [.data, .data, .data, .data, .data], laidTests := true, laidLooks := .later }
def ProgramReadingCardSaid : Prop := Claim7.holds Tryz.pinned (.plain (OpenSpec.ofChange programReadingSpec)) programReadingCard

/-- THE SECOND FORM's CARD OF 'relyguardlaw07.ProgramMatchesReference'. -/
def programMatchesReferenceUptoCard : Claim7 := { stood := { row := programMatchesReferenceUptoRow, standIns := [], harness := (true, "4f619e2e9b73514b9696fb49b79038e47aaaa4fd9976e396615be4384918b816"), looks := false }, kinds := [], alts := [], laidByText := true, laidKinds := [.data, .data, .data, .data, .data], laidTests := true, laidLooks := .later }
def ProgramMatchesReferenceUptoCardSaid : Prop := Claim7.holds Tryz.pinned (.plain (OpenSpec.upto programMatchesReferenceSpec)) programMatchesReferenceUptoCard

/-- THE SECOND FORM's CARD OF 'relyguardlaw07.ProgramCells'. -/
def programCellsUptoCard : Claim7 := { stood := { row := programCellsUptoRow, standIns := [], harness := (true, "4f619e2e9b73514b9696fb49b79038e47aaaa4fd9976e396615be4384918b816"), looks := false }, kinds := [], alts := [], laidByText := true, laidKinds := [.data, .data, .data, .data, .data], laidTests := true, laidLooks := .later }
def ProgramCellsUptoCardSaid : Prop := Claim7.holds Tryz.pinned (.plain (OpenSpec.upto programCellsSpec)) programCellsUptoCard

/-- THE SECOND FORM's CARD OF 'relyguardlaw07.ProgramKinds'. -/
def programKindsUptoCard : Claim7 := { stood := { row := programKindsUptoRow, standIns := [], harness := (true, "4f619e2e9b73514b9696fb49b79038e47aaaa4fd9976e396615be4384918b816"), looks := false }, kinds := [], alts := [], laidByText := true, laidKinds := [.data, .data, .data, .data, .data], laidTests := true, laidLooks := .later }
def ProgramKindsUptoCardSaid : Prop := Claim7.holds Tryz.pinned (.plain (OpenSpec.upto programKindsSpec)) programKindsUptoCard

/-- THE SECOND FORM's CARD OF 'relyguardlaw07.ProgramText'. -/
def programTextUptoCard : Claim7 := { stood := { row := programTextUptoRow, standIns := [], harness := (true, "4f619e2e9b73514b9696fb49b79038e47aaaa4fd9976e396615be4384918b816"), looks := false }, kinds := [], alts := [], laidByText := true, laidKinds := [.data, .data, .data, .data, .data], laidTests := true, laidLooks := .later }
def ProgramTextUptoCardSaid : Prop := Claim7.holds Tryz.pinned (.plain (OpenSpec.upto programTextSpec)) programTextUptoCard

/-- THE SECOND FORM's CARD OF 'relyguardlaw07.ProgramNumbering'. -/
def programNumberingUptoCard : Claim7 := { stood := { row := programNumberingUptoRow, standIns := [], harness := (true, "4f619e2e9b73514b9696fb49b79038e47aaaa4fd9976e396615be4384918b816"), looks := false }, kinds := [], alts := [], laidByText := true, laidKinds := [.data, .data, .data, .data, .data], laidTests := true, laidLooks := .later }
def ProgramNumberingUptoCardSaid : Prop := Claim7.holds Tryz.pinned (.plain (OpenSpec.upto programNumberingSpec)) programNumberingUptoCard

/-- THE SECOND FORM's CARD OF 'relyguardlaw07.ProgramParts'. -/
def programPartsUptoCard : Claim7 := { stood := { row := programPartsUptoRow, standIns := [], harness := (true, "4f619e2e9b73514b9696fb49b79038e47aaaa4fd9976e396615be4384918b816"), looks := false }, kinds := [], alts := [], laidByText := true, laidKinds := [.data, .data, .data, .data, .data], laidTests := true, laidLooks := .later }
def ProgramPartsUptoCardSaid : Prop := Claim7.holds Tryz.pinned (.plain (OpenSpec.upto programPartsSpec)) programPartsUptoCard

/-- THE SECOND FORM's CARD OF 'relyguardlaw07.ProgramFirst'. -/
def programFirstUptoCard : Claim7 := { stood := { row := programFirstUptoRow, standIns := [], harness := (true, "4f619e2e9b73514b9696fb49b79038e47aaaa4fd9976e396615be4384918b816"), looks := false }, kinds := [], alts := [], laidByText := true, laidKinds := [.data, .data, .data, .data, .data], laidTests := true, laidLooks := .later }
def ProgramFirstUptoCardSaid : Prop := Claim7.holds Tryz.pinned (.plain (OpenSpec.upto programFirstSpec)) programFirstUptoCard

/-- THE SECOND FORM's CARD OF 'relyguardlaw07.ProgramReading'. -/
def programReadingUptoCard : Claim7 := { stood := { row := programReadingUptoRow, standIns := [], harness := (true, "4f619e2e9b73514b9696fb49b79038e47aaaa4fd9976e396615be4384918b816"), looks := false }, kinds := [], alts := [], laidByText := true, laidKinds := [.data, .data, .data, .data, .data], laidTests := true, laidLooks := .later }
def ProgramReadingUptoCardSaid : Prop := Claim7.holds Tryz.pinned (.plain (OpenSpec.upto programReadingSpec)) programReadingUptoCard
end Rows
end Go.Proofs.YtamaecmfhphpeaaGreatDoor

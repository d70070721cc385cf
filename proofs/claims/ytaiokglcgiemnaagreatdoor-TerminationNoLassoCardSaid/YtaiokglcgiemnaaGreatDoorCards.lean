/-
  DERIVED. GIVEN WITH THE SEED: THE CARDS: each row of YtaiokglcgiemnaaGreatDoorRows.lean that lists a variable, with what it lists TIED to the program's text (the seventh form; the later family's looks); each row that meets fmt, with fmt's text TOLD by the authors' own Lean function (tested against real Go, not proved from fmt's source: count such statements apart). THE CARD IS WHAT COUNTS. Prove the row's statement (the work); the ties are given (YtaiokglcgiemnaaGreatDoorTie.lean); close each card by the builder's one call (the guide's Derived/Test/ToyasCard.lean, 'card_holds'). Laid BY PROGRAM, IN A SANDBOX (cutbox-door.mjs). By AI agents, Wed Nov 11 2026. No macro, syntax, notation, axiom, sorry.
-/
import Derived.Test.YtaiokglcgiemnaaGreatDoorRows
import GoSem.ClaimSeven
namespace Go.Proofs.YtaiokglcgiemnaaGreatDoor
namespace Rows

/-- THE TIED CARD OF 'relyguardlaw36.TerminationBound'. -/
def terminationBoundCard : Claim7 := { stood := { row := terminationBoundRow, standIns := [], harness := (true, "a7887b20d4100ffd70b06e3dffeea3a7b7c3d8294a23189353ff54f795f652ac"), looks := false }, kinds := [], alts := [], laidByText := true, laidKinds := [.data, .data, .data, .data], laidTests := true, laidLooks := .later }
def TerminationBoundCardSaid : Prop := Claim7.holds Tryz.pinned (.plain (OpenSpec.ofChange terminationBoundSpec)) terminationBoundCard

/-- THE TIED CARD OF 'relyguardlaw36.TerminationDescent'. -/
def terminationDescentCard : Claim7 := { stood := { row := terminationDescentRow, standIns := [], harness := (true, "a7887b20d4100ffd70b06e3dffeea3a7b7c3d8294a23189353ff54f795f652ac"), looks := false }, kinds := [], alts := [], laidByText := true, laidKinds := [.data, .data, .data, .data], laidTests := true, laidLooks := .later }
def TerminationDescentCardSaid : Prop := Claim7.holds Tryz.pinned (.plain (OpenSpec.ofChange terminationDescentSpec)) terminationDescentCard

/-- THE TIED CARD OF 'relyguardlaw36.TerminationCounting'. -/
def terminationCountingCard : Claim7 := { stood := { row := terminationCountingRow, standIns := [], harness := (true, "a7887b20d4100ffd70b06e3dffeea3a7b7c3d8294a23189353ff54f795f652ac"), looks := false }, kinds := [], alts := [], laidByText := true, laidKinds := [.data, .data, .data, .data], laidTests := true, laidLooks := .later }
def TerminationCountingCardSaid : Prop := Claim7.holds Tryz.pinned (.plain (OpenSpec.ofChange terminationCountingSpec)) terminationCountingCard

/-- THE TIED CARD OF 'relyguardlaw36.TerminationLassos'. -/
def terminationLassosCard : Claim7 := { stood := { row := terminationLassosRow, standIns := [], harness := (true, "a7887b20d4100ffd70b06e3dffeea3a7b7c3d8294a23189353ff54f795f652ac"), looks := false }, kinds := [], alts := [], laidByText := true, laidKinds := [.data, .data, .data, .data], laidTests := true, laidLooks := .later }
def TerminationLassosCardSaid : Prop := Claim7.holds Tryz.pinned (.plain (OpenSpec.ofChange terminationLassosSpec)) terminationLassosCard

/-- THE TIED CARD OF 'relyguardlaw36.TerminationNoLasso'. -/
def terminationNoLassoCard : Claim7 := { stood := { row := terminationNoLassoRow, standIns := [], harness := (true, "a7887b20d4100ffd70b06e3dffeea3a7b7c3d8294a23189353ff54f795f652ac"), looks := false }, kinds := [], alts := [], laidByText := true, laidKinds := [.data, .data, .data, .data], laidTests := true, laidLooks := .later }
def TerminationNoLassoCardSaid : Prop := Claim7.holds Tryz.pinned (.plain (OpenSpec.ofChange terminationNoLassoSpec)) terminationNoLassoCard

/-- THE TIED CARD OF 'relyguardlaw36.TerminationLimits'. -/
def terminationLimitsCard : Claim7 := { stood := { row := terminationLimitsRow, standIns := [], harness := (true, "a7887b20d4100ffd70b06e3dffeea3a7b7c3d8294a23189353ff54f795f652ac"), looks := false }, kinds := [], alts := [], laidByText := true, laidKinds := [.data, .data, .data, .data], laidTests := true, laidLooks := .later }
def TerminationLimitsCardSaid : Prop := Claim7.holds Tryz.pinned (.plain (OpenSpec.ofChange terminationLimitsSpec)) terminationLimitsCard

/-- THE SECOND FORM's CARD OF 'relyguardlaw36.TerminationBound'. -/
def terminationBoundUptoCard : Claim7 := { stood := { row := terminationBoundUptoRow, standIns := [], harness := (true, "a7887b20d4100ffd70b06e3dffeea3a7b7c3d8294a23189353ff54f795f652ac"), looks := false }, kinds := [], alts := [], laidByText := true, laidKinds := [.data, .data, .data, .data], laidTests := true, laidLooks := .later }
def TerminationBoundUptoCardSaid : Prop := Claim7.holds Tryz.pinned (.plain (OpenSpec.upto terminationBoundSpec)) terminationBoundUptoCard

/-- THE SECOND FORM's CARD OF 'relyguardlaw36.TerminationDescent'. -/
def terminationDescentUptoCard : Claim7 := { stood := { row := terminationDescentUptoRow, standIns := [], harness := (true, "a7887b20d4100ffd70b06e3dffeea3a7b7c3d8294a23189353ff54f795f652ac"), looks := false }, kinds := [], alts := [], laidByText := true, laidKinds := [.data, .data, .data, .data], laidTests := true, laidLooks := .later }
def TerminationDescentUptoCardSaid : Prop := Claim7.holds Tryz.pinned (.plain (OpenSpec.upto terminationDescentSpec)) terminationDescentUptoCard

/-- THE SECOND FORM's CARD OF 'relyguardlaw36.TerminationCounting'. -/
def terminationCountingUptoCard : Claim7 := { stood := { row := terminationCountingUptoRow, standIns := [], harness := (true, "a7887b20d4100ffd70b06e3dffeea3a7b7c3d8294a23189353ff54f795f652ac"), looks := false }, kinds := [], alts := [], laidByText := true, laidKinds := [.data, .data, .data, .data], laidTests := true, laidLooks := .later }
def TerminationCountingUptoCardSaid : Prop := Claim7.holds Tryz.pinned (.plain (OpenSpec.upto terminationCountingSpec)) terminationCountingUptoCard

/-- THE SECOND FORM's CARD OF 'relyguardlaw36.TerminationLassos'. -/
def terminationLassosUptoCard : Claim7 := { stood := { row := terminationLassosUptoRow, standIns := [], harness := (true, "a7887b20d4100ffd70b06e3dffeea3a7b7c3d8294a23189353ff54f795f652ac"), looks := false }, kinds := [], alts := [], laidByText := true, laidKinds := [.data, .data, .data, .data], laidTests := true, laidLooks := .later }
def TerminationLassosUptoCardSaid : Prop := Claim7.holds Tryz.pinned (.plain (OpenSpec.upto terminationLassosSpec)) terminationLassosUptoCard

/-- THE SECOND FORM's CARD OF 'relyguardlaw36.TerminationNoLasso'. -/
def terminationNoLassoUptoCard : Claim7 := { stood := { row := terminationNoLassoUptoRow, standIns := [], harness := (true, "a7887b20d4100ffd70b06e3dffeea3a7b7c3d8294a23189353ff54f795f652ac"), looks := false }, kinds := [], alts := [], laidByText := true, laidKinds := [.data, .data, .data, .data], laidTests := true, laidLooks := .later }
def TerminationNoLassoUptoCardSaid : Prop := Claim7.holds Tryz.pinned (.plain (OpenSpec.upto terminationNoLassoSpec)) terminationNoLassoUptoCard

/-- THE SECOND FORM's CARD OF 'relyguardlaw36.TerminationLimits'. -/
def terminationLimitsUptoCard : Claim7 := { stood := { row := terminationLimitsUptoRow, standIns := [], harness := (true, "a7887b20d4100ffd70b06e3dffeea3a7b7c3d8294a23189353ff54f795f652ac"), looks := false }, kinds := [], alts := [], laidByText := true, laidKinds := [.data, .data, .data, .data], laidTests := true, laidLooks := .later }
def TerminationLimitsUptoCardSaid : Prop := Claim7.holds Tryz.pinned (.plain (OpenSpec.upto terminationLimitsSpec)) terminationLimitsUptoCard
end Rows
end Go.Proofs.YtaiokglcgiemnaaGreatDoor

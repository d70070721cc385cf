/-
  DERIVED. GIVEN WITH THE SEED: THE CARDS: each row of YtcmeofagpechdaaGreatDoorRows.lean that lists a variable, with what it lists TIED to the program's text (the seventh form; the later family's looks); each row that meets fmt, with fmt's text TOLD by the authors' own Lean function (tested against real Go, not proved from fmt's source: count such statements apart). THE CARD IS WHAT COUNTS. Prove the row's statement (the work); the ties are given (YtcmeofagpechdaaGreatDoorTie.lean); close each card by the builder's one call (the guide's Derived/Test/ToyasCard.lean, 'card_holds'). Laid BY PROGRAM, IN A SANDBOX (cutbox-door.mjs). By AI agents, Wed Nov 11 2026. No macro, syntax, notation, axiom, sorry.
-/
import Derived.Test.YtcmeofagpechdaaGreatDoorRows
import GoSem.ClaimSeven
namespace Go.Proofs.YtcmeofagpechdaaGreatDoor
namespace Rows

/-- THE TIED CARD OF 'relyguardlaw31.FencesRobust'. -/
def fencesRobustCard : Claim7 := { stood := { row := fencesRobustRow, standIns := [], harness := (true, "a8f1f2825ab438022c89bc7096ff740d0c22d6b5c4f2a9bd4bbf5407ebee85a2"), looks := false }, kinds := [], alts := [], laidByText := true, laidKinds := [.data], laidTests := true, laidLooks := .later }
def FencesRobustCardSaid : Prop := Claim7.holds Tryz.pinned (.plain (OpenSpec.ofChange fencesRobustSpec)) fencesRobustCard

/-- THE TIED CARD OF 'relyguardlaw31.FencesSmallest'. -/
def fencesSmallestCard : Claim7 := { stood := { row := fencesSmallestRow, standIns := [], harness := (true, "a8f1f2825ab438022c89bc7096ff740d0c22d6b5c4f2a9bd4bbf5407ebee85a2"), looks := false }, kinds := [], alts := [], laidByText := true, laidKinds := [.data], laidTests := true, laidLooks := .later }
def FencesSmallestCardSaid : Prop := Claim7.holds Tryz.pinned (.plain (OpenSpec.ofChange fencesSmallestSpec)) fencesSmallestCard

/-- THE TIED CARD OF 'relyguardlaw31.FencesMonotone'. -/
def fencesMonotoneCard : Claim7 := { stood := { row := fencesMonotoneRow, standIns := [], harness := (true, "a8f1f2825ab438022c89bc7096ff740d0c22d6b5c4f2a9bd4bbf5407ebee85a2"), looks := false }, kinds := [], alts := [], laidByText := true, laidKinds := [.data], laidTests := true, laidLooks := .later }
def FencesMonotoneCardSaid : Prop := Claim7.holds Tryz.pinned (.plain (OpenSpec.ofChange fencesMonotoneSpec)) fencesMonotoneCard

/-- THE TIED CARD OF 'relyguardlaw31.FencesModels'. -/
def fencesModelsCard : Claim7 := { stood := { row := fencesModelsRow, standIns := [], harness := (true, "a8f1f2825ab438022c89bc7096ff740d0c22d6b5c4f2a9bd4bbf5407ebee85a2"), looks := false }, kinds := [], alts := [], laidByText := true, laidKinds := [.data], laidTests := true, laidLooks := .later }
def FencesModelsCardSaid : Prop := Claim7.holds Tryz.pinned (.plain (OpenSpec.ofChange fencesModelsSpec)) fencesModelsCard

/-- THE TIED CARD OF 'relyguardlaw31.FencesSequential'. -/
def fencesSequentialCard : Claim7 := { stood := { row := fencesSequentialRow, standIns := [], harness := (true, "a8f1f2825ab438022c89bc7096ff740d0c22d6b5c4f2a9bd4bbf5407ebee85a2"), looks := false }, kinds := [], alts := [], laidByText := true, laidKinds := [.data], laidTests := true, laidLooks := .later }
def FencesSequentialCardSaid : Prop := Claim7.holds Tryz.pinned (.plain (OpenSpec.ofChange fencesSequentialSpec)) fencesSequentialCard

/-- THE TIED CARD OF 'relyguardlaw31.FencesRestrict'. -/
def fencesRestrictCard : Claim7 := { stood := { row := fencesRestrictRow, standIns := [], harness := (true, "a8f1f2825ab438022c89bc7096ff740d0c22d6b5c4f2a9bd4bbf5407ebee85a2"), looks := false }, kinds := [], alts := [], laidByText := true, laidKinds := [.data], laidTests := true, laidLooks := .later }
def FencesRestrictCardSaid : Prop := Claim7.holds Tryz.pinned (.plain (OpenSpec.ofChange fencesRestrictSpec)) fencesRestrictCard

/-- THE SECOND FORM's CARD OF 'relyguardlaw31.FencesRobust'. -/
def fencesRobustUptoCard : Claim7 := { stood := { row := fencesRobustUptoRow, standIns := [], harness := (true, "a8f1f2825ab438022c89bc7096ff740d0c22d6b5c4f2a9bd4bbf5407ebee85a2"), looks := false }, kinds := [], alts := [], laidByText := true, laidKinds := [.data], laidTests := true, laidLooks := .later }
def FencesRobustUptoCardSaid : Prop := Claim7.holds Tryz.pinned (.plain (OpenSpec.upto fencesRobustSpec)) fencesRobustUptoCard

/-- THE SECOND FORM's CARD OF 'relyguardlaw31.FencesSmallest'. -/
def fencesSmallestUptoCard : Claim7 := { stood := { row := fencesSmallestUptoRow, standIns := [], harness := (true, "a8f1f2825ab438022c89bc7096ff740d0c22d6b5c4f2a9bd4bbf5407ebee85a2"), looks := false }, kinds := [], alts := [], laidByText := true, laidKinds := [.data], laidTests := true, laidLooks := .later }
def FencesSmallestUptoCardSaid : Prop := Claim7.holds Tryz.pinned (.plain (OpenSpec.upto fencesSmallestSpec)) fencesSmallestUptoCard

/-- THE SECOND FORM's CARD OF 'relyguardlaw31.FencesMonotone'. -/
def fencesMonotoneUptoCard : Claim7 := { stood := { row := fencesMonotoneUptoRow, standIns := [], harness := (true, "a8f1f2825ab438022c89bc7096ff740d0c22d6b5c4f2a9bd4bbf5407ebee85a2"), looks := false }, kinds := [], alts := [], laidByText := true, laidKinds := [.data], laidTests := true, laidLooks := .later }
def FencesMonotoneUptoCardSaid : Prop := Claim7.holds Tryz.pinned (.plain (OpenSpec.upto fencesMonotoneSpec)) fencesMonotoneUptoCard

/-- THE SECOND FORM's CARD OF 'relyguardlaw31.FencesModels'. -/
def fencesModelsUptoCard : Claim7 := { stood := { row := fencesModelsUptoRow, standIns := [], harness := (true, "a8f1f2825ab438022c89bc7096ff740d0c22d6b5c4f2a9bd4bbf5407ebee85a2"), looks := false }, kinds := [], alts := [], laidByText := true, laidKinds := [.data], laidTests := true, laidLooks := .later }
def FencesModelsUptoCardSaid : Prop := Claim7.holds Tryz.pinned (.plain (OpenSpec.upto fencesModelsSpec)) fencesModelsUptoCard

/-- THE SECOND FORM's CARD OF 'relyguardlaw31.FencesSequential'. -/
def fencesSequentialUptoCard : Claim7 := { stood := { row := fencesSequentialUptoRow, standIns := [], harness := (true, "a8f1f2825ab438022c89bc7096ff740d0c22d6b5c4f2a9bd4bbf5407ebee85a2"), looks := false }, kinds := [], alts := [], laidByText := true, laidKinds := [.data], laidTests := true, laidLooks := .later }
def FencesSequentialUptoCardSaid : Prop := Claim7.holds Tryz.pinned (.plain (OpenSpec.upto fencesSequentialSpec)) fencesSequentialUptoCard

/-- THE SECOND FORM's CARD OF 'relyguardlaw31.FencesRestrict'. -/
def fencesRestrictUptoCard : Claim7 := { stood := { row := fencesRestrictUptoRow, standIns := [], harness := (true, "a8f1f2825ab438022c89bc7096ff740d0c22d6b5c4f2a9bd4bbf5407ebee85a2"), looks := false }, kinds := [], alts := [], laidByText := true, laidKinds := [.data], laidTests := true, laidLooks := .later }
def FencesRestrictUptoCardSaid : Prop := Claim7.holds Tryz.pinned (.plain (OpenSpec.upto fencesRestrictSpec)) fencesRestrictUptoCard
end Rows
end Go.Proofs.YtcmeofagpechdaaGreatDoor

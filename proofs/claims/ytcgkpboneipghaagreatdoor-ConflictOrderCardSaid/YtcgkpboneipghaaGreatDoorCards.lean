/-
  DERIVED. GIVEN WITH THE SEED: THE CARDS: each row of YtcgkpboneipghaaGreatDoorRows.lean that lists a variable, with what it lists TIED to the program's text (the seventh form; the later family's looks); each row that meets fmt, with fmt's text TOLD by the authors' own Lean function (tested against real Go, not proved from fmt's source: count such statements apart). THE CARD IS WHAT COUNTS. Prove the row's statement (the work); the ties are given (YtcgkpboneipghaaGreatDoorTie.lean); close each card by the builder's one call (the guide's Derived/Test/ToyasCard.lean, 'card_holds'). Laid BY PROGRAM, IN A SANDBOX (cutbox-door.mjs). By AI agents, Wed Nov 11 2026. No macro, syntax, notation, axiom, sorry.
-/
import Derived.Test.YtcgkpboneipghaaGreatDoorRows
import GoSem.ClaimSeven
namespace Go.Proofs.YtcgkpboneipghaaGreatDoor
namespace Rows

/-- THE TIED CARD OF 'relyguardlaw30.ConflictCycles'. -/
def conflictCyclesCard : Claim7 := { stood := { row := conflictCyclesRow, standIns := [], harness := (true, "81be1f5e5a69eadb82cf03843ec82e2d52acf59fd5ead03aa717e0dd312e42c6"), looks := false }, kinds := [], alts := [], laidByText := true, laidKinds := [.data], laidTests := true, laidLooks := .later }
def ConflictCyclesCardSaid : Prop := Claim7.holds Tryz.pinned (.plain (OpenSpec.ofChange conflictCyclesSpec)) conflictCyclesCard

/-- THE TIED CARD OF 'relyguardlaw30.ConflictModels'. -/
def conflictModelsCard : Claim7 := { stood := { row := conflictModelsRow, standIns := [], harness := (true, "81be1f5e5a69eadb82cf03843ec82e2d52acf59fd5ead03aa717e0dd312e42c6"), looks := false }, kinds := [], alts := [], laidByText := true, laidKinds := [.data], laidTests := true, laidLooks := .later }
def ConflictModelsCardSaid : Prop := Claim7.holds Tryz.pinned (.plain (OpenSpec.ofChange conflictModelsSpec)) conflictModelsCard

/-- THE TIED CARD OF 'relyguardlaw30.ConflictAtomics'. -/
def conflictAtomicsCard : Claim7 := { stood := { row := conflictAtomicsRow, standIns := [], harness := (true, "81be1f5e5a69eadb82cf03843ec82e2d52acf59fd5ead03aa717e0dd312e42c6"), looks := false }, kinds := [], alts := [], laidByText := true, laidKinds := [.data], laidTests := true, laidLooks := .later }
def ConflictAtomicsCardSaid : Prop := Claim7.holds Tryz.pinned (.plain (OpenSpec.ofChange conflictAtomicsSpec)) conflictAtomicsCard

/-- THE TIED CARD OF 'relyguardlaw30.ConflictThreads'. -/
def conflictThreadsCard : Claim7 := { stood := { row := conflictThreadsRow, standIns := [], harness := (true, "81be1f5e5a69eadb82cf03843ec82e2d52acf59fd5ead03aa717e0dd312e42c6"), looks := false }, kinds := [], alts := [], laidByText := true, laidKinds := [.data], laidTests := true, laidLooks := .later }
def ConflictThreadsCardSaid : Prop := Claim7.holds Tryz.pinned (.plain (OpenSpec.ofChange conflictThreadsSpec)) conflictThreadsCard

/-- THE TIED CARD OF 'relyguardlaw30.ConflictOrder'. -/
def conflictOrderCard : Claim7 := { stood := { row := conflictOrderRow, standIns := [], harness := (true, "81be1f5e5a69eadb82cf03843ec82e2d52acf59fd5ead03aa717e0dd312e42c6"), looks := false }, kinds := [], alts := [], laidByText := true, laidKinds := [.data], laidTests := true, laidLooks := .later }
def ConflictOrderCardSaid : Prop := Claim7.holds Tryz.pinned (.plain (OpenSpec.ofChange conflictOrderSpec)) conflictOrderCard

/-- THE SECOND FORM's CARD OF 'relyguardlaw30.ConflictCycles'. -/
def conflictCyclesUptoCard : Claim7 := { stood := { row := conflictCyclesUptoRow, standIns := [], harness := (true, "81be1f5e5a69eadb82cf03843ec82e2d52acf59fd5ead03aa717e0dd312e42c6"), looks := false }, kinds := [], alts := [], laidByText := true, laidKinds := [.data], laidTests := true, laidLooks := .later }
def ConflictCyclesUptoCardSaid : Prop := Claim7.holds Tryz.pinned (.plain (OpenSpec.upto conflictCyclesSpec)) conflictCyclesUptoCard

/-- THE SECOND FORM's CARD OF 'relyguardlaw30.ConflictModels'. -/
def conflictModelsUptoCard : Claim7 := { stood := { row := conflictModelsUptoRow, standIns := [], harness := (true, "81be1f5e5a69eadb82cf03843ec82e2d52acf59fd5ead03aa717e0dd312e42c6"), looks := false }, kinds := [], alts := [], laidByText := true, laidKinds := [.data], laidTests := true, laidLooks := .later }
def ConflictModelsUptoCardSaid : Prop := Claim7.holds Tryz.pinned (.plain (OpenSpec.upto conflictModelsSpec)) conflictModelsUptoCard

/-- THE SECOND FORM's CARD OF 'relyguardlaw30.ConflictAtomics'. -/
def conflictAtomicsUptoCard : Claim7 := { stood := { row := conflictAtomicsUptoRow, standIns := [], harness := (true, "81be1f5e5a69eadb82cf03843ec82e2d52acf59fd5ead03aa717e0dd312e42c6"), looks := false }, kinds := [], alts := [], laidByText := true, laidKinds := [.data], laidTests := true, laidLooks := .later }
def ConflictAtomicsUptoCardSaid : Prop := Claim7.holds Tryz.pinned (.plain (OpenSpec.upto conflictAtomicsSpec)) conflictAtomicsUptoCard

/-- THE SECOND FORM's CARD OF 'relyguardlaw30.ConflictThreads'. -/
def conflictThreadsUptoCard : Claim7 := { stood := { row := conflictThreadsUptoRow, standIns := [], harness := (true, "81be1f5e5a69eadb82cf03843ec82e2d52acf59fd5ead03aa717e0dd312e42c6"), looks := false }, kinds := [], alts := [], laidByText := true, laidKinds := [.data], laidTests := true, laidLooks := .later }
def ConflictThreadsUptoCardSaid : Prop := Claim7.holds Tryz.pinned (.plain (OpenSpec.upto conflictThreadsSpec)) conflictThreadsUptoCard

/-- THE SECOND FORM's CARD OF 'relyguardlaw30.ConflictOrder'. -/
def conflictOrderUptoCard : Claim7 := { stood := { row := conflictOrderUptoRow, standIns := [], harness := (true, "81be1f5e5a69eadb82cf03843ec82e2d52acf59fd5ead03aa717e0dd312e42c6"), looks := false }, kinds := [], alts := [], laidByText := true, laidKinds := [.data], laidTests := true, laidLooks := .later }
def ConflictOrderUptoCardSaid : Prop := Claim7.holds Tryz.pinned (.plain (OpenSpec.upto conflictOrderSpec)) conflictOrderUptoCard
end Rows
end Go.Proofs.YtcgkpboneipghaaGreatDoor

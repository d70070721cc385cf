/-
  DERIVED. GIVEN WITH THE SEED: THE CARDS: each row of YtoidcnbdndioaaaGreatDoorRows.lean that lists a variable, with what it lists TIED to the program's text (the seventh form; the later family's looks); each row that meets fmt, with fmt's text TOLD by the authors' own Lean function (tested against real Go, not proved from fmt's source: count such statements apart). THE CARD IS WHAT COUNTS. Prove the row's statement (the work); the ties are given (YtoidcnbdndioaaaGreatDoorTie.lean); close each card by the builder's one call (the guide's Derived/Test/ToyasCard.lean, 'card_holds'). Laid BY PROGRAM, IN A SANDBOX (cutbox-door.mjs). By AI agents, Wed Nov 11 2026. No macro, syntax, notation, axiom, sorry.
-/
import Derived.Test.YtoidcnbdndioaaaGreatDoorRows
import GoSem.ClaimSeven
namespace Go.Proofs.YtoidcnbdndioaaaGreatDoor
namespace Rows

/-- THE TIED CARD OF 'relyguardtop.TopWeakestClosure'. -/
def topWeakestClosureCard : Claim7 := { stood := { row := topWeakestClosureRow, standIns := [], harness := (true, "b5d7f08fc2667d00207d9ce1eabc892ed45f6d31ccf6352fd3c422ecdcceebc7"), looks := false }, kinds := [], alts := [], laidByText := true, laidKinds := [.data, .data], laidTests := true, laidLooks := .later }
def TopWeakestClosureCardSaid : Prop := Claim7.holds Tryz.pinned (.plain (OpenSpec.ofChange topWeakestClosureSpec)) topWeakestClosureCard

/-- THE TIED CARD OF 'relyguardtop.TopSetsDecide'. -/
def topSetsDecideCard : Claim7 := { stood := { row := topSetsDecideRow, standIns := [], harness := (true, "b5d7f08fc2667d00207d9ce1eabc892ed45f6d31ccf6352fd3c422ecdcceebc7"), looks := false }, kinds := [], alts := [], laidByText := true, laidKinds := [.data, .data], laidTests := true, laidLooks := .later }
def TopSetsDecideCardSaid : Prop := Claim7.holds Tryz.pinned (.plain (OpenSpec.ofChange topSetsDecideSpec)) topSetsDecideCard

/-- THE SECOND FORM's CARD OF 'relyguardtop.TopWeakestClosure'. -/
def topWeakestClosureUptoCard : Claim7 := { stood := { row := topWeakestClosureUptoRow, standIns := [], harness := (true, "b5d7f08fc2667d00207d9ce1eabc892ed45f6d31ccf6352fd3c422ecdcceebc7"), looks := false }, kinds := [], alts := [], laidByText := true, laidKinds := [.data, .data], laidTests := true, laidLooks := .later }
def TopWeakestClosureUptoCardSaid : Prop := Claim7.holds Tryz.pinned (.plain (OpenSpec.upto topWeakestClosureSpec)) topWeakestClosureUptoCard

/-- THE SECOND FORM's CARD OF 'relyguardtop.TopSetsDecide'. -/
def topSetsDecideUptoCard : Claim7 := { stood := { row := topSetsDecideUptoRow, standIns := [], harness := (true, "b5d7f08fc2667d00207d9ce1eabc892ed45f6d31ccf6352fd3c422ecdcceebc7"), looks := false }, kinds := [], alts := [], laidByText := true, laidKinds := [.data, .data], laidTests := true, laidLooks := .later }
def TopSetsDecideUptoCardSaid : Prop := Claim7.holds Tryz.pinned (.plain (OpenSpec.upto topSetsDecideSpec)) topSetsDecideUptoCard
end Rows
end Go.Proofs.YtoidcnbdndioaaaGreatDoor

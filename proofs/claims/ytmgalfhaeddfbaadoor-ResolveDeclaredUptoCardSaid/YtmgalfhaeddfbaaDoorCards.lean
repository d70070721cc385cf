/-
  DERIVED. GIVEN WITH THE SEED: THE CARDS: each row of YtmgalfhaeddfbaaDoorRows.lean that lists a variable, with what it lists TIED to the program's text (the seventh form; the later family's looks); each row that meets fmt, with fmt's text TOLD by the authors' own Lean function (tested against real Go, not proved from fmt's source: count such statements apart). THE CARD IS WHAT COUNTS. Prove the row's statement (the work); the ties are given (YtmgalfhaeddfbaaDoorTie.lean); close each card by the builder's one call (the guide's Derived/Test/ToyasCard.lean, 'card_holds'). Laid BY PROGRAM, IN A SANDBOX (cutbox-door.mjs). By AI agents, Wed Nov 11 2026. No macro, syntax, notation, axiom, sorry.
-/
import Derived.Test.YtmgalfhaeddfbaaDoorRows
import GoSem.ClaimSeven
namespace Go.Proofs.YtmgalfhaeddfbaaDoor
namespace Rows

/-- THE TIED CARD OF 'relyguardlaw04.ResolveDeclared'. -/
def resolveDeclaredCard : Claim7 := { stood := { row := resolveDeclaredRow, standIns := [], harness := (true, "3e98309ebd7ffeab06b898253417c0d04611b30754f6ac05f1fc4fa64cd7218f"), looks := true }, kinds := [], alts := [], laidByText := true, laidKinds := [.data, .data, .data], laidTests := true, laidLooks := .later }
def ResolveDeclaredCardSaid : Prop := Claim7.holds Tryd.pinned (.plain (OpenSpec.ofChange resolveDeclaredSpec)) resolveDeclaredCard

/-- THE TIED CARD OF 'relyguardlaw04.ResolveOrder'. -/
def resolveOrderCard : Claim7 := { stood := { row := resolveOrderRow, standIns := [], harness := (true, "3e98309ebd7ffeab06b898253417c0d04611b30754f6ac05f1fc4fa64cd7218f"), looks := true }, kinds := [], alts := [], laidByText := true, laidKinds := [.data, .data, .data], laidTests := true, laidLooks := .later }
def ResolveOrderCardSaid : Prop := Claim7.holds Tryd.pinned (.plain (OpenSpec.ofChange resolveOrderSpec)) resolveOrderCard

/-- THE SECOND FORM's CARD OF 'relyguardlaw04.ResolveDeclared'. -/
def resolveDeclaredUptoCard : Claim7 := { stood := { row := resolveDeclaredUptoRow, standIns := [], harness := (true, "3e98309ebd7ffeab06b898253417c0d04611b30754f6ac05f1fc4fa64cd7218f"), looks := true }, kinds := [], alts := [], laidByText := true, laidKinds := [.data, .data, .data], laidTests := true, laidLooks := .later }
def ResolveDeclaredUptoCardSaid : Prop := Claim7.holds Tryd.pinned (.plain (OpenSpec.upto resolveDeclaredSpec)) resolveDeclaredUptoCard

/-- THE SECOND FORM's CARD OF 'relyguardlaw04.ResolveOrder'. -/
def resolveOrderUptoCard : Claim7 := { stood := { row := resolveOrderUptoRow, standIns := [], harness := (true, "3e98309ebd7ffeab06b898253417c0d04611b30754f6ac05f1fc4fa64cd7218f"), looks := true }, kinds := [], alts := [], laidByText := true, laidKinds := [.data, .data, .data], laidTests := true, laidLooks := .later }
def ResolveOrderUptoCardSaid : Prop := Claim7.holds Tryd.pinned (.plain (OpenSpec.upto resolveOrderSpec)) resolveOrderUptoCard
end Rows
end Go.Proofs.YtmgalfhaeddfbaaDoor

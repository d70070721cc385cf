/-
  NARROWER THAN 'FOR EVERY INPUT', by the rows' own cells (each row's printed sentence says how): MachineMatchesReference: loops, laid · MachineChoices: loops, laid · MachineEnds: loops, laid · MachineAssignment: loops, laid · MachineFrame: loops, laid · MachineIndependence: loops, laid · MachineReading: loops, laid.
  DERIVED. THE GIVEN ROWS OF THIS SEAT. 7 by the template 'for every input the law returns true; each argument reads behind the call as it read before'; 0 by the template 'total and deterministic' (their statements: YtnfmmdkonagnaaaGreatDoorTotals.lean).
  GIVEN WITH THE SEED: the statements are not yours to turn. If you find one false, say at which input.
  Laid BY PROGRAM, IN A SANDBOX (cutbox-rows.mjs): the forced cells as the released guide's own fill.sh prints them over the translation eb61ac48eba6660a… (all of the seat's roots in one cut). By AI agents, Wed Nov 11 2026. No macro, syntax, notation, axiom, sorry.
-/
import Derived.Test.YtnfmmdkonagnaaaGreatDoorChecked
import GoSem.Claim
import GoSem.ClaimJoined
import GoSem.ClaimMapViews
import Derived.JoinedTies
import Derived.KernelRfl
namespace Go.Proofs.YtnfmmdkonagnaaaGreatDoor
/- THE CELL 'sum', in the pinned program and in every row, IS THE sha256 OF THE DUMP (.gsa) THAT YtnfmmdkonagnaaaGreatDoorProg.lean LOADS. Nothing in Lean hashes anything: it is a label: what it is worth is what the hold of that sum in a sandbox is worth. -/
noncomputable def Tryz.pinned : Pinned := { name := "ytnfmmdkonagnaaagreatdoor", sum := "eb61ac48eba6660a0e065e43236037e49f8cc312cd8d2d22d4477721332523bc", checked := Tryz.checked }
namespace Rows
def none {H : Type} : Left H := { results := [], args := [] }

/- WHAT THE LISTED PACKAGE-LEVEL VARIABLES READ AS WHEN THE CALL BEGINS. Each datum BY PROGRAM (the guide's laid-datum.mjs) off the statement by which the dump's own 'gosem.cut.vars' lays the variable. In a bare row this is a premise. The card (YtnfmmdkonagnaaaGreatDoorCards.lean) ties it to the program's text. -/
def laid_relyguard_expr_masks {H : Type} : DataW H := .agg [.lit (.int .i64 0), .lit (.int .i64 1), .lit (.int .i64 3), .lit (.int .i64 7), .lit (.int .i64 15), .lit (.int .i64 31), .lit (.int .i64 63), .lit (.int .i64 127), .lit (.int .i64 255)]

/-- 'relyguardlaw11.MachineMatchesReference': WHATEVER THE INPUT: true; the input reads as it did. -/
def machineMatchesReferenceSpec : ChangeSpec := { name := "machineMatchesReference", fn := fun _ => fun
  | [d1, d2, d3, d4] => { results := [.lit (.bool true)], args := [d1, d2, d3, d4] }
  | _ => none }
def machineMatchesReferenceRow : OpenClaim := { program := "ytnfmmdkonagnaaagreatdoor", sum := "eb61ac48eba6660a0e065e43236037e49f8cc312cd8d2d22d4477721332523bc", func := "relyguard/relyguardlaw11.MachineMatchesReference", spec := "machineMatchesReference", unfollowed := true, recurses := true, named := ["relyguard/expr.masks"], loops := true, apart := false, laid := [("relyguard/expr.masks", laid_relyguard_expr_masks)] }
def MachineMatchesReferenceSaid : Prop := machineMatchesReferenceRow.holds Tryz.pinned (OpenSpec.ofChange machineMatchesReferenceSpec)

/-- ITS FALSE NEIGHBOUR: 'it returns false'. Refute it at one input. -/
def machineMatchesReferenceWrong : ChangeSpec := { name := "machineMatchesReference", fn := fun _ => fun
  | [d1, d2, d3, d4] => { results := [.lit (.bool false)], args := [d1, d2, d3, d4] }
  | _ => none }
def MachineMatchesReferenceWrongFalsely : Prop := machineMatchesReferenceRow.holds Tryz.pinned (OpenSpec.ofChange machineMatchesReferenceWrong)

/-- 'relyguardlaw11.MachineChoices': WHATEVER THE INPUT: true; the input reads as it did. -/
def machineChoicesSpec : ChangeSpec := { name := "machineChoices", fn := fun _ => fun
  | [d1, d2, d3] => { results := [.lit (.bool true)], args := [d1, d2, d3] }
  | _ => none }
def machineChoicesRow : OpenClaim := { program := "ytnfmmdkonagnaaagreatdoor", sum := "eb61ac48eba6660a0e065e43236037e49f8cc312cd8d2d22d4477721332523bc", func := "relyguard/relyguardlaw11.MachineChoices", spec := "machineChoices", unfollowed := true, recurses := true, named := ["relyguard/expr.masks"], loops := true, apart := false, laid := [("relyguard/expr.masks", laid_relyguard_expr_masks)] }
def MachineChoicesSaid : Prop := machineChoicesRow.holds Tryz.pinned (OpenSpec.ofChange machineChoicesSpec)

/-- ITS FALSE NEIGHBOUR: 'it returns false'. Refute it at one input. -/
def machineChoicesWrong : ChangeSpec := { name := "machineChoices", fn := fun _ => fun
  | [d1, d2, d3] => { results := [.lit (.bool false)], args := [d1, d2, d3] }
  | _ => none }
def MachineChoicesWrongFalsely : Prop := machineChoicesRow.holds Tryz.pinned (OpenSpec.ofChange machineChoicesWrong)

/-- 'relyguardlaw11.MachineEnds': WHATEVER THE INPUT: true; the input reads as it did. -/
def machineEndsSpec : ChangeSpec := { name := "machineEnds", fn := fun _ => fun
  | [d1, d2] => { results := [.lit (.bool true)], args := [d1, d2] }
  | _ => none }
def machineEndsRow : OpenClaim := { program := "ytnfmmdkonagnaaagreatdoor", sum := "eb61ac48eba6660a0e065e43236037e49f8cc312cd8d2d22d4477721332523bc", func := "relyguard/relyguardlaw11.MachineEnds", spec := "machineEnds", unfollowed := true, recurses := true, named := ["relyguard/expr.masks"], loops := true, apart := false, laid := [("relyguard/expr.masks", laid_relyguard_expr_masks)] }
def MachineEndsSaid : Prop := machineEndsRow.holds Tryz.pinned (OpenSpec.ofChange machineEndsSpec)

/-- ITS FALSE NEIGHBOUR: 'it returns false'. Refute it at one input. -/
def machineEndsWrong : ChangeSpec := { name := "machineEnds", fn := fun _ => fun
  | [d1, d2] => { results := [.lit (.bool false)], args := [d1, d2] }
  | _ => none }
def MachineEndsWrongFalsely : Prop := machineEndsRow.holds Tryz.pinned (OpenSpec.ofChange machineEndsWrong)

/-- 'relyguardlaw11.MachineAssignment': WHATEVER THE INPUT: true; the input reads as it did. -/
def machineAssignmentSpec : ChangeSpec := { name := "machineAssignment", fn := fun _ => fun
  | [d1, d2, d3, d4] => { results := [.lit (.bool true)], args := [d1, d2, d3, d4] }
  | _ => none }
def machineAssignmentRow : OpenClaim := { program := "ytnfmmdkonagnaaagreatdoor", sum := "eb61ac48eba6660a0e065e43236037e49f8cc312cd8d2d22d4477721332523bc", func := "relyguard/relyguardlaw11.MachineAssignment", spec := "machineAssignment", unfollowed := true, recurses := true, named := ["relyguard/expr.masks"], loops := true, apart := false, laid := [("relyguard/expr.masks", laid_relyguard_expr_masks)] }
def MachineAssignmentSaid : Prop := machineAssignmentRow.holds Tryz.pinned (OpenSpec.ofChange machineAssignmentSpec)

/-- ITS FALSE NEIGHBOUR: 'it returns false'. Refute it at one input. -/
def machineAssignmentWrong : ChangeSpec := { name := "machineAssignment", fn := fun _ => fun
  | [d1, d2, d3, d4] => { results := [.lit (.bool false)], args := [d1, d2, d3, d4] }
  | _ => none }
def MachineAssignmentWrongFalsely : Prop := machineAssignmentRow.holds Tryz.pinned (OpenSpec.ofChange machineAssignmentWrong)

/-- 'relyguardlaw11.MachineFrame': WHATEVER THE INPUT: true; the input reads as it did. -/
def machineFrameSpec : ChangeSpec := { name := "machineFrame", fn := fun _ => fun
  | [d1, d2, d3] => { results := [.lit (.bool true)], args := [d1, d2, d3] }
  | _ => none }
def machineFrameRow : OpenClaim := { program := "ytnfmmdkonagnaaagreatdoor", sum := "eb61ac48eba6660a0e065e43236037e49f8cc312cd8d2d22d4477721332523bc", func := "relyguard/relyguardlaw11.MachineFrame", spec := "machineFrame", unfollowed := true, recurses := true, named := ["relyguard/expr.masks"], loops := true, apart := false, laid := [("relyguard/expr.masks", laid_relyguard_expr_masks)] }
def MachineFrameSaid : Prop := machineFrameRow.holds Tryz.pinned (OpenSpec.ofChange machineFrameSpec)

/-- ITS FALSE NEIGHBOUR: 'it returns false'. Refute it at one input. -/
def machineFrameWrong : ChangeSpec := { name := "machineFrame", fn := fun _ => fun
  | [d1, d2, d3] => { results := [.lit (.bool false)], args := [d1, d2, d3] }
  | _ => none }
def MachineFrameWrongFalsely : Prop := machineFrameRow.holds Tryz.pinned (OpenSpec.ofChange machineFrameWrong)

/-- 'relyguardlaw11.MachineIndependence': WHATEVER THE INPUT: true; the input reads as it did. -/
def machineIndependenceSpec : ChangeSpec := { name := "machineIndependence", fn := fun _ => fun
  | [d1, d2] => { results := [.lit (.bool true)], args := [d1, d2] }
  | _ => none }
def machineIndependenceRow : OpenClaim := { program := "ytnfmmdkonagnaaagreatdoor", sum := "eb61ac48eba6660a0e065e43236037e49f8cc312cd8d2d22d4477721332523bc", func := "relyguard/relyguardlaw11.MachineIndependence", spec := "machineIndependence", unfollowed := true, recurses := true, named := ["relyguard/expr.masks"], loops := true, apart := false, laid := [("relyguard/expr.masks", laid_relyguard_expr_masks)] }
def MachineIndependenceSaid : Prop := machineIndependenceRow.holds Tryz.pinned (OpenSpec.ofChange machineIndependenceSpec)

/-- ITS FALSE NEIGHBOUR: 'it returns false'. Refute it at one input. -/
def machineIndependenceWrong : ChangeSpec := { name := "machineIndependence", fn := fun _ => fun
  | [d1, d2] => { results := [.lit (.bool false)], args := [d1, d2] }
  | _ => none }
def MachineIndependenceWrongFalsely : Prop := machineIndependenceRow.holds Tryz.pinned (OpenSpec.ofChange machineIndependenceWrong)

/-- 'relyguardlaw11.MachineReading': WHATEVER THE INPUT: true; the input reads as it did. -/
def machineReadingSpec : ChangeSpec := { name := "machineReading", fn := fun _ => fun
  | [d1, d2, d3, d4] => { results := [.lit (.bool true)], args := [d1, d2, d3, d4] }
  | _ => none }
def machineReadingRow : OpenClaim := { program := "ytnfmmdkonagnaaagreatdoor", sum := "eb61ac48eba6660a0e065e43236037e49f8cc312cd8d2d22d4477721332523bc", func := "relyguard/relyguardlaw11.MachineReading", spec := "machineReading", unfollowed := true, recurses := true, named := ["relyguard/expr.masks"], loops := true, apart := false, laid := [("relyguard/expr.masks", laid_relyguard_expr_masks)] }
def MachineReadingSaid : Prop := machineReadingRow.holds Tryz.pinned (OpenSpec.ofChange machineReadingSpec)

/-- ITS FALSE NEIGHBOUR: 'it returns false'. Refute it at one input. -/
def machineReadingWrong : ChangeSpec := { name := "machineReading", fn := fun _ => fun
  | [d1, d2, d3, d4] => { results := [.lit (.bool false)], args := [d1, d2, d3, d4] }
  | _ => none }
def MachineReadingWrongFalsely : Prop := machineReadingRow.holds Tryz.pinned (OpenSpec.ofChange machineReadingWrong)

/- THE SECOND FORM. 'bulk': how many values and letters a reading holds, each counted each time it is reached (what is shared counts as often as it is met; a slice's spare places count too). A statement '..UptoSaid' is the law's where the arguments, and the package variables that the reading takes, are together of bulk at most 1048576: NARROWER than '..Said'. Prove '..Said' where nothing that the law and all that it calls make is longer than what came in: it says more and counts as full. Else prove '..UptoSaid'. A law counts once. -/
mutual
def uptoBulk {H : Type} : DataW H → Nat
  | .lit (.string bytes) => bytes.length + 1
  | .lit _ => 1
  | .nil => 1
  | .ptr d => uptoBulk d + 1
  | .slice elems spare => uptoBulkAll elems + uptoBulkAll spare + 1
  | .agg parts => uptoBulkAll parts + 1
  | .iface _ d => uptoBulk d + 1
  | .map entries => uptoBulkEntries entries + 1
  | .held _ => 1
def uptoBulkAll {H : Type} : List (DataW H) → Nat
  | [] => 0
  | d :: r => uptoBulk d + uptoBulkAll r
def uptoBulkEntries {H : Type} : List (Lit × DataW H) → Nat
  | [] => 0
  | x :: r => uptoBulkEntry x + uptoBulkEntries r
def uptoBulkEntry {H : Type} : Lit × DataW H → Nat
  | (.string bytes, d) => bytes.length + uptoBulk d + 1
  | (_, d) => uptoBulk d + 1
 end
def uptoSmall : (H : Type) → List (DataW H) → Bool := fun _ ds => decide (uptoBulkAll ds ≤ 1048576)
def OpenSpec.upto (s : _root_.Go.ChangeSpec) : _root_.Go.OpenSpec := { _root_.Go.OpenSpec.ofChange s with cond := some uptoSmall }

/-- 'relyguardlaw11.MachineMatchesReference', WHERE WHAT IT READS IS OF BULK AT MOST 1048576: true; the input reads as it did. -/
def machineMatchesReferenceUptoRow : OpenClaim := { program := "ytnfmmdkonagnaaagreatdoor", sum := "eb61ac48eba6660a0e065e43236037e49f8cc312cd8d2d22d4477721332523bc", func := "relyguard/relyguardlaw11.MachineMatchesReference", spec := "machineMatchesReference", unfollowed := true, recurses := true, named := ["relyguard/expr.masks"], loops := true, apart := false, laid := [("relyguard/expr.masks", laid_relyguard_expr_masks)], narrowed := true }
def MachineMatchesReferenceUptoSaid : Prop := machineMatchesReferenceUptoRow.holds Tryz.pinned (OpenSpec.upto machineMatchesReferenceSpec)

/-- 'relyguardlaw11.MachineChoices', WHERE WHAT IT READS IS OF BULK AT MOST 1048576: true; the input reads as it did. -/
def machineChoicesUptoRow : OpenClaim := { program := "ytnfmmdkonagnaaagreatdoor", sum := "eb61ac48eba6660a0e065e43236037e49f8cc312cd8d2d22d4477721332523bc", func := "relyguard/relyguardlaw11.MachineChoices", spec := "machineChoices", unfollowed := true, recurses := true, named := ["relyguard/expr.masks"], loops := true, apart := false, laid := [("relyguard/expr.masks", laid_relyguard_expr_masks)], narrowed := true }
def MachineChoicesUptoSaid : Prop := machineChoicesUptoRow.holds Tryz.pinned (OpenSpec.upto machineChoicesSpec)

/-- 'relyguardlaw11.MachineEnds', WHERE WHAT IT READS IS OF BULK AT MOST 1048576: true; the input reads as it did. -/
def machineEndsUptoRow : OpenClaim := { program := "ytnfmmdkonagnaaagreatdoor", sum := "eb61ac48eba6660a0e065e43236037e49f8cc312cd8d2d22d4477721332523bc", func := "relyguard/relyguardlaw11.MachineEnds", spec := "machineEnds", unfollowed := true, recurses := true, named := ["relyguard/expr.masks"], loops := true, apart := false, laid := [("relyguard/expr.masks", laid_relyguard_expr_masks)], narrowed := true }
def MachineEndsUptoSaid : Prop := machineEndsUptoRow.holds Tryz.pinned (OpenSpec.upto machineEndsSpec)

/-- 'relyguardlaw11.MachineAssignment', WHERE WHAT IT READS IS OF BULK AT MOST 1048576: true; the input reads as it did. -/
def machineAssignmentUptoRow : OpenClaim := { program := "ytnfmmdkonagnaaagreatdoor", sum := "eb61ac48eba6660a0e065e43236037e49f8cc312cd8d2d22d4477721332523bc", func := "relyguard/relyguardlaw11.MachineAssignment", spec := "machineAssignment", unfollowed := true, recurses := true, named := ["relyguard/expr.masks"], loops := true, apart := false, laid := [("relyguard/expr.masks", laid_relyguard_expr_masks)], narrowed := true }
def MachineAssignmentUptoSaid : Prop := machineAssignmentUptoRow.holds Tryz.pinned (OpenSpec.upto machineAssignmentSpec)

/-- 'relyguardlaw11.MachineFrame', WHERE WHAT IT READS IS OF BULK AT MOST 1048576: true; the input reads as it did. -/
def machineFrameUptoRow : OpenClaim := { program := "ytnfmmdkonagnaaagreatdoor", sum := "eb61ac48eba6660a0e065e43236037e49f8cc312cd8d2d22d4477721332523bc", func := "relyguard/relyguardlaw11.MachineFrame", spec := "machineFrame", unfollowed := true, recurses := true, named := ["relyguard/expr.masks"], loops := true, apart := false, laid := [("relyguard/expr.masks", laid_relyguard_expr_masks)], narrowed := true }
def MachineFrameUptoSaid : Prop := machineFrameUptoRow.holds Tryz.pinned (OpenSpec.upto machineFrameSpec)

/-- 'relyguardlaw11.MachineIndependence', WHERE WHAT IT READS IS OF BULK AT MOST 1048576: true; the input reads as it did. -/
def machineIndependenceUptoRow : OpenClaim := { program := "ytnfmmdkonagnaaagreatdoor", sum := "eb61ac48eba6660a0e065e43236037e49f8cc312cd8d2d22d4477721332523bc", func := "relyguard/relyguardlaw11.MachineIndependence", spec := "machineIndependence", unfollowed := true, recurses := true, named := ["relyguard/expr.masks"], loops := true, apart := false, laid := [("relyguard/expr.masks", laid_relyguard_expr_masks)], narrowed := true }
def MachineIndependenceUptoSaid : Prop := machineIndependenceUptoRow.holds Tryz.pinned (OpenSpec.upto machineIndependenceSpec)

/-- 'relyguardlaw11.MachineReading', WHERE WHAT IT READS IS OF BULK AT MOST 1048576: true; the input reads as it did. -/
def machineReadingUptoRow : OpenClaim := { program := "ytnfmmdkonagnaaagreatdoor", sum := "eb61ac48eba6660a0e065e43236037e49f8cc312cd8d2d22d4477721332523bc", func := "relyguard/relyguardlaw11.MachineReading", spec := "machineReading", unfollowed := true, recurses := true, named := ["relyguard/expr.masks"], loops := true, apart := false, laid := [("relyguard/expr.masks", laid_relyguard_expr_masks)], narrowed := true }
def MachineReadingUptoSaid : Prop := machineReadingUptoRow.holds Tryz.pinned (OpenSpec.upto machineReadingSpec)

end Rows
end Go.Proofs.YtnfmmdkonagnaaaGreatDoor

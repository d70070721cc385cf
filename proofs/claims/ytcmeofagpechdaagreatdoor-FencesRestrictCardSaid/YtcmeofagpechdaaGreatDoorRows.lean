/-
  NARROWER THAN 'FOR EVERY INPUT', by the rows' own cells (each row's printed sentence says how): FencesRobust: loops, laid · FencesSmallest: loops, laid · FencesMonotone: loops, laid · FencesModels: loops, laid · FencesSequential: loops, laid · FencesRestrict: loops, laid.
  DERIVED. THE GIVEN ROWS OF THIS SEAT. 6 by the template 'for every input the law returns true; each argument reads behind the call as it read before'; 0 by the template 'total and deterministic' (their statements: YtcmeofagpechdaaGreatDoorTotals.lean).
  GIVEN WITH THE SEED: the statements are not yours to turn. If you find one false, say at which input.
  Laid BY PROGRAM, IN A SANDBOX (cutbox-rows.mjs): the forced cells as the released guide's own fill.sh prints them over the translation 7c3a9e92b97866f2… (all of the seat's roots in one cut). By AI agents, Wed Nov 11 2026. No macro, syntax, notation, axiom, sorry.
-/
import Derived.Test.YtcmeofagpechdaaGreatDoorChecked
import GoSem.Claim
import GoSem.ClaimJoined
import GoSem.ClaimMapViews
import Derived.JoinedTies
import Derived.KernelRfl
namespace Go.Proofs.YtcmeofagpechdaaGreatDoor
/- THE CELL 'sum', in the pinned program and in every row, IS THE sha256 OF THE DUMP (.gsa) THAT YtcmeofagpechdaaGreatDoorProg.lean LOADS. Nothing in Lean hashes anything: it is a label: what it is worth is what the hold of that sum in a sandbox is worth. -/
noncomputable def Tryz.pinned : Pinned := { name := "ytcmeofagpechdaagreatdoor", sum := "7c3a9e92b97866f21c1136842b890e6e77f75bc84f9cedbe7ad51110a496c71e", checked := Tryz.checked }
namespace Rows
def none {H : Type} : Left H := { results := [], args := [] }

/- WHAT THE LISTED PACKAGE-LEVEL VARIABLES READ AS WHEN THE CALL BEGINS. Each datum BY PROGRAM (the guide's laid-datum.mjs) off the statement by which the dump's own 'gosem.cut.vars' lays the variable. In a bare row this is a premise. The card (YtcmeofagpechdaaGreatDoorCards.lean) ties it to the program's text. -/
def laid_relyguard_expr_masks {H : Type} : DataW H := .agg [.lit (.int .i64 0), .lit (.int .i64 1), .lit (.int .i64 3), .lit (.int .i64 7), .lit (.int .i64 15), .lit (.int .i64 31), .lit (.int .i64 63), .lit (.int .i64 127), .lit (.int .i64 255)]

/-- 'relyguardlaw31.FencesRobust': WHATEVER THE INPUT: true; the input reads as it did. -/
def fencesRobustSpec : ChangeSpec := { name := "fencesRobust", fn := fun _ => fun
  | [d1, d2] => { results := [.lit (.bool true)], args := [d1, d2] }
  | _ => none }
def fencesRobustRow : OpenClaim := { program := "ytcmeofagpechdaagreatdoor", sum := "7c3a9e92b97866f21c1136842b890e6e77f75bc84f9cedbe7ad51110a496c71e", func := "relyguard/relyguardlaw31.FencesRobust", spec := "fencesRobust", unfollowed := true, recurses := true, named := ["relyguard/expr.masks"], loops := true, plainKeys := false, apart := false, laid := [("relyguard/expr.masks", laid_relyguard_expr_masks)] }
def FencesRobustSaid : Prop := fencesRobustRow.holds Tryz.pinned (OpenSpec.ofChange fencesRobustSpec)

/-- ITS FALSE NEIGHBOUR: 'it returns false'. Refute it at one input. -/
def fencesRobustWrong : ChangeSpec := { name := "fencesRobust", fn := fun _ => fun
  | [d1, d2] => { results := [.lit (.bool false)], args := [d1, d2] }
  | _ => none }
def FencesRobustWrongFalsely : Prop := fencesRobustRow.holds Tryz.pinned (OpenSpec.ofChange fencesRobustWrong)

/-- 'relyguardlaw31.FencesSmallest': WHATEVER THE INPUT: true; the input reads as it did. -/
def fencesSmallestSpec : ChangeSpec := { name := "fencesSmallest", fn := fun _ => fun
  | [d1, d2, d3] => { results := [.lit (.bool true)], args := [d1, d2, d3] }
  | _ => none }
def fencesSmallestRow : OpenClaim := { program := "ytcmeofagpechdaagreatdoor", sum := "7c3a9e92b97866f21c1136842b890e6e77f75bc84f9cedbe7ad51110a496c71e", func := "relyguard/relyguardlaw31.FencesSmallest", spec := "fencesSmallest", unfollowed := true, recurses := true, named := ["relyguard/expr.masks"], loops := true, plainKeys := false, apart := false, laid := [("relyguard/expr.masks", laid_relyguard_expr_masks)] }
def FencesSmallestSaid : Prop := fencesSmallestRow.holds Tryz.pinned (OpenSpec.ofChange fencesSmallestSpec)

/-- ITS FALSE NEIGHBOUR: 'it returns false'. Refute it at one input. -/
def fencesSmallestWrong : ChangeSpec := { name := "fencesSmallest", fn := fun _ => fun
  | [d1, d2, d3] => { results := [.lit (.bool false)], args := [d1, d2, d3] }
  | _ => none }
def FencesSmallestWrongFalsely : Prop := fencesSmallestRow.holds Tryz.pinned (OpenSpec.ofChange fencesSmallestWrong)

/-- 'relyguardlaw31.FencesMonotone': WHATEVER THE INPUT: true; the input reads as it did. -/
def fencesMonotoneSpec : ChangeSpec := { name := "fencesMonotone", fn := fun _ => fun
  | [d1, d2, d3, d4] => { results := [.lit (.bool true)], args := [d1, d2, d3, d4] }
  | _ => none }
def fencesMonotoneRow : OpenClaim := { program := "ytcmeofagpechdaagreatdoor", sum := "7c3a9e92b97866f21c1136842b890e6e77f75bc84f9cedbe7ad51110a496c71e", func := "relyguard/relyguardlaw31.FencesMonotone", spec := "fencesMonotone", unfollowed := true, recurses := true, named := ["relyguard/expr.masks"], loops := true, plainKeys := false, apart := false, laid := [("relyguard/expr.masks", laid_relyguard_expr_masks)] }
def FencesMonotoneSaid : Prop := fencesMonotoneRow.holds Tryz.pinned (OpenSpec.ofChange fencesMonotoneSpec)

/-- ITS FALSE NEIGHBOUR: 'it returns false'. Refute it at one input. -/
def fencesMonotoneWrong : ChangeSpec := { name := "fencesMonotone", fn := fun _ => fun
  | [d1, d2, d3, d4] => { results := [.lit (.bool false)], args := [d1, d2, d3, d4] }
  | _ => none }
def FencesMonotoneWrongFalsely : Prop := fencesMonotoneRow.holds Tryz.pinned (OpenSpec.ofChange fencesMonotoneWrong)

/-- 'relyguardlaw31.FencesModels': WHATEVER THE INPUT: true; the input reads as it did. -/
def fencesModelsSpec : ChangeSpec := { name := "fencesModels", fn := fun _ => fun
  | [d] => { results := [.lit (.bool true)], args := [d] }
  | _ => none }
def fencesModelsRow : OpenClaim := { program := "ytcmeofagpechdaagreatdoor", sum := "7c3a9e92b97866f21c1136842b890e6e77f75bc84f9cedbe7ad51110a496c71e", func := "relyguard/relyguardlaw31.FencesModels", spec := "fencesModels", unfollowed := true, recurses := true, named := ["relyguard/expr.masks"], loops := true, plainKeys := false, apart := false, laid := [("relyguard/expr.masks", laid_relyguard_expr_masks)] }
def FencesModelsSaid : Prop := fencesModelsRow.holds Tryz.pinned (OpenSpec.ofChange fencesModelsSpec)

/-- ITS FALSE NEIGHBOUR: 'it returns false'. Refute it at one input. -/
def fencesModelsWrong : ChangeSpec := { name := "fencesModels", fn := fun _ => fun
  | [d] => { results := [.lit (.bool false)], args := [d] }
  | _ => none }
def FencesModelsWrongFalsely : Prop := fencesModelsRow.holds Tryz.pinned (OpenSpec.ofChange fencesModelsWrong)

/-- 'relyguardlaw31.FencesSequential': WHATEVER THE INPUT: true; the input reads as it did. -/
def fencesSequentialSpec : ChangeSpec := { name := "fencesSequential", fn := fun _ => fun
  | [d1, d2, d3] => { results := [.lit (.bool true)], args := [d1, d2, d3] }
  | _ => none }
def fencesSequentialRow : OpenClaim := { program := "ytcmeofagpechdaagreatdoor", sum := "7c3a9e92b97866f21c1136842b890e6e77f75bc84f9cedbe7ad51110a496c71e", func := "relyguard/relyguardlaw31.FencesSequential", spec := "fencesSequential", unfollowed := true, recurses := true, named := ["relyguard/expr.masks"], loops := true, plainKeys := false, apart := false, laid := [("relyguard/expr.masks", laid_relyguard_expr_masks)] }
def FencesSequentialSaid : Prop := fencesSequentialRow.holds Tryz.pinned (OpenSpec.ofChange fencesSequentialSpec)

/-- ITS FALSE NEIGHBOUR: 'it returns false'. Refute it at one input. -/
def fencesSequentialWrong : ChangeSpec := { name := "fencesSequential", fn := fun _ => fun
  | [d1, d2, d3] => { results := [.lit (.bool false)], args := [d1, d2, d3] }
  | _ => none }
def FencesSequentialWrongFalsely : Prop := fencesSequentialRow.holds Tryz.pinned (OpenSpec.ofChange fencesSequentialWrong)

/-- 'relyguardlaw31.FencesRestrict': WHATEVER THE INPUT: true; the input reads as it did. -/
def fencesRestrictSpec : ChangeSpec := { name := "fencesRestrict", fn := fun _ => fun
  | [d1, d2, d3, d4] => { results := [.lit (.bool true)], args := [d1, d2, d3, d4] }
  | _ => none }
def fencesRestrictRow : OpenClaim := { program := "ytcmeofagpechdaagreatdoor", sum := "7c3a9e92b97866f21c1136842b890e6e77f75bc84f9cedbe7ad51110a496c71e", func := "relyguard/relyguardlaw31.FencesRestrict", spec := "fencesRestrict", unfollowed := true, recurses := true, named := ["relyguard/expr.masks"], loops := true, plainKeys := false, apart := false, laid := [("relyguard/expr.masks", laid_relyguard_expr_masks)] }
def FencesRestrictSaid : Prop := fencesRestrictRow.holds Tryz.pinned (OpenSpec.ofChange fencesRestrictSpec)

/-- ITS FALSE NEIGHBOUR: 'it returns false'. Refute it at one input. -/
def fencesRestrictWrong : ChangeSpec := { name := "fencesRestrict", fn := fun _ => fun
  | [d1, d2, d3, d4] => { results := [.lit (.bool false)], args := [d1, d2, d3, d4] }
  | _ => none }
def FencesRestrictWrongFalsely : Prop := fencesRestrictRow.holds Tryz.pinned (OpenSpec.ofChange fencesRestrictWrong)

/- THE SECOND FORM. 'bulk': how many values and letters a reading holds, each counted each time it is reached (what is shared counts as often as it is met; a slice's spare places count too). A statement '..UptoSaid' is the law's where the arguments, and the package variables that the reading takes, are together of bulk at most 1048576: NARROWER than '..Said'. Prove '..Said' where nothing that the law and all that it calls make is longer than what came in: it says more and counts as full. Else prove '..UptoSaid'. A law counts once. -/
mutual
def uptoBulk {H : Type} : DataW H → Nat
  | .lit (.string bytes) => bytes.length + 1
  | .lit _ => 1
  | .nil => 1
  | .ptr d => uptoBulk d + 1
  | .slice elems spare => uptoBulkAll elems + uptoBulkAll spare + 1
  | .agg parts => uptoBulkAll parts + 1
  | .iface _ d => uptoBulk d + 1
  | .map entries => uptoBulkEntries entries + 1
  | .held _ => 1
def uptoBulkAll {H : Type} : List (DataW H) → Nat
  | [] => 0
  | d :: r => uptoBulk d + uptoBulkAll r
def uptoBulkEntries {H : Type} : List (Lit × DataW H) → Nat
  | [] => 0
  | x :: r => uptoBulkEntry x + uptoBulkEntries r
def uptoBulkEntry {H : Type} : Lit × DataW H → Nat
  | (.string bytes, d) => bytes.length + uptoBulk d + 1
  | (_, d) => uptoBulk d + 1
 end
def uptoSmall : (H : Type) → List (DataW H) → Bool := fun _ ds => decide (uptoBulkAll ds ≤ 1048576)
def OpenSpec.upto (s : _root_.Go.ChangeSpec) : _root_.Go.OpenSpec := { _root_.Go.OpenSpec.ofChange s with cond := some uptoSmall }

/-- 'relyguardlaw31.FencesRobust', WHERE WHAT IT READS IS OF BULK AT MOST 1048576: true; the input reads as it did. -/
def fencesRobustUptoRow : OpenClaim := { program := "ytcmeofagpechdaagreatdoor", sum := "7c3a9e92b97866f21c1136842b890e6e77f75bc84f9cedbe7ad51110a496c71e", func := "relyguard/relyguardlaw31.FencesRobust", spec := "fencesRobust", unfollowed := true, recurses := true, named := ["relyguard/expr.masks"], loops := true, plainKeys := false, apart := false, laid := [("relyguard/expr.masks", laid_relyguard_expr_masks)], narrowed := true }
def FencesRobustUptoSaid : Prop := fencesRobustUptoRow.holds Tryz.pinned (OpenSpec.upto fencesRobustSpec)

/-- 'relyguardlaw31.FencesSmallest', WHERE WHAT IT READS IS OF BULK AT MOST 1048576: true; the input reads as it did. -/
def fencesSmallestUptoRow : OpenClaim := { program := "ytcmeofagpechdaagreatdoor", sum := "7c3a9e92b97866f21c1136842b890e6e77f75bc84f9cedbe7ad51110a496c71e", func := "relyguard/relyguardlaw31.FencesSmallest", spec := "fencesSmallest", unfollowed := true, recurses := true, named := ["relyguard/expr.masks"], loops := true, plainKeys := false, apart := false, laid := [("relyguard/expr.masks", laid_relyguard_expr_masks)], narrowed := true }
def FencesSmallestUptoSaid : Prop := fencesSmallestUptoRow.holds Tryz.pinned (OpenSpec.upto fencesSmallestSpec)

/-- 'relyguardlaw31.FencesMonotone', WHERE WHAT IT READS IS OF BULK AT MOST 1048576: true; the input reads as it did. -/
def fencesMonotoneUptoRow : OpenClaim := { program := "ytcmeofagpechdaagreatdoor", sum := "7c3a9e92b97866f21c1136842b890e6e77f75bc84f9cedbe7ad51110a496c71e", func := "relyguard/relyguardlaw31.FencesMonotone", spec := "fencesMonotone", unfollowed := true, recurses := true, named := ["relyguard/expr.masks"], loops := true, plainKeys := false, apart := false, laid := [("relyguard/expr.masks", laid_relyguard_expr_masks)], narrowed := true }
def FencesMonotoneUptoSaid : Prop := fencesMonotoneUptoRow.holds Tryz.pinned (OpenSpec.upto fencesMonotoneSpec)

/-- 'relyguardlaw31.FencesModels', WHERE WHAT IT READS IS OF BULK AT MOST 1048576: true; the input reads as it did. -/
def fencesModelsUptoRow : OpenClaim := { program := "ytcmeofagpechdaagreatdoor", sum := "7c3a9e92b97866f21c1136842b890e6e77f75bc84f9cedbe7ad51110a496c71e", func := "relyguard/relyguardlaw31.FencesModels", spec := "fencesModels", unfollowed := true, recurses := true, named := ["relyguard/expr.masks"], loops := true, plainKeys := false, apart := false, laid := [("relyguard/expr.masks", laid_relyguard_expr_masks)], narrowed := true }
def FencesModelsUptoSaid : Prop := fencesModelsUptoRow.holds Tryz.pinned (OpenSpec.upto fencesModelsSpec)

/-- 'relyguardlaw31.FencesSequential', WHERE WHAT IT READS IS OF BULK AT MOST 1048576: true; the input reads as it did. -/
def fencesSequentialUptoRow : OpenClaim := { program := "ytcmeofagpechdaagreatdoor", sum := "7c3a9e92b97866f21c1136842b890e6e77f75bc84f9cedbe7ad51110a496c71e", func := "relyguard/relyguardlaw31.FencesSequential", spec := "fencesSequential", unfollowed := true, recurses := true, named := ["relyguard/expr.masks"], loops := true, plainKeys := false, apart := false, laid := [("relyguard/expr.masks", laid_relyguard_expr_masks)], narrowed := true }
def FencesSequentialUptoSaid : Prop := fencesSequentialUptoRow.holds Tryz.pinned (OpenSpec.upto fencesSequentialSpec)

/-- 'relyguardlaw31.FencesRestrict', WHERE WHAT IT READS IS OF BULK AT MOST 1048576: true; the input reads as it did. -/
def fencesRestrictUptoRow : OpenClaim := { program := "ytcmeofagpechdaagreatdoor", sum := "7c3a9e92b97866f21c1136842b890e6e77f75bc84f9cedbe7ad51110a496c71e", func := "relyguard/relyguardlaw31.FencesRestrict", spec := "fencesRestrict", unfollowed := true, recurses := true, named := ["relyguard/expr.masks"], loops := true, plainKeys := false, apart := false, laid := [("relyguard/expr.masks", laid_relyguard_expr_masks)], narrowed := true }
def FencesRestrictUptoSaid : Prop := fencesRestrictUptoRow.holds Tryz.pinned (OpenSpec.upto fencesRestrictSpec)

end Rows
end Go.Proofs.YtcmeofagpechdaaGreatDoor

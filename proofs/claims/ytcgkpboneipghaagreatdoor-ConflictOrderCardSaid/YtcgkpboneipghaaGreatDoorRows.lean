/-
  NARROWER THAN 'FOR EVERY INPUT', by the rows' own cells (each row's printed sentence says how): ConflictCycles: loops, laid · ConflictModels: loops, laid · ConflictAtomics: loops, laid · ConflictThreads: loops, laid · ConflictOrder: loops, laid.
  DERIVED. THE GIVEN ROWS OF THIS SEAT. 5 by the template 'for every input the law returns true; each argument reads behind the call as it read before'; 0 by the template 'total and deterministic' (their statements: YtcgkpboneipghaaGreatDoorTotals.lean).
  GIVEN WITH THE SEED: the statements are not yours to turn. If you find one false, say at which input.
  Laid BY PROGRAM, IN A SANDBOX (cutbox-rows.mjs): the forced cells as the released guide's own fill.sh prints them over the translation eaedcd99d51cc6ef… (all of the seat's roots in one cut). By AI agents, Wed Nov 11 2026. No macro, syntax, notation, axiom, sorry.
-/
import Derived.Test.YtcgkpboneipghaaGreatDoorChecked
import GoSem.Claim
import GoSem.ClaimJoined
import GoSem.ClaimMapViews
import Derived.JoinedTies
import Derived.KernelRfl
namespace Go.Proofs.YtcgkpboneipghaaGreatDoor
/- THE CELL 'sum', in the pinned program and in every row, IS THE sha256 OF THE DUMP (.gsa) THAT YtcgkpboneipghaaGreatDoorProg.lean LOADS. Nothing in Lean hashes anything: it is a label: what it is worth is what the hold of that sum in a sandbox is worth. -/
noncomputable def Tryz.pinned : Pinned := { name := "ytcgkpboneipghaagreatdoor", sum := "eaedcd99d51cc6ef6934f80c046bbdf33f9bdbeb95816ae6f08d1daaab9a33d0", checked := Tryz.checked }
namespace Rows
def none {H : Type} : Left H := { results := [], args := [] }

/- WHAT THE LISTED PACKAGE-LEVEL VARIABLES READ AS WHEN THE CALL BEGINS. Each datum BY PROGRAM (the guide's laid-datum.mjs) off the statement by which the dump's own 'gosem.cut.vars' lays the variable. In a bare row this is a premise. The card (YtcgkpboneipghaaGreatDoorCards.lean) ties it to the program's text. -/
def laid_relyguard_expr_masks {H : Type} : DataW H := .agg [.lit (.int .i64 0), .lit (.int .i64 1), .lit (.int .i64 3), .lit (.int .i64 7), .lit (.int .i64 15), .lit (.int .i64 31), .lit (.int .i64 63), .lit (.int .i64 127), .lit (.int .i64 255)]

/-- 'relyguardlaw30.ConflictCycles': WHATEVER THE INPUT: true; the input reads as it did. -/
def conflictCyclesSpec : ChangeSpec := { name := "conflictCycles", fn := fun _ => fun
  | [d1, d2] => { results := [.lit (.bool true)], args := [d1, d2] }
  | _ => none }
def conflictCyclesRow : OpenClaim := { program := "ytcgkpboneipghaagreatdoor", sum := "eaedcd99d51cc6ef6934f80c046bbdf33f9bdbeb95816ae6f08d1daaab9a33d0", func := "relyguard/relyguardlaw30.ConflictCycles", spec := "conflictCycles", unfollowed := true, recurses := true, named := ["relyguard/expr.masks"], loops := true, plainKeys := false, apart := false, laid := [("relyguard/expr.masks", laid_relyguard_expr_masks)] }
def ConflictCyclesSaid : Prop := conflictCyclesRow.holds Tryz.pinned (OpenSpec.ofChange conflictCyclesSpec)

/-- ITS FALSE NEIGHBOUR: 'it returns false'. Refute it at one input. -/
def conflictCyclesWrong : ChangeSpec := { name := "conflictCycles", fn := fun _ => fun
  | [d1, d2] => { results := [.lit (.bool false)], args := [d1, d2] }
  | _ => none }
def ConflictCyclesWrongFalsely : Prop := conflictCyclesRow.holds Tryz.pinned (OpenSpec.ofChange conflictCyclesWrong)

/-- 'relyguardlaw30.ConflictModels': WHATEVER THE INPUT: true; the input reads as it did. -/
def conflictModelsSpec : ChangeSpec := { name := "conflictModels", fn := fun _ => fun
  | [d] => { results := [.lit (.bool true)], args := [d] }
  | _ => none }
def conflictModelsRow : OpenClaim := { program := "ytcgkpboneipghaagreatdoor", sum := "eaedcd99d51cc6ef6934f80c046bbdf33f9bdbeb95816ae6f08d1daaab9a33d0", func := "relyguard/relyguardlaw30.ConflictModels", spec := "conflictModels", unfollowed := true, recurses := true, named := ["relyguard/expr.masks"], loops := true, plainKeys := false, apart := false, laid := [("relyguard/expr.masks", laid_relyguard_expr_masks)] }
def ConflictModelsSaid : Prop := conflictModelsRow.holds Tryz.pinned (OpenSpec.ofChange conflictModelsSpec)

/-- ITS FALSE NEIGHBOUR: 'it returns false'. Refute it at one input. -/
def conflictModelsWrong : ChangeSpec := { name := "conflictModels", fn := fun _ => fun
  | [d] => { results := [.lit (.bool false)], args := [d] }
  | _ => none }
def ConflictModelsWrongFalsely : Prop := conflictModelsRow.holds Tryz.pinned (OpenSpec.ofChange conflictModelsWrong)

/-- 'relyguardlaw30.ConflictAtomics': WHATEVER THE INPUT: true; the input reads as it did. -/
def conflictAtomicsSpec : ChangeSpec := { name := "conflictAtomics", fn := fun _ => fun
  | [d] => { results := [.lit (.bool true)], args := [d] }
  | _ => none }
def conflictAtomicsRow : OpenClaim := { program := "ytcgkpboneipghaagreatdoor", sum := "eaedcd99d51cc6ef6934f80c046bbdf33f9bdbeb95816ae6f08d1daaab9a33d0", func := "relyguard/relyguardlaw30.ConflictAtomics", spec := "conflictAtomics", unfollowed := true, recurses := true, named := ["relyguard/expr.masks"], loops := true, plainKeys := false, apart := false, laid := [("relyguard/expr.masks", laid_relyguard_expr_masks)] }
def ConflictAtomicsSaid : Prop := conflictAtomicsRow.holds Tryz.pinned (OpenSpec.ofChange conflictAtomicsSpec)

/-- ITS FALSE NEIGHBOUR: 'it returns false'. Refute it at one input. -/
def conflictAtomicsWrong : ChangeSpec := { name := "conflictAtomics", fn := fun _ => fun
  | [d] => { results := [.lit (.bool false)], args := [d] }
  | _ => none }
def ConflictAtomicsWrongFalsely : Prop := conflictAtomicsRow.holds Tryz.pinned (OpenSpec.ofChange conflictAtomicsWrong)

/-- 'relyguardlaw30.ConflictThreads': WHATEVER THE INPUT: true; the input reads as it did. -/
def conflictThreadsSpec : ChangeSpec := { name := "conflictThreads", fn := fun _ => fun
  | [d1, d2, d3] => { results := [.lit (.bool true)], args := [d1, d2, d3] }
  | _ => none }
def conflictThreadsRow : OpenClaim := { program := "ytcgkpboneipghaagreatdoor", sum := "eaedcd99d51cc6ef6934f80c046bbdf33f9bdbeb95816ae6f08d1daaab9a33d0", func := "relyguard/relyguardlaw30.ConflictThreads", spec := "conflictThreads", unfollowed := true, recurses := true, named := ["relyguard/expr.masks"], loops := true, plainKeys := false, apart := false, laid := [("relyguard/expr.masks", laid_relyguard_expr_masks)] }
def ConflictThreadsSaid : Prop := conflictThreadsRow.holds Tryz.pinned (OpenSpec.ofChange conflictThreadsSpec)

/-- ITS FALSE NEIGHBOUR: 'it returns false'. Refute it at one input. -/
def conflictThreadsWrong : ChangeSpec := { name := "conflictThreads", fn := fun _ => fun
  | [d1, d2, d3] => { results := [.lit (.bool false)], args := [d1, d2, d3] }
  | _ => none }
def ConflictThreadsWrongFalsely : Prop := conflictThreadsRow.holds Tryz.pinned (OpenSpec.ofChange conflictThreadsWrong)

/-- 'relyguardlaw30.ConflictOrder': WHATEVER THE INPUT: true; the input reads as it did. -/
def conflictOrderSpec : ChangeSpec := { name := "conflictOrder", fn := fun _ => fun
  | [d1, d2, d3, d4] => { results := [.lit (.bool true)], args := [d1, d2, d3, d4] }
  | _ => none }
def conflictOrderRow : OpenClaim := { program := "ytcgkpboneipghaagreatdoor", sum := "eaedcd99d51cc6ef6934f80c046bbdf33f9bdbeb95816ae6f08d1daaab9a33d0", func := "relyguard/relyguardlaw30.ConflictOrder", spec := "conflictOrder", unfollowed := true, recurses := true, named := ["relyguard/expr.masks"], loops := true, plainKeys := false, apart := false, laid := [("relyguard/expr.masks", laid_relyguard_expr_masks)] }
def ConflictOrderSaid : Prop := conflictOrderRow.holds Tryz.pinned (OpenSpec.ofChange conflictOrderSpec)

/-- ITS FALSE NEIGHBOUR: 'it returns false'. Refute it at one input. -/
def conflictOrderWrong : ChangeSpec := { name := "conflictOrder", fn := fun _ => fun
  | [d1, d2, d3, d4] => { results := [.lit (.bool false)], args := [d1, d2, d3, d4] }
  | _ => none }
def ConflictOrderWrongFalsely : Prop := conflictOrderRow.holds Tryz.pinned (OpenSpec.ofChange conflictOrderWrong)

/- THE SECOND FORM. 'bulk': how many values and letters a reading holds, each counted each time it is reached (what is shared counts as often as it is met; a slice's spare places count too). A statement '..UptoSaid' is the law's where the arguments, and the package variables that the reading takes, are together of bulk at most 1048576: NARROWER than '..Said'. Prove '..Said' where nothing that the law and all that it calls make is longer than what came in: it says more and counts as full. Else prove '..UptoSaid'. A law counts once. -/
mutual
def uptoBulk {H : Type} : DataW H → Nat
  | .lit (.string bytes) => bytes.length + 1
  | .lit _ => 1
  | .nil => 1
  | .ptr d => uptoBulk d + 1
  | .slice elems spare => uptoBulkAll elems + uptoBulkAll spare + 1
  | .agg parts => uptoBulkAll parts + 1
  | .iface _ d => uptoBulk d + 1
  | .map entries => uptoBulkEntries entries + 1
  | .held _ => 1
def uptoBulkAll {H : Type} : List (DataW H) → Nat
  | [] => 0
  | d :: r => uptoBulk d + uptoBulkAll r
def uptoBulkEntries {H : Type} : List (Lit × DataW H) → Nat
  | [] => 0
  | x :: r => uptoBulkEntry x + uptoBulkEntries r
def uptoBulkEntry {H : Type} : Lit × DataW H → Nat
  | (.string bytes, d) => bytes.length + uptoBulk d + 1
  | (_, d) => uptoBulk d + 1
 end
def uptoSmall : (H : Type) → List (DataW H) → Bool := fun _ ds => decide (uptoBulkAll ds ≤ 1048576)
def OpenSpec.upto (s : _root_.Go.ChangeSpec) : _root_.Go.OpenSpec := { _root_.Go.OpenSpec.ofChange s with cond := some uptoSmall }

/-- 'relyguardlaw30.ConflictCycles', WHERE WHAT IT READS IS OF BULK AT MOST 1048576: true; the input reads as it did. -/
def conflictCyclesUptoRow : OpenClaim := { program := "ytcgkpboneipghaagreatdoor", sum := "eaedcd99d51cc6ef6934f80c046bbdf33f9bdbeb95816ae6f08d1daaab9a33d0", func := "relyguard/relyguardlaw30.ConflictCycles", spec := "conflictCycles", unfollowed := true, recurses := true, named := ["relyguard/expr.masks"], loops := true, plainKeys := false, apart := false, laid := [("relyguard/expr.masks", laid_relyguard_expr_masks)], narrowed := true }
def ConflictCyclesUptoSaid : Prop := conflictCyclesUptoRow.holds Tryz.pinned (OpenSpec.upto conflictCyclesSpec)

/-- 'relyguardlaw30.ConflictModels', WHERE WHAT IT READS IS OF BULK AT MOST 1048576: true; the input reads as it did. -/
def conflictModelsUptoRow : OpenClaim := { program := "ytcgkpboneipghaagreatdoor", sum := "eaedcd99d51cc6ef6934f80c046bbdf33f9bdbeb95816ae6f08d1daaab9a33d0", func := "relyguard/relyguardlaw30.ConflictModels", spec := "conflictModels", unfollowed := true, recurses := true, named := ["relyguard/expr.masks"], loops := true, plainKeys := false, apart := false, laid := [("relyguard/expr.masks", laid_relyguard_expr_masks)], narrowed := true }
def ConflictModelsUptoSaid : Prop := conflictModelsUptoRow.holds Tryz.pinned (OpenSpec.upto conflictModelsSpec)

/-- 'relyguardlaw30.ConflictAtomics', WHERE WHAT IT READS IS OF BULK AT MOST 1048576: true; the input reads as it did. -/
def conflictAtomicsUptoRow : OpenClaim := { program := "ytcgkpboneipghaagreatdoor", sum := "eaedcd99d51cc6ef6934f80c046bbdf33f9bdbeb95816ae6f08d1daaab9a33d0", func := "relyguard/relyguardlaw30.ConflictAtomics", spec := "conflictAtomics", unfollowed := true, recurses := true, named := ["relyguard/expr.masks"], loops := true, plainKeys := false, apart := false, laid := [("relyguard/expr.masks", laid_relyguard_expr_masks)], narrowed := true }
def ConflictAtomicsUptoSaid : Prop := conflictAtomicsUptoRow.holds Tryz.pinned (OpenSpec.upto conflictAtomicsSpec)

/-- 'relyguardlaw30.ConflictThreads', WHERE WHAT IT READS IS OF BULK AT MOST 1048576: true; the input reads as it did. -/
def conflictThreadsUptoRow : OpenClaim := { program := "ytcgkpboneipghaagreatdoor", sum := "eaedcd99d51cc6ef6934f80c046bbdf33f9bdbeb95816ae6f08d1daaab9a33d0", func := "relyguard/relyguardlaw30.ConflictThreads", spec := "conflictThreads", unfollowed := true, recurses := true, named := ["relyguard/expr.masks"], loops := true, plainKeys := false, apart := false, laid := [("relyguard/expr.masks", laid_relyguard_expr_masks)], narrowed := true }
def ConflictThreadsUptoSaid : Prop := conflictThreadsUptoRow.holds Tryz.pinned (OpenSpec.upto conflictThreadsSpec)

/-- 'relyguardlaw30.ConflictOrder', WHERE WHAT IT READS IS OF BULK AT MOST 1048576: true; the input reads as it did. -/
def conflictOrderUptoRow : OpenClaim := { program := "ytcgkpboneipghaagreatdoor", sum := "eaedcd99d51cc6ef6934f80c046bbdf33f9bdbeb95816ae6f08d1daaab9a33d0", func := "relyguard/relyguardlaw30.ConflictOrder", spec := "conflictOrder", unfollowed := true, recurses := true, named := ["relyguard/expr.masks"], loops := true, plainKeys := false, apart := false, laid := [("relyguard/expr.masks", laid_relyguard_expr_masks)], narrowed := true }
def ConflictOrderUptoSaid : Prop := conflictOrderUptoRow.holds Tryz.pinned (OpenSpec.upto conflictOrderSpec)

end Rows
end Go.Proofs.YtcgkpboneipghaaGreatDoor

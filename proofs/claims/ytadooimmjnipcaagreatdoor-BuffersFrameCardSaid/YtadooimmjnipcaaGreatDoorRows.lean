/-
  NARROWER THAN 'FOR EVERY INPUT', by the rows' own cells (each row's printed sentence says how): BuffersChoices: loops, laid · BuffersSequential: loops, laid · BuffersView: loops, laid · BuffersModels: loops, laid · BuffersDraining: loops, laid · BuffersIndependent: loops, laid · BuffersFrame: loops, laid.
  DERIVED. THE GIVEN ROWS OF THIS SEAT. 7 by the template 'for every input the law returns true; each argument reads behind the call as it read before'; 0 by the template 'total and deterministic' (their statements: YtadooimmjnipcaaGreatDoorTotals.lean).
  GIVEN WITH THE SEED: the statements are not yours to turn. If you find one false, say at which input.
  Laid BY PROGRAM, IN A SANDBOX (cutbox-rows.mjs): the forced cells as the released guide's own fill.sh prints them over the translation b8e3eca85763fbf5… (all of the seat's roots in one cut). By AI agents, Wed Nov 11 2026. No macro, syntax, notation, axiom, sorry.
-/
import Derived.Test.YtadooimmjnipcaaGreatDoorChecked
import GoSem.Claim
import GoSem.ClaimJoined
import GoSem.ClaimMapViews
import Derived.JoinedTies
import Derived.KernelRfl
namespace Go.Proofs.YtadooimmjnipcaaGreatDoor
/- THE CELL 'sum', in the pinned program and in every row, IS THE sha256 OF THE DUMP (.gsa) THAT YtadooimmjnipcaaGreatDoorProg.lean LOADS. Nothing in Lean hashes anything: it is a label: what it is worth is what the hold of that sum in a sandbox is worth. -/
noncomputable def Tryz.pinned : Pinned := { name := "ytadooimmjnipcaagreatdoor", sum := "b8e3eca85763fbf58b6513134a36cb6a12e58f45e28f070069d1e3f731a4df9f", checked := Tryz.checked }
namespace Rows
def none {H : Type} : Left H := { results := [], args := [] }

/- WHAT THE LISTED PACKAGE-LEVEL VARIABLES READ AS WHEN THE CALL BEGINS. Each datum BY PROGRAM (the guide's laid-datum.mjs) off the statement by which the dump's own 'gosem.cut.vars' lays the variable. In a bare row this is a premise. The card (YtadooimmjnipcaaGreatDoorCards.lean) ties it to the program's text. -/
def laid_relyguard_expr_masks {H : Type} : DataW H := .agg [.lit (.int .i64 0), .lit (.int .i64 1), .lit (.int .i64 3), .lit (.int .i64 7), .lit (.int .i64 15), .lit (.int .i64 31), .lit (.int .i64 63), .lit (.int .i64 127), .lit (.int .i64 255)]

/-- 'relyguardlaw12.BuffersChoices': WHATEVER THE INPUT: true; the input reads as it did. -/
def buffersChoicesSpec : ChangeSpec := { name := "buffersChoices", fn := fun _ => fun
  | [d1, d2, d3, d4] => { results := [.lit (.bool true)], args := [d1, d2, d3, d4] }
  | _ => none }
def buffersChoicesRow : OpenClaim := { program := "ytadooimmjnipcaagreatdoor", sum := "b8e3eca85763fbf58b6513134a36cb6a12e58f45e28f070069d1e3f731a4df9f", func := "relyguard/relyguardlaw12.BuffersChoices", spec := "buffersChoices", unfollowed := true, recurses := true, named := ["relyguard/expr.masks"], loops := true, apart := false, laid := [("relyguard/expr.masks", laid_relyguard_expr_masks)] }
def BuffersChoicesSaid : Prop := buffersChoicesRow.holds Tryz.pinned (OpenSpec.ofChange buffersChoicesSpec)

/-- ITS FALSE NEIGHBOUR: 'it returns false'. Refute it at one input. -/
def buffersChoicesWrong : ChangeSpec := { name := "buffersChoices", fn := fun _ => fun
  | [d1, d2, d3, d4] => { results := [.lit (.bool false)], args := [d1, d2, d3, d4] }
  | _ => none }
def BuffersChoicesWrongFalsely : Prop := buffersChoicesRow.holds Tryz.pinned (OpenSpec.ofChange buffersChoicesWrong)

/-- 'relyguardlaw12.BuffersSequential': WHATEVER THE INPUT: true; the input reads as it did. -/
def buffersSequentialSpec : ChangeSpec := { name := "buffersSequential", fn := fun _ => fun
  | [d1, d2, d3] => { results := [.lit (.bool true)], args := [d1, d2, d3] }
  | _ => none }
def buffersSequentialRow : OpenClaim := { program := "ytadooimmjnipcaagreatdoor", sum := "b8e3eca85763fbf58b6513134a36cb6a12e58f45e28f070069d1e3f731a4df9f", func := "relyguard/relyguardlaw12.BuffersSequential", spec := "buffersSequential", unfollowed := true, recurses := true, named := ["relyguard/expr.masks"], loops := true, apart := false, laid := [("relyguard/expr.masks", laid_relyguard_expr_masks)] }
def BuffersSequentialSaid : Prop := buffersSequentialRow.holds Tryz.pinned (OpenSpec.ofChange buffersSequentialSpec)

/-- ITS FALSE NEIGHBOUR: 'it returns false'. Refute it at one input. -/
def buffersSequentialWrong : ChangeSpec := { name := "buffersSequential", fn := fun _ => fun
  | [d1, d2, d3] => { results := [.lit (.bool false)], args := [d1, d2, d3] }
  | _ => none }
def BuffersSequentialWrongFalsely : Prop := buffersSequentialRow.holds Tryz.pinned (OpenSpec.ofChange buffersSequentialWrong)

/-- 'relyguardlaw12.BuffersView': WHATEVER THE INPUT: true; the input reads as it did. -/
def buffersViewSpec : ChangeSpec := { name := "buffersView", fn := fun _ => fun
  | [d1, d2, d3, d4] => { results := [.lit (.bool true)], args := [d1, d2, d3, d4] }
  | _ => none }
def buffersViewRow : OpenClaim := { program := "ytadooimmjnipcaagreatdoor", sum := "b8e3eca85763fbf58b6513134a36cb6a12e58f45e28f070069d1e3f731a4df9f", func := "relyguard/relyguardlaw12.BuffersView", spec := "buffersView", unfollowed := true, recurses := true, named := ["relyguard/expr.masks"], loops := true, apart := false, laid := [("relyguard/expr.masks", laid_relyguard_expr_masks)] }
def BuffersViewSaid : Prop := buffersViewRow.holds Tryz.pinned (OpenSpec.ofChange buffersViewSpec)

/-- ITS FALSE NEIGHBOUR: 'it returns false'. Refute it at one input. -/
def buffersViewWrong : ChangeSpec := { name := "buffersView", fn := fun _ => fun
  | [d1, d2, d3, d4] => { results := [.lit (.bool false)], args := [d1, d2, d3, d4] }
  | _ => none }
def BuffersViewWrongFalsely : Prop := buffersViewRow.holds Tryz.pinned (OpenSpec.ofChange buffersViewWrong)

/-- 'relyguardlaw12.BuffersModels': WHATEVER THE INPUT: true; the input reads as it did. -/
def buffersModelsSpec : ChangeSpec := { name := "buffersModels", fn := fun _ => fun
  | [d1, d2] => { results := [.lit (.bool true)], args := [d1, d2] }
  | _ => none }
def buffersModelsRow : OpenClaim := { program := "ytadooimmjnipcaagreatdoor", sum := "b8e3eca85763fbf58b6513134a36cb6a12e58f45e28f070069d1e3f731a4df9f", func := "relyguard/relyguardlaw12.BuffersModels", spec := "buffersModels", unfollowed := true, recurses := true, named := ["relyguard/expr.masks"], loops := true, apart := false, laid := [("relyguard/expr.masks", laid_relyguard_expr_masks)] }
def BuffersModelsSaid : Prop := buffersModelsRow.holds Tryz.pinned (OpenSpec.ofChange buffersModelsSpec)

/-- ITS FALSE NEIGHBOUR: 'it returns false'. Refute it at one input. -/
def buffersModelsWrong : ChangeSpec := { name := "buffersModels", fn := fun _ => fun
  | [d1, d2] => { results := [.lit (.bool false)], args := [d1, d2] }
  | _ => none }
def BuffersModelsWrongFalsely : Prop := buffersModelsRow.holds Tryz.pinned (OpenSpec.ofChange buffersModelsWrong)

/-- 'relyguardlaw12.BuffersDraining': WHATEVER THE INPUT: true; the input reads as it did. -/
def buffersDrainingSpec : ChangeSpec := { name := "buffersDraining", fn := fun _ => fun
  | [d1, d2, d3, d4, d5] => { results := [.lit (.bool true)], args := [d1, d2, d3, d4, d5] }
  | _ => none }
def buffersDrainingRow : OpenClaim := { program := "ytadooimmjnipcaagreatdoor", sum := "b8e3eca85763fbf58b6513134a36cb6a12e58f45e28f070069d1e3f731a4df9f", func := "relyguard/relyguardlaw12.BuffersDraining", spec := "buffersDraining", unfollowed := true, recurses := true, named := ["relyguard/expr.masks"], loops := true, apart := false, laid := [("relyguard/expr.masks", laid_relyguard_expr_masks)] }
def BuffersDrainingSaid : Prop := buffersDrainingRow.holds Tryz.pinned (OpenSpec.ofChange buffersDrainingSpec)

/-- ITS FALSE NEIGHBOUR: 'it returns false'. Refute it at one input. -/
def buffersDrainingWrong : ChangeSpec := { name := "buffersDraining", fn := fun _ => fun
  | [d1, d2, d3, d4, d5] => { results := [.lit (.bool false)], args := [d1, d2, d3, d4, d5] }
  | _ => none }
def BuffersDrainingWrongFalsely : Prop := buffersDrainingRow.holds Tryz.pinned (OpenSpec.ofChange buffersDrainingWrong)

/-- 'relyguardlaw12.BuffersIndependent': WHATEVER THE INPUT: true; the input reads as it did. -/
def buffersIndependentSpec : ChangeSpec := { name := "buffersIndependent", fn := fun _ => fun
  | [d1, d2, d3] => { results := [.lit (.bool true)], args := [d1, d2, d3] }
  | _ => none }
def buffersIndependentRow : OpenClaim := { program := "ytadooimmjnipcaagreatdoor", sum := "b8e3eca85763fbf58b6513134a36cb6a12e58f45e28f070069d1e3f731a4df9f", func := "relyguard/relyguardlaw12.BuffersIndependent", spec := "buffersIndependent", unfollowed := true, recurses := true, named := ["relyguard/expr.masks"], loops := true, apart := false, laid := [("relyguard/expr.masks", laid_relyguard_expr_masks)] }
def BuffersIndependentSaid : Prop := buffersIndependentRow.holds Tryz.pinned (OpenSpec.ofChange buffersIndependentSpec)

/-- ITS FALSE NEIGHBOUR: 'it returns false'. Refute it at one input. -/
def buffersIndependentWrong : ChangeSpec := { name := "buffersIndependent", fn := fun _ => fun
  | [d1, d2, d3] => { results := [.lit (.bool false)], args := [d1, d2, d3] }
  | _ => none }
def BuffersIndependentWrongFalsely : Prop := buffersIndependentRow.holds Tryz.pinned (OpenSpec.ofChange buffersIndependentWrong)

/-- 'relyguardlaw12.BuffersFrame': WHATEVER THE INPUT: true; the input reads as it did. -/
def buffersFrameSpec : ChangeSpec := { name := "buffersFrame", fn := fun _ => fun
  | [d1, d2, d3, d4] => { results := [.lit (.bool true)], args := [d1, d2, d3, d4] }
  | _ => none }
def buffersFrameRow : OpenClaim := { program := "ytadooimmjnipcaagreatdoor", sum := "b8e3eca85763fbf58b6513134a36cb6a12e58f45e28f070069d1e3f731a4df9f", func := "relyguard/relyguardlaw12.BuffersFrame", spec := "buffersFrame", unfollowed := true, recurses := true, named := ["relyguard/expr.masks"], loops := true, apart := false, laid := [("relyguard/expr.masks", laid_relyguard_expr_masks)] }
def BuffersFrameSaid : Prop := buffersFrameRow.holds Tryz.pinned (OpenSpec.ofChange buffersFrameSpec)

/-- ITS FALSE NEIGHBOUR: 'it returns false'. Refute it at one input. -/
def buffersFrameWrong : ChangeSpec := { name := "buffersFrame", fn := fun _ => fun
  | [d1, d2, d3, d4] => { results := [.lit (.bool false)], args := [d1, d2, d3, d4] }
  | _ => none }
def BuffersFrameWrongFalsely : Prop := buffersFrameRow.holds Tryz.pinned (OpenSpec.ofChange buffersFrameWrong)

/- THE SECOND FORM. 'bulk': how many values and letters a reading holds, each counted each time it is reached (what is shared counts as often as it is met; a slice's spare places count too). A statement '..UptoSaid' is the law's where the arguments, and the package variables that the reading takes, are together of bulk at most 1048576: NARROWER than '..Said'. Prove '..Said' where nothing that the law and all that it calls make is longer than what came in: it says more and counts as full. Else prove '..UptoSaid'. A law counts once. -/
mutual
def uptoBulk {H : Type} : DataW H → Nat
  | .lit (.string bytes) => bytes.length + 1
  | .lit _ => 1
  | .nil => 1
  | .ptr d => uptoBulk d + 1
  | .slice elems spare => uptoBulkAll elems + uptoBulkAll spare + 1
  | .agg parts => uptoBulkAll parts + 1
  | .iface _ d => uptoBulk d + 1
  | .map entries => uptoBulkEntries entries + 1
  | .held _ => 1
def uptoBulkAll {H : Type} : List (DataW H) → Nat
  | [] => 0
  | d :: r => uptoBulk d + uptoBulkAll r
def uptoBulkEntries {H : Type} : List (Lit × DataW H) → Nat
  | [] => 0
  | x :: r => uptoBulkEntry x + uptoBulkEntries r
def uptoBulkEntry {H : Type} : Lit × DataW H → Nat
  | (.string bytes, d) => bytes.length + uptoBulk d + 1
  | (_, d) => uptoBulk d + 1
 end
def uptoSmall : (H : Type) → List (DataW H) → Bool := fun _ ds => decide (uptoBulkAll ds ≤ 1048576)
def OpenSpec.upto (s : _root_.Go.ChangeSpec) : _root_.Go.OpenSpec := { _root_.Go.OpenSpec.ofChange s with cond := some uptoSmall }

/-- 'relyguardlaw12.BuffersChoices', WHERE WHAT IT READS IS OF BULK AT MOST 1048576: true; the input reads as it did. -/
def buffersChoicesUptoRow : OpenClaim := { program := "ytadooimmjnipcaagreatdoor", sum := "b8e3eca85763fbf58b6513134a36cb6a12e58f45e28f070069d1e3f731a4df9f", func := "relyguard/relyguardlaw12.BuffersChoices", spec := "buffersChoices", unfollowed := true, recurses := true, named := ["relyguard/expr.masks"], loops := true, apart := false, laid := [("relyguard/expr.masks", laid_relyguard_expr_masks)], narrowed := true }
def BuffersChoicesUptoSaid : Prop := buffersChoicesUptoRow.holds Tryz.pinned (OpenSpec.upto buffersChoicesSpec)

/-- 'relyguardlaw12.BuffersSequential', WHERE WHAT IT READS IS OF BULK AT MOST 1048576: true; the input reads as it did. -/
def buffersSequentialUptoRow : OpenClaim := { program := "ytadooimmjnipcaagreatdoor", sum := "b8e3eca85763fbf58b6513134a36cb6a12e58f45e28f070069d1e3f731a4df9f", func := "relyguard/relyguardlaw12.BuffersSequential", spec := "buffersSequential", unfollowed := true, recurses := true, named := ["relyguard/expr.masks"], loops := true, apart := false, laid := [("relyguard/expr.masks", laid_relyguard_expr_masks)], narrowed := true }
def BuffersSequentialUptoSaid : Prop := buffersSequentialUptoRow.holds Tryz.pinned (OpenSpec.upto buffersSequentialSpec)

/-- 'relyguardlaw12.BuffersView', WHERE WHAT IT READS IS OF BULK AT MOST 1048576: true; the input reads as it did. -/
def buffersViewUptoRow : OpenClaim := { program := "ytadooimmjnipcaagreatdoor", sum := "b8e3eca85763fbf58b6513134a36cb6a12e58f45e28f070069d1e3f731a4df9f", func := "relyguard/relyguardlaw12.BuffersView", spec := "buffersView", unfollowed := true, recurses := true, named := ["relyguard/expr.masks"], loops := true, apart := false, laid := [("relyguard/expr.masks", laid_relyguard_expr_masks)], narrowed := true }
def BuffersViewUptoSaid : Prop := buffersViewUptoRow.holds Tryz.pinned (OpenSpec.upto buffersViewSpec)

/-- 'relyguardlaw12.BuffersModels', WHERE WHAT IT READS IS OF BULK AT MOST 1048576: true; the input reads as it did. -/
def buffersModelsUptoRow : OpenClaim := { program := "ytadooimmjnipcaagreatdoor", sum := "b8e3eca85763fbf58b6513134a36cb6a12e58f45e28f070069d1e3f731a4df9f", func := "relyguard/relyguardlaw12.BuffersModels", spec := "buffersModels", unfollowed := true, recurses := true, named := ["relyguard/expr.masks"], loops := true, apart := false, laid := [("relyguard/expr.masks", laid_relyguard_expr_masks)], narrowed := true }
def BuffersModelsUptoSaid : Prop := buffersModelsUptoRow.holds Tryz.pinned (OpenSpec.upto buffersModelsSpec)

/-- 'relyguardlaw12.BuffersDraining', WHERE WHAT IT READS IS OF BULK AT MOST 1048576: true; the input reads as it did. -/
def buffersDrainingUptoRow : OpenClaim := { program := "ytadooimmjnipcaagreatdoor", sum := "b8e3eca85763fbf58b6513134a36cb6a12e58f45e28f070069d1e3f731a4df9f", func := "relyguard/relyguardlaw12.BuffersDraining", spec := "buffersDraining", unfollowed := true, recurses := true, named := ["relyguard/expr.masks"], loops := true, apart := false, laid := [("relyguard/expr.masks", laid_relyguard_expr_masks)], narrowed := true }
def BuffersDrainingUptoSaid : Prop := buffersDrainingUptoRow.holds Tryz.pinned (OpenSpec.upto buffersDrainingSpec)

/-- 'relyguardlaw12.BuffersIndependent', WHERE WHAT IT READS IS OF BULK AT MOST 1048576: true; the input reads as it did. -/
def buffersIndependentUptoRow : OpenClaim := { program := "ytadooimmjnipcaagreatdoor", sum := "b8e3eca85763fbf58b6513134a36cb6a12e58f45e28f070069d1e3f731a4df9f", func := "relyguard/relyguardlaw12.BuffersIndependent", spec := "buffersIndependent", unfollowed := true, recurses := true, named := ["relyguard/expr.masks"], loops := true, apart := false, laid := [("relyguard/expr.masks", laid_relyguard_expr_masks)], narrowed := true }
def BuffersIndependentUptoSaid : Prop := buffersIndependentUptoRow.holds Tryz.pinned (OpenSpec.upto buffersIndependentSpec)

/-- 'relyguardlaw12.BuffersFrame', WHERE WHAT IT READS IS OF BULK AT MOST 1048576: true; the input reads as it did. -/
def buffersFrameUptoRow : OpenClaim := { program := "ytadooimmjnipcaagreatdoor", sum := "b8e3eca85763fbf58b6513134a36cb6a12e58f45e28f070069d1e3f731a4df9f", func := "relyguard/relyguardlaw12.BuffersFrame", spec := "buffersFrame", unfollowed := true, recurses := true, named := ["relyguard/expr.masks"], loops := true, apart := false, laid := [("relyguard/expr.masks", laid_relyguard_expr_masks)], narrowed := true }
def BuffersFrameUptoSaid : Prop := buffersFrameUptoRow.holds Tryz.pinned (OpenSpec.upto buffersFrameSpec)

end Rows
end Go.Proofs.YtadooimmjnipcaaGreatDoor

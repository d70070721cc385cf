/-
  NARROWER THAN 'FOR EVERY INPUT', by the rows' own cells (each row's printed sentence says how): TerminationBound: loops, laid · TerminationDescent: loops, laid · TerminationCounting: loops, laid · TerminationLassos: loops, laid · TerminationNoLasso: loops, laid · TerminationLimits: loops, laid.
  DERIVED. THE GIVEN ROWS OF THIS SEAT. 6 by the template 'for every input the law returns true; each argument reads behind the call as it read before'; 0 by the template 'total and deterministic' (their statements: YtaiokglcgiemnaaGreatDoorTotals.lean).
  GIVEN WITH THE SEED: the statements are not yours to turn. If you find one false, say at which input.
  Laid BY PROGRAM, IN A SANDBOX (cutbox-rows.mjs): the forced cells as the released guide's own fill.sh prints them over the translation f5ba1c3ebfa4a913… (all of the seat's roots in one cut). By AI agents, Wed Nov 11 2026. No macro, syntax, notation, axiom, sorry.
-/
import Derived.Test.YtaiokglcgiemnaaGreatDoorChecked
import GoSem.Claim
import GoSem.ClaimJoined
import GoSem.ClaimMapViews
import Derived.JoinedTies
import Derived.KernelRfl
namespace Go.Proofs.YtaiokglcgiemnaaGreatDoor
/- THE CELL 'sum', in the pinned program and in every row, IS THE sha256 OF THE DUMP (.gsa) THAT YtaiokglcgiemnaaGreatDoorProg.lean LOADS. Nothing in Lean hashes anything: it is a label: what it is worth is what the hold of that sum in a sandbox is worth. -/
noncomputable def Tryz.pinned : Pinned := { name := "ytaiokglcgiemnaagreatdoor", sum := "f5ba1c3ebfa4a913e93905c2b5dd691144d9681a1418f7fe45f7d34df4e82738", checked := Tryz.checked }
namespace Rows
def none {H : Type} : Left H := { results := [], args := [] }

/- WHAT THE LISTED PACKAGE-LEVEL VARIABLES READ AS WHEN THE CALL BEGINS. Each datum BY PROGRAM (the guide's laid-datum.mjs) off the statement by which the dump's own 'gosem.cut.vars' lays the variable. In a bare row this is a premise. The card (YtaiokglcgiemnaaGreatDoorCards.lean) ties it to the program's text. -/
def laid_math_bits_deBruijn32tab {H : Type} : DataW H := .agg [.lit (.int .u8 0), .lit (.int .u8 1), .lit (.int .u8 28), .lit (.int .u8 2), .lit (.int .u8 29), .lit (.int .u8 14), .lit (.int .u8 24), .lit (.int .u8 3), .lit (.int .u8 30), .lit (.int .u8 22), .lit (.int .u8 20), .lit (.int .u8 15), .lit (.int .u8 25), .lit (.int .u8 17), .lit (.int .u8 4), .lit (.int .u8 8), .lit (.int .u8 31), .lit (.int .u8 27), .lit (.int .u8 13), .lit (.int .u8 23), .lit (.int .u8 21), .lit (.int .u8 19), .lit (.int .u8 16), .lit (.int .u8 7), .lit (.int .u8 26), .lit (.int .u8 12), .lit (.int .u8 18), .lit (.int .u8 6), .lit (.int .u8 11), .lit (.int .u8 5), .lit (.int .u8 10), .lit (.int .u8 9)]
def laid_math_bits_deBruijn64tab {H : Type} : DataW H := .agg [.lit (.int .u8 0), .lit (.int .u8 1), .lit (.int .u8 56), .lit (.int .u8 2), .lit (.int .u8 57), .lit (.int .u8 49), .lit (.int .u8 28), .lit (.int .u8 3), .lit (.int .u8 61), .lit (.int .u8 58), .lit (.int .u8 42), .lit (.int .u8 50), .lit (.int .u8 38), .lit (.int .u8 29), .lit (.int .u8 17), .lit (.int .u8 4), .lit (.int .u8 62), .lit (.int .u8 47), .lit (.int .u8 59), .lit (.int .u8 36), .lit (.int .u8 45), .lit (.int .u8 43), .lit (.int .u8 51), .lit (.int .u8 22), .lit (.int .u8 53), .lit (.int .u8 39), .lit (.int .u8 33), .lit (.int .u8 30), .lit (.int .u8 24), .lit (.int .u8 18), .lit (.int .u8 12), .lit (.int .u8 5), .lit (.int .u8 63), .lit (.int .u8 55), .lit (.int .u8 48), .lit (.int .u8 27), .lit (.int .u8 60), .lit (.int .u8 41), .lit (.int .u8 37), .lit (.int .u8 16), .lit (.int .u8 46), .lit (.int .u8 35), .lit (.int .u8 44), .lit (.int .u8 21), .lit (.int .u8 52), .lit (.int .u8 32), .lit (.int .u8 23), .lit (.int .u8 11), .lit (.int .u8 54), .lit (.int .u8 26), .lit (.int .u8 40), .lit (.int .u8 15), .lit (.int .u8 34), .lit (.int .u8 20), .lit (.int .u8 31), .lit (.int .u8 10), .lit (.int .u8 25), .lit (.int .u8 14), .lit (.int .u8 19), .lit (.int .u8 9), .lit (.int .u8 13), .lit (.int .u8 8), .lit (.int .u8 7), .lit (.int .u8 6)]
def laid_internal_strconv_uint64pow10 {H : Type} : DataW H := .agg [.lit (.int .u64 1), .lit (.int .u64 10), .lit (.int .u64 100), .lit (.int .u64 1000), .lit (.int .u64 10000), .lit (.int .u64 100000), .lit (.int .u64 1000000), .lit (.int .u64 10000000), .lit (.int .u64 100000000), .lit (.int .u64 1000000000), .lit (.int .u64 10000000000), .lit (.int .u64 100000000000), .lit (.int .u64 1000000000000), .lit (.int .u64 10000000000000), .lit (.int .u64 100000000000000), .lit (.int .u64 1000000000000000), .lit (.int .u64 10000000000000000), .lit (.int .u64 100000000000000000), .lit (.int .u64 1000000000000000000), .lit (.int .u64 10000000000000000000)]
def laid_relyguard_expr_masks {H : Type} : DataW H := .agg [.lit (.int .i64 0), .lit (.int .i64 1), .lit (.int .i64 3), .lit (.int .i64 7), .lit (.int .i64 15), .lit (.int .i64 31), .lit (.int .i64 63), .lit (.int .i64 127), .lit (.int .i64 255)]

/-- 'relyguardlaw36.TerminationBound': WHATEVER THE INPUT: true; the input reads as it did. -/
def terminationBoundSpec : ChangeSpec := { name := "terminationBound", fn := fun _ => fun
  | [d1, d2, d3, d4] => { results := [.lit (.bool true)], args := [d1, d2, d3, d4] }
  | _ => none }
def terminationBoundRow : OpenClaim := { program := "ytaiokglcgiemnaagreatdoor", sum := "f5ba1c3ebfa4a913e93905c2b5dd691144d9681a1418f7fe45f7d34df4e82738", func := "relyguard/relyguardlaw36.TerminationBound", spec := "terminationBound", inPlace := ["internal/abi.NoEscape", "internal/bytealg.MakeNoZero"], unfollowed := true, recurses := true, named := ["relyguard/expr.masks", "internal/strconv.uint64pow10", "math/bits.deBruijn32tab", "math/bits.deBruijn64tab"], loops := true, apart := false, laid := [("math/bits.deBruijn32tab", laid_math_bits_deBruijn32tab), ("math/bits.deBruijn64tab", laid_math_bits_deBruijn64tab), ("internal/strconv.uint64pow10", laid_internal_strconv_uint64pow10), ("relyguard/expr.masks", laid_relyguard_expr_masks)] }
def TerminationBoundSaid : Prop := terminationBoundRow.holds Tryz.pinned (OpenSpec.ofChange terminationBoundSpec)

/-- ITS FALSE NEIGHBOUR: 'it returns false'. Refute it at one input. -/
def terminationBoundWrong : ChangeSpec := { name := "terminationBound", fn := fun _ => fun
  | [d1, d2, d3, d4] => { results := [.lit (.bool false)], args := [d1, d2, d3, d4] }
  | _ => none }
def TerminationBoundWrongFalsely : Prop := terminationBoundRow.holds Tryz.pinned (OpenSpec.ofChange terminationBoundWrong)

/-- 'relyguardlaw36.TerminationDescent': WHATEVER THE INPUT: true; the input reads as it did. -/
def terminationDescentSpec : ChangeSpec := { name := "terminationDescent", fn := fun _ => fun
  | [d1, d2, d3, d4, d5] => { results := [.lit (.bool true)], args := [d1, d2, d3, d4, d5] }
  | _ => none }
def terminationDescentRow : OpenClaim := { program := "ytaiokglcgiemnaagreatdoor", sum := "f5ba1c3ebfa4a913e93905c2b5dd691144d9681a1418f7fe45f7d34df4e82738", func := "relyguard/relyguardlaw36.TerminationDescent", spec := "terminationDescent", inPlace := ["internal/abi.NoEscape", "internal/bytealg.MakeNoZero"], unfollowed := true, recurses := true, named := ["relyguard/expr.masks", "internal/strconv.uint64pow10", "math/bits.deBruijn32tab", "math/bits.deBruijn64tab"], loops := true, apart := false, laid := [("math/bits.deBruijn32tab", laid_math_bits_deBruijn32tab), ("math/bits.deBruijn64tab", laid_math_bits_deBruijn64tab), ("internal/strconv.uint64pow10", laid_internal_strconv_uint64pow10), ("relyguard/expr.masks", laid_relyguard_expr_masks)] }
def TerminationDescentSaid : Prop := terminationDescentRow.holds Tryz.pinned (OpenSpec.ofChange terminationDescentSpec)

/-- ITS FALSE NEIGHBOUR: 'it returns false'. Refute it at one input. -/
def terminationDescentWrong : ChangeSpec := { name := "terminationDescent", fn := fun _ => fun
  | [d1, d2, d3, d4, d5] => { results := [.lit (.bool false)], args := [d1, d2, d3, d4, d5] }
  | _ => none }
def TerminationDescentWrongFalsely : Prop := terminationDescentRow.holds Tryz.pinned (OpenSpec.ofChange terminationDescentWrong)

/-- 'relyguardlaw36.TerminationCounting': WHATEVER THE INPUT: true; the input reads as it did. -/
def terminationCountingSpec : ChangeSpec := { name := "terminationCounting", fn := fun _ => fun
  | [d1, d2, d3, d4, d5] => { results := [.lit (.bool true)], args := [d1, d2, d3, d4, d5] }
  | _ => none }
def terminationCountingRow : OpenClaim := { program := "ytaiokglcgiemnaagreatdoor", sum := "f5ba1c3ebfa4a913e93905c2b5dd691144d9681a1418f7fe45f7d34df4e82738", func := "relyguard/relyguardlaw36.TerminationCounting", spec := "terminationCounting", inPlace := ["internal/abi.NoEscape", "internal/bytealg.MakeNoZero"], unfollowed := true, recurses := true, named := ["relyguard/expr.masks", "internal/strconv.uint64pow10", "math/bits.deBruijn32tab", "math/bits.deBruijn64tab"], loops := true, apart := false, laid := [("math/bits.deBruijn32tab", laid_math_bits_deBruijn32tab), ("math/bits.deBruijn64tab", laid_math_bits_deBruijn64tab), ("internal/strconv.uint64pow10", laid_internal_strconv_uint64pow10), ("relyguard/expr.masks", laid_relyguard_expr_masks)] }
def TerminationCountingSaid : Prop := terminationCountingRow.holds Tryz.pinned (OpenSpec.ofChange terminationCountingSpec)

/-- ITS FALSE NEIGHBOUR: 'it returns false'. Refute it at one input. -/
def terminationCountingWrong : ChangeSpec := { name := "terminationCounting", fn := fun _ => fun
  | [d1, d2, d3, d4, d5] => { results := [.lit (.bool false)], args := [d1, d2, d3, d4, d5] }
  | _ => none }
def TerminationCountingWrongFalsely : Prop := terminationCountingRow.holds Tryz.pinned (OpenSpec.ofChange terminationCountingWrong)

/-- 'relyguardlaw36.TerminationLassos': WHATEVER THE INPUT: true; the input reads as it did. -/
def terminationLassosSpec : ChangeSpec := { name := "terminationLassos", fn := fun _ => fun
  | [d1, d2, d3, d4] => { results := [.lit (.bool true)], args := [d1, d2, d3, d4] }
  | _ => none }
def terminationLassosRow : OpenClaim := { program := "ytaiokglcgiemnaagreatdoor", sum := "f5ba1c3ebfa4a913e93905c2b5dd691144d9681a1418f7fe45f7d34df4e82738", func := "relyguard/relyguardlaw36.TerminationLassos", spec := "terminationLassos", inPlace := ["internal/abi.NoEscape", "internal/bytealg.MakeNoZero"], unfollowed := true, recurses := true, named := ["relyguard/expr.masks", "internal/strconv.uint64pow10", "math/bits.deBruijn32tab", "math/bits.deBruijn64tab"], loops := true, apart := false, laid := [("math/bits.deBruijn32tab", laid_math_bits_deBruijn32tab), ("math/bits.deBruijn64tab", laid_math_bits_deBruijn64tab), ("internal/strconv.uint64pow10", laid_internal_strconv_uint64pow10), ("relyguard/expr.masks", laid_relyguard_expr_masks)] }
def TerminationLassosSaid : Prop := terminationLassosRow.holds Tryz.pinned (OpenSpec.ofChange terminationLassosSpec)

/-- ITS FALSE NEIGHBOUR: 'it returns false'. Refute it at one input. -/
def terminationLassosWrong : ChangeSpec := { name := "terminationLassos", fn := fun _ => fun
  | [d1, d2, d3, d4] => { results := [.lit (.bool false)], args := [d1, d2, d3, d4] }
  | _ => none }
def TerminationLassosWrongFalsely : Prop := terminationLassosRow.holds Tryz.pinned (OpenSpec.ofChange terminationLassosWrong)

/-- 'relyguardlaw36.TerminationNoLasso': WHATEVER THE INPUT: true; the input reads as it did. -/
def terminationNoLassoSpec : ChangeSpec := { name := "terminationNoLasso", fn := fun _ => fun
  | [d1, d2, d3, d4] => { results := [.lit (.bool true)], args := [d1, d2, d3, d4] }
  | _ => none }
def terminationNoLassoRow : OpenClaim := { program := "ytaiokglcgiemnaagreatdoor", sum := "f5ba1c3ebfa4a913e93905c2b5dd691144d9681a1418f7fe45f7d34df4e82738", func := "relyguard/relyguardlaw36.TerminationNoLasso", spec := "terminationNoLasso", inPlace := ["internal/abi.NoEscape", "internal/bytealg.MakeNoZero"], unfollowed := true, recurses := true, named := ["relyguard/expr.masks", "internal/strconv.uint64pow10", "math/bits.deBruijn32tab", "math/bits.deBruijn64tab"], loops := true, apart := false, laid := [("math/bits.deBruijn32tab", laid_math_bits_deBruijn32tab), ("math/bits.deBruijn64tab", laid_math_bits_deBruijn64tab), ("internal/strconv.uint64pow10", laid_internal_strconv_uint64pow10), ("relyguard/expr.masks", laid_relyguard_expr_masks)] }
def TerminationNoLassoSaid : Prop := terminationNoLassoRow.holds Tryz.pinned (OpenSpec.ofChange terminationNoLassoSpec)

/-- ITS FALSE NEIGHBOUR: 'it returns false'. Refute it at one input. -/
def terminationNoLassoWrong : ChangeSpec := { name := "terminationNoLasso", fn := fun _ => fun
  | [d1, d2, d3, d4] => { results := [.lit (.bool false)], args := [d1, d2, d3, d4] }
  | _ => none }
def TerminationNoLassoWrongFalsely : Prop := terminationNoLassoRow.holds Tryz.pinned (OpenSpec.ofChange terminationNoLassoWrong)

/-- 'relyguardlaw36.TerminationLimits': WHATEVER THE INPUT: true; the input reads as it did. -/
def terminationLimitsSpec : ChangeSpec := { name := "terminationLimits", fn := fun _ => fun
  | [d1, d2, d3, d4, d5] => { results := [.lit (.bool true)], args := [d1, d2, d3, d4, d5] }
  | _ => none }
def terminationLimitsRow : OpenClaim := { program := "ytaiokglcgiemnaagreatdoor", sum := "f5ba1c3ebfa4a913e93905c2b5dd691144d9681a1418f7fe45f7d34df4e82738", func := "relyguard/relyguardlaw36.TerminationLimits", spec := "terminationLimits", inPlace := ["internal/abi.NoEscape", "internal/bytealg.MakeNoZero"], unfollowed := true, recurses := true, named := ["relyguard/expr.masks", "internal/strconv.uint64pow10", "math/bits.deBruijn32tab", "math/bits.deBruijn64tab"], loops := true, apart := false, laid := [("math/bits.deBruijn32tab", laid_math_bits_deBruijn32tab), ("math/bits.deBruijn64tab", laid_math_bits_deBruijn64tab), ("internal/strconv.uint64pow10", laid_internal_strconv_uint64pow10), ("relyguard/expr.masks", laid_relyguard_expr_masks)] }
def TerminationLimitsSaid : Prop := terminationLimitsRow.holds Tryz.pinned (OpenSpec.ofChange terminationLimitsSpec)

/-- ITS FALSE NEIGHBOUR: 'it returns false'. Refute it at one input. -/
def terminationLimitsWrong : ChangeSpec := { name := "terminationLimits", fn := fun _ => fun
  | [d1, d2, d3, d4, d5] => { results := [.lit (.bool false)], args := [d1, d2, d3, d4, d5] }
  | _ => none }
def TerminationLimitsWrongFalsely : Prop := terminationLimitsRow.holds Tryz.pinned (OpenSpec.ofChange terminationLimitsWrong)

/- THE SECOND FORM. 'bulk': how many values and letters a reading holds, each counted each time it is reached (what is shared counts as often as it is met; a slice's spare places count too). A statement '..UptoSaid' is the law's where the arguments, and the package variables that the reading takes, are together of bulk at most 1048576: NARROWER than '..Said'. Prove '..Said' where nothing that the law and all that it calls make is longer than what came in: it says more and counts as full. Else prove '..UptoSaid'. A law counts once. -/
mutual
def uptoBulk {H : Type} : DataW H → Nat
  | .lit (.string bytes) => bytes.length + 1
  | .lit _ => 1
  | .nil => 1
  | .ptr d => uptoBulk d + 1
  | .slice elems spare => uptoBulkAll elems + uptoBulkAll spare + 1
  | .agg parts => uptoBulkAll parts + 1
  | .iface _ d => uptoBulk d + 1
  | .map entries => uptoBulkEntries entries + 1
  | .held _ => 1
def uptoBulkAll {H : Type} : List (DataW H) → Nat
  | [] => 0
  | d :: r => uptoBulk d + uptoBulkAll r
def uptoBulkEntries {H : Type} : List (Lit × DataW H) → Nat
  | [] => 0
  | x :: r => uptoBulkEntry x + uptoBulkEntries r
def uptoBulkEntry {H : Type} : Lit × DataW H → Nat
  | (.string bytes, d) => bytes.length + uptoBulk d + 1
  | (_, d) => uptoBulk d + 1
 end
def uptoSmall : (H : Type) → List (DataW H) → Bool := fun _ ds => decide (uptoBulkAll ds ≤ 1048576)
def OpenSpec.upto (s : _root_.Go.ChangeSpec) : _root_.Go.OpenSpec := { _root_.Go.OpenSpec.ofChange s with cond := some uptoSmall }

/-- 'relyguardlaw36.TerminationBound', WHERE WHAT IT READS IS OF BULK AT MOST 1048576: true; the input reads as it did. -/
def terminationBoundUptoRow : OpenClaim := { program := "ytaiokglcgiemnaagreatdoor", sum := "f5ba1c3ebfa4a913e93905c2b5dd691144d9681a1418f7fe45f7d34df4e82738", func := "relyguard/relyguardlaw36.TerminationBound", spec := "terminationBound", inPlace := ["internal/abi.NoEscape", "internal/bytealg.MakeNoZero"], unfollowed := true, recurses := true, named := ["relyguard/expr.masks", "internal/strconv.uint64pow10", "math/bits.deBruijn32tab", "math/bits.deBruijn64tab"], loops := true, apart := false, laid := [("math/bits.deBruijn32tab", laid_math_bits_deBruijn32tab), ("math/bits.deBruijn64tab", laid_math_bits_deBruijn64tab), ("internal/strconv.uint64pow10", laid_internal_strconv_uint64pow10), ("relyguard/expr.masks", laid_relyguard_expr_masks)], narrowed := true }
def TerminationBoundUptoSaid : Prop := terminationBoundUptoRow.holds Tryz.pinned (OpenSpec.upto terminationBoundSpec)

/-- 'relyguardlaw36.TerminationDescent', WHERE WHAT IT READS IS OF BULK AT MOST 1048576: true; the input reads as it did. -/
def terminationDescentUptoRow : OpenClaim := { program := "ytaiokglcgiemnaagreatdoor", sum := "f5ba1c3ebfa4a913e93905c2b5dd691144d9681a1418f7fe45f7d34df4e82738", func := "relyguard/relyguardlaw36.TerminationDescent", spec := "terminationDescent", inPlace := ["internal/abi.NoEscape", "internal/bytealg.MakeNoZero"], unfollowed := true, recurses := true, named := ["relyguard/expr.masks", "internal/strconv.uint64pow10", "math/bits.deBruijn32tab", "math/bits.deBruijn64tab"], loops := true, apart := false, laid := [("math/bits.deBruijn32tab", laid_math_bits_deBruijn32tab), ("math/bits.deBruijn64tab", laid_math_bits_deBruijn64tab), ("internal/strconv.uint64pow10", laid_internal_strconv_uint64pow10), ("relyguard/expr.masks", laid_relyguard_expr_masks)], narrowed := true }
def TerminationDescentUptoSaid : Prop := terminationDescentUptoRow.holds Tryz.pinned (OpenSpec.upto terminationDescentSpec)

/-- 'relyguardlaw36.TerminationCounting', WHERE WHAT IT READS IS OF BULK AT MOST 1048576: true; the input reads as it did. -/
def terminationCountingUptoRow : OpenClaim := { program := "ytaiokglcgiemnaagreatdoor", sum := "f5ba1c3ebfa4a913e93905c2b5dd691144d9681a1418f7fe45f7d34df4e82738", func := "relyguard/relyguardlaw36.TerminationCounting", spec := "terminationCounting", inPlace := ["internal/abi.NoEscape", "internal/bytealg.MakeNoZero"], unfollowed := true, recurses := true, named := ["relyguard/expr.masks", "internal/strconv.uint64pow10", "math/bits.deBruijn32tab", "math/bits.deBruijn64tab"], loops := true, apart := false, laid := [("math/bits.deBruijn32tab", laid_math_bits_deBruijn32tab), ("math/bits.deBruijn64tab", laid_math_bits_deBruijn64tab), ("internal/strconv.uint64pow10", laid_internal_strconv_uint64pow10), ("relyguard/expr.masks", laid_relyguard_expr_masks)], narrowed := true }
def TerminationCountingUptoSaid : Prop := terminationCountingUptoRow.holds Tryz.pinned (OpenSpec.upto terminationCountingSpec)

/-- 'relyguardlaw36.TerminationLassos', WHERE WHAT IT READS IS OF BULK AT MOST 1048576: true; the input reads as it did. -/
def terminationLassosUptoRow : OpenClaim := { program := "ytaiokglcgiemnaagreatdoor", sum := "f5ba1c3ebfa4a913e93905c2b5dd691144d9681a1418f7fe45f7d34df4e82738", func := "relyguard/relyguardlaw36.TerminationLassos", spec := "terminationLassos", inPlace := ["internal/abi.NoEscape", "internal/bytealg.MakeNoZero"], unfollowed := true, recurses := true, named := ["relyguard/expr.masks", "internal/strconv.uint64pow10", "math/bits.deBruijn32tab", "math/bits.deBruijn64tab"], loops := true, apart := false, laid := [("math/bits.deBruijn32tab", laid_math_bits_deBruijn32tab), ("math/bits.deBruijn64tab", laid_math_bits_deBruijn64tab), ("internal/strconv.uint64pow10", laid_internal_strconv_uint64pow10), ("relyguard/expr.masks", laid_relyguard_expr_masks)], narrowed := true }
def TerminationLassosUptoSaid : Prop := terminationLassosUptoRow.holds Tryz.pinned (OpenSpec.upto terminationLassosSpec)

/-- 'relyguardlaw36.TerminationNoLasso', WHERE WHAT IT READS IS OF BULK AT MOST 1048576: true; the input reads as it did. -/
def terminationNoLassoUptoRow : OpenClaim := { program := "ytaiokglcgiemnaagreatdoor", sum := "f5ba1c3ebfa4a913e93905c2b5dd691144d9681a1418f7fe45f7d34df4e82738", func := "relyguard/relyguardlaw36.TerminationNoLasso", spec := "terminationNoLasso", inPlace := ["internal/abi.NoEscape", "internal/bytealg.MakeNoZero"], unfollowed := true, recurses := true, named := ["relyguard/expr.masks", "internal/strconv.uint64pow10", "math/bits.deBruijn32tab", "math/bits.deBruijn64tab"], loops := true, apart := false, laid := [("math/bits.deBruijn32tab", laid_math_bits_deBruijn32tab), ("math/bits.deBruijn64tab", laid_math_bits_deBruijn64tab), ("internal/strconv.uint64pow10", laid_internal_strconv_uint64pow10), ("relyguard/expr.masks", laid_relyguard_expr_masks)], narrowed := true }
def TerminationNoLassoUptoSaid : Prop := terminationNoLassoUptoRow.holds Tryz.pinned (OpenSpec.upto terminationNoLassoSpec)

/-- 'relyguardlaw36.TerminationLimits', WHERE WHAT IT READS IS OF BULK AT MOST 1048576: true; the input reads as it did. -/
def terminationLimitsUptoRow : OpenClaim := { program := "ytaiokglcgiemnaagreatdoor", sum := "f5ba1c3ebfa4a913e93905c2b5dd691144d9681a1418f7fe45f7d34df4e82738", func := "relyguard/relyguardlaw36.TerminationLimits", spec := "terminationLimits", inPlace := ["internal/abi.NoEscape", "internal/bytealg.MakeNoZero"], unfollowed := true, recurses := true, named := ["relyguard/expr.masks", "internal/strconv.uint64pow10", "math/bits.deBruijn32tab", "math/bits.deBruijn64tab"], loops := true, apart := false, laid := [("math/bits.deBruijn32tab", laid_math_bits_deBruijn32tab), ("math/bits.deBruijn64tab", laid_math_bits_deBruijn64tab), ("internal/strconv.uint64pow10", laid_internal_strconv_uint64pow10), ("relyguard/expr.masks", laid_relyguard_expr_masks)], narrowed := true }
def TerminationLimitsUptoSaid : Prop := terminationLimitsUptoRow.holds Tryz.pinned (OpenSpec.upto terminationLimitsSpec)

end Rows
end Go.Proofs.YtaiokglcgiemnaaGreatDoor

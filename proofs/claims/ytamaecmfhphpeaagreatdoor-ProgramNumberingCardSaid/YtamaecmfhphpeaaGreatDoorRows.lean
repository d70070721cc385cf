/-
  NARROWER THAN 'FOR EVERY INPUT', by the rows' own cells (each row's printed sentence says how): ProgramMatchesReference: loops, laid · ProgramCells: loops, laid · ProgramKinds: loops, laid · ProgramText: loops, laid · ProgramNumbering: loops, laid · ProgramParts: loops, laid · ProgramFirst: loops, laid · ProgramReading: loops, laid.
  DERIVED. THE GIVEN ROWS OF THIS SEAT. 8 by the template 'for every input the law returns true; each argument reads behind the call as it read before'; 0 by the template 'total and deterministic' (their statements: YtamaecmfhphpeaaGreatDoorTotals.lean).
  GIVEN WITH THE SEED: the statements are not yours to turn. If you find one false, say at which input.
  Laid BY PROGRAM, IN A SANDBOX (cutbox-rows.mjs): the forced cells as the released guide's own fill.sh prints them over the translation 24616b1800b7c6cb… (all of the seat's roots in one cut). By AI agents, Wed Nov 11 2026. No macro, syntax, notation, axiom, sorry.
-/
import Derived.Test.YtamaecmfhphpeaaGreatDoorChecked
import GoSem.Claim
import GoSem.ClaimJoined
import GoSem.ClaimMapViews
import Derived.JoinedTies
import Derived.KernelRfl
namespace Go.Proofs.YtamaecmfhphpeaaGreatDoor
/- THE CELL 'sum', in the pinned program and in every row, IS THE sha256 OF THE DUMP (.gsa) THAT YtamaecmfhphpeaaGreatDoorProg.lean LOADS. Nothing in Lean hashes anything: it is a label: what it is worth is what the hold of that sum in a sandbox is worth. -/
noncomputable def Tryz.pinned : Pinned := { name := "ytamaecmfhphpeaagreatdoor", sum := "24616b1800b7c6cb14d93ee9fe6ee7d31c3b517571e758afa9d4cc2600425014", checked := Tryz.checked }
namespace Rows
def none {H : Type} : Left H := { results := [], args := [] }

/- WHAT THE LISTED PACKAGE-LEVEL VARIABLES READ AS WHEN THE CALL BEGINS. Each datum BY PROGRAM (the guide's laid-datum.mjs) off the statement by which the dump's own 'gosem.cut.vars' lays the variable. In a bare row this is a premise. The card (YtamaecmfhphpeaaGreatDoorCards.lean) ties it to the program's text. -/
def laid_math_bits_deBruijn32tab {H : Type} : DataW H := .agg [.lit (.int .u8 0), .lit (.int .u8 1), .lit (.int .u8 28), .lit (.int .u8 2), .lit (.int .u8 29), .lit (.int .u8 14), .lit (.int .u8 24), .lit (.int .u8 3), .lit (.int .u8 30), .lit (.int .u8 22), .lit (.int .u8 20), .lit (.int .u8 15), .lit (.int .u8 25), .lit (.int .u8 17), .lit (.int .u8 4), .lit (.int .u8 8), .lit (.int .u8 31), .lit (.int .u8 27), .lit (.int .u8 13), .lit (.int .u8 23), .lit (.int .u8 21), .lit (.int .u8 19), .lit (.int .u8 16), .lit (.int .u8 7), .lit (.int .u8 26), .lit (.int .u8 12), .lit (.int .u8 18), .lit (.int .u8 6), .lit (.int .u8 11), .lit (.int .u8 5), .lit (.int .u8 10), .lit (.int .u8 9)]
def laid_math_bits_deBruijn64tab {H : Type} : DataW H := .agg [.lit (.int .u8 0), .lit (.int .u8 1), .lit (.int .u8 56), .lit (.int .u8 2), .lit (.int .u8 57), .lit (.int .u8 49), .lit (.int .u8 28), .lit (.int .u8 3), .lit (.int .u8 61), .lit (.int .u8 58), .lit (.int .u8 42), .lit (.int .u8 50), .lit (.int .u8 38), .lit (.int .u8 29), .lit (.int .u8 17), .lit (.int .u8 4), .lit (.int .u8 62), .lit (.int .u8 47), .lit (.int .u8 59), .lit (.int .u8 36), .lit (.int .u8 45), .lit (.int .u8 43), .lit (.int .u8 51), .lit (.int .u8 22), .lit (.int .u8 53), .lit (.int .u8 39), .lit (.int .u8 33), .lit (.int .u8 30), .lit (.int .u8 24), .lit (.int .u8 18), .lit (.int .u8 12), .lit (.int .u8 5), .lit (.int .u8 63), .lit (.int .u8 55), .lit (.int .u8 48), .lit (.int .u8 27), .lit (.int .u8 60), .lit (.int .u8 41), .lit (.int .u8 37), .lit (.int .u8 16), .lit (.int .u8 46), .lit (.int .u8 35), .lit (.int .u8 44), .lit (.int .u8 21), .lit (.int .u8 52), .lit (.int .u8 32), .lit (.int .u8 23), .lit (.int .u8 11), .lit (.int .u8 54), .lit (.int .u8 26), .lit (.int .u8 40), .lit (.int .u8 15), .lit (.int .u8 34), .lit (.int .u8 20), .lit (.int .u8 31), .lit (.int .u8 10), .lit (.int .u8 25), .lit (.int .u8 14), .lit (.int .u8 19), .lit (.int .u8 9), .lit (.int .u8 13), .lit (.int .u8 8), .lit (.int .u8 7), .lit (.int .u8 6)]
def laid_internal_strconv_uint64pow10 {H : Type} : DataW H := .agg [.lit (.int .u64 1), .lit (.int .u64 10), .lit (.int .u64 100), .lit (.int .u64 1000), .lit (.int .u64 10000), .lit (.int .u64 100000), .lit (.int .u64 1000000), .lit (.int .u64 10000000), .lit (.int .u64 100000000), .lit (.int .u64 1000000000), .lit (.int .u64 10000000000), .lit (.int .u64 100000000000), .lit (.int .u64 1000000000000), .lit (.int .u64 10000000000000), .lit (.int .u64 100000000000000), .lit (.int .u64 1000000000000000), .lit (.int .u64 10000000000000000), .lit (.int .u64 100000000000000000), .lit (.int .u64 1000000000000000000), .lit (.int .u64 10000000000000000000)]
def laid_relyguard_expr_masks {H : Type} : DataW H := .agg [.lit (.int .i64 0), .lit (.int .i64 1), .lit (.int .i64 3), .lit (.int .i64 7), .lit (.int .i64 15), .lit (.int .i64 31), .lit (.int .i64 63), .lit (.int .i64 127), .lit (.int .i64 255)]
def laid_relyguard_expr_names {H : Type} : DataW H := .agg [.lit (.string [110, 111, 116]), .lit (.string [97, 110, 100]), .lit (.string [111, 114]), .lit (.string [120, 111, 114]), .lit (.string [97, 100, 100]), .lit (.string [115, 117, 98]), .lit (.string [109, 117, 108]), .lit (.string [101, 113]), .lit (.string [108, 116]), .lit (.string [108, 101]), .lit (.string [105, 116, 101])]

/-- 'relyguardlaw07.ProgramMatchesReference': WHATEVER THE INPUT: true; the input reads as it did. -/
def programMatchesReferenceSpec : ChangeSpec := { name := "programMatchesReference", fn := fun _ => fun
  | [d1, d2, d3, d4] => { results := [.lit (.bool true)], args := [d1, d2, d3, d4] }
  | _ => none }
def programMatchesReferenceRow : OpenClaim := { program := "ytamaecmfhphpeaagreatdoor", sum := "24616b1800b7c6cb14d93ee9fe6ee7d31c3b517571e758afa9d4cc2600425014", func := "relyguard/relyguardlaw07.ProgramMatchesReference", spec := "programMatchesReference", inPlace := ["internal/abi.NoEscape", "internal/bytealg.MakeNoZero"], unfollowed := true, recurses := true, named := ["relyguard/expr.masks", "internal/strconv.uint64pow10", "math/bits.deBruijn32tab", "math/bits.deBruijn64tab", "relyguard/expr.names"], loops := true, apart := false, laid := [("math/bits.deBruijn32tab", laid_math_bits_deBruijn32tab), ("math/bits.deBruijn64tab", laid_math_bits_deBruijn64tab), ("internal/strconv.uint64pow10", laid_internal_strconv_uint64pow10), ("relyguard/expr.masks", laid_relyguard_expr_masks), ("relyguard/expr.names", laid_relyguard_expr_names)] }
def ProgramMatchesReferenceSaid : Prop := programMatchesReferenceRow.holds Tryz.pinned (OpenSpec.ofChange programMatchesReferenceSpec)

/-- ITS FALSE NEIGHBOUR: 'it returns false'. Refute it at one input. -/
def programMatchesReferenceWrong : ChangeSpec := { name := "programMatchesReference", fn := fun _ => fun
  | [d1, d2, d3, d4] => { results := [.lit (.bool false)], args := [d1, d2, d3, d4] }
  | _ => none }
def ProgramMatchesReferenceWrongFalsely : Prop := programMatchesReferenceRow.holds Tryz.pinned (OpenSpec.ofChange programMatchesReferenceWrong)

/-- 'relyguardlaw07.ProgramCells': WHATEVER THE INPUT: true; the input reads as it did. -/
def programCellsSpec : ChangeSpec := { name := "programCells", fn := fun _ => fun
  | [d] => { results := [.lit (.bool true)], args := [d] }
  | _ => none }
def programCellsRow : OpenClaim := { program := "ytamaecmfhphpeaagreatdoor", sum := "24616b1800b7c6cb14d93ee9fe6ee7d31c3b517571e758afa9d4cc2600425014", func := "relyguard/relyguardlaw07.ProgramCells", spec := "programCells", inPlace := ["internal/abi.NoEscape", "internal/bytealg.MakeNoZero"], unfollowed := true, recurses := true, named := ["relyguard/expr.masks", "internal/strconv.uint64pow10", "math/bits.deBruijn32tab", "math/bits.deBruijn64tab", "relyguard/expr.names"], loops := true, apart := false, laid := [("math/bits.deBruijn32tab", laid_math_bits_deBruijn32tab), ("math/bits.deBruijn64tab", laid_math_bits_deBruijn64tab), ("internal/strconv.uint64pow10", laid_internal_strconv_uint64pow10), ("relyguard/expr.masks", laid_relyguard_expr_masks), ("relyguard/expr.names", laid_relyguard_expr_names)] }
def ProgramCellsSaid : Prop := programCellsRow.holds Tryz.pinned (OpenSpec.ofChange programCellsSpec)

/-- ITS FALSE NEIGHBOUR: 'it returns false'. Refute it at one input. -/
def programCellsWrong : ChangeSpec := { name := "programCells", fn := fun _ => fun
  | [d] => { results := [.lit (.bool false)], args := [d] }
  | _ => none }
def ProgramCellsWrongFalsely : Prop := programCellsRow.holds Tryz.pinned (OpenSpec.ofChange programCellsWrong)

/-- 'relyguardlaw07.ProgramKinds': WHATEVER THE INPUT: true; the input reads as it did. -/
def programKindsSpec : ChangeSpec := { name := "programKinds", fn := fun _ => fun
  | [d] => { results := [.lit (.bool true)], args := [d] }
  | _ => none }
def programKindsRow : OpenClaim := { program := "ytamaecmfhphpeaagreatdoor", sum := "24616b1800b7c6cb14d93ee9fe6ee7d31c3b517571e758afa9d4cc2600425014", func := "relyguard/relyguardlaw07.ProgramKinds", spec := "programKinds", inPlace := ["internal/abi.NoEscape", "internal/bytealg.MakeNoZero"], unfollowed := true, recurses := true, named := ["relyguard/expr.masks", "internal/strconv.uint64pow10", "math/bits.deBruijn32tab", "math/bits.deBruijn64tab", "relyguard/expr.names"], loops := true, apart := false, laid := [("math/bits.deBruijn32tab", laid_math_bits_deBruijn32tab), ("math/bits.deBruijn64tab", laid_math_bits_deBruijn64tab), ("internal/strconv.uint64pow10", laid_internal_strconv_uint64pow10), ("relyguard/expr.masks", laid_relyguard_expr_masks), ("relyguard/expr.names", laid_relyguard_expr_names)] }
def ProgramKindsSaid : Prop := programKindsRow.holds Tryz.pinned (OpenSpec.ofChange programKindsSpec)

/-- ITS FALSE NEIGHBOUR: 'it returns false'. Refute it at one input. -/
def programKindsWrong : ChangeSpec := { name := "programKinds", fn := fun _ => fun
  | [d] => { results := [.lit (.bool false)], args := [d] }
  | _ => none }
def ProgramKindsWrongFalsely : Prop := programKindsRow.holds Tryz.pinned (OpenSpec.ofChange programKindsWrong)

/-- 'relyguardlaw07.ProgramText': WHATEVER THE INPUT: true; the input reads as it did. -/
def programTextSpec : ChangeSpec := { name := "programText", fn := fun _ => fun
  | [d1, d2] => { results := [.lit (.bool true)], args := [d1, d2] }
  | _ => none }
def programTextRow : OpenClaim := { program := "ytamaecmfhphpeaagreatdoor", sum := "24616b1800b7c6cb14d93ee9fe6ee7d31c3b517571e758afa9d4cc2600425014", func := "relyguard/relyguardlaw07.ProgramText", spec := "programText", inPlace := ["internal/abi.NoEscape", "internal/bytealg.MakeNoZero"], unfollowed := true, recurses := true, named := ["relyguard/expr.masks", "internal/strconv.uint64pow10", "math/bits.deBruijn32tab", "math/bits.deBruijn64tab", "relyguard/expr.names"], loops := true, apart := false, laid := [("math/bits.deBruijn32tab", laid_math_bits_deBruijn32tab), ("math/bits.deBruijn64tab", laid_math_bits_deBruijn64tab), ("internal/strconv.uint64pow10", laid_internal_strconv_uint64pow10), ("relyguard/expr.masks", laid_relyguard_expr_masks), ("relyguard/expr.names", laid_relyguard_expr_names)] }
def ProgramTextSaid : Prop := programTextRow.holds Tryz.pinned (OpenSpec.ofChange programTextSpec)

/-- ITS FALSE NEIGHBOUR: 'it returns false'. Refute it at one input. -/
def programTextWrong : ChangeSpec := { name := "programText", fn := fun _ => fun
  | [d1, d2] => { results := [.lit (.bool false)], args := [d1, d2] }
  | _ => none }
def ProgramTextWrongFalsely : Prop := programTextRow.holds Tryz.pinned (OpenSpec.ofChange programTextWrong)

/-- 'relyguardlaw07.ProgramNumbering': WHATEVER THE INPUT: true; the input reads as it did. -/
def programNumberingSpec : ChangeSpec := { name := "programNumbering", fn := fun _ => fun
  | [d1, d2] => { results := [.lit (.bool true)], args := [d1, d2] }
  | _ => none }
def programNumberingRow : OpenClaim := { program := "ytamaecmfhphpeaagreatdoor", sum := "24616b1800b7c6cb14d93ee9fe6ee7d31c3b517571e758afa9d4cc2600425014", func := "relyguard/relyguardlaw07.ProgramNumbering", spec := "programNumbering", inPlace := ["internal/abi.NoEscape", "internal/bytealg.MakeNoZero"], unfollowed := true, recurses := true, named := ["relyguard/expr.masks", "internal/strconv.uint64pow10", "math/bits.deBruijn32tab", "math/bits.deBruijn64tab", "relyguard/expr.names"], loops := true, apart := false, laid := [("math/bits.deBruijn32tab", laid_math_bits_deBruijn32tab), ("math/bits.deBruijn64tab", laid_math_bits_deBruijn64tab), ("internal/strconv.uint64pow10", laid_internal_strconv_uint64pow10), ("relyguard/expr.masks", laid_relyguard_expr_masks), ("relyguard/expr.names", laid_relyguard_expr_names)] }
def ProgramNumberingSaid : Prop := programNumberingRow.holds Tryz.pinned (OpenSpec.ofChange programNumberingSpec)

/-- ITS FALSE NEIGHBOUR: 'it returns false'. Refute it at one input. -/
def programNumberingWrong : ChangeSpec := { name := "programNumbering", fn := fun _ => fun
  | [d1, d2] => { results := [.lit (.bool false)], args := [d1, d2] }
  | _ => none }
def ProgramNumberingWrongFalsely : Prop := programNumberingRow.holds Tryz.pinned (OpenSpec.ofChange programNumberingWrong)

/-- 'relyguardlaw07.ProgramParts': WHATEVER THE INPUT: true; the input reads as it did. -/
def programPartsSpec : ChangeSpec := { name := "programParts", fn := fun _ => fun
  | [d1, d2, d3, d4] => { results := [.lit (.bool true)], args := [d1, d2, d3, d4] }
  | _ => none }
def programPartsRow : OpenClaim := { program := "ytamaecmfhphpeaagreatdoor", sum := "24616b1800b7c6cb14d93ee9fe6ee7d31c3b517571e758afa9d4cc2600425014", func := "relyguard/relyguardlaw07.ProgramParts", spec := "programParts", inPlace := ["internal/abi.NoEscape", "internal/bytealg.MakeNoZero"], unfollowed := true, recurses := true, named := ["relyguard/expr.masks", "internal/strconv.uint64pow10", "math/bits.deBruijn32tab", "math/bits.deBruijn64tab", "relyguard/expr.names"], loops := true, apart := false, laid := [("math/bits.deBruijn32tab", laid_math_bits_deBruijn32tab), ("math/bits.deBruijn64tab", laid_math_bits_deBruijn64tab), ("internal/strconv.uint64pow10", laid_internal_strconv_uint64pow10), ("relyguard/expr.masks", laid_relyguard_expr_masks), ("relyguard/expr.names", laid_relyguard_expr_names)] }
def ProgramPartsSaid : Prop := programPartsRow.holds Tryz.pinned (OpenSpec.ofChange programPartsSpec)

/-- ITS FALSE NEIGHBOUR: 'it returns false'. Refute it at one input. -/
def programPartsWrong : ChangeSpec := { name := "programParts", fn := fun _ => fun
  | [d1, d2, d3, d4] => { results := [.lit (.bool false)], args := [d1, d2, d3, d4] }
  | _ => none }
def ProgramPartsWrongFalsely : Prop := programPartsRow.holds Tryz.pinned (OpenSpec.ofChange programPartsWrong)

/-- 'relyguardlaw07.ProgramFirst': WHATEVER THE INPUT: true; the input reads as it did. -/
def programFirstSpec : ChangeSpec := { name := "programFirst", fn := fun _ => fun
  | [d] => { results := [.lit (.bool true)], args := [d] }
  | _ => none }
def programFirstRow : OpenClaim := { program := "ytamaecmfhphpeaagreatdoor", sum := "24616b1800b7c6cb14d93ee9fe6ee7d31c3b517571e758afa9d4cc2600425014", func := "relyguard/relyguardlaw07.ProgramFirst", spec := "programFirst", inPlace := ["internal/abi.NoEscape", "internal/bytealg.MakeNoZero"], unfollowed := true, recurses := true, named := ["relyguard/expr.masks", "internal/strconv.uint64pow10", "math/bits.deBruijn32tab", "math/bits.deBruijn64tab", "relyguard/expr.names"], loops := true, apart := false, laid := [("math/bits.deBruijn32tab", laid_math_bits_deBruijn32tab), ("math/bits.deBruijn64tab", laid_math_bits_deBruijn64tab), ("internal/strconv.uint64pow10", laid_internal_strconv_uint64pow10), ("relyguard/expr.masks", laid_relyguard_expr_masks), ("relyguard/expr.names", laid_relyguard_expr_names)] }
def ProgramFirstSaid : Prop := programFirstRow.holds Tryz.pinned (OpenSpec.ofChange programFirstSpec)

/-- ITS FALSE NEIGHBOUR: 'it returns false'. Refute it at one input. -/
def programFirstWrong : ChangeSpec := { name := "programFirst", fn := fun _ => fun
  | [d] => { results := [.lit (.bool false)], args := [d] }
  | _ => none }
def ProgramFirstWrongFalsely : Prop := programFirstRow.holds Tryz.pinned (OpenSpec.ofChange programFirstWrong)

/-- 'relyguardlaw07.ProgramReading': WHATEVER THE INPUT: true; the input reads as it did. -/
def programReadingSpec : ChangeSpec := { name := "programReading", fn := fun _ => fun
  | [d1, d2, d3] => { results := [.lit (.bool true)], args := [d1, d2, d3] }
  | _ => none }
def programReadingRow : OpenClaim := { program := "ytamaecmfhphpeaagreatdoor", sum := "24616b1800b7c6cb14d93ee9fe6ee7d31c3b517571e758afa9d4cc2600425014", func := "relyguard/relyguardlaw07.ProgramReading", spec := "programReading", inPlace := ["internal/abi.NoEscape", "internal/bytealg.MakeNoZero"], unfollowed := true, recurses := true, named := ["relyguard/expr.masks", "internal/strconv.uint64pow10", "math/bits.deBruijn32tab", "math/bits.deBruijn64tab", "relyguard/expr.names"], loops := true, apart := false, laid := [("math/bits.deBruijn32tab", laid_math_bits_deBruijn32tab), ("math/bits.deBruijn64tab", laid_math_bits_deBruijn64tab), ("internal/strconv.uint64pow10", laid_internal_strconv_uint64pow10), ("relyguard/expr.masks", laid_relyguard_expr_masks), ("relyguard/expr.names", laid_relyguard_expr_names)] }
def ProgramReadingSaid : Prop := programReadingRow.holds Tryz.pinned (OpenSpec.ofChange programReadingSpec)

/-- ITS FALSE NEIGHBOUR: 'it returns false'. Refute it at one input. -/
def programReadingWrong : ChangeSpec := { name := "programReading", fn := fun _ => fun
  | [d1, d2, d3] => { results := [.lit (.bool false)], args := [d1, d2, d3] }
  | _ => none }
def ProgramReadingWrongFalsely : Prop := programReadingRow.holds Tryz.pinned (OpenSpec.ofChange programReadingWrong)

/- THE SECOND FORM. 'bulk': how many values and letters a reading holds, each counted each time it is reached (what is shared counts as often as it is met; a slice's spare places count too). A statement '..UptoSaid' is the law's where the arguments, and the package variables that the reading takes, are together of bulk at most 1048576: NARROWER than '..Said'. Prove '..Said' where nothing that the law and all that it calls make is longer than what came in: it says more and counts as full. Else prove '..UptoSaid'. A law counts once. -/
mutual
def uptoBulk {H : Type} : DataW H → Nat
  | .lit (.string bytes) => bytes.length + 1
  | .lit _ => 1
  | .nil => 1
  | .ptr d => uptoBulk d + 1
  | .slice elems spare => uptoBulkAll elems + uptoBulkAll spare + 1
  | .agg parts => uptoBulkAll parts + 1
  | .iface _ d => uptoBulk d + 1
  | .map entries => uptoBulkEntries entries + 1
  | .held _ => 1
def uptoBulkAll {H : Type} : List (DataW H) → Nat
  | [] => 0
  | d :: r => uptoBulk d + uptoBulkAll r
def uptoBulkEntries {H : Type} : List (Lit × DataW H) → Nat
  | [] => 0
  | x :: r => uptoBulkEntry x + uptoBulkEntries r
def uptoBulkEntry {H : Type} : Lit × DataW H → Nat
  | (.string bytes, d) => bytes.length + uptoBulk d + 1
  | (_, d) => uptoBulk d + 1
 end
def uptoSmall : (H : Type) → List (DataW H) → Bool := fun _ ds => decide (uptoBulkAll ds ≤ 1048576)
def OpenSpec.upto (s : _root_.Go.ChangeSpec) : _root_.Go.OpenSpec := { _root_.Go.OpenSpec.ofChange s with cond := some uptoSmall }

/-- 'relyguardlaw07.ProgramMatchesReference', WHERE WHAT IT READS IS OF BULK AT MOST 1048576: true; the input reads as it did. -/
def programMatchesReferenceUptoRow : OpenClaim := { program := "ytamaecmfhphpeaagreatdoor", sum := "24616b1800b7c6cb14d93ee9fe6ee7d31c3b517571e758afa9d4cc2600425014", func := "relyguard/relyguardlaw07.ProgramMatchesReference", spec := "programMatchesReference", inPlace := ["internal/abi.NoEscape", "internal/bytealg.MakeNoZero"], unfollowed := true, recurses := true, named := ["relyguard/expr.masks", "internal/strconv.uint64pow10", "math/bits.deBruijn32tab", "math/bits.deBruijn64tab", "relyguard/expr.names"], loops := true, apart := false, laid := [("math/bits.deBruijn32tab", laid_math_bits_deBruijn32tab), ("math/bits.deBruijn64tab", laid_math_bits_deBruijn64tab), ("internal/strconv.uint64pow10", laid_internal_strconv_uint64pow10), ("relyguard/expr.masks", laid_relyguard_expr_masks), ("relyguard/expr.names", laid_relyguard_expr_names)], narrowed := true }
def ProgramMatchesReferenceUptoSaid : Prop := programMatchesReferenceUptoRow.holds Tryz.pinned (OpenSpec.upto programMatchesReferenceSpec)

/-- 'relyguardlaw07.ProgramCells', WHERE WHAT IT READS IS OF BULK AT MOST 1048576: true; the input reads as it did. -/
def programCellsUptoRow : OpenClaim := { program := "ytamaecmfhphpeaagreatdoor", sum := "24616b1800b7c6cb14d93ee9fe6ee7d31c3b517571e758afa9d4cc2600425014", func := "relyguard/relyguardlaw07.ProgramCells", spec := "programCells", inPlace := ["internal/abi.NoEscape", "internal/bytealg.MakeNoZero"], unfollowed := true, recurses := true, named := ["relyguard/expr.masks", "internal/strconv.uint64pow10", "math/bits.deBruijn32tab", "math/bits.deBruijn64tab", "relyguard/expr.names"], loops := true, apart := false, laid := [("math/bits.deBruijn32tab", laid_math_bits_deBruijn32tab), ("math/bits.deBruijn64tab", laid_math_bits_deBruijn64tab), ("internal/strconv.uint64pow10", laid_internal_strconv_uint64pow10), ("relyguard/expr.masks", laid_relyguard_expr_masks), ("relyguard/expr.names", laid_relyguard_expr_names)], narrowed := true }
def ProgramCellsUptoSaid : Prop := programCellsUptoRow.holds Tryz.pinned (OpenSpec.upto programCellsSpec)

/-- 'relyguardlaw07.ProgramKinds', WHERE WHAT IT READS IS OF BULK AT MOST 1048576: true; the input reads as it did. -/
def programKindsUptoRow : OpenClaim := { program := "ytamaecmfhphpeaagreatdoor", sum := "24616b1800b7c6cb14d93ee9fe6ee7d31c3b517571e758afa9d4cc2600425014", func := "relyguard/relyguardlaw07.ProgramKinds", spec := "programKinds", inPlace := ["internal/abi.NoEscape", "internal/bytealg.MakeNoZero"], unfollowed := true, recurses := true, named := ["relyguard/expr.masks", "internal/strconv.uint64pow10", "math/bits.deBruijn32tab", "math/bits.deBruijn64tab", "relyguard/expr.names"], loops := true, apart := false, laid := [("math/bits.deBruijn32tab", laid_math_bits_deBruijn32tab), ("math/bits.deBruijn64tab", laid_math_bits_deBruijn64tab), ("internal/strconv.uint64pow10", laid_internal_strconv_uint64pow10), ("relyguard/expr.masks", laid_relyguard_expr_masks), ("relyguard/expr.names", laid_relyguard_expr_names)], narrowed := true }
def ProgramKindsUptoSaid : Prop := programKindsUptoRow.holds Tryz.pinned (OpenSpec.upto programKindsSpec)

/-- 'relyguardlaw07.ProgramText', WHERE WHAT IT READS IS OF BULK AT MOST 1048576: true; the input reads as it did. -/
def programTextUptoRow : OpenClaim := { program := "ytamaecmfhphpeaagreatdoor", sum := "24616b1800b7c6cb14d93ee9fe6ee7d31c3b517571e758afa9d4cc2600425014", func := "relyguard/relyguardlaw07.ProgramText", spec := "programText", inPlace := ["internal/abi.NoEscape", "internal/bytealg.MakeNoZero"], unfollowed := true, recurses := true, named := ["relyguard/expr.masks", "internal/strconv.uint64pow10", "math/bits.deBruijn32tab", "math/bits.deBruijn64tab", "relyguard/expr.names"], loops := true, apart := false, laid := [("math/bits.deBruijn32tab", laid_math_bits_deBruijn32tab), ("math/bits.deBruijn64tab", laid_math_bits_deBruijn64tab), ("internal/strconv.uint64pow10", laid_internal_strconv_uint64pow10), ("relyguard/expr.masks", laid_relyguard_expr_masks), ("relyguard/expr.names", laid_relyguard_expr_names)], narrowed := true }
def ProgramTextUptoSaid : Prop := programTextUptoRow.holds Tryz.pinned (OpenSpec.upto programTextSpec)

/-- 'relyguardlaw07.ProgramNumbering', WHERE WHAT IT READS IS OF BULK AT MOST 1048576: true; the input reads as it did. -/
def programNumberingUptoRow : OpenClaim := { program := "ytamaecmfhphpeaagreatdoor", sum := "24616b1800b7c6cb14d93ee9fe6ee7d31c3b517571e758afa9d4cc2600425014", func := "relyguard/relyguardlaw07.ProgramNumbering", spec := "programNumbering", inPlace := ["internal/abi.NoEscape", "internal/bytealg.MakeNoZero"], unfollowed := true, recurses := true, named := ["relyguard/expr.masks", "internal/strconv.uint64pow10", "math/bits.deBruijn32tab", "math/bits.deBruijn64tab", "relyguard/expr.names"], loops := true, apart := false, laid := [("math/bits.deBruijn32tab", laid_math_bits_deBruijn32tab), ("math/bits.deBruijn64tab", laid_math_bits_deBruijn64tab), ("internal/strconv.uint64pow10", laid_internal_strconv_uint64pow10), ("relyguard/expr.masks", laid_relyguard_expr_masks), ("relyguard/expr.names", laid_relyguard_expr_names)], narrowed := true }
def ProgramNumberingUptoSaid : Prop := programNumberingUptoRow.holds Tryz.pinned (OpenSpec.upto programNumberingSpec)

/-- 'relyguardlaw07.ProgramParts', WHERE WHAT IT READS IS OF BULK AT MOST 1048576: true; the input reads as it did. -/
def programPartsUptoRow : OpenClaim := { program := "ytamaecmfhphpeaagreatdoor", sum := "24616b1800b7c6cb14d93ee9fe6ee7d31c3b517571e758afa9d4cc2600425014", func := "relyguard/relyguardlaw07.ProgramParts", spec := "programParts", inPlace := ["internal/abi.NoEscape", "internal/bytealg.MakeNoZero"], unfollowed := true, recurses := true, named := ["relyguard/expr.masks", "internal/strconv.uint64pow10", "math/bits.deBruijn32tab", "math/bits.deBruijn64tab", "relyguard/expr.names"], loops := true, apart := false, laid := [("math/bits.deBruijn32tab", laid_math_bits_deBruijn32tab), ("math/bits.deBruijn64tab", laid_math_bits_deBruijn64tab), ("internal/strconv.uint64pow10", laid_internal_strconv_uint64pow10), ("relyguard/expr.masks", laid_relyguard_expr_masks), ("relyguard/expr.names", laid_relyguard_expr_names)], narrowed := true }
def ProgramPartsUptoSaid : Prop := programPartsUptoRow.holds Tryz.pinned (OpenSpec.upto programPartsSpec)

/-- 'relyguardlaw07.ProgramFirst', WHERE WHAT IT READS IS OF BULK AT MOST 1048576: true; the input reads as it did. -/
def programFirstUptoRow : OpenClaim := { program := "ytamaecmfhphpeaagreatdoor", sum := "24616b1800b7c6cb14d93ee9fe6ee7d31c3b517571e758afa9d4cc2600425014", func := "relyguard/relyguardlaw07.ProgramFirst", spec := "programFirst", inPlace := ["internal/abi.NoEscape", "internal/bytealg.MakeNoZero"], unfollowed := true, recurses := true, named := ["relyguard/expr.masks", "internal/strconv.uint64pow10", "math/bits.deBruijn32tab", "math/bits.deBruijn64tab", "relyguard/expr.names"], loops := true, apart := false, laid := [("math/bits.deBruijn32tab", laid_math_bits_deBruijn32tab), ("math/bits.deBruijn64tab", laid_math_bits_deBruijn64tab), ("internal/strconv.uint64pow10", laid_internal_strconv_uint64pow10), ("relyguard/expr.masks", laid_relyguard_expr_masks), ("relyguard/expr.names", laid_relyguard_expr_names)], narrowed := true }
def ProgramFirstUptoSaid : Prop := programFirstUptoRow.holds Tryz.pinned (OpenSpec.upto programFirstSpec)

/-- 'relyguardlaw07.ProgramReading', WHERE WHAT IT READS IS OF BULK AT MOST 1048576: true; the input reads as it did. -/
def programReadingUptoRow : OpenClaim := { program := "ytamaecmfhphpeaagreatdoor", sum := "24616b1800b7c6cb14d93ee9fe6ee7d31c3b517571e758afa9d4cc2600425014", func := "relyguard/relyguardlaw07.ProgramReading", spec := "programReading", inPlace := ["internal/abi.NoEscape", "internal/bytealg.MakeNoZero"], unfollowed := true, recurses := true, named := ["relyguard/expr.masks", "internal/strconv.uint64pow10", "math/bits.deBruijn32tab", "math/bits.deBruijn64tab", "relyguard/expr.names"], loops := true, apart := false, laid := [("math/bits.deBruijn32tab", laid_math_bits_deBruijn32tab), ("math/bits.deBruijn64tab", laid_math_bits_deBruijn64tab), ("internal/strconv.uint64pow10", laid_internal_strconv_uint64pow10), ("relyguard/expr.masks", laid_relyguard_expr_masks), ("relyguard/expr.names", laid_relyguard_expr_names)], narrowed := true }
def ProgramReadingUptoSaid : Prop := programReadingUptoRow.holds Tryz.pinned (OpenSpec.upto programReadingSpec)

end Rows
end Go.Proofs.YtamaecmfhphpeaaGreatDoor

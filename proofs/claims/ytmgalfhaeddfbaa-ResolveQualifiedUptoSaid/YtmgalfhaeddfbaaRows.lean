/-
  NARROWER THAN 'FOR EVERY INPUT', by the rows' own cells (each row's printed sentence says how): ResolveQualified: loops · ResolveExtension: loops · ResolveOffsets: loops.
  DERIVED. THE GIVEN ROWS OF THIS SEAT. 3 by the template 'for every input the law returns true; each argument reads behind the call as it read before'; 0 by the template 'total and deterministic' (their statements: YtmgalfhaeddfbaaTotals.lean).
  GIVEN WITH THE SEED: the statements are not yours to turn. If you find one false, say at which input.
  Laid BY PROGRAM, IN A SANDBOX (cutbox-rows.mjs): the forced cells as the released guide's own fill.sh prints them over the translation b2a308978948cc39… (all of the seat's roots in one cut). By AI agents, Wed Nov 11 2026. No macro, syntax, notation, axiom, sorry.
-/
import Derived.Test.YtmgalfhaeddfbaaChecked
import GoSem.Claim
import GoSem.ClaimJoined
import GoSem.ClaimMapViews
import Derived.JoinedTies
import Derived.KernelRfl
namespace Go.Proofs.Ytmgalfhaeddfbaa
/- THE CELL 'sum', in the pinned program and in every row, IS THE sha256 OF THE DUMP (.gsa) THAT YtmgalfhaeddfbaaProg.lean LOADS. Nothing in Lean hashes anything: it is a label: what it is worth is what the hold of that sum in a sandbox is worth. -/
noncomputable def Try.pinned : Pinned := { name := "ytmgalfhaeddfbaa", sum := "b2a308978948cc3974fa046cb8f7702f78d34a85c36041df7052086d7f525941", checked := Try.checked }
namespace Rows
def none {H : Type} : Left H := { results := [], args := [] }

/-- 'relyguardlaw04.ResolveQualified': WHATEVER THE INPUT: true; the input reads as it did. -/
def resolveQualifiedSpec : ChangeSpec := { name := "resolveQualified", fn := fun _ => fun
  | [d] => { results := [.lit (.bool true)], args := [d] }
  | _ => none }
def resolveQualifiedRow : OpenClaim := { program := "ytmgalfhaeddfbaa", sum := "b2a308978948cc3974fa046cb8f7702f78d34a85c36041df7052086d7f525941", func := "relyguard/relyguardlaw04.ResolveQualified", spec := "resolveQualified", inPlace := ["internal/bytealg.IndexByteString", "internal/bytealg.IndexString"], unfollowed := true, recurses := true, named := ["internal/bytealg.MaxLen"], loops := true, plainKeys := false, apart := false }
def ResolveQualifiedSaid : Prop := resolveQualifiedRow.holds Try.pinned (OpenSpec.ofChange resolveQualifiedSpec)

/-- ITS FALSE NEIGHBOUR: 'it returns false'. Refute it at one input. -/
def resolveQualifiedWrong : ChangeSpec := { name := "resolveQualified", fn := fun _ => fun
  | [d] => { results := [.lit (.bool false)], args := [d] }
  | _ => none }
def ResolveQualifiedWrongFalsely : Prop := resolveQualifiedRow.holds Try.pinned (OpenSpec.ofChange resolveQualifiedWrong)

/-- 'relyguardlaw04.ResolveExtension': WHATEVER THE INPUT: true; the input reads as it did. -/
def resolveExtensionSpec : ChangeSpec := { name := "resolveExtension", fn := fun _ => fun
  | [d1, d2] => { results := [.lit (.bool true)], args := [d1, d2] }
  | _ => none }
def resolveExtensionRow : OpenClaim := { program := "ytmgalfhaeddfbaa", sum := "b2a308978948cc3974fa046cb8f7702f78d34a85c36041df7052086d7f525941", func := "relyguard/relyguardlaw04.ResolveExtension", spec := "resolveExtension", inPlace := ["internal/bytealg.IndexByteString", "internal/bytealg.IndexString"], unfollowed := true, recurses := true, named := ["internal/bytealg.MaxLen"], loops := true, plainKeys := false, apart := false }
def ResolveExtensionSaid : Prop := resolveExtensionRow.holds Try.pinned (OpenSpec.ofChange resolveExtensionSpec)

/-- ITS FALSE NEIGHBOUR: 'it returns false'. Refute it at one input. -/
def resolveExtensionWrong : ChangeSpec := { name := "resolveExtension", fn := fun _ => fun
  | [d1, d2] => { results := [.lit (.bool false)], args := [d1, d2] }
  | _ => none }
def ResolveExtensionWrongFalsely : Prop := resolveExtensionRow.holds Try.pinned (OpenSpec.ofChange resolveExtensionWrong)

/-- 'relyguardlaw04.ResolveOffsets': WHATEVER THE INPUT: true; the input reads as it did. -/
def resolveOffsetsSpec : ChangeSpec := { name := "resolveOffsets", fn := fun _ => fun
  | [d1, d2] => { results := [.lit (.bool true)], args := [d1, d2] }
  | _ => none }
def resolveOffsetsRow : OpenClaim := { program := "ytmgalfhaeddfbaa", sum := "b2a308978948cc3974fa046cb8f7702f78d34a85c36041df7052086d7f525941", func := "relyguard/relyguardlaw04.ResolveOffsets", spec := "resolveOffsets", inPlace := ["internal/bytealg.IndexByteString", "internal/bytealg.IndexString"], unfollowed := true, recurses := true, named := ["internal/bytealg.MaxLen"], loops := true, plainKeys := false, apart := false }
def ResolveOffsetsSaid : Prop := resolveOffsetsRow.holds Try.pinned (OpenSpec.ofChange resolveOffsetsSpec)

/-- ITS FALSE NEIGHBOUR: 'it returns false'. Refute it at one input. -/
def resolveOffsetsWrong : ChangeSpec := { name := "resolveOffsets", fn := fun _ => fun
  | [d1, d2] => { results := [.lit (.bool false)], args := [d1, d2] }
  | _ => none }
def ResolveOffsetsWrongFalsely : Prop := resolveOffsetsRow.holds Try.pinned (OpenSpec.ofChange resolveOffsetsWrong)

/- THE SECOND FORM. 'bulk': how many values and letters a reading holds, each counted each time it is reached (what is shared counts as often as it is met; a slice's spare places count too). A statement '..UptoSaid' is the law's where the arguments, and the package variables that the reading takes, are together of bulk at most 1048576: NARROWER than '..Said'. Prove '..Said' where nothing that the law and all that it calls make is longer than what came in: it says more and counts as full. Else prove '..UptoSaid'. A law counts once. -/
mutual
def uptoBulk {H : Type} : DataW H → Nat
  | .lit (.string bytes) => bytes.length + 1
  | .lit _ => 1
  | .nil => 1
  | .ptr d => uptoBulk d + 1
  | .slice elems spare => uptoBulkAll elems + uptoBulkAll spare + 1
  | .agg parts => uptoBulkAll parts + 1
  | .iface _ d => uptoBulk d + 1
  | .map entries => uptoBulkEntries entries + 1
  | .held _ => 1
def uptoBulkAll {H : Type} : List (DataW H) → Nat
  | [] => 0
  | d :: r => uptoBulk d + uptoBulkAll r
def uptoBulkEntries {H : Type} : List (Lit × DataW H) → Nat
  | [] => 0
  | x :: r => uptoBulkEntry x + uptoBulkEntries r
def uptoBulkEntry {H : Type} : Lit × DataW H → Nat
  | (.string bytes, d) => bytes.length + uptoBulk d + 1
  | (_, d) => uptoBulk d + 1
 end
def uptoSmall : (H : Type) → List (DataW H) → Bool := fun _ ds => decide (uptoBulkAll ds ≤ 1048576)
def OpenSpec.upto (s : _root_.Go.ChangeSpec) : _root_.Go.OpenSpec := { _root_.Go.OpenSpec.ofChange s with cond := some uptoSmall }

/-- 'relyguardlaw04.ResolveQualified', WHERE WHAT IT READS IS OF BULK AT MOST 1048576: true; the input reads as it did. -/
def resolveQualifiedUptoRow : OpenClaim := { program := "ytmgalfhaeddfbaa", sum := "b2a308978948cc3974fa046cb8f7702f78d34a85c36041df7052086d7f525941", func := "relyguard/relyguardlaw04.ResolveQualified", spec := "resolveQualified", inPlace := ["internal/bytealg.IndexByteString", "internal/bytealg.IndexString"], unfollowed := true, recurses := true, named := ["internal/bytealg.MaxLen"], loops := true, plainKeys := false, apart := false, narrowed := true }
def ResolveQualifiedUptoSaid : Prop := resolveQualifiedUptoRow.holds Try.pinned (OpenSpec.upto resolveQualifiedSpec)

/-- 'relyguardlaw04.ResolveExtension', WHERE WHAT IT READS IS OF BULK AT MOST 1048576: true; the input reads as it did. -/
def resolveExtensionUptoRow : OpenClaim := { program := "ytmgalfhaeddfbaa", sum := "b2a308978948cc3974fa046cb8f7702f78d34a85c36041df7052086d7f525941", func := "relyguard/relyguardlaw04.ResolveExtension", spec := "resolveExtension", inPlace := ["internal/bytealg.IndexByteString", "internal/bytealg.IndexString"], unfollowed := true, recurses := true, named := ["internal/bytealg.MaxLen"], loops := true, plainKeys := false, apart := false, narrowed := true }
def ResolveExtensionUptoSaid : Prop := resolveExtensionUptoRow.holds Try.pinned (OpenSpec.upto resolveExtensionSpec)

/-- 'relyguardlaw04.ResolveOffsets', WHERE WHAT IT READS IS OF BULK AT MOST 1048576: true; the input reads as it did. -/
def resolveOffsetsUptoRow : OpenClaim := { program := "ytmgalfhaeddfbaa", sum := "b2a308978948cc3974fa046cb8f7702f78d34a85c36041df7052086d7f525941", func := "relyguard/relyguardlaw04.ResolveOffsets", spec := "resolveOffsets", inPlace := ["internal/bytealg.IndexByteString", "internal/bytealg.IndexString"], unfollowed := true, recurses := true, named := ["internal/bytealg.MaxLen"], loops := true, plainKeys := false, apart := false, narrowed := true }
def ResolveOffsetsUptoSaid : Prop := resolveOffsetsUptoRow.holds Try.pinned (OpenSpec.upto resolveOffsetsSpec)

end Rows
end Go.Proofs.Ytmgalfhaeddfbaa

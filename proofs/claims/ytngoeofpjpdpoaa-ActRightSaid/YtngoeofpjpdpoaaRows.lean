/-
  No cell of these rows narrows 'for every input' (looked for: loops, veiled, ifaces, maps, wideKeys, modest, calm, conditions, laid).
  DERIVED. THE GIVEN ROWS OF THIS SEAT. 8 by the template 'for every input the law returns true; each argument reads behind the call as it read before'; 0 by the template 'total and deterministic' (their statements: YtngoeofpjpdpoaaTotals.lean).
  GIVEN WITH THE SEED: the statements are not yours to turn. If you find one false, say at which input.
  Laid BY PROGRAM, IN A SANDBOX (cutbox-rows.mjs): the forced cells as the released guide's own fill.sh prints them over the translation 4bba9a66b0cb1445… (all of the seat's roots in one cut). By AI agents, Wed Nov 11 2026. No macro, syntax, notation, axiom, sorry.
-/
import Derived.Test.YtngoeofpjpdpoaaChecked
import GoSem.Claim
import GoSem.ClaimJoined
import GoSem.ClaimMapViews
import Derived.JoinedTies
import Derived.KernelRfl
namespace Go.Proofs.Ytngoeofpjpdpoaa
/- THE CELL 'sum', in the pinned program and in every row, IS THE sha256 OF THE DUMP (.gsa) THAT YtngoeofpjpdpoaaProg.lean LOADS. Nothing in Lean hashes anything: it is a label: what it is worth is what the hold of that sum in a sandbox is worth. -/
noncomputable def Try.pinned : Pinned := { name := "ytngoeofpjpdpoaa", sum := "4bba9a66b0cb144567531d12aeb090c553e5c8468517c275eed38a9fc38bd0c8", checked := Try.checked }
namespace Rows
def none {H : Type} : Left H := { results := [], args := [] }

/-- 'droverlaw06.ActEncodes': WHATEVER THE INPUT: true; the input reads as it did. -/
def actEncodesSpec : ChangeSpec := { name := "actEncodes", fn := fun _ => fun
  | [d] => { results := [.lit (.bool true)], args := [d] }
  | _ => none }
def actEncodesRow : OpenClaim := { program := "ytngoeofpjpdpoaa", sum := "4bba9a66b0cb144567531d12aeb090c553e5c8468517c275eed38a9fc38bd0c8", func := "drover/droverlaw06.ActEncodes", spec := "actEncodes", inPlace := ["internal/abi.NoEscape", "internal/bytealg.MakeNoZero"], unfollowed := true, recurses := true, apart := false }
def ActEncodesSaid : Prop := actEncodesRow.holds Try.pinned (OpenSpec.ofChange actEncodesSpec)

/-- ITS FALSE NEIGHBOUR: 'it returns false'. Refute it at one input. -/
def actEncodesWrong : ChangeSpec := { name := "actEncodes", fn := fun _ => fun
  | [d] => { results := [.lit (.bool false)], args := [d] }
  | _ => none }
def ActEncodesWrongFalsely : Prop := actEncodesRow.holds Try.pinned (OpenSpec.ofChange actEncodesWrong)

/-- 'droverlaw06.ActMerges': WHATEVER THE INPUT: true; the input reads as it did. -/
def actMergesSpec : ChangeSpec := { name := "actMerges", fn := fun _ => fun
  | [d1, d2] => { results := [.lit (.bool true)], args := [d1, d2] }
  | _ => none }
def actMergesRow : OpenClaim := { program := "ytngoeofpjpdpoaa", sum := "4bba9a66b0cb144567531d12aeb090c553e5c8468517c275eed38a9fc38bd0c8", func := "drover/droverlaw06.ActMerges", spec := "actMerges", inPlace := ["internal/abi.NoEscape", "internal/bytealg.MakeNoZero"], unfollowed := true, recurses := true, apart := false }
def ActMergesSaid : Prop := actMergesRow.holds Try.pinned (OpenSpec.ofChange actMergesSpec)

/-- ITS FALSE NEIGHBOUR: 'it returns false'. Refute it at one input. -/
def actMergesWrong : ChangeSpec := { name := "actMerges", fn := fun _ => fun
  | [d1, d2] => { results := [.lit (.bool false)], args := [d1, d2] }
  | _ => none }
def ActMergesWrongFalsely : Prop := actMergesRow.holds Try.pinned (OpenSpec.ofChange actMergesWrong)

/-- 'droverlaw06.ActSets': WHATEVER THE INPUT: true; the input reads as it did. -/
def actSetsSpec : ChangeSpec := { name := "actSets", fn := fun _ => fun
  | [d1, d2, d3] => { results := [.lit (.bool true)], args := [d1, d2, d3] }
  | _ => none }
def actSetsRow : OpenClaim := { program := "ytngoeofpjpdpoaa", sum := "4bba9a66b0cb144567531d12aeb090c553e5c8468517c275eed38a9fc38bd0c8", func := "drover/droverlaw06.ActSets", spec := "actSets", inPlace := ["internal/abi.NoEscape", "internal/bytealg.MakeNoZero"], unfollowed := true, recurses := true, apart := false }
def ActSetsSaid : Prop := actSetsRow.holds Try.pinned (OpenSpec.ofChange actSetsSpec)

/-- ITS FALSE NEIGHBOUR: 'it returns false'. Refute it at one input. -/
def actSetsWrong : ChangeSpec := { name := "actSets", fn := fun _ => fun
  | [d1, d2, d3] => { results := [.lit (.bool false)], args := [d1, d2, d3] }
  | _ => none }
def ActSetsWrongFalsely : Prop := actSetsRow.holds Try.pinned (OpenSpec.ofChange actSetsWrong)

/-- 'droverlaw06.ActChanges': WHATEVER THE INPUT: true; the input reads as it did. -/
def actChangesSpec : ChangeSpec := { name := "actChanges", fn := fun _ => fun
  | [d1, d2] => { results := [.lit (.bool true)], args := [d1, d2] }
  | _ => none }
def actChangesRow : OpenClaim := { program := "ytngoeofpjpdpoaa", sum := "4bba9a66b0cb144567531d12aeb090c553e5c8468517c275eed38a9fc38bd0c8", func := "drover/droverlaw06.ActChanges", spec := "actChanges", inPlace := ["internal/abi.NoEscape", "internal/bytealg.MakeNoZero"], unfollowed := true, recurses := true, apart := false }
def ActChangesSaid : Prop := actChangesRow.holds Try.pinned (OpenSpec.ofChange actChangesSpec)

/-- ITS FALSE NEIGHBOUR: 'it returns false'. Refute it at one input. -/
def actChangesWrong : ChangeSpec := { name := "actChanges", fn := fun _ => fun
  | [d1, d2] => { results := [.lit (.bool false)], args := [d1, d2] }
  | _ => none }
def ActChangesWrongFalsely : Prop := actChangesRow.holds Try.pinned (OpenSpec.ofChange actChangesWrong)

/-- 'droverlaw06.ActOne': WHATEVER THE INPUT: true; the input reads as it did. -/
def actOneSpec : ChangeSpec := { name := "actOne", fn := fun _ => fun
  | [d1, d2] => { results := [.lit (.bool true)], args := [d1, d2] }
  | _ => none }
def actOneRow : OpenClaim := { program := "ytngoeofpjpdpoaa", sum := "4bba9a66b0cb144567531d12aeb090c553e5c8468517c275eed38a9fc38bd0c8", func := "drover/droverlaw06.ActOne", spec := "actOne", inPlace := ["internal/abi.NoEscape", "internal/bytealg.MakeNoZero"], unfollowed := true, recurses := true, apart := false }
def ActOneSaid : Prop := actOneRow.holds Try.pinned (OpenSpec.ofChange actOneSpec)

/-- ITS FALSE NEIGHBOUR: 'it returns false'. Refute it at one input. -/
def actOneWrong : ChangeSpec := { name := "actOne", fn := fun _ => fun
  | [d1, d2] => { results := [.lit (.bool false)], args := [d1, d2] }
  | _ => none }
def ActOneWrongFalsely : Prop := actOneRow.holds Try.pinned (OpenSpec.ofChange actOneWrong)

/-- 'droverlaw06.ActDecodes': WHATEVER THE INPUT: true; the input reads as it did. -/
def actDecodesSpec : ChangeSpec := { name := "actDecodes", fn := fun _ => fun
  | [d] => { results := [.lit (.bool true)], args := [d] }
  | _ => none }
def actDecodesRow : OpenClaim := { program := "ytngoeofpjpdpoaa", sum := "4bba9a66b0cb144567531d12aeb090c553e5c8468517c275eed38a9fc38bd0c8", func := "drover/droverlaw06.ActDecodes", spec := "actDecodes", inPlace := ["internal/abi.NoEscape", "internal/bytealg.MakeNoZero"], unfollowed := true, recurses := true, apart := false }
def ActDecodesSaid : Prop := actDecodesRow.holds Try.pinned (OpenSpec.ofChange actDecodesSpec)

/-- ITS FALSE NEIGHBOUR: 'it returns false'. Refute it at one input. -/
def actDecodesWrong : ChangeSpec := { name := "actDecodes", fn := fun _ => fun
  | [d] => { results := [.lit (.bool false)], args := [d] }
  | _ => none }
def ActDecodesWrongFalsely : Prop := actDecodesRow.holds Try.pinned (OpenSpec.ofChange actDecodesWrong)

/-- 'droverlaw06.ActBack': WHATEVER THE INPUT: true; the input reads as it did. -/
def actBackSpec : ChangeSpec := { name := "actBack", fn := fun _ => fun
  | [d1, d2] => { results := [.lit (.bool true)], args := [d1, d2] }
  | _ => none }
def actBackRow : OpenClaim := { program := "ytngoeofpjpdpoaa", sum := "4bba9a66b0cb144567531d12aeb090c553e5c8468517c275eed38a9fc38bd0c8", func := "drover/droverlaw06.ActBack", spec := "actBack", inPlace := ["internal/abi.NoEscape", "internal/bytealg.MakeNoZero"], unfollowed := true, recurses := true, apart := false }
def ActBackSaid : Prop := actBackRow.holds Try.pinned (OpenSpec.ofChange actBackSpec)

/-- ITS FALSE NEIGHBOUR: 'it returns false'. Refute it at one input. -/
def actBackWrong : ChangeSpec := { name := "actBack", fn := fun _ => fun
  | [d1, d2] => { results := [.lit (.bool false)], args := [d1, d2] }
  | _ => none }
def ActBackWrongFalsely : Prop := actBackRow.holds Try.pinned (OpenSpec.ofChange actBackWrong)

/-- 'droverlaw06.ActRight': WHATEVER THE INPUT: true; the input reads as it did. -/
def actRightSpec : ChangeSpec := { name := "actRight", fn := fun _ => fun
  | [d1, d2] => { results := [.lit (.bool true)], args := [d1, d2] }
  | _ => none }
def actRightRow : OpenClaim := { program := "ytngoeofpjpdpoaa", sum := "4bba9a66b0cb144567531d12aeb090c553e5c8468517c275eed38a9fc38bd0c8", func := "drover/droverlaw06.ActRight", spec := "actRight", inPlace := ["internal/abi.NoEscape", "internal/bytealg.MakeNoZero"], unfollowed := true, recurses := true, apart := false }
def ActRightSaid : Prop := actRightRow.holds Try.pinned (OpenSpec.ofChange actRightSpec)

/-- ITS FALSE NEIGHBOUR: 'it returns false'. Refute it at one input. -/
def actRightWrong : ChangeSpec := { name := "actRight", fn := fun _ => fun
  | [d1, d2] => { results := [.lit (.bool false)], args := [d1, d2] }
  | _ => none }
def ActRightWrongFalsely : Prop := actRightRow.holds Try.pinned (OpenSpec.ofChange actRightWrong)

/- THE SECOND FORM. 'bulk': how many values and letters a reading holds, each counted each time it is reached (what is shared counts as often as it is met; a slice's spare places count too). A statement '..UptoSaid' is the law's where the arguments, and the package variables that the reading takes, are together of bulk at most 1048576: NARROWER than '..Said'. Prove '..Said' where nothing that the law and all that it calls make is longer than what came in: it says more and counts as full. Else prove '..UptoSaid'. A law counts once. -/
mutual
def uptoBulk {H : Type} : DataW H → Nat
  | .lit (.string bytes) => bytes.length + 1
  | .lit _ => 1
  | .nil => 1
  | .ptr d => uptoBulk d + 1
  | .slice elems spare => uptoBulkAll elems + uptoBulkAll spare + 1
  | .agg parts => uptoBulkAll parts + 1
  | .iface _ d => uptoBulk d + 1
  | .map entries => uptoBulkEntries entries + 1
  | .held _ => 1
def uptoBulkAll {H : Type} : List (DataW H) → Nat
  | [] => 0
  | d :: r => uptoBulk d + uptoBulkAll r
def uptoBulkEntries {H : Type} : List (Lit × DataW H) → Nat
  | [] => 0
  | x :: r => uptoBulkEntry x + uptoBulkEntries r
def uptoBulkEntry {H : Type} : Lit × DataW H → Nat
  | (.string bytes, d) => bytes.length + uptoBulk d + 1
  | (_, d) => uptoBulk d + 1
 end
def uptoSmall : (H : Type) → List (DataW H) → Bool := fun _ ds => decide (uptoBulkAll ds ≤ 1048576)
def OpenSpec.upto (s : _root_.Go.ChangeSpec) : _root_.Go.OpenSpec := { _root_.Go.OpenSpec.ofChange s with cond := some uptoSmall }

/-- 'droverlaw06.ActEncodes', WHERE WHAT IT READS IS OF BULK AT MOST 1048576: true; the input reads as it did. -/
def actEncodesUptoRow : OpenClaim := { program := "ytngoeofpjpdpoaa", sum := "4bba9a66b0cb144567531d12aeb090c553e5c8468517c275eed38a9fc38bd0c8", func := "drover/droverlaw06.ActEncodes", spec := "actEncodes", inPlace := ["internal/abi.NoEscape", "internal/bytealg.MakeNoZero"], unfollowed := true, recurses := true, apart := false, narrowed := true }
def ActEncodesUptoSaid : Prop := actEncodesUptoRow.holds Try.pinned (OpenSpec.upto actEncodesSpec)

/-- 'droverlaw06.ActMerges', WHERE WHAT IT READS IS OF BULK AT MOST 1048576: true; the input reads as it did. -/
def actMergesUptoRow : OpenClaim := { program := "ytngoeofpjpdpoaa", sum := "4bba9a66b0cb144567531d12aeb090c553e5c8468517c275eed38a9fc38bd0c8", func := "drover/droverlaw06.ActMerges", spec := "actMerges", inPlace := ["internal/abi.NoEscape", "internal/bytealg.MakeNoZero"], unfollowed := true, recurses := true, apart := false, narrowed := true }
def ActMergesUptoSaid : Prop := actMergesUptoRow.holds Try.pinned (OpenSpec.upto actMergesSpec)

/-- 'droverlaw06.ActSets', WHERE WHAT IT READS IS OF BULK AT MOST 1048576: true; the input reads as it did. -/
def actSetsUptoRow : OpenClaim := { program := "ytngoeofpjpdpoaa", sum := "4bba9a66b0cb144567531d12aeb090c553e5c8468517c275eed38a9fc38bd0c8", func := "drover/droverlaw06.ActSets", spec := "actSets", inPlace := ["internal/abi.NoEscape", "internal/bytealg.MakeNoZero"], unfollowed := true, recurses := true, apart := false, narrowed := true }
def ActSetsUptoSaid : Prop := actSetsUptoRow.holds Try.pinned (OpenSpec.upto actSetsSpec)

/-- 'droverlaw06.ActChanges', WHERE WHAT IT READS IS OF BULK AT MOST 1048576: true; the input reads as it did. -/
def actChangesUptoRow : OpenClaim := { program := "ytngoeofpjpdpoaa", sum := "4bba9a66b0cb144567531d12aeb090c553e5c8468517c275eed38a9fc38bd0c8", func := "drover/droverlaw06.ActChanges", spec := "actChanges", inPlace := ["internal/abi.NoEscape", "internal/bytealg.MakeNoZero"], unfollowed := true, recurses := true, apart := false, narrowed := true }
def ActChangesUptoSaid : Prop := actChangesUptoRow.holds Try.pinned (OpenSpec.upto actChangesSpec)

/-- 'droverlaw06.ActOne', WHERE WHAT IT READS IS OF BULK AT MOST 1048576: true; the input reads as it did. -/
def actOneUptoRow : OpenClaim := { program := "ytngoeofpjpdpoaa", sum := "4bba9a66b0cb144567531d12aeb090c553e5c8468517c275eed38a9fc38bd0c8", func := "drover/droverlaw06.ActOne", spec := "actOne", inPlace := ["internal/abi.NoEscape", "internal/bytealg.MakeNoZero"], unfollowed := true, recurses := true, apart := false, narrowed := true }
def ActOneUptoSaid : Prop := actOneUptoRow.holds Try.pinned (OpenSpec.upto actOneSpec)

/-- 'droverlaw06.ActDecodes', WHERE WHAT IT READS IS OF BULK AT MOST 1048576: true; the input reads as it did. -/
def actDecodesUptoRow : OpenClaim := { program := "ytngoeofpjpdpoaa", sum := "4bba9a66b0cb144567531d12aeb090c553e5c8468517c275eed38a9fc38bd0c8", func := "drover/droverlaw06.ActDecodes", spec := "actDecodes", inPlace := ["internal/abi.NoEscape", "internal/bytealg.MakeNoZero"], unfollowed := true, recurses := true, apart := false, narrowed := true }
def ActDecodesUptoSaid : Prop := actDecodesUptoRow.holds Try.pinned (OpenSpec.upto actDecodesSpec)

/-- 'droverlaw06.ActBack', WHERE WHAT IT READS IS OF BULK AT MOST 1048576: true; the input reads as it did. -/
def actBackUptoRow : OpenClaim := { program := "ytngoeofpjpdpoaa", sum := "4bba9a66b0cb144567531d12aeb090c553e5c8468517c275eed38a9fc38bd0c8", func := "drover/droverlaw06.ActBack", spec := "actBack", inPlace := ["internal/abi.NoEscape", "internal/bytealg.MakeNoZero"], unfollowed := true, recurses := true, apart := false, narrowed := true }
def ActBackUptoSaid : Prop := actBackUptoRow.holds Try.pinned (OpenSpec.upto actBackSpec)

/-- 'droverlaw06.ActRight', WHERE WHAT IT READS IS OF BULK AT MOST 1048576: true; the input reads as it did. -/
def actRightUptoRow : OpenClaim := { program := "ytngoeofpjpdpoaa", sum := "4bba9a66b0cb144567531d12aeb090c553e5c8468517c275eed38a9fc38bd0c8", func := "drover/droverlaw06.ActRight", spec := "actRight", inPlace := ["internal/abi.NoEscape", "internal/bytealg.MakeNoZero"], unfollowed := true, recurses := true, apart := false, narrowed := true }
def ActRightUptoSaid : Prop := actRightUptoRow.holds Try.pinned (OpenSpec.upto actRightSpec)

end Rows
end Go.Proofs.Ytngoeofpjpdpoaa

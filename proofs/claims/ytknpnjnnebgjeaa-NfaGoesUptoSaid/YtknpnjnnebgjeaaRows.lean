/-
  No cell of these rows narrows 'for every input' (looked for: loops, veiled, ifaces, maps, wideKeys, modest, calm, conditions, laid).
  DERIVED. THE GIVEN ROWS OF THIS SEAT. 3 by the template 'for every input the law returns true; each argument reads behind the call as it read before'; 0 by the template 'total and deterministic' (their statements: YtknpnjnnebgjeaaTotals.lean).
  GIVEN WITH THE SEED: the statements are not yours to turn. If you find one false, say at which input.
  Laid BY PROGRAM, IN A SANDBOX (cutbox-rows.mjs): the forced cells as the released guide's own fill.sh prints them over the translation a02bd9527c68dbce… (all of the seat's roots in one cut). By AI agents, Wed Nov 11 2026. No macro, syntax, notation, axiom, sorry.
-/
import Derived.Test.YtknpnjnnebgjeaaChecked
import GoSem.Claim
import GoSem.ClaimJoined
import GoSem.ClaimMapViews
import Derived.JoinedTies
import Derived.KernelRfl
namespace Go.Proofs.Ytknpnjnnebgjeaa
/- THE CELL 'sum', in the pinned program and in every row, IS THE sha256 OF THE DUMP (.gsa) THAT YtknpnjnnebgjeaaProg.lean LOADS. Nothing in Lean hashes anything: it is a label: what it is worth is what the hold of that sum in a sandbox is worth. -/
noncomputable def Try.pinned : Pinned := { name := "ytknpnjnnebgjeaa", sum := "a02bd9527c68dbce96060e24496c57a1a923edac7209b451dc17084f73c5dc80", checked := Try.checked }
namespace Rows
def none {H : Type} : Left H := { results := [], args := [] }

/-- 'droverlaw18.NfaSteps': WHATEVER THE INPUT: true; the input reads as it did. -/
def nfaStepsSpec : ChangeSpec := { name := "nfaSteps", fn := fun _ => fun
  | [d1, d2, d3] => { results := [.lit (.bool true)], args := [d1, d2, d3] }
  | _ => none }
def nfaStepsRow : OpenClaim := { program := "ytknpnjnnebgjeaa", sum := "a02bd9527c68dbce96060e24496c57a1a923edac7209b451dc17084f73c5dc80", func := "drover/droverlaw18.NfaSteps", spec := "nfaSteps", unfollowed := true, recurses := true, plainKeys := false, apart := false }
def NfaStepsSaid : Prop := nfaStepsRow.holds Try.pinned (OpenSpec.ofChange nfaStepsSpec)

/-- ITS FALSE NEIGHBOUR: 'it returns false'. Refute it at one input. -/
def nfaStepsWrong : ChangeSpec := { name := "nfaSteps", fn := fun _ => fun
  | [d1, d2, d3] => { results := [.lit (.bool false)], args := [d1, d2, d3] }
  | _ => none }
def NfaStepsWrongFalsely : Prop := nfaStepsRow.holds Try.pinned (OpenSpec.ofChange nfaStepsWrong)

/-- 'droverlaw18.NfaRuns': WHATEVER THE INPUT: true; the input reads as it did. -/
def nfaRunsSpec : ChangeSpec := { name := "nfaRuns", fn := fun _ => fun
  | [d1, d2] => { results := [.lit (.bool true)], args := [d1, d2] }
  | _ => none }
def nfaRunsRow : OpenClaim := { program := "ytknpnjnnebgjeaa", sum := "a02bd9527c68dbce96060e24496c57a1a923edac7209b451dc17084f73c5dc80", func := "drover/droverlaw18.NfaRuns", spec := "nfaRuns", unfollowed := true, recurses := true, plainKeys := false, apart := false }
def NfaRunsSaid : Prop := nfaRunsRow.holds Try.pinned (OpenSpec.ofChange nfaRunsSpec)

/-- ITS FALSE NEIGHBOUR: 'it returns false'. Refute it at one input. -/
def nfaRunsWrong : ChangeSpec := { name := "nfaRuns", fn := fun _ => fun
  | [d1, d2] => { results := [.lit (.bool false)], args := [d1, d2] }
  | _ => none }
def NfaRunsWrongFalsely : Prop := nfaRunsRow.holds Try.pinned (OpenSpec.ofChange nfaRunsWrong)

/-- 'droverlaw18.NfaGoes': WHATEVER THE INPUT: true; the input reads as it did. -/
def nfaGoesSpec : ChangeSpec := { name := "nfaGoes", fn := fun _ => fun
  | [d1, d2, d3, d4] => { results := [.lit (.bool true)], args := [d1, d2, d3, d4] }
  | _ => none }
def nfaGoesRow : OpenClaim := { program := "ytknpnjnnebgjeaa", sum := "a02bd9527c68dbce96060e24496c57a1a923edac7209b451dc17084f73c5dc80", func := "drover/droverlaw18.NfaGoes", spec := "nfaGoes", unfollowed := true, recurses := true, plainKeys := false, apart := false }
def NfaGoesSaid : Prop := nfaGoesRow.holds Try.pinned (OpenSpec.ofChange nfaGoesSpec)

/-- ITS FALSE NEIGHBOUR: 'it returns false'. Refute it at one input. -/
def nfaGoesWrong : ChangeSpec := { name := "nfaGoes", fn := fun _ => fun
  | [d1, d2, d3, d4] => { results := [.lit (.bool false)], args := [d1, d2, d3, d4] }
  | _ => none }
def NfaGoesWrongFalsely : Prop := nfaGoesRow.holds Try.pinned (OpenSpec.ofChange nfaGoesWrong)

/- THE SECOND FORM. 'bulk': how many values and letters a reading holds, each counted each time it is reached (what is shared counts as often as it is met; a slice's spare places count too). A statement '..UptoSaid' is the law's where the arguments, and the package variables that the reading takes, are together of bulk at most 1048576: NARROWER than '..Said'. Prove '..Said' where nothing that the law and all that it calls make is longer than what came in: it says more and counts as full. Else prove '..UptoSaid'. A law counts once. -/
mutual
def uptoBulk {H : Type} : DataW H → Nat
  | .lit (.string bytes) => bytes.length + 1
  | .lit _ => 1
  | .nil => 1
  | .ptr d => uptoBulk d + 1
  | .slice elems spare => uptoBulkAll elems + uptoBulkAll spare + 1
  | .agg parts => uptoBulkAll parts + 1
  | .iface _ d => uptoBulk d + 1
  | .map entries => uptoBulkEntries entries + 1
  | .held _ => 1
def uptoBulkAll {H : Type} : List (DataW H) → Nat
  | [] => 0
  | d :: r => uptoBulk d + uptoBulkAll r
def uptoBulkEntries {H : Type} : List (Lit × DataW H) → Nat
  | [] => 0
  | x :: r => uptoBulkEntry x + uptoBulkEntries r
def uptoBulkEntry {H : Type} : Lit × DataW H → Nat
  | (.string bytes, d) => bytes.length + uptoBulk d + 1
  | (_, d) => uptoBulk d + 1
 end
def uptoSmall : (H : Type) → List (DataW H) → Bool := fun _ ds => decide (uptoBulkAll ds ≤ 1048576)
def OpenSpec.upto (s : _root_.Go.ChangeSpec) : _root_.Go.OpenSpec := { _root_.Go.OpenSpec.ofChange s with cond := some uptoSmall }

/-- 'droverlaw18.NfaSteps', WHERE WHAT IT READS IS OF BULK AT MOST 1048576: true; the input reads as it did. -/
def nfaStepsUptoRow : OpenClaim := { program := "ytknpnjnnebgjeaa", sum := "a02bd9527c68dbce96060e24496c57a1a923edac7209b451dc17084f73c5dc80", func := "drover/droverlaw18.NfaSteps", spec := "nfaSteps", unfollowed := true, recurses := true, plainKeys := false, apart := false, narrowed := true }
def NfaStepsUptoSaid : Prop := nfaStepsUptoRow.holds Try.pinned (OpenSpec.upto nfaStepsSpec)

/-- 'droverlaw18.NfaRuns', WHERE WHAT IT READS IS OF BULK AT MOST 1048576: true; the input reads as it did. -/
def nfaRunsUptoRow : OpenClaim := { program := "ytknpnjnnebgjeaa", sum := "a02bd9527c68dbce96060e24496c57a1a923edac7209b451dc17084f73c5dc80", func := "drover/droverlaw18.NfaRuns", spec := "nfaRuns", unfollowed := true, recurses := true, plainKeys := false, apart := false, narrowed := true }
def NfaRunsUptoSaid : Prop := nfaRunsUptoRow.holds Try.pinned (OpenSpec.upto nfaRunsSpec)

/-- 'droverlaw18.NfaGoes', WHERE WHAT IT READS IS OF BULK AT MOST 1048576: true; the input reads as it did. -/
def nfaGoesUptoRow : OpenClaim := { program := "ytknpnjnnebgjeaa", sum := "a02bd9527c68dbce96060e24496c57a1a923edac7209b451dc17084f73c5dc80", func := "drover/droverlaw18.NfaGoes", spec := "nfaGoes", unfollowed := true, recurses := true, plainKeys := false, apart := false, narrowed := true }
def NfaGoesUptoSaid : Prop := nfaGoesUptoRow.holds Try.pinned (OpenSpec.upto nfaGoesSpec)

end Rows
end Go.Proofs.Ytknpnjnnebgjeaa

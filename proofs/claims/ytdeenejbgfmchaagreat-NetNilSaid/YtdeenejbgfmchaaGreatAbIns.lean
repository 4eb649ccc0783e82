/- A part of a law's proof: AbIns. -/
import Derived.Lib.Overlaps
import Derived.Test.YtdeenejbgfmchaaGreatAbRun
set_option linter.constructorNameAsVariable false
/-
  slices.Insert, whatever the elements: what it gives, wherever the row's room ends.
-/
namespace Go.Ab
open Go Go.RowKit
set_option linter.unusedVariables false
set_option linter.unusedSimpArgs false
section
variable (sz bytes h rot : Nat) (zs : List AV)
end
section
variable {P : Program} {N : Nat} {Q : AExit -> St -> Prop} {K : St -> Prop} {s : St} {os l : List AOper} {a b c : ACode}
theorem vo_p {d : Option Nat} {op : POp} {hh : Nat} (v : AV) (h : op.run s.env = some v) (k : vcOps P os K (s.put d v s.heap)) : vcOps P (⟨d, .p op, none, hh⟩ :: os) K s := ⟨v, h, k⟩
theorem vo_m {d : Option Nat} {op : MOp} {hh : Nat} (v : AV) (H' : Heap) (h : op.run s.env s.heap = some (v, H')) (k : vcOps P os K (s.put d v H')) : vcOps P (⟨d, .m op, none, hh⟩ :: os) K s := ⟨(v, H'), h, k⟩
theorem vo_m' {d : Option Nat} {op : MOp} {hh : Nat} (v : AV) (H H' : Heap) (e : s.heap = H) (h : op.run s.env H = some (v, H')) (k : vcOps P os K (s.put d v H')) : vcOps P (⟨d, .m op, none, hh⟩ :: os) K s := ⟨(v, H'), by rw [e]; exact h, k⟩
theorem vs_ops (h : vcOps P l (vc P N b Q) s) : vc P N (.seq (.ops l) b) Q s := h
theorem vc_t {x : AX} (h : x.ev s.env = .v (.bool true)) (k : vc P N a Q s) : vc P N (.cond x a b) Q s := by simp only [vc, h]; exact k
theorem vc_f {x : AX} (h : x.ev s.env = .v (.bool false)) (k : vc P N b Q s) : vc P N (.cond x a b) Q s := by simp only [vc, h]; exact k
end
section
variable {P : Program} {N : Nat} {sz bytes h rot : Nat} {zs : List AV} {Q : AV -> Heap -> Prop}
end
section
variable (sz bytes h ty : Nat) (str : ByteArray) (zs : List AV)
end
section
variable {P : Program} {N : Nat} {sz bytes h ty : Nat} {str : ByteArray} {zs : List AV} {Q : AV -> Heap -> Prop}
end
end Go.Ab

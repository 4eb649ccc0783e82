/- A part of a law's proof: NnlG1. -/
import Derived.KernelRfl
import Derived.Test.YtdeenejbgfmchaaGreatNnlAw
import Derived.Test.YtdeenejbgfmchaaGreatNnlTy
import Derived.Test.YtdeenejbgfmchaaGreatNnlXTab
import Derived.Test.YtdeenejbgfmchaaGreatSvLoop
set_option linter.constructorNameAsVariable false
namespace Go.Proofs.Nnl
open Go Go.Ab Go.Proofs
set_option linter.unusedVariables false
set_option linter.unusedSimpArgs false
set_option maxHeartbeats 4000000
set_option maxRecDepth 100000
-- 3 drover/droverlaw24.NetNil
def H3 : List (List Nat × Hint) := [([44013, 1000043], ⟨[4, 3, 1, 2], [[54, 51, 50, 48, 49, 1, 5, 37, 45, 44]], [], [], [], [], [], 0, []⟩),
  ([93038, 1000045], ⟨[5, 73, 69, 72, 71, 70, 68, 67, 64, 61, 63, 62, 60, 3, 2], [[54, 51, 50, 48, 49, 1, 5, 37]], [], [], [], [], [], 0, []⟩)]
inductive L3 where
  | h0 (a1 : Int)
  | h1 (a1 : Int)
noncomputable def m3 : L3 -> Trip Th
  | .h0 (a1) => ([(.lp 44 c9_3), (.blk 0), (.seq 44 c9_5), (.cal [(54, .any), (51, .any), (50, .any), (48, .any), (49, .any), (1, (.i .i64 (a1))), (5, (.v (.pointer .none))), (37, (.kb (Bool.true))), (45, .any), (44, .any)] (.some 43) [(.cell 2 (.some 4))]), (.ops 56 c3_4), (.seq 56 Go.Ab.ACode.ret)], [(4, (.i .i64 0)), (3, (.ptr 0 0)), (1, (.ptr 1 0)), (2, (.ptr 2 0))], [(.box [(.v (.slice .none 0 0)), (.i .i64 0), (.i .i64 0), (.b (Bool.false))]), (.box [(.v (.slice .none 0 0)), (.i .i64 0), (.i .i64 0), (.b (Bool.false))]), (.box [(.v (.slice .none 0 0)), (.i .i64 0), (.i .i64 0), (.b (Bool.false))])])
  | .h1 (a1) => ([(.lp 93 c8_14), (.blk 0), (.seq 93 c8_16), (.cal [(54, .any), (51, .any), (50, .any), (48, .any), (49, .any), (1, (.i .i64 (a1))), (5, (.v (.pointer .none))), (37, (.kb (Bool.true)))] (.some 45) [(.tmp 4)]), (.ops 56 c3_3), (.seq 56 Go.Ab.ACode.ret)], [(5, (.i .i64 0)), (73, .any), (69, .any), (72, .any), (71, .any), (70, .any), (68, .any), (67, .any), (64, .any), (61, .any), (63, .any), (62, .any), (60, .any), (3, (.ptr 0 0)), (2, (.ptr 1 0))], [(.box [(.v (.slice .none 0 0)), (.i .i64 0), (.i .i64 0), (.b (Bool.false))]), (.box [(.v (.slice .none 0 0)), (.i .i64 0), (.i .i64 0), (.b (Bool.false))])])
noncomputable def g3 : L3 -> Cm (L3 ⊕ Bool)
  | .h0 (a1) => (.ite (decide ((0 : Int) < (0 : Int))) .no
  (.ite (!decide ((0 : Int) = (0 : Int))) (.ret (.inr (Bool.false)))
  (.ite (!decide ((0 : Int) = (0 : Int))) (.ret (.inr (Bool.false)))
  (.ite (!decide ((0 : Int) = (0 : Int))) (.ret (.inr (Bool.false)))
  (.ite (!Bool.false == Bool.false) (.ret (.inr (Bool.false)))
  (.ret (.inl (.h1 (a1)))))))))
  | .h1 (a1) => (.ite (decide ((0 : Int) < (0 : Int))) .no
  (.ite (@decide (@Eq (List UInt8) (@List.nil UInt8) (@List.nil UInt8)) (@instDecidableEqList UInt8 instDecidableEqUInt8 (@Array.toList UInt8 { data := @List.toArray UInt8 (@List.nil UInt8) : ByteArray }.data) (@Array.toList UInt8 { data := @List.toArray UInt8 (@List.nil UInt8) : ByteArray }.data))) (.ret (.inr (Bool.true)))
  (.ret (.inr (Bool.false)))))
theorem E3 : ∀ s, headC C tab kn0 i3.rs H3 .b 5000 (m3 s) = (g3 s).map (Sum.map m3 (fun (r : Bool) => (((.b (r))) : SV Th)))
  | .h0 (a1) => by kernel_rfl
  | .h1 (a1) => by kernel_rfl
noncomputable def s3 (a0 : List UInt8) (a1 : Int) : Cm (L3 ⊕ Bool) :=
  (.ite (decide ((2 : Int) = (2 : Int))) (.ite (decide ((0 : Int) = (0 : Int))) (.ite (decide ((2 : Int) = (2 : Int))) (.ret (.inl (.h0 (a1))))
  (.ret (.inr (Bool.false))))
  (.ret (.inr (Bool.false))))
  (.ret (.inr (Bool.false))))
theorem ES3 (y : ATup Th [.s, .i .i64]) : startC C tab kn0 i3 H3 .b 5000 (encAs G [.s, .i .i64] y) = (s3 (y.1) (y.2.1)).map (Sum.map m3 (fun (r : Bool) => (((.b (r))) : SV Th))) := by kernel_rfl
noncomputable def f3 (a0 : List UInt8) (a1 : Int) : Option (Bool) := runO g3 (s3 (a0) (a1))
theorem Q3 (y : ATup Th [.s, .i .i64]) (r : Bool) (h : f3 (y.1) (y.2.1) = some r) : PCall Tryz.prog C 3 (encAs G [.s, .i .i64] y) (· = (fun (r : Bool) => (((.b (r))) : SV Th)) r) := runO_sound gok.ok ko0 tabKnows E3 k3 rfl (by kernel_rfl) (by kernel_rfl) (ES3 y) h
end Go.Proofs.Nnl

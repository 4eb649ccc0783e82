/- A part of a law's proof: NfaAw. -/
import Derived.Test.YtknpnjnnebgjeaaNfaAuto
import Derived.Test.YtknpnjnnebgjeaaNfaTy
import Derived.Test.YtknpnjnnebgjeaaNfaXTab
import Derived.Test.YtknpnjnnebgjeaaSvClone
import Derived.Test.YtknpnjnnebgjeaaSvShelf
set_option linter.unusedSimpArgs false
set_option linter.constructorNameAsVariable false
/-
  The chapter's examples hold.
-/
namespace Go.Proofs.Nfa
open Go Go.Ab Go.RowKit Go.Proofs
set_option linter.unusedVariables false
set_option maxRecDepth 100000

theorem awake_pure : PureCall Try.prog 13 [] (.v (.bool true)) := exTrue_pure autoK noPrim_says (by rfl) (n := 300) (by kernel_rfl)

theorem en13 : ∀ (y : ATup Th []) (Q : SV Th → Prop), (Cm.ret (SV.b true) : Cm (SV Th)).den Q → ∃ v, Q v ∧ v.shut = true ∧ PCall Try.prog C 13 (encAs G [] y) (· = v) :=
  fun y Q h => ⟨_, h, rfl, fun H => (awake_pure H).mono fun r H' ⟨h1, h2⟩ => ⟨h2, .b true, h1, rfl, rfl⟩⟩

theorem cl21 : CloneAt Try.prog 21 8 3 (C.sz 3) 8 3 Try.f21 (codeL (bodyOf Try.f21)) (codeL (codeL (codeR (bodyOf Try.f21)))) (codeR (codeL (codeR (bodyOf Try.f21)))) (codeR (codeR (bodyOf Try.f21))) :=
  ⟨Try.func21, by kernel_rfl, by kernel_rfl, by kernel_rfl, by kernel_rfl, by kernel_rfl, by kernel_rfl, by kernel_rfl, by kernel_rfl⟩

noncomputable def f21 (l : List Int) : Option (List Int) := cloneF 8 l
theorem Q21 (y : ATup Th [.l 3]) (r : List Int) (h : f21 y.1 = some r) : PCall Try.prog C 21 (encAs G [.l 3] y) (· = (fun (r : List Int) => (.lst 3 r : SV Th)) r) := clone_ok (c := 3) gok.ok cl21 rfl h

noncomputable def kn0 : KnownF Th := (13, knG G [] fun _ => .ret (.b true)) :: (21, knG G [.l 3] fun y => .get (f21 y.1) fun r => .ret (.lst 3 r)) :: []
theorem ko0 : KnownOk Try.prog C kn0 := KnownOk.add gok (KnownOk.add gok KnownOk.nil (known_opt (enc := fun (r : List Int) => (.lst 3 r : SV Th)) Q21 (fun _ => rfl))) en13

end Go.Proofs.Nfa

/- A part of a law's proof: DfaIto. -/
import Derived.Test.YthhbggmlfilpdaaDoorDfaAw
import Derived.Test.YthhbggmlfilpdaaDoorDfaShelf
set_option linter.unusedSimpArgs false
set_option linter.constructorNameAsVariable false
/-
  strconv.Itoa: by the library's contract.
-/
namespace Go.Proofs.Dfa
open Go Go.Ab Go.Shelf Go.RowKit Go.Proofs
set_option linter.unusedVariables false
set_option maxRecDepth 100000
theorem tabW {w : World} (h : WI w.heap.size w) : Lib.TabIs Tryd.prog w "internal/strconv.uint64pow10" .u64 Lib.pow10Tab :=
  tab_of_wi h (Tryd.laysM171.m17) (by unfold wiTabs Lib.pow10Tab; exact List.mem_singleton.2 rfl)
theorem itoaCalls (n : Int) (h0 : -9223372036854775808 <= n) (h1 : n <= 9223372036854775807) (w : World) (h : WI w.heap.size w) :
    Calls Tryd.prog 70 #[.int .i64 n] w fun e w' => e = .returned (.string ⟨(Lib.itoa n).toArray⟩) ∧ Below w.heap.size w w' := by
  refine (Tryd.strconv_Itoa n h0 h1 w (tabW h)).mono ?_
  rintro e w' ⟨rfl, k, os, rfl⟩
  exact ⟨rfl, ⟨rfl, rfl, rfl, by show w.heap.size <= (w.heap ++ os).size; rw [Array.size_append]; omega, fun j hj => (Go.Sort.heap_grow_old (w.drewN k) os hj).trans rfl⟩⟩
theorem call70 : Callable Tryd.prog 70 := ⟨Tryd.f70, Tryd.func70, by kernel_rfl, by kernel_rfl⟩
noncomputable def f70 (n : Int) : Option (List UInt8) := (Cm.chk (-9223372036854775808 <= n ∧ n <= 9223372036854775807) (.ret (Lib.itoa n))).opt
theorem Q70 (y : ATup Th [.i .i64]) (r : List UInt8) (h : f70 y.1 = some r) : PCall Tryd.prog C 70 (encAs G [.i .i64] y) (· = (fun (r : List UInt8) => (.s r : SV Th)) r) := by
  obtain ⟨n, _⟩ := y
  obtain ⟨⟨h1, h2⟩, h4⟩ := Cm.den_opt (K := (· = r)) h rfl
  simp only at h1 h2
  have h4 : Lib.itoa n = r := h4
  subst h4
  have p : PureCall Tryd.prog 70 [.v (.int .i64 n)] (.v (bytesV (Lib.itoa n))) :=
    pure_of_calls_wi (vs := [.int .i64 n]) call70 rfl fun w hw => itoaCalls n h1 h2 w hw
  exact fun H => (p H).mono fun r H' ⟨k1, k2⟩ => ⟨k2, .s _, k1, rfl, rfl⟩
noncomputable def kn1 : KnownF Th := (70, knG G [.i .i64] fun y => .get (f70 y.1) fun r => .ret (.s r)) :: kn0
theorem ko1 : KnownOk Tryd.prog C kn1 := KnownOk.add gok ko0 (known_opt (enc := fun (r : List UInt8) => (.s r : SV Th)) Q70 (fun _ => rfl))
end Go.Proofs.Dfa

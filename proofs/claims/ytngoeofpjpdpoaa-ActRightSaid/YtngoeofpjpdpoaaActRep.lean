/- A part of a law's proof: ActRep. -/
import Derived.Test.YtngoeofpjpdpoaaActShelf
import Derived.Test.YtngoeofpjpdpoaaActTy
import Derived.Test.YtngoeofpjpdpoaaActXTab
import Derived.Test.YtngoeofpjpdpoaaSvShelf
set_option linter.unusedSimpArgs false
set_option linter.constructorNameAsVariable false
/-
  strings.Repeat: by the library's contract.
-/
namespace Go.Proofs.Act
open Go Go.Ab Go.Shelf Go.RowKit Go.Proofs
set_option linter.unusedVariables false

theorem xRep : Builder.Extra Try.prog Try.laysRepeat_ren where
  sizeBuilder := by kernel_rfl
  liesBuilder := by kernel_rfl
  t5 := Try.laysRepeat.t5
  a5 := Try.laysRepeat.a5
  z5 := Try.laysRepeat.z5
  v5 := Try.laysRepeat.v5
  infoByte := by kernel_rfl
  cellsByte := by kernel_rfl
  sizeByte := by kernel_rfl
  neB5 := by decide

theorem fRep : Try.laysRepeat_ren.f 105 = 58 := by kernel_rfl

theorem repCalls (s : ByteArray) (c : Nat) (w : World) (hc : c ≤ 9223372036854775807) (hlen : s.size * c ≤ 140737488355328) :
    Calls Try.prog 58 #[.string s, .int .i64 c] w fun e w' => e = .returned (.string ⟨(Lib.repeatL s.data.toList c).toArray⟩) ∧ Below w.heap.size w w' := by
  have := Any.strings_Repeat Try.laysRepeat xRep s c w hc hlen
  rwa [fRep] at this

theorem call58 : Callable Try.prog 58 := ⟨Try.f58, Try.func58, by kernel_rfl, by kernel_rfl⟩

def repB (l : List UInt8) (n : Int) : List UInt8 := Lib.repeatL l n.toNat
noncomputable def f58 (l : List UInt8) (n : Int) : Option (List UInt8) := (Cm.chk (0 ≤ n ∧ n ≤ 9223372036854775807 ∧ l.length * n.toNat ≤ 140737488355328) (.ret (repB l n))).opt

theorem Q58 (y : ATup Th [.s, .i .i64]) (r : List UInt8) (h : f58 y.1 y.2.1 = some r) : PCall Try.prog C 58 (encAs G [.s, .i .i64] y) (· = (fun (r : List UInt8) => (.s r : SV Th)) r) := by
  obtain ⟨l, n, _⟩ := y
  obtain ⟨⟨h1, h2, h3⟩, h4⟩ := Cm.den_opt (K := (· = r)) h rfl
  simp only at h1 h2 h3
  have h4 : repB l n = r := h4
  subst h4
  obtain ⟨k, rfl⟩ := Int.eq_ofNat_of_zero_le h1
  have h3 : l.length * k ≤ 140737488355328 := h3
  have hsz : (⟨l.toArray⟩ : ByteArray).size = l.length := by simp [ByteArray.size]
  have p : PureCall Try.prog 58 [.v (bytesV l), .v (.int .i64 (k : Int))] (.v (bytesV (repB l k))) :=
    pure_of_calls (vs := [bytesV l, .int .i64 (k : Int)]) call58 rfl fun w => repCalls ⟨l.toArray⟩ k w (by omega) (by rw [hsz]; exact h3)
  exact fun H => (p H).mono fun r H' ⟨k1, k2⟩ => ⟨k2, .s _, k1, rfl, rfl⟩

/-- The chapter's examples hold. -/
theorem awake_pure : PureCall Try.prog 11 [] (.v (.bool true)) := exTrue_pure tabKnows noPrim_says (by rfl) (n := 200) (by kernel_rfl)

theorem en11 : ∀ (y : ATup Th []) (Q : SV Th → Prop), (Cm.ret (SV.b true) : Cm (SV Th)).den Q → ∃ v, Q v ∧ v.shut = true ∧ PCall Try.prog C 11 (encAs G [] y) (· = v) :=
  fun y Q h => ⟨_, h, rfl, fun H => (awake_pure H).mono fun r H' ⟨h1, h2⟩ => ⟨h2, .b true, h1, rfl, rfl⟩⟩

noncomputable def kn0 : KnownF Th := (11, knG G [] fun _ => .ret (.b true)) :: (58, knG G [.s, .i .i64] fun y => .get (f58 y.1 y.2.1) fun r => .ret (.s r)) :: []
theorem ko0 : KnownOk Try.prog C kn0 := KnownOk.add gok (KnownOk.add gok KnownOk.nil (known_opt (enc := fun (r : List UInt8) => (.s r : SV Th)) Q58 (fun _ => rfl))) en11

end Go.Proofs.Act

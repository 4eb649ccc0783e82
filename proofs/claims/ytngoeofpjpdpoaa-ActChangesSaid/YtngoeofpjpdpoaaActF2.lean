/- A part of the proof of ActChanges: ActF2. -/
import Derived.Test.YtngoeofpjpdpoaaActF1
import Derived.KernelRfl
set_option linter.constructorNameAsVariable false
namespace Go.Proofs.Act
open Go Go.Ab Go.Proofs
set_option linter.unusedVariables false
set_option linter.unusedSimpArgs false
set_option maxHeartbeats 4000000
set_option maxRecDepth 100000
-- 67 drover/field.greatest
/-! function 67 -/
def H67 : List (List Nat × Hint) := []
def R67 (a0 : Int) (K : SV Th → Prop) : Prop :=
  (((0 : Int) ≤ IntKind.i64.wrap ((64 : Int) - f33 a0)) ∧ K (.i .u64 (Int.fdiv 18446744073709551615 (2 ^ Min.min (IntKind.i64.wrap (64 - f33 a0)).toNat IntKind.u64.bits))))
theorem E67 (a0 : Int) (K : SV Th → Prop) : (run C tab kn_ActF1 i67.rs 5000 (.ex i67.n i67.code) [] (argsEnv [(.i .i64 (a0))] 0) []).den (LfU Try.prog C i67.rs H67 (.i .u64) K) = R67 (a0) K := by kernel_rfl
theorem S67 (a0 : Int) (K : SV Th → Prop) (h : R67 (a0) K) : PCall Try.prog C 67 [(.i .i64 (a0))] K := PCall.start (P := Try.prog) (C := C) (KN := kn_ActF1) (T := tab) (f := 67) (x := i67) (args := [(.i .i64 (a0))]) (hs := H67) (sh := (.i .u64)) (K := K) gok.ok ko_ActF1 tabKnows k67 (by kernel_rfl) (by kernel_rfl) 5000 (by rw [E67]; exact h)
def f67 (a0 : Int) : Int :=
  (Int.fdiv 18446744073709551615 (2 ^ Min.min (IntKind.i64.wrap (64 - f33 a0)).toNat IntKind.u64.bits))
def p67 (a0 : Int) : Prop :=
  ((0 : Int) ≤ IntKind.i64.wrap ((64 : Int) - f33 a0))
theorem rr67 (a0 : Int) (hp : p67 (a0)) : R67 (a0) (· = (.i .u64 ((f67 (a0))))) :=
  ⟨hp, rfl⟩
theorem Q67 (y : ATup Th [.i .i64]) (hp : p67 (y.1)) : PCall Try.prog C 67 (encAs G [.i .i64] y) (· = (.i .u64 ((f67 (y.1))))) := Eq.mp (by kernel_rfl) (S67 (y.1) _ (rr67 (y.1) hp))
def kf67 (y : ATup Th [.i .i64]) : Cm (SV Th) := .chk (p67 (y.1)) (.ret (.i .u64 ((f67 (y.1)))))
theorem en67 : ∀ (y : ATup Th [.i .i64]) (Q : SV Th → Prop), (kf67 y).den Q → ∃ v, Q v ∧ v.shut = true ∧ PCall Try.prog C 67 (encAs G [.i .i64] y) (· = v) := fun y Q h => ⟨_, h.2, rfl, Q67 y h.1⟩
-- 14 drover/act.Right
/-! function 14 -/
def H14 : List (List Nat × Hint) := []
def R14 (a0 : Action) (K : SV Th → Prop) : Prop :=
  (((decide (a0.Kind = 1)) = true → (((decide (a0.Field = 0)) = true → (((decide (1 ≤ a0.Value)) = true → ((@LE.le Int Int.instLEInt (@OfNat.ofNat Int (nat_lit 0) (@instOfNat (nat_lit 0))) (@OfNat.ofNat Int (nat_lit 32) (@instOfNat (nat_lit 32)))) ∧ K (.b (decide (a0.Value.fdiv (2 ^ Min.min (Int.toNat 32) IntKind.u64.bits) = 0))))) ∧
  ((decide (1 ≤ a0.Value)) = false → K (.b (Bool.false))))) ∧
  ((decide (a0.Field = 0)) = false → K (.b (Bool.false))))) ∧
  ((decide (a0.Kind = 1)) = false → (((decide (a0.Kind = 2)) = true → (((decide (a0.Field = 0)) = true → (((decide (1 ≤ a0.Value)) = true → ((@LE.le Int Int.instLEInt (@OfNat.ofNat Int (nat_lit 0) (@instOfNat (nat_lit 0))) (@OfNat.ofNat Int (nat_lit 32) (@instOfNat (nat_lit 32)))) ∧ K (.b (decide (a0.Value.fdiv (2 ^ Min.min (Int.toNat 32) IntKind.u64.bits) = 0))))) ∧
  ((decide (1 ≤ a0.Value)) = false → K (.b (Bool.false))))) ∧
  ((decide (a0.Field = 0)) = false → K (.b (Bool.false))))) ∧
  ((decide (a0.Kind = 2)) = false → (((decide (a0.Kind = 3)) = true → (((decide (a0.Field = 0)) = true → K (.b (decide (a0.Value = 0)))) ∧
  ((decide (a0.Field = 0)) = false → K (.b (Bool.false))))) ∧
  ((decide (a0.Kind = 3)) = false → (((decide (a0.Kind = 4)) = true → (((decide (a0.Field = 0)) = true → K (.b (decide (a0.Value = 0)))) ∧
  ((decide (a0.Field = 0)) = false → K (.b (Bool.false))))) ∧
  ((decide (a0.Kind = 4)) = false → (((decide (a0.Kind = 5)) = true → (((decide ((0 : Int) < (f32 a0.Field).snd)) = true → (((0 : Int) ≤ f33 a0.Field) ∧ (((decide (a0.Value.fdiv ((2 : Int) ^ Min.min (f33 a0.Field).toNat IntKind.u64.bits) = (0 : Int))) = true → (((!decide (a0.Field = 3)) = true → K (.b (Bool.true))) ∧
  ((!decide (a0.Field = 3)) = false → K (.b (decide (4096 ≤ a0.Value)))))) ∧
  ((decide (a0.Value.fdiv ((2 : Int) ^ Min.min (f33 a0.Field).toNat IntKind.u64.bits) = (0 : Int))) = false → K (.b (Bool.false)))))) ∧
  ((decide ((0 : Int) < (f32 a0.Field).snd)) = false → K (.b (Bool.false))))) ∧
  ((decide (a0.Kind = 5)) = false → K (.b (Bool.false))))))))))))
theorem E14 (a0 : Action) (K : SV Th → Prop) : (run C tab kn_ActF1 i14.rs 5000 (.ex i14.n i14.code) [] (argsEnv [(.agg [(.i .i64 (a0.Kind)), (.i .i64 (a0.Field)), (.i .u64 (a0.Value))])] 0) []).den (LfU Try.prog C i14.rs H14 .b K) = R14 (a0) K := by kernel_rfl
theorem S14 (a0 : Action) (K : SV Th → Prop) (h : R14 (a0) K) : PCall Try.prog C 14 [(.agg [(.i .i64 (a0.Kind)), (.i .i64 (a0.Field)), (.i .u64 (a0.Value))])] K := PCall.start (P := Try.prog) (C := C) (KN := kn_ActF1) (T := tab) (f := 14) (x := i14) (args := [(.agg [(.i .i64 (a0.Kind)), (.i .i64 (a0.Field)), (.i .u64 (a0.Value))])]) (hs := H14) (sh := .b) (K := K) gok.ok ko_ActF1 tabKnows k14 (by kernel_rfl) (by kernel_rfl) 5000 (by rw [E14]; exact h)
def f14 (a0 : Action) : Bool :=
  (bif decide (a0.Kind = 1) then (bif decide (a0.Field = 0) then (bif decide (1 ≤ a0.Value) then (decide (a0.Value.fdiv (2 ^ Min.min (Int.toNat 32) IntKind.u64.bits) = 0))
  else (Bool.false))
  else (Bool.false))
  else (bif decide (a0.Kind = 2) then (bif decide (a0.Field = 0) then (bif decide (1 ≤ a0.Value) then (decide (a0.Value.fdiv (2 ^ Min.min (Int.toNat 32) IntKind.u64.bits) = 0))
  else (Bool.false))
  else (Bool.false))
  else (bif decide (a0.Kind = 3) then (bif decide (a0.Field = 0) then (decide (a0.Value = 0))
  else (Bool.false))
  else (bif decide (a0.Kind = 4) then (bif decide (a0.Field = 0) then (decide (a0.Value = 0))
  else (Bool.false))
  else (bif decide (a0.Kind = 5) then (bif decide ((0 : Int) < (f32 a0.Field).snd) then (bif decide (a0.Value.fdiv ((2 : Int) ^ Min.min (f33 a0.Field).toNat IntKind.u64.bits) = (0 : Int)) then (bif !decide (a0.Field = 3) then (Bool.true)
  else (decide (4096 ≤ a0.Value)))
  else (Bool.false))
  else (Bool.false))
  else (Bool.false))))))
def p14 (a0 : Action) : Prop :=
  (((decide (a0.Kind = 1)) = true → ((decide (a0.Field = 0)) = true → ((decide (1 ≤ a0.Value)) = true → (@LE.le Int Int.instLEInt (@OfNat.ofNat Int (nat_lit 0) (@instOfNat (nat_lit 0))) (@OfNat.ofNat Int (nat_lit 32) (@instOfNat (nat_lit 32))))))) ∧
  ((decide (a0.Kind = 1)) = false → (((decide (a0.Kind = 2)) = true → ((decide (a0.Field = 0)) = true → ((decide (1 ≤ a0.Value)) = true → (@LE.le Int Int.instLEInt (@OfNat.ofNat Int (nat_lit 0) (@instOfNat (nat_lit 0))) (@OfNat.ofNat Int (nat_lit 32) (@instOfNat (nat_lit 32))))))) ∧
  ((decide (a0.Kind = 2)) = false → ((decide (a0.Kind = 3)) = false → ((decide (a0.Kind = 4)) = false → ((decide (a0.Kind = 5)) = true → ((decide ((0 : Int) < (f32 a0.Field).snd)) = true → ((0 : Int) ≤ f33 a0.Field)))))))))
theorem rr14 (a0 : Action) (hp : p14 (a0)) : R14 (a0) (· = (.b ((f14 (a0))))) :=
  ⟨fun h0 => ⟨fun h1 => ⟨fun h2 => ⟨(((hp.1 h0) h1) h2), (by simp only [f14, h0, h1, h2, cond_true, cond_false] <;> rfl)⟩,
  fun h2 => (by simp only [f14, h0, h1, h2, cond_true, cond_false] <;> rfl)⟩,
  fun h1 => (by simp only [f14, h0, h1, cond_true, cond_false] <;> rfl)⟩,
  fun h0 => ⟨fun h1 => ⟨fun h2 => ⟨fun h3 => ⟨((((hp.2 h0).1 h1) h2) h3), (by simp only [f14, h0, h1, h2, h3, cond_true, cond_false] <;> rfl)⟩,
  fun h3 => (by simp only [f14, h0, h1, h2, h3, cond_true, cond_false] <;> rfl)⟩,
  fun h2 => (by simp only [f14, h0, h1, h2, cond_true, cond_false] <;> rfl)⟩,
  fun h1 => ⟨fun h2 => ⟨fun h3 => (by simp only [f14, h0, h1, h2, h3, cond_true, cond_false] <;> rfl),
  fun h3 => (by simp only [f14, h0, h1, h2, h3, cond_true, cond_false] <;> rfl)⟩,
  fun h2 => ⟨fun h3 => ⟨fun h4 => (by simp only [f14, h0, h1, h2, h3, h4, cond_true, cond_false] <;> rfl),
  fun h4 => (by simp only [f14, h0, h1, h2, h3, h4, cond_true, cond_false] <;> rfl)⟩,
  fun h3 => ⟨fun h4 => ⟨fun h5 => ⟨((((((hp.2 h0).2 h1) h2) h3) h4) h5), ⟨fun h6 => ⟨fun h7 => (by simp only [f14, h0, h1, h2, h3, h4, h5, h6, h7, cond_true, cond_false] <;> rfl),
  fun h7 => (by simp only [f14, h0, h1, h2, h3, h4, h5, h6, h7, cond_true, cond_false] <;> rfl)⟩,
  fun h6 => (by simp only [f14, h0, h1, h2, h3, h4, h5, h6, cond_true, cond_false] <;> rfl)⟩⟩,
  fun h5 => (by simp only [f14, h0, h1, h2, h3, h4, h5, cond_true, cond_false] <;> rfl)⟩,
  fun h4 => (by simp only [f14, h0, h1, h2, h3, h4, cond_true, cond_false] <;> rfl)⟩⟩⟩⟩⟩
theorem Q14 (y : ATup Th [.t 31]) (hp : p14 (y.1)) : PCall Try.prog C 14 (encAs G [.t 31] y) (· = (.b ((f14 (y.1))))) := Eq.mp (by kernel_rfl) (S14 (y.1) _ (rr14 (y.1) hp))
def kf14 (y : ATup Th [.t 31]) : Cm (SV Th) := .chk (p14 (y.1)) (.ret (.b ((f14 (y.1)))))
theorem en14 : ∀ (y : ATup Th [.t 31]) (Q : SV Th → Prop), (kf14 y).den Q → ∃ v, Q v ∧ v.shut = true ∧ PCall Try.prog C 14 (encAs G [.t 31] y) (· = v) := fun y Q h => ⟨_, h.2, rfl, Q14 y h.1⟩
def kn_ActF2 : KnownF Th :=
  (67, knG G [.i .i64] kf67) ::
  (14, knG G [.t 31] kf14) ::
  kn_ActF1
theorem ko_ActF2 : KnownOk Try.prog C kn_ActF2 := (KnownOk.add gok (KnownOk.add gok ko_ActF1 (en14)) (en67))
end Go.Proofs.Act

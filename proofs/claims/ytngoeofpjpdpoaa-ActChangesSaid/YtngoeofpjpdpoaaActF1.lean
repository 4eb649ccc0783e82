/- A part of the proof of ActChanges: ActF1. -/
import Derived.Test.YtngoeofpjpdpoaaActXTab
import Derived.Test.YtngoeofpjpdpoaaActTy
import Derived.Test.YtngoeofpjpdpoaaSvKnown
import Derived.KernelRfl
set_option linter.constructorNameAsVariable false
namespace Go.Proofs.Act
open Go Go.Ab Go.Proofs
set_option linter.unusedVariables false
set_option linter.unusedSimpArgs false
set_option maxHeartbeats 4000000
set_option maxRecDepth 100000
-- 33 drover/field.Width
/-! function 33 -/
def H33 : List (List Nat × Hint) := []
def R33 (a0 : Int) (K : SV Th → Prop) : Prop :=
  (((decide (a0 = 2)) = true → K (.i .i64 64)) ∧
  ((decide (a0 = 2)) = false → (((decide (a0 = 1)) = true → K (.i .i64 32)) ∧
  ((decide (a0 = 1)) = false → (((decide (a0 = 5)) = true → K (.i .i64 32)) ∧
  ((decide (a0 = 5)) = false → (((decide (a0 = 6)) = true → K (.i .i64 32)) ∧
  ((decide (a0 = 6)) = false → (((decide (a0 = 4)) = true → K (.i .i64 16)) ∧
  ((decide (a0 = 4)) = false → (((decide (a0 = 8)) = true → K (.i .i64 16)) ∧
  ((decide (a0 = 8)) = false → (((decide (a0 = 9)) = true → K (.i .i64 16)) ∧
  ((decide (a0 = 9)) = false → (((decide (a0 = 3)) = true → K (.i .i64 13)) ∧
  ((decide (a0 = 3)) = false → (((decide (a0 = 7)) = true → K (.i .i64 8)) ∧
  ((decide (a0 = 7)) = false → K (.i .i64 0)))))))))))))))))))
theorem E33 (a0 : Int) (K : SV Th → Prop) : (run C tab ([] : KnownF Th) i33.rs 5000 (.ex i33.n i33.code) [] (argsEnv [(.i .i64 (a0))] 0) []).den (LfU Try.prog C i33.rs H33 (.i .i64) K) = R33 (a0) K := by kernel_rfl
theorem S33 (a0 : Int) (K : SV Th → Prop) (h : R33 (a0) K) : PCall Try.prog C 33 [(.i .i64 (a0))] K := PCall.start (P := Try.prog) (C := C) (KN := ([] : KnownF Th)) (T := tab) (f := 33) (x := i33) (args := [(.i .i64 (a0))]) (hs := H33) (sh := (.i .i64)) (K := K) gok.ok KnownOk.nil tabKnows k33 (by kernel_rfl) (by kernel_rfl) 5000 (by rw [E33]; exact h)
def f33 (a0 : Int) : Int :=
  (bif decide (a0 = 2) then (64)
  else (bif decide (a0 = 1) then (32)
  else (bif decide (a0 = 5) then (32)
  else (bif decide (a0 = 6) then (32)
  else (bif decide (a0 = 4) then (16)
  else (bif decide (a0 = 8) then (16)
  else (bif decide (a0 = 9) then (16)
  else (bif decide (a0 = 3) then (13)
  else (bif decide (a0 = 7) then (8)
  else (0))))))))))
theorem rr33 (a0 : Int) : R33 (a0) (· = (.i .i64 ((f33 (a0))))) :=
  ⟨fun h0 => (by simp only [f33, h0, cond_true, cond_false] <;> rfl),
  fun h0 => ⟨fun h1 => (by simp only [f33, h0, h1, cond_true, cond_false] <;> rfl),
  fun h1 => ⟨fun h2 => (by simp only [f33, h0, h1, h2, cond_true, cond_false] <;> rfl),
  fun h2 => ⟨fun h3 => (by simp only [f33, h0, h1, h2, h3, cond_true, cond_false] <;> rfl),
  fun h3 => ⟨fun h4 => (by simp only [f33, h0, h1, h2, h3, h4, cond_true, cond_false] <;> rfl),
  fun h4 => ⟨fun h5 => (by simp only [f33, h0, h1, h2, h3, h4, h5, cond_true, cond_false] <;> rfl),
  fun h5 => ⟨fun h6 => (by simp only [f33, h0, h1, h2, h3, h4, h5, h6, cond_true, cond_false] <;> rfl),
  fun h6 => ⟨fun h7 => (by simp only [f33, h0, h1, h2, h3, h4, h5, h6, h7, cond_true, cond_false] <;> rfl),
  fun h7 => ⟨fun h8 => (by simp only [f33, h0, h1, h2, h3, h4, h5, h6, h7, h8, cond_true, cond_false] <;> rfl),
  fun h8 => (by simp only [f33, h0, h1, h2, h3, h4, h5, h6, h7, h8, cond_true, cond_false] <;> rfl)⟩⟩⟩⟩⟩⟩⟩⟩⟩
theorem Q33 (y : ATup Th [.i .i64]) : PCall Try.prog C 33 (encAs G [.i .i64] y) (· = (.i .i64 ((f33 (y.1))))) := Eq.mp (by kernel_rfl) (S33 (y.1) _ (rr33 (y.1)))
def kf33 (y : ATup Th [.i .i64]) : Cm (SV Th) := .ret (.i .i64 ((f33 (y.1))))
theorem en33 : ∀ (y : ATup Th [.i .i64]) (Q : SV Th → Prop), (kf33 y).den Q → ∃ v, Q v ∧ v.shut = true ∧ PCall Try.prog C 33 (encAs G [.i .i64] y) (· = v) := fun y Q h => ⟨_, h, rfl, Q33 y⟩
-- 43 drover/field.Push
/-! function 43 -/
def H43 : List (List Nat × Hint) := []
def R43 (a0 : field_Seen) (a1 : Int) (K : SV Th → Prop) : Prop :=
  (((!decide (a0.P.Vlan = 0)) = true → K (.tup [(.agg [(.i .i64 0), (.i .u64 0), (.i .u64 0), (.i .u64 0), (.i .i64 0), (.i .i64 0), (.i .u32 0), (.i .u32 0), (.i .i64 0), (.i .i64 0), (.i .i64 0), (.i .i64 0), (.s ([]))]), (.i .i64 29)])) ∧
  ((!decide (a0.P.Vlan = 0)) = false → (((decide (4096 ≤ a1)) = true → K (.tup [(.agg [(.i .i64 0), (.i .u64 0), (.i .u64 0), (.i .u64 0), (.i .i64 0), (.i .i64 0), (.i .u32 0), (.i .u32 0), (.i .i64 0), (.i .i64 0), (.i .i64 0), (.i .i64 0), (.s ([]))]), (.i .i64 1)])) ∧
  ((decide (4096 ≤ a1)) = false → K (.tup [(.agg [(.i .i64 (a0.In)), (.i .u64 (a0.Meta)), (.i .u64 (a0.P.To)), (.i .u64 (a0.P.From)), (.i .i64 (IntKind.i64.wrap (4096 + IntKind.i64.wrap a1))), (.i .i64 (a0.P.Type_)), (.i .u32 (a0.P.Src)), (.i .u32 (a0.P.Dst)), (.i .i64 (a0.P.Life)), (.i .i64 (a0.P.Proto)), (.i .i64 (a0.P.Sport)), (.i .i64 (a0.P.Dport)), (.s (a0.P.Data))]), (.i .i64 0)])))))
theorem E43 (a0 : field_Seen) (a1 : Int) (K : SV Th → Prop) : (run C tab ([] : KnownF Th) i43.rs 5000 (.ex i43.n i43.code) [] (argsEnv [(.agg [(.i .i64 (a0.In)), (.i .u64 (a0.Meta)), (.i .u64 (a0.P.To)), (.i .u64 (a0.P.From)), (.i .i64 (a0.P.Vlan)), (.i .i64 (a0.P.Type_)), (.i .u32 (a0.P.Src)), (.i .u32 (a0.P.Dst)), (.i .i64 (a0.P.Life)), (.i .i64 (a0.P.Proto)), (.i .i64 (a0.P.Sport)), (.i .i64 (a0.P.Dport)), (.s (a0.P.Data))]), (.i .u64 (a1))] 0) []).den (LfU Try.prog C i43.rs H43 (.tup [(.agg [.i .i64, .i .u64, .i .u64, .i .u64, .i .i64, .i .i64, .i .u32, .i .u32, .i .i64, .i .i64, .i .i64, .i .i64, .s]), (.i .i64)]) K) = R43 (a0) (a1) K := by kernel_rfl
theorem S43 (a0 : field_Seen) (a1 : Int) (K : SV Th → Prop) (h : R43 (a0) (a1) K) : PCall Try.prog C 43 [(.agg [(.i .i64 (a0.In)), (.i .u64 (a0.Meta)), (.i .u64 (a0.P.To)), (.i .u64 (a0.P.From)), (.i .i64 (a0.P.Vlan)), (.i .i64 (a0.P.Type_)), (.i .u32 (a0.P.Src)), (.i .u32 (a0.P.Dst)), (.i .i64 (a0.P.Life)), (.i .i64 (a0.P.Proto)), (.i .i64 (a0.P.Sport)), (.i .i64 (a0.P.Dport)), (.s (a0.P.Data))]), (.i .u64 (a1))] K := PCall.start (P := Try.prog) (C := C) (KN := ([] : KnownF Th)) (T := tab) (f := 43) (x := i43) (args := [(.agg [(.i .i64 (a0.In)), (.i .u64 (a0.Meta)), (.i .u64 (a0.P.To)), (.i .u64 (a0.P.From)), (.i .i64 (a0.P.Vlan)), (.i .i64 (a0.P.Type_)), (.i .u32 (a0.P.Src)), (.i .u32 (a0.P.Dst)), (.i .i64 (a0.P.Life)), (.i .i64 (a0.P.Proto)), (.i .i64 (a0.P.Sport)), (.i .i64 (a0.P.Dport)), (.s (a0.P.Data))]), (.i .u64 (a1))]) (hs := H43) (sh := (.tup [(.agg [.i .i64, .i .u64, .i .u64, .i .u64, .i .i64, .i .i64, .i .u32, .i .u32, .i .i64, .i .i64, .i .i64, .i .i64, .s]), (.i .i64)])) (K := K) gok.ok KnownOk.nil tabKnows k43 (by kernel_rfl) (by kernel_rfl) 5000 (by rw [E43]; exact h)
def f43 (a0 : field_Seen) (a1 : Int) : field_Seen × Int :=
  (bif !decide (a0.P.Vlan = 0) then (⟨(0), (0), ⟨(0), (0), (0), (0), (0), (0), (0), (0), (0), (0), ([])⟩⟩, (29))
  else (bif decide (4096 ≤ a1) then (⟨(0), (0), ⟨(0), (0), (0), (0), (0), (0), (0), (0), (0), (0), ([])⟩⟩, (1))
  else (⟨(a0.In), (a0.Meta), ⟨(a0.P.To), (a0.P.From), (IntKind.i64.wrap (4096 + IntKind.i64.wrap a1)), (a0.P.Type_), (a0.P.Src), (a0.P.Dst), (a0.P.Life), (a0.P.Proto), (a0.P.Sport), (a0.P.Dport), (a0.P.Data)⟩⟩, (0))))
theorem rr43 (a0 : field_Seen) (a1 : Int) : R43 (a0) (a1) (· = (.tup [(.agg (cellsG (G.ty 41) (G.to 41 ((f43 (a0) (a1)).1)))), (.i .i64 ((f43 (a0) (a1)).2))])) :=
  ⟨fun h0 => (by simp only [f43, h0, cond_true, cond_false] <;> rfl),
  fun h0 => ⟨fun h1 => (by simp only [f43, h0, h1, cond_true, cond_false] <;> rfl),
  fun h1 => (by simp only [f43, h0, h1, cond_true, cond_false] <;> rfl)⟩⟩
theorem Q43 (y : ATup Th [.t 41, .i .u64]) : PCall Try.prog C 43 (encAs G [.t 41, .i .u64] y) (· = (.tup [(.agg (cellsG (G.ty 41) (G.to 41 ((f43 (y.1) (y.2.1)).1)))), (.i .i64 ((f43 (y.1) (y.2.1)).2))])) := Eq.mp (by kernel_rfl) (S43 (y.1) (y.2.1) _ (rr43 (y.1) (y.2.1)))
def kf43 (y : ATup Th [.t 41, .i .u64]) : Cm (SV Th) := .ret (.tup [(.agg (cellsG (G.ty 41) (G.to 41 ((f43 (y.1) (y.2.1)).1)))), (.i .i64 ((f43 (y.1) (y.2.1)).2))])
theorem en43 : ∀ (y : ATup Th [.t 41, .i .u64]) (Q : SV Th → Prop), (kf43 y).den Q → ∃ v, Q v ∧ v.shut = true ∧ PCall Try.prog C 43 (encAs G [.t 41, .i .u64] y) (· = v) := fun y Q h => ⟨_, h, rfl, Q43 y⟩
-- 44 drover/field.Pop
/-! function 44 -/
def H44 : List (List Nat × Hint) := []
def R44 (a0 : field_Seen) (K : SV Th → Prop) : Prop :=
  (((decide (a0.P.Vlan = 0)) = true → K (.tup [(.agg [(.i .i64 0), (.i .u64 0), (.i .u64 0), (.i .u64 0), (.i .i64 0), (.i .i64 0), (.i .u32 0), (.i .u32 0), (.i .i64 0), (.i .i64 0), (.i .i64 0), (.i .i64 0), (.s ([]))]), (.i .i64 31)])) ∧
  ((decide (a0.P.Vlan = 0)) = false → K (.tup [(.agg [(.i .i64 (a0.In)), (.i .u64 (a0.Meta)), (.i .u64 (a0.P.To)), (.i .u64 (a0.P.From)), (.i .i64 0), (.i .i64 (a0.P.Type_)), (.i .u32 (a0.P.Src)), (.i .u32 (a0.P.Dst)), (.i .i64 (a0.P.Life)), (.i .i64 (a0.P.Proto)), (.i .i64 (a0.P.Sport)), (.i .i64 (a0.P.Dport)), (.s (a0.P.Data))]), (.i .i64 0)])))
theorem E44 (a0 : field_Seen) (K : SV Th → Prop) : (run C tab ([] : KnownF Th) i44.rs 5000 (.ex i44.n i44.code) [] (argsEnv [(.agg [(.i .i64 (a0.In)), (.i .u64 (a0.Meta)), (.i .u64 (a0.P.To)), (.i .u64 (a0.P.From)), (.i .i64 (a0.P.Vlan)), (.i .i64 (a0.P.Type_)), (.i .u32 (a0.P.Src)), (.i .u32 (a0.P.Dst)), (.i .i64 (a0.P.Life)), (.i .i64 (a0.P.Proto)), (.i .i64 (a0.P.Sport)), (.i .i64 (a0.P.Dport)), (.s (a0.P.Data))])] 0) []).den (LfU Try.prog C i44.rs H44 (.tup [(.agg [.i .i64, .i .u64, .i .u64, .i .u64, .i .i64, .i .i64, .i .u32, .i .u32, .i .i64, .i .i64, .i .i64, .i .i64, .s]), (.i .i64)]) K) = R44 (a0) K := by kernel_rfl
theorem S44 (a0 : field_Seen) (K : SV Th → Prop) (h : R44 (a0) K) : PCall Try.prog C 44 [(.agg [(.i .i64 (a0.In)), (.i .u64 (a0.Meta)), (.i .u64 (a0.P.To)), (.i .u64 (a0.P.From)), (.i .i64 (a0.P.Vlan)), (.i .i64 (a0.P.Type_)), (.i .u32 (a0.P.Src)), (.i .u32 (a0.P.Dst)), (.i .i64 (a0.P.Life)), (.i .i64 (a0.P.Proto)), (.i .i64 (a0.P.Sport)), (.i .i64 (a0.P.Dport)), (.s (a0.P.Data))])] K := PCall.start (P := Try.prog) (C := C) (KN := ([] : KnownF Th)) (T := tab) (f := 44) (x := i44) (args := [(.agg [(.i .i64 (a0.In)), (.i .u64 (a0.Meta)), (.i .u64 (a0.P.To)), (.i .u64 (a0.P.From)), (.i .i64 (a0.P.Vlan)), (.i .i64 (a0.P.Type_)), (.i .u32 (a0.P.Src)), (.i .u32 (a0.P.Dst)), (.i .i64 (a0.P.Life)), (.i .i64 (a0.P.Proto)), (.i .i64 (a0.P.Sport)), (.i .i64 (a0.P.Dport)), (.s (a0.P.Data))])]) (hs := H44) (sh := (.tup [(.agg [.i .i64, .i .u64, .i .u64, .i .u64, .i .i64, .i .i64, .i .u32, .i .u32, .i .i64, .i .i64, .i .i64, .i .i64, .s]), (.i .i64)])) (K := K) gok.ok KnownOk.nil tabKnows k44 (by kernel_rfl) (by kernel_rfl) 5000 (by rw [E44]; exact h)
def f44 (a0 : field_Seen) : field_Seen × Int :=
  (bif decide (a0.P.Vlan = 0) then (⟨(0), (0), ⟨(0), (0), (0), (0), (0), (0), (0), (0), (0), (0), ([])⟩⟩, (31))
  else (⟨(a0.In), (a0.Meta), ⟨(a0.P.To), (a0.P.From), (0), (a0.P.Type_), (a0.P.Src), (a0.P.Dst), (a0.P.Life), (a0.P.Proto), (a0.P.Sport), (a0.P.Dport), (a0.P.Data)⟩⟩, (0)))
theorem rr44 (a0 : field_Seen) : R44 (a0) (· = (.tup [(.agg (cellsG (G.ty 41) (G.to 41 ((f44 (a0)).1)))), (.i .i64 ((f44 (a0)).2))])) :=
  ⟨fun h0 => (by simp only [f44, h0, cond_true, cond_false] <;> rfl),
  fun h0 => (by simp only [f44, h0, cond_true, cond_false] <;> rfl)⟩
theorem Q44 (y : ATup Th [.t 41]) : PCall Try.prog C 44 (encAs G [.t 41] y) (· = (.tup [(.agg (cellsG (G.ty 41) (G.to 41 ((f44 (y.1)).1)))), (.i .i64 ((f44 (y.1)).2))])) := Eq.mp (by kernel_rfl) (S44 (y.1) _ (rr44 (y.1)))
def kf44 (y : ATup Th [.t 41]) : Cm (SV Th) := .ret (.tup [(.agg (cellsG (G.ty 41) (G.to 41 ((f44 (y.1)).1)))), (.i .i64 ((f44 (y.1)).2))])
theorem en44 : ∀ (y : ATup Th [.t 41]) (Q : SV Th → Prop), (kf44 y).den Q → ∃ v, Q v ∧ v.shut = true ∧ PCall Try.prog C 44 (encAs G [.t 41] y) (· = v) := fun y Q h => ⟨_, h, rfl, Q44 y⟩
-- 46 drover/droverref04.Push
/-! function 46 -/
def H46 : List (List Nat × Hint) := []
def R46 (a0 : droverref04_Seen) (a1 : Int) (K : SV Th → Prop) : Prop :=
  (((!decide (a0.P.Vlan = 0)) = true → K (.tup [(.agg [(.i .i64 0), (.i .u64 0), (.i .u64 0), (.i .u64 0), (.i .i64 0), (.i .i64 0), (.i .u32 0), (.i .u32 0), (.i .i64 0), (.i .i64 0), (.i .i64 0), (.i .i64 0), (.s ([]))]), (.i .i64 29)])) ∧
  ((!decide (a0.P.Vlan = 0)) = false → (((decide (4095 < a1)) = true → K (.tup [(.agg [(.i .i64 0), (.i .u64 0), (.i .u64 0), (.i .u64 0), (.i .i64 0), (.i .i64 0), (.i .u32 0), (.i .u32 0), (.i .i64 0), (.i .i64 0), (.i .i64 0), (.i .i64 0), (.s ([]))]), (.i .i64 1)])) ∧
  ((decide (4095 < a1)) = false → K (.tup [(.agg [(.i .i64 (a0.In)), (.i .u64 (a0.Meta)), (.i .u64 (a0.P.To)), (.i .u64 (a0.P.From)), (.i .i64 (IntKind.i64.wrap (4096 + IntKind.i64.wrap a1))), (.i .i64 (a0.P.Type_)), (.i .u32 (a0.P.Src)), (.i .u32 (a0.P.Dst)), (.i .i64 (a0.P.Life)), (.i .i64 (a0.P.Proto)), (.i .i64 (a0.P.Sport)), (.i .i64 (a0.P.Dport)), (.s (a0.P.Data))]), (.i .i64 0)])))))
theorem E46 (a0 : droverref04_Seen) (a1 : Int) (K : SV Th → Prop) : (run C tab ([] : KnownF Th) i46.rs 5000 (.ex i46.n i46.code) [] (argsEnv [(.agg [(.i .i64 (a0.In)), (.i .u64 (a0.Meta)), (.i .u64 (a0.P.To)), (.i .u64 (a0.P.From)), (.i .i64 (a0.P.Vlan)), (.i .i64 (a0.P.Type_)), (.i .u32 (a0.P.Src)), (.i .u32 (a0.P.Dst)), (.i .i64 (a0.P.Life)), (.i .i64 (a0.P.Proto)), (.i .i64 (a0.P.Sport)), (.i .i64 (a0.P.Dport)), (.s (a0.P.Data))]), (.i .u64 (a1))] 0) []).den (LfU Try.prog C i46.rs H46 (.tup [(.agg [.i .i64, .i .u64, .i .u64, .i .u64, .i .i64, .i .i64, .i .u32, .i .u32, .i .i64, .i .i64, .i .i64, .i .i64, .s]), (.i .i64)]) K) = R46 (a0) (a1) K := by kernel_rfl
theorem S46 (a0 : droverref04_Seen) (a1 : Int) (K : SV Th → Prop) (h : R46 (a0) (a1) K) : PCall Try.prog C 46 [(.agg [(.i .i64 (a0.In)), (.i .u64 (a0.Meta)), (.i .u64 (a0.P.To)), (.i .u64 (a0.P.From)), (.i .i64 (a0.P.Vlan)), (.i .i64 (a0.P.Type_)), (.i .u32 (a0.P.Src)), (.i .u32 (a0.P.Dst)), (.i .i64 (a0.P.Life)), (.i .i64 (a0.P.Proto)), (.i .i64 (a0.P.Sport)), (.i .i64 (a0.P.Dport)), (.s (a0.P.Data))]), (.i .u64 (a1))] K := PCall.start (P := Try.prog) (C := C) (KN := ([] : KnownF Th)) (T := tab) (f := 46) (x := i46) (args := [(.agg [(.i .i64 (a0.In)), (.i .u64 (a0.Meta)), (.i .u64 (a0.P.To)), (.i .u64 (a0.P.From)), (.i .i64 (a0.P.Vlan)), (.i .i64 (a0.P.Type_)), (.i .u32 (a0.P.Src)), (.i .u32 (a0.P.Dst)), (.i .i64 (a0.P.Life)), (.i .i64 (a0.P.Proto)), (.i .i64 (a0.P.Sport)), (.i .i64 (a0.P.Dport)), (.s (a0.P.Data))]), (.i .u64 (a1))]) (hs := H46) (sh := (.tup [(.agg [.i .i64, .i .u64, .i .u64, .i .u64, .i .i64, .i .i64, .i .u32, .i .u32, .i .i64, .i .i64, .i .i64, .i .i64, .s]), (.i .i64)])) (K := K) gok.ok KnownOk.nil tabKnows k46 (by kernel_rfl) (by kernel_rfl) 5000 (by rw [E46]; exact h)
def f46 (a0 : droverref04_Seen) (a1 : Int) : droverref04_Seen × Int :=
  (bif !decide (a0.P.Vlan = 0) then (⟨(0), (0), ⟨(0), (0), (0), (0), (0), (0), (0), (0), (0), (0), ([])⟩⟩, (29))
  else (bif decide (4095 < a1) then (⟨(0), (0), ⟨(0), (0), (0), (0), (0), (0), (0), (0), (0), (0), ([])⟩⟩, (1))
  else (⟨(a0.In), (a0.Meta), ⟨(a0.P.To), (a0.P.From), (IntKind.i64.wrap (4096 + IntKind.i64.wrap a1)), (a0.P.Type_), (a0.P.Src), (a0.P.Dst), (a0.P.Life), (a0.P.Proto), (a0.P.Sport), (a0.P.Dport), (a0.P.Data)⟩⟩, (0))))
theorem rr46 (a0 : droverref04_Seen) (a1 : Int) : R46 (a0) (a1) (· = (.tup [(.agg (cellsG (G.ty 42) (G.to 42 ((f46 (a0) (a1)).1)))), (.i .i64 ((f46 (a0) (a1)).2))])) :=
  ⟨fun h0 => (by simp only [f46, h0, cond_true, cond_false] <;> rfl),
  fun h0 => ⟨fun h1 => (by simp only [f46, h0, h1, cond_true, cond_false] <;> rfl),
  fun h1 => (by simp only [f46, h0, h1, cond_true, cond_false] <;> rfl)⟩⟩
theorem Q46 (y : ATup Th [.t 42, .i .u64]) : PCall Try.prog C 46 (encAs G [.t 42, .i .u64] y) (· = (.tup [(.agg (cellsG (G.ty 42) (G.to 42 ((f46 (y.1) (y.2.1)).1)))), (.i .i64 ((f46 (y.1) (y.2.1)).2))])) := Eq.mp (by kernel_rfl) (S46 (y.1) (y.2.1) _ (rr46 (y.1) (y.2.1)))
def kf46 (y : ATup Th [.t 42, .i .u64]) : Cm (SV Th) := .ret (.tup [(.agg (cellsG (G.ty 42) (G.to 42 ((f46 (y.1) (y.2.1)).1)))), (.i .i64 ((f46 (y.1) (y.2.1)).2))])
theorem en46 : ∀ (y : ATup Th [.t 42, .i .u64]) (Q : SV Th → Prop), (kf46 y).den Q → ∃ v, Q v ∧ v.shut = true ∧ PCall Try.prog C 46 (encAs G [.t 42, .i .u64] y) (· = v) := fun y Q h => ⟨_, h, rfl, Q46 y⟩
-- 47 drover/droverref04.Pop
/-! function 47 -/
def H47 : List (List Nat × Hint) := []
def R47 (a0 : droverref04_Seen) (K : SV Th → Prop) : Prop :=
  (((decide (a0.P.Vlan = 0)) = true → K (.tup [(.agg [(.i .i64 0), (.i .u64 0), (.i .u64 0), (.i .u64 0), (.i .i64 0), (.i .i64 0), (.i .u32 0), (.i .u32 0), (.i .i64 0), (.i .i64 0), (.i .i64 0), (.i .i64 0), (.s ([]))]), (.i .i64 31)])) ∧
  ((decide (a0.P.Vlan = 0)) = false → K (.tup [(.agg [(.i .i64 (a0.In)), (.i .u64 (a0.Meta)), (.i .u64 (a0.P.To)), (.i .u64 (a0.P.From)), (.i .i64 0), (.i .i64 (a0.P.Type_)), (.i .u32 (a0.P.Src)), (.i .u32 (a0.P.Dst)), (.i .i64 (a0.P.Life)), (.i .i64 (a0.P.Proto)), (.i .i64 (a0.P.Sport)), (.i .i64 (a0.P.Dport)), (.s (a0.P.Data))]), (.i .i64 0)])))
theorem E47 (a0 : droverref04_Seen) (K : SV Th → Prop) : (run C tab ([] : KnownF Th) i47.rs 5000 (.ex i47.n i47.code) [] (argsEnv [(.agg [(.i .i64 (a0.In)), (.i .u64 (a0.Meta)), (.i .u64 (a0.P.To)), (.i .u64 (a0.P.From)), (.i .i64 (a0.P.Vlan)), (.i .i64 (a0.P.Type_)), (.i .u32 (a0.P.Src)), (.i .u32 (a0.P.Dst)), (.i .i64 (a0.P.Life)), (.i .i64 (a0.P.Proto)), (.i .i64 (a0.P.Sport)), (.i .i64 (a0.P.Dport)), (.s (a0.P.Data))])] 0) []).den (LfU Try.prog C i47.rs H47 (.tup [(.agg [.i .i64, .i .u64, .i .u64, .i .u64, .i .i64, .i .i64, .i .u32, .i .u32, .i .i64, .i .i64, .i .i64, .i .i64, .s]), (.i .i64)]) K) = R47 (a0) K := by kernel_rfl
theorem S47 (a0 : droverref04_Seen) (K : SV Th → Prop) (h : R47 (a0) K) : PCall Try.prog C 47 [(.agg [(.i .i64 (a0.In)), (.i .u64 (a0.Meta)), (.i .u64 (a0.P.To)), (.i .u64 (a0.P.From)), (.i .i64 (a0.P.Vlan)), (.i .i64 (a0.P.Type_)), (.i .u32 (a0.P.Src)), (.i .u32 (a0.P.Dst)), (.i .i64 (a0.P.Life)), (.i .i64 (a0.P.Proto)), (.i .i64 (a0.P.Sport)), (.i .i64 (a0.P.Dport)), (.s (a0.P.Data))])] K := PCall.start (P := Try.prog) (C := C) (KN := ([] : KnownF Th)) (T := tab) (f := 47) (x := i47) (args := [(.agg [(.i .i64 (a0.In)), (.i .u64 (a0.Meta)), (.i .u64 (a0.P.To)), (.i .u64 (a0.P.From)), (.i .i64 (a0.P.Vlan)), (.i .i64 (a0.P.Type_)), (.i .u32 (a0.P.Src)), (.i .u32 (a0.P.Dst)), (.i .i64 (a0.P.Life)), (.i .i64 (a0.P.Proto)), (.i .i64 (a0.P.Sport)), (.i .i64 (a0.P.Dport)), (.s (a0.P.Data))])]) (hs := H47) (sh := (.tup [(.agg [.i .i64, .i .u64, .i .u64, .i .u64, .i .i64, .i .i64, .i .u32, .i .u32, .i .i64, .i .i64, .i .i64, .i .i64, .s]), (.i .i64)])) (K := K) gok.ok KnownOk.nil tabKnows k47 (by kernel_rfl) (by kernel_rfl) 5000 (by rw [E47]; exact h)
def f47 (a0 : droverref04_Seen) : droverref04_Seen × Int :=
  (bif decide (a0.P.Vlan = 0) then (⟨(0), (0), ⟨(0), (0), (0), (0), (0), (0), (0), (0), (0), (0), ([])⟩⟩, (31))
  else (⟨(a0.In), (a0.Meta), ⟨(a0.P.To), (a0.P.From), (0), (a0.P.Type_), (a0.P.Src), (a0.P.Dst), (a0.P.Life), (a0.P.Proto), (a0.P.Sport), (a0.P.Dport), (a0.P.Data)⟩⟩, (0)))
theorem rr47 (a0 : droverref04_Seen) : R47 (a0) (· = (.tup [(.agg (cellsG (G.ty 42) (G.to 42 ((f47 (a0)).1)))), (.i .i64 ((f47 (a0)).2))])) :=
  ⟨fun h0 => (by simp only [f47, h0, cond_true, cond_false] <;> rfl),
  fun h0 => (by simp only [f47, h0, cond_true, cond_false] <;> rfl)⟩
theorem Q47 (y : ATup Th [.t 42]) : PCall Try.prog C 47 (encAs G [.t 42] y) (· = (.tup [(.agg (cellsG (G.ty 42) (G.to 42 ((f47 (y.1)).1)))), (.i .i64 ((f47 (y.1)).2))])) := Eq.mp (by kernel_rfl) (S47 (y.1) _ (rr47 (y.1)))
def kf47 (y : ATup Th [.t 42]) : Cm (SV Th) := .ret (.tup [(.agg (cellsG (G.ty 42) (G.to 42 ((f47 (y.1)).1)))), (.i .i64 ((f47 (y.1)).2))])
theorem en47 : ∀ (y : ATup Th [.t 42]) (Q : SV Th → Prop), (kf47 y).den Q → ∃ v, Q v ∧ v.shut = true ∧ PCall Try.prog C 47 (encAs G [.t 42] y) (· = v) := fun y Q h => ⟨_, h, rfl, Q47 y⟩
-- 66 (drover/field.Seen).has
/-! function 66 -/
def H66 : List (List Nat × Hint) := []
def R66 (a0 : field_Seen) (a1 : Int) (K : SV Th → Prop) : Prop :=
  (((decide (a1 = 1)) = true → K (.b (Bool.true))) ∧
  ((decide (a1 = 1)) = false → (((decide (a1 = 2)) = true → K (.b (Bool.true))) ∧
  ((decide (a1 = 2)) = false → (((decide (a1 = 3)) = true → K (.b (Bool.true))) ∧
  ((decide (a1 = 3)) = false → (((decide (a1 = 4)) = true → K (.b (Bool.true))) ∧
  ((decide (a1 = 4)) = false → (((decide (a1 = 5)) = true → K (.b (decide (a0.P.Type_ = 2048)))) ∧
  ((decide (a1 = 5)) = false → (((decide (a1 = 6)) = true → K (.b (decide (a0.P.Type_ = 2048)))) ∧
  ((decide (a1 = 6)) = false → (((decide (a1 = 7)) = true → K (.b (decide (a0.P.Type_ = 2048)))) ∧
  ((decide (a1 = 7)) = false → (((decide (a1 = 8)) = true → (((decide (a0.P.Type_ = 2048)) = true → (((decide (a0.P.Proto = 6)) = true → K (.b (Bool.true))) ∧
  ((decide (a0.P.Proto = 6)) = false → K (.b (decide (a0.P.Proto = 17)))))) ∧
  ((decide (a0.P.Type_ = 2048)) = false → K (.b (Bool.false))))) ∧
  ((decide (a1 = 8)) = false → (((decide (a1 = 9)) = true → (((decide (a0.P.Type_ = 2048)) = true → (((decide (a0.P.Proto = 6)) = true → K (.b (Bool.true))) ∧
  ((decide (a0.P.Proto = 6)) = false → K (.b (decide (a0.P.Proto = 17)))))) ∧
  ((decide (a0.P.Type_ = 2048)) = false → K (.b (Bool.false))))) ∧
  ((decide (a1 = 9)) = false → K (.b (Bool.false))))))))))))))))))))
theorem E66 (a0 : field_Seen) (a1 : Int) (K : SV Th → Prop) : (run C tab ([] : KnownF Th) i66.rs 5000 (.ex i66.n i66.code) [] (argsEnv [(.agg [(.i .i64 (a0.In)), (.i .u64 (a0.Meta)), (.i .u64 (a0.P.To)), (.i .u64 (a0.P.From)), (.i .i64 (a0.P.Vlan)), (.i .i64 (a0.P.Type_)), (.i .u32 (a0.P.Src)), (.i .u32 (a0.P.Dst)), (.i .i64 (a0.P.Life)), (.i .i64 (a0.P.Proto)), (.i .i64 (a0.P.Sport)), (.i .i64 (a0.P.Dport)), (.s (a0.P.Data))]), (.i .i64 (a1))] 0) []).den (LfU Try.prog C i66.rs H66 .b K) = R66 (a0) (a1) K := by kernel_rfl
theorem S66 (a0 : field_Seen) (a1 : Int) (K : SV Th → Prop) (h : R66 (a0) (a1) K) : PCall Try.prog C 66 [(.agg [(.i .i64 (a0.In)), (.i .u64 (a0.Meta)), (.i .u64 (a0.P.To)), (.i .u64 (a0.P.From)), (.i .i64 (a0.P.Vlan)), (.i .i64 (a0.P.Type_)), (.i .u32 (a0.P.Src)), (.i .u32 (a0.P.Dst)), (.i .i64 (a0.P.Life)), (.i .i64 (a0.P.Proto)), (.i .i64 (a0.P.Sport)), (.i .i64 (a0.P.Dport)), (.s (a0.P.Data))]), (.i .i64 (a1))] K := PCall.start (P := Try.prog) (C := C) (KN := ([] : KnownF Th)) (T := tab) (f := 66) (x := i66) (args := [(.agg [(.i .i64 (a0.In)), (.i .u64 (a0.Meta)), (.i .u64 (a0.P.To)), (.i .u64 (a0.P.From)), (.i .i64 (a0.P.Vlan)), (.i .i64 (a0.P.Type_)), (.i .u32 (a0.P.Src)), (.i .u32 (a0.P.Dst)), (.i .i64 (a0.P.Life)), (.i .i64 (a0.P.Proto)), (.i .i64 (a0.P.Sport)), (.i .i64 (a0.P.Dport)), (.s (a0.P.Data))]), (.i .i64 (a1))]) (hs := H66) (sh := .b) (K := K) gok.ok KnownOk.nil tabKnows k66 (by kernel_rfl) (by kernel_rfl) 5000 (by rw [E66]; exact h)
def f66 (a0 : field_Seen) (a1 : Int) : Bool :=
  (bif decide (a1 = 1) then (Bool.true)
  else (bif decide (a1 = 2) then (Bool.true)
  else (bif decide (a1 = 3) then (Bool.true)
  else (bif decide (a1 = 4) then (Bool.true)
  else (bif decide (a1 = 5) then (decide (a0.P.Type_ = 2048))
  else (bif decide (a1 = 6) then (decide (a0.P.Type_ = 2048))
  else (bif decide (a1 = 7) then (decide (a0.P.Type_ = 2048))
  else (bif decide (a1 = 8) then (bif decide (a0.P.Type_ = 2048) then (bif decide (a0.P.Proto = 6) then (Bool.true)
  else (decide (a0.P.Proto = 17)))
  else (Bool.false))
  else (bif decide (a1 = 9) then (bif decide (a0.P.Type_ = 2048) then (bif decide (a0.P.Proto = 6) then (Bool.true)
  else (decide (a0.P.Proto = 17)))
  else (Bool.false))
  else (Bool.false))))))))))
theorem rr66 (a0 : field_Seen) (a1 : Int) : R66 (a0) (a1) (· = (.b ((f66 (a0) (a1))))) :=
  ⟨fun h0 => (by simp only [f66, h0, cond_true, cond_false] <;> rfl),
  fun h0 => ⟨fun h1 => (by simp only [f66, h0, h1, cond_true, cond_false] <;> rfl),
  fun h1 => ⟨fun h2 => (by simp only [f66, h0, h1, h2, cond_true, cond_false] <;> rfl),
  fun h2 => ⟨fun h3 => (by simp only [f66, h0, h1, h2, h3, cond_true, cond_false] <;> rfl),
  fun h3 => ⟨fun h4 => (by simp only [f66, h0, h1, h2, h3, h4, cond_true, cond_false] <;> rfl),
  fun h4 => ⟨fun h5 => (by simp only [f66, h0, h1, h2, h3, h4, h5, cond_true, cond_false] <;> rfl),
  fun h5 => ⟨fun h6 => (by simp only [f66, h0, h1, h2, h3, h4, h5, h6, cond_true, cond_false] <;> rfl),
  fun h6 => ⟨fun h7 => ⟨fun h8 => ⟨fun h9 => (by simp only [f66, h0, h1, h2, h3, h4, h5, h6, h7, h8, h9, cond_true, cond_false] <;> rfl),
  fun h9 => (by simp only [f66, h0, h1, h2, h3, h4, h5, h6, h7, h8, h9, cond_true, cond_false] <;> rfl)⟩,
  fun h8 => (by simp only [f66, h0, h1, h2, h3, h4, h5, h6, h7, h8, cond_true, cond_false] <;> rfl)⟩,
  fun h7 => ⟨fun h8 => ⟨fun h9 => ⟨fun h10 => (by simp only [f66, h0, h1, h2, h3, h4, h5, h6, h7, h8, h9, h10, cond_true, cond_false] <;> rfl),
  fun h10 => (by simp only [f66, h0, h1, h2, h3, h4, h5, h6, h7, h8, h9, h10, cond_true, cond_false] <;> rfl)⟩,
  fun h9 => (by simp only [f66, h0, h1, h2, h3, h4, h5, h6, h7, h8, h9, cond_true, cond_false] <;> rfl)⟩,
  fun h8 => (by simp only [f66, h0, h1, h2, h3, h4, h5, h6, h7, h8, cond_true, cond_false] <;> rfl)⟩⟩⟩⟩⟩⟩⟩⟩⟩
theorem Q66 (y : ATup Th [.t 41, .i .i64]) : PCall Try.prog C 66 (encAs G [.t 41, .i .i64] y) (· = (.b ((f66 (y.1) (y.2.1))))) := Eq.mp (by kernel_rfl) (S66 (y.1) (y.2.1) _ (rr66 (y.1) (y.2.1)))
def kf66 (y : ATup Th [.t 41, .i .i64]) : Cm (SV Th) := .ret (.b ((f66 (y.1) (y.2.1))))
theorem en66 : ∀ (y : ATup Th [.t 41, .i .i64]) (Q : SV Th → Prop), (kf66 y).den Q → ∃ v, Q v ∧ v.shut = true ∧ PCall Try.prog C 66 (encAs G [.t 41, .i .i64] y) (· = v) := fun y Q h => ⟨_, h, rfl, Q66 y⟩
-- 68 drover/droverref04.Has
/-! function 68 -/
def H68 : List (List Nat × Hint) := []
def R68 (a0 : droverref04_Seen) (a1 : Int) (K : SV Th → Prop) : Prop :=
  (((decide (a1 < 1)) = true → K (.b (Bool.false))) ∧
  ((decide (a1 < 1)) = false → (((decide (9 < a1)) = true → K (.b (Bool.false))) ∧
  ((decide (9 < a1)) = false → (((decide (a1 ≤ 4)) = true → K (.b (Bool.true))) ∧
  ((decide (a1 ≤ 4)) = false → (((!decide (a0.P.Type_ = 2048)) = true → K (.b (Bool.false))) ∧
  ((!decide (a0.P.Type_ = 2048)) = false → (((decide (a1 ≤ 7)) = true → K (.b (Bool.true))) ∧
  ((decide (a1 ≤ 7)) = false → (((decide (a0.P.Proto = 6)) = true → K (.b (Bool.true))) ∧
  ((decide (a0.P.Proto = 6)) = false → K (.b (decide (a0.P.Proto = 17)))))))))))))))
theorem E68 (a0 : droverref04_Seen) (a1 : Int) (K : SV Th → Prop) : (run C tab ([] : KnownF Th) i68.rs 5000 (.ex i68.n i68.code) [] (argsEnv [(.agg [(.i .i64 (a0.In)), (.i .u64 (a0.Meta)), (.i .u64 (a0.P.To)), (.i .u64 (a0.P.From)), (.i .i64 (a0.P.Vlan)), (.i .i64 (a0.P.Type_)), (.i .u32 (a0.P.Src)), (.i .u32 (a0.P.Dst)), (.i .i64 (a0.P.Life)), (.i .i64 (a0.P.Proto)), (.i .i64 (a0.P.Sport)), (.i .i64 (a0.P.Dport)), (.s (a0.P.Data))]), (.i .i64 (a1))] 0) []).den (LfU Try.prog C i68.rs H68 .b K) = R68 (a0) (a1) K := by kernel_rfl
theorem S68 (a0 : droverref04_Seen) (a1 : Int) (K : SV Th → Prop) (h : R68 (a0) (a1) K) : PCall Try.prog C 68 [(.agg [(.i .i64 (a0.In)), (.i .u64 (a0.Meta)), (.i .u64 (a0.P.To)), (.i .u64 (a0.P.From)), (.i .i64 (a0.P.Vlan)), (.i .i64 (a0.P.Type_)), (.i .u32 (a0.P.Src)), (.i .u32 (a0.P.Dst)), (.i .i64 (a0.P.Life)), (.i .i64 (a0.P.Proto)), (.i .i64 (a0.P.Sport)), (.i .i64 (a0.P.Dport)), (.s (a0.P.Data))]), (.i .i64 (a1))] K := PCall.start (P := Try.prog) (C := C) (KN := ([] : KnownF Th)) (T := tab) (f := 68) (x := i68) (args := [(.agg [(.i .i64 (a0.In)), (.i .u64 (a0.Meta)), (.i .u64 (a0.P.To)), (.i .u64 (a0.P.From)), (.i .i64 (a0.P.Vlan)), (.i .i64 (a0.P.Type_)), (.i .u32 (a0.P.Src)), (.i .u32 (a0.P.Dst)), (.i .i64 (a0.P.Life)), (.i .i64 (a0.P.Proto)), (.i .i64 (a0.P.Sport)), (.i .i64 (a0.P.Dport)), (.s (a0.P.Data))]), (.i .i64 (a1))]) (hs := H68) (sh := .b) (K := K) gok.ok KnownOk.nil tabKnows k68 (by kernel_rfl) (by kernel_rfl) 5000 (by rw [E68]; exact h)
def f68 (a0 : droverref04_Seen) (a1 : Int) : Bool :=
  (bif decide (a1 < 1) then (Bool.false)
  else (bif decide (9 < a1) then (Bool.false)
  else (bif decide (a1 ≤ 4) then (Bool.true)
  else (bif !decide (a0.P.Type_ = 2048) then (Bool.false)
  else (bif decide (a1 ≤ 7) then (Bool.true)
  else (bif decide (a0.P.Proto = 6) then (Bool.true)
  else (decide (a0.P.Proto = 17))))))))
theorem rr68 (a0 : droverref04_Seen) (a1 : Int) : R68 (a0) (a1) (· = (.b ((f68 (a0) (a1))))) :=
  ⟨fun h0 => (by simp only [f68, h0, cond_true, cond_false] <;> rfl),
  fun h0 => ⟨fun h1 => (by simp only [f68, h0, h1, cond_true, cond_false] <;> rfl),
  fun h1 => ⟨fun h2 => (by simp only [f68, h0, h1, h2, cond_true, cond_false] <;> rfl),
  fun h2 => ⟨fun h3 => (by simp only [f68, h0, h1, h2, h3, cond_true, cond_false] <;> rfl),
  fun h3 => ⟨fun h4 => (by simp only [f68, h0, h1, h2, h3, h4, cond_true, cond_false] <;> rfl),
  fun h4 => ⟨fun h5 => (by simp only [f68, h0, h1, h2, h3, h4, h5, cond_true, cond_false] <;> rfl),
  fun h5 => (by simp only [f68, h0, h1, h2, h3, h4, h5, cond_true, cond_false] <;> rfl)⟩⟩⟩⟩⟩⟩
theorem Q68 (y : ATup Th [.t 42, .i .i64]) : PCall Try.prog C 68 (encAs G [.t 42, .i .i64] y) (· = (.b ((f68 (y.1) (y.2.1))))) := Eq.mp (by kernel_rfl) (S68 (y.1) (y.2.1) _ (rr68 (y.1) (y.2.1)))
def kf68 (y : ATup Th [.t 42, .i .i64]) : Cm (SV Th) := .ret (.b ((f68 (y.1) (y.2.1))))
theorem en68 : ∀ (y : ATup Th [.t 42, .i .i64]) (Q : SV Th → Prop), (kf68 y).den Q → ∃ v, Q v ∧ v.shut = true ∧ PCall Try.prog C 68 (encAs G [.t 42, .i .i64] y) (· = v) := fun y Q h => ⟨_, h, rfl, Q68 y⟩
-- 70 drover/droverref04.Width
/-! function 70 -/
def H70 : List (List Nat × Hint) := []
def R70 (a0 : Int) (K : SV Th → Prop) : Prop :=
  (((decide (a0 < 1)) = true → K (.i .i64 0)) ∧
  ((decide (a0 < 1)) = false → (((decide (9 < a0)) = true → K (.i .i64 0)) ∧
  ((decide (9 < a0)) = false → (((0 : Int) ≤ IntKind.i64.wrap (a0 - (1 : Int)) ∧ IntKind.i64.wrap (a0 - (1 : Int)) < (↑(9 : Nat) : Int)) ∧ (∃ y0 : Int, [(32 : Int), (64 : Int), (13 : Int), (16 : Int), (32 : Int), (32 : Int), (8 : Int), (16 : Int), (16 : Int)][(0 : Nat) + (IntKind.i64.wrap (a0 - (1 : Int))).toNat]? = some y0 ∧
  K (.i .i64 (y0))))))))
theorem E70 (a0 : Int) (K : SV Th → Prop) : (run C tab ([] : KnownF Th) i70.rs 5000 (.ex i70.n i70.code) [] (argsEnv [(.i .i64 (a0))] 0) []).den (LfU Try.prog C i70.rs H70 (.i .i64) K) = R70 (a0) K := by kernel_rfl
theorem S70 (a0 : Int) (K : SV Th → Prop) (h : R70 (a0) K) : PCall Try.prog C 70 [(.i .i64 (a0))] K := PCall.start (P := Try.prog) (C := C) (KN := ([] : KnownF Th)) (T := tab) (f := 70) (x := i70) (args := [(.i .i64 (a0))]) (hs := H70) (sh := (.i .i64)) (K := K) gok.ok KnownOk.nil tabKnows k70 (by kernel_rfl) (by kernel_rfl) 5000 (by rw [E70]; exact h)
def f70 (a0 : Int) : Int :=
  (bif decide (a0 < 1) then (0)
  else (bif decide (9 < a0) then (0)
  else (match [(32 : Int), (64 : Int), (13 : Int), (16 : Int), (32 : Int), (32 : Int), (8 : Int), (16 : Int), (16 : Int)][(0 : Nat) + (IntKind.i64.wrap (a0 - (1 : Int))).toNat]? with
  | some y0 => (y0)
  | none => default)))
def p70 (a0 : Int) : Prop :=
  ((decide (a0 < 1)) = false → ((decide (9 < a0)) = false → (((0 : Int) ≤ IntKind.i64.wrap (a0 - (1 : Int)) ∧ IntKind.i64.wrap (a0 - (1 : Int)) < (↑(9 : Nat) : Int)) ∧ (∃ y0, [(32 : Int), (64 : Int), (13 : Int), (16 : Int), (32 : Int), (32 : Int), (8 : Int), (16 : Int), (16 : Int)][(0 : Nat) + (IntKind.i64.wrap (a0 - (1 : Int))).toNat]? = some y0 ∧
  True))))
theorem rr70 (a0 : Int) (hp : p70 (a0)) : R70 (a0) (· = (.i .i64 ((f70 (a0))))) :=
  ⟨fun h0 => (by simp only [f70, h0, cond_true, cond_false] <;> rfl),
  fun h0 => ⟨fun h1 => (by simp only [f70, h0, h1, cond_true, cond_false] <;> rfl),
  fun h1 => ⟨((hp h0) h1).1, (by obtain ⟨y0, h2, hq2⟩ := ((hp h0) h1).2; exact ⟨y0, h2, (by simp only [f70, h0, h1, h2, cond_true, cond_false] <;> rfl)⟩)⟩⟩⟩
theorem Q70 (y : ATup Th [.i .i64]) (hp : p70 (y.1)) : PCall Try.prog C 70 (encAs G [.i .i64] y) (· = (.i .i64 ((f70 (y.1))))) := Eq.mp (by kernel_rfl) (S70 (y.1) _ (rr70 (y.1) hp))
def kf70 (y : ATup Th [.i .i64]) : Cm (SV Th) := .chk (p70 (y.1)) (.ret (.i .i64 ((f70 (y.1)))))
theorem en70 : ∀ (y : ATup Th [.i .i64]) (Q : SV Th → Prop), (kf70 y).den Q → ∃ v, Q v ∧ v.shut = true ∧ PCall Try.prog C 70 (encAs G [.i .i64] y) (· = v) := fun y Q h => ⟨_, h.2, rfl, Q70 y h.1⟩
-- 69 drover/droverref04.low
/-! function 69 -/
def H69 : List (List Nat × Hint) := []
def R69 (a0 : Int) (a1 : Int) (K : SV Th → Prop) : Prop :=
  (((decide (a1 = 64)) = true → K (.i .u64 (a0))) ∧
  ((decide (a1 = 64)) = false → (((0 : Int) ≤ a1) ∧ K (.i .u64 (IntKind.u64.wrap (↑(BitVec.ofInt IntKind.u64.bits a0 &&& BitVec.ofInt IntKind.u64.bits (IntKind.u64.wrap (IntKind.u64.wrap (1 * 2 ^ Min.min a1.toNat IntKind.u64.bits) - 1))).toNat : Int))))))
theorem E69 (a0 : Int) (a1 : Int) (K : SV Th → Prop) : (run C tab ([] : KnownF Th) i69.rs 5000 (.ex i69.n i69.code) [] (argsEnv [(.i .u64 (a0)), (.i .i64 (a1))] 0) []).den (LfU Try.prog C i69.rs H69 (.i .u64) K) = R69 (a0) (a1) K := by kernel_rfl
theorem S69 (a0 : Int) (a1 : Int) (K : SV Th → Prop) (h : R69 (a0) (a1) K) : PCall Try.prog C 69 [(.i .u64 (a0)), (.i .i64 (a1))] K := PCall.start (P := Try.prog) (C := C) (KN := ([] : KnownF Th)) (T := tab) (f := 69) (x := i69) (args := [(.i .u64 (a0)), (.i .i64 (a1))]) (hs := H69) (sh := (.i .u64)) (K := K) gok.ok KnownOk.nil tabKnows k69 (by kernel_rfl) (by kernel_rfl) 5000 (by rw [E69]; exact h)
def f69 (a0 : Int) (a1 : Int) : Int :=
  (bif decide (a1 = 64) then (a0)
  else (IntKind.u64.wrap (↑(BitVec.ofInt IntKind.u64.bits a0 &&& BitVec.ofInt IntKind.u64.bits (IntKind.u64.wrap (IntKind.u64.wrap (1 * 2 ^ Min.min a1.toNat IntKind.u64.bits) - 1))).toNat : Int)))
def p69 (a0 : Int) (a1 : Int) : Prop :=
  ((decide (a1 = 64)) = false → ((0 : Int) ≤ a1))
theorem rr69 (a0 : Int) (a1 : Int) (hp : p69 (a0) (a1)) : R69 (a0) (a1) (· = (.i .u64 ((f69 (a0) (a1))))) :=
  ⟨fun h0 => (by simp only [f69, h0, cond_true, cond_false] <;> rfl),
  fun h0 => ⟨(hp h0), (by simp only [f69, h0, cond_true, cond_false] <;> rfl)⟩⟩
theorem Q69 (y : ATup Th [.i .u64, .i .i64]) (hp : p69 (y.1) (y.2.1)) : PCall Try.prog C 69 (encAs G [.i .u64, .i .i64] y) (· = (.i .u64 ((f69 (y.1) (y.2.1))))) := Eq.mp (by kernel_rfl) (S69 (y.1) (y.2.1) _ (rr69 (y.1) (y.2.1) hp))
def kf69 (y : ATup Th [.i .u64, .i .i64]) : Cm (SV Th) := .chk (p69 (y.1) (y.2.1)) (.ret (.i .u64 ((f69 (y.1) (y.2.1)))))
theorem en69 : ∀ (y : ATup Th [.i .u64, .i .i64]) (Q : SV Th → Prop), (kf69 y).den Q → ∃ v, Q v ∧ v.shut = true ∧ PCall Try.prog C 69 (encAs G [.i .u64, .i .i64] y) (· = v) := fun y Q h => ⟨_, h.2, rfl, Q69 y h.1⟩
-- 32 drover/act.code
/-! function 32 -/
def H32 : List (List Nat × Hint) := []
def R32 (a0 : Int) (K : SV Th → Prop) : Prop :=
  (((decide (a0 = 3)) = true → K (.tup [(.i .u64 6), (.i .i64 2)])) ∧
  ((decide (a0 = 3)) = false → (((decide (a0 = 5)) = true → K (.tup [(.i .u64 11), (.i .i64 4)])) ∧
  ((decide (a0 = 5)) = false → (((decide (a0 = 6)) = true → K (.tup [(.i .u64 12), (.i .i64 4)])) ∧
  ((decide (a0 = 6)) = false → (((decide (a0 = 8)) = true → K (.tup [(.i .u64 13), (.i .i64 2)])) ∧
  ((decide (a0 = 8)) = false → (((decide (a0 = 9)) = true → K (.tup [(.i .u64 14), (.i .i64 2)])) ∧
  ((decide (a0 = 9)) = false → K (.tup [(.i .u64 0), (.i .i64 0)])))))))))))
theorem E32 (a0 : Int) (K : SV Th → Prop) : (run C tab ([] : KnownF Th) i32.rs 5000 (.ex i32.n i32.code) [] (argsEnv [(.i .i64 (a0))] 0) []).den (LfU Try.prog C i32.rs H32 (.tup [(.i .u64), (.i .i64)]) K) = R32 (a0) K := by kernel_rfl
theorem S32 (a0 : Int) (K : SV Th → Prop) (h : R32 (a0) K) : PCall Try.prog C 32 [(.i .i64 (a0))] K := PCall.start (P := Try.prog) (C := C) (KN := ([] : KnownF Th)) (T := tab) (f := 32) (x := i32) (args := [(.i .i64 (a0))]) (hs := H32) (sh := (.tup [(.i .u64), (.i .i64)])) (K := K) gok.ok KnownOk.nil tabKnows k32 (by kernel_rfl) (by kernel_rfl) 5000 (by rw [E32]; exact h)
def f32 (a0 : Int) : Int × Int :=
  (bif decide (a0 = 3) then ((6), (2))
  else (bif decide (a0 = 5) then ((11), (4))
  else (bif decide (a0 = 6) then ((12), (4))
  else (bif decide (a0 = 8) then ((13), (2))
  else (bif decide (a0 = 9) then ((14), (2))
  else ((0), (0)))))))
theorem rr32 (a0 : Int) : R32 (a0) (· = (.tup [(.i .u64 ((f32 (a0)).1)), (.i .i64 ((f32 (a0)).2))])) :=
  ⟨fun h0 => (by simp only [f32, h0, cond_true, cond_false] <;> rfl),
  fun h0 => ⟨fun h1 => (by simp only [f32, h0, h1, cond_true, cond_false] <;> rfl),
  fun h1 => ⟨fun h2 => (by simp only [f32, h0, h1, h2, cond_true, cond_false] <;> rfl),
  fun h2 => ⟨fun h3 => (by simp only [f32, h0, h1, h2, h3, cond_true, cond_false] <;> rfl),
  fun h3 => ⟨fun h4 => (by simp only [f32, h0, h1, h2, h3, h4, cond_true, cond_false] <;> rfl),
  fun h4 => (by simp only [f32, h0, h1, h2, h3, h4, cond_true, cond_false] <;> rfl)⟩⟩⟩⟩⟩
theorem Q32 (y : ATup Th [.i .i64]) : PCall Try.prog C 32 (encAs G [.i .i64] y) (· = (.tup [(.i .u64 ((f32 (y.1)).1)), (.i .i64 ((f32 (y.1)).2))])) := Eq.mp (by kernel_rfl) (S32 (y.1) _ (rr32 (y.1)))
def kf32 (y : ATup Th [.i .i64]) : Cm (SV Th) := .ret (.tup [(.i .u64 ((f32 (y.1)).1)), (.i .i64 ((f32 (y.1)).2))])
theorem en32 : ∀ (y : ATup Th [.i .i64]) (Q : SV Th → Prop), (kf32 y).den Q → ∃ v, Q v ∧ v.shut = true ∧ PCall Try.prog C 32 (encAs G [.i .i64] y) (· = v) := fun y Q h => ⟨_, h, rfl, Q32 y⟩
-- 60 drover/droverref06.code
/-! function 60 -/
def H60 : List (List Nat × Hint) := []
def R60 (a0 : Int) (K : SV Th → Prop) : Prop :=
  (((decide (a0 = 3)) = true → K (.i .i64 6)) ∧
  ((decide (a0 = 3)) = false → (((decide (a0 = 5)) = true → K (.i .i64 11)) ∧
  ((decide (a0 = 5)) = false → (((decide (a0 = 6)) = true → K (.i .i64 12)) ∧
  ((decide (a0 = 6)) = false → (((decide (a0 = 8)) = true → K (.i .i64 13)) ∧
  ((decide (a0 = 8)) = false → (((decide (a0 = 9)) = true → K (.i .i64 14)) ∧
  ((decide (a0 = 9)) = false → K (.i .i64 0)))))))))))
theorem E60 (a0 : Int) (K : SV Th → Prop) : (run C tab ([] : KnownF Th) i60.rs 5000 (.ex i60.n i60.code) [] (argsEnv [(.i .i64 (a0))] 0) []).den (LfU Try.prog C i60.rs H60 (.i .i64) K) = R60 (a0) K := by kernel_rfl
theorem S60 (a0 : Int) (K : SV Th → Prop) (h : R60 (a0) K) : PCall Try.prog C 60 [(.i .i64 (a0))] K := PCall.start (P := Try.prog) (C := C) (KN := ([] : KnownF Th)) (T := tab) (f := 60) (x := i60) (args := [(.i .i64 (a0))]) (hs := H60) (sh := (.i .i64)) (K := K) gok.ok KnownOk.nil tabKnows k60 (by kernel_rfl) (by kernel_rfl) 5000 (by rw [E60]; exact h)
def f60 (a0 : Int) : Int :=
  (bif decide (a0 = 3) then (6)
  else (bif decide (a0 = 5) then (11)
  else (bif decide (a0 = 6) then (12)
  else (bif decide (a0 = 8) then (13)
  else (bif decide (a0 = 9) then (14)
  else (0))))))
theorem rr60 (a0 : Int) : R60 (a0) (· = (.i .i64 ((f60 (a0))))) :=
  ⟨fun h0 => (by simp only [f60, h0, cond_true, cond_false] <;> rfl),
  fun h0 => ⟨fun h1 => (by simp only [f60, h0, h1, cond_true, cond_false] <;> rfl),
  fun h1 => ⟨fun h2 => (by simp only [f60, h0, h1, h2, cond_true, cond_false] <;> rfl),
  fun h2 => ⟨fun h3 => (by simp only [f60, h0, h1, h2, h3, cond_true, cond_false] <;> rfl),
  fun h3 => ⟨fun h4 => (by simp only [f60, h0, h1, h2, h3, h4, cond_true, cond_false] <;> rfl),
  fun h4 => (by simp only [f60, h0, h1, h2, h3, h4, cond_true, cond_false] <;> rfl)⟩⟩⟩⟩⟩
theorem Q60 (y : ATup Th [.i .i64]) : PCall Try.prog C 60 (encAs G [.i .i64] y) (· = (.i .i64 ((f60 (y.1))))) := Eq.mp (by kernel_rfl) (S60 (y.1) _ (rr60 (y.1)))
def kf60 (y : ATup Th [.i .i64]) : Cm (SV Th) := .ret (.i .i64 ((f60 (y.1))))
theorem en60 : ∀ (y : ATup Th [.i .i64]) (Q : SV Th → Prop), (kf60 y).den Q → ∃ v, Q v ∧ v.shut = true ∧ PCall Try.prog C 60 (encAs G [.i .i64] y) (· = v) := fun y Q h => ⟨_, h, rfl, Q60 y⟩
-- 61 drover/droverref06.size
/-! function 61 -/
def H61 : List (List Nat × Hint) := []
def R61 (a0 : Int) (K : SV Th → Prop) : Prop :=
  (((decide (a0 = 5)) = true → K (.i .i64 4)) ∧
  ((decide (a0 = 5)) = false → (((decide (a0 = 6)) = true → K (.i .i64 4)) ∧
  ((decide (a0 = 6)) = false → K (.i .i64 2)))))
theorem E61 (a0 : Int) (K : SV Th → Prop) : (run C tab ([] : KnownF Th) i61.rs 5000 (.ex i61.n i61.code) [] (argsEnv [(.i .i64 (a0))] 0) []).den (LfU Try.prog C i61.rs H61 (.i .i64) K) = R61 (a0) K := by kernel_rfl
theorem S61 (a0 : Int) (K : SV Th → Prop) (h : R61 (a0) K) : PCall Try.prog C 61 [(.i .i64 (a0))] K := PCall.start (P := Try.prog) (C := C) (KN := ([] : KnownF Th)) (T := tab) (f := 61) (x := i61) (args := [(.i .i64 (a0))]) (hs := H61) (sh := (.i .i64)) (K := K) gok.ok KnownOk.nil tabKnows k61 (by kernel_rfl) (by kernel_rfl) 5000 (by rw [E61]; exact h)
def f61 (a0 : Int) : Int :=
  (bif decide (a0 = 5) then (4)
  else (bif decide (a0 = 6) then (4)
  else (2)))
theorem rr61 (a0 : Int) : R61 (a0) (· = (.i .i64 ((f61 (a0))))) :=
  ⟨fun h0 => (by simp only [f61, h0, cond_true, cond_false] <;> rfl),
  fun h0 => ⟨fun h1 => (by simp only [f61, h0, h1, cond_true, cond_false] <;> rfl),
  fun h1 => (by simp only [f61, h0, h1, cond_true, cond_false] <;> rfl)⟩⟩
theorem Q61 (y : ATup Th [.i .i64]) : PCall Try.prog C 61 (encAs G [.i .i64] y) (· = (.i .i64 ((f61 (y.1))))) := Eq.mp (by kernel_rfl) (S61 (y.1) _ (rr61 (y.1)))
def kf61 (y : ATup Th [.i .i64]) : Cm (SV Th) := .ret (.i .i64 ((f61 (y.1))))
theorem en61 : ∀ (y : ATup Th [.i .i64]) (Q : SV Th → Prop), (kf61 y).den Q → ∃ v, Q v ∧ v.shut = true ∧ PCall Try.prog C 61 (encAs G [.i .i64] y) (· = v) := fun y Q h => ⟨_, h, rfl, Q61 y⟩
-- 15 drover/droverref06.Right
/-! function 15 -/
def H15 : List (List Nat × Hint) := []
def R15 (a0 : Action) (K : SV Th → Prop) : Prop :=
  (((decide (a0.Kind = 1)) = true → (((decide (a0.Field = 0)) = true → (((decide (1 ≤ a0.Value)) = true → K (.b (decide (a0.Value ≤ 4294967295)))) ∧
  ((decide (1 ≤ a0.Value)) = false → K (.b (Bool.false))))) ∧
  ((decide (a0.Field = 0)) = false → K (.b (Bool.false))))) ∧
  ((decide (a0.Kind = 1)) = false → (((decide (a0.Kind = 2)) = true → (((decide (a0.Field = 0)) = true → (((decide (1 ≤ a0.Value)) = true → K (.b (decide (a0.Value ≤ 4294967295)))) ∧
  ((decide (1 ≤ a0.Value)) = false → K (.b (Bool.false))))) ∧
  ((decide (a0.Field = 0)) = false → K (.b (Bool.false))))) ∧
  ((decide (a0.Kind = 2)) = false → (((decide (a0.Kind = 3)) = true → (((decide (a0.Field = 0)) = true → K (.b (decide (a0.Value = 0)))) ∧
  ((decide (a0.Field = 0)) = false → K (.b (Bool.false))))) ∧
  ((decide (a0.Kind = 3)) = false → (((decide (a0.Kind = 4)) = true → (((decide (a0.Field = 0)) = true → K (.b (decide (a0.Value = 0)))) ∧
  ((decide (a0.Field = 0)) = false → K (.b (Bool.false))))) ∧
  ((decide (a0.Kind = 4)) = false → (((decide (a0.Kind = 5)) = true → (((decide (a0.Field = 3)) = true → (((decide (4096 ≤ a0.Value)) = true → K (.b (decide (a0.Value ≤ 8191)))) ∧
  ((decide (4096 ≤ a0.Value)) = false → K (.b (Bool.false))))) ∧
  ((decide (a0.Field = 3)) = false → (((decide (a0.Field = 5)) = true → K (.b (decide (a0.Value ≤ 4294967295)))) ∧
  ((decide (a0.Field = 5)) = false → (((decide (a0.Field = 6)) = true → K (.b (decide (a0.Value ≤ 4294967295)))) ∧
  ((decide (a0.Field = 6)) = false → (((decide (a0.Field = 8)) = true → K (.b (decide (a0.Value ≤ 65535)))) ∧
  ((decide (a0.Field = 8)) = false → (((decide (a0.Field = 9)) = true → K (.b (decide (a0.Value ≤ 65535)))) ∧
  ((decide (a0.Field = 9)) = false → K (.b (Bool.false))))))))))))) ∧
  ((decide (a0.Kind = 5)) = false → K (.b (Bool.false))))))))))))
theorem E15 (a0 : Action) (K : SV Th → Prop) : (run C tab ([] : KnownF Th) i15.rs 5000 (.ex i15.n i15.code) [] (argsEnv [(.agg [(.i .i64 (a0.Kind)), (.i .i64 (a0.Field)), (.i .u64 (a0.Value))])] 0) []).den (LfU Try.prog C i15.rs H15 .b K) = R15 (a0) K := by kernel_rfl
theorem S15 (a0 : Action) (K : SV Th → Prop) (h : R15 (a0) K) : PCall Try.prog C 15 [(.agg [(.i .i64 (a0.Kind)), (.i .i64 (a0.Field)), (.i .u64 (a0.Value))])] K := PCall.start (P := Try.prog) (C := C) (KN := ([] : KnownF Th)) (T := tab) (f := 15) (x := i15) (args := [(.agg [(.i .i64 (a0.Kind)), (.i .i64 (a0.Field)), (.i .u64 (a0.Value))])]) (hs := H15) (sh := .b) (K := K) gok.ok KnownOk.nil tabKnows k15 (by kernel_rfl) (by kernel_rfl) 5000 (by rw [E15]; exact h)
def f15 (a0 : Action) : Bool :=
  (bif decide (a0.Kind = 1) then (bif decide (a0.Field = 0) then (bif decide (1 ≤ a0.Value) then (decide (a0.Value ≤ 4294967295))
  else (Bool.false))
  else (Bool.false))
  else (bif decide (a0.Kind = 2) then (bif decide (a0.Field = 0) then (bif decide (1 ≤ a0.Value) then (decide (a0.Value ≤ 4294967295))
  else (Bool.false))
  else (Bool.false))
  else (bif decide (a0.Kind = 3) then (bif decide (a0.Field = 0) then (decide (a0.Value = 0))
  else (Bool.false))
  else (bif decide (a0.Kind = 4) then (bif decide (a0.Field = 0) then (decide (a0.Value = 0))
  else (Bool.false))
  else (bif decide (a0.Kind = 5) then (bif decide (a0.Field = 3) then (bif decide (4096 ≤ a0.Value) then (decide (a0.Value ≤ 8191))
  else (Bool.false))
  else (bif decide (a0.Field = 5) then (decide (a0.Value ≤ 4294967295))
  else (bif decide (a0.Field = 6) then (decide (a0.Value ≤ 4294967295))
  else (bif decide (a0.Field = 8) then (decide (a0.Value ≤ 65535))
  else (bif decide (a0.Field = 9) then (decide (a0.Value ≤ 65535))
  else (Bool.false))))))
  else (Bool.false))))))
theorem rr15 (a0 : Action) : R15 (a0) (· = (.b ((f15 (a0))))) :=
  ⟨fun h0 => ⟨fun h1 => ⟨fun h2 => (by simp only [f15, h0, h1, h2, cond_true, cond_false] <;> rfl),
  fun h2 => (by simp only [f15, h0, h1, h2, cond_true, cond_false] <;> rfl)⟩,
  fun h1 => (by simp only [f15, h0, h1, cond_true, cond_false] <;> rfl)⟩,
  fun h0 => ⟨fun h1 => ⟨fun h2 => ⟨fun h3 => (by simp only [f15, h0, h1, h2, h3, cond_true, cond_false] <;> rfl),
  fun h3 => (by simp only [f15, h0, h1, h2, h3, cond_true, cond_false] <;> rfl)⟩,
  fun h2 => (by simp only [f15, h0, h1, h2, cond_true, cond_false] <;> rfl)⟩,
  fun h1 => ⟨fun h2 => ⟨fun h3 => (by simp only [f15, h0, h1, h2, h3, cond_true, cond_false] <;> rfl),
  fun h3 => (by simp only [f15, h0, h1, h2, h3, cond_true, cond_false] <;> rfl)⟩,
  fun h2 => ⟨fun h3 => ⟨fun h4 => (by simp only [f15, h0, h1, h2, h3, h4, cond_true, cond_false] <;> rfl),
  fun h4 => (by simp only [f15, h0, h1, h2, h3, h4, cond_true, cond_false] <;> rfl)⟩,
  fun h3 => ⟨fun h4 => ⟨fun h5 => ⟨fun h6 => (by simp only [f15, h0, h1, h2, h3, h4, h5, h6, cond_true, cond_false] <;> rfl),
  fun h6 => (by simp only [f15, h0, h1, h2, h3, h4, h5, h6, cond_true, cond_false] <;> rfl)⟩,
  fun h5 => ⟨fun h6 => (by simp only [f15, h0, h1, h2, h3, h4, h5, h6, cond_true, cond_false] <;> rfl),
  fun h6 => ⟨fun h7 => (by simp only [f15, h0, h1, h2, h3, h4, h5, h6, h7, cond_true, cond_false] <;> rfl),
  fun h7 => ⟨fun h8 => (by simp only [f15, h0, h1, h2, h3, h4, h5, h6, h7, h8, cond_true, cond_false] <;> rfl),
  fun h8 => ⟨fun h9 => (by simp only [f15, h0, h1, h2, h3, h4, h5, h6, h7, h8, h9, cond_true, cond_false] <;> rfl),
  fun h9 => (by simp only [f15, h0, h1, h2, h3, h4, h5, h6, h7, h8, h9, cond_true, cond_false] <;> rfl)⟩⟩⟩⟩⟩,
  fun h4 => (by simp only [f15, h0, h1, h2, h3, h4, cond_true, cond_false] <;> rfl)⟩⟩⟩⟩⟩
theorem Q15 (y : ATup Th [.t 31]) : PCall Try.prog C 15 (encAs G [.t 31] y) (· = (.b ((f15 (y.1))))) := Eq.mp (by kernel_rfl) (S15 (y.1) _ (rr15 (y.1)))
def kf15 (y : ATup Th [.t 31]) : Cm (SV Th) := .ret (.b ((f15 (y.1))))
theorem en15 : ∀ (y : ATup Th [.t 31]) (Q : SV Th → Prop), (kf15 y).den Q → ∃ v, Q v ∧ v.shut = true ∧ PCall Try.prog C 15 (encAs G [.t 31] y) (· = v) := fun y Q h => ⟨_, h, rfl, Q15 y⟩
-- 40 drover/droverref06.place
/-! function 40 -/
def H40 : List (List Nat × Hint) := []
def R40 (a0 : Action) (K : SV Th → Prop) : Prop :=
  (((decide (a0.Kind = 4)) = true → K (.i .i64 0)) ∧
  ((decide (a0.Kind = 4)) = false → (((decide (a0.Kind = 3)) = true → K (.i .i64 1)) ∧
  ((decide (a0.Kind = 3)) = false → (((decide (a0.Kind = 5)) = true → K (.i .i64 2)) ∧
  ((decide (a0.Kind = 5)) = false → (((decide (a0.Kind = 2)) = true → K (.i .i64 3)) ∧
  ((decide (a0.Kind = 2)) = false → (((decide (a0.Kind = 1)) = true → K (.i .i64 4)) ∧
  ((decide (a0.Kind = 1)) = false → K (.i .i64 (-1))))))))))))
theorem E40 (a0 : Action) (K : SV Th → Prop) : (run C tab ([] : KnownF Th) i40.rs 5000 (.ex i40.n i40.code) [] (argsEnv [(.agg [(.i .i64 (a0.Kind)), (.i .i64 (a0.Field)), (.i .u64 (a0.Value))])] 0) []).den (LfU Try.prog C i40.rs H40 (.i .i64) K) = R40 (a0) K := by kernel_rfl
theorem S40 (a0 : Action) (K : SV Th → Prop) (h : R40 (a0) K) : PCall Try.prog C 40 [(.agg [(.i .i64 (a0.Kind)), (.i .i64 (a0.Field)), (.i .u64 (a0.Value))])] K := PCall.start (P := Try.prog) (C := C) (KN := ([] : KnownF Th)) (T := tab) (f := 40) (x := i40) (args := [(.agg [(.i .i64 (a0.Kind)), (.i .i64 (a0.Field)), (.i .u64 (a0.Value))])]) (hs := H40) (sh := (.i .i64)) (K := K) gok.ok KnownOk.nil tabKnows k40 (by kernel_rfl) (by kernel_rfl) 5000 (by rw [E40]; exact h)
def f40 (a0 : Action) : Int :=
  (bif decide (a0.Kind = 4) then (0)
  else (bif decide (a0.Kind = 3) then (1)
  else (bif decide (a0.Kind = 5) then (2)
  else (bif decide (a0.Kind = 2) then (3)
  else (bif decide (a0.Kind = 1) then (4)
  else (-1))))))
theorem rr40 (a0 : Action) : R40 (a0) (· = (.i .i64 ((f40 (a0))))) :=
  ⟨fun h0 => (by simp only [f40, h0, cond_true, cond_false] <;> rfl),
  fun h0 => ⟨fun h1 => (by simp only [f40, h0, h1, cond_true, cond_false] <;> rfl),
  fun h1 => ⟨fun h2 => (by simp only [f40, h0, h1, h2, cond_true, cond_false] <;> rfl),
  fun h2 => ⟨fun h3 => (by simp only [f40, h0, h1, h2, h3, cond_true, cond_false] <;> rfl),
  fun h3 => ⟨fun h4 => (by simp only [f40, h0, h1, h2, h3, h4, cond_true, cond_false] <;> rfl),
  fun h4 => (by simp only [f40, h0, h1, h2, h3, h4, cond_true, cond_false] <;> rfl)⟩⟩⟩⟩⟩
theorem Q40 (y : ATup Th [.t 31]) : PCall Try.prog C 40 (encAs G [.t 31] y) (· = (.i .i64 ((f40 (y.1))))) := Eq.mp (by kernel_rfl) (S40 (y.1) _ (rr40 (y.1)))
def kf40 (y : ATup Th [.t 31]) : Cm (SV Th) := .ret (.i .i64 ((f40 (y.1))))
theorem en40 : ∀ (y : ATup Th [.t 31]) (Q : SV Th → Prop), (kf40 y).den Q → ∃ v, Q v ∧ v.shut = true ∧ PCall Try.prog C 40 (encAs G [.t 31] y) (· = v) := fun y Q h => ⟨_, h, rfl, Q40 y⟩
-- 41 drover/droverref06.alike
/-! function 41 -/
def H41 : List (List Nat × Hint) := []
def R41 (a0 : Action) (a1 : Action) (K : SV Th → Prop) : Prop :=
  (((decide (a0.Kind = a1.Kind)) = true → (((!decide (a0.Kind = 5)) = true → K (.b (Bool.true))) ∧
  ((!decide (a0.Kind = 5)) = false → K (.b (decide (a0.Field = a1.Field)))))) ∧
  ((decide (a0.Kind = a1.Kind)) = false → K (.b (Bool.false))))
theorem E41 (a0 : Action) (a1 : Action) (K : SV Th → Prop) : (run C tab ([] : KnownF Th) i41.rs 5000 (.ex i41.n i41.code) [] (argsEnv [(.agg [(.i .i64 (a0.Kind)), (.i .i64 (a0.Field)), (.i .u64 (a0.Value))]), (.agg [(.i .i64 (a1.Kind)), (.i .i64 (a1.Field)), (.i .u64 (a1.Value))])] 0) []).den (LfU Try.prog C i41.rs H41 .b K) = R41 (a0) (a1) K := by kernel_rfl
theorem S41 (a0 : Action) (a1 : Action) (K : SV Th → Prop) (h : R41 (a0) (a1) K) : PCall Try.prog C 41 [(.agg [(.i .i64 (a0.Kind)), (.i .i64 (a0.Field)), (.i .u64 (a0.Value))]), (.agg [(.i .i64 (a1.Kind)), (.i .i64 (a1.Field)), (.i .u64 (a1.Value))])] K := PCall.start (P := Try.prog) (C := C) (KN := ([] : KnownF Th)) (T := tab) (f := 41) (x := i41) (args := [(.agg [(.i .i64 (a0.Kind)), (.i .i64 (a0.Field)), (.i .u64 (a0.Value))]), (.agg [(.i .i64 (a1.Kind)), (.i .i64 (a1.Field)), (.i .u64 (a1.Value))])]) (hs := H41) (sh := .b) (K := K) gok.ok KnownOk.nil tabKnows k41 (by kernel_rfl) (by kernel_rfl) 5000 (by rw [E41]; exact h)
def f41 (a0 : Action) (a1 : Action) : Bool :=
  (bif decide (a0.Kind = a1.Kind) then (bif !decide (a0.Kind = 5) then (Bool.true)
  else (decide (a0.Field = a1.Field)))
  else (Bool.false))
theorem rr41 (a0 : Action) (a1 : Action) : R41 (a0) (a1) (· = (.b ((f41 (a0) (a1))))) :=
  ⟨fun h0 => ⟨fun h1 => (by simp only [f41, h0, h1, cond_true, cond_false] <;> rfl),
  fun h1 => (by simp only [f41, h0, h1, cond_true, cond_false] <;> rfl)⟩,
  fun h0 => (by simp only [f41, h0, cond_true, cond_false] <;> rfl)⟩
theorem Q41 (y : ATup Th [.t 31, .t 31]) : PCall Try.prog C 41 (encAs G [.t 31, .t 31] y) (· = (.b ((f41 (y.1) (y.2.1))))) := Eq.mp (by kernel_rfl) (S41 (y.1) (y.2.1) _ (rr41 (y.1) (y.2.1)))
def kf41 (y : ATup Th [.t 31, .t 31]) : Cm (SV Th) := .ret (.b ((f41 (y.1) (y.2.1))))
theorem en41 : ∀ (y : ATup Th [.t 31, .t 31]) (Q : SV Th → Prop), (kf41 y).den Q → ∃ v, Q v ∧ v.shut = true ∧ PCall Try.prog C 41 (encAs G [.t 31, .t 31] y) (· = v) := fun y Q h => ⟨_, h, rfl, Q41 y⟩
-- 74 drover/frame.below
/-! function 74 -/
def H74 : List (List Nat × Hint) := [([21011], ⟨[9, 0, 7, 8], [], [], [], [], [], []⟩)]
def W74_0 (a0 : Int) (a1 : List Int) (i3 : Int) (K : SV Th → Prop) : Prop :=
  UW Try.prog C i74.rs K [(.lp 21 c74_5), (.blk 0), (.seq 21 c74_7)] [(9, (.i .i64 (i3))), (0, (.i .i64 (a0))), (7, (.lst 3 (a1))), (8, (.i .i64 ((↑a1.length : Int))))] []
def R74_0 (a0 : Int) (a1 : List Int) (i3 : Int) (K : SV Th → Prop) : Prop :=
  (((decide (i3 < (↑a1.length : Int))) = true → (((0 : Int) ≤ i3) ∧ (∃ y4 : Int, a1[i3.toNat]? = some y4 ∧
  (((decide (y4 < (0 : Int))) = true → K (.b (Bool.false))) ∧
  ((decide (y4 < (0 : Int))) = false → (((decide (a0 < y4)) = true → K (.b (Bool.false))) ∧
  ((decide (a0 < y4)) = false → W74_0 (a0) (a1) (IntKind.i64.wrap (i3 + 1)) K))))))) ∧
  ((decide (i3 < (↑a1.length : Int))) = false → K (.b (Bool.true))))
theorem E74_0 (a0 : Int) (a1 : List Int) (i3 : Int) (K : SV Th → Prop) : (run C tab ([] : KnownF Th) i74.rs 5000 (.ex 21 c74_5) [(.lp 21 c74_5), (.blk 0), (.seq 21 c74_7)] [(9, (.i .i64 (i3))), (0, (.i .i64 (a0))), (7, (.lst 3 (a1))), (8, (.i .i64 ((↑a1.length : Int))))] []).den (LfU Try.prog C i74.rs H74 .b K) = R74_0 (a0) (a1) (i3) K := by kernel_rfl
theorem U74_0 (a0 : Int) (a1 : List Int) (i3 : Int) (K : SV Th → Prop) (h : R74_0 (a0) (a1) (i3) K) : W74_0 (a0) (a1) (i3) K := UW.round gok.ok KnownOk.nil tabKnows 5000 (Eq.mpr (E74_0 (a0) (a1) (i3) K) h)
def R74 (a0 : Int) (a1 : List Int) (K : SV Th → Prop) : Prop :=
  W74_0 (a0) (a1) (0) K
theorem E74 (a0 : Int) (a1 : List Int) (K : SV Th → Prop) : (run C tab ([] : KnownF Th) i74.rs 5000 (.ex i74.n i74.code) [] (argsEnv [(.i .i64 (a0)), (.lst 3 (a1))] 0) []).den (LfU Try.prog C i74.rs H74 .b K) = R74 (a0) (a1) K := by kernel_rfl
theorem S74 (a0 : Int) (a1 : List Int) (K : SV Th → Prop) (h : R74 (a0) (a1) K) : PCall Try.prog C 74 [(.i .i64 (a0)), (.lst 3 (a1))] K := PCall.start (P := Try.prog) (C := C) (KN := ([] : KnownF Th)) (T := tab) (f := 74) (x := i74) (args := [(.i .i64 (a0)), (.lst 3 (a1))]) (hs := H74) (sh := .b) (K := K) gok.ok KnownOk.nil tabKnows k74 (by kernel_rfl) (by kernel_rfl) 5000 (by rw [E74]; exact h)
-- 75 drover/frame.ported
/-! function 75 -/
def H75 : List (List Nat × Hint) := []
def R75 (a0 : Packet) (K : SV Th → Prop) : Prop :=
  (((decide (a0.Proto = 6)) = true → K (.b (Bool.true))) ∧
  ((decide (a0.Proto = 6)) = false → K (.b (decide (a0.Proto = 17)))))
theorem E75 (a0 : Packet) (K : SV Th → Prop) : (run C tab ([] : KnownF Th) i75.rs 5000 (.ex i75.n i75.code) [] (argsEnv [(.agg [(.i .u64 (a0.To)), (.i .u64 (a0.From)), (.i .i64 (a0.Vlan)), (.i .i64 (a0.Type_)), (.i .u32 (a0.Src)), (.i .u32 (a0.Dst)), (.i .i64 (a0.Life)), (.i .i64 (a0.Proto)), (.i .i64 (a0.Sport)), (.i .i64 (a0.Dport)), (.s (a0.Data))])] 0) []).den (LfU Try.prog C i75.rs H75 .b K) = R75 (a0) K := by kernel_rfl
theorem S75 (a0 : Packet) (K : SV Th → Prop) (h : R75 (a0) K) : PCall Try.prog C 75 [(.agg [(.i .u64 (a0.To)), (.i .u64 (a0.From)), (.i .i64 (a0.Vlan)), (.i .i64 (a0.Type_)), (.i .u32 (a0.Src)), (.i .u32 (a0.Dst)), (.i .i64 (a0.Life)), (.i .i64 (a0.Proto)), (.i .i64 (a0.Sport)), (.i .i64 (a0.Dport)), (.s (a0.Data))])] K := PCall.start (P := Try.prog) (C := C) (KN := ([] : KnownF Th)) (T := tab) (f := 75) (x := i75) (args := [(.agg [(.i .u64 (a0.To)), (.i .u64 (a0.From)), (.i .i64 (a0.Vlan)), (.i .i64 (a0.Type_)), (.i .u32 (a0.Src)), (.i .u32 (a0.Dst)), (.i .i64 (a0.Life)), (.i .i64 (a0.Proto)), (.i .i64 (a0.Sport)), (.i .i64 (a0.Dport)), (.s (a0.Data))])]) (hs := H75) (sh := .b) (K := K) gok.ok KnownOk.nil tabKnows k75 (by kernel_rfl) (by kernel_rfl) 5000 (by rw [E75]; exact h)
def f75 (a0 : Packet) : Bool :=
  (bif decide (a0.Proto = 6) then (Bool.true)
  else (decide (a0.Proto = 17)))
theorem rr75 (a0 : Packet) : R75 (a0) (· = (.b ((f75 (a0))))) :=
  ⟨fun h0 => (by simp only [f75, h0, cond_true, cond_false] <;> rfl),
  fun h0 => (by simp only [f75, h0, cond_true, cond_false] <;> rfl)⟩
theorem Q75 (y : ATup Th [.t 39]) : PCall Try.prog C 75 (encAs G [.t 39] y) (· = (.b ((f75 (y.1))))) := Eq.mp (by kernel_rfl) (S75 (y.1) _ (rr75 (y.1)))
def kf75 (y : ATup Th [.t 39]) : Cm (SV Th) := .ret (.b ((f75 (y.1))))
theorem en75 : ∀ (y : ATup Th [.t 39]) (Q : SV Th → Prop), (kf75 y).den Q → ∃ v, Q v ∧ v.shut = true ∧ PCall Try.prog C 75 (encAs G [.t 39] y) (· = v) := fun y Q h => ⟨_, h, rfl, Q75 y⟩
-- 88 cmp.isNaN[int]
/-! function 88 -/
def H88 : List (List Nat × Hint) := []
def R88 (a0 : Int) (K : SV Th → Prop) : Prop :=
  K (.b (!decide (a0 = a0)))
theorem E88 (a0 : Int) (K : SV Th → Prop) : (run C tab ([] : KnownF Th) i88.rs 5000 (.ex i88.n i88.code) [] (argsEnv [(.i .i64 (a0))] 0) []).den (LfU Try.prog C i88.rs H88 .b K) = R88 (a0) K := by kernel_rfl
theorem S88 (a0 : Int) (K : SV Th → Prop) (h : R88 (a0) K) : PCall Try.prog C 88 [(.i .i64 (a0))] K := PCall.start (P := Try.prog) (C := C) (KN := ([] : KnownF Th)) (T := tab) (f := 88) (x := i88) (args := [(.i .i64 (a0))]) (hs := H88) (sh := .b) (K := K) gok.ok KnownOk.nil tabKnows k88 (by kernel_rfl) (by kernel_rfl) 5000 (by rw [E88]; exact h)
def f88 (a0 : Int) : Bool :=
  (!decide (a0 = a0))
theorem rr88 (a0 : Int) : R88 (a0) (· = (.b ((f88 (a0))))) :=
  rfl
theorem Q88 (y : ATup Th [.i .i64]) : PCall Try.prog C 88 (encAs G [.i .i64] y) (· = (.b ((f88 (y.1))))) := Eq.mp (by kernel_rfl) (S88 (y.1) _ (rr88 (y.1)))
def kf88 (y : ATup Th [.i .i64]) : Cm (SV Th) := .ret (.b ((f88 (y.1))))
theorem en88 : ∀ (y : ATup Th [.i .i64]) (Q : SV Th → Prop), (kf88 y).den Q → ∃ v, Q v ∧ v.shut = true ∧ PCall Try.prog C 88 (encAs G [.i .i64] y) (· = v) := fun y Q h => ⟨_, h, rfl, Q88 y⟩
-- 91 math/bits.Mul32
/-! function 91 -/
def H91 : List (List Nat × Hint) := []
def R91 (a0 : Int) (a1 : Int) (K : SV Th → Prop) : Prop :=
  ((@LE.le Int Int.instLEInt (@OfNat.ofNat Int (nat_lit 0) (@instOfNat (nat_lit 0))) (@OfNat.ofNat Int (nat_lit 32) (@instOfNat (nat_lit 32)))) ∧ K (.tup [(.i .u32 (IntKind.u32.wrap ((IntKind.u64.wrap (IntKind.u64.wrap a0 * IntKind.u64.wrap a1)).fdiv (2 ^ Min.min (Int.toNat 32) IntKind.u64.bits)))), (.i .u32 (IntKind.u32.wrap (IntKind.u64.wrap (IntKind.u64.wrap a0 * IntKind.u64.wrap a1))))]))
theorem E91 (a0 : Int) (a1 : Int) (K : SV Th → Prop) : (run C tab ([] : KnownF Th) i91.rs 5000 (.ex i91.n i91.code) [] (argsEnv [(.i .u32 (a0)), (.i .u32 (a1))] 0) []).den (LfU Try.prog C i91.rs H91 (.tup [(.i .u32), (.i .u32)]) K) = R91 (a0) (a1) K := by kernel_rfl
theorem S91 (a0 : Int) (a1 : Int) (K : SV Th → Prop) (h : R91 (a0) (a1) K) : PCall Try.prog C 91 [(.i .u32 (a0)), (.i .u32 (a1))] K := PCall.start (P := Try.prog) (C := C) (KN := ([] : KnownF Th)) (T := tab) (f := 91) (x := i91) (args := [(.i .u32 (a0)), (.i .u32 (a1))]) (hs := H91) (sh := (.tup [(.i .u32), (.i .u32)])) (K := K) gok.ok KnownOk.nil tabKnows k91 (by kernel_rfl) (by kernel_rfl) 5000 (by rw [E91]; exact h)
def f91 (a0 : Int) (a1 : Int) : Int × Int :=
  ((IntKind.u32.wrap ((IntKind.u64.wrap (IntKind.u64.wrap a0 * IntKind.u64.wrap a1)).fdiv (2 ^ Min.min (Int.toNat 32) IntKind.u64.bits))), (IntKind.u32.wrap (IntKind.u64.wrap (IntKind.u64.wrap a0 * IntKind.u64.wrap a1))))
def p91 (a0 : Int) (a1 : Int) : Prop :=
  (@LE.le Int Int.instLEInt (@OfNat.ofNat Int (nat_lit 0) (@instOfNat (nat_lit 0))) (@OfNat.ofNat Int (nat_lit 32) (@instOfNat (nat_lit 32))))
theorem rr91 (a0 : Int) (a1 : Int) (hp : p91 (a0) (a1)) : R91 (a0) (a1) (· = (.tup [(.i .u32 ((f91 (a0) (a1)).1)), (.i .u32 ((f91 (a0) (a1)).2))])) :=
  ⟨hp, rfl⟩
theorem Q91 (y : ATup Th [.i .u32, .i .u32]) (hp : p91 (y.1) (y.2.1)) : PCall Try.prog C 91 (encAs G [.i .u32, .i .u32] y) (· = (.tup [(.i .u32 ((f91 (y.1) (y.2.1)).1)), (.i .u32 ((f91 (y.1) (y.2.1)).2))])) := Eq.mp (by kernel_rfl) (S91 (y.1) (y.2.1) _ (rr91 (y.1) (y.2.1) hp))
def kf91 (y : ATup Th [.i .u32, .i .u32]) : Cm (SV Th) := .chk (p91 (y.1) (y.2.1)) (.ret (.tup [(.i .u32 ((f91 (y.1) (y.2.1)).1)), (.i .u32 ((f91 (y.1) (y.2.1)).2))]))
theorem en91 : ∀ (y : ATup Th [.i .u32, .i .u32]) (Q : SV Th → Prop), (kf91 y).den Q → ∃ v, Q v ∧ v.shut = true ∧ PCall Try.prog C 91 (encAs G [.i .u32, .i .u32] y) (· = v) := fun y Q h => ⟨_, h.2, rfl, Q91 y h.1⟩
-- 92 math/bits.Mul64
/-! function 92 -/
def H92 : List (List Nat × Hint) := []
def R92 (a0 : Int) (a1 : Int) (K : SV Th → Prop) : Prop :=
  ((@LE.le Int Int.instLEInt (@OfNat.ofNat Int (nat_lit 0) (@instOfNat (nat_lit 0))) (@OfNat.ofNat Int (nat_lit 32) (@instOfNat (nat_lit 32)))) ∧ ((@LE.le Int Int.instLEInt (@OfNat.ofNat Int (nat_lit 0) (@instOfNat (nat_lit 0))) (@OfNat.ofNat Int (nat_lit 32) (@instOfNat (nat_lit 32)))) ∧ ((@LE.le Int Int.instLEInt (@OfNat.ofNat Int (nat_lit 0) (@instOfNat (nat_lit 0))) (@OfNat.ofNat Int (nat_lit 32) (@instOfNat (nat_lit 32)))) ∧ ((@LE.le Int Int.instLEInt (@OfNat.ofNat Int (nat_lit 0) (@instOfNat (nat_lit 0))) (@OfNat.ofNat Int (nat_lit 32) (@instOfNat (nat_lit 32)))) ∧ ((@LE.le Int Int.instLEInt (@OfNat.ofNat Int (nat_lit 0) (@instOfNat (nat_lit 0))) (@OfNat.ofNat Int (nat_lit 32) (@instOfNat (nat_lit 32)))) ∧ K (.tup [(.i .u64 (IntKind.u64.wrap (IntKind.u64.wrap (IntKind.u64.wrap (a0.fdiv (2 ^ Min.min (Int.toNat 32) IntKind.u64.bits) * a1.fdiv (2 ^ Min.min (Int.toNat 32) IntKind.u64.bits)) + (IntKind.u64.wrap (IntKind.u64.wrap (a0.fdiv (2 ^ Min.min (Int.toNat 32) IntKind.u64.bits) * IntKind.u64.wrap (↑(BitVec.ofInt IntKind.u64.bits a1 &&& BitVec.ofInt IntKind.u64.bits 4294967295).toNat : Int)) + (IntKind.u64.wrap (IntKind.u64.wrap (↑(BitVec.ofInt IntKind.u64.bits a0 &&& BitVec.ofInt IntKind.u64.bits 4294967295).toNat : Int) * IntKind.u64.wrap (↑(BitVec.ofInt IntKind.u64.bits a1 &&& BitVec.ofInt IntKind.u64.bits 4294967295).toNat : Int))).fdiv (2 ^ Min.min (Int.toNat 32) IntKind.u64.bits))).fdiv (2 ^ Min.min (Int.toNat 32) IntKind.u64.bits)) + (IntKind.u64.wrap (IntKind.u64.wrap (↑(BitVec.ofInt IntKind.u64.bits (IntKind.u64.wrap (IntKind.u64.wrap (a0.fdiv (2 ^ Min.min (Int.toNat 32) IntKind.u64.bits) * IntKind.u64.wrap (↑(BitVec.ofInt IntKind.u64.bits a1 &&& BitVec.ofInt IntKind.u64.bits 4294967295).toNat : Int)) + (IntKind.u64.wrap (IntKind.u64.wrap (↑(BitVec.ofInt IntKind.u64.bits a0 &&& BitVec.ofInt IntKind.u64.bits 4294967295).toNat : Int) * IntKind.u64.wrap (↑(BitVec.ofInt IntKind.u64.bits a1 &&& BitVec.ofInt IntKind.u64.bits 4294967295).toNat : Int))).fdiv (2 ^ Min.min (Int.toNat 32) IntKind.u64.bits))) &&& BitVec.ofInt IntKind.u64.bits 4294967295).toNat : Int) + IntKind.u64.wrap (IntKind.u64.wrap (↑(BitVec.ofInt IntKind.u64.bits a0 &&& BitVec.ofInt IntKind.u64.bits 4294967295).toNat : Int) * a1.fdiv (2 ^ Min.min (Int.toNat 32) IntKind.u64.bits)))).fdiv (2 ^ Min.min (Int.toNat 32) IntKind.u64.bits)))), (.i .u64 (IntKind.u64.wrap (a0 * a1)))]))))))
theorem E92 (a0 : Int) (a1 : Int) (K : SV Th → Prop) : (run C tab ([] : KnownF Th) i92.rs 5000 (.ex i92.n i92.code) [] (argsEnv [(.i .u64 (a0)), (.i .u64 (a1))] 0) []).den (LfU Try.prog C i92.rs H92 (.tup [(.i .u64), (.i .u64)]) K) = R92 (a0) (a1) K := by kernel_rfl
theorem S92 (a0 : Int) (a1 : Int) (K : SV Th → Prop) (h : R92 (a0) (a1) K) : PCall Try.prog C 92 [(.i .u64 (a0)), (.i .u64 (a1))] K := PCall.start (P := Try.prog) (C := C) (KN := ([] : KnownF Th)) (T := tab) (f := 92) (x := i92) (args := [(.i .u64 (a0)), (.i .u64 (a1))]) (hs := H92) (sh := (.tup [(.i .u64), (.i .u64)])) (K := K) gok.ok KnownOk.nil tabKnows k92 (by kernel_rfl) (by kernel_rfl) 5000 (by rw [E92]; exact h)
def f92 (a0 : Int) (a1 : Int) : Int × Int :=
  ((IntKind.u64.wrap (IntKind.u64.wrap (IntKind.u64.wrap (a0.fdiv (2 ^ Min.min (Int.toNat 32) IntKind.u64.bits) * a1.fdiv (2 ^ Min.min (Int.toNat 32) IntKind.u64.bits)) + (IntKind.u64.wrap (IntKind.u64.wrap (a0.fdiv (2 ^ Min.min (Int.toNat 32) IntKind.u64.bits) * IntKind.u64.wrap (↑(BitVec.ofInt IntKind.u64.bits a1 &&& BitVec.ofInt IntKind.u64.bits 4294967295).toNat : Int)) + (IntKind.u64.wrap (IntKind.u64.wrap (↑(BitVec.ofInt IntKind.u64.bits a0 &&& BitVec.ofInt IntKind.u64.bits 4294967295).toNat : Int) * IntKind.u64.wrap (↑(BitVec.ofInt IntKind.u64.bits a1 &&& BitVec.ofInt IntKind.u64.bits 4294967295).toNat : Int))).fdiv (2 ^ Min.min (Int.toNat 32) IntKind.u64.bits))).fdiv (2 ^ Min.min (Int.toNat 32) IntKind.u64.bits)) + (IntKind.u64.wrap (IntKind.u64.wrap (↑(BitVec.ofInt IntKind.u64.bits (IntKind.u64.wrap (IntKind.u64.wrap (a0.fdiv (2 ^ Min.min (Int.toNat 32) IntKind.u64.bits) * IntKind.u64.wrap (↑(BitVec.ofInt IntKind.u64.bits a1 &&& BitVec.ofInt IntKind.u64.bits 4294967295).toNat : Int)) + (IntKind.u64.wrap (IntKind.u64.wrap (↑(BitVec.ofInt IntKind.u64.bits a0 &&& BitVec.ofInt IntKind.u64.bits 4294967295).toNat : Int) * IntKind.u64.wrap (↑(BitVec.ofInt IntKind.u64.bits a1 &&& BitVec.ofInt IntKind.u64.bits 4294967295).toNat : Int))).fdiv (2 ^ Min.min (Int.toNat 32) IntKind.u64.bits))) &&& BitVec.ofInt IntKind.u64.bits 4294967295).toNat : Int) + IntKind.u64.wrap (IntKind.u64.wrap (↑(BitVec.ofInt IntKind.u64.bits a0 &&& BitVec.ofInt IntKind.u64.bits 4294967295).toNat : Int) * a1.fdiv (2 ^ Min.min (Int.toNat 32) IntKind.u64.bits)))).fdiv (2 ^ Min.min (Int.toNat 32) IntKind.u64.bits))), (IntKind.u64.wrap (a0 * a1)))
def p92 (a0 : Int) (a1 : Int) : Prop :=
  ((@LE.le Int Int.instLEInt (@OfNat.ofNat Int (nat_lit 0) (@instOfNat (nat_lit 0))) (@OfNat.ofNat Int (nat_lit 32) (@instOfNat (nat_lit 32)))) ∧ ((@LE.le Int Int.instLEInt (@OfNat.ofNat Int (nat_lit 0) (@instOfNat (nat_lit 0))) (@OfNat.ofNat Int (nat_lit 32) (@instOfNat (nat_lit 32)))) ∧ ((@LE.le Int Int.instLEInt (@OfNat.ofNat Int (nat_lit 0) (@instOfNat (nat_lit 0))) (@OfNat.ofNat Int (nat_lit 32) (@instOfNat (nat_lit 32)))) ∧ ((@LE.le Int Int.instLEInt (@OfNat.ofNat Int (nat_lit 0) (@instOfNat (nat_lit 0))) (@OfNat.ofNat Int (nat_lit 32) (@instOfNat (nat_lit 32)))) ∧ (@LE.le Int Int.instLEInt (@OfNat.ofNat Int (nat_lit 0) (@instOfNat (nat_lit 0))) (@OfNat.ofNat Int (nat_lit 32) (@instOfNat (nat_lit 32))))))))
theorem rr92 (a0 : Int) (a1 : Int) (hp : p92 (a0) (a1)) : R92 (a0) (a1) (· = (.tup [(.i .u64 ((f92 (a0) (a1)).1)), (.i .u64 ((f92 (a0) (a1)).2))])) :=
  ⟨hp.1, ⟨hp.2.1, ⟨hp.2.2.1, ⟨hp.2.2.2.1, ⟨hp.2.2.2.2, rfl⟩⟩⟩⟩⟩
theorem Q92 (y : ATup Th [.i .u64, .i .u64]) (hp : p92 (y.1) (y.2.1)) : PCall Try.prog C 92 (encAs G [.i .u64, .i .u64] y) (· = (.tup [(.i .u64 ((f92 (y.1) (y.2.1)).1)), (.i .u64 ((f92 (y.1) (y.2.1)).2))])) := Eq.mp (by kernel_rfl) (S92 (y.1) (y.2.1) _ (rr92 (y.1) (y.2.1) hp))
def kf92 (y : ATup Th [.i .u64, .i .u64]) : Cm (SV Th) := .chk (p92 (y.1) (y.2.1)) (.ret (.tup [(.i .u64 ((f92 (y.1) (y.2.1)).1)), (.i .u64 ((f92 (y.1) (y.2.1)).2))]))
theorem en92 : ∀ (y : ATup Th [.i .u64, .i .u64]) (Q : SV Th → Prop), (kf92 y).den Q → ∃ v, Q v ∧ v.shut = true ∧ PCall Try.prog C 92 (encAs G [.i .u64, .i .u64] y) (· = v) := fun y Q h => ⟨_, h.2, rfl, Q92 y h.1⟩
-- 25 drover/droverlaw06.out
/-! function 25 -/
def H25 : List (List Nat × Hint) := []
def R25 (a0 : Int) (K : SV Th → Prop) : Prop :=
  K (.agg [(.i .i64 1), (.i .i64 0), (.i .u64 (a0))])
theorem E25 (a0 : Int) (K : SV Th → Prop) : (run C tab ([] : KnownF Th) i25.rs 5000 (.ex i25.n i25.code) [] (argsEnv [(.i .u64 (a0))] 0) []).den (LfU Try.prog C i25.rs H25 (.agg [.i .i64, .i .i64, .i .u64]) K) = R25 (a0) K := by kernel_rfl
theorem S25 (a0 : Int) (K : SV Th → Prop) (h : R25 (a0) K) : PCall Try.prog C 25 [(.i .u64 (a0))] K := PCall.start (P := Try.prog) (C := C) (KN := ([] : KnownF Th)) (T := tab) (f := 25) (x := i25) (args := [(.i .u64 (a0))]) (hs := H25) (sh := (.agg [.i .i64, .i .i64, .i .u64])) (K := K) gok.ok KnownOk.nil tabKnows k25 (by kernel_rfl) (by kernel_rfl) 5000 (by rw [E25]; exact h)
def f25 (a0 : Int) : Action :=
  ⟨(1), (0), (a0)⟩
theorem rr25 (a0 : Int) : R25 (a0) (· = (.agg (cellsG (G.ty 31) (G.to 31 ((f25 (a0))))))) :=
  rfl
theorem Q25 (y : ATup Th [.i .u64]) : PCall Try.prog C 25 (encAs G [.i .u64] y) (· = (.agg (cellsG (G.ty 31) (G.to 31 ((f25 (y.1))))))) := Eq.mp (by kernel_rfl) (S25 (y.1) _ (rr25 (y.1)))
def kf25 (y : ATup Th [.i .u64]) : Cm (SV Th) := .ret (.agg (cellsG (G.ty 31) (G.to 31 ((f25 (y.1))))))
theorem en25 : ∀ (y : ATup Th [.i .u64]) (Q : SV Th → Prop), (kf25 y).den Q → ∃ v, Q v ∧ v.shut = true ∧ PCall Try.prog C 25 (encAs G [.i .u64] y) (· = v) := fun y Q h => ⟨_, h, rfl, Q25 y⟩
-- 93 internal/stringslite.HasPrefix
/-! function 93 -/
def H93 : List (List Nat × Hint) := []
def R93 (a0 : List UInt8) (a1 : List UInt8) (K : SV Th → Prop) : Prop :=
  (((decide ((↑a1.length : Int) ≤ (↑a0.length : Int))) = true → (((0 : Int) ≤ (↑a1.length : Int) ∧ (↑a1.length : Int) ≤ (↑a0.length : Int)) ∧ K (.b (decide (List.drop (0 : Nat) (List.take (↑a1.length : Int).toNat a0) = a1))))) ∧
  ((decide ((↑a1.length : Int) ≤ (↑a0.length : Int))) = false → K (.b (Bool.false))))
theorem E93 (a0 : List UInt8) (a1 : List UInt8) (K : SV Th → Prop) : (run C tab ([] : KnownF Th) i93.rs 5000 (.ex i93.n i93.code) [] (argsEnv [(.s (a0)), (.s (a1))] 0) []).den (LfU Try.prog C i93.rs H93 .b K) = R93 (a0) (a1) K := by kernel_rfl
theorem S93 (a0 : List UInt8) (a1 : List UInt8) (K : SV Th → Prop) (h : R93 (a0) (a1) K) : PCall Try.prog C 93 [(.s (a0)), (.s (a1))] K := PCall.start (P := Try.prog) (C := C) (KN := ([] : KnownF Th)) (T := tab) (f := 93) (x := i93) (args := [(.s (a0)), (.s (a1))]) (hs := H93) (sh := .b) (K := K) gok.ok KnownOk.nil tabKnows k93 (by kernel_rfl) (by kernel_rfl) 5000 (by rw [E93]; exact h)
def f93 (a0 : List UInt8) (a1 : List UInt8) : Bool :=
  (bif decide ((↑a1.length : Int) ≤ (↑a0.length : Int)) then (decide (List.drop (0 : Nat) (List.take (↑a1.length : Int).toNat a0) = a1))
  else (Bool.false))
def p93 (a0 : List UInt8) (a1 : List UInt8) : Prop :=
  ((decide ((↑a1.length : Int) ≤ (↑a0.length : Int))) = true → ((0 : Int) ≤ (↑a1.length : Int) ∧ (↑a1.length : Int) ≤ (↑a0.length : Int)))
theorem rr93 (a0 : List UInt8) (a1 : List UInt8) (hp : p93 (a0) (a1)) : R93 (a0) (a1) (· = (.b ((f93 (a0) (a1))))) :=
  ⟨fun h0 => ⟨(hp h0), (by simp only [f93, h0, cond_true, cond_false] <;> rfl)⟩,
  fun h0 => (by simp only [f93, h0, cond_true, cond_false] <;> rfl)⟩
theorem Q93 (y : ATup Th [.s, .s]) (hp : p93 (y.1) (y.2.1)) : PCall Try.prog C 93 (encAs G [.s, .s] y) (· = (.b ((f93 (y.1) (y.2.1))))) := Eq.mp (by kernel_rfl) (S93 (y.1) (y.2.1) _ (rr93 (y.1) (y.2.1) hp))
def kf93 (y : ATup Th [.s, .s]) : Cm (SV Th) := .chk (p93 (y.1) (y.2.1)) (.ret (.b ((f93 (y.1) (y.2.1)))))
theorem en93 : ∀ (y : ATup Th [.s, .s]) (Q : SV Th → Prop), (kf93 y).den Q → ∃ v, Q v ∧ v.shut = true ∧ PCall Try.prog C 93 (encAs G [.s, .s] y) (· = v) := fun y Q h => ⟨_, h.2, rfl, Q93 y h.1⟩
-- 19 drover/droverlaw04.Plain
/-! function 19 -/
def H19 : List (List Nat × Hint) := []
def R19 (a0 : field_Seen) (K : SV Th → Prop) : Prop :=
  K (.agg [(.i .i64 (a0.In)), (.i .u64 (a0.Meta)), (.i .u64 (a0.P.To)), (.i .u64 (a0.P.From)), (.i .i64 (a0.P.Vlan)), (.i .i64 (a0.P.Type_)), (.i .u32 (a0.P.Src)), (.i .u32 (a0.P.Dst)), (.i .i64 (a0.P.Life)), (.i .i64 (a0.P.Proto)), (.i .i64 (a0.P.Sport)), (.i .i64 (a0.P.Dport)), (.s (a0.P.Data))])
theorem E19 (a0 : field_Seen) (K : SV Th → Prop) : (run C tab ([] : KnownF Th) i19.rs 5000 (.ex i19.n i19.code) [] (argsEnv [(.agg [(.i .i64 (a0.In)), (.i .u64 (a0.Meta)), (.i .u64 (a0.P.To)), (.i .u64 (a0.P.From)), (.i .i64 (a0.P.Vlan)), (.i .i64 (a0.P.Type_)), (.i .u32 (a0.P.Src)), (.i .u32 (a0.P.Dst)), (.i .i64 (a0.P.Life)), (.i .i64 (a0.P.Proto)), (.i .i64 (a0.P.Sport)), (.i .i64 (a0.P.Dport)), (.s (a0.P.Data))])] 0) []).den (LfU Try.prog C i19.rs H19 (.agg [.i .i64, .i .u64, .i .u64, .i .u64, .i .i64, .i .i64, .i .u32, .i .u32, .i .i64, .i .i64, .i .i64, .i .i64, .s]) K) = R19 (a0) K := by kernel_rfl
theorem S19 (a0 : field_Seen) (K : SV Th → Prop) (h : R19 (a0) K) : PCall Try.prog C 19 [(.agg [(.i .i64 (a0.In)), (.i .u64 (a0.Meta)), (.i .u64 (a0.P.To)), (.i .u64 (a0.P.From)), (.i .i64 (a0.P.Vlan)), (.i .i64 (a0.P.Type_)), (.i .u32 (a0.P.Src)), (.i .u32 (a0.P.Dst)), (.i .i64 (a0.P.Life)), (.i .i64 (a0.P.Proto)), (.i .i64 (a0.P.Sport)), (.i .i64 (a0.P.Dport)), (.s (a0.P.Data))])] K := PCall.start (P := Try.prog) (C := C) (KN := ([] : KnownF Th)) (T := tab) (f := 19) (x := i19) (args := [(.agg [(.i .i64 (a0.In)), (.i .u64 (a0.Meta)), (.i .u64 (a0.P.To)), (.i .u64 (a0.P.From)), (.i .i64 (a0.P.Vlan)), (.i .i64 (a0.P.Type_)), (.i .u32 (a0.P.Src)), (.i .u32 (a0.P.Dst)), (.i .i64 (a0.P.Life)), (.i .i64 (a0.P.Proto)), (.i .i64 (a0.P.Sport)), (.i .i64 (a0.P.Dport)), (.s (a0.P.Data))])]) (hs := H19) (sh := (.agg [.i .i64, .i .u64, .i .u64, .i .u64, .i .i64, .i .i64, .i .u32, .i .u32, .i .i64, .i .i64, .i .i64, .i .i64, .s])) (K := K) gok.ok KnownOk.nil tabKnows k19 (by kernel_rfl) (by kernel_rfl) 5000 (by rw [E19]; exact h)
def f19 (a0 : field_Seen) : droverref04_Seen :=
  ⟨(a0.In), (a0.Meta), ⟨(a0.P.To), (a0.P.From), (a0.P.Vlan), (a0.P.Type_), (a0.P.Src), (a0.P.Dst), (a0.P.Life), (a0.P.Proto), (a0.P.Sport), (a0.P.Dport), (a0.P.Data)⟩⟩
theorem rr19 (a0 : field_Seen) : R19 (a0) (· = (.agg (cellsG (G.ty 42) (G.to 42 ((f19 (a0))))))) :=
  rfl
theorem Q19 (y : ATup Th [.t 41]) : PCall Try.prog C 19 (encAs G [.t 41] y) (· = (.agg (cellsG (G.ty 42) (G.to 42 ((f19 (y.1))))))) := Eq.mp (by kernel_rfl) (S19 (y.1) _ (rr19 (y.1)))
def kf19 (y : ATup Th [.t 41]) : Cm (SV Th) := .ret (.agg (cellsG (G.ty 42) (G.to 42 ((f19 (y.1))))))
theorem en19 : ∀ (y : ATup Th [.t 41]) (Q : SV Th → Prop), (kf19 y).den Q → ∃ v, Q v ∧ v.shut = true ∧ PCall Try.prog C 19 (encAs G [.t 41] y) (· = v) := fun y Q h => ⟨_, h, rfl, Q19 y⟩
def kn_ActF1 : KnownF Th :=
  (33, knG G [.i .i64] kf33) ::
  (43, knG G [.t 41, .i .u64] kf43) ::
  (44, knG G [.t 41] kf44) ::
  (46, knG G [.t 42, .i .u64] kf46) ::
  (47, knG G [.t 42] kf47) ::
  (66, knG G [.t 41, .i .i64] kf66) ::
  (68, knG G [.t 42, .i .i64] kf68) ::
  (70, knG G [.i .i64] kf70) ::
  (69, knG G [.i .u64, .i .i64] kf69) ::
  (32, knG G [.i .i64] kf32) ::
  (60, knG G [.i .i64] kf60) ::
  (61, knG G [.i .i64] kf61) ::
  (15, knG G [.t 31] kf15) ::
  (40, knG G [.t 31] kf40) ::
  (41, knG G [.t 31, .t 31] kf41) ::
  (75, knG G [.t 39] kf75) ::
  (88, knG G [.i .i64] kf88) ::
  (91, knG G [.i .u32, .i .u32] kf91) ::
  (92, knG G [.i .u64, .i .u64] kf92) ::
  (25, knG G [.i .u64] kf25) ::
  (93, knG G [.s, .s] kf93) ::
  (19, knG G [.t 41] kf19) ::
  ([] : KnownF Th)
theorem ko_ActF1 : KnownOk Try.prog C kn_ActF1 := (KnownOk.add gok (KnownOk.add gok (KnownOk.add gok (KnownOk.add gok (KnownOk.add gok (KnownOk.add gok (KnownOk.add gok (KnownOk.add gok (KnownOk.add gok (KnownOk.add gok (KnownOk.add gok (KnownOk.add gok (KnownOk.add gok (KnownOk.add gok (KnownOk.add gok (KnownOk.add gok (KnownOk.add gok (KnownOk.add gok (KnownOk.add gok (KnownOk.add gok (KnownOk.add gok (KnownOk.add gok KnownOk.nil (en19)) (en93)) (en25)) (en92)) (en91)) (en88)) (en75)) (en41)) (en40)) (en15)) (en61)) (en60)) (en32)) (en69)) (en70)) (en68)) (en66)) (en47)) (en46)) (en44)) (en43)) (en33))
end Go.Proofs.Act

/- A part of the proof of ActChanges: ActLawChanges. -/
import Derived.Test.YtngoeofpjpdpoaaActL6
import Derived.Test.YtngoeofpjpdpoaaActDe
set_option linter.constructorNameAsVariable false
/-
  What a packet behind an action is: the plain law.
-/
namespace Go.Proofs.Act
open Go Go.Ab Go.Proofs
set_option maxRecDepth 100000
set_option linter.unusedVariables false
set_option linter.unusedSimpArgs false

def rS (s : field_Seen) : droverref04_Seen := ⟨s.In, s.Meta, s.P⟩
def rSe (x : field_Seen × Int) : droverref04_Seen × Int := (rS x.1, x.2)

theorem push_same (s : field_Seen) (n : Int) : f46 (rS s) n = rSe (f43 s n) := by
  unfold f46 f43 rSe rS
  by_cases h1 : s.P.Vlan = 0 <;> by_cases h2 : 4096 ≤ n <;> simp [h1, h2, show (4095 < n) = (4096 ≤ n) by simp; omega]

theorem pop_same (s : field_Seen) : f47 (rS s) = rSe (f44 s) := by
  unfold f47 f44 rSe rS
  by_cases h1 : s.P.Vlan = 0 <;> simp [h1]

theorem fields (f : Int) : (f = 1 ∨ f = 2 ∨ f = 3 ∨ f = 4 ∨ f = 5 ∨ f = 6 ∨ f = 7 ∨ f = 8 ∨ f = 9) ∨ f < 1 ∨ 9 < f := by omega

theorem has_same (s : field_Seen) (f : Int) : f68 (rS s) f = f66 s f := by
  rcases fields f with (rfl | rfl | rfl | rfl | rfl | rfl | rfl | rfl | rfl) | h | h
  case inr.inl => 
    have : f ≠ 1 ∧ f ≠ 2 ∧ f ≠ 3 ∧ f ≠ 4 ∧ f ≠ 5 ∧ f ≠ 6 ∧ f ≠ 7 ∧ f ≠ 8 ∧ f ≠ 9 := by omega
    simp [f68, f66, h, this]
  case inr.inr => 
    have : f ≠ 1 ∧ f ≠ 2 ∧ f ≠ 3 ∧ f ≠ 4 ∧ f ≠ 5 ∧ f ≠ 6 ∧ f ≠ 7 ∧ f ≠ 8 ∧ f ≠ 9 := by omega
    simp [f68, f66, h, this]
  all_goals (by_cases h1 : s.P.Type_ = 2048 <;> by_cases h2 : s.P.Proto = 6 <;> simp [f68, f66, rS, h1, h2] <;> rfl)

theorem has_range {s : field_Seen} {f : Int} (h : f66 s f = true) : f = 1 ∨ f = 2 ∨ f = 3 ∨ f = 4 ∨ f = 5 ∨ f = 6 ∨ f = 7 ∨ f = 8 ∨ f = 9 := by
  rcases fields f with h' | h'
  · exact h'
  · have : f ≠ 1 ∧ f ≠ 2 ∧ f ≠ 3 ∧ f ≠ 4 ∧ f ≠ 5 ∧ f ≠ 6 ∧ f ≠ 7 ∧ f ≠ 8 ∧ f ≠ 9 := by omega
    simp [f66, this] at h

/-- The last bits of a number. -/
theorem and_low {v : Int} (h : 0 ≤ v) (h' : v ≤ 18446744073709551615) (n : Nat) (hn : n ≤ 63) : IntKind.u64.wrap ((BitVec.ofInt IntKind.u64.bits v &&& BitVec.ofInt IntKind.u64.bits (2 ^ n - 1)).toNat : Int) = v % 2 ^ n := by
  obtain ⟨w, rfl⟩ := Int.eq_ofNat_of_zero_le h
  have hp : (0 : Nat) < 2 ^ n := Nat.two_pow_pos n
  have e : (2 : Int) ^ n - 1 = ((2 ^ n - 1 : Nat) : Int) := by push_cast [Nat.one_le_two_pow]; rfl
  rw [e]
  have hw : w < 2 ^ 64 := by omega
  have hlt : 2 ^ n - 1 < 2 ^ 64 := by
    have : 2 ^ n ≤ 2 ^ 63 := Nat.pow_le_pow_right (by omega) hn
    omega
  have hb : IntKind.u64.bits = 64 := rfl
  rw [hb]
  rw [show BitVec.ofInt 64 (w : Int) = BitVec.ofNat 64 w from by simp, show BitVec.ofInt 64 ((2 ^ n - 1 : Nat) : Int) = BitVec.ofNat 64 (2 ^ n - 1) from by simp]
  rw [BitVec.toNat_and, BitVec.toNat_ofNat, BitVec.toNat_ofNat, Nat.mod_eq_of_lt hw, Nat.mod_eq_of_lt hlt, Nat.and_two_pow_sub_one_eq_mod]
  have : w % 2 ^ n < 2 ^ 64 := Nat.lt_of_le_of_lt (Nat.mod_le _ _) hw
  rw [wrap_u64 (by omega) (by omega)]
  push_cast
  rfl

theorem low_of {v : Int} (h : 0 ≤ v) (h' : v ≤ 18446744073709551615) (n : Int) (hn : n = 64 ∨ n = 32 ∨ n = 16 ∨ n = 13 ∨ n = 8) : f69 v n = if n = 64 then v else v % 2 ^ n.toNat := by
  have m32 := and_low h h' 32 (by omega)
  have m16 := and_low h h' 16 (by omega)
  have m13 := and_low h h' 13 (by omega)
  have m8 := and_low h h' 8 (by omega)
  have hb : IntKind.u64.bits = 64 := rfl
  rw [hb] at m32 m16 m13 m8
  simp at m32 m16 m13 m8
  rcases hn with rfl | rfl | rfl | rfl | rfl <;> simp [f69, hb, wrap_u64, m32, m16, m13, m8]

theorem width_same (f : Int) : f70 f = f33 f ∧ p70 f := by
  rcases fields f with (rfl | rfl | rfl | rfl | rfl | rfl | rfl | rfl | rfl) | h | h
  case inr.inl => 
    have : f ≠ 1 ∧ f ≠ 2 ∧ f ≠ 3 ∧ f ≠ 4 ∧ f ≠ 5 ∧ f ≠ 6 ∧ f ≠ 7 ∧ f ≠ 8 ∧ f ≠ 9 := by omega
    simp [f70, f33, p70, h, this]
  case inr.inr => 
    have : f ≠ 1 ∧ f ≠ 2 ∧ f ≠ 3 ∧ f ≠ 4 ∧ f ≠ 5 ∧ f ≠ 6 ∧ f ≠ 7 ∧ f ≠ 8 ∧ f ≠ 9 := by omega
    simp [f70, f33, p70, h, this]
  all_goals simp [f70, f33, p70, wrap_i64]

theorem width_of {f : Int} (h : f = 1 ∨ f = 2 ∨ f = 3 ∨ f = 4 ∨ f = 5 ∨ f = 6 ∨ f = 7 ∨ f = 8 ∨ f = 9) : f33 f = 64 ∨ f33 f = 32 ∨ f33 f = 16 ∨ f33 f = 13 ∨ f33 f = 8 := by
  rcases h with rfl | rfl | rfl | rfl | rfl | rfl | rfl | rfl | rfl <;> simp [f33]

/-- A number fits just if its last bits are all of it. -/
theorem fits {f v : Int} (h : 0 ≤ v) (h' : v ≤ 18446744073709551615) (hf : f = 1 ∨ f = 2 ∨ f = 3 ∨ f = 4 ∨ f = 5 ∨ f = 6 ∨ f = 7 ∨ f = 8 ∨ f = 9) : decide (f69 v (f70 f) = v) = !decide (f67 f < v) := by
  rw [(width_same f).1, low_of h h' _ (width_of hf)]
  rcases hf with rfl | rfl | rfl | rfl | rfl | rfl | rfl | rfl | rfl <;> simp [f67, f33, wrap_i64, IntKind.bits] <;> (first | omega | (rw [Bool.eq_iff_iff]; simp; omega))

theorem put_same (s : field_Seen) (f v : Int) (h : 0 ≤ v) (h' : v ≤ 18446744073709551615) : f48 (rS s) f v = rSe (f45 s f v) ∧ p48 (rS s) f v ∧ p45 s f v := by
  have hh := has_same s f
  cases hs : f66 s f with
  | false =>
    rw [hs] at hh
    refine ⟨?_, ?_, ?_⟩
    · unfold f48 f45 rSe
      by_cases h1 : f = 1 <;> by_cases h4 : f = 4 <;> by_cases h7 : f = 7 <;> simp [h1, h4, h7, hh, hs, rS]
      all_goals (first | rfl | (subst_vars; simp_all [rS]))
    · unfold p48; intro _ _ _ h; rw [hh] at h; simp at h
    · unfold p45; intro _ _ _ h; rw [hs] at h; simp at h
  | true =>
    have hr := has_range hs
    rw [hs] at hh
    have hft := fits h h' hr
    have hw := (width_same f).1
    refine ⟨?_, ?_, ?_⟩
    · unfold f48 f45 rSe
      rw [hft, hh, hs]
      clear hft hh hs hw
      generalize decide (f67 f < v) = d
      rcases hr with rfl | rfl | rfl | rfl | rfl | rfl | rfl | rfl | rfl <;> cases d <;> by_cases k2 : v < 4096 <;> by_cases k3 : s.P.Vlan = 0 <;> simp [rS, k2, k3]
    · unfold p48
      intro _ _ _ _
      refine ⟨(width_same f).2, ?_⟩
      unfold p69
      intro _
      rw [hw]
      rcases width_of hr with e | e | e | e | e <;> rw [e] <;> omega
    · unfold p45 p67
      intro _ _ _ _
      rcases width_of hr with e | e | e | e | e <;> rw [e] <;> simp [wrap_i64]

theorem change_same (s : field_Seen) (a : Action) (h : 0 ≤ a.Value) (h' : a.Value ≤ 18446744073709551615) : f21 (rS s) a = rS (f20 s a) ∧ p21 (rS s) a ∧ p20 s a := by
  obtain ⟨h1, h2, h3⟩ := put_same s a.Field a.Value h h'
  refine ⟨?_, fun _ _ _ => h2, fun _ _ _ => h3⟩
  have k1 := push_same s 0
  have k2 := pop_same s
  unfold f21 f20
  rw [h1, k1, k2]
  simp only [rSe]
  by_cases c3 : a.Kind = 3
  · simp only [c3, decide_true, cond_true]
    generalize f43 s 0 = x
    by_cases q : x.2 = 0 <;> simp [q, rS]
  · by_cases c4 : a.Kind = 4
    · simp only [c4, decide_true, cond_true]
      generalize f44 s = x
      by_cases q : x.2 = 0 <;> simp [q, rS]
    · by_cases c5 : a.Kind = 5
      · simp only [c5, decide_true, cond_true]
        generalize f45 s a.Field a.Value = x
        by_cases q : x.2 = 0 <;> simp [q, rS]
      · simp [c3, c4, c5, rS]

theorem changes (s : field_Seen) (a : Action) (ha : wf_31 a) : f6 s a = true ∧ p6 s a := by
  have hv : 0 ≤ a.Value ∧ a.Value ≤ 18446744073709551615 := ha.2.2
  obtain ⟨h1, h2, h3⟩ := change_same s a hv.1 hv.2
  have e : ({ In := s.In, Meta := s.Meta, P := s.P } : droverref04_Seen) = rS s := rfl
  refine ⟨?_, h3, by rw [e]; exact h2⟩
  unfold f6
  rw [e, h1]
  simp [rS]

end Go.Proofs.Act

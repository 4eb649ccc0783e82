/- A part of the proof of ActOne: ActPl1. -/
import Derived.Test.YtngoeofpjpdpoaaActG1
import Derived.Test.YtngoeofpjpdpoaaSvPlain
set_option linter.constructorNameAsVariable false
/-
  The plain part: numbers as bytes, which actions are right, what their bytes are.
-/
namespace Go.Proofs.Act
open Go Go.Ab
set_option linter.unusedVariables false
set_option linter.unusedSimpArgs false
set_option maxRecDepth 100000

theorem loop81 (a : Int) (n : Nat) (hn : n ≤ 8) : ∀ (k i : Nat), i + k = n → loopO g81 (.h0 a n i (List.replicate k 0 ++ beL a i)) = some (be a n, 0) := by
  intro k
  induction k with
  | zero =>
    intro i hi
    have : i = n := by omega
    subst this
    refine loopO_inr ?_
    simp only [g81]
    rw [opt_f (by simp), opt_chk (by simp), opt_ret]
    simp [be, toB]
  | succ k ih =>
    intro i hi
    have hb := byte_eq a i (by omega)
    have hidx : (IntKind.i64.wrap (IntKind.i64.wrap ((n : Int) - (1 : Int)) - (i : Int))) = (k : Int) := by
      rw [w64 (x := (n : Int) - 1) (by omega) (by omega), w64 (by omega) (by omega)]; omega
    have h8 : (0 : Int) ≤ IntKind.i64.wrap ((8 : Int) * (i : Int)) := by rw [w64 (by omega) (by omega)]; omega
    have hset : (List.replicate (k + 1) (0 : Int) ++ beL a i).set k (byteAt a i) = List.replicate k 0 ++ beL a (i + 1) := by
      rw [List.replicate_succ', List.append_assoc, List.set_append_right _ _ (by simp)]
      simp [beL]
    refine loopO_inl (s' := .h0 a n ((i + 1 : Nat) : Int) (List.replicate k 0 ++ beL a (i + 1))) ?_ (ih (i + 1) (by omega))
    simp only [g81]
    rw [hidx, hb, opt_t (by simp; omega), opt_chk h8, opt_chk (by simp [beL_length]; omega),
      opt_get (x := 0) (by simp [List.getElem?_append_left]), opt_chk (by simp), opt_ret, wsucc (by omega)]
    have e1 : (0 : Nat) + ((k : Int)).toNat = k := by omega
    rw [e1, hset]

theorem f81_eq (a : Int) (n : Nat) (h1 : 1 ≤ n) (hn : n ≤ 8) (ha : n < 8 → a.fdiv ((2 : Int) ^ (8 * n)) ≤ 0) : f81 a n = some (be a n, 0) := by
  have hl := loop81 a n hn n 0 (by omega)
  simp only [beL, List.append_nil] at hl
  refine runO_inl (s' := .h0 a n ((0 : Nat) : Int) (List.replicate n 0)) ?_ hl
  simp only [s81]
  rw [opt_f (by simp; omega), opt_f (by simp; omega)]
  rcases Nat.lt_or_ge n 8 with h | h
  · have e : Min.min (IntKind.i64.wrap (8 * (n : Int))).toNat 64 = 8 * n := by
      rw [w64 (by omega) (by omega)]
      omega
    rw [opt_t (by simp; omega), opt_chk (by rw [w64 (by omega) (by omega)]; omega), opt_f (by rw [e]; have := ha h; simp; omega), opt_chk (by simp; omega), opt_chk (by simp), opt_ret]
    simp
  · rw [opt_f (by simp; omega), opt_chk (by simp; omega), opt_chk (by simp), opt_ret]
    simp

theorem f57_eq (a : Int) (n : Nat) (h1 : 1 ≤ n) (hn : n ≤ 8) (ha : n < 8 → a.fdiv ((2 : Int) ^ (8 * n)) ≤ 0) : f57 a n = some (be a n) := by
  simp only [f57, u57]; rw [opt_get (f81_eq a n h1 hn ha)]; rfl
theorem f76_eq (a : Int) (n : Nat) (h1 : 1 ≤ n) (hn : n ≤ 8) (ha : n < 8 → a.fdiv ((2 : Int) ^ (8 * n)) ≤ 0) : f76 a n = some (be a n) := by
  simp only [f76, u76]; rw [opt_get (f81_eq a n h1 hn ha)]; rfl

theorem loop59 (a : Int) : ∀ (i : Nat) (l : List Int), i ≤ 8 → l.length + i ≤ 100 → loopO g59 (.h0 a ((i : Int) - 1) l) = some (toB (l ++ beL a i)) := by
  intro i
  induction i with
  | zero =>
    intro l _ hl
    refine loopO_inr ?_
    simp only [g59]
    rw [opt_f (by simp), opt_chk (by simp), opt_ret]
    simp [beL, toB]
  | succ i ih =>
    intro l hi hl
    have e0 : ((i + 1 : Nat) : Int) - 1 = (i : Int) := by omega
    rw [e0]
    have hb := byte_eq a i (by omega)
    refine loopO_inl (s' := .h0 a ((i : Int) - 1) (l ++ [byteAt a i])) ?_ (by rw [ih _ (by omega) (by simp; omega)]; simp [beL])
    simp only [g59]
    rw [hb, opt_t (by simp), opt_chk (by rw [w64 (by omega) (by omega)]; omega), opt_chk (by simp), opt_chk (by simp; omega), opt_chk (by simp), opt_ret, w64 (by omega) (by omega)]
    simp

theorem f59_eq (a : Int) (n : Nat) (hn : n ≤ 8) : f59 a n = some (be a n) := by
  have hl := loop59 a n [] hn (by simp; omega)
  refine runO_inl (s' := .h0 a ((n : Int) - 1) []) ?_ (by rw [hl]; rfl)
  simp only [s59]
  rw [opt_chk (by simp), opt_ret, w64 (by omega) (by omega)]

end Go.Proofs.Act

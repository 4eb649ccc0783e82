/- A part of a law's proof: ActPl10. -/
import Derived.Test.YtngoeofpjpdpoaaActDe
import Derived.Test.YtngoeofpjpdpoaaActG1
import Derived.Test.YtngoeofpjpdpoaaSvPlain
set_option linter.constructorNameAsVariable false
/-
  The plain part: numbers as bytes, which actions are right, what their bytes are.
-/
namespace Go.Proofs.Act
open Go Go.Ab
set_option linter.unusedVariables false
set_option linter.unusedSimpArgs false
set_option maxRecDepth 100000

theorem loop81 (a : Int) (n : Nat) (hn : n ≤ 8) : ∀ (k i : Nat), i + k = n → loopO g81 (.h0 a n i (List.replicate k 0 ++ beL a i)) = some (be a n, 0) := by
  intro k
  induction k with
  | zero =>
    intro i hi
    have : i = n := by omega
    subst this
    refine loopO_inr ?_
    simp only [g81]
    rw [opt_f (by simp), opt_chk (by simp), opt_ret]
    simp [be, toB]
  | succ k ih =>
    intro i hi
    have hb := byte_eq a i (by omega)
    have hidx : (IntKind.i64.wrap (IntKind.i64.wrap ((n : Int) - (1 : Int)) - (i : Int))) = (k : Int) := by
      rw [w64 (x := (n : Int) - 1) (by omega) (by omega), w64 (by omega) (by omega)]; omega
    have h8 : (0 : Int) ≤ IntKind.i64.wrap ((8 : Int) * (i : Int)) := by rw [w64 (by omega) (by omega)]; omega
    have hset : (List.replicate (k + 1) (0 : Int) ++ beL a i).set k (byteAt a i) = List.replicate k 0 ++ beL a (i + 1) := by
      rw [List.replicate_succ', List.append_assoc, List.set_append_right _ _ (by simp)]
      simp [beL]
    refine loopO_inl (s' := .h0 a n ((i + 1 : Nat) : Int) (List.replicate k 0 ++ beL a (i + 1))) ?_ (ih (i + 1) (by omega))
    simp only [g81]
    rw [hidx, hb, opt_t (by simp; omega), opt_chk h8, opt_chk (by simp [beL_length]; omega),
      opt_get (x := 0) (by simp [List.getElem?_append_left]), opt_chk (by simp), opt_ret, wsucc (by omega)]
    have e1 : (0 : Nat) + ((k : Int)).toNat = k := by omega
    rw [e1, hset]

theorem f81_eq (a : Int) (n : Nat) (h1 : 1 ≤ n) (hn : n ≤ 8) (ha : n < 8 → a.fdiv ((2 : Int) ^ (8 * n)) ≤ 0) : f81 a n = some (be a n, 0) := by
  have hl := loop81 a n hn n 0 (by omega)
  simp only [beL, List.append_nil] at hl
  refine runO_inl (s' := .h0 a n ((0 : Nat) : Int) (List.replicate n 0)) ?_ hl
  simp only [s81]
  rw [opt_f (by simp; omega), opt_f (by simp; omega)]
  rcases Nat.lt_or_ge n 8 with h | h
  · have e : Min.min (IntKind.i64.wrap (8 * (n : Int))).toNat 64 = 8 * n := by
      rw [w64 (by omega) (by omega)]
      omega
    rw [opt_t (by simp; omega), opt_chk (by rw [w64 (by omega) (by omega)]; omega), opt_f (by rw [e]; have := ha h; simp; omega), opt_chk (by simp; omega), opt_chk (by simp), opt_ret]
    simp
  · rw [opt_f (by simp; omega), opt_chk (by simp; omega), opt_chk (by simp), opt_ret]
    simp

theorem f57_eq (a : Int) (n : Nat) (h1 : 1 ≤ n) (hn : n ≤ 8) (ha : n < 8 → a.fdiv ((2 : Int) ^ (8 * n)) ≤ 0) : f57 a n = some (be a n) := by
  simp only [f57, u57]; rw [opt_get (f81_eq a n h1 hn ha)]; rfl
theorem f76_eq (a : Int) (n : Nat) (h1 : 1 ≤ n) (hn : n ≤ 8) (ha : n < 8 → a.fdiv ((2 : Int) ^ (8 * n)) ≤ 0) : f76 a n = some (be a n) := by
  simp only [f76, u76]; rw [opt_get (f81_eq a n h1 hn ha)]; rfl

theorem loop59 (a : Int) : ∀ (i : Nat) (l : List Int), i ≤ 8 → l.length + i ≤ 100 → loopO g59 (.h0 a ((i : Int) - 1) l) = some (toB (l ++ beL a i)) := by
  intro i
  induction i with
  | zero =>
    intro l _ hl
    refine loopO_inr ?_
    simp only [g59]
    rw [opt_f (by simp), opt_chk (by simp), opt_ret]
    simp [beL, toB]
  | succ i ih =>
    intro l hi hl
    have e0 : ((i + 1 : Nat) : Int) - 1 = (i : Int) := by omega
    rw [e0]
    have hb := byte_eq a i (by omega)
    refine loopO_inl (s' := .h0 a ((i : Int) - 1) (l ++ [byteAt a i])) ?_ (by rw [ih _ (by omega) (by simp; omega)]; simp [beL])
    simp only [g59]
    rw [hb, opt_t (by simp), opt_chk (by rw [w64 (by omega) (by omega)]; omega), opt_chk (by simp), opt_chk (by simp; omega), opt_chk (by simp), opt_ret, w64 (by omega) (by omega)]
    simp

theorem f59_eq (a : Int) (n : Nat) (hn : n ≤ 8) : f59 a n = some (be a n) := by
  have hl := loop59 a n [] hn (by simp; omega)
  refine runO_inl (s' := .h0 a ((n : Int) - 1) []) ?_ (by rw [hl]; rfl)
  simp only [s59]
  rw [opt_chk (by simp), opt_ret, w64 (by omega) (by omega)]

end Go.Proofs.Act

/-
  The plain part: which actions are right, and what their bytes are.
-/
namespace Go.Proofs.Act
open Go Go.Ab
set_option linter.unusedVariables false
set_option linter.unusedSimpArgs false
set_option maxRecDepth 100000

def wfA (a : Action) : Prop := 0 ≤ a.Value ∧ a.Value < 18446744073709551616

theorem fieldsV (f : Int) : (f = 3 ∨ f = 5 ∨ f = 6 ∨ f = 8 ∨ f = 9) ∨ (f ≠ 3 ∧ f ≠ 5 ∧ f ≠ 6 ∧ f ≠ 8 ∧ f ≠ 9) := by omega

theorem f33_ok (f : Int) : 0 ≤ f33 f := by
  unfold f33 u33
  simp only [tot_ite, tot_ret]
  repeat' (split; omega)
  omega

theorem right_same (a : Action) (h : wfA a) : f14 a = some (f15 a) := by
  obtain ⟨h1, h2⟩ := h
  unfold f14 u14 f15 u15
  simp only [opt_ite, tot_ite, tot_ret, opt_ret, opt_chk', fdivp, bits64]
  have key : (a.Value / 4294967296 = 0) ↔ a.Value ≤ 4294967295 := by omega
  by_cases k1 : a.Kind = 1
  · by_cases f0 : a.Field = 0 <;> by_cases v1 : 1 ≤ a.Value <;> simp [k1, f0, v1, key]
  by_cases k2 : a.Kind = 2
  · by_cases f0 : a.Field = 0 <;> by_cases v1 : 1 ≤ a.Value <;> simp [k2, f0, v1, key]
  by_cases k3 : a.Kind = 3
  · by_cases f0 : a.Field = 0 <;> simp [k3, f0]
  by_cases k4 : a.Kind = 4
  · by_cases f0 : a.Field = 0 <;> simp [k4, f0]
  by_cases k5 : a.Kind = 5
  · rcases fieldsV a.Field with (f | f | f | f | f) | ⟨n3, n5, n6, n8, n9⟩
    · simp [k5, f, f32, u32, f33, u33, tot_ite, tot_ret]; (repeat' split) <;> (try omega) <;> simp <;> omega
    · simp [k5, f, f32, u32, f33, u33, tot_ite, tot_ret]; (repeat' split) <;> (try omega) <;> simp <;> omega
    · simp [k5, f, f32, u32, f33, u33, tot_ite, tot_ret]; (repeat' split) <;> (try omega) <;> simp <;> omega
    · simp [k5, f, f32, u32, f33, u33, tot_ite, tot_ret]; (repeat' split) <;> (try omega) <;> simp <;> omega
    · simp [k5, f, f32, u32, f33, u33, tot_ite, tot_ret]; (repeat' split) <;> (try omega) <;> simp <;> omega
    · simp [k5, n3, n5, n6, n8, n9, f32, u32, tot_ite, tot_ret]
  · simp [k1, k2, k3, k4, k5]

/-- What a right action is. -/
inductive RightA : Action → Prop
  | out {a} (k : a.Kind = 1) (f : a.Field = 0) (h1 : 1 ≤ a.Value) (h2 : a.Value < 4294967296) : RightA a
  | grp {a} (k : a.Kind = 2) (f : a.Field = 0) (h1 : 1 ≤ a.Value) (h2 : a.Value < 4294967296) : RightA a
  | psh {a} (k : a.Kind = 3) (f : a.Field = 0) (h1 : a.Value = 0) : RightA a
  | pop {a} (k : a.Kind = 4) (f : a.Field = 0) (h1 : a.Value = 0) : RightA a
  | vlan {a} (k : a.Kind = 5) (f : a.Field = 3) (h1 : 4096 ≤ a.Value) (h2 : a.Value < 8192) : RightA a
  | src {a} (k : a.Kind = 5) (f : a.Field = 5) (h1 : a.Value < 4294967296) : RightA a
  | dst {a} (k : a.Kind = 5) (f : a.Field = 6) (h1 : a.Value < 4294967296) : RightA a
  | sp {a} (k : a.Kind = 5) (f : a.Field = 8) (h1 : a.Value < 65536) : RightA a
  | dp {a} (k : a.Kind = 5) (f : a.Field = 9) (h1 : a.Value < 65536) : RightA a

theorem right_iff (a : Action) : f15 a = true ↔ RightA a := by
  unfold f15 u15
  simp only [tot_ite, tot_ret]
  constructor
  · intro h
    by_cases k1 : a.Kind = 1
    · simp [k1] at h; obtain ⟨x, y, z⟩ := h
      exact .out k1 x y (by omega)
    by_cases k2 : a.Kind = 2
    · simp [k2] at h; obtain ⟨x, y, z⟩ := h
      exact .grp k2 x y (by omega)
    by_cases k3 : a.Kind = 3
    · simp [k3] at h; exact .psh k3 h.1 h.2
    by_cases k4 : a.Kind = 4
    · simp [k4] at h; exact .pop k4 h.1 h.2
    by_cases k5 : a.Kind = 5
    · rcases fieldsV a.Field with (f | f | f | f | f) | ⟨n3, n5, n6, n8, n9⟩
      · simp [k5, f] at h; exact .vlan k5 f h.1 (by omega)
      · simp [k5, f] at h; exact .src k5 f (by omega)
      · simp [k5, f] at h; exact .dst k5 f (by omega)
      · simp [k5, f] at h; exact .sp k5 f (by omega)
      · simp [k5, f] at h; exact .dp k5 f (by omega)
      · simp [k5, n3, n5, n6, n8, n9] at h
    · simp [k1, k2, k3, k4, k5] at h
  · intro h
    cases h <;> simp_all <;> omega

def bytesOf (a : Action) : List UInt8 :=
  if a.Kind = 1 then [0, 0, 0, 16] ++ be a.Value 4 ++ [255, 255, 0, 0, 0, 0, 0, 0]
  else if a.Kind = 2 then [0, 22, 0, 8] ++ be a.Value 4
  else if a.Kind = 3 then [0, 17, 0, 8, 129, 0, 0, 0]
  else if a.Kind = 4 then [0, 18, 0, 8, 0, 0, 0, 0]
  else if a.Field = 3 then [0, 25, 0, 16, 128, 0, 12, 2] ++ be a.Value 2 ++ [0, 0, 0, 0, 0, 0]
  else if a.Field = 5 then [0, 25, 0, 16, 128, 0, 22, 4] ++ be a.Value 4 ++ [0, 0, 0, 0]
  else if a.Field = 6 then [0, 25, 0, 16, 128, 0, 24, 4] ++ be a.Value 4 ++ [0, 0, 0, 0]
  else if a.Field = 8 then [0, 25, 0, 16, 128, 0, 26, 2] ++ be a.Value 2 ++ [0, 0, 0, 0, 0, 0]
  else [0, 25, 0, 16, 128, 0, 28, 2] ++ be a.Value 2 ++ [0, 0, 0, 0, 0, 0]

theorem be_0_2 : be 0 2 = [0, 0] := by decide
theorem be_0_4 : be 0 4 = [0, 0, 0, 0] := by decide
theorem be_0_6 : be 0 6 = [0, 0, 0, 0, 0, 0] := by decide

theorem f57_c (n : Int) (k : Nat) (l : List UInt8) (h1 : 1 ≤ k) (h2 : k ≤ 8) (h3 : k < 8 → n.fdiv ((2 : Int) ^ (8 * k)) ≤ 0) (h : be n k = l) : f57 n k = some l := by rw [← h]; exact f57_eq n k h1 h2 h3

theorem p0_2 : f57 0 2 = some [0, 0] := f57_c 0 2 _ (by omega) (by omega) (by decide) (by decide)
theorem p0_4 : f57 0 4 = some [0, 0, 0, 0] := f57_c 0 4 _ (by omega) (by omega) (by decide) (by decide)
theorem p0_6 : f57 0 6 = some [0, 0, 0, 0, 0, 0] := f57_c 0 6 _ (by omega) (by omega) (by decide) (by decide)
theorem p16_2 : f57 16 2 = some [0, 16] := f57_c 16 2 _ (by omega) (by omega) (by decide) (by decide)
theorem p8_2 : f57 8 2 = some [0, 8] := f57_c 8 2 _ (by omega) (by omega) (by decide) (by decide)
theorem p22_2 : f57 22 2 = some [0, 22] := f57_c 22 2 _ (by omega) (by omega) (by decide) (by decide)
theorem p17_2 : f57 17 2 = some [0, 17] := f57_c 17 2 _ (by omega) (by omega) (by decide) (by decide)
theorem p18_2 : f57 18 2 = some [0, 18] := f57_c 18 2 _ (by omega) (by omega) (by decide) (by decide)
theorem p25_2 : f57 25 2 = some [0, 25] := f57_c 25 2 _ (by omega) (by omega) (by decide) (by decide)
theorem p_1 (n : Int) (l : List UInt8) (h0 : 0 ≤ n) (h : n < 256) (hl : be n 1 = l) : f57 n 1 = some l := f57_c n 1 _ (by omega) (by omega) (by intro _; rw [fdivp]; omega) hl
theorem pv4 {v : Int} (h1 : 0 ≤ v) (h : v < 4294967296) : f57 v 4 = some (be v 4) := f57_c v 4 _ (by omega) (by omega) (by intro _; rw [fdivp]; omega) rfl
theorem pv2 {v : Int} (h1 : 0 ≤ v) (h : v < 65536) : f57 v 2 = some (be v 2) := f57_c v 2 _ (by omega) (by omega) (by intro _; rw [fdivp]; omega) rfl

theorem rep_eq (k : Nat) (hk : k ≤ 8) : f58 [(0 : UInt8)] (k : Int) = some (List.replicate k 0) := by
  unfold f58
  rw [opt_chk (by simp; omega), opt_ret]
  unfold repB
  simp only [Int.toNat_natCast]
  congr 1
  clear hk
  induction k with
  | zero => rfl
  | succ k ih => simp [Lib.repeatL, List.replicate_succ, ih]

theorem laid_eq (a : Action) (hw : wfA a) (h : RightA a) : f29 a = some (bytesOf a) := by
  obtain ⟨h1, h2⟩ := hw
  unfold f29 u29
  have L2 : ∀ v, (be v 2).length = 2 := fun v => be_length v 2
  have L4 : ∀ v, (be v 4).length = 4 := fun v => be_length v 4
  cases h with
  | out k f v1 v2 =>
    rw [opt_t (by simp [k]), opt_get p0_2, opt_get p16_2, opt_chk (by simp), opt_get (pv4 h1 v2), opt_chk (by simp [L4]), opt_chk (by simp [L4]), opt_get p0_6, opt_chk (by simp [L4]), opt_ret]
    simp [bytesOf, k]
  | grp k f v1 v2 =>
    rw [opt_f (by simp [k]), opt_t (by simp [k]), opt_get p22_2, opt_get p8_2, opt_chk (by simp), opt_get (pv4 h1 v2), opt_chk (by simp [L4]), opt_ret]
    simp [bytesOf, k]
  | psh k f v =>
    rw [opt_f (by simp [k]), opt_f (by simp [k]), opt_t (by simp [k]), opt_get p17_2, opt_get p8_2, opt_chk (by simp), opt_chk (by simp), opt_ret]
    simp [bytesOf, k]
  | pop k f v =>
    rw [opt_f (by simp [k]), opt_f (by simp [k]), opt_f (by simp [k]), opt_t (by simp [k]), opt_get p18_2, opt_get p8_2, opt_chk (by simp), opt_get p0_4, opt_chk (by simp), opt_ret]
    simp [bytesOf, k]
  | vlan k f v1 v2 =>
    rw [opt_f (by simp [k]), opt_f (by simp [k]), opt_f (by simp [k]), opt_f (by simp [k]), opt_get p25_2, opt_get p16_2, opt_chk (by simp), opt_chk (by simp)]
    simp only [f, show f32 3 = (6, 2) from by decide]
    rw [opt_get (p_1 _ [12] (by decide) (by decide) (by decide)), opt_chk (by simp), opt_get (p_1 _ [2] (by decide) (by decide) (by decide)), opt_chk (by simp), opt_get (pv2 h1 (by omega)), opt_chk (by simp [L2]),
      opt_get (x := [0, 0, 0, 0, 0, 0]) (by simp only [List.length_append, L2, List.length_cons, List.length_nil]; exact rep_eq 6 (by omega)), opt_chk (by simp [L2]), opt_ret]
    simp [bytesOf, k, f]
  | src k f v =>
    rw [opt_f (by simp [k]), opt_f (by simp [k]), opt_f (by simp [k]), opt_f (by simp [k]), opt_get p25_2, opt_get p16_2, opt_chk (by simp), opt_chk (by simp)]
    simp only [f, show f32 5 = (11, 4) from by decide]
    rw [opt_get (p_1 _ [22] (by decide) (by decide) (by decide)), opt_chk (by simp), opt_get (p_1 _ [4] (by decide) (by decide) (by decide)), opt_chk (by simp), opt_get (pv4 h1 v), opt_chk (by simp [L4]),
      opt_get (x := [0, 0, 0, 0]) (by simp only [List.length_append, L4, List.length_cons, List.length_nil]; exact rep_eq 4 (by omega)), opt_chk (by simp [L4]), opt_ret]
    simp [bytesOf, k, f]
  | dst k f v =>
    rw [opt_f (by simp [k]), opt_f (by simp [k]), opt_f (by simp [k]), opt_f (by simp [k]), opt_get p25_2, opt_get p16_2, opt_chk (by simp), opt_chk (by simp)]
    simp only [f, show f32 6 = (12, 4) from by decide]
    rw [opt_get (p_1 _ [24] (by decide) (by decide) (by decide)), opt_chk (by simp), opt_get (p_1 _ [4] (by decide) (by decide) (by decide)), opt_chk (by simp), opt_get (pv4 h1 v), opt_chk (by simp [L4]),
      opt_get (x := [0, 0, 0, 0]) (by simp only [List.length_append, L4, List.length_cons, List.length_nil]; exact rep_eq 4 (by omega)), opt_chk (by simp [L4]), opt_ret]
    simp [bytesOf, k, f]
  | sp k f v =>
    rw [opt_f (by simp [k]), opt_f (by simp [k]), opt_f (by simp [k]), opt_f (by simp [k]), opt_get p25_2, opt_get p16_2, opt_chk (by simp), opt_chk (by simp)]
    simp only [f, show f32 8 = (13, 2) from by decide]
    rw [opt_get (p_1 _ [26] (by decide) (by decide) (by decide)), opt_chk (by simp), opt_get (p_1 _ [2] (by decide) (by decide) (by decide)), opt_chk (by simp), opt_get (pv2 h1 v), opt_chk (by simp [L2]),
      opt_get (x := [0, 0, 0, 0, 0, 0]) (by simp only [List.length_append, L2, List.length_cons, List.length_nil]; exact rep_eq 6 (by omega)), opt_chk (by simp [L2]), opt_ret]
    simp [bytesOf, k, f]
  | dp k f v =>
    rw [opt_f (by simp [k]), opt_f (by simp [k]), opt_f (by simp [k]), opt_f (by simp [k]), opt_get p25_2, opt_get p16_2, opt_chk (by simp), opt_chk (by simp)]
    simp only [f, show f32 9 = (14, 2) from by decide]
    rw [opt_get (p_1 _ [28] (by decide) (by decide) (by decide)), opt_chk (by simp), opt_get (p_1 _ [2] (by decide) (by decide) (by decide)), opt_chk (by simp), opt_get (pv2 h1 v), opt_chk (by simp [L2]),
      opt_get (x := [0, 0, 0, 0, 0, 0]) (by simp only [List.length_append, L2, List.length_cons, List.length_nil]; exact rep_eq 6 (by omega)), opt_chk (by simp [L2]), opt_ret]
    simp [bytesOf, k, f]

theorem setRef (a : Action) (k : a.Kind = 5) (c n : Int) (m j : Nat) (b : List UInt8) (hc : f60 a.Field = c) (hn : f61 a.Field = n) (hm : n = m) (hm8 : m ≤ 8) (hj : m + j = 8)
    (hb : [IntKind.u8.wrap (IntKind.i64.wrap (2 * c)), IntKind.u8.wrap n].map (fun (x : Int) => UInt8.ofNat x.toNat) = b) :
    f31 a = some ([0, 25, 0, 16, 128, 0] ++ b ++ be a.Value m ++ List.replicate j 0) := by
  subst hm
  have hbl : b.length = 2 := by rw [← hb]; simp
  have Lm : (be a.Value m).length = m := be_length _ _
  unfold f31 u31
  rw [opt_f (by simp [k]), opt_f (by simp [k]), opt_f (by simp [k]), opt_f (by simp [k])]
  rw [hc, hn]
  have e2 : List.map (fun (x : Int) => UInt8.ofNat x.toNat) (List.take 2 (List.drop 0 [IntKind.u8.wrap (IntKind.i64.wrap (2 * c)), IntKind.u8.wrap (m : Int)])) = b := by simpa using hb
  rw [e2]
  have e3 : ((16 : Int) - (↑([(0 : UInt8), (25 : UInt8), (0 : UInt8), (16 : UInt8), (128 : UInt8), (0 : UInt8)] ++ b ++ be a.Value m).length : Int)) = (j : Int) := by simp [hbl, Lm]; omega
  rw [opt_chk (by simp), opt_chk (by simp [hbl]), opt_get (f59_eq a.Value m hm8), opt_chk (by simp [hbl, Lm]; omega), e3, w64 (by omega) (by omega)]
  rw [opt_chk (by refine ⟨by omega, by omega, ?_⟩; simp; omega), opt_chk (by simp), opt_chk (by simp [hbl, Lm]; omega), opt_ret]
  simp

theorem ref_eq (a : Action) (hw : wfA a) (h : RightA a) : f31 a = some (bytesOf a) := by
  obtain ⟨h1, h2⟩ := hw
  have L4 : ∀ v, (be v 4).length = 4 := fun v => be_length v 4
  have set := setRef a
  have r4 : f59 a.Value 4 = some (be a.Value 4) := f59_eq a.Value 4 (by omega)
  cases h with
  | out k f v1 v2 =>
    unfold f31 u31
    rw [opt_t (by simp [k]), opt_get r4, opt_chk (by simp [L4]), opt_chk (by simp [L4]), opt_ret]
    simp [bytesOf, k]
  | grp k f v1 v2 =>
    unfold f31 u31
    rw [opt_f (by simp [k]), opt_t (by simp [k]), opt_get r4, opt_chk (by simp [L4]), opt_ret]
    simp [bytesOf, k]
  | psh k f v =>
    unfold f31 u31
    rw [opt_f (by simp [k]), opt_f (by simp [k]), opt_t (by simp [k]), opt_ret]
    simp [bytesOf, k]
  | pop k f v =>
    unfold f31 u31
    rw [opt_f (by simp [k]), opt_f (by simp [k]), opt_f (by simp [k]), opt_t (by simp [k]), opt_ret]
    simp [bytesOf, k]
  | vlan k f v1 v2 => rw [set k 6 2 2 6 [12, 2] (by rw [f]; decide) (by rw [f]; decide) rfl (by omega) (by omega) (by decide)]; simp [bytesOf, k, f, List.replicate]
  | src k f v => rw [set k 11 4 4 4 [22, 4] (by rw [f]; decide) (by rw [f]; decide) rfl (by omega) (by omega) (by decide)]; simp [bytesOf, k, f, List.replicate]
  | dst k f v => rw [set k 12 4 4 4 [24, 4] (by rw [f]; decide) (by rw [f]; decide) rfl (by omega) (by omega) (by decide)]; simp [bytesOf, k, f, List.replicate]
  | sp k f v => rw [set k 13 2 2 6 [26, 2] (by rw [f]; decide) (by rw [f]; decide) rfl (by omega) (by omega) (by decide)]; simp [bytesOf, k, f, List.replicate]
  | dp k f v => rw [set k 14 2 2 6 [28, 2] (by rw [f]; decide) (by rw [f]; decide) rfl (by omega) (by omega) (by decide)]; simp [bytesOf, k, f, List.replicate]

end Go.Proofs.Act

/-
  The plain part: which bytes actions are.
-/
namespace Go.Proofs.Act
open Go Go.Ab
set_option linter.unusedVariables false
set_option linter.unusedSimpArgs false
set_option maxRecDepth 100000

theorem bytesOf_le (a : Action) : (bytesOf a).length ≤ 16 := by
  have L2 : ∀ v, (be v 2).length = 2 := fun v => be_length v 2
  have L4 : ∀ v, (be v 4).length = 4 := fun v => be_length v 4
  unfold bytesOf
  repeat' split
  all_goals simp [L2, L4]

noncomputable def enc (l : List Action) : List UInt8 × Int :=
  if l.all f15 then if 32 < l.length then ([], 44) else (l.flatMap bytesOf, 0) else ([], 22)

theorem f27_eq (a : Action) (h : wfA a) : f27 a = some (!f15 a) := by
  unfold f27 u27; rw [opt_get (right_same a h), opt_ret]

variable {l : List Action}

theorem loop12_1 (hl : l.length ≤ 32) (hw : ∀ a ∈ l, wfA a) (hr : l.all f15 = true) : ∀ (k i : Nat) (bs : List UInt8), i + k = l.length → bs.length ≤ 16 * i →
    loopO g12 (.h1 l i bs.length (bs.map fun b => (↑b.toNat : Int))) = some (bs ++ (l.drop i).flatMap bytesOf, 0) := by
  intro k
  induction k with
  | zero =>
    intro i bs hi hb
    refine loopO_inr ?_
    simp only [g12]
    rw [opt_f (by simp; omega), opt_chk (by simp), opt_chk (by simp; omega), opt_ret, bytes_back]
    have : l.drop i = [] := by rw [List.drop_eq_nil_iff]; omega
    simp [this]
  | succ k ih =>
    intro i bs hi hb
    have hi' : i < l.length := by omega
    have hm := List.getElem_mem hi'
    have hra : f15 l[i] = true := by rw [List.all_eq_true] at hr; exact hr _ hm
    have hle := bytesOf_le l[i]
    have ih' := ih (i + 1) (bs ++ bytesOf l[i]) (by omega) (by simp; omega)
    rw [List.map_append] at ih'
    refine loopO_inl (s' := .h1 l ((i + 1 : Nat) : Int) (bs ++ bytesOf l[i]).length (bs.map (fun b => (↑b.toNat : Int)) ++ (bytesOf l[i]).map fun b => (↑b.toNat : Int))) ?_ (by rw [ih', flatE _ hi']; simp)
    simp only [g12]
    rw [opt_t (by simp; omega), opt_chk (by omega), opt_get (nthE hi'), opt_get (laid_eq _ (hw _ hm) ((right_iff _).1 hra))]
    rw [filterMap_some, opt_chk (by simp; omega), opt_chk (by simp), opt_ret, wsucc (by omega)]
    simp

theorem loop12_0 (h60 : l.length ≤ 60) (hw : ∀ a ∈ l, wfA a) : ∀ (k i : Nat), i + k = l.length → (l.take i).all f15 = true → loopO g12 (.h0 l i) = some (enc l) := by
  intro k
  induction k with
  | zero =>
    intro i hi ht
    have hall : l.all f15 = true := by rw [List.take_of_length_le (by omega)] at ht; exact ht
    by_cases h32 : 32 < l.length
    · refine loopO_inr ?_
      simp only [g12]
      rw [opt_f (by simp; omega), opt_f (by decide), opt_t (by simp; omega), opt_ret]
      simp [enc, hall, h32]
    · have := loop12_1 (by omega) hw hall l.length 0 [] (by omega) (by simp)
      refine loopO_inl (s' := .h1 l ((0 : Nat) : Int) ([] : List UInt8).length (([] : List UInt8).map fun b => (↑b.toNat : Int))) ?_ (by rw [this]; simp [enc, hall, h32])
      simp only [g12]
      rw [opt_f (by simp; omega), opt_f (by decide), opt_f (by simp; omega), opt_chk (by simp), opt_ret]
      simp
  | succ k ih =>
    intro i hi ht
    have hi' : i < l.length := by omega
    have hm := List.getElem_mem hi'
    cases hra : f15 l[i] with
    | true =>
      refine loopO_inl (s' := .h0 l ((i + 1 : Nat) : Int)) ?_ (ih (i + 1) (by omega) (by rw [List.take_succ_eq_append_getElem hi', List.all_append, ht]; simp [hra]))
      simp only [g12]
      rw [opt_t (by simp; omega), opt_chk (by omega), opt_get (nthE hi'), opt_get (f27_eq _ (hw _ hm)), opt_f (by simp [hra]), opt_ret, wsucc (by omega)]
    | false =>
      refine loopO_inr ?_
      simp only [g12]
      rw [opt_t (by simp; omega), opt_chk (by omega), opt_get (nthE hi'), opt_get (f27_eq _ (hw _ hm)), opt_t (by simp [hra]), opt_t (by simp), opt_ret]
      have : l.all f15 = false := by rw [List.all_eq_false]; exact ⟨_, hm, by simp [hra]⟩
      simp [enc, this]

theorem f12_eq (h60 : l.length ≤ 60) (hw : ∀ a ∈ l, wfA a) : f12 l = some (enc l) :=
  runO_inl (s' := .h0 l ((0 : Nat) : Int)) rfl (loop12_0 h60 hw l.length 0 (by omega) (by simp))

theorem loop13_1 (hl : l.length ≤ 32) (hw : ∀ a ∈ l, wfA a) (hr : l.all f15 = true) : ∀ (k i : Nat) (bs : List UInt8), i + k = l.length → bs.length ≤ 16 * i →
    loopO g13 (.h1 l i bs) = some (bs ++ (l.drop i).flatMap bytesOf, 0) := by
  intro k
  induction k with
  | zero =>
    intro i bs hi hb
    refine loopO_inr ?_
    simp only [g13]
    rw [opt_f (by simp; omega), opt_ret]
    have : l.drop i = [] := by rw [List.drop_eq_nil_iff]; omega
    simp [this]
  | succ k ih =>
    intro i bs hi hb
    have hi' : i < l.length := by omega
    have hm := List.getElem_mem hi'
    have hra : f15 l[i] = true := by rw [List.all_eq_true] at hr; exact hr _ hm
    have hle := bytesOf_le l[i]
    refine loopO_inl (s' := .h1 l ((i + 1 : Nat) : Int) (bs ++ bytesOf l[i])) ?_ (by rw [ih (i + 1) _ (by omega) (by simp; omega), flatE _ hi']; simp)
    simp only [g13]
    rw [opt_t (by simp; omega), opt_chk (by omega), opt_get (nthE hi'), opt_get (ref_eq _ (hw _ hm) ((right_iff _).1 hra)), opt_chk (by omega), opt_ret, wsucc (by omega)]

theorem loop13_0 (h60 : l.length ≤ 60) (hw : ∀ a ∈ l, wfA a) : ∀ (k i : Nat), i + k = l.length → (l.take i).all f15 = true → loopO g13 (.h0 l i) = some (enc l) := by
  intro k
  induction k with
  | zero =>
    intro i hi ht
    have hall : l.all f15 = true := by rw [List.take_of_length_le (by omega)] at ht; exact ht
    by_cases h32 : 32 < l.length
    · refine loopO_inr ?_
      simp only [g13]
      rw [opt_f (by simp; omega), opt_t (by simp; omega), opt_ret]
      simp [enc, hall, h32]
    · refine loopO_inl (s' := .h1 l ((0 : Nat) : Int) []) ?_ (by rw [loop13_1 (by omega) hw hall l.length 0 [] (by omega) (by simp)]; simp [enc, hall, h32])
      simp only [g13]
      rw [opt_f (by simp; omega), opt_f (by simp; omega), opt_ret]
      simp
  | succ k ih =>
    intro i hi ht
    have hi' : i < l.length := by omega
    have hm := List.getElem_mem hi'
    cases hra : f15 l[i] with
    | true =>
      refine loopO_inl (s' := .h0 l ((i + 1 : Nat) : Int)) ?_ (ih (i + 1) (by omega) (by rw [List.take_succ_eq_append_getElem hi', List.all_append, ht]; simp [hra]))
      simp only [g13]
      rw [opt_t (by simp; omega), opt_chk (by omega), opt_get (nthE hi'), opt_f (by simp [hra]), opt_ret, wsucc (by omega)]
    | false =>
      refine loopO_inr ?_
      simp only [g13]
      rw [opt_t (by simp; omega), opt_chk (by omega), opt_get (nthE hi'), opt_t (by simp [hra]), opt_ret]
      have : l.all f15 = false := by rw [List.all_eq_false]; exact ⟨_, hm, by simp [hra]⟩
      simp [enc, this]

theorem f13_eq (h60 : l.length ≤ 60) (hw : ∀ a ∈ l, wfA a) : f13 l = some (enc l) :=
  runO_inl (s' := .h0 l ((0 : Nat) : Int)) rfl (loop13_0 h60 hw l.length 0 (by omega) (by simp))

theorem loop3 (h60 : l.length ≤ 60) (hw : ∀ a ∈ l, wfA a) : ∀ (k i : Nat), i + k = l.length → loopO g3 (.h0 l i) = some true := by
  intro k
  induction k with
  | zero =>
    intro i hi
    refine loopO_inr ?_
    simp only [g3]
    rw [opt_f (by simp; omega), opt_ret]
  | succ k ih =>
    intro i hi
    have hi' : i < l.length := by omega
    have hm := List.getElem_mem hi'
    refine loopO_inl (s' := .h0 l ((i + 1 : Nat) : Int)) ?_ (ih (i + 1) (by omega))
    simp only [g3]
    rw [opt_t (by simp; omega), opt_chk (by omega), opt_get (nthE hi'), opt_get (right_same _ (hw _ hm)), opt_chk (by omega), opt_get (nthE hi'), opt_f (by simp), opt_ret, wsucc (by omega)]

/-- ActEncodes. -/
theorem encodes (l : List Action) (hw : ∀ a ∈ l, wfA a) : f3 l = some true := by
  by_cases h : 60 < l.length
  · refine runO_inr ?_
    simp only [s3]
    rw [opt_t (by simp; omega), opt_ret]
  · refine runO_inl (s' := .h0 l ((0 : Nat) : Int)) ?_ (loop3 (by omega) hw l.length 0 (by omega))
    simp only [s3]
    rw [opt_f (by simp; omega), opt_get (f12_eq (by omega) hw), opt_get (f13_eq (by omega) hw), opt_f (by simp), opt_f (by simp), opt_ret]
    rfl

theorem wfA_of {a : Action} (h : wf_31 a) : wfA a := by
  have : inK .u64 a.Value := h.2.2
  exact ⟨this.1, by have := this.2; omega⟩

theorem law3 (l : List Action) (h : wf_22 l) : f3 l = some true := encodes l fun a ha => wfA_of (h.2 a ha)

end Go.Proofs.Act

/-
  The plain part: how many bytes an action has; a packet that it does not change stays.
-/
namespace Go.Proofs.Act
open Go Go.Ab
set_option linter.unusedVariables false
set_option linter.unusedSimpArgs false
set_option maxRecDepth 100000

theorem bytesOf_len (a : Action) (h : RightA a) : (bytesOf a).length = if a.Kind = 1 ∨ a.Kind = 5 then 16 else 8 := by
  have L2 : ∀ v, (be v 2).length = 2 := fun v => be_length v 2
  have L4 : ∀ v, (be v 4).length = 4 := fun v => be_length v 4
  cases h <;> simp_all [bytesOf]

theorem f20_same (s : field_Seen) (a : Action) (h : a.Kind = 1 ∨ a.Kind = 2) : f20 s a = some s := by
  unfold f20 u20
  rw [opt_f (by simp; omega), opt_f (by simp; omega), opt_f (by simp; omega), opt_f (by simp), opt_ret]

theorem law7 (a : Action) (s : field_Seen) (ha : wf_31 a) (hs : wf_41 s) : f7 a s = some true := by
  have hw : ∀ b ∈ [a], wfA b := by intro b hb; rw [List.mem_singleton.1 hb]; exact wfA_of ha
  have he := f12_eq (l := [a]) (by simp) hw
  have hr := right_same a (wfA_of ha)
  unfold f7 u7
  rw [opt_chk (by simp), opt_get (x := enc [a]) (by simpa using he)]
  cases h : f15 a with
  | false =>
    have e1 : enc [a] = ([], 22) := by simp [enc, h]
    rw [e1, opt_t (by simp), opt_get hr, opt_t (by simp [h]), opt_t (by simp), opt_ret]
  | true =>
    have e1 : enc [a] = (bytesOf a, 0) := by simp [enc, h]
    have hl := bytesOf_len a ((right_iff a).1 h)
    rw [e1, opt_f (by simp)]
    by_cases k1 : a.Kind = 1
    · rw [opt_t (by simp [k1]), opt_t (by simp [hl, k1]), opt_f (by simp [k1]), opt_get (f20_same s a (.inl k1)), opt_t (by simp), opt_ret]
    · rw [opt_f (by simp [k1])]
      by_cases k5 : a.Kind = 5
      · rw [opt_t (by simp [k5]), opt_t (by simp [hl, k5]), opt_t (by simp [k1]), opt_t (by simp [k5]), opt_ret]
      · rw [opt_f (by simp [k5]), opt_t (by simp [hl, k1, k5]), opt_t (by simp [k1])]
        by_cases k2 : a.Kind = 2
        · rw [opt_f (by simp [k2]), opt_get (f20_same s a (.inr k2)), opt_t (by simp), opt_ret]
        · rw [opt_t (by simp [k2]), opt_ret]

end Go.Proofs.Act

/-
  The plain part: what a right action leaves is right to be a frame, if it was.
-/
namespace Go.Proofs.Act
open Go Go.Ab
set_option linter.unusedVariables false
set_option linter.unusedSimpArgs false
set_option maxRecDepth 100000

/-! ### what there is to be had of a tree -/

def Has {α : Type} (o : Option α) (K : α → Prop) : Prop := ∃ r, o = some r ∧ K r
theorem has_chk {α : Type} {p : Prop} {t : Cm α} {K : α → Prop} (h : p) (k : Has t.opt K) : Has (Cm.chk p t).opt K := by rw [opt_chk h]; exact k
theorem has_ite {α : Type} {b : Bool} {t e : Cm α} {K : α → Prop} (h : b = true → Has t.opt K) (k : b = false → Has e.opt K) : Has (Cm.ite b t e).opt K := by
  cases b with
  | true => rw [opt_t rfl]; exact h rfl
  | false => rw [opt_f rfl]; exact k rfl
theorem has_get {α β : Type} {o : Option β} {f : β → Cm α} {J : β → Prop} {K : α → Prop} (h : Has o J) (k : ∀ x, J x → Has (f x).opt K) : Has (Cm.get o f).opt K := by
  obtain ⟨x, hx, hj⟩ := h
  rw [opt_get hx]; exact k x hj
theorem has_ret {α : Type} {a : α} {K : α → Prop} (h : K a) : Has (Cm.ret a).opt K := ⟨a, rfl, h⟩

/-! ### which packets are right -/

def below (m : Int) (l : List Int) : Bool := l.all fun x => decide (0 ≤ x) && decide (x ≤ m)

theorem f74_eq (m : Int) (l : List Int) (hl : l.length ≤ 100) : f74 m l = some (below m l) := by
  have h : ∀ (k i : Nat), i + k = l.length → loopO g74 (.h0 m l i) = some (below m (l.drop i)) := by
    intro k
    induction k with
    | zero =>
      intro i hi
      refine loopO_inr ?_
      simp only [g74]
      rw [opt_f (by simp; omega), opt_ret, dropN (by omega)]
      rfl
    | succ k ih =>
      intro i hi
      have hi' : i < l.length := by omega
      rw [dropE hi']
      by_cases h1 : l[i] < 0
      · refine loopO_inr ?_
        simp only [g74]
        rw [opt_t (by simp; omega), opt_chk (by omega), opt_get (nthE hi'), opt_t (by simpa using h1), opt_ret]
        have : decide (0 ≤ l[i]) = false := by simp; omega
        simp only [below, List.all_cons, this, Bool.false_and]
      · by_cases h2 : m < l[i]
        · refine loopO_inr ?_
          simp only [g74]
          rw [opt_t (by simp; omega), opt_chk (by omega), opt_get (nthE hi'), opt_f (by simpa using h1), opt_t (by simpa using h2), opt_ret]
          have : decide (l[i] ≤ m) = false := by simp; omega
          simp only [below, List.all_cons, this, Bool.and_false, Bool.false_and]
        · refine loopO_inl (s' := .h0 m l ((i + 1 : Nat) : Int)) ?_ ?_
          · simp only [g74]
            rw [opt_t (by simp; omega), opt_chk (by omega), opt_get (nthE hi'), opt_f (by simpa using h1), opt_f (by simpa using h2), opt_ret, wsucc (by omega)]
          · rw [ih (i + 1) (by omega)]
            have : (decide (0 ≤ l[i]) && decide (l[i] ≤ m)) = true := by simp; omega
            simp only [below, List.all_cons, this, Bool.true_and]
  exact runO_inl (s' := .h0 m l ((0 : Nat) : Int)) rfl (h l.length 0 (by omega))

noncomputable def rightB (p : Packet) : Bool :=
  if 0 < p.To.fdiv (2 ^ 48) then false
  else if 0 < p.From.fdiv (2 ^ 48) then false
  else if p.Vlan ≠ 0 ∧ p.Vlan.fdiv (2 ^ 12) ≠ 1 then false
  else if below 65535 [p.Type_] = false then false
  else if p.Type_ < 1536 then false
  else if p.Type_ = 33024 then false
  else if p.Type_ = 2048 then below 255 [p.Life, p.Proto] && below 65535 [p.Sport, p.Dport] && (f75 p || (decide (p.Sport = 0) && decide (p.Dport = 0)))
  else decide (p.Src = 0) && decide (p.Dst = 0) && below 0 [p.Life, p.Proto, p.Sport, p.Dport]

theorem f52_eq (p : Packet) : f52 p = some (rightB p) := by
  unfold f52 u52
  rw [opt_chk (by omega)]
  by_cases h1 : 0 < p.To.fdiv (2 ^ 48)
  · rw [opt_t (by simpa using h1), opt_ret]; simp only [rightB, h1, if_true]
  rw [opt_f (by simpa using h1), opt_chk (by omega)]
  by_cases h2 : 0 < p.From.fdiv (2 ^ 48)
  · rw [opt_t (by simpa using h2), opt_ret]; simp only [rightB, h1, h2, if_true, if_false]
  rw [opt_f (by simpa using h2)]
  by_cases hv : p.Vlan = 0
  · have hV : ¬(p.Vlan ≠ 0 ∧ p.Vlan.fdiv (2 ^ 12) ≠ 1) := fun h => h.1 hv
    rw [opt_f (by simp [hv])]
    rw [opt_chk (by simp), opt_get (f74_eq _ _ (by simp))]
    unfold rightB
    rw [if_neg h1, if_neg h2, if_neg hV]
    cases h4 : below 65535 [p.Type_] with
    | false => rw [opt_t (by simp [h4]), opt_ret, if_pos rfl]
    | true =>
      rw [opt_f (by simp [h4]), if_neg (by simp)]
      by_cases h5 : p.Type_ < 1536
      · rw [opt_t (by simpa using h5), opt_ret, if_pos h5]
      rw [opt_f (by simpa using h5), if_neg h5]
      by_cases h6 : p.Type_ = 33024
      · rw [opt_t (by simpa using h6), opt_ret, if_pos h6]
      rw [opt_f (by simpa using h6), if_neg h6]
      by_cases h7 : p.Type_ = 2048
      · rw [if_pos h7, opt_f (by simp [h7]), opt_chk (by exact Nat.le_refl 2), opt_get (f74_eq _ _ (by simp))]
        have e8 : List.take 2 (List.drop 0 [p.Life, p.Proto]) = [p.Life, p.Proto] := rfl
        have e9 : List.take 2 (List.drop 0 [p.Sport, p.Dport]) = [p.Sport, p.Dport] := rfl
        rw [e8]
        cases h8 : below 255 [p.Life, p.Proto] with
        | false => rw [opt_f rfl, opt_ret]; rfl
        | true =>
          rw [opt_t rfl, opt_chk (by exact Nat.le_refl 2), opt_get (f74_eq _ _ (by simp)), e9]
          cases h9 : below 65535 [p.Sport, p.Dport] with
          | false => rw [opt_f rfl, opt_ret]; rfl
          | true =>
            rw [opt_t rfl]
            cases h10 : f75 p with
            | true => rw [opt_t rfl, opt_ret]; rfl
            | false =>
              rw [opt_f rfl]
              by_cases h11 : p.Sport = 0
              · rw [opt_t (by simpa using h11), opt_ret]; simp [h11]
              · rw [opt_f (by simpa using h11), opt_ret]; simp [h11]
      · rw [if_neg h7, opt_t (by simp [h7])]
        by_cases h8 : p.Src = 0
        · rw [opt_t (by simpa using h8)]
          by_cases h9 : p.Dst = 0
          · rw [opt_t (by simpa using h9), opt_chk (by exact Nat.le_refl 4), opt_get (f74_eq _ _ (by simp)), opt_ret]; simp [h8, h9]
          · rw [opt_f (by simpa using h9), opt_ret]; simp [h9]
        · rw [opt_f (by simpa using h8), opt_ret]; simp [h8]
  · rw [opt_t (by simp [hv]), opt_chk (by omega)]
    by_cases hw : p.Vlan.fdiv (2 ^ 12) = 1
    · have hV : ¬(p.Vlan ≠ 0 ∧ p.Vlan.fdiv (2 ^ 12) ≠ 1) := fun h => h.2 hw
      rw [opt_f (by simpa using hw)]
      rw [opt_chk (by simp), opt_get (f74_eq _ _ (by simp))]
      unfold rightB
      rw [if_neg h1, if_neg h2, if_neg hV]
      cases h4 : below 65535 [p.Type_] with
      | false => rw [opt_t (by simp [h4]), opt_ret, if_pos rfl]
      | true =>
        rw [opt_f (by simp [h4]), if_neg (by simp)]
        by_cases h5 : p.Type_ < 1536
        · rw [opt_t (by simpa using h5), opt_ret, if_pos h5]
        rw [opt_f (by simpa using h5), if_neg h5]
        by_cases h6 : p.Type_ = 33024
        · rw [opt_t (by simpa using h6), opt_ret, if_pos h6]
        rw [opt_f (by simpa using h6), if_neg h6]
        by_cases h7 : p.Type_ = 2048
        · rw [if_pos h7, opt_f (by simp [h7]), opt_chk (by exact Nat.le_refl 2), opt_get (f74_eq _ _ (by simp))]
          have e8 : List.take 2 (List.drop 0 [p.Life, p.Proto]) = [p.Life, p.Proto] := rfl
          have e9 : List.take 2 (List.drop 0 [p.Sport, p.Dport]) = [p.Sport, p.Dport] := rfl
          rw [e8]
          cases h8 : below 255 [p.Life, p.Proto] with
          | false => rw [opt_f rfl, opt_ret]; rfl
          | true =>
            rw [opt_t rfl, opt_chk (by exact Nat.le_refl 2), opt_get (f74_eq _ _ (by simp)), e9]
            cases h9 : below 65535 [p.Sport, p.Dport] with
            | false => rw [opt_f rfl, opt_ret]; rfl
            | true =>
              rw [opt_t rfl]
              cases h10 : f75 p with
              | true => rw [opt_t rfl, opt_ret]; rfl
              | false =>
                rw [opt_f rfl]
                by_cases h11 : p.Sport = 0
                · rw [opt_t (by simpa using h11), opt_ret]; simp [h11]
                · rw [opt_f (by simpa using h11), opt_ret]; simp [h11]
        · rw [if_neg h7, opt_t (by simp [h7])]
          by_cases h8 : p.Src = 0
          · rw [opt_t (by simpa using h8)]
            by_cases h9 : p.Dst = 0
            · rw [opt_t (by simpa using h9), opt_chk (by exact Nat.le_refl 4), opt_get (f74_eq _ _ (by simp)), opt_ret]; simp [h8, h9]
            · rw [opt_f (by simpa using h9), opt_ret]; simp [h9]
          · rw [opt_f (by simpa using h8), opt_ret]; simp [h8]
    · rw [opt_t (by simpa using hw), opt_ret]; unfold rightB; rw [if_neg h1, if_neg h2, if_pos ⟨hv, hw⟩]

/-! ### what a packet's bytes are, is there -/

theorem f76_le (a : Int) (n : Nat) (h1 : 1 ≤ n) (h8 : n ≤ 8) : Has (f76 a n) fun l => l.length ≤ n := by
  by_cases h : n < 8 → a.fdiv ((2 : Int) ^ (8 * n)) ≤ 0
  · exact ⟨_, f76_eq a n h1 h8 h, by simp only [be_length]; omega⟩
  · refine ⟨[], ?_, by simp⟩
    have hn : n < 8 := by
      rcases Nat.lt_or_ge n 8 with x | x
      · exact x
      · exact absurd (fun y => absurd y (by omega)) h
    have hp : 0 < a.fdiv ((2 : Int) ^ (8 * n)) := by
      rcases Int.lt_or_le 0 (a.fdiv ((2 : Int) ^ (8 * n))) with x | x
      · exact x
      · exact absurd (fun _ => x) h
    have e : Min.min (IntKind.i64.wrap (8 * (n : Int))).toNat 64 = 8 * n := by
      rw [w64 (by omega) (by omega)]; omega
    have h81 : f81 a n = some ([], 1) := by
      refine runO_inr ?_
      simp only [s81]
      rw [opt_f (by simp; omega), opt_f (by simp; omega), opt_t (by simp; omega), opt_chk (by rw [w64 (by omega) (by omega)]; omega), opt_t (by rw [e]; simpa using hp), opt_ret]
    simp only [f76, u76]; rw [opt_get h81]; rfl

theorem f77_has (p : Packet) (s : frame_sums) (hd : p.Data.length ≤ 1000) : Has (f77 p s) fun l => l.length ≤ 1030 := by
  unfold f77 u77
  refine has_get (f76_le _ 2 (by omega) (by omega)) fun y0 l0 => ?_
  refine has_get (f76_le _ 2 (by omega) (by omega)) fun y1 l1 => ?_
  refine has_chk (by omega) ?_
  refine has_ite (fun _ => ?_) fun _ => has_ite (fun _ => ?_) fun _ => ?_
  · refine has_get (f76_le _ 2 (by omega) (by omega)) fun y2 l2 => ?_
    refine has_chk (by simp; omega) ?_
    refine has_get (f76_le _ 2 (by omega) (by omega)) fun y3 l3 => ?_
    refine has_chk (by simp; omega) (has_chk (by simp; omega) (has_ret ?_))
    simp; omega
  · refine has_chk (by simp; omega) ?_
    refine has_get (f76_le _ 2 (by omega) (by omega)) fun y2 l2 => ?_
    refine has_chk (by simp; omega) (has_chk (by simp; omega) (has_chk (by simp; omega) (has_ret ?_)))
    simp; omega
  · exact has_ret (by omega)

theorem f78_has (p : Packet) (n : Int) (s : frame_sums) : Has (f78 p n s) fun l => l.length ≤ 30 := by
  unfold f78 u78
  refine has_get (f76_le _ 2 (by omega) (by omega)) fun y0 l0 => ?_
  refine has_chk (by simp; omega) (has_chk (by simp; omega) ?_)
  refine has_get (f76_le _ 1 (by omega) (by omega)) fun y1 l1 => ?_
  refine has_chk (by simp; omega) ?_
  refine has_get (f76_le _ 1 (by omega) (by omega)) fun y2 l2 => ?_
  refine has_chk (by simp; omega) ?_
  refine has_get (f76_le _ 2 (by omega) (by omega)) fun y3 l3 => ?_
  refine has_chk (by simp; omega) ?_
  refine has_get (f76_le _ 4 (by omega) (by omega)) fun y4 l4 => ?_
  refine has_chk (by simp; omega) ?_
  refine has_get (f76_le _ 4 (by omega) (by omega)) fun y5 l5 => ?_
  refine has_chk (by simp; omega) (has_ret ?_)
  simp; omega

theorem f90_has : ∀ (n : Nat) (v : Int), 0 ≤ v → v < 18446744073709551616 → v.toNat ≤ n → Has (f90 v) fun _ => True := by
  intro n
  induction n using Nat.strongRecOn with
  | _ n ih =>
    intro v h0 h1 hn
    have hd : v.fdiv (2 ^ 16) = v / 65536 := fdivp v 16
    by_cases h : 0 < v.fdiv (2 ^ 16)
    · obtain ⟨m, rfl⟩ := Int.eq_ofNat_of_zero_le h0
      have ha : (BitVec.ofInt 64 (m : Int) &&& BitVec.ofInt 64 65535).toNat = m % 65536 := by
        rw [BitVec.toNat_and, BitVec.ofInt_natCast, BitVec.toNat_ofNat, Nat.mod_eq_of_lt (by omega)]
        exact Nat.and_two_pow_sub_one_eq_mod m 16
      obtain ⟨r, hr, _⟩ := ih ((BitVec.ofInt 64 (m : Int) &&& BitVec.ofInt 64 65535).toNat + m / 65536) (by omega) (((BitVec.ofInt 64 (m : Int) &&& BitVec.ofInt 64 65535).toNat : Int) + (m : Int) / 65536) (by omega) (by omega) (by omega)
      refine ⟨r, ?_, trivial⟩
      refine runO_inl (s' := .h0 (m : Int)) rfl ?_
      have hr' : loopO g90 (.h0 (((BitVec.ofInt 64 (m : Int) &&& BitVec.ofInt 64 65535).toNat : Int) + (m : Int) / 65536)) = some r := hr
      refine loopO_inl ?_ hr'
      simp only [g90]
      rw [opt_chk (by omega), opt_t (by simpa using h), opt_chk (by omega), opt_ret, hd, wu64 (x := ((BitVec.ofInt 64 (m : Int) &&& BitVec.ofInt 64 65535).toNat : Int)) (by omega) (by omega), wu64 (by omega) (by omega)]
    · refine ⟨IntKind.u16.wrap v, ?_, trivial⟩
      refine runO_inl (s' := .h0 v) rfl (loopO_inr ?_)
      simp only [g90]
      rw [opt_chk (by omega), opt_f (by simpa using h), opt_ret]

theorem u64_bd (x : Int) : 0 ≤ IntKind.u64.wrap x ∧ IntKind.u64.wrap x < 18446744073709551616 := by rw [wrapE64]; omega

theorem f79_has (s : List UInt8) (hs : s.length ≤ 1000000) : Has (f79 s) fun _ => True := by
  have h : ∀ (k i : Nat) (v : Int), i + k = s.length → 0 ≤ v ∧ v < 18446744073709551616 → Has (loopO g79 (.h0 s i v)) fun _ => True := by
    intro k
    induction k with
    | zero =>
      intro i v hi hv
      obtain ⟨r, hr, _⟩ := f90_has v.toNat v hv.1 hv.2 (by omega)
      have he : ∃ z, (g79 (.h0 s i v)).opt = some (.inr z) := by
        simp only [g79]
        rw [opt_f (by simp; omega), opt_get hr, opt_ret]
        exact ⟨_, rfl⟩
      obtain ⟨z, he⟩ := he
      exact ⟨z, loopO_inr he, trivial⟩
    | succ k ih =>
      intro i v hi hv
      have hi' : i < s.length := by omega
      have step : ∀ w : Int, 0 ≤ w ∧ w < 18446744073709551616 → (g79 (.h0 s i v)).opt = some (.inl (.h0 s ((i + 1 : Nat) : Int) w)) → Has (loopO g79 (.h0 s i v)) fun _ => True := by
        intro w hw he
        obtain ⟨r, hr, _⟩ := ih (i + 1) w (by omega) hw
        exact ⟨r, loopO_inl he hr, trivial⟩
      have hget := nthE hi'
      by_cases hm : (i : Int).tmod 2 = 0
      · have hb := u64_bd (v + IntKind.u64.wrap (IntKind.u64.wrap (↑s[i].toNat : Int) * 2 ^ 8))
        obtain ⟨r, hr, _⟩ := f90_has _ _ hb.1 hb.2 (Nat.le_refl _)
        by_cases hg : 0 < (IntKind.u64.wrap (v + IntKind.u64.wrap (IntKind.u64.wrap (↑s[i].toNat : Int) * 2 ^ 8))).fdiv (2 ^ 62)
        · refine step (IntKind.u64.wrap r) (u64_bd r) ?_
          simp only [g79]
          rw [opt_t (by simp; omega), opt_chk (by omega), opt_get hget, opt_chk (by omega), opt_t (by simpa using hm), opt_chk (by omega), opt_chk (by omega), opt_t (by simpa using hg), opt_get hr, opt_ret, wsucc (by omega)]
        · refine step _ hb ?_
          simp only [g79]
          rw [opt_t (by simp; omega), opt_chk (by omega), opt_get hget, opt_chk (by omega), opt_t (by simpa using hm), opt_chk (by omega), opt_chk (by omega), opt_f (by simpa using hg), opt_ret, wsucc (by omega)]
      · have hb := u64_bd (v + IntKind.u64.wrap (↑s[i].toNat : Int))
        obtain ⟨r, hr, _⟩ := f90_has _ _ hb.1 hb.2 (Nat.le_refl _)
        by_cases hg : 0 < (IntKind.u64.wrap (v + IntKind.u64.wrap (↑s[i].toNat : Int))).fdiv (2 ^ 62)
        · refine step (IntKind.u64.wrap r) (u64_bd r) ?_
          simp only [g79]
          rw [opt_t (by simp; omega), opt_chk (by omega), opt_get hget, opt_chk (by omega), opt_f (by simpa using hm), opt_chk (by omega), opt_t (by simpa using hg), opt_get hr, opt_ret, wsucc (by omega)]
        · refine step _ hb ?_
          simp only [g79]
          rw [opt_t (by simp; omega), opt_chk (by omega), opt_get hget, opt_chk (by omega), opt_f (by simpa using hm), opt_chk (by omega), opt_f (by simpa using hg), opt_ret, wsucc (by omega)]
  obtain ⟨r, hr, _⟩ := h s.length 0 0 (by omega) (by omega)
  exact ⟨r, runO_inl (s' := .h0 s 0 0) rfl hr, trivial⟩

theorem f54_has (p : Packet) (hd : p.Data.length ≤ 1000) : Has (f54 p) fun _ => True := by
  unfold f54 u54
  refine has_get (f77_has p _ hd) fun y0 l0 => ?_
  refine has_get (f78_has p _ _) fun y1 l1 => ?_
  refine has_get (f79_has y1 (by omega)) fun y2 _ => ?_
  refine has_get (f76_le _ 4 (by omega) (by omega)) fun y3 l3 => ?_
  refine has_get (f76_le _ 4 (by omega) (by omega)) fun y4 l4 => ?_
  refine has_chk (by omega) ?_
  refine has_get (f76_le _ 2 (by omega) (by omega)) fun y5 l5 => ?_
  refine has_chk (by simp; omega) ?_
  refine has_get (f76_le _ 2 (by omega) (by omega)) fun y6 l6 => ?_
  refine has_chk (by simp; omega) (has_chk (by simp; omega) ?_)
  refine has_get (f79_has _ (by simp; omega)) fun y7 _ => ?_
  exact has_ite (fun _ => has_ite (fun _ => has_ret trivial) fun _ => has_ret trivial) fun _ => has_ret trivial

theorem f53_has (p : Packet) (s : frame_sums) (hd : p.Data.length ≤ 1000) : Has (f53 p s) fun l => l.length ≤ 1400 := by
  unfold f53 u53
  refine has_get (f76_le _ 6 (by omega) (by omega)) fun y0 l0 => ?_
  refine has_get (f76_le _ 6 (by omega) (by omega)) fun y1 l1 => ?_
  refine has_chk (by omega) (has_chk (by simp [filterMap_some]; omega) ?_)
  refine has_ite (fun _ => ?_) fun _ => ?_
  · refine has_get (f76_le _ 2 (by omega) (by omega)) fun y2 l2 => ?_
    refine has_get (f76_le _ 2 (by omega) (by omega)) fun y3 l3 => ?_
    refine has_chk (by omega) (has_chk (by simp [filterMap_some]; omega) ?_)
    refine has_get (f76_le _ 2 (by omega) (by omega)) fun y4 l4 => ?_
    refine has_chk (by simp [filterMap_some]; omega) ?_
    refine has_ite (fun _ => ?_) fun _ => ?_
    · refine has_chk (by simp [filterMap_some]; omega) (has_chk (by simp) (has_chk (by simp [filterMap_some]; omega) (has_ret ?_)))
      simp [filterMap_some]; omega
    · refine has_get (f77_has p s hd) fun y5 l5 => ?_
      refine has_get (f78_has p _ s) fun y6 l6 => ?_
      refine has_chk (by omega) (has_chk (by simp [filterMap_some]; omega) (has_chk (by simp) (has_chk (by simp [filterMap_some]; omega) (has_ret ?_))))
      simp [filterMap_some]; omega
  · refine has_get (f76_le _ 2 (by omega) (by omega)) fun y4 l4 => ?_
    refine has_chk (by simp [filterMap_some]; omega) ?_
    refine has_ite (fun _ => ?_) fun _ => ?_
    · refine has_chk (by simp [filterMap_some]; omega) (has_chk (by simp) (has_chk (by simp [filterMap_some]; omega) (has_ret ?_)))
      simp [filterMap_some]; omega
    · refine has_get (f77_has p s hd) fun y5 l5 => ?_
      refine has_get (f78_has p _ s) fun y6 l6 => ?_
      refine has_chk (by omega) (has_chk (by simp [filterMap_some]; omega) (has_chk (by simp) (has_chk (by simp [filterMap_some]; omega) (has_ret ?_))))
      simp [filterMap_some]; omega

theorem f24_has (p : Packet) (hd : p.Data.length ≤ 1000) : Has (f24 p) fun r => r.2 = if rightB p = true then 0 else 1 := by
  unfold f24 u24
  refine has_get ⟨_, f52_eq p, rfl⟩ fun y hy => ?_
  subst hy
  refine has_ite (fun h => has_ret ?_) fun h => has_ite (fun h' => ?_) fun h' => ?_
  · have : rightB p = false := by simpa using h
    simp [this]
  · exfalso; simp at h'; omega
  · have hr : rightB p = true := by simpa using h
    refine has_get (f54_has p hd) fun s _ => ?_
    refine has_get (f53_has p s hd) fun l hl => ?_
    refine has_ite (fun h => ?_) fun h => has_ret (by simp [hr])
    exfalso; simp at h; omega

end Go.Proofs.Act

/-
  The plain part: a right action leaves what is right to be a frame.
-/
namespace Go.Proofs.Act
open Go Go.Ab
set_option linter.unusedVariables false
set_option linter.unusedSimpArgs false
set_option maxRecDepth 100000

def Rights (p : Packet) : Prop :=
  ¬0 < p.To.fdiv (2 ^ 48) ∧ ¬0 < p.From.fdiv (2 ^ 48) ∧ ¬(p.Vlan ≠ 0 ∧ p.Vlan.fdiv (2 ^ 12) ≠ 1) ∧ below 65535 [p.Type_] = true ∧ ¬p.Type_ < 1536 ∧ p.Type_ ≠ 33024 ∧
  (p.Type_ = 2048 → below 255 [p.Life, p.Proto] = true ∧ below 65535 [p.Sport, p.Dport] = true ∧ (f75 p = true ∨ p.Sport = 0 ∧ p.Dport = 0)) ∧
  (p.Type_ ≠ 2048 → p.Src = 0 ∧ p.Dst = 0 ∧ below 0 [p.Life, p.Proto, p.Sport, p.Dport] = true)

theorem rightB_iff (p : Packet) : rightB p = true ↔ Rights p := by
  unfold rightB Rights
  by_cases h1 : 0 < p.To.fdiv (2 ^ 48)
  · simp only [h1, if_true]; simp
  by_cases h2 : 0 < p.From.fdiv (2 ^ 48)
  · simp only [h1, h2, if_true, if_false]; simp
  by_cases hV : p.Vlan ≠ 0 ∧ p.Vlan.fdiv (2 ^ 12) ≠ 1
  · rw [if_neg h1, if_neg h2, if_pos hV]; exact ⟨fun h => absurd h (by simp), fun h => absurd hV h.2.2.1⟩
  rw [if_neg h1, if_neg h2, if_neg hV]
  cases h4 : below 65535 [p.Type_] with
  | false => rw [if_pos rfl]; simp
  | true =>
    rw [if_neg (by simp)]
    by_cases h5 : p.Type_ < 1536
    · rw [if_pos h5]; simp [h5]
    rw [if_neg h5]
    by_cases h6 : p.Type_ = 33024
    · rw [if_pos h6]; simp [h6]
    rw [if_neg h6]
    by_cases h7 : p.Type_ = 2048
    · rw [if_pos h7]; simp only [h1, h2, hV, h5, h6, h7, Bool.and_eq_true, Bool.or_eq_true, decide_eq_true_eq]; simp [and_assoc]
    · rw [if_neg h7]; simp only [h1, h2, hV, h5, h6, h7, Bool.and_eq_true, decide_eq_true_eq]; simp [and_assoc, h5, h6, h7]

theorem f75_iff (p : Packet) : f75 p = true ↔ p.Proto = 6 ∨ p.Proto = 17 := by
  unfold f75 u75
  simp only [tot_ite, tot_ret]
  by_cases h : p.Proto = 6 <;> simp [h]

def Keeps (s t : field_Seen) : Prop := t.In = s.In ∧ t.P.Data = s.P.Data ∧ (rightB s.P = true → rightB t.P = true)
theorem keeps_refl (s : field_Seen) : Keeps s s := ⟨rfl, rfl, id⟩

theorem rights_vlan {p : Packet} {v : Int} (hv : v = 0 ∨ v.fdiv (2 ^ 12) = 1) (h : Rights p) : Rights ⟨p.To, p.From, v, p.Type_, p.Src, p.Dst, p.Life, p.Proto, p.Sport, p.Dport, p.Data⟩ := by
  obtain ⟨h1, h2, h3, h4, h5, h6, h7, h8⟩ := h
  refine ⟨h1, h2, fun h => ?_, h4, h5, h6, fun e => ?_, h8⟩
  · rcases hv with hv | hv
    · exact h.1 hv
    · exact h.2 hv
  · obtain ⟨k1, k2, k3⟩ := h7 e
    refine ⟨k1, k2, ?_⟩
    rw [f75_iff] at k3 ⊢; exact k3

theorem rights_src {p : Packet} {v : Int} (ht : p.Type_ = 2048) (h : Rights p) : Rights ⟨p.To, p.From, p.Vlan, p.Type_, v, p.Dst, p.Life, p.Proto, p.Sport, p.Dport, p.Data⟩ := by
  obtain ⟨h1, h2, h3, h4, h5, h6, h7, h8⟩ := h
  refine ⟨h1, h2, h3, h4, h5, h6, fun e => ?_, fun e => absurd ht e⟩
  obtain ⟨k1, k2, k3⟩ := h7 ht
  refine ⟨k1, k2, ?_⟩
  rw [f75_iff] at k3 ⊢; exact k3
theorem rights_dst {p : Packet} {v : Int} (ht : p.Type_ = 2048) (h : Rights p) : Rights ⟨p.To, p.From, p.Vlan, p.Type_, p.Src, v, p.Life, p.Proto, p.Sport, p.Dport, p.Data⟩ := by
  obtain ⟨h1, h2, h3, h4, h5, h6, h7, h8⟩ := h
  refine ⟨h1, h2, h3, h4, h5, h6, fun e => ?_, fun e => absurd ht e⟩
  obtain ⟨k1, k2, k3⟩ := h7 ht
  refine ⟨k1, k2, ?_⟩
  rw [f75_iff] at k3 ⊢; exact k3

theorem below2 {m a b : Int} : below m [a, b] = true ↔ (0 ≤ a ∧ a ≤ m) ∧ (0 ≤ b ∧ b ≤ m) := by simp [below]

theorem rights_sp {p : Packet} {v : Int} (ht : p.Type_ = 2048) (hp : p.Proto = 6 ∨ p.Proto = 17) (hv : 0 ≤ v ∧ v ≤ 65535) (h : Rights p) : Rights ⟨p.To, p.From, p.Vlan, p.Type_, p.Src, p.Dst, p.Life, p.Proto, v, p.Dport, p.Data⟩ := by
  obtain ⟨h1, h2, h3, h4, h5, h6, h7, h8⟩ := h
  refine ⟨h1, h2, h3, h4, h5, h6, fun e => ?_, fun e => absurd ht e⟩
  obtain ⟨k1, k2, k3⟩ := h7 ht
  refine ⟨k1, below2.2 ⟨hv, (below2.1 k2).2⟩, .inl ?_⟩
  rw [f75_iff]; exact hp
theorem rights_dp {p : Packet} {v : Int} (ht : p.Type_ = 2048) (hp : p.Proto = 6 ∨ p.Proto = 17) (hv : 0 ≤ v ∧ v ≤ 65535) (h : Rights p) : Rights ⟨p.To, p.From, p.Vlan, p.Type_, p.Src, p.Dst, p.Life, p.Proto, p.Sport, v, p.Data⟩ := by
  obtain ⟨h1, h2, h3, h4, h5, h6, h7, h8⟩ := h
  refine ⟨h1, h2, h3, h4, h5, h6, fun e => ?_, fun e => absurd ht e⟩
  obtain ⟨k1, k2, k3⟩ := h7 ht
  refine ⟨k1, below2.2 ⟨(below2.1 k2).1, hv⟩, .inl ?_⟩
  rw [f75_iff]; exact hp

theorem put_has (s : field_Seen) (a : Action) (k : a.Kind = 5) {t : field_Seen} {e : Int} (h : f45 s a.Field a.Value = some (t, e)) (hk : e = 0 → Keeps s t) : Has (f20 s a) (Keeps s) := by
  unfold f20 u20
  rw [opt_f (by simp [k]), opt_f (by simp [k]), opt_t (by simp [k]), opt_get h]
  refine has_ite (fun _ => has_ret (keeps_refl s)) fun he => has_ret (hk ?_)
  simpa using he

theorem gr3 : f67 3 = some 8191 := by unfold f67; simp only [u67]; rw [opt_chk (by decide), opt_ret]; rfl
theorem gr5 : f67 5 = some 4294967295 := by unfold f67; simp only [u67]; rw [opt_chk (by decide), opt_ret]; rfl
theorem gr6 : f67 6 = some 4294967295 := by unfold f67; simp only [u67]; rw [opt_chk (by decide), opt_ret]; rfl
theorem gr8 : f67 8 = some 65535 := by unfold f67; simp only [u67]; rw [opt_chk (by decide), opt_ret]; rfl
theorem gr9 : f67 9 = some 65535 := by unfold f67; simp only [u67]; rw [opt_chk (by decide), opt_ret]; rfl

theorem has3 (s : field_Seen) : f66 s 3 = true := by unfold f66 u66; simp [tot_ite, tot_ret]
theorem has5 (s : field_Seen) : f66 s 5 = decide (s.P.Type_ = 2048) := by unfold f66 u66; simp [tot_ite, tot_ret]
theorem has6 (s : field_Seen) : f66 s 6 = decide (s.P.Type_ = 2048) := by unfold f66 u66; simp [tot_ite, tot_ret]
theorem has8 (s : field_Seen) : f66 s 8 = true → s.P.Type_ = 2048 ∧ (s.P.Proto = 6 ∨ s.P.Proto = 17) := by
  unfold f66 u66; simp only [tot_ite, tot_ret]; by_cases h1 : s.P.Type_ = 2048 <;> by_cases h2 : s.P.Proto = 6 <;> simp [h1, h2]
theorem has9 (s : field_Seen) : f66 s 9 = true → s.P.Type_ = 2048 ∧ (s.P.Proto = 6 ∨ s.P.Proto = 17) := by
  unfold f66 u66; simp only [tot_ite, tot_ret]; by_cases h1 : s.P.Type_ = 2048 <;> by_cases h2 : s.P.Proto = 6 <;> simp [h1, h2]

theorem change_has (s : field_Seen) (a : Action) (hw : wfA a) (h : RightA a) : Has (f20 s a) (Keeps s) := by
  obtain ⟨w1, w2⟩ := hw
  cases h with
  | out k f v1 v2 => exact ⟨s, f20_same s a (.inl k), keeps_refl s⟩
  | grp k f v1 v2 => exact ⟨s, f20_same s a (.inr k), keeps_refl s⟩
  | psh k f v =>
    unfold f20 u20
    rw [opt_t (by simp [k])]
    refine has_ite (fun _ => has_ret (keeps_refl s)) fun he => has_ret ?_
    have e : f43 s 0 = if s.P.Vlan = 0 then (⟨s.In, s.Meta, ⟨s.P.To, s.P.From, 4096, s.P.Type_, s.P.Src, s.P.Dst, s.P.Life, s.P.Proto, s.P.Sport, s.P.Dport, s.P.Data⟩⟩, 0) else (⟨0, 0, ⟨0, 0, 0, 0, 0, 0, 0, 0, 0, 0, []⟩⟩, 29) := by
      unfold f43 u43
      simp only [tot_ite, tot_ret]
      by_cases hv : s.P.Vlan = 0
      · simp only [hv]; rfl
      · simp [hv]
    by_cases hv : s.P.Vlan = 0
    · rw [if_pos hv] at e
      rw [e]
      refine ⟨rfl, rfl, fun h => (rightB_iff _).2 (rights_vlan (p := s.P) (v := 4096) (.inr (by decide)) ((rightB_iff _).1 h))⟩
    · rw [if_neg hv] at e
      rw [e] at he; simp at he
  | pop k f v =>
    unfold f20 u20
    rw [opt_f (by simp [k]), opt_t (by simp [k])]
    refine has_ite (fun _ => has_ret (keeps_refl s)) fun he => has_ret ?_
    have e : f44 s = if s.P.Vlan = 0 then (⟨0, 0, ⟨0, 0, 0, 0, 0, 0, 0, 0, 0, 0, []⟩⟩, 31) else (⟨s.In, s.Meta, ⟨s.P.To, s.P.From, 0, s.P.Type_, s.P.Src, s.P.Dst, s.P.Life, s.P.Proto, s.P.Sport, s.P.Dport, s.P.Data⟩⟩, 0) := by
      unfold f44 u44
      simp only [tot_ite, tot_ret]
      by_cases hv : s.P.Vlan = 0 <;> simp [hv]
    by_cases hv : s.P.Vlan = 0
    · rw [if_pos hv] at e
      rw [e] at he; simp at he
    · rw [if_neg hv] at e
      rw [e]
      exact ⟨rfl, rfl, fun h => (rightB_iff _).2 (rights_vlan (p := s.P) (v := 0) (.inl rfl) ((rightB_iff _).1 h))⟩
  | vlan k f v1 v2 =>
    have hV : IntKind.i64.wrap a.Value = a.Value := w64 (by omega) (by omega)
    by_cases hv : s.P.Vlan = 0
    · refine put_has s a k (t := ⟨0, 0, ⟨0, 0, 0, 0, 0, 0, 0, 0, 0, 0, []⟩⟩) (e := 31) ?_ (fun h => absurd h (by decide))
      rw [f]; unfold f45 u45
      rw [opt_f (by decide), opt_f (by decide), opt_f (by decide), opt_f (by rw [has3]; rfl), opt_get gr3, opt_f (by simp; omega), opt_t (by decide), opt_f (by simp; omega), opt_t (by decide), opt_t (by simpa using hv), opt_ret]
    · refine put_has s a k (t := ⟨s.In, s.Meta, ⟨s.P.To, s.P.From, a.Value, s.P.Type_, s.P.Src, s.P.Dst, s.P.Life, s.P.Proto, s.P.Sport, s.P.Dport, s.P.Data⟩⟩) (e := 0) ?_ (fun _ => ⟨rfl, rfl, fun h => (rightB_iff _).2 (rights_vlan (.inr (by rw [fdivp]; omega)) ((rightB_iff _).1 h))⟩)
      rw [f]; unfold f45 u45
      rw [opt_f (by decide), opt_f (by decide), opt_f (by decide), opt_f (by rw [has3]; rfl), opt_get gr3, opt_f (by simp; omega), opt_t (by decide), opt_f (by simp; omega), opt_t (by decide), opt_f (by simpa using hv), opt_f (by decide), opt_t (by decide), opt_ret, hV]
  | src k f v =>
    by_cases ht : s.P.Type_ = 2048
    · have hV : IntKind.u32.wrap a.Value = a.Value := wu32 (by omega) (by omega)
      refine put_has s a k (t := ⟨s.In, s.Meta, ⟨s.P.To, s.P.From, s.P.Vlan, s.P.Type_, a.Value, s.P.Dst, s.P.Life, s.P.Proto, s.P.Sport, s.P.Dport, s.P.Data⟩⟩) (e := 0) ?_ (fun _ => ⟨rfl, rfl, fun h => (rightB_iff _).2 (rights_src ht ((rightB_iff _).1 h))⟩)
      rw [f]; unfold f45 u45
      rw [opt_f (by decide), opt_f (by decide), opt_f (by decide), opt_f (by rw [has5]; simp [ht]), opt_get gr5, opt_f (by simp; omega), opt_f (by decide), opt_f (by decide), opt_f (by decide), opt_f (by decide), opt_t (by decide), opt_ret, hV]
    · refine put_has s a k (t := ⟨0, 0, ⟨0, 0, 0, 0, 0, 0, 0, 0, 0, 0, []⟩⟩) (e := 20) ?_ (fun h => absurd h (by decide))
      rw [f]; unfold f45 u45
      rw [opt_f (by decide), opt_f (by decide), opt_f (by decide), opt_t (by rw [has5]; simp [ht]), opt_ret]
  | dst k f v =>
    by_cases ht : s.P.Type_ = 2048
    · have hV : IntKind.u32.wrap a.Value = a.Value := wu32 (by omega) (by omega)
      refine put_has s a k (t := ⟨s.In, s.Meta, ⟨s.P.To, s.P.From, s.P.Vlan, s.P.Type_, s.P.Src, a.Value, s.P.Life, s.P.Proto, s.P.Sport, s.P.Dport, s.P.Data⟩⟩) (e := 0) ?_ (fun _ => ⟨rfl, rfl, fun h => (rightB_iff _).2 (rights_dst ht ((rightB_iff _).1 h))⟩)
      rw [f]; unfold f45 u45
      rw [opt_f (by decide), opt_f (by decide), opt_f (by decide), opt_f (by rw [has6]; simp [ht]), opt_get gr6, opt_f (by simp; omega), opt_f (by decide), opt_f (by decide), opt_f (by decide), opt_f (by decide), opt_f (by decide), opt_t (by decide), opt_ret, hV]
    · refine put_has s a k (t := ⟨0, 0, ⟨0, 0, 0, 0, 0, 0, 0, 0, 0, 0, []⟩⟩) (e := 20) ?_ (fun h => absurd h (by decide))
      rw [f]; unfold f45 u45
      rw [opt_f (by decide), opt_f (by decide), opt_f (by decide), opt_t (by rw [has6]; simp [ht]), opt_ret]
  | sp k f v =>
    have hV : IntKind.i64.wrap a.Value = a.Value := w64 (by omega) (by omega)
    cases hh : f66 s 8 with
    | true =>
      obtain ⟨ht, hp⟩ := has8 s hh
      refine put_has s a k (t := ⟨s.In, s.Meta, ⟨s.P.To, s.P.From, s.P.Vlan, s.P.Type_, s.P.Src, s.P.Dst, s.P.Life, s.P.Proto, a.Value, s.P.Dport, s.P.Data⟩⟩) (e := 0) ?_ (fun _ => ⟨rfl, rfl, fun h => (rightB_iff _).2 (rights_sp ht hp ⟨w1, by omega⟩ ((rightB_iff _).1 h))⟩)
      rw [f]; unfold f45 u45
      rw [opt_f (by decide), opt_f (by decide), opt_f (by decide), opt_f (by rw [hh]; rfl), opt_get gr8, opt_f (by simp; omega), opt_f (by decide), opt_f (by decide), opt_f (by decide), opt_f (by decide), opt_f (by decide), opt_f (by decide), opt_t (by decide), opt_ret, hV]
    | false =>
      refine put_has s a k (t := ⟨0, 0, ⟨0, 0, 0, 0, 0, 0, 0, 0, 0, 0, []⟩⟩) (e := 20) ?_ (fun h => absurd h (by decide))
      rw [f]; unfold f45 u45
      rw [opt_f (by decide), opt_f (by decide), opt_f (by decide), opt_t (by rw [hh]; rfl), opt_ret]
  | dp k f v =>
    have hV : IntKind.i64.wrap a.Value = a.Value := w64 (by omega) (by omega)
    cases hh : f66 s 9 with
    | true =>
      obtain ⟨ht, hp⟩ := has9 s hh
      refine put_has s a k (t := ⟨s.In, s.Meta, ⟨s.P.To, s.P.From, s.P.Vlan, s.P.Type_, s.P.Src, s.P.Dst, s.P.Life, s.P.Proto, s.P.Sport, a.Value, s.P.Data⟩⟩) (e := 0) ?_ (fun _ => ⟨rfl, rfl, fun h => (rightB_iff _).2 (rights_dp ht hp ⟨w1, by omega⟩ ((rightB_iff _).1 h))⟩)
      rw [f]; unfold f45 u45
      rw [opt_f (by decide), opt_f (by decide), opt_f (by decide), opt_f (by rw [hh]; rfl), opt_get gr9, opt_f (by simp; omega), opt_f (by decide), opt_f (by decide), opt_f (by decide), opt_f (by decide), opt_f (by decide), opt_f (by decide), opt_f (by decide), opt_t (by decide), opt_ret, hV]
    | false =>
      refine put_has s a k (t := ⟨0, 0, ⟨0, 0, 0, 0, 0, 0, 0, 0, 0, 0, []⟩⟩) (e := 20) ?_ (fun h => absurd h (by decide))
      rw [f]; unfold f45 u45
      rw [opt_f (by decide), opt_f (by decide), opt_f (by decide), opt_t (by rw [hh]; rfl), opt_ret]

/-- ActRight. -/
theorem rights (s : field_Seen) (a : Action) (hw : wfA a) : f10 s a = some true := by
  unfold f10 u10
  by_cases hd : 1000 < s.P.Data.length
  · rw [opt_t (by simp; omega), opt_ret]
  rw [opt_f (by simp; omega), opt_get (right_same a hw)]
  cases hr : f15 a with
  | false => rw [opt_t (by rfl), opt_ret]
  | true =>
    obtain ⟨t, ht, k1, k2, k3⟩ := change_has s a hw ((right_iff a).1 hr)
    obtain ⟨y1, hy1, e1⟩ := f24_has s.P (by omega)
    obtain ⟨y3, hy3, e3⟩ := f24_has t.P (by rw [k2]; omega)
    rw [opt_f (by rfl), opt_get hy1, opt_get ht, opt_get hy3]
    by_cases h : rightB s.P = true
    · rw [if_pos h] at e1
      rw [if_pos (k3 h)] at e3
      rw [opt_f (by simp [e1]), opt_t (by simp [e3]), opt_t (by simp [k1]), opt_t (by simp [k2]), opt_ret]
    · rw [if_neg h] at e1
      rw [opt_t (by simp [e1]), opt_t (by simp [k1]), opt_t (by simp [k2]), opt_ret]

theorem law10 (s : field_Seen) (a : Action) (hs : wf_41 s) (ha : wf_31 a) : f10 s a = some true := rights s a (wfA_of ha)

end Go.Proofs.Act

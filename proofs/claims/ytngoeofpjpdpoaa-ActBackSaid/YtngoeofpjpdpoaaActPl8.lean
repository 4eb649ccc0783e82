/- A part of a law's proof: ActPl8. -/
import Derived.Test.YtngoeofpjpdpoaaActDe
import Derived.Test.YtngoeofpjpdpoaaActG1
import Derived.Test.YtngoeofpjpdpoaaSvPlain
set_option linter.constructorNameAsVariable false
/-
  The plain part: numbers as bytes, which actions are right, what their bytes are.
-/
namespace Go.Proofs.Act
open Go Go.Ab
set_option linter.unusedVariables false
set_option linter.unusedSimpArgs false
set_option maxRecDepth 100000

theorem loop81 (a : Int) (n : Nat) (hn : n ≤ 8) : ∀ (k i : Nat), i + k = n → loopO g81 (.h0 a n i (List.replicate k 0 ++ beL a i)) = some (be a n, 0) := by
  intro k
  induction k with
  | zero =>
    intro i hi
    have : i = n := by omega
    subst this
    refine loopO_inr ?_
    simp only [g81]
    rw [opt_f (by simp), opt_chk (by simp), opt_ret]
    simp [be, toB]
  | succ k ih =>
    intro i hi
    have hb := byte_eq a i (by omega)
    have hidx : (IntKind.i64.wrap (IntKind.i64.wrap ((n : Int) - (1 : Int)) - (i : Int))) = (k : Int) := by
      rw [w64 (x := (n : Int) - 1) (by omega) (by omega), w64 (by omega) (by omega)]; omega
    have h8 : (0 : Int) ≤ IntKind.i64.wrap ((8 : Int) * (i : Int)) := by rw [w64 (by omega) (by omega)]; omega
    have hset : (List.replicate (k + 1) (0 : Int) ++ beL a i).set k (byteAt a i) = List.replicate k 0 ++ beL a (i + 1) := by
      rw [List.replicate_succ', List.append_assoc, List.set_append_right _ _ (by simp)]
      simp [beL]
    refine loopO_inl (s' := .h0 a n ((i + 1 : Nat) : Int) (List.replicate k 0 ++ beL a (i + 1))) ?_ (ih (i + 1) (by omega))
    simp only [g81]
    rw [hidx, hb, opt_t (by simp; omega), opt_chk h8, opt_chk (by simp [beL_length]; omega),
      opt_get (x := 0) (by simp [List.getElem?_append_left]), opt_chk (by simp), opt_ret, wsucc (by omega)]
    have e1 : (0 : Nat) + ((k : Int)).toNat = k := by omega
    rw [e1, hset]

theorem f81_eq (a : Int) (n : Nat) (h1 : 1 ≤ n) (hn : n ≤ 8) (ha : n < 8 → a.fdiv ((2 : Int) ^ (8 * n)) ≤ 0) : f81 a n = some (be a n, 0) := by
  have hl := loop81 a n hn n 0 (by omega)
  simp only [beL, List.append_nil] at hl
  refine runO_inl (s' := .h0 a n ((0 : Nat) : Int) (List.replicate n 0)) ?_ hl
  simp only [s81]
  rw [opt_f (by simp; omega), opt_f (by simp; omega)]
  rcases Nat.lt_or_ge n 8 with h | h
  · have e : Min.min (IntKind.i64.wrap (8 * (n : Int))).toNat 64 = 8 * n := by
      rw [w64 (by omega) (by omega)]
      omega
    rw [opt_t (by simp; omega), opt_chk (by rw [w64 (by omega) (by omega)]; omega), opt_f (by rw [e]; have := ha h; simp; omega), opt_chk (by simp; omega), opt_chk (by simp), opt_ret]
    simp
  · rw [opt_f (by simp; omega), opt_chk (by simp; omega), opt_chk (by simp), opt_ret]
    simp

theorem f57_eq (a : Int) (n : Nat) (h1 : 1 ≤ n) (hn : n ≤ 8) (ha : n < 8 → a.fdiv ((2 : Int) ^ (8 * n)) ≤ 0) : f57 a n = some (be a n) := by
  simp only [f57, u57]; rw [opt_get (f81_eq a n h1 hn ha)]; rfl
theorem f76_eq (a : Int) (n : Nat) (h1 : 1 ≤ n) (hn : n ≤ 8) (ha : n < 8 → a.fdiv ((2 : Int) ^ (8 * n)) ≤ 0) : f76 a n = some (be a n) := by
  simp only [f76, u76]; rw [opt_get (f81_eq a n h1 hn ha)]; rfl

theorem loop59 (a : Int) : ∀ (i : Nat) (l : List Int), i ≤ 8 → l.length + i ≤ 100 → loopO g59 (.h0 a ((i : Int) - 1) l) = some (toB (l ++ beL a i)) := by
  intro i
  induction i with
  | zero =>
    intro l _ hl
    refine loopO_inr ?_
    simp only [g59]
    rw [opt_f (by simp), opt_chk (by simp), opt_ret]
    simp [beL, toB]
  | succ i ih =>
    intro l hi hl
    have e0 : ((i + 1 : Nat) : Int) - 1 = (i : Int) := by omega
    rw [e0]
    have hb := byte_eq a i (by omega)
    refine loopO_inl (s' := .h0 a ((i : Int) - 1) (l ++ [byteAt a i])) ?_ (by rw [ih _ (by omega) (by simp; omega)]; simp [beL])
    simp only [g59]
    rw [hb, opt_t (by simp), opt_chk (by rw [w64 (by omega) (by omega)]; omega), opt_chk (by simp), opt_chk (by simp; omega), opt_chk (by simp), opt_ret, w64 (by omega) (by omega)]
    simp

theorem f59_eq (a : Int) (n : Nat) (hn : n ≤ 8) : f59 a n = some (be a n) := by
  have hl := loop59 a n [] hn (by simp; omega)
  refine runO_inl (s' := .h0 a ((n : Int) - 1) []) ?_ (by rw [hl]; rfl)
  simp only [s59]
  rw [opt_chk (by simp), opt_ret, w64 (by omega) (by omega)]

end Go.Proofs.Act

/-
  The plain part: which actions are right, and what their bytes are.
-/
namespace Go.Proofs.Act
open Go Go.Ab
set_option linter.unusedVariables false
set_option linter.unusedSimpArgs false
set_option maxRecDepth 100000

def wfA (a : Action) : Prop := 0 ≤ a.Value ∧ a.Value < 18446744073709551616

theorem fieldsV (f : Int) : (f = 3 ∨ f = 5 ∨ f = 6 ∨ f = 8 ∨ f = 9) ∨ (f ≠ 3 ∧ f ≠ 5 ∧ f ≠ 6 ∧ f ≠ 8 ∧ f ≠ 9) := by omega

theorem f33_ok (f : Int) : 0 ≤ f33 f := by
  unfold f33 u33
  simp only [tot_ite, tot_ret]
  repeat' (split; omega)
  omega

theorem right_same (a : Action) (h : wfA a) : f14 a = some (f15 a) := by
  obtain ⟨h1, h2⟩ := h
  unfold f14 u14 f15 u15
  simp only [opt_ite, tot_ite, tot_ret, opt_ret, opt_chk', fdivp, bits64]
  have key : (a.Value / 4294967296 = 0) ↔ a.Value ≤ 4294967295 := by omega
  by_cases k1 : a.Kind = 1
  · by_cases f0 : a.Field = 0 <;> by_cases v1 : 1 ≤ a.Value <;> simp [k1, f0, v1, key]
  by_cases k2 : a.Kind = 2
  · by_cases f0 : a.Field = 0 <;> by_cases v1 : 1 ≤ a.Value <;> simp [k2, f0, v1, key]
  by_cases k3 : a.Kind = 3
  · by_cases f0 : a.Field = 0 <;> simp [k3, f0]
  by_cases k4 : a.Kind = 4
  · by_cases f0 : a.Field = 0 <;> simp [k4, f0]
  by_cases k5 : a.Kind = 5
  · rcases fieldsV a.Field with (f | f | f | f | f) | ⟨n3, n5, n6, n8, n9⟩
    · simp [k5, f, f32, u32, f33, u33, tot_ite, tot_ret]; (repeat' split) <;> (try omega) <;> simp <;> omega
    · simp [k5, f, f32, u32, f33, u33, tot_ite, tot_ret]; (repeat' split) <;> (try omega) <;> simp <;> omega
    · simp [k5, f, f32, u32, f33, u33, tot_ite, tot_ret]; (repeat' split) <;> (try omega) <;> simp <;> omega
    · simp [k5, f, f32, u32, f33, u33, tot_ite, tot_ret]; (repeat' split) <;> (try omega) <;> simp <;> omega
    · simp [k5, f, f32, u32, f33, u33, tot_ite, tot_ret]; (repeat' split) <;> (try omega) <;> simp <;> omega
    · simp [k5, n3, n5, n6, n8, n9, f32, u32, tot_ite, tot_ret]
  · simp [k1, k2, k3, k4, k5]

/-- What a right action is. -/
inductive RightA : Action → Prop
  | out {a} (k : a.Kind = 1) (f : a.Field = 0) (h1 : 1 ≤ a.Value) (h2 : a.Value < 4294967296) : RightA a
  | grp {a} (k : a.Kind = 2) (f : a.Field = 0) (h1 : 1 ≤ a.Value) (h2 : a.Value < 4294967296) : RightA a
  | psh {a} (k : a.Kind = 3) (f : a.Field = 0) (h1 : a.Value = 0) : RightA a
  | pop {a} (k : a.Kind = 4) (f : a.Field = 0) (h1 : a.Value = 0) : RightA a
  | vlan {a} (k : a.Kind = 5) (f : a.Field = 3) (h1 : 4096 ≤ a.Value) (h2 : a.Value < 8192) : RightA a
  | src {a} (k : a.Kind = 5) (f : a.Field = 5) (h1 : a.Value < 4294967296) : RightA a
  | dst {a} (k : a.Kind = 5) (f : a.Field = 6) (h1 : a.Value < 4294967296) : RightA a
  | sp {a} (k : a.Kind = 5) (f : a.Field = 8) (h1 : a.Value < 65536) : RightA a
  | dp {a} (k : a.Kind = 5) (f : a.Field = 9) (h1 : a.Value < 65536) : RightA a

theorem right_iff (a : Action) : f15 a = true ↔ RightA a := by
  unfold f15 u15
  simp only [tot_ite, tot_ret]
  constructor
  · intro h
    by_cases k1 : a.Kind = 1
    · simp [k1] at h; obtain ⟨x, y, z⟩ := h
      exact .out k1 x y (by omega)
    by_cases k2 : a.Kind = 2
    · simp [k2] at h; obtain ⟨x, y, z⟩ := h
      exact .grp k2 x y (by omega)
    by_cases k3 : a.Kind = 3
    · simp [k3] at h; exact .psh k3 h.1 h.2
    by_cases k4 : a.Kind = 4
    · simp [k4] at h; exact .pop k4 h.1 h.2
    by_cases k5 : a.Kind = 5
    · rcases fieldsV a.Field with (f | f | f | f | f) | ⟨n3, n5, n6, n8, n9⟩
      · simp [k5, f] at h; exact .vlan k5 f h.1 (by omega)
      · simp [k5, f] at h; exact .src k5 f (by omega)
      · simp [k5, f] at h; exact .dst k5 f (by omega)
      · simp [k5, f] at h; exact .sp k5 f (by omega)
      · simp [k5, f] at h; exact .dp k5 f (by omega)
      · simp [k5, n3, n5, n6, n8, n9] at h
    · simp [k1, k2, k3, k4, k5] at h
  · intro h
    cases h <;> simp_all <;> omega

def bytesOf (a : Action) : List UInt8 :=
  if a.Kind = 1 then [0, 0, 0, 16] ++ be a.Value 4 ++ [255, 255, 0, 0, 0, 0, 0, 0]
  else if a.Kind = 2 then [0, 22, 0, 8] ++ be a.Value 4
  else if a.Kind = 3 then [0, 17, 0, 8, 129, 0, 0, 0]
  else if a.Kind = 4 then [0, 18, 0, 8, 0, 0, 0, 0]
  else if a.Field = 3 then [0, 25, 0, 16, 128, 0, 12, 2] ++ be a.Value 2 ++ [0, 0, 0, 0, 0, 0]
  else if a.Field = 5 then [0, 25, 0, 16, 128, 0, 22, 4] ++ be a.Value 4 ++ [0, 0, 0, 0]
  else if a.Field = 6 then [0, 25, 0, 16, 128, 0, 24, 4] ++ be a.Value 4 ++ [0, 0, 0, 0]
  else if a.Field = 8 then [0, 25, 0, 16, 128, 0, 26, 2] ++ be a.Value 2 ++ [0, 0, 0, 0, 0, 0]
  else [0, 25, 0, 16, 128, 0, 28, 2] ++ be a.Value 2 ++ [0, 0, 0, 0, 0, 0]

theorem be_0_2 : be 0 2 = [0, 0] := by decide
theorem be_0_4 : be 0 4 = [0, 0, 0, 0] := by decide
theorem be_0_6 : be 0 6 = [0, 0, 0, 0, 0, 0] := by decide

theorem f57_c (n : Int) (k : Nat) (l : List UInt8) (h1 : 1 ≤ k) (h2 : k ≤ 8) (h3 : k < 8 → n.fdiv ((2 : Int) ^ (8 * k)) ≤ 0) (h : be n k = l) : f57 n k = some l := by rw [← h]; exact f57_eq n k h1 h2 h3

theorem p0_2 : f57 0 2 = some [0, 0] := f57_c 0 2 _ (by omega) (by omega) (by decide) (by decide)
theorem p0_4 : f57 0 4 = some [0, 0, 0, 0] := f57_c 0 4 _ (by omega) (by omega) (by decide) (by decide)
theorem p0_6 : f57 0 6 = some [0, 0, 0, 0, 0, 0] := f57_c 0 6 _ (by omega) (by omega) (by decide) (by decide)
theorem p16_2 : f57 16 2 = some [0, 16] := f57_c 16 2 _ (by omega) (by omega) (by decide) (by decide)
theorem p8_2 : f57 8 2 = some [0, 8] := f57_c 8 2 _ (by omega) (by omega) (by decide) (by decide)
theorem p22_2 : f57 22 2 = some [0, 22] := f57_c 22 2 _ (by omega) (by omega) (by decide) (by decide)
theorem p17_2 : f57 17 2 = some [0, 17] := f57_c 17 2 _ (by omega) (by omega) (by decide) (by decide)
theorem p18_2 : f57 18 2 = some [0, 18] := f57_c 18 2 _ (by omega) (by omega) (by decide) (by decide)
theorem p25_2 : f57 25 2 = some [0, 25] := f57_c 25 2 _ (by omega) (by omega) (by decide) (by decide)
theorem p_1 (n : Int) (l : List UInt8) (h0 : 0 ≤ n) (h : n < 256) (hl : be n 1 = l) : f57 n 1 = some l := f57_c n 1 _ (by omega) (by omega) (by intro _; rw [fdivp]; omega) hl
theorem pv4 {v : Int} (h1 : 0 ≤ v) (h : v < 4294967296) : f57 v 4 = some (be v 4) := f57_c v 4 _ (by omega) (by omega) (by intro _; rw [fdivp]; omega) rfl
theorem pv2 {v : Int} (h1 : 0 ≤ v) (h : v < 65536) : f57 v 2 = some (be v 2) := f57_c v 2 _ (by omega) (by omega) (by intro _; rw [fdivp]; omega) rfl

theorem rep_eq (k : Nat) (hk : k ≤ 8) : f58 [(0 : UInt8)] (k : Int) = some (List.replicate k 0) := by
  unfold f58
  rw [opt_chk (by simp; omega), opt_ret]
  unfold repB
  simp only [Int.toNat_natCast]
  congr 1
  clear hk
  induction k with
  | zero => rfl
  | succ k ih => simp [Lib.repeatL, List.replicate_succ, ih]

theorem laid_eq (a : Action) (hw : wfA a) (h : RightA a) : f29 a = some (bytesOf a) := by
  obtain ⟨h1, h2⟩ := hw
  unfold f29 u29
  have L2 : ∀ v, (be v 2).length = 2 := fun v => be_length v 2
  have L4 : ∀ v, (be v 4).length = 4 := fun v => be_length v 4
  cases h with
  | out k f v1 v2 =>
    rw [opt_t (by simp [k]), opt_get p0_2, opt_get p16_2, opt_chk (by simp), opt_get (pv4 h1 v2), opt_chk (by simp [L4]), opt_chk (by simp [L4]), opt_get p0_6, opt_chk (by simp [L4]), opt_ret]
    simp [bytesOf, k]
  | grp k f v1 v2 =>
    rw [opt_f (by simp [k]), opt_t (by simp [k]), opt_get p22_2, opt_get p8_2, opt_chk (by simp), opt_get (pv4 h1 v2), opt_chk (by simp [L4]), opt_ret]
    simp [bytesOf, k]
  | psh k f v =>
    rw [opt_f (by simp [k]), opt_f (by simp [k]), opt_t (by simp [k]), opt_get p17_2, opt_get p8_2, opt_chk (by simp), opt_chk (by simp), opt_ret]
    simp [bytesOf, k]
  | pop k f v =>
    rw [opt_f (by simp [k]), opt_f (by simp [k]), opt_f (by simp [k]), opt_t (by simp [k]), opt_get p18_2, opt_get p8_2, opt_chk (by simp), opt_get p0_4, opt_chk (by simp), opt_ret]
    simp [bytesOf, k]
  | vlan k f v1 v2 =>
    rw [opt_f (by simp [k]), opt_f (by simp [k]), opt_f (by simp [k]), opt_f (by simp [k]), opt_get p25_2, opt_get p16_2, opt_chk (by simp), opt_chk (by simp)]
    simp only [f, show f32 3 = (6, 2) from by decide]
    rw [opt_get (p_1 _ [12] (by decide) (by decide) (by decide)), opt_chk (by simp), opt_get (p_1 _ [2] (by decide) (by decide) (by decide)), opt_chk (by simp), opt_get (pv2 h1 (by omega)), opt_chk (by simp [L2]),
      opt_get (x := [0, 0, 0, 0, 0, 0]) (by simp only [List.length_append, L2, List.length_cons, List.length_nil]; exact rep_eq 6 (by omega)), opt_chk (by simp [L2]), opt_ret]
    simp [bytesOf, k, f]
  | src k f v =>
    rw [opt_f (by simp [k]), opt_f (by simp [k]), opt_f (by simp [k]), opt_f (by simp [k]), opt_get p25_2, opt_get p16_2, opt_chk (by simp), opt_chk (by simp)]
    simp only [f, show f32 5 = (11, 4) from by decide]
    rw [opt_get (p_1 _ [22] (by decide) (by decide) (by decide)), opt_chk (by simp), opt_get (p_1 _ [4] (by decide) (by decide) (by decide)), opt_chk (by simp), opt_get (pv4 h1 v), opt_chk (by simp [L4]),
      opt_get (x := [0, 0, 0, 0]) (by simp only [List.length_append, L4, List.length_cons, List.length_nil]; exact rep_eq 4 (by omega)), opt_chk (by simp [L4]), opt_ret]
    simp [bytesOf, k, f]
  | dst k f v =>
    rw [opt_f (by simp [k]), opt_f (by simp [k]), opt_f (by simp [k]), opt_f (by simp [k]), opt_get p25_2, opt_get p16_2, opt_chk (by simp), opt_chk (by simp)]
    simp only [f, show f32 6 = (12, 4) from by decide]
    rw [opt_get (p_1 _ [24] (by decide) (by decide) (by decide)), opt_chk (by simp), opt_get (p_1 _ [4] (by decide) (by decide) (by decide)), opt_chk (by simp), opt_get (pv4 h1 v), opt_chk (by simp [L4]),
      opt_get (x := [0, 0, 0, 0]) (by simp only [List.length_append, L4, List.length_cons, List.length_nil]; exact rep_eq 4 (by omega)), opt_chk (by simp [L4]), opt_ret]
    simp [bytesOf, k, f]
  | sp k f v =>
    rw [opt_f (by simp [k]), opt_f (by simp [k]), opt_f (by simp [k]), opt_f (by simp [k]), opt_get p25_2, opt_get p16_2, opt_chk (by simp), opt_chk (by simp)]
    simp only [f, show f32 8 = (13, 2) from by decide]
    rw [opt_get (p_1 _ [26] (by decide) (by decide) (by decide)), opt_chk (by simp), opt_get (p_1 _ [2] (by decide) (by decide) (by decide)), opt_chk (by simp), opt_get (pv2 h1 v), opt_chk (by simp [L2]),
      opt_get (x := [0, 0, 0, 0, 0, 0]) (by simp only [List.length_append, L2, List.length_cons, List.length_nil]; exact rep_eq 6 (by omega)), opt_chk (by simp [L2]), opt_ret]
    simp [bytesOf, k, f]
  | dp k f v =>
    rw [opt_f (by simp [k]), opt_f (by simp [k]), opt_f (by simp [k]), opt_f (by simp [k]), opt_get p25_2, opt_get p16_2, opt_chk (by simp), opt_chk (by simp)]
    simp only [f, show f32 9 = (14, 2) from by decide]
    rw [opt_get (p_1 _ [28] (by decide) (by decide) (by decide)), opt_chk (by simp), opt_get (p_1 _ [2] (by decide) (by decide) (by decide)), opt_chk (by simp), opt_get (pv2 h1 v), opt_chk (by simp [L2]),
      opt_get (x := [0, 0, 0, 0, 0, 0]) (by simp only [List.length_append, L2, List.length_cons, List.length_nil]; exact rep_eq 6 (by omega)), opt_chk (by simp [L2]), opt_ret]
    simp [bytesOf, k, f]

theorem setRef (a : Action) (k : a.Kind = 5) (c n : Int) (m j : Nat) (b : List UInt8) (hc : f60 a.Field = c) (hn : f61 a.Field = n) (hm : n = m) (hm8 : m ≤ 8) (hj : m + j = 8)
    (hb : [IntKind.u8.wrap (IntKind.i64.wrap (2 * c)), IntKind.u8.wrap n].map (fun (x : Int) => UInt8.ofNat x.toNat) = b) :
    f31 a = some ([0, 25, 0, 16, 128, 0] ++ b ++ be a.Value m ++ List.replicate j 0) := by
  subst hm
  have hbl : b.length = 2 := by rw [← hb]; simp
  have Lm : (be a.Value m).length = m := be_length _ _
  unfold f31 u31
  rw [opt_f (by simp [k]), opt_f (by simp [k]), opt_f (by simp [k]), opt_f (by simp [k])]
  rw [hc, hn]
  have e2 : List.map (fun (x : Int) => UInt8.ofNat x.toNat) (List.take 2 (List.drop 0 [IntKind.u8.wrap (IntKind.i64.wrap (2 * c)), IntKind.u8.wrap (m : Int)])) = b := by simpa using hb
  rw [e2]
  have e3 : ((16 : Int) - (↑([(0 : UInt8), (25 : UInt8), (0 : UInt8), (16 : UInt8), (128 : UInt8), (0 : UInt8)] ++ b ++ be a.Value m).length : Int)) = (j : Int) := by simp [hbl, Lm]; omega
  rw [opt_chk (by simp), opt_chk (by simp [hbl]), opt_get (f59_eq a.Value m hm8), opt_chk (by simp [hbl, Lm]; omega), e3, w64 (by omega) (by omega)]
  rw [opt_chk (by refine ⟨by omega, by omega, ?_⟩; simp; omega), opt_chk (by simp), opt_chk (by simp [hbl, Lm]; omega), opt_ret]
  simp

theorem ref_eq (a : Action) (hw : wfA a) (h : RightA a) : f31 a = some (bytesOf a) := by
  obtain ⟨h1, h2⟩ := hw
  have L4 : ∀ v, (be v 4).length = 4 := fun v => be_length v 4
  have set := setRef a
  have r4 : f59 a.Value 4 = some (be a.Value 4) := f59_eq a.Value 4 (by omega)
  cases h with
  | out k f v1 v2 =>
    unfold f31 u31
    rw [opt_t (by simp [k]), opt_get r4, opt_chk (by simp [L4]), opt_chk (by simp [L4]), opt_ret]
    simp [bytesOf, k]
  | grp k f v1 v2 =>
    unfold f31 u31
    rw [opt_f (by simp [k]), opt_t (by simp [k]), opt_get r4, opt_chk (by simp [L4]), opt_ret]
    simp [bytesOf, k]
  | psh k f v =>
    unfold f31 u31
    rw [opt_f (by simp [k]), opt_f (by simp [k]), opt_t (by simp [k]), opt_ret]
    simp [bytesOf, k]
  | pop k f v =>
    unfold f31 u31
    rw [opt_f (by simp [k]), opt_f (by simp [k]), opt_f (by simp [k]), opt_t (by simp [k]), opt_ret]
    simp [bytesOf, k]
  | vlan k f v1 v2 => rw [set k 6 2 2 6 [12, 2] (by rw [f]; decide) (by rw [f]; decide) rfl (by omega) (by omega) (by decide)]; simp [bytesOf, k, f, List.replicate]
  | src k f v => rw [set k 11 4 4 4 [22, 4] (by rw [f]; decide) (by rw [f]; decide) rfl (by omega) (by omega) (by decide)]; simp [bytesOf, k, f, List.replicate]
  | dst k f v => rw [set k 12 4 4 4 [24, 4] (by rw [f]; decide) (by rw [f]; decide) rfl (by omega) (by omega) (by decide)]; simp [bytesOf, k, f, List.replicate]
  | sp k f v => rw [set k 13 2 2 6 [26, 2] (by rw [f]; decide) (by rw [f]; decide) rfl (by omega) (by omega) (by decide)]; simp [bytesOf, k, f, List.replicate]
  | dp k f v => rw [set k 14 2 2 6 [28, 2] (by rw [f]; decide) (by rw [f]; decide) rfl (by omega) (by omega) (by decide)]; simp [bytesOf, k, f, List.replicate]

end Go.Proofs.Act

/-
  The plain part: which bytes actions are.
-/
namespace Go.Proofs.Act
open Go Go.Ab
set_option linter.unusedVariables false
set_option linter.unusedSimpArgs false
set_option maxRecDepth 100000

theorem bytesOf_le (a : Action) : (bytesOf a).length ≤ 16 := by
  have L2 : ∀ v, (be v 2).length = 2 := fun v => be_length v 2
  have L4 : ∀ v, (be v 4).length = 4 := fun v => be_length v 4
  unfold bytesOf
  repeat' split
  all_goals simp [L2, L4]

noncomputable def enc (l : List Action) : List UInt8 × Int :=
  if l.all f15 then if 32 < l.length then ([], 44) else (l.flatMap bytesOf, 0) else ([], 22)

theorem f27_eq (a : Action) (h : wfA a) : f27 a = some (!f15 a) := by
  unfold f27 u27; rw [opt_get (right_same a h), opt_ret]

variable {l : List Action}

theorem loop12_1 (hl : l.length ≤ 32) (hw : ∀ a ∈ l, wfA a) (hr : l.all f15 = true) : ∀ (k i : Nat) (bs : List UInt8), i + k = l.length → bs.length ≤ 16 * i →
    loopO g12 (.h1 l i bs.length (bs.map fun b => (↑b.toNat : Int))) = some (bs ++ (l.drop i).flatMap bytesOf, 0) := by
  intro k
  induction k with
  | zero =>
    intro i bs hi hb
    refine loopO_inr ?_
    simp only [g12]
    rw [opt_f (by simp; omega), opt_chk (by simp), opt_chk (by simp; omega), opt_ret, bytes_back]
    have : l.drop i = [] := by rw [List.drop_eq_nil_iff]; omega
    simp [this]
  | succ k ih =>
    intro i bs hi hb
    have hi' : i < l.length := by omega
    have hm := List.getElem_mem hi'
    have hra : f15 l[i] = true := by rw [List.all_eq_true] at hr; exact hr _ hm
    have hle := bytesOf_le l[i]
    have ih' := ih (i + 1) (bs ++ bytesOf l[i]) (by omega) (by simp; omega)
    rw [List.map_append] at ih'
    refine loopO_inl (s' := .h1 l ((i + 1 : Nat) : Int) (bs ++ bytesOf l[i]).length (bs.map (fun b => (↑b.toNat : Int)) ++ (bytesOf l[i]).map fun b => (↑b.toNat : Int))) ?_ (by rw [ih', flatE _ hi']; simp)
    simp only [g12]
    rw [opt_t (by simp; omega), opt_chk (by omega), opt_get (nthE hi'), opt_get (laid_eq _ (hw _ hm) ((right_iff _).1 hra))]
    rw [filterMap_some, opt_chk (by simp; omega), opt_chk (by simp), opt_ret, wsucc (by omega)]
    simp

theorem loop12_0 (h60 : l.length ≤ 60) (hw : ∀ a ∈ l, wfA a) : ∀ (k i : Nat), i + k = l.length → (l.take i).all f15 = true → loopO g12 (.h0 l i) = some (enc l) := by
  intro k
  induction k with
  | zero =>
    intro i hi ht
    have hall : l.all f15 = true := by rw [List.take_of_length_le (by omega)] at ht; exact ht
    by_cases h32 : 32 < l.length
    · refine loopO_inr ?_
      simp only [g12]
      rw [opt_f (by simp; omega), opt_f (by decide), opt_t (by simp; omega), opt_ret]
      simp [enc, hall, h32]
    · have := loop12_1 (by omega) hw hall l.length 0 [] (by omega) (by simp)
      refine loopO_inl (s' := .h1 l ((0 : Nat) : Int) ([] : List UInt8).length (([] : List UInt8).map fun b => (↑b.toNat : Int))) ?_ (by rw [this]; simp [enc, hall, h32])
      simp only [g12]
      rw [opt_f (by simp; omega), opt_f (by decide), opt_f (by simp; omega), opt_chk (by simp), opt_ret]
      simp
  | succ k ih =>
    intro i hi ht
    have hi' : i < l.length := by omega
    have hm := List.getElem_mem hi'
    cases hra : f15 l[i] with
    | true =>
      refine loopO_inl (s' := .h0 l ((i + 1 : Nat) : Int)) ?_ (ih (i + 1) (by omega) (by rw [List.take_succ_eq_append_getElem hi', List.all_append, ht]; simp [hra]))
      simp only [g12]
      rw [opt_t (by simp; omega), opt_chk (by omega), opt_get (nthE hi'), opt_get (f27_eq _ (hw _ hm)), opt_f (by simp [hra]), opt_ret, wsucc (by omega)]
    | false =>
      refine loopO_inr ?_
      simp only [g12]
      rw [opt_t (by simp; omega), opt_chk (by omega), opt_get (nthE hi'), opt_get (f27_eq _ (hw _ hm)), opt_t (by simp [hra]), opt_t (by simp), opt_ret]
      have : l.all f15 = false := by rw [List.all_eq_false]; exact ⟨_, hm, by simp [hra]⟩
      simp [enc, this]

theorem f12_eq (h60 : l.length ≤ 60) (hw : ∀ a ∈ l, wfA a) : f12 l = some (enc l) :=
  runO_inl (s' := .h0 l ((0 : Nat) : Int)) rfl (loop12_0 h60 hw l.length 0 (by omega) (by simp))

theorem loop13_1 (hl : l.length ≤ 32) (hw : ∀ a ∈ l, wfA a) (hr : l.all f15 = true) : ∀ (k i : Nat) (bs : List UInt8), i + k = l.length → bs.length ≤ 16 * i →
    loopO g13 (.h1 l i bs) = some (bs ++ (l.drop i).flatMap bytesOf, 0) := by
  intro k
  induction k with
  | zero =>
    intro i bs hi hb
    refine loopO_inr ?_
    simp only [g13]
    rw [opt_f (by simp; omega), opt_ret]
    have : l.drop i = [] := by rw [List.drop_eq_nil_iff]; omega
    simp [this]
  | succ k ih =>
    intro i bs hi hb
    have hi' : i < l.length := by omega
    have hm := List.getElem_mem hi'
    have hra : f15 l[i] = true := by rw [List.all_eq_true] at hr; exact hr _ hm
    have hle := bytesOf_le l[i]
    refine loopO_inl (s' := .h1 l ((i + 1 : Nat) : Int) (bs ++ bytesOf l[i])) ?_ (by rw [ih (i + 1) _ (by omega) (by simp; omega), flatE _ hi']; simp)
    simp only [g13]
    rw [opt_t (by simp; omega), opt_chk (by omega), opt_get (nthE hi'), opt_get (ref_eq _ (hw _ hm) ((right_iff _).1 hra)), opt_chk (by omega), opt_ret, wsucc (by omega)]

theorem loop13_0 (h60 : l.length ≤ 60) (hw : ∀ a ∈ l, wfA a) : ∀ (k i : Nat), i + k = l.length → (l.take i).all f15 = true → loopO g13 (.h0 l i) = some (enc l) := by
  intro k
  induction k with
  | zero =>
    intro i hi ht
    have hall : l.all f15 = true := by rw [List.take_of_length_le (by omega)] at ht; exact ht
    by_cases h32 : 32 < l.length
    · refine loopO_inr ?_
      simp only [g13]
      rw [opt_f (by simp; omega), opt_t (by simp; omega), opt_ret]
      simp [enc, hall, h32]
    · refine loopO_inl (s' := .h1 l ((0 : Nat) : Int) []) ?_ (by rw [loop13_1 (by omega) hw hall l.length 0 [] (by omega) (by simp)]; simp [enc, hall, h32])
      simp only [g13]
      rw [opt_f (by simp; omega), opt_f (by simp; omega), opt_ret]
      simp
  | succ k ih =>
    intro i hi ht
    have hi' : i < l.length := by omega
    have hm := List.getElem_mem hi'
    cases hra : f15 l[i] with
    | true =>
      refine loopO_inl (s' := .h0 l ((i + 1 : Nat) : Int)) ?_ (ih (i + 1) (by omega) (by rw [List.take_succ_eq_append_getElem hi', List.all_append, ht]; simp [hra]))
      simp only [g13]
      rw [opt_t (by simp; omega), opt_chk (by omega), opt_get (nthE hi'), opt_f (by simp [hra]), opt_ret, wsucc (by omega)]
    | false =>
      refine loopO_inr ?_
      simp only [g13]
      rw [opt_t (by simp; omega), opt_chk (by omega), opt_get (nthE hi'), opt_t (by simp [hra]), opt_ret]
      have : l.all f15 = false := by rw [List.all_eq_false]; exact ⟨_, hm, by simp [hra]⟩
      simp [enc, this]

theorem f13_eq (h60 : l.length ≤ 60) (hw : ∀ a ∈ l, wfA a) : f13 l = some (enc l) :=
  runO_inl (s' := .h0 l ((0 : Nat) : Int)) rfl (loop13_0 h60 hw l.length 0 (by omega) (by simp))

theorem loop3 (h60 : l.length ≤ 60) (hw : ∀ a ∈ l, wfA a) : ∀ (k i : Nat), i + k = l.length → loopO g3 (.h0 l i) = some true := by
  intro k
  induction k with
  | zero =>
    intro i hi
    refine loopO_inr ?_
    simp only [g3]
    rw [opt_f (by simp; omega), opt_ret]
  | succ k ih =>
    intro i hi
    have hi' : i < l.length := by omega
    have hm := List.getElem_mem hi'
    refine loopO_inl (s' := .h0 l ((i + 1 : Nat) : Int)) ?_ (ih (i + 1) (by omega))
    simp only [g3]
    rw [opt_t (by simp; omega), opt_chk (by omega), opt_get (nthE hi'), opt_get (right_same _ (hw _ hm)), opt_chk (by omega), opt_get (nthE hi'), opt_f (by simp), opt_ret, wsucc (by omega)]

/-- ActEncodes. -/
theorem encodes (l : List Action) (hw : ∀ a ∈ l, wfA a) : f3 l = some true := by
  by_cases h : 60 < l.length
  · refine runO_inr ?_
    simp only [s3]
    rw [opt_t (by simp; omega), opt_ret]
  · refine runO_inl (s' := .h0 l ((0 : Nat) : Int)) ?_ (loop3 (by omega) hw l.length 0 (by omega))
    simp only [s3]
    rw [opt_f (by simp; omega), opt_get (f12_eq (by omega) hw), opt_get (f13_eq (by omega) hw), opt_f (by simp), opt_f (by simp), opt_ret]
    rfl

theorem wfA_of {a : Action} (h : wf_31 a) : wfA a := by
  have : inK .u64 a.Value := h.2.2
  exact ⟨this.1, by have := this.2; omega⟩

theorem law3 (l : List Action) (h : wf_22 l) : f3 l = some true := encodes l fun a ha => wfA_of (h.2 a ha)

end Go.Proofs.Act

/-
  The plain part: how many bytes an action has; a packet that it does not change stays.
-/
namespace Go.Proofs.Act
open Go Go.Ab
set_option linter.unusedVariables false
set_option linter.unusedSimpArgs false
set_option maxRecDepth 100000

theorem bytesOf_len (a : Action) (h : RightA a) : (bytesOf a).length = if a.Kind = 1 ∨ a.Kind = 5 then 16 else 8 := by
  have L2 : ∀ v, (be v 2).length = 2 := fun v => be_length v 2
  have L4 : ∀ v, (be v 4).length = 4 := fun v => be_length v 4
  cases h <;> simp_all [bytesOf]

theorem f20_same (s : field_Seen) (a : Action) (h : a.Kind = 1 ∨ a.Kind = 2) : f20 s a = some s := by
  unfold f20 u20
  rw [opt_f (by simp; omega), opt_f (by simp; omega), opt_f (by simp; omega), opt_f (by simp), opt_ret]

theorem law7 (a : Action) (s : field_Seen) (ha : wf_31 a) (hs : wf_41 s) : f7 a s = some true := by
  have hw : ∀ b ∈ [a], wfA b := by intro b hb; rw [List.mem_singleton.1 hb]; exact wfA_of ha
  have he := f12_eq (l := [a]) (by simp) hw
  have hr := right_same a (wfA_of ha)
  unfold f7 u7
  rw [opt_chk (by simp), opt_get (x := enc [a]) (by simpa using he)]
  cases h : f15 a with
  | false =>
    have e1 : enc [a] = ([], 22) := by simp [enc, h]
    rw [e1, opt_t (by simp), opt_get hr, opt_t (by simp [h]), opt_t (by simp), opt_ret]
  | true =>
    have e1 : enc [a] = (bytesOf a, 0) := by simp [enc, h]
    have hl := bytesOf_len a ((right_iff a).1 h)
    rw [e1, opt_f (by simp)]
    by_cases k1 : a.Kind = 1
    · rw [opt_t (by simp [k1]), opt_t (by simp [hl, k1]), opt_f (by simp [k1]), opt_get (f20_same s a (.inl k1)), opt_t (by simp), opt_ret]
    · rw [opt_f (by simp [k1])]
      by_cases k5 : a.Kind = 5
      · rw [opt_t (by simp [k5]), opt_t (by simp [hl, k5]), opt_t (by simp [k1]), opt_t (by simp [k5]), opt_ret]
      · rw [opt_f (by simp [k5]), opt_t (by simp [hl, k1, k5]), opt_t (by simp [k1])]
        by_cases k2 : a.Kind = 2
        · rw [opt_f (by simp [k2]), opt_get (f20_same s a (.inr k2)), opt_t (by simp), opt_ret]
        · rw [opt_t (by simp [k2]), opt_ret]

end Go.Proofs.Act

/-
  The plain part: the numbers that bytes are, and the action that bytes seem to be.
-/
namespace Go.Proofs.Act
open Go Go.Ab
set_option linter.unusedVariables false
set_option linter.unusedSimpArgs false
set_option maxRecDepth 100000

def stp (v b : Int) : Int := IntKind.u64.wrap (↑(BitVec.ofInt 64 (IntKind.u64.wrap (v * 2 ^ 8)) ||| BitVec.ofInt 64 (IntKind.u64.wrap b)).toNat : Int)
def numL (v : Int) (l : List Int) : Int := l.foldl stp v
def ints (s : List UInt8) : List Int := s.map fun b => (↑b.toNat : Int)
def num (s : List UInt8) : Int := numL 0 (ints s)

theorem ints_length (s : List UInt8) : (ints s).length = s.length := by simp [ints]

theorem stp_bd (v b : Int) : 0 ≤ stp v b ∧ stp v b < 18446744073709551616 := by
  unfold stp; rw [wrapE64]; constructor <;> omega

theorem numL_bd (l : List Int) : ∀ v, 0 ≤ v ∧ v < 18446744073709551616 → 0 ≤ numL v l ∧ numL v l < 18446744073709551616 := by
  induction l with
  | nil => intro v h; exact h
  | cons b l ih => intro v h; exact ih _ (stp_bd v b)
theorem num_bd (s : List UInt8) : 0 ≤ num s ∧ num s < 18446744073709551616 := numL_bd _ 0 (by omega)

theorem or_add (a : Nat) (b : Nat) (hb : b < 256) : a * 256 ||| b = a * 256 + b := by
  have := Nat.shiftLeft_add_eq_or_of_lt (i := 8) (b := b) (by simpa using hb) a
  rw [Nat.shiftLeft_eq] at this
  simpa using this.symm

theorem stp_eq {v b : Int} (h1 : 0 ≤ v) (h2 : v < 72057594037927936) (h3 : 0 ≤ b) (h4 : b < 256) : stp v b = v * 256 + b := by
  obtain ⟨n, rfl⟩ := Int.eq_ofNat_of_zero_le h1
  obtain ⟨m, rfl⟩ := Int.eq_ofNat_of_zero_le h3
  unfold stp
  rw [wu64 (x := (n : Int) * 2 ^ 8) (by omega) (by omega), wu64 (x := (m : Int)) (by omega) (by omega)]
  have e1 : ((n : Int) * 2 ^ 8) = ((n * 256 : Nat) : Int) := by omega
  rw [e1, BitVec.ofInt_natCast, BitVec.ofInt_natCast, BitVec.toNat_or, BitVec.toNat_ofNat, BitVec.toNat_ofNat, Nat.mod_eq_of_lt (by omega), Nat.mod_eq_of_lt (by omega), or_add _ _ (by omega), wu64 (by omega) (by omega)]
  omega

theorem numL_append (v : Int) (a b : List Int) : numL v (a ++ b) = numL (numL v a) b := by simp [numL]

/-- A scan of a row of bytes. -/
theorem scan {L ρ : Type} {g : L → Cm (L ⊕ ρ)} (K : Int → Int → L) (l : List Int)
    (hs : ∀ (i : Nat) (v : Int) (h : i < l.length), (g (K i v)).opt = some (.inl (K ((i + 1 : Nat) : Int) (stp v l[i])))) :
    ∀ (k i : Nat) (v : Int), i + k = l.length → loopO g (K i v) = loopO g (K l.length (numL v (l.drop i))) := by
  intro k
  induction k with
  | zero =>
    intro i v h
    have : i = l.length := by omega
    subst this
    simp [numL]
  | succ k ih =>
    intro i v h
    have hi : i < l.length := by omega
    rw [loopO_inl (hs i v hi) (ih (i + 1) _ (by omega)), dropE hi]
    rfl

theorem scan0 {L ρ : Type} {g : L → Cm (L ⊕ ρ)} (K : Int → Int → L) (l : List Int)
    (hs : ∀ (i : Nat) (v : Int) (h : i < l.length), (g (K i v)).opt = some (.inl (K ((i + 1 : Nat) : Int) (stp v l[i])))) :
    loopO g (K 0 0) = loopO g (K l.length (numL 0 l)) := scan K l hs l.length 0 0 (by omega)

theorem f50_eq (s : List UInt8) (hs : s.length ≤ 1000000) : f50 s = some (num s) := by
  refine runO_inl (s' := .h0 s 0 0) rfl ?_
  rw [scan0 (g := g50) (fun i v => .h0 s i v) (ints s)]
  · rw [ints_length]
    refine loopO_inr ?_
    simp only [g50]
    rw [opt_f (by simp), opt_ret]; rfl
  · intro i v h
    rw [ints_length] at h
    simp only [g50]
    rw [opt_t (by simp; omega), opt_chk (by omega), opt_chk (by omega), opt_get (nthE h), opt_ret, wsucc (by omega)]
    simp [stp, ints]

def namedS (v : Int) : Int := if v = 12 then 3 else if v = 22 then 5 else if v = 24 then 6 else if v = 26 then 8 else if v = 28 then 9 else 0

theorem f73_eq (v : Int) : f73 v = some (namedS v) := by
  have c : ∀ i : Int, i ≤ 9 → (f32 i).2 ≤ 0 → -9 < i → loopO g73 (.h0 v i) = loopO g73 (.h0 v (i + 1)) := by
    intro i h1 h2 h3
    refine loopO_inl ?_ rfl
    simp only [g73]
    rw [opt_t (by simp; omega), opt_f (by simp; omega), opt_ret, w64 (by omega) (by omega)]
  have d : ∀ i : Int, i ≤ 9 → 0 < (f32 i).2 → -9 < i → loopO g73 (.h0 v i) = if IntKind.u64.wrap (2 * (f32 i).1) = v then some i else loopO g73 (.h0 v (i + 1)) := by
    intro i h1 h2 h3
    by_cases h : IntKind.u64.wrap (2 * (f32 i).1) = v
    · rw [if_pos h]
      refine loopO_inr ?_
      simp only [g73]
      rw [opt_t (by simp; omega), opt_t (by simp; omega), opt_t (by simp [h]), opt_ret]
    · rw [if_neg h]
      refine loopO_inl ?_ rfl
      simp only [g73]
      rw [opt_t (by simp; omega), opt_t (by simp; omega), opt_f (by simp [h]), opt_ret, w64 (by omega) (by omega)]
  have e : loopO g73 (.h0 v 10) = some 0 := by
    refine loopO_inr ?_
    simp only [g73]
    rw [opt_f (by simp), opt_ret]
  refine runO_inl (s' := .h0 v 3) rfl ?_
  rw [d 3 (by decide) (by decide) (by decide), c (3 + 1) (by decide) (by decide) (by decide), d (3 + 1 + 1) (by decide) (by decide) (by decide), d (3 + 1 + 1 + 1) (by decide) (by decide) (by decide), c (3 + 1 + 1 + 1 + 1) (by decide) (by decide) (by decide), d (3 + 1 + 1 + 1 + 1 + 1) (by decide) (by decide) (by decide), d (3 + 1 + 1 + 1 + 1 + 1 + 1) (by decide) (by decide) (by decide)]
  simp only [show (3 : Int) + 1 + 1 + 1 + 1 + 1 + 1 + 1 = 10 from by decide, e]
  have w1 : IntKind.u64.wrap (2 * (f32 3).1) = 12 := by decide
  have w2 : IntKind.u64.wrap (2 * (f32 (3 + 1 + 1)).1) = 22 := by decide
  have w3 : IntKind.u64.wrap (2 * (f32 (3 + 1 + 1 + 1)).1) = 24 := by decide
  have w4 : IntKind.u64.wrap (2 * (f32 (3 + 1 + 1 + 1 + 1 + 1)).1) = 26 := by decide
  have w5 : IntKind.u64.wrap (2 * (f32 (3 + 1 + 1 + 1 + 1 + 1 + 1)).1) = 28 := by decide
  rw [w1, w2, w3, w4, w5]
  unfold namedS
  simp only [eq_comm (a := v)]
  repeat' split
  all_goals first | rfl | (exfalso; omega)

noncomputable def seemsS (s : List UInt8) : Action :=
  if num (s.take 2) = 0 then ⟨1, 0, num ((s.drop 4).take 4)⟩
  else if num (s.take 2) = 22 then ⟨2, 0, num ((s.drop 4).take 4)⟩
  else if num (s.take 2) = 17 then ⟨3, 0, 0⟩
  else if num (s.take 2) = 18 then ⟨4, 0, 0⟩
  else if num (s.take 2) = 25 then
    if ((s.drop 8).length : Int) < max (f32 (namedS (num ((s.drop 6).take 1)))).2 1 then ⟨5, namedS (num ((s.drop 6).take 1)), 0⟩
    else ⟨5, namedS (num ((s.drop 6).take 1)), num ((s.drop 8).take (max (f32 (namedS (num ((s.drop 6).take 1)))).2 1).toNat)⟩
  else ⟨0, 0, 0⟩

theorem f32_bd (f : Int) : 0 ≤ (f32 f).2 ∧ (f32 f).2 ≤ 4 := by
  unfold f32 u32
  simp only [tot_ite, tot_ret]
  repeat' (split; exact ⟨by decide, by decide⟩)
  exact ⟨by decide, by decide⟩

theorem fmI (s : List UInt8) : List.filterMap (fun (b : UInt8) => Option.some (↑b.toNat : Int)) s = ints s := filterMap_some _ s

theorem f49_eq (s : List UInt8) (h8 : 8 ≤ s.length) (hm : s.length ≤ 1000000) : f49 s = some (seemsS s) := by
  -- the first number: the kind
  refine runO_inl (s' := .h0 0 (ints (s.take 2)).length (ints (s.take 2)) (s.drop 2) 0 0) ?_ ?_
  · simp only [s49]
    rw [opt_t (by decide), opt_f (by decide), opt_f (by decide), opt_f (by simp; omega), opt_chk (by omega), opt_chk (by omega), opt_chk trivial, opt_ret, fmI]
    simp only [List.take_length, List.drop_drop, List.drop_zero, Nat.reduceAdd]
  rw [scan0 (g := g49) (fun i v => .h0 0 (ints (s.take 2)).length (ints (s.take 2)) (s.drop 2) i v) (ints (s.take 2))]
  rotate_left
  · intro i v h
    have hl : (ints (s.take 2)).length ≤ 2 := by rw [ints_length]; simp; omega
    simp only [g49]
    rw [opt_t (by simp; omega), opt_chk (by omega), opt_get (by rw [Nat.zero_add]; exact nthE h), opt_chk (by omega), opt_chk trivial, opt_ret, wsucc (by omega)]
    rfl
  -- the second number: the length
  refine loopO_inl (s' := .h1 (s.drop 4) 0 (ints ((s.drop 2).take 2)).length (ints ((s.drop 2).take 2)) (num (s.take 2)) 0 0) ?_ ?_
  · simp only [g49]
    rw [opt_f (by simp), opt_t (by decide), opt_f (by decide), opt_f (by decide), opt_f (by simp; omega), opt_chk (by simp; omega), opt_chk (by simp; omega), opt_chk trivial, opt_ret, fmI]
    simp only [List.take_length, List.drop_drop, List.drop_zero, Nat.reduceAdd]; rfl
  rw [scan0 (g := g49) (fun i v => .h1 (s.drop 4) 0 (ints ((s.drop 2).take 2)).length (ints ((s.drop 2).take 2)) (num (s.take 2)) i v) (ints ((s.drop 2).take 2))]
  rotate_left
  · intro i v h
    have hl : (ints ((s.drop 2).take 2)).length ≤ 2 := by rw [ints_length]; simp; omega
    simp only [g49]
    rw [opt_t (by simp; omega), opt_chk (by omega), opt_get (by rw [Nat.zero_add]; exact nthE h), opt_chk (by omega), opt_chk trivial, opt_ret, wsucc (by omega)]
    rfl
  by_cases k0 : num (s.take 2) = 0
  · refine loopO_inl (s' := .h2 (ints ((s.drop 4).take 4)).length (ints ((s.drop 4).take 4)) 0 0) ?_ ?_
    · simp only [g49]
      rw [opt_f (by simp), opt_t (by simp [k0]), opt_t (by decide), opt_f (by decide), opt_f (by decide), opt_f (by simp; omega), opt_chk (by simp; omega), opt_chk (by simp; omega), opt_chk trivial, opt_ret, fmI]
      simp
    rw [scan0 (g := g49) (fun i v => .h2 (ints ((s.drop 4).take 4)).length (ints ((s.drop 4).take 4)) i v) (ints ((s.drop 4).take 4))]
    · refine loopO_inr ?_
      simp only [g49]
      rw [opt_f (by simp), opt_ret]
      simp [seemsS, k0]; rfl
    · intro i v h
      have hl : (ints ((s.drop 4).take 4)).length ≤ 4 := by rw [ints_length]; simp; omega
      simp only [g49]
      rw [opt_t (by simp; omega), opt_chk (by omega), opt_get (by rw [Nat.zero_add]; exact nthE h), opt_chk (by omega), opt_chk trivial, opt_ret, wsucc (by omega)]
      rfl
  by_cases k22 : num (s.take 2) = 22
  · refine loopO_inl (s' := .h3 (ints ((s.drop 4).take 4)).length (ints ((s.drop 4).take 4)) 0 0) ?_ ?_
    · simp only [g49]
      rw [opt_f (by simp), opt_f (by simp [k0]), opt_t (by simp [k22]), opt_t (by decide), opt_f (by decide), opt_f (by decide), opt_f (by simp; omega), opt_chk (by simp; omega), opt_chk (by simp; omega), opt_chk trivial, opt_ret, fmI]
      simp
    rw [scan0 (g := g49) (fun i v => .h3 (ints ((s.drop 4).take 4)).length (ints ((s.drop 4).take 4)) i v) (ints ((s.drop 4).take 4))]
    · refine loopO_inr ?_
      simp only [g49]
      rw [opt_f (by simp), opt_ret]
      simp [seemsS, k22]; rfl
    · intro i v h
      have hl : (ints ((s.drop 4).take 4)).length ≤ 4 := by rw [ints_length]; simp; omega
      simp only [g49]
      rw [opt_t (by simp; omega), opt_chk (by omega), opt_get (by rw [Nat.zero_add]; exact nthE h), opt_chk (by omega), opt_chk trivial, opt_ret, wsucc (by omega)]
      rfl
  by_cases k17 : num (s.take 2) = 17
  · refine loopO_inr ?_
    simp only [g49]
    rw [opt_f (by simp), opt_f (by simp [k0]), opt_f (by simp [k22]), opt_t (by simp [k17]), opt_ret]
    simp [seemsS, k17]
  by_cases k18 : num (s.take 2) = 18
  · refine loopO_inr ?_
    simp only [g49]
    rw [opt_f (by simp), opt_f (by simp [k0]), opt_f (by simp [k22]), opt_f (by simp [k17]), opt_t (by simp [k18]), opt_ret]
    simp [seemsS, k18]
  by_cases k25 : num (s.take 2) = 25
  rotate_left
  · refine loopO_inr ?_
    simp only [g49]
    rw [opt_f (by simp), opt_f (by simp [k0]), opt_f (by simp [k22]), opt_f (by simp [k17]), opt_f (by simp [k18]), opt_f (by simp [k25]), opt_ret]
    simp [seemsS, k0, k22, k17, k18, k25]
  refine loopO_inl (s' := .h4 (s.drop 6) 0 (ints ((s.drop 4).take 2)).length (ints ((s.drop 4).take 2)) 0 0) ?_ ?_
  · simp only [g49]
    rw [opt_f (by simp), opt_f (by simp [k0]), opt_f (by simp [k22]), opt_f (by simp [k17]), opt_f (by simp [k18]), opt_t (by simp [k25]), opt_t (by decide), opt_f (by decide), opt_f (by decide), opt_f (by simp; omega), opt_chk (by simp; omega), opt_chk (by simp; omega), opt_chk trivial, opt_ret, fmI]
    simp only [List.take_length, List.drop_drop, List.drop_zero, Nat.reduceAdd]
  rw [scan0 (g := g49) (fun i v => .h4 (s.drop 6) 0 (ints ((s.drop 4).take 2)).length (ints ((s.drop 4).take 2)) i v) (ints ((s.drop 4).take 2))]
  rotate_left
  · intro i v h
    have hl : (ints ((s.drop 4).take 2)).length ≤ 2 := by rw [ints_length]; simp; omega
    simp only [g49]
    rw [opt_t (by simp; omega), opt_chk (by omega), opt_get (by rw [Nat.zero_add]; exact nthE h), opt_chk (by omega), opt_chk trivial, opt_ret, wsucc (by omega)]
    rfl
  refine loopO_inl (s' := .h5 (s.drop 7) 0 (ints ((s.drop 6).take 1)).length (ints ((s.drop 6).take 1)) 0 0) ?_ ?_
  · simp only [g49]
    rw [opt_f (by simp), opt_t (by decide), opt_f (by decide), opt_f (by decide), opt_f (by simp; omega), opt_chk (by simp; omega), opt_chk (by simp; omega), opt_chk trivial, opt_ret, fmI]
    simp only [List.take_length, List.drop_drop, List.drop_zero, Nat.reduceAdd]
  rw [scan0 (g := g49) (fun i v => .h5 (s.drop 7) 0 (ints ((s.drop 6).take 1)).length (ints ((s.drop 6).take 1)) i v) (ints ((s.drop 6).take 1))]
  rotate_left
  · intro i v h
    have hl : (ints ((s.drop 6).take 1)).length ≤ 1 := by rw [ints_length]; simp; omega
    simp only [g49]
    rw [opt_t (by simp; omega), opt_chk (by omega), opt_get (by rw [Nat.zero_add]; exact nthE h), opt_chk (by omega), opt_chk trivial, opt_ret, wsucc (by omega)]
    rfl
  refine loopO_inl (s' := .h6 (namedS (num ((s.drop 6).take 1))) (s.drop 8) 0 (ints ((s.drop 7).take 1)).length (ints ((s.drop 7).take 1)) 0 0) ?_ ?_
  · simp only [g49]
    rw [opt_f (by simp), opt_get (f73_eq _), opt_t (by decide), opt_f (by decide), opt_f (by decide), opt_f (by simp; omega), opt_chk (by simp; omega), opt_chk (by simp; omega), opt_chk trivial, opt_ret, fmI]
    simp only [List.take_length, List.drop_drop, List.drop_zero, Nat.reduceAdd]; rfl
  rw [scan0 (g := g49) (fun i v => .h6 (namedS (num ((s.drop 6).take 1))) (s.drop 8) 0 (ints ((s.drop 7).take 1)).length (ints ((s.drop 7).take 1)) i v) (ints ((s.drop 7).take 1))]
  rotate_left
  · intro i v h
    have hl : (ints ((s.drop 7).take 1)).length ≤ 1 := by rw [ints_length]; simp; omega
    simp only [g49]
    rw [opt_t (by simp; omega), opt_chk (by omega), opt_get (by rw [Nat.zero_add]; exact nthE h), opt_chk (by omega), opt_chk trivial, opt_ret, wsucc (by omega)]
    rfl
  have hsS : seemsS s = if ((s.drop 8).length : Int) < max (f32 (namedS (num ((s.drop 6).take 1)))).2 1 then ⟨5, namedS (num ((s.drop 6).take 1)), 0⟩
    else ⟨5, namedS (num ((s.drop 6).take 1)), num ((s.drop 8).take (max (f32 (namedS (num ((s.drop 6).take 1)))).2 1).toNat)⟩ := by
    unfold seemsS
    rw [if_neg k0, if_neg k22, if_neg k17, if_neg k18, if_pos k25]
  rw [hsS]
  clear hsS
  generalize namedS (num ((s.drop 6).take 1)) = f
  obtain ⟨b1, b2⟩ := f32_bd f
  generalize hn : max (f32 f).2 1 = n
  have n1 : 1 ≤ n := by omega
  have n4 : n ≤ 4 := by omega
  by_cases hs : ((s.drop 8).length : Int) < n
  · rw [if_pos hs]
    refine loopO_inl (s' := .h7 f (([] : List Int).length : Int) [] 0 0) ?_ ?_
    · simp only [g49]
      rw [hn, opt_f (by simp), opt_t (by simp; omega), opt_f (by decide), opt_f (by simp; omega), opt_t (by simp only [decide_eq_true_eq]; exact hs), opt_chk trivial, opt_ret]
      rfl
    · refine loopO_inr ?_
      simp only [g49]
      rw [opt_f (by simp), opt_ret]
  · rw [if_neg hs]
    have hs' : n ≤ ((s.drop 8).length : Int) := by omega
    refine loopO_inl (s' := .h7 f (ints ((s.drop 8).take n.toNat)).length (ints ((s.drop 8).take n.toNat)) 0 0) ?_ ?_
    · simp only [g49]
      rw [hn, opt_f (by simp), opt_t (by simp; omega), opt_f (by decide), opt_f (by simp; omega), opt_f (by simp only [decide_eq_false_iff_not]; exact hs), opt_chk (by omega), opt_chk (by omega), opt_chk trivial, opt_ret, fmI]
      simp
    rw [scan0 (g := g49) (fun i v => .h7 f (ints ((s.drop 8).take n.toNat)).length (ints ((s.drop 8).take n.toNat)) i v) (ints ((s.drop 8).take n.toNat))]
    · refine loopO_inr ?_
      simp only [g49]
      rw [opt_f (by simp), opt_ret]
      rfl
    · intro i v h
      have hl : (ints ((s.drop 8).take n.toNat)).length ≤ 4 := by rw [ints_length]; simp; omega
      simp only [g49]
      rw [opt_t (by simp; omega), opt_chk (by omega), opt_get (by rw [Nat.zero_add]; exact nthE h), opt_chk (by omega), opt_chk trivial, opt_ret, wsucc (by omega)]
      rfl

end Go.Proofs.Act

/-
  The plain part: which actions bytes are.
-/
namespace Go.Proofs.Act
open Go Go.Ab
set_option linter.unusedVariables false
set_option linter.unusedSimpArgs false
set_option maxRecDepth 100000

def B (v : Int) (i : Nat) : UInt8 := UInt8.ofNat (byteAt v i).toNat
theorem be4 (v : Int) : be v 4 = [B v 3, B v 2, B v 1, B v 0] := rfl
theorem be2 (v : Int) : be v 2 = [B v 1, B v 0] := rfl

theorem byteAt_eq {v : Int} (i : Nat) (hi : i ≤ 4) : byteAt v i = v / 2 ^ (8 * i) % 256 := by
  unfold byteAt
  rw [wrapE, fdivp, Nat.min_eq_left (by omega)]

theorem B_nat (v : Int) (i : Nat) (hi : i ≤ 4) : ((B v i).toNat : Int) = v / 2 ^ (8 * i) % 256 := by
  have h := byteAt_eq (v := v) i hi
  unfold B
  rw [UInt8.toNat_ofNat']
  have h1 : 0 ≤ byteAt v i := by rw [h]; omega
  have h2 : byteAt v i < 256 := by rw [h]; omega
  rw [← h]; omega

theorem num2 (a b : UInt8) : num [a, b] = (a.toNat : Int) * 256 + b.toNat := by
  have ha := a.toNat_lt
  have hb := b.toNat_lt
  unfold num ints numL
  simp only [List.map, List.foldl]
  rw [stp_eq (v := 0) (by omega) (by omega) (by omega) (by omega), stp_eq (by omega) (by omega) (by omega) (by omega)]
  omega

theorem num1 (a : UInt8) : num [a] = (a.toNat : Int) := by
  have ha := a.toNat_lt
  unfold num ints numL
  simp only [List.map, List.foldl]
  rw [stp_eq (v := 0) (by omega) (by omega) (by omega) (by omega)]
  omega

theorem num4 (a b c d : UInt8) : num [a, b, c, d] = (((a.toNat : Int) * 256 + b.toNat) * 256 + c.toNat) * 256 + d.toNat := by
  have ha := a.toNat_lt
  have hb := b.toNat_lt
  have hc := c.toNat_lt
  have hd := d.toNat_lt
  unfold num ints numL
  simp only [List.map, List.foldl]
  rw [stp_eq (v := 0) (by omega) (by omega) (by omega) (by omega), stp_eq (v := 0 * 256 + _) (by omega) (by omega) (by omega) (by omega), stp_eq (v := (0 * 256 + _) * 256 + _) (by omega) (by omega) (by omega) (by omega), stp_eq (by omega) (by omega) (by omega) (by omega)]
  omega

theorem num_B2 {v : Int} (h1 : 0 ≤ v) (h2 : v < 65536) : num [B v 1, B v 0] = v := by
  rw [num2, B_nat v 1 (by omega), B_nat v 0 (by omega)]; omega
theorem num_B4 {v : Int} (h1 : 0 ≤ v) (h2 : v < 4294967296) : num [B v 3, B v 2, B v 1, B v 0] = v := by
  rw [num4, B_nat v 3 (by omega), B_nat v 2 (by omega), B_nat v 1 (by omega), B_nat v 0 (by omega)]; omega

noncomputable def oneS (s : List UInt8) : Action :=
  if num (s.take 2) = 0 then ⟨1, 0, num ((s.take 8).drop 4)⟩
  else if num (s.take 2) = 22 then ⟨2, 0, num ((s.take 8).drop 4)⟩
  else if num (s.take 2) = 17 then ⟨3, 0, 0⟩
  else if num (s.take 2) = 18 then ⟨4, 0, 0⟩
  else if num (s.take 2) = 25 then
    if s.length = 16 ∧ namedS (num ((s.drop 6).take 1)) ≠ 0 then ⟨5, namedS (num ((s.drop 6).take 1)), num ((s.take (8 + (f61 (namedS (num ((s.drop 6).take 1)))).toNat)).drop 8)⟩
    else ⟨0, 0, 0⟩
  else ⟨0, 0, 0⟩

theorem sm0 {s : List UInt8} (h : num (s.take 2) = 0) : seemsS s = ⟨1, 0, num ((s.drop 4).take 4)⟩ := by unfold seemsS; rw [if_pos h]
theorem sm22 {s : List UInt8} (h : num (s.take 2) = 22) : seemsS s = ⟨2, 0, num ((s.drop 4).take 4)⟩ := by unfold seemsS; rw [if_neg (by omega), if_pos h]
theorem sm17 {s : List UInt8} (h : num (s.take 2) = 17) : seemsS s = ⟨3, 0, 0⟩ := by unfold seemsS; rw [if_neg (by omega), if_neg (by omega), if_pos h]
theorem sm18 {s : List UInt8} (h : num (s.take 2) = 18) : seemsS s = ⟨4, 0, 0⟩ := by unfold seemsS; rw [if_neg (by omega), if_neg (by omega), if_neg (by omega), if_pos h]
theorem sm25 {s : List UInt8} {f : Int} {n : Nat} (h : num (s.take 2) = 25) (hf : namedS (num ((s.drop 6).take 1)) = f) (hn : max (f32 f).2 1 = (n : Int)) (hl : n ≤ (s.drop 8).length) : seemsS s = ⟨5, f, num ((s.drop 8).take n)⟩ := by
  unfold seemsS; rw [if_neg (by omega), if_neg (by omega), if_neg (by omega), if_neg (by omega), if_pos h, hf, hn, if_neg (by omega)]; rfl
theorem on0 {s : List UInt8} (h : num (s.take 2) = 0) : oneS s = ⟨1, 0, num ((s.take 8).drop 4)⟩ := by unfold oneS; rw [if_pos h]
theorem on22 {s : List UInt8} (h : num (s.take 2) = 22) : oneS s = ⟨2, 0, num ((s.take 8).drop 4)⟩ := by unfold oneS; rw [if_neg (by omega), if_pos h]
theorem on17 {s : List UInt8} (h : num (s.take 2) = 17) : oneS s = ⟨3, 0, 0⟩ := by unfold oneS; rw [if_neg (by omega), if_neg (by omega), if_pos h]
theorem on18 {s : List UInt8} (h : num (s.take 2) = 18) : oneS s = ⟨4, 0, 0⟩ := by unfold oneS; rw [if_neg (by omega), if_neg (by omega), if_neg (by omega), if_pos h]
theorem on25 {s : List UInt8} {f : Int} {n : Nat} (h : num (s.take 2) = 25) (hf : namedS (num ((s.drop 6).take 1)) = f) (h0 : f ≠ 0) (hn : f61 f = (n : Int)) (hl : s.length = 16) : oneS s = ⟨5, f, num ((s.take (8 + n)).drop 8)⟩ := by
  unfold oneS; rw [if_neg (by omega), if_neg (by omega), if_neg (by omega), if_neg (by omega), if_pos h, hf, hn, if_pos ⟨hl, h0⟩]; rfl

/-- What a right action's bytes seem to be. -/
theorem seems_bytes (c : Action) (hr : RightA c) (hw : wfA c) : seemsS (bytesOf c) = c := by
  obtain ⟨w1, w2⟩ := hw
  obtain ⟨K, F, V⟩ := c
  simp only at w1 w2
  cases hr with
  | out k f v1 v2 =>
    simp only at k f v1 v2
    subst k f
    have e : bytesOf ⟨1, 0, V⟩ = [0, 0, 0, 16, B V 3, B V 2, B V 1, B V 0, 255, 255, 0, 0, 0, 0, 0, 0] := rfl
    rw [e]
    refine Eq.trans (sm0 (show num [0, 0] = 0 from by decide)) ?_
    exact congrArg (Action.mk 1 0) (num_B4 w1 v2)
  | grp k f v1 v2 =>
    simp only at k f v1 v2
    subst k f
    have e : bytesOf ⟨2, 0, V⟩ = [0, 22, 0, 8, B V 3, B V 2, B V 1, B V 0] := rfl
    rw [e]
    refine Eq.trans (sm22 (show num [0, 22] = 22 from by decide)) ?_
    exact congrArg (Action.mk 2 0) (num_B4 w1 v2)
  | psh k f v =>
    simp only at k f v
    subst k f v
    have e : bytesOf ⟨3, 0, 0⟩ = [0, 17, 0, 8, 129, 0, 0, 0] := rfl
    rw [e]
    exact sm17 (show num [0, 17] = 17 from by decide)
  | pop k f v =>
    simp only at k f v
    subst k f v
    have e : bytesOf ⟨4, 0, 0⟩ = [0, 18, 0, 8, 0, 0, 0, 0] := rfl
    rw [e]
    exact sm18 (show num [0, 18] = 18 from by decide)
  | vlan k f v1 v2 =>
    simp only at k f v1 v2
    subst k f
    have e : bytesOf ⟨5, 3, V⟩ = [0, 25, 0, 16, 128, 0, 12, 2, B V 1, B V 0, 0, 0, 0, 0, 0, 0] := rfl
    rw [e]
    refine Eq.trans (sm25 (n := 2) (show num [0, 25] = 25 from by decide) (show namedS (num [12]) = 3 from by decide) (by decide) (show 2 ≤ 8 from by decide)) ?_
    exact congrArg (Action.mk 5 3) (num_B2 w1 (by omega))
  | src k f v =>
    simp only at k f v
    subst k f
    have e : bytesOf ⟨5, 5, V⟩ = [0, 25, 0, 16, 128, 0, 22, 4, B V 3, B V 2, B V 1, B V 0, 0, 0, 0, 0] := rfl
    rw [e]
    refine Eq.trans (sm25 (n := 4) (show num [0, 25] = 25 from by decide) (show namedS (num [22]) = 5 from by decide) (by decide) (show 4 ≤ 8 from by decide)) ?_
    exact congrArg (Action.mk 5 5) (num_B4 w1 v)
  | dst k f v =>
    simp only at k f v
    subst k f
    have e : bytesOf ⟨5, 6, V⟩ = [0, 25, 0, 16, 128, 0, 24, 4, B V 3, B V 2, B V 1, B V 0, 0, 0, 0, 0] := rfl
    rw [e]
    refine Eq.trans (sm25 (n := 4) (show num [0, 25] = 25 from by decide) (show namedS (num [24]) = 6 from by decide) (by decide) (show 4 ≤ 8 from by decide)) ?_
    exact congrArg (Action.mk 5 6) (num_B4 w1 v)
  | sp k f v =>
    simp only at k f v
    subst k f
    have e : bytesOf ⟨5, 8, V⟩ = [0, 25, 0, 16, 128, 0, 26, 2, B V 1, B V 0, 0, 0, 0, 0, 0, 0] := rfl
    rw [e]
    refine Eq.trans (sm25 (n := 2) (show num [0, 25] = 25 from by decide) (show namedS (num [26]) = 8 from by decide) (by decide) (show 2 ≤ 8 from by decide)) ?_
    exact congrArg (Action.mk 5 8) (num_B2 w1 v)
  | dp k f v =>
    simp only at k f v
    subst k f
    have e : bytesOf ⟨5, 9, V⟩ = [0, 25, 0, 16, 128, 0, 28, 2, B V 1, B V 0, 0, 0, 0, 0, 0, 0] := rfl
    rw [e]
    refine Eq.trans (sm25 (n := 2) (show num [0, 25] = 25 from by decide) (show namedS (num [28]) = 9 from by decide) (by decide) (show 2 ≤ 8 from by decide)) ?_
    exact congrArg (Action.mk 5 9) (num_B2 w1 v)

theorem one_bytes (c : Action) (hr : RightA c) (hw : wfA c) : oneS (bytesOf c) = c := by
  obtain ⟨w1, w2⟩ := hw
  obtain ⟨K, F, V⟩ := c
  simp only at w1 w2
  cases hr with
  | out k f v1 v2 =>
    simp only at k f v1 v2
    subst k f
    have e : bytesOf ⟨1, 0, V⟩ = [0, 0, 0, 16, B V 3, B V 2, B V 1, B V 0, 255, 255, 0, 0, 0, 0, 0, 0] := rfl
    rw [e]
    refine Eq.trans (on0 (show num [0, 0] = 0 from by decide)) ?_
    exact congrArg (Action.mk 1 0) (num_B4 w1 v2)
  | grp k f v1 v2 =>
    simp only at k f v1 v2
    subst k f
    have e : bytesOf ⟨2, 0, V⟩ = [0, 22, 0, 8, B V 3, B V 2, B V 1, B V 0] := rfl
    rw [e]
    refine Eq.trans (on22 (show num [0, 22] = 22 from by decide)) ?_
    exact congrArg (Action.mk 2 0) (num_B4 w1 v2)
  | psh k f v =>
    simp only at k f v
    subst k f v
    have e : bytesOf ⟨3, 0, 0⟩ = [0, 17, 0, 8, 129, 0, 0, 0] := rfl
    rw [e]
    exact on17 (show num [0, 17] = 17 from by decide)
  | pop k f v =>
    simp only at k f v
    subst k f v
    have e : bytesOf ⟨4, 0, 0⟩ = [0, 18, 0, 8, 0, 0, 0, 0] := rfl
    rw [e]
    exact on18 (show num [0, 18] = 18 from by decide)
  | vlan k f v1 v2 =>
    simp only at k f v1 v2
    subst k f
    have e : bytesOf ⟨5, 3, V⟩ = [0, 25, 0, 16, 128, 0, 12, 2, B V 1, B V 0, 0, 0, 0, 0, 0, 0] := rfl
    rw [e]
    refine Eq.trans (on25 (n := 2) (show num [0, 25] = 25 from by decide) (show namedS (num [12]) = 3 from by decide) (by decide) (by decide) rfl) ?_
    exact congrArg (Action.mk 5 3) (num_B2 w1 (by omega))
  | src k f v =>
    simp only at k f v
    subst k f
    have e : bytesOf ⟨5, 5, V⟩ = [0, 25, 0, 16, 128, 0, 22, 4, B V 3, B V 2, B V 1, B V 0, 0, 0, 0, 0] := rfl
    rw [e]
    refine Eq.trans (on25 (n := 4) (show num [0, 25] = 25 from by decide) (show namedS (num [22]) = 5 from by decide) (by decide) (by decide) rfl) ?_
    exact congrArg (Action.mk 5 5) (num_B4 w1 v)
  | dst k f v =>
    simp only at k f v
    subst k f
    have e : bytesOf ⟨5, 6, V⟩ = [0, 25, 0, 16, 128, 0, 24, 4, B V 3, B V 2, B V 1, B V 0, 0, 0, 0, 0] := rfl
    rw [e]
    refine Eq.trans (on25 (n := 4) (show num [0, 25] = 25 from by decide) (show namedS (num [24]) = 6 from by decide) (by decide) (by decide) rfl) ?_
    exact congrArg (Action.mk 5 6) (num_B4 w1 v)
  | sp k f v =>
    simp only at k f v
    subst k f
    have e : bytesOf ⟨5, 8, V⟩ = [0, 25, 0, 16, 128, 0, 26, 2, B V 1, B V 0, 0, 0, 0, 0, 0, 0] := rfl
    rw [e]
    refine Eq.trans (on25 (n := 2) (show num [0, 25] = 25 from by decide) (show namedS (num [26]) = 8 from by decide) (by decide) (by decide) rfl) ?_
    exact congrArg (Action.mk 5 8) (num_B2 w1 v)
  | dp k f v =>
    simp only at k f v
    subst k f
    have e : bytesOf ⟨5, 9, V⟩ = [0, 25, 0, 16, 128, 0, 28, 2, B V 1, B V 0, 0, 0, 0, 0, 0, 0] := rfl
    rw [e]
    refine Eq.trans (on25 (n := 2) (show num [0, 25] = 25 from by decide) (show namedS (num [28]) = 9 from by decide) (by decide) (by decide) rfl) ?_
    exact congrArg (Action.mk 5 9) (num_B2 w1 v)

theorem seems_wf (s : List UInt8) : wfA (seemsS s) := by
  have h := num_bd
  unfold seemsS wfA
  repeat' split
  all_goals first | exact h _ | exact ⟨Int.le_refl 0, show (0 : Int) < 18446744073709551616 from by decide⟩

theorem namedS_vals (v : Int) : namedS v = 0 ∨ (namedS v = 3 ∧ v = 12) ∨ (namedS v = 5 ∧ v = 22) ∨ (namedS v = 6 ∧ v = 24) ∨ (namedS v = 8 ∧ v = 26) ∨ (namedS v = 9 ∧ v = 28) := by
  unfold namedS; repeat' split
  all_goals omega

/-! ### the document's answer -/

theorem f61_bd (f : Int) : 0 ≤ f61 f ∧ f61 f ≤ 4 := by
  unfold f61 u61
  simp only [tot_ite, tot_ret]
  repeat' (split; exact ⟨by decide, by decide⟩)
  exact ⟨by decide, by decide⟩

theorem loop51 (s : List UInt8) (h8 : 8 ≤ s.length) (hm : s.length ≤ 1000000) :
    loopO g51 (.h0 s 3) = some (if s.length = 16 ∧ namedS (num ((s.drop 6).take 1)) ≠ 0 then ⟨5, namedS (num ((s.drop 6).take 1)), num ((s.take (8 + (f61 (namedS (num ((s.drop 6).take 1)))).toNat)).drop 8)⟩ else ⟨0, 0, 0⟩) := by
  obtain ⟨y, hy⟩ : ∃ y, s[(6 : Nat)]? = some y := ⟨s[6], by simp⟩
  have h6 : (s.drop 6).take 1 = [y] := by
    obtain ⟨hl, hy⟩ := List.getElem?_eq_some_iff.1 hy
    rw [dropE hl, hy]; rfl
  rw [h6, num1]
  have hy2 := y.toNat_lt
  have w : IntKind.i64.wrap (y.toNat : Int) = y.toNat := w64 (by omega) (by omega)
  have c : ∀ i : Int, i ≤ 9 → f60 i ≤ 0 → -9 < i → loopO g51 (.h0 s i) = loopO g51 (.h0 s (i + 1)) := by
    intro i h1 h2 h3
    refine loopO_inl ?_ rfl
    simp only [g51]
    rw [opt_t (by simp; omega), opt_f (by simp; omega), opt_ret, w64 (by omega) (by omega)]
  have d : ∀ i : Int, i ≤ 9 → 0 < f60 i → -9 < i → loopO g51 (.h0 s i) = if s.length = 16 ∧ (y.toNat : Int) = IntKind.i64.wrap (2 * f60 i) then some ⟨5, i, num ((s.take (8 + (f61 i).toNat)).drop 8)⟩ else loopO g51 (.h0 s (i + 1)) := by
    intro i h1 h2 h3
    obtain ⟨b1, b2⟩ := f61_bd i
    have e8 : IntKind.i64.wrap (8 + f61 i) = 8 + f61 i := w64 (by omega) (by omega)
    by_cases h : (y.toNat : Int) = IntKind.i64.wrap (2 * f60 i)
    · by_cases h16 : s.length = 16
      · rw [if_pos ⟨h16, h⟩]
        refine loopO_inr ?_
        simp only [g51]
        rw [opt_t (by simp; omega), opt_t (by simp; omega), opt_chk (by omega), opt_get hy, w, opt_t (by simp [h]), opt_t (by simp; omega), e8, opt_chk (by omega), opt_chk (by omega), opt_get (f50_eq _ (by simp; omega)), opt_ret]
        have : (8 + f61 i).toNat = 8 + (f61 i).toNat := by omega
        rw [this]
      · rw [if_neg (fun x => h16 x.1)]
        refine loopO_inl ?_ rfl
        simp only [g51]
        rw [opt_t (by simp; omega), opt_t (by simp; omega), opt_chk (by omega), opt_get hy, w, opt_t (by simp [h]), opt_f (by simp; omega), opt_ret, w64 (by omega) (by omega)]
    · rw [if_neg (fun x => h x.2)]
      refine loopO_inl ?_ rfl
      simp only [g51]
      rw [opt_t (by simp; omega), opt_t (by simp; omega), opt_chk (by omega), opt_get hy, w, opt_f (by simp [h]), opt_ret, w64 (by omega) (by omega)]
  have e : loopO g51 (.h0 s 10) = some ⟨0, 0, 0⟩ := by
    refine loopO_inr ?_
    simp only [g51]
    rw [opt_f (by simp), opt_ret]
  rw [d 3 (by decide) (by decide) (by decide), c (3 + 1) (by decide) (by decide) (by decide), d (3 + 1 + 1) (by decide) (by decide) (by decide), d (3 + 1 + 1 + 1) (by decide) (by decide) (by decide), c (3 + 1 + 1 + 1 + 1) (by decide) (by decide) (by decide), d (3 + 1 + 1 + 1 + 1 + 1) (by decide) (by decide) (by decide), d (3 + 1 + 1 + 1 + 1 + 1 + 1) (by decide) (by decide) (by decide)]
  simp only [show (3 : Int) + 1 + 1 + 1 + 1 + 1 + 1 + 1 = 10 from by decide, e]
  have w1 : IntKind.i64.wrap (2 * (f60 3)) = 12 := by decide
  have w2 : IntKind.i64.wrap (2 * (f60 (3 + 1 + 1))) = 22 := by decide
  have w3 : IntKind.i64.wrap (2 * (f60 (3 + 1 + 1 + 1))) = 24 := by decide
  have w4 : IntKind.i64.wrap (2 * (f60 (3 + 1 + 1 + 1 + 1 + 1))) = 26 := by decide
  have w5 : IntKind.i64.wrap (2 * (f60 (3 + 1 + 1 + 1 + 1 + 1 + 1))) = 28 := by decide
  rw [w1, w2, w3, w4, w5]
  by_cases h16 : s.length = 16
  · simp only [h16, true_and]
    generalize (y.toNat : Int) = v
    unfold namedS
    by_cases v1 : v = 12
    · subst v1; simp
    by_cases v2 : v = 22
    · subst v2; simp
    by_cases v3 : v = 24
    · subst v3; simp
    by_cases v4 : v = 26
    · subst v4; simp
    by_cases v5 : v = 28
    · subst v5; simp
    simp [v1, v2, v3, v4, v5]
  · simp [h16]

theorem f51_eq (s : List UInt8) (h8 : 8 ≤ s.length) (hm : s.length ≤ 1000000) : f51 s = some (oneS s) := by
  have g1 : f50 (List.drop 0 (List.take 2 s)) = some (num (s.take 2)) := by rw [List.drop_zero]; exact f50_eq _ (by simp; omega)
  have g2 : f50 (List.drop 4 (List.take 8 s)) = some (num ((s.take 8).drop 4)) := f50_eq _ (by simp; omega)
  unfold oneS
  by_cases k0 : num (s.take 2) = 0
  · rw [if_pos k0]
    refine runO_inr ?_
    simp only [s51]
    rw [opt_chk (by omega), opt_get g1, opt_t (by simp [k0]), opt_chk (by omega), opt_chk (by omega), opt_get g2, opt_ret]
  rw [if_neg k0]
  by_cases k22 : num (s.take 2) = 22
  · rw [if_pos k22]
    refine runO_inr ?_
    simp only [s51]
    rw [opt_chk (by omega), opt_get g1, opt_f (by simp [k0]), opt_t (by simp [k22]), opt_chk (by omega), opt_chk (by omega), opt_get g2, opt_ret]
  rw [if_neg k22]
  by_cases k17 : num (s.take 2) = 17
  · rw [if_pos k17]
    refine runO_inr ?_
    simp only [s51]
    rw [opt_chk (by omega), opt_get g1, opt_f (by simp [k0]), opt_f (by simp [k22]), opt_t (by simp [k17]), opt_ret]
  rw [if_neg k17]
  by_cases k18 : num (s.take 2) = 18
  · rw [if_pos k18]
    refine runO_inr ?_
    simp only [s51]
    rw [opt_chk (by omega), opt_get g1, opt_f (by simp [k0]), opt_f (by simp [k22]), opt_f (by simp [k17]), opt_t (by simp [k18]), opt_ret]
  rw [if_neg k18]
  by_cases k25 : num (s.take 2) = 25
  · rw [if_pos k25]
    refine runO_inl (s' := .h0 s 3) ?_ (loop51 s h8 hm)
    simp only [s51]
    rw [opt_chk (by omega), opt_get g1, opt_f (by simp [k0]), opt_f (by simp [k22]), opt_f (by simp [k17]), opt_f (by simp [k18]), opt_t (by simp [k25]), opt_ret]
  · rw [if_neg k25]
    refine runO_inr ?_
    simp only [s51]
    rw [opt_chk (by omega), opt_get g1, opt_f (by simp [k0]), opt_f (by simp [k22]), opt_f (by simp [k17]), opt_f (by simp [k18]), opt_f (by simp [k25]), opt_ret]

theorem one_wf (s : List UInt8) : wfA (oneS s) := by
  have h := num_bd
  unfold oneS wfA
  repeat' split
  all_goals first | exact h _ | exact ⟨Int.le_refl 0, show (0 : Int) < 18446744073709551616 from by decide⟩

end Go.Proofs.Act

/-
  The plain part: which actions bytes are, or what is wrong with them.
-/
namespace Go.Proofs.Act
open Go Go.Ab Classical
set_option linter.unusedVariables false
set_option linter.unusedSimpArgs false
set_option maxRecDepth 100000

/-- Bytes that are those of an action that may be. -/
def Good (s : List UInt8) (c : Action) : Prop := RightA c ∧ wfA c ∧ bytesOf c = s

theorem good_uniq {s : List UInt8} {a b : Action} (ha : Good s a) (hb : Good s b) : a = b := by
  rw [← seems_bytes a ha.1 ha.2.1, ← seems_bytes b hb.1 hb.2.1, ha.2.2, hb.2.2]

theorem good_seems {s : List UInt8} {c : Action} (h : Good s c) : seemsS s = c := by rw [← h.2.2]; exact seems_bytes c h.1 h.2.1
theorem good_one {s : List UInt8} {c : Action} (h : Good s c) : oneS s = c := by rw [← h.2.2]; exact one_bytes c h.1 h.2.1

noncomputable def pick (s : List UInt8) : Option Action := if h : ∃ c, Good s c then some (Classical.choose h) else none

theorem pick_good {s : List UInt8} {c : Action} (h : Good s c) : pick s = some c := by
  unfold pick
  have h' : ∃ c, Good s c := ⟨c, h⟩
  rw [dif_pos h', good_uniq (Classical.choose_spec h') h]

theorem pick_some {s : List UInt8} {c : Action} (h : pick s = some c) : Good s c := by
  unfold pick at h
  split at h
  · rename_i h'
    have := Option.some.inj h
    rw [← this]; exact Classical.choose_spec h'
  · exact absurd h (by simp)

theorem pick_none {s : List UInt8} (h : pick s = none) (c : Action) : ¬ Good s c := by
  intro hc; rw [pick_good hc] at h; exact absurd h (by simp)

noncomputable def lenOf (d : List UInt8) : Int := num ((d.drop 2).take 2)

noncomputable def dec : Nat → List UInt8 → List Action → List Action × Int
  | 0, d, out => (out, 0)
  | k + 1, d, out =>
    if d = [] then (out, 0)
    else if d.length < 4 then ([], 10)
    else if (d.length : Int) < lenOf d then ([], 10)
    else if lenOf d < 8 then ([], 11)
    else match pick (d.take (lenOf d).toNat) with
      | none => ([], 11)
      | some c => if out.length = 32 then ([], 44) else dec k (d.drop (lenOf d).toNat) (out ++ [c])

theorem lenOf_eq {d : List UInt8} (h : 4 ≤ d.length) : ∃ a b, d[(2 : Nat)]? = some a ∧ d[(3 : Nat)]? = some b ∧ lenOf d = (a.toNat : Int) * 256 + b.toNat := by
  refine ⟨d[2], d[3], by simp, by simp, ?_⟩
  unfold lenOf
  have : (d.drop 2).take 2 = [d[2], d[3]] := by
    rw [dropE (by omega), dropE (i := 2 + 1) (by omega)]; rfl
  rw [this, num2]

theorem lenOf_bd {d : List UInt8} (h : 4 ≤ d.length) : 0 ≤ lenOf d ∧ lenOf d < 65536 := by
  obtain ⟨a, b, _, _, e⟩ := lenOf_eq h
  have := a.toNat_lt; have := b.toNat_lt
  omega

theorem or_len {a b : UInt8} : IntKind.i64.wrap (↑(BitVec.ofInt 64 (IntKind.i64.wrap (IntKind.i64.wrap (↑a.toNat : Int) * 2 ^ 8)) ||| BitVec.ofInt 64 (IntKind.i64.wrap (↑b.toNat : Int))).toNat : Int) = (a.toNat : Int) * 256 + b.toNat := by
  have ha := a.toNat_lt
  have hb := b.toNat_lt
  rw [w64 (x := (a.toNat : Int)) (by omega) (by omega), w64 (x := (a.toNat : Int) * 2 ^ 8) (by omega) (by omega), w64 (x := (b.toNat : Int)) (by omega) (by omega)]
  have e1 : ((a.toNat : Int) * 2 ^ 8) = ((a.toNat * 256 : Nat) : Int) := by omega
  rw [e1, BitVec.ofInt_natCast, BitVec.ofInt_natCast, BitVec.toNat_or, BitVec.toNat_ofNat, BitVec.toNat_ofNat, Nat.mod_eq_of_lt (by omega), Nat.mod_eq_of_lt (by omega), or_add _ _ (by omega), w64 (by omega) (by omega)]
  omega

theorem loop22 : ∀ (k : Nat) (d : List UInt8) (out : List Action), d.length < k → d.length ≤ 1000000 → out.length ≤ 32 → loopO g22 (.h0 d out) = some (dec k d out) := by
  intro k
  induction k with
  | zero => intro d out h _ _; omega
  | succ k ih =>
    intro d out hk hm ho
    unfold dec
    by_cases h0 : d = []
    · rw [if_pos h0]
      refine loopO_inr ?_
      simp only [g22]
      rw [opt_f (by simp [h0]), opt_chk (by omega), opt_ret]
      simp
    rw [if_neg h0]
    by_cases h4 : d.length < 4
    · rw [if_pos h4]
      refine loopO_inr ?_
      simp only [g22]
      rw [opt_t (by simp [h0]), opt_t (by simp; omega), opt_ret]
    rw [if_neg h4]
    obtain ⟨a, b, ea, eb, el⟩ := lenOf_eq (d := d) (by omega)
    have hbd := lenOf_bd (d := d) (by omega)
    by_cases hl : (d.length : Int) < lenOf d
    · rw [if_pos hl]
      refine loopO_inr ?_
      simp only [g22]
      rw [opt_t (by simp [h0]), opt_f (by simp; omega), opt_chk (by omega), opt_get ea, opt_chk (by omega), opt_chk (by omega), opt_get eb, or_len, ← el, opt_t (by simp only [decide_eq_true_eq]; exact hl), opt_ret]
    rw [if_neg hl]
    by_cases h8 : lenOf d < 8
    · rw [if_pos h8]
      refine loopO_inr ?_
      simp only [g22]
      rw [opt_t (by simp [h0]), opt_f (by simp; omega), opt_chk (by omega), opt_get ea, opt_chk (by omega), opt_chk (by omega), opt_get eb, or_len, ← el, opt_f (by simp only [decide_eq_false_iff_not]; exact hl), opt_t (by simp only [decide_eq_true_eq]; exact h8), opt_ret]
    rw [if_neg h8]
    obtain ⟨n, hn⟩ := Int.eq_ofNat_of_zero_le hbd.1
    rw [hn] at hl h8 hbd
    rw [hn]
    have hlen : (d.take n).length = n := by simp; omega
    have hs := f49_eq (d.take n) (by omega) (by omega)
    have hr := right_same (seemsS (d.take n)) (seems_wf _)
    have start : ∀ {r : Option (L22 ⊕ (List Action) × Int)}, True := fun {_} => trivial
    simp only [Int.toNat_natCast]
    cases hp : pick (d.take n) with
    | none =>
      simp only
      refine loopO_inr ?_
      simp only [g22]
      rw [opt_t (by simp [h0]), opt_f (by simp; omega), opt_chk (by omega), opt_get ea, opt_chk (by omega), opt_chk (by omega), opt_get eb, or_len, ← el, hn, opt_f (by simp; omega), opt_f (by simp; omega), opt_chk (by omega), opt_get (by rw [List.drop_zero, Int.toNat_natCast]; exact hs), opt_get hr]
      cases hf : f15 (seemsS (d.take n)) with
      | false => rw [opt_t (by rfl), opt_ret]
      | true =>
        have hR := (right_iff _).1 hf
        have hne : bytesOf (seemsS (d.take n)) ≠ d.take n := fun e => pick_none hp _ ⟨hR, seems_wf _, e⟩
        rw [opt_f (by rfl), opt_get (laid_eq _ (seems_wf _) hR), opt_chk (by omega), opt_t (by simpa using hne), opt_ret]
    | some c =>
      simp only
      have hg := pick_some hp
      have hc := good_seems hg
      rw [hc] at hs hr
      have hf : f15 c = true := (right_iff _).2 hg.1
      rw [hf] at hr
      by_cases h32 : out.length = 32
      · rw [if_pos h32]
        refine loopO_inr ?_
        simp only [g22]
        rw [opt_t (by simp [h0]), opt_f (by simp; omega), opt_chk (by omega), opt_get ea, opt_chk (by omega), opt_chk (by omega), opt_get eb, or_len, ← el, hn, opt_f (by simp; omega), opt_f (by simp; omega), opt_chk (by omega), opt_get (by rw [List.drop_zero, Int.toNat_natCast]; exact hs), opt_get hr,
          opt_f (by rfl), opt_get (laid_eq _ hg.2.1 hg.1), opt_chk (by omega), opt_f (by simpa using hg.2.2), opt_t (by simp; omega), opt_ret]
      · rw [if_neg h32]
        refine loopO_inl (s' := .h0 (d.drop n) (out ++ [c])) ?_ (ih _ _ (by simp; omega) (by simp; omega) (by simp; omega))
        simp only [g22]
        rw [opt_t (by simp [h0]), opt_f (by simp; omega), opt_chk (by omega), opt_get ea, opt_chk (by omega), opt_chk (by omega), opt_get eb, or_len, ← el, hn, opt_f (by simp; omega), opt_f (by simp; omega), opt_chk (by omega), opt_get (by rw [List.drop_zero, Int.toNat_natCast]; exact hs), opt_get hr,
          opt_f (by rfl), opt_get (laid_eq _ hg.2.1 hg.1), opt_chk (by omega), opt_f (by simpa using hg.2.2), opt_f (by simp; omega), opt_chk (by simp), opt_chk (by simp; omega), opt_chk (by omega), opt_chk trivial, opt_ret]
        simp

theorem loop23 : ∀ (k : Nat) (d : List UInt8) (out : List Action), d.length < k → d.length ≤ 1000000 → out.length ≤ 32 → loopO g23 (.h0 d out) = some (dec k d out) := by
  intro k
  induction k with
  | zero => intro d out h _ _; omega
  | succ k ih =>
    intro d out hk hm ho
    unfold dec
    by_cases h0 : d = []
    · rw [if_pos h0]
      refine loopO_inr ?_
      simp only [g23]
      rw [opt_f (by simp [h0]), opt_chk (by omega), opt_ret]
      simp
    rw [if_neg h0]
    by_cases h4 : d.length < 4
    · rw [if_pos h4]
      refine loopO_inr ?_
      simp only [g23]
      rw [opt_t (by simp [h0]), opt_t (by simp; omega), opt_ret]
    rw [if_neg h4]
    have hbd := lenOf_bd (d := d) (by omega)
    have e50 : f50 (List.drop 2 (List.take 4 d)) = some (lenOf d) := by
      rw [f50_eq _ (by simp; omega)]
      unfold lenOf
      congr 2
      rw [List.drop_take]
    have hw : IntKind.i64.wrap (lenOf d) = lenOf d := w64 (by omega) (by omega)
    by_cases hl : (d.length : Int) < lenOf d
    · rw [if_pos hl]
      refine loopO_inr ?_
      simp only [g23]
      rw [opt_t (by simp [h0]), opt_f (by simp; omega), opt_chk (by omega), opt_chk (by omega), opt_get e50, hw, opt_t (by simp only [decide_eq_true_eq]; exact hl), opt_ret]
    rw [if_neg hl]
    by_cases h8 : lenOf d < 8
    · rw [if_pos h8]
      refine loopO_inr ?_
      simp only [g23]
      rw [opt_t (by simp [h0]), opt_f (by simp; omega), opt_chk (by omega), opt_chk (by omega), opt_get e50, hw, opt_f (by simp only [decide_eq_false_iff_not]; exact hl), opt_t (by simp only [decide_eq_true_eq]; exact h8), opt_ret]
    rw [if_neg h8]
    obtain ⟨n, hn⟩ := Int.eq_ofNat_of_zero_le hbd.1
    rw [hn] at hl h8 hbd hw e50
    rw [hn]
    have hlen : (d.take n).length = n := by simp; omega
    have hs := f51_eq (d.take n) (by omega) (by omega)
    simp only [Int.toNat_natCast]
    cases hp : pick (d.take n) with
    | none =>
      simp only
      refine loopO_inr ?_
      simp only [g23]
      rw [opt_t (by simp [h0]), opt_f (by simp; omega), opt_chk (by omega), opt_chk (by omega), opt_get e50, hw, opt_f (by simp; omega), opt_f (by simp; omega), opt_chk (by omega), opt_get (by rw [List.drop_zero, Int.toNat_natCast]; exact hs)]
      cases hf : f15 (oneS (d.take n)) with
      | false => rw [opt_t (by rfl), opt_ret]
      | true =>
        have hR := (right_iff _).1 hf
        have hne : bytesOf (oneS (d.take n)) ≠ d.take n := fun e => pick_none hp _ ⟨hR, one_wf _, e⟩
        rw [opt_f (by rfl), opt_get (ref_eq _ (one_wf _) hR), opt_chk (by omega), opt_t (by simpa using hne), opt_ret]
    | some c =>
      simp only
      have hg := pick_some hp
      have hc := good_one hg
      rw [hc] at hs
      have hf : f15 c = true := (right_iff _).2 hg.1
      by_cases h32 : out.length = 32
      · rw [if_pos h32]
        refine loopO_inr ?_
        simp only [g23]
        rw [opt_t (by simp [h0]), opt_f (by simp; omega), opt_chk (by omega), opt_chk (by omega), opt_get e50, hw, opt_f (by simp; omega), opt_f (by simp; omega), opt_chk (by omega), opt_get (by rw [List.drop_zero, Int.toNat_natCast]; exact hs),
          opt_f (by simp [hf]), opt_get (ref_eq _ hg.2.1 hg.1), opt_chk (by omega), opt_f (by simpa using hg.2.2), opt_chk (by simp), opt_chk (by simp; omega), opt_chk (by omega), opt_t (by simp; omega), opt_ret]
      · rw [if_neg h32]
        refine loopO_inl (s' := .h0 (d.drop n) (out ++ [c])) ?_ (ih _ _ (by simp; omega) (by simp; omega) (by simp; omega))
        simp only [g23]
        rw [opt_t (by simp [h0]), opt_f (by simp; omega), opt_chk (by omega), opt_chk (by omega), opt_get e50, hw, opt_f (by simp; omega), opt_f (by simp; omega), opt_chk (by omega), opt_get (by rw [List.drop_zero, Int.toNat_natCast]; exact hs),
          opt_f (by simp [hf]), opt_get (ref_eq _ hg.2.1 hg.1), opt_chk (by omega), opt_f (by simpa using hg.2.2), opt_chk (by simp), opt_chk (by simp; omega), opt_chk (by omega), opt_f (by simp; omega), opt_chk trivial, opt_ret]
        simp

noncomputable def decode (d : List UInt8) : List Action × Int := dec (d.length + 1) d []

theorem f22_eq (d : List UInt8) (hm : d.length ≤ 1000000) : f22 d = some (decode d) := by
  refine runO_inl (s' := .h0 d []) ?_ (loop22 _ d [] (by omega) hm (by simp))
  simp only [s22]
  rw [opt_chk (by rfl), opt_ret]
theorem f23_eq (d : List UInt8) (hm : d.length ≤ 1000000) : f23 d = some (decode d) := by
  refine runO_inl (s' := .h0 d []) ?_ (loop23 _ d [] (by omega) hm (by simp))
  simp only [s23]
  rw [opt_chk (by rfl), opt_ret]

theorem same_self (l : List Action) (hl : l.length ≤ 1000000) : f16 l l = some true := by
  have h : ∀ (k i : Nat), i + k = l.length → loopO g16 (.h0 l l i) = some true := by
    intro k
    induction k with
    | zero =>
      intro i hi
      refine loopO_inr ?_
      simp only [g16]
      rw [opt_f (by simp; omega), opt_ret]
    | succ k ih =>
      intro i hi
      have hi' : i < l.length := by omega
      refine loopO_inl (s' := .h0 l l ((i + 1 : Nat) : Int)) ?_ (ih (i + 1) (by omega))
      simp only [g16]
      rw [opt_t (by simp; omega), opt_chk (by omega), opt_get (nthE hi'), opt_chk (by omega), opt_get (nthE hi'), opt_f (by simp), opt_ret, wsucc (by omega)]
  refine runO_inl (s' := .h0 l l ((0 : Nat) : Int)) ?_ (h l.length 0 (by omega))
  simp only [s16]
  rw [opt_f (by simp), opt_ret]
  rfl

theorem dec_len : ∀ (k : Nat) (d : List UInt8) (out : List Action), out.length ≤ 32 → (dec k d out).1.length ≤ 32 := by
  intro k
  induction k with
  | zero => intro d out h; exact h
  | succ k ih =>
    intro d out h
    unfold dec
    repeat' split
    all_goals first | exact h | (simp; done) | (refine ih _ _ ?_; simp; omega)

/-- ActDecodes. -/
theorem law8 (d : List UInt8) (hw : wf_9 d) : f8 d = some true := by
  unfold f8 u8
  by_cases h : 2000 < d.length
  · rw [opt_t (by simp; omega), opt_ret]
  · have hl : (decode d).1.length ≤ 32 := dec_len _ _ _ (by simp)
    rw [opt_f (by simp; omega), opt_get (f22_eq d (by omega)), opt_get (f23_eq d (by omega)), opt_get (same_self _ (by omega)), opt_t rfl, opt_t (by simp), opt_ret]

end Go.Proofs.Act

/-
  The plain part: what is encoded is decoded, and what is decoded is encoded again.
-/
namespace Go.Proofs.Act
open Go Go.Ab
set_option linter.unusedVariables false
set_option linter.unusedSimpArgs false
set_option maxRecDepth 100000

theorem lenOf_bytes (c : Action) (h : RightA c) (r : List UInt8) : lenOf (bytesOf c ++ r) = (bytesOf c).length := by
  have L2 : ∀ v, (be v 2).length = 2 := fun v => be_length v 2
  have L4 : ∀ v, (be v 4).length = 4 := fun v => be_length v 4
  have n16 : num [0, 16] = 16 := by decide
  have n8 : num [0, 8] = 8 := by decide
  unfold lenOf
  cases h <;> simp_all [bytesOf]

theorem good_bytes (c : Action) (h : RightA c) (hw : wfA c) : Good (bytesOf c) c := ⟨h, hw, rfl⟩

theorem dec_enc : ∀ (l : List Action) (k : Nat) (out : List Action), (∀ a ∈ l, RightA a ∧ wfA a) → (l.flatMap bytesOf).length < k → out.length + l.length ≤ 32 → dec k (l.flatMap bytesOf) out = (out ++ l, 0) := by
  intro l
  induction l with
  | nil =>
    intro k out _ hk _
    obtain ⟨k, rfl⟩ : ∃ m, k = m + 1 := ⟨k - 1, by omega⟩
    unfold dec
    simp
  | cons a l ih =>
    intro k out hr hk ho
    obtain ⟨k, rfl⟩ : ∃ m, k = m + 1 := ⟨k - 1, by omega⟩
    have ⟨ha, hw⟩ := hr a (by simp)
    have hl := bytesOf_len a ha
    have hlen : lenOf ((a :: l).flatMap bytesOf) = (bytesOf a).length := lenOf_bytes a ha _
    have h8 : 8 ≤ (bytesOf a).length := by rw [hl]; split <;> omega
    unfold dec
    rw [hlen]
    simp only [List.flatMap_cons, Int.toNat_natCast, List.take_left, List.drop_left] at hk ⊢
    rw [if_neg (by intro e; have := congrArg List.length e; simp at this; have := this.1; rw [this] at h8; simp at h8), if_neg (by simp; omega), if_neg (by simp; omega), if_neg (by omega), pick_good (good_bytes a ha hw)]
    simp only
    simp only [List.length_cons] at ho
    rw [if_neg (by omega), ih k (out ++ [a]) (fun b hb => hr b (by simp [hb])) (by simp at hk ⊢; omega) (by simp; omega)]
    simp

theorem enc_dec : ∀ (k : Nat) (d : List UInt8) (out : List Action), d.length < k → out.length ≤ 32 →
    ((dec k d out).2 ≠ 0 ∧ (dec k d out).1 = []) ∨ ((dec k d out).2 = 0 ∧ ∃ t, (dec k d out).1 = out ++ t ∧ (∀ a ∈ t, RightA a ∧ wfA a) ∧ t.flatMap bytesOf = d ∧ (out ++ t).length ≤ 32) := by
  intro k
  induction k with
  | zero => intro d out h _; omega
  | succ k ih =>
    intro d out hk ho
    unfold dec
    by_cases h0 : d = []
    · rw [if_pos h0]
      exact .inr ⟨rfl, [], by simp, by simp, by simp [h0], by simpa using ho⟩
    rw [if_neg h0]
    by_cases h4 : d.length < 4
    · rw [if_pos h4]; exact .inl ⟨by decide, rfl⟩
    rw [if_neg h4]
    by_cases hl : (d.length : Int) < lenOf d
    · rw [if_pos hl]; exact .inl ⟨by decide, rfl⟩
    rw [if_neg hl]
    by_cases h8 : lenOf d < 8
    · rw [if_pos h8]; exact .inl ⟨by decide, rfl⟩
    rw [if_neg h8]
    have hbd := lenOf_bd (d := d) (by omega)
    obtain ⟨n, hn⟩ := Int.eq_ofNat_of_zero_le hbd.1
    rw [hn] at hl h8 hbd ⊢
    simp only [Int.toNat_natCast]
    cases hp : pick (d.take n) with
    | none => exact .inl ⟨by simp, rfl⟩
    | some c =>
      simp only
      have hg := pick_some hp
      by_cases h32 : out.length = 32
      · rw [if_pos h32]; exact .inl ⟨by decide, rfl⟩
      · rw [if_neg h32]
        rcases ih (d.drop n) (out ++ [c]) (by simp; omega) (by simp; omega) with h | ⟨h1, t, h2, h3, h4, h5⟩
        · exact .inl h
        · refine .inr ⟨h1, c :: t, by simpa using h2, ?_, ?_, by simpa using h5⟩
          · intro a ha
            rcases List.mem_cons.1 ha with rfl | ha
            · exact ⟨hg.1, hg.2.1⟩
            · exact h3 a ha
          · rw [List.flatMap_cons, hg.2.2, h4, List.take_append_drop]

theorem all_right {l : List Action} : l.all f15 = true ↔ ∀ a ∈ l, RightA a := by
  rw [List.all_eq_true]
  exact ⟨fun h a ha => (right_iff a).1 (h a ha), fun h a ha => (right_iff a).2 (h a ha)⟩

theorem flat_len (l : List Action) : (l.flatMap bytesOf).length ≤ 16 * l.length := by
  induction l with
  | nil => simp
  | cons a l ih => have := bytesOf_le a; simp only [List.flatMap_cons, List.length_append, List.length_cons]; omega

theorem second (d : List UInt8) (hd : d.length ≤ 2000) :
    ((decode d).2 ≠ 0 ∧ (decode d).1 = []) ∨ ((decode d).2 = 0 ∧ f12 (decode d).1 = some (d, 0)) := by
  unfold decode
  rcases enc_dec (d.length + 1) d [] (by omega) (by simp) with h | ⟨h1, t, h2, h3, h4, h5⟩
  · exact .inl h
  · refine .inr ⟨h1, ?_⟩
    rw [h2, List.nil_append]
    rw [List.nil_append] at h5
    rw [f12_eq (by omega) (fun a ha => (h3 a ha).2)]
    unfold enc
    rw [if_pos (all_right.2 fun a ha => (h3 a ha).1), if_neg (by omega), h4]

/-- ActBack. -/
theorem back (l : List Action) (d : List UInt8) (hw : ∀ a ∈ l, wfA a) : f9 l d = some true := by
  unfold f9 u9
  by_cases h : 60 < l.length
  · rw [opt_t (by simp; omega), opt_ret]
  by_cases h' : 2000 < d.length
  · rw [opt_f (by simp; omega), opt_t (by simp; omega), opt_ret]
  rw [opt_f (by simp; omega), opt_f (by simp; omega), opt_get (f12_eq (by omega) hw)]
  have hd := f22_eq d (by omega)
  have hs := second d (by omega)
  unfold enc
  by_cases hr : l.all f15 = true
  · rw [if_pos hr]
    by_cases h32 : 32 < l.length
    · rw [if_pos h32, opt_f (by rfl), opt_f (by rfl), opt_get hd]
      rcases hs with ⟨h1, h2⟩ | ⟨h1, h2⟩
      · rw [opt_t (by simp [h1]), opt_t (by simp [h2]), opt_ret]
      · rw [opt_f (by simp [h1]), opt_get h2, opt_t (by rfl), opt_t (by simp), opt_ret]
    · have hfl := flat_len l
      have hde : decode (l.flatMap bytesOf) = (l, 0) := by
        unfold decode
        rw [dec_enc l _ [] (fun a ha => ⟨all_right.1 hr a ha, hw a ha⟩) (by omega) (by simp; omega)]; rfl
      rw [if_neg h32, opt_t (by rfl), opt_get (f22_eq (l.flatMap bytesOf) (by omega)), hde, opt_f (by rfl), opt_get (same_self l (by omega)), opt_f (by rfl), opt_get hd]
      rcases hs with ⟨h1, h2⟩ | ⟨h1, h2⟩
      · rw [opt_t (by simp [h1]), opt_t (by simp [h2]), opt_ret]
      · rw [opt_f (by simp [h1]), opt_get h2, opt_t (by rfl), opt_t (by simp), opt_ret]
  · rw [if_neg hr, opt_f (by rfl), opt_f (by rfl), opt_get hd]
    rcases hs with ⟨h1, h2⟩ | ⟨h1, h2⟩
    · rw [opt_t (by simp [h1]), opt_t (by simp [h2]), opt_ret]
    · rw [opt_f (by simp [h1]), opt_get h2, opt_t (by rfl), opt_t (by simp), opt_ret]

theorem law9 (l : List Action) (d : List UInt8) (h : wf_22 l) (hw : wf_9 d) : f9 l d = some true := back l d fun a ha => wfA_of (h.2 a ha)

end Go.Proofs.Act

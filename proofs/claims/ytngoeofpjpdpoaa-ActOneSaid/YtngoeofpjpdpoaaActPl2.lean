/- A part of the proof of ActOne: ActPl2. -/
import Derived.Test.YtngoeofpjpdpoaaActPl1
set_option linter.constructorNameAsVariable false
/-
  The plain part: which actions are right, and what their bytes are.
-/
namespace Go.Proofs.Act
open Go Go.Ab
set_option linter.unusedVariables false
set_option linter.unusedSimpArgs false
set_option maxRecDepth 100000

def wfA (a : Action) : Prop := 0 ≤ a.Value ∧ a.Value < 18446744073709551616

theorem fieldsV (f : Int) : (f = 3 ∨ f = 5 ∨ f = 6 ∨ f = 8 ∨ f = 9) ∨ (f ≠ 3 ∧ f ≠ 5 ∧ f ≠ 6 ∧ f ≠ 8 ∧ f ≠ 9) := by omega

theorem f33_ok (f : Int) : 0 ≤ f33 f := by
  unfold f33 u33
  simp only [tot_ite, tot_ret]
  repeat' (split; omega)
  omega

theorem right_same (a : Action) (h : wfA a) : f14 a = some (f15 a) := by
  obtain ⟨h1, h2⟩ := h
  unfold f14 u14 f15 u15
  simp only [opt_ite, tot_ite, tot_ret, opt_ret, opt_chk', fdivp, bits64]
  have key : (a.Value / 4294967296 = 0) ↔ a.Value ≤ 4294967295 := by omega
  by_cases k1 : a.Kind = 1
  · by_cases f0 : a.Field = 0 <;> by_cases v1 : 1 ≤ a.Value <;> simp [k1, f0, v1, key]
  by_cases k2 : a.Kind = 2
  · by_cases f0 : a.Field = 0 <;> by_cases v1 : 1 ≤ a.Value <;> simp [k2, f0, v1, key]
  by_cases k3 : a.Kind = 3
  · by_cases f0 : a.Field = 0 <;> simp [k3, f0]
  by_cases k4 : a.Kind = 4
  · by_cases f0 : a.Field = 0 <;> simp [k4, f0]
  by_cases k5 : a.Kind = 5
  · rcases fieldsV a.Field with (f | f | f | f | f) | ⟨n3, n5, n6, n8, n9⟩
    · simp [k5, f, f32, u32, f33, u33, tot_ite, tot_ret]; (repeat' split) <;> (try omega) <;> simp <;> omega
    · simp [k5, f, f32, u32, f33, u33, tot_ite, tot_ret]; (repeat' split) <;> (try omega) <;> simp <;> omega
    · simp [k5, f, f32, u32, f33, u33, tot_ite, tot_ret]; (repeat' split) <;> (try omega) <;> simp <;> omega
    · simp [k5, f, f32, u32, f33, u33, tot_ite, tot_ret]; (repeat' split) <;> (try omega) <;> simp <;> omega
    · simp [k5, f, f32, u32, f33, u33, tot_ite, tot_ret]; (repeat' split) <;> (try omega) <;> simp <;> omega
    · simp [k5, n3, n5, n6, n8, n9, f32, u32, tot_ite, tot_ret]
  · simp [k1, k2, k3, k4, k5]

/-- What a right action is. -/
inductive RightA : Action → Prop
  | out {a} (k : a.Kind = 1) (f : a.Field = 0) (h1 : 1 ≤ a.Value) (h2 : a.Value < 4294967296) : RightA a
  | grp {a} (k : a.Kind = 2) (f : a.Field = 0) (h1 : 1 ≤ a.Value) (h2 : a.Value < 4294967296) : RightA a
  | psh {a} (k : a.Kind = 3) (f : a.Field = 0) (h1 : a.Value = 0) : RightA a
  | pop {a} (k : a.Kind = 4) (f : a.Field = 0) (h1 : a.Value = 0) : RightA a
  | vlan {a} (k : a.Kind = 5) (f : a.Field = 3) (h1 : 4096 ≤ a.Value) (h2 : a.Value < 8192) : RightA a
  | src {a} (k : a.Kind = 5) (f : a.Field = 5) (h1 : a.Value < 4294967296) : RightA a
  | dst {a} (k : a.Kind = 5) (f : a.Field = 6) (h1 : a.Value < 4294967296) : RightA a
  | sp {a} (k : a.Kind = 5) (f : a.Field = 8) (h1 : a.Value < 65536) : RightA a
  | dp {a} (k : a.Kind = 5) (f : a.Field = 9) (h1 : a.Value < 65536) : RightA a

theorem right_iff (a : Action) : f15 a = true ↔ RightA a := by
  unfold f15 u15
  simp only [tot_ite, tot_ret]
  constructor
  · intro h
    by_cases k1 : a.Kind = 1
    · simp [k1] at h; obtain ⟨x, y, z⟩ := h
      exact .out k1 x y (by omega)
    by_cases k2 : a.Kind = 2
    · simp [k2] at h; obtain ⟨x, y, z⟩ := h
      exact .grp k2 x y (by omega)
    by_cases k3 : a.Kind = 3
    · simp [k3] at h; exact .psh k3 h.1 h.2
    by_cases k4 : a.Kind = 4
    · simp [k4] at h; exact .pop k4 h.1 h.2
    by_cases k5 : a.Kind = 5
    · rcases fieldsV a.Field with (f | f | f | f | f) | ⟨n3, n5, n6, n8, n9⟩
      · simp [k5, f] at h; exact .vlan k5 f h.1 (by omega)
      · simp [k5, f] at h; exact .src k5 f (by omega)
      · simp [k5, f] at h; exact .dst k5 f (by omega)
      · simp [k5, f] at h; exact .sp k5 f (by omega)
      · simp [k5, f] at h; exact .dp k5 f (by omega)
      · simp [k5, n3, n5, n6, n8, n9] at h
    · simp [k1, k2, k3, k4, k5] at h
  · intro h
    cases h <;> simp_all <;> omega

def bytesOf (a : Action) : List UInt8 :=
  if a.Kind = 1 then [0, 0, 0, 16] ++ be a.Value 4 ++ [255, 255, 0, 0, 0, 0, 0, 0]
  else if a.Kind = 2 then [0, 22, 0, 8] ++ be a.Value 4
  else if a.Kind = 3 then [0, 17, 0, 8, 129, 0, 0, 0]
  else if a.Kind = 4 then [0, 18, 0, 8, 0, 0, 0, 0]
  else if a.Field = 3 then [0, 25, 0, 16, 128, 0, 12, 2] ++ be a.Value 2 ++ [0, 0, 0, 0, 0, 0]
  else if a.Field = 5 then [0, 25, 0, 16, 128, 0, 22, 4] ++ be a.Value 4 ++ [0, 0, 0, 0]
  else if a.Field = 6 then [0, 25, 0, 16, 128, 0, 24, 4] ++ be a.Value 4 ++ [0, 0, 0, 0]
  else if a.Field = 8 then [0, 25, 0, 16, 128, 0, 26, 2] ++ be a.Value 2 ++ [0, 0, 0, 0, 0, 0]
  else [0, 25, 0, 16, 128, 0, 28, 2] ++ be a.Value 2 ++ [0, 0, 0, 0, 0, 0]

theorem be_0_2 : be 0 2 = [0, 0] := by decide
theorem be_0_4 : be 0 4 = [0, 0, 0, 0] := by decide
theorem be_0_6 : be 0 6 = [0, 0, 0, 0, 0, 0] := by decide

theorem f57_c (n : Int) (k : Nat) (l : List UInt8) (h1 : 1 ≤ k) (h2 : k ≤ 8) (h3 : k < 8 → n.fdiv ((2 : Int) ^ (8 * k)) ≤ 0) (h : be n k = l) : f57 n k = some l := by rw [← h]; exact f57_eq n k h1 h2 h3

theorem p0_2 : f57 0 2 = some [0, 0] := f57_c 0 2 _ (by omega) (by omega) (by decide) (by decide)
theorem p0_4 : f57 0 4 = some [0, 0, 0, 0] := f57_c 0 4 _ (by omega) (by omega) (by decide) (by decide)
theorem p0_6 : f57 0 6 = some [0, 0, 0, 0, 0, 0] := f57_c 0 6 _ (by omega) (by omega) (by decide) (by decide)
theorem p16_2 : f57 16 2 = some [0, 16] := f57_c 16 2 _ (by omega) (by omega) (by decide) (by decide)
theorem p8_2 : f57 8 2 = some [0, 8] := f57_c 8 2 _ (by omega) (by omega) (by decide) (by decide)
theorem p22_2 : f57 22 2 = some [0, 22] := f57_c 22 2 _ (by omega) (by omega) (by decide) (by decide)
theorem p17_2 : f57 17 2 = some [0, 17] := f57_c 17 2 _ (by omega) (by omega) (by decide) (by decide)
theorem p18_2 : f57 18 2 = some [0, 18] := f57_c 18 2 _ (by omega) (by omega) (by decide) (by decide)
theorem p25_2 : f57 25 2 = some [0, 25] := f57_c 25 2 _ (by omega) (by omega) (by decide) (by decide)
theorem p_1 (n : Int) (l : List UInt8) (h0 : 0 ≤ n) (h : n < 256) (hl : be n 1 = l) : f57 n 1 = some l := f57_c n 1 _ (by omega) (by omega) (by intro _; rw [fdivp]; omega) hl
theorem pv4 {v : Int} (h1 : 0 ≤ v) (h : v < 4294967296) : f57 v 4 = some (be v 4) := f57_c v 4 _ (by omega) (by omega) (by intro _; rw [fdivp]; omega) rfl
theorem pv2 {v : Int} (h1 : 0 ≤ v) (h : v < 65536) : f57 v 2 = some (be v 2) := f57_c v 2 _ (by omega) (by omega) (by intro _; rw [fdivp]; omega) rfl

theorem rep_eq (k : Nat) (hk : k ≤ 8) : f58 [(0 : UInt8)] (k : Int) = some (List.replicate k 0) := by
  unfold f58
  rw [opt_chk (by simp; omega), opt_ret]
  unfold repB
  simp only [Int.toNat_natCast]
  congr 1
  clear hk
  induction k with
  | zero => rfl
  | succ k ih => simp [Lib.repeatL, List.replicate_succ, ih]

theorem laid_eq (a : Action) (hw : wfA a) (h : RightA a) : f29 a = some (bytesOf a) := by
  obtain ⟨h1, h2⟩ := hw
  unfold f29 u29
  have L2 : ∀ v, (be v 2).length = 2 := fun v => be_length v 2
  have L4 : ∀ v, (be v 4).length = 4 := fun v => be_length v 4
  cases h with
  | out k f v1 v2 =>
    rw [opt_t (by simp [k]), opt_get p0_2, opt_get p16_2, opt_chk (by simp), opt_get (pv4 h1 v2), opt_chk (by simp [L4]), opt_chk (by simp [L4]), opt_get p0_6, opt_chk (by simp [L4]), opt_ret]
    simp [bytesOf, k]
  | grp k f v1 v2 =>
    rw [opt_f (by simp [k]), opt_t (by simp [k]), opt_get p22_2, opt_get p8_2, opt_chk (by simp), opt_get (pv4 h1 v2), opt_chk (by simp [L4]), opt_ret]
    simp [bytesOf, k]
  | psh k f v =>
    rw [opt_f (by simp [k]), opt_f (by simp [k]), opt_t (by simp [k]), opt_get p17_2, opt_get p8_2, opt_chk (by simp), opt_chk (by simp), opt_ret]
    simp [bytesOf, k]
  | pop k f v =>
    rw [opt_f (by simp [k]), opt_f (by simp [k]), opt_f (by simp [k]), opt_t (by simp [k]), opt_get p18_2, opt_get p8_2, opt_chk (by simp), opt_get p0_4, opt_chk (by simp), opt_ret]
    simp [bytesOf, k]
  | vlan k f v1 v2 =>
    rw [opt_f (by simp [k]), opt_f (by simp [k]), opt_f (by simp [k]), opt_f (by simp [k]), opt_get p25_2, opt_get p16_2, opt_chk (by simp), opt_chk (by simp)]
    simp only [f, show f32 3 = (6, 2) from by decide]
    rw [opt_get (p_1 _ [12] (by decide) (by decide) (by decide)), opt_chk (by simp), opt_get (p_1 _ [2] (by decide) (by decide) (by decide)), opt_chk (by simp), opt_get (pv2 h1 (by omega)), opt_chk (by simp [L2]),
      opt_get (x := [0, 0, 0, 0, 0, 0]) (by simp only [List.length_append, L2, List.length_cons, List.length_nil]; exact rep_eq 6 (by omega)), opt_chk (by simp [L2]), opt_ret]
    simp [bytesOf, k, f]
  | src k f v =>
    rw [opt_f (by simp [k]), opt_f (by simp [k]), opt_f (by simp [k]), opt_f (by simp [k]), opt_get p25_2, opt_get p16_2, opt_chk (by simp), opt_chk (by simp)]
    simp only [f, show f32 5 = (11, 4) from by decide]
    rw [opt_get (p_1 _ [22] (by decide) (by decide) (by decide)), opt_chk (by simp), opt_get (p_1 _ [4] (by decide) (by decide) (by decide)), opt_chk (by simp), opt_get (pv4 h1 v), opt_chk (by simp [L4]),
      opt_get (x := [0, 0, 0, 0]) (by simp only [List.length_append, L4, List.length_cons, List.length_nil]; exact rep_eq 4 (by omega)), opt_chk (by simp [L4]), opt_ret]
    simp [bytesOf, k, f]
  | dst k f v =>
    rw [opt_f (by simp [k]), opt_f (by simp [k]), opt_f (by simp [k]), opt_f (by simp [k]), opt_get p25_2, opt_get p16_2, opt_chk (by simp), opt_chk (by simp)]
    simp only [f, show f32 6 = (12, 4) from by decide]
    rw [opt_get (p_1 _ [24] (by decide) (by decide) (by decide)), opt_chk (by simp), opt_get (p_1 _ [4] (by decide) (by decide) (by decide)), opt_chk (by simp), opt_get (pv4 h1 v), opt_chk (by simp [L4]),
      opt_get (x := [0, 0, 0, 0]) (by simp only [List.length_append, L4, List.length_cons, List.length_nil]; exact rep_eq 4 (by omega)), opt_chk (by simp [L4]), opt_ret]
    simp [bytesOf, k, f]
  | sp k f v =>
    rw [opt_f (by simp [k]), opt_f (by simp [k]), opt_f (by simp [k]), opt_f (by simp [k]), opt_get p25_2, opt_get p16_2, opt_chk (by simp), opt_chk (by simp)]
    simp only [f, show f32 8 = (13, 2) from by decide]
    rw [opt_get (p_1 _ [26] (by decide) (by decide) (by decide)), opt_chk (by simp), opt_get (p_1 _ [2] (by decide) (by decide) (by decide)), opt_chk (by simp), opt_get (pv2 h1 v), opt_chk (by simp [L2]),
      opt_get (x := [0, 0, 0, 0, 0, 0]) (by simp only [List.length_append, L2, List.length_cons, List.length_nil]; exact rep_eq 6 (by omega)), opt_chk (by simp [L2]), opt_ret]
    simp [bytesOf, k, f]
  | dp k f v =>
    rw [opt_f (by simp [k]), opt_f (by simp [k]), opt_f (by simp [k]), opt_f (by simp [k]), opt_get p25_2, opt_get p16_2, opt_chk (by simp), opt_chk (by simp)]
    simp only [f, show f32 9 = (14, 2) from by decide]
    rw [opt_get (p_1 _ [28] (by decide) (by decide) (by decide)), opt_chk (by simp), opt_get (p_1 _ [2] (by decide) (by decide) (by decide)), opt_chk (by simp), opt_get (pv2 h1 v), opt_chk (by simp [L2]),
      opt_get (x := [0, 0, 0, 0, 0, 0]) (by simp only [List.length_append, L2, List.length_cons, List.length_nil]; exact rep_eq 6 (by omega)), opt_chk (by simp [L2]), opt_ret]
    simp [bytesOf, k, f]

theorem setRef (a : Action) (k : a.Kind = 5) (c n : Int) (m j : Nat) (b : List UInt8) (hc : f60 a.Field = c) (hn : f61 a.Field = n) (hm : n = m) (hm8 : m ≤ 8) (hj : m + j = 8)
    (hb : [IntKind.u8.wrap (IntKind.i64.wrap (2 * c)), IntKind.u8.wrap n].map (fun (x : Int) => UInt8.ofNat x.toNat) = b) :
    f31 a = some ([0, 25, 0, 16, 128, 0] ++ b ++ be a.Value m ++ List.replicate j 0) := by
  subst hm
  have hbl : b.length = 2 := by rw [← hb]; simp
  have Lm : (be a.Value m).length = m := be_length _ _
  unfold f31 u31
  rw [opt_f (by simp [k]), opt_f (by simp [k]), opt_f (by simp [k]), opt_f (by simp [k])]
  rw [hc, hn]
  have e2 : List.map (fun (x : Int) => UInt8.ofNat x.toNat) (List.take 2 (List.drop 0 [IntKind.u8.wrap (IntKind.i64.wrap (2 * c)), IntKind.u8.wrap (m : Int)])) = b := by simpa using hb
  rw [e2]
  have e3 : ((16 : Int) - (↑([(0 : UInt8), (25 : UInt8), (0 : UInt8), (16 : UInt8), (128 : UInt8), (0 : UInt8)] ++ b ++ be a.Value m).length : Int)) = (j : Int) := by simp [hbl, Lm]; omega
  rw [opt_chk (by simp), opt_chk (by simp [hbl]), opt_get (f59_eq a.Value m hm8), opt_chk (by simp [hbl, Lm]; omega), e3, w64 (by omega) (by omega)]
  rw [opt_chk (by refine ⟨by omega, by omega, ?_⟩; simp; omega), opt_chk (by simp), opt_chk (by simp [hbl, Lm]; omega), opt_ret]
  simp

theorem ref_eq (a : Action) (hw : wfA a) (h : RightA a) : f31 a = some (bytesOf a) := by
  obtain ⟨h1, h2⟩ := hw
  have L4 : ∀ v, (be v 4).length = 4 := fun v => be_length v 4
  have set := setRef a
  have r4 : f59 a.Value 4 = some (be a.Value 4) := f59_eq a.Value 4 (by omega)
  cases h with
  | out k f v1 v2 =>
    unfold f31 u31
    rw [opt_t (by simp [k]), opt_get r4, opt_chk (by simp [L4]), opt_chk (by simp [L4]), opt_ret]
    simp [bytesOf, k]
  | grp k f v1 v2 =>
    unfold f31 u31
    rw [opt_f (by simp [k]), opt_t (by simp [k]), opt_get r4, opt_chk (by simp [L4]), opt_ret]
    simp [bytesOf, k]
  | psh k f v =>
    unfold f31 u31
    rw [opt_f (by simp [k]), opt_f (by simp [k]), opt_t (by simp [k]), opt_ret]
    simp [bytesOf, k]
  | pop k f v =>
    unfold f31 u31
    rw [opt_f (by simp [k]), opt_f (by simp [k]), opt_f (by simp [k]), opt_t (by simp [k]), opt_ret]
    simp [bytesOf, k]
  | vlan k f v1 v2 => rw [set k 6 2 2 6 [12, 2] (by rw [f]; decide) (by rw [f]; decide) rfl (by omega) (by omega) (by decide)]; simp [bytesOf, k, f, List.replicate]
  | src k f v => rw [set k 11 4 4 4 [22, 4] (by rw [f]; decide) (by rw [f]; decide) rfl (by omega) (by omega) (by decide)]; simp [bytesOf, k, f, List.replicate]
  | dst k f v => rw [set k 12 4 4 4 [24, 4] (by rw [f]; decide) (by rw [f]; decide) rfl (by omega) (by omega) (by decide)]; simp [bytesOf, k, f, List.replicate]
  | sp k f v => rw [set k 13 2 2 6 [26, 2] (by rw [f]; decide) (by rw [f]; decide) rfl (by omega) (by omega) (by decide)]; simp [bytesOf, k, f, List.replicate]
  | dp k f v => rw [set k 14 2 2 6 [28, 2] (by rw [f]; decide) (by rw [f]; decide) rfl (by omega) (by omega) (by decide)]; simp [bytesOf, k, f, List.replicate]

end Go.Proofs.Act

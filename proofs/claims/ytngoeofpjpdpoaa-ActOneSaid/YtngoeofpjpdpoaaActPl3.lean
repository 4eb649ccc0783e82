/- A part of the proof of ActOne: ActPl3. -/
import Derived.Test.YtngoeofpjpdpoaaActPl2
import Derived.Test.YtngoeofpjpdpoaaActDe
set_option linter.constructorNameAsVariable false
/-
  The plain part: which bytes actions are.
-/
namespace Go.Proofs.Act
open Go Go.Ab
set_option linter.unusedVariables false
set_option linter.unusedSimpArgs false
set_option maxRecDepth 100000

theorem bytesOf_le (a : Action) : (bytesOf a).length ≤ 16 := by
  have L2 : ∀ v, (be v 2).length = 2 := fun v => be_length v 2
  have L4 : ∀ v, (be v 4).length = 4 := fun v => be_length v 4
  unfold bytesOf
  repeat' split
  all_goals simp [L2, L4]

noncomputable def enc (l : List Action) : List UInt8 × Int :=
  if l.all f15 then if 32 < l.length then ([], 44) else (l.flatMap bytesOf, 0) else ([], 22)

theorem f27_eq (a : Action) (h : wfA a) : f27 a = some (!f15 a) := by
  unfold f27 u27; rw [opt_get (right_same a h), opt_ret]

variable {l : List Action}

theorem loop12_1 (hl : l.length ≤ 32) (hw : ∀ a ∈ l, wfA a) (hr : l.all f15 = true) : ∀ (k i : Nat) (bs : List UInt8), i + k = l.length → bs.length ≤ 16 * i →
    loopO g12 (.h1 l i bs.length (bs.map fun b => (↑b.toNat : Int))) = some (bs ++ (l.drop i).flatMap bytesOf, 0) := by
  intro k
  induction k with
  | zero =>
    intro i bs hi hb
    refine loopO_inr ?_
    simp only [g12]
    rw [opt_f (by simp; omega), opt_chk (by simp), opt_chk (by simp; omega), opt_ret, bytes_back]
    have : l.drop i = [] := by rw [List.drop_eq_nil_iff]; omega
    simp [this]
  | succ k ih =>
    intro i bs hi hb
    have hi' : i < l.length := by omega
    have hm := List.getElem_mem hi'
    have hra : f15 l[i] = true := by rw [List.all_eq_true] at hr; exact hr _ hm
    have hle := bytesOf_le l[i]
    have ih' := ih (i + 1) (bs ++ bytesOf l[i]) (by omega) (by simp; omega)
    rw [List.map_append] at ih'
    refine loopO_inl (s' := .h1 l ((i + 1 : Nat) : Int) (bs ++ bytesOf l[i]).length (bs.map (fun b => (↑b.toNat : Int)) ++ (bytesOf l[i]).map fun b => (↑b.toNat : Int))) ?_ (by rw [ih', flatE _ hi']; simp)
    simp only [g12]
    rw [opt_t (by simp; omega), opt_chk (by omega), opt_get (nthE hi'), opt_get (laid_eq _ (hw _ hm) ((right_iff _).1 hra))]
    rw [filterMap_some, opt_chk (by simp; omega), opt_chk (by simp), opt_ret, wsucc (by omega)]
    simp

theorem loop12_0 (h60 : l.length ≤ 60) (hw : ∀ a ∈ l, wfA a) : ∀ (k i : Nat), i + k = l.length → (l.take i).all f15 = true → loopO g12 (.h0 l i) = some (enc l) := by
  intro k
  induction k with
  | zero =>
    intro i hi ht
    have hall : l.all f15 = true := by rw [List.take_of_length_le (by omega)] at ht; exact ht
    by_cases h32 : 32 < l.length
    · refine loopO_inr ?_
      simp only [g12]
      rw [opt_f (by simp; omega), opt_f (by decide), opt_t (by simp; omega), opt_ret]
      simp [enc, hall, h32]
    · have := loop12_1 (by omega) hw hall l.length 0 [] (by omega) (by simp)
      refine loopO_inl (s' := .h1 l ((0 : Nat) : Int) ([] : List UInt8).length (([] : List UInt8).map fun b => (↑b.toNat : Int))) ?_ (by rw [this]; simp [enc, hall, h32])
      simp only [g12]
      rw [opt_f (by simp; omega), opt_f (by decide), opt_f (by simp; omega), opt_chk (by simp), opt_ret]
      simp
  | succ k ih =>
    intro i hi ht
    have hi' : i < l.length := by omega
    have hm := List.getElem_mem hi'
    cases hra : f15 l[i] with
    | true =>
      refine loopO_inl (s' := .h0 l ((i + 1 : Nat) : Int)) ?_ (ih (i + 1) (by omega) (by rw [List.take_succ_eq_append_getElem hi', List.all_append, ht]; simp [hra]))
      simp only [g12]
      rw [opt_t (by simp; omega), opt_chk (by omega), opt_get (nthE hi'), opt_get (f27_eq _ (hw _ hm)), opt_f (by simp [hra]), opt_ret, wsucc (by omega)]
    | false =>
      refine loopO_inr ?_
      simp only [g12]
      rw [opt_t (by simp; omega), opt_chk (by omega), opt_get (nthE hi'), opt_get (f27_eq _ (hw _ hm)), opt_t (by simp [hra]), opt_t (by simp), opt_ret]
      have : l.all f15 = false := by rw [List.all_eq_false]; exact ⟨_, hm, by simp [hra]⟩
      simp [enc, this]

theorem f12_eq (h60 : l.length ≤ 60) (hw : ∀ a ∈ l, wfA a) : f12 l = some (enc l) :=
  runO_inl (s' := .h0 l ((0 : Nat) : Int)) rfl (loop12_0 h60 hw l.length 0 (by omega) (by simp))

theorem loop13_1 (hl : l.length ≤ 32) (hw : ∀ a ∈ l, wfA a) (hr : l.all f15 = true) : ∀ (k i : Nat) (bs : List UInt8), i + k = l.length → bs.length ≤ 16 * i →
    loopO g13 (.h1 l i bs) = some (bs ++ (l.drop i).flatMap bytesOf, 0) := by
  intro k
  induction k with
  | zero =>
    intro i bs hi hb
    refine loopO_inr ?_
    simp only [g13]
    rw [opt_f (by simp; omega), opt_ret]
    have : l.drop i = [] := by rw [List.drop_eq_nil_iff]; omega
    simp [this]
  | succ k ih =>
    intro i bs hi hb
    have hi' : i < l.length := by omega
    have hm := List.getElem_mem hi'
    have hra : f15 l[i] = true := by rw [List.all_eq_true] at hr; exact hr _ hm
    have hle := bytesOf_le l[i]
    refine loopO_inl (s' := .h1 l ((i + 1 : Nat) : Int) (bs ++ bytesOf l[i])) ?_ (by rw [ih (i + 1) _ (by omega) (by simp; omega), flatE _ hi']; simp)
    simp only [g13]
    rw [opt_t (by simp; omega), opt_chk (by omega), opt_get (nthE hi'), opt_get (ref_eq _ (hw _ hm) ((right_iff _).1 hra)), opt_chk (by omega), opt_ret, wsucc (by omega)]

theorem loop13_0 (h60 : l.length ≤ 60) (hw : ∀ a ∈ l, wfA a) : ∀ (k i : Nat), i + k = l.length → (l.take i).all f15 = true → loopO g13 (.h0 l i) = some (enc l) := by
  intro k
  induction k with
  | zero =>
    intro i hi ht
    have hall : l.all f15 = true := by rw [List.take_of_length_le (by omega)] at ht; exact ht
    by_cases h32 : 32 < l.length
    · refine loopO_inr ?_
      simp only [g13]
      rw [opt_f (by simp; omega), opt_t (by simp; omega), opt_ret]
      simp [enc, hall, h32]
    · refine loopO_inl (s' := .h1 l ((0 : Nat) : Int) []) ?_ (by rw [loop13_1 (by omega) hw hall l.length 0 [] (by omega) (by simp)]; simp [enc, hall, h32])
      simp only [g13]
      rw [opt_f (by simp; omega), opt_f (by simp; omega), opt_ret]
      simp
  | succ k ih =>
    intro i hi ht
    have hi' : i < l.length := by omega
    have hm := List.getElem_mem hi'
    cases hra : f15 l[i] with
    | true =>
      refine loopO_inl (s' := .h0 l ((i + 1 : Nat) : Int)) ?_ (ih (i + 1) (by omega) (by rw [List.take_succ_eq_append_getElem hi', List.all_append, ht]; simp [hra]))
      simp only [g13]
      rw [opt_t (by simp; omega), opt_chk (by omega), opt_get (nthE hi'), opt_f (by simp [hra]), opt_ret, wsucc (by omega)]
    | false =>
      refine loopO_inr ?_
      simp only [g13]
      rw [opt_t (by simp; omega), opt_chk (by omega), opt_get (nthE hi'), opt_t (by simp [hra]), opt_ret]
      have : l.all f15 = false := by rw [List.all_eq_false]; exact ⟨_, hm, by simp [hra]⟩
      simp [enc, this]

theorem f13_eq (h60 : l.length ≤ 60) (hw : ∀ a ∈ l, wfA a) : f13 l = some (enc l) :=
  runO_inl (s' := .h0 l ((0 : Nat) : Int)) rfl (loop13_0 h60 hw l.length 0 (by omega) (by simp))

theorem loop3 (h60 : l.length ≤ 60) (hw : ∀ a ∈ l, wfA a) : ∀ (k i : Nat), i + k = l.length → loopO g3 (.h0 l i) = some true := by
  intro k
  induction k with
  | zero =>
    intro i hi
    refine loopO_inr ?_
    simp only [g3]
    rw [opt_f (by simp; omega), opt_ret]
  | succ k ih =>
    intro i hi
    have hi' : i < l.length := by omega
    have hm := List.getElem_mem hi'
    refine loopO_inl (s' := .h0 l ((i + 1 : Nat) : Int)) ?_ (ih (i + 1) (by omega))
    simp only [g3]
    rw [opt_t (by simp; omega), opt_chk (by omega), opt_get (nthE hi'), opt_get (right_same _ (hw _ hm)), opt_chk (by omega), opt_get (nthE hi'), opt_f (by simp), opt_ret, wsucc (by omega)]

/-- ActEncodes. -/
theorem encodes (l : List Action) (hw : ∀ a ∈ l, wfA a) : f3 l = some true := by
  by_cases h : 60 < l.length
  · refine runO_inr ?_
    simp only [s3]
    rw [opt_t (by simp; omega), opt_ret]
  · refine runO_inl (s' := .h0 l ((0 : Nat) : Int)) ?_ (loop3 (by omega) hw l.length 0 (by omega))
    simp only [s3]
    rw [opt_f (by simp; omega), opt_get (f12_eq (by omega) hw), opt_get (f13_eq (by omega) hw), opt_f (by simp), opt_f (by simp), opt_ret]
    rfl

theorem wfA_of {a : Action} (h : wf_31 a) : wfA a := by
  have : inK .u64 a.Value := h.2.2
  exact ⟨this.1, by have := this.2; omega⟩

theorem law3 (l : List Action) (h : wf_22 l) : f3 l = some true := encodes l fun a ha => wfA_of (h.2 a ha)

end Go.Proofs.Act

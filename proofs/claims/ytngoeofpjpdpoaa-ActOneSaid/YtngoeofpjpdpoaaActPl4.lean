/- A part of the proof of ActOne: ActPl4. -/
import Derived.Test.YtngoeofpjpdpoaaActPl3
set_option linter.constructorNameAsVariable false
/-
  The plain part: how many bytes an action has; a packet that it does not change stays.
-/
namespace Go.Proofs.Act
open Go Go.Ab
set_option linter.unusedVariables false
set_option linter.unusedSimpArgs false
set_option maxRecDepth 100000

theorem bytesOf_len (a : Action) (h : RightA a) : (bytesOf a).length = if a.Kind = 1 ∨ a.Kind = 5 then 16 else 8 := by
  have L2 : ∀ v, (be v 2).length = 2 := fun v => be_length v 2
  have L4 : ∀ v, (be v 4).length = 4 := fun v => be_length v 4
  cases h <;> simp_all [bytesOf]

theorem f20_same (s : field_Seen) (a : Action) (h : a.Kind = 1 ∨ a.Kind = 2) : f20 s a = some s := by
  unfold f20 u20
  rw [opt_f (by simp; omega), opt_f (by simp; omega), opt_f (by simp; omega), opt_f (by simp), opt_ret]

theorem law7 (a : Action) (s : field_Seen) (ha : wf_31 a) (hs : wf_41 s) : f7 a s = some true := by
  have hw : ∀ b ∈ [a], wfA b := by intro b hb; rw [List.mem_singleton.1 hb]; exact wfA_of ha
  have he := f12_eq (l := [a]) (by simp) hw
  have hr := right_same a (wfA_of ha)
  unfold f7 u7
  rw [opt_chk (by simp), opt_get (x := enc [a]) (by simpa using he)]
  cases h : f15 a with
  | false =>
    have e1 : enc [a] = ([], 22) := by simp [enc, h]
    rw [e1, opt_t (by simp), opt_get hr, opt_t (by simp [h]), opt_t (by simp), opt_ret]
  | true =>
    have e1 : enc [a] = (bytesOf a, 0) := by simp [enc, h]
    have hl := bytesOf_len a ((right_iff a).1 h)
    rw [e1, opt_f (by simp)]
    by_cases k1 : a.Kind = 1
    · rw [opt_t (by simp [k1]), opt_t (by simp [hl, k1]), opt_f (by simp [k1]), opt_get (f20_same s a (.inl k1)), opt_t (by simp), opt_ret]
    · rw [opt_f (by simp [k1])]
      by_cases k5 : a.Kind = 5
      · rw [opt_t (by simp [k5]), opt_t (by simp [hl, k5]), opt_t (by simp [k1]), opt_t (by simp [k5]), opt_ret]
      · rw [opt_f (by simp [k5]), opt_t (by simp [hl, k1, k5]), opt_t (by simp [k1])]
        by_cases k2 : a.Kind = 2
        · rw [opt_f (by simp [k2]), opt_get (f20_same s a (.inr k2)), opt_t (by simp), opt_ret]
        · rw [opt_t (by simp [k2]), opt_ret]

end Go.Proofs.Act

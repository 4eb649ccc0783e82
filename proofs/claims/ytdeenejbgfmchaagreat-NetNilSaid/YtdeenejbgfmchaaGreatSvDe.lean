/- A part of a law's proof: SvDe. -/
import Derived.Test.YtdeenejbgfmchaaGreatSvKnown
set_option linter.constructorNameAsVariable false
/-
  Data that come in, as typed values; and numbers.
-/
namespace Go.Ab
open Go Go.RowKit
set_option linter.unusedVariables false
set_option linter.unusedSimpArgs false
def inK : IntKind -> Int -> Prop
  | .i64, n => -9223372036854775808 <= n ∧ n <= 9223372036854775807
  | .u64, n => 0 <= n ∧ n <= 18446744073709551615
  | .i32, n => -2147483648 <= n ∧ n <= 2147483647
  | .u32, n => 0 <= n ∧ n <= 4294967295
  | .i16, n => -32768 <= n ∧ n <= 32767
  | .u16, n => 0 <= n ∧ n <= 65535
  | .i8, n => -128 <= n ∧ n <= 127
  | .u8, n => 0 <= n ∧ n <= 255
theorem inK_of {k : IntKind} {n : Int} (h : (Lit.int k n).wf = true) : inK k n := by
  simp only [Lit.wf, Bool.and_eq_true, decide_eq_true_eq] at h
  obtain ⟨h1, h2⟩ := h
  cases k <;> simp only [inK, IntKind.min, IntKind.max, IntKind.signed, IntKind.bits] at * <;> exact ⟨by simpa using h1, by simpa using h2⟩
section
variable {P : Program} {B : Nat} {d : Nat} {t : TypeId} {as : List AV}
theorem deInt {k : IntKind} (hu : P.underlying t = some (.int k)) (h : tyC P B (d + 1) t as) : ∃ n, as = [.v (.int k n)] ∧ inK k n := by
  simp only [tyC, hu] at h
  obtain ⟨n, h1, h2⟩ := h
  exact ⟨n, h1, inK_of h2⟩
theorem deStr (hu : P.underlying t = some .string) (h : tyC P B (d + 1) t as) : ∃ l : List UInt8, as = [.v (bytesV l)] ∧ l.length <= B := by
  simp only [tyC, hu] at h
  obtain ⟨s, h1, h2⟩ := h
  refine ⟨s.data.toList, ?_, by rw [Array.length_toList]; exact h2⟩
  rw [h1]
  unfold bytesV
  simp
theorem deOne {α : Type} {f : α -> List AV} {W : α -> Prop} {e : TypeId} (ha : isAggT P e = false) (hel : ∀ as, tyC P B d e as -> ∃ y, as = f y ∧ W y) (x : AV) :
    (if isAggT P e then ∃ cs, x = AV.agg cs ∧ tyC P B d e cs else tyC P B d e [x] ∧ x.isAgg = false) -> ∃ y, x = wrapA none (f y) ∧ W y := by
  rw [if_neg (by rw [ha]; simp)]
  rintro ⟨h, _⟩
  obtain ⟨y, h1, h2⟩ := hel [x] h
  exact ⟨y, by rw [<- h1]; rfl, h2⟩
theorem deV1 {α : Type} {f : α -> List AV} {W : α -> Prop} (ha : isAggT P t = false) (hel : ∀ as, tyC P B d t as -> ∃ y, as = f y ∧ W y) {x : AV} (h : tyV P B d t x) : ∃ y, x = wrapA none (f y) ∧ W y := deOne ha hel x (by unfold tyV at h; exact h)
end
end Go.Ab

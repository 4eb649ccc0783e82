/- A part of a law's proof: SvDe. -/
import Derived.Test.YtjkcjbkkgkhljaaSvKnown
set_option linter.constructorNameAsVariable false
/-
  Data that come in, as typed values; and numbers.
-/
namespace Go.Ab
open Go Go.RowKit
set_option linter.unusedVariables false
set_option linter.unusedSimpArgs false
def inK : IntKind -> Int -> Prop
  | .i64, n => -9223372036854775808 <= n ∧ n <= 9223372036854775807
  | .u64, n => 0 <= n ∧ n <= 18446744073709551615
  | .i32, n => -2147483648 <= n ∧ n <= 2147483647
  | .u32, n => 0 <= n ∧ n <= 4294967295
  | .i16, n => -32768 <= n ∧ n <= 32767
  | .u16, n => 0 <= n ∧ n <= 65535
  | .i8, n => -128 <= n ∧ n <= 127
  | .u8, n => 0 <= n ∧ n <= 255
theorem inK_of {k : IntKind} {n : Int} (h : (Lit.int k n).wf = true) : inK k n := by
  simp only [Lit.wf, Bool.and_eq_true, decide_eq_true_eq] at h
  obtain ⟨h1, h2⟩ := h
  cases k <;> simp only [inK, IntKind.min, IntKind.max, IntKind.signed, IntKind.bits] at * <;> exact ⟨by simpa using h1, by simpa using h2⟩
theorem wrap_in {k : IntKind} {n : Int} (h : inK k n) : k.wrap n = n := by
  cases k <;> simp only [inK, IntKind.wrap, IntKind.signed, IntKind.bits] at * <;> simp <;> omega
theorem wrap_i64 {n : Int} (h1 : -9223372036854775808 <= n) (h2 : n <= 9223372036854775807) : IntKind.i64.wrap n = n := wrap_in ⟨h1, h2⟩
theorem wrap_u64 {n : Int} (h1 : 0 <= n) (h2 : n <= 18446744073709551615) : IntKind.u64.wrap n = n := wrap_in ⟨h1, h2⟩
def fTypes (P : Program) (t : TypeId) : Option (List TypeId) :=
  match P.underlying t with
  | some (.struct fs) => some (fs.toList.map (·.type))
  | _ => none
def tyFs (rec : TypeId -> List AV -> Prop) : List TypeId -> List AV -> Prop
  | [], as => as = []
  | t :: ts, as => ∃ p q, as = p ++ q ∧ rec t p ∧ tyFs rec ts q
theorem tyF_tyFs {rec : TypeId -> List AV -> Prop} : ∀ {fs : List Field} {as : List AV}, tyF rec fs as -> tyFs rec (fs.map (·.type)) as := by
  intro fs
  induction fs with
  | nil => intro as h; exact h
  | cons f fs ih => intro as h; obtain ⟨p, q, h1, h2, h3⟩ := h; exact ⟨p, q, h1, h2, ih h3⟩
section
variable {P : Program} {B : Nat} {d : Nat} {t : TypeId} {as : List AV}
theorem deStruct {ts : List TypeId} (hf : fTypes P t = some ts) (h : tyC P B (d + 1) t as) : tyFs (tyC P B d) ts as := by
  unfold fTypes at hf
  simp only [tyC] at h
  split at hf
  · rename_i fs hu; cases hf; rw [hu] at h; exact tyF_tyFs h
  · cases hf
theorem deInt {k : IntKind} (hu : P.underlying t = some (.int k)) (h : tyC P B (d + 1) t as) : ∃ n, as = [.v (.int k n)] ∧ inK k n := by
  simp only [tyC, hu] at h
  obtain ⟨n, h1, h2⟩ := h
  exact ⟨n, h1, inK_of h2⟩
theorem list_typed {α : Type} {f : α -> AV} {W : α -> Prop} : ∀ {xs : List AV}, (∀ x ∈ xs, ∃ y, x = f y ∧ W y) -> ∃ ys : List α, xs = ys.map f ∧ ∀ y ∈ ys, W y := by
  intro xs
  induction xs with
  | nil => intro _; exact ⟨[], rfl, by simp⟩
  | cons x xs ih =>
    intro h
    obtain ⟨y, h1, h2⟩ := h x (by simp)
    obtain ⟨ys, h3, h4⟩ := ih fun x hx => h x (by simp [hx])
    exact ⟨y :: ys, by simp [h1, h3], fun z hz => by rcases List.mem_cons.1 hz with rfl | hz; exact h2; exact h4 z hz⟩
theorem deSlice {e : TypeId} {n : Nat} {α : Type} {f : α -> AV} {W : α -> Prop} (hu : P.underlying t = some (.slice e)) (hn : P.cellsOf e = n) (hb : decide (0 < P.bytesOf e) = true)
    (hel : ∀ x, (if isAggT P e then ∃ cs, x = AV.agg cs ∧ tyC P B d e cs else tyC P B d e [x] ∧ x.isAgg = false) -> ∃ y, x = f y ∧ W y) (h : tyC P B (d + 1) t as) :
    ∃ ys : List α, as = [.lst n (ys.map f)] ∧ ys.length <= B ∧ ∀ y ∈ ys, W y := by
  simp only [tyC, hu] at h
  obtain ⟨xs, h1, h2, h3, h4⟩ := h
  obtain ⟨ys, h5, h6⟩ := list_typed fun x hx => hel x (h4 x hx)
  refine ⟨ys, by rw [h1, hn, h5], ?_, h6⟩
  have hb := of_decide_eq_true hb
  have : xs.length * 1 <= xs.length * P.bytesOf e := Nat.mul_le_mul_left _ hb
  rw [h5] at h2 this
  simp at h2 this
  omega
theorem deAgg {α : Type} {f : α -> List AV} {W : α -> Prop} {e : TypeId} (ha : isAggT P e = true) (hel : ∀ as, tyC P B d e as -> ∃ y, as = f y ∧ W y) (x : AV) :
    (if isAggT P e then ∃ cs, x = AV.agg cs ∧ tyC P B d e cs else tyC P B d e [x] ∧ x.isAgg = false) -> ∃ y, x = .agg (f y) ∧ W y := by
  rw [if_pos ha]
  rintro ⟨cs, rfl, h⟩
  obtain ⟨y, rfl, h2⟩ := hel cs h
  exact ⟨y, rfl, h2⟩
theorem deOne {α : Type} {f : α -> List AV} {W : α -> Prop} {e : TypeId} (ha : isAggT P e = false) (hel : ∀ as, tyC P B d e as -> ∃ y, as = f y ∧ W y) (x : AV) :
    (if isAggT P e then ∃ cs, x = AV.agg cs ∧ tyC P B d e cs else tyC P B d e [x] ∧ x.isAgg = false) -> ∃ y, x = wrapA none (f y) ∧ W y := by
  rw [if_neg (by rw [ha]; simp)]
  rintro ⟨h, _⟩
  obtain ⟨y, h1, h2⟩ := hel [x] h
  exact ⟨y, by rw [<- h1]; rfl, h2⟩
theorem deV1 {α : Type} {f : α -> List AV} {W : α -> Prop} (ha : isAggT P t = false) (hel : ∀ as, tyC P B d t as -> ∃ y, as = f y ∧ W y) {x : AV} (h : tyV P B d t x) : ∃ y, x = wrapA none (f y) ∧ W y := deOne ha hel x (by unfold tyV at h; exact h)
end
end Go.Ab

/- A part of a law's proof: DfaR3. -/
import Derived.Test.YthhbggmlfilpdaaDoorDfaDe
import Derived.Test.YthhbggmlfilpdaaDoorDfaH3
import Derived.Test.YthhbggmlfilpdaaDoorDfaH4
import Derived.Test.YthhbggmlfilpdaaDoorDfaKey
import Derived.Test.YthhbggmlfilpdaaDoorDfaMod
import Derived.Test.YthhbggmlfilpdaaDoorSvPlain
set_option linter.constructorNameAsVariable false
/-
  Right machines in short; which machines are right; which are the same.
-/
namespace Go.Proofs.Dfa
open Go Go.Ab Go.ChangeShapes
set_option linter.unusedVariables false
set_option linter.unusedSimpArgs false
set_option maxRecDepth 100000
theorem getO {α : Type} {l : List α} {i : Nat} (h : i < l.length) : l[((i : Nat) : Int).toNat]? = some l[i] := by simp [h]
def nums (n : Nat) (g : Nat -> Nat) : List Int := (List.range n).map fun i => ((g i : Nat) : Int)
theorem nums_len (n : Nat) (g : Nat -> Nat) : (nums n g).length = n := by simp [nums]
theorem nums_get {n i : Nat} (g : Nat -> Nat) (h : i < n) : (nums n g)[((i : Nat) : Int).toNat]? = some ((g i : Nat) : Int) := by simp [nums, h]
theorem nums_get0 {n i : Nat} (g : Nat -> Nat) (h : i < n) : (nums n g)[(0 : Nat) + ((i : Nat) : Int).toNat]? = some ((g i : Nat) : Int) := by simp [nums, h]
theorem nums_congr {n : Nat} {g f : Nat -> Nat} (h : ∀ i, i < n -> g i = f i) : nums n g = nums n f := by
  unfold nums
  apply List.map_congr_left
  intro i hi
  rw [h i (List.mem_range.1 hi)]
theorem nums_set {n i : Nat} (g : Nat -> Nat) (h : i < n) (v : Nat) : (nums n g).set i (v : Int) = nums n fun j => if j = i then v else g j := by
  apply List.ext_getElem?
  intro j
  rw [List.getElem?_set]
  simp only [nums, List.getElem?_map, List.length_map, List.length_range]
  by_cases e : i = j
  · subst e
    rw [if_pos rfl, if_pos h, List.getElem?_range h]
    simp
  · rw [if_neg e]
    by_cases hj : j < n
    · rw [List.getElem?_range hj]
      simp only [Option.map_some]
      rw [if_neg (fun e' => e e'.symm)]
    · rw [List.getElem?_eq_none (by simp; omega)]; rfl
theorem nums_zero (n : Nat) : List.replicate n (0 : Int) = nums n fun _ => 0 := by
  unfold nums
  apply List.ext_getElem?
  intro j
  by_cases hj : j < n
  · simp [hj]
  · rw [List.getElem?_eq_none (by simp; omega), List.getElem?_eq_none (by simp; omega)]
def Ma.row (m : Ma) (i : Nat) : List Int := nums m.s (m.to i)
def Ma.dfa (m : Ma) : Dfa := ⟨(m.s : Int), (List.range m.n).map m.row, (List.range m.n).map m.e⟩
structure Ma.Fine (m : Ma) : Prop where
  ok : m.Ok
  n1 : 1 <= m.n
  n2 : m.n <= 256
  s1 : 1 <= m.s
  s2 : m.s <= 32
theorem Ma.row_len (m : Ma) (i : Nat) : (m.row i).length = m.s := nums_len _ _
theorem Ma.next_len (m : Ma) : m.dfa.Next.length = m.n := by simp [Ma.dfa]
theorem Ma.ends_len (m : Ma) : m.dfa.Ends.length = m.n := by simp [Ma.dfa]
theorem Ma.next_get {m : Ma} {i : Nat} (h : i < m.n) : m.dfa.Next[((i : Nat) : Int).toNat]? = some (m.row i) := by simp [Ma.dfa, h]
theorem Ma.ends_get {m : Ma} {i : Nat} (h : i < m.n) : m.dfa.Ends[((i : Nat) : Int).toNat]? = some (m.e i) := by simp [Ma.dfa, h]
theorem Ma.row_get {m : Ma} (i : Nat) {c : Nat} (h : c < m.s) : (m.row i)[((c : Nat) : Int).toNat]? = some ((m.to i c : Nat) : Int) := nums_get _ h
theorem Ma.sw (m : Ma) : m.dfa.Switches = (m.s : Int) := rfl
def goB (d : Dfa) (t : Int) : Bool := decide (0 <= t) && decide (t < (d.Next.length : Int))
def rowB (d : Dfa) (r : List Int) : Bool := decide ((r.length : Int) = d.Switches) && r.all (goB d)
def rightB (d : Dfa) : Bool := decide (1 <= d.Switches ∧ d.Switches <= 32 ∧ 1 <= d.Next.length ∧ d.Next.length <= 256 ∧ d.Ends.length = d.Next.length) && d.Next.all (rowB d)
def Few (d : Dfa) : Prop := d.Next.length < 9223372036854775807 ∧ d.Ends.length < 9223372036854775807 ∧ ∀ r ∈ d.Next, r.length < 9223372036854775807
theorem loop19b (d : Dfa) (x : List Int) (j : Int) (hx : x.length < 9223372036854775807) (r : Option Bool) (hr : loopO g19 (.h1 d x (x.length : Int) j) = r) :
    ∀ (k i : Nat), x.length - i = k -> i <= x.length -> loopO g19 (.h1 d x (i : Int) j) = if (x.drop i).all (goB d) = true then r else some false := by
  intro k
  induction k with
  | zero =>
    intro i hk hi
    have : i = x.length := by omega
    subst this
    rw [dropN (Nat.le_refl _), hr]
    simp
  | succ k ih =>
    intro i hk hi
    have hlt : i < x.length := by omega
    have hg : (g19 (.h1 d x (i : Int) j)).opt = if x[i] < 0 then some (.inr false) else if (d.Next.length : Int) <= x[i] then some (.inr false) else some (.inl (.h1 d x ((i + 1 : Nat) : Int) j)) := by
      unfold g19
      rw [opt_t (by simpa using hlt), opt_chk (by omega), opt_get (getO hlt), opt_ite, opt_ite, wsucc (by omega)]
      simp only [decide_eq_true_eq]
      split
      · rfl
      · split <;> rfl
    rw [dropE hlt, List.all_cons]
    by_cases h1 : x[i] < 0
    · rw [loopO_inr (x := false) (by rw [hg, if_pos h1])]
      rw [if_neg (by simp [goB]; omega)]
    · by_cases h2 : (d.Next.length : Int) <= x[i]
      · rw [loopO_inr (x := false) (by rw [hg, if_neg h1, if_pos h2])]
        rw [if_neg (by simp [goB]; omega)]
      · rw [loopO_inl (by rw [hg, if_neg h1, if_neg h2]) (ih (i + 1) (by omega) (by omega))]
        have e1 : goB d x[i] = true := by simp [goB]; omega
        rw [e1, Bool.true_and]
theorem loop19 (d : Dfa) (hs : Few d) : ∀ (k j : Nat), d.Next.length - j = k -> j <= d.Next.length -> loopO g19 (.h0 d (j : Int)) = some ((d.Next.drop j).all (rowB d)) := by
  intro k
  induction k with
  | zero =>
    intro j hk hj
    have : j = d.Next.length := by omega
    subst this
    rw [dropN (Nat.le_refl _)]
    refine loopO_inr ?_
    unfold g19
    rw [opt_f (by simp), opt_ret]
    rfl
  | succ k ih =>
    intro j hk hj
    have hlt : j < d.Next.length := by omega
    have hx := hs.2.2 d.Next[j] (List.getElem_mem hlt)
    rw [dropE hlt, List.all_cons, rowB]
    by_cases h1 : (d.Next[j].length : Int) = d.Switches
    · rw [decide_eq_true h1, Bool.true_and]
      refine loopO_inl (s' := .h1 d d.Next[j] ((0 : Nat) : Int) (j : Int)) ?_ ?_
      · unfold g19
        rw [opt_t (by simpa using hlt), opt_chk (by omega), opt_get (getO hlt), opt_f (by simp [h1]), opt_ret]; rfl
      · have := loop19b d d.Next[j] (j : Int) hx (some ((d.Next.drop (j + 1)).all (rowB d))) (by
          refine loopO_inl (s' := .h0 d ((j + 1 : Nat) : Int)) ?_ (ih (j + 1) (by omega) (by omega))
          unfold g19
          rw [opt_f (by simp), opt_ret, wsucc (by have := hs.1; omega)]) d.Next[j].length 0 (by omega) (by omega)
        rw [this, List.drop_zero]
        by_cases hc : d.Next[j].all (goB d) = true
        · rw [if_pos hc, hc, Bool.true_and]
        · rw [if_neg hc]
          rw [Bool.not_eq_true] at hc
          rw [hc]; rfl
    · rw [decide_eq_false h1, Bool.false_and, Bool.false_and]
      refine loopO_inr ?_
      unfold g19
      rw [opt_t (by simpa using hlt), opt_chk (by omega), opt_get (getO hlt), opt_t (by simp [h1]), opt_ret]
theorem right19 (d : Dfa) (hs : Few d) : f19 d = some (rightB d) := by
  unfold f19 rightB
  by_cases h : 1 <= d.Switches ∧ d.Switches <= 32 ∧ 1 <= d.Next.length ∧ d.Next.length <= 256 ∧ d.Ends.length = d.Next.length
  · rw [decide_eq_true h, Bool.true_and]
    obtain ⟨h1, h2, h3, h4, h5⟩ := h
    refine runO_inl (s' := .h0 d ((0 : Nat) : Int)) ?_ ?_
    · unfold s19
      rw [opt_f (by simp; omega), opt_f (by simp; omega), opt_f (by simp; omega), opt_f (by simp; omega), opt_f (by simp; omega), opt_ret]; rfl
    · rw [loop19 d hs _ 0 rfl (by omega), List.drop_zero]
  · rw [decide_eq_false h, Bool.false_and]
    refine runO_inr ?_
    unfold s19
    simp only [opt_ite, opt_ret, decide_eq_true_eq, Bool.not_eq_true', decide_eq_false_iff_not]
    repeat' split
    all_goals first | rfl | (exfalso; apply h; omega)
theorem loop20b (d : Dfa) {j : Nat} (hj : j < d.Next.length) (hx : d.Next[j].length < 9223372036854775807) (r : Option Bool) (hr : loopO g20 (.h1 d (d.Next[j].length : Int) (j : Int)) = r) :
    ∀ (k i : Nat), d.Next[j].length - i = k -> i <= d.Next[j].length -> loopO g20 (.h1 d (i : Int) (j : Int)) = if (d.Next[j].drop i).all (goB d) = true then r else some false := by
  intro k
  induction k with
  | zero =>
    intro i hk hi
    have : i = d.Next[j].length := by omega
    subst this
    rw [dropN (Nat.le_refl _), hr]
    simp
  | succ k ih =>
    intro i hk hi
    have hlt : i < d.Next[j].length := by omega
    have hg : (g20 (.h1 d (i : Int) (j : Int))).opt = if d.Next[j][i] < 0 then some (.inr false) else if (d.Next.length : Int) <= d.Next[j][i] then some (.inr false) else some (.inl (.h1 d ((i + 1 : Nat) : Int) (j : Int))) := by
      unfold g20
      rw [opt_chk (by omega), opt_get (getO hj), opt_t (by simpa using hlt), opt_chk (by omega), opt_get (getO hj), opt_chk (by omega), opt_get (getO hlt), opt_ite]
      simp only [decide_eq_true_eq]
      split
      · rfl
      · rw [opt_chk (by omega), opt_get (getO hj), opt_chk (by omega), opt_get (getO hlt), opt_ite, wsucc (by omega)]
        simp only [decide_eq_true_eq]
        split <;> rfl
    rw [dropE hlt, List.all_cons]
    by_cases h1 : d.Next[j][i] < 0
    · rw [loopO_inr (x := false) (by rw [hg, if_pos h1])]
      rw [if_neg (by simp [goB]; omega)]
    · by_cases h2 : (d.Next.length : Int) <= d.Next[j][i]
      · rw [loopO_inr (x := false) (by rw [hg, if_neg h1, if_pos h2])]
        rw [if_neg (by simp [goB]; omega)]
      · rw [loopO_inl (by rw [hg, if_neg h1, if_neg h2]) (ih (i + 1) (by omega) (by omega))]
        have e1 : goB d d.Next[j][i] = true := by simp [goB]; omega
        rw [e1, Bool.true_and]
theorem loop20 (d : Dfa) (hs : Few d) : ∀ (k j : Nat), d.Next.length - j = k -> j <= d.Next.length -> loopO g20 (.h0 d (j : Int)) = some ((d.Next.drop j).all (rowB d)) := by
  intro k
  induction k with
  | zero =>
    intro j hk hj
    have : j = d.Next.length := by omega
    subst this
    rw [dropN (Nat.le_refl _)]
    refine loopO_inr ?_
    unfold g20
    rw [opt_f (by simp), opt_ret]
    rfl
  | succ k ih =>
    intro j hk hj
    have hlt : j < d.Next.length := by omega
    have hx := hs.2.2 d.Next[j] (List.getElem_mem hlt)
    rw [dropE hlt, List.all_cons, rowB]
    by_cases h1 : (d.Next[j].length : Int) = d.Switches
    · rw [decide_eq_true h1, Bool.true_and]
      refine loopO_inl (s' := .h1 d ((0 : Nat) : Int) (j : Int)) ?_ ?_
      · unfold g20
        rw [opt_t (by simpa using hlt), opt_chk (by omega), opt_get (getO hlt), opt_f (by simp [h1]), opt_ret]; rfl
      · have := loop20b d hlt hx (some ((d.Next.drop (j + 1)).all (rowB d))) (by
          refine loopO_inl (s' := .h0 d ((j + 1 : Nat) : Int)) ?_ (ih (j + 1) (by omega) (by omega))
          unfold g20
          rw [opt_chk (by omega), opt_get (getO hlt), opt_f (by simp), opt_ret, wsucc (by have := hs.1; omega)]) d.Next[j].length 0 (by omega) (by omega)
        rw [this, List.drop_zero]
        by_cases hc : d.Next[j].all (goB d) = true
        · rw [if_pos hc, hc, Bool.true_and]
        · rw [if_neg hc]
          rw [Bool.not_eq_true] at hc
          rw [hc]; rfl
    · rw [decide_eq_false h1, Bool.false_and, Bool.false_and]
      refine loopO_inr ?_
      unfold g20
      rw [opt_t (by simpa using hlt), opt_chk (by omega), opt_get (getO hlt), opt_t (by simp [h1]), opt_ret]
theorem right20 (d : Dfa) (hs : Few d) : f20 d = some (rightB d) := by
  unfold f20 rightB
  by_cases h : 1 <= d.Switches ∧ d.Switches <= 32 ∧ 1 <= d.Next.length ∧ d.Next.length <= 256 ∧ d.Ends.length = d.Next.length
  · rw [decide_eq_true h, Bool.true_and]
    obtain ⟨h1, h2, h3, h4, h5⟩ := h
    refine runO_inl (s' := .h0 d ((0 : Nat) : Int)) ?_ ?_
    · unfold s20
      rw [opt_f (by simp; omega), opt_f (by simp; omega), opt_f (by simp; omega), opt_f (by simp; omega), opt_f (by simp; omega), opt_ret]; rfl
    · rw [loop20 d hs _ 0 rfl (by omega), List.drop_zero]
  · rw [decide_eq_false h, Bool.false_and]
    refine runO_inr ?_
    unfold s20
    simp only [opt_ite, opt_ret, decide_eq_true_eq, Bool.not_eq_true', decide_eq_false_iff_not]
    repeat' split
    all_goals first | rfl | (exfalso; apply h; omega)
theorem right_fine {d : Dfa} (h : rightB d = true) : ∃ m : Ma, m.Fine ∧ d = m.dfa := by
  unfold rightB at h
  rw [Bool.and_eq_true, decide_eq_true_eq, List.all_eq_true] at h
  obtain ⟨⟨h1, h2, h3, h4, h5⟩, hr⟩ := h
  have hrow : ∀ i (hi : i < d.Next.length), (d.Next[i].length : Int) = d.Switches ∧ ∀ t ∈ d.Next[i], 0 <= t ∧ t < (d.Next.length : Int) := by
    intro i hi
    have := hr d.Next[i] (List.getElem_mem hi)
    simp only [rowB, Bool.and_eq_true, decide_eq_true_eq, List.all_eq_true, goB] at this
    exact this
  let m : Ma := ⟨d.Next.length, d.Switches.toNat, fun i c => ((d.Next.getD i []).getD c 0).toNat, fun i => d.Ends.getD i false⟩
  have hto : ∀ i (hi : i < d.Next.length) c (hc : c < d.Switches.toNat), ∃ hc' : c < d.Next[i].length, m.to i c = (d.Next[i][c]).toNat := by
    intro i hi c hc
    have hl := (hrow i hi).1
    refine ⟨by omega, ?_⟩
    show ((d.Next.getD i []).getD c 0).toNat = _
    have hc' : c < d.Next[i].length := by omega
    simp [List.getD_eq_getElem?_getD, hi, hc']
  refine ⟨m, ⟨?_, h3, h4, ?_, ?_⟩, ?_⟩
  · intro i c hi hc
    obtain ⟨hc', e⟩ := hto i hi c hc
    have := (hrow i hi).2 _ (List.getElem_mem hc')
    rw [e]
    show _ < d.Next.length
    omega
  · show 1 <= d.Switches.toNat; omega
  · show d.Switches.toNat <= 32; omega
  · have e1 : d.Next = (List.range m.n).map m.row := by
      apply List.ext_getElem?
      intro i
      by_cases hi : i < d.Next.length
      · rw [List.getElem?_eq_getElem hi, List.getElem?_map, List.getElem?_range hi, Option.map_some]
        congr 1
        apply List.ext_getElem?
        intro c
        have hl := (hrow i hi).1
        by_cases hc : c < d.Switches.toNat
        · obtain ⟨hc', e⟩ := hto i hi c hc
          have := (hrow i hi).2 _ (List.getElem_mem hc')
          rw [List.getElem?_eq_getElem hc']
          show _ = ((List.range m.s).map _)[c]?
          rw [List.getElem?_map, List.getElem?_range (show c < m.s from hc), Option.map_some, e]
          congr 1; omega
        · rw [List.getElem?_eq_none (by omega), List.getElem?_eq_none (by rw [m.row_len]; exact Nat.le_of_not_lt hc)]
      · rw [List.getElem?_eq_none (by omega), List.getElem?_eq_none (by simp; show d.Next.length <= i; omega)]
    have e2 : d.Ends = (List.range m.n).map m.e := by
      apply List.ext_getElem?
      intro i
      by_cases hi : i < d.Next.length
      · rw [List.getElem?_map, List.getElem?_range (show i < m.n from hi), Option.map_some, List.getElem?_eq_getElem (by omega)]
        congr 1
        show _ = d.Ends.getD i false
        rw [List.getD_eq_getElem?_getD, List.getElem?_eq_getElem (by omega), Option.getD_some]
      · rw [List.getElem?_eq_none (by omega), List.getElem?_eq_none (by simp; show d.Next.length <= i; omega)]
    have e3 : d.Switches = (m.s : Int) := by show _ = ((d.Switches.toNat : Nat) : Int); omega
    show d = ⟨(m.s : Int), (List.range m.n).map m.row, (List.range m.n).map m.e⟩
    rw [<- e1, <- e2, <- e3]
theorem fine_right {m : Ma} (h : m.Fine) : rightB m.dfa = true := by
  unfold rightB
  rw [Bool.and_eq_true, decide_eq_true_eq, List.all_eq_true]
  refine ⟨⟨by rw [m.sw]; have := h.s1; omega, by rw [m.sw]; have := h.s2; omega, by rw [m.next_len]; exact h.n1, by rw [m.next_len]; exact h.n2, by rw [m.next_len, m.ends_len]⟩, fun r hr => ?_⟩
  obtain ⟨i, hi, rfl⟩ := List.mem_map.1 hr
  have hi := List.mem_range.1 hi
  simp only [rowB, Bool.and_eq_true, decide_eq_true_eq, List.all_eq_true, goB]
  refine ⟨by rw [m.row_len]; rfl, fun t ht => ?_⟩
  obtain ⟨c, hc, rfl⟩ := List.mem_map.1 ht
  have := h.ok i c hi (List.mem_range.1 hc)
  rw [m.next_len]
  omega
theorem fine_few {m : Ma} (h : m.Fine) : Few m.dfa := by
  have h1 := h.n2
  have h2 := h.s2
  refine ⟨by rw [m.next_len]; omega, by rw [m.ends_len]; omega, fun r hr => ?_⟩
  obtain ⟨i, hi, rfl⟩ := List.mem_map.1 hr
  rw [m.row_len]; omega
theorem loop18g (a b : List Int) (hl : a.length = b.length) (ha : a.length < 9223372036854775807) : ∀ (k i : Nat), a.length - i = k -> i <= a.length -> loopO g18 (.h0 a b (i : Int)) = some (decide (a.drop i = b.drop i)) := by
  intro k
  induction k with
  | zero =>
    intro i hk hi
    have : i = a.length := by omega
    subst this
    rw [dropN (Nat.le_refl _), dropN (by omega)]
    refine loopO_inr ?_
    unfold g18
    rw [opt_f (by simp), opt_ret]; rfl
  | succ k ih =>
    intro i hk hi
    have hlt : i < a.length := by omega
    have hlt' : i < b.length := by omega
    rw [dropE hlt, dropE hlt']
    by_cases h : a[i] = b[i]
    · refine loopO_inl (s' := .h0 a b ((i + 1 : Nat) : Int)) ?_ ?_
      · unfold g18
        rw [opt_t (by simpa using hlt), opt_chk (by omega), opt_get (getO hlt), opt_chk (by omega), opt_get (getO hlt'), opt_f (by simp [h]), opt_ret, wsucc (by omega)]
      · rw [ih (i + 1) (by omega) (by omega)]
        have : (a[i] :: a.drop (i + 1) = b[i] :: b.drop (i + 1)) ↔ (a.drop (i + 1) = b.drop (i + 1)) := by
          rw [List.cons.injEq]
          exact ⟨fun h' => h'.2, fun h' => ⟨h, h'⟩⟩
        exact congrArg some (decide_eq_decide.2 this.symm)
    · rw [loopO_inr (x := false) (by
        unfold g18
        rw [opt_t (by simpa using hlt), opt_chk (by omega), opt_get (getO hlt), opt_chk (by omega), opt_get (getO hlt'), opt_t (by simp [h]), opt_ret])]
      have : ¬ (a[i] :: a.drop (i + 1) = b[i] :: b.drop (i + 1)) := fun h' => h (List.cons.inj h').1
      rw [decide_eq_false this]
theorem ints18 (a b : List Int) (ha : a.length < 9223372036854775807) : f18 a b = some (decide (a = b)) := by
  unfold f18
  by_cases hl : a.length = b.length
  · refine runO_inl (s' := .h0 a b ((0 : Nat) : Int)) ?_ ?_
    · unfold s18
      rw [opt_f (by simp [hl]), opt_ret]; rfl
    · rw [loop18g a b hl ha _ 0 rfl (by omega)]; simp
  · have : a ≠ b := fun h => hl (by rw [h])
    rw [runO_inr (x := false) (by unfold s18; rw [opt_t (by simp; omega), opt_ret])]
    simp [this]
theorem loop14b (a b : Dfa) (hl : a.Ends.length = b.Ends.length) (hd : a.Ends.length < 9223372036854775807) : ∀ (k i : Nat), a.Ends.length - i = k -> i <= a.Ends.length -> loopO g14 (.h1 a b (i : Int)) = some (decide (a.Ends.drop i = b.Ends.drop i)) := by
  intro k
  induction k with
  | zero =>
    intro i hk hi
    have : i = a.Ends.length := by omega
    subst this
    rw [dropN (Nat.le_refl _), dropN (by omega)]
    refine loopO_inr ?_
    unfold g14
    rw [opt_f (by simp), opt_ret]; rfl
  | succ k ih =>
    intro i hk hi
    have hlt : i < a.Ends.length := by omega
    have hlt' : i < b.Ends.length := by omega
    rw [dropE hlt, dropE hlt']
    by_cases h : a.Ends[i] = b.Ends[i]
    · refine loopO_inl (s' := .h1 a b ((i + 1 : Nat) : Int)) ?_ ?_
      · unfold g14
        rw [opt_t (by simpa using hlt), opt_chk (by omega), opt_get (getO hlt), opt_chk (by omega), opt_get (getO hlt'), opt_f (by rw [h]; cases b.Ends[i] <;> rfl), opt_ret, wsucc (by omega)]
      · rw [ih (i + 1) (by omega) (by omega)]
        have : (a.Ends[i] :: a.Ends.drop (i + 1) = b.Ends[i] :: b.Ends.drop (i + 1)) ↔ (a.Ends.drop (i + 1) = b.Ends.drop (i + 1)) := by
          rw [List.cons.injEq]
          exact ⟨fun h' => h'.2, fun h' => ⟨h, h'⟩⟩
        exact congrArg some (decide_eq_decide.2 this.symm)
    · rw [loopO_inr (x := false) (by
        unfold g14
        rw [opt_t (by simpa using hlt), opt_chk (by omega), opt_get (getO hlt), opt_chk (by omega), opt_get (getO hlt'), opt_t (by revert h; cases a.Ends[i] <;> cases b.Ends[i] <;> simp), opt_ret])]
      have : ¬ (a.Ends[i] :: a.Ends.drop (i + 1) = b.Ends[i] :: b.Ends.drop (i + 1)) := fun h' => h (List.cons.inj h').1
      rw [decide_eq_false this]
theorem loop14 (a b : Dfa) (hs : Few a) (hl : a.Next.length = b.Next.length) (hl' : a.Ends.length = b.Ends.length) :
    ∀ (k i : Nat), a.Next.length - i = k -> i <= a.Next.length -> loopO g14 (.h0 a b (i : Int)) = some (decide (a.Next.drop i = b.Next.drop i ∧ a.Ends = b.Ends)) := by
  intro k
  induction k with
  | zero =>
    intro i hk hi
    have : i = a.Next.length := by omega
    subst this
    rw [dropN (Nat.le_refl _), dropN (by omega)]
    refine loopO_inl (s' := .h1 a b ((0 : Nat) : Int)) ?_ ?_
    · unfold g14
      rw [opt_f (by simp), opt_ret]; rfl
    · rw [loop14b a b hl' hs.2.1 _ 0 rfl (by omega)]; simp
  | succ k ih =>
    intro i hk hi
    have hlt : i < a.Next.length := by omega
    have hlt' : i < b.Next.length := by omega
    rw [dropE hlt, dropE hlt']
    have hi18 := ints18 a.Next[i] b.Next[i] (hs.2.2 _ (List.getElem_mem hlt))
    by_cases h : a.Next[i] = b.Next[i]
    · rw [decide_eq_true h] at hi18
      refine loopO_inl (s' := .h0 a b ((i + 1 : Nat) : Int)) ?_ ?_
      · unfold g14
        rw [opt_t (by simpa using hlt), opt_chk (by omega), opt_get (getO hlt), opt_chk (by omega), opt_get (getO hlt'), opt_get hi18, opt_f (by simp), opt_ret, wsucc (by have := hs.1; omega)]
      · rw [ih (i + 1) (by omega) (by omega)]
        have : (a.Next[i] :: a.Next.drop (i + 1) = b.Next[i] :: b.Next.drop (i + 1) ∧ a.Ends = b.Ends) ↔ (a.Next.drop (i + 1) = b.Next.drop (i + 1) ∧ a.Ends = b.Ends) := by
          rw [List.cons.injEq]
          exact ⟨fun h' => ⟨h'.1.2, h'.2⟩, fun h' => ⟨⟨h, h'.1⟩, h'.2⟩⟩
        exact congrArg some (decide_eq_decide.2 this.symm)
    · rw [decide_eq_false h] at hi18
      rw [loopO_inr (x := false) (by
        unfold g14
        rw [opt_t (by simpa using hlt), opt_chk (by omega), opt_get (getO hlt), opt_chk (by omega), opt_get (getO hlt'), opt_get hi18, opt_t (by simp), opt_ret])]
      have : ¬ (a.Next[i] :: a.Next.drop (i + 1) = b.Next[i] :: b.Next.drop (i + 1) ∧ a.Ends = b.Ends) := fun h' => h (List.cons.inj h'.1).1
      rw [decide_eq_false this]
theorem alike14 (a b : Dfa) (hs : Few a) : f14 a b = some (decide (a = b)) := by
  obtain ⟨s1, n1, e1⟩ := a
  obtain ⟨s2, n2, e2⟩ := b
  unfold f14
  have key : (Dfa.mk s1 n1 e1 = Dfa.mk s2 n2 e2) ↔ (s1 = s2 ∧ n1 = n2 ∧ e1 = e2) := by simp
  by_cases h1 : s1 = s2
  · by_cases h2 : n1.length = n2.length
    · by_cases h3 : e1.length = e2.length
      · refine runO_inl (s' := .h0 ⟨s1, n1, e1⟩ ⟨s2, n2, e2⟩ ((0 : Nat) : Int)) ?_ ?_
        · unfold s14
          rw [opt_f (by simp [h1]), opt_f (by simp; omega), opt_f (by simp; omega), opt_ret]; rfl
        · rw [loop14 _ _ hs h2 h3 _ 0 rfl (by omega)]
          refine congrArg some (decide_eq_decide.2 ?_)
          rw [key, List.drop_zero, List.drop_zero]
          exact ⟨fun h => ⟨h1, h⟩, fun h => h.2⟩
      · rw [runO_inr (x := false) (by unfold s14; rw [opt_f (by simp [h1]), opt_f (by simp; omega), opt_t (by simp; omega), opt_ret])]
        rw [decide_eq_false (fun h => h3 (by rw [(key.1 h).2.2]))]
    · rw [runO_inr (x := false) (by unfold s14; rw [opt_f (by simp [h1]), opt_t (by simp; omega), opt_ret])]
      rw [decide_eq_false (fun h => h2 (by rw [(key.1 h).2.1]))]
  · rw [runO_inr (x := false) (by unfold s14; rw [opt_t (by simp [h1]), opt_ret])]
    rw [decide_eq_false (fun h => h1 (key.1 h).1)]
theorem loop69 {m : Ma} (hm : m.Fine) (g : Nat -> Nat) {i j : Nat} (hi : i < m.n) (hj : j < m.n) : ∀ (k c : Nat), m.s - c = k -> c <= m.s ->
    ∃ r, loopO g69 (.h0 m.dfa (nums m.n g) (i : Int) (j : Int) (c : Int)) = some r ∧ (r = true ↔ ∀ b, c <= b -> b < m.s -> g (m.to i b) = g (m.to j b)) := by
  have hs2 := hm.s2
  intro k
  induction k with
  | zero =>
    intro c hk hc
    have : c = m.s := by omega
    subst this
    refine ⟨true, loopO_inr ?_, by simp; intro b h1 h2; omega⟩
    unfold g69
    rw [opt_f (by rw [m.sw]; simp), opt_ret]
  | succ k ih =>
    intro c hk hc
    have hlt : c < m.s := by omega
    have h1 := hm.ok i c hi hlt
    have h2 := hm.ok j c hj hlt
    by_cases h : g (m.to i c) = g (m.to j c)
    · obtain ⟨r, hr, hiff⟩ := ih (c + 1) (by omega) (by omega)
      refine ⟨r, loopO_inl (s' := .h0 m.dfa (nums m.n g) (i : Int) (j : Int) ((c + 1 : Nat) : Int)) ?_ hr, hiff.trans ⟨fun hh b h1 h2 => ?_, fun hh b h1 h2 => hh b (by omega) h2⟩⟩
      · unfold g69
        rw [opt_t (by rw [m.sw]; simpa using hlt), opt_chk (by omega), opt_get (Ma.next_get hi), opt_chk (by omega), opt_get (Ma.row_get i hlt), opt_chk (by omega), opt_get (nums_get g h1), opt_chk (by omega), opt_get (Ma.next_get hj), opt_chk (by omega), opt_get (Ma.row_get j hlt), opt_chk (by omega), opt_get (nums_get g h2), opt_f (by simp [h]), opt_ret, wsucc (by omega)]
      · by_cases e : b = c
        · subst e; exact h
        · exact hh b (by omega) h2
    · refine ⟨false, loopO_inr ?_, ⟨fun h => by simp at h, fun hh => absurd (hh c (Nat.le_refl _) hlt) h⟩⟩
      unfold g69
      rw [opt_t (by rw [m.sw]; simpa using hlt), opt_chk (by omega), opt_get (Ma.next_get hi), opt_chk (by omega), opt_get (Ma.row_get i hlt), opt_chk (by omega), opt_get (nums_get g h1), opt_chk (by omega), opt_get (Ma.next_get hj), opt_chk (by omega), opt_get (Ma.row_get j hlt), opt_chk (by omega), opt_get (nums_get g h2), opt_t (by simp; omega), opt_ret]
theorem alike69 {m : Ma} (hm : m.Fine) (g : Nat -> Nat) {i j : Nat} (hi : i < m.n) (hj : j < m.n) :
    ∃ r, f69 m.dfa (nums m.n g) (i : Int) (j : Int) = some r ∧ (r = true ↔ (g i = g j ∧ ∀ b, b < m.s -> g (m.to i b) = g (m.to j b))) := by
  unfold f69
  by_cases h : g i = g j
  · obtain ⟨r, hr, hiff⟩ := loop69 hm g hi hj _ 0 rfl (by omega)
    refine ⟨r, runO_inl (s' := .h0 m.dfa (nums m.n g) (i : Int) (j : Int) ((0 : Nat) : Int)) ?_ hr, hiff.trans ⟨fun hh => ⟨h, fun b hb => hh b (by omega) hb⟩, fun hh b _ hb => hh.2 b hb⟩⟩
    unfold s69
    rw [opt_chk (by omega), opt_get (nums_get g hi), opt_chk (by omega), opt_get (nums_get g hj), opt_f (by simp [h]), opt_ret]; rfl
  · refine ⟨false, runO_inr ?_, ⟨fun h => by simp at h, fun hh => absurd hh.1 h⟩⟩
    unfold s69
    rw [opt_chk (by omega), opt_get (nums_get g hi), opt_chk (by omega), opt_get (nums_get g hj), opt_t (by simp; omega), opt_ret]
end Go.Proofs.Dfa
/-
  The document's classes: of each state the first one that is like it.
-/
namespace Go.Proofs.Dfa
open Go Go.Ab Go.ChangeShapes
set_option linter.unusedVariables false
set_option linter.unusedSimpArgs false
set_option maxRecDepth 100000
theorem fst_ex {R : Nat -> Prop} : ∀ (b : Nat), R b -> ∃ k, k <= b ∧ R k ∧ ∀ j, j < k -> ¬ R j := by
  intro b
  induction b using Nat.strongRecOn with
  | _ b ih =>
    intro h
    by_cases hj : ∃ j, j < b ∧ R j
    · obtain ⟨j, h1, h2⟩ := hj
      obtain ⟨k, k1, k2, k3⟩ := ih j h1 h2
      exact ⟨k, by omega, k2, k3⟩
    · exact ⟨b, Nat.le_refl _, h, fun j h1 h2 => hj ⟨j, h1, h2⟩⟩
theorem fst_ex' (m : Ma) (k i : Nat) : ∃ b, b <= i ∧ m.R k i b ∧ ∀ j, j < b -> ¬ m.R k i j := fst_ex (R := m.R k i) i (Ma.R_refl k i)
noncomputable def Ma.F (m : Ma) (k i : Nat) : Nat := Classical.choose (fst_ex' m k i)
namespace Ma
variable {m : Ma}
theorem F_le (k i : Nat) : m.F k i <= i := (Classical.choose_spec (fst_ex' m k i)).1
theorem F_R (k i : Nat) : m.R k i (m.F k i) := (Classical.choose_spec (fst_ex' m k i)).2.1
theorem F_least {k i j : Nat} (h : m.R k i j) : m.F k i <= j := by
  rcases Nat.lt_or_ge j (m.F k i) with h1 | h1
  · exact absurd h ((Classical.choose_spec (fst_ex' m k i)).2.2 j h1)
  · exact h1
theorem F_eq {k i j : Nat} (h : m.R k i j) : m.F k i = m.F k j := by
  have h1 := F_least (R_trans h (F_R k j))
  have h2 := F_least (R_trans (R_symm h) (F_R k i))
  omega
theorem F_iff {k i j : Nat} : m.F k i = m.F k j ↔ m.R k i j := ⟨fun h => R_trans (F_R k i) (h ▸ R_symm (F_R k j)), F_eq⟩
theorem F_F (k i : Nat) : m.F k (m.F k i) = m.F k i := (F_eq (F_R k i)).symm
end Ma
theorem once_range_len {n : Nat} (g : Nat -> Nat) : (once ((List.range n).map g)).length <= n := by
  have := (onceOn_len (l := (List.range n).map g) (D := [])).2
  have e : onceOn [] ((List.range n).map g) = once ((List.range n).map g) := rfl
  rw [e] at this
  simpa using this
theorem once_range_pos {n : Nat} (g : Nat -> Nat) (h : 1 <= n) : 1 <= (once ((List.range n).map g)).length := by
  have : g 0 ∈ once ((List.range n).map g) := once_mem.2 (List.mem_map.2 ⟨0, List.mem_range.2 h, rfl⟩)
  exact List.length_pos_of_mem this
section
variable {m : Ma}
theorem alike_R (hm : m.Fine) {r : Nat} {g : Nat -> Nat} (hg : m.Shows r g) {i j : Nat} (hi : i < m.n) (hj : j < m.n) : (g i = g j ∧ ∀ b, b < m.s -> g (m.to i b) = g (m.to j b)) ↔ m.R (r + 1) i j :=
  ⟨fun ⟨h1, h2⟩ => ⟨(hg i j hi hj).1 h1, fun c hc => (hg _ _ (hm.ok i c hi hc) (hm.ok j c hj hc)).1 (h2 c hc)⟩,
   fun ⟨h1, h2⟩ => ⟨(hg i j hi hj).2 h1, fun c hc => (hg _ _ (hm.ok i c hi hc) (hm.ok j c hj hc)).2 (h2 c hc)⟩⟩
def upto (F : Nat -> Nat) (i j : Nat) : Nat := if j < i then F j else 0
def within (F : Nat -> Nat) (i k j : Nat) : Nat := if j < i then F j else if j = i then (if F i < k then F i else i) else 0
theorem loop53c (hm : m.Fine) {r : Nat} {g : Nat -> Nat} (hg : m.Shows r g) {i : Nat} (hi : i < m.n) (b : Bool) (rr : Int) (res : Option (List Int))
    (hr : loopO g53 (.h2 m.dfa (nums m.n g) ((i + 1 : Nat) : Int) (b && decide (m.F (r + 1) i = g i)) (nums m.n (upto (m.F (r + 1)) (i + 1))) rr) = res) :
    ∀ (q k : Nat), i - k = q -> k <= i -> loopO g53 (.h3 m.dfa (nums m.n g) (k : Int) (nums m.n (within (m.F (r + 1)) i k)) (i : Int) rr b) = res := by
  have hn := hm.n2
  have hlg : (nums m.n g).length = m.n := nums_len _ _
  intro q
  induction q with
  | zero =>
    intro k hq hk
    have : k = i := by omega
    subst this
    have hw : nums m.n (within (m.F (r + 1)) k k) = nums m.n (upto (m.F (r + 1)) (k + 1)) := by
      refine nums_congr fun j hj => ?_
      unfold within upto
      by_cases h1 : j < k
      · rw [if_pos h1, if_pos (by omega)]
      · rw [if_neg h1]
        by_cases h2 : j = k
        · subst h2
          rw [if_pos rfl, if_pos (show j < j + 1 by omega)]
          have := Ma.F_le (m := m) (r + 1) j
          split <;> omega
        · rw [if_neg h2, if_neg (by omega)]
    rw [hw]
    have hl : (nums m.n (upto (m.F (r + 1)) (k + 1))).length = m.n := nums_len _ _
    have hget := nums_get0 (upto (m.F (r + 1)) (k + 1)) hi
    have hup : upto (m.F (r + 1)) (k + 1) k = m.F (r + 1) k := by unfold upto; rw [if_pos (by omega)]
    rw [hup] at hget
    refine loopO_inl ?_ hr
    unfold g53
    cases b with
    | true =>
      rw [opt_f (by simp), opt_t rfl, opt_chk (by rw [hl]; omega), opt_get hget, opt_chk (by rw [hlg]; omega), opt_get (nums_get0 g hi), opt_chk (by trivial), opt_chk (by trivial), opt_ret, wsucc (by omega)]
      have : decide (((m.F (r + 1) k : Nat) : Int) = ((g k : Nat) : Int)) = (true && decide (m.F (r + 1) k = g k)) := by
        rw [Bool.true_and]; exact decide_eq_decide.2 (by omega)
      rw [this]
    | false =>
      rw [opt_f (by simp), opt_f rfl, opt_chk (by trivial), opt_chk (by trivial), opt_ret, wsucc (by omega)]
      rfl
  | succ q ih =>
    intro k hq hk
    have hlt : k < i := by omega
    have hl : (nums m.n (within (m.F (r + 1)) i k)).length = m.n := nums_len _ _
    have hgi := nums_get0 (within (m.F (r + 1)) i k) hi
    have hgk := nums_get0 (within (m.F (r + 1)) i k) (show k < m.n by omega)
    have wi : within (m.F (r + 1)) i k i = if m.F (r + 1) i < k then m.F (r + 1) i else i := by
      unfold within; rw [if_neg (by omega), if_pos rfl]
    have wk : within (m.F (r + 1)) i k k = m.F (r + 1) k := by unfold within; rw [if_pos hlt]
    rw [wi] at hgi
    rw [wk] at hgk
    have same : ∀ (h : (m.F (r + 1) i < k ↔ m.F (r + 1) i < k + 1)), nums m.n (within (m.F (r + 1)) i (k + 1)) = nums m.n (within (m.F (r + 1)) i k) := by
      intro h
      refine nums_congr fun j hj => ?_
      unfold within
      simp only [h]
    have hal := alike69 hm g hi (show k < m.n by omega)
    obtain ⟨y, hy, hiff⟩ := hal
    have hiff := hiff.trans (alike_R hm hg hi (show k < m.n by omega))
    have htk : List.take (nums m.n g).length (List.drop 0 (nums m.n g)) = nums m.n g := by rw [List.drop_zero, List.take_length]
    have hih := ih (k + 1) (by omega) (by omega)
    by_cases hF : m.F (r + 1) i < k
    · rw [if_pos hF] at hgi
      rw [same (by omega)] at hih
      refine loopO_inl ?_ hih
      unfold g53
      rw [opt_t (by simpa using hlt), opt_chk (by rw [hl]; omega), opt_get hgi, opt_f (by simp; omega), opt_chk (by trivial), opt_chk (by trivial), opt_ret, wsucc (by omega)]
    · rw [if_neg hF] at hgi
      by_cases hR : m.R (r + 1) i k
      · have hk' : m.F (r + 1) i = k := by have := Ma.F_least hR; omega
        have hfk : m.F (r + 1) k = k := by rw [<- hk']; exact Ma.F_F _ _
        rw [hfk] at hgk
        have hy1 : y = true := hiff.2 hR
        subst hy1
        have hset : (nums m.n (within (m.F (r + 1)) i k)).set ((0 : Nat) + (i : Int).toNat) ((k : Nat) : Int) = nums m.n (within (m.F (r + 1)) i (k + 1)) := by
          rw [Nat.zero_add, Int.toNat_natCast, nums_set _ hi]
          refine nums_congr fun j hj => ?_
          unfold within
          by_cases h1 : j = i
          · subst h1
            rw [if_pos rfl, if_neg (by omega), if_pos rfl, if_pos (by omega), hk']
          · rw [if_neg h1]
            by_cases h2 : j < i
            · rw [if_pos h2, if_pos h2]
            · rw [if_neg h2, if_neg h1, if_neg h2, if_neg h1]
        refine loopO_inl ?_ hih
        unfold g53
        rw [opt_t (by simpa using hlt), opt_chk (by rw [hl]; omega), opt_get hgi, opt_t (by simp), opt_chk (by omega), htk, opt_get hy, opt_t rfl, opt_chk (by rw [hl]; omega), opt_get hgk, opt_chk (by rw [hl]; omega), opt_get hgi, opt_chk (by simp), opt_chk (by trivial), opt_ret, wsucc (by omega), hset]
      · have hy1 : y = false := by
          cases y with
          | true => exact absurd (hiff.1 rfl) hR
          | false => rfl
        subst hy1
        have hne : m.F (r + 1) i ≠ k := fun e => hR (e ▸ Ma.F_R (r + 1) i)
        rw [same (by omega)] at hih
        refine loopO_inl ?_ hih
        unfold g53
        rw [opt_t (by simpa using hlt), opt_chk (by rw [hl]; omega), opt_get hgi, opt_t (by simp), opt_chk (by omega), htk, opt_get hy, opt_f rfl, opt_chk (by trivial), opt_chk (by trivial), opt_ret, wsucc (by omega)]
theorem loop53b (hm : m.Fine) {r : Nat} {g : Nat -> Nat} (hg : m.Shows r g) (rr : Int) (res : Option (List Int)) (hr1 : (∀ j, j < m.n -> m.F (r + 1) j = g j) -> some (nums m.n (m.F (r + 1))) = res)
    (hr2 : ¬ (∀ j, j < m.n -> m.F (r + 1) j = g j) -> loopO g53 (.h1 m.dfa (nums m.n (m.F (r + 1))) (IntKind.i64.wrap (rr + 1))) = res) :
    ∀ (q i : Nat) (b : Bool), m.n - i = q -> i <= m.n -> (b = true ↔ ∀ j, j < i -> m.F (r + 1) j = g j) -> loopO g53 (.h2 m.dfa (nums m.n g) (i : Int) b (nums m.n (upto (m.F (r + 1)) i)) rr) = res := by
  have hn := hm.n2
  have hlg : (nums m.n g).length = m.n := nums_len _ _
  intro q
  induction q with
  | zero =>
    intro i b hq hi hb
    have : i = m.n := by omega
    subst this
    have hw : nums m.n (upto (m.F (r + 1)) m.n) = nums m.n (m.F (r + 1)) := nums_congr fun j hj => by unfold upto; rw [if_pos hj]
    rw [hw]
    cases b with
    | true =>
      rw [<- hr1 (hb.1 rfl)]
      refine loopO_inr ?_
      unfold g53
      rw [opt_f (by rw [m.next_len]; simp), opt_t rfl, opt_chk (by omega), opt_ret, List.drop_zero, List.take_length]
    | false =>
      refine loopO_inl ?_ (hr2 fun h => by have := hb.2 h; cases this)
      unfold g53
      rw [opt_f (by rw [m.next_len]; simp), opt_f rfl, opt_chk (by trivial), opt_ret]
  | succ q ih =>
    intro i b hq hi hb
    have hlt : i < m.n := by omega
    have hl : (nums m.n (upto (m.F (r + 1)) i)).length = m.n := nums_len _ _
    have hset : (nums m.n (upto (m.F (r + 1)) i)).set ((0 : Nat) + (i : Int).toNat) ((i : Nat) : Int) = nums m.n (within (m.F (r + 1)) i 0) := by
      rw [Nat.zero_add, Int.toNat_natCast, nums_set _ hlt]
      refine nums_congr fun j hj => ?_
      unfold within upto
      by_cases h1 : j = i
      · subst h1
        rw [if_pos rfl, if_neg (by omega), if_pos rfl, if_neg (by omega)]
      · rw [if_neg h1]
        by_cases h2 : j < i
        · rw [if_pos h2, if_pos h2]
        · rw [if_neg h2, if_neg h2, if_neg h1]
    have hih := ih (i + 1) (b && decide (m.F (r + 1) i = g i)) (by omega) (by omega) (by
      rw [Bool.and_eq_true, decide_eq_true_eq, hb]
      constructor
      · rintro ⟨h1, h2⟩ j hj
        by_cases e : j = i
        · subst e; exact h2
        · exact h1 j (by omega)
      · exact fun h => ⟨fun j hj => h j (by omega), h i (by omega)⟩)
    refine loopO_inl (s' := .h3 m.dfa (nums m.n g) ((0 : Nat) : Int) (nums m.n (within (m.F (r + 1)) i 0)) (i : Int) rr b) ?_ (loop53c hm hg hlt b rr res hih i 0 rfl (by omega))
    unfold g53
    rw [opt_t (by rw [m.next_len]; simpa using hlt), opt_chk (by rw [hl]; omega), opt_get (nums_get0 _ hlt), opt_chk (by simp), opt_chk (by trivial), opt_ret, hset]
    rfl
structure Inv53 (m : Ma) (r : Nat) (g : Nat -> Nat) : Prop where
  shows : m.Shows r g
  many : r = 0 ∨ ((∀ i, i < m.n -> g i = m.F r i) ∧ r <= (once ((List.range m.n).map g)).length)
theorem shows_F (k : Nat) : m.Shows k (m.F k) := fun i j _ _ => Ma.F_iff
theorem shows_finer {r : Nat} {g f : Nat -> Nat} (hg : m.Shows r g) (hf : m.Shows (r + 1) f) : ∀ i j, i < m.n -> j < m.n -> f i = f j -> g i = g j :=
  fun i j hi hj h => (hg i j hi hj).2 ((hf i j hi hj).1 h).1
theorem loop53a (hm : m.Fine) : ∀ (q r : Nat) (g : Nat -> Nat), m.n + 1 - r = q -> r <= m.n + 1 -> Inv53 m r g ->
    ∃ K, m.Stable K ∧ loopO g53 (.h1 m.dfa (nums m.n g) (r : Int)) = some (nums m.n (m.F K)) := by
  have hn := hm.n2
  have hn1 := hm.n1
  intro q
  induction q with
  | zero =>
    intro r g hq hr inv
    rcases inv.many with h | ⟨_, h⟩
    · omega
    · have := once_range_len (n := m.n) g
      omega
  | succ q ih =>
    intro r g hq hr inv
    have hlg : (nums m.n g).length = m.n := nums_len _ _
    have start : ∀ res, loopO g53 (.h2 m.dfa (nums m.n g) ((0 : Nat) : Int) true (nums m.n (upto (m.F (r + 1)) 0)) (r : Int)) = res -> loopO g53 (.h1 m.dfa (nums m.n g) (r : Int)) = res := by
      intro res h
      refine loopO_inl ?_ h
      have e0 : List.replicate (((m.dfa.Next.length : Nat) : Int)).toNat (0 : Int) = nums m.n (upto (m.F (r + 1)) 0) := by
        rw [m.next_len, Int.toNat_natCast, nums_zero]
        exact nums_congr fun j hj => by unfold upto; rw [if_neg (by omega)]
      unfold g53
      rw [opt_t (by rw [m.next_len]; simp; omega), opt_chk (by rw [m.next_len]; refine ⟨by omega, by omega, ?_⟩; simp; omega), opt_chk (by trivial), opt_chk (by trivial), opt_ret, e0]
      rfl
    by_cases hsame : ∀ j, j < m.n -> m.F (r + 1) j = g j
    · have hst : m.Stable r := by
        intro i j hi hj h
        have := (inv.shows i j hi hj).2 h
        rw [<- hsame i hi, <- hsame j hj] at this
        exact Ma.F_iff.1 this
      refine ⟨r + 1, fun i j hi hj h => ?_, ?_⟩
      · exact Ma.stable_up hm.ok hst 2 hi hj (Ma.R_down 1 h)
      · exact start _ (loop53b hm inv.shows (r : Int) _ (fun _ => rfl) (fun h => absurd hsame h) m.n 0 true rfl (by omega) (by simp))
    · have hnext : Inv53 m (r + 1) (m.F (r + 1)) := by
        refine ⟨shows_F _, .inr ⟨fun i _ => rfl, ?_⟩⟩
        rcases inv.many with rfl | ⟨h1, h2⟩
        · exact once_range_pos _ hn1
        · have hfin := shows_finer inv.shows (shows_F (m := m) (r + 1))
          have hle := finer_len hfin
          rcases Nat.lt_or_ge r (once ((List.range m.n).map (m.F (r + 1)))).length with h | h
          · omega
          · exfalso
            have heq : (once ((List.range m.n).map g)).length = (once ((List.range m.n).map (m.F (r + 1)))).length := by omega
            have hsm := finer_same hfin heq
            apply hsame
            intro j hj
            rw [h1 j hj]
            -- the same classes have the same first states
            have hb1 := Ma.F_le (m := m) (r + 1) j
            have hb2 := Ma.F_le (m := m) r j
            have k1 : m.R r j (m.F (r + 1) j) := (Ma.F_R (r + 1) j).1
            have k2 := Ma.F_least k1
            have k3 : m.R r j (m.F r j) := Ma.F_R r j
            have k4 : g j = g (m.F r j) := (inv.shows j _ hj (by omega)).2 k3
            have k5 : m.R (r + 1) j (m.F r j) := Ma.F_iff.1 (hsm j _ hj (by omega) k4)
            have k6 := Ma.F_least k5
            omega
      obtain ⟨K, hK, hres⟩ := ih (r + 1) (m.F (r + 1)) (by omega) (by omega) hnext
      refine ⟨K, hK, start _ (loop53b hm inv.shows (r : Int) _ (fun h => absurd h hsame) (fun _ => ?_) m.n 0 true rfl (by omega) (by simp))⟩
      rw [wsucc (by omega)]
      exact hres
def num0 (m : Ma) (i : Nat) : Nat := if m.e i = true then 1 else 0
theorem shows_0 : m.Shows 0 (num0 m) := by
  intro i j _ _
  show _ ↔ m.e i = m.e j
  unfold num0
  cases m.e i <;> cases m.e j <;> simp
theorem loop53 (hm : m.Fine) (res : Option (List Int)) (hr : loopO g53 (.h1 m.dfa (nums m.n (num0 m)) ((0 : Nat) : Int)) = res) : ∀ (q i : Nat), m.n - i = q -> i <= m.n -> loopO g53 (.h0 m.dfa (i : Int) (nums m.n (upto (num0 m) i))) = res := by
  have hn := hm.n2
  intro q
  induction q with
  | zero =>
    intro i hq hi
    have : i = m.n := by omega
    subst this
    have hw : nums m.n (upto (num0 m) m.n) = nums m.n (num0 m) := nums_congr fun j hj => by unfold upto; rw [if_pos hj]
    rw [hw]
    refine loopO_inl ?_ hr
    unfold g53
    rw [opt_f (by rw [m.next_len]; simp), opt_chk (by trivial), opt_ret]; rfl
  | succ q ih =>
    intro i hq hi
    have hlt : i < m.n := by omega
    have hl : (nums m.n (upto (num0 m) i)).length = m.n := nums_len _ _
    have hih := ih (i + 1) (by omega) (by omega)
    cases he : m.e i with
    | true =>
      have hset : (nums m.n (upto (num0 m) i)).set ((0 : Nat) + (i : Int).toNat) ((1 : Nat) : Int) = nums m.n (upto (num0 m) (i + 1)) := by
        rw [Nat.zero_add, Int.toNat_natCast, nums_set _ hlt]
        refine nums_congr fun j hj => ?_
        unfold upto
        by_cases h1 : j = i
        · subst h1
          rw [if_pos rfl, if_pos (by omega), num0, if_pos he]
        · rw [if_neg h1]
          by_cases h2 : j < i
          · rw [if_pos h2, if_pos (by omega)]
          · rw [if_neg h2, if_neg (by omega)]
      refine loopO_inl ?_ hih
      unfold g53
      rw [opt_t (by rw [m.next_len]; simpa using hlt), opt_chk (by omega), opt_get (Ma.ends_get hlt), opt_t he, opt_chk (by rw [hl]; omega), opt_get (nums_get0 _ hlt), opt_chk (by simp), opt_ret, wsucc (by omega), <- hset]
      rfl
    | false =>
      have hsame : nums m.n (upto (num0 m) (i + 1)) = nums m.n (upto (num0 m) i) := by
        refine nums_congr fun j hj => ?_
        unfold upto
        by_cases h1 : j = i
        · subst h1
          rw [if_pos (by omega), if_neg (by omega), num0, he]; rfl
        · by_cases h2 : j < i
          · rw [if_pos h2, if_pos (by omega)]
          · rw [if_neg h2, if_neg (by omega)]
      rw [hsame] at hih
      refine loopO_inl ?_ hih
      unfold g53
      rw [opt_t (by rw [m.next_len]; simpa using hlt), opt_chk (by omega), opt_get (Ma.ends_get hlt), opt_f he, opt_chk (by trivial), opt_ret, wsucc (by omega)]
theorem classes53 (hm : m.Fine) : ∃ K, m.Stable K ∧ f53 m.dfa = some (nums m.n (m.F K)) := by
  have hn := hm.n2
  obtain ⟨K, hK, hres⟩ := loop53a hm (m.n + 1) 0 (num0 m) rfl (by omega) ⟨shows_0, .inl rfl⟩
  refine ⟨K, hK, ?_⟩
  unfold f53
  refine runO_inl (s' := .h0 m.dfa ((0 : Nat) : Int) (nums m.n (upto (num0 m) 0))) ?_ (loop53 hm _ hres m.n 0 rfl (by omega))
  have e0 : List.replicate (((m.dfa.Next.length : Nat) : Int)).toNat (0 : Int) = nums m.n (upto (num0 m) 0) := by
    rw [m.next_len, Int.toNat_natCast, nums_zero]
    exact nums_congr fun j hj => by unfold upto; rw [if_neg (by omega)]
  unfold s53
  rw [opt_chk (by rw [m.next_len]; refine ⟨by omega, by omega, ?_⟩; simp; omega), opt_chk (by trivial), opt_ret, e0]
  rfl
end
end Go.Proofs.Dfa
/-
  The program's classes: of each state the number of those that are like it.
-/
namespace Go.Proofs.Dfa
open Go Go.Ab Go.ChangeShapes
set_option linter.unusedVariables false
set_option linter.unusedSimpArgs false
set_option maxRecDepth 100000
section
variable {α : Type}
def plcG (k : Nat) : List α -> List (α × Int)
  | [] => []
  | m :: l => (m, (k : Int)) :: plcG (k + 1) l
theorem plcG_app : ∀ (l : List α) (k : Nat) (y : α), plcG k l ++ [(y, ((k + l.length : Nat) : Int))] = plcG k (l ++ [y]) := by
  intro l
  induction l with
  | nil => intro k y; simp [plcG]
  | cons m l ih =>
    intro k y
    show _ :: (plcG (k + 1) l ++ _) = _ :: plcG (k + 1) (l ++ [y])
    rw [<- ih (k + 1) y]
    have : k + (m :: l).length = k + 1 + l.length := by simp; omega
    rw [this]
theorem plcG_len : ∀ (l : List α) (k : Nat), (plcG k l).length = l.length := by
  intro l
  induction l with
  | nil => intro k; rfl
  | cons m l ih => intro k; simp [plcG, ih]
end
section
variable {α : Type} [DecidableEq α]
theorem plcG_get (y : α) : ∀ (l : List α) (k : Nat), mget (plcG k l) y = if y ∈ l then some ((k + l.idxOf y : Nat) : Int) else none := by
  intro l
  induction l with
  | nil => intro k; rfl
  | cons m l ih =>
    intro k
    rw [plcG, mget, List.idxOf_cons]
    by_cases e : m = y
    · subst e; simp
    · have e2 : (m == y) = false := by simpa using e
      simp only [if_neg e, e2, ih]
      by_cases h : y ∈ l
      · have h' : y ∈ m :: l := by simp [h]
        rw [if_pos h, if_pos h']
        have : k + 1 + List.idxOf y l = k + (List.idxOf y l + 1) := by omega
        simp only [this, cond_false]
      · have h' : y ∉ m :: l := by simp [h]; exact fun e' => e e'.symm
        rw [if_neg h, if_neg h']
theorem plcG_has {l : List α} {y : α} (h : y ∈ l) : mhas (plcG 0 l) y = true ∧ mget (plcG 0 l) y = some ((l.idxOf y : Nat) : Int) := by
  have e : mget (plcG 0 l) y = some ((l.idxOf y : Nat) : Int) := by
    rw [plcG_get, if_pos h]; simp
  exact ⟨by unfold mhas; rw [e]; rfl, e⟩
theorem plcG_new {l : List α} {y : α} (h : y ∉ l) : mhas (plcG 0 l) y = false ∧ mset (plcG 0 l) y (l.length : Int) = plcG 0 (l ++ [y]) := by
  have e : mget (plcG 0 l) y = none := by rw [plcG_get, if_neg h]
  refine ⟨by unfold mhas; rw [e]; rfl, ?_⟩
  rw [mset_none e]
  have := plcG_app l 0 y
  simpa using this
def firsts (κ : Nat -> α) (i : Nat) : List α := once ((List.range i).map κ)
theorem firsts_succ (κ : Nat -> α) (i : Nat) : firsts κ (i + 1) = if κ i ∈ firsts κ i then firsts κ i else firsts κ i ++ [κ i] := by
  unfold firsts
  rw [List.range_succ, List.map_append]
  exact onceOn_snoc (D := []) (l := (List.range i).map κ) (x := κ i)
theorem firsts_pre (κ : Nat -> α) (i : Nat) : ∀ d, ∃ e, firsts κ (i + d) = firsts κ i ++ e := by
  intro d
  induction d with
  | zero => exact ⟨[], by simp⟩
  | succ d ih =>
    obtain ⟨e, he⟩ := ih
    rw [<- Nat.add_assoc, firsts_succ]
    split
    · exact ⟨e, he⟩
    · exact ⟨e ++ [κ (i + d)], by rw [he, List.append_assoc]⟩
theorem firsts_mem {κ : Nat -> α} {i j : Nat} (h : j < i) : κ j ∈ firsts κ i := once_mem.2 (List.mem_map.2 ⟨j, List.mem_range.2 h, rfl⟩)
def place (κ : Nat -> α) (n j : Nat) : Nat := (firsts κ n).idxOf (κ j)
theorem firsts_idx {κ : Nat -> α} {n i j : Nat} (hj : j < i) (hi : i <= n) : place κ n j = (firsts κ i).idxOf (κ j) := by
  unfold place
  obtain ⟨d, rfl⟩ := Nat.le.dest hi
  obtain ⟨e, he⟩ := firsts_pre κ i d
  rw [he, idxOf_pre (firsts_mem hj)]
theorem place_lt {κ : Nat -> α} {n j : Nat} (h : j < n) : place κ n j < (firsts κ n).length := List.idxOf_lt_length_of_mem (firsts_mem h)
theorem firsts_inj {κ : Nat -> α} {n i j : Nat} (hi : i < n) (hj : j < n) (h : place κ n i = place κ n j) : κ i = κ j := by
  unfold place at h
  have h1 := List.idxOf_lt_length_of_mem (firsts_mem (κ := κ) hi)
  have h2 := List.idxOf_lt_length_of_mem (firsts_mem (κ := κ) hj)
  have e1 := List.getElem_idxOf h1
  have e2 := List.getElem_idxOf h2
  rw [<- e1, <- e2]
  congr 1
end
theorem has_place {l : List (List UInt8)} {y : List UInt8} (h : y ∈ l) : mhas (plcG 0 l) y = true ∧ mget (plcG 0 l) y = some ((@List.idxOf _ instBEqOfDecidableEq y l : Nat) : Int) := plcG_has h
theorem f70_nat {u : Nat} (h : u < 1000) : f70 ((u : Nat) : Int) = some (Lib.itoa (u : Int)) := by
  unfold f70
  rw [opt_chk (by omega), opt_ret]
theorem itoa_le {u : Nat} (h : u < 1000) : (Lib.itoa ((u : Nat) : Int)).length <= 3 := by
  rw [itoa_len]
  exact nDigits_le 3 u (by omega) (by omega)
section
variable {m : Ma}
def keyTo (m : Ma) (g : Nat -> Nat) (i c : Nat) : List UInt8 := keyOf (g i) ((List.range c).map fun b => g (m.to i b))
def key (m : Ma) (g : Nat -> Nat) (i : Nat) : List UInt8 := keyTo m g i m.s
theorem keyTo_succ (m : Ma) (g : Nat -> Nat) (i c : Nat) : keyTo m g i (c + 1) = keyTo m g i c ++ ([(32 : UInt8)] ++ Lib.itoa ((g (m.to i c) : Nat) : Int)) := by
  unfold keyTo keyOf
  rw [List.range_succ, List.map_append, List.map_singleton, keyTail_snoc, List.append_assoc]
  rfl
theorem key_iff (hm : m.Fine) {r : Nat} {g : Nat -> Nat} (hg : m.Shows r g) {i j : Nat} (hi : i < m.n) (hj : j < m.n) : key m g i = key m g j ↔ m.R (r + 1) i j := by
  rw [<- alike_R hm hg hi hj]
  constructor
  · intro h
    obtain ⟨h1, h2⟩ := keyOf_inj h
    refine ⟨h1, fun b hb => ?_⟩
    have : ((List.range m.s).map fun b => g (m.to i b))[b]? = ((List.range m.s).map fun b => g (m.to j b))[b]? := by rw [h2]
    simpa [hb] using this
  · rintro ⟨h1, h2⟩
    unfold key keyTo
    rw [h1]
    congr 1
    apply List.map_congr_left
    intro b hb
    exact h2 b (List.mem_range.1 hb)
theorem keyTo_len {g : Nat -> Nat} (hb : ∀ i, i < m.n -> g i < 1000) (hm : m.Fine) {i c : Nat} (hi : i < m.n) (hc : c <= m.s) : (keyTo m g i c).length <= 132 := by
  have hs := hm.s2
  have := keyOf_len (c := g i) (l := (List.range c).map fun b => g (m.to i b)) (k := 3) (by omega) (by have := hb i hi; omega) (by
    intro u hu
    obtain ⟨b, hb', rfl⟩ := List.mem_map.1 hu
    have := hb _ (hm.ok i b hi (by have := List.mem_range.1 hb'; omega))
    omega)
  simp at this
  have h2 : (c + 1) * 4 <= 132 := by omega
  exact Nat.le_trans this h2
theorem loop54c (hm : m.Fine) {g : Nat -> Nat} (hb : ∀ i, i < m.n -> g i < 1000) {i : Nat} (hi : i < m.n) (M : Int) (nx : Nat -> Nat) (res : Option (List Int))
    (hr : loopO g54 (.h2 m.dfa (nums m.n g) ((i + 1 : Nat) : Int) (nums m.n (upto (place (key m g) m.n) (i + 1))) (plcG 0 (firsts (key m g) (i + 1))) M) = res) :
    ∀ (q c : Nat), m.s - c = q -> c <= m.s -> loopO g54 (.h3 m.dfa (nums m.n g) (keyTo m g i c) (m.row i) (c : Int) M (i : Int) (i : Int) (nums m.n (upto (place (key m g) m.n) i)) (plcG 0 (firsts (key m g) i))) = res := by
  have hn := hm.n2
  have hs := hm.s2
  have hlg : (nums m.n g).length = m.n := nums_len _ _
  have hlu : (nums m.n (upto (place (key m g) m.n) i)).length = m.n := nums_len _ _
  have hlr := m.row_len i
  intro q
  induction q with
  | zero =>
    intro c hq hc
    have : c = m.s := by omega
    subst this
    have hget := nums_get0 (upto (place (key m g) m.n) i) hi
    have hset : ∀ v : Nat, v = place (key m g) m.n i -> (nums m.n (upto (place (key m g) m.n) i)).set ((0 : Nat) + (i : Int).toNat) ((v : Nat) : Int) = nums m.n (upto (place (key m g) m.n) (i + 1)) := by
      rintro v rfl
      rw [Nat.zero_add, Int.toNat_natCast, nums_set _ hi]
      refine nums_congr fun j hj => ?_
      unfold upto
      by_cases h1 : j = i
      · subst h1
        rw [if_pos rfl, if_pos (by omega)]
      · rw [if_neg h1]
        by_cases h2 : j < i
        · rw [if_pos h2, if_pos (by omega)]
        · rw [if_neg h2, if_neg (by omega)]
    have hidx := firsts_idx (κ := key m g) (n := m.n) (i := i + 1) (j := i) (by omega) (by omega)
    have hsucc := firsts_succ (key m g) i
    have hk : keyTo m g i m.s = key m g i := rfl
    by_cases hin : key m g i ∈ firsts (key m g) i
    · rw [if_pos hin] at hsucc
      obtain ⟨p1, p2⟩ := has_place hin
      rw [hsucc] at hr hidx
      refine loopO_inl ?_ hr
      unfold g54
      rw [opt_f (by rw [hlr]; simp), hk, opt_t p1, opt_get p2, opt_chk (by rw [hlu]; omega), opt_get hget, opt_chk (by trivial), opt_chk (by simp), opt_ret, wsucc (by omega), hset _ hidx.symm]
    · rw [if_neg hin] at hsucc
      obtain ⟨p1, p2⟩ := plcG_new hin
      rw [hsucc] at hr hidx
      have hnew : @List.idxOf _ instBEqOfDecidableEq (key m g i) (firsts (key m g) i ++ [key m g i]) = (firsts (key m g) i).length := idxOf_new hin
      rw [hnew] at hidx
      refine loopO_inl ?_ hr
      unfold g54
      rw [opt_f (by rw [hlr]; simp), hk, opt_f p1, opt_chk (by rw [hlu]; omega), opt_get hget, opt_chk (by trivial), opt_chk (by simp), opt_ret, wsucc (by omega), plcG_len, hset _ hidx.symm, p2]
  | succ q ih =>
    intro c hq hc
    have hlt : c < m.s := by omega
    have ht := hm.ok i c hi hlt
    have hv := hb _ ht
    have h3 := itoa_le hv
    have hkl := keyTo_len hb hm hi (c := c) (by omega)
    have hih := ih (c + 1) (by omega) (by omega)
    rw [keyTo_succ] at hih
    refine loopO_inl ?_ hih
    unfold g54
    rw [opt_t (by rw [hlr]; simpa using hlt), opt_chk (by omega), opt_get (Ma.row_get i hlt), opt_chk (by rw [hlg]; omega), opt_get (nums_get0 g ht), opt_get (f70_nat hv), opt_chk (by simp; omega), opt_chk (by simp; omega), opt_chk (by trivial), opt_chk (by trivial), opt_ret, wsucc (by omega)]
theorem loop54b (hm : m.Fine) {g : Nat -> Nat} (hb : ∀ i, i < m.n -> g i < 1000) (M : Int) (res : Option (List Int))
    (hr1 : ((firsts (key m g) m.n).length : Int) = M -> some (nums m.n (place (key m g) m.n)) = res)
    (hr2 : ((firsts (key m g) m.n).length : Int) ≠ M -> loopO g54 (.h1 m.dfa (nums m.n (place (key m g) m.n)) ((firsts (key m g) m.n).length : Int)) = res) :
    ∀ (q i : Nat), m.n - i = q -> i <= m.n -> loopO g54 (.h2 m.dfa (nums m.n g) (i : Int) (nums m.n (upto (place (key m g) m.n) i)) (plcG 0 (firsts (key m g) i)) M) = res := by
  have hn := hm.n2
  have hlg : (nums m.n g).length = m.n := nums_len _ _
  intro q
  induction q with
  | zero =>
    intro i hq hi
    have : i = m.n := by omega
    subst this
    have hw : nums m.n (upto (place (key m g) m.n) m.n) = nums m.n (place (key m g) m.n) := nums_congr fun j hj => by unfold upto; rw [if_pos hj]
    rw [hw]
    by_cases h : ((firsts (key m g) m.n).length : Int) = M
    · rw [<- hr1 h]
      refine loopO_inr ?_
      unfold g54
      rw [opt_f (by rw [m.next_len]; simp), opt_t (by rw [plcG_len]; simpa using h), opt_chk (by omega), opt_ret, List.drop_zero, List.take_length]
    · refine loopO_inl ?_ (hr2 h)
      unfold g54
      rw [opt_f (by rw [m.next_len]; simp), opt_f (by rw [plcG_len]; simpa using h), opt_chk (by trivial), opt_ret, plcG_len]
  | succ q ih =>
    intro i hq hi
    have hlt : i < m.n := by omega
    have hv := hb i hlt
    have hk0 : keyTo m g i 0 = Lib.itoa ((g i : Nat) : Int) := by unfold keyTo keyOf keyTail; simp
    have hc := loop54c hm hb hlt M id res (ih (i + 1) (by omega) (by omega)) m.s 0 rfl (by omega)
    rw [hk0] at hc
    refine loopO_inl ?_ hc
    unfold g54
    rw [opt_t (by rw [m.next_len]; simpa using hlt), opt_chk (by omega), opt_get (Ma.next_get hlt), opt_chk (by rw [hlg]; omega), opt_get (nums_get0 g hlt), opt_get (f70_nat hv), opt_chk (by trivial), opt_chk (by trivial), opt_ret]
    rfl
structure Inv54 (m : Ma) (r : Nat) (g : Nat -> Nat) (M : Nat) : Prop where
  shows : m.Shows r g
  low : ∀ i, i < m.n -> g i < 1000
  many : M = 0 ∨ M = (once ((List.range m.n).map g)).length
  le : M <= m.n
theorem firsts_len {α : Type} [DecidableEq α] (κ : Nat -> α) (n : Nat) : (firsts κ n).length <= n := by
  have := (onceOn_len (l := (List.range n).map κ) (D := [])).2
  have e : onceOn [] ((List.range n).map κ) = once ((List.range n).map κ) := rfl
  rw [e] at this
  simpa [firsts] using this
theorem loop54a (hm : m.Fine) : ∀ (q r M : Nat) (g : Nat -> Nat), m.n - M = q -> Inv54 m r g M ->
    ∃ K g', m.Stable K ∧ m.Shows K g' ∧ (∀ i, i < m.n -> g' i < m.n) ∧ loopO g54 (.h1 m.dfa (nums m.n g) (M : Int)) = some (nums m.n g') := by
  have hn := hm.n2
  have hn1 := hm.n1
  intro q
  induction q using Nat.strongRecOn with
  | _ q ih =>
    intro r M g hq inv
    have hlg : (nums m.n g).length = m.n := nums_len _ _
    have start : ∀ res, loopO g54 (.h2 m.dfa (nums m.n g) ((0 : Nat) : Int) (nums m.n (upto (place (key m g) m.n) 0)) (plcG 0 (firsts (key m g) 0)) (M : Int)) = res -> loopO g54 (.h1 m.dfa (nums m.n g) (M : Int)) = res := by
      intro res h
      refine loopO_inl ?_ h
      have e0 : List.replicate ((((nums m.n g).length : Nat) : Int)).toNat (0 : Int) = nums m.n (upto (place (key m g) m.n) 0) := by
        rw [hlg, Int.toNat_natCast, nums_zero]
        exact nums_congr fun j hj => by unfold upto; rw [if_neg (by omega)]
      unfold g54
      rw [opt_chk (by rw [hlg]; refine ⟨by omega, by omega, ?_⟩; simp; omega), opt_chk (by trivial), opt_chk (by trivial), opt_ret, e0]
      rfl
    have hkey : m.Shows (r + 1) (key m g) := fun i j hi hj => key_iff hm inv.shows hi hj
    have hfin : ∀ i j, i < m.n -> j < m.n -> key m g i = key m g j -> g i = g j := fun i j hi hj h => (inv.shows i j hi hj).2 ((hkey i j hi hj).1 h).1
    have hle : (once ((List.range m.n).map g)).length <= (firsts (key m g) m.n).length := finer_len hfin
    have hidx : m.Shows (r + 1) (place (key m g) m.n) := fun i j hi hj =>
      ⟨fun h => (hkey i j hi hj).1 (firsts_inj hi hj h), fun h => by unfold place; rw [(hkey i j hi hj).2 h]⟩
    have hfl := firsts_len (key m g) m.n
    have hlow : ∀ i, i < m.n -> place (key m g) m.n i < m.n := fun i hi => by
      have := place_lt (κ := key m g) hi
      omega
    have hpos : 1 <= (firsts (key m g) m.n).length := List.length_pos_of_mem (firsts_mem (κ := key m g) (show 0 < m.n by omega))
    by_cases hsame : ((firsts (key m g) m.n).length : Int) = (M : Int)
    · have hM : M = (once ((List.range m.n).map g)).length := by rcases inv.many with h | h <;> omega
      have hsm := finer_same hfin (by show _ = (firsts (key m g) m.n).length; omega)
      have hst : m.Stable r := fun i j hi hj h => (hkey i j hi hj).1 (hsm i j hi hj ((inv.shows i j hi hj).2 h))
      refine ⟨r + 1, _, fun i j hi hj h => Ma.stable_up hm.ok hst 2 hi hj (Ma.R_down 1 h), hidx, hlow, ?_⟩
      exact start _ (loop54b hm inv.low (M : Int) _ (fun _ => rfl) (fun h => absurd hsame h) m.n 0 rfl (by omega))
    · have hinv : Inv54 m (r + 1) (place (key m g) m.n) (firsts (key m g) m.n).length := by
        refine ⟨hidx, fun i hi => by have := hlow i hi; omega, .inr ?_, hfl⟩
        have h1 : (once ((List.range m.n).map (key m g))).length <= (once ((List.range m.n).map (place (key m g) m.n))).length :=
          finer_len fun i j hi hj h => firsts_inj hi hj h
        have h2 : (once ((List.range m.n).map (place (key m g) m.n))).length <= (once ((List.range m.n).map (key m g))).length :=
          finer_len fun i j hi hj h => by unfold place; rw [h]
        have h3 : (firsts (key m g) m.n).length = (once ((List.range m.n).map (key m g))).length := rfl
        omega
      have hMlt : M < (firsts (key m g) m.n).length := by rcases inv.many with h | h <;> omega
      obtain ⟨K, g', k1, k2, k3, k4⟩ := ih (m.n - (firsts (key m g) m.n).length) (by omega) (r + 1) (firsts (key m g) m.n).length _ rfl hinv
      refine ⟨K, g', k1, k2, k3, ?_⟩
      exact start _ (loop54b hm inv.low (M : Int) _ (fun h => absurd h hsame) (fun _ => k4) m.n 0 rfl (by omega))
theorem loop54 (hm : m.Fine) (res : Option (List Int)) (hr : loopO g54 (.h1 m.dfa (nums m.n (num0 m)) ((0 : Nat) : Int)) = res) : ∀ (q i : Nat), m.n - i = q -> i <= m.n -> loopO g54 (.h0 m.dfa (i : Int) (nums m.n (upto (num0 m) i))) = res := by
  have hn := hm.n2
  intro q
  induction q with
  | zero =>
    intro i hq hi
    have : i = m.n := by omega
    subst this
    have hw : nums m.n (upto (num0 m) m.n) = nums m.n (num0 m) := nums_congr fun j hj => by unfold upto; rw [if_pos hj]
    rw [hw]
    refine loopO_inl ?_ hr
    unfold g54
    rw [opt_f (by rw [m.ends_len]; simp), opt_chk (by trivial), opt_ret]; rfl
  | succ q ih =>
    intro i hq hi
    have hlt : i < m.n := by omega
    have hl : (nums m.n (upto (num0 m) i)).length = m.n := nums_len _ _
    have hih := ih (i + 1) (by omega) (by omega)
    cases he : m.e i with
    | true =>
      have hset : (nums m.n (upto (num0 m) i)).set ((0 : Nat) + (i : Int).toNat) ((1 : Nat) : Int) = nums m.n (upto (num0 m) (i + 1)) := by
        rw [Nat.zero_add, Int.toNat_natCast, nums_set _ hlt]
        refine nums_congr fun j hj => ?_
        unfold upto
        by_cases h1 : j = i
        · subst h1
          rw [if_pos rfl, if_pos (by omega), num0, if_pos he]
        · rw [if_neg h1]
          by_cases h2 : j < i
          · rw [if_pos h2, if_pos (by omega)]
          · rw [if_neg h2, if_neg (by omega)]
      refine loopO_inl ?_ hih
      unfold g54
      rw [opt_t (by rw [m.ends_len]; simpa using hlt), opt_chk (by omega), opt_get (Ma.ends_get hlt), opt_t he, opt_chk (by rw [hl]; omega), opt_get (nums_get0 _ hlt), opt_chk (by simp), opt_ret, wsucc (by omega), <- hset]
      rfl
    | false =>
      have hsame : nums m.n (upto (num0 m) (i + 1)) = nums m.n (upto (num0 m) i) := by
        refine nums_congr fun j hj => ?_
        unfold upto
        by_cases h1 : j = i
        · subst h1
          rw [if_pos (by omega), if_neg (by omega), num0, he]; rfl
        · by_cases h2 : j < i
          · rw [if_pos h2, if_pos (by omega)]
          · rw [if_neg h2, if_neg (by omega)]
      rw [hsame] at hih
      refine loopO_inl ?_ hih
      unfold g54
      rw [opt_t (by rw [m.ends_len]; simpa using hlt), opt_chk (by omega), opt_get (Ma.ends_get hlt), opt_f he, opt_chk (by trivial), opt_ret, wsucc (by omega)]
theorem classes54 (hm : m.Fine) : ∃ K g, m.Stable K ∧ m.Shows K g ∧ (∀ i, i < m.n -> g i < m.n) ∧ f54 m.dfa = some (nums m.n g) := by
  have hn := hm.n2
  obtain ⟨K, g, h1, h2, h3, hres⟩ := loop54a hm m.n 0 0 (num0 m) rfl ⟨shows_0, fun i _ => by unfold num0; split <;> omega, .inl rfl, by omega⟩
  refine ⟨K, g, h1, h2, h3, ?_⟩
  unfold f54
  refine runO_inl (s' := .h0 m.dfa ((0 : Nat) : Int) (nums m.n (upto (num0 m) 0))) ?_ (loop54 hm _ hres m.n 0 rfl (by omega))
  have e0 : List.replicate (((m.dfa.Next.length : Nat) : Int)).toNat (0 : Int) = nums m.n (upto (num0 m) 0) := by
    rw [m.next_len, Int.toNat_natCast, nums_zero]
    exact nums_congr fun j hj => by unfold upto; rw [if_neg (by omega)]
  unfold s54
  rw [opt_chk (by rw [m.next_len]; refine ⟨by omega, by omega, ?_⟩; simp; omega), opt_chk (by trivial), opt_ret, e0]
  rfl
end
end Go.Proofs.Dfa
/-
  The document's least machine.
-/
namespace Go.Proofs.Dfa
open Go Go.Ab Go.ChangeShapes
set_option linter.unusedVariables false
set_option linter.unusedSimpArgs false
set_option maxRecDepth 100000
def castL (l : List Nat) : List Int := l.map fun (k : Nat) => (k : Int)
theorem castL_len (l : List Nat) : (castL l).length = l.length := by simp [castL]
theorem castL_snoc (l : List Nat) (y : Nat) : castL l ++ [(y : Int)] = castL (l ++ [y]) := by simp [castL]
theorem castL_get {l : List Nat} {i : Nat} {x : Nat} (h : l[i]? = some x) : (castL l)[(0 : Nat) + (i : Int).toNat]? = some (x : Int) := by
  simp [castL, h]
theorem range_get {α : Type} {l : List α} {i : Nat} (h : i < l.length) : l[(0 : Nat) + (i : Int).toNat]? = some l[i] := by simp [h]
theorem turns_end {α : Type} [DecidableEq α] {su : α -> List α} {x0 : α} {T U : Nat} (h1 : (turns su x0 T).length = T) (h2 : (turns su x0 U).length = U) : T = U := by
  rcases Nat.le_total T U with h | h
  · obtain ⟨d, rfl⟩ := Nat.le.dest h
    rw [turns_stop (su := su) (x0 := x0) (t := T) (by omega) d] at h2; omega
  · obtain ⟨d, rfl⟩ := Nat.le.dest h
    rw [turns_stop (su := su) (x0 := x0) (t := U) (by omega) d] at h1; omega
theorem mid_in' {α : Type} [DecidableEq α] {su : α -> List α} {x0 : α} {p : α -> Prop} (h0 : p x0) (hs : ∀ x, p x -> ∀ y ∈ su x, p y) {t : Nat} (ht : t < (turns su x0 t).length) (c : Nat) : ∀ x ∈ mid su x0 t c, p x := by
  intro x hx
  obtain ⟨e, he⟩ := mid_pre ht c
  exact turns_in h0 hs (t + 1) x (by rw [he]; simp [hx])
def outD {α : Type} [DecidableEq α] (s : Nat) (su : α -> List α) (x0 : α) (e : α -> Bool) (T : Nat) : Dfa := ⟨(s : Int), (List.range T).map (turnRow su x0), (turns su x0 T).map e⟩
theorem ends_next {α : Type} [DecidableEq α] {su : α -> List α} {x0 : α} {t : Nat} (e : α -> Bool) (ht : t < (turns su x0 t).length) :
    ((turns su x0 t).take t).map e ++ [e (turns su x0 t)[t]] = ((turns su x0 (t + 1)).take (t + 1)).map e := by
  obtain ⟨l, hl⟩ : ∃ l, turns su x0 (t + 1) = turns su x0 t ++ l := by
    rw [turns_succ ht]; exact onceOn_pre
  have hlt1 : t < (turns su x0 (t + 1)).length := by rw [hl]; simp; omega
  rw [List.take_succ_eq_append_getElem hlt1, List.map_append]
  have e1 : (turns su x0 (t + 1)).take t = (turns su x0 t).take t := by rw [hl, List.take_append_of_le_length (by omega)]
  have e2 : (turns su x0 (t + 1))[t] = (turns su x0 t)[t] := by
    have : (turns su x0 (t + 1))[t]? = (turns su x0 t)[t]? := by rw [hl, List.getElem?_append_left ht]
    rw [List.getElem?_eq_getElem hlt1, List.getElem?_eq_getElem ht] at this
    exact Option.some.inj this
  rw [e1, e2]; rfl
theorem rows_next {α : Type} [DecidableEq α] (su : α -> List α) (x0 : α) (t : Nat) : (List.range t).map (turnRow su x0) ++ [turnRow su x0 t] = (List.range (t + 1)).map (turnRow su x0) := by
  rw [List.range_succ, List.map_append]; rfl
theorem row_next {α : Type} [DecidableEq α] {su : α -> List α} {x0 : α} {t : Nat} (ht : t < (turns su x0 t).length) {c : Nat} (hc : c < (su (turns su x0 t)[t]).length) :
    (turnRow su x0 t).take (c + 1) = (turnRow su x0 t).take c ++ [(((mid su x0 t (c + 1)).idxOf (su (turns su x0 t)[t])[c] : Nat) : Int)] := by
  have htl := turnRow_len (su := su) (x0 := x0) ht
  have hrow := turnRow_get ht hc
  have hlt2 : c < (turnRow su x0 t).length := by omega
  rw [List.take_succ_eq_append_getElem hlt2]
  rw [List.getElem?_eq_getElem hlt2] at hrow
  rw [Option.some.inj hrow]
section
variable {m : Ma}
theorem turns_le {su : Nat -> List Nat} {x0 : Nat} {n : Nat} (h0 : x0 < n) (hs : ∀ x, x < n -> ∀ y ∈ su x, y < n) (t : Nat) : (turns su x0 t).length <= n := by
  have := nodup_sub_len (turns_nodup (su := su) (x0 := x0) t) (b := List.range n) (fun x hx => List.mem_range.2 (turns_in (p := fun x => x < n) h0 hs t x hx))
  simpa using this
theorem mid_le {su : Nat -> List Nat} {x0 : Nat} {n : Nat} (h0 : x0 < n) (hs : ∀ x, x < n -> ∀ y ∈ su x, y < n) {t : Nat} (ht : t < (turns su x0 t).length) (c : Nat) : (mid su x0 t c).length <= n := by
  have := (mid_len (su := su) (x0 := x0) ht c).2
  have := turns_le h0 hs (t + 1)
  omega
theorem find27 {d : Dfa} {cl : List Int} {t : Int} {rows : List (List Int)} {ends : List Bool} {row : List Int} {c : Nat} (A : List Nat) (hA : A.length <= 256) (hrow : row.length <= 256) (hc : c < 256) (y : Nat) (r : Option Dfa)
    (h1 : y ∈ A -> loopO g27 (.h1 d cl ((c + 1 : Nat) : Int) (row ++ [((A.idxOf y : Nat) : Int)]) (castL A) t rows ends) = r)
    (h2 : y ∉ A -> loopO g27 (.h1 d cl ((c + 1 : Nat) : Int) (row ++ [(A.length : Int)]) (castL (A ++ [y])) t rows ends) = r) :
    ∀ (k i : Nat), A.length - i = k -> i <= A.length -> y ∉ A.take i -> loopO g27 (.h2 d cl (y : Int) (i : Int) t (c : Int) rows ends row (castL A)) = r := by
  have hl := castL_len A
  intro k
  induction k with
  | zero =>
    intro i hk hi hy
    have : i = A.length := by omega
    subst this
    rw [List.take_length] at hy
    have h2 := h2 hy
    rw [<- castL_snoc] at h2
    refine loopO_inl ?_ h2
    unfold g27
    rw [opt_f (by rw [hl]; simp), opt_t (by rw [hl]; simp), opt_chk (by simp), opt_chk (by simp [hl]; omega), opt_chk (by simp), opt_chk (by simp; omega), opt_chk (by trivial), opt_chk (by trivial), opt_ret, wsucc (by omega)]
    rfl
  | succ k ih =>
    intro i hk hi hy
    have hlt : i < A.length := by omega
    have hget := castL_get (l := A) (i := i) (x := A[i]) (by simp [hlt])
    by_cases he : A[i] = y
    · have hmem : y ∈ A := he ▸ List.getElem_mem hlt
      have hidx : A.idxOf y = i := idxOf_at hlt he hy
      have h1' := h1 hmem
      rw [hidx] at h1'
      refine loopO_inl ?_ h1'
      unfold g27
      rw [opt_t (by rw [hl]; simpa using hlt), opt_chk (by rw [hl]; omega), opt_get hget, opt_f (by simp [he]), opt_f (by rw [hl]; simp; omega), opt_chk (by simp), opt_chk (by simp; omega), opt_chk (by trivial), opt_chk (by trivial), opt_ret, wsucc (by omega)]
      rfl
    · refine loopO_inl ?_ (ih (i + 1) (by omega) (by omega) ?_)
      · unfold g27
        rw [opt_t (by rw [hl]; simpa using hlt), opt_chk (by rw [hl]; omega), opt_get hget, opt_t (by simp; omega), opt_chk (by trivial), opt_ret, wsucc (by omega)]
      · rw [List.take_succ_eq_append_getElem hlt]
        intro h
        rcases List.mem_append.1 h with h | h
        · exact hy h
        · simp at h; exact he h.symm
def suF (m : Ma) (F : Nat -> Nat) (x : Nat) : List Nat := (List.range m.s).map fun c => F (m.to x c)
theorem suF_len (m : Ma) (F : Nat -> Nat) (x : Nat) : (suF m F x).length = m.s := by simp [suF]
theorem suF_get {m : Ma} {F : Nat -> Nat} {x c : Nat} (h : c < (suF m F x).length) : (suF m F x)[c] = F (m.to x c) := by simp [suF]
theorem suF_lt (hm : m.Fine) {F : Nat -> Nat} (hF : ∀ i, i < m.n -> F i < m.n) : ∀ x, x < m.n -> ∀ y ∈ suF m F x, y < m.n := by
  intro x hx y hy
  obtain ⟨c, hc, rfl⟩ := List.mem_map.1 hy
  exact hF _ (hm.ok x c hx (List.mem_range.1 hc))
def rs0 (m : Ma) (F : Nat -> Nat) (t : Nat) : L27 := .h0 m.dfa (nums m.n F) (t : Int) ((List.range t).map (turnRow (suF m F) (F 0))) (((turns (suF m F) (F 0) t).take t).map m.e) (castL (turns (suF m F) (F 0) t))
def rs1 (m : Ma) (F : Nat -> Nat) (t c : Nat) : L27 := .h1 m.dfa (nums m.n F) (c : Int) ((turnRow (suF m F) (F 0) t).take c) (castL (mid (suF m F) (F 0) t c)) (t : Int) ((List.range t).map (turnRow (suF m F) (F 0))) (((turns (suF m F) (F 0) t).take t).map m.e)
theorem inner27 (hm : m.Fine) {F : Nat -> Nat} (hF : ∀ i, i < m.n -> F i < m.n) {t : Nat} (ht : t < (turns (suF m F) (F 0) t).length) (res : Option Dfa) (hr : loopO g27 (rs0 m F (t + 1)) = res) :
    ∀ (k c : Nat), m.s - c = k -> c <= m.s -> loopO g27 (rs1 m F t c) = res := by
  have hn := hm.n2
  have hn1 := hm.n1
  have hs2 := hm.s2
  have hF0 := hF 0 (by omega)
  have hsl := suF_len m F
  have htn := turns_le hF0 (suF_lt hm hF) t
  have htl := turnRow_len (su := suF m F) (x0 := F 0) ht
  rw [hsl] at htl
  have hx := turns_in (p := fun x => x < m.n) hF0 (suF_lt hm hF) t _ (List.getElem_mem ht)
  intro k
  induction k with
  | zero =>
    intro c hk hc
    have : c = m.s := by omega
    subst this
    have hend := mid_end ht (c := m.s) (by rw [hsl]; omega)
    have hget := castL_get (mid_get ht m.s)
    have hml := (mid_len ht m.s).1
    have hrow : (turnRow (suF m F) (F 0) t).take m.s = turnRow (suF m F) (F 0) t := List.take_of_length_le (by omega)
    have hcl := castL_len (mid (suF m F) (F 0) t m.s)
    refine loopO_inl (s' := rs0 m F (t + 1)) ?_ hr
    unfold rs1 rs0
    rw [hrow, <- rows_next, <- ends_next m.e ht, <- hend]
    unfold g27
    rw [opt_f (by rw [m.sw]; simp), opt_chk (by exact ⟨by omega, by rw [Nat.zero_add]; exact Nat.le_refl _⟩), opt_chk (by simp), opt_chk (by simp; omega), opt_chk (by rw [hcl]; omega), opt_get hget, opt_chk (by omega), opt_get (Ma.ends_get hx), opt_chk (by simp), opt_chk (by simp; omega), opt_chk (by trivial), opt_chk (by trivial), opt_chk (by trivial), opt_ret, wsucc (by omega)]
    simp only [List.drop_zero, List.take_length]
    rfl
  | succ k ihc =>
    intro c hk hc
    have hlt : c < m.s := by omega
    have hget := castL_get (mid_get ht c)
    have hml := (mid_len ht c).1
    have hmn := mid_le hF0 (suF_lt hm hF) ht c
    have hcl := castL_len (mid (suF m F) (F 0) t c)
    have hcs : c < (suF m F (turns (suF m F) (F 0) t)[t]).length := by rw [hsl]; exact hlt
    have hy := suF_get hcs
    have hto := hm.ok _ c hx hlt
    have hms := mid_succ ht hcs
    have hrt := row_next ht hcs
    rw [hy] at hms hrt
    have hih := ihc (c + 1) (by omega) (by omega)
    have hfind := find27 (d := m.dfa) (cl := nums m.n F) (t := (t : Int)) (rows := (List.range t).map (turnRow (suF m F) (F 0))) (ends := ((turns (suF m F) (F 0) t).take t).map m.e) (row := (turnRow (suF m F) (F 0) t).take c) (c := c) (mid (suF m F) (F 0) t c) (by omega) (by simp; omega) (by omega) (F (m.to (turns (suF m F) (F 0) t)[t] c)) res (fun hin => by
      rw [if_pos hin] at hms
      unfold rs1 at hih
      rw [hrt, hms] at hih
      exact hih) (fun hin => by
      rw [if_neg hin] at hms
      unfold rs1 at hih
      rw [hrt, hms, idxOf_new hin] at hih
      exact hih) _ 0 rfl (by omega) (by simp)
    refine loopO_inl ?_ hfind
    unfold rs1 g27
    rw [opt_t (by rw [m.sw]; simpa using hlt), opt_chk (by rw [hcl]; omega), opt_get hget, opt_chk (by omega), opt_get (Ma.next_get hx), opt_chk (by omega), opt_get (Ma.row_get _ hlt), opt_chk (by omega), opt_get (nums_get F hto), opt_chk (by trivial), opt_ret]
    rfl
theorem outer27 (hm : m.Fine) {F : Nat -> Nat} (hF : ∀ i, i < m.n -> F i < m.n) : ∀ (k t : Nat), m.n + 1 - t = k -> t <= (turns (suF m F) (F 0) t).length ->
    ∃ T, (turns (suF m F) (F 0) T).length = T ∧ loopO g27 (rs0 m F t) = some (outD m.s (suF m F) (F 0) m.e T) := by
  have hn := hm.n2
  have hn1 := hm.n1
  have hF0 := hF 0 (by omega)
  intro k
  induction k with
  | zero =>
    intro t hk h1
    have := turns_le hF0 (suF_lt hm hF) t
    omega
  | succ k ih =>
    intro t hk h1
    have hcl := castL_len (turns (suF m F) (F 0) t)
    have htn := turns_le hF0 (suF_lt hm hF) t
    rcases Nat.lt_or_ge t (turns (suF m F) (F 0) t).length with hlt | hge
    · obtain ⟨T, hT, hres⟩ := ih (t + 1) (by omega) (by have := turns_len (su := suF m F) (x0 := F 0) t; omega)
      refine ⟨T, hT, ?_⟩
      have := inner27 hm hF hlt _ hres m.s 0 rfl (by omega)
      refine loopO_inl (s' := rs1 m F t 0) ?_ this
      have hm0 : mid (suF m F) (F 0) t 0 = turns (suF m F) (F 0) t := mid_zero
      unfold rs0 rs1 g27
      rw [opt_t (by rw [hcl]; simpa using hlt), opt_chk (by trivial), opt_chk (by rfl), opt_ret, hm0]
      rfl
    · have hT : (turns (suF m F) (F 0) t).length = t := by omega
      refine ⟨t, hT, loopO_inr ?_⟩
      unfold rs0 g27 outD
      rw [opt_f (by rw [hcl]; simp; omega), opt_chk (by omega), opt_chk (by omega), opt_ret, List.drop_zero, List.drop_zero, List.take_length, List.take_length]
      have : (turns (suF m F) (F 0) t).take t = turns (suF m F) (F 0) t := List.take_of_length_le (by omega)
      rw [this]
      rfl
theorem F_lt {K : Nat} : ∀ i, i < m.n -> m.F K i < m.n := fun i hi => Nat.lt_of_le_of_lt (Ma.F_le K i) hi
theorem small27 (hm : m.Fine) : ∃ K T, m.Stable K ∧ (turns (suF m (m.F K)) (m.F K 0) T).length = T ∧ f27 m.dfa = some (outD m.s (suF m (m.F K)) (m.F K 0) m.e T) := by
  have hn1 := hm.n1
  obtain ⟨K, hK, hcl⟩ := classes53 hm
  obtain ⟨T, hT, hres⟩ := outer27 hm (F := m.F K) F_lt (m.n + 1) 0 rfl (by omega)
  refine ⟨K, T, hK, hT, ?_⟩
  unfold f27
  refine runO_inl (s' := rs0 m (m.F K) 0) ?_ hres
  have h0 : (nums m.n (m.F K))[(0 : Nat)]? = some ((m.F K 0 : Nat) : Int) := nums_get (m.F K) (i := 0) (by omega)
  unfold s27 rs0
  rw [opt_get (right20 _ (fine_few hm)), opt_f (by rw [fine_right hm]; rfl), opt_get hcl, opt_chk (by omega), opt_get h0, opt_chk (by rfl), opt_chk (by rfl), opt_chk (by rfl), opt_ret]
  rfl
theorem small27_not {d : Dfa} (hs : Few d) (h : rightB d = false) : f27 d = some ⟨0, [], []⟩ := by
  unfold f27
  refine runO_inr ?_
  unfold s27
  rw [opt_get (right20 _ hs), opt_t (by rw [h]; rfl), opt_ret]
end
end Go.Proofs.Dfa
/-
  The program's least machine; both are the same.
-/
namespace Go.Proofs.Dfa
open Go Go.Ab Go.ChangeShapes
set_option linter.unusedVariables false
set_option linter.unusedSimpArgs false
set_option maxRecDepth 100000
theorem mget_mset {α β : Type} {k k' : α} {v : β} : ∀ {es : List (α × β)}, mget (mset es k v) k' = @ite _ (k = k') (Classical.propDecidable _) (some v) (mget es k') := by
  intro es
  induction es with
  | nil => rfl
  | cons p es ih =>
    simp only [mset]
    split
    · rename_i h
      simp only [mget]
      rw [h]
      by_cases e : k = k'
      · rw [if_pos e, if_pos e]
      · rw [if_neg e, if_neg e, if_neg e]
    · rename_i h
      simp only [mget]
      by_cases e : p.1 = k'
      · rw [if_pos e, if_pos e]
        rw [if_neg (fun e' => h (by rw [e, e']))]
      · rw [if_neg e, if_neg e, ih]
theorem set_row {row : List Int} {c s : Nat} (hl : row.length = s) (hc : c < s) {v : Int} (hv : row[c]? = some v) :
    (row.take c ++ List.replicate (s - c) (0 : Int)).set c v = row.take (c + 1) ++ List.replicate (s - (c + 1)) 0 := by
  have e : s - c = (s - (c + 1)) + 1 := by omega
  rw [e, List.replicate_succ, List.set_append, if_neg (by simp; omega)]
  have : c - (row.take c).length = 0 := by simp; omega
  rw [this, List.set_cons_zero]
  have hlt : c < row.length := by omega
  rw [List.getElem?_eq_getElem hlt] at hv
  have hv : row[c] = v := Option.some.inj hv
  rw [List.take_succ_eq_append_getElem hlt, hv]
  simp
section
variable {m : Ma}
structure OfOk (m : Ma) (g : Nat -> Nat) (k : Nat) (es : List (Int × Int)) : Prop where
  get : ∀ i, i < k -> ∃ j, j < k ∧ mget es ((g i : Nat) : Int) = some ((j : Nat) : Int) ∧ g j = g i
theorem OfOk.step {g : Nat -> Nat} {k : Nat} {es : List (Int × Int)} (h : OfOk m g k es) : OfOk m g (k + 1) (mset es ((g k : Nat) : Int) ((k : Nat) : Int)) := by
  refine ⟨fun i hi => ?_⟩
  by_cases e : g k = g i
  · exact ⟨k, by omega, by rw [mget_mset, if_pos (by rw [e])], e⟩
  · have hne : i ≠ k := fun h => e (by rw [h])
    obtain ⟨j, h1, h2, h3⟩ := h.get i (by omega)
    exact ⟨j, by omega, by rw [mget_mset, if_neg (by omega), h2], h3⟩
noncomputable def ofOf (es : List (Int × Int)) (c : Int) : Nat := ((mget es c).getD 0).toNat
theorem OfOk.at {g : Nat -> Nat} {es : List (Int × Int)} (h : OfOk m g m.n es) {i : Nat} (hi : i < m.n) : mhas es ((g i : Nat) : Int) = true ∧ mget es ((g i : Nat) : Int) = some ((ofOf es (g i : Int) : Nat) : Int) ∧ ofOf es (g i : Int) < m.n ∧ g (ofOf es (g i : Int)) = g i := by
  obtain ⟨j, h1, h2, h3⟩ := h.get i hi
  have e : ofOf es (g i : Int) = j := by unfold ofOf; rw [h2]; simp
  refine ⟨by unfold mhas; rw [h2]; rfl, by rw [e]; exact h2, by rw [e]; exact h1, by rw [e]; exact h3⟩
noncomputable def suO (m : Ma) (g : Nat -> Nat) (es : List (Int × Int)) (c : Int) : List Int := (List.range m.s).map fun b => ((g (m.to (ofOf es c) b) : Nat) : Int)
theorem suO_len (m : Ma) (g : Nat -> Nat) (es : List (Int × Int)) (c : Int) : (suO m g es c).length = m.s := by simp [suO]
theorem suO_get {m : Ma} {g : Nat -> Nat} {es : List (Int × Int)} {c : Int} {b : Nat} (h : b < (suO m g es c).length) : (suO m g es c)[b] = ((g (m.to (ofOf es c) b) : Nat) : Int) := by simp [suO]
def isCl (m : Ma) (g : Nat -> Nat) (c : Int) : Prop := ∃ i, i < m.n ∧ c = ((g i : Nat) : Int)
theorem suO_cl (hm : m.Fine) {g : Nat -> Nat} {es : List (Int × Int)} (hes : OfOk m g m.n es) : ∀ x, isCl m g x -> ∀ y ∈ suO m g es x, isCl m g y := by
  rintro x ⟨i, hi, rfl⟩ y hy
  obtain ⟨b, hb, rfl⟩ := List.mem_map.1 hy
  exact ⟨_, hm.ok _ b (hes.at hi).2.2.1 (List.mem_range.1 hb), rfl⟩
theorem clTurns_le (hm : m.Fine) {g : Nat -> Nat} {es : List (Int × Int)} (hes : OfOk m g m.n es) (t : Nat) : (turns (suO m g es) (g 0 : Int) t).length <= m.n := by
  have := nodup_sub_len (turns_nodup (su := suO m g es) (x0 := (g 0 : Int)) t) (b := (List.range m.n).map fun i => ((g i : Nat) : Int)) (fun x hx => by
    obtain ⟨i, hi, rfl⟩ := turns_in (p := isCl m g) ⟨0, hm.n1, rfl⟩ (suO_cl hm hes) t x hx
    exact List.mem_map.2 ⟨i, List.mem_range.2 hi, rfl⟩)
  simpa using this
noncomputable def ps0 (m : Ma) (g : Nat -> Nat) (es : List (Int × Int)) (t : Nat) : L28 := .h1 m.dfa (nums m.n g) es (t : Int) ((List.range t).map (turnRow (suO m g es) (g 0 : Int))) (turns (suO m g es) (g 0 : Int) t) (plcG 0 (turns (suO m g es) (g 0 : Int) t))
noncomputable def ps1 (m : Ma) (g : Nat -> Nat) (es : List (Int × Int)) (t c : Nat) : L28 := .h2 m.dfa (nums m.n g) es (c : Int) ((turnRow (suO m g es) (g 0 : Int) t).take c ++ List.replicate (m.s - c) 0) (mid (suO m g es) (g 0 : Int) t c) (plcG 0 (mid (suO m g es) (g 0 : Int) t c)) (t : Int) ((List.range t).map (turnRow (suO m g es) (g 0 : Int)))
theorem wminus {c : Nat} (h : c < 1000) : IntKind.i64.wrap (IntKind.i64.wrap ((c : Int) + 1) - 1) = (c : Int) := by
  rw [wsucc (by omega), w64 (by omega) (by omega)]; omega
theorem inner28 (hm : m.Fine) {g : Nat -> Nat} {es : List (Int × Int)} (hes : OfOk m g m.n es) {t : Nat} (ht : t < (turns (suO m g es) (g 0 : Int) t).length) (res : Option Dfa) (hr : loopO g28 (ps0 m g es (t + 1)) = res) :
    ∀ (k c : Nat), m.s - c = k -> c <= m.s -> loopO g28 (ps1 m g es t c) = res := by
  have hn := hm.n2
  have hn1 := hm.n1
  have hs2 := hm.s2
  have hsl := suO_len m g es
  have htn := clTurns_le hm hes t
  have htn1 := clTurns_le hm hes (t + 1)
  have htl := turnRow_len (su := suO m g es) (x0 := (g 0 : Int)) ht
  rw [hsl] at htl
  have hx := turns_in (p := isCl m g) ⟨0, hn1, rfl⟩ (suO_cl hm hes) t _ (List.getElem_mem ht)
  have hlg : (nums m.n g).length = m.n := nums_len _ _
  have hrl : ∀ c, c <= m.s -> ((turnRow (suO m g es) (g 0 : Int) t).take c ++ List.replicate (m.s - c) (0 : Int)).length = m.s := fun c hc => by simp; omega
  intro k
  induction k with
  | zero =>
    intro c hk hc
    have : c = m.s := by omega
    subst this
    have hend := mid_end ht (c := m.s) (by rw [hsl]; omega)
    have hrow : (turnRow (suO m g es) (g 0 : Int) t).take m.s ++ List.replicate (m.s - m.s) (0 : Int) = turnRow (suO m g es) (g 0 : Int) t := by
      rw [Nat.sub_self, List.replicate_zero, List.append_nil]; exact List.take_of_length_le (by omega)
    refine loopO_inl (s' := ps0 m g es (t + 1)) ?_ hr
    unfold ps1 ps0
    rw [hrow, <- rows_next, hend]
    unfold g28
    rw [opt_f (by rw [m.sw]; simp), opt_chk (by exact ⟨by omega, by rw [Nat.zero_add]; exact Nat.le_refl _⟩), opt_chk (by simp), opt_chk (by simp; omega), opt_chk (by trivial), opt_chk (by trivial), opt_ret, wsucc (by omega)]
    simp only [List.drop_zero, List.take_length]
    rfl
  | succ k ihc =>
    intro c hk hc
    have hlt : c < m.s := by omega
    have hmg := mid_get ht c
    have hml := (mid_len ht c).1
    have hml2 := (mid_len ht (c + 1)).2
    have hget : (mid (suO m g es) (g 0 : Int) t c)[(0 : Nat) + (t : Int).toNat]? = some (turns (suO m g es) (g 0 : Int) t)[t] := by rw [Nat.zero_add, Int.toNat_natCast]; exact hmg
    have hcs : c < (suO m g es (turns (suO m g es) (g 0 : Int) t)[t]).length := by rw [hsl]; exact hlt
    have hy := suO_get hcs
    have hms := mid_succ ht hcs
    have hrow := turnRow_get ht hcs
    rw [hy] at hms hrow
    generalize hxx : (turns (suO m g es) (g 0 : Int) t)[t] = x at hx hget hms hrow
    obtain ⟨i, hi, rfl⟩ := hx
    obtain ⟨o1, o2, o3, o4⟩ := hes.at hi
    have hto := hm.ok _ c o3 hlt
    have hcr : ((turnRow (suO m g es) (g 0 : Int) t).take c ++ List.replicate (m.s - c) (0 : Int))[(0 : Nat) + (c : Int).toNat]? = some (((turnRow (suO m g es) (g 0 : Int) t).take c ++ List.replicate (m.s - c) (0 : Int))[c]'(by rw [hrl c hc]; omega)) := by
      have := hrl c hc
      rw [Nat.zero_add, Int.toNat_natCast, List.getElem?_eq_getElem]
    have hsr := set_row htl hlt hrow
    have hz : (0 : Nat) + (c : Int).toNat = c := by simp
    have hrlc := hrl c hc
    have hih := ihc (c + 1) (by omega) (by omega)
    generalize hyy : ((g (m.to (ofOf es (g i : Int)) c) : Nat) : Int) = y at hms hrow hsr
    have hcl := nums_get0 g hto
    have hcl' := nums_get g hto
    rw [hyy] at hcl hcl'
    by_cases hin : y ∈ mid (suO m g es) (g 0 : Int) t c
    · rw [if_pos hin] at hms
      obtain ⟨p1, p2⟩ := plcG_has hin
      unfold ps1 at hih
      rw [hms] at hih hsr
      refine loopO_inl ?_ hih
      unfold ps1 g28
      rw [opt_t (by rw [m.sw]; simpa using hlt), opt_chk (by omega), opt_get hget, opt_t o1, opt_get o2, opt_chk (by omega), opt_get (Ma.next_get o3), wminus (by omega), opt_chk (by omega), opt_get (Ma.row_get _ hlt), opt_chk (by omega), opt_get hcl', opt_t p1, opt_get p2, opt_chk (by rw [hrlc]; omega), opt_get hcr, opt_chk (by simp), opt_chk (by trivial), opt_ret, wsucc (by omega), hz, hsr]
    · rw [if_neg hin] at hms
      obtain ⟨p1, p2⟩ := plcG_new hin
      have hlen : (mid (suO m g es) (g 0 : Int) t c).length < 256 := by
        rw [hms] at hml2
        simp at hml2
        omega
      unfold ps1 at hih
      rw [hms] at hih hsr
      rw [idxOf_new hin] at hsr
      refine loopO_inl ?_ hih
      unfold ps1 g28
      rw [opt_t (by rw [m.sw]; simpa using hlt), opt_chk (by omega), opt_get hget, opt_t o1, opt_get o2, opt_chk (by omega), opt_get (Ma.next_get o3), wminus (by omega), opt_chk (by omega), opt_get (Ma.row_get _ hlt), opt_chk (by omega), opt_get hcl', opt_f p1, opt_f (by simp; omega), opt_chk (by simp), opt_chk (by simp; omega), opt_chk (by rw [hrlc]; omega), opt_get hcr, opt_chk (by simp), opt_chk (by trivial), opt_ret, wsucc (by omega), hz, hsr, p2]
      rfl
theorem ends28 (hm : m.Fine) {g : Nat -> Nat} {es : List (Int × Int)} (hes : OfOk m g m.n es) (A : List Int) (hA : ∀ c ∈ A, isCl m g c) (hl : A.length <= 256) (rows : List (List Int)) :
    ∀ (k i : Nat), A.length - i = k -> i <= A.length -> loopO g28 (.h3 m.dfa es (A.length : Int) A (i : Int) ((A.take i).map fun c => m.e (ofOf es c)) rows) = some ⟨(m.s : Int), rows, A.map fun c => m.e (ofOf es c)⟩ := by
  intro k
  induction k with
  | zero =>
    intro i hk hi
    have : i = A.length := by omega
    subst this
    refine loopO_inr ?_
    unfold g28
    rw [opt_f (by simp), opt_chk (by omega), opt_chk (by omega), opt_ret, List.drop_zero, List.take_length, List.take_length]
    simp only [List.drop_zero, List.take_length]
    rfl
  | succ k ih =>
    intro i hk hi
    have hlt : i < A.length := by omega
    have hx := hA _ (List.getElem_mem hlt)
    have hget := range_get hlt
    have hih := ih (i + 1) (by omega) (by omega)
    rw [List.take_succ_eq_append_getElem hlt, List.map_append] at hih
    generalize A[i] = x at hx hget hih
    obtain ⟨j, hj, rfl⟩ := hx
    obtain ⟨o1, o2, o3, o4⟩ := hes.at hj
    refine loopO_inl ?_ hih
    unfold g28
    rw [opt_t (by simpa using hlt), opt_chk (by omega), opt_get hget, opt_t o1, opt_get o2, opt_chk (by omega), opt_get (Ma.ends_get o3), opt_chk (by simp), opt_chk (by simp; omega), opt_chk (by trivial), opt_chk (by trivial), opt_chk (by trivial), opt_ret, wsucc (by omega)]
    rfl
theorem outer28 (hm : m.Fine) {g : Nat -> Nat} {es : List (Int × Int)} (hes : OfOk m g m.n es) : ∀ (k t : Nat), m.n + 1 - t = k -> t <= (turns (suO m g es) (g 0 : Int) t).length ->
    ∃ T, (turns (suO m g es) (g 0 : Int) T).length = T ∧ loopO g28 (ps0 m g es t) = some (outD m.s (suO m g es) (g 0 : Int) (fun c => m.e (ofOf es c)) T) := by
  have hn := hm.n2
  have hn1 := hm.n1
  have hs2 := hm.s2
  intro k
  induction k with
  | zero =>
    intro t hk h1
    have := clTurns_le hm hes t
    omega
  | succ k ih =>
    intro t hk h1
    have htn := clTurns_le hm hes t
    rcases Nat.lt_or_ge t (turns (suO m g es) (g 0 : Int) t).length with hlt | hge
    · obtain ⟨T, hT, hres⟩ := ih (t + 1) (by omega) (by have := turns_len (su := suO m g es) (x0 := (g 0 : Int)) t; omega)
      refine ⟨T, hT, ?_⟩
      have := inner28 hm hes hlt _ hres m.s 0 rfl (by omega)
      refine loopO_inl (s' := ps1 m g es t 0) ?_ this
      have hm0 : mid (suO m g es) (g 0 : Int) t 0 = turns (suO m g es) (g 0 : Int) t := mid_zero
      unfold ps0 ps1 g28
      rw [opt_t (by simpa using hlt), opt_chk (by rw [m.sw]; refine ⟨by omega, by omega, ?_⟩; simp; omega), opt_chk (by trivial), opt_chk (by trivial), opt_ret, hm0, m.sw]
      simp
    · have hT : (turns (suO m g es) (g 0 : Int) t).length = t := by omega
      refine ⟨t, hT, ?_⟩
      have he := ends28 hm hes (turns (suO m g es) (g 0 : Int) t) (turns_in (p := isCl m g) ⟨0, hn1, rfl⟩ (suO_cl hm hes) t) (by omega) ((List.range t).map (turnRow (suO m g es) (g 0 : Int))) _ 0 rfl (by omega)
      refine loopO_inl ?_ he
      unfold ps0 g28
      rw [opt_f (by simp; omega), opt_chk (by trivial), opt_chk (by trivial), opt_chk (by rfl), opt_ret]
      rfl
theorem small28 (hm : m.Fine) : ∃ K g es T, m.Stable K ∧ m.Shows K g ∧ OfOk m g m.n es ∧ (turns (suO m g es) (g 0 : Int) T).length = T ∧ f28 m.dfa = some (outD m.s (suO m g es) (g 0 : Int) (fun c => m.e (ofOf es c)) T) := by
  have hn1 := hm.n1
  obtain ⟨K, g, hK, hg, _, hcl⟩ := classes54 hm
  have key : ∃ es T, OfOk m g m.n es ∧ (turns (suO m g es) (g 0 : Int) T).length = T ∧ loopO g28 (.h0 m.dfa (nums m.n g) ((0 : Nat) : Int) []) = some (outD m.s (suO m g es) (g 0 : Int) (fun c => m.e (ofOf es c)) T) := by
    -- the map of the loop, first
    let mk : Nat -> List (Int × Int) := fun k => Nat.rec [] (fun i es => mset es ((g i : Nat) : Int) ((i : Nat) : Int)) k
    have hmk : ∀ k, OfOk m g k (mk k) := by
      intro k
      induction k with
      | zero => exact ⟨fun i hi => by omega⟩
      | succ k ih => exact ih.step
    have hloop : ∀ (q i : Nat), m.n - i = q -> i <= m.n -> ∀ res, loopO g28 (.h1 m.dfa (nums m.n g) (mk m.n) ((0 : Nat) : Int) [] [((g 0 : Nat) : Int)] (mset [] ((g 0 : Nat) : Int) ((0 : Nat) : Int))) = res -> loopO g28 (.h0 m.dfa (nums m.n g) (i : Int) (mk i)) = res := by
      have hn := hm.n2
      have hlg : (nums m.n g).length = m.n := nums_len _ _
      intro q
      induction q with
      | zero =>
        intro i hq hi res hr
        have : i = m.n := by omega
        subst this
        have h0 : (nums m.n g)[(0 : Nat)]? = some ((g 0 : Nat) : Int) := nums_get g (i := 0) (by omega)
        refine loopO_inl ?_ hr
        unfold g28
        rw [opt_f (by rw [hlg]; simp), opt_chk (by omega), opt_get h0, opt_chk (by rfl), opt_chk (by rfl), opt_ret]
        rfl
      | succ q ih =>
        intro i hq hi res hr
        have hlt : i < m.n := by omega
        refine loopO_inl ?_ (ih (i + 1) (by omega) (by omega) res hr)
        unfold g28
        rw [opt_t (by rw [hlg]; simpa using hlt), opt_chk (by omega), opt_get (nums_get g hlt), opt_ret, wsucc (by omega)]
    obtain ⟨T, hT, hres⟩ := outer28 hm (hmk m.n) (m.n + 1) 0 rfl (by omega)
    exact ⟨mk m.n, T, hmk m.n, hT, hloop m.n 0 rfl (by omega) _ hres⟩
  obtain ⟨es, T, k1, k2, k3⟩ := key
  refine ⟨K, g, es, T, hK, hg, k1, k2, ?_⟩
  unfold f28
  refine runO_inl ?_ k3
  unfold s28
  rw [opt_get (right19 _ (fine_few hm)), opt_f (by rw [fine_right hm]; rfl), opt_get hcl, opt_ret]
  rfl
theorem small28_not {d : Dfa} (hs : Few d) (h : rightB d = false) : f28 d = some ⟨0, [], []⟩ := by
  unfold f28
  refine runO_inr ?_
  unfold s28
  rw [opt_get (right19 _ hs), opt_t (by rw [h]; rfl), opt_ret]
theorem small_same (hm : m.Fine) : ∃ K T, m.Stable K ∧ (turns (suF m (m.F K)) (m.F K 0) T).length = T ∧ f27 m.dfa = some (outD m.s (suF m (m.F K)) (m.F K 0) m.e T) ∧ f28 m.dfa = some (outD m.s (suF m (m.F K)) (m.F K 0) m.e T) := by
  have hn1 := hm.n1
  obtain ⟨K, T, hK, hT, h27⟩ := small27 hm
  obtain ⟨L, g, es, U, hL, hg, hes, hU, h28⟩ := small28 hm
  refine ⟨K, T, hK, hT, h27, ?_⟩
  rw [h28]
  congr 1
  -- the first states of classes, and their numbers
  have hKL : ∀ i j, i < m.n -> j < m.n -> (m.R K i j ↔ g i = g j) := fun i j hi hj => (Ma.stable_same hm.ok hK hL hi hj).trans (hg i j hi hj).symm
  have hgF : ∀ i, i < m.n -> g (m.F K i) = g i := fun i hi => ((hKL i _ hi (F_lt i hi)).1 (Ma.F_R K i)).symm
  have p0 : m.F K 0 < m.n ∧ m.F K (m.F K 0) = m.F K 0 := ⟨F_lt 0 hn1, Ma.F_F _ _⟩
  have ps : ∀ x, (x < m.n ∧ m.F K x = x) -> ∀ y ∈ suF m (m.F K) x, (y < m.n ∧ m.F K y = y) := by
    intro x hx y hy
    refine ⟨suF_lt hm F_lt x hx.1 y hy, ?_⟩
    obtain ⟨c, hc, rfl⟩ := List.mem_map.1 hy
    exact Ma.F_F _ _
  have hi : ∀ x y, (x < m.n ∧ m.F K x = x) -> (y < m.n ∧ m.F K y = y) -> ((g x : Nat) : Int) = ((g y : Nat) : Int) -> x = y := by
    intro x y hx hy h
    have := (hKL x y hx.1 hy.1).2 (by omega)
    rw [<- hx.2, <- hy.2]
    exact Ma.F_eq this
  have hc : ∀ x, (x < m.n ∧ m.F K x = x) -> suO m g es ((g x : Nat) : Int) = (suF m (m.F K) x).map (fun x => ((g x : Nat) : Int)) := by
    intro x hx
    unfold suO suF
    rw [List.map_map]
    apply List.map_congr_left
    intro c hc
    have hc := List.mem_range.1 hc
    obtain ⟨_, _, o3, o4⟩ := hes.at hx.1
    have h1 : m.R K (ofOf es (g x : Int)) x := (hKL _ _ o3 hx.1).2 o4
    have h2 := (hK _ _ o3 hx.1 h1).2 c hc
    have h3 := (hKL _ _ (hm.ok _ c o3 hc) (hm.ok x c hx.1 hc)).1 h2
    show ((g _ : Nat) : Int) = ((g (m.F K (m.to x c)) : Nat) : Int)
    rw [hgF _ (hm.ok x c hx.1 hc), h3]
  have hg0 : ((g 0 : Nat) : Int) = ((g (m.F K 0) : Nat) : Int) := by rw [hgF 0 hn1]
  have hturn := turns_map (φ := fun x => ((g x : Nat) : Int)) (p := fun x => x < m.n ∧ m.F K x = x) p0 ps hi hc
  have hrow := turnRow_map (φ := fun x => ((g x : Nat) : Int)) (p := fun x => x < m.n ∧ m.F K x = x) p0 ps hi hc
  simp only [<- hg0] at hturn hrow
  have e : T = U := by
    refine turns_end hT ?_
    have := hU
    rw [hturn, List.length_map] at this
    exact this
  subst e
  unfold outD
  rw [hturn, List.map_map, List.map_congr_left (fun t _ => hrow t)]
  congr 1
  apply List.map_congr_left
  intro x hx
  have hp := turns_in (p := fun x => x < m.n ∧ m.F K x = x) p0 ps T x hx
  obtain ⟨_, _, o3, o4⟩ := hes.at hp.1
  have h1 : m.R K (ofOf es (g x : Int)) x := (hKL _ _ o3 hp.1).2 o4
  have h0 : m.R 0 (ofOf es (g x : Int)) x := by
    have := Ma.R_down (m := m) (k := 0) K (i := ofOf es (g x : Int)) (j := x) (by rw [Nat.zero_add]; exact h1)
    exact this
  exact h0
end
end Go.Proofs.Dfa
/-
  Least machines, and whether they are the same.
-/
namespace Go.Proofs.Dfa
open Go Go.Ab Go.ChangeShapes
set_option linter.unusedVariables false
set_option linter.unusedSimpArgs false
set_option maxRecDepth 100000
theorem outD_right {α : Type} [DecidableEq α] {s : Nat} {su : α -> List α} {x0 : α} {e : α -> Bool} {T : Nat} (hsu : ∀ x, (su x).length = s) (h1 : 1 <= s) (h2 : s <= 32) (hT : (turns su x0 T).length = T) (hb : T <= 256) : rightB (outD s su x0 e T) = true := by
  have hp := turns_pos (su := su) (x0 := x0) T
  have hnl : (outD s su x0 e T).Next.length = T := by simp [outD]
  unfold rightB
  rw [Bool.and_eq_true, decide_eq_true_eq, List.all_eq_true]
  refine ⟨⟨by show (1 : Int) <= (s : Int); omega, by show (s : Int) <= 32; omega, by rw [hnl]; omega, by rw [hnl]; exact hb, by simp [outD]; exact hT⟩, fun r hr => ?_⟩
  obtain ⟨t, ht, rfl⟩ := List.mem_map.1 hr
  have ht := List.mem_range.1 ht
  have htl : t < (turns su x0 t).length := by
    rcases Nat.lt_or_ge t (turns su x0 t).length with h | h
    · exact h
    · obtain ⟨d, hd⟩ := Nat.le.dest (Nat.le_of_lt ht)
      have := turns_stop (su := su) (x0 := x0) (t := t) h d
      rw [hd] at this
      rw [this] at hT
      omega
  simp only [rowB, Bool.and_eq_true, decide_eq_true_eq, List.all_eq_true, goB]
  refine ⟨by rw [turnRow_len htl, hsu]; rfl, fun y hy => ?_⟩
  unfold turnRow at hy
  rw [List.getElem?_eq_getElem htl] at hy
  obtain ⟨z, hz, rfl⟩ := List.mem_map.1 hy
  have hm : z ∈ turns su x0 (t + 1) := by rw [turns_succ htl]; exact onceOn_mem.2 (.inr hz)
  have hlt := List.idxOf_lt_length_of_mem hm
  obtain ⟨d, hd⟩ := Nat.le.dest (show t + 1 <= T by omega)
  have hle := turns_len_le (su := su) (x0 := x0) (t := t + 1) d
  rw [hd, hT] at hle
  rw [hnl]
  omega
theorem outD_few {α : Type} [DecidableEq α] {s : Nat} {su : α -> List α} {x0 : α} {e : α -> Bool} {T : Nat} (hsu : ∀ x, (su x).length = s) (h2 : s <= 32) (hT : (turns su x0 T).length = T) (hb : T <= 256) : Few (outD s su x0 e T) := by
  refine ⟨by simp [outD]; omega, by simp [outD]; omega, fun r hr => ?_⟩
  obtain ⟨t, ht, rfl⟩ := List.mem_map.1 hr
  unfold turnRow
  split
  · simp [hsu]; omega
  · simp
structure Neat (x : Dfa) : Prop where
  few : Few x
  rows : ∀ r ∈ x.Next, (r.length : Int) = x.Switches
  ends : x.Ends.length = x.Next.length
theorem neat_right {x : Dfa} (hs : Few x) (h : rightB x = true) : Neat x := by
  unfold rightB at h
  rw [Bool.and_eq_true, decide_eq_true_eq, List.all_eq_true] at h
  obtain ⟨⟨_, _, _, _, h5⟩, hr⟩ := h
  refine ⟨hs, fun r hm => ?_, h5⟩
  have := hr r hm
  simp only [rowB, Bool.and_eq_true, decide_eq_true_eq] at this
  exact this.1
theorem neat_nil : Neat ⟨0, [], []⟩ := ⟨⟨by simp, by simp, fun r hr => by simp at hr⟩, fun r hr => by simp at hr, rfl⟩
theorem small_ex {m : Ma} (hm : m.Fine) : ∃ w, f27 m.dfa = some w ∧ f28 m.dfa = some w ∧ rightB w = true ∧ Few w := by
  obtain ⟨K, T, hK, hT, h27, h28⟩ := small_same hm
  have hT2 : T <= 256 := by
    have := turns_le (n := m.n) (F_lt (K := K) 0 hm.n1) (suF_lt hm (F_lt (K := K))) T
    have := hm.n2
    omega
  exact ⟨_, h27, h28, outD_right (suF_len m (m.F K)) hm.s1 hm.s2 hT hT2, outD_few (suF_len m (m.F K)) hm.s2 hT hT2⟩
theorem small_any {d : Dfa} (hs : Few d) : ∃ w, f27 d = some w ∧ f28 d = some w ∧ Neat w := by
  by_cases h : rightB d = true
  · obtain ⟨m, hm, rfl⟩ := right_fine h
    obtain ⟨w, h1, h2, h3, h4⟩ := small_ex hm
    exact ⟨w, h1, h2, neat_right h4 h3⟩
  · rw [Bool.not_eq_true] at h
    exact ⟨_, small27_not hs h, small28_not hs h, neat_nil⟩
theorem loop31b (x y : Dfa) {i : Nat} (hi : i < x.Next.length) (hi' : i < y.Next.length) (hl : x.Next[i].length = y.Next[i].length) (hx : x.Next[i].length < 9223372036854775807) (r : Option Bool)
    (hr : loopO g31 (.h1 x.Next[i] x y (x.Next[i].length : Int) (i : Int) (i : Int)) = r) : ∀ (k c : Nat), x.Next[i].length - c = k -> c <= x.Next[i].length ->
    loopO g31 (.h1 x.Next[i] x y (c : Int) (i : Int) (i : Int)) = if x.Next[i].drop c = y.Next[i].drop c then r else some false := by
  intro k
  induction k with
  | zero =>
    intro c hk hc
    have : c = x.Next[i].length := by omega
    subst this
    rw [hr, dropN (Nat.le_refl _), dropN (by omega), if_pos rfl]
  | succ k ih =>
    intro c hk hc
    have hlt : c < x.Next[i].length := by omega
    have hlt' : c < y.Next[i].length := by omega
    rw [dropE hlt, dropE hlt']
    by_cases h : x.Next[i][c] = y.Next[i][c]
    · have hih := ih (c + 1) (by omega) (by omega)
      have e : (x.Next[i][c] :: x.Next[i].drop (c + 1) = y.Next[i][c] :: y.Next[i].drop (c + 1)) ↔ (x.Next[i].drop (c + 1) = y.Next[i].drop (c + 1)) := by
        rw [List.cons.injEq]
        exact ⟨fun h' => h'.2, fun h' => ⟨h, h'⟩⟩
      simp only [e]
      refine loopO_inl ?_ hih
      unfold g31
      rw [opt_t (by simpa using hlt), opt_chk (by omega), opt_get (getO hlt), opt_chk (by omega), opt_get (getO hi'), opt_chk (by omega), opt_get (getO hlt'), opt_f (by simp [h]), opt_ret, wsucc (by omega)]
    · rw [if_neg (fun h' => h (List.cons.inj h').1)]
      refine loopO_inr ?_
      unfold g31
      rw [opt_t (by simpa using hlt), opt_chk (by omega), opt_get (getO hlt), opt_chk (by omega), opt_get (getO hi'), opt_chk (by omega), opt_get (getO hlt'), opt_t (by simp; exact fun e => h e.symm), opt_ret]
theorem loop31 (x y : Dfa) (hx : Neat x) (hy : Neat y) (hsw : x.Switches = y.Switches) (hl : x.Next.length = y.Next.length) : ∀ (k i : Nat), x.Next.length - i = k -> i <= x.Next.length ->
    loopO g31 (.h0 x y (i : Int)) = some (decide (x.Next.drop i = y.Next.drop i ∧ x.Ends.drop i = y.Ends.drop i)) := by
  have hxe := hx.ends
  have hye := hy.ends
  have hxl := hx.few.1
  intro k
  induction k with
  | zero =>
    intro i hk hi
    have : i = x.Next.length := by omega
    subst this
    rw [dropN (Nat.le_refl _), dropN (by omega), dropN (by omega), dropN (by omega)]
    refine loopO_inr ?_
    unfold g31
    rw [opt_f (by simp), opt_ret]
    rfl
  | succ k ih =>
    intro i hk hi
    have h1 : i < x.Next.length := by omega
    have h2 : i < y.Next.length := by omega
    have h3 : i < x.Ends.length := by omega
    have h4 : i < y.Ends.length := by omega
    have r1 := hx.rows _ (List.getElem_mem h1)
    have r2 := hy.rows _ (List.getElem_mem h2)
    have hih := ih (i + 1) (by omega) (by omega)
    rw [dropE h1, dropE h2, dropE h3, dropE h4]
    by_cases he : x.Ends[i] = y.Ends[i]
    · refine loopO_inl (s' := .h1 x.Next[i] x y ((0 : Nat) : Int) (i : Int) (i : Int)) ?_ ?_
      · unfold g31
        rw [opt_t (by simpa using h1), opt_chk (by omega), opt_get (getO h1), opt_chk (by omega), opt_get (getO h3), opt_chk (by omega), opt_get (getO h4), opt_f (by rw [he]; simp), opt_ret]
        rfl
      · rw [loop31b x y h1 h2 (by omega) (hx.few.2.2 _ (List.getElem_mem h1)) _ (by
          refine loopO_inl ?_ hih
          unfold g31
          rw [opt_f (by simp), opt_ret, wsucc (by omega)]) _ 0 rfl (by omega)]
        rw [List.drop_zero, List.drop_zero]
        by_cases hr : x.Next[i] = y.Next[i]
        · rw [if_pos hr]
          refine congrArg some (decide_eq_decide.2 ?_)
          rw [List.cons.injEq, List.cons.injEq]
          exact ⟨fun ⟨p, q⟩ => ⟨⟨hr, p⟩, ⟨he, q⟩⟩, fun ⟨⟨_, p⟩, ⟨_, q⟩⟩ => ⟨p, q⟩⟩
        · rw [if_neg hr, decide_eq_false (fun ⟨p, _⟩ => hr (List.cons.inj p).1)]
    · rw [decide_eq_false (fun ⟨_, p⟩ => he (List.cons.inj p).1)]
      refine loopO_inr ?_
      unfold g31
      rw [opt_t (by simpa using h1), opt_chk (by omega), opt_get (getO h1), opt_chk (by omega), opt_get (getO h3), opt_chk (by omega), opt_get (getO h4), opt_t (by simpa using he), opt_ret]
theorem same31 {c d x y : Dfa} (hc : Few c) (hd : Few d) (x2 : f28 c = some x) (y2 : f28 d = some y) (x3 : Neat x) (y3 : Neat y) : f31 c d = some (rightB c && (rightB d && decide (x = y))) := by
  have key : (x = y) ↔ (x.Switches = y.Switches ∧ x.Next = y.Next ∧ x.Ends = y.Ends) := by cases x; cases y; simp
  unfold f31
  cases h1 : rightB c with
  | false =>
    refine runO_inr ?_
    unfold s31
    rw [opt_get x2, opt_get y2, opt_get (right19 _ hc), opt_t (by rw [h1]; rfl), opt_ret]; rfl
  | true =>
    cases h2 : rightB d with
    | false =>
      refine runO_inr ?_
      unfold s31
      rw [opt_get x2, opt_get y2, opt_get (right19 _ hc), opt_f (by rw [h1]; rfl), opt_get (right19 _ hd), opt_t (by rw [h2]; rfl), opt_ret]; rfl
    | true =>
      simp only [Bool.true_and]
      by_cases h3 : x.Switches = y.Switches
      · by_cases h4 : x.Next.length = y.Next.length
        · refine runO_inl (s' := .h0 x y ((0 : Nat) : Int)) ?_ ?_
          · unfold s31
            rw [opt_get x2, opt_get y2, opt_get (right19 _ hc), opt_f (by rw [h1]; rfl), opt_get (right19 _ hd), opt_f (by rw [h2]; rfl), opt_f (by simp [h3]), opt_f (by simp; omega), opt_ret]; rfl
          · rw [loop31 x y x3 y3 h3 h4 _ 0 rfl (by omega)]
            refine congrArg some (decide_eq_decide.2 ?_)
            rw [key, List.drop_zero, List.drop_zero, List.drop_zero, List.drop_zero]
            exact ⟨fun h => ⟨h3, h⟩, fun h => h.2⟩
        · rw [decide_eq_false (fun h => h4 (by rw [h]))]
          refine runO_inr ?_
          unfold s31
          rw [opt_get x2, opt_get y2, opt_get (right19 _ hc), opt_f (by rw [h1]; rfl), opt_get (right19 _ hd), opt_f (by rw [h2]; rfl), opt_f (by simp [h3]), opt_t (by simp; omega), opt_ret]
      · rw [decide_eq_false (fun h => h3 (by rw [h]))]
        refine runO_inr ?_
        unfold s31
        rw [opt_get x2, opt_get y2, opt_get (right19 _ hc), opt_f (by rw [h1]; rfl), opt_get (right19 _ hd), opt_f (by rw [h2]; rfl), opt_t (by simp [h3]), opt_ret]
theorem few_of {d : Dfa} (h : wf_36 d) : Few d := by
  obtain ⟨_, h2, h3⟩ := h
  have e : reachBytes <= 140737488355328 := by decide
  refine ⟨?_, ?_, fun r hr => ?_⟩
  · have := h2.1; omega
  · have := h3.1; omega
  · have := (h2.2 r hr).1; omega
end Go.Proofs.Dfa
/-
  The least machine in short; its words; it is its own least one.
-/
namespace Go.Proofs.Dfa
open Go Go.Ab Go.ChangeShapes
set_option linter.unusedVariables false
set_option linter.unusedSimpArgs false
set_option maxRecDepth 100000
theorem nodup_get {α : Type} {l : List α} (h : l.Nodup) {i j : Nat} (hi : i < l.length) (hj : j < l.length) (e : l[i] = l[j]) : i = j := by
  have hp := List.pairwise_iff_getElem.1 h
  rcases Nat.lt_trichotomy i j with h1 | h1 | h1
  · exact absurd e (hp i j hi hj h1)
  · exact h1
  · exact absurd e.symm (hp j i hj hi h1)
section
variable {α : Type} [DecidableEq α] {su : α -> List α} {x0 : α} {T : Nat}
theorem idxOf_nodup {l : List α} (h : l.Nodup) {j : Nat} (hj : j < l.length) : l.idxOf l[j] = j := by
  refine idxOf_at hj rfl fun hm => ?_
  obtain ⟨i, hi, he⟩ := List.getElem_of_mem hm
  have hi' : i < j := by simp at hi; omega
  rw [List.getElem_take] at he
  have := nodup_get h (by omega) hj he
  omega
theorem turns_pre (t : Nat) : ∀ d, ∃ e, turns su x0 (t + d) = turns su x0 t ++ e := by
  intro d
  induction d with
  | zero => exact ⟨[], by simp⟩
  | succ d ih =>
    obtain ⟨e, he⟩ := ih
    show ∃ e, turns su x0 ((t + d) + 1) = _
    simp only [turns]
    split
    · rename_i x _
      obtain ⟨e2, h2⟩ := onceOn_pre (l := su x) (D := turns su x0 (t + d))
      exact ⟨e ++ e2, by rw [h2, he, List.append_assoc]⟩
    · exact ⟨e, he⟩
theorem turns_lt (hT : (turns su x0 T).length = T) {t : Nat} (ht : t < T) : t < (turns su x0 t).length := by
  rcases Nat.lt_or_ge t (turns su x0 t).length with h | h
  · exact h
  · obtain ⟨d, hd⟩ := Nat.le.dest (Nat.le_of_lt ht)
    have := turns_stop (su := su) (x0 := x0) (t := t) h d
    rw [hd] at this
    rw [this] at hT
    omega
theorem turns_at (hT : (turns su x0 T).length = T) {t : Nat} (ht : t < T) : (turns su x0 t)[t]'(turns_lt hT ht) = (turns su x0 T)[t]'(by omega) := by
  obtain ⟨d, hd⟩ := Nat.le.dest (Nat.le_of_lt ht)
  obtain ⟨e, he⟩ := turns_pre (su := su) (x0 := x0) t d
  have h1 := turns_lt hT ht
  have h2 : (turns su x0 T)[t]? = (turns su x0 t)[t]? := by rw [<- hd, he, List.getElem?_append_left h1]
  rw [List.getElem?_eq_getElem h1, List.getElem?_eq_getElem (by omega)] at h2
  exact (Option.some.inj h2).symm
theorem turns_next_in (hT : (turns su x0 T).length = T) {t : Nat} (ht : t < T) {y : α} (hy : y ∈ su ((turns su x0 T)[t]'(by omega))) : y ∈ turns su x0 (t + 1) ∧ (turns su x0 (t + 1)).idxOf y = (turns su x0 T).idxOf y := by
  have h1 := turns_lt hT ht
  rw [<- turns_at hT ht] at hy
  have hm : y ∈ turns su x0 (t + 1) := by rw [turns_succ h1]; exact onceOn_mem.2 (.inr hy)
  obtain ⟨d, hd⟩ := Nat.le.dest (show t + 1 <= T by omega)
  obtain ⟨e, he⟩ := turns_pre (su := su) (x0 := x0) (t + 1) d
  refine ⟨hm, ?_⟩
  rw [<- hd, he, idxOf_pre hm]
theorem turnRow_all (hT : (turns su x0 T).length = T) {t : Nat} (ht : t < T) : turnRow su x0 t = (su ((turns su x0 T)[t]'(by omega))).map fun y => (((turns su x0 T).idxOf y : Nat) : Int) := by
  have h1 := turns_lt hT ht
  unfold turnRow
  rw [List.getElem?_eq_getElem h1]
  simp only
  rw [turns_at hT ht]
  apply List.map_congr_left
  intro y hy
  rw [(turns_next_in hT ht hy).2]
theorem turns_from (hT : (turns su x0 T).length = T) : ∀ (t j : Nat), t <= T -> j < (turns su x0 t).length -> 0 < j -> ∃ u, ∃ hu : u < T, u < j ∧ ∃ y ∈ su ((turns su x0 T)[u]'(by omega)), (turns su x0 T).idxOf y = j := by
  intro t
  induction t with
  | zero => intro j _ hj h0; simp [turns] at hj; omega
  | succ t ih =>
    intro j ht hj h0
    have hlt : t < T := by omega
    have h1 := turns_lt hT hlt
    rcases Nat.lt_or_ge j (turns su x0 t).length with h | h
    · exact ih j (by omega) h h0
    · refine ⟨t, hlt, by omega, (turns su x0 (t + 1))[j], ?_, ?_⟩
      · have hm : (turns su x0 (t + 1))[j] ∈ onceOn (turns su x0 t) (su (turns su x0 t)[t]) := by
          rw [<- turns_succ h1]; exact List.getElem_mem hj
        rcases onceOn_mem.1 hm with hm | hm
        · exfalso
          obtain ⟨e, he⟩ := turns_pre (su := su) (x0 := x0) t 1
          obtain ⟨i, hi, hi'⟩ := List.getElem_of_mem hm
          have hn := turns_nodup (su := su) (x0 := x0) (t + 1)
          have h3 : (turns su x0 (t + 1))[i]'(by omega) = (turns su x0 t)[i] := by
            have : (turns su x0 (t + 1))[i]? = (turns su x0 t)[i]? := by rw [he, List.getElem?_append_left hi]
            rw [List.getElem?_eq_getElem hi, List.getElem?_eq_getElem (by omega)] at this
            exact Option.some.inj this
          have : i = j := nodup_get hn (by omega) hj (by rw [h3, hi'])
          omega
        · rw [<- turns_at hT hlt]; exact hm
      · obtain ⟨d, hd⟩ := Nat.le.dest ht
        obtain ⟨e, he⟩ := turns_pre (su := su) (x0 := x0) (t + 1) d
        have hn := turns_nodup (su := su) (x0 := x0) (t + 1)
        rw [<- hd, he, idxOf_pre (List.getElem_mem hj)]
        exact idxOf_nodup hn hj
end
section
variable {m : Ma} {K T : Nat}
noncomputable def Ma.ord (m : Ma) (K T t : Nat) : Nat := (turns (suF m (m.F K)) (m.F K 0) T).getD t 0
noncomputable def Ma.small (m : Ma) (K T : Nat) : Ma := ⟨T, m.s, fun t c => (turns (suF m (m.F K)) (m.F K 0) T).idxOf (m.F K (m.to (m.ord K T t) c)), fun t => m.e (m.ord K T t)⟩
structure Least (m : Ma) (K T : Nat) : Prop where
  fine : m.Fine
  stable : m.Stable K
  over : (turns (suF m (m.F K)) (m.F K 0) T).length = T
namespace Least
variable (h : Least m K T)
include h
theorem ord_eq {t : Nat} (ht : t < T) : m.ord K T t = (turns (suF m (m.F K)) (m.F K 0) T)[t]'(by rw [h.over]; exact ht) := by
  have := h.over
  unfold Ma.ord
  rw [List.getD_eq_getElem?_getD, List.getElem?_eq_getElem (by omega), Option.getD_some]
theorem pos : 0 < T := by
  have := turns_pos (su := suF m (m.F K)) (x0 := m.F K 0) T
  rw [h.over] at this
  exact this
theorem le : T <= m.n := by
  have := turns_le (n := m.n) (F_lt (K := K) 0 h.fine.n1) (suF_lt h.fine (F_lt (K := K))) T
  rw [h.over] at this
  exact this
theorem ord_ok {t : Nat} (ht : t < T) : m.ord K T t < m.n ∧ m.F K (m.ord K T t) = m.ord K T t := by
  have p0 : m.F K 0 < m.n ∧ m.F K (m.F K 0) = m.F K 0 := ⟨F_lt 0 h.fine.n1, Ma.F_F _ _⟩
  have ps : ∀ x, (x < m.n ∧ m.F K x = x) -> ∀ y ∈ suF m (m.F K) x, (y < m.n ∧ m.F K y = y) := by
    intro x hx y hy
    refine ⟨suF_lt h.fine F_lt x hx.1 y hy, ?_⟩
    obtain ⟨c, hc, rfl⟩ := List.mem_map.1 hy
    exact Ma.F_F _ _
  rw [h.ord_eq ht]
  exact turns_in (p := fun x => x < m.n ∧ m.F K x = x) p0 ps T _ (List.getElem_mem _)
theorem ord_inj {t u : Nat} (ht : t < T) (hu : u < T) (e : m.ord K T t = m.ord K T u) : t = u := by
  rw [h.ord_eq ht, h.ord_eq hu] at e
  have hn := turns_nodup (su := suF m (m.F K)) (x0 := m.F K 0) T
  have := h.over
  exact nodup_get hn (by omega) (by omega) e
theorem ord_zero : m.ord K T 0 = m.F K 0 := by
  rw [h.ord_eq h.pos]
  obtain ⟨e, he⟩ := turns_pre (su := suF m (m.F K)) (x0 := m.F K 0) 0 T
  simp only [Nat.zero_add] at he
  simp only [he]
  rfl
theorem to_mem {t c : Nat} (ht : t < T) (hc : c < m.s) : m.F K (m.to (m.ord K T t) c) ∈ turns (suF m (m.F K)) (m.F K 0) T := by
  have hy : m.F K (m.to (m.ord K T t) c) ∈ suF m (m.F K) ((turns (suF m (m.F K)) (m.F K 0) T)[t]'(by rw [h.over]; exact ht)) := by
    rw [<- h.ord_eq ht]
    exact List.mem_map.2 ⟨c, List.mem_range.2 hc, rfl⟩
  have h1 := (turns_next_in h.over ht hy).1
  obtain ⟨d, hd⟩ := Nat.le.dest (show t + 1 <= T by omega)
  obtain ⟨e, he⟩ := turns_pre (su := suF m (m.F K)) (x0 := m.F K 0) (t + 1) d
  have e2 : turns (suF m (m.F K)) (m.F K 0) T = turns (suF m (m.F K)) (m.F K 0) (t + 1) ++ e := by rw [<- hd]; exact he
  rw [e2]
  exact List.mem_append.2 (.inl h1)
theorem to_lt {t c : Nat} (ht : t < T) (hc : c < m.s) : (m.small K T).to t c < T := by
  have := List.idxOf_lt_length_of_mem (h.to_mem ht hc)
  rw [h.over] at this
  exact this
theorem ord_to {t c : Nat} (ht : t < T) (hc : c < m.s) : m.ord K T ((m.small K T).to t c) = m.F K (m.to (m.ord K T t) c) := by
  rw [h.ord_eq (h.to_lt ht hc)]
  exact List.getElem_idxOf (List.idxOf_lt_length_of_mem (h.to_mem ht hc))
theorem small_fine : (m.small K T).Fine :=
  ⟨fun t c ht hc => h.to_lt ht hc, h.pos, Nat.le_trans h.le h.fine.n2, h.fine.s1, h.fine.s2⟩
theorem small_dfa : (m.small K T).dfa = outD m.s (suF m (m.F K)) (m.F K 0) m.e T := by
  unfold Ma.dfa outD
  show Dfa.mk (m.s : Int) _ _ = _
  congr 1
  · apply List.map_congr_left
    intro t ht
    have ht := List.mem_range.1 ht
    rw [turnRow_all h.over ht]
    rw [<- h.ord_eq ht]
    unfold suF
    rw [List.map_map]
    rfl
  · apply List.ext_getElem?
    intro t
    by_cases ht : t < T
    · have := h.over
      rw [List.getElem?_map, List.getElem?_range (show t < (m.small K T).n from ht), List.getElem?_map, List.getElem?_eq_getElem (by omega), Option.map_some, Option.map_some]
      congr 1
      show m.e (m.ord K T t) = _
      rw [h.ord_eq ht]
    · have := h.over
      rw [List.getElem?_eq_none (by simp; show T <= t; omega), List.getElem?_eq_none (by simp; omega)]
theorem R_all {i j : Nat} (hi : i < m.n) (hj : j < m.n) (hr : m.R K i j) (k : Nat) : m.R k i j := by
  rcases Nat.le_total k K with hk | hk
  · obtain ⟨d, hd⟩ := Nat.le.dest hk
    exact Ma.R_down d (by rw [hd]; exact hr)
  · obtain ⟨d, rfl⟩ := Nat.le.dest hk
    exact Ma.stable_up h.fine.ok h.stable d hi hj hr
theorem small_R (k : Nat) : ∀ {t u : Nat}, t < T -> u < T -> ((m.small K T).R k t u ↔ m.R k (m.ord K T t) (m.ord K T u)) := by
  induction k with
  | zero => intro t u _ _; exact Iff.rfl
  | succ k ih =>
    intro t u ht hu
    have o1 := (h.ord_ok ht).1
    have o2 := (h.ord_ok hu).1
    refine and_congr (ih ht hu) (forall_congr' fun c => imp_congr_right fun hc => ?_)
    have hc : c < m.s := hc
    rw [ih (h.to_lt ht hc) (h.to_lt hu hc), h.ord_to ht hc, h.ord_to hu hc]
    have k1 := h.fine.ok _ c o1 hc
    have k2 := h.fine.ok _ c o2 hc
    have e1 := h.R_all k1 (F_lt _ k1) (Ma.F_R K _) k
    have e2 := h.R_all k2 (F_lt _ k2) (Ma.F_R K _) k
    exact ⟨fun hh => Ma.R_trans e1 (Ma.R_trans hh (Ma.R_symm e2)), fun hh => Ma.R_trans (Ma.R_symm e1) (Ma.R_trans hh e2)⟩
theorem apart {t u : Nat} (ht : t < T) (hu : u < T) (hr : (m.small K T).R K t u) : t = u := by
  have := (h.small_R K ht hu).1 hr
  have e := Ma.F_eq this
  rw [(h.ord_ok ht).2, (h.ord_ok hu).2] at e
  exact h.ord_inj ht hu e
theorem small_F {L : Nat} (hL : (m.small K T).Stable L) {t : Nat} (ht : t < T) : (m.small K T).F L t = t := by
  have hlt : (m.small K T).F L t < T := Nat.lt_of_le_of_lt (Ma.F_le L t) ht
  have hr := Ma.F_R (m := m.small K T) L t
  have h2 := Ma.stable_up h.small_fine.ok hL K ht hlt hr
  rw [Nat.add_comm] at h2
  exact (h.apart ht hlt (Ma.R_down L h2)).symm
theorem own : f28 (m.small K T).dfa = some (m.small K T).dfa := by
  obtain ⟨L, U, hL, hU, _, h28⟩ := small_same h.small_fine
  rw [h28, h.small_dfa]
  congr 1
  have hF0 : (m.small K T).F L 0 = 0 := h.small_F hL h.pos
  rw [hF0] at hU ⊢
  have ps : ∀ x, x < T -> ∀ y ∈ suF (m.small K T) ((m.small K T).F L) x, y < T := suF_lt h.small_fine (F_lt (K := L))
  have hi : ∀ x y, x < T -> y < T -> m.ord K T x = m.ord K T y -> x = y := fun x y hx hy e => h.ord_inj hx hy e
  have hc : ∀ x, x < T -> suF m (m.F K) (m.ord K T x) = (suF (m.small K T) ((m.small K T).F L) x).map (m.ord K T) := by
    intro x hx
    unfold suF
    rw [List.map_map]
    apply List.map_congr_left
    intro c hc
    have hc : c < m.s := List.mem_range.1 hc
    show _ = m.ord K T ((m.small K T).F L ((m.small K T).to x c))
    rw [h.small_F hL (h.to_lt hx hc), h.ord_to hx hc]
  have hturn := turns_map (φ := m.ord K T) (p := fun x => x < T) h.pos ps hi hc
  have hrow := turnRow_map (φ := m.ord K T) (p := fun x => x < T) h.pos ps hi hc
  rw [h.ord_zero] at hturn hrow
  have e : T = U := by
    refine turns_end h.over ?_
    rw [hturn, List.length_map]; exact hU
  subst e
  unfold outD
  rw [hturn, List.map_map, List.map_congr_left (fun t _ => hrow t)]
  rfl
end Least
theorem least_ex {m : Ma} (hm : m.Fine) : ∃ K T, Least m K T ∧ f28 m.dfa = some (m.small K T).dfa := by
  obtain ⟨K, T, hK, hT, _, h28⟩ := small_same hm
  have h : Least m K T := ⟨hm, hK, hT⟩
  exact ⟨K, T, h, by rw [h28, h.small_dfa]⟩
end
def runB (m : Ma) : Nat -> List Int -> Bool
  | at_, [] => m.e at_
  | at_, n :: w => if n < 1 ∨ (m.s : Int) < n then false else runB m (m.to at_ (n - 1).toNat) w
theorem loop25 {m : Ma} (hm : m.Fine) (w : List Int) (hw : w.length < 9223372036854775807) : ∀ (k i a : Nat), w.length - i = k -> i <= w.length -> a < m.n -> loopO g25 (.h0 m.dfa w (i : Int) (a : Int)) = some (runB m a (w.drop i)) := by
  have hs := hm.s2
  intro k
  induction k with
  | zero =>
    intro i a hk hi ha
    have : i = w.length := by omega
    subst this
    rw [dropN (Nat.le_refl _)]
    refine loopO_inr ?_
    unfold g25
    rw [opt_f (by simp), opt_chk (by omega), opt_get (Ma.ends_get ha), opt_ret]
    rfl
  | succ k ih =>
    intro i a hk hi ha
    have hlt : i < w.length := by omega
    rw [dropE hlt, runB]
    by_cases h1 : w[i] < 1
    · rw [if_pos (.inl h1)]
      refine loopO_inr ?_
      unfold g25
      rw [opt_t (by simpa using hlt), opt_chk (by omega), opt_get (getO hlt), opt_t (by simpa using h1), opt_ret]
    · by_cases h2 : (m.s : Int) < w[i]
      · rw [if_pos (.inr h2)]
        refine loopO_inr ?_
        unfold g25
        rw [opt_t (by simpa using hlt), opt_chk (by omega), opt_get (getO hlt), opt_f (by simpa using h1), opt_t (by rw [m.sw]; simpa using h2), opt_ret]
      · rw [if_neg (by omega)]
        have hc : (w[i] - 1).toNat < m.s := by omega
        have hto := hm.ok a _ ha hc
        have hwr : IntKind.i64.wrap (w[i] - 1) = (((w[i] - 1).toNat : Nat) : Int) := by rw [w64 (by omega) (by omega)]; omega
        refine loopO_inl ?_ (ih (i + 1) _ (by omega) (by omega) hto)
        unfold g25
        rw [opt_t (by simpa using hlt), opt_chk (by omega), opt_get (getO hlt), opt_f (by simpa using h1), opt_f (by rw [m.sw]; simpa using h2), opt_chk (by omega), opt_get (Ma.next_get ha), hwr, opt_chk (by omega), opt_get (Ma.row_get a hc), opt_ret, wsucc (by omega)]
theorem run25 {m : Ma} (hm : m.Fine) (w : List Int) (hw : w.length < 9223372036854775807) : f25 m.dfa w = some (runB m 0 w) := by
  unfold f25
  refine runO_inl (s' := .h0 m.dfa w ((0 : Nat) : Int) ((0 : Nat) : Int)) ?_ (loop25 hm w hw _ 0 0 rfl (by omega) hm.n1)
  unfold s25
  rw [opt_get (right19 _ (fine_few hm)), opt_f (by rw [fine_right hm]; rfl), opt_ret]
  rfl
theorem run_same {m l : Ma} (hs : m.s = l.s) {B : Nat -> Nat -> Prop} (he : ∀ i j, B i j -> m.e i = l.e j) (ht : ∀ i j, B i j -> ∀ c, c < m.s -> B (m.to i c) (l.to j c)) : ∀ (w : List Int) {i j : Nat}, B i j -> runB m i w = runB l j w := by
  intro w
  induction w with
  | nil => intro i j h; exact he i j h
  | cons n w ih =>
    intro i j h
    rw [runB, runB, hs]
    split
    · rfl
    · rename_i hn
      exact ih (ht i j h _ (by omega))
theorem R_of_run {m : Ma} (hm : m.Fine) : ∀ (k : Nat) {i j : Nat}, i < m.n -> j < m.n -> (∀ w, runB m i w = runB m j w) -> m.R k i j := by
  intro k
  induction k with
  | zero => intro i j _ _ h; exact h []
  | succ k ih =>
    intro i j hi hj h
    refine ⟨ih hi hj h, fun c hc => ih (hm.ok i c hi hc) (hm.ok j c hj hc) fun w => ?_⟩
    have := h (((c : Int) + 1) :: w)
    rw [runB, runB, if_neg (by omega), if_neg (by omega)] at this
    have e : ((c : Int) + 1 - 1).toNat = c := by omega
    rw [e] at this
    exact this
theorem Least.run {m : Ma} {K T : Nat} (h : Least m K T) (w : List Int) : runB m 0 w = runB (m.small K T) 0 w := by
  refine run_same (m := m) (l := m.small K T) (B := fun i t => i < m.n ∧ t < T ∧ m.R K i (m.ord K T t)) rfl (fun i t hB => ?_) (fun i t hB c hc => ?_) w ⟨h.fine.n1, h.pos, ?_⟩
  · exact h.R_all hB.1 (h.ord_ok hB.2.1).1 hB.2.2 0
  · obtain ⟨b1, b2, b3⟩ := hB
    have o := (h.ord_ok b2).1
    have k1 := h.fine.ok _ c b1 hc
    have k2 := h.fine.ok _ c o hc
    refine ⟨k1, h.to_lt b2 hc, ?_⟩
    rw [h.ord_to b2 hc]
    exact Ma.R_trans ((h.stable _ _ b1 o b3).2 c hc) (Ma.F_R K _)
  · rw [h.ord_zero]; exact Ma.F_R K 0
end Go.Proofs.Dfa
/-
  Words lead to each state of a least machine, in turn; another first state.
-/
namespace Go.Proofs.Dfa
open Go Go.Ab Go.ChangeShapes
set_option linter.unusedVariables false
set_option linter.unusedSimpArgs false
set_option maxRecDepth 100000
def Led (m : Ma) : Prop := ∀ j, j < m.n -> 0 < j -> ∃ u, u < j ∧ ∃ c, c < m.s ∧ m.to u c = j
theorem Least.led {m : Ma} {K T : Nat} (h : Least m K T) : Led (m.small K T) := by
  intro j hj h0
  have hj : j < T := hj
  obtain ⟨u, hu, hlt, y, hy, he⟩ := turns_from h.over T j (Nat.le_refl _) (by rw [h.over]; exact hj) h0
  refine ⟨u, hlt, ?_⟩
  rw [<- h.ord_eq hu] at hy
  obtain ⟨c, hc, rfl⟩ := List.mem_map.1 hy
  exact ⟨c, List.mem_range.1 hc, he⟩
def Seen (m : Ma) (g : Nat -> Nat) (i : Nat) : Prop := ∀ j, j < m.n -> (j = 0 ∨ ∃ u, u < i ∧ ∃ c, c < m.s ∧ m.to u c = j) -> g j = 1
theorem Seen.all {m : Ma} (hl : Led m) {g : Nat -> Nat} (h : Seen m g m.n) : ∀ j, j < m.n -> g j = 1 := by
  intro j hj
  refine h j hj ?_
  by_cases h0 : j = 0
  · exact .inl h0
  · obtain ⟨u, hu, c, hc, he⟩ := hl j hj (by omega)
    exact .inr ⟨u, by omega, c, hc, he⟩
theorem Seen.here {m : Ma} (hl : Led m) {g : Nat -> Nat} {i : Nat} (hi : i < m.n) (h : Seen m g i) : g i = 1 := by
  refine h i hi ?_
  by_cases h0 : i = 0
  · exact .inl h0
  · obtain ⟨u, hu, c, hc, he⟩ := hl i hi (by omega)
    exact .inr ⟨u, hu, c, hc, he⟩
theorem Seen.down {m : Ma} {g : Nat -> Nat} {i k : Nat} (h : Seen m g k) (hik : i <= k) : Seen m g i :=
  fun j hj hh => h j hj (hh.imp id fun ⟨u, hu, r⟩ => ⟨u, by omega, r⟩)
theorem Seen.mono {m : Ma} {g g' : Nat -> Nat} {i : Nat} (h : Seen m g i) (hg : ∀ j, g j = 1 -> g' j = 1) : Seen m g' i :=
  fun j hj hh => hg j (h j hj hh)
section
variable {m : Ma}
theorem loop57c (hm : m.Fine) (hl : Led m) {i : Nat} (hi : i < m.n) (r : Nat) (res : Option (List Int)) (hr : ∀ g, Seen m g (i + 1) -> loopO g57 (.h1 m.dfa ((i + 1 : Nat) : Int) (r : Int) (nums m.n g)) = res) :
    ∀ (k c : Nat) (g : Nat -> Nat), m.s - c = k -> c <= m.s -> Seen m g i -> (∀ b, b < c -> g (m.to i b) = 1) -> loopO g57 (.h2 m.dfa (c : Int) (nums m.n g) (i : Int) (r : Int)) = res := by
  have hn := hm.n2
  have hs := hm.s2
  intro k
  induction k with
  | zero =>
    intro c g hk hc hg hb
    have : c = m.s := by omega
    subst this
    have hrl := m.row_len i
    refine loopO_inl ?_ (hr g ?_)
    · unfold g57
      rw [opt_chk (by omega), opt_get (Ma.next_get hi), opt_f (by rw [hrl]; simp), opt_chk (by trivial), opt_ret, wsucc (by omega)]
    · intro j hj hh
      rcases hh with h0 | ⟨u, hu, c, hc, rfl⟩
      · exact hg j hj (.inl h0)
      · by_cases e : u = i
        · subst e; exact hb c hc
        · exact hg _ hj (.inr ⟨u, by omega, c, hc, rfl⟩)
  | succ k ih =>
    intro c g hk hc hg hb
    have hlt : c < m.s := by omega
    have hrl := m.row_len i
    have hlg : (nums m.n g).length = m.n := nums_len _ _
    have h1 := hg.here hl hi
    have hto := hm.ok i c hi hlt
    have hgi := nums_get0 g hi
    rw [h1] at hgi
    have hset : (nums m.n g).set ((0 : Nat) + (((m.to i c : Nat) : Int)).toNat) ((1 : Nat) : Int) = nums m.n fun j => if j = m.to i c then 1 else g j := by
      rw [Nat.zero_add, Int.toNat_natCast, nums_set g hto]
    have hih := ih (c + 1) (fun j => if j = m.to i c then 1 else g j) (by omega) (by omega) (hg.mono fun j hj => by by_cases e : j = m.to i c <;> simp [e, hj]) (by
      intro b hb'
      by_cases e : m.to i b = m.to i c
      · simp [e]
      · have hne : b ≠ c := fun e' => e (by rw [e'])
        simp [e, hb b (by omega)])
    rw [<- hset] at hih
    refine loopO_inl ?_ hih
    unfold g57
    rw [opt_chk (by omega), opt_get (Ma.next_get hi), opt_t (by rw [hrl]; simpa using hlt), opt_chk (by rw [hlg]; omega), opt_get hgi, opt_t (by simp), opt_chk (by omega), opt_get (Ma.next_get hi), opt_chk (by omega), opt_get (Ma.row_get i hlt), opt_chk (by rw [hlg]; omega), opt_get (nums_get0 g hto), opt_chk (by simp), opt_ret, wsucc (by omega)]
    rfl
theorem loop57b (hm : m.Fine) (hl : Led m) (r : Nat) (hr0 : r < 300) (res : Option (List Int)) (hr : ∀ g, Seen m g m.n -> loopO g57 (.h0 m.dfa ((r + 1 : Nat) : Int) (nums m.n g)) = res) :
    ∀ (k i : Nat) (g : Nat -> Nat), m.n - i = k -> i <= m.n -> Seen m g i -> loopO g57 (.h1 m.dfa (i : Int) (r : Int) (nums m.n g)) = res := by
  have hn := hm.n2
  intro k
  induction k with
  | zero =>
    intro i g hk hi hg
    have : i = m.n := by omega
    subst this
    refine loopO_inl ?_ (hr g hg)
    unfold g57
    rw [opt_f (by rw [m.next_len]; simp), opt_chk (by trivial), opt_ret, wsucc (by omega)]
  | succ k ih =>
    intro i g hk hi hg
    have hlt : i < m.n := by omega
    have := loop57c hm hl hlt r res (fun g hg => ih (i + 1) g (by omega) (by omega) hg) m.s 0 g rfl (by omega) hg (fun b hb => by omega)
    refine loopO_inl ?_ this
    unfold g57
    rw [opt_t (by rw [m.next_len]; simpa using hlt), opt_chk (by trivial), opt_ret]
    rfl
theorem loop57a (hm : m.Fine) (hl : Led m) : ∀ (k r : Nat) (g : Nat -> Nat), m.n - r = k -> r <= m.n -> Seen m g 0 -> (0 < r -> Seen m g m.n) -> loopO g57 (.h0 m.dfa (r : Int) (nums m.n g)) = some (nums m.n fun _ => 1) := by
  have hn := hm.n2
  have hn1 := hm.n1
  intro k
  induction k with
  | zero =>
    intro r g hk hr hg hh
    have : r = m.n := by omega
    subst this
    have e : nums m.n g = nums m.n fun _ => 1 := nums_congr fun j hj => (hh (by omega)).all hl j hj
    rw [e]
    refine loopO_inr ?_
    unfold g57
    rw [opt_f (by rw [m.next_len]; simp), opt_chk (by omega), opt_ret, List.drop_zero, List.take_length]
  | succ k ih =>
    intro r g hk hr hg hh
    have hlt : r < m.n := by omega
    have := loop57b hm hl r (by omega) _ (fun g hg => ih (r + 1) g (by omega) (by omega) (hg.down (by omega)) (fun _ => hg)) m.n 0 g rfl (by omega) hg
    refine loopO_inl ?_ this
    unfold g57
    rw [opt_t (by rw [m.next_len]; simpa using hlt), opt_chk (by trivial), opt_ret]
    rfl
theorem reached57 (hm : m.Fine) (hl : Led m) : f57 m.dfa = some (nums m.n fun _ => 1) := by
  have hn := hm.n2
  have hn1 := hm.n1
  have e0 : List.replicate (((m.dfa.Next.length : Nat) : Int)).toNat (0 : Int) = nums m.n fun _ => 0 := by rw [m.next_len, Int.toNat_natCast, nums_zero]
  have hset : (nums m.n fun _ => 0).set 0 ((1 : Nat) : Int) = nums m.n fun j => if j = 0 then 1 else 0 := nums_set _ (by omega) 1
  have h0 : (nums m.n fun _ => 0)[(0 : Nat)]? = some ((0 : Nat) : Int) := nums_get (fun _ => 0) (i := 0) (by omega)
  have hlg : (nums m.n fun _ => 0).length = m.n := nums_len _ _
  have := loop57a hm hl m.n 0 (fun j => if j = 0 then 1 else 0) rfl (by omega) (fun j hj hh => by
    rcases hh with h | ⟨u, hu, _⟩
    · simp [h]
    · omega) (fun h => by omega)
  rw [<- hset] at this
  unfold f57
  refine runO_inl ?_ this
  unfold s57
  rw [e0, opt_chk (by rw [m.next_len]; refine ⟨by omega, by omega, ?_⟩; simp; omega), opt_chk (by rw [hlg]; omega), opt_get h0, opt_chk (by simp), opt_ret]
  rfl
theorem loop29 (n : Nat) (hn : n <= 256) : ∀ (k i : Nat), n - i = k -> i <= n -> loopO g29 (.h0 (nums n fun _ => 1) (i : Int)) = some true := by
  have hlg : (nums n fun _ => 1).length = n := nums_len _ _
  intro k
  induction k with
  | zero =>
    intro i hk hi
    have : i = n := by omega
    subst this
    refine loopO_inr ?_
    unfold g29
    rw [opt_f (by rw [hlg]; simp), opt_ret]
  | succ k ih =>
    intro i hk hi
    have hlt : i < n := by omega
    refine loopO_inl ?_ (ih (i + 1) (by omega) (by omega))
    unfold g29
    rw [opt_t (by rw [hlg]; simpa using hlt), opt_chk (by omega), opt_get (nums_get _ hlt), opt_f (by simp), opt_ret, wsucc (by omega)]
theorem reached29 (hm : m.Fine) (hl : Led m) : f29 m.dfa = some true := by
  unfold f29
  refine runO_inl (s' := .h0 (nums m.n fun _ => 1) ((0 : Nat) : Int)) ?_ (loop29 m.n hm.n2 _ 0 rfl (by omega))
  unfold s29
  rw [opt_get (reached57 hm hl), opt_ret]
  rfl
end
def swap (j i : Nat) : Nat := if i = 0 then j else if i = j then 0 else i
theorem swap_swap (j i : Nat) : swap j (swap j i) = i := by
  unfold swap
  by_cases h1 : i = 0
  · subst h1
    by_cases h2 : j = 0
    · subst h2; simp
    · simp [h2]
  · by_cases h2 : i = j
    · subst h2; simp [h1]
    · simp [h1, h2]
theorem swap_ne {j x : Nat} (h0 : ¬ x = 0) (h1 : ¬ x = j) : swap j x = x := by unfold swap; rw [if_neg h0, if_neg h1]
theorem swap_lt {n j i : Nat} (hj : j < n) (hi : i < n) : swap j i < n := by
  unfold swap
  split
  · exact hj
  · split
    · omega
    · exact hi
def Ma.begun (m : Ma) (j : Nat) : Ma := ⟨m.n, m.s, fun i c => swap j (m.to (swap j i) c), fun i => m.e (swap j i)⟩
theorem begun_fine {m : Ma} (hm : m.Fine) {j : Nat} (hj : j < m.n) : (m.begun j).Fine :=
  ⟨fun i c hi hc => swap_lt hj (hm.ok _ c (swap_lt hj hi) hc), hm.n1, hm.n2, hm.s1, hm.s2⟩
theorem begun_run {m : Ma} {j : Nat} (w : List Int) : runB (m.begun j) 0 w = runB m j w := by
  refine run_same (m := m.begun j) (l := m) (B := fun i t => t = swap j i) rfl (fun i t h => by subst h; rfl) (fun i t h c hc => ?_) w (by simp [swap])
  subst h
  show _ = swap j (swap j _)
  rw [swap_swap]
section
variable {m : Ma}
theorem loop32b (hm : m.Fine) {j : Nat} (hj : j < m.n) {i : Nat} (hi : i < m.n) (rows : List (List Int)) (ends : List Bool) (hrl : rows.length <= 256) (hel : ends.length <= 256) (res : Option Dfa)
    (hr : loopO g32 (.h0 m.dfa (j : Int) ((i + 1 : Nat) : Int) (rows ++ [(m.begun j).row i]) (ends ++ [(m.begun j).e i])) = res) :
    ∀ (k c : Nat), m.s - c = k -> c <= m.s -> loopO g32 (.h1 m.dfa (j : Int) ((swap j i : Nat) : Int) (c : Int) (nums c ((m.begun j).to i)) (i : Int) rows ends) = res := by
  have hn := hm.n2
  have hs := hm.s2
  have hsi := swap_lt hj hi
  have hml := m.row_len (swap j i)
  have snoc : ∀ c v, v = (m.begun j).to i c -> nums c ((m.begun j).to i) ++ [((v : Nat) : Int)] = nums (c + 1) ((m.begun j).to i) := by
    intro c v hv
    unfold nums
    rw [List.range_succ, List.map_append, hv]; rfl
  intro k
  induction k with
  | zero =>
    intro c hk hc
    have : c = m.s := by omega
    subst this
    have hl : (nums m.s ((m.begun j).to i)).length = m.s := nums_len _ _
    refine loopO_inl ?_ hr
    unfold g32
    rw [opt_chk (by omega), opt_get (Ma.next_get hsi), opt_f (by rw [hml]; simp), opt_chk (by exact ⟨by omega, by rw [Nat.zero_add]; exact Nat.le_refl _⟩), opt_chk (by simp), opt_chk (by simp; omega), opt_chk (by omega), opt_get (Ma.ends_get hsi), opt_chk (by simp), opt_chk (by simp; omega), opt_chk (by trivial), opt_chk (by trivial), opt_ret, wsucc (by omega)]
    simp only [List.drop_zero, List.take_length]
    rfl
  | succ k ih =>
    intro c hk hc
    have hlt : c < m.s := by omega
    have hl : (nums c ((m.begun j).to i)).length = c := nums_len _ _
    have hih := ih (c + 1) (by omega) (by omega)
    have hto : (m.begun j).to i c = swap j (m.to (swap j i) c) := rfl
    by_cases h0 : m.to (swap j i) c = 0
    · have hv : j = (m.begun j).to i c := by rw [hto, h0]; simp [swap]
      rw [<- snoc c j hv] at hih
      refine loopO_inl ?_ hih
      unfold g32
      rw [opt_chk (by omega), opt_get (Ma.next_get hsi), opt_t (by rw [hml]; simpa using hlt), opt_chk (by omega), opt_get (Ma.next_get hsi), opt_chk (by omega), opt_get (Ma.row_get _ hlt), opt_t (by rw [h0]; rfl), opt_chk (by simp), opt_chk (by simp [hl]; omega), opt_chk (by trivial), opt_ret, wsucc (by omega)]
      rfl
    · by_cases h1 : m.to (swap j i) c = j
      · have hv : 0 = (m.begun j).to i c := by rw [hto, h1]; by_cases e : j = 0 <;> simp [swap, e]
        rw [<- snoc c 0 hv] at hih
        refine loopO_inl ?_ hih
        unfold g32
        rw [opt_chk (by omega), opt_get (Ma.next_get hsi), opt_t (by rw [hml]; simpa using hlt), opt_chk (by omega), opt_get (Ma.next_get hsi), opt_chk (by omega), opt_get (Ma.row_get _ hlt), opt_f (by simp; omega), opt_t (by rw [h1]; simp), opt_chk (by simp), opt_chk (by simp [hl]; omega), opt_chk (by trivial), opt_ret, wsucc (by omega)]
        rfl
      · have hv : m.to (swap j i) c = (m.begun j).to i c := by rw [hto, swap_ne h0 h1]
        rw [<- snoc c _ hv] at hih
        refine loopO_inl ?_ hih
        unfold g32
        rw [opt_chk (by omega), opt_get (Ma.next_get hsi), opt_t (by rw [hml]; simpa using hlt), opt_chk (by omega), opt_get (Ma.next_get hsi), opt_chk (by omega), opt_get (Ma.row_get _ hlt), opt_f (by simp; omega), opt_f (by simp; omega), opt_chk (by simp), opt_chk (by simp [hl]; omega), opt_chk (by trivial), opt_ret, wsucc (by omega)]
        rfl
theorem loop32 (hm : m.Fine) {j : Nat} (hj : j < m.n) : ∀ (k i : Nat), m.n - i = k -> i <= m.n -> loopO g32 (.h0 m.dfa (j : Int) (i : Int) ((List.range i).map (m.begun j).row) ((List.range i).map (m.begun j).e)) = some (m.begun j).dfa := by
  have hn := hm.n2
  intro k
  induction k with
  | zero =>
    intro i hk hi
    have : i = m.n := by omega
    subst this
    refine loopO_inr ?_
    unfold g32
    rw [opt_f (by rw [m.next_len]; simp), opt_chk (by omega), opt_chk (by omega), opt_ret]
    simp only [List.drop_zero, List.take_length]
    rfl
  | succ k ih =>
    intro i hk hi
    have hlt : i < m.n := by omega
    have hih := ih (i + 1) (by omega) (by omega)
    rw [List.range_succ, List.map_append, List.map_append] at hih
    have := loop32b hm hj hlt ((List.range i).map (m.begun j).row) ((List.range i).map (m.begun j).e) (by simp; omega) (by simp; omega) _ hih m.s 0 rfl (by omega)
    refine loopO_inl ?_ this
    unfold g32
    rw [opt_t (by rw [m.next_len]; simpa using hlt)]
    by_cases h0 : i = 0
    · subst h0
      rw [opt_t (by rfl), opt_chk (by rfl), opt_ret]
      rfl
    · by_cases h1 : i = j
      · subst h1
        rw [opt_f (by simp; omega), opt_t (by simp), opt_chk (by rfl), opt_ret]
        simp [swap, h0, nums]
      · rw [opt_f (by simp; omega), opt_f (by simp; omega), opt_chk (by rfl), opt_ret]
        simp [swap, h0, h1, nums]
theorem begun32 (hm : m.Fine) {j : Nat} (hj : j < m.n) : f32 m.dfa (j : Int) = some (m.begun j).dfa := by
  unfold f32
  refine runO_inl (s' := .h0 m.dfa (j : Int) ((0 : Nat) : Int) [] []) ?_ (loop32 hm hj _ 0 rfl (by omega))
  unfold s32
  rw [opt_chk (by rfl), opt_chk (by rfl), opt_ret]
  rfl
end
theorem part30 (a : Int) {n : Nat} (h1 : 1 <= n) (h2 : n <= 256) : ∃ j, j < n ∧ f30 a (n : Int) = some ((j : Nat) : Int) := by
  have k1 := Int.tmod_lt_of_pos a (show (0 : Int) < (n : Int) by omega)
  have k2 : -(n : Int) < a.tmod (n : Int) := by
    have := Int.lt_tmod_of_pos a (show (0 : Int) < (n : Int) by omega)
    exact this
  have hw : IntKind.i64.wrap (a.tmod (n : Int) + (n : Int)) = a.tmod (n : Int) + (n : Int) := w64 (by omega) (by omega)
  have k3 := Int.tmod_nonneg (n : Int) (show 0 <= a.tmod (n : Int) + (n : Int) by omega)
  have k4 := Int.tmod_lt_of_pos (a.tmod (n : Int) + (n : Int)) (show (0 : Int) < (n : Int) by omega)
  refine ⟨((a.tmod (n : Int) + (n : Int)).tmod (n : Int)).toNat, by omega, ?_⟩
  unfold f30 u30
  rw [opt_chk (by omega), opt_chk (by omega), opt_ret, hw]
  congr 1
  omega
end Go.Proofs.Dfa
/-
  The law of the least machine.
-/
namespace Go.Proofs.Dfa
open Go Go.Ab Go.ChangeShapes
set_option linter.unusedVariables false
set_option linter.unusedSimpArgs false
set_option maxRecDepth 100000
section
variable {m : Ma} {K T : Nat}
noncomputable def cnt (m : Ma) (K t c : Nat) : Nat := (mid (suF m (m.F K)) (m.F K 0) t c).length
theorem Least.cnt_next (h : Least m K T) {t c : Nat} (ht : t < T) (hc : c < m.s) :
    ((m.small K T).to t c < cnt m K t c ∧ cnt m K t (c + 1) = cnt m K t c) ∨ ((m.small K T).to t c = cnt m K t c ∧ cnt m K t (c + 1) = cnt m K t c + 1) := by
  have h1 := turns_lt h.over ht
  have hcs : c < (suF m (m.F K) ((turns (suF m (m.F K)) (m.F K 0) t)[t])).length := by rw [suF_len]; exact hc
  have hms := mid_succ h1 hcs
  have hy := suF_get hcs
  rw [hy, turns_at h.over ht, <- h.ord_eq ht] at hms
  have hym : m.F K (m.to (m.ord K T t) c) ∈ suF m (m.F K) ((turns (suF m (m.F K)) (m.F K 0) T)[t]'(by rw [h.over]; exact ht)) := by
    rw [<- h.ord_eq ht]; exact List.mem_map.2 ⟨c, List.mem_range.2 hc, rfl⟩
  have hidx : (m.small K T).to t c = (turns (suF m (m.F K)) (m.F K 0) (t + 1)).idxOf (m.F K (m.to (m.ord K T t) c)) := ((turns_next_in h.over ht hym).2).symm
  obtain ⟨e, he⟩ := mid_pre h1 (c + 1)
  unfold cnt
  rw [hidx, he]
  by_cases hin : m.F K (m.to (m.ord K T t) c) ∈ mid (suF m (m.F K)) (m.F K 0) t c
  · rw [if_pos hin] at hms
    rw [hms, idxOf_pre hin]
    exact .inl ⟨List.idxOf_lt_length_of_mem hin, rfl⟩
  · rw [if_neg hin] at hms
    rw [hms, idxOf_pre (by simp), idxOf_new hin]
    exact .inr ⟨rfl, by simp⟩
theorem Least.cnt_pos (h : Least m K T) {t : Nat} (ht : t < T) (c : Nat) : 1 <= cnt m K t c := by
  have h1 := turns_lt h.over ht
  have := (mid_len h1 c).1
  unfold cnt
  omega
theorem Least.cnt_le (h : Least m K T) {t : Nat} (ht : t < T) (c : Nat) : cnt m K t c <= 256 := by
  have h1 := turns_lt h.over ht
  have := mid_le (n := m.n) (F_lt (K := K) 0 h.fine.n1) (suF_lt h.fine (F_lt (K := K))) h1 c
  have := h.fine.n2
  unfold cnt
  omega
theorem loop7b (h : Least m K T) (a1 a2 : Int) {t : Nat} (ht : t < T) (res : Option Bool)
    (hr : loopO g7 (.h0 a1 a2 (m.small K T).dfa ((t + 1 : Nat) : Int) ((cnt m K t m.s - 1 : Nat) : Int)) = res) :
    ∀ (k c : Nat), m.s - c = k -> c <= m.s -> loopO g7 (.h1 a1 a2 (m.small K T).dfa (c : Int) ((cnt m K t c - 1 : Nat) : Int) (t : Int)) = res := by
  have hs := h.fine.s2
  have hle := h.le
  have hn := h.fine.n2
  have hti : t < (m.small K T).n := ht
  have hrl := (m.small K T).row_len t
  have hss : (m.small K T).s = m.s := rfl
  intro k
  induction k with
  | zero =>
    intro c hk hc
    have : c = m.s := by omega
    subst this
    refine loopO_inl ?_ hr
    unfold g7
    rw [opt_chk (by omega), opt_get (Ma.next_get hti), opt_f (by rw [hrl, hss]; simp), opt_ret, wsucc (by omega)]
  | succ k ih =>
    intro c hk hc
    have hlt : c < m.s := by omega
    have hlt' : c < (m.small K T).s := hlt
    have hp := h.cnt_pos ht c
    have hb := h.cnt_le ht c
    have hih := ih (c + 1) (by omega) (by omega)
    have hnx := h.cnt_next ht hlt
    have hw : IntKind.i64.wrap ((((cnt m K t c - 1 : Nat)) : Int) + 1) = ((cnt m K t c : Nat) : Int) := by rw [wsucc (by omega)]; congr 1; omega
    refine loopO_inl ?_ hih
    unfold g7
    rw [opt_chk (by omega), opt_get (Ma.next_get hti), opt_t (by rw [hrl, hss]; simpa using hlt), opt_chk (by omega), opt_get (Ma.next_get hti), opt_chk (by omega), opt_get (Ma.row_get t hlt'), hw, opt_f (by simp; omega), opt_chk (by omega), opt_get (Ma.next_get hti), opt_chk (by omega), opt_get (Ma.row_get t hlt'), opt_ret, wsucc (by omega)]
    have : Max.max ((cnt m K t c - 1 : Nat) : Int) (((m.small K T).to t c : Nat) : Int) = ((cnt m K t (c + 1) - 1 : Nat) : Int) := by
      rcases hnx with ⟨h1, h2⟩ | ⟨h1, h2⟩
      · rw [h2]; omega
      · rw [h2, h1]; omega
    rw [this]
theorem loop7 (h : Least m K T) (a1 a2 : Int) (res : Option Bool) (hr : ∀ last, loopO g7 (.h0 a1 a2 (m.small K T).dfa (T : Int) last) = res) :
    ∀ (k t : Nat), T - t = k -> t <= T -> loopO g7 (.h0 a1 a2 (m.small K T).dfa (t : Int) (((turns (suF m (m.F K)) (m.F K 0) t).length - 1 : Nat) : Int)) = res := by
  intro k
  induction k with
  | zero =>
    intro t hk ht
    have : t = T := by omega
    subst this
    exact hr _
  | succ k ih =>
    intro t hk ht
    have hlt : t < T := by omega
    have h1 := turns_lt h.over hlt
    have hend : mid (suF m (m.F K)) (m.F K 0) t m.s = turns (suF m (m.F K)) (m.F K 0) (t + 1) := mid_end h1 (by rw [suF_len]; exact Nat.le_refl _)
    have hih := ih (t + 1) (by omega) (by omega)
    rw [<- hend] at hih
    have := loop7b h a1 a2 hlt res hih m.s 0 rfl (by omega)
    unfold cnt at this
    rw [mid_zero] at this
    refine loopO_inl ?_ this
    unfold g7
    rw [opt_t (by rw [Ma.next_len, decide_eq_true_eq]; show (t : Int) < (T : Int); omega), opt_ret]
    rfl
end
theorem dfa_run {m l : Ma} (hm : m.Fine) (hl : l.Fine) (e : m.dfa = l.dfa) (w : List Int) : runB m 0 w = runB l 0 w := by
  have es : m.s = l.s := by
    have : m.dfa.Switches = l.dfa.Switches := by rw [e]
    rw [m.sw, l.sw] at this; omega
  have en : m.n = l.n := by rw [<- m.next_len, <- l.next_len, e]
  refine run_same (m := m) (l := l) (B := fun i j => i = j ∧ i < m.n) es (fun i j h => ?_) (fun i j h c hc => ?_) w ⟨rfl, hm.n1⟩
  · obtain ⟨rfl, hi⟩ := h
    have h1 := Ma.ends_get hi
    have h2 := Ma.ends_get (m := l) (i := i) (by omega)
    rw [e, h2] at h1
    exact (Option.some.inj h1).symm
  · obtain ⟨rfl, hi⟩ := h
    have h1 := Ma.next_get hi
    have h2 := Ma.next_get (m := l) (i := i) (by omega)
    rw [e, h2] at h1
    have h3 : l.row i = m.row i := Option.some.inj h1
    have h4 := Ma.row_get (m := m) i hc
    have h5 := Ma.row_get (m := l) i (c := c) (by omega)
    rw [<- h3, h5] at h4
    have h6 := Option.some.inj h4
    exact ⟨by omega, hm.ok i c hi hc⟩
theorem begun_same {X : Ma} (hX : X.Fine) {L : Nat} (hap : ∀ t u, t < X.n -> u < X.n -> X.R L t u -> t = u) {i k : Nat} (hi : i < X.n) (hk : k < X.n) :
    ∃ r, f31 (X.begun i).dfa (X.begun k).dfa = some r ∧ (r = true ↔ i = k) := by
  have ha := begun_fine hX hi
  have hb := begun_fine hX hk
  obtain ⟨K1, T1, l1, e1⟩ := least_ex ha
  obtain ⟨K2, T2, l2, e2⟩ := least_ex hb
  have n1 := neat_right (fine_few l1.small_fine) (fine_right l1.small_fine)
  have n2 := neat_right (fine_few l2.small_fine) (fine_right l2.small_fine)
  refine ⟨_, same31 (fine_few ha) (fine_few hb) e1 e2 n1 n2, ?_⟩
  rw [fine_right ha, fine_right hb, Bool.true_and, Bool.true_and, decide_eq_true_eq]
  constructor
  · intro h
    refine hap i k hi hk (R_of_run hX L hi hk fun w => ?_)
    rw [<- begun_run (m := X) (j := i) w, <- begun_run (m := X) (j := k) w, l1.run w, l2.run w]
    exact dfa_run l1.small_fine l2.small_fine h w
  · rintro rfl
    rw [e1] at e2
    exact Option.some.inj e2
theorem least7 (d : Dfa) (i k : Int) (w : List Int) (hd : Few d) (hw : w.length < 9223372036854775807) : f7 d i k w = some true := by
  by_cases hR : rightB d = true
  · obtain ⟨m, hm, rfl⟩ := right_fine hR
    obtain ⟨K, T, h, h28⟩ := least_ex hm
    have hX := h.small_fine
    have hnl := (m.small K T).next_len
    have hTn : (m.small K T).n = T := rfl
    have hT1 := h.pos
    have hT2 : T <= 256 := Nat.le_trans h.le hm.n2
    obtain ⟨p, hp, e30p⟩ := part30 i (n := T) hT1 hT2
    obtain ⟨q, hq, e30q⟩ := part30 k (n := T) hT1 hT2
    obtain ⟨r, hr, hiff⟩ := begun_same hX (L := K) (fun t u ht hu hr => h.apart ht hu hr) (i := p) (k := q) hp hq
    have h14 : f14 (m.small K T).dfa (m.small K T).dfa = some true := by rw [alike14 _ _ (fine_few hX)]; simp
    have hlast : ∀ last, loopO g7 (.h0 i k (m.small K T).dfa (T : Int) last) = some true := by
      intro last
      refine loopO_inr ?_
      unfold g7
      rw [opt_f (by rw [hnl, hTn]; simp), hnl, hTn, opt_get e30p, opt_get e30q, opt_get (begun32 hX hp), opt_get (begun32 hX hq), opt_get hr]
      have : (decide (((p : Nat) : Int) = ((q : Nat) : Int)) == r) = true := by
        by_cases e : p = q
        · have := hiff.2 e
          subst this; subst e; simp
        · have h2 : r = false := by
            cases r with
            | true => exact absurd (hiff.1 rfl) e
            | false => rfl
          have h3 : ¬ ((p : Nat) : Int) = ((q : Nat) : Int) := by omega
          rw [h2, decide_eq_false h3]; rfl
      rw [opt_t this, opt_ret]
    have hl := loop7 h i k _ hlast T 0 rfl (by omega)
    unfold f7
    refine runO_inl ?_ hl
    unfold s7
    rw [opt_get h28, opt_get (right19 _ hd), opt_f (by rw [hR]; rfl), opt_get (right19 _ (fine_few hX)), opt_f (by rw [fine_right hX]; rfl), opt_get (run25 hX w hw), opt_get (run25 hm w hw), <- h.run w, opt_f (by cases runB m 0 w <;> rfl), opt_get (reached29 hX h.led), opt_f (by rfl), opt_get h.own, opt_get h14, opt_f (by rfl), opt_ret]
    rfl
  · rw [Bool.not_eq_true] at hR
    unfold f7
    refine runO_inr ?_
    unfold s7
    rw [opt_get (small28_not hd hR), opt_get (right19 _ hd), opt_t (by rw [hR]; rfl), opt_t (by rfl), opt_t (by rfl), opt_ret]
theorem law7 {p q : Prop} (d : Dfa) (i k : Int) (w : List Int) (hd : wf_36 d) (hi : p) (hk : q) (hw : wf_40 w) : f7 d i k w = some true := by
  have e : reachBytes <= 140737488355328 := by decide
  exact least7 d i k w (few_of hd) (by have := hw.1; omega)
end Go.Proofs.Dfa

/- A part of a law's proof: DfaS3. -/
import Derived.Test.YthhbggmlfilpdaaDoorDfaDe
import Derived.Test.YthhbggmlfilpdaaDoorDfaG3
import Derived.Test.YthhbggmlfilpdaaDoorDfaH3
import Derived.Test.YthhbggmlfilpdaaDoorDfaKey
import Derived.Test.YthhbggmlfilpdaaDoorDfaMod
import Derived.Test.YthhbggmlfilpdaaDoorSvPlain
set_option linter.constructorNameAsVariable false
/-
  Right machines in short; which machines are right; which are the same.
-/
namespace Go.Proofs.Dfa
open Go Go.Ab Go.ChangeShapes
set_option linter.unusedVariables false
set_option linter.unusedSimpArgs false
set_option maxRecDepth 100000
theorem getO {α : Type} {l : List α} {i : Nat} (h : i < l.length) : l[((i : Nat) : Int).toNat]? = some l[i] := by simp [h]
def nums (n : Nat) (g : Nat -> Nat) : List Int := (List.range n).map fun i => ((g i : Nat) : Int)
theorem nums_len (n : Nat) (g : Nat -> Nat) : (nums n g).length = n := by simp [nums]
theorem nums_get {n i : Nat} (g : Nat -> Nat) (h : i < n) : (nums n g)[((i : Nat) : Int).toNat]? = some ((g i : Nat) : Int) := by simp [nums, h]
def Ma.row (m : Ma) (i : Nat) : List Int := nums m.s (m.to i)
def Ma.dfa (m : Ma) : Dfa := ⟨(m.s : Int), (List.range m.n).map m.row, (List.range m.n).map m.e⟩
structure Ma.Fine (m : Ma) : Prop where
  ok : m.Ok
  n1 : 1 <= m.n
  n2 : m.n <= 256
  s1 : 1 <= m.s
  s2 : m.s <= 32
theorem Ma.row_len (m : Ma) (i : Nat) : (m.row i).length = m.s := nums_len _ _
theorem Ma.next_len (m : Ma) : m.dfa.Next.length = m.n := by simp [Ma.dfa]
theorem Ma.ends_len (m : Ma) : m.dfa.Ends.length = m.n := by simp [Ma.dfa]
theorem Ma.next_get {m : Ma} {i : Nat} (h : i < m.n) : m.dfa.Next[((i : Nat) : Int).toNat]? = some (m.row i) := by simp [Ma.dfa, h]
theorem Ma.ends_get {m : Ma} {i : Nat} (h : i < m.n) : m.dfa.Ends[((i : Nat) : Int).toNat]? = some (m.e i) := by simp [Ma.dfa, h]
theorem Ma.row_get {m : Ma} (i : Nat) {c : Nat} (h : c < m.s) : (m.row i)[((c : Nat) : Int).toNat]? = some ((m.to i c : Nat) : Int) := nums_get _ h
theorem Ma.sw (m : Ma) : m.dfa.Switches = (m.s : Int) := rfl
def goB (d : Dfa) (t : Int) : Bool := decide (0 <= t) && decide (t < (d.Next.length : Int))
def rowB (d : Dfa) (r : List Int) : Bool := decide ((r.length : Int) = d.Switches) && r.all (goB d)
def rightB (d : Dfa) : Bool := decide (1 <= d.Switches ∧ d.Switches <= 32 ∧ 1 <= d.Next.length ∧ d.Next.length <= 256 ∧ d.Ends.length = d.Next.length) && d.Next.all (rowB d)
def Few (d : Dfa) : Prop := d.Next.length < 9223372036854775807 ∧ d.Ends.length < 9223372036854775807 ∧ ∀ r ∈ d.Next, r.length < 9223372036854775807
theorem loop19b (d : Dfa) (x : List Int) (j : Int) (hx : x.length < 9223372036854775807) (r : Option Bool) (hr : loopO g19 (.h1 d x (x.length : Int) j) = r) :
    ∀ (k i : Nat), x.length - i = k -> i <= x.length -> loopO g19 (.h1 d x (i : Int) j) = if (x.drop i).all (goB d) = true then r else some false := by
  intro k
  induction k with
  | zero =>
    intro i hk hi
    have : i = x.length := by omega
    subst this
    rw [dropN (Nat.le_refl _), hr]
    simp
  | succ k ih =>
    intro i hk hi
    have hlt : i < x.length := by omega
    have hg : (g19 (.h1 d x (i : Int) j)).opt = if x[i] < 0 then some (.inr false) else if (d.Next.length : Int) <= x[i] then some (.inr false) else some (.inl (.h1 d x ((i + 1 : Nat) : Int) j)) := by
      unfold g19
      rw [opt_t (by simpa using hlt), opt_chk (by omega), opt_get (getO hlt), opt_ite, opt_ite, wsucc (by omega)]
      simp only [decide_eq_true_eq]
      split
      · rfl
      · split <;> rfl
    rw [dropE hlt, List.all_cons]
    by_cases h1 : x[i] < 0
    · rw [loopO_inr (x := false) (by rw [hg, if_pos h1])]
      rw [if_neg (by simp [goB]; omega)]
    · by_cases h2 : (d.Next.length : Int) <= x[i]
      · rw [loopO_inr (x := false) (by rw [hg, if_neg h1, if_pos h2])]
        rw [if_neg (by simp [goB]; omega)]
      · rw [loopO_inl (by rw [hg, if_neg h1, if_neg h2]) (ih (i + 1) (by omega) (by omega))]
        have e1 : goB d x[i] = true := by simp [goB]; omega
        rw [e1, Bool.true_and]
theorem loop19 (d : Dfa) (hs : Few d) : ∀ (k j : Nat), d.Next.length - j = k -> j <= d.Next.length -> loopO g19 (.h0 d (j : Int)) = some ((d.Next.drop j).all (rowB d)) := by
  intro k
  induction k with
  | zero =>
    intro j hk hj
    have : j = d.Next.length := by omega
    subst this
    rw [dropN (Nat.le_refl _)]
    refine loopO_inr ?_
    unfold g19
    rw [opt_f (by simp), opt_ret]
    rfl
  | succ k ih =>
    intro j hk hj
    have hlt : j < d.Next.length := by omega
    have hx := hs.2.2 d.Next[j] (List.getElem_mem hlt)
    rw [dropE hlt, List.all_cons, rowB]
    by_cases h1 : (d.Next[j].length : Int) = d.Switches
    · rw [decide_eq_true h1, Bool.true_and]
      refine loopO_inl (s' := .h1 d d.Next[j] ((0 : Nat) : Int) (j : Int)) ?_ ?_
      · unfold g19
        rw [opt_t (by simpa using hlt), opt_chk (by omega), opt_get (getO hlt), opt_f (by simp [h1]), opt_ret]; rfl
      · have := loop19b d d.Next[j] (j : Int) hx (some ((d.Next.drop (j + 1)).all (rowB d))) (by
          refine loopO_inl (s' := .h0 d ((j + 1 : Nat) : Int)) ?_ (ih (j + 1) (by omega) (by omega))
          unfold g19
          rw [opt_f (by simp), opt_ret, wsucc (by have := hs.1; omega)]) d.Next[j].length 0 (by omega) (by omega)
        rw [this, List.drop_zero]
        by_cases hc : d.Next[j].all (goB d) = true
        · rw [if_pos hc, hc, Bool.true_and]
        · rw [if_neg hc]
          rw [Bool.not_eq_true] at hc
          rw [hc]; rfl
    · rw [decide_eq_false h1, Bool.false_and, Bool.false_and]
      refine loopO_inr ?_
      unfold g19
      rw [opt_t (by simpa using hlt), opt_chk (by omega), opt_get (getO hlt), opt_t (by simp [h1]), opt_ret]
theorem right19 (d : Dfa) (hs : Few d) : f19 d = some (rightB d) := by
  unfold f19 rightB
  by_cases h : 1 <= d.Switches ∧ d.Switches <= 32 ∧ 1 <= d.Next.length ∧ d.Next.length <= 256 ∧ d.Ends.length = d.Next.length
  · rw [decide_eq_true h, Bool.true_and]
    obtain ⟨h1, h2, h3, h4, h5⟩ := h
    refine runO_inl (s' := .h0 d ((0 : Nat) : Int)) ?_ ?_
    · unfold s19
      rw [opt_f (by simp; omega), opt_f (by simp; omega), opt_f (by simp; omega), opt_f (by simp; omega), opt_f (by simp; omega), opt_ret]; rfl
    · rw [loop19 d hs _ 0 rfl (by omega), List.drop_zero]
  · rw [decide_eq_false h, Bool.false_and]
    refine runO_inr ?_
    unfold s19
    simp only [opt_ite, opt_ret, decide_eq_true_eq, Bool.not_eq_true', decide_eq_false_iff_not]
    repeat' split
    all_goals first | rfl | (exfalso; apply h; omega)
theorem loop20b (d : Dfa) {j : Nat} (hj : j < d.Next.length) (hx : d.Next[j].length < 9223372036854775807) (r : Option Bool) (hr : loopO g20 (.h1 d (d.Next[j].length : Int) (j : Int)) = r) :
    ∀ (k i : Nat), d.Next[j].length - i = k -> i <= d.Next[j].length -> loopO g20 (.h1 d (i : Int) (j : Int)) = if (d.Next[j].drop i).all (goB d) = true then r else some false := by
  intro k
  induction k with
  | zero =>
    intro i hk hi
    have : i = d.Next[j].length := by omega
    subst this
    rw [dropN (Nat.le_refl _), hr]
    simp
  | succ k ih =>
    intro i hk hi
    have hlt : i < d.Next[j].length := by omega
    have hg : (g20 (.h1 d (i : Int) (j : Int))).opt = if d.Next[j][i] < 0 then some (.inr false) else if (d.Next.length : Int) <= d.Next[j][i] then some (.inr false) else some (.inl (.h1 d ((i + 1 : Nat) : Int) (j : Int))) := by
      unfold g20
      rw [opt_chk (by omega), opt_get (getO hj), opt_t (by simpa using hlt), opt_chk (by omega), opt_get (getO hj), opt_chk (by omega), opt_get (getO hlt), opt_ite]
      simp only [decide_eq_true_eq]
      split
      · rfl
      · rw [opt_chk (by omega), opt_get (getO hj), opt_chk (by omega), opt_get (getO hlt), opt_ite, wsucc (by omega)]
        simp only [decide_eq_true_eq]
        split <;> rfl
    rw [dropE hlt, List.all_cons]
    by_cases h1 : d.Next[j][i] < 0
    · rw [loopO_inr (x := false) (by rw [hg, if_pos h1])]
      rw [if_neg (by simp [goB]; omega)]
    · by_cases h2 : (d.Next.length : Int) <= d.Next[j][i]
      · rw [loopO_inr (x := false) (by rw [hg, if_neg h1, if_pos h2])]
        rw [if_neg (by simp [goB]; omega)]
      · rw [loopO_inl (by rw [hg, if_neg h1, if_neg h2]) (ih (i + 1) (by omega) (by omega))]
        have e1 : goB d d.Next[j][i] = true := by simp [goB]; omega
        rw [e1, Bool.true_and]
theorem loop20 (d : Dfa) (hs : Few d) : ∀ (k j : Nat), d.Next.length - j = k -> j <= d.Next.length -> loopO g20 (.h0 d (j : Int)) = some ((d.Next.drop j).all (rowB d)) := by
  intro k
  induction k with
  | zero =>
    intro j hk hj
    have : j = d.Next.length := by omega
    subst this
    rw [dropN (Nat.le_refl _)]
    refine loopO_inr ?_
    unfold g20
    rw [opt_f (by simp), opt_ret]
    rfl
  | succ k ih =>
    intro j hk hj
    have hlt : j < d.Next.length := by omega
    have hx := hs.2.2 d.Next[j] (List.getElem_mem hlt)
    rw [dropE hlt, List.all_cons, rowB]
    by_cases h1 : (d.Next[j].length : Int) = d.Switches
    · rw [decide_eq_true h1, Bool.true_and]
      refine loopO_inl (s' := .h1 d ((0 : Nat) : Int) (j : Int)) ?_ ?_
      · unfold g20
        rw [opt_t (by simpa using hlt), opt_chk (by omega), opt_get (getO hlt), opt_f (by simp [h1]), opt_ret]; rfl
      · have := loop20b d hlt hx (some ((d.Next.drop (j + 1)).all (rowB d))) (by
          refine loopO_inl (s' := .h0 d ((j + 1 : Nat) : Int)) ?_ (ih (j + 1) (by omega) (by omega))
          unfold g20
          rw [opt_chk (by omega), opt_get (getO hlt), opt_f (by simp), opt_ret, wsucc (by have := hs.1; omega)]) d.Next[j].length 0 (by omega) (by omega)
        rw [this, List.drop_zero]
        by_cases hc : d.Next[j].all (goB d) = true
        · rw [if_pos hc, hc, Bool.true_and]
        · rw [if_neg hc]
          rw [Bool.not_eq_true] at hc
          rw [hc]; rfl
    · rw [decide_eq_false h1, Bool.false_and, Bool.false_and]
      refine loopO_inr ?_
      unfold g20
      rw [opt_t (by simpa using hlt), opt_chk (by omega), opt_get (getO hlt), opt_t (by simp [h1]), opt_ret]
theorem right20 (d : Dfa) (hs : Few d) : f20 d = some (rightB d) := by
  unfold f20 rightB
  by_cases h : 1 <= d.Switches ∧ d.Switches <= 32 ∧ 1 <= d.Next.length ∧ d.Next.length <= 256 ∧ d.Ends.length = d.Next.length
  · rw [decide_eq_true h, Bool.true_and]
    obtain ⟨h1, h2, h3, h4, h5⟩ := h
    refine runO_inl (s' := .h0 d ((0 : Nat) : Int)) ?_ ?_
    · unfold s20
      rw [opt_f (by simp; omega), opt_f (by simp; omega), opt_f (by simp; omega), opt_f (by simp; omega), opt_f (by simp; omega), opt_ret]; rfl
    · rw [loop20 d hs _ 0 rfl (by omega), List.drop_zero]
  · rw [decide_eq_false h, Bool.false_and]
    refine runO_inr ?_
    unfold s20
    simp only [opt_ite, opt_ret, decide_eq_true_eq, Bool.not_eq_true', decide_eq_false_iff_not]
    repeat' split
    all_goals first | rfl | (exfalso; apply h; omega)
theorem right_fine {d : Dfa} (h : rightB d = true) : ∃ m : Ma, m.Fine ∧ d = m.dfa := by
  unfold rightB at h
  rw [Bool.and_eq_true, decide_eq_true_eq, List.all_eq_true] at h
  obtain ⟨⟨h1, h2, h3, h4, h5⟩, hr⟩ := h
  have hrow : ∀ i (hi : i < d.Next.length), (d.Next[i].length : Int) = d.Switches ∧ ∀ t ∈ d.Next[i], 0 <= t ∧ t < (d.Next.length : Int) := by
    intro i hi
    have := hr d.Next[i] (List.getElem_mem hi)
    simp only [rowB, Bool.and_eq_true, decide_eq_true_eq, List.all_eq_true, goB] at this
    exact this
  let m : Ma := ⟨d.Next.length, d.Switches.toNat, fun i c => ((d.Next.getD i []).getD c 0).toNat, fun i => d.Ends.getD i false⟩
  have hto : ∀ i (hi : i < d.Next.length) c (hc : c < d.Switches.toNat), ∃ hc' : c < d.Next[i].length, m.to i c = (d.Next[i][c]).toNat := by
    intro i hi c hc
    have hl := (hrow i hi).1
    refine ⟨by omega, ?_⟩
    show ((d.Next.getD i []).getD c 0).toNat = _
    have hc' : c < d.Next[i].length := by omega
    simp [List.getD_eq_getElem?_getD, hi, hc']
  refine ⟨m, ⟨?_, h3, h4, ?_, ?_⟩, ?_⟩
  · intro i c hi hc
    obtain ⟨hc', e⟩ := hto i hi c hc
    have := (hrow i hi).2 _ (List.getElem_mem hc')
    rw [e]
    show _ < d.Next.length
    omega
  · show 1 <= d.Switches.toNat; omega
  · show d.Switches.toNat <= 32; omega
  · have e1 : d.Next = (List.range m.n).map m.row := by
      apply List.ext_getElem?
      intro i
      by_cases hi : i < d.Next.length
      · rw [List.getElem?_eq_getElem hi, List.getElem?_map, List.getElem?_range hi, Option.map_some]
        congr 1
        apply List.ext_getElem?
        intro c
        have hl := (hrow i hi).1
        by_cases hc : c < d.Switches.toNat
        · obtain ⟨hc', e⟩ := hto i hi c hc
          have := (hrow i hi).2 _ (List.getElem_mem hc')
          rw [List.getElem?_eq_getElem hc']
          show _ = ((List.range m.s).map _)[c]?
          rw [List.getElem?_map, List.getElem?_range (show c < m.s from hc), Option.map_some, e]
          congr 1; omega
        · rw [List.getElem?_eq_none (by omega), List.getElem?_eq_none (by rw [m.row_len]; exact Nat.le_of_not_lt hc)]
      · rw [List.getElem?_eq_none (by omega), List.getElem?_eq_none (by simp; show d.Next.length <= i; omega)]
    have e2 : d.Ends = (List.range m.n).map m.e := by
      apply List.ext_getElem?
      intro i
      by_cases hi : i < d.Next.length
      · rw [List.getElem?_map, List.getElem?_range (show i < m.n from hi), Option.map_some, List.getElem?_eq_getElem (by omega)]
        congr 1
        show _ = d.Ends.getD i false
        rw [List.getD_eq_getElem?_getD, List.getElem?_eq_getElem (by omega), Option.getD_some]
      · rw [List.getElem?_eq_none (by omega), List.getElem?_eq_none (by simp; show d.Next.length <= i; omega)]
    have e3 : d.Switches = (m.s : Int) := by show _ = ((d.Switches.toNat : Nat) : Int); omega
    show d = ⟨(m.s : Int), (List.range m.n).map m.row, (List.range m.n).map m.e⟩
    rw [<- e1, <- e2, <- e3]
theorem fine_right {m : Ma} (h : m.Fine) : rightB m.dfa = true := by
  unfold rightB
  rw [Bool.and_eq_true, decide_eq_true_eq, List.all_eq_true]
  refine ⟨⟨by rw [m.sw]; have := h.s1; omega, by rw [m.sw]; have := h.s2; omega, by rw [m.next_len]; exact h.n1, by rw [m.next_len]; exact h.n2, by rw [m.next_len, m.ends_len]⟩, fun r hr => ?_⟩
  obtain ⟨i, hi, rfl⟩ := List.mem_map.1 hr
  have hi := List.mem_range.1 hi
  simp only [rowB, Bool.and_eq_true, decide_eq_true_eq, List.all_eq_true, goB]
  refine ⟨by rw [m.row_len]; rfl, fun t ht => ?_⟩
  obtain ⟨c, hc, rfl⟩ := List.mem_map.1 ht
  have := h.ok i c hi (List.mem_range.1 hc)
  rw [m.next_len]
  omega
theorem fine_few {m : Ma} (h : m.Fine) : Few m.dfa := by
  have h1 := h.n2
  have h2 := h.s2
  refine ⟨by rw [m.next_len]; omega, by rw [m.ends_len]; omega, fun r hr => ?_⟩
  obtain ⟨i, hi, rfl⟩ := List.mem_map.1 hr
  rw [m.row_len]; omega
theorem loop18g (a b : List Int) (hl : a.length = b.length) (ha : a.length < 9223372036854775807) : ∀ (k i : Nat), a.length - i = k -> i <= a.length -> loopO g18 (.h0 a b (i : Int)) = some (decide (a.drop i = b.drop i)) := by
  intro k
  induction k with
  | zero =>
    intro i hk hi
    have : i = a.length := by omega
    subst this
    rw [dropN (Nat.le_refl _), dropN (by omega)]
    refine loopO_inr ?_
    unfold g18
    rw [opt_f (by simp), opt_ret]; rfl
  | succ k ih =>
    intro i hk hi
    have hlt : i < a.length := by omega
    have hlt' : i < b.length := by omega
    rw [dropE hlt, dropE hlt']
    by_cases h : a[i] = b[i]
    · refine loopO_inl (s' := .h0 a b ((i + 1 : Nat) : Int)) ?_ ?_
      · unfold g18
        rw [opt_t (by simpa using hlt), opt_chk (by omega), opt_get (getO hlt), opt_chk (by omega), opt_get (getO hlt'), opt_f (by simp [h]), opt_ret, wsucc (by omega)]
      · rw [ih (i + 1) (by omega) (by omega)]
        have : (a[i] :: a.drop (i + 1) = b[i] :: b.drop (i + 1)) ↔ (a.drop (i + 1) = b.drop (i + 1)) := by
          rw [List.cons.injEq]
          exact ⟨fun h' => h'.2, fun h' => ⟨h, h'⟩⟩
        exact congrArg some (decide_eq_decide.2 this.symm)
    · rw [loopO_inr (x := false) (by
        unfold g18
        rw [opt_t (by simpa using hlt), opt_chk (by omega), opt_get (getO hlt), opt_chk (by omega), opt_get (getO hlt'), opt_t (by simp [h]), opt_ret])]
      have : ¬ (a[i] :: a.drop (i + 1) = b[i] :: b.drop (i + 1)) := fun h' => h (List.cons.inj h').1
      rw [decide_eq_false this]
theorem ints18 (a b : List Int) (ha : a.length < 9223372036854775807) : f18 a b = some (decide (a = b)) := by
  unfold f18
  by_cases hl : a.length = b.length
  · refine runO_inl (s' := .h0 a b ((0 : Nat) : Int)) ?_ ?_
    · unfold s18
      rw [opt_f (by simp [hl]), opt_ret]; rfl
    · rw [loop18g a b hl ha _ 0 rfl (by omega)]; simp
  · have : a ≠ b := fun h => hl (by rw [h])
    rw [runO_inr (x := false) (by unfold s18; rw [opt_t (by simp; omega), opt_ret])]
    simp [this]
end Go.Proofs.Dfa
/-
  The least word that a machine takes: the search, in short, and the document's own search.
-/
namespace Go.Proofs.Dfa
open Go Go.Ab Go.ChangeShapes
set_option linter.unusedVariables false
set_option linter.unusedSimpArgs false
set_option maxRecDepth 100000
abbrev Sq := List (Nat × List Int)
def sgrow (qs : Sq) (p : Nat × List Int) (c y : Nat) : Sq := if y ∈ qs.map Prod.fst then qs else qs ++ [(y, p.2 ++ [(c : Int) + 1])]
def sstep (m : Ma) (p : Nat × List Int) (qs : Sq) : Nat -> Sq
  | 0 => qs
  | c + 1 => sgrow (sstep m p qs c) p c (m.to p.1 c)
def sq (m : Ma) : Nat -> Sq
  | 0 => [(0, [])]
  | t + 1 => match (sq m t)[t]? with
    | some p => sstep m p (sq m t) m.s
    | none => sq m t
def sans (m : Ma) : Nat -> Nat -> List Int × Bool
  | 0, _ => ([], false)
  | k + 1, t => match (sq m t)[t]? with
    | some p => if m.e p.1 = true then (p.2, true) else sans m k (t + 1)
    | none => ([], false)
structure SOk (m : Ma) (L : Nat) (qs : Sq) : Prop where
  lt : ∀ p ∈ qs, p.1 < m.n
  len : ∀ p ∈ qs, p.2.length <= L
  nodup : (qs.map Prod.fst).Nodup
theorem SOk.size {m : Ma} {L : Nat} {qs : Sq} (h : SOk m L qs) : qs.length <= m.n := by
  have := nodup_sub_len (b := List.range m.n) h.nodup (fun x hx => by
    obtain ⟨p, hp, rfl⟩ := List.mem_map.1 hx
    exact List.mem_range.2 (h.lt p hp))
  simpa using this
theorem sgrow_ok {m : Ma} {L : Nat} {qs : Sq} (h : SOk m (L + 1) qs) {p : Nat × List Int} (hp : p.2.length <= L) (c : Nat) {y : Nat} (hy : y < m.n) : SOk m (L + 1) (sgrow qs p c y) := by
  unfold sgrow
  split
  · exact h
  · rename_i hn
    refine ⟨fun q hq => ?_, fun q hq => ?_, ?_⟩
    · rcases List.mem_append.1 hq with hq | hq
      · exact h.lt q hq
      · simp at hq; subst hq; exact hy
    · rcases List.mem_append.1 hq with hq | hq
      · exact h.len q hq
      · simp at hq; subst hq; simp; exact hp
    · rw [List.map_append, List.nodup_append]
      refine ⟨h.nodup, by simp, fun a ha b hb => ?_⟩
      simp at hb; subst hb
      rintro rfl; exact hn ha
theorem sstep_ok {m : Ma} (hm : m.Fine) {L : Nat} {qs : Sq} (h : SOk m (L + 1) qs) {p : Nat × List Int} (hp1 : p.1 < m.n) (hp : p.2.length <= L) : ∀ c, c <= m.s -> SOk m (L + 1) (sstep m p qs c) := by
  intro c
  induction c with
  | zero => intro _; exact h
  | succ c ih => intro hc; exact sgrow_ok (ih (by omega)) hp c (hm.ok _ _ hp1 (by omega))
theorem sgrow_pre (qs : Sq) (p : Nat × List Int) (c y : Nat) : ∃ e, sgrow qs p c y = qs ++ e := by
  unfold sgrow
  split
  · exact ⟨[], by simp⟩
  · exact ⟨_, rfl⟩
theorem sstep_pre (m : Ma) (p : Nat × List Int) (qs : Sq) : ∀ c, ∃ e, sstep m p qs c = qs ++ e := by
  intro c
  induction c with
  | zero => exact ⟨[], by simp [sstep]⟩
  | succ c ih =>
    obtain ⟨e, he⟩ := ih
    obtain ⟨f, hf⟩ := sgrow_pre (sstep m p qs c) p c (m.to p.1 c)
    exact ⟨e ++ f, by rw [sstep, hf, he, List.append_assoc]⟩
theorem sstep_at (m : Ma) (p : Nat × List Int) {qs : Sq} {t : Nat} (h : qs[t]? = some p) (c : Nat) : (sstep m p qs c)[t]? = some p := by
  obtain ⟨e, he⟩ := sstep_pre m p qs c
  rw [he, List.getElem?_append_left (getElem?_lt h)]; exact h
theorem SOk.up {m : Ma} {L : Nat} {qs : Sq} (h : SOk m L qs) : SOk m (L + 1) qs := ⟨h.lt, fun p hp => by have := h.len p hp; omega, h.nodup⟩
theorem sq_ok {m : Ma} (hm : m.Fine) : ∀ t, SOk m t (sq m t) := by
  intro t
  induction t with
  | zero => exact ⟨fun p hp => by simp [sq] at hp; subst hp; exact hm.n1, fun p hp => by simp [sq] at hp; subst hp; simp, by simp [sq]⟩
  | succ t ih =>
    rw [sq]
    split
    · rename_i p hp
      have hmem := List.mem_of_getElem? hp
      exact sstep_ok hm ih.up (ih.lt p hmem) (ih.len p hmem) m.s (Nat.le_refl _)
    · exact ih.up
def sts (qs : Sq) : List Int := qs.map fun p => (p.1 : Int)
def wds (qs : Sq) : List (List Int) := qs.map Prod.snd
theorem sts_len (qs : Sq) : (sts qs).length = qs.length := by simp [sts]
theorem wds_len (qs : Sq) : (wds qs).length = qs.length := by simp [wds]
theorem sts_get {qs : Sq} {t : Nat} {p : Nat × List Int} (h : qs[t]? = some p) : (sts qs)[(0 : Nat) + (t : Int).toNat]? = some (p.1 : Int) := by simp [sts, h]
theorem wds_get {qs : Sq} {t : Nat} {p : Nat × List Int} (h : qs[t]? = some p) : (wds qs)[(0 : Nat) + (t : Int).toNat]? = some p.2 := by simp [wds, h]
theorem find17 {d : Dfa} {y t c : Int} {A : List Int} {W : List (List Int)} (hA : A.length < 9223372036854775807) : ∀ (k i : Nat) (b : Bool), A.length - i = k -> i <= A.length ->
    loopO g17 (.h2 d y (i : Int) b t c A W) = loopO g17 (.h2 d y (A.length : Int) (b || (A.drop i).any fun x => decide (x = y)) t c A W) := by
  intro k
  induction k with
  | zero =>
    intro i b hk hi
    have : i = A.length := by omega
    subst this
    rw [dropN (Nat.le_refl _)]; simp
  | succ k ih =>
    intro i b hk hi
    have hlt : i < A.length := by omega
    cases b with
    | true =>
      refine loopO_inl ?_ ((ih (i + 1) true (by omega) (by omega)).trans (by simp))
      unfold g17
      rw [opt_t (by simpa using hlt), opt_t rfl, opt_chk rfl, opt_chk rfl, opt_ret, wsucc (by omega)]
    | false =>
      refine loopO_inl ?_ ((ih (i + 1) (decide (A[i] = y)) (by omega) (by omega)).trans ?_)
      · unfold g17
        rw [opt_t (by simpa using hlt), opt_f rfl, opt_chk (by omega), opt_get (by rw [Nat.zero_add]; exact getO hlt), opt_chk rfl, opt_chk rfl, opt_ret, wsucc (by omega)]
      · rw [dropE hlt, List.any_cons, Bool.false_or]
theorem in17 {qs : Sq} {y : Nat} : ((sts qs).any fun x => decide (x = (y : Int))) = decide (y ∈ qs.map Prod.fst) := by
  rw [Bool.eq_iff_iff, decide_eq_true_eq, List.any_eq_true]
  simp only [sts, List.mem_map, decide_eq_true_eq]
  constructor
  · rintro ⟨x, ⟨p, hp, rfl⟩, hx⟩; exact ⟨p, hp, by omega⟩
  · rintro ⟨p, hp, rfl⟩; exact ⟨_, ⟨p, hp, rfl⟩, rfl⟩
theorem end17 {d : Dfa} {qs : Sq} {p : Nat × List Int} {t c y : Nat} (hp : qs[t]? = some p) (hq : qs.length <= 256) (hw : p.2.length <= 256) (hc : c < 32) :
    loopO g17 (.h2 d (y : Int) ((sts qs).length : Int) (decide (y ∈ qs.map Prod.fst)) (t : Int) (c : Int) (sts qs) (wds qs)) =
    loopO g17 (.h1 d ((c + 1 : Nat) : Int) (sts (sgrow qs p c y)) (wds (sgrow qs p c y)) (t : Int)) := by
  have hl := sts_len qs
  have hl2 := wds_len qs
  have ht := getElem?_lt hp
  unfold sgrow
  split
  · rename_i hin
    refine loopO_inl ?_ rfl
    unfold g17
    rw [opt_f (by simp), opt_f (by simp [hin]), opt_chk rfl, opt_chk rfl, opt_ret, wsucc (by omega)]
  · rename_i hin
    refine loopO_inl ?_ rfl
    have hwc : IntKind.i64.wrap ((c : Int) + 1) = (c : Int) + 1 := w64 (by omega) (by omega)
    unfold g17
    rw [opt_f (by simp), opt_t (by simp [hin]), opt_chk (by omega), opt_get (wds_get hp), hwc]
    simp only [List.drop_zero, List.take_succ_cons, List.take_zero, List.take_length, Nat.zero_add]
    rw [opt_chk (by omega), opt_chk (by simp), opt_chk (by simp; omega), opt_chk (by simp), opt_chk (by simp), opt_chk (by simp; omega), opt_chk (by simp), opt_chk (by simp; omega), opt_chk trivial, opt_chk trivial, opt_ret]
    simp [sts, wds]
theorem row17 {m : Ma} (hm : m.Fine) {qs : Sq} {p : Nat × List Int} {t L : Nat} (h : SOk m (L + 1) qs) (hp1 : p.1 < m.n) (hp2 : p.2.length <= L) (hL : L <= 256) (hp : qs[t]? = some p) (ht : t < 256) :
    ∀ (k c : Nat), m.s - c = k -> c <= m.s -> loopO g17 (.h1 m.dfa (c : Int) (sts (sstep m p qs c)) (wds (sstep m p qs c)) (t : Int)) = loopO g17 (.h0 m.dfa ((t + 1 : Nat) : Int) (wds (sstep m p qs m.s)) (sts (sstep m p qs m.s))) := by
  have hs2 := hm.s2
  have hn2 := hm.n2
  intro k
  induction k with
  | zero =>
    intro c hk hc
    have : c = m.s := by omega
    subst this
    refine loopO_inl ?_ rfl
    unfold g17
    rw [opt_f (by rw [m.sw]; simp), opt_chk rfl, opt_chk rfl, opt_ret, wsucc (by omega)]
  | succ k ih =>
    intro c hk hc
    have hlt : c < m.s := by omega
    have hok := sstep_ok hm h hp1 hp2 c hc
    have hsz := hok.size
    have hat := sstep_at m p hp c
    have hatl := getElem?_lt hat
    have hl := sts_len (sstep m p qs c)
    refine loopO_inl (s' := .h2 m.dfa ((m.to p.1 c : Nat) : Int) ((0 : Nat) : Int) false (t : Int) (c : Int) (sts (sstep m p qs c)) (wds (sstep m p qs c))) ?_ ?_
    · unfold g17
      rw [opt_t (by rw [m.sw]; simpa using hlt), opt_chk (by omega), opt_get (sts_get hat), opt_chk (by omega), opt_get (Ma.next_get hp1), opt_chk (by omega), opt_get (Ma.row_get _ hlt), opt_chk rfl, opt_chk rfl, opt_ret]; rfl
    · rw [find17 (by omega) _ 0 false rfl (by omega), List.drop_zero, Bool.false_or, in17, end17 hat (by omega) (by omega) (by omega)]
      exact ih (c + 1) (by omega) (by omega)
theorem loop17 {m : Ma} (hm : m.Fine) : ∀ (k t : Nat), m.n + 1 - t = k -> t <= m.n + 1 -> loopO g17 (.h0 m.dfa (t : Int) (wds (sq m t)) (sts (sq m t))) = some (sans m k t) := by
  have hn2 := hm.n2
  intro k
  induction k with
  | zero =>
    intro t hk ht
    have hsz := (sq_ok hm t).size
    have hl := sts_len (sq m t)
    refine loopO_inr ?_
    unfold g17
    rw [opt_f (by simp; omega), opt_ret]; rfl
  | succ k ih =>
    intro t hk ht
    have hok := sq_ok hm t
    have hl := sts_len (sq m t)
    have hl2 := wds_len (sq m t)
    rw [sans]
    split
    · rename_i p hp
      have htl := getElem?_lt hp
      have hsz := hok.size
      have hmem := List.mem_of_getElem? hp
      have hp1 := hok.lt p hmem
      split
      · rename_i he
        refine loopO_inr ?_
        unfold g17
        rw [opt_t (by simp; omega), opt_chk (by omega), opt_get (sts_get hp), opt_chk (by omega), opt_get (Ma.ends_get hp1), opt_t he, opt_chk (by omega), opt_get (wds_get hp), opt_ret]
      · rename_i he
        refine loopO_inl (s' := .h1 m.dfa ((0 : Nat) : Int) (sts (sq m t)) (wds (sq m t)) (t : Int)) ?_ ?_
        · unfold g17
          rw [opt_t (by simp; omega), opt_chk (by omega), opt_get (sts_get hp), opt_chk (by omega), opt_get (Ma.ends_get hp1), opt_f (by simpa using he), opt_chk rfl, opt_chk rfl, opt_ret]; rfl
        · have := row17 hm hok.up hp1 (hok.len p hmem) (by omega) hp (by omega) _ 0 rfl (by omega)
          have e : sq m (t + 1) = sstep m p (sq m t) m.s := by rw [sq, hp]
          rw [show sstep m p (sq m t) 0 = sq m t from rfl, <- e] at this
          rw [this]
          exact ih (t + 1) (by omega) (by omega)
    · rename_i hp
      have : (sq m t).length <= t := List.getElem?_eq_none_iff.1 hp
      refine loopO_inr ?_
      unfold g17
      rw [opt_f (by simp; omega), opt_ret]
theorem least17 {m : Ma} (hm : m.Fine) : f17 m.dfa = some (sans m (m.n + 1) 0) := by
  unfold f17
  refine runO_inl (s' := .h0 m.dfa ((0 : Nat) : Int) (wds (sq m 0)) (sts (sq m 0))) ?_ (loop17 hm _ 0 rfl (by omega))
  unfold s17
  rw [opt_get (right20 _ (fine_few hm)), opt_f (by rw [fine_right hm]; rfl), opt_chk (by rfl), opt_chk (by rfl), opt_ret]
  rfl
theorem least17_not {d : Dfa} (hd : Few d) (hR : rightB d = false) : f17 d = some ([], false) := by
  unfold f17
  refine runO_inr ?_
  unfold s17
  rw [opt_get (right20 _ hd), opt_t (by rw [hR]; rfl), opt_ret]
end Go.Proofs.Dfa
/-
  The program's search for the least word: a word beside each state, and what is seen.
-/
namespace Go.Proofs.Dfa
open Go Go.Ab Go.ChangeShapes
set_option linter.unusedVariables false
set_option linter.unusedSimpArgs false
set_option maxRecDepth 100000
structure Beside (m : Ma) (qs : Sq) (W : List (List Int)) (B : List Bool) : Prop where
  wl : W.length = m.n
  bl : B.length = m.n
  word : ∀ p ∈ qs, W[p.1]? = some p.2
  seen : ∀ j, j < m.n -> B[j]? = some (decide (j ∈ qs.map Prod.fst))
theorem newrow (w : List Int) (x : Int) : ((List.take (min w.length (w.length + 1)) w ++ List.drop (min w.length (w.length + 1)) (List.replicate (w.length + 1) (0 : Int))).set w.length x) = w ++ [x] := by
  have : min w.length (w.length + 1) = w.length := by omega
  rw [this, List.take_length, List.drop_replicate, Nat.add_sub_cancel_left, List.set_append_right _ _ (Nat.le_refl _)]
  simp
theorem Beside.add {m : Ma} {qs : Sq} {W : List (List Int)} {B : List Bool} (h : Beside m qs W B) {y : Nat} (hy : y < m.n) (hn : y ∉ qs.map Prod.fst) (w : List Int) : Beside m (qs ++ [(y, w)]) (W.set y w) (B.set y true) := by
  refine ⟨by simp [h.wl], by simp [h.bl], fun p hp => ?_, fun j hj => ?_⟩
  · rcases List.mem_append.1 hp with hp | hp
    · have : y ≠ p.1 := fun e => hn (e ▸ List.mem_map.2 ⟨p, hp, rfl⟩)
      rw [List.getElem?_set_ne this]; exact h.word p hp
    · simp at hp; subst hp
      rw [List.getElem?_set_self (by rw [h.wl]; exact hy)]
  · by_cases e : y = j
    · subst e
      rw [List.getElem?_set_self (by rw [h.bl]; exact hy)]; simp
    · rw [List.getElem?_set_ne e, h.seen j hj, List.map_append, List.map_cons, List.map_nil]
      congr 1
      have : ¬ j = y := fun e' => e e'.symm
      simp [this]
theorem one16 {m : Ma} (hm : m.Fine) {qs : Sq} {p : Nat × List Int} {t c : Nat} (hq : SOk m 300 qs) (hp : qs[t]? = some p) (hc : c < m.s) {W : List (List Int)} {B : List Bool} (h : Beside m qs W B) :
    ∃ W' B', Beside m (sgrow qs p c (m.to p.1 c)) W' B' ∧ loopO g16 (.h1 m.dfa (p.1 : Int) (m.row p.1) (c : Int) (sts (qs.drop (t + 1))) W B) = loopO g16 (.h1 m.dfa (p.1 : Int) (m.row p.1) ((c + 1 : Nat) : Int) (sts ((sgrow qs p c (m.to p.1 c)).drop (t + 1))) W' B') := by
  have hs2 := hm.s2
  have hn2 := hm.n2
  have hmem := List.mem_of_getElem? hp
  have htl := getElem?_lt hp
  have hsz := hq.size
  have hp1 := hq.lt p hmem
  have hp2 := hq.len p hmem
  have hy := hm.ok _ _ hp1 hc
  have hw := h.word p hmem
  have hB := h.seen _ hy
  have wl := h.wl
  have bl := h.bl
  have hrl := m.row_len p.1
  unfold sgrow
  split
  · rename_i hin
    refine ⟨W, B, h, loopO_inl ?_ rfl⟩
    unfold g16
    rw [opt_t (by rw [hrl]; simpa using hc), opt_chk (by omega), opt_get (Ma.row_get _ hc), opt_chk (by omega), opt_get (by rw [Nat.zero_add, Int.toNat_natCast]; exact hB), opt_f (by simp [hin]), opt_chk rfl, opt_chk rfl, opt_chk rfl, opt_ret, wsucc (by omega)]
  · rename_i hin
    have hne : ¬ (0 + ((p.1 : Nat) : Int).toNat = 0 + ((m.to p.1 c : Nat) : Int).toNat) := by
      intro e
      rw [Int.toNat_natCast, Int.toNat_natCast] at e
      apply hin
      rw [show m.to p.1 c = p.1 by omega]
      exact List.mem_map.2 ⟨p, hmem, rfl⟩
    have hWy : W[0 + ((m.to p.1 c : Nat) : Int).toNat]? = some (W[m.to p.1 c]'(by omega)) := by rw [Nat.zero_add, Int.toNat_natCast]; simp [wl, hy]
    have hWp : W[0 + ((p.1 : Nat) : Int).toNat]? = some p.2 := by rw [Nat.zero_add, Int.toNat_natCast]; exact hw
    have hBy : B[0 + ((m.to p.1 c : Nat) : Int).toNat]? = some false := by rw [Nat.zero_add, Int.toNat_natCast, hB]; simp [hin]
    refine ⟨W.set (m.to p.1 c) (p.2 ++ [(c : Int) + 1]), B.set (m.to p.1 c) true, h.add hy hin _, loopO_inl ?_ rfl⟩
    have hwc : IntKind.i64.wrap ((c : Int) + 1) = (c : Int) + 1 := w64 (by omega) (by omega)
    have hdl := sts_len (qs.drop (t + 1))
    rw [List.length_drop] at hdl
    unfold g16
    rw [opt_t (by rw [hrl]; simpa using hc), opt_chk (by omega), opt_get (Ma.row_get _ hc), opt_chk (by omega), opt_get hBy, opt_t (by rfl), opt_chk (by omega), opt_get hBy, opt_chk (by omega), opt_get hWp, wsucc (n := p.2.length) (by omega)]
    rw [opt_chk (by omega), opt_chk (by omega), opt_get hWy, opt_chk (by omega), opt_t (by simp), opt_chk (by omega), opt_f (by simpa using hne), opt_get hWp, opt_chk (by omega), opt_chk (by omega), opt_t (by simp), opt_chk (by omega), opt_f (by simpa using hne), opt_get hWp, hwc]
    simp only [Int.toNat_natCast, Nat.zero_add, List.drop_zero, List.take_zero, List.nil_append, List.length_replicate, newrow, List.take_succ_cons]
    rw [opt_chk (by omega), opt_get (x := 0) (by simp), opt_chk (by simp), opt_chk (by simp; omega), opt_chk (by simp), opt_chk trivial, opt_chk (by simp), opt_chk (by simp), opt_ret]
    rw [List.take_of_length_le (by simp), List.drop_append_of_le_length (by omega)]
    simp [sts]
theorem SOk.le {m : Ma} {L L' : Nat} {qs : Sq} (h : SOk m L qs) (hl : L <= L') : SOk m L' qs := ⟨h.lt, fun p hp => Nat.le_trans (h.len p hp) hl, h.nodup⟩
theorem row16 {m : Ma} (hm : m.Fine) {qs : Sq} {p : Nat × List Int} {t L : Nat} (h : SOk m (L + 1) qs) (hp1 : p.1 < m.n) (hp2 : p.2.length <= L) (hL : L <= 256) (hp : qs[t]? = some p) :
    ∀ (k c : Nat) (W : List (List Int)) (B : List Bool), m.s - c = k -> c <= m.s -> Beside m (sstep m p qs c) W B -> ∃ W' B', Beside m (sstep m p qs m.s) W' B' ∧
      loopO g16 (.h1 m.dfa (p.1 : Int) (m.row p.1) (c : Int) (sts ((sstep m p qs c).drop (t + 1))) W B) = loopO g16 (.h0 m.dfa (sts ((sstep m p qs m.s).drop (t + 1))) W' B') := by
  have hs2 := hm.s2
  have hrl := m.row_len p.1
  intro k
  induction k with
  | zero =>
    intro c W B hk hc hb
    have : c = m.s := by omega
    subst this
    refine ⟨W, B, hb, loopO_inl ?_ rfl⟩
    unfold g16
    rw [opt_f (by rw [hrl]; simp), opt_chk rfl, opt_chk rfl, opt_chk rfl, opt_ret]
  | succ k ih =>
    intro c W B hk hc hb
    have hlt : c < m.s := by omega
    have hok := (sstep_ok hm h hp1 hp2 c hc).le (show L + 1 <= 300 by omega)
    obtain ⟨W1, B1, hb1, e1⟩ := one16 hm hok (sstep_at m p hp c) hlt hb
    obtain ⟨W2, B2, hb2, e2⟩ := ih (c + 1) W1 B1 (by omega) (by omega) hb1
    exact ⟨W2, B2, hb2, e1.trans e2⟩
theorem loop16 {m : Ma} (hm : m.Fine) : ∀ (k t : Nat) (W : List (List Int)) (B : List Bool), m.n + 1 - t = k -> t <= m.n + 1 -> Beside m (sq m t) W B -> loopO g16 (.h0 m.dfa (sts ((sq m t).drop t)) W B) = some (sans m k t) := by
  have hn2 := hm.n2
  intro k
  induction k with
  | zero =>
    intro t W B hk ht hb
    have hsz := (sq_ok hm t).size
    rw [dropN (by omega)]
    refine loopO_inr ?_
    unfold g16
    rw [opt_f (by simp [sts]), opt_ret]; rfl
  | succ k ih =>
    intro t W B hk ht hb
    have hok := sq_ok hm t
    rw [sans]
    split
    · rename_i p hp
      have htl := getElem?_lt hp
      have hsz := hok.size
      have hmem := List.mem_of_getElem? hp
      have hp1 := hok.lt p hmem
      have hw := hb.word p hmem
      have wl := hb.wl
      have hpe : (sq m t)[t] = p := by rw [List.getElem?_eq_getElem htl] at hp; exact Option.some.inj hp
      have hd : (sq m t).drop t = p :: (sq m t).drop (t + 1) := by rw [dropE htl, hpe]
      have hs : sts ((sq m t).drop t) = (p.1 : Int) :: sts ((sq m t).drop (t + 1)) := by rw [hd]; rfl
      have hz : ((p.1 : Int) :: sts ((sq m t).drop (t + 1))).length = (sts ((sq m t).drop (t + 1))).length + 1 := rfl
      rw [hs]
      split
      · rename_i he
        refine loopO_inr ?_
        unfold g16
        rw [opt_t (by simp), opt_chk (by omega), opt_get (x := (p.1 : Int)) (by rfl), opt_chk (by omega), opt_chk (by omega), opt_get (Ma.ends_get hp1), opt_t he, opt_chk (by omega), opt_get (by rw [Nat.zero_add, Int.toNat_natCast]; exact hw), opt_ret]
      · rename_i he
        obtain ⟨W', B', hb', e'⟩ := row16 hm hok.up hp1 (hok.len p hmem) (by omega) hp _ 0 W B rfl (by omega) hb
        have e : sq m (t + 1) = sstep m p (sq m t) m.s := by rw [sq, hp]
        rw [<- e] at hb' e'
        refine loopO_inl (s' := .h1 m.dfa (p.1 : Int) (m.row p.1) ((0 : Nat) : Int) (sts ((sstep m p (sq m t) 0).drop (t + 1))) W B) ?_ (e'.trans (ih (t + 1) W' B' (by omega) (by omega) hb'))
        unfold g16
        rw [opt_t (by simp), opt_chk (by omega), opt_get (x := (p.1 : Int)) (by rfl), opt_chk (by omega), opt_chk (by omega), opt_get (Ma.ends_get hp1), opt_f (by simpa using he), opt_chk (by omega), opt_get (Ma.next_get hp1), opt_chk (by omega), opt_chk (by simp), opt_chk rfl, opt_chk rfl, opt_ret]
        rfl
    · rename_i hp
      have : (sq m t).length <= t := List.getElem?_eq_none_iff.1 hp
      rw [dropN this]
      refine loopO_inr ?_
      unfold g16
      rw [opt_f (by simp [sts]), opt_ret]
theorem least16 {m : Ma} (hm : m.Fine) : f16 m.dfa = some (sans m (m.n + 1) 0) := by
  have hn1 := hm.n1
  have hn2 := hm.n2
  have hnl := m.next_len
  unfold f16
  refine runO_inl (s' := .h0 m.dfa (sts ((sq m 0).drop 0)) (List.replicate m.n []) ((List.replicate m.n false).set 0 true)) ?_ (loop16 hm _ 0 _ _ rfl (by omega) ⟨by simp, by simp, fun p hp => ?_, fun j hj => ?_⟩)
  · unfold s16
    rw [opt_get (right19 _ (fine_few hm)), opt_f (by rw [fine_right hm]; rfl), hnl, opt_chk (by omega), opt_chk (by omega)]
    simp only [Int.toNat_natCast]
    rw [opt_chk (by simp; omega), opt_get (x := false) (by rw [List.getElem?_replicate, if_pos (by omega)]), opt_chk (by first | rfl | trivial), opt_chk (by first | rfl | simp), opt_chk (by first | rfl | trivial), opt_ret]
    exact congrArg (fun k => some (Sum.inl (L16.h0 m.dfa [0] (List.replicate k []) ((List.replicate m.n false).set 0 true)))) hnl
  · simp [sq] at hp
    subst hp
    show (List.replicate m.n ([] : List Int))[0]? = some []
    rw [List.getElem?_replicate, if_pos (by omega)]
  · by_cases e : 0 = j
    · subst e
      rw [List.getElem?_set_self (by simp; omega)]; simp [sq]
    · rw [List.getElem?_set_ne e]
      have : ¬ j = 0 := fun h => e h.symm
      simp [sq, this, hj]
theorem least16_not {d : Dfa} (hd : Few d) (hR : rightB d = false) : f16 d = some ([], false) := by
  unfold f16
  refine runO_inr ?_
  unfold s16
  rw [opt_get (right19 _ hd), opt_t (by rw [hR]; rfl), opt_ret]
end Go.Proofs.Dfa
/-
  Where a machine goes, in both tellings.
-/
namespace Go.Proofs.Dfa
open Go Go.Ab Go.ChangeShapes
set_option linter.unusedVariables false
set_option linter.unusedSimpArgs false
set_option maxRecDepth 100000
theorem next_not {d : Dfa} (hd : Few d) (hR : rightB d = false) (i n : Int) : f21 d i n = some (-1) ∧ f22 d i n = some (-1) := by
  constructor
  · unfold f21 u21
    rw [opt_get (right19 _ hd), opt_t (by rw [hR]; rfl), opt_ret]
  · unfold f22 u22
    rw [opt_get (right20 _ hd), opt_t (by rw [hR]; rfl), opt_ret]
theorem accept_not {d : Dfa} (hd : Few d) (hR : rightB d = false) (i : Int) : f23 d i = some false ∧ f24 d i = some false := by
  constructor
  · unfold f23 u23
    rw [opt_get (right19 _ hd), hR, opt_f (by rfl), opt_ret]
  · unfold f24 u24
    rw [opt_get (right20 _ hd), hR, opt_f (by rfl), opt_ret]
def nextI (m : Ma) (i n : Int) : Int := if i < 0 ∨ (m.n : Int) <= i ∨ n < 1 ∨ (m.s : Int) < n then -1 else ((m.to i.toNat (n - 1).toNat : Nat) : Int)
def acceptI (m : Ma) (i : Int) : Bool := if 0 <= i ∧ i < (m.n : Int) then m.e i.toNat else false
theorem next_is {m : Ma} (hm : m.Fine) (i n : Int) : f21 m.dfa i n = some (nextI m i n) ∧ f22 m.dfa i n = some (nextI m i n) := by
  have hs2 := hm.s2
  have hnl := m.next_len
  have r19 := right19 _ (fine_few hm)
  have r20 := right20 _ (fine_few hm)
  rw [fine_right hm] at r19 r20
  unfold f21 u21 f22 u22 nextI
  by_cases h1 : i < 0
  · rw [if_pos (.inl h1)]
    exact ⟨by rw [opt_get r19, opt_f (by rfl), opt_t (by simpa using h1), opt_ret], by rw [opt_get r20, opt_f (by rfl), opt_t (by simpa using h1), opt_ret]⟩
  by_cases h2 : (m.n : Int) <= i
  · rw [if_pos (.inr (.inl h2))]
    exact ⟨by rw [opt_get r19, opt_f (by rfl), opt_f (by simpa using h1), hnl, opt_t (by simpa using h2), opt_ret], by rw [opt_get r20, opt_f (by rfl), opt_f (by simpa using h1), hnl, opt_t (by simpa using h2), opt_ret]⟩
  by_cases h3 : n < 1
  · rw [if_pos (.inr (.inr (.inl h3)))]
    exact ⟨by rw [opt_get r19, opt_f (by rfl), opt_f (by simpa using h1), hnl, opt_f (by simpa using h2), opt_t (by simpa using h3), opt_ret], by rw [opt_get r20, opt_f (by rfl), opt_f (by simpa using h1), hnl, opt_f (by simpa using h2), opt_t (by simpa using h3), opt_ret]⟩
  by_cases h4 : (m.s : Int) < n
  · rw [if_pos (.inr (.inr (.inr h4)))]
    exact ⟨by rw [opt_get r19, opt_f (by rfl), opt_f (by simpa using h1), hnl, opt_f (by simpa using h2), opt_f (by simpa using h3), opt_t (by rw [m.sw]; simpa using h4), opt_ret], by rw [opt_get r20, opt_f (by rfl), opt_f (by simpa using h1), hnl, opt_f (by simpa using h2), opt_f (by simpa using h3), opt_t (by rw [m.sw]; simpa using h4), opt_ret]⟩
  rw [if_neg (by omega)]
  have hc : (n - 1).toNat < m.s := by omega
  have hi : i.toNat < m.n := by omega
  have hwr : IntKind.i64.wrap (n - 1) = (((n - 1).toNat : Nat) : Int) := by rw [w64 (by omega) (by omega)]; omega
  have hg : m.dfa.Next[i.toNat]? = some (m.row i.toNat) := by have := Ma.next_get hi; rwa [Int.toNat_natCast] at this
  have hr := Ma.row_get (m := m) i.toNat hc
  exact ⟨by rw [opt_get r19, opt_f (by rfl), opt_f (by simpa using h1), hnl, opt_f (by simpa using h2), opt_f (by simpa using h3), opt_f (by rw [m.sw]; simpa using h4), opt_chk (by omega), opt_get hg, hwr, opt_chk (by omega), opt_get hr, opt_ret],
    by rw [opt_get r20, opt_f (by rfl), opt_f (by simpa using h1), hnl, opt_f (by simpa using h2), opt_f (by simpa using h3), opt_f (by rw [m.sw]; simpa using h4), opt_chk (by omega), opt_get hg, hwr, opt_chk (by omega), opt_get hr, opt_ret]⟩
theorem accept_is {m : Ma} (hm : m.Fine) (i : Int) : f23 m.dfa i = some (acceptI m i) ∧ f24 m.dfa i = some (acceptI m i) := by
  have hnl := m.next_len
  have r19 := right19 _ (fine_few hm)
  have r20 := right20 _ (fine_few hm)
  rw [fine_right hm] at r19 r20
  unfold f23 u23 f24 u24 acceptI
  by_cases h1 : 0 <= i
  · by_cases h2 : i < (m.n : Int)
    · rw [if_pos ⟨h1, h2⟩]
      have hi : i.toNat < m.n := by omega
      have hg : m.dfa.Ends[i.toNat]? = some (m.e i.toNat) := by have := Ma.ends_get hi; rwa [Int.toNat_natCast] at this
      exact ⟨by rw [opt_get r19, opt_t (by rfl), opt_t (by simpa using h1), hnl, opt_t (by simpa using h2), opt_chk h1, opt_get hg, opt_ret], by rw [opt_get r20, opt_t (by rfl), opt_t (by simpa using h1), hnl, opt_t (by simpa using h2), opt_chk h1, opt_get hg, opt_ret]⟩
    · rw [if_neg (by omega)]
      exact ⟨by rw [opt_get r19, opt_t (by rfl), opt_t (by simpa using h1), hnl, opt_f (by simpa using h2), opt_ret], by rw [opt_get r20, opt_t (by rfl), opt_t (by simpa using h1), hnl, opt_f (by simpa using h2), opt_ret]⟩
  · rw [if_neg (by omega)]
    exact ⟨by rw [opt_get r19, opt_t (by rfl), opt_f (by simpa using h1), opt_ret], by rw [opt_get r20, opt_t (by rfl), opt_f (by simpa using h1), opt_ret]⟩
def runB (m : Ma) : Nat -> List Int -> Bool
  | at_, [] => m.e at_
  | at_, n :: w => if n < 1 ∨ (m.s : Int) < n then false else runB m (m.to at_ (n - 1).toNat) w
theorem loop25 {m : Ma} (hm : m.Fine) (w : List Int) (hw : w.length < 9223372036854775807) : ∀ (k i a : Nat), w.length - i = k -> i <= w.length -> a < m.n -> loopO g25 (.h0 m.dfa w (i : Int) (a : Int)) = some (runB m a (w.drop i)) := by
  have hs := hm.s2
  intro k
  induction k with
  | zero =>
    intro i a hk hi ha
    have : i = w.length := by omega
    subst this
    rw [dropN (Nat.le_refl _)]
    refine loopO_inr ?_
    unfold g25
    rw [opt_f (by simp), opt_chk (by omega), opt_get (Ma.ends_get ha), opt_ret]
    rfl
  | succ k ih =>
    intro i a hk hi ha
    have hlt : i < w.length := by omega
    rw [dropE hlt, runB]
    by_cases h1 : w[i] < 1
    · rw [if_pos (.inl h1)]
      refine loopO_inr ?_
      unfold g25
      rw [opt_t (by simpa using hlt), opt_chk (by omega), opt_get (getO hlt), opt_t (by simpa using h1), opt_ret]
    · by_cases h2 : (m.s : Int) < w[i]
      · rw [if_pos (.inr h2)]
        refine loopO_inr ?_
        unfold g25
        rw [opt_t (by simpa using hlt), opt_chk (by omega), opt_get (getO hlt), opt_f (by simpa using h1), opt_t (by rw [m.sw]; simpa using h2), opt_ret]
      · rw [if_neg (by omega)]
        have hc : (w[i] - 1).toNat < m.s := by omega
        have hto := hm.ok a _ ha hc
        have hwr : IntKind.i64.wrap (w[i] - 1) = (((w[i] - 1).toNat : Nat) : Int) := by rw [w64 (by omega) (by omega)]; omega
        refine loopO_inl ?_ (ih (i + 1) _ (by omega) (by omega) hto)
        unfold g25
        rw [opt_t (by simpa using hlt), opt_chk (by omega), opt_get (getO hlt), opt_f (by simpa using h1), opt_f (by rw [m.sw]; simpa using h2), opt_chk (by omega), opt_get (Ma.next_get ha), hwr, opt_chk (by omega), opt_get (Ma.row_get a hc), opt_ret, wsucc (by omega)]
theorem run25 {m : Ma} (hm : m.Fine) (w : List Int) (hw : w.length < 9223372036854775807) : f25 m.dfa w = some (runB m 0 w) := by
  unfold f25
  refine runO_inl (s' := .h0 m.dfa w ((0 : Nat) : Int) ((0 : Nat) : Int)) ?_ (loop25 hm w hw _ 0 0 rfl (by omega) hm.n1)
  unfold s25
  rw [opt_get (right19 _ (fine_few hm)), opt_f (by rw [fine_right hm]; rfl), opt_ret]
  rfl
theorem loop26 {m : Ma} (hm : m.Fine) (w : List Int) (hw : w.length < 9223372036854775807) : ∀ (k i a : Nat), w.length - i = k -> i <= w.length -> a < m.n -> loopO g26 (.h0 m.dfa w (i : Int) (a : Int)) = some (runB m a (w.drop i)) := by
  have hs := hm.s2
  intro k
  induction k with
  | zero =>
    intro i a hk hi ha
    have : i = w.length := by omega
    subst this
    rw [dropN (Nat.le_refl _)]
    refine loopO_inr ?_
    unfold g26
    rw [opt_f (by simp), opt_get (accept_is hm _).2, opt_ret]
    simp [acceptI, ha, runB]
  | succ k ih =>
    intro i a hk hi ha
    have hlt : i < w.length := by omega
    rw [dropE hlt, runB]
    have step : loopO g26 (.h0 m.dfa w (i : Int) (a : Int)) = loopO g26 (.h0 m.dfa w ((i + 1 : Nat) : Int) (nextI m (a : Int) w[i])) := by
      refine loopO_inl ?_ rfl
      unfold g26
      rw [opt_t (by simpa using hlt), opt_t (by simp), opt_chk (by omega), opt_get (getO hlt), opt_get (next_is hm _ _).2, opt_ret, wsucc (by omega)]
    rw [step]
    split
    · rename_i hn
      have e : nextI m (a : Int) w[i] = -1 := by unfold nextI; rw [if_pos (by omega)]
      rw [e]
      refine loopO_inr ?_
      unfold g26
      have ha1 : acceptI m (-1) = false := by unfold acceptI; rw [if_neg (by omega)]
      by_cases hl : ((i + 1 : Nat) : Int) < (w.length : Int)
      · rw [opt_t (by simpa using hl), opt_f (by simp), opt_get (accept_is hm _).2, opt_ret, ha1]
      · rw [opt_f (by simpa using hl), opt_get (accept_is hm _).2, opt_ret, ha1]
    · rename_i hn
      have e : nextI m (a : Int) w[i] = ((m.to a (w[i] - 1).toNat : Nat) : Int) := by unfold nextI; rw [if_neg (by omega), Int.toNat_natCast]
      rw [e]
      exact ih (i + 1) _ (by omega) (by omega) (hm.ok _ _ ha (by omega))
theorem run26 {m : Ma} (hm : m.Fine) (w : List Int) (hw : w.length < 9223372036854775807) : f26 m.dfa w = some (runB m 0 w) := by
  unfold f26
  refine runO_inl (s' := .h0 m.dfa w ((0 : Nat) : Int) ((0 : Nat) : Int)) ?_ (loop26 hm w hw _ 0 0 rfl (by omega) hm.n1)
  unfold s26
  rw [opt_ret]
  rfl
theorem run_not {d : Dfa} (hd : Few d) (hR : rightB d = false) (w : List Int) (hw : w.length < 9223372036854775807) : f25 d w = some false ∧ f26 d w = some false := by
  have hacc := fun i => (accept_not hd hR i).2
  constructor
  · unfold f25
    refine runO_inr ?_
    unfold s25
    rw [opt_get (right19 _ hd), opt_t (by rw [hR]; rfl), opt_ret]
  · have last : ∀ i : Int, loopO g26 (.h0 d w i (-1)) = some false := by
      intro i
      refine loopO_inr ?_
      unfold g26
      by_cases hl : i < (w.length : Int)
      · rw [opt_t (by simpa using hl), opt_f (by simp), opt_get (hacc _), opt_ret]
      · rw [opt_f (by simpa using hl), opt_get (hacc _), opt_ret]
    unfold f26
    by_cases h0 : 0 < w.length
    · refine runO_inl (s' := .h0 d w ((0 : Nat) : Int) 0) ?_ (loopO_inl (s' := .h0 d w ((0 + 1 : Nat) : Int) (-1)) ?_ (last _))
      · unfold s26; rw [opt_ret]; rfl
      · unfold g26
        rw [opt_t (by simpa using h0), opt_t (by simp), opt_chk (by omega), opt_get (getO h0), opt_get (next_not hd hR _ _).2, opt_ret, wsucc (by omega)]
    · refine runO_inl (s' := .h0 d w ((0 : Nat) : Int) 0) ?_ (loopO_inr ?_)
      · unfold s26; rw [opt_ret]; rfl
      · unfold g26
        rw [opt_f (by rw [decide_eq_false_iff_not]; omega), opt_get (hacc _), opt_ret]
theorem sans_len {m : Ma} (hm : m.Fine) : ∀ (k t : Nat), m.n + 1 - t = k -> t <= m.n + 1 -> (sans m k t).1.length <= 300 := by
  have hn2 := hm.n2
  intro k
  induction k with
  | zero => intro t _ _; simp [sans]
  | succ k ih =>
    intro t hk ht
    rw [sans]
    split
    · rename_i p hp
      split
      · have := (sq_ok hm t).len p (List.mem_of_getElem? hp)
        show p.2.length <= 300
        omega
      · exact ih (t + 1) (by omega) (by omega)
    · simp
theorem goes5 (d : Dfa) (w : List Int) (i n : Int) (hd : Few d) (hw : w.length < 9223372036854775807) : f5 d w i n = some true := by
  unfold f5 u5
  by_cases hR : rightB d = true
  · obtain ⟨m, hm, rfl⟩ := right_fine hR
    have hl := sans_len hm (m.n + 1) 0 (by omega) (by omega)
    rw [opt_get (least16 hm), opt_get (least17 hm), opt_f (by cases (sans m (m.n + 1) 0).2 <;> rfl), opt_get (ints18 _ _ (by omega)), opt_f (by simp), opt_get (right19 _ hd), opt_get (right20 _ hd), opt_f (by rw [hR]; rfl),
      opt_get (next_is hm _ _).1, opt_get (next_is hm _ _).2, opt_t (by simp), opt_get (accept_is hm _).1, opt_get (accept_is hm _).2, opt_t (by simp), opt_get (run25 hm w hw), opt_get (run26 hm w hw), opt_t (by simp), opt_ret]
  · rw [Bool.not_eq_true] at hR
    rw [opt_get (least16_not hd hR), opt_get (least17_not hd hR), opt_f (by rfl), opt_get (ints18 _ _ (by simp)), opt_f (by simp), opt_get (right19 _ hd), opt_get (right20 _ hd), opt_f (by rw [hR]; rfl),
      opt_get (next_not hd hR _ _).1, opt_get (next_not hd hR _ _).2, opt_t (by simp), opt_get (accept_not hd hR _).1, opt_get (accept_not hd hR _).2, opt_t (by simp), opt_get (run_not hd hR w hw).1, opt_get (run_not hd hR w hw).2, opt_t (by simp), opt_ret]
theorem few_of {d : Dfa} (h : wf_36 d) : Few d := by
  obtain ⟨_, h2, h3⟩ := h
  have e : reachBytes <= 140737488355328 := by decide
  refine ⟨?_, ?_, fun r hr => ?_⟩
  · have := h2.1; omega
  · have := h3.1; omega
  · have := (h2.2 r hr).1; omega
theorem law5 {p q : Prop} (d : Dfa) (w : List Int) (i n : Int) (hd : wf_36 d) (hw : wf_40 w) (hi : p) (hn : q) : f5 d w i n = some true := by
  have e : reachBytes <= 140737488355328 := by decide
  exact goes5 d w i n (few_of hd) (by have := hw.1; omega)
end Go.Proofs.Dfa

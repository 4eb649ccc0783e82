/- A part of a law's proof: DfaU24. -/
import Derived.Test.YthhbggmlfilpdaaDoorDfaDe
import Derived.Test.YthhbggmlfilpdaaDoorDfaJ1
import Derived.Test.YthhbggmlfilpdaaDoorDfaJ2
import Derived.Test.YthhbggmlfilpdaaDoorDfaKey
import Derived.Test.YthhbggmlfilpdaaDoorDfaMod
import Derived.Test.YthhbggmlfilpdaaDoorSvPlain
set_option linter.constructorNameAsVariable false
/-
  Right machines in short; which machines are right; which are the same.
-/
namespace Go.Proofs.Dfa
open Go Go.Ab Go.ChangeShapes
set_option linter.unusedVariables false
set_option linter.unusedSimpArgs false
set_option maxRecDepth 100000
theorem getO {α : Type} {l : List α} {i : Nat} (h : i < l.length) : l[((i : Nat) : Int).toNat]? = some l[i] := by simp [h]
def nums (n : Nat) (g : Nat -> Nat) : List Int := (List.range n).map fun i => ((g i : Nat) : Int)
theorem nums_len (n : Nat) (g : Nat -> Nat) : (nums n g).length = n := by simp [nums]
theorem nums_get {n i : Nat} (g : Nat -> Nat) (h : i < n) : (nums n g)[((i : Nat) : Int).toNat]? = some ((g i : Nat) : Int) := by simp [nums, h]
theorem nums_get0 {n i : Nat} (g : Nat -> Nat) (h : i < n) : (nums n g)[(0 : Nat) + ((i : Nat) : Int).toNat]? = some ((g i : Nat) : Int) := by simp [nums, h]
theorem nums_congr {n : Nat} {g f : Nat -> Nat} (h : ∀ i, i < n -> g i = f i) : nums n g = nums n f := by
  unfold nums
  apply List.map_congr_left
  intro i hi
  rw [h i (List.mem_range.1 hi)]
theorem nums_set {n i : Nat} (g : Nat -> Nat) (h : i < n) (v : Nat) : (nums n g).set i (v : Int) = nums n fun j => if j = i then v else g j := by
  apply List.ext_getElem?
  intro j
  rw [List.getElem?_set]
  simp only [nums, List.getElem?_map, List.length_map, List.length_range]
  by_cases e : i = j
  · subst e
    rw [if_pos rfl, if_pos h, List.getElem?_range h]
    simp
  · rw [if_neg e]
    by_cases hj : j < n
    · rw [List.getElem?_range hj]
      simp only [Option.map_some]
      rw [if_neg (fun e' => e e'.symm)]
    · rw [List.getElem?_eq_none (by simp; omega)]; rfl
theorem nums_zero (n : Nat) : List.replicate n (0 : Int) = nums n fun _ => 0 := by
  unfold nums
  apply List.ext_getElem?
  intro j
  by_cases hj : j < n
  · simp [hj]
  · rw [List.getElem?_eq_none (by simp; omega), List.getElem?_eq_none (by simp; omega)]
def Ma.row (m : Ma) (i : Nat) : List Int := nums m.s (m.to i)
def Ma.dfa (m : Ma) : Dfa := ⟨(m.s : Int), (List.range m.n).map m.row, (List.range m.n).map m.e⟩
structure Ma.Fine (m : Ma) : Prop where
  ok : m.Ok
  n1 : 1 <= m.n
  n2 : m.n <= 256
  s1 : 1 <= m.s
  s2 : m.s <= 32
theorem Ma.row_len (m : Ma) (i : Nat) : (m.row i).length = m.s := nums_len _ _
theorem Ma.next_len (m : Ma) : m.dfa.Next.length = m.n := by simp [Ma.dfa]
theorem Ma.ends_len (m : Ma) : m.dfa.Ends.length = m.n := by simp [Ma.dfa]
theorem Ma.next_get {m : Ma} {i : Nat} (h : i < m.n) : m.dfa.Next[((i : Nat) : Int).toNat]? = some (m.row i) := by simp [Ma.dfa, h]
theorem Ma.ends_get {m : Ma} {i : Nat} (h : i < m.n) : m.dfa.Ends[((i : Nat) : Int).toNat]? = some (m.e i) := by simp [Ma.dfa, h]
theorem Ma.row_get {m : Ma} (i : Nat) {c : Nat} (h : c < m.s) : (m.row i)[((c : Nat) : Int).toNat]? = some ((m.to i c : Nat) : Int) := nums_get _ h
theorem Ma.sw (m : Ma) : m.dfa.Switches = (m.s : Int) := rfl
def goB (d : Dfa) (t : Int) : Bool := decide (0 <= t) && decide (t < (d.Next.length : Int))
def rowB (d : Dfa) (r : List Int) : Bool := decide ((r.length : Int) = d.Switches) && r.all (goB d)
def rightB (d : Dfa) : Bool := decide (1 <= d.Switches ∧ d.Switches <= 32 ∧ 1 <= d.Next.length ∧ d.Next.length <= 256 ∧ d.Ends.length = d.Next.length) && d.Next.all (rowB d)
def Few (d : Dfa) : Prop := d.Next.length < 9223372036854775807 ∧ d.Ends.length < 9223372036854775807 ∧ ∀ r ∈ d.Next, r.length < 9223372036854775807
theorem loop19b (d : Dfa) (x : List Int) (j : Int) (hx : x.length < 9223372036854775807) (r : Option Bool) (hr : loopO g19 (.h1 d x (x.length : Int) j) = r) :
    ∀ (k i : Nat), x.length - i = k -> i <= x.length -> loopO g19 (.h1 d x (i : Int) j) = if (x.drop i).all (goB d) = true then r else some false := by
  intro k
  induction k with
  | zero =>
    intro i hk hi
    have : i = x.length := by omega
    subst this
    rw [dropN (Nat.le_refl _), hr]
    simp
  | succ k ih =>
    intro i hk hi
    have hlt : i < x.length := by omega
    have hg : (g19 (.h1 d x (i : Int) j)).opt = if x[i] < 0 then some (.inr false) else if (d.Next.length : Int) <= x[i] then some (.inr false) else some (.inl (.h1 d x ((i + 1 : Nat) : Int) j)) := by
      unfold g19
      rw [opt_t (by simpa using hlt), opt_chk (by omega), opt_get (getO hlt), opt_ite, opt_ite, wsucc (by omega)]
      simp only [decide_eq_true_eq]
      split
      · rfl
      · split <;> rfl
    rw [dropE hlt, List.all_cons]
    by_cases h1 : x[i] < 0
    · rw [loopO_inr (x := false) (by rw [hg, if_pos h1])]
      rw [if_neg (by simp [goB]; omega)]
    · by_cases h2 : (d.Next.length : Int) <= x[i]
      · rw [loopO_inr (x := false) (by rw [hg, if_neg h1, if_pos h2])]
        rw [if_neg (by simp [goB]; omega)]
      · rw [loopO_inl (by rw [hg, if_neg h1, if_neg h2]) (ih (i + 1) (by omega) (by omega))]
        have e1 : goB d x[i] = true := by simp [goB]; omega
        rw [e1, Bool.true_and]
theorem loop19 (d : Dfa) (hs : Few d) : ∀ (k j : Nat), d.Next.length - j = k -> j <= d.Next.length -> loopO g19 (.h0 d (j : Int)) = some ((d.Next.drop j).all (rowB d)) := by
  intro k
  induction k with
  | zero =>
    intro j hk hj
    have : j = d.Next.length := by omega
    subst this
    rw [dropN (Nat.le_refl _)]
    refine loopO_inr ?_
    unfold g19
    rw [opt_f (by simp), opt_ret]
    rfl
  | succ k ih =>
    intro j hk hj
    have hlt : j < d.Next.length := by omega
    have hx := hs.2.2 d.Next[j] (List.getElem_mem hlt)
    rw [dropE hlt, List.all_cons, rowB]
    by_cases h1 : (d.Next[j].length : Int) = d.Switches
    · rw [decide_eq_true h1, Bool.true_and]
      refine loopO_inl (s' := .h1 d d.Next[j] ((0 : Nat) : Int) (j : Int)) ?_ ?_
      · unfold g19
        rw [opt_t (by simpa using hlt), opt_chk (by omega), opt_get (getO hlt), opt_f (by simp [h1]), opt_ret]; rfl
      · have := loop19b d d.Next[j] (j : Int) hx (some ((d.Next.drop (j + 1)).all (rowB d))) (by
          refine loopO_inl (s' := .h0 d ((j + 1 : Nat) : Int)) ?_ (ih (j + 1) (by omega) (by omega))
          unfold g19
          rw [opt_f (by simp), opt_ret, wsucc (by have := hs.1; omega)]) d.Next[j].length 0 (by omega) (by omega)
        rw [this, List.drop_zero]
        by_cases hc : d.Next[j].all (goB d) = true
        · rw [if_pos hc, hc, Bool.true_and]
        · rw [if_neg hc]
          rw [Bool.not_eq_true] at hc
          rw [hc]; rfl
    · rw [decide_eq_false h1, Bool.false_and, Bool.false_and]
      refine loopO_inr ?_
      unfold g19
      rw [opt_t (by simpa using hlt), opt_chk (by omega), opt_get (getO hlt), opt_t (by simp [h1]), opt_ret]
theorem right19 (d : Dfa) (hs : Few d) : f19 d = some (rightB d) := by
  unfold f19 rightB
  by_cases h : 1 <= d.Switches ∧ d.Switches <= 32 ∧ 1 <= d.Next.length ∧ d.Next.length <= 256 ∧ d.Ends.length = d.Next.length
  · rw [decide_eq_true h, Bool.true_and]
    obtain ⟨h1, h2, h3, h4, h5⟩ := h
    refine runO_inl (s' := .h0 d ((0 : Nat) : Int)) ?_ ?_
    · unfold s19
      rw [opt_f (by simp; omega), opt_f (by simp; omega), opt_f (by simp; omega), opt_f (by simp; omega), opt_f (by simp; omega), opt_ret]; rfl
    · rw [loop19 d hs _ 0 rfl (by omega), List.drop_zero]
  · rw [decide_eq_false h, Bool.false_and]
    refine runO_inr ?_
    unfold s19
    simp only [opt_ite, opt_ret, decide_eq_true_eq, Bool.not_eq_true', decide_eq_false_iff_not]
    repeat' split
    all_goals first | rfl | (exfalso; apply h; omega)
theorem right_fine {d : Dfa} (h : rightB d = true) : ∃ m : Ma, m.Fine ∧ d = m.dfa := by
  unfold rightB at h
  rw [Bool.and_eq_true, decide_eq_true_eq, List.all_eq_true] at h
  obtain ⟨⟨h1, h2, h3, h4, h5⟩, hr⟩ := h
  have hrow : ∀ i (hi : i < d.Next.length), (d.Next[i].length : Int) = d.Switches ∧ ∀ t ∈ d.Next[i], 0 <= t ∧ t < (d.Next.length : Int) := by
    intro i hi
    have := hr d.Next[i] (List.getElem_mem hi)
    simp only [rowB, Bool.and_eq_true, decide_eq_true_eq, List.all_eq_true, goB] at this
    exact this
  let m : Ma := ⟨d.Next.length, d.Switches.toNat, fun i c => ((d.Next.getD i []).getD c 0).toNat, fun i => d.Ends.getD i false⟩
  have hto : ∀ i (hi : i < d.Next.length) c (hc : c < d.Switches.toNat), ∃ hc' : c < d.Next[i].length, m.to i c = (d.Next[i][c]).toNat := by
    intro i hi c hc
    have hl := (hrow i hi).1
    refine ⟨by omega, ?_⟩
    show ((d.Next.getD i []).getD c 0).toNat = _
    have hc' : c < d.Next[i].length := by omega
    simp [List.getD_eq_getElem?_getD, hi, hc']
  refine ⟨m, ⟨?_, h3, h4, ?_, ?_⟩, ?_⟩
  · intro i c hi hc
    obtain ⟨hc', e⟩ := hto i hi c hc
    have := (hrow i hi).2 _ (List.getElem_mem hc')
    rw [e]
    show _ < d.Next.length
    omega
  · show 1 <= d.Switches.toNat; omega
  · show d.Switches.toNat <= 32; omega
  · have e1 : d.Next = (List.range m.n).map m.row := by
      apply List.ext_getElem?
      intro i
      by_cases hi : i < d.Next.length
      · rw [List.getElem?_eq_getElem hi, List.getElem?_map, List.getElem?_range hi, Option.map_some]
        congr 1
        apply List.ext_getElem?
        intro c
        have hl := (hrow i hi).1
        by_cases hc : c < d.Switches.toNat
        · obtain ⟨hc', e⟩ := hto i hi c hc
          have := (hrow i hi).2 _ (List.getElem_mem hc')
          rw [List.getElem?_eq_getElem hc']
          show _ = ((List.range m.s).map _)[c]?
          rw [List.getElem?_map, List.getElem?_range (show c < m.s from hc), Option.map_some, e]
          congr 1; omega
        · rw [List.getElem?_eq_none (by omega), List.getElem?_eq_none (by rw [m.row_len]; exact Nat.le_of_not_lt hc)]
      · rw [List.getElem?_eq_none (by omega), List.getElem?_eq_none (by simp; show d.Next.length <= i; omega)]
    have e2 : d.Ends = (List.range m.n).map m.e := by
      apply List.ext_getElem?
      intro i
      by_cases hi : i < d.Next.length
      · rw [List.getElem?_map, List.getElem?_range (show i < m.n from hi), Option.map_some, List.getElem?_eq_getElem (by omega)]
        congr 1
        show _ = d.Ends.getD i false
        rw [List.getD_eq_getElem?_getD, List.getElem?_eq_getElem (by omega), Option.getD_some]
      · rw [List.getElem?_eq_none (by omega), List.getElem?_eq_none (by simp; show d.Next.length <= i; omega)]
    have e3 : d.Switches = (m.s : Int) := by show _ = ((d.Switches.toNat : Nat) : Int); omega
    show d = ⟨(m.s : Int), (List.range m.n).map m.row, (List.range m.n).map m.e⟩
    rw [<- e1, <- e2, <- e3]
theorem fine_right {m : Ma} (h : m.Fine) : rightB m.dfa = true := by
  unfold rightB
  rw [Bool.and_eq_true, decide_eq_true_eq, List.all_eq_true]
  refine ⟨⟨by rw [m.sw]; have := h.s1; omega, by rw [m.sw]; have := h.s2; omega, by rw [m.next_len]; exact h.n1, by rw [m.next_len]; exact h.n2, by rw [m.next_len, m.ends_len]⟩, fun r hr => ?_⟩
  obtain ⟨i, hi, rfl⟩ := List.mem_map.1 hr
  have hi := List.mem_range.1 hi
  simp only [rowB, Bool.and_eq_true, decide_eq_true_eq, List.all_eq_true, goB]
  refine ⟨by rw [m.row_len]; rfl, fun t ht => ?_⟩
  obtain ⟨c, hc, rfl⟩ := List.mem_map.1 ht
  have := h.ok i c hi (List.mem_range.1 hc)
  rw [m.next_len]
  omega
theorem fine_few {m : Ma} (h : m.Fine) : Few m.dfa := by
  have h1 := h.n2
  have h2 := h.s2
  refine ⟨by rw [m.next_len]; omega, by rw [m.ends_len]; omega, fun r hr => ?_⟩
  obtain ⟨i, hi, rfl⟩ := List.mem_map.1 hr
  rw [m.row_len]; omega
end Go.Proofs.Dfa
/-
  The document's classes: of each state the first one that is like it.
-/
namespace Go.Proofs.Dfa
open Go Go.Ab Go.ChangeShapes
set_option linter.unusedVariables false
set_option linter.unusedSimpArgs false
set_option maxRecDepth 100000
theorem fst_ex {R : Nat -> Prop} : ∀ (b : Nat), R b -> ∃ k, k <= b ∧ R k ∧ ∀ j, j < k -> ¬ R j := by
  intro b
  induction b using Nat.strongRecOn with
  | _ b ih =>
    intro h
    by_cases hj : ∃ j, j < b ∧ R j
    · obtain ⟨j, h1, h2⟩ := hj
      obtain ⟨k, k1, k2, k3⟩ := ih j h1 h2
      exact ⟨k, by omega, k2, k3⟩
    · exact ⟨b, Nat.le_refl _, h, fun j h1 h2 => hj ⟨j, h1, h2⟩⟩
theorem fst_ex' (m : Ma) (k i : Nat) : ∃ b, b <= i ∧ m.R k i b ∧ ∀ j, j < b -> ¬ m.R k i j := fst_ex (R := m.R k i) i (Ma.R_refl k i)
noncomputable def Ma.F (m : Ma) (k i : Nat) : Nat := Classical.choose (fst_ex' m k i)
namespace Ma
variable {m : Ma}
theorem F_le (k i : Nat) : m.F k i <= i := (Classical.choose_spec (fst_ex' m k i)).1
theorem F_R (k i : Nat) : m.R k i (m.F k i) := (Classical.choose_spec (fst_ex' m k i)).2.1
theorem F_least {k i j : Nat} (h : m.R k i j) : m.F k i <= j := by
  rcases Nat.lt_or_ge j (m.F k i) with h1 | h1
  · exact absurd h ((Classical.choose_spec (fst_ex' m k i)).2.2 j h1)
  · exact h1
theorem F_eq {k i j : Nat} (h : m.R k i j) : m.F k i = m.F k j := by
  have h1 := F_least (R_trans h (F_R k j))
  have h2 := F_least (R_trans (R_symm h) (F_R k i))
  omega
theorem F_F (k i : Nat) : m.F k (m.F k i) = m.F k i := (F_eq (F_R k i)).symm
end Ma
section
variable {m : Ma}
theorem alike_R (hm : m.Fine) {r : Nat} {g : Nat -> Nat} (hg : m.Shows r g) {i j : Nat} (hi : i < m.n) (hj : j < m.n) : (g i = g j ∧ ∀ b, b < m.s -> g (m.to i b) = g (m.to j b)) ↔ m.R (r + 1) i j :=
  ⟨fun ⟨h1, h2⟩ => ⟨(hg i j hi hj).1 h1, fun c hc => (hg _ _ (hm.ok i c hi hc) (hm.ok j c hj hc)).1 (h2 c hc)⟩,
   fun ⟨h1, h2⟩ => ⟨(hg i j hi hj).2 h1, fun c hc => (hg _ _ (hm.ok i c hi hc) (hm.ok j c hj hc)).2 (h2 c hc)⟩⟩
def upto (F : Nat -> Nat) (i j : Nat) : Nat := if j < i then F j else 0
def num0 (m : Ma) (i : Nat) : Nat := if m.e i = true then 1 else 0
theorem shows_0 : m.Shows 0 (num0 m) := by
  intro i j _ _
  show _ ↔ m.e i = m.e j
  unfold num0
  cases m.e i <;> cases m.e j <;> simp
end
end Go.Proofs.Dfa
/-
  The program's classes: of each state the number of those that are like it.
-/
namespace Go.Proofs.Dfa
open Go Go.Ab Go.ChangeShapes
set_option linter.unusedVariables false
set_option linter.unusedSimpArgs false
set_option maxRecDepth 100000
section
variable {α : Type}
def plcG (k : Nat) : List α -> List (α × Int)
  | [] => []
  | m :: l => (m, (k : Int)) :: plcG (k + 1) l
theorem plcG_app : ∀ (l : List α) (k : Nat) (y : α), plcG k l ++ [(y, ((k + l.length : Nat) : Int))] = plcG k (l ++ [y]) := by
  intro l
  induction l with
  | nil => intro k y; simp [plcG]
  | cons m l ih =>
    intro k y
    show _ :: (plcG (k + 1) l ++ _) = _ :: plcG (k + 1) (l ++ [y])
    rw [<- ih (k + 1) y]
    have : k + (m :: l).length = k + 1 + l.length := by simp; omega
    rw [this]
theorem plcG_len : ∀ (l : List α) (k : Nat), (plcG k l).length = l.length := by
  intro l
  induction l with
  | nil => intro k; rfl
  | cons m l ih => intro k; simp [plcG, ih]
end
section
variable {α : Type} [DecidableEq α]
theorem plcG_get (y : α) : ∀ (l : List α) (k : Nat), mget (plcG k l) y = if y ∈ l then some ((k + l.idxOf y : Nat) : Int) else none := by
  intro l
  induction l with
  | nil => intro k; rfl
  | cons m l ih =>
    intro k
    rw [plcG, mget, List.idxOf_cons]
    by_cases e : m = y
    · subst e; simp
    · have e2 : (m == y) = false := by simpa using e
      simp only [if_neg e, e2, ih]
      by_cases h : y ∈ l
      · have h' : y ∈ m :: l := by simp [h]
        rw [if_pos h, if_pos h']
        have : k + 1 + List.idxOf y l = k + (List.idxOf y l + 1) := by omega
        simp only [this, cond_false]
      · have h' : y ∉ m :: l := by simp [h]; exact fun e' => e e'.symm
        rw [if_neg h, if_neg h']
theorem plcG_has {l : List α} {y : α} (h : y ∈ l) : mhas (plcG 0 l) y = true ∧ mget (plcG 0 l) y = some ((l.idxOf y : Nat) : Int) := by
  have e : mget (plcG 0 l) y = some ((l.idxOf y : Nat) : Int) := by
    rw [plcG_get, if_pos h]; simp
  exact ⟨by unfold mhas; rw [e]; rfl, e⟩
theorem plcG_new {l : List α} {y : α} (h : y ∉ l) : mhas (plcG 0 l) y = false ∧ mset (plcG 0 l) y (l.length : Int) = plcG 0 (l ++ [y]) := by
  have e : mget (plcG 0 l) y = none := by rw [plcG_get, if_neg h]
  refine ⟨by unfold mhas; rw [e]; rfl, ?_⟩
  rw [mset_none e]
  have := plcG_app l 0 y
  simpa using this
def firsts (κ : Nat -> α) (i : Nat) : List α := once ((List.range i).map κ)
theorem firsts_succ (κ : Nat -> α) (i : Nat) : firsts κ (i + 1) = if κ i ∈ firsts κ i then firsts κ i else firsts κ i ++ [κ i] := by
  unfold firsts
  rw [List.range_succ, List.map_append]
  exact onceOn_snoc (D := []) (l := (List.range i).map κ) (x := κ i)
theorem firsts_pre (κ : Nat -> α) (i : Nat) : ∀ d, ∃ e, firsts κ (i + d) = firsts κ i ++ e := by
  intro d
  induction d with
  | zero => exact ⟨[], by simp⟩
  | succ d ih =>
    obtain ⟨e, he⟩ := ih
    rw [<- Nat.add_assoc, firsts_succ]
    split
    · exact ⟨e, he⟩
    · exact ⟨e ++ [κ (i + d)], by rw [he, List.append_assoc]⟩
theorem firsts_mem {κ : Nat -> α} {i j : Nat} (h : j < i) : κ j ∈ firsts κ i := once_mem.2 (List.mem_map.2 ⟨j, List.mem_range.2 h, rfl⟩)
def place (κ : Nat -> α) (n j : Nat) : Nat := (firsts κ n).idxOf (κ j)
theorem firsts_idx {κ : Nat -> α} {n i j : Nat} (hj : j < i) (hi : i <= n) : place κ n j = (firsts κ i).idxOf (κ j) := by
  unfold place
  obtain ⟨d, rfl⟩ := Nat.le.dest hi
  obtain ⟨e, he⟩ := firsts_pre κ i d
  rw [he, idxOf_pre (firsts_mem hj)]
theorem place_lt {κ : Nat -> α} {n j : Nat} (h : j < n) : place κ n j < (firsts κ n).length := List.idxOf_lt_length_of_mem (firsts_mem h)
theorem firsts_inj {κ : Nat -> α} {n i j : Nat} (hi : i < n) (hj : j < n) (h : place κ n i = place κ n j) : κ i = κ j := by
  unfold place at h
  have h1 := List.idxOf_lt_length_of_mem (firsts_mem (κ := κ) hi)
  have h2 := List.idxOf_lt_length_of_mem (firsts_mem (κ := κ) hj)
  have e1 := List.getElem_idxOf h1
  have e2 := List.getElem_idxOf h2
  rw [<- e1, <- e2]
  congr 1
end
theorem has_place {l : List (List UInt8)} {y : List UInt8} (h : y ∈ l) : mhas (plcG 0 l) y = true ∧ mget (plcG 0 l) y = some ((@List.idxOf _ instBEqOfDecidableEq y l : Nat) : Int) := plcG_has h
theorem f70_nat {u : Nat} (h : u < 1000) : f70 ((u : Nat) : Int) = some (Lib.itoa (u : Int)) := by
  unfold f70
  rw [opt_chk (by omega), opt_ret]
theorem itoa_le {u : Nat} (h : u < 1000) : (Lib.itoa ((u : Nat) : Int)).length <= 3 := by
  rw [itoa_len]
  exact nDigits_le 3 u (by omega) (by omega)
section
variable {m : Ma}
def keyTo (m : Ma) (g : Nat -> Nat) (i c : Nat) : List UInt8 := keyOf (g i) ((List.range c).map fun b => g (m.to i b))
def key (m : Ma) (g : Nat -> Nat) (i : Nat) : List UInt8 := keyTo m g i m.s
theorem keyTo_succ (m : Ma) (g : Nat -> Nat) (i c : Nat) : keyTo m g i (c + 1) = keyTo m g i c ++ ([(32 : UInt8)] ++ Lib.itoa ((g (m.to i c) : Nat) : Int)) := by
  unfold keyTo keyOf
  rw [List.range_succ, List.map_append, List.map_singleton, keyTail_snoc, List.append_assoc]
  rfl
theorem key_iff (hm : m.Fine) {r : Nat} {g : Nat -> Nat} (hg : m.Shows r g) {i j : Nat} (hi : i < m.n) (hj : j < m.n) : key m g i = key m g j ↔ m.R (r + 1) i j := by
  rw [<- alike_R hm hg hi hj]
  constructor
  · intro h
    obtain ⟨h1, h2⟩ := keyOf_inj h
    refine ⟨h1, fun b hb => ?_⟩
    have : ((List.range m.s).map fun b => g (m.to i b))[b]? = ((List.range m.s).map fun b => g (m.to j b))[b]? := by rw [h2]
    simpa [hb] using this
  · rintro ⟨h1, h2⟩
    unfold key keyTo
    rw [h1]
    congr 1
    apply List.map_congr_left
    intro b hb
    exact h2 b (List.mem_range.1 hb)
theorem keyTo_len {g : Nat -> Nat} (hb : ∀ i, i < m.n -> g i < 1000) (hm : m.Fine) {i c : Nat} (hi : i < m.n) (hc : c <= m.s) : (keyTo m g i c).length <= 132 := by
  have hs := hm.s2
  have := keyOf_len (c := g i) (l := (List.range c).map fun b => g (m.to i b)) (k := 3) (by omega) (by have := hb i hi; omega) (by
    intro u hu
    obtain ⟨b, hb', rfl⟩ := List.mem_map.1 hu
    have := hb _ (hm.ok i b hi (by have := List.mem_range.1 hb'; omega))
    omega)
  simp at this
  have h2 : (c + 1) * 4 <= 132 := by omega
  exact Nat.le_trans this h2
theorem loop54c (hm : m.Fine) {g : Nat -> Nat} (hb : ∀ i, i < m.n -> g i < 1000) {i : Nat} (hi : i < m.n) (M : Int) (nx : Nat -> Nat) (res : Option (List Int))
    (hr : loopO g54 (.h2 m.dfa (nums m.n g) ((i + 1 : Nat) : Int) (nums m.n (upto (place (key m g) m.n) (i + 1))) (plcG 0 (firsts (key m g) (i + 1))) M) = res) :
    ∀ (q c : Nat), m.s - c = q -> c <= m.s -> loopO g54 (.h3 m.dfa (nums m.n g) (keyTo m g i c) (m.row i) (c : Int) M (i : Int) (i : Int) (nums m.n (upto (place (key m g) m.n) i)) (plcG 0 (firsts (key m g) i))) = res := by
  have hn := hm.n2
  have hs := hm.s2
  have hlg : (nums m.n g).length = m.n := nums_len _ _
  have hlu : (nums m.n (upto (place (key m g) m.n) i)).length = m.n := nums_len _ _
  have hlr := m.row_len i
  intro q
  induction q with
  | zero =>
    intro c hq hc
    have : c = m.s := by omega
    subst this
    have hget := nums_get0 (upto (place (key m g) m.n) i) hi
    have hset : ∀ v : Nat, v = place (key m g) m.n i -> (nums m.n (upto (place (key m g) m.n) i)).set ((0 : Nat) + (i : Int).toNat) ((v : Nat) : Int) = nums m.n (upto (place (key m g) m.n) (i + 1)) := by
      rintro v rfl
      rw [Nat.zero_add, Int.toNat_natCast, nums_set _ hi]
      refine nums_congr fun j hj => ?_
      unfold upto
      by_cases h1 : j = i
      · subst h1
        rw [if_pos rfl, if_pos (by omega)]
      · rw [if_neg h1]
        by_cases h2 : j < i
        · rw [if_pos h2, if_pos (by omega)]
        · rw [if_neg h2, if_neg (by omega)]
    have hidx := firsts_idx (κ := key m g) (n := m.n) (i := i + 1) (j := i) (by omega) (by omega)
    have hsucc := firsts_succ (key m g) i
    have hk : keyTo m g i m.s = key m g i := rfl
    by_cases hin : key m g i ∈ firsts (key m g) i
    · rw [if_pos hin] at hsucc
      obtain ⟨p1, p2⟩ := has_place hin
      rw [hsucc] at hr hidx
      refine loopO_inl ?_ hr
      unfold g54
      rw [opt_f (by rw [hlr]; simp), hk, opt_t p1, opt_get p2, opt_chk (by rw [hlu]; omega), opt_get hget, opt_chk (by trivial), opt_chk (by simp), opt_ret, wsucc (by omega), hset _ hidx.symm]
    · rw [if_neg hin] at hsucc
      obtain ⟨p1, p2⟩ := plcG_new hin
      rw [hsucc] at hr hidx
      have hnew : @List.idxOf _ instBEqOfDecidableEq (key m g i) (firsts (key m g) i ++ [key m g i]) = (firsts (key m g) i).length := idxOf_new hin
      rw [hnew] at hidx
      refine loopO_inl ?_ hr
      unfold g54
      rw [opt_f (by rw [hlr]; simp), hk, opt_f p1, opt_chk (by rw [hlu]; omega), opt_get hget, opt_chk (by trivial), opt_chk (by simp), opt_ret, wsucc (by omega), plcG_len, hset _ hidx.symm, p2]
  | succ q ih =>
    intro c hq hc
    have hlt : c < m.s := by omega
    have ht := hm.ok i c hi hlt
    have hv := hb _ ht
    have h3 := itoa_le hv
    have hkl := keyTo_len hb hm hi (c := c) (by omega)
    have hih := ih (c + 1) (by omega) (by omega)
    rw [keyTo_succ] at hih
    refine loopO_inl ?_ hih
    unfold g54
    rw [opt_t (by rw [hlr]; simpa using hlt), opt_chk (by omega), opt_get (Ma.row_get i hlt), opt_chk (by rw [hlg]; omega), opt_get (nums_get0 g ht), opt_get (f70_nat hv), opt_chk (by simp; omega), opt_chk (by simp; omega), opt_chk (by trivial), opt_chk (by trivial), opt_ret, wsucc (by omega)]
theorem loop54b (hm : m.Fine) {g : Nat -> Nat} (hb : ∀ i, i < m.n -> g i < 1000) (M : Int) (res : Option (List Int))
    (hr1 : ((firsts (key m g) m.n).length : Int) = M -> some (nums m.n (place (key m g) m.n)) = res)
    (hr2 : ((firsts (key m g) m.n).length : Int) ≠ M -> loopO g54 (.h1 m.dfa (nums m.n (place (key m g) m.n)) ((firsts (key m g) m.n).length : Int)) = res) :
    ∀ (q i : Nat), m.n - i = q -> i <= m.n -> loopO g54 (.h2 m.dfa (nums m.n g) (i : Int) (nums m.n (upto (place (key m g) m.n) i)) (plcG 0 (firsts (key m g) i)) M) = res := by
  have hn := hm.n2
  have hlg : (nums m.n g).length = m.n := nums_len _ _
  intro q
  induction q with
  | zero =>
    intro i hq hi
    have : i = m.n := by omega
    subst this
    have hw : nums m.n (upto (place (key m g) m.n) m.n) = nums m.n (place (key m g) m.n) := nums_congr fun j hj => by unfold upto; rw [if_pos hj]
    rw [hw]
    by_cases h : ((firsts (key m g) m.n).length : Int) = M
    · rw [<- hr1 h]
      refine loopO_inr ?_
      unfold g54
      rw [opt_f (by rw [m.next_len]; simp), opt_t (by rw [plcG_len]; simpa using h), opt_chk (by omega), opt_ret, List.drop_zero, List.take_length]
    · refine loopO_inl ?_ (hr2 h)
      unfold g54
      rw [opt_f (by rw [m.next_len]; simp), opt_f (by rw [plcG_len]; simpa using h), opt_chk (by trivial), opt_ret, plcG_len]
  | succ q ih =>
    intro i hq hi
    have hlt : i < m.n := by omega
    have hv := hb i hlt
    have hk0 : keyTo m g i 0 = Lib.itoa ((g i : Nat) : Int) := by unfold keyTo keyOf keyTail; simp
    have hc := loop54c hm hb hlt M id res (ih (i + 1) (by omega) (by omega)) m.s 0 rfl (by omega)
    rw [hk0] at hc
    refine loopO_inl ?_ hc
    unfold g54
    rw [opt_t (by rw [m.next_len]; simpa using hlt), opt_chk (by omega), opt_get (Ma.next_get hlt), opt_chk (by rw [hlg]; omega), opt_get (nums_get0 g hlt), opt_get (f70_nat hv), opt_chk (by trivial), opt_chk (by trivial), opt_ret]
    rfl
structure Inv54 (m : Ma) (r : Nat) (g : Nat -> Nat) (M : Nat) : Prop where
  shows : m.Shows r g
  low : ∀ i, i < m.n -> g i < 1000
  many : M = 0 ∨ M = (once ((List.range m.n).map g)).length
  le : M <= m.n
theorem firsts_len {α : Type} [DecidableEq α] (κ : Nat -> α) (n : Nat) : (firsts κ n).length <= n := by
  have := (onceOn_len (l := (List.range n).map κ) (D := [])).2
  have e : onceOn [] ((List.range n).map κ) = once ((List.range n).map κ) := rfl
  rw [e] at this
  simpa [firsts] using this
theorem loop54a (hm : m.Fine) : ∀ (q r M : Nat) (g : Nat -> Nat), m.n - M = q -> Inv54 m r g M ->
    ∃ K g', m.Stable K ∧ m.Shows K g' ∧ (∀ i, i < m.n -> g' i < m.n) ∧ loopO g54 (.h1 m.dfa (nums m.n g) (M : Int)) = some (nums m.n g') := by
  have hn := hm.n2
  have hn1 := hm.n1
  intro q
  induction q using Nat.strongRecOn with
  | _ q ih =>
    intro r M g hq inv
    have hlg : (nums m.n g).length = m.n := nums_len _ _
    have start : ∀ res, loopO g54 (.h2 m.dfa (nums m.n g) ((0 : Nat) : Int) (nums m.n (upto (place (key m g) m.n) 0)) (plcG 0 (firsts (key m g) 0)) (M : Int)) = res -> loopO g54 (.h1 m.dfa (nums m.n g) (M : Int)) = res := by
      intro res h
      refine loopO_inl ?_ h
      have e0 : List.replicate ((((nums m.n g).length : Nat) : Int)).toNat (0 : Int) = nums m.n (upto (place (key m g) m.n) 0) := by
        rw [hlg, Int.toNat_natCast, nums_zero]
        exact nums_congr fun j hj => by unfold upto; rw [if_neg (by omega)]
      unfold g54
      rw [opt_chk (by rw [hlg]; refine ⟨by omega, by omega, ?_⟩; simp; omega), opt_chk (by trivial), opt_chk (by trivial), opt_ret, e0]
      rfl
    have hkey : m.Shows (r + 1) (key m g) := fun i j hi hj => key_iff hm inv.shows hi hj
    have hfin : ∀ i j, i < m.n -> j < m.n -> key m g i = key m g j -> g i = g j := fun i j hi hj h => (inv.shows i j hi hj).2 ((hkey i j hi hj).1 h).1
    have hle : (once ((List.range m.n).map g)).length <= (firsts (key m g) m.n).length := finer_len hfin
    have hidx : m.Shows (r + 1) (place (key m g) m.n) := fun i j hi hj =>
      ⟨fun h => (hkey i j hi hj).1 (firsts_inj hi hj h), fun h => by unfold place; rw [(hkey i j hi hj).2 h]⟩
    have hfl := firsts_len (key m g) m.n
    have hlow : ∀ i, i < m.n -> place (key m g) m.n i < m.n := fun i hi => by
      have := place_lt (κ := key m g) hi
      omega
    have hpos : 1 <= (firsts (key m g) m.n).length := List.length_pos_of_mem (firsts_mem (κ := key m g) (show 0 < m.n by omega))
    by_cases hsame : ((firsts (key m g) m.n).length : Int) = (M : Int)
    · have hM : M = (once ((List.range m.n).map g)).length := by rcases inv.many with h | h <;> omega
      have hsm := finer_same hfin (by show _ = (firsts (key m g) m.n).length; omega)
      have hst : m.Stable r := fun i j hi hj h => (hkey i j hi hj).1 (hsm i j hi hj ((inv.shows i j hi hj).2 h))
      refine ⟨r + 1, _, fun i j hi hj h => Ma.stable_up hm.ok hst 2 hi hj (Ma.R_down 1 h), hidx, hlow, ?_⟩
      exact start _ (loop54b hm inv.low (M : Int) _ (fun _ => rfl) (fun h => absurd hsame h) m.n 0 rfl (by omega))
    · have hinv : Inv54 m (r + 1) (place (key m g) m.n) (firsts (key m g) m.n).length := by
        refine ⟨hidx, fun i hi => by have := hlow i hi; omega, .inr ?_, hfl⟩
        have h1 : (once ((List.range m.n).map (key m g))).length <= (once ((List.range m.n).map (place (key m g) m.n))).length :=
          finer_len fun i j hi hj h => firsts_inj hi hj h
        have h2 : (once ((List.range m.n).map (place (key m g) m.n))).length <= (once ((List.range m.n).map (key m g))).length :=
          finer_len fun i j hi hj h => by unfold place; rw [h]
        have h3 : (firsts (key m g) m.n).length = (once ((List.range m.n).map (key m g))).length := rfl
        omega
      have hMlt : M < (firsts (key m g) m.n).length := by rcases inv.many with h | h <;> omega
      obtain ⟨K, g', k1, k2, k3, k4⟩ := ih (m.n - (firsts (key m g) m.n).length) (by omega) (r + 1) (firsts (key m g) m.n).length _ rfl hinv
      refine ⟨K, g', k1, k2, k3, ?_⟩
      exact start _ (loop54b hm inv.low (M : Int) _ (fun h => absurd h hsame) (fun _ => k4) m.n 0 rfl (by omega))
theorem loop54 (hm : m.Fine) (res : Option (List Int)) (hr : loopO g54 (.h1 m.dfa (nums m.n (num0 m)) ((0 : Nat) : Int)) = res) : ∀ (q i : Nat), m.n - i = q -> i <= m.n -> loopO g54 (.h0 m.dfa (i : Int) (nums m.n (upto (num0 m) i))) = res := by
  have hn := hm.n2
  intro q
  induction q with
  | zero =>
    intro i hq hi
    have : i = m.n := by omega
    subst this
    have hw : nums m.n (upto (num0 m) m.n) = nums m.n (num0 m) := nums_congr fun j hj => by unfold upto; rw [if_pos hj]
    rw [hw]
    refine loopO_inl ?_ hr
    unfold g54
    rw [opt_f (by rw [m.ends_len]; simp), opt_chk (by trivial), opt_ret]; rfl
  | succ q ih =>
    intro i hq hi
    have hlt : i < m.n := by omega
    have hl : (nums m.n (upto (num0 m) i)).length = m.n := nums_len _ _
    have hih := ih (i + 1) (by omega) (by omega)
    cases he : m.e i with
    | true =>
      have hset : (nums m.n (upto (num0 m) i)).set ((0 : Nat) + (i : Int).toNat) ((1 : Nat) : Int) = nums m.n (upto (num0 m) (i + 1)) := by
        rw [Nat.zero_add, Int.toNat_natCast, nums_set _ hlt]
        refine nums_congr fun j hj => ?_
        unfold upto
        by_cases h1 : j = i
        · subst h1
          rw [if_pos rfl, if_pos (by omega), num0, if_pos he]
        · rw [if_neg h1]
          by_cases h2 : j < i
          · rw [if_pos h2, if_pos (by omega)]
          · rw [if_neg h2, if_neg (by omega)]
      refine loopO_inl ?_ hih
      unfold g54
      rw [opt_t (by rw [m.ends_len]; simpa using hlt), opt_chk (by omega), opt_get (Ma.ends_get hlt), opt_t he, opt_chk (by rw [hl]; omega), opt_get (nums_get0 _ hlt), opt_chk (by simp), opt_ret, wsucc (by omega), <- hset]
      rfl
    | false =>
      have hsame : nums m.n (upto (num0 m) (i + 1)) = nums m.n (upto (num0 m) i) := by
        refine nums_congr fun j hj => ?_
        unfold upto
        by_cases h1 : j = i
        · subst h1
          rw [if_pos (by omega), if_neg (by omega), num0, he]; rfl
        · by_cases h2 : j < i
          · rw [if_pos h2, if_pos (by omega)]
          · rw [if_neg h2, if_neg (by omega)]
      rw [hsame] at hih
      refine loopO_inl ?_ hih
      unfold g54
      rw [opt_t (by rw [m.ends_len]; simpa using hlt), opt_chk (by omega), opt_get (Ma.ends_get hlt), opt_f he, opt_chk (by trivial), opt_ret, wsucc (by omega)]
theorem classes54 (hm : m.Fine) : ∃ K g, m.Stable K ∧ m.Shows K g ∧ (∀ i, i < m.n -> g i < m.n) ∧ f54 m.dfa = some (nums m.n g) := by
  have hn := hm.n2
  obtain ⟨K, g, h1, h2, h3, hres⟩ := loop54a hm m.n 0 0 (num0 m) rfl ⟨shows_0, fun i _ => by unfold num0; split <;> omega, .inl rfl, by omega⟩
  refine ⟨K, g, h1, h2, h3, ?_⟩
  unfold f54
  refine runO_inl (s' := .h0 m.dfa ((0 : Nat) : Int) (nums m.n (upto (num0 m) 0))) ?_ (loop54 hm _ hres m.n 0 rfl (by omega))
  have e0 : List.replicate (((m.dfa.Next.length : Nat) : Int)).toNat (0 : Int) = nums m.n (upto (num0 m) 0) := by
    rw [m.next_len, Int.toNat_natCast, nums_zero]
    exact nums_congr fun j hj => by unfold upto; rw [if_neg (by omega)]
  unfold s54
  rw [opt_chk (by rw [m.next_len]; refine ⟨by omega, by omega, ?_⟩; simp; omega), opt_chk (by trivial), opt_ret, e0]
  rfl
end
end Go.Proofs.Dfa
/-
  The document's least machine.
-/
namespace Go.Proofs.Dfa
open Go Go.Ab Go.ChangeShapes
set_option linter.unusedVariables false
set_option linter.unusedSimpArgs false
set_option maxRecDepth 100000
theorem range_get {α : Type} {l : List α} {i : Nat} (h : i < l.length) : l[(0 : Nat) + (i : Int).toNat]? = some l[i] := by simp [h]
theorem turns_end {α : Type} [DecidableEq α] {su : α -> List α} {x0 : α} {T U : Nat} (h1 : (turns su x0 T).length = T) (h2 : (turns su x0 U).length = U) : T = U := by
  rcases Nat.le_total T U with h | h
  · obtain ⟨d, rfl⟩ := Nat.le.dest h
    rw [turns_stop (su := su) (x0 := x0) (t := T) (by omega) d] at h2; omega
  · obtain ⟨d, rfl⟩ := Nat.le.dest h
    rw [turns_stop (su := su) (x0 := x0) (t := U) (by omega) d] at h1; omega
def outD {α : Type} [DecidableEq α] (s : Nat) (su : α -> List α) (x0 : α) (e : α -> Bool) (T : Nat) : Dfa := ⟨(s : Int), (List.range T).map (turnRow su x0), (turns su x0 T).map e⟩
theorem rows_next {α : Type} [DecidableEq α] (su : α -> List α) (x0 : α) (t : Nat) : (List.range t).map (turnRow su x0) ++ [turnRow su x0 t] = (List.range (t + 1)).map (turnRow su x0) := by
  rw [List.range_succ, List.map_append]; rfl
section
variable {m : Ma}
theorem turns_le {su : Nat -> List Nat} {x0 : Nat} {n : Nat} (h0 : x0 < n) (hs : ∀ x, x < n -> ∀ y ∈ su x, y < n) (t : Nat) : (turns su x0 t).length <= n := by
  have := nodup_sub_len (turns_nodup (su := su) (x0 := x0) t) (b := List.range n) (fun x hx => List.mem_range.2 (turns_in (p := fun x => x < n) h0 hs t x hx))
  simpa using this
def suF (m : Ma) (F : Nat -> Nat) (x : Nat) : List Nat := (List.range m.s).map fun c => F (m.to x c)
theorem suF_len (m : Ma) (F : Nat -> Nat) (x : Nat) : (suF m F x).length = m.s := by simp [suF]
theorem suF_lt (hm : m.Fine) {F : Nat -> Nat} (hF : ∀ i, i < m.n -> F i < m.n) : ∀ x, x < m.n -> ∀ y ∈ suF m F x, y < m.n := by
  intro x hx y hy
  obtain ⟨c, hc, rfl⟩ := List.mem_map.1 hy
  exact hF _ (hm.ok x c hx (List.mem_range.1 hc))
theorem F_lt {K : Nat} : ∀ i, i < m.n -> m.F K i < m.n := fun i hi => Nat.lt_of_le_of_lt (Ma.F_le K i) hi
end
end Go.Proofs.Dfa
/-
  The program's least machine; both are the same.
-/
namespace Go.Proofs.Dfa
open Go Go.Ab Go.ChangeShapes
set_option linter.unusedVariables false
set_option linter.unusedSimpArgs false
set_option maxRecDepth 100000
theorem mget_mset {α β : Type} {k k' : α} {v : β} : ∀ {es : List (α × β)}, mget (mset es k v) k' = @ite _ (k = k') (Classical.propDecidable _) (some v) (mget es k') := by
  intro es
  induction es with
  | nil => rfl
  | cons p es ih =>
    simp only [mset]
    split
    · rename_i h
      simp only [mget]
      rw [h]
      by_cases e : k = k'
      · rw [if_pos e, if_pos e]
      · rw [if_neg e, if_neg e, if_neg e]
    · rename_i h
      simp only [mget]
      by_cases e : p.1 = k'
      · rw [if_pos e, if_pos e]
        rw [if_neg (fun e' => h (by rw [e, e']))]
      · rw [if_neg e, if_neg e, ih]
theorem set_row {row : List Int} {c s : Nat} (hl : row.length = s) (hc : c < s) {v : Int} (hv : row[c]? = some v) :
    (row.take c ++ List.replicate (s - c) (0 : Int)).set c v = row.take (c + 1) ++ List.replicate (s - (c + 1)) 0 := by
  have e : s - c = (s - (c + 1)) + 1 := by omega
  rw [e, List.replicate_succ, List.set_append, if_neg (by simp; omega)]
  have : c - (row.take c).length = 0 := by simp; omega
  rw [this, List.set_cons_zero]
  have hlt : c < row.length := by omega
  rw [List.getElem?_eq_getElem hlt] at hv
  have hv : row[c] = v := Option.some.inj hv
  rw [List.take_succ_eq_append_getElem hlt, hv]
  simp
section
variable {m : Ma}
structure OfOk (m : Ma) (g : Nat -> Nat) (k : Nat) (es : List (Int × Int)) : Prop where
  get : ∀ i, i < k -> ∃ j, j < k ∧ mget es ((g i : Nat) : Int) = some ((j : Nat) : Int) ∧ g j = g i
theorem OfOk.step {g : Nat -> Nat} {k : Nat} {es : List (Int × Int)} (h : OfOk m g k es) : OfOk m g (k + 1) (mset es ((g k : Nat) : Int) ((k : Nat) : Int)) := by
  refine ⟨fun i hi => ?_⟩
  by_cases e : g k = g i
  · exact ⟨k, by omega, by rw [mget_mset, if_pos (by rw [e])], e⟩
  · have hne : i ≠ k := fun h => e (by rw [h])
    obtain ⟨j, h1, h2, h3⟩ := h.get i (by omega)
    exact ⟨j, by omega, by rw [mget_mset, if_neg (by omega), h2], h3⟩
noncomputable def ofOf (es : List (Int × Int)) (c : Int) : Nat := ((mget es c).getD 0).toNat
theorem OfOk.at {g : Nat -> Nat} {es : List (Int × Int)} (h : OfOk m g m.n es) {i : Nat} (hi : i < m.n) : mhas es ((g i : Nat) : Int) = true ∧ mget es ((g i : Nat) : Int) = some ((ofOf es (g i : Int) : Nat) : Int) ∧ ofOf es (g i : Int) < m.n ∧ g (ofOf es (g i : Int)) = g i := by
  obtain ⟨j, h1, h2, h3⟩ := h.get i hi
  have e : ofOf es (g i : Int) = j := by unfold ofOf; rw [h2]; simp
  refine ⟨by unfold mhas; rw [h2]; rfl, by rw [e]; exact h2, by rw [e]; exact h1, by rw [e]; exact h3⟩
noncomputable def suO (m : Ma) (g : Nat -> Nat) (es : List (Int × Int)) (c : Int) : List Int := (List.range m.s).map fun b => ((g (m.to (ofOf es c) b) : Nat) : Int)
theorem suO_len (m : Ma) (g : Nat -> Nat) (es : List (Int × Int)) (c : Int) : (suO m g es c).length = m.s := by simp [suO]
theorem suO_get {m : Ma} {g : Nat -> Nat} {es : List (Int × Int)} {c : Int} {b : Nat} (h : b < (suO m g es c).length) : (suO m g es c)[b] = ((g (m.to (ofOf es c) b) : Nat) : Int) := by simp [suO]
def isCl (m : Ma) (g : Nat -> Nat) (c : Int) : Prop := ∃ i, i < m.n ∧ c = ((g i : Nat) : Int)
theorem suO_cl (hm : m.Fine) {g : Nat -> Nat} {es : List (Int × Int)} (hes : OfOk m g m.n es) : ∀ x, isCl m g x -> ∀ y ∈ suO m g es x, isCl m g y := by
  rintro x ⟨i, hi, rfl⟩ y hy
  obtain ⟨b, hb, rfl⟩ := List.mem_map.1 hy
  exact ⟨_, hm.ok _ b (hes.at hi).2.2.1 (List.mem_range.1 hb), rfl⟩
theorem clTurns_le (hm : m.Fine) {g : Nat -> Nat} {es : List (Int × Int)} (hes : OfOk m g m.n es) (t : Nat) : (turns (suO m g es) (g 0 : Int) t).length <= m.n := by
  have := nodup_sub_len (turns_nodup (su := suO m g es) (x0 := (g 0 : Int)) t) (b := (List.range m.n).map fun i => ((g i : Nat) : Int)) (fun x hx => by
    obtain ⟨i, hi, rfl⟩ := turns_in (p := isCl m g) ⟨0, hm.n1, rfl⟩ (suO_cl hm hes) t x hx
    exact List.mem_map.2 ⟨i, List.mem_range.2 hi, rfl⟩)
  simpa using this
noncomputable def ps0 (m : Ma) (g : Nat -> Nat) (es : List (Int × Int)) (t : Nat) : L28 := .h1 m.dfa (nums m.n g) es (t : Int) ((List.range t).map (turnRow (suO m g es) (g 0 : Int))) (turns (suO m g es) (g 0 : Int) t) (plcG 0 (turns (suO m g es) (g 0 : Int) t))
noncomputable def ps1 (m : Ma) (g : Nat -> Nat) (es : List (Int × Int)) (t c : Nat) : L28 := .h2 m.dfa (nums m.n g) es (c : Int) ((turnRow (suO m g es) (g 0 : Int) t).take c ++ List.replicate (m.s - c) 0) (mid (suO m g es) (g 0 : Int) t c) (plcG 0 (mid (suO m g es) (g 0 : Int) t c)) (t : Int) ((List.range t).map (turnRow (suO m g es) (g 0 : Int)))
theorem wminus {c : Nat} (h : c < 1000) : IntKind.i64.wrap (IntKind.i64.wrap ((c : Int) + 1) - 1) = (c : Int) := by
  rw [wsucc (by omega), w64 (by omega) (by omega)]; omega
theorem inner28 (hm : m.Fine) {g : Nat -> Nat} {es : List (Int × Int)} (hes : OfOk m g m.n es) {t : Nat} (ht : t < (turns (suO m g es) (g 0 : Int) t).length) (res : Option Dfa) (hr : loopO g28 (ps0 m g es (t + 1)) = res) :
    ∀ (k c : Nat), m.s - c = k -> c <= m.s -> loopO g28 (ps1 m g es t c) = res := by
  have hn := hm.n2
  have hn1 := hm.n1
  have hs2 := hm.s2
  have hsl := suO_len m g es
  have htn := clTurns_le hm hes t
  have htn1 := clTurns_le hm hes (t + 1)
  have htl := turnRow_len (su := suO m g es) (x0 := (g 0 : Int)) ht
  rw [hsl] at htl
  have hx := turns_in (p := isCl m g) ⟨0, hn1, rfl⟩ (suO_cl hm hes) t _ (List.getElem_mem ht)
  have hlg : (nums m.n g).length = m.n := nums_len _ _
  have hrl : ∀ c, c <= m.s -> ((turnRow (suO m g es) (g 0 : Int) t).take c ++ List.replicate (m.s - c) (0 : Int)).length = m.s := fun c hc => by simp; omega
  intro k
  induction k with
  | zero =>
    intro c hk hc
    have : c = m.s := by omega
    subst this
    have hend := mid_end ht (c := m.s) (by rw [hsl]; omega)
    have hrow : (turnRow (suO m g es) (g 0 : Int) t).take m.s ++ List.replicate (m.s - m.s) (0 : Int) = turnRow (suO m g es) (g 0 : Int) t := by
      rw [Nat.sub_self, List.replicate_zero, List.append_nil]; exact List.take_of_length_le (by omega)
    refine loopO_inl (s' := ps0 m g es (t + 1)) ?_ hr
    unfold ps1 ps0
    rw [hrow, <- rows_next, hend]
    unfold g28
    rw [opt_f (by rw [m.sw]; simp), opt_chk (by exact ⟨by omega, by rw [Nat.zero_add]; exact Nat.le_refl _⟩), opt_chk (by simp), opt_chk (by simp; omega), opt_chk (by trivial), opt_chk (by trivial), opt_ret, wsucc (by omega)]
    simp only [List.drop_zero, List.take_length]
    rfl
  | succ k ihc =>
    intro c hk hc
    have hlt : c < m.s := by omega
    have hmg := mid_get ht c
    have hml := (mid_len ht c).1
    have hml2 := (mid_len ht (c + 1)).2
    have hget : (mid (suO m g es) (g 0 : Int) t c)[(0 : Nat) + (t : Int).toNat]? = some (turns (suO m g es) (g 0 : Int) t)[t] := by rw [Nat.zero_add, Int.toNat_natCast]; exact hmg
    have hcs : c < (suO m g es (turns (suO m g es) (g 0 : Int) t)[t]).length := by rw [hsl]; exact hlt
    have hy := suO_get hcs
    have hms := mid_succ ht hcs
    have hrow := turnRow_get ht hcs
    rw [hy] at hms hrow
    generalize hxx : (turns (suO m g es) (g 0 : Int) t)[t] = x at hx hget hms hrow
    obtain ⟨i, hi, rfl⟩ := hx
    obtain ⟨o1, o2, o3, o4⟩ := hes.at hi
    have hto := hm.ok _ c o3 hlt
    have hcr : ((turnRow (suO m g es) (g 0 : Int) t).take c ++ List.replicate (m.s - c) (0 : Int))[(0 : Nat) + (c : Int).toNat]? = some (((turnRow (suO m g es) (g 0 : Int) t).take c ++ List.replicate (m.s - c) (0 : Int))[c]'(by rw [hrl c hc]; omega)) := by
      have := hrl c hc
      rw [Nat.zero_add, Int.toNat_natCast, List.getElem?_eq_getElem]
    have hsr := set_row htl hlt hrow
    have hz : (0 : Nat) + (c : Int).toNat = c := by simp
    have hrlc := hrl c hc
    have hih := ihc (c + 1) (by omega) (by omega)
    generalize hyy : ((g (m.to (ofOf es (g i : Int)) c) : Nat) : Int) = y at hms hrow hsr
    have hcl := nums_get0 g hto
    have hcl' := nums_get g hto
    rw [hyy] at hcl hcl'
    by_cases hin : y ∈ mid (suO m g es) (g 0 : Int) t c
    · rw [if_pos hin] at hms
      obtain ⟨p1, p2⟩ := plcG_has hin
      unfold ps1 at hih
      rw [hms] at hih hsr
      refine loopO_inl ?_ hih
      unfold ps1 g28
      rw [opt_t (by rw [m.sw]; simpa using hlt), opt_chk (by omega), opt_get hget, opt_t o1, opt_get o2, opt_chk (by omega), opt_get (Ma.next_get o3), wminus (by omega), opt_chk (by omega), opt_get (Ma.row_get _ hlt), opt_chk (by omega), opt_get hcl', opt_t p1, opt_get p2, opt_chk (by rw [hrlc]; omega), opt_get hcr, opt_chk (by simp), opt_chk (by trivial), opt_ret, wsucc (by omega), hz, hsr]
    · rw [if_neg hin] at hms
      obtain ⟨p1, p2⟩ := plcG_new hin
      have hlen : (mid (suO m g es) (g 0 : Int) t c).length < 256 := by
        rw [hms] at hml2
        simp at hml2
        omega
      unfold ps1 at hih
      rw [hms] at hih hsr
      rw [idxOf_new hin] at hsr
      refine loopO_inl ?_ hih
      unfold ps1 g28
      rw [opt_t (by rw [m.sw]; simpa using hlt), opt_chk (by omega), opt_get hget, opt_t o1, opt_get o2, opt_chk (by omega), opt_get (Ma.next_get o3), wminus (by omega), opt_chk (by omega), opt_get (Ma.row_get _ hlt), opt_chk (by omega), opt_get hcl', opt_f p1, opt_f (by simp; omega), opt_chk (by simp), opt_chk (by simp; omega), opt_chk (by rw [hrlc]; omega), opt_get hcr, opt_chk (by simp), opt_chk (by trivial), opt_ret, wsucc (by omega), hz, hsr, p2]
      rfl
theorem ends28 (hm : m.Fine) {g : Nat -> Nat} {es : List (Int × Int)} (hes : OfOk m g m.n es) (A : List Int) (hA : ∀ c ∈ A, isCl m g c) (hl : A.length <= 256) (rows : List (List Int)) :
    ∀ (k i : Nat), A.length - i = k -> i <= A.length -> loopO g28 (.h3 m.dfa es (A.length : Int) A (i : Int) ((A.take i).map fun c => m.e (ofOf es c)) rows) = some ⟨(m.s : Int), rows, A.map fun c => m.e (ofOf es c)⟩ := by
  intro k
  induction k with
  | zero =>
    intro i hk hi
    have : i = A.length := by omega
    subst this
    refine loopO_inr ?_
    unfold g28
    rw [opt_f (by simp), opt_chk (by omega), opt_chk (by omega), opt_ret, List.drop_zero, List.take_length, List.take_length]
    simp only [List.drop_zero, List.take_length]
    rfl
  | succ k ih =>
    intro i hk hi
    have hlt : i < A.length := by omega
    have hx := hA _ (List.getElem_mem hlt)
    have hget := range_get hlt
    have hih := ih (i + 1) (by omega) (by omega)
    rw [List.take_succ_eq_append_getElem hlt, List.map_append] at hih
    generalize A[i] = x at hx hget hih
    obtain ⟨j, hj, rfl⟩ := hx
    obtain ⟨o1, o2, o3, o4⟩ := hes.at hj
    refine loopO_inl ?_ hih
    unfold g28
    rw [opt_t (by simpa using hlt), opt_chk (by omega), opt_get hget, opt_t o1, opt_get o2, opt_chk (by omega), opt_get (Ma.ends_get o3), opt_chk (by simp), opt_chk (by simp; omega), opt_chk (by trivial), opt_chk (by trivial), opt_chk (by trivial), opt_ret, wsucc (by omega)]
    rfl
theorem outer28 (hm : m.Fine) {g : Nat -> Nat} {es : List (Int × Int)} (hes : OfOk m g m.n es) : ∀ (k t : Nat), m.n + 1 - t = k -> t <= (turns (suO m g es) (g 0 : Int) t).length ->
    ∃ T, (turns (suO m g es) (g 0 : Int) T).length = T ∧ loopO g28 (ps0 m g es t) = some (outD m.s (suO m g es) (g 0 : Int) (fun c => m.e (ofOf es c)) T) := by
  have hn := hm.n2
  have hn1 := hm.n1
  have hs2 := hm.s2
  intro k
  induction k with
  | zero =>
    intro t hk h1
    have := clTurns_le hm hes t
    omega
  | succ k ih =>
    intro t hk h1
    have htn := clTurns_le hm hes t
    rcases Nat.lt_or_ge t (turns (suO m g es) (g 0 : Int) t).length with hlt | hge
    · obtain ⟨T, hT, hres⟩ := ih (t + 1) (by omega) (by have := turns_len (su := suO m g es) (x0 := (g 0 : Int)) t; omega)
      refine ⟨T, hT, ?_⟩
      have := inner28 hm hes hlt _ hres m.s 0 rfl (by omega)
      refine loopO_inl (s' := ps1 m g es t 0) ?_ this
      have hm0 : mid (suO m g es) (g 0 : Int) t 0 = turns (suO m g es) (g 0 : Int) t := mid_zero
      unfold ps0 ps1 g28
      rw [opt_t (by simpa using hlt), opt_chk (by rw [m.sw]; refine ⟨by omega, by omega, ?_⟩; simp; omega), opt_chk (by trivial), opt_chk (by trivial), opt_ret, hm0, m.sw]
      simp
    · have hT : (turns (suO m g es) (g 0 : Int) t).length = t := by omega
      refine ⟨t, hT, ?_⟩
      have he := ends28 hm hes (turns (suO m g es) (g 0 : Int) t) (turns_in (p := isCl m g) ⟨0, hn1, rfl⟩ (suO_cl hm hes) t) (by omega) ((List.range t).map (turnRow (suO m g es) (g 0 : Int))) _ 0 rfl (by omega)
      refine loopO_inl ?_ he
      unfold ps0 g28
      rw [opt_f (by simp; omega), opt_chk (by trivial), opt_chk (by trivial), opt_chk (by rfl), opt_ret]
      rfl
theorem small28 (hm : m.Fine) : ∃ K g es T, m.Stable K ∧ m.Shows K g ∧ OfOk m g m.n es ∧ (turns (suO m g es) (g 0 : Int) T).length = T ∧ f28 m.dfa = some (outD m.s (suO m g es) (g 0 : Int) (fun c => m.e (ofOf es c)) T) := by
  have hn1 := hm.n1
  obtain ⟨K, g, hK, hg, _, hcl⟩ := classes54 hm
  have key : ∃ es T, OfOk m g m.n es ∧ (turns (suO m g es) (g 0 : Int) T).length = T ∧ loopO g28 (.h0 m.dfa (nums m.n g) ((0 : Nat) : Int) []) = some (outD m.s (suO m g es) (g 0 : Int) (fun c => m.e (ofOf es c)) T) := by
    -- the map of the loop, first
    let mk : Nat -> List (Int × Int) := fun k => Nat.rec [] (fun i es => mset es ((g i : Nat) : Int) ((i : Nat) : Int)) k
    have hmk : ∀ k, OfOk m g k (mk k) := by
      intro k
      induction k with
      | zero => exact ⟨fun i hi => by omega⟩
      | succ k ih => exact ih.step
    have hloop : ∀ (q i : Nat), m.n - i = q -> i <= m.n -> ∀ res, loopO g28 (.h1 m.dfa (nums m.n g) (mk m.n) ((0 : Nat) : Int) [] [((g 0 : Nat) : Int)] (mset [] ((g 0 : Nat) : Int) ((0 : Nat) : Int))) = res -> loopO g28 (.h0 m.dfa (nums m.n g) (i : Int) (mk i)) = res := by
      have hn := hm.n2
      have hlg : (nums m.n g).length = m.n := nums_len _ _
      intro q
      induction q with
      | zero =>
        intro i hq hi res hr
        have : i = m.n := by omega
        subst this
        have h0 : (nums m.n g)[(0 : Nat)]? = some ((g 0 : Nat) : Int) := nums_get g (i := 0) (by omega)
        refine loopO_inl ?_ hr
        unfold g28
        rw [opt_f (by rw [hlg]; simp), opt_chk (by omega), opt_get h0, opt_chk (by rfl), opt_chk (by rfl), opt_ret]
        rfl
      | succ q ih =>
        intro i hq hi res hr
        have hlt : i < m.n := by omega
        refine loopO_inl ?_ (ih (i + 1) (by omega) (by omega) res hr)
        unfold g28
        rw [opt_t (by rw [hlg]; simpa using hlt), opt_chk (by omega), opt_get (nums_get g hlt), opt_ret, wsucc (by omega)]
    obtain ⟨T, hT, hres⟩ := outer28 hm (hmk m.n) (m.n + 1) 0 rfl (by omega)
    exact ⟨mk m.n, T, hmk m.n, hT, hloop m.n 0 rfl (by omega) _ hres⟩
  obtain ⟨es, T, k1, k2, k3⟩ := key
  refine ⟨K, g, es, T, hK, hg, k1, k2, ?_⟩
  unfold f28
  refine runO_inl ?_ k3
  unfold s28
  rw [opt_get (right19 _ (fine_few hm)), opt_f (by rw [fine_right hm]; rfl), opt_get hcl, opt_ret]
  rfl
theorem small_same (hm : m.Fine) : ∃ K T, m.Stable K ∧ (turns (suF m (m.F K)) (m.F K 0) T).length = T ∧ True ∧ f28 m.dfa = some (outD m.s (suF m (m.F K)) (m.F K 0) m.e T) := by
  have hn1 := hm.n1
  obtain ⟨K, g, es, T, hK, hg, hes, hU, h28⟩ := small28 hm
  -- the first states of classes, and their numbers
  have hKL : ∀ i j, i < m.n -> j < m.n -> (m.R K i j ↔ g i = g j) := fun i j hi hj => (hg i j hi hj).symm
  have hgF : ∀ i, i < m.n -> g (m.F K i) = g i := fun i hi => ((hKL i _ hi (F_lt i hi)).1 (Ma.F_R K i)).symm
  have p0 : m.F K 0 < m.n ∧ m.F K (m.F K 0) = m.F K 0 := ⟨F_lt 0 hn1, Ma.F_F _ _⟩
  have ps : ∀ x, (x < m.n ∧ m.F K x = x) -> ∀ y ∈ suF m (m.F K) x, (y < m.n ∧ m.F K y = y) := by
    intro x hx y hy
    refine ⟨suF_lt hm F_lt x hx.1 y hy, ?_⟩
    obtain ⟨c, hc, rfl⟩ := List.mem_map.1 hy
    exact Ma.F_F _ _
  have hi : ∀ x y, (x < m.n ∧ m.F K x = x) -> (y < m.n ∧ m.F K y = y) -> ((g x : Nat) : Int) = ((g y : Nat) : Int) -> x = y := by
    intro x y hx hy h
    have := (hKL x y hx.1 hy.1).2 (by omega)
    rw [<- hx.2, <- hy.2]
    exact Ma.F_eq this
  have hc : ∀ x, (x < m.n ∧ m.F K x = x) -> suO m g es ((g x : Nat) : Int) = (suF m (m.F K) x).map (fun x => ((g x : Nat) : Int)) := by
    intro x hx
    unfold suO suF
    rw [List.map_map]
    apply List.map_congr_left
    intro c hc
    have hc := List.mem_range.1 hc
    obtain ⟨_, _, o3, o4⟩ := hes.at hx.1
    have h1 : m.R K (ofOf es (g x : Int)) x := (hKL _ _ o3 hx.1).2 o4
    have h2 := (hK _ _ o3 hx.1 h1).2 c hc
    have h3 := (hKL _ _ (hm.ok _ c o3 hc) (hm.ok x c hx.1 hc)).1 h2
    show ((g _ : Nat) : Int) = ((g (m.F K (m.to x c)) : Nat) : Int)
    rw [hgF _ (hm.ok x c hx.1 hc), h3]
  have hg0 : ((g 0 : Nat) : Int) = ((g (m.F K 0) : Nat) : Int) := by rw [hgF 0 hn1]
  have hturn := turns_map (φ := fun x => ((g x : Nat) : Int)) (p := fun x => x < m.n ∧ m.F K x = x) p0 ps hi hc
  have hrow := turnRow_map (φ := fun x => ((g x : Nat) : Int)) (p := fun x => x < m.n ∧ m.F K x = x) p0 ps hi hc
  simp only [<- hg0] at hturn hrow
  have hT : (turns (suF m (m.F K)) (m.F K 0) T).length = T := by
    have := hU
    rw [hturn, List.length_map] at this
    exact this
  refine ⟨K, T, hK, hT, trivial, ?_⟩
  rw [h28]
  congr 1
  unfold outD
  rw [hturn, List.map_map, List.map_congr_left (fun t _ => hrow t)]
  congr 1
  apply List.map_congr_left
  intro x hx
  have hp := turns_in (p := fun x => x < m.n ∧ m.F K x = x) p0 ps T x hx
  obtain ⟨_, _, o3, o4⟩ := hes.at hp.1
  have h1 : m.R K (ofOf es (g x : Int)) x := (hKL _ _ o3 hp.1).2 o4
  have h0 : m.R 0 (ofOf es (g x : Int)) x := by
    have := Ma.R_down (m := m) (k := 0) K (i := ofOf es (g x : Int)) (j := x) (by rw [Nat.zero_add]; exact h1)
    exact this
  exact h0
end
end Go.Proofs.Dfa
/-
  Least machines, and whether they are the same.
-/
namespace Go.Proofs.Dfa
open Go Go.Ab Go.ChangeShapes
set_option linter.unusedVariables false
set_option linter.unusedSimpArgs false
set_option maxRecDepth 100000
theorem outD_right {α : Type} [DecidableEq α] {s : Nat} {su : α -> List α} {x0 : α} {e : α -> Bool} {T : Nat} (hsu : ∀ x, (su x).length = s) (h1 : 1 <= s) (h2 : s <= 32) (hT : (turns su x0 T).length = T) (hb : T <= 256) : rightB (outD s su x0 e T) = true := by
  have hp := turns_pos (su := su) (x0 := x0) T
  have hnl : (outD s su x0 e T).Next.length = T := by simp [outD]
  unfold rightB
  rw [Bool.and_eq_true, decide_eq_true_eq, List.all_eq_true]
  refine ⟨⟨by show (1 : Int) <= (s : Int); omega, by show (s : Int) <= 32; omega, by rw [hnl]; omega, by rw [hnl]; exact hb, by simp [outD]; exact hT⟩, fun r hr => ?_⟩
  obtain ⟨t, ht, rfl⟩ := List.mem_map.1 hr
  have ht := List.mem_range.1 ht
  have htl : t < (turns su x0 t).length := by
    rcases Nat.lt_or_ge t (turns su x0 t).length with h | h
    · exact h
    · obtain ⟨d, hd⟩ := Nat.le.dest (Nat.le_of_lt ht)
      have := turns_stop (su := su) (x0 := x0) (t := t) h d
      rw [hd] at this
      rw [this] at hT
      omega
  simp only [rowB, Bool.and_eq_true, decide_eq_true_eq, List.all_eq_true, goB]
  refine ⟨by rw [turnRow_len htl, hsu]; rfl, fun y hy => ?_⟩
  unfold turnRow at hy
  rw [List.getElem?_eq_getElem htl] at hy
  obtain ⟨z, hz, rfl⟩ := List.mem_map.1 hy
  have hm : z ∈ turns su x0 (t + 1) := by rw [turns_succ htl]; exact onceOn_mem.2 (.inr hz)
  have hlt := List.idxOf_lt_length_of_mem hm
  obtain ⟨d, hd⟩ := Nat.le.dest (show t + 1 <= T by omega)
  have hle := turns_len_le (su := su) (x0 := x0) (t := t + 1) d
  rw [hd, hT] at hle
  rw [hnl]
  omega
theorem outD_few {α : Type} [DecidableEq α] {s : Nat} {su : α -> List α} {x0 : α} {e : α -> Bool} {T : Nat} (hsu : ∀ x, (su x).length = s) (h2 : s <= 32) (hT : (turns su x0 T).length = T) (hb : T <= 256) : Few (outD s su x0 e T) := by
  refine ⟨by simp [outD]; omega, by simp [outD]; omega, fun r hr => ?_⟩
  obtain ⟨t, ht, rfl⟩ := List.mem_map.1 hr
  unfold turnRow
  split
  · simp [hsu]; omega
  · simp
structure Neat (x : Dfa) : Prop where
  few : Few x
  rows : ∀ r ∈ x.Next, (r.length : Int) = x.Switches
  ends : x.Ends.length = x.Next.length
theorem neat_right {x : Dfa} (hs : Few x) (h : rightB x = true) : Neat x := by
  unfold rightB at h
  rw [Bool.and_eq_true, decide_eq_true_eq, List.all_eq_true] at h
  obtain ⟨⟨_, _, _, _, h5⟩, hr⟩ := h
  refine ⟨hs, fun r hm => ?_, h5⟩
  have := hr r hm
  simp only [rowB, Bool.and_eq_true, decide_eq_true_eq] at this
  exact this.1
theorem small_ex {m : Ma} (hm : m.Fine) : ∃ w, f28 m.dfa = some w ∧ rightB w = true ∧ Few w := by
  obtain ⟨K, T, hK, hT, h27, h28⟩ := small_same hm
  have hT2 : T <= 256 := by
    have := turns_le (n := m.n) (F_lt (K := K) 0 hm.n1) (suF_lt hm (F_lt (K := K))) T
    have := hm.n2
    omega
  exact ⟨_, h28, outD_right (suF_len m (m.F K)) hm.s1 hm.s2 hT hT2, outD_few (suF_len m (m.F K)) hm.s2 hT hT2⟩
theorem loop31b (x y : Dfa) {i : Nat} (hi : i < x.Next.length) (hi' : i < y.Next.length) (hl : x.Next[i].length = y.Next[i].length) (hx : x.Next[i].length < 9223372036854775807) (r : Option Bool)
    (hr : loopO g31 (.h1 x.Next[i] x y (x.Next[i].length : Int) (i : Int) (i : Int)) = r) : ∀ (k c : Nat), x.Next[i].length - c = k -> c <= x.Next[i].length ->
    loopO g31 (.h1 x.Next[i] x y (c : Int) (i : Int) (i : Int)) = if x.Next[i].drop c = y.Next[i].drop c then r else some false := by
  intro k
  induction k with
  | zero =>
    intro c hk hc
    have : c = x.Next[i].length := by omega
    subst this
    rw [hr, dropN (Nat.le_refl _), dropN (by omega), if_pos rfl]
  | succ k ih =>
    intro c hk hc
    have hlt : c < x.Next[i].length := by omega
    have hlt' : c < y.Next[i].length := by omega
    rw [dropE hlt, dropE hlt']
    by_cases h : x.Next[i][c] = y.Next[i][c]
    · have hih := ih (c + 1) (by omega) (by omega)
      have e : (x.Next[i][c] :: x.Next[i].drop (c + 1) = y.Next[i][c] :: y.Next[i].drop (c + 1)) ↔ (x.Next[i].drop (c + 1) = y.Next[i].drop (c + 1)) := by
        rw [List.cons.injEq]
        exact ⟨fun h' => h'.2, fun h' => ⟨h, h'⟩⟩
      simp only [e]
      refine loopO_inl ?_ hih
      unfold g31
      rw [opt_t (by simpa using hlt), opt_chk (by omega), opt_get (getO hlt), opt_chk (by omega), opt_get (getO hi'), opt_chk (by omega), opt_get (getO hlt'), opt_f (by simp [h]), opt_ret, wsucc (by omega)]
    · rw [if_neg (fun h' => h (List.cons.inj h').1)]
      refine loopO_inr ?_
      unfold g31
      rw [opt_t (by simpa using hlt), opt_chk (by omega), opt_get (getO hlt), opt_chk (by omega), opt_get (getO hi'), opt_chk (by omega), opt_get (getO hlt'), opt_t (by simp; exact fun e => h e.symm), opt_ret]
theorem loop31 (x y : Dfa) (hx : Neat x) (hy : Neat y) (hsw : x.Switches = y.Switches) (hl : x.Next.length = y.Next.length) : ∀ (k i : Nat), x.Next.length - i = k -> i <= x.Next.length ->
    loopO g31 (.h0 x y (i : Int)) = some (decide (x.Next.drop i = y.Next.drop i ∧ x.Ends.drop i = y.Ends.drop i)) := by
  have hxe := hx.ends
  have hye := hy.ends
  have hxl := hx.few.1
  intro k
  induction k with
  | zero =>
    intro i hk hi
    have : i = x.Next.length := by omega
    subst this
    rw [dropN (Nat.le_refl _), dropN (by omega), dropN (by omega), dropN (by omega)]
    refine loopO_inr ?_
    unfold g31
    rw [opt_f (by simp), opt_ret]
    rfl
  | succ k ih =>
    intro i hk hi
    have h1 : i < x.Next.length := by omega
    have h2 : i < y.Next.length := by omega
    have h3 : i < x.Ends.length := by omega
    have h4 : i < y.Ends.length := by omega
    have r1 := hx.rows _ (List.getElem_mem h1)
    have r2 := hy.rows _ (List.getElem_mem h2)
    have hih := ih (i + 1) (by omega) (by omega)
    rw [dropE h1, dropE h2, dropE h3, dropE h4]
    by_cases he : x.Ends[i] = y.Ends[i]
    · refine loopO_inl (s' := .h1 x.Next[i] x y ((0 : Nat) : Int) (i : Int) (i : Int)) ?_ ?_
      · unfold g31
        rw [opt_t (by simpa using h1), opt_chk (by omega), opt_get (getO h1), opt_chk (by omega), opt_get (getO h3), opt_chk (by omega), opt_get (getO h4), opt_f (by rw [he]; simp), opt_ret]
        rfl
      · rw [loop31b x y h1 h2 (by omega) (hx.few.2.2 _ (List.getElem_mem h1)) _ (by
          refine loopO_inl ?_ hih
          unfold g31
          rw [opt_f (by simp), opt_ret, wsucc (by omega)]) _ 0 rfl (by omega)]
        rw [List.drop_zero, List.drop_zero]
        by_cases hr : x.Next[i] = y.Next[i]
        · rw [if_pos hr]
          refine congrArg some (decide_eq_decide.2 ?_)
          rw [List.cons.injEq, List.cons.injEq]
          exact ⟨fun ⟨p, q⟩ => ⟨⟨hr, p⟩, ⟨he, q⟩⟩, fun ⟨⟨_, p⟩, ⟨_, q⟩⟩ => ⟨p, q⟩⟩
        · rw [if_neg hr, decide_eq_false (fun ⟨p, _⟩ => hr (List.cons.inj p).1)]
    · rw [decide_eq_false (fun ⟨_, p⟩ => he (List.cons.inj p).1)]
      refine loopO_inr ?_
      unfold g31
      rw [opt_t (by simpa using h1), opt_chk (by omega), opt_get (getO h1), opt_chk (by omega), opt_get (getO h3), opt_chk (by omega), opt_get (getO h4), opt_t (by simpa using he), opt_ret]
theorem same31 {c d x y : Dfa} (hc : Few c) (hd : Few d) (x2 : f28 c = some x) (y2 : f28 d = some y) (x3 : Neat x) (y3 : Neat y) : f31 c d = some (rightB c && (rightB d && decide (x = y))) := by
  have key : (x = y) ↔ (x.Switches = y.Switches ∧ x.Next = y.Next ∧ x.Ends = y.Ends) := by cases x; cases y; simp
  unfold f31
  cases h1 : rightB c with
  | false =>
    refine runO_inr ?_
    unfold s31
    rw [opt_get x2, opt_get y2, opt_get (right19 _ hc), opt_t (by rw [h1]; rfl), opt_ret]; rfl
  | true =>
    cases h2 : rightB d with
    | false =>
      refine runO_inr ?_
      unfold s31
      rw [opt_get x2, opt_get y2, opt_get (right19 _ hc), opt_f (by rw [h1]; rfl), opt_get (right19 _ hd), opt_t (by rw [h2]; rfl), opt_ret]; rfl
    | true =>
      simp only [Bool.true_and]
      by_cases h3 : x.Switches = y.Switches
      · by_cases h4 : x.Next.length = y.Next.length
        · refine runO_inl (s' := .h0 x y ((0 : Nat) : Int)) ?_ ?_
          · unfold s31
            rw [opt_get x2, opt_get y2, opt_get (right19 _ hc), opt_f (by rw [h1]; rfl), opt_get (right19 _ hd), opt_f (by rw [h2]; rfl), opt_f (by simp [h3]), opt_f (by simp; omega), opt_ret]; rfl
          · rw [loop31 x y x3 y3 h3 h4 _ 0 rfl (by omega)]
            refine congrArg some (decide_eq_decide.2 ?_)
            rw [key, List.drop_zero, List.drop_zero, List.drop_zero, List.drop_zero]
            exact ⟨fun h => ⟨h3, h⟩, fun h => h.2⟩
        · rw [decide_eq_false (fun h => h4 (by rw [h]))]
          refine runO_inr ?_
          unfold s31
          rw [opt_get x2, opt_get y2, opt_get (right19 _ hc), opt_f (by rw [h1]; rfl), opt_get (right19 _ hd), opt_f (by rw [h2]; rfl), opt_f (by simp [h3]), opt_t (by simp; omega), opt_ret]
      · rw [decide_eq_false (fun h => h3 (by rw [h]))]
        refine runO_inr ?_
        unfold s31
        rw [opt_get x2, opt_get y2, opt_get (right19 _ hc), opt_f (by rw [h1]; rfl), opt_get (right19 _ hd), opt_f (by rw [h2]; rfl), opt_t (by simp [h3]), opt_ret]
theorem few_of {d : Dfa} (h : wf_36 d) : Few d := by
  obtain ⟨_, h2, h3⟩ := h
  have e : reachBytes <= 140737488355328 := by decide
  refine ⟨?_, ?_, fun r hr => ?_⟩
  · have := h2.1; omega
  · have := h3.1; omega
  · have := (h2.2 r hr).1; omega
end Go.Proofs.Dfa
/-
  The least machine in short; its words; it is its own least one.
-/
namespace Go.Proofs.Dfa
open Go Go.Ab Go.ChangeShapes
set_option linter.unusedVariables false
set_option linter.unusedSimpArgs false
set_option maxRecDepth 100000
theorem nodup_get {α : Type} {l : List α} (h : l.Nodup) {i j : Nat} (hi : i < l.length) (hj : j < l.length) (e : l[i] = l[j]) : i = j := by
  have hp := List.pairwise_iff_getElem.1 h
  rcases Nat.lt_trichotomy i j with h1 | h1 | h1
  · exact absurd e (hp i j hi hj h1)
  · exact h1
  · exact absurd e.symm (hp j i hj hi h1)
section
variable {α : Type} [DecidableEq α] {su : α -> List α} {x0 : α} {T : Nat}
theorem idxOf_nodup {l : List α} (h : l.Nodup) {j : Nat} (hj : j < l.length) : l.idxOf l[j] = j := by
  refine idxOf_at hj rfl fun hm => ?_
  obtain ⟨i, hi, he⟩ := List.getElem_of_mem hm
  have hi' : i < j := by simp at hi; omega
  rw [List.getElem_take] at he
  have := nodup_get h (by omega) hj he
  omega
theorem turns_pre (t : Nat) : ∀ d, ∃ e, turns su x0 (t + d) = turns su x0 t ++ e := by
  intro d
  induction d with
  | zero => exact ⟨[], by simp⟩
  | succ d ih =>
    obtain ⟨e, he⟩ := ih
    show ∃ e, turns su x0 ((t + d) + 1) = _
    simp only [turns]
    split
    · rename_i x _
      obtain ⟨e2, h2⟩ := onceOn_pre (l := su x) (D := turns su x0 (t + d))
      exact ⟨e ++ e2, by rw [h2, he, List.append_assoc]⟩
    · exact ⟨e, he⟩
theorem turns_lt (hT : (turns su x0 T).length = T) {t : Nat} (ht : t < T) : t < (turns su x0 t).length := by
  rcases Nat.lt_or_ge t (turns su x0 t).length with h | h
  · exact h
  · obtain ⟨d, hd⟩ := Nat.le.dest (Nat.le_of_lt ht)
    have := turns_stop (su := su) (x0 := x0) (t := t) h d
    rw [hd] at this
    rw [this] at hT
    omega
theorem turns_at (hT : (turns su x0 T).length = T) {t : Nat} (ht : t < T) : (turns su x0 t)[t]'(turns_lt hT ht) = (turns su x0 T)[t]'(by omega) := by
  obtain ⟨d, hd⟩ := Nat.le.dest (Nat.le_of_lt ht)
  obtain ⟨e, he⟩ := turns_pre (su := su) (x0 := x0) t d
  have h1 := turns_lt hT ht
  have h2 : (turns su x0 T)[t]? = (turns su x0 t)[t]? := by rw [<- hd, he, List.getElem?_append_left h1]
  rw [List.getElem?_eq_getElem h1, List.getElem?_eq_getElem (by omega)] at h2
  exact (Option.some.inj h2).symm
theorem turns_next_in (hT : (turns su x0 T).length = T) {t : Nat} (ht : t < T) {y : α} (hy : y ∈ su ((turns su x0 T)[t]'(by omega))) : y ∈ turns su x0 (t + 1) ∧ (turns su x0 (t + 1)).idxOf y = (turns su x0 T).idxOf y := by
  have h1 := turns_lt hT ht
  rw [<- turns_at hT ht] at hy
  have hm : y ∈ turns su x0 (t + 1) := by rw [turns_succ h1]; exact onceOn_mem.2 (.inr hy)
  obtain ⟨d, hd⟩ := Nat.le.dest (show t + 1 <= T by omega)
  obtain ⟨e, he⟩ := turns_pre (su := su) (x0 := x0) (t + 1) d
  refine ⟨hm, ?_⟩
  rw [<- hd, he, idxOf_pre hm]
theorem turnRow_all (hT : (turns su x0 T).length = T) {t : Nat} (ht : t < T) : turnRow su x0 t = (su ((turns su x0 T)[t]'(by omega))).map fun y => (((turns su x0 T).idxOf y : Nat) : Int) := by
  have h1 := turns_lt hT ht
  unfold turnRow
  rw [List.getElem?_eq_getElem h1]
  simp only
  rw [turns_at hT ht]
  apply List.map_congr_left
  intro y hy
  rw [(turns_next_in hT ht hy).2]
theorem turns_from (hT : (turns su x0 T).length = T) : ∀ (t j : Nat), t <= T -> j < (turns su x0 t).length -> 0 < j -> ∃ u, ∃ hu : u < T, u < j ∧ ∃ y ∈ su ((turns su x0 T)[u]'(by omega)), (turns su x0 T).idxOf y = j := by
  intro t
  induction t with
  | zero => intro j _ hj h0; simp [turns] at hj; omega
  | succ t ih =>
    intro j ht hj h0
    have hlt : t < T := by omega
    have h1 := turns_lt hT hlt
    rcases Nat.lt_or_ge j (turns su x0 t).length with h | h
    · exact ih j (by omega) h h0
    · refine ⟨t, hlt, by omega, (turns su x0 (t + 1))[j], ?_, ?_⟩
      · have hm : (turns su x0 (t + 1))[j] ∈ onceOn (turns su x0 t) (su (turns su x0 t)[t]) := by
          rw [<- turns_succ h1]; exact List.getElem_mem hj
        rcases onceOn_mem.1 hm with hm | hm
        · exfalso
          obtain ⟨e, he⟩ := turns_pre (su := su) (x0 := x0) t 1
          obtain ⟨i, hi, hi'⟩ := List.getElem_of_mem hm
          have hn := turns_nodup (su := su) (x0 := x0) (t + 1)
          have h3 : (turns su x0 (t + 1))[i]'(by omega) = (turns su x0 t)[i] := by
            have : (turns su x0 (t + 1))[i]? = (turns su x0 t)[i]? := by rw [he, List.getElem?_append_left hi]
            rw [List.getElem?_eq_getElem hi, List.getElem?_eq_getElem (by omega)] at this
            exact Option.some.inj this
          have : i = j := nodup_get hn (by omega) hj (by rw [h3, hi'])
          omega
        · rw [<- turns_at hT hlt]; exact hm
      · obtain ⟨d, hd⟩ := Nat.le.dest ht
        obtain ⟨e, he⟩ := turns_pre (su := su) (x0 := x0) (t + 1) d
        have hn := turns_nodup (su := su) (x0 := x0) (t + 1)
        rw [<- hd, he, idxOf_pre (List.getElem_mem hj)]
        exact idxOf_nodup hn hj
end
section
variable {m : Ma} {K T : Nat}
noncomputable def Ma.ord (m : Ma) (K T t : Nat) : Nat := (turns (suF m (m.F K)) (m.F K 0) T).getD t 0
noncomputable def Ma.small (m : Ma) (K T : Nat) : Ma := ⟨T, m.s, fun t c => (turns (suF m (m.F K)) (m.F K 0) T).idxOf (m.F K (m.to (m.ord K T t) c)), fun t => m.e (m.ord K T t)⟩
structure Least (m : Ma) (K T : Nat) : Prop where
  fine : m.Fine
  stable : m.Stable K
  over : (turns (suF m (m.F K)) (m.F K 0) T).length = T
namespace Least
variable (h : Least m K T)
include h
theorem ord_eq {t : Nat} (ht : t < T) : m.ord K T t = (turns (suF m (m.F K)) (m.F K 0) T)[t]'(by rw [h.over]; exact ht) := by
  have := h.over
  unfold Ma.ord
  rw [List.getD_eq_getElem?_getD, List.getElem?_eq_getElem (by omega), Option.getD_some]
theorem pos : 0 < T := by
  have := turns_pos (su := suF m (m.F K)) (x0 := m.F K 0) T
  rw [h.over] at this
  exact this
theorem le : T <= m.n := by
  have := turns_le (n := m.n) (F_lt (K := K) 0 h.fine.n1) (suF_lt h.fine (F_lt (K := K))) T
  rw [h.over] at this
  exact this
theorem ord_ok {t : Nat} (ht : t < T) : m.ord K T t < m.n ∧ m.F K (m.ord K T t) = m.ord K T t := by
  have p0 : m.F K 0 < m.n ∧ m.F K (m.F K 0) = m.F K 0 := ⟨F_lt 0 h.fine.n1, Ma.F_F _ _⟩
  have ps : ∀ x, (x < m.n ∧ m.F K x = x) -> ∀ y ∈ suF m (m.F K) x, (y < m.n ∧ m.F K y = y) := by
    intro x hx y hy
    refine ⟨suF_lt h.fine F_lt x hx.1 y hy, ?_⟩
    obtain ⟨c, hc, rfl⟩ := List.mem_map.1 hy
    exact Ma.F_F _ _
  rw [h.ord_eq ht]
  exact turns_in (p := fun x => x < m.n ∧ m.F K x = x) p0 ps T _ (List.getElem_mem _)
theorem ord_inj {t u : Nat} (ht : t < T) (hu : u < T) (e : m.ord K T t = m.ord K T u) : t = u := by
  rw [h.ord_eq ht, h.ord_eq hu] at e
  have hn := turns_nodup (su := suF m (m.F K)) (x0 := m.F K 0) T
  have := h.over
  exact nodup_get hn (by omega) (by omega) e
theorem ord_zero : m.ord K T 0 = m.F K 0 := by
  rw [h.ord_eq h.pos]
  obtain ⟨e, he⟩ := turns_pre (su := suF m (m.F K)) (x0 := m.F K 0) 0 T
  simp only [Nat.zero_add] at he
  simp only [he]
  rfl
theorem to_mem {t c : Nat} (ht : t < T) (hc : c < m.s) : m.F K (m.to (m.ord K T t) c) ∈ turns (suF m (m.F K)) (m.F K 0) T := by
  have hy : m.F K (m.to (m.ord K T t) c) ∈ suF m (m.F K) ((turns (suF m (m.F K)) (m.F K 0) T)[t]'(by rw [h.over]; exact ht)) := by
    rw [<- h.ord_eq ht]
    exact List.mem_map.2 ⟨c, List.mem_range.2 hc, rfl⟩
  have h1 := (turns_next_in h.over ht hy).1
  obtain ⟨d, hd⟩ := Nat.le.dest (show t + 1 <= T by omega)
  obtain ⟨e, he⟩ := turns_pre (su := suF m (m.F K)) (x0 := m.F K 0) (t + 1) d
  have e2 : turns (suF m (m.F K)) (m.F K 0) T = turns (suF m (m.F K)) (m.F K 0) (t + 1) ++ e := by rw [<- hd]; exact he
  rw [e2]
  exact List.mem_append.2 (.inl h1)
theorem to_lt {t c : Nat} (ht : t < T) (hc : c < m.s) : (m.small K T).to t c < T := by
  have := List.idxOf_lt_length_of_mem (h.to_mem ht hc)
  rw [h.over] at this
  exact this
theorem ord_to {t c : Nat} (ht : t < T) (hc : c < m.s) : m.ord K T ((m.small K T).to t c) = m.F K (m.to (m.ord K T t) c) := by
  rw [h.ord_eq (h.to_lt ht hc)]
  exact List.getElem_idxOf (List.idxOf_lt_length_of_mem (h.to_mem ht hc))
theorem small_fine : (m.small K T).Fine :=
  ⟨fun t c ht hc => h.to_lt ht hc, h.pos, Nat.le_trans h.le h.fine.n2, h.fine.s1, h.fine.s2⟩
theorem small_dfa : (m.small K T).dfa = outD m.s (suF m (m.F K)) (m.F K 0) m.e T := by
  unfold Ma.dfa outD
  show Dfa.mk (m.s : Int) _ _ = _
  congr 1
  · apply List.map_congr_left
    intro t ht
    have ht := List.mem_range.1 ht
    rw [turnRow_all h.over ht]
    rw [<- h.ord_eq ht]
    unfold suF
    rw [List.map_map]
    rfl
  · apply List.ext_getElem?
    intro t
    by_cases ht : t < T
    · have := h.over
      rw [List.getElem?_map, List.getElem?_range (show t < (m.small K T).n from ht), List.getElem?_map, List.getElem?_eq_getElem (by omega), Option.map_some, Option.map_some]
      congr 1
      show m.e (m.ord K T t) = _
      rw [h.ord_eq ht]
    · have := h.over
      rw [List.getElem?_eq_none (by simp; show T <= t; omega), List.getElem?_eq_none (by simp; omega)]
theorem R_all {i j : Nat} (hi : i < m.n) (hj : j < m.n) (hr : m.R K i j) (k : Nat) : m.R k i j := by
  rcases Nat.le_total k K with hk | hk
  · obtain ⟨d, hd⟩ := Nat.le.dest hk
    exact Ma.R_down d (by rw [hd]; exact hr)
  · obtain ⟨d, rfl⟩ := Nat.le.dest hk
    exact Ma.stable_up h.fine.ok h.stable d hi hj hr
theorem small_R (k : Nat) : ∀ {t u : Nat}, t < T -> u < T -> ((m.small K T).R k t u ↔ m.R k (m.ord K T t) (m.ord K T u)) := by
  induction k with
  | zero => intro t u _ _; exact Iff.rfl
  | succ k ih =>
    intro t u ht hu
    have o1 := (h.ord_ok ht).1
    have o2 := (h.ord_ok hu).1
    refine and_congr (ih ht hu) (forall_congr' fun c => imp_congr_right fun hc => ?_)
    have hc : c < m.s := hc
    rw [ih (h.to_lt ht hc) (h.to_lt hu hc), h.ord_to ht hc, h.ord_to hu hc]
    have k1 := h.fine.ok _ c o1 hc
    have k2 := h.fine.ok _ c o2 hc
    have e1 := h.R_all k1 (F_lt _ k1) (Ma.F_R K _) k
    have e2 := h.R_all k2 (F_lt _ k2) (Ma.F_R K _) k
    exact ⟨fun hh => Ma.R_trans e1 (Ma.R_trans hh (Ma.R_symm e2)), fun hh => Ma.R_trans (Ma.R_symm e1) (Ma.R_trans hh e2)⟩
theorem apart {t u : Nat} (ht : t < T) (hu : u < T) (hr : (m.small K T).R K t u) : t = u := by
  have := (h.small_R K ht hu).1 hr
  have e := Ma.F_eq this
  rw [(h.ord_ok ht).2, (h.ord_ok hu).2] at e
  exact h.ord_inj ht hu e
theorem small_F {L : Nat} (hL : (m.small K T).Stable L) {t : Nat} (ht : t < T) : (m.small K T).F L t = t := by
  have hlt : (m.small K T).F L t < T := Nat.lt_of_le_of_lt (Ma.F_le L t) ht
  have hr := Ma.F_R (m := m.small K T) L t
  have h2 := Ma.stable_up h.small_fine.ok hL K ht hlt hr
  rw [Nat.add_comm] at h2
  exact (h.apart ht hlt (Ma.R_down L h2)).symm
theorem own : f28 (m.small K T).dfa = some (m.small K T).dfa := by
  obtain ⟨L, U, hL, hU, _, h28⟩ := small_same h.small_fine
  rw [h28, h.small_dfa]
  congr 1
  have hF0 : (m.small K T).F L 0 = 0 := h.small_F hL h.pos
  rw [hF0] at hU ⊢
  have ps : ∀ x, x < T -> ∀ y ∈ suF (m.small K T) ((m.small K T).F L) x, y < T := suF_lt h.small_fine (F_lt (K := L))
  have hi : ∀ x y, x < T -> y < T -> m.ord K T x = m.ord K T y -> x = y := fun x y hx hy e => h.ord_inj hx hy e
  have hc : ∀ x, x < T -> suF m (m.F K) (m.ord K T x) = (suF (m.small K T) ((m.small K T).F L) x).map (m.ord K T) := by
    intro x hx
    unfold suF
    rw [List.map_map]
    apply List.map_congr_left
    intro c hc
    have hc : c < m.s := List.mem_range.1 hc
    show _ = m.ord K T ((m.small K T).F L ((m.small K T).to x c))
    rw [h.small_F hL (h.to_lt hx hc), h.ord_to hx hc]
  have hturn := turns_map (φ := m.ord K T) (p := fun x => x < T) h.pos ps hi hc
  have hrow := turnRow_map (φ := m.ord K T) (p := fun x => x < T) h.pos ps hi hc
  rw [h.ord_zero] at hturn hrow
  have e : T = U := by
    refine turns_end h.over ?_
    rw [hturn, List.length_map]; exact hU
  subst e
  unfold outD
  rw [hturn, List.map_map, List.map_congr_left (fun t _ => hrow t)]
  rfl
end Least
theorem least_ex {m : Ma} (hm : m.Fine) : ∃ K T, Least m K T ∧ f28 m.dfa = some (m.small K T).dfa := by
  obtain ⟨K, T, hK, hT, _, h28⟩ := small_same hm
  have h : Least m K T := ⟨hm, hK, hT⟩
  exact ⟨K, T, h, by rw [h28, h.small_dfa]⟩
end
def runB (m : Ma) : Nat -> List Int -> Bool
  | at_, [] => m.e at_
  | at_, n :: w => if n < 1 ∨ (m.s : Int) < n then false else runB m (m.to at_ (n - 1).toNat) w
theorem loop25 {m : Ma} (hm : m.Fine) (w : List Int) (hw : w.length < 9223372036854775807) : ∀ (k i a : Nat), w.length - i = k -> i <= w.length -> a < m.n -> loopO g25 (.h0 m.dfa w (i : Int) (a : Int)) = some (runB m a (w.drop i)) := by
  have hs := hm.s2
  intro k
  induction k with
  | zero =>
    intro i a hk hi ha
    have : i = w.length := by omega
    subst this
    rw [dropN (Nat.le_refl _)]
    refine loopO_inr ?_
    unfold g25
    rw [opt_f (by simp), opt_chk (by omega), opt_get (Ma.ends_get ha), opt_ret]
    rfl
  | succ k ih =>
    intro i a hk hi ha
    have hlt : i < w.length := by omega
    rw [dropE hlt, runB]
    by_cases h1 : w[i] < 1
    · rw [if_pos (.inl h1)]
      refine loopO_inr ?_
      unfold g25
      rw [opt_t (by simpa using hlt), opt_chk (by omega), opt_get (getO hlt), opt_t (by simpa using h1), opt_ret]
    · by_cases h2 : (m.s : Int) < w[i]
      · rw [if_pos (.inr h2)]
        refine loopO_inr ?_
        unfold g25
        rw [opt_t (by simpa using hlt), opt_chk (by omega), opt_get (getO hlt), opt_f (by simpa using h1), opt_t (by rw [m.sw]; simpa using h2), opt_ret]
      · rw [if_neg (by omega)]
        have hc : (w[i] - 1).toNat < m.s := by omega
        have hto := hm.ok a _ ha hc
        have hwr : IntKind.i64.wrap (w[i] - 1) = (((w[i] - 1).toNat : Nat) : Int) := by rw [w64 (by omega) (by omega)]; omega
        refine loopO_inl ?_ (ih (i + 1) _ (by omega) (by omega) hto)
        unfold g25
        rw [opt_t (by simpa using hlt), opt_chk (by omega), opt_get (getO hlt), opt_f (by simpa using h1), opt_f (by rw [m.sw]; simpa using h2), opt_chk (by omega), opt_get (Ma.next_get ha), hwr, opt_chk (by omega), opt_get (Ma.row_get a hc), opt_ret, wsucc (by omega)]
theorem run25 {m : Ma} (hm : m.Fine) (w : List Int) (hw : w.length < 9223372036854775807) : f25 m.dfa w = some (runB m 0 w) := by
  unfold f25
  refine runO_inl (s' := .h0 m.dfa w ((0 : Nat) : Int) ((0 : Nat) : Int)) ?_ (loop25 hm w hw _ 0 0 rfl (by omega) hm.n1)
  unfold s25
  rw [opt_get (right19 _ (fine_few hm)), opt_f (by rw [fine_right hm]; rfl), opt_ret]
  rfl
theorem run_same {m l : Ma} (hs : m.s = l.s) {B : Nat -> Nat -> Prop} (he : ∀ i j, B i j -> m.e i = l.e j) (ht : ∀ i j, B i j -> ∀ c, c < m.s -> B (m.to i c) (l.to j c)) : ∀ (w : List Int) {i j : Nat}, B i j -> runB m i w = runB l j w := by
  intro w
  induction w with
  | nil => intro i j h; exact he i j h
  | cons n w ih =>
    intro i j h
    rw [runB, runB, hs]
    split
    · rfl
    · rename_i hn
      exact ih (ht i j h _ (by omega))
theorem R_of_run {m : Ma} (hm : m.Fine) : ∀ (k : Nat) {i j : Nat}, i < m.n -> j < m.n -> (∀ w, runB m i w = runB m j w) -> m.R k i j := by
  intro k
  induction k with
  | zero => intro i j _ _ h; exact h []
  | succ k ih =>
    intro i j hi hj h
    refine ⟨ih hi hj h, fun c hc => ih (hm.ok i c hi hc) (hm.ok j c hj hc) fun w => ?_⟩
    have := h (((c : Int) + 1) :: w)
    rw [runB, runB, if_neg (by omega), if_neg (by omega)] at this
    have e : ((c : Int) + 1 - 1).toNat = c := by omega
    rw [e] at this
    exact this
theorem Least.run {m : Ma} {K T : Nat} (h : Least m K T) (w : List Int) : runB m 0 w = runB (m.small K T) 0 w := by
  refine run_same (m := m) (l := m.small K T) (B := fun i t => i < m.n ∧ t < T ∧ m.R K i (m.ord K T t)) rfl (fun i t hB => ?_) (fun i t hB c hc => ?_) w ⟨h.fine.n1, h.pos, ?_⟩
  · exact h.R_all hB.1 (h.ord_ok hB.2.1).1 hB.2.2 0
  · obtain ⟨b1, b2, b3⟩ := hB
    have o := (h.ord_ok b2).1
    have k1 := h.fine.ok _ c b1 hc
    have k2 := h.fine.ok _ c o hc
    refine ⟨k1, h.to_lt b2 hc, ?_⟩
    rw [h.ord_to b2 hc]
    exact Ma.R_trans ((h.stable _ _ b1 o b3).2 c hc) (Ma.F_R K _)
  · rw [h.ord_zero]; exact Ma.F_R K 0
end Go.Proofs.Dfa
/-
  The least word that a machine takes: the search, in short, and the document's own search.
-/
namespace Go.Proofs.Dfa
open Go Go.Ab Go.ChangeShapes
set_option linter.unusedVariables false
set_option linter.unusedSimpArgs false
set_option maxRecDepth 100000
abbrev Sq := List (Nat × List Int)
def sgrow (qs : Sq) (p : Nat × List Int) (c y : Nat) : Sq := if y ∈ qs.map Prod.fst then qs else qs ++ [(y, p.2 ++ [(c : Int) + 1])]
def sstep (m : Ma) (p : Nat × List Int) (qs : Sq) : Nat -> Sq
  | 0 => qs
  | c + 1 => sgrow (sstep m p qs c) p c (m.to p.1 c)
def sq (m : Ma) : Nat -> Sq
  | 0 => [(0, [])]
  | t + 1 => match (sq m t)[t]? with
    | some p => sstep m p (sq m t) m.s
    | none => sq m t
def sans (m : Ma) : Nat -> Nat -> List Int × Bool
  | 0, _ => ([], false)
  | k + 1, t => match (sq m t)[t]? with
    | some p => if m.e p.1 = true then (p.2, true) else sans m k (t + 1)
    | none => ([], false)
structure SOk (m : Ma) (L : Nat) (qs : Sq) : Prop where
  lt : ∀ p ∈ qs, p.1 < m.n
  len : ∀ p ∈ qs, p.2.length <= L
  nodup : (qs.map Prod.fst).Nodup
theorem SOk.size {m : Ma} {L : Nat} {qs : Sq} (h : SOk m L qs) : qs.length <= m.n := by
  have := nodup_sub_len (b := List.range m.n) h.nodup (fun x hx => by
    obtain ⟨p, hp, rfl⟩ := List.mem_map.1 hx
    exact List.mem_range.2 (h.lt p hp))
  simpa using this
theorem sgrow_ok {m : Ma} {L : Nat} {qs : Sq} (h : SOk m (L + 1) qs) {p : Nat × List Int} (hp : p.2.length <= L) (c : Nat) {y : Nat} (hy : y < m.n) : SOk m (L + 1) (sgrow qs p c y) := by
  unfold sgrow
  split
  · exact h
  · rename_i hn
    refine ⟨fun q hq => ?_, fun q hq => ?_, ?_⟩
    · rcases List.mem_append.1 hq with hq | hq
      · exact h.lt q hq
      · simp at hq; subst hq; exact hy
    · rcases List.mem_append.1 hq with hq | hq
      · exact h.len q hq
      · simp at hq; subst hq; simp; exact hp
    · rw [List.map_append, List.nodup_append]
      refine ⟨h.nodup, by simp, fun a ha b hb => ?_⟩
      simp at hb; subst hb
      rintro rfl; exact hn ha
theorem sstep_ok {m : Ma} (hm : m.Fine) {L : Nat} {qs : Sq} (h : SOk m (L + 1) qs) {p : Nat × List Int} (hp1 : p.1 < m.n) (hp : p.2.length <= L) : ∀ c, c <= m.s -> SOk m (L + 1) (sstep m p qs c) := by
  intro c
  induction c with
  | zero => intro _; exact h
  | succ c ih => intro hc; exact sgrow_ok (ih (by omega)) hp c (hm.ok _ _ hp1 (by omega))
theorem sgrow_pre (qs : Sq) (p : Nat × List Int) (c y : Nat) : ∃ e, sgrow qs p c y = qs ++ e := by
  unfold sgrow
  split
  · exact ⟨[], by simp⟩
  · exact ⟨_, rfl⟩
theorem sstep_pre (m : Ma) (p : Nat × List Int) (qs : Sq) : ∀ c, ∃ e, sstep m p qs c = qs ++ e := by
  intro c
  induction c with
  | zero => exact ⟨[], by simp [sstep]⟩
  | succ c ih =>
    obtain ⟨e, he⟩ := ih
    obtain ⟨f, hf⟩ := sgrow_pre (sstep m p qs c) p c (m.to p.1 c)
    exact ⟨e ++ f, by rw [sstep, hf, he, List.append_assoc]⟩
theorem sstep_at (m : Ma) (p : Nat × List Int) {qs : Sq} {t : Nat} (h : qs[t]? = some p) (c : Nat) : (sstep m p qs c)[t]? = some p := by
  obtain ⟨e, he⟩ := sstep_pre m p qs c
  rw [he, List.getElem?_append_left (getElem?_lt h)]; exact h
theorem SOk.up {m : Ma} {L : Nat} {qs : Sq} (h : SOk m L qs) : SOk m (L + 1) qs := ⟨h.lt, fun p hp => by have := h.len p hp; omega, h.nodup⟩
theorem sq_ok {m : Ma} (hm : m.Fine) : ∀ t, SOk m t (sq m t) := by
  intro t
  induction t with
  | zero => exact ⟨fun p hp => by simp [sq] at hp; subst hp; exact hm.n1, fun p hp => by simp [sq] at hp; subst hp; simp, by simp [sq]⟩
  | succ t ih =>
    rw [sq]
    split
    · rename_i p hp
      have hmem := List.mem_of_getElem? hp
      exact sstep_ok hm ih.up (ih.lt p hmem) (ih.len p hmem) m.s (Nat.le_refl _)
    · exact ih.up
def sts (qs : Sq) : List Int := qs.map fun p => (p.1 : Int)
theorem sts_len (qs : Sq) : (sts qs).length = qs.length := by simp [sts]
structure Beside (m : Ma) (qs : Sq) (W : List (List Int)) (B : List Bool) : Prop where
  wl : W.length = m.n
  bl : B.length = m.n
  word : ∀ p ∈ qs, W[p.1]? = some p.2
  seen : ∀ j, j < m.n -> B[j]? = some (decide (j ∈ qs.map Prod.fst))
theorem newrow (w : List Int) (x : Int) : ((List.take (min w.length (w.length + 1)) w ++ List.drop (min w.length (w.length + 1)) (List.replicate (w.length + 1) (0 : Int))).set w.length x) = w ++ [x] := by
  have : min w.length (w.length + 1) = w.length := by omega
  rw [this, List.take_length, List.drop_replicate, Nat.add_sub_cancel_left, List.set_append_right _ _ (Nat.le_refl _)]
  simp
theorem Beside.add {m : Ma} {qs : Sq} {W : List (List Int)} {B : List Bool} (h : Beside m qs W B) {y : Nat} (hy : y < m.n) (hn : y ∉ qs.map Prod.fst) (w : List Int) : Beside m (qs ++ [(y, w)]) (W.set y w) (B.set y true) := by
  refine ⟨by simp [h.wl], by simp [h.bl], fun p hp => ?_, fun j hj => ?_⟩
  · rcases List.mem_append.1 hp with hp | hp
    · have : y ≠ p.1 := fun e => hn (e ▸ List.mem_map.2 ⟨p, hp, rfl⟩)
      rw [List.getElem?_set_ne this]; exact h.word p hp
    · simp at hp; subst hp
      rw [List.getElem?_set_self (by rw [h.wl]; exact hy)]
  · by_cases e : y = j
    · subst e
      rw [List.getElem?_set_self (by rw [h.bl]; exact hy)]; simp
    · rw [List.getElem?_set_ne e, h.seen j hj, List.map_append, List.map_cons, List.map_nil]
      congr 1
      have : ¬ j = y := fun e' => e e'.symm
      simp [this]
theorem one16 {m : Ma} (hm : m.Fine) {qs : Sq} {p : Nat × List Int} {t c : Nat} (hq : SOk m 300 qs) (hp : qs[t]? = some p) (hc : c < m.s) {W : List (List Int)} {B : List Bool} (h : Beside m qs W B) :
    ∃ W' B', Beside m (sgrow qs p c (m.to p.1 c)) W' B' ∧ loopO g16 (.h1 m.dfa (p.1 : Int) (m.row p.1) (c : Int) (sts (qs.drop (t + 1))) W B) = loopO g16 (.h1 m.dfa (p.1 : Int) (m.row p.1) ((c + 1 : Nat) : Int) (sts ((sgrow qs p c (m.to p.1 c)).drop (t + 1))) W' B') := by
  have hs2 := hm.s2
  have hn2 := hm.n2
  have hmem := List.mem_of_getElem? hp
  have htl := getElem?_lt hp
  have hsz := hq.size
  have hp1 := hq.lt p hmem
  have hp2 := hq.len p hmem
  have hy := hm.ok _ _ hp1 hc
  have hw := h.word p hmem
  have hB := h.seen _ hy
  have wl := h.wl
  have bl := h.bl
  have hrl := m.row_len p.1
  unfold sgrow
  split
  · rename_i hin
    refine ⟨W, B, h, loopO_inl ?_ rfl⟩
    unfold g16
    rw [opt_t (by rw [hrl]; simpa using hc), opt_chk (by omega), opt_get (Ma.row_get _ hc), opt_chk (by omega), opt_get (by rw [Nat.zero_add, Int.toNat_natCast]; exact hB), opt_f (by simp [hin]), opt_chk rfl, opt_chk rfl, opt_chk rfl, opt_ret, wsucc (by omega)]
  · rename_i hin
    have hne : ¬ (0 + ((p.1 : Nat) : Int).toNat = 0 + ((m.to p.1 c : Nat) : Int).toNat) := by
      intro e
      rw [Int.toNat_natCast, Int.toNat_natCast] at e
      apply hin
      rw [show m.to p.1 c = p.1 by omega]
      exact List.mem_map.2 ⟨p, hmem, rfl⟩
    have hWy : W[0 + ((m.to p.1 c : Nat) : Int).toNat]? = some (W[m.to p.1 c]'(by omega)) := by rw [Nat.zero_add, Int.toNat_natCast]; simp [wl, hy]
    have hWp : W[0 + ((p.1 : Nat) : Int).toNat]? = some p.2 := by rw [Nat.zero_add, Int.toNat_natCast]; exact hw
    have hBy : B[0 + ((m.to p.1 c : Nat) : Int).toNat]? = some false := by rw [Nat.zero_add, Int.toNat_natCast, hB]; simp [hin]
    refine ⟨W.set (m.to p.1 c) (p.2 ++ [(c : Int) + 1]), B.set (m.to p.1 c) true, h.add hy hin _, loopO_inl ?_ rfl⟩
    have hwc : IntKind.i64.wrap ((c : Int) + 1) = (c : Int) + 1 := w64 (by omega) (by omega)
    have hdl := sts_len (qs.drop (t + 1))
    rw [List.length_drop] at hdl
    unfold g16
    rw [opt_t (by rw [hrl]; simpa using hc), opt_chk (by omega), opt_get (Ma.row_get _ hc), opt_chk (by omega), opt_get hBy, opt_t (by rfl), opt_chk (by omega), opt_get hBy, opt_chk (by omega), opt_get hWp, wsucc (n := p.2.length) (by omega)]
    rw [opt_chk (by omega), opt_chk (by omega), opt_get hWy, opt_chk (by omega), opt_t (by simp), opt_chk (by omega), opt_f (by simpa using hne), opt_get hWp, opt_chk (by omega), opt_chk (by omega), opt_t (by simp), opt_chk (by omega), opt_f (by simpa using hne), opt_get hWp, hwc]
    simp only [Int.toNat_natCast, Nat.zero_add, List.drop_zero, List.take_zero, List.nil_append, List.length_replicate, newrow, List.take_succ_cons]
    rw [opt_chk (by omega), opt_get (x := 0) (by simp), opt_chk (by simp), opt_chk (by simp; omega), opt_chk (by simp), opt_chk trivial, opt_chk (by simp), opt_chk (by simp), opt_ret]
    rw [List.take_of_length_le (by simp), List.drop_append_of_le_length (by omega)]
    simp [sts]
theorem SOk.le {m : Ma} {L L' : Nat} {qs : Sq} (h : SOk m L qs) (hl : L <= L') : SOk m L' qs := ⟨h.lt, fun p hp => Nat.le_trans (h.len p hp) hl, h.nodup⟩
theorem row16 {m : Ma} (hm : m.Fine) {qs : Sq} {p : Nat × List Int} {t L : Nat} (h : SOk m (L + 1) qs) (hp1 : p.1 < m.n) (hp2 : p.2.length <= L) (hL : L <= 256) (hp : qs[t]? = some p) :
    ∀ (k c : Nat) (W : List (List Int)) (B : List Bool), m.s - c = k -> c <= m.s -> Beside m (sstep m p qs c) W B -> ∃ W' B', Beside m (sstep m p qs m.s) W' B' ∧
      loopO g16 (.h1 m.dfa (p.1 : Int) (m.row p.1) (c : Int) (sts ((sstep m p qs c).drop (t + 1))) W B) = loopO g16 (.h0 m.dfa (sts ((sstep m p qs m.s).drop (t + 1))) W' B') := by
  have hs2 := hm.s2
  have hrl := m.row_len p.1
  intro k
  induction k with
  | zero =>
    intro c W B hk hc hb
    have : c = m.s := by omega
    subst this
    refine ⟨W, B, hb, loopO_inl ?_ rfl⟩
    unfold g16
    rw [opt_f (by rw [hrl]; simp), opt_chk rfl, opt_chk rfl, opt_chk rfl, opt_ret]
  | succ k ih =>
    intro c W B hk hc hb
    have hlt : c < m.s := by omega
    have hok := (sstep_ok hm h hp1 hp2 c hc).le (show L + 1 <= 300 by omega)
    obtain ⟨W1, B1, hb1, e1⟩ := one16 hm hok (sstep_at m p hp c) hlt hb
    obtain ⟨W2, B2, hb2, e2⟩ := ih (c + 1) W1 B1 (by omega) (by omega) hb1
    exact ⟨W2, B2, hb2, e1.trans e2⟩
theorem loop16 {m : Ma} (hm : m.Fine) : ∀ (k t : Nat) (W : List (List Int)) (B : List Bool), m.n + 1 - t = k -> t <= m.n + 1 -> Beside m (sq m t) W B -> loopO g16 (.h0 m.dfa (sts ((sq m t).drop t)) W B) = some (sans m k t) := by
  have hn2 := hm.n2
  intro k
  induction k with
  | zero =>
    intro t W B hk ht hb
    have hsz := (sq_ok hm t).size
    rw [dropN (by omega)]
    refine loopO_inr ?_
    unfold g16
    rw [opt_f (by simp [sts]), opt_ret]; rfl
  | succ k ih =>
    intro t W B hk ht hb
    have hok := sq_ok hm t
    rw [sans]
    split
    · rename_i p hp
      have htl := getElem?_lt hp
      have hsz := hok.size
      have hmem := List.mem_of_getElem? hp
      have hp1 := hok.lt p hmem
      have hw := hb.word p hmem
      have wl := hb.wl
      have hpe : (sq m t)[t] = p := by rw [List.getElem?_eq_getElem htl] at hp; exact Option.some.inj hp
      have hd : (sq m t).drop t = p :: (sq m t).drop (t + 1) := by rw [dropE htl, hpe]
      have hs : sts ((sq m t).drop t) = (p.1 : Int) :: sts ((sq m t).drop (t + 1)) := by rw [hd]; rfl
      have hz : ((p.1 : Int) :: sts ((sq m t).drop (t + 1))).length = (sts ((sq m t).drop (t + 1))).length + 1 := rfl
      rw [hs]
      split
      · rename_i he
        refine loopO_inr ?_
        unfold g16
        rw [opt_t (by simp), opt_chk (by omega), opt_get (x := (p.1 : Int)) (by rfl), opt_chk (by omega), opt_chk (by omega), opt_get (Ma.ends_get hp1), opt_t he, opt_chk (by omega), opt_get (by rw [Nat.zero_add, Int.toNat_natCast]; exact hw), opt_ret]
      · rename_i he
        obtain ⟨W', B', hb', e'⟩ := row16 hm hok.up hp1 (hok.len p hmem) (by omega) hp _ 0 W B rfl (by omega) hb
        have e : sq m (t + 1) = sstep m p (sq m t) m.s := by rw [sq, hp]
        rw [<- e] at hb' e'
        refine loopO_inl (s' := .h1 m.dfa (p.1 : Int) (m.row p.1) ((0 : Nat) : Int) (sts ((sstep m p (sq m t) 0).drop (t + 1))) W B) ?_ (e'.trans (ih (t + 1) W' B' (by omega) (by omega) hb'))
        unfold g16
        rw [opt_t (by simp), opt_chk (by omega), opt_get (x := (p.1 : Int)) (by rfl), opt_chk (by omega), opt_chk (by omega), opt_get (Ma.ends_get hp1), opt_f (by simpa using he), opt_chk (by omega), opt_get (Ma.next_get hp1), opt_chk (by omega), opt_chk (by simp), opt_chk rfl, opt_chk rfl, opt_ret]
        rfl
    · rename_i hp
      have : (sq m t).length <= t := List.getElem?_eq_none_iff.1 hp
      rw [dropN this]
      refine loopO_inr ?_
      unfold g16
      rw [opt_f (by simp [sts]), opt_ret]
theorem least16 {m : Ma} (hm : m.Fine) : f16 m.dfa = some (sans m (m.n + 1) 0) := by
  have hn1 := hm.n1
  have hn2 := hm.n2
  have hnl := m.next_len
  unfold f16
  refine runO_inl (s' := .h0 m.dfa (sts ((sq m 0).drop 0)) (List.replicate m.n []) ((List.replicate m.n false).set 0 true)) ?_ (loop16 hm _ 0 _ _ rfl (by omega) ⟨by simp, by simp, fun p hp => ?_, fun j hj => ?_⟩)
  · unfold s16
    rw [opt_get (right19 _ (fine_few hm)), opt_f (by rw [fine_right hm]; rfl), hnl, opt_chk (by omega), opt_chk (by omega)]
    simp only [Int.toNat_natCast]
    rw [opt_chk (by simp; omega), opt_get (x := false) (by rw [List.getElem?_replicate, if_pos (by omega)]), opt_chk (by first | rfl | trivial), opt_chk (by first | rfl | simp), opt_chk (by first | rfl | trivial), opt_ret]
    exact congrArg (fun k => some (Sum.inl (L16.h0 m.dfa [0] (List.replicate k []) ((List.replicate m.n false).set 0 true)))) hnl
  · simp [sq] at hp
    subst hp
    show (List.replicate m.n ([] : List Int))[0]? = some []
    rw [List.getElem?_replicate, if_pos (by omega)]
  · by_cases e : 0 = j
    · subst e
      rw [List.getElem?_set_self (by simp; omega)]; simp [sq]
    · rw [List.getElem?_set_ne e]
      have : ¬ j = 0 := fun h => e h.symm
      simp [sq, this, hj]
end Go.Proofs.Dfa
/-
  What the search finds: a word that the machine takes, and none that it takes is shorter.
-/
namespace Go.Proofs.Dfa
open Go Go.Ab Go.ChangeShapes
set_option linter.unusedVariables false
set_option linter.unusedSimpArgs false
set_option maxRecDepth 100000
def LeadW (m : Ma) (qs : Sq) : Prop := ∀ p ∈ qs, ∀ w, runB m 0 (p.2 ++ w) = runB m p.1 w
theorem runB_step {m : Ma} {i c : Nat} (hc : c < m.s) (w : List Int) : runB m i (((c : Int) + 1) :: w) = runB m (m.to i c) w := by
  rw [runB, if_neg (by omega)]
  congr 2
  omega
theorem sgrow_lead {m : Ma} {qs : Sq} (h : LeadW m qs) {p : Nat × List Int} (hp : p ∈ qs) {c : Nat} (hc : c < m.s) (qs' : Sq) (h' : LeadW m qs') : LeadW m (sgrow qs' p c (m.to p.1 c)) := by
  unfold sgrow
  split
  · exact h'
  · intro q hq w
    rcases List.mem_append.1 hq with hq | hq
    · exact h' q hq w
    · simp at hq; subst hq
      show runB m 0 (p.2 ++ [(c : Int) + 1] ++ w) = _
      rw [List.append_assoc, h p hp, List.singleton_append, runB_step hc]
theorem sstep_lead {m : Ma} {qs : Sq} (h : LeadW m qs) {p : Nat × List Int} (hp : p ∈ qs) : ∀ c, c <= m.s -> LeadW m (sstep m p qs c) := by
  intro c
  induction c with
  | zero => intro _; exact h
  | succ c ih => intro hc; exact sgrow_lead h hp (by omega) _ (ih (by omega))
theorem sq_lead (m : Ma) : ∀ t, LeadW m (sq m t) := by
  intro t
  induction t with
  | zero => intro p hp w; simp [sq] at hp; subst hp; rfl
  | succ t ih =>
    rw [sq]
    split
    · rename_i p hp
      exact sstep_lead ih (List.mem_of_getElem? hp) _ (Nat.le_refl _)
    · exact ih
structure Rise (L : Nat) (qs : Sq) : Prop where
  up : ∀ (i j : Nat) (p q : Nat × List Int), i <= j -> qs[i]? = some p -> qs[j]? = some q -> p.2.length <= q.2.length
  most : ∀ p ∈ qs, p.2.length <= L + 1
theorem sgrow_rise {L : Nat} {qs : Sq} (h : Rise L qs) {p : Nat × List Int} (hp : p.2.length = L) (c y : Nat) : Rise L (sgrow qs p c y) := by
  unfold sgrow
  split
  · exact h
  · refine ⟨fun i j a b hij ha hb => ?_, fun a ha => ?_⟩
    · rcases Nat.lt_or_ge j qs.length with hj | hj
      · rw [List.getElem?_append_left hj] at hb
        rw [List.getElem?_append_left (by omega)] at ha
        exact h.up i j a b hij ha hb
      · rw [List.getElem?_append_right hj] at hb
        have hb2 : b.2.length = L + 1 := by
          rcases Nat.eq_zero_or_pos (j - qs.length) with h0 | h0
          · rw [h0] at hb; simp at hb; subst hb; simp; exact hp
          · rw [List.getElem?_eq_none (by simp; omega)] at hb; cases hb
        have ham := List.mem_of_getElem? ha
        rcases List.mem_append.1 ham with ham | ham
        · have := h.most a ham; omega
        · simp at ham; subst ham; simp; omega
    · rcases List.mem_append.1 ha with ha | ha
      · exact h.most a ha
      · simp at ha; subst ha; simp; omega
theorem sstep_rise {m : Ma} {L : Nat} {qs : Sq} (h : Rise L qs) {p : Nat × List Int} (hp : p.2.length = L) : ∀ c, Rise L (sstep m p qs c) := by
  intro c
  induction c with
  | zero => exact h
  | succ c ih => exact sgrow_rise ih hp c _
def Closed (m : Ma) (t : Nat) (qs : Sq) : Prop := ∀ u, u < t -> ∀ p, qs[u]? = some p -> ∀ c, c < m.s -> ∃ (j : Nat) (q : Nat × List Int), qs[j]? = some q ∧ q.1 = m.to p.1 c ∧ q.2.length <= p.2.length + 1
theorem sq_pre1 (m : Ma) (t : Nat) : ∃ e, sq m (t + 1) = sq m t ++ e := by
  rw [sq]
  split
  · exact sstep_pre _ _ _ _
  · exact ⟨[], by simp⟩
theorem sstep_close {m : Ma} {L : Nat} {qs : Sq} (h : Rise L qs) {p : Nat × List Int} (hp : p.2.length = L) : ∀ k c, c < k -> ∃ (j : Nat) (q : Nat × List Int), (sstep m p qs k)[j]? = some q ∧ q.1 = m.to p.1 c ∧ q.2.length <= L + 1 := by
  intro k
  induction k with
  | zero => intro c hc; omega
  | succ k ih =>
    intro c hc
    by_cases e : c = k
    · subst e
      rw [sstep]
      unfold sgrow
      split
      · rename_i hin
        obtain ⟨q, hq, he⟩ := List.mem_map.1 hin
        obtain ⟨j, hj, hj'⟩ := List.getElem_of_mem hq
        exact ⟨j, q, by rw [List.getElem?_eq_getElem hj, hj'], he, (sstep_rise h hp c).most q hq⟩
      · refine ⟨(sstep m p qs c).length, (m.to p.1 c, p.2 ++ [(c : Int) + 1]), ?_, rfl, by simp; omega⟩
        rw [List.getElem?_append_right (Nat.le_refl _)]; simp
    · obtain ⟨j, q, h1, h2, h3⟩ := ih c (by omega)
      obtain ⟨e', he'⟩ := sgrow_pre (sstep m p qs k) p k (m.to p.1 k)
      refine ⟨j, q, ?_, h2, h3⟩
      rw [sstep, he', List.getElem?_append_left (getElem?_lt h1)]; exact h1
theorem Closed.pre {m : Ma} {t : Nat} {qs : Sq} (h : Closed m t qs) (ht : t <= qs.length) (e : Sq) : Closed m t (qs ++ e) := by
  intro u hu p hp c hc
  rw [List.getElem?_append_left (by omega)] at hp
  obtain ⟨j, q, h1, h2, h3⟩ := h u hu p hp c hc
  exact ⟨j, q, by rw [List.getElem?_append_left (getElem?_lt h1)]; exact h1, h2, h3⟩
structure Going (m : Ma) (t : Nat) : Prop where
  rise : ∀ p : Nat × List Int, (sq m t)[t]? = some p -> Rise p.2.length (sq m t)
  all : ∃ L, Rise L (sq m t)
  first : ∃ p : Nat × List Int, (sq m t)[0]? = some p ∧ p.1 = 0 ∧ p.2 = []
theorem sq_going (m : Ma) : ∀ t, Going m t := by
  intro t
  induction t with
  | zero =>
    have h : Rise 0 (sq m 0) := ⟨fun i j p q hij hp hq => by
      have h1 := List.mem_of_getElem? hp
      have h2 := List.mem_of_getElem? hq
      simp [sq] at h1 h2; subst h1; subst h2; simp, fun p hp => by simp [sq] at hp; subst hp; simp⟩
    exact ⟨fun p hp => by have h1 := List.mem_of_getElem? hp; simp [sq] at h1; subst h1; exact h, ⟨0, h⟩, ⟨(0, []), rfl, rfl, rfl⟩⟩
  | succ t ih =>
    have hf : ∃ p : Nat × List Int, (sq m (t + 1))[0]? = some p ∧ p.1 = 0 ∧ p.2 = [] := by
      obtain ⟨p, h1, h2, h3⟩ := ih.first
      obtain ⟨e, he⟩ := sq_pre1 m t
      exact ⟨p, by rw [he, List.getElem?_append_left (getElem?_lt h1)]; exact h1, h2, h3⟩
    cases hp : (sq m t)[t]? with
    | none =>
      have e : sq m (t + 1) = sq m t := by rw [sq, hp]
      have hn : (sq m t).length <= t := List.getElem?_eq_none_iff.1 hp
      exact ⟨fun p hp' => by rw [e, List.getElem?_eq_none (by omega)] at hp'; exact (nomatch hp'), by rw [e]; exact ih.all, hf⟩
    | some p =>
      have e : sq m (t + 1) = sstep m p (sq m t) m.s := by rw [sq, hp]
      have hr : Rise p.2.length (sq m (t + 1)) := by rw [e]; exact sstep_rise (ih.rise p hp) rfl _
      refine ⟨fun q hq => ⟨hr.up, fun a ha => ?_⟩, ⟨_, hr⟩, hf⟩
      have hp' : (sq m (t + 1))[t]? = some p := by rw [e]; exact sstep_at m p hp _
      have h1 := hr.up t (t + 1) p q (by omega) hp' hq
      have := hr.most a ha
      omega
theorem sq_closed (m : Ma) : ∀ t, t <= (sq m t).length -> Closed m t (sq m t) := by
  intro t
  induction t with
  | zero => intro _ u hu; omega
  | succ t ih =>
    intro ht
    cases hp : (sq m t)[t]? with
    | none =>
      have e : sq m (t + 1) = sq m t := by rw [sq, hp]
      have hn : (sq m t).length <= t := List.getElem?_eq_none_iff.1 hp
      rw [e] at ht; omega
    | some p =>
      have e : sq m (t + 1) = sstep m p (sq m t) m.s := by rw [sq, hp]
      have htl := getElem?_lt hp
      obtain ⟨f, hf⟩ := sstep_pre m p (sq m t) m.s
      intro u hu q hq c hc
      by_cases hut : u = t
      · subst hut
        have hq' : (sq m (u + 1))[u]? = some p := by rw [e]; exact sstep_at m p hp _
        rw [hq'] at hq
        cases hq
        rw [e]
        exact sstep_close ((sq_going m u).rise p hp) rfl m.s c hc
      · rw [e, hf] at hq ⊢
        exact (ih (by omega)).pre (by omega) f u (by omega) q hq c hc
theorem sans_is {m : Ma} (hm : m.Fine) : ∀ (k t : Nat), m.n + 1 - t = k -> t <= m.n + 1 -> (∀ (u : Nat) (p : Nat × List Int), u < t -> (sq m t)[u]? = some p -> m.e p.1 = false) -> t <= (sq m t).length ->
    (∃ (t' : Nat) (p : Nat × List Int), (sq m t')[t']? = some p ∧ m.e p.1 = true ∧ sans m k t = (p.2, true) ∧ ∀ (u : Nat) (q : Nat × List Int), u < t' -> (sq m t')[u]? = some q -> m.e q.1 = false) ∨
    (∃ t' : Nat, (sq m t').length = t' ∧ sans m k t = ([], false) ∧ ∀ (u : Nat) (q : Nat × List Int), (sq m t')[u]? = some q -> m.e q.1 = false) := by
  intro k
  induction k with
  | zero =>
    intro t hk ht hb hl
    have := (sq_ok hm t).size
    omega
  | succ k ih =>
    intro t hk ht hb hl
    rw [sans]
    split
    · rename_i p hp
      split
      · rename_i he
        exact .inl ⟨t, p, hp, he, rfl, fun u q hu hq => hb u q hu hq⟩
      · rename_i he
        have e : sq m (t + 1) = sstep m p (sq m t) m.s := by rw [sq, hp]
        have htl := getElem?_lt hp
        obtain ⟨f, hf⟩ := sq_pre1 m t
        refine ih (t + 1) (by omega) (by omega) (fun u q hu hq => ?_) (by rw [hf]; simp; omega)
        rw [hf] at hq
        by_cases hut : u = t
        · subst hut
          rw [List.getElem?_append_left htl, hp] at hq
          cases hq
          simpa using he
        · rw [List.getElem?_append_left (by omega)] at hq
          exact hb u q (by omega) hq
    · rename_i hp
      have hn : (sq m t).length <= t := List.getElem?_eq_none_iff.1 hp
      refine .inr ⟨t, by omega, rfl, fun u q hq => ?_⟩
      have := getElem?_lt hq
      exact hb u q (by omega) hq
theorem met {m : Ma} {t : Nat} {qs : Sq} (hc : Closed m t qs) : ∀ (w : List Int) (j : Nat) (p : Nat × List Int) (B : Nat), qs[j]? = some p -> p.2.length + w.length <= B -> (∀ (u : Nat) (q : Nat × List Int), qs[u]? = some q -> q.2.length <= B -> u < t) -> (∀ (u : Nat) (q : Nat × List Int), u < t -> qs[u]? = some q -> m.e q.1 = false) -> runB m p.1 w = false := by
  intro w
  induction w with
  | nil =>
    intro j p B hj hl hu he
    exact he j p (hu j p hj (by simpa using hl)) hj
  | cons n w ih =>
    intro j p B hj hl hu he
    rw [runB]
    split
    · rfl
    · rename_i hn
      have hl : p.2.length + (w.length + 1) <= B := hl
      obtain ⟨i, q, h1, h2, h3⟩ := hc j (hu j p hj (by omega)) p hj (n - 1).toNat (by omega)
      rw [<- h2]
      exact ih i q B h1 (by omega) hu he
theorem sans_word {m : Ma} (hm : m.Fine) : ((sans m (m.n + 1) 0).2 = true -> runB m 0 (sans m (m.n + 1) 0).1 = true) ∧
    (∀ w, runB m 0 w = true -> (sans m (m.n + 1) 0).2 = true ∧ (sans m (m.n + 1) 0).1.length <= w.length) := by
  rcases sans_is hm (m.n + 1) 0 (by omega) (by omega) (fun u p hu => by omega) (by omega) with ⟨t, p, h1, h2, h3, h4⟩ | ⟨t, h1, h2, h3⟩
  · rw [h3]
    have hlead := sq_lead m t p (List.mem_of_getElem? h1) []
    rw [List.append_nil] at hlead
    refine ⟨fun _ => by rw [hlead]; exact h2, fun w hw => ⟨rfl, ?_⟩⟩
    show p.2.length <= w.length
    have htl := getElem?_lt h1
    rcases Nat.lt_or_ge w.length p.2.length with hlt | hge
    · exfalso
      obtain ⟨q, f1, f2, f3⟩ := (sq_going m t).first
      have hr := (sq_going m t).rise p h1
      have := met (sq_closed m t (by omega)) w 0 q w.length f1 (by rw [f3]; simp) (fun u x hx hl => by
        rcases Nat.lt_or_ge u t with h | h
        · exact h
        · have := hr.up t u p x h h1 hx
          omega) h4
      rw [f2, hw] at this
      cases this
    · exact hge
  · rw [h2]
    refine ⟨fun h => (nomatch h), fun w hw => ?_⟩
    exfalso
    obtain ⟨q, f1, f2, f3⟩ := (sq_going m t).first
    have := met (sq_closed m t (by omega)) w 0 q w.length f1 (by rw [f3]; simp) (fun u x hx hl => by have := getElem?_lt hx; omega) (fun u q _ hq => h3 u q hq)
    rw [f2, hw] at this
    cases this
end Go.Proofs.Dfa
/-
  Two machines at once.
-/
namespace Go.Proofs.Dfa
open Go Go.Ab Go.ChangeShapes
set_option linter.unusedVariables false
set_option linter.unusedSimpArgs false
set_option maxRecDepth 100000
section
variable {a b : Ma}
def suP (a b : Ma) (p : Nat × Nat) : List (Nat × Nat) := (List.range a.s).map fun c => (a.to p.1 c, b.to p.2 c)
theorem suP_len (a b : Ma) (p : Nat × Nat) : (suP a b p).length = a.s := by simp [suP]
theorem suP_get {a b : Ma} {p : Nat × Nat} {c : Nat} (h : c < (suP a b p).length) : (suP a b p)[c] = (a.to p.1 c, b.to p.2 c) := by simp [suP]
def okP (a b : Ma) (p : Nat × Nat) : Prop := p.1 < a.n ∧ p.2 < b.n
theorem suP_ok (ha : a.Fine) (hb : b.Fine) (hs : a.s = b.s) : ∀ p, okP a b p -> ∀ y ∈ suP a b p, okP a b y := by
  rintro p hp y hy
  obtain ⟨c, hc, rfl⟩ := List.mem_map.1 hy
  have hc := List.mem_range.1 hc
  exact ⟨ha.ok _ c hp.1 hc, hb.ok _ c hp.2 (by omega)⟩
def endP (a b : Ma) (less : Bool) (p : Nat × Nat) : Bool := a.e p.1 && !(b.e p.2 == less)
def OutJ (a b : Ma) (less : Bool) (small : Dfa -> Option Dfa) (r : Dfa × Int) : Prop :=
  (Many (suP a b) (0, 0) 256 ∧ r = (⟨0, [], []⟩, 44)) ∨
  (∃ T w, (turns (suP a b) (0, 0) T).length = T ∧ T <= 256 ∧ small (outD a.s (suP a b) (0, 0) (endP a b less) T) = some w ∧ r = (w, 0))
def idxP (A : List (Nat × Nat)) (y : Nat × Nat) : Nat := @List.idxOf _ instBEqOfDecidableEq y A
end
end Go.Proofs.Dfa
/-
  The program's two machines at once.
-/
namespace Go.Proofs.Dfa
open Go Go.Ab Go.ChangeShapes
set_option linter.unusedVariables false
set_option linter.unusedSimpArgs false
set_option maxRecDepth 100000
def asP (p : Nat × Nat) : dfa_pair := ⟨(p.1 : Int), (p.2 : Int)⟩
theorem asP_inj {p q : Nat × Nat} (h : asP p = asP q) : p = q := by
  obtain ⟨p1, p2⟩ := p
  obtain ⟨q1, q2⟩ := q
  simp only [asP, dfa_pair.mk.injEq] at h
  congr 1 <;> omega
def asPs (l : List (Nat × Nat)) : List dfa_pair := l.map asP
theorem asPs_len (l : List (Nat × Nat)) : (asPs l).length = l.length := by simp [asPs]
theorem asPs_get {l : List (Nat × Nat)} {i : Nat} {x : Nat × Nat} (h : l[i]? = some x) : (asPs l)[(0 : Nat) + (i : Int).toNat]? = some (asP x) := by simp [asPs, h]
theorem asPs_mem {l : List (Nat × Nat)} {y : Nat × Nat} : asP y ∈ asPs l ↔ y ∈ l := by
  constructor
  · intro h
    obtain ⟨z, hz, e⟩ := List.mem_map.1 h
    rw [<- asP_inj e]; exact hz
  · exact fun h => List.mem_map.2 ⟨y, h, rfl⟩
theorem asPs_idx (l : List (Nat × Nat)) (y : Nat × Nat) : (asPs l).idxOf (asP y) = idxP l y := idxOf_map (φ := asP) (l := l) (x := y) fun z _ h => asP_inj h
theorem plcP_has {A : List (Nat × Nat)} {y : Nat × Nat} (h : y ∈ A) : mhas (plcG 0 (asPs A)) (asP y) = true ∧ mget (plcG 0 (asPs A)) (asP y) = some ((idxP A y : Nat) : Int) := by
  have := plcG_has (asPs_mem.2 h)
  rw [asPs_idx] at this
  exact this
theorem plcP_new {A : List (Nat × Nat)} {y : Nat × Nat} (h : y ∉ A) : mhas (plcG 0 (asPs A)) (asP y) = false ∧ mset (plcG 0 (asPs A)) (asP y) (A.length : Int) = plcG 0 (asPs (A ++ [y])) := by
  have := plcG_new (fun h' => h (asPs_mem.1 h'))
  rw [asPs_len] at this
  refine ⟨this.1, this.2.trans ?_⟩
  simp [asPs]
section
variable {a b : Ma}
def k330 (a b : Ma) (t : Nat) : L33 := .h0 a.dfa b.dfa (t : Int) ((List.range t).map (turnRow (suP a b) (0, 0))) (asPs (turns (suP a b) (0, 0) t)) (plcG 0 (asPs (turns (suP a b) (0, 0) t)))
def k331 (a b : Ma) (t c : Nat) : L33 := .h1 a.dfa b.dfa (c : Int) ((turnRow (suP a b) (0, 0) t).take c ++ List.replicate (a.s - c) 0) (asPs (mid (suP a b) (0, 0) t c)) (plcG 0 (asPs (mid (suP a b) (0, 0) t c))) (t : Int) ((List.range t).map (turnRow (suP a b) (0, 0)))
theorem inner33 (ha : a.Fine) (hb : b.Fine) (hs : a.s = b.s) {t : Nat} (ht : t < (turns (suP a b) (0, 0) t).length) (ht2 : t <= 256) {out : Dfa × Int -> Prop} (hmany : Many (suP a b) (0, 0) 256 -> out (⟨0, [], []⟩, 44))
    (ih : (turns (suP a b) (0, 0) (t + 1)).length <= 256 -> ∃ r, loopO g33 (k330 a b (t + 1)) = some r ∧ out r) :
    ∀ (k c : Nat), a.s - c = k -> c <= a.s -> (mid (suP a b) (0, 0) t c).length <= 256 -> ∃ r, loopO g33 (k331 a b t c) = some r ∧ out r := by
  have hs1 := ha.s1
  have hs2 := ha.s2
  have hn1 := ha.n1
  have hn1' := hb.n1
  have hsl := suP_len a b
  have htl := turnRow_len (su := suP a b) (x0 := (0, 0)) ht
  rw [hsl] at htl
  have hx := turns_in (p := okP a b) (show okP a b (0, 0) from ⟨hn1, hn1'⟩) (suP_ok ha hb hs) t _ (List.getElem_mem ht)
  have hrl : ∀ c, c <= a.s -> ((turnRow (suP a b) (0, 0) t).take c ++ List.replicate (a.s - c) (0 : Int)).length = a.s := fun c hc => by simp; omega
  intro k
  induction k with
  | zero =>
    intro c hk hc hm
    have : c = a.s := by omega
    subst this
    have hend := mid_end ht (c := a.s) (by rw [hsl]; omega)
    rw [hend] at hm
    obtain ⟨r, hr, hout⟩ := ih hm
    have hrow : (turnRow (suP a b) (0, 0) t).take a.s ++ List.replicate (a.s - a.s) (0 : Int) = turnRow (suP a b) (0, 0) t := by
      rw [Nat.sub_self, List.replicate_zero, List.append_nil]; exact List.take_of_length_le (by omega)
    refine ⟨r, loopO_inl (s' := k330 a b (t + 1)) ?_ hr, hout⟩
    unfold k331 k330
    rw [hrow, <- rows_next, hend]
    unfold g33
    rw [opt_f (by rw [a.sw]; simp), opt_chk (by exact ⟨by omega, by rw [Nat.zero_add]; exact Nat.le_refl _⟩), opt_chk (by simp), opt_chk (by simp; omega), opt_chk (by trivial), opt_chk (by trivial), opt_ret, wsucc (by omega)]
    simp only [List.drop_zero, List.take_length]
    rfl
  | succ k ihc =>
    intro c hk hc hm
    have hlt : c < a.s := by omega
    have hml := (mid_len ht c).1
    have hcs : c < (suP a b (turns (suP a b) (0, 0) t)[t]).length := by rw [hsl]; exact hlt
    have hy := suP_get hcs
    have hms := mid_succ ht hcs
    have hrow := turnRow_get ht hcs
    have hmg := mid_get ht c
    rw [hy] at hms hrow
    have hihc := ihc (c + 1) (by omega) (by omega)
    have hcl := asPs_len (mid (suP a b) (0, 0) t c)
    obtain ⟨x1, x2⟩ := hx
    generalize (turns (suP a b) (0, 0) t)[t] = x at x1 x2 hms hrow hmg
    have hget := asPs_get hmg
    have hlt' : c < b.s := by omega
    have hrlc := hrl c hc
    have hcr : ((turnRow (suP a b) (0, 0) t).take c ++ List.replicate (a.s - c) (0 : Int))[(0 : Nat) + (c : Int).toNat]? = some (((turnRow (suP a b) (0, 0) t).take c ++ List.replicate (a.s - c) (0 : Int))[c]'(by rw [hrlc]; omega)) := by
      rw [Nat.zero_add, Int.toNat_natCast, List.getElem?_eq_getElem]
    have hsr := set_row htl hlt hrow
    have hz : (0 : Nat) + (c : Int).toNat = c := by simp
    have hyp : ({ a := ((a.to x.1 c : Nat) : Int), b := ((b.to x.2 c : Nat) : Int) } : dfa_pair) = asP (a.to x.1 c, b.to x.2 c) := rfl
    have hxa : (asP x).a = ((x.1 : Nat) : Int) := rfl
    have hxb : (asP x).b = ((x.2 : Nat) : Int) := rfl
    generalize hyy : (a.to x.1 c, b.to x.2 c) = y at hms hrow hsr hyp
    by_cases hin : y ∈ mid (suP a b) (0, 0) t c
    · rw [if_pos hin] at hms
      obtain ⟨p1, p2⟩ := plcP_has hin
      obtain ⟨r, hr, hout⟩ := hihc (by rw [hms]; exact hm)
      refine ⟨r, loopO_inl ?_ hr, hout⟩
      rw [hms] at hsr
      have hsr' : ((turnRow (suP a b) (0, 0) t).take c ++ List.replicate (a.s - c) (0 : Int)).set c ((idxP (mid (suP a b) (0, 0) t c) y : Nat) : Int) = (turnRow (suP a b) (0, 0) t).take (c + 1) ++ List.replicate (a.s - (c + 1)) 0 := hsr
      unfold k331 g33
      rw [opt_t (by rw [a.sw]; simpa using hlt), opt_chk (by rw [hcl]; omega), opt_get hget, hxa, hxb, opt_chk (by omega), opt_get (Ma.next_get x1), wminus (by omega), opt_chk (by omega), opt_get (Ma.row_get _ hlt), opt_chk (by omega), opt_get (Ma.next_get x2), opt_chk (by omega), opt_get (Ma.row_get _ hlt'), hyp, opt_t p1, opt_get p2, opt_chk (by rw [hrlc]; omega), opt_get hcr, opt_chk (by simp), opt_chk (by trivial), opt_ret, wsucc (by omega), hz, hsr', hms]
    · rw [if_neg hin] at hms
      obtain ⟨p1, p2⟩ := plcP_new hin
      by_cases h256 : (mid (suP a b) (0, 0) t c).length = 256
      · refine ⟨(⟨0, [], []⟩, 44), loopO_inr ?_, hmany ⟨t + 1, ?_⟩⟩
        · unfold k331 g33
          rw [opt_t (by rw [a.sw]; simpa using hlt), opt_chk (by rw [hcl]; omega), opt_get hget, hxa, hxb, opt_chk (by omega), opt_get (Ma.next_get x1), wminus (by omega), opt_chk (by omega), opt_get (Ma.row_get _ hlt), opt_chk (by omega), opt_get (Ma.next_get x2), opt_chk (by omega), opt_get (Ma.row_get _ hlt'), hyp, opt_f p1, opt_t (by rw [hcl, h256]; rfl), opt_ret]
        · have := (mid_len ht (c + 1)).2
          rw [hms] at this
          simp at this
          omega
      · obtain ⟨r, hr, hout⟩ := hihc (by rw [hms]; simp; omega)
        refine ⟨r, loopO_inl ?_ hr, hout⟩
        have hnew : @List.idxOf _ instBEqOfDecidableEq y (mid (suP a b) (0, 0) t c ++ [y]) = (mid (suP a b) (0, 0) t c).length := idxOf_new hin
        rw [hms, hnew] at hsr
        unfold k331 g33
        rw [opt_t (by rw [a.sw]; simpa using hlt), opt_chk (by rw [hcl]; omega), opt_get hget, hxa, hxb, opt_chk (by omega), opt_get (Ma.next_get x1), wminus (by omega), opt_chk (by omega), opt_get (Ma.row_get _ hlt), opt_chk (by omega), opt_get (Ma.next_get x2), opt_chk (by omega), opt_get (Ma.row_get _ hlt'), hyp, opt_f p1, opt_f (by rw [hcl]; simp; omega), opt_chk (by simp), opt_chk (by simp [hcl]; omega), opt_chk (by rw [hrlc]; omega), opt_get hcr, opt_chk (by simp), opt_chk (by trivial), opt_ret, wsucc (by omega), hz, hcl, hsr, p2, hms]
        simp [asPs]
theorem ends33 (ha : a.Fine) (hb : b.Fine) (A : List (Nat × Nat)) (hA : ∀ p ∈ A, okP a b p) (hl : A.length <= 256) (rows : List (List Int)) (r : Option (Dfa × Int))
    (hr : loopO g33 (.h2 a.dfa b.dfa (A.length : Int) (A.map (endP a b false)) (A.length : Int) rows (asPs A)) = r) :
    ∀ (k i : Nat), A.length - i = k -> i <= A.length -> loopO g33 (.h2 a.dfa b.dfa (i : Int) ((A.take i).map (endP a b false)) (A.length : Int) rows (asPs A)) = r := by
  have hcl := asPs_len A
  intro k
  induction k with
  | zero =>
    intro i hk hi
    have : i = A.length := by omega
    subst this
    rw [List.take_length]; exact hr
  | succ k ih =>
    intro i hk hi
    have hlt : i < A.length := by omega
    have hx := hA _ (List.getElem_mem hlt)
    have hget := asPs_get (l := A) (i := i) (x := A[i]) (by simp [hlt])
    have hih := ih (i + 1) (by omega) (by omega)
    rw [List.take_succ_eq_append_getElem hlt, List.map_append] at hih
    generalize A[i] = x at hx hget hih
    obtain ⟨x1, x2⟩ := hx
    have hxa : (asP x).a = ((x.1 : Nat) : Int) := rfl
    have hxb : (asP x).b = ((x.2 : Nat) : Int) := rfl
    refine loopO_inl ?_ hih
    unfold g33
    rw [opt_t (by simpa using hlt), opt_chk (by rw [hcl]; omega), opt_get hget, hxa, hxb, opt_chk (by omega), opt_get (Ma.ends_get x1)]
    cases he : a.e x.1 with
    | true =>
      rw [opt_t rfl, opt_chk (by omega), opt_get (Ma.ends_get x2), opt_chk (by simp), opt_chk (by simp; omega), opt_chk (by trivial), opt_chk (by trivial), opt_ret, wsucc (by omega)]
      simp only [List.drop_zero, endP, he, Bool.true_and, List.map_singleton]
      cases b.e x.2 <;> rfl
    | false =>
      rw [opt_f rfl, opt_chk (by simp), opt_chk (by simp; omega), opt_chk (by trivial), opt_chk (by trivial), opt_ret, wsucc (by omega)]
      simp only [List.drop_zero, endP, he, Bool.false_and, List.map_singleton]
      rfl
theorem outer33 (ha : a.Fine) (hb : b.Fine) (hs : a.s = b.s) (hsmall : ∀ T, (turns (suP a b) (0, 0) T).length = T -> T <= 256 -> ∃ w, f28 (outD a.s (suP a b) (0, 0) (endP a b false) T) = some w) :
    ∀ (k t : Nat), 257 - t = k -> t <= (turns (suP a b) (0, 0) t).length -> (turns (suP a b) (0, 0) t).length <= 256 -> ∃ r, loopO g33 (k330 a b t) = some r ∧ OutJ a b false f28 r := by
  have hs1 := ha.s1
  have hs2 := ha.s2
  intro k
  induction k with
  | zero => intro t hk h1 h2; omega
  | succ k ih =>
    intro t hk h1 h2
    have hcl := asPs_len (turns (suP a b) (0, 0) t)
    rcases Nat.lt_or_ge t (turns (suP a b) (0, 0) t).length with hlt | hge
    · have hm0 : mid (suP a b) (0, 0) t 0 = turns (suP a b) (0, 0) t := mid_zero
      obtain ⟨r, hr, hout⟩ := inner33 ha hb hs hlt (by omega) (out := OutJ a b false f28) (fun h => .inl ⟨h, rfl⟩) (fun h => ih (t + 1) (by omega) (by have := turns_len (su := suP a b) (x0 := (0, 0)) t; omega) h) a.s 0 rfl (by omega) (by rw [hm0]; exact h2)
      refine ⟨r, loopO_inl (s' := k331 a b t 0) ?_ hr, hout⟩
      unfold k330 k331 g33
      rw [opt_t (by rw [hcl]; simpa using hlt), opt_chk (by rw [a.sw]; refine ⟨by omega, by omega, ?_⟩; simp; omega), opt_chk (by trivial), opt_chk (by trivial), opt_ret, hm0, a.sw]
      simp
    · have hT : (turns (suP a b) (0, 0) t).length = t := by omega
      obtain ⟨w, hw⟩ := hsmall t hT (by omega)
      refine ⟨(w, 0), ?_, .inr ⟨t, w, hT, by omega, hw, rfl⟩⟩
      have hA := turns_in (p := okP a b) (show okP a b (0, 0) from ⟨ha.n1, hb.n1⟩) (suP_ok ha hb hs) t
      have he := ends33 ha hb (turns (suP a b) (0, 0) t) hA h2 ((List.range t).map (turnRow (suP a b) (0, 0))) (some (w, 0)) (by
        refine loopO_inr ?_
        unfold g33
        rw [opt_f (by simp), opt_chk (by exact ⟨by omega, by rw [Nat.zero_add]; exact Nat.le_refl _⟩), opt_chk (by exact ⟨by omega, by rw [Nat.zero_add]; exact Nat.le_refl _⟩)]
        simp only [List.drop_zero, List.take_length]
        have hw' : f28 { Switches := a.dfa.Switches, Next := List.map (turnRow (suP a b) (0, 0)) (List.range t), Ends := List.map (endP a b false) (turns (suP a b) (0, 0) t) } = some w := hw
        rw [opt_get hw', opt_ret]) _ 0 rfl (by omega)
      refine loopO_inl ?_ he
      unfold k330 g33
      rw [opt_f (by rw [hcl]; simp; omega), opt_chk (by trivial), opt_chk (by rfl), opt_ret, hcl]
      rfl
def k350 (a b : Ma) (t : Nat) : L35 := .h0 a.dfa b.dfa (t : Int) ((List.range t).map (turnRow (suP a b) (0, 0))) (asPs (turns (suP a b) (0, 0) t)) (plcG 0 (asPs (turns (suP a b) (0, 0) t)))
def k351 (a b : Ma) (t c : Nat) : L35 := .h1 a.dfa b.dfa (c : Int) ((turnRow (suP a b) (0, 0) t).take c ++ List.replicate (a.s - c) 0) (asPs (mid (suP a b) (0, 0) t c)) (plcG 0 (asPs (mid (suP a b) (0, 0) t c))) (t : Int) ((List.range t).map (turnRow (suP a b) (0, 0)))
theorem inner35 (ha : a.Fine) (hb : b.Fine) (hs : a.s = b.s) {t : Nat} (ht : t < (turns (suP a b) (0, 0) t).length) (ht2 : t <= 256) {out : Dfa × Int -> Prop} (hmany : Many (suP a b) (0, 0) 256 -> out (⟨0, [], []⟩, 44))
    (ih : (turns (suP a b) (0, 0) (t + 1)).length <= 256 -> ∃ r, loopO g35 (k350 a b (t + 1)) = some r ∧ out r) :
    ∀ (k c : Nat), a.s - c = k -> c <= a.s -> (mid (suP a b) (0, 0) t c).length <= 256 -> ∃ r, loopO g35 (k351 a b t c) = some r ∧ out r := by
  have hs1 := ha.s1
  have hs2 := ha.s2
  have hn1 := ha.n1
  have hn1' := hb.n1
  have hsl := suP_len a b
  have htl := turnRow_len (su := suP a b) (x0 := (0, 0)) ht
  rw [hsl] at htl
  have hx := turns_in (p := okP a b) (show okP a b (0, 0) from ⟨hn1, hn1'⟩) (suP_ok ha hb hs) t _ (List.getElem_mem ht)
  have hrl : ∀ c, c <= a.s -> ((turnRow (suP a b) (0, 0) t).take c ++ List.replicate (a.s - c) (0 : Int)).length = a.s := fun c hc => by simp; omega
  intro k
  induction k with
  | zero =>
    intro c hk hc hm
    have : c = a.s := by omega
    subst this
    have hend := mid_end ht (c := a.s) (by rw [hsl]; omega)
    rw [hend] at hm
    obtain ⟨r, hr, hout⟩ := ih hm
    have hrow : (turnRow (suP a b) (0, 0) t).take a.s ++ List.replicate (a.s - a.s) (0 : Int) = turnRow (suP a b) (0, 0) t := by
      rw [Nat.sub_self, List.replicate_zero, List.append_nil]; exact List.take_of_length_le (by omega)
    refine ⟨r, loopO_inl (s' := k350 a b (t + 1)) ?_ hr, hout⟩
    unfold k351 k350
    rw [hrow, <- rows_next, hend]
    unfold g35
    rw [opt_f (by rw [a.sw]; simp), opt_chk (by exact ⟨by omega, by rw [Nat.zero_add]; exact Nat.le_refl _⟩), opt_chk (by simp), opt_chk (by simp; omega), opt_chk (by trivial), opt_chk (by trivial), opt_ret, wsucc (by omega)]
    simp only [List.drop_zero, List.take_length]
    rfl
  | succ k ihc =>
    intro c hk hc hm
    have hlt : c < a.s := by omega
    have hml := (mid_len ht c).1
    have hcs : c < (suP a b (turns (suP a b) (0, 0) t)[t]).length := by rw [hsl]; exact hlt
    have hy := suP_get hcs
    have hms := mid_succ ht hcs
    have hrow := turnRow_get ht hcs
    have hmg := mid_get ht c
    rw [hy] at hms hrow
    have hihc := ihc (c + 1) (by omega) (by omega)
    have hcl := asPs_len (mid (suP a b) (0, 0) t c)
    obtain ⟨x1, x2⟩ := hx
    generalize (turns (suP a b) (0, 0) t)[t] = x at x1 x2 hms hrow hmg
    have hget := asPs_get hmg
    have hlt' : c < b.s := by omega
    have hrlc := hrl c hc
    have hcr : ((turnRow (suP a b) (0, 0) t).take c ++ List.replicate (a.s - c) (0 : Int))[(0 : Nat) + (c : Int).toNat]? = some (((turnRow (suP a b) (0, 0) t).take c ++ List.replicate (a.s - c) (0 : Int))[c]'(by rw [hrlc]; omega)) := by
      rw [Nat.zero_add, Int.toNat_natCast, List.getElem?_eq_getElem]
    have hsr := set_row htl hlt hrow
    have hz : (0 : Nat) + (c : Int).toNat = c := by simp
    have hyp : ({ a := ((a.to x.1 c : Nat) : Int), b := ((b.to x.2 c : Nat) : Int) } : dfa_pair) = asP (a.to x.1 c, b.to x.2 c) := rfl
    have hxa : (asP x).a = ((x.1 : Nat) : Int) := rfl
    have hxb : (asP x).b = ((x.2 : Nat) : Int) := rfl
    generalize hyy : (a.to x.1 c, b.to x.2 c) = y at hms hrow hsr hyp
    by_cases hin : y ∈ mid (suP a b) (0, 0) t c
    · rw [if_pos hin] at hms
      obtain ⟨p1, p2⟩ := plcP_has hin
      obtain ⟨r, hr, hout⟩ := hihc (by rw [hms]; exact hm)
      refine ⟨r, loopO_inl ?_ hr, hout⟩
      rw [hms] at hsr
      have hsr' : ((turnRow (suP a b) (0, 0) t).take c ++ List.replicate (a.s - c) (0 : Int)).set c ((idxP (mid (suP a b) (0, 0) t c) y : Nat) : Int) = (turnRow (suP a b) (0, 0) t).take (c + 1) ++ List.replicate (a.s - (c + 1)) 0 := hsr
      unfold k351 g35
      rw [opt_t (by rw [a.sw]; simpa using hlt), opt_chk (by rw [hcl]; omega), opt_get hget, hxa, hxb, opt_chk (by omega), opt_get (Ma.next_get x1), wminus (by omega), opt_chk (by omega), opt_get (Ma.row_get _ hlt), opt_chk (by omega), opt_get (Ma.next_get x2), opt_chk (by omega), opt_get (Ma.row_get _ hlt'), hyp, opt_t p1, opt_get p2, opt_chk (by rw [hrlc]; omega), opt_get hcr, opt_chk (by simp), opt_chk (by trivial), opt_ret, wsucc (by omega), hz, hsr', hms]
    · rw [if_neg hin] at hms
      obtain ⟨p1, p2⟩ := plcP_new hin
      by_cases h256 : (mid (suP a b) (0, 0) t c).length = 256
      · refine ⟨(⟨0, [], []⟩, 44), loopO_inr ?_, hmany ⟨t + 1, ?_⟩⟩
        · unfold k351 g35
          rw [opt_t (by rw [a.sw]; simpa using hlt), opt_chk (by rw [hcl]; omega), opt_get hget, hxa, hxb, opt_chk (by omega), opt_get (Ma.next_get x1), wminus (by omega), opt_chk (by omega), opt_get (Ma.row_get _ hlt), opt_chk (by omega), opt_get (Ma.next_get x2), opt_chk (by omega), opt_get (Ma.row_get _ hlt'), hyp, opt_f p1, opt_t (by rw [hcl, h256]; rfl), opt_ret]
        · have := (mid_len ht (c + 1)).2
          rw [hms] at this
          simp at this
          omega
      · obtain ⟨r, hr, hout⟩ := hihc (by rw [hms]; simp; omega)
        refine ⟨r, loopO_inl ?_ hr, hout⟩
        have hnew : @List.idxOf _ instBEqOfDecidableEq y (mid (suP a b) (0, 0) t c ++ [y]) = (mid (suP a b) (0, 0) t c).length := idxOf_new hin
        rw [hms, hnew] at hsr
        unfold k351 g35
        rw [opt_t (by rw [a.sw]; simpa using hlt), opt_chk (by rw [hcl]; omega), opt_get hget, hxa, hxb, opt_chk (by omega), opt_get (Ma.next_get x1), wminus (by omega), opt_chk (by omega), opt_get (Ma.row_get _ hlt), opt_chk (by omega), opt_get (Ma.next_get x2), opt_chk (by omega), opt_get (Ma.row_get _ hlt'), hyp, opt_f p1, opt_f (by rw [hcl]; simp; omega), opt_chk (by simp), opt_chk (by simp [hcl]; omega), opt_chk (by rw [hrlc]; omega), opt_get hcr, opt_chk (by simp), opt_chk (by trivial), opt_ret, wsucc (by omega), hz, hcl, hsr, p2, hms]
        simp [asPs]
theorem ends35 (ha : a.Fine) (hb : b.Fine) (A : List (Nat × Nat)) (hA : ∀ p ∈ A, okP a b p) (hl : A.length <= 256) (rows : List (List Int)) (r : Option (Dfa × Int))
    (hr : loopO g35 (.h2 a.dfa b.dfa (A.length : Int) (A.map (endP a b true)) (A.length : Int) rows (asPs A)) = r) :
    ∀ (k i : Nat), A.length - i = k -> i <= A.length -> loopO g35 (.h2 a.dfa b.dfa (i : Int) ((A.take i).map (endP a b true)) (A.length : Int) rows (asPs A)) = r := by
  have hcl := asPs_len A
  intro k
  induction k with
  | zero =>
    intro i hk hi
    have : i = A.length := by omega
    subst this
    rw [List.take_length]; exact hr
  | succ k ih =>
    intro i hk hi
    have hlt : i < A.length := by omega
    have hx := hA _ (List.getElem_mem hlt)
    have hget := asPs_get (l := A) (i := i) (x := A[i]) (by simp [hlt])
    have hih := ih (i + 1) (by omega) (by omega)
    rw [List.take_succ_eq_append_getElem hlt, List.map_append] at hih
    generalize A[i] = x at hx hget hih
    obtain ⟨x1, x2⟩ := hx
    have hxa : (asP x).a = ((x.1 : Nat) : Int) := rfl
    have hxb : (asP x).b = ((x.2 : Nat) : Int) := rfl
    refine loopO_inl ?_ hih
    unfold g35
    rw [opt_t (by simpa using hlt), opt_chk (by rw [hcl]; omega), opt_get hget, hxa, hxb, opt_chk (by omega), opt_get (Ma.ends_get x1)]
    cases he : a.e x.1 with
    | true =>
      rw [opt_t rfl, opt_chk (by omega), opt_get (Ma.ends_get x2), opt_chk (by simp), opt_chk (by simp; omega), opt_chk (by trivial), opt_chk (by trivial), opt_ret, wsucc (by omega)]
      simp only [List.drop_zero, endP, he, Bool.true_and, List.map_singleton]
      cases b.e x.2 <;> rfl
    | false =>
      rw [opt_f rfl, opt_chk (by simp), opt_chk (by simp; omega), opt_chk (by trivial), opt_chk (by trivial), opt_ret, wsucc (by omega)]
      simp only [List.drop_zero, endP, he, Bool.false_and, List.map_singleton]
      rfl
theorem outer35 (ha : a.Fine) (hb : b.Fine) (hs : a.s = b.s) (hsmall : ∀ T, (turns (suP a b) (0, 0) T).length = T -> T <= 256 -> ∃ w, f28 (outD a.s (suP a b) (0, 0) (endP a b true) T) = some w) :
    ∀ (k t : Nat), 257 - t = k -> t <= (turns (suP a b) (0, 0) t).length -> (turns (suP a b) (0, 0) t).length <= 256 -> ∃ r, loopO g35 (k350 a b t) = some r ∧ OutJ a b true f28 r := by
  have hs1 := ha.s1
  have hs2 := ha.s2
  intro k
  induction k with
  | zero => intro t hk h1 h2; omega
  | succ k ih =>
    intro t hk h1 h2
    have hcl := asPs_len (turns (suP a b) (0, 0) t)
    rcases Nat.lt_or_ge t (turns (suP a b) (0, 0) t).length with hlt | hge
    · have hm0 : mid (suP a b) (0, 0) t 0 = turns (suP a b) (0, 0) t := mid_zero
      obtain ⟨r, hr, hout⟩ := inner35 ha hb hs hlt (by omega) (out := OutJ a b true f28) (fun h => .inl ⟨h, rfl⟩) (fun h => ih (t + 1) (by omega) (by have := turns_len (su := suP a b) (x0 := (0, 0)) t; omega) h) a.s 0 rfl (by omega) (by rw [hm0]; exact h2)
      refine ⟨r, loopO_inl (s' := k351 a b t 0) ?_ hr, hout⟩
      unfold k350 k351 g35
      rw [opt_t (by rw [hcl]; simpa using hlt), opt_chk (by rw [a.sw]; refine ⟨by omega, by omega, ?_⟩; simp; omega), opt_chk (by trivial), opt_chk (by trivial), opt_ret, hm0, a.sw]
      simp
    · have hT : (turns (suP a b) (0, 0) t).length = t := by omega
      obtain ⟨w, hw⟩ := hsmall t hT (by omega)
      refine ⟨(w, 0), ?_, .inr ⟨t, w, hT, by omega, hw, rfl⟩⟩
      have hA := turns_in (p := okP a b) (show okP a b (0, 0) from ⟨ha.n1, hb.n1⟩) (suP_ok ha hb hs) t
      have he := ends35 ha hb (turns (suP a b) (0, 0) t) hA h2 ((List.range t).map (turnRow (suP a b) (0, 0))) (some (w, 0)) (by
        refine loopO_inr ?_
        unfold g35
        rw [opt_f (by simp), opt_chk (by exact ⟨by omega, by rw [Nat.zero_add]; exact Nat.le_refl _⟩), opt_chk (by exact ⟨by omega, by rw [Nat.zero_add]; exact Nat.le_refl _⟩)]
        simp only [List.drop_zero, List.take_length]
        have hw' : f28 { Switches := a.dfa.Switches, Next := List.map (turnRow (suP a b) (0, 0)) (List.range t), Ends := List.map (endP a b true) (turns (suP a b) (0, 0) t) } = some w := hw
        rw [opt_get hw', opt_ret]) _ 0 rfl (by omega)
      refine loopO_inl ?_ he
      unfold k350 g35
      rw [opt_f (by rw [hcl]; simp; omega), opt_chk (by trivial), opt_chk (by rfl), opt_ret, hcl]
      rfl
end
end Go.Proofs.Dfa
/-
  What two machines are together, and whether they are the same: both say the same.
-/
namespace Go.Proofs.Dfa
open Go Go.Ab Go.ChangeShapes
set_option linter.unusedVariables false
set_option linter.unusedSimpArgs false
set_option maxRecDepth 100000
theorem joins_small {a b : Ma} (ha : a.Fine) {less : Bool} {small : Dfa -> Option Dfa} (hsm : ∀ m : Ma, m.Fine -> ∃ w, small m.dfa = some w) : ∀ T, (turns (suP a b) (0, 0) T).length = T -> T <= 256 -> ∃ w, small (outD a.s (suP a b) (0, 0) (endP a b less) T) = some w := by
  intro T t1 t2
  have hR := outD_right (e := endP a b less) (suP_len a b) ha.s1 ha.s2 t1 t2
  obtain ⟨m, hm, he⟩ := right_fine hR
  rw [he]
  exact hsm m hm
theorem sm28 : ∀ m : Ma, m.Fine -> ∃ w, f28 m.dfa = some w := fun m hm => by obtain ⟨w, h, _⟩ := small_ex hm; exact ⟨w, h⟩
theorem joined33 {a b : Ma} (ha : a.Fine) (hb : b.Fine) (hs : a.s = b.s) : ∃ r, f33 a.dfa b.dfa = some r ∧ OutJ a b false f28 r := by
  obtain ⟨r, hr, ho⟩ := outer33 ha hb hs (joins_small ha sm28) 257 0 rfl (by omega) (by simp [turns])
  refine ⟨r, ?_, ho⟩
  unfold f33
  refine runO_inl (s' := k330 a b 0) ?_ hr
  unfold s33
  rw [opt_get (right19 _ (fine_few ha)), opt_f (by rw [fine_right ha]; rfl), opt_get (right19 _ (fine_few hb)), opt_f (by rw [fine_right hb]; rfl), opt_f (by rw [a.sw, b.sw, hs]; simp), opt_chk (by rfl), opt_chk (by rfl), opt_ret]
  rfl
theorem joined35 {a b : Ma} (ha : a.Fine) (hb : b.Fine) (hs : a.s = b.s) : ∃ r, f35 a.dfa b.dfa = some r ∧ OutJ a b true f28 r := by
  obtain ⟨r, hr, ho⟩ := outer35 ha hb hs (joins_small ha sm28) 257 0 rfl (by omega) (by simp [turns])
  refine ⟨r, ?_, ho⟩
  unfold f35
  refine runO_inl (s' := k350 a b 0) ?_ hr
  unfold s35
  rw [opt_get (right19 _ (fine_few ha)), opt_f (by rw [fine_right ha]; rfl), opt_get (right19 _ (fine_few hb)), opt_f (by rw [fine_right hb]; rfl), opt_f (by rw [a.sw, b.sw, hs]; simp), opt_chk (by rfl), opt_chk (by rfl), opt_ret]
  rfl
theorem bad33 {c d : Dfa} (hc : Few c) (hd : Few d) (h : ¬ (rightB c = true ∧ rightB d = true ∧ c.Switches = d.Switches)) : f33 c d = some (⟨0, [], []⟩, 1) := by
  unfold f33
  refine runO_inr ?_
  unfold s33
  rw [opt_get (right19 _ hc)]
  cases h1 : rightB c with
  | false => rw [opt_t (by rfl), opt_ret]
  | true =>
    rw [opt_f (by rfl), opt_get (right19 _ hd)]
    cases h2 : rightB d with
    | false => rw [opt_t (by rfl), opt_ret]
    | true => rw [opt_f (by rfl), opt_t (by simp; exact fun e => h ⟨h1, h2, e⟩), opt_ret]
theorem bad35 {c d : Dfa} (hc : Few c) (hd : Few d) (h : ¬ (rightB c = true ∧ rightB d = true ∧ c.Switches = d.Switches)) : f35 c d = some (⟨0, [], []⟩, 1) := by
  unfold f35
  refine runO_inr ?_
  unfold s35
  rw [opt_get (right19 _ hc)]
  cases h1 : rightB c with
  | false => rw [opt_t (by rfl), opt_ret]
  | true =>
    rw [opt_f (by rfl), opt_get (right19 _ hd)]
    cases h2 : rightB d with
    | false => rw [opt_t (by rfl), opt_ret]
    | true => rw [opt_f (by rfl), opt_t (by simp; exact fun e => h ⟨h1, h2, e⟩), opt_ret]
end Go.Proofs.Dfa
/-
  The words of two machines together; machines of the same words have the same least machine.
-/
namespace Go.Proofs.Dfa
open Go Go.Ab Go.ChangeShapes
set_option linter.unusedVariables false
set_option linter.unusedSimpArgs false
set_option maxRecDepth 100000
section
variable {α : Type} [DecidableEq α] {s : Nat} {su : α -> List α} {x0 : α} {e : α -> Bool} {T : Nat}
noncomputable def nth (su : α -> List α) (x0 : α) (T t : Nat) : α := (turns su x0 T).getD t x0
noncomputable def maOf (s : Nat) (su : α -> List α) (x0 : α) (e : α -> Bool) (T : Nat) : Ma :=
  ⟨T, s, fun t c => (turns su x0 T).idxOf ((su (nth su x0 T t)).getD c x0), fun t => e (nth su x0 T t)⟩
theorem nth_eq (hT : (turns su x0 T).length = T) {t : Nat} (ht : t < T) : nth su x0 T t = (turns su x0 T)[t]'(by omega) := by
  unfold nth
  rw [List.getD_eq_getElem?_getD, List.getElem?_eq_getElem (by omega), Option.getD_some]
theorem nth_zero (hT : (turns su x0 T).length = T) : nth su x0 T 0 = x0 := by
  have hp := turns_pos (su := su) (x0 := x0) T
  rw [nth_eq hT (by omega)]
  obtain ⟨f, hf⟩ := turns_pre (su := su) (x0 := x0) 0 T
  simp only [Nat.zero_add] at hf
  simp only [hf]
  rfl
theorem nth_mem (hT : (turns su x0 T).length = T) {t : Nat} (ht : t < T) {y : α} (hy : y ∈ su (nth su x0 T t)) : y ∈ turns su x0 T := by
  rw [nth_eq hT ht] at hy
  have h1 := (turns_next_in hT ht hy).1
  obtain ⟨d, hd⟩ := Nat.le.dest (show t + 1 <= T by omega)
  obtain ⟨f, hf⟩ := turns_pre (su := su) (x0 := x0) (t + 1) d
  have e2 : turns su x0 T = turns su x0 (t + 1) ++ f := by rw [<- hd]; exact hf
  rw [e2]
  exact List.mem_append.2 (.inl h1)
theorem maOf_to (hsu : ∀ x, (su x).length = s) (hT : (turns su x0 T).length = T) {t c : Nat} (ht : t < T) (hc : c < s) :
    (maOf s su x0 e T).to t c < T ∧ nth su x0 T ((maOf s su x0 e T).to t c) = (su (nth su x0 T t))[c]'(by rw [hsu]; exact hc) := by
  have hcs : c < (su (nth su x0 T t)).length := by rw [hsu]; exact hc
  have he : (su (nth su x0 T t)).getD c x0 = (su (nth su x0 T t))[c] := by rw [List.getD_eq_getElem?_getD, List.getElem?_eq_getElem hcs, Option.getD_some]
  have hm := nth_mem hT ht (List.getElem_mem hcs)
  have hlt := List.idxOf_lt_length_of_mem hm
  rw [hT] at hlt
  have hto : (maOf s su x0 e T).to t c = (turns su x0 T).idxOf (su (nth su x0 T t))[c] := by rw [<- he]; rfl
  rw [hto]
  refine ⟨hlt, ?_⟩
  rw [nth_eq hT hlt]
  exact List.getElem_idxOf (List.idxOf_lt_length_of_mem hm)
theorem maOf_fine (hsu : ∀ x, (su x).length = s) (hT : (turns su x0 T).length = T) (h1 : 1 <= s) (h2 : s <= 32) (hb : T <= 256) : (maOf s su x0 e T).Fine :=
  ⟨fun t c ht hc => (maOf_to hsu hT ht hc).1, by have := turns_pos (su := su) (x0 := x0) T; show 1 <= T; omega, hb, h1, h2⟩
theorem maOf_dfa (hsu : ∀ x, (su x).length = s) (hT : (turns su x0 T).length = T) : (maOf s su x0 e T).dfa = outD s su x0 e T := by
  unfold Ma.dfa outD
  show Dfa.mk (s : Int) _ _ = _
  congr 1
  · apply List.map_congr_left
    intro t ht
    have ht : t < T := List.mem_range.1 ht
    rw [turnRow_all hT ht, <- nth_eq hT ht]
    apply List.ext_getElem?
    intro c
    by_cases hc : c < s
    · have hcs : c < (su (nth su x0 T t)).length := by rw [hsu]; exact hc
      show ((List.range s).map _)[c]? = _
      rw [List.getElem?_map, List.getElem?_range hc, List.getElem?_map, List.getElem?_eq_getElem hcs, Option.map_some, Option.map_some]
      show some ((((turns su x0 T).idxOf ((su (nth su x0 T t)).getD c x0) : Nat) : Int)) = _
      rw [List.getD_eq_getElem?_getD, List.getElem?_eq_getElem hcs, Option.getD_some]
    · rw [List.getElem?_eq_none (by rw [Ma.row_len]; show s <= c; omega), List.getElem?_eq_none (by rw [List.length_map, hsu]; omega)]
  · apply List.ext_getElem?
    intro t
    by_cases ht : t < T
    · show ((List.range T).map _)[t]? = _
      rw [List.getElem?_map, List.getElem?_range ht, List.getElem?_map, List.getElem?_eq_getElem (by omega), Option.map_some, Option.map_some]
      congr 1
      show e (nth su x0 T t) = _
      rw [nth_eq hT ht]
    · rw [List.getElem?_eq_none (by simp; show T <= t; omega), List.getElem?_eq_none (by simp; omega)]
end
section
variable {a b : Ma}
theorem pair_run (ha : a.Fine) (hb : b.Fine) (hs : a.s = b.s) (less : Bool) {T : Nat} (hT : (turns (suP a b) (0, 0) T).length = T) : ∀ (w : List Int) (t : Nat), t < T ->
    runB (maOf a.s (suP a b) (0, 0) (endP a b less) T) t w = (runB a (nth (suP a b) (0, 0) T t).1 w && !(runB b (nth (suP a b) (0, 0) T t).2 w == less)) := by
  intro w
  induction w with
  | nil => intro t ht; rfl
  | cons n w ih =>
    intro t ht
    have es : (maOf a.s (suP a b) (0, 0) (endP a b less) T).s = a.s := rfl
    rw [runB, runB, runB, es, <- hs]
    split
    · rfl
    · rename_i hn
      have hc : (n - 1).toNat < a.s := by omega
      obtain ⟨h1, h2⟩ := maOf_to (e := endP a b less) (suP_len a b) hT ht hc
      rw [ih _ h1, h2, suP_get]
theorem joined_words (ha : a.Fine) (hb : b.Fine) (hs : a.s = b.s) (less : Bool) {r : Dfa × Int} (h : OutJ a b less f28 r) :
    (Many (suP a b) (0, 0) 256 ∧ r = (⟨0, [], []⟩, 44)) ∨ (¬ Many (suP a b) (0, 0) 256 ∧ ∃ m : Ma, m.Fine ∧ r = (m.dfa, 0) ∧ ∀ w, runB m 0 w = (runB a 0 w && !(runB b 0 w == less))) := by
  rcases h with h | ⟨T, w, t1, t2, t3, rfl⟩
  · exact .inl h
  · have hf := maOf_fine (e := endP a b less) (suP_len a b) t1 ha.s1 ha.s2 t2
    rw [<- maOf_dfa (suP_len a b) t1] at t3
    obtain ⟨K, U, hl, h28⟩ := least_ex hf
    rw [h28] at t3
    refine .inr ⟨not_many (t := T) (by omega) (by omega), _, hl.small_fine, ?_, fun v => ?_⟩
    · cases t3; rfl
    · rw [<- hl.run v, pair_run ha hb hs less t1 v 0 (by have := turns_pos (su := suP a b) (x0 := (0, 0)) T; omega), nth_zero t1]
theorem many_swap (ha : a.Fine) (hb : b.Fine) (hs : a.s = b.s) (h : Many (suP a b) (0, 0) 256) : Many (suP b a) (0, 0) 256 := by
  obtain ⟨t, ht⟩ := h
  refine ⟨t, ?_⟩
  have := turns_map (φ := fun p : Nat × Nat => (p.2, p.1)) (su := suP a b) (sv := suP b a) (x0 := (0, 0)) (p := fun _ => True) trivial (fun _ _ _ _ => trivial) (fun x y _ _ e => by
      obtain ⟨x1, x2⟩ := x
      obtain ⟨y1, y2⟩ := y
      simp only [Prod.mk.injEq] at e ⊢
      exact ⟨e.2, e.1⟩) (fun x _ => by unfold suP; rw [List.map_map, hs]; rfl) t
  rw [show ((0, 0) : Nat × Nat) = (fun p : Nat × Nat => (p.2, p.1)) (0, 0) from rfl, this, List.length_map]
  exact ht
end
section
variable {m : Ma} {K T : Nat}
theorem Least.from_ (h : Least m K T) {j : Nat} (hj : j < T) (h0 : 0 < j) : ∃ u, u < j ∧ ∃ c, c < m.s ∧ (m.small K T).to u c = j := by
  obtain ⟨u, hu, hlt, y, hy, he⟩ := turns_from h.over T j (Nat.le_refl _) (by rw [h.over]; exact hj) h0
  refine ⟨u, hlt, ?_⟩
  rw [<- h.ord_eq hu] at hy
  obtain ⟨c, hc, rfl⟩ := List.mem_map.1 hy
  exact ⟨c, List.mem_range.1 hc, he⟩
theorem Least.uniq (h : Least m K T) {t u : Nat} (ht : t < T) (hu : u < T) (hw : ∀ w, runB (m.small K T) t w = runB (m.small K T) u w) : t = u :=
  h.apart ht hu (R_of_run h.small_fine K ht hu hw)
theorem Least.out (h : Least m K T) : ∃ L U, (∀ t, t < T -> (m.small K T).F L t = t) ∧ (turns (suF (m.small K T) ((m.small K T).F L)) 0 U).length = U ∧
    (m.small K T).dfa = outD m.s (suF (m.small K T) ((m.small K T).F L)) 0 (m.small K T).e U := by
  obtain ⟨L, U, hL, hU, _, h28⟩ := small_same h.small_fine
  have hF0 : (m.small K T).F L 0 = 0 := h.small_F hL h.pos
  rw [hF0] at hU h28
  rw [h.own] at h28
  exact ⟨L, U, fun t ht => h.small_F hL ht, hU, Option.some.inj h28⟩
end
theorem canon {a b : Ma} {Ka Ta Kb Tb : Nat} (ha : Least a Ka Ta) (hb : Least b Kb Tb) (hs : a.s = b.s) (hw : ∀ w, runB a 0 w = runB b 0 w) : (a.small Ka Ta).dfa = (b.small Kb Tb).dfa := by
  obtain ⟨L, U, l1, l2, l3⟩ := ha.out
  obtain ⟨L', U', l1', l2', l3'⟩ := hb.out
  have hex : ∀ t, t < Ta -> ∃ u, u < Tb ∧ ∀ w, runB (a.small Ka Ta) t w = runB (b.small Kb Tb) u w := by
    intro t
    induction t using Nat.strongRecOn with
    | _ t ih =>
      intro ht
      rcases Nat.eq_zero_or_pos t with h0 | h0
      · subst h0
        exact ⟨0, hb.pos, fun w => by rw [<- ha.run w, <- hb.run w]; exact hw w⟩
      · obtain ⟨v, hv, c, hc, he⟩ := ha.from_ ht h0
        obtain ⟨u, hu, hr⟩ := ih v hv (by omega)
        refine ⟨(b.small Kb Tb).to u c, hb.to_lt hu (by omega), fun w => ?_⟩
        have hca : c < (a.small Ka Ta).s := hc
        have hcb : c < (b.small Kb Tb).s := by show c < b.s; omega
        rw [<- he, <- runB_step hca, <- runB_step hcb]
        exact hr _
  have hex' : ∀ t, ∃ u, t < Ta -> u < Tb ∧ ∀ w, runB (a.small Ka Ta) t w = runB (b.small Kb Tb) u w := fun t => by
    by_cases ht : t < Ta
    · obtain ⟨u, hu⟩ := hex t ht; exact ⟨u, fun _ => hu⟩
    · exact ⟨0, fun h => absurd h ht⟩
  have ⟨φ, hφ⟩ := Classical.axiomOfChoice hex'
  have hφ0 : φ 0 = 0 := hb.uniq (hφ 0 ha.pos).1 hb.pos fun w => by rw [<- (hφ 0 ha.pos).2 w, <- ha.run w, <- hb.run w]; exact hw w
  have hps : ∀ x, x < Ta -> ∀ y ∈ suF (a.small Ka Ta) ((a.small Ka Ta).F L) x, y < Ta := suF_lt ha.small_fine (F_lt (K := L))
  have hi : ∀ x y, x < Ta -> y < Ta -> φ x = φ y -> x = y := fun x y hx hy e => ha.uniq hx hy fun w => by rw [(hφ x hx).2 w, (hφ y hy).2 w, e]
  have hc : ∀ x, x < Ta -> suF (b.small Kb Tb) ((b.small Kb Tb).F L') (φ x) = (suF (a.small Ka Ta) ((a.small Ka Ta).F L) x).map φ := by
    intro x hx
    unfold suF
    rw [List.map_map, show (b.small Kb Tb).s = (a.small Ka Ta).s from hs.symm]
    apply List.map_congr_left
    intro c hc
    have hc : c < a.s := List.mem_range.1 hc
    have hca : c < (a.small Ka Ta).s := hc
    have hcb : c < (b.small Kb Tb).s := by show c < b.s; omega
    have k1 := ha.to_lt hx hc
    have k2 := hb.to_lt (hφ x hx).1 (show c < b.s by omega)
    show (b.small Kb Tb).F L' ((b.small Kb Tb).to (φ x) c) = φ ((a.small Ka Ta).F L ((a.small Ka Ta).to x c))
    rw [l1' _ k2, l1 _ k1]
    refine hb.uniq k2 (hφ _ k1).1 fun w => ?_
    rw [<- (hφ _ k1).2 w, <- runB_step hcb, <- runB_step hca, (hφ x hx).2]
  have hturn := turns_map (φ := φ) (p := fun x => x < Ta) ha.pos hps hi hc
  have hrow := turnRow_map (φ := φ) (p := fun x => x < Ta) ha.pos hps hi hc
  rw [hφ0] at hturn hrow
  have e : U = U' := by
    refine turns_end ?_ l2'
    rw [hturn, List.length_map]; exact l2
  subst e
  rw [l3, l3']
  unfold outD
  rw [hturn, List.map_map, List.map_congr_left (fun t _ => hrow t), hs]
  congr 1
  apply List.map_congr_left
  intro t ht
  have ht : t < Ta := turns_in (p := fun x => x < Ta) ha.pos hps U t ht
  exact (hφ t ht).2 []
theorem dfa_run {m l : Ma} (hm : m.Fine) (hl : l.Fine) (e : m.dfa = l.dfa) (w : List Int) : runB m 0 w = runB l 0 w := by
  have es : m.s = l.s := by
    have : m.dfa.Switches = l.dfa.Switches := by rw [e]
    rw [m.sw, l.sw] at this; omega
  have en : m.n = l.n := by rw [<- m.next_len, <- l.next_len, e]
  refine run_same (m := m) (l := l) (B := fun i j => i = j ∧ i < m.n) es (fun i j h => ?_) (fun i j h c hc => ?_) w ⟨rfl, hm.n1⟩
  · obtain ⟨rfl, hi⟩ := h
    have h1 := Ma.ends_get hi
    have h2 := Ma.ends_get (m := l) (i := i) (by omega)
    rw [e, h2] at h1
    exact (Option.some.inj h1).symm
  · obtain ⟨rfl, hi⟩ := h
    have h1 := Ma.next_get hi
    have h2 := Ma.next_get (m := l) (i := i) (by omega)
    rw [e, h2] at h1
    have h3 : l.row i = m.row i := Option.some.inj h1
    have h4 := Ma.row_get (m := m) i hc
    have h5 := Ma.row_get (m := l) i (c := c) (by omega)
    rw [<- h3, h5] at h4
    have h6 := Option.some.inj h4
    exact ⟨by omega, hm.ok i c hi hc⟩
theorem same_words {a b : Ma} (ha : a.Fine) (hb : b.Fine) (hs : a.s = b.s) : ∃ r, f31 a.dfa b.dfa = some r ∧ (r = true ↔ ∀ w, runB a 0 w = runB b 0 w) := by
  obtain ⟨K1, T1, l1, e1⟩ := least_ex ha
  obtain ⟨K2, T2, l2, e2⟩ := least_ex hb
  have n1 := neat_right (fine_few l1.small_fine) (fine_right l1.small_fine)
  have n2 := neat_right (fine_few l2.small_fine) (fine_right l2.small_fine)
  refine ⟨_, same31 (fine_few ha) (fine_few hb) e1 e2 n1 n2, ?_⟩
  rw [fine_right ha, fine_right hb, Bool.true_and, Bool.true_and, decide_eq_true_eq]
  constructor
  · intro h w
    rw [l1.run w, l2.run w]
    exact dfa_run l1.small_fine l2.small_fine h w
  · exact fun h => canon l1 l2 hs h
end Go.Proofs.Dfa
/-
  The law of parts.
-/
namespace Go.Proofs.Dfa
open Go Go.Ab Go.ChangeShapes
set_option linter.unusedVariables false
set_option linter.unusedSimpArgs false
set_option maxRecDepth 100000
theorem sans_len {m : Ma} (hm : m.Fine) : ∀ (k t : Nat), m.n + 1 - t = k -> t <= m.n + 1 -> (sans m k t).1.length <= 300 := by
  have hn2 := hm.n2
  intro k
  induction k with
  | zero => intro t _ _; simp [sans]
  | succ k ih =>
    intro t hk ht
    rw [sans]
    split
    · rename_i p hp
      split
      · have := (sq_ok hm t).len p (List.mem_of_getElem? hp)
        show p.2.length <= 300
        omega
      · exact ih (t + 1) (by omega) (by omega)
    · simp
theorem getE {α β : Type} (v : α) (k : α -> Cm β) : (Cm.get (some v) k).opt = (k v).opt := opt_get rfl
theorem parts9 (c d : Dfa) (w : List Int) (hc : Few c) (hd : Few d) (hw : w.length < 9223372036854775807) : f9 c d w = some true := by
  by_cases h : rightB c = true ∧ rightB d = true ∧ c.Switches = d.Switches
  · obtain ⟨h1, h2, h3⟩ := h
    obtain ⟨a, ha, rfl⟩ := right_fine h1
    obtain ⟨b, hb, rfl⟩ := right_fine h2
    have hs : a.s = b.s := by rw [a.sw, b.sw] at h3; omega
    obtain ⟨x, x1, x2⟩ := joined33 ha hb hs
    obtain ⟨y, y1, y2⟩ := joined35 ha hb hs
    obtain ⟨z, z1, z2⟩ := joined35 hb ha hs.symm
    rcases joined_words ha hb hs false x2 with ⟨m1, rfl⟩ | ⟨m1, mx, fx, rfl, wx⟩
    · rcases joined_words ha hb hs true y2 with ⟨_, rfl⟩ | ⟨n1, _⟩
      · rcases joined_words hb ha hs.symm true z2 with ⟨_, rfl⟩ | ⟨n1, _⟩
        · unfold f9 u9
          rw [opt_get x1, opt_get y1, opt_get z1, opt_f (by rfl), opt_f (by rfl), opt_t (by rfl), opt_t (by rfl), opt_ret]
        · exact absurd (many_swap ha hb hs m1) n1
      · exact absurd m1 n1
    · rcases joined_words ha hb hs true y2 with ⟨n1, _⟩ | ⟨_, my, fy, rfl, wy⟩
      · exact absurd n1 m1
      · rcases joined_words hb ha hs.symm true z2 with ⟨n1, _⟩ | ⟨_, mz, fz, rfl, wz⟩
        · exact absurd (many_swap hb ha hs.symm n1) m1
        · have ly := sans_len fy (my.n + 1) 0 (by omega) (by omega)
          have lz := sans_len fz (mz.n + 1) 0 (by omega) (by omega)
          have sy := sans_word fy
          have sz := sans_word fz
          have e16y := least16 fy
          have e16z := least16 fz
          obtain ⟨S, hS, hS'⟩ := same_words ha hb hs
          have rA := run25 ha w hw
          have rB := run25 hb w hw
          have rX := run25 fx w hw
          have rY := run25 fy w hw
          generalize sans my (my.n + 1) 0 = vy at ly sy e16y
          generalize sans mz (mz.n + 1) 0 = vz at lz sz e16z
          obtain ⟨v, one⟩ := vy
          obtain ⟨u, two⟩ := vz
          have rA1 := run25 ha v (by simp at ly; omega)
          have rB1 := run25 hb v (by simp at ly; omega)
          have rA2 := run25 ha u (by simp at lz; omega)
          have rB2 := run25 hb u (by simp at lz; omega)
          have k1 : one = true -> runB a 0 v = true ∧ runB b 0 v = false := fun ho => by
            have := sy.1 ho
            rw [wy] at this
            cases hA : runB a 0 v <;> cases hB : runB b 0 v <;> simp_all
          have k2 : two = true -> runB b 0 u = true ∧ runB a 0 u = false := fun ho => by
            have := sz.1 ho
            rw [wz] at this
            cases hA : runB a 0 u <;> cases hB : runB b 0 u <;> simp_all
          have k3 := sy.2 w
          have k4 : S = true ↔ one = false ∧ two = false := by
            rw [hS']
            constructor
            · intro hh
              constructor
              · cases one with
                | false => rfl
                | true => obtain ⟨p, q⟩ := k1 rfl; rw [hh, q] at p; cases p
              · cases two with
                | false => rfl
                | true => obtain ⟨p, q⟩ := k2 rfl; rw [<- hh, q] at p; cases p
            · rintro ⟨rfl, rfl⟩ x
              have p := fun hh => (sy.2 x hh).1
              have q := fun hh => (sz.2 x hh).1
              rw [wy] at p
              rw [wz] at q
              cases hA : runB a 0 x <;> cases hB : runB b 0 x <;> simp_all
          have hXw := wx w
          have hYw := wy w
          unfold f9 u9
          rw [opt_get x1, opt_get y1, opt_get z1, opt_f (by rfl), opt_f (by rfl), opt_f (by rfl), opt_get rA, opt_get rB, opt_get rX]
          simp only [rA, rB, rX, rY, e16y, e16z, rA1, rB1, rA2, rB2, hS, getE, opt_ite]
          generalize runB mx 0 w = X at *
          generalize runB my 0 w = Y at *
          generalize runB a 0 w = P at *
          generalize runB b 0 w = Q at *
          generalize runB a 0 v = A1 at *
          generalize runB b 0 v = B1 at *
          generalize runB a 0 u = A2 at *
          generalize runB b 0 u = B2 at *
          clear sy sz wx wy wz hS' rA rB rX rY rA1 rB1 rA2 rB2 hS e16y e16z
          cases P <;> cases Q <;> cases one <;> cases two <;> simp_all [opt_ret]
  · unfold f9 u9
    rw [opt_get (bad33 hc hd h), opt_get (bad35 hc hd h), opt_get (bad35 hd hc (fun e => h ⟨e.2.1, e.1, e.2.2.symm⟩)), opt_f (by rfl), opt_f (by rfl), opt_t (by rfl), opt_t (by rfl), opt_ret]
theorem law9 (a b : Dfa) (w : List Int) (ha : wf_36 a) (hb : wf_36 b) (hw : wf_40 w) : f9 a b w = some true := by
  have e : reachBytes <= 140737488355328 := by decide
  exact parts9 a b w (few_of ha) (few_of hb) (by have := hw.1; omega)
end Go.Proofs.Dfa

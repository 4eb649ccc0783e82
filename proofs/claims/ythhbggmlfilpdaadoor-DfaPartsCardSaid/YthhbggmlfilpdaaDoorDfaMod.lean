/- A part of a law's proof: DfaMod. -/
import Derived.Test.YthhbggmlfilpdaaDoorSvPlain
set_option linter.constructorNameAsVariable false
/-
  Counting: rows without doubles, classes and their numbers.
-/
namespace Go.Proofs.Dfa
set_option linter.unusedVariables false
set_option linter.unusedSimpArgs false
section
variable {α β : Type} [DecidableEq α] [DecidableEq β]
def once (l : List α) : List α := l.foldl (fun D x => if x ∈ D then D else D ++ [x]) []
def onceOn (D l : List α) : List α := l.foldl (fun D x => if x ∈ D then D else D ++ [x]) D
theorem onceOn_mem {x : α} : ∀ {l D : List α}, x ∈ onceOn D l ↔ x ∈ D ∨ x ∈ l := by
  intro l
  induction l with
  | nil => intro D; simp [onceOn]
  | cons y l ih =>
    intro D
    show x ∈ onceOn (if y ∈ D then D else D ++ [y]) l ↔ _
    rw [ih]
    split
    · rename_i h
      constructor
      · rintro (h1 | h1) <;> simp [h1]
      · rintro (h1 | h1)
        · exact .inl h1
        · rcases List.mem_cons.1 h1 with e | e
          · subst e; exact .inl h
          · exact .inr e
    · simp [or_assoc]
theorem onceOn_nodup : ∀ {l D : List α}, D.Nodup -> (onceOn D l).Nodup := by
  intro l
  induction l with
  | nil => intro D h; exact h
  | cons y l ih =>
    intro D h
    show (onceOn (if y ∈ D then D else D ++ [y]) l).Nodup
    refine ih ?_
    split
    · exact h
    · rename_i hy
      rw [List.nodup_append]
      exact ⟨h, by simp, by intro a ha b hb; simp at hb; subst hb; intro e; subst e; exact hy ha⟩
theorem once_mem {x : α} {l : List α} : x ∈ once l ↔ x ∈ l := by
  have := onceOn_mem (x := x) (l := l) (D := [])
  simpa [once, onceOn] using this
theorem once_nodup {l : List α} : (once l).Nodup := onceOn_nodup (l := l) (D := []) (by simp)
theorem onceOn_len {l D : List α} : D.length <= (onceOn D l).length ∧ (onceOn D l).length <= D.length + l.length := by
  induction l generalizing D with
  | nil => exact ⟨Nat.le_refl _, Nat.le_refl _⟩
  | cons y l ih =>
    show D.length <= (onceOn (if y ∈ D then D else D ++ [y]) l).length ∧ (onceOn (if y ∈ D then D else D ++ [y]) l).length <= _
    have := ih (D := if y ∈ D then D else D ++ [y])
    have h2 : (if y ∈ D then D else D ++ [y]).length = D.length ∨ (if y ∈ D then D else D ++ [y]).length = D.length + 1 := by
      split
      · exact .inl rfl
      · exact .inr (by simp)
    rw [List.length_cons]
    omega
theorem nodup_sub_len : ∀ {a b : List α}, a.Nodup -> (∀ x ∈ a, x ∈ b) -> a.length <= b.length := by
  intro a
  induction a with
  | nil => intro b _ _; simp
  | cons x a ih =>
    intro b hn h
    have hn := List.nodup_cons.1 hn
    have hx := h x (by simp)
    have := ih (b := b.erase x) hn.2 (fun y hy => (List.mem_erase_of_ne (by intro e; subst e; exact hn.1 hy)).2 (h y (by simp [hy])))
    rw [List.length_erase_of_mem hx] at this
    have : 0 < b.length := List.length_pos_of_mem hx
    simp; omega
theorem finer_len {n : Nat} {f : Nat -> α} {g : Nat -> β} (h : ∀ i j, i < n -> j < n -> g i = g j -> f i = f j) :
    (once ((List.range n).map f)).length <= (once ((List.range n).map g)).length := by
  -- a first place of each value of f
  have key : ∀ (D : List α), D.Nodup -> (∀ x ∈ D, ∃ i, i < n ∧ f i = x) -> ∃ E : List β, E.length = D.length ∧ E.Nodup ∧ ∀ y ∈ E, ∃ i, i < n ∧ g i = y ∧ f i ∈ D := by
    intro D
    induction D with
    | nil => intro _ _; exact ⟨[], rfl, by simp, by simp⟩
    | cons x D ih =>
      intro hn hx
      have hn := List.nodup_cons.1 hn
      obtain ⟨E, e1, e2, e3⟩ := ih hn.2 (fun y hy => hx y (by simp [hy]))
      obtain ⟨i, hi, rfl⟩ := hx x (by simp)
      refine ⟨g i :: E, by simp [e1], List.nodup_cons.2 ⟨fun hm => ?_, e2⟩, fun y hy => ?_⟩
      · obtain ⟨j, hj, hg, hf⟩ := e3 _ hm
        exact hn.1 (h j i hj hi hg ▸ hf)
      · rcases List.mem_cons.1 hy with e | e
        · subst e; exact ⟨i, hi, rfl, by simp⟩
        · obtain ⟨j, hj, hg, hf⟩ := e3 y e
          exact ⟨j, hj, hg, by simp [hf]⟩
  obtain ⟨E, e1, e2, e3⟩ := key _ (once_nodup (l := (List.range n).map f)) (fun x hx => by
    obtain ⟨i, hi, rfl⟩ := List.mem_map.1 (once_mem.1 hx)
    exact ⟨i, List.mem_range.1 hi, rfl⟩)
  rw [<- e1]
  refine nodup_sub_len e2 fun y hy => ?_
  obtain ⟨i, hi, rfl, _⟩ := e3 y hy
  exact once_mem.2 (List.mem_map.2 ⟨i, List.mem_range.2 hi, rfl⟩)
theorem finer_same {n : Nat} {f : Nat -> α} {g : Nat -> β} (h : ∀ i j, i < n -> j < n -> g i = g j -> f i = f j)
    (hl : (once ((List.range n).map f)).length = (once ((List.range n).map g)).length) : ∀ i j, i < n -> j < n -> f i = f j -> g i = g j := by
  intro i j hi hj hf
  refine Classical.byContradiction fun hg => ?_
  -- the values of g but that of i: still a place of each value of f
  have h2 : (once ((List.range n).map f)).length <= ((once ((List.range n).map g)).erase (g i)).length := by
    have key : ∀ (D : List α), D.Nodup -> (∀ x ∈ D, ∃ k, k < n ∧ f k = x ∧ g k ≠ g i) -> ∃ E : List β, E.length = D.length ∧ E.Nodup ∧ ∀ y ∈ E, ∃ k, k < n ∧ g k = y ∧ g k ≠ g i ∧ f k ∈ D := by
      intro D
      induction D with
      | nil => intro _ _; exact ⟨[], rfl, by simp, by simp⟩
      | cons x D ih =>
        intro hn hx
        have hn := List.nodup_cons.1 hn
        obtain ⟨E, e1, e2, e3⟩ := ih hn.2 (fun y hy => hx y (by simp [hy]))
        obtain ⟨k, hk, rfl, hk'⟩ := hx x (by simp)
        refine ⟨g k :: E, by simp [e1], List.nodup_cons.2 ⟨fun hm => ?_, e2⟩, fun y hy => ?_⟩
        · obtain ⟨m, hm1, hm2, _, hm3⟩ := e3 _ hm
          exact hn.1 (h m k hm1 hk hm2 ▸ hm3)
        · rcases List.mem_cons.1 hy with e | e
          · subst e; exact ⟨k, hk, rfl, hk', by simp⟩
          · obtain ⟨m, hm1, hm2, hm2', hm3⟩ := e3 y e
            exact ⟨m, hm1, hm2, hm2', by simp [hm3]⟩
    obtain ⟨E, e1, e2, e3⟩ := key _ (once_nodup (l := (List.range n).map f)) (fun x hx => by
      obtain ⟨k, hk, rfl⟩ := List.mem_map.1 (once_mem.1 hx)
      have hk := List.mem_range.1 hk
      by_cases e : g k = g i
      · exact ⟨j, hj, by rw [<- hf]; exact (h k i hk hi e).symm, fun e' => hg e'.symm⟩
      · exact ⟨k, hk, rfl, e⟩)
    rw [<- e1]
    refine nodup_sub_len e2 fun y hy => ?_
    obtain ⟨k, hk, rfl, hk', _⟩ := e3 y hy
    exact (List.mem_erase_of_ne hk').2 (once_mem.2 (List.mem_map.2 ⟨k, List.mem_range.2 hk, rfl⟩))
  have hm : g i ∈ once ((List.range n).map g) := once_mem.2 (List.mem_map.2 ⟨i, List.mem_range.2 hi, rfl⟩)
  rw [List.length_erase_of_mem hm] at h2
  have := List.length_pos_of_mem hm
  omega
end
section
variable {α β : Type} [DecidableEq α] [DecidableEq β]
theorem onceOn_snoc {D l : List α} {x : α} : onceOn D (l ++ [x]) = if x ∈ onceOn D l then onceOn D l else onceOn D l ++ [x] := by
  unfold onceOn
  rw [List.foldl_append]
  rfl
theorem onceOn_pre : ∀ {l D : List α}, ∃ e, onceOn D l = D ++ e := by
  intro l
  induction l with
  | nil => intro D; exact ⟨[], by simp [onceOn]⟩
  | cons y l ih =>
    intro D
    obtain ⟨e, he⟩ := ih (D := if y ∈ D then D else D ++ [y])
    have h : onceOn D (y :: l) = onceOn (if y ∈ D then D else D ++ [y]) l := rfl
    rw [h, he]
    split
    · exact ⟨e, rfl⟩
    · exact ⟨[y] ++ e, by simp⟩
theorem onceOn_map {φ : α -> β} : ∀ {l D : List α}, (∀ x y, (x ∈ D ∨ x ∈ l) -> (y ∈ D ∨ y ∈ l) -> φ x = φ y -> x = y) -> onceOn (D.map φ) (l.map φ) = (onceOn D l).map φ := by
  intro l
  induction l with
  | nil => intro D _; rfl
  | cons y l ih =>
    intro D h
    have h0 : onceOn D (y :: l) = onceOn (if y ∈ D then D else D ++ [y]) l := rfl
    have h1 : onceOn (D.map φ) ((y :: l).map φ) = onceOn (if φ y ∈ D.map φ then D.map φ else D.map φ ++ [φ y]) (l.map φ) := rfl
    have e : (if φ y ∈ D.map φ then D.map φ else D.map φ ++ [φ y]) = (if y ∈ D then D else D ++ [y]).map φ := by
      by_cases hy : y ∈ D
      · rw [if_pos hy, if_pos (List.mem_map.2 ⟨y, hy, rfl⟩)]
      · rw [if_neg hy, if_neg]
        · simp
        · intro hm
          obtain ⟨z, hz, hzy⟩ := List.mem_map.1 hm
          have := h z y (.inl hz) (.inr (by simp)) hzy
          subst this; exact hy hz
    rw [h0, h1, e]
    refine ih fun x z hx hz => h x z ?_ ?_
    · rcases hx with hx | hx
      · split at hx
        · exact .inl hx
        · rcases List.mem_append.1 hx with hx | hx
          · exact .inl hx
          · simp at hx; exact .inr (by simp [hx])
      · exact .inr (by simp [hx])
    · rcases hz with hz | hz
      · split at hz
        · exact .inl hz
        · rcases List.mem_append.1 hz with hz | hz
          · exact .inl hz
          · simp at hz; exact .inr (by simp [hz])
      · exact .inr (by simp [hz])
theorem idxOf_pre {D e : List α} {x : α} (h : x ∈ D) : (D ++ e).idxOf x = D.idxOf x := by
  rw [List.idxOf_append, if_pos h]
theorem idxOf_map {φ : α -> β} : ∀ {l : List α} {x : α}, (∀ y ∈ l, φ y = φ x -> y = x) -> (l.map φ).idxOf (φ x) = l.idxOf x := by
  intro l
  induction l with
  | nil => intro x _; rfl
  | cons y l ih =>
    intro x h
    rw [List.map_cons, List.idxOf_cons, List.idxOf_cons]
    by_cases e : y = x
    · subst e; simp
    · have : φ y ≠ φ x := fun e' => e (h y (by simp) e')
      have e1 : (φ y == φ x) = false := by simpa using this
      have e2 : (y == x) = false := by simpa using e
      rw [e1, e2, ih (fun z hz => h z (by simp [hz]))]
def turns (su : α -> List α) (x0 : α) : Nat -> List α
  | 0 => [x0]
  | t + 1 => match (turns su x0 t)[t]? with
    | some x => onceOn (turns su x0 t) (su x)
    | none => turns su x0 t
theorem turns_succ {su : α -> List α} {x0 : α} {t : Nat} (h : t < (turns su x0 t).length) : turns su x0 (t + 1) = onceOn (turns su x0 t) (su (turns su x0 t)[t]) := by
  simp [turns, h]
theorem turns_nodup {su : α -> List α} {x0 : α} : ∀ t, (turns su x0 t).Nodup := by
  intro t
  induction t with
  | zero => simp [turns]
  | succ t ih =>
    simp only [turns]
    split
    · exact onceOn_nodup ih
    · exact ih
theorem turns_pos {su : α -> List α} {x0 : α} : ∀ t, 0 < (turns su x0 t).length := by
  intro t
  induction t with
  | zero => simp [turns]
  | succ t ih =>
    simp only [turns]
    split
    · exact Nat.lt_of_lt_of_le ih onceOn_len.1
    · exact ih
theorem turns_in {su : α -> List α} {x0 : α} {p : α -> Prop} (h0 : p x0) (hs : ∀ x, p x -> ∀ y ∈ su x, p y) : ∀ t, ∀ x ∈ turns su x0 t, p x := by
  intro t
  induction t with
  | zero => intro x hx; simp [turns] at hx; subst hx; exact h0
  | succ t ih =>
    intro x hx
    simp only [turns] at hx
    split at hx
    · rename_i y hy
      rcases onceOn_mem.1 hx with h | h
      · exact ih x h
      · exact hs y (ih y (List.mem_of_getElem? hy)) x h
    · exact ih x hx
theorem turns_map {φ : α -> β} {su : α -> List α} {sv : β -> List β} {x0 : α} {p : α -> Prop} (h0 : p x0) (hs : ∀ x, p x -> ∀ y ∈ su x, p y)
    (hi : ∀ x y, p x -> p y -> φ x = φ y -> x = y) (hc : ∀ x, p x -> sv (φ x) = (su x).map φ) : ∀ t, turns sv (φ x0) t = (turns su x0 t).map φ := by
  intro t
  induction t with
  | zero => rfl
  | succ t ih =>
    simp only [turns]
    rw [ih, List.getElem?_map]
    cases hx : (turns su x0 t)[t]? with
    | none => rfl
    | some x =>
      simp only [Option.map_some]
      have hp := turns_in h0 hs t
      have hpx := hp x (List.mem_of_getElem? hx)
      rw [hc x hpx]
      refine onceOn_map fun y z hy hz => hi y z ?_ ?_
      · rcases hy with hy | hy
        · exact hp y hy
        · exact hs x hpx y hy
      · rcases hz with hz | hz
        · exact hp z hz
        · exact hs x hpx z hz
theorem turns_len {su : α -> List α} {x0 : α} (t : Nat) : (turns su x0 t).length <= (turns su x0 (t + 1)).length := by
  simp only [turns]
  split
  · exact onceOn_len.1
  · exact Nat.le_refl _
theorem turns_len_le {su : α -> List α} {x0 : α} {t : Nat} : ∀ d, (turns su x0 t).length <= (turns su x0 (t + d)).length := by
  intro d
  induction d with
  | zero => exact Nat.le_refl _
  | succ d ih => exact Nat.le_trans ih (turns_len (t + d))
theorem turns_stop {su : α -> List α} {x0 : α} {t : Nat} (h : (turns su x0 t).length <= t) : ∀ d, turns su x0 (t + d) = turns su x0 t := by
  intro d
  induction d with
  | zero => rfl
  | succ d ih =>
    show turns su x0 ((t + d) + 1) = _
    simp only [turns]
    rw [ih, List.getElem?_eq_none (by omega)]
def Many (su : α -> List α) (x0 : α) (k : Nat) : Prop := ∃ t, k < (turns su x0 t).length
theorem not_many {su : α -> List α} {x0 : α} {t k : Nat} (h : (turns su x0 t).length <= t) (hk : (turns su x0 t).length <= k) : ¬ Many su x0 k := by
  rintro ⟨u, hu⟩
  rcases Nat.le_total u t with h1 | h1
  · obtain ⟨d, rfl⟩ := Nat.le.dest h1
    have := turns_len_le (su := su) (x0 := x0) (t := u) d
    omega
  · obtain ⟨d, rfl⟩ := Nat.le.dest h1
    rw [turns_stop h d] at hu
    omega
def turnRow (su : α -> List α) (x0 : α) (t : Nat) : List Int := match (turns su x0 t)[t]? with
  | some x => (su x).map fun y => ((turns su x0 (t + 1)).idxOf y : Int)
  | none => []
theorem turnRow_map {φ : α -> β} {su : α -> List α} {sv : β -> List β} {x0 : α} {p : α -> Prop} (h0 : p x0) (hs : ∀ x, p x -> ∀ y ∈ su x, p y)
    (hi : ∀ x y, p x -> p y -> φ x = φ y -> x = y) (hc : ∀ x, p x -> sv (φ x) = (su x).map φ) (t : Nat) : turnRow sv (φ x0) t = turnRow su x0 t := by
  unfold turnRow
  rw [turns_map h0 hs hi hc t, turns_map h0 hs hi hc (t + 1), List.getElem?_map]
  cases hx : (turns su x0 t)[t]? with
  | none => rfl
  | some x =>
    simp only [Option.map_some]
    have hpx := turns_in h0 hs t x (List.mem_of_getElem? hx)
    rw [hc x hpx, List.map_map]
    apply List.map_congr_left
    intro y hy
    show (((turns su x0 (t + 1)).map φ).idxOf (φ y) : Int) = _
    rw [idxOf_map fun z hz => hi z y (turns_in h0 hs _ z hz) (hs x hpx y hy)]
end
section
variable {α : Type} [DecidableEq α]
def mid (su : α -> List α) (x0 : α) (t c : Nat) : List α := match (turns su x0 t)[t]? with
  | some x => onceOn (turns su x0 t) ((su x).take c)
  | none => turns su x0 t
theorem mid_zero {su : α -> List α} {x0 : α} {t : Nat} : mid su x0 t 0 = turns su x0 t := by
  unfold mid
  split <;> rfl
theorem mid_end {su : α -> List α} {x0 : α} {t : Nat} (h : t < (turns su x0 t).length) {c : Nat} (hc : (su (turns su x0 t)[t]).length <= c) : mid su x0 t c = turns su x0 (t + 1) := by
  unfold mid
  rw [List.getElem?_eq_getElem h, turns_succ h]
  simp only
  rw [List.take_of_length_le hc]
theorem mid_succ {su : α -> List α} {x0 : α} {t : Nat} (h : t < (turns su x0 t).length) {c : Nat} (hc : c < (su (turns su x0 t)[t]).length) :
    mid su x0 t (c + 1) = if (su (turns su x0 t)[t])[c] ∈ mid su x0 t c then mid su x0 t c else mid su x0 t c ++ [(su (turns su x0 t)[t])[c]] := by
  unfold mid
  rw [List.getElem?_eq_getElem h]
  simp only
  rw [List.take_succ_eq_append_getElem hc, onceOn_snoc]
theorem mid_pre {su : α -> List α} {x0 : α} {t : Nat} (h : t < (turns su x0 t).length) (c : Nat) : ∃ e, turns su x0 (t + 1) = mid su x0 t c ++ e := by
  rw [turns_succ h]
  unfold mid
  rw [List.getElem?_eq_getElem h]
  simp only
  have e : su (turns su x0 t)[t] = (su (turns su x0 t)[t]).take c ++ (su (turns su x0 t)[t]).drop c := (List.take_append_drop _ _).symm
  obtain ⟨x, hx⟩ := onceOn_pre (l := (su (turns su x0 t)[t]).drop c) (D := onceOn (turns su x0 t) ((su (turns su x0 t)[t]).take c))
  refine ⟨x, ?_⟩
  rw [<- hx]
  conv => lhs; rw [e]
  unfold onceOn
  rw [List.foldl_append]
theorem mid_len {su : α -> List α} {x0 : α} {t : Nat} (h : t < (turns su x0 t).length) (c : Nat) : (turns su x0 t).length <= (mid su x0 t c).length ∧ (mid su x0 t c).length <= (turns su x0 (t + 1)).length := by
  constructor
  · unfold mid
    rw [List.getElem?_eq_getElem h]
    exact onceOn_len.1
  · obtain ⟨e, he⟩ := mid_pre h c
    rw [he]; simp
theorem mid_get {su : α -> List α} {x0 : α} {t : Nat} (h : t < (turns su x0 t).length) (c : Nat) : (mid su x0 t c)[t]? = some (turns su x0 t)[t] := by
  unfold mid
  rw [List.getElem?_eq_getElem h]
  simp only
  obtain ⟨e, he⟩ := onceOn_pre (l := (su (turns su x0 t)[t]).take c) (D := turns su x0 t)
  rw [he, List.getElem?_append_left h, List.getElem?_eq_getElem h]
theorem turnRow_get {su : α -> List α} {x0 : α} {t : Nat} (h : t < (turns su x0 t).length) {c : Nat} (hc : c < (su (turns su x0 t)[t]).length) :
    (turnRow su x0 t)[c]? = some (((mid su x0 t (c + 1)).idxOf (su (turns su x0 t)[t])[c] : Nat) : Int) := by
  unfold turnRow
  rw [List.getElem?_eq_getElem h]
  simp only [List.getElem?_map, List.getElem?_eq_getElem hc, Option.map_some]
  obtain ⟨e, he⟩ := mid_pre h (c + 1)
  rw [he, idxOf_pre]
  rw [mid_succ h hc]
  split
  · assumption
  · simp
theorem turnRow_len {su : α -> List α} {x0 : α} {t : Nat} (h : t < (turns su x0 t).length) : (turnRow su x0 t).length = (su (turns su x0 t)[t]).length := by
  unfold turnRow
  rw [List.getElem?_eq_getElem h]
  simp
theorem idxOf_at {l : List α} {x : α} {i : Nat} (h : i < l.length) (he : l[i] = x) (hn : x ∉ l.take i) : l.idxOf x = i := by
  have e : l = l.take i ++ l[i] :: l.drop (i + 1) := by rw [<- List.drop_eq_getElem_cons h, List.take_append_drop]
  rw [e, List.idxOf_append, if_neg hn, he, List.idxOf_cons_self]
  simp; omega
theorem idxOf_new {l : List α} {x : α} (h : x ∉ l) : (l ++ [x]).idxOf x = l.length := by
  rw [List.idxOf_append, if_neg h]
  simp
end
structure Ma where
  n : Nat
  s : Nat
  to : Nat -> Nat -> Nat
  e : Nat -> Bool
def Ma.Ok (m : Ma) : Prop := ∀ i c, i < m.n -> c < m.s -> m.to i c < m.n
def Ma.R (m : Ma) : Nat -> Nat -> Nat -> Prop
  | 0, i, j => m.e i = m.e j
  | k + 1, i, j => m.R k i j ∧ ∀ c, c < m.s -> m.R k (m.to i c) (m.to j c)
namespace Ma
variable {m : Ma}
theorem R_refl : ∀ k i, m.R k i i := by
  intro k
  induction k with
  | zero => intro i; rfl
  | succ k ih => intro i; exact ⟨ih i, fun c _ => ih _⟩
theorem R_symm : ∀ {k i j}, m.R k i j -> m.R k j i := by
  intro k
  induction k with
  | zero => intro i j h; exact Eq.symm h
  | succ k ih => intro i j h; exact ⟨ih h.1, fun c hc => ih (h.2 c hc)⟩
theorem R_trans : ∀ {k i j l}, m.R k i j -> m.R k j l -> m.R k i l := by
  intro k
  induction k with
  | zero => intro i j l h1 h2; exact Eq.trans h1 h2
  | succ k ih => intro i j l h1 h2; exact ⟨ih h1.1 h2.1, fun c hc => ih (h1.2 c hc) (h2.2 c hc)⟩
def Stable (m : Ma) (k : Nat) : Prop := ∀ i j, i < m.n -> j < m.n -> m.R k i j -> m.R (k + 1) i j
theorem R_down {k : Nat} : ∀ (d : Nat) {i j : Nat}, m.R (k + d) i j -> m.R k i j := by
  intro d
  induction d with
  | zero => intro i j h; exact h
  | succ d ih => intro i j h; exact ih h.1
theorem stable_up (ok : m.Ok) {k : Nat} (h : m.Stable k) : ∀ (d : Nat) {i j : Nat}, i < m.n -> j < m.n -> m.R k i j -> m.R (k + d) i j := by
  intro d
  induction d with
  | zero => intro i j _ _ h; exact h
  | succ d ih =>
    intro i j hi hj hr
    refine ⟨ih hi hj hr, fun c hc => ?_⟩
    exact ih (ok i c hi hc) (ok j c hj hc) ((h i j hi hj hr).2 c hc)
def Shows {α : Type} (m : Ma) (k : Nat) (c : Nat -> α) : Prop := ∀ i j, i < m.n -> j < m.n -> (c i = c j ↔ m.R k i j)
end Ma
end Go.Proofs.Dfa

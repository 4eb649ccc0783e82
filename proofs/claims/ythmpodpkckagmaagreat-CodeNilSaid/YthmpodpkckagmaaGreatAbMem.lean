/- A part of the proof of CodeNil: AbMem. -/
import Derived.Test.YthmpodpkckagmaaGreatAbBase
import Derived.Laws.IdiomStrings
set_option linter.unusedVariables false
set_option linter.unusedSimpArgs false
set_option linter.constructorNameAsVariable false
/-
  How an abstract memory goes on: a new object, a store, an object that is let go, a slice that grows in place, objects that are forgotten.
-/
namespace Go.Ab
open Go Go.RowKit

theorem set_same {w : World} {a : Addr} {v u : Value} (h : w.cell? a = some u) : (w.setCell a v).cell? a = some v := World.cell?_setCell_same (h := h) ..
theorem set_other {w : World} {a b : Addr} {v : Value} (h : a ≠ b) : (w.setCell a v).cell? b = w.cell? b := World.cell?_setCell_other (h := h) ..
theorem alloc_lt {w : World} {o : Obj} {a : Addr} (h : a.block < w.heap.size) : (w.alloc o).cell? a = w.cell? a := World.cell?_alloc_lt (h := h) ..
theorem alloc_frozen {w : World} {o : Obj} {a : Addr} (h : a.block < w.heap.size) : (w.alloc o).frozen? a = w.frozen? a := World.frozen?_alloc_old (h := Nat.ne_of_lt h) ..

section
variable {B : Nat} {β : Nat → Em} {H : Heap} {w : World}

theorem Sim.blk_lt (s : Sim B β H w) {o : Nat} {cs : List AV} (h : H[o]? = some (.cells cs)) : (β o).blk < w.heap.size := (s.base o cs h).2.1

theorem RO.lt {b i : Nat} {c : Value} (h : RO β H w b i c) : b < w.heap.size := cell?_lt h.1

theorem Sim.map_lt (s : Sim B β H w) {o : Nat} {es : List (AV × AV)} (h : H[o]? = some (.map es)) : (β o).blk < w.heap.size := by
  obtain ⟨_, ents, clock, he, _⟩ := s.map o es h
  rcases Nat.lt_or_ge (β o).blk w.heap.size with h' | h'
  · exact h'
  · simp [Array.getElem?_eq_none h'] at he

/-- A new object in a new block. `fz`: marks that lie behind the object's own cells. -/
theorem Sim.allocM (s : Sim B β H w) {w' : World} (arr : Array Value) (E : TypeId) (fz : Nat × Nat) (hfz : ∀ i, i < arr.size → ¬ (fz.1 ≤ i ∧ i < fz.2)) (cs : List AV) (hl : cs.length ≤ arr.size)
    (hr : ∀ (j : Nat) (a : AV), cs[j]? = some a → ∃ c, arr[j]? = some c ∧ RepH β H w a c) (hw : w' = w.alloc (.cells arr E fz)) :
    Sim B (Em.set β H.length ⟨w.heap.size, 0, arr.size⟩) (H ++ [.cells cs]) w' ∧ Tr B β H w (Em.set β H.length ⟨w.heap.size, 0, arr.size⟩) (H ++ [.cells cs]) w' := by
  subst hw
  have tr : Tr B β H w (Em.set β H.length ⟨w.heap.size, 0, arr.size⟩) (H ++ [.cells cs]) (w.alloc (.cells arr E fz)) := by
    refine ⟨(Below.refl B w).alloc s.size _, by simp, fun o ho => Em.set_lt _ _ ho, fun b i c h => ⟨?_, ?_⟩⟩
    · rw [alloc_lt (a := ⟨b, i, none⟩) h.lt]; exact h.1
    · rintro ⟨o, cs', ho, hb, h1, h2⟩
      rcases get_push ho with ⟨hlt, ho'⟩ | ⟨rfl, _⟩
      · rw [Em.set_lt _ _ hlt] at hb h1 h2; exact h.2 ⟨o, cs', ho', hb, h1, h2⟩
      · simp at hb; exact absurd h.lt (by omega)
  refine ⟨⟨by simp; exact Nat.le_succ_of_le s.size, ?_, ?_, ?_, ?_, ?_, ?_, ?_⟩, tr⟩
  · intro o cs' ho
    rcases get_push ho with ⟨hlt, ho'⟩ | ⟨rfl, he⟩
    · rw [Em.set_lt _ _ hlt]; have := s.base o cs' ho'; exact ⟨this.1, by simp; omega, this.2.2⟩
    · cases he; simp; exact ⟨s.size, hl⟩
  · intro o cs' j a ho ha
    rcases get_push ho with ⟨hlt, ho'⟩ | ⟨rfl, he⟩
    · rw [Em.set_lt _ _ hlt]
      obtain ⟨c, hc, hrep⟩ := s.cell o cs' j a ho' ha
      exact ⟨c, by rw [alloc_lt (a := ⟨_, _, none⟩) (s.blk_lt ho')]; exact hc, tr.rep hrep⟩
    · cases he
      obtain ⟨c, hc, hrep⟩ := hr j a ha
      exact ⟨c, by rw [Em.set_same]; simp only [Nat.zero_add]; rw [World.cell?_alloc_mark]; exact hc, tr.rep hrep⟩
  · intro o cs' j ho hj
    rcases get_push ho with ⟨hlt, ho'⟩ | ⟨rfl, he⟩
    · rw [Em.set_lt _ _ hlt] at hj ⊢
      have := s.room o cs' j ho' hj
      rw [alloc_lt (a := ⟨_, _, none⟩) (s.blk_lt ho'), alloc_frozen (a := ⟨_, _, none⟩) (s.blk_lt ho')]
      exact this
    · rw [Em.set_same] at hj ⊢
      simp only [Nat.zero_add] at hj ⊢
      rw [World.cell?_alloc_mark]
      obtain ⟨lo, hi⟩ := fz
      rw [World.frozen?_alloc_mark]
      have := hfz j hj
      refine ⟨by simp; exact hj, ?_⟩
      simp only [Bool.and_eq_false_iff, decide_eq_false_iff_not]
      simp only at this
      omega
  · intro o es ho
    rcases get_push ho with ⟨hlt, ho'⟩ | ⟨rfl, he⟩
    · rw [Em.set_lt _ _ hlt]
      obtain ⟨hb, ents, clock, he, hl', hrep⟩ := s.map o es ho'
      refine ⟨hb, ents, clock, ?_, hl', fun i a b e hi hj => ⟨tr.rep (hrep i a b e hi hj).1, tr.rep (hrep i a b e hi hj).2⟩⟩
      rw [Below.heap_alloc _ _ _ (s.map_lt ho')]; exact he
    · cases he
  · intro o o' cs₁ cs₂ hne ho ho' hb
    rcases get_push ho with ⟨hlt, h1⟩ | ⟨rfl, _⟩ <;> rcases get_push ho' with ⟨hlt', h2⟩ | ⟨rfl, _⟩
    · rw [Em.set_lt _ _ hlt, Em.set_lt _ _ hlt'] at hb; exact s.disj o o' cs₁ cs₂ hne h1 h2 hb
    · rw [Em.set_lt _ _ hlt, Em.set_same] at hb; have := s.blk_lt h1; simp at hb; omega
    · rw [Em.set_lt _ _ hlt', Em.set_same] at hb; have := s.blk_lt h2; simp at hb; omega
    · exact absurd rfl hne
  · intro o o' es es' hne ho ho'
    rcases get_push ho with ⟨hlt, h1⟩ | ⟨_, he⟩
    · rcases get_push ho' with ⟨hlt', h2⟩ | ⟨_, he⟩
      · rw [Em.set_lt _ _ hlt, Em.set_lt _ _ hlt']; exact s.mdisj o o' es es' hne h1 h2
      · cases he
    · cases he
  · intro p o t ho
    rcases get_push ho with ⟨_, ho'⟩ | ⟨_, he⟩
    · obtain ⟨h1, h2, n, h3⟩ := s.tag p o t ho'
      rw [Em.set_lt _ _ h1]
      exact ⟨by simp; omega, h2, n, by rw [shape_below ((Below.refl w.heap.size w).alloc (Nat.le_refl _) _) (shape_lt h3)]; exact h3⟩
    · cases he

theorem Sim.alloc (s : Sim B β H w) {w' : World} (arr : Array Value) (E : TypeId) (cs : List AV) (hl : cs.length ≤ arr.size)
    (hr : ∀ (j : Nat) (a : AV), cs[j]? = some a → ∃ c, arr[j]? = some c ∧ RepH β H w a c) (hw : w' = w.alloc (.cells arr E)) :
    Sim B (Em.set β H.length ⟨w.heap.size, 0, arr.size⟩) (H ++ [.cells cs]) w' ∧ Tr B β H w (Em.set β H.length ⟨w.heap.size, 0, arr.size⟩) (H ++ [.cells cs]) w' :=
  s.allocM arr E (0, 0) (fun i _ => by simp) cs hl hr hw

/-- A place that is kept for later. -/
theorem Sim.dead (s : Sim B β H w) : Sim B β (H ++ [.dead]) w ∧ Tr B β H w β (H ++ [.dead]) w := by
  have hown : ∀ b i, Owned β (H ++ [.dead]) b i ↔ Owned β H b i := fun b i => by
    constructor
    · rintro ⟨o, cs, ho, r⟩
      rcases get_push ho with ⟨_, ho'⟩ | ⟨_, he⟩
      · exact ⟨o, cs, ho', r⟩
      · cases he
    · rintro ⟨o, cs, ho, r⟩
      exact ⟨o, cs, by rw [List.getElem?_append_left (getElem?_lt ho)]; exact ho, r⟩
  have tr : Tr B β H w β (H ++ [.dead]) w := ⟨Below.refl _ _, by simp, fun _ _ => rfl, fun b i c h => ⟨h.1, fun x => h.2 ((hown b i).1 x)⟩⟩
  refine ⟨⟨s.size, ?_, ?_, ?_, ?_, ?_, ?_, ?_⟩, tr⟩
  · intro o cs ho
    rcases get_push ho with ⟨_, ho'⟩ | ⟨_, he⟩
    · exact s.base o cs ho'
    · cases he
  · intro o cs j a ho ha
    rcases get_push ho with ⟨_, ho'⟩ | ⟨_, he⟩
    · obtain ⟨c, hc, hr⟩ := s.cell o cs j a ho' ha; exact ⟨c, hc, tr.rep hr⟩
    · cases he
  · intro o cs j ho hj
    rcases get_push ho with ⟨_, ho'⟩ | ⟨_, he⟩
    · exact s.room o cs j ho' hj
    · cases he
  · intro o es ho
    rcases get_push ho with ⟨_, ho'⟩ | ⟨_, he⟩
    · obtain ⟨hb, ents, clock, he, hl', hrep⟩ := s.map o es ho'
      exact ⟨hb, ents, clock, he, hl', fun i a b e hi hj => ⟨tr.rep (hrep i a b e hi hj).1, tr.rep (hrep i a b e hi hj).2⟩⟩
    · cases he
  · intro o o' cs₁ cs₂ hne ho ho' hb
    rcases get_push ho with ⟨_, h1⟩ | ⟨_, he⟩
    · rcases get_push ho' with ⟨_, h2⟩ | ⟨_, he⟩
      · exact s.disj o o' cs₁ cs₂ hne h1 h2 hb
      · cases he
    · cases he
  · intro o o' es es' hne ho ho'
    rcases get_push ho with ⟨_, h1⟩ | ⟨_, he⟩
    · rcases get_push ho' with ⟨_, h2⟩ | ⟨_, he⟩
      · exact s.mdisj o o' es es' hne h1 h2
      · cases he
    · cases he
  · intro p o t ho
    rcases get_push ho with ⟨_, ho'⟩ | ⟨_, he⟩
    · obtain ⟨h1, h2⟩ := s.tag p o t ho'
      exact ⟨by simp; omega, h2⟩
    · cases he

theorem get_set {o o' : Nat} {x y : AObj} (h : (H.set o x)[o']? = some y) : (o' = o ∧ x = y) ∨ (o' ≠ o ∧ H[o']? = some y) := by
  by_cases e : o' = o
  · subst e
    rw [List.getElem?_set_self'] at h
    cases hh : H[o']? with
    | none => simp [hh] at h
    | some z => simp [hh] at h; exact .inl ⟨rfl, h⟩
  · rw [List.getElem?_set_ne (fun h => e h.symm)] at h; exact .inr ⟨e, h⟩

/-- The objects are the same, but for what one of them holds. -/
theorem owned_set {o : Nat} {cs cs' : List AV} (ho : H[o]? = some (.cells cs)) (b i : Nat) : Owned β (H.set o (.cells cs')) b i ↔ Owned β H b i := by
  constructor
  · rintro ⟨p, ds, hp, r⟩
    rcases get_set hp with ⟨rfl, _⟩ | ⟨_, hp'⟩
    · exact ⟨p, cs, ho, r⟩
    · exact ⟨p, ds, hp', r⟩
  · rintro ⟨p, ds, hp, r⟩
    by_cases e : p = o
    · subst e; exact ⟨p, cs', by rw [List.getElem?_set_self (getElem?_lt hp)], r⟩
    · exact ⟨p, ds, by rw [List.getElem?_set_ne (fun h => e h.symm)]; exact hp, r⟩

theorem owned_dead {o : Nat} (b i : Nat) (h : Owned β (H.set o .dead) b i) : Owned β H b i := by
  obtain ⟨p, ds, hp, r⟩ := h
  rcases get_set hp with ⟨_, he⟩ | ⟨_, hp'⟩
  · cases he
  · exact ⟨p, ds, hp', r⟩

/-- One cell of an object is written. -/
theorem Sim.store (s : Sim B β H w) {o : Nat} {cs : List AV} (ho : H[o]? = some (.cells cs)) {j : Nat} (hj : j < cs.length) {a : AV} {c : Value} (hr : RepH β H w a c) {w' : World}
    (hw : w' = w.setCell ⟨(β o).blk, (β o).off + j, none⟩ c) :
    Sim B β (H.set o (.cells (cs.set j a))) w' ∧ Tr B β H w β (H.set o (.cells (cs.set j a))) w' := by
  subst hw
  have hb := s.base o cs ho
  have hroom := s.room o cs j ho (by omega)
  have tr : Tr B β H w β (H.set o (.cells (cs.set j a))) (w.setCell ⟨(β o).blk, (β o).off + j, none⟩ c) := by
    refine ⟨(Below.refl B w).setCell (p := ⟨(β o).blk, (β o).off + j, none⟩) hb.1 c, by simp, fun _ _ => rfl, fun b i c' h => ⟨?_, fun x => h.2 ((owned_set ho b i).1 x)⟩⟩
    rw [set_other]
    · exact h.1
    · intro e; injection e with e1 e2; exact h.2 ⟨o, cs, ho, e1, by omega, by omega⟩
  have hsame : ∀ o' cs' j', H[o']? = some (.cells cs') → j' < (β o').tot → o' ≠ o ∨ j' ≠ j → (w.setCell ⟨(β o).blk, (β o).off + j, none⟩ c).cell? ⟨(β o').blk, (β o').off + j', none⟩ = w.cell? ⟨(β o').blk, (β o').off + j', none⟩ := by
    intro o' cs' j' ho' hj' hne
    rw [set_other]
    intro e; injection e with e1 e2
    by_cases heq : o' = o
    · subst heq; rcases hne with hne | hne
      · exact hne rfl
      · omega
    · exact s.disj o' o cs' cs heq ho' ho e1.symm
  refine ⟨⟨by simpa [World.setCell] using s.size, ?_, ?_, ?_, ?_, ?_, ?_, ?_⟩, tr⟩
  · intro o' cs' ho'
    have hsz : (w.setCell ⟨(β o).blk, (β o).off + j, none⟩ c).heap.size = w.heap.size := by simp [World.setCell]
    rw [hsz]
    rcases get_set ho' with ⟨rfl, he⟩ | ⟨_, h⟩
    · cases he; simpa using hb
    · exact s.base o' cs' h
  · intro o' cs' j' a' ho' ha'
    rcases get_set ho' with ⟨rfl, he⟩ | ⟨hne, h⟩
    · cases he
      by_cases e : j' = j
      · subst e
        rw [List.getElem?_set_self hj] at ha'; cases ha'
        obtain ⟨c0, hc0⟩ := Option.isSome_iff_exists.1 hroom.1
        exact ⟨c, set_same hc0, tr.rep hr⟩
      · rw [List.getElem?_set_ne (fun h => e h.symm)] at ha'
        obtain ⟨c', hc', hr'⟩ := s.cell o' cs j' a' ho ha'
        exact ⟨c', by rw [hsame o' cs j' ho (by have := getElem?_lt ha'; omega) (.inr e)]; exact hc', tr.rep hr'⟩
    · obtain ⟨c', hc', hr'⟩ := s.cell o' cs' j' a' h ha'
      exact ⟨c', by rw [hsame o' cs' j' h (by have := getElem?_lt ha'; have := (s.base o' cs' h).2.2; omega) (.inl hne)]; exact hc', tr.rep hr'⟩
  · intro o' cs' j' ho' hj'
    obtain ⟨cs'', ho''⟩ : ∃ cs'', H[o']? = some (.cells cs'') := by
      rcases get_set ho' with ⟨rfl, he⟩ | ⟨hne, h⟩
      · exact ⟨cs, ho⟩
      · exact ⟨cs', h⟩
    have h0 := s.room o' cs'' j' ho'' hj'
    refine ⟨?_, by simpa using h0.2⟩
    by_cases e : o' = o ∧ j' = j
    · obtain ⟨rfl, rfl⟩ := e
      obtain ⟨c0, hc0⟩ := Option.isSome_iff_exists.1 h0.1
      rw [set_same hc0]; rfl
    · rw [hsame o' cs'' j' ho'' hj' (by omega)]; exact h0.1
  · intro o' es ho'
    rcases get_set ho' with ⟨_, he⟩ | ⟨hne, h⟩
    · cases he
    · obtain ⟨hb', ents, clock, he, hl', hrep⟩ := s.map o' es h
      refine ⟨hb', ents, clock, ?_, hl', fun i a b e hi hj => ⟨tr.rep (hrep i a b e hi hj).1, tr.rep (hrep i a b e hi hj).2⟩⟩
      rw [Below.heap_setCell]
      · exact he
      · intro e
        obtain ⟨c0, hc0⟩ := Option.isSome_iff_exists.1 hroom.1
        simp only at e
        simp [World.cell?, ← e, he] at hc0
  · intro o₁ o₂ cs₁ cs₂ hne h1 h2 hb'
    have : ∀ {o' : Nat} {cs' : List AV}, (H.set o (.cells (cs.set j a)))[o']? = some (.cells cs') → ∃ cs'', H[o']? = some (AObj.cells cs'') := by
      intro o' cs' h
      rcases get_set h with ⟨rfl, _⟩ | ⟨_, h⟩
      · exact ⟨cs, ho⟩
      · exact ⟨cs', h⟩
    obtain ⟨d1, h1'⟩ := this h1
    obtain ⟨d2, h2'⟩ := this h2
    exact s.disj o₁ o₂ d1 d2 hne h1' h2' hb'
  · intro o₁ o₂ es₁ es₂ hne h1 h2
    rcases get_set h1 with ⟨_, he⟩ | ⟨_, h1⟩
    · cases he
    · rcases get_set h2 with ⟨_, he⟩ | ⟨_, h2⟩
      · cases he
      · exact s.mdisj o₁ o₂ es₁ es₂ hne h1 h2
  · intro p o' t hp
    rcases get_set hp with ⟨_, he⟩ | ⟨_, hp'⟩
    · cases he
    · obtain ⟨h1, h2, n, h3⟩ := s.tag p o' t hp'
      exact ⟨by simpa using h1, h2, n, by rw [shape_setCell]; exact h3⟩

/-- An object is let go: its cells are only read from now on. -/
theorem Sim.kill (s : Sim B β H w) (o : Nat) : Sim B β (H.set o .dead) w ∧ Tr B β H w β (H.set o .dead) w := by
  have tr : Tr B β H w β (H.set o .dead) w := ⟨Below.refl _ _, by simp, fun _ _ => rfl, fun b i c h => ⟨h.1, fun x => h.2 (owned_dead b i x)⟩⟩
  refine ⟨⟨s.size, ?_, ?_, ?_, ?_, ?_, ?_, ?_⟩, tr⟩
  · intro o' cs ho
    rcases get_set ho with ⟨_, he⟩ | ⟨_, h⟩
    · cases he
    · exact s.base o' cs h
  · intro o' cs j a ho ha
    rcases get_set ho with ⟨_, he⟩ | ⟨_, h⟩
    · cases he
    · obtain ⟨c, hc, hr⟩ := s.cell o' cs j a h ha; exact ⟨c, hc, tr.rep hr⟩
  · intro o' cs j ho hj
    rcases get_set ho with ⟨_, he⟩ | ⟨_, h⟩
    · cases he
    · exact s.room o' cs j h hj
  · intro o' es ho
    rcases get_set ho with ⟨_, he⟩ | ⟨_, h⟩
    · cases he
    · obtain ⟨hb, ents, clock, he, hl', hrep⟩ := s.map o' es h
      exact ⟨hb, ents, clock, he, hl', fun i a b e hi hj => ⟨tr.rep (hrep i a b e hi hj).1, tr.rep (hrep i a b e hi hj).2⟩⟩
  · intro o₁ o₂ cs₁ cs₂ hne h1 h2 hb
    rcases get_set h1 with ⟨_, he⟩ | ⟨_, h1⟩
    · cases he
    · rcases get_set h2 with ⟨_, he⟩ | ⟨_, h2⟩
      · cases he
      · exact s.disj o₁ o₂ cs₁ cs₂ hne h1 h2 hb
  · intro o₁ o₂ es₁ es₂ hne h1 h2
    rcases get_set h1 with ⟨_, he⟩ | ⟨_, h1⟩
    · cases he
    · rcases get_set h2 with ⟨_, he⟩ | ⟨_, h2⟩
      · cases he
      · exact s.mdisj o₁ o₂ es₁ es₂ hne h1 h2
  · intro p o' t hp
    rcases get_set hp with ⟨_, he⟩ | ⟨_, hp'⟩
    · cases he
    · obtain ⟨h1, h2⟩ := s.tag p o' t hp'
      exact ⟨by simpa using h1, h2⟩

/-- An object's room is told: cells of which nothing is known. -/
theorem Sim.reveal (s : Sim B β H w) {o : Nat} {cs : List AV} (ho : H[o]? = some (.cells cs)) (k : Nat) (hk : cs.length + k ≤ (β o).tot) :
    Sim B β (H.set o (.cells (cs ++ List.replicate k .any))) w ∧ Tr B β H w β (H.set o (.cells (cs ++ List.replicate k .any))) w := by
  have hb := s.base o cs ho
  have tr : Tr B β H w β (H.set o (.cells (cs ++ List.replicate k .any))) w := ⟨Below.refl _ _, by simp, fun _ _ => rfl, fun b i c h => ⟨h.1, fun x => h.2 ((owned_set ho b i).1 x)⟩⟩
  have back : ∀ {o' : Nat} {cs' : List AV}, (H.set o (.cells (cs ++ List.replicate k .any)))[o']? = some (.cells cs') → ∃ cs'', H[o']? = some (AObj.cells cs'') := by
    intro o' cs' h
    rcases get_set h with ⟨rfl, _⟩ | ⟨_, h⟩
    · exact ⟨cs, ho⟩
    · exact ⟨cs', h⟩
  refine ⟨⟨s.size, ?_, ?_, ?_, ?_, ?_, ?_, ?_⟩, tr⟩
  · intro o' cs' ho'
    rcases get_set ho' with ⟨rfl, he⟩ | ⟨_, h⟩
    · cases he; simp; exact ⟨hb.1, hb.2.1, hk⟩
    · exact s.base o' cs' h
  · intro o' cs' j a ho' ha
    rcases get_set ho' with ⟨rfl, he⟩ | ⟨_, h⟩
    · cases he
      rcases Nat.lt_or_ge j cs.length with hj | hj
      · rw [List.getElem?_append_left hj] at ha
        obtain ⟨c, hc, hr⟩ := s.cell o' cs j a ho ha; exact ⟨c, hc, tr.rep hr⟩
      · rw [List.getElem?_append_right hj] at ha
        have hlt := getElem?_lt ha
        simp at hlt
        have : a = .any := by rw [List.getElem?_replicate] at ha; split at ha <;> simp_all
        subst this
        obtain ⟨c0, hc0⟩ := Option.isSome_iff_exists.1 (s.room o' cs j ho (by omega)).1
        exact ⟨c0, hc0, .any _⟩
    · obtain ⟨c, hc, hr⟩ := s.cell o' cs' j a h ha; exact ⟨c, hc, tr.rep hr⟩
  · intro o' cs' j ho' hj
    obtain ⟨cs'', h⟩ := back ho'
    exact s.room o' cs'' j h hj
  · intro o' es ho'
    rcases get_set ho' with ⟨_, he⟩ | ⟨_, h⟩
    · cases he
    · obtain ⟨hb, ents, clock, he, hl', hrep⟩ := s.map o' es h
      exact ⟨hb, ents, clock, he, hl', fun i a b e hi hj => ⟨tr.rep (hrep i a b e hi hj).1, tr.rep (hrep i a b e hi hj).2⟩⟩
  · intro o₁ o₂ cs₁ cs₂ hne h1 h2 hb
    obtain ⟨d1, h1⟩ := back h1
    obtain ⟨d2, h2⟩ := back h2
    exact s.disj o₁ o₂ d1 d2 hne h1 h2 hb
  · intro o₁ o₂ es₁ es₂ hne h1 h2
    rcases get_set h1 with ⟨_, he⟩ | ⟨_, h1⟩
    · cases he
    · rcases get_set h2 with ⟨_, he⟩ | ⟨_, h2⟩
      · cases he
      · exact s.mdisj o₁ o₂ es₁ es₂ hne h1 h2
  · intro p o' t hp
    rcases get_set hp with ⟨_, he⟩ | ⟨_, hp'⟩
    · cases he
    · obtain ⟨h1, h2⟩ := s.tag p o' t hp'
      exact ⟨by simpa using h1, h2⟩

/-- A part of an object that is let go becomes an object of its own (at the end of the list), in the same place. -/
theorem Sim.move (s : Sim B β H w) {o : Nat} {cs : List AV} (ho : H[o]? = some (.cells cs)) (k : Nat) (ds : List AV)
    (hd : ∀ (j : Nat) (a : AV), ds[j]? = some a → cs[k + j]? = some a) (T : Nat) (hk : ds.length ≤ T) (hkl : k + T ≤ (β o).tot) :
    Sim B (Em.set β H.length ⟨(β o).blk, (β o).off + k, T⟩) (H.set o .dead ++ [.cells ds]) w ∧
    Tr B β H w (Em.set β H.length ⟨(β o).blk, (β o).off + k, T⟩) (H.set o .dead ++ [.cells ds]) w := by
  obtain ⟨s1, t1⟩ := s.kill o
  have hlen : (H.set o .dead).length = H.length := by simp
  have holt := getElem?_lt ho
  have hb := s.base o cs ho
  have tr : Tr B β H w (Em.set β H.length ⟨(β o).blk, (β o).off + k, T⟩) (H.set o .dead ++ [.cells ds]) w := by
    refine ⟨Below.refl _ _, by simp, fun o' ho' => Em.set_lt _ _ ho', fun b i c h => ⟨h.1, ?_⟩⟩
    rintro ⟨p, es, hp, hb', h1, h2⟩
    rcases get_push hp with ⟨hlt, hp'⟩ | ⟨hp', _⟩
    · rw [hlen] at hlt
      rw [Em.set_lt _ _ hlt] at hb' h1 h2
      exact h.2 (owned_dead b i ⟨p, es, hp', hb', h1, h2⟩)
    · rw [hlen] at hp'; subst hp'
      rw [Em.set_same] at hb' h1 h2
      simp only at hb' h1 h2
      exact h.2 ⟨o, cs, ho, hb', by omega, by omega⟩
  refine ⟨⟨s.size, ?_, ?_, ?_, ?_, ?_, ?_, ?_⟩, tr⟩
  · intro p es hp
    rcases get_push hp with ⟨hlt, hp'⟩ | ⟨hp', he⟩
    · rw [hlen] at hlt; rw [Em.set_lt _ _ hlt]; exact s1.base p es hp'
    · rw [hlen] at hp'; subst hp'; cases he; rw [Em.set_same]; exact ⟨hb.1, hb.2.1, by simp; omega⟩
  · intro p es j a hp ha
    rcases get_push hp with ⟨hlt, hp'⟩ | ⟨hp', he⟩
    · rw [hlen] at hlt; rw [Em.set_lt _ _ hlt]
      rcases get_set hp' with ⟨_, he⟩ | ⟨_, hp''⟩
      · cases he
      · obtain ⟨c, hc, hr⟩ := s.cell p es j a hp'' ha; exact ⟨c, hc, tr.rep hr⟩
    · rw [hlen] at hp'; subst hp'; cases he; rw [Em.set_same]
      obtain ⟨c, hc, hr⟩ := s.cell o cs (k + j) a ho (hd j a ha)
      exact ⟨c, by simpa [Nat.add_assoc] using hc, tr.rep hr⟩
  · intro p es j hp hj
    rcases get_push hp with ⟨hlt, hp'⟩ | ⟨hp', he⟩
    · rw [hlen] at hlt; rw [Em.set_lt _ _ hlt] at hj ⊢; exact s1.room p es j hp' hj
    · rw [hlen] at hp'; subst hp'; rw [Em.set_same] at hj ⊢
      have := s.room o cs (k + j) ho (by simp only at hj; omega)
      simpa [Nat.add_assoc] using this
  · intro p es hp
    rcases get_push hp with ⟨hlt, hp'⟩ | ⟨_, he⟩
    · rw [hlen] at hlt; rw [Em.set_lt _ _ hlt]
      rcases get_set hp' with ⟨_, he⟩ | ⟨_, hp''⟩
      · cases he
      · obtain ⟨hb', ents, clock, he, hl', hrep⟩ := s.map p es hp''
        exact ⟨hb', ents, clock, he, hl', fun i a b e hi hj => ⟨tr.rep (hrep i a b e hi hj).1, tr.rep (hrep i a b e hi hj).2⟩⟩
    · cases he
  · intro o₁ o₂ cs₁ cs₂ hne h1 h2 hbb
    rcases get_push h1 with ⟨l1, h1'⟩ | ⟨e1, _⟩ <;> rcases get_push h2 with ⟨l2, h2'⟩ | ⟨e2, _⟩
    · rw [hlen] at l1 l2; rw [Em.set_lt _ _ l1, Em.set_lt _ _ l2] at hbb; exact s1.disj o₁ o₂ cs₁ cs₂ hne h1' h2' hbb
    · rw [hlen] at l1 e2; subst e2
      rw [Em.set_lt _ _ l1, Em.set_same] at hbb
      rcases get_set h1' with ⟨_, he⟩ | ⟨hne1, h1''⟩
      · cases he
      · exact s.disj o₁ o cs₁ cs hne1 h1'' ho hbb
    · rw [hlen] at l2 e1; subst e1
      rw [Em.set_lt _ _ l2, Em.set_same] at hbb
      rcases get_set h2' with ⟨_, he⟩ | ⟨hne2, h2''⟩
      · cases he
      · exact s.disj o₂ o cs₂ cs hne2 h2'' ho hbb.symm
    · exact absurd (e1.trans e2.symm) hne
  · intro o₁ o₂ es₁ es₂ hne h1 h2
    rcases get_push h1 with ⟨l1, h1⟩ | ⟨_, he⟩
    · rcases get_push h2 with ⟨l2, h2⟩ | ⟨_, he⟩
      · rw [hlen] at l1 l2; rw [Em.set_lt _ _ l1, Em.set_lt _ _ l2]; exact s1.mdisj o₁ o₂ es₁ es₂ hne h1 h2
      · cases he
    · cases he
  · intro p q t hp
    rcases get_push hp with ⟨l1, h1⟩ | ⟨_, he⟩
    · obtain ⟨k1, k2, n, k3⟩ := s1.tag p q t h1
      rw [Em.set_lt _ _ (by rw [hlen] at k1; exact k1)]
      exact ⟨by simp at k1 ⊢; omega, k2, n, k3⟩
    · cases he

end
end Go.Ab

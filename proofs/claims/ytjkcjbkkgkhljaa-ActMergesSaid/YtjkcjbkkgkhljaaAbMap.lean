/- A part of a law's proof: AbMap. -/
import Derived.MapFrom
import Derived.MapKept
import Derived.Test.YtjkcjbkkgkhljaaAbMSound4
set_option linter.constructorNameAsVariable false
/-
  Maps: what operations on them give.
-/
namespace Go.Ab
open Go Go.RowKit
set_option linter.unusedVariables false
set_option linter.unusedSimpArgs false
section
variable {P : Program} {B : Nat} {β : Lies} {H : Heap} {w : World}
theorem Sim.newMap (s : Sim B β H w) :
    Sim B (Em.set β H.length ⟨w.heap.size, 0, 0⟩) (H ++ [.map []]) (w.alloc (.map #[] 0)) ∧ Tr B β H w (Em.set β H.length ⟨w.heap.size, 0, 0⟩) (H ++ [.map []]) (w.alloc (.map #[] 0)) := by
  have tr : Tr B β H w (Em.set β H.length ⟨w.heap.size, 0, 0⟩) (H ++ [.map []]) (w.alloc (.map #[] 0)) := by
    refine ⟨(Below.refl B w).alloc s.size.le _, by simp, fun o ho => Em.set_lt _ _ ho, fun b i c h => ⟨⟨?_, h.1.2⟩, ?_⟩, rfl, fun b hb hn => ⟨Below.heap_alloc _ _ _ hb, fun h => hn (live_push (fun _ => by show w.heap.size ≠ b; omega) h)⟩⟩
    · rw [alloc_lt (a := ⟨b, i, none⟩) h.lt]; exact h.1.1
    · rintro ⟨o, cs', ho, hb, h1, h2⟩
      rcases get_push ho with ⟨hlt, ho'⟩ | ⟨_, he⟩
      · rw [Em.set_lt _ _ hlt] at hb h1 h2; exact h.2 ⟨o, cs', ho', hb, h1, h2⟩
      · cases he
  refine ⟨⟨s.size.go tr.below, fun p ds hp i => (get_push hp).elim (fun h => by rw [Em.set_lt _ _ h.1]; exact s.nodd p ds h.2 i) (fun h => by cases h.2), ?_, ?_, ?_, ?_, ?_, ?_, ?_, ?_⟩, tr⟩
  · intro o cs' ho
    rcases get_push ho with ⟨hlt, ho'⟩ | ⟨_, he⟩
    · rw [Em.set_lt _ _ hlt]; have := s.base o cs' ho'; exact ⟨this.1, by simp; omega, this.2.2⟩
    · cases he
  · intro o cs' j a ho ha
    rcases get_push ho with ⟨hlt, ho'⟩ | ⟨_, he⟩
    · rw [Em.set_lt _ _ hlt]
      obtain ⟨c, hc, hrep⟩ := s.cell o cs' j a ho' ha
      exact ⟨c, by rw [alloc_lt (a := ⟨_, _, none⟩) (s.blk_lt ho')]; exact hc, tr.rep hrep⟩
    · cases he
  · intro o cs' j ho hj
    rcases get_push ho with ⟨hlt, ho'⟩ | ⟨_, he⟩
    · rw [Em.set_lt _ _ hlt] at hj ⊢
      have := s.room o cs' j ho' hj
      rw [alloc_lt (a := ⟨_, _, none⟩) (s.blk_lt ho'), alloc_frozen (a := ⟨_, _, none⟩) (s.blk_lt ho')]
      exact this
    · cases he
  · intro o es ho
    rcases get_push ho with ⟨hlt, ho'⟩ | ⟨rfl, he⟩
    · rw [Em.set_lt _ _ hlt]
      obtain ⟨hb, ents, clock, he, hl', hrep⟩ := s.map o es ho'
      refine ⟨hb, ents, clock, ?_, hl', fun i a b e hi hj => ⟨tr.rep (hrep i a b e hi hj).1, tr.rep (hrep i a b e hi hj).2⟩⟩
      rw [Below.heap_alloc _ _ _ (s.map_lt ho')]; exact he
    · cases he
      rw [Em.set_same]
      refine ⟨s.size.le, #[], 0, ?_, rfl, fun i a b e hi _ => by simp at hi⟩
      show (w.heap.push (.map #[] 0))[w.heap.size]? = _
      simp
  · intro o o' cs₁ cs₂ hne ho ho' hb
    rcases get_push ho with ⟨hlt, h1⟩ | ⟨_, he⟩
    · rcases get_push ho' with ⟨hlt', h2⟩ | ⟨_, he⟩
      · rw [Em.set_lt _ _ hlt, Em.set_lt _ _ hlt'] at hb; exact s.disj o o' cs₁ cs₂ hne h1 h2 hb
      · cases he
    · cases he
  · intro o o' es es' hne ho ho'
    rcases get_push ho with ⟨hlt, h1⟩ | ⟨rfl, _⟩ <;> rcases get_push ho' with ⟨hlt', h2⟩ | ⟨rfl, _⟩
    · rw [Em.set_lt _ _ hlt, Em.set_lt _ _ hlt']; exact s.mdisj o o' es es' hne h1 h2
    · rw [Em.set_lt _ _ hlt, Em.set_same]; have := s.map_lt h1; simp; omega
    · rw [Em.set_lt _ _ hlt', Em.set_same]; have := s.map_lt h2; simp; omega
    · exact absurd rfl hne
  · intro p o t ho
    rcases get_push ho with ⟨_, ho'⟩ | ⟨_, he⟩
    · obtain ⟨h1, h2, n, h3⟩ := s.tag p o t ho'
      rw [Em.set_lt _ _ h1]
      exact ⟨by simp; omega, h2, n, by rw [shape_below ((Below.refl w.heap.size w).alloc (Nat.le_refl _) _) (shape_lt h3)]; exact h3⟩
    · cases he
  · intro o cs₁ t' n ho hsh
    rcases get_push ho with ⟨hlt, ho'⟩ | ⟨_, he⟩
    · rw [Em.set_lt _ _ hlt] at hsh ⊢
      rw [shape_below ((Below.refl w.heap.size w).alloc (Nat.le_refl _) _) (s.blk_lt ho')] at hsh
      rw [alloc_frozen (a := ⟨_, _, none⟩) (s.blk_lt ho')]
      exact s.clean o cs₁ t' n ho' hsh
    · cases he
def mapped (w : World) (r : Nat) (ents : Array MapEntry) (clock : Nat) : World := { w with heap := w.heap.setIfInBounds r (.map ents clock) }
section
variable {r : Nat} {ents ents' : Array MapEntry} {clock clock' : Nat}
theorem mapped_heap (h : w.heap[r]? = some (.map ents clock)) (k : Nat) : (mapped w r ents' clock').heap[k]? = if k = r then some (.map ents' clock') else w.heap[k]? := by
  have hr : r < w.heap.size := by
    rcases Nat.lt_or_ge r w.heap.size with h' | h'
    · exact h'
    · simp [Array.getElem?_eq_none h'] at h
  simp only [mapped, Array.getElem?_setIfInBounds]
  by_cases e : r = k
  · subst e; simp [hr]
  · rw [if_neg e, if_neg (fun h => e h.symm)]
theorem mapped_cell (h : w.heap[r]? = some (.map ents clock)) (a : Addr) : (mapped w r ents' clock').cell? a = w.cell? a := by
  unfold World.cell?
  rw [mapped_heap h]
  by_cases e : a.block = r
  · rw [if_pos e, e, h]
  · rw [if_neg e]
theorem mapped_frozen (h : w.heap[r]? = some (.map ents clock)) (a : Addr) : (mapped w r ents' clock').frozen? a = w.frozen? a := by
  unfold World.frozen?
  rw [mapped_heap h]
  by_cases e : a.block = r
  · rw [if_pos e, e, h]
  · rw [if_neg e]
theorem mapped_shape (h : w.heap[r]? = some (.map ents clock)) (k : Nat) : (mapped w r ents' clock').shape? k = w.shape? k := by
  unfold World.shape?
  rw [mapped_heap h]
  by_cases e : k = r
  · rw [if_pos e, e, h]
  · rw [if_neg e]
end
theorem Sim.setMap (s : Sim B β H w) {o : Nat} {es es' : List (AV × AV)} {ents ents' : Array MapEntry} {clock clock' : Nat} (ho : H[o]? = some (.map es)) (hb : w.heap[(β o).blk]? = some (.map ents clock)) (hl : es'.length = ents'.size)
    (hr : ∀ (i : Nat) (a b : AV) (e : MapEntry), es'[i]? = some (a, b) -> ents'[i]? = some e -> RepH β H w a e.key ∧ RepH β H w b e.val) :
    Sim B β (H.set o (.map es')) (mapped w (β o).blk ents' clock') ∧ Tr B β H w β (H.set o (.map es')) (mapped w (β o).blk ents' clock') := by
  have hget : ∀ {p : Nat} {x : AObj}, (H.set o (.map es'))[p]? = some x -> (p = o ∧ x = .map es') ∨ (p ≠ o ∧ H[p]? = some x) := by
    intro p x hx
    rw [List.getElem?_set] at hx
    by_cases e : o = p
    · subst e
      rw [if_pos rfl] at hx
      split at hx
      · cases hx; exact .inl ⟨rfl, rfl⟩
      · cases hx
    · rw [if_neg e] at hx; exact .inr ⟨fun h => e h.symm, hx⟩
  have hB := (s.map o es ho).1
  have tr : Tr B β H w β (H.set o (.map es')) (mapped w (β o).blk ents' clock') := by
    refine ⟨⟨rfl, rfl, rfl, by simp [mapped], fun k hk => ?_⟩, by simp, fun _ _ => rfl, fun b i c h => ⟨⟨by rw [mapped_cell hb]; exact h.1.1, h.1.2⟩, ?_⟩, rfl, fun b hb' hn => ⟨by rw [mapped_heap hb, if_neg (fun e => hn ⟨o, _, ho, rfl, by omega⟩)], fun h => hn (live_set ho (fun _ => rfl) h)⟩⟩
    · rw [mapped_heap hb, if_neg (by omega)]
    · rintro ⟨p, cs, hp, r⟩
      rcases hget hp with ⟨_, he⟩ | ⟨_, hp'⟩
      · cases he
      · exact h.2 ⟨p, cs, hp', r⟩
  have hlt : o < H.length := getElem?_lt ho
  refine ⟨⟨s.size.go tr.below, fun p ds hp => (get_set hp).elim (fun h => by cases h.2) (fun h => s.nodd p ds h.2), ?_, ?_, ?_, ?_, ?_, ?_, ?_, ?_⟩, tr⟩
  · intro p cs hp
    rcases hget hp with ⟨_, he⟩ | ⟨_, hp'⟩
    · cases he
    · have := s.base p cs hp'; exact ⟨this.1, by simp [mapped]; exact this.2.1, this.2.2⟩
  · intro p cs j a hp ha
    rcases hget hp with ⟨_, he⟩ | ⟨_, hp'⟩
    · cases he
    · obtain ⟨c, hc, hrep⟩ := s.cell p cs j a hp' ha
      exact ⟨c, by rw [mapped_cell hb]; exact hc, tr.rep hrep⟩
  · intro p cs j hp hj
    rcases hget hp with ⟨_, he⟩ | ⟨_, hp'⟩
    · cases he
    · rw [mapped_cell hb, mapped_frozen hb]; exact s.room p cs j hp' hj
  · intro p fs hp
    rcases hget hp with ⟨rfl, he⟩ | ⟨hne, hp'⟩
    · cases he
      exact ⟨hB, ents', clock', by rw [mapped_heap hb, if_pos rfl], hl, fun i a b e hi hj => ⟨tr.rep (hr i a b e hi hj).1, tr.rep (hr i a b e hi hj).2⟩⟩
    · obtain ⟨h1, en, cl, he, hl', hrep⟩ := s.map p fs hp'
      refine ⟨h1, en, cl, ?_, hl', fun i a b e hi hj => ⟨tr.rep (hrep i a b e hi hj).1, tr.rep (hrep i a b e hi hj).2⟩⟩
      rw [mapped_heap hb, if_neg (s.mdisj p o fs es hne hp' ho)]; exact he
  · intro p q cs cs' hne hp hq
    rcases hget hp with ⟨_, he⟩ | ⟨_, hp'⟩
    · cases he
    · rcases hget hq with ⟨_, he⟩ | ⟨_, hq'⟩
      · cases he
      · exact s.disj p q cs cs' hne hp' hq'
  · intro p q fs gs hne hp hq
    have key : ∀ {p : Nat} {fs : List (AV × AV)}, (H.set o (.map es'))[p]? = some (.map fs) -> ∃ gs, H[p]? = some (.map gs) := by
      intro p fs hp
      rcases hget hp with ⟨rfl, _⟩ | ⟨_, hp'⟩
      · exact ⟨_, ho⟩
      · exact ⟨_, hp'⟩
    obtain ⟨f1, h1⟩ := key hp
    obtain ⟨g1, h2⟩ := key hq
    exact s.mdisj p q f1 g1 hne h1 h2
  · intro p q t hp
    rcases hget hp with ⟨_, he⟩ | ⟨_, hp'⟩
    · cases he
    · obtain ⟨h1, h2, n, h3⟩ := s.tag p q t hp'
      exact ⟨by simp; exact h1, h2, n, by rw [mapped_shape hb]; exact h3⟩
  · intro q cs t' n hq hsh
    rcases hget hq with ⟨_, he⟩ | ⟨_, hq'⟩
    · cases he
    · rw [mapped_shape hb] at hsh
      rw [mapped_frozen hb]
      exact s.clean q cs t' n hq' hsh
section
variable {n : Nat} {R : Nat -> Nat -> Value -> Prop}
theorem leafT_check {t : TypeId} (h : leafT P t = true) (em : Bool) (d : Nat) (v : Value) : (Instr.checkKey em (d + 1) t v).run P w = .ok () w := by
  unfold leafT at h
  split at h
  · rename_i k hu; simp [Instr.checkKey, run_und hu]
  · rename_i hu; simp [Instr.checkKey, run_und hu]
  · rename_i hu; simp [Instr.checkKey, run_und hu]
  · cases h
theorem leavesEq_len {ks : List Leaf} {as bs : List AV} {r : Bool} (h : leavesEq ks as bs = some r) : as.length = ks.length := (leavesEq_length h).1
theorem checkKey_ok {t : TypeId} {ks : List Leaf} {agg : Bool} (hk : keyT P t = some (ks, agg)) {a : AV} {v : Value} (hr : Rep β n R a v) (he : selfEq ks agg a = true) (em : Bool) : (Instr.checkKey em 10000 t v).run P w = .ok () w := by
  unfold keyT at hk
  split at hk
  · rename_i ks' l hks hl
    split at hk
    · rename_i hc
      cases hk
      obtain ⟨hls, hfk⟩ := hc
      unfold flatKey at hfk
      split at hfk
      · rename_i fs hu
        obtain ⟨m, rfl⟩ := layOf_struct hu hl
        simp only [Option.isSome_some] at he
        unfold selfEq eqF at he
        simp only [if_true] at he
        cases a with
        | agg cs =>
          cases hr with
          | agg hlen hh =>
            rename_i vs
            simp only at he
            cases hq : leavesEq ks cs cs with
            | none => rw [hq] at he; cases he
            | some q =>
              have hcl := leavesEq_len hq
              simp only [laySize] at hls hfk
              rw [show (10000 : Nat) = 9999 + 1 from rfl, Instr.checkKey]
              simp only [Sem.run_bind, run_und hu, Result.andThen_ok]
              rw [<- Array.forIn_toList]
              generalize fs.toList = L at hfk
              induction L with
              | nil => simp
              | cons f L ih =>
                simp only [List.all_cons, Bool.and_eq_true] at hfk
                obtain ⟨⟨⟨⟨h1, h2⟩, h3⟩, h4⟩, h5⟩ := hfk
                have h1' : f.name ≠ "_" := by simpa using h1
                have hlay : layOf P f.type = some none := by
                  cases hq : layOf P f.type with
                  | none => rw [hq] at h3; cases h3
                  | some x => rw [hq] at h3; cases x with
                    | none => rfl
                    | some _ => cases h3
                have hlt : f.offset < cs.length := by rw [Nat.blt_eq] at h4; omega
                obtain ⟨c, hc, _⟩ := part_sound hlay hlen hh (off := f.offset) (a := cs[f.offset]) (by simp [partA, hlt]) w
                simp only [List.forIn_cons, Sem.run_bind, h1', ne_eq, not_false_eq_true, if_true, Result.andThen_ok, hc, leafT_check h2 em 9998 c, Sem.run_pure]
                exact ih h5
        | _ => simp at he
      · exact leafT_check hfk em 9999 v
    · cases hk
  · cases hk
theorem sameNow_leaf {k : Leaf} {a b : AV} {r : Bool} (h : leafEq k a b = some r) {x y : Value} (ha : Rep β n R a x) (hb : Rep β n R b y) {d : TypeDesc} (hd : d = leafDesc k) : Instr.sameNow d x y = some r := by
  subst hd
  unfold leafEq at h
  split at h
  · have := rep_v ha; have := rep_v hb; subst x; subst y
    split at h
    · rename_i hk
      obtain ⟨rfl, rfl⟩ := hk
      simpa [leafDesc, Instr.sameNow] using h
    · cases h
  · have := rep_v ha; have := rep_v hb; subst x; subst y
    simpa [leafDesc, Instr.sameNow] using h
  · have := rep_v ha; have := rep_v hb; subst x; subst y
    simpa [leafDesc, Instr.sameNow] using h
  · cases h
def Found (R : AV -> Value -> Prop) (ents : List MapEntry) (i : Nat) : Option (Nat × AV) -> Option (Nat × Value) -> Prop
  | none, none => True
  | some (j, b), some (j', v) => j = j' ∧ R b v ∧ i <= j ∧ ∃ e, ents[j - i]? = some e
  | _, _ => False
theorem findAsking_ok {t : TypeId} {ks : List Leaf} {l : Option Nat} (hks : leavesOf P 1000 t = some ks) (hl : layOf P t = some l) (hls : laySize l = ks.length) {k : AV} {x : Value} (hk : Rep β n R k x) :
    ∀ {es : List (AV × AV)} {ents : List MapEntry} {i : Nat} {r : Option (Nat × AV)}, es.length = ents.length -> (∀ (i : Nat) (a b : AV) (e : MapEntry), es[i]? = some (a, b) -> ents[i]? = some e -> Rep β n R a e.key ∧ Rep β n R b e.val) ->
      findA ks l.isSome k es i = some r -> ∃ r', (Instr.findAsking t x ents i).run P w = .ok r' w ∧ Found (Rep β n R) ents i r r' := by
  intro es
  induction es with
  | nil =>
    intro ents i r hlen _ h
    simp only [findA, Option.some.injEq] at h
    subst h
    cases ents with
    | nil => exact ⟨none, by simp [Instr.findAsking], trivial⟩
    | cons _ _ => simp at hlen
  | cons p es ih =>
    intro ents i r hlen hrep h
    cases ents with
    | nil => simp at hlen
    | cons e ents =>
      obtain ⟨a, b⟩ := p
      obtain ⟨ra, rb⟩ := hrep 0 a b e rfl rfl
      simp only [findA] at h
      split at h
      · rename_i he
        cases h
        have := eqF_sound hks hl hls he hk ra w
        exact ⟨some (i, e.val), by simp [Instr.findAsking, this], rfl, rb, Nat.le_refl _, e, by simp⟩
      · rename_i he
        have := eqF_sound hks hl hls he hk ra w
        obtain ⟨r', h1, h2⟩ := ih (ents := ents) (i := i + 1) (by simpa using hlen) (fun j a b e h1 h2 => hrep (j + 1) a b e (by simpa using h1) (by simpa using h2)) h
        refine ⟨r', by simp [Instr.findAsking, this, h1], ?_⟩
        cases r with
        | none => cases r' with
          | none => trivial
          | some _ => exact h2.elim
        | some q => cases r' with
          | none => obtain ⟨j, b'⟩ := q; exact h2.elim
          | some q' =>
            obtain ⟨j, b'⟩ := q
            obtain ⟨j', v'⟩ := q'
            obtain ⟨k1, k2, k3, e', k4⟩ := h2
            refine ⟨k1, k2, by omega, e', ?_⟩
            rw [show j - i = (j - (i + 1)) + 1 by omega]
            simpa using k4
      · cases h
theorem leaf_desc {t : TypeId} {ks : List Leaf} {l : Option Nat} (hks : leavesOf P 1000 t = some ks) (hl : layOf P t = some l) {d : TypeDesc} (hu : P.underlying t = some d) (hd : (∃ k, d = .int k) ∨ d = .bool ∨ d = .string) : ∃ k, ks = [k] ∧ d = leafDesc k ∧ l = none := by
  unfold leavesOf at hks
  rw [hu] at hks
  rcases hd with ⟨k, rfl⟩ | rfl | rfl
  · cases hks; exact ⟨.int k, rfl, rfl, layOf_leaf (k := .int k) hu hl⟩
  · cases hks; exact ⟨.bool, rfl, rfl, layOf_leaf (k := .bool) hu hl⟩
  · cases hks; exact ⟨.str, rfl, rfl, layOf_leaf (k := .str) hu hl⟩
theorem findNow_ok {k : Leaf} {d : TypeDesc} (hd : d = leafDesc k) {kv : AV} {x : Value} (hk : Rep β n R kv x) :
    ∀ {es : List (AV × AV)} {ents : List MapEntry} {i : Nat} {r : Option (Nat × AV)}, es.length = ents.length -> (∀ (i : Nat) (a b : AV) (e : MapEntry), es[i]? = some (a, b) -> ents[i]? = some e -> Rep β n R a e.key ∧ Rep β n R b e.val) ->
      findA [k] false kv es i = some r -> ∃ r', Instr.findNow d x ents i = some r' ∧ Found (Rep β n R) ents i r r' := by
  intro es
  induction es with
  | nil =>
    intro ents i r hlen _ h
    simp only [findA, Option.some.injEq] at h
    subst h
    cases ents with
    | nil => exact ⟨none, by simp [Instr.findNow], trivial⟩
    | cons _ _ => simp at hlen
  | cons p es ih =>
    intro ents i r hlen hrep h
    cases ents with
    | nil => simp at hlen
    | cons e ents =>
      obtain ⟨a, b⟩ := p
      obtain ⟨ra, rb⟩ := hrep 0 a b e rfl rfl
      simp only [findA] at h
      split at h
      · rename_i he
        cases h
        have := sameNow_leaf (k := k) (by simpa [eqF] using he) hk ra hd
        exact ⟨some (i, e.val), by simp [Instr.findNow, this], rfl, rb, Nat.le_refl _, e, by simp⟩
      · rename_i he
        have := sameNow_leaf (k := k) (by simpa [eqF] using he) hk ra hd
        obtain ⟨r', h1, h2⟩ := ih (ents := ents) (i := i + 1) (by simpa using hlen) (fun j a b e h1 h2 => hrep (j + 1) a b e (by simpa using h1) (by simpa using h2)) h
        refine ⟨r', by simp [Instr.findNow, this, h1], ?_⟩
        cases r with
        | none => cases r' with
          | none => trivial
          | some _ => exact h2.elim
        | some q => cases r' with
          | none => obtain ⟨j, b'⟩ := q; exact h2.elim
          | some q' =>
            obtain ⟨j, b'⟩ := q
            obtain ⟨j', v'⟩ := q'
            obtain ⟨k1, k2, k3, e', k4⟩ := h2
            refine ⟨k1, k2, by omega, e', ?_⟩
            rw [show j - i = (j - (i + 1)) + 1 by omega]
            simpa using k4
      · cases h
theorem findNow_none {d : TypeDesc} (hd : ∀ x y, Instr.sameNow d x y = none) {x : Value} : ∀ {ents : List MapEntry} {i : Nat}, Instr.findNow d x ents i = none ∨ (ents = [] ∧ Instr.findNow d x ents i = some none) := by
  intro ents i
  cases ents with
  | nil => exact .inr ⟨rfl, by simp [Instr.findNow]⟩
  | cons e es => exact .inl (by simp [Instr.findNow, hd])
theorem findKey_ok {t : TypeId} {ks : List Leaf} {agg : Bool} (hk : keyT P t = some (ks, agg)) {k : AV} {x : Value} (hr : Rep β n R k x) {es : List (AV × AV)} {ents : Array MapEntry} {r : Option (Nat × AV)} (hlen : es.length = ents.size)
    (hrep : ∀ (i : Nat) (a b : AV) (e : MapEntry), es[i]? = some (a, b) -> ents[i]? = some e -> Rep β n R a e.key ∧ Rep β n R b e.val) (h : findA ks agg k es 0 = some r) :
    ∃ r', (Instr.findKey t x ents.toList).run P w = .ok r' w ∧ Found (Rep β n R) ents.toList 0 r r' := by
  have hrep' : ∀ (i : Nat) (a b : AV) (e : MapEntry), es[i]? = some (a, b) -> ents.toList[i]? = some e -> Rep β n R a e.key ∧ Rep β n R b e.val := fun i a b e h1 h2 => hrep i a b e h1 (by simpa using h2)
  unfold keyT at hk
  split at hk
  · rename_i ks' l hks hl
    split at hk
    · rename_i hc
      cases hk
      obtain ⟨hls, hfk⟩ := hc
      have asking := findAsking_ok (w := w) hks hl hls hr (es := es) (ents := ents.toList) (i := 0) (by simpa using hlen) hrep' h
      unfold flatKey at hfk
      split at hfk
      · rename_i fs hu
        rcases findNow_none (d := .struct fs) (fun x y => by cases x <;> cases y <;> rfl) (x := x) (ents := ents.toList) (i := 0) with h1 | ⟨h1, h2⟩
        · obtain ⟨r', k1, k2⟩ := asking
          exact ⟨r', by simp [Instr.findKey, run_und hu, h1, k1], k2⟩
        · have hes : es = [] := by
            apply List.length_eq_zero_iff.1
            rw [hlen, <- Array.length_toList, h1]; rfl
          subst hes
          simp only [findA, Option.some.injEq] at h
          subst h
          exact ⟨none, by simp [Instr.findKey, run_und hu, h2], trivial⟩
      · unfold leafT at hfk
        have go : ∀ d : TypeDesc, P.underlying t = some d -> ((∃ k, d = .int k) ∨ d = .bool ∨ d = .string) -> ∃ r', (Instr.findKey t x ents.toList).run P w = .ok r' w ∧ Found (Rep β n R) ents.toList 0 r r' := by
          intro d hu hd
          obtain ⟨k', rfl, hd', rfl⟩ := leaf_desc hks hl hu hd
          obtain ⟨r', k1, k2⟩ := findNow_ok hd' hr (es := es) (ents := ents.toList) (i := 0) (by simpa using hlen) hrep' h
          exact ⟨r', by simp [Instr.findKey, run_und hu, k1], k2⟩
        split at hfk
        · rename_i k' hu; exact go _ hu (.inl ⟨_, rfl⟩)
        · rename_i hu; exact go _ hu (.inr (.inl rfl))
        · rename_i hu; exact go _ hu (.inr (.inr rfl))
        · cases hfk
    · cases hk
  · cases hk
end
section
variable {n : Nat} {R : Nat -> Nat -> Value -> Prop}
def Leafy : Value -> Prop
  | .int _ _ | .bool _ | .string _ => True
  | _ => False
theorem ba_beq {x y : ByteArray} : (x == y) = true ↔ x = y := by
  obtain ⟨x⟩ := x
  obtain ⟨y⟩ := y
  have : ((⟨x⟩ : ByteArray) == ⟨y⟩) = (x == y) := rfl
  rw [this]
  simp
theorem leafEq_eq {k : Leaf} {a b : AV} (h : leafEq k a b = some true) {x y : Value} (ha : Rep β n R a x) (hb : Rep β n R b y) : x = y ∧ Leafy x := by
  unfold leafEq at h
  split at h
  · have := rep_v ha; have := rep_v hb; subst x; subst y
    split at h
    · rename_i hk; obtain ⟨rfl, rfl⟩ := hk; simp at h; subst h; exact ⟨rfl, trivial⟩
    · cases h
  · have := rep_v ha; have := rep_v hb; subst x; subst y
    simp at h; subst h; exact ⟨rfl, trivial⟩
  · have := rep_v ha; have := rep_v hb; subst x; subst y
    simp only [Option.some.injEq] at h
    rw [ba_beq.1 h]; exact ⟨rfl, trivial⟩
  · cases h
theorem leavesEq_all : ∀ {ks : List Leaf} {as bs : List AV}, leavesEq ks as bs = some true -> ∀ (i : Nat) (a b : AV), as[i]? = some a -> bs[i]? = some b -> ∃ k, leafEq k a b = some true := by
  intro ks
  induction ks with
  | nil =>
    intro as bs h i a b ha hb
    cases as with
    | nil => simp at ha
    | cons _ _ => simp [leavesEq] at h
  | cons k ks ih =>
    intro as bs h i a b ha hb
    cases as with
    | nil => simp at ha
    | cons a0 as =>
      cases bs with
      | nil => simp at hb
      | cons b0 bs =>
        simp only [leavesEq] at h
        split at h
        · rename_i p q hp hq
          simp only [Option.some.injEq, Bool.and_eq_true] at h
          obtain ⟨rfl, rfl⟩ := h
          cases i with
          | zero => simp at ha hb; subst ha; subst hb; exact ⟨k, hp⟩
          | succ i => exact ih hq i a b (by simpa using ha) (by simpa using hb)
        · cases h
theorem eqF_same {ks : List Leaf} {agg : Bool} {a b : AV} (h : eqF ks agg a b = some true) {x y : Value} (ha : Rep β n R a x) (hb : Rep β n R b y) :
    x = y ∧ (Leafy x ∨ ∃ vs : Array Value, x = .agg vs ∧ ∀ v ∈ vs.toList, Leafy v) := by
  unfold eqF at h
  split at h
  · split at h
    · rename_i xs ys
      cases ha with
      | agg hl hh =>
        rename_i vs
        cases hb with
        | agg hl' hh' =>
          rename_i us
          have hlen := leavesEq_length h
          have key : ∀ (i : Nat) (h1 : i < vs.size) (h2 : i < us.size), vs[i] = us[i] ∧ Leafy vs[i] := by
            intro i h1 h2
            have ha : xs[i]? = some xs[i] := by simp [show i < xs.length by omega]
            have hb : ys[i]? = some ys[i] := by simp [show i < ys.length by omega]
            obtain ⟨k, hk⟩ := leavesEq_all h i _ _ ha hb
            exact leafEq_eq hk (hh i _ _ ha (by simp [h1])) (hh' i _ _ hb (by simp [h2]))
          refine ⟨?_, .inr ⟨vs, rfl, fun v hv => ?_⟩⟩
          · congr 1
            exact Array.ext (by omega) fun i h1 h2 => (key i h1 h2).1
          · obtain ⟨i, hi, rfl⟩ := List.getElem_of_mem hv
            simp at hi
            have := (key i hi (by omega)).2
            simpa using this
    · cases h
  · split at h
    · obtain ⟨h1, h2⟩ := leafEq_eq h ha hb
      exact ⟨h1, .inl h2⟩
    · cases h
theorem sameBits_leafy {x : Value} (h : Leafy x) (d : Nat) : Instr.sameBits d x x = true := by
  cases x <;> first | exact h.elim | (cases d <;> simp [Instr.sameBits, ba_beq])
theorem keyStays {x : Value} (h : Leafy x ∨ ∃ vs : Array Value, x = .agg vs ∧ ∀ v ∈ vs.toList, Leafy v) : (Instr.keyThatStays x x).run P w = .ok x w := by
  have : Instr.sameBits 10000 x x = true := by
    rcases h with h | ⟨vs, rfl, h⟩
    · exact sameBits_leafy h _
    · rw [show (10000 : Nat) = 9999 + 1 from rfl]
      simp only [Instr.sameBits, beq_self_eq_true, Bool.true_and, List.all_eq_true]
      intro p hp
      have hz : ∀ (l : List Value), (∀ v ∈ l, Leafy v) -> ∀ p ∈ l.zip l, Instr.sameBits 9999 p.1 p.2 = true := by
        intro l
        induction l with
        | nil => intro _ p hp; simp at hp
        | cons v l ih =>
          intro hl p hp
          simp only [List.zip_cons_cons, List.mem_cons] at hp
          rcases hp with rfl | hp
          · exact sameBits_leafy (hl v (by simp)) _
          · exact ih (fun u hu => hl u (by simp [hu])) p hp
      exact hz _ h p hp
  unfold Instr.keyThatStays
  rw [if_pos this]
  simp
end
theorem zeroV_some {t : TypeId} {z : AV} (h : zeroV P t = some z) : ∃ v, (zeroValue t).run P w = .ok v w ∧ z = ofV v := by
  unfold zeroV at h
  obtain ⟨v, hv, rfl⟩ := Option.map_eq_some_iff.1 h
  obtain ⟨i, hi, hz⟩ := Option.bind_eq_some_iff.1 hv
  exact ⟨v, by simp [zeroValue, typeInfo, hi, hz], rfl⟩
theorem found_mem {n : Nat} {R : AV -> Value -> Prop} {ents : Array MapEntry} {j : Nat} {b : AV} {r' : Option (Nat × Value)} (h : Found R ents.toList 0 (some (j, b)) r') : ∃ v e, r' = some (j, v) ∧ R b v ∧ ents[j]? = some e := by
  cases r' with
  | none => exact h.elim
  | some q =>
    obtain ⟨j', v⟩ := q
    obtain ⟨rfl, h2, _, e, h3⟩ := h
    exact ⟨v, e, rfl, h2, by simpa using h3⟩
theorem found_key {ks : List Leaf} {agg : Bool} {k : AV} : ∀ {es : List (AV × AV)} {i j : Nat} {b : AV}, findA ks agg k es i = some (some (j, b)) -> i <= j ∧ ∃ a, es[j - i]? = some (a, b) ∧ eqF ks agg k a = some true := by
  intro es
  induction es with
  | nil => intro i j b h; simp [findA] at h
  | cons p es ih =>
    intro i j b h
    obtain ⟨a, c⟩ := p
    simp only [findA] at h
    split at h
    · rename_i he; cases h; exact ⟨Nat.le_refl _, a, by simp, he⟩
    · obtain ⟨h1, a', h2, h3⟩ := ih h
      refine ⟨by omega, a', ?_, h3⟩
      rw [show j - i = (j - (i + 1)) + 1 by omega]
      simpa using h2
    · cases h
theorem mapA_some {x : AV} {es : List (AV × AV)} (s : Sim B β H w) (h : mapA H x = some es) {c : Value} (hx : RepH β H w x c) :
    (c = .map none ∧ es = []) ∨ ∃ o ents clock, x = .mp o ∧ c = .map (some (β o).blk) ∧ H[o]? = some (.map es) ∧ w.heap[(β o).blk]? = some (.map ents clock) ∧ es.length = ents.size ∧
      ∀ (i : Nat) (a b : AV) (e : MapEntry), es[i]? = some (a, b) -> ents[i]? = some e -> RepH β H w a e.key ∧ RepH β H w b e.val := by
  unfold mapA at h
  split at h
  · cases h; exact .inl ⟨rep_v hx, rfl⟩
  · rename_i o
    split at h
    · rename_i es' ho
      cases h
      cases hx with
      | mp hlt =>
        obtain ⟨_, ents, clock, h1, h2, h3⟩ := s.map o es ho
        exact .inr ⟨o, ents, clock, rfl, rfl, ho, h1, h2, h3⟩
    · cases h
  · cases h
theorem y_look (s : Sim B β H w) {t kt et : TypeId} {ks : List Leaf} {agg ok : Bool} {z : AV} (hu : P.underlying t = some (.map kt et)) (hk : keyT P kt = some (ks, agg)) (hz : zeroV P et = some z) {m k : AX} {ρ : Nat -> AV} {r : AV} {H' : Heap}
    (h : YOp.run ρ H (.look ks agg ok z m k) = some (r, H')) {c d : Value} (hm : RepH β H w (m.ev ρ) c) (hkv : RepH β H w (k.ev ρ) d) :
    H' = H ∧ ∃ v, (Instr.lookup t c d ok).run P w = .ok v w ∧ RepH β H w r v := by
  simp only [YOp.run] at h
  generalize m.ev ρ = M at h hm
  generalize k.ev ρ = K at h hkv
  split at h
  · rename_i es hself hmap
    obtain ⟨zv, hzv, rfl⟩ := zeroV_some (w := w) hz
    have chk : ∀ em, (Instr.checkKey em 10000 kt d).run P w = .ok () w := fun em => checkKey_ok hk hkv hself em
    have out : ∀ (ents : Array MapEntry) (hlen : es.length = ents.size) (hrep : ∀ (i : Nat) (a b : AV) (e : MapEntry), es[i]? = some (a, b) -> ents[i]? = some e -> RepH β H w a e.key ∧ RepH β H w b e.val)
        (hl : ∀ r', (Instr.findKey kt d ents.toList).run P w = .ok r' w -> (Instr.lookup t c d ok).run P w = .ok (match r' with | some (_, v) => if ok then .tuple #[v, .bool true] else v | none => if ok then .tuple #[zv, .bool false] else zv) w),
        H' = H ∧ ∃ v, (Instr.lookup t c d ok).run P w = .ok v w ∧ RepH β H w r v := by
      intro ents hlen hrep hl
      split at h
      · rename_i j b hf
        cases h
        obtain ⟨r', h1, h2⟩ := findKey_ok (w := w) hk hkv hlen hrep hf
        obtain ⟨v, e, rfl, h3, _⟩ := found_mem (n := 0) h2
        refine ⟨rfl, _, hl _ h1, ?_⟩
        cases ok
        · exact h3
        · exact .tup rfl fun i a c ha hc => by
            match i, ha, hc with
            | 0, ha, hc => simp at ha hc; subst ha; subst hc; exact h3
            | 1, ha, hc => simp at ha hc; subst ha; subst hc; exact .v _
      · rename_i hf
        cases h
        obtain ⟨r', h1, h2⟩ := findKey_ok (w := w) hk hkv hlen hrep hf
        have : r' = none := by cases r' with | none => rfl | some _ => exact h2.elim
        subst this
        refine ⟨rfl, _, hl _ h1, ?_⟩
        cases ok
        · exact rep_ofV zv
        · exact .tup rfl fun i a c ha hc => by
            match i, ha, hc with
            | 0, ha, hc => simp at ha hc; subst ha; subst hc; exact rep_ofV zv
            | 1, ha, hc => simp at ha hc; subst ha; subst hc; exact .v _
      · cases h
    rcases mapA_some s hmap hm with ⟨rfl, rfl⟩ | ⟨o, ents, clock, rfl, rfl, ho, hb, hlen, hrep⟩
    · refine out #[] rfl (fun i a b e hi => by simp at hi) fun r' h1 => ?_
      have h1 : Sem.run P (Instr.findKey kt d []) w = .ok r' w := h1
      cases r' <;> simp [Instr.lookup, run_und hu, chk, h1, hzv]
    · refine out ents hlen hrep fun r' h1 => ?_
      cases r' <;> simp [Instr.lookup, run_und hu, MapKept.run_getObj_map hb, chk, h1, hzv]
  · cases h
theorem run_setObj {r : Nat} {es ents' : Array MapEntry} {clock clock' : Nat} (hb : w.heap[r]? = some (.map es clock)) : (setObj r (.map ents' clock')).run P w = .ok () (mapped w r ents' clock') := MapKept.run_setObj_map _ hb
theorem y_upd (s : Sim B β H w) {t kt et : TypeId} {ks : List Leaf} {agg : Bool} (hu : P.underlying t = some (.map kt et)) (hk : keyT P kt = some (ks, agg)) {m k x : AX} {ρ : Nat -> AV} {r : AV} {H' : Heap}
    (h : YOp.run ρ H (.upd ks agg m k x) = some (r, H')) {c d f : Value} (hm : RepH β H w (m.ev ρ) c) (hkv : RepH β H w (k.ev ρ) d) (hx : RepH β H w (x.ev ρ) f) :
    r = .v (.tuple #[]) ∧ ∃ w', (Instr.mapUpdate t c d f).run P w = .ok () w' ∧ Sim B β H' w' ∧ Tr B β H w β H' w' := by
  simp only [YOp.run] at h
  generalize m.ev ρ = M at h hm
  generalize k.ev ρ = K at h hkv
  generalize x.ev ρ = X at h hx
  split at h
  · rename_i o hself
    cases hm with
    | mp hlt =>
      split at h
      · rename_i es ho
        obtain ⟨_, ents, clock, hb, hlen, hrep⟩ := s.map o es ho
        have chk : ∀ em, (Instr.checkKey em 10000 kt d).run P w = .ok () w := fun em => checkKey_ok hk hkv hself em
        split at h
        · rename_i j b hf
          cases h
          obtain ⟨r', h1, h2⟩ := findKey_ok (w := w) hk hkv hlen hrep hf
          obtain ⟨v, e, rfl, h3, he⟩ := found_mem (n := 0) h2
          obtain ⟨_, a, ha, heq⟩ := found_key hf
          simp only [Nat.sub_zero] at ha
          obtain ⟨hke, hleaf⟩ := eqF_same heq hkv (hrep j a b e ha he).1
          have hj : j < ents.size := by
            rcases Nat.lt_or_ge j ents.size with h' | h'
            · exact h'
            · simp [Array.getElem?_eq_none h'] at he
          obtain ⟨s', t'⟩ := s.setMap (clock' := clock) ho hb (es' := es.set j (K, X)) (ents' := ents.modify j fun e => { e with key := d, val := f }) (by simp [hlen]) (fun i a b e hi he' => by
            rw [List.getElem?_set] at hi
            rw [Array.getElem?_modify] at he'
            by_cases e1 : j = i
            · subst e1
              rw [if_pos rfl, if_pos (by omega)] at hi
              cases hi
              rw [if_pos rfl, he] at he'
              simp at he'
              subst he'
              exact ⟨hkv, hx⟩
            · rw [if_neg e1] at hi he'
              exact hrep i a b e hi he')
          refine ⟨rfl, _, ?_, s', t'⟩
          unfold Instr.mapUpdate
          simp only [Sem.run_bind, run_und hu, Result.andThen_ok, MapKept.run_getObj_map hb, chk, h1]
          have : (((ents[j]?).map (·.key)).getD d) = d := by rw [he]; simp [hke]
          rw [this, keyStays hleaf]
          simp only [Result.andThen_ok]
          exact run_setObj hb
        · rename_i hf
          cases h
          obtain ⟨r', h1, h2⟩ := findKey_ok (w := w) hk hkv hlen hrep hf
          have : r' = none := by cases r' with | none => rfl | some _ => exact h2.elim
          subst this
          obtain ⟨s', t'⟩ := s.setMap (clock' := clock + 1) ho hb (es' := es ++ [(K, X)]) (ents' := ents.push { key := d, val := f, born := clock }) (by simp [hlen]) (fun i a b e hi he' => by
            rw [Array.getElem?_push] at he'
            by_cases e1 : i = ents.size
            · rw [if_pos e1] at he'
              cases he'
              rw [List.getElem?_append_right (by omega)] at hi
              have : i - es.length = 0 := by omega
              rw [this] at hi
              simp at hi
              obtain ⟨rfl, rfl⟩ := hi
              exact ⟨hkv, hx⟩
            · rw [if_neg e1] at he'
              have hi2 : i < ents.size := by
                rcases Nat.lt_or_ge i ents.size with h' | h'
                · exact h'
                · simp [Array.getElem?_eq_none h'] at he'
              rw [List.getElem?_append_left (by omega)] at hi
              exact hrep i a b e hi he')
          refine ⟨rfl, _, ?_, s', t'⟩
          unfold Instr.mapUpdate
          simp only [Sem.run_bind, run_und hu, Result.andThen_ok, MapKept.run_getObj_map hb, chk, h1]
          exact run_setObj hb
        · cases h
      · cases h
  · cases h
theorem y_del (s : Sim B β H w) {t u kt et ty : TypeId} {ks : List Leaf} {agg : Bool} (hu : P.underlying t = some (.map kt et)) (hk : keyT P kt = some (ks, agg)) {m k : AX} {ρ : Nat -> AV} {r : AV} {H' : Heap}
    (h : YOp.run ρ H (.del ks agg m k) = some (r, H')) {c d : Value} (hm : RepH β H w (m.ev ρ) c) (hkv : RepH β H w (k.ev ρ) d) :
    r = .v (.tuple #[]) ∧ ∃ w', (Builtin.delete_ #[t, u] ty #[c, d]).run P w = .ok (.tuple #[]) w' ∧ Sim B β H' w' ∧ Tr B β H w β H' w' := by
  simp only [YOp.run] at h
  generalize m.ev ρ = M at h hm
  generalize k.ev ρ = K at h hkv
  split at h
  · rename_i o hself
    cases hm with
    | mp hlt =>
      split at h
      · rename_i es ho
        obtain ⟨_, ents, clock, hb, hlen, hrep⟩ := s.map o es ho
        have chk : ∀ em, (Instr.checkKey em 10000 kt d).run P w = .ok () w := fun em => checkKey_ok hk hkv hself em
        split at h
        · rename_i j b hf
          cases h
          obtain ⟨r', h1, h2⟩ := findKey_ok (w := w) hk hkv hlen hrep hf
          obtain ⟨v, e, rfl, h3, he⟩ := found_mem (n := 0) h2
          have hj : j < ents.size := by
            rcases Nat.lt_or_ge j ents.size with h' | h'
            · exact h'
            · simp [Array.getElem?_eq_none h'] at he
          have hls : (ents.eraseIdxIfInBounds j).toList = ents.toList.eraseIdx j := by
            unfold Array.eraseIdxIfInBounds
            rw [dif_pos hj]; simp
          have hsz : (ents.eraseIdxIfInBounds j).size = ents.size - 1 := by
            rw [<- Array.length_toList, hls, List.length_eraseIdx]
            simp [hj]
          obtain ⟨s', t'⟩ := s.setMap (clock' := clock) ho hb (es' := es.eraseIdx j) (ents' := ents.eraseIdxIfInBounds j) (by rw [hsz, List.length_eraseIdx, if_pos (by omega)]; omega) (fun i a b e hi he' => by
            rw [<- Array.getElem?_toList, hls, List.getElem?_eraseIdx] at he'
            rw [List.getElem?_eraseIdx] at hi
            split at hi
            · rename_i hlt'; rw [if_pos hlt'] at he'; exact hrep i a b e hi (by simpa using he')
            · rename_i hlt'; rw [if_neg hlt'] at he'; exact hrep (i + 1) a b e hi (by simpa using he'))
          refine ⟨rfl, _, ?_, s', t'⟩
          simp [Builtin.delete_, run_und hu, MapKept.run_getObj_map hb, chk, h1, run_setObj hb]
        · rename_i hf
          cases h
          obtain ⟨r', h1, h2⟩ := findKey_ok (w := w) hk hkv hlen hrep hf
          have : r' = none := by cases r' with | none => rfl | some _ => exact h2.elim
          subst this
          obtain ⟨s', t'⟩ := s.setMap (clock' := clock) ho hb (es' := es) (ents' := ents) hlen hrep
          have hsame : H.set o (.map es) = H := by
            apply List.ext_getElem?
            intro i
            rw [List.getElem?_set]
            by_cases e1 : o = i
            · subst e1; rw [if_pos rfl, if_pos (getElem?_lt ho), ho]
            · rw [if_neg e1]
          rw [hsame] at s' t'
          refine ⟨rfl, _, ?_, s', t'⟩
          simp [Builtin.delete_, run_und hu, MapKept.run_getObj_map hb, chk, h1, run_setObj hb]
        · cases h
      · cases h
  · rename_i hself
    cases h
    have hc : c = .map none := rep_v hm
    subst hc
    have chk : ∀ em, (Instr.checkKey em 10000 kt d).run P w = .ok () w := fun em => checkKey_ok hk hkv hself em
    exact ⟨rfl, w, by simp [Builtin.delete_, run_und hu, chk], s, Tr.refl _ _ _ _⟩
  · cases h
theorem y_sound {o : Oper} {m : YOp} (htr : trYO P o = some m) (s : Sim B β H w) {ρ : Nat -> AV} {a : Act} (hρ : ∀ t, RepH β H w (ρ t) (a.tmps.getD t undef)) {r : AV} {H' : Heap} (hp : m.run ρ H = some (r, H')) :
    MemOk P B β H w (execOp a.eval o) r H' := by
  obtain ⟨dst, op, type, pos, after, guard⟩ := o
  unfold trYO at htr
  simp only at htr
  split at htr
  · rename_i t rv
    split at htr
    · rename_i kt et hu
      split at htr
      · rename_i hr
        cases htr
        simp only [YOp.run, Option.some.injEq, Prod.mk.injEq] at hp
        obtain ⟨rfl, rfl⟩ := hp
        obtain ⟨s', t'⟩ := s.newMap
        have hrun : (Instr.makeMap t (rv.map a.eval)).run P w = .ok (.map (some w.heap.size)) (w.alloc (.map #[] 0)) := by
          cases rv with
          | none => simp [Instr.makeMap, newObj, Sem.run]
          | some x =>
            cases x with
            | const v => cases v <;> first | (simp [isIntConst] at hr; done) | (simp [Instr.makeMap, newObj, Sem.run, Act.eval, run_und hu, asInt, asIntOf])
            | _ => simp [isIntConst] at hr
        refine MemOk.val (S := Instr.makeMap t (rv.map a.eval)) hrun ?_ s' t'
        have := Rep.mp (β := Em.set β H.length ⟨w.heap.size, 0, 0⟩) (n := (H ++ [AObj.map []]).length) (R := RO (Em.set β H.length ⟨w.heap.size, 0, 0⟩) (H ++ [AObj.map []]) (w.alloc (.map #[] 0))) (o := H.length) (by simp)
        rw [Em.set_same] at this
        exact this
      · cases htr
    · cases htr
  · rename_i t x k ok
    split at htr
    · rename_i kt et hu
      split at htr
      · rename_i ks agg z hk hz
        cases htr
        obtain ⟨rfl, v, h1, h2⟩ := y_look s hu hk hz hp (trX_rep hρ x) (trX_rep hρ k)
        exact MemOk.val (S := Instr.lookup t (a.eval x) (a.eval k) ok) h1 h2 s (Tr.refl _ _ _ _)
      · cases htr
    · cases htr
  · rename_i t m k v
    split at htr
    · rename_i kt et hu
      split at htr
      · rename_i ks agg hk
        cases htr
        obtain ⟨rfl, w', h1, h2, h3⟩ := y_upd s hu hk hp (trX_rep hρ m) (trX_rep hρ k) (trX_rep hρ v)
        exact ⟨.skip, w', β, undef, by simp [execOp, h1], .inr ⟨rfl, rfl⟩, .v _, h2, h3⟩
      · cases htr
    · cases htr
  · rename_i t m k v
    split at htr
    · rename_i kt et hu
      split at htr
      · rename_i ks agg hk
        cases htr
        obtain ⟨rfl, w', h1, h2, h3⟩ := y_upd s hu hk hp (trX_rep hρ m) (trX_rep hρ k) (trX_rep hρ v)
        exact ⟨.skip, w', β, undef, by simp [execOp, h1], .inr ⟨rfl, rfl⟩, .v _, h2, h3⟩
      · cases htr
    · cases htr
  · rename_i args ts
    split at htr
    · rename_i m k t u ha ht
      have hargs : args = #[m, k] := by apply Array.ext'; simpa using ha
      have hts : ts = #[t, u] := by apply Array.ext'; simpa using ht
      subst hargs; subst hts
      split at htr
      · rename_i kt et hu
        split at htr
        · rename_i ks agg hk
          cases htr
          obtain ⟨rfl, w', h1, h2, h3⟩ := y_del (u := u) (ty := type) s hu hk hp (trX_rep hρ m) (trX_rep hρ k)
          refine ⟨.value (.tuple #[]), w', β, .tuple #[], ?_, .inl rfl, .v _, h2, h3⟩
          simp [execOp, resolve, invoke, Go.builtin, h1]
        · cases htr
      · cases htr
    · cases htr
  · rename_i args ts
    split at htr
    · rename_i m t ha ht
      have hargs : args = #[m] := by apply Array.ext'; simpa using ha
      have hts : ts = #[t] := by apply Array.ext'; simpa using ht
      subst hargs; subst hts
      split at htr
      · rename_i kt et hu
        cases htr
        simp only [YOp.run] at hp
        split at hp
        · rename_i es hes
          cases hp
          have hm := trX_rep hρ m
          rcases mapA_some s hes hm with ⟨hc, rfl⟩ | ⟨o, ents, clock, _, hc, _, hb, hlen, _⟩
          · refine ⟨.value (.int .i64 0), w, β, .int .i64 0, ?_, .inl rfl, .v _, s, Tr.refl _ _ _ _⟩
            simp [execOp, resolve, invoke, Go.builtin, Builtin.len_, run_und hu, hc, goInt]
          · refine ⟨.value (.int .i64 (ents.size : Int)), w, β, .int .i64 (ents.size : Int), ?_, .inl rfl, by rw [<- hlen]; exact .v _, s, Tr.refl _ _ _ _⟩
            simp [execOp, resolve, invoke, Go.builtin, Builtin.len_, run_und hu, hc, goInt, MapKept.run_getObj_map hb]
        · cases hp
      · cases htr
    · cases htr
  · cases htr
end
end Go.Ab

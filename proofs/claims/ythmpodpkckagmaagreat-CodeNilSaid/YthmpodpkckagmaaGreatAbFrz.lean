/- A part of the proof of CodeNil: AbFrz. -/
import Derived.Test.YthmpodpkckagmaaGreatAbMem
set_option linter.unusedVariables false
set_option linter.unusedSimpArgs false
set_option linter.constructorNameAsVariable false
/-
  Objects that are forgotten: what is left of a value when all objects from number n on are let go.
-/
namespace Go.Ab
open Go Go.RowKit

/-- A value that leads to no object from number n on. -/
inductive Bnd (n : Nat) : AV → Prop
  | any : Bnd n .any
  | v (x : Value) : Bnd n (.v x)
  | agg {cs : List AV} (h : ∀ (i : Nat) (a : AV), cs[i]? = some a → Bnd n a) : Bnd n (.agg cs)
  | tup {cs : List AV} (h : ∀ (i : Nat) (a : AV), cs[i]? = some a → Bnd n a) : Bnd n (.tup cs)
  | lst {sz : Nat} {xs : List AV} (h : ∀ (i : Nat) (x : AV) (j : Nat) (a : AV), xs[i]? = some x → x.cells[j]? = some a → Bnd n a) : Bnd n (.lst sz xs)
  | rp {x : AV} (h : ∀ (j : Nat) (a : AV), x.cells[j]? = some a → Bnd n a) : Bnd n (.rp x)
  | sl {sz o off len : Nat} {cap : Option Nat} (ho : o < n) : Bnd n (.sl sz o off len cap)
  | z0 : Bnd n .z0
  | ptr {o off : Nat} (ho : o < n) : Bnd n (.ptr o off)
  | fn {f : FuncId} {cs : List AV} (h : ∀ (i : Nat) (a : AV), cs[i]? = some a → Bnd n a) : Bnd n (.fn f cs)
  | mp {o : Nat} (ho : o < n) : Bnd n (.mp o)
  | ifc {t : TypeId} {x : AV} (h : Bnd n x) : Bnd n (.ifc t x)

theorem Rep.bnd {β : Nat → Em} {n : Nat} {R : Nat → Nat → Value → Prop} {x : AV} {c : Value} (h : Rep β n R x c) : Bnd n x := by
  induction h with
  | any x => exact .any
  | v x => exact .v x
  | @agg cs vs hl _ ih => exact .agg fun i a h => ih i a (vs[i]'(by have := getElem?_lt h; omega)) h (by simp)
  | @tup cs vs hl _ ih => exact .tup fun i a h => ih i a (vs[i]'(by have := getElem?_lt h; omega)) h (by simp)
  | lstNil sz a cap => exact .lst fun i x j a h _ => by simp at h
  | lst cv hc hr hs _ ih => exact .lst fun i x j a h h' => ih i x j a h h'
  | rp cv hr _ ih => exact .rp ih
  | sl ho hl hc hn' => exact .sl ho
  | slZero p ho hc => exact .sl ho
  | z0 a => exact .z0
  | ptr ho => exact .ptr ho
  | @fn f cs vs hl _ ih => exact .fn fun i a h => ih i a (vs[i]'(by have := getElem?_lt h; omega)) h (by simp)
  | mp ho => exact .mp ho
  | ifc _ ih => exact .ifc ih

theorem Rep.shrink {β : Nat → Em} {n m : Nat} {R : Nat → Nat → Value → Prop} {x : AV} {c : Value} (h : Rep β n R x c) : Bnd m x → Rep β m R x c := by
  induction h with
  | any x => exact fun _ => .any x
  | v x => exact fun _ => .v x
  | agg hl _ ih => exact fun b => .agg hl fun i a c h h' => ih i a c h h' (by cases b with | agg hb => exact hb i a h)
  | tup hl _ ih => exact fun b => .tup hl fun i a c h h' => ih i a c h h' (by cases b with | tup hb => exact hb i a h)
  | lstNil sz a cap => exact fun _ => .lstNil sz a cap
  | lst cv hc hr hs _ ih => exact fun b => .lst cv hc hr hs fun i x j a h h' => ih i x j a h h' (by cases b with | lst hb => exact hb i x j a h h')
  | rp cv hr _ ih => exact fun b => .rp cv hr fun j a h => ih j a h (by cases b with | rp hb => exact hb j a h)
  | sl ho hl hc hn' => exact fun b => .sl (by cases b with | sl ho => exact ho) hl hc hn'
  | slZero p ho hc => exact fun b => .slZero p (by cases b with | sl ho => exact ho) hc
  | z0 a => exact fun _ => .z0 a
  | ptr ho => exact fun b => .ptr (by cases b with | ptr ho => exact ho)
  | fn hl _ ih => exact fun b => .fn hl fun i a c h h' => ih i a c h h' (by cases b with | fn hb => exact hb i a h)
  | mp ho => exact fun b => .mp (by cases b with | mp ho => exact ho)
  | ifc _ ih => exact fun b => .ifc (ih (by cases b with | ifc hb => exact hb))

/-- An object whose contents lead to no object from number n on. -/
def BndObj (n : Nat) : AObj → Prop
  | .cells cs => ∀ (j : Nat) (a : AV), cs[j]? = some a → Bnd n a
  | .map es => ∀ (i : Nat) (a b : AV), es[i]? = some (a, b) → Bnd n a ∧ Bnd n b
  | .dead => True
  | .tag o _ => o < n

def BndHeap (n : Nat) (H : Heap) : Prop := ∀ (o : Nat) (x : AObj), H[o]? = some x → BndObj n x

section
variable {B : Nat} {β : Nat → Em} {H : Heap} {w : World}

theorem Sim.bnd (s : Sim B β H w) : BndHeap H.length H := by
  intro o x ho
  cases x with
  | cells cs => exact fun j a ha => by obtain ⟨c, _, hr⟩ := s.cell o cs j a ho ha; exact hr.bnd
  | map es =>
    intro i a b he
    obtain ⟨_, ents, clock, _, hl, hr⟩ := s.map o es ho
    have hi : i < ents.size := by have := getElem?_lt he; omega
    have := hr i a b ents[i] he (by simp [hi])
    exact ⟨this.1.bnd, this.2.bnd⟩
  | dead => trivial
  | tag p t => exact (s.tag o p t ho).1

theorem get_take {n o : Nat} {x : AObj} (h : (H.take n)[o]? = some x) : o < n ∧ H[o]? = some x := by
  have := getElem?_lt h
  simp at this
  refine ⟨by omega, ?_⟩
  rw [List.getElem?_take_of_lt (by omega)] at h
  exact h

theorem owned_take {n b i : Nat} (h : Owned β (H.take n) b i) : Owned β H b i := by
  obtain ⟨o, cs, ho, r⟩ := h
  exact ⟨o, cs, (get_take ho).2, r⟩

theorem ro_take {n b i : Nat} {c : Value} (h : RO β H w b i c) : RO β (H.take n) w b i c := ⟨h.1, fun x => h.2 (owned_take x)⟩

/-- What is said of memory when all objects from number n on are forgotten. -/
theorem Sim.take (s : Sim B β H w) (n : Nat) (hn : n ≤ H.length) (hb : BndHeap n (H.take n)) : Sim B β (H.take n) w := by
  have hlen : (H.take n).length = n := by simp; omega
  have rep : ∀ {a : AV} {c : Value}, RepH β H w a c → Bnd n a → RepH β (H.take n) w a c := fun {a c} hr ha => by
    have h1 : Rep β n (RO β H w) a c := hr.shrink ha
    have h2 := h1.mono (R' := RO β (H.take n) w) (fun _ _ => rfl) (Nat.le_refl n) (fun _ _ _ x => ro_take x)
    unfold RepH; rw [hlen]; exact h2
  refine ⟨s.size, ?_, ?_, ?_, ?_, ?_, ?_, ?_⟩
  · intro o cs ho; exact s.base o cs (get_take ho).2
  · intro o cs j a ho ha
    obtain ⟨c, hc, hr⟩ := s.cell o cs j a (get_take ho).2 ha
    exact ⟨c, hc, rep hr (hb o _ ho j a ha)⟩
  · intro o cs j ho hj; exact s.room o cs j (get_take ho).2 hj
  · intro o es ho
    obtain ⟨hb', ents, clock, he, hl', hrep⟩ := s.map o es (get_take ho).2
    exact ⟨hb', ents, clock, he, hl', fun i a b e hi hj => ⟨rep (hrep i a b e hi hj).1 (hb o _ ho i a b hi).1, rep (hrep i a b e hi hj).2 (hb o _ ho i a b hi).2⟩⟩
  · intro o o' cs cs' hne h1 h2; exact s.disj o o' cs cs' hne (get_take h1).2 (get_take h2).2
  · intro o o' cs cs' hne h1 h2; exact s.mdisj o o' cs cs' hne (get_take h1).2 (get_take h2).2
  · intro p o t hp
    obtain ⟨h1, h2⟩ := s.tag p o t (get_take hp).2
    exact ⟨by rw [hlen]; exact hb p _ hp, h2⟩

theorem Tr.take {β₀ : Nat → Em} {H₀ : Heap} {w₀ : World} (t : Tr B β₀ H₀ w₀ β H w) (n : Nat) (hn : H₀.length ≤ n) (hn' : n ≤ H.length) : Tr B β₀ H₀ w₀ β (H.take n) w :=
  ⟨t.below, by simp; omega, t.em, fun b i c h => ro_take (t.ro b i c h)⟩

/-- What a value is when all objects from number n on are let go: slices over them become lists. -/
inductive Frz (H : Heap) (n : Nat) : AV → AV → Prop
  | same {a : AV} (h : Bnd n a) : Frz H n a a
  | agg {cs ds : List AV} (hl : ds.length = cs.length) (h : ∀ (i : Nat) (a b : AV), cs[i]? = some a → ds[i]? = some b → Frz H n a b) : Frz H n (.agg cs) (.agg ds)
  | tup {cs ds : List AV} (hl : ds.length = cs.length) (h : ∀ (i : Nat) (a b : AV), cs[i]? = some a → ds[i]? = some b → Frz H n a b) : Frz H n (.tup cs) (.tup ds)
  | sl {sz o off len : Nat} {cap : Option Nat} {cs xs : List AV} (ho : H[o]? = some (.cells cs)) (hn : n ≤ o) (hx : xs.length = len) (hl : off + len * sz ≤ cs.length)
      (hs : ∀ (i : Nat) (x : AV), xs[i]? = some x → x.cells.length = sz)
      (h : ∀ (i : Nat) (x : AV) (j : Nat) (a b : AV), xs[i]? = some x → x.cells[j]? = some b → cs[off + (i * sz + j)]? = some a → Frz H n a b) :
      Frz H n (.sl sz o off len cap) (.lst sz xs)
  | slZero {sz o off : Nat} {cap : Option Nat} : Frz H n (.sl sz o off 0 cap) (.lst sz [])
  | nil0 {sz : Nat} : Frz H n (.v (.slice none 0 0)) (.lst sz [])
  | z00 {sz : Nat} : Frz H n .z0 (.lst sz [])
  | rp {o off : Nat} {cs : List AV} {x : AV} (ho : H[o]? = some (.cells cs)) (hn : n ≤ o) (hl : off + x.cells.length ≤ cs.length)
      (h : ∀ (j : Nat) (a b : AV), x.cells[j]? = some b → cs[off + j]? = some a → Frz H n a b) : Frz H n (.ptr o off) (.rp x)
  | ifc {t : TypeId} {x y : AV} (h : Frz H n x y) : Frz H n (.ifc t x) (.ifc t y)

theorem ro_freed (s : Sim B β H w) {n o : Nat} {cs : List AV} (ho : H[o]? = some (.cells cs)) (hn : n ≤ o) {j : Nat} {a : AV} (ha : cs[j]? = some a) :
    ∃ c, RO β (H.take n) w (β o).blk ((β o).off + j) c ∧ RepH β H w a c := by
  obtain ⟨c, hc, hr⟩ := s.cell o cs j a ho ha
  refine ⟨c, ⟨hc, ?_⟩, hr⟩
  rintro ⟨p, ds, hp, hb, h1, h2⟩
  obtain ⟨hlt, hp'⟩ := get_take hp
  have hj := getElem?_lt ha
  have := (s.base o cs ho).2.2
  exact s.disj p o ds cs (by omega) hp' ho hb

theorem div_mod_lt {m sz k : Nat} (h : k < m * sz) : k / sz < m ∧ k % sz < sz ∧ k / sz * sz + k % sz = k := by
  have hsz : 0 < sz := by
    rcases Nat.eq_zero_or_pos sz with h0 | h0
    · subst h0; omega
    · exact h0
  exact ⟨(Nat.div_lt_iff_lt_mul hsz).2 h, Nat.mod_lt _ hsz, by rw [Nat.mul_comm]; exact Nat.div_add_mod k sz⟩

theorem Frz.rep (s : Sim B β H w) {n : Nat} {a b : AV} (f : Frz H n a b) : ∀ {c : Value}, RepH β H w a c → Rep β n (RO β (H.take n) w) b c := by
  induction f with
  | same hb => exact fun {c} hr => (hr.shrink hb).mono (fun _ _ => rfl) (Nat.le_refl n) (fun _ _ _ x => ro_take x)
  | @agg cs ds hl _ ih =>
    intro c hr
    cases hr with
    | agg hl' h' =>
      refine .agg (by omega) fun i b c hb hc => ?_
      have hi : i < cs.length := by have := getElem?_lt hb; omega
      exact ih i cs[i] b (by simp) hb (h' i cs[i] c (by simp) hc)
  | @tup cs ds hl _ ih =>
    intro c hr
    cases hr with
    | tup hl' h' =>
      refine .tup (by omega) fun i b c hb hc => ?_
      have hi : i < cs.length := by have := getElem?_lt hb; omega
      exact ih i cs[i] b (by simp) hb (h' i cs[i] c (by simp) hc)
  | @sl sz o off len cap cs xs ho hn hx hl hs h ih =>
    intro c hr
    cases hr with
    | slZero p _ _ =>
      have : xs = [] := List.length_eq_zero_iff.1 hx
      subst this; exact .lstNil _ _ _
    | @sl _ _ _ _ cap' _ holt hlc _ _ =>
      subst hx
      have key : ∀ k, k < xs.length * sz → ∃ c, RO β (H.take n) w (β o).blk ((β o).off + (off + k)) c ∧ ∀ a, cs[off + k]? = some a → RepH β H w a c := by
        intro k hk
        have hk' : off + k < cs.length := by omega
        obtain ⟨c, h1, h2⟩ := ro_freed s ho hn (j := off + k) (a := cs[off + k]) (by simp [hk'])
        exact ⟨c, h1, fun a ha => by simp [hk'] at ha; subst ha; exact h2⟩
      let cv : Nat → Value := fun k => if hk : k < xs.length * sz then (key k hk).choose else default
      have hcv : ∀ k (hk : k < xs.length * sz), RO β (H.take n) w (β o).blk ((β o).off + (off + k)) (cv k) ∧ ∀ a, cs[off + k]? = some a → RepH β H w a (cv k) := by
        intro k hk
        simp only [cv, hk, dif_pos]
        exact (key k hk).choose_spec
      refine .lst cv hlc (fun k hk => by rw [Nat.add_assoc]; exact (hcv k hk).1) hs fun i x j b hi hj => ?_
      have hlt := getElem?_lt hi
      have hjlt := getElem?_lt hj
      rw [hs i x hi] at hjlt
      have hk : i * sz + j < xs.length * sz := by
        have : (i + 1) * sz ≤ xs.length * sz := Nat.mul_le_mul_right _ hlt
        rw [Nat.add_mul] at this; omega
      have hk' : off + (i * sz + j) < cs.length := by omega
      exact ih i x j cs[off + (i * sz + j)] b hi hj (by simp [hk']) ((hcv _ hk).2 _ (by simp [hk']))
  | slZero =>
    intro c hr
    cases hr with
    | slZero p _ _ => exact .lstNil _ _ _
    | sl _ _ _ _ => exact .lstNil _ _ _
  | nil0 => intro c hr; cases hr; exact .lstNil _ _ _
  | z00 => intro c hr; cases hr; exact .lstNil _ _ _
  | @rp o off cs x ho hn hl h ih =>
    intro c hr
    cases hr with
    | ptr holt =>
      have key : ∀ k, k < x.cells.length → ∃ c, RO β (H.take n) w (β o).blk ((β o).off + (off + k)) c ∧ ∀ a, cs[off + k]? = some a → RepH β H w a c := by
        intro k hk
        have hk' : off + k < cs.length := by omega
        obtain ⟨c, h1, h2⟩ := ro_freed s ho hn (j := off + k) (a := cs[off + k]) (by simp [hk'])
        exact ⟨c, h1, fun a ha => by simp [hk'] at ha; subst ha; exact h2⟩
      let cv : Nat → Value := fun k => if hk : k < x.cells.length then (key k hk).choose else default
      have hcv : ∀ k (hk : k < x.cells.length), RO β (H.take n) w (β o).blk ((β o).off + (off + k)) (cv k) ∧ ∀ a, cs[off + k]? = some a → RepH β H w a (cv k) := by
        intro k hk
        simp only [cv, hk, dif_pos]
        exact (key k hk).choose_spec
      refine .rp cv (fun k hk => by rw [Nat.add_assoc]; exact (hcv k hk).1) fun j b hj => ?_
      have hk := getElem?_lt hj
      have hk' : off + j < cs.length := by omega
      exact ih j cs[off + j] b hj (by simp [hk']) ((hcv _ hk).2 _ (by simp [hk']))
  | ifc _ ih =>
    intro c hr
    cases hr with
    | ifc hr' => exact .ifc (ih hr')

end
end Go.Ab

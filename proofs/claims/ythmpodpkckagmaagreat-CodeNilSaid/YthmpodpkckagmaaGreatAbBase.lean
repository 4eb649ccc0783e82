/- A part of the proof of CodeNil: AbBase. -/
import Derived.Calls
import Derived.Orders
import Derived.Laws.World
import Derived.Below
set_option linter.unusedVariables false
set_option linter.unusedSimpArgs false
set_option linter.constructorNameAsVariable false
/-
  Values of an abstract memory, and what it means that they stand for values of the machine.
-/
namespace Go.Ab
open Go Go.RowKit

/-- A value as this text's memory knows it. `lst`: a slice that is only read, by its elements; `sl`: a slice over an object that may be written. -/
inductive AV where
  | any
  | v (x : Value)
  | agg (cs : List AV)
  | tup (vs : List AV)
  | lst (sz : Nat) (xs : List AV)
  | rp (x : AV)
  | sl (sz o off len : Nat) (cap : Option Nat)
  | z0
  | ptr (o off : Nat)
  | fn (f : FuncId) (cap : List AV)
  | mp (o : Nat)
  | ifc (t : TypeId) (x : AV)
  deriving Inhabited

/-- The cells that a value takes. -/
def AV.cells : AV → List AV
  | .agg cs => cs
  | x => [x]

@[simp] theorem AV.cells_agg (cs : List AV) : (AV.agg cs).cells = cs := rfl

/-- An object of the abstract memory. -/
inductive AObj where
  | cells (cs : List AV)
  | map (es : List (AV × AV))
  | dead
  | tag (o : Nat) (t : TypeId)
  deriving Inhabited

abbrev Heap := List AObj

/-- Where an object lies in the machine's memory: a block, where it begins, how many cells are its own. -/
structure Em where
  blk : Nat
  off : Nat
  tot : Nat
  deriving Inhabited

def Owned (β : Nat → Em) (H : Heap) (b i : Nat) : Prop :=
  ∃ o cs, H[o]? = some (.cells cs) ∧ (β o).blk = b ∧ (β o).off ≤ i ∧ i < (β o).off + (β o).tot

/-- A cell that nobody writes any more. -/
def RO (β : Nat → Em) (H : Heap) (w : World) (b i : Nat) (c : Value) : Prop := w.cell? ⟨b, i, none⟩ = some c ∧ ¬ Owned β H b i

inductive Rep (β : Nat → Em) (n : Nat) (R : Nat → Nat → Value → Prop) : AV → Value → Prop
  | any (x : Value) : Rep β n R .any x
  | v (x : Value) : Rep β n R (.v x) x
  | agg {cs : List AV} {vs : Array Value} (hl : cs.length = vs.size) (h : ∀ (i : Nat) (a : AV) (c : Value), cs[i]? = some a → vs[i]? = some c → Rep β n R a c) : Rep β n R (.agg cs) (.agg vs)
  | tup {cs : List AV} {vs : Array Value} (hl : cs.length = vs.size) (h : ∀ (i : Nat) (a : AV) (c : Value), cs[i]? = some a → vs[i]? = some c → Rep β n R a c) : Rep β n R (.tup cs) (.tuple vs)
  | lstNil (sz : Nat) (a : Option Addr) (cap : Nat) : Rep β n R (.lst sz []) (.slice a 0 cap)
  | lst {sz b off cap : Nat} {xs : List AV} (cv : Nat → Value) (hc : xs.length ≤ cap)
      (hR : ∀ k, k < xs.length * sz → R b (off + k) (cv k))
      (hs : ∀ (i : Nat) (x : AV), xs[i]? = some x → x.cells.length = sz)
      (h : ∀ (i : Nat) (x : AV) (j : Nat) (a : AV), xs[i]? = some x → x.cells[j]? = some a → Rep β n R a (cv (i * sz + j))) :
      Rep β n R (.lst sz xs) (.slice (some ⟨b, off, none⟩) xs.length cap)
  | rp {b off : Nat} {x : AV} (cv : Nat → Value) (hR : ∀ k, k < x.cells.length → R b (off + k) (cv k))
      (h : ∀ (j : Nat) (a : AV), x.cells[j]? = some a → Rep β n R a (cv j)) : Rep β n R (.rp x) (.pointer (some ⟨b, off, none⟩))
  | sl {sz o off len cap' : Nat} {cap : Option Nat} (ho : o < n) (hl : len ≤ cap')
      (hc : ∀ c, cap = some c → cap' = c ∧ off + c * sz ≤ (β o).tot) (hn : cap = none → off + cap' * sz = (β o).tot) :
      Rep β n R (.sl sz o off len cap) (.slice (some ⟨(β o).blk, (β o).off + off, none⟩) len cap')
  | slZero {sz o off : Nat} {cap : Option Nat} (p : Addr) (ho : o < n) (hc : (cap = none ∧ (β o).tot ≤ off) ∨ cap = some 0) : Rep β n R (.sl sz o off 0 cap) (.slice (some p) 0 0)
  | z0 (a : Option Addr) : Rep β n R .z0 (.slice a 0 0)
  | ptr {o off : Nat} (ho : o < n) : Rep β n R (.ptr o off) (.pointer (some ⟨(β o).blk, (β o).off + off, none⟩))
  | fn {f : FuncId} {cs : List AV} {vs : Array Value} (hl : cs.length = vs.size) (h : ∀ (i : Nat) (a : AV) (c : Value), cs[i]? = some a → vs[i]? = some c → Rep β n R a c) : Rep β n R (.fn f cs) (.func (.func f) #[] vs)
  | mp {o : Nat} (ho : o < n) : Rep β n R (.mp o) (.map (some (β o).blk))
  | ifc {t : TypeId} {x : AV} {c : Value} (h : Rep β n R x c) : Rep β n R (.ifc t x) (.iface t c)

theorem Rep.mono {β β' : Nat → Em} {n n' : Nat} {R R' : Nat → Nat → Value → Prop} {x : AV} {c : Value} (h : Rep β n R x c)
    (hβ : ∀ o, o < n → β' o = β o) (hn : n ≤ n') (hR : ∀ b i c, R b i c → R' b i c) : Rep β' n' R' x c := by
  induction h with
  | any x => exact .any x
  | v x => exact .v x
  | agg hl _ ih => exact .agg hl ih
  | tup hl _ ih => exact .tup hl ih
  | lstNil sz a cap => exact .lstNil sz a cap
  | lst cv hc hr hs _ ih => exact .lst cv hc (fun k hk => hR _ _ _ (hr k hk)) hs ih
  | rp cv hr _ ih => exact .rp cv (fun k hk => hR _ _ _ (hr k hk)) ih
  | sl ho hl hc hn' => rw [← hβ _ ho]; exact .sl (Nat.lt_of_lt_of_le ho hn) hl (by rw [hβ _ ho]; exact hc) (by rw [hβ _ ho]; exact hn')
  | slZero p ho hc => exact .slZero p (Nat.lt_of_lt_of_le ho hn) (by rw [hβ _ ho]; exact hc)
  | z0 a => exact .z0 a
  | ptr ho => rw [← hβ _ ho]; exact .ptr (Nat.lt_of_lt_of_le ho hn)
  | fn hl _ ih => exact .fn hl ih
  | mp ho => rw [← hβ _ ho]; exact .mp (Nat.lt_of_lt_of_le ho hn)
  | ifc _ ih => exact .ifc ih

abbrev RepH (β : Nat → Em) (H : Heap) (w : World) : AV → Value → Prop := Rep β H.length (RO β H w)

structure Sim (B : Nat) (β : Nat → Em) (H : Heap) (w : World) : Prop where
  size : B ≤ w.heap.size
  base : ∀ o cs, H[o]? = some (.cells cs) → B ≤ (β o).blk ∧ (β o).blk < w.heap.size ∧ cs.length ≤ (β o).tot
  cell : ∀ o cs j a, H[o]? = some (.cells cs) → cs[j]? = some a → ∃ c, w.cell? ⟨(β o).blk, (β o).off + j, none⟩ = some c ∧ RepH β H w a c
  room : ∀ o cs j, H[o]? = some (.cells cs) → j < (β o).tot → (w.cell? ⟨(β o).blk, (β o).off + j, none⟩).isSome = true ∧ w.frozen? ⟨(β o).blk, (β o).off + j, none⟩ = false
  map : ∀ o es, H[o]? = some (.map es) → B ≤ (β o).blk ∧ ∃ ents clock, w.heap[(β o).blk]? = some (.map ents clock) ∧ es.length = ents.size ∧
    ∀ (i : Nat) (a b : AV) (e : MapEntry), es[i]? = some (a, b) → ents[i]? = some e → RepH β H w a e.key ∧ RepH β H w b e.val
  disj : ∀ o o' cs cs', o ≠ o' → H[o]? = some (.cells cs) → H[o']? = some (.cells cs') → (β o).blk = (β o').blk → False
  mdisj : ∀ o o' es es', o ≠ o' → H[o]? = some (.map es) → H[o']? = some (.map es') → (β o).blk ≠ (β o').blk
  tag : ∀ (p o : Nat) (t : TypeId), H[p]? = some (AObj.tag o t) → o < H.length ∧ (β o).off = 0 ∧ ∃ n, w.shape? (β o).blk = some (t, n)

/-- How memory may go on. -/
structure Tr (B : Nat) (β : Nat → Em) (H : Heap) (w : World) (β' : Nat → Em) (H' : Heap) (w' : World) : Prop where
  below : Below B w w'
  le : H.length ≤ H'.length
  em : ∀ o, o < H.length → β' o = β o
  ro : ∀ b i c, RO β H w b i c → RO β' H' w' b i c

theorem Tr.refl (B : Nat) (β : Nat → Em) (H : Heap) (w : World) : Tr B β H w β H w := ⟨Below.refl _ _, Nat.le_refl _, fun _ _ => rfl, fun _ _ _ h => h⟩

theorem Tr.trans {B : Nat} {β β₁ β₂ : Nat → Em} {H H₁ H₂ : Heap} {w w₁ w₂ : World} (h : Tr B β H w β₁ H₁ w₁) (k : Tr B β₁ H₁ w₁ β₂ H₂ w₂) : Tr B β H w β₂ H₂ w₂ :=
  ⟨h.below.trans k.below, Nat.le_trans h.le k.le, fun o ho => (k.em o (Nat.lt_of_lt_of_le ho h.le)).trans (h.em o ho), fun b i c hr => k.ro b i c (h.ro b i c hr)⟩

theorem Tr.rep {B : Nat} {β β' : Nat → Em} {H H' : Heap} {w w' : World} (h : Tr B β H w β' H' w') {x : AV} {c : Value} (r : RepH β H w x c) : RepH β' H' w' x c :=
  r.mono h.em h.le h.ro

/-! ### a world whose heap alone counts -/

theorem cell?_lt {w : World} {a : Addr} {c : Value} (h : w.cell? a = some c) : a.block < w.heap.size := by
  rcases Nat.lt_or_ge a.block w.heap.size with h' | h'
  · exact h'
  · simp [World.cell?, Array.getElem?_eq_none h'] at h

theorem cell?_congr {w w' : World} (h : w'.heap = w.heap) (a : Addr) : w'.cell? a = w.cell? a := by simp [World.cell?, h]
theorem frozen?_congr {w w' : World} (h : w'.heap = w.heap) (a : Addr) : w'.frozen? a = w.frozen? a := by simp [World.frozen?, h]

theorem RO.congr {β : Nat → Em} {H : Heap} {w w' : World} (h : w'.heap = w.heap) {b i : Nat} {c : Value} (hr : RO β H w b i c) : RO β H w' b i c :=
  ⟨by rw [cell?_congr h]; exact hr.1, hr.2⟩

theorem Sim.congr {B : Nat} {β : Nat → Em} {H : Heap} {w w' : World} (h : w'.heap = w.heap) (s : Sim B β H w) : Sim B β H w' where
  size := by rw [h]; exact s.size
  base := by rw [h]; exact s.base
  cell o cs j a ho ha := by
    obtain ⟨c, hc, hr⟩ := s.cell o cs j a ho ha
    exact ⟨c, by rw [cell?_congr h]; exact hc, hr.mono (fun _ _ => rfl) (Nat.le_refl _) (fun _ _ _ x => x.congr h)⟩
  room o cs j ho hj := by rw [cell?_congr h, frozen?_congr h]; exact s.room o cs j ho hj
  map o es ho := by
    obtain ⟨hb, ents, clock, he, hl, hr⟩ := s.map o es ho
    exact ⟨hb, ents, clock, by rw [h]; exact he, hl, fun i a b e hi hj => ⟨(hr i a b e hi hj).1.mono (fun _ _ => rfl) (Nat.le_refl _) (fun _ _ _ x => x.congr h), (hr i a b e hi hj).2.mono (fun _ _ => rfl) (Nat.le_refl _) (fun _ _ _ x => x.congr h)⟩⟩
  disj := s.disj
  mdisj := s.mdisj
  tag p o t ho := by
    obtain ⟨h1, h2, n, h3⟩ := s.tag p o t ho
    exact ⟨h1, h2, n, by unfold World.shape? at h3 ⊢; rw [h]; exact h3⟩

theorem Tr.congr {B : Nat} {β : Nat → Em} {H : Heap} {w w' : World} (h : w'.heap = w.heap) (ht : w'.tape = w.tape) (ho : w'.os = w.os) (hu : w'.output = w.output) : Tr B β H w β H w' :=
  ⟨⟨ho, ht, hu, by rw [h]; exact Nat.le_refl _, fun k _ => by rw [h]⟩, Nat.le_refl _, fun _ _ => rfl, fun _ _ _ x => x.congr h⟩

theorem shape_lt {w : World} {r : Nat} {x : TypeId × Nat} (h : w.shape? r = some x) : r < w.heap.size := by
  rcases Nat.lt_or_ge r w.heap.size with h' | h'
  · exact h'
  · simp [World.shape?, Array.getElem?_eq_none h'] at h

theorem shape_below {B : Nat} {w w' : World} (h : Below B w w') {r : Nat} (hr : r < B) : w'.shape? r = w.shape? r := by
  unfold World.shape?; rw [h.block r hr]

theorem shape_setCell {w : World} {a : Addr} {v : Value} {r : Nat} : (w.setCell a v).shape? r = w.shape? r := by
  unfold World.shape? World.setCell
  simp only [Array.getElem?_modify]
  by_cases e : a.block = r
  · rw [if_pos e]
    cases hh : w.heap[r]? with
    | none => rfl
    | some x =>
      cases x <;> simp only [Option.map_some]
      split <;> simp
  · rw [if_neg e]

/-! ### a new object in a new block -/

def Em.set (β : Nat → Em) (n : Nat) (e : Em) : Nat → Em := fun o => if o = n then e else β o

@[simp] theorem Em.set_same (β : Nat → Em) (n : Nat) (e : Em) : Em.set β n e n = e := by simp [Em.set]
theorem Em.set_ne (β : Nat → Em) {n o : Nat} (e : Em) (h : o ≠ n) : Em.set β n e o = β o := by simp [Em.set, h]
theorem Em.set_lt (β : Nat → Em) {n o : Nat} (e : Em) (h : o < n) : Em.set β n e o = β o := Em.set_ne β e (by omega)

theorem get_push {H : Heap} {x : AObj} {o : Nat} {y : AObj} (h : (H ++ [x])[o]? = some y) : (o < H.length ∧ H[o]? = some y) ∨ (o = H.length ∧ x = y) := by
  rcases Nat.lt_trichotomy o H.length with h' | h' | h'
  · rw [List.getElem?_append_left h'] at h; exact .inl ⟨h', h⟩
  · subst h'; simp at h; exact .inr ⟨rfl, h⟩
  · rw [List.getElem?_append_right (by omega)] at h
    have : o - H.length ≠ 0 := by omega
    obtain ⟨k, hk⟩ := Nat.exists_eq_succ_of_ne_zero this
    rw [hk] at h; simp at h

theorem getElem?_lt {α : Type} {l : List α} {i : Nat} {x : α} (h : l[i]? = some x) : i < l.length := by
  rcases Nat.lt_or_ge i l.length with h' | h'
  · exact h'
  · rw [List.getElem?_eq_none h'] at h; cases h

end Go.Ab

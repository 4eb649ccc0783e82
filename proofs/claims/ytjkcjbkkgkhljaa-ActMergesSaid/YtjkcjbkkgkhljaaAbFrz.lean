/- A part of a law's proof: AbFrz. -/
import Derived.Below
import Derived.Calls
import Derived.Laws.IdiomStrings
import Derived.Laws.World
import Derived.Orders
set_option linter.unusedVariables false
set_option linter.unusedSimpArgs false
set_option linter.constructorNameAsVariable false
/-
  What is known of a world besides: cells of the package's own variables, which no call changes. A chapter that needs none: an empty list.
-/
namespace Go.Ab
open Go Go.RowKit
def wiTabs : List (Nat × List Value) := []
def cellsAt (w : World) (g : Nat) : Option (Array Value) := match w.heap[g]? with
  | some (.cells cs _ _) => some cs
  | _ => none
def WI (B : Nat) (w : World) : Prop := ∀ p ∈ wiTabs, p.1 < B ∧ cellsAt w p.1 = some p.2.toArray
structure Big (B : Nat) (w : World) (D : Nat -> Nat -> Prop) : Prop where
  le : B <= w.heap.size
  inv : WI B w
  dlt : ∀ b i, D b i -> b < w.heap.size
theorem WI.below {B : Nat} {w w' : World} (h : WI B w) (b : Below B w w') : WI B w' := by
  intro p hp
  obtain ⟨h1, h2⟩ := h p hp
  refine ⟨h1, ?_⟩
  unfold cellsAt at h2 ⊢
  rw [b.block p.1 h1]
  exact h2
theorem WI.up {B B' : Nat} {w : World} (h : WI B w) (hb : B <= B') : WI B' w := fun p hp => ⟨Nat.lt_of_lt_of_le (h p hp).1 hb, (h p hp).2⟩
theorem Big.go {B : Nat} {w w' : World} {D : Nat -> Nat -> Prop} (h : Big B w D) (b : Below B w w') : Big B w' D := ⟨Nat.le_trans h.le b.size, h.inv.below b, fun k i hd => Nat.lt_of_lt_of_le (h.dlt k i hd) b.size⟩
theorem Big.top {B : Nat} {w : World} {D : Nat -> Nat -> Prop} (h : Big B w D) : Big w.heap.size w D := ⟨Nat.le_refl _, h.inv.up h.le, h.dlt⟩
theorem Big.congr {B : Nat} {w w' : World} {D : Nat -> Nat -> Prop} (h : Big B w D) (e : w'.heap = w.heap) : Big B w' D := by
  refine ⟨by rw [e]; exact h.le, fun p hp => ⟨(h.inv p hp).1, ?_⟩, fun b i hd => by rw [e]; exact h.dlt b i hd⟩
  have := (h.inv p hp).2
  unfold cellsAt at this ⊢
  rw [e]; exact this
theorem WI.none {B : Nat} {w : World} (h : wiTabs = []) : WI B w := by
  intro p hp
  rw [h] at hp
  cases hp
end Go.Ab
/-
  Values of an abstract memory, and what it means that they stand for values of the machine.
-/
namespace Go.Ab
open Go Go.RowKit
inductive AV where
  | any
  | v (x : Value)
  | agg (cs : List AV)
  | tup (vs : List AV)
  | lst (sz : Nat) (xs : List AV)
  | rp (x : AV)
  | sl (sz o off len : Nat) (cap : Option Nat)
  | z0
  | ptr (o off : Nat)
  | fn (f : FuncId) (cap : List AV)
  | mp (o : Nat)
  | ifc (t : TypeId) (x : AV)
  deriving Inhabited
def AV.cells : AV -> List AV
  | .agg cs => cs
  | x => [x]
@[simp] theorem AV.cells_agg (cs : List AV) : (AV.agg cs).cells = cs := rfl
inductive AObj where
  | cells (cs : List AV)
  | map (es : List (AV × AV))
  | dead
  | tag (o : Nat) (t : TypeId)
  deriving Inhabited
abbrev Heap := List AObj
structure Em where
  blk : Nat
  off : Nat
  tot : Nat
  deriving Inhabited
structure Lies where
  em : Nat -> Em
  D : Nat -> Nat -> Prop
def AObj.real : AObj -> Bool
  | .cells _ => true
  | .map _ => true
  | .dead => false
  | .tag _ _ => false
instance : CoeFun Lies (fun _ => Nat -> Em) := ⟨Lies.em⟩
def Lies.nil : Lies := ⟨fun _ => default, fun _ _ => False⟩
def Owned (β : Lies) (H : Heap) (b i : Nat) : Prop :=
  ∃ o cs, H[o]? = some (.cells cs) ∧ (β o).blk = b ∧ (β o).off <= i ∧ i < (β o).off + (β o).tot
def RO (β : Lies) (H : Heap) (w : World) (b i : Nat) (c : Value) : Prop := (w.cell? ⟨b, i, none⟩ = some c ∧ ¬ β.D b i) ∧ ¬ Owned β H b i
inductive Rep (β : Lies) (n : Nat) (R : Nat -> Nat -> Value -> Prop) : AV -> Value -> Prop
  | any (x : Value) : Rep β n R .any x
  | v (x : Value) : Rep β n R (.v x) x
  | agg {cs : List AV} {vs : Array Value} (hl : cs.length = vs.size) (h : ∀ (i : Nat) (a : AV) (c : Value), cs[i]? = some a -> vs[i]? = some c -> Rep β n R a c) : Rep β n R (.agg cs) (.agg vs)
  | tup {cs : List AV} {vs : Array Value} (hl : cs.length = vs.size) (h : ∀ (i : Nat) (a : AV) (c : Value), cs[i]? = some a -> vs[i]? = some c -> Rep β n R a c) : Rep β n R (.tup cs) (.tuple vs)
  | lstNil (sz : Nat) (a : Option Addr) (cap : Nat) : Rep β n R (.lst sz []) (.slice a 0 cap)
  | lst {sz b off cap : Nat} {xs : List AV} (cv : Nat -> Value) (hc : xs.length <= cap)
      (hR : ∀ k, k < xs.length * sz -> R b (off + k) (cv k))
      (hs : ∀ (i : Nat) (x : AV), xs[i]? = some x -> x.cells.length = sz)
      (h : ∀ (i : Nat) (x : AV) (j : Nat) (a : AV), xs[i]? = some x -> x.cells[j]? = some a -> Rep β n R a (cv (i * sz + j))) :
      Rep β n R (.lst sz xs) (.slice (some ⟨b, off, none⟩) xs.length cap)
  | rp {b off : Nat} {x : AV} (cv : Nat -> Value) (hR : ∀ k, k < x.cells.length -> R b (off + k) (cv k))
      (h : ∀ (j : Nat) (a : AV), x.cells[j]? = some a -> Rep β n R a (cv j)) : Rep β n R (.rp x) (.pointer (some ⟨b, off, none⟩))
  | sl {sz o off len cap' : Nat} {cap : Option Nat} (ho : o < n) (hl : len <= cap')
      (hc : ∀ c, cap = some c -> cap' = c ∧ off + c * sz <= (β o).tot) (hn : cap = none -> off + cap' * sz = (β o).tot) :
      Rep β n R (.sl sz o off len cap) (.slice (some ⟨(β o).blk, (β o).off + off, none⟩) len cap')
  | slZero {sz o off : Nat} {cap : Option Nat} (p : Addr) (ho : o < n) (hc : (cap = none ∧ (β o).tot <= off) ∨ cap = some 0) : Rep β n R (.sl sz o off 0 cap) (.slice (some p) 0 0)
  | z0 (a : Option Addr) : Rep β n R .z0 (.slice a 0 0)
  | ptr {o off : Nat} (ho : o < n) : Rep β n R (.ptr o off) (.pointer (some ⟨(β o).blk, (β o).off + off, none⟩))
  | fn {f : FuncId} {cs : List AV} {vs : Array Value} (hl : cs.length = vs.size) (h : ∀ (i : Nat) (a : AV) (c : Value), cs[i]? = some a -> vs[i]? = some c -> Rep β n R a c) : Rep β n R (.fn f cs) (.func (.func f) #[] vs)
  | mp {o : Nat} (ho : o < n) : Rep β n R (.mp o) (.map (some (β o).blk))
  | ifc {t : TypeId} {x : AV} {c : Value} (h : Rep β n R x c) : Rep β n R (.ifc t x) (.iface t c)
theorem Rep.mono {β β' : Lies} {n n' : Nat} {R R' : Nat -> Nat -> Value -> Prop} {x : AV} {c : Value} (h : Rep β n R x c)
    (hβ : ∀ o, o < n -> β' o = β o) (hn : n <= n') (hR : ∀ b i c, R b i c -> R' b i c) : Rep β' n' R' x c := by
  induction h with
  | any x => exact .any x
  | v x => exact .v x
  | agg hl _ ih => exact .agg hl ih
  | tup hl _ ih => exact .tup hl ih
  | lstNil sz a cap => exact .lstNil sz a cap
  | lst cv hc hr hs _ ih => exact .lst cv hc (fun k hk => hR _ _ _ (hr k hk)) hs ih
  | rp cv hr _ ih => exact .rp cv (fun k hk => hR _ _ _ (hr k hk)) ih
  | sl ho hl hc hn' => rw [<- hβ _ ho]; exact .sl (Nat.lt_of_lt_of_le ho hn) hl (by rw [hβ _ ho]; exact hc) (by rw [hβ _ ho]; exact hn')
  | slZero p ho hc => exact .slZero p (Nat.lt_of_lt_of_le ho hn) (by rw [hβ _ ho]; exact hc)
  | z0 a => exact .z0 a
  | ptr ho => rw [<- hβ _ ho]; exact .ptr (Nat.lt_of_lt_of_le ho hn)
  | fn hl _ ih => exact .fn hl ih
  | mp ho => rw [<- hβ _ ho]; exact .mp (Nat.lt_of_lt_of_le ho hn)
  | ifc _ ih => exact .ifc ih
abbrev RepH (β : Lies) (H : Heap) (w : World) : AV -> Value -> Prop := Rep β H.length (RO β H w)
structure Sim (B : Nat) (β : Lies) (H : Heap) (w : World) : Prop where
  size : Big B w β.D
  nodd : ∀ (o : Nat) (cs : List AV), H[o]? = some (.cells cs) -> ∀ i, ¬ β.D (β o).blk i
  base : ∀ o cs, H[o]? = some (.cells cs) -> B <= (β o).blk ∧ (β o).blk < w.heap.size ∧ cs.length <= (β o).tot
  cell : ∀ o cs j a, H[o]? = some (.cells cs) -> cs[j]? = some a -> ∃ c, w.cell? ⟨(β o).blk, (β o).off + j, none⟩ = some c ∧ RepH β H w a c
  room : ∀ o cs j, H[o]? = some (.cells cs) -> j < (β o).tot -> (w.cell? ⟨(β o).blk, (β o).off + j, none⟩).isSome = true ∧ w.frozen? ⟨(β o).blk, (β o).off + j, none⟩ = false
  map : ∀ o es, H[o]? = some (.map es) -> B <= (β o).blk ∧ ∃ ents clock, w.heap[(β o).blk]? = some (.map ents clock) ∧ es.length = ents.size ∧
    ∀ (i : Nat) (a b : AV) (e : MapEntry), es[i]? = some (a, b) -> ents[i]? = some e -> RepH β H w a e.key ∧ RepH β H w b e.val
  disj : ∀ o o' cs cs', o ≠ o' -> H[o]? = some (.cells cs) -> H[o']? = some (.cells cs') -> (β o).blk = (β o').blk -> False
  mdisj : ∀ o o' es es', o ≠ o' -> H[o]? = some (.map es) -> H[o']? = some (.map es') -> (β o).blk ≠ (β o').blk
  tag : ∀ (p o : Nat) (t : TypeId), H[p]? = some (AObj.tag o t) -> o < H.length ∧ (β o).off = 0 ∧ ∃ n, w.shape? (β o).blk = some (t, n)
  clean : ∀ (o : Nat) (cs : List AV) (t' : TypeId) (n : Nat), H[o]? = some (.cells cs) -> w.shape? (β o).blk = some (t', n) -> w.frozen? ⟨(β o).blk, n, none⟩ = false
def LiveB (β : Lies) (H : Heap) (b : Nat) : Prop := ∃ (o : Nat) (x : AObj), H[o]? = some x ∧ x.real = true ∧ (β o).blk = b
structure Tr (B : Nat) (β : Lies) (H : Heap) (w : World) (β' : Lies) (H' : Heap) (w' : World) : Prop where
  below : Below B w w'
  le : H.length <= H'.length
  em : ∀ o, o < H.length -> β' o = β o
  ro : ∀ b i c, RO β H w b i c -> RO β' H' w' b i c
  dd : β'.D = β.D
  rest : ∀ b, b < w.heap.size -> ¬ LiveB β H b -> w'.heap[b]? = w.heap[b]? ∧ ¬ LiveB β' H' b
theorem Tr.refl (B : Nat) (β : Lies) (H : Heap) (w : World) : Tr B β H w β H w := ⟨Below.refl _ _, Nat.le_refl _, fun _ _ => rfl, fun _ _ _ h => h, rfl, fun _ _ h => ⟨rfl, h⟩⟩
theorem Tr.trans {B : Nat} {β β₁ β₂ : Lies} {H H₁ H₂ : Heap} {w w₁ w₂ : World} (h : Tr B β H w β₁ H₁ w₁) (k : Tr B β₁ H₁ w₁ β₂ H₂ w₂) : Tr B β H w β₂ H₂ w₂ :=
  ⟨h.below.trans k.below, Nat.le_trans h.le k.le, fun o ho => (k.em o (Nat.lt_of_lt_of_le ho h.le)).trans (h.em o ho), fun b i c hr => k.ro b i c (h.ro b i c hr), k.dd.trans h.dd, fun b hb hn => by
    obtain ⟨h1, h2⟩ := h.rest b hb hn
    obtain ⟨h3, h4⟩ := k.rest b (Nat.lt_of_lt_of_le hb h.below.size) h2
    exact ⟨h3.trans h1, h4⟩⟩
theorem Tr.rep {B : Nat} {β β' : Lies} {H H' : Heap} {w w' : World} (h : Tr B β H w β' H' w') {x : AV} {c : Value} (r : RepH β H w x c) : RepH β' H' w' x c :=
  r.mono h.em h.le h.ro
theorem cell?_lt {w : World} {a : Addr} {c : Value} (h : w.cell? a = some c) : a.block < w.heap.size := by
  rcases Nat.lt_or_ge a.block w.heap.size with h' | h'
  · exact h'
  · simp [World.cell?, Array.getElem?_eq_none h'] at h
theorem cell?_congr {w w' : World} (h : w'.heap = w.heap) (a : Addr) : w'.cell? a = w.cell? a := by simp [World.cell?, h]
theorem frozen?_congr {w w' : World} (h : w'.heap = w.heap) (a : Addr) : w'.frozen? a = w.frozen? a := by simp [World.frozen?, h]
theorem RO.congr {β : Lies} {H : Heap} {w w' : World} (h : w'.heap = w.heap) {b i : Nat} {c : Value} (hr : RO β H w b i c) : RO β H w' b i c :=
  ⟨⟨by rw [cell?_congr h]; exact hr.1.1, hr.1.2⟩, hr.2⟩
theorem Sim.congr {B : Nat} {β : Lies} {H : Heap} {w w' : World} (h : w'.heap = w.heap) (s : Sim B β H w) : Sim B β H w' where
  size := s.size.congr h
  nodd := s.nodd
  base := by rw [h]; exact s.base
  cell o cs j a ho ha := by
    obtain ⟨c, hc, hr⟩ := s.cell o cs j a ho ha
    exact ⟨c, by rw [cell?_congr h]; exact hc, hr.mono (fun _ _ => rfl) (Nat.le_refl _) (fun _ _ _ x => x.congr h)⟩
  room o cs j ho hj := by rw [cell?_congr h, frozen?_congr h]; exact s.room o cs j ho hj
  map o es ho := by
    obtain ⟨hb, ents, clock, he, hl, hr⟩ := s.map o es ho
    exact ⟨hb, ents, clock, by rw [h]; exact he, hl, fun i a b e hi hj => ⟨(hr i a b e hi hj).1.mono (fun _ _ => rfl) (Nat.le_refl _) (fun _ _ _ x => x.congr h), (hr i a b e hi hj).2.mono (fun _ _ => rfl) (Nat.le_refl _) (fun _ _ _ x => x.congr h)⟩⟩
  disj := s.disj
  mdisj := s.mdisj
  tag p o t ho := by
    obtain ⟨h1, h2, n, h3⟩ := s.tag p o t ho
    exact ⟨h1, h2, n, by unfold World.shape? at h3 ⊢; rw [h]; exact h3⟩
  clean o cs t' n h2 h3 := by
    rw [frozen?_congr h]; exact s.clean o cs t' n h2 (by unfold World.shape? at h3 ⊢; rw [h] at h3; exact h3)
theorem Tr.congr {B : Nat} {β : Lies} {H : Heap} {w w' : World} (h : w'.heap = w.heap) (ht : w'.tape = w.tape) (ho : w'.os = w.os) (hu : w'.output = w.output) : Tr B β H w β H w' :=
  ⟨⟨ho, ht, hu, by rw [h]; exact Nat.le_refl _, fun k _ => by rw [h]⟩, Nat.le_refl _, fun _ _ => rfl, fun _ _ _ x => x.congr h, rfl, fun b _ hn => ⟨by rw [h], hn⟩⟩
theorem shape_lt {w : World} {r : Nat} {x : TypeId × Nat} (h : w.shape? r = some x) : r < w.heap.size := by
  rcases Nat.lt_or_ge r w.heap.size with h' | h'
  · exact h'
  · simp [World.shape?, Array.getElem?_eq_none h'] at h
theorem shape_below {B : Nat} {w w' : World} (h : Below B w w') {r : Nat} (hr : r < B) : w'.shape? r = w.shape? r := by
  unfold World.shape?; rw [h.block r hr]
theorem shape_setCell {w : World} {a : Addr} {v : Value} {r : Nat} : (w.setCell a v).shape? r = w.shape? r := by
  unfold World.shape? World.setCell
  simp only [Array.getElem?_modify]
  by_cases e : a.block = r
  · rw [if_pos e]
    cases hh : w.heap[r]? with
    | none => rfl
    | some x =>
      cases x <;> simp only [Option.map_some]
      split <;> simp
  · rw [if_neg e]
def Em.set (β : Lies) (n : Nat) (e : Em) : Lies := ⟨fun o => if o = n then e else β o, β.D⟩
@[simp] theorem Em.set_same (β : Lies) (n : Nat) (e : Em) : Em.set β n e n = e := by simp [Em.set]
theorem Em.set_ne (β : Lies) {n o : Nat} (e : Em) (h : o ≠ n) : Em.set β n e o = β o := by simp [Em.set, h]
theorem Em.set_lt (β : Lies) {n o : Nat} (e : Em) (h : o < n) : Em.set β n e o = β o := Em.set_ne β e (by omega)
theorem get_push {H : Heap} {x : AObj} {o : Nat} {y : AObj} (h : (H ++ [x])[o]? = some y) : (o < H.length ∧ H[o]? = some y) ∨ (o = H.length ∧ x = y) := by
  rcases Nat.lt_trichotomy o H.length with h' | h' | h'
  · rw [List.getElem?_append_left h'] at h; exact .inl ⟨h', h⟩
  · subst h'; simp at h; exact .inr ⟨rfl, h⟩
  · rw [List.getElem?_append_right (by omega)] at h
    have : o - H.length ≠ 0 := by omega
    obtain ⟨k, hk⟩ := Nat.exists_eq_succ_of_ne_zero this
    rw [hk] at h; simp at h
theorem getElem?_lt {α : Type} {l : List α} {i : Nat} {x : α} (h : l[i]? = some x) : i < l.length := by
  rcases Nat.lt_or_ge i l.length with h' | h'
  · exact h'
  · rw [List.getElem?_eq_none h'] at h; cases h
end Go.Ab
/-
  How an abstract memory goes on: a new object, a store, an object that is let go, a slice that grows in place, objects that are forgotten.
-/
namespace Go.Ab
open Go Go.RowKit
theorem set_same {w : World} {a : Addr} {v u : Value} (h : w.cell? a = some u) : (w.setCell a v).cell? a = some v := World.cell?_setCell_same (h := h) ..
theorem set_other {w : World} {a b : Addr} {v : Value} (h : a ≠ b) : (w.setCell a v).cell? b = w.cell? b := World.cell?_setCell_other (h := h) ..
theorem alloc_lt {w : World} {o : Obj} {a : Addr} (h : a.block < w.heap.size) : (w.alloc o).cell? a = w.cell? a := World.cell?_alloc_lt (h := h) ..
theorem alloc_frozen {w : World} {o : Obj} {a : Addr} (h : a.block < w.heap.size) : (w.alloc o).frozen? a = w.frozen? a := World.frozen?_alloc_old (h := Nat.ne_of_lt h) ..
section
variable {B : Nat} {β : Lies} {H : Heap} {w : World}
theorem Sim.blk_lt (s : Sim B β H w) {o : Nat} {cs : List AV} (h : H[o]? = some (.cells cs)) : (β o).blk < w.heap.size := (s.base o cs h).2.1
theorem Sim.nod (s : Sim B β H w) {o : Nat} {cs : List AV} (h : H[o]? = some (.cells cs)) (i : Nat) : ¬ β.D (β o).blk i := s.nodd o cs h i
theorem RO.lt {b i : Nat} {c : Value} (h : RO β H w b i c) : b < w.heap.size := cell?_lt h.1.1
theorem Sim.map_lt (s : Sim B β H w) {o : Nat} {es : List (AV × AV)} (h : H[o]? = some (.map es)) : (β o).blk < w.heap.size := by
  obtain ⟨_, ents, clock, he, _⟩ := s.map o es h
  rcases Nat.lt_or_ge (β o).blk w.heap.size with h' | h'
  · exact h'
  · simp [Array.getElem?_eq_none h'] at he
theorem live_push {x : AObj} {e : Em} {b : Nat} (he : x.real = true -> e.blk ≠ b) (h : LiveB (Em.set β H.length e) (H ++ [x]) b) : LiveB β H b := by
  obtain ⟨o, y, ho, hy, hb⟩ := h
  rcases get_push ho with ⟨hlt, ho'⟩ | ⟨rfl, rfl⟩
  · rw [Em.set_lt _ _ hlt] at hb; exact ⟨o, y, ho', hy, hb⟩
  · rw [Em.set_same] at hb; exact absurd hb (he hy)
theorem live_pushN {x : AObj} {b : Nat} (hx : x.real = false) (h : LiveB β (H ++ [x]) b) : LiveB β H b := by
  obtain ⟨o, y, ho, hy, hb⟩ := h
  rcases get_push ho with ⟨hlt, ho'⟩ | ⟨rfl, rfl⟩
  · exact ⟨o, y, ho', hy, hb⟩
  · rw [hx] at hy; cases hy
theorem Sim.allocM (s : Sim B β H w) {w' : World} (arr : Array Value) (E : TypeId) (fz : Nat × Nat) (hfz : ∀ i, i <= arr.size -> ¬ (fz.1 <= i ∧ i < fz.2)) (cs : List AV) (hl : cs.length <= arr.size)
    (hr : ∀ (j : Nat) (a : AV), cs[j]? = some a -> ∃ c, arr[j]? = some c ∧ RepH β H w a c) (hw : w' = w.alloc (.cells arr E fz)) :
    Sim B (Em.set β H.length ⟨w.heap.size, 0, arr.size⟩) (H ++ [.cells cs]) w' ∧ Tr B β H w (Em.set β H.length ⟨w.heap.size, 0, arr.size⟩) (H ++ [.cells cs]) w' := by
  subst hw
  have tr : Tr B β H w (Em.set β H.length ⟨w.heap.size, 0, arr.size⟩) (H ++ [.cells cs]) (w.alloc (.cells arr E fz)) := by
    refine ⟨(Below.refl B w).alloc s.size.le _, by simp, fun o ho => Em.set_lt _ _ ho, fun b i c h => ⟨⟨?_, h.1.2⟩, ?_⟩, rfl, fun b hb hn => ⟨Below.heap_alloc _ _ _ hb, fun h => hn (live_push (fun _ => by show w.heap.size ≠ b; omega) h)⟩⟩
    · rw [alloc_lt (a := ⟨b, i, none⟩) h.lt]; exact h.1.1
    · rintro ⟨o, cs', ho, hb, h1, h2⟩
      rcases get_push ho with ⟨hlt, ho'⟩ | ⟨rfl, _⟩
      · rw [Em.set_lt _ _ hlt] at hb h1 h2; exact h.2 ⟨o, cs', ho', hb, h1, h2⟩
      · simp at hb; exact absurd h.lt (by omega)
  refine ⟨⟨s.size.go tr.below, fun p ds hp i => (get_push hp).elim (fun h => by rw [Em.set_lt _ _ h.1]; exact s.nodd p ds h.2 i) (fun h => by rw [h.1, Em.set_same]; exact fun hd => Nat.lt_irrefl _ (s.size.dlt _ _ hd)), ?_, ?_, ?_, ?_, ?_, ?_, ?_, ?_⟩, tr⟩
  · intro o cs' ho
    rcases get_push ho with ⟨hlt, ho'⟩ | ⟨rfl, he⟩
    · rw [Em.set_lt _ _ hlt]; have := s.base o cs' ho'; exact ⟨this.1, by simp; omega, this.2.2⟩
    · cases he; simp; exact ⟨s.size.le, hl⟩
  · intro o cs' j a ho ha
    rcases get_push ho with ⟨hlt, ho'⟩ | ⟨rfl, he⟩
    · rw [Em.set_lt _ _ hlt]
      obtain ⟨c, hc, hrep⟩ := s.cell o cs' j a ho' ha
      exact ⟨c, by rw [alloc_lt (a := ⟨_, _, none⟩) (s.blk_lt ho')]; exact hc, tr.rep hrep⟩
    · cases he
      obtain ⟨c, hc, hrep⟩ := hr j a ha
      exact ⟨c, by rw [Em.set_same]; simp only [Nat.zero_add]; rw [World.cell?_alloc_mark]; exact hc, tr.rep hrep⟩
  · intro o cs' j ho hj
    rcases get_push ho with ⟨hlt, ho'⟩ | ⟨rfl, he⟩
    · rw [Em.set_lt _ _ hlt] at hj ⊢
      have := s.room o cs' j ho' hj
      rw [alloc_lt (a := ⟨_, _, none⟩) (s.blk_lt ho'), alloc_frozen (a := ⟨_, _, none⟩) (s.blk_lt ho')]
      exact this
    · rw [Em.set_same] at hj ⊢
      simp only [Nat.zero_add] at hj ⊢
      rw [World.cell?_alloc_mark]
      obtain ⟨lo, hi⟩ := fz
      rw [World.frozen?_alloc_mark]
      have := hfz j (Nat.le_of_lt hj)
      refine ⟨by simp; exact hj, ?_⟩
      simp only [Bool.and_eq_false_iff, decide_eq_false_iff_not]
      simp only at this
      omega
  · intro o es ho
    rcases get_push ho with ⟨hlt, ho'⟩ | ⟨rfl, he⟩
    · rw [Em.set_lt _ _ hlt]
      obtain ⟨hb, ents, clock, he, hl', hrep⟩ := s.map o es ho'
      refine ⟨hb, ents, clock, ?_, hl', fun i a b e hi hj => ⟨tr.rep (hrep i a b e hi hj).1, tr.rep (hrep i a b e hi hj).2⟩⟩
      rw [Below.heap_alloc _ _ _ (s.map_lt ho')]; exact he
    · cases he
  · intro o o' cs₁ cs₂ hne ho ho' hb
    rcases get_push ho with ⟨hlt, h1⟩ | ⟨rfl, _⟩ <;> rcases get_push ho' with ⟨hlt', h2⟩ | ⟨rfl, _⟩
    · rw [Em.set_lt _ _ hlt, Em.set_lt _ _ hlt'] at hb; exact s.disj o o' cs₁ cs₂ hne h1 h2 hb
    · rw [Em.set_lt _ _ hlt, Em.set_same] at hb; have := s.blk_lt h1; simp at hb; omega
    · rw [Em.set_lt _ _ hlt', Em.set_same] at hb; have := s.blk_lt h2; simp at hb; omega
    · exact absurd rfl hne
  · intro o o' es es' hne ho ho'
    rcases get_push ho with ⟨hlt, h1⟩ | ⟨_, he⟩
    · rcases get_push ho' with ⟨hlt', h2⟩ | ⟨_, he⟩
      · rw [Em.set_lt _ _ hlt, Em.set_lt _ _ hlt']; exact s.mdisj o o' es es' hne h1 h2
      · cases he
    · cases he
  · intro p o t ho
    rcases get_push ho with ⟨_, ho'⟩ | ⟨_, he⟩
    · obtain ⟨h1, h2, n, h3⟩ := s.tag p o t ho'
      rw [Em.set_lt _ _ h1]
      exact ⟨by simp; omega, h2, n, by rw [shape_below ((Below.refl w.heap.size w).alloc (Nat.le_refl _) _) (shape_lt h3)]; exact h3⟩
    · cases he
  · intro o cs₁ t' n ho hsh
    rcases get_push ho with ⟨hlt, ho'⟩ | ⟨rfl, _⟩
    · rw [Em.set_lt _ _ hlt] at hsh ⊢
      rw [shape_below ((Below.refl w.heap.size w).alloc (Nat.le_refl _) _) (s.blk_lt ho')] at hsh
      rw [alloc_frozen (a := ⟨_, _, none⟩) (s.blk_lt ho')]
      exact s.clean o cs₁ t' n ho' hsh
    · rw [Em.set_same] at hsh ⊢
      have hn : n = arr.size := by
        unfold World.shape? World.alloc at hsh
        simp at hsh
        exact hsh.2.symm
      subst hn
      obtain ⟨lo, hi⟩ := fz
      rw [World.frozen?_alloc_mark]
      have := hfz arr.size (Nat.le_refl _)
      simp only [Bool.and_eq_false_iff, decide_eq_false_iff_not]
      simp only at this
      omega
theorem Sim.alloc (s : Sim B β H w) {w' : World} (arr : Array Value) (E : TypeId) (cs : List AV) (hl : cs.length <= arr.size)
    (hr : ∀ (j : Nat) (a : AV), cs[j]? = some a -> ∃ c, arr[j]? = some c ∧ RepH β H w a c) (hw : w' = w.alloc (.cells arr E)) :
    Sim B (Em.set β H.length ⟨w.heap.size, 0, arr.size⟩) (H ++ [.cells cs]) w' ∧ Tr B β H w (Em.set β H.length ⟨w.heap.size, 0, arr.size⟩) (H ++ [.cells cs]) w' :=
  s.allocM arr E (0, 0) (fun i _ => by simp) cs hl hr hw
theorem Sim.widen (s : Sim B β H w) {w' : World} (bel : Below w.heap.size w w') : Sim B β H w' ∧ Tr B β H w β H w' := by
  have cellE : ∀ (a : Addr) c, w.cell? a = some c -> w'.cell? a = some c := by
    intro a c hc
    have := bel.block a.block (cell?_lt hc)
    unfold World.cell? at hc ⊢
    rw [this]; exact hc
  have ro : ∀ b i c, RO β H w b i c -> RO β H w' b i c := fun b i c hr => ⟨⟨cellE _ _ hr.1.1, hr.1.2⟩, hr.2⟩
  have rep : ∀ {a c}, RepH β H w a c -> RepH β H w' a c := fun hr => hr.mono (fun _ _ => rfl) (Nat.le_refl _) ro
  have hsz := bel.size
  have hbb : Below B w w' := ⟨bel.os, bel.tape, bel.output, bel.size, fun k hk => bel.block k (Nat.lt_of_lt_of_le hk s.size.le)⟩
  refine ⟨⟨s.size.go hbb, s.nodd, ?_, ?_, ?_, ?_, s.disj, s.mdisj, ?_, ?_⟩, ⟨hbb, Nat.le_refl _, fun _ _ => rfl, ro, rfl, fun b hb hn => ⟨bel.block b hb, hn⟩⟩⟩
  · intro o cs ho
    obtain ⟨h1, h2, h3⟩ := s.base o cs ho
    exact ⟨h1, by omega, h3⟩
  · intro o cs j a ho hj
    obtain ⟨c, h1, h2⟩ := s.cell o cs j a ho hj
    exact ⟨c, cellE _ _ h1, rep h2⟩
  · intro o cs j ho hj
    obtain ⟨h1, h2⟩ := s.room o cs j ho hj
    have hb := (s.base o cs ho).2.1
    have hblk := bel.block (β o).blk hb
    refine ⟨?_, ?_⟩
    · obtain ⟨c, hc⟩ := Option.isSome_iff_exists.1 h1
      rw [cellE _ _ hc]; rfl
    · unfold World.frozen? at h2 ⊢
      rw [hblk]; exact h2
  · intro o es ho
    obtain ⟨h1, ents, clock, h2, h3, h4⟩ := s.map o es ho
    refine ⟨h1, ents, clock, ?_, h3, fun i a b e hi he => ⟨rep (h4 i a b e hi he).1, rep (h4 i a b e hi he).2⟩⟩
    rw [bel.block (β o).blk ?_]; exact h2
    rcases Nat.lt_or_ge (β o).blk w.heap.size with h | h
    · exact h
    · simp [Array.getElem?_eq_none h] at h2
  · intro p o t hp
    obtain ⟨h1, h2, n, h3⟩ := s.tag p o t hp
    exact ⟨h1, h2, n, by rw [shape_below bel (shape_lt h3)]; exact h3⟩
  · intro o cs t' n ho hsh
    have hb := (s.base o cs ho).2.1
    rw [shape_below bel hb] at hsh
    have h2 := s.clean o cs t' n ho hsh
    unfold World.frozen? at h2 ⊢
    rw [bel.block (β o).blk hb]; exact h2
theorem Sim.dead (s : Sim B β H w) : Sim B β (H ++ [.dead]) w ∧ Tr B β H w β (H ++ [.dead]) w := by
  have hown : ∀ b i, Owned β (H ++ [.dead]) b i ↔ Owned β H b i := fun b i => by
    constructor
    · rintro ⟨o, cs, ho, r⟩
      rcases get_push ho with ⟨_, ho'⟩ | ⟨_, he⟩
      · exact ⟨o, cs, ho', r⟩
      · cases he
    · rintro ⟨o, cs, ho, r⟩
      exact ⟨o, cs, by rw [List.getElem?_append_left (getElem?_lt ho)]; exact ho, r⟩
  have tr : Tr B β H w β (H ++ [.dead]) w := ⟨Below.refl _ _, by simp, fun _ _ => rfl, fun b i c h => ⟨h.1, fun x => h.2 ((hown b i).1 x)⟩, rfl, fun b _ hn => ⟨rfl, fun h => hn (live_pushN rfl h)⟩⟩
  refine ⟨⟨s.size, fun p ds hp i => (get_push hp).elim (fun h => s.nodd p ds h.2 i) (fun h => by cases h.2), ?_, ?_, ?_, ?_, ?_, ?_, ?_, ?_⟩, tr⟩
  · intro o cs ho
    rcases get_push ho with ⟨_, ho'⟩ | ⟨_, he⟩
    · exact s.base o cs ho'
    · cases he
  · intro o cs j a ho ha
    rcases get_push ho with ⟨_, ho'⟩ | ⟨_, he⟩
    · obtain ⟨c, hc, hr⟩ := s.cell o cs j a ho' ha; exact ⟨c, hc, tr.rep hr⟩
    · cases he
  · intro o cs j ho hj
    rcases get_push ho with ⟨_, ho'⟩ | ⟨_, he⟩
    · exact s.room o cs j ho' hj
    · cases he
  · intro o es ho
    rcases get_push ho with ⟨_, ho'⟩ | ⟨_, he⟩
    · obtain ⟨hb, ents, clock, he, hl', hrep⟩ := s.map o es ho'
      exact ⟨hb, ents, clock, he, hl', fun i a b e hi hj => ⟨tr.rep (hrep i a b e hi hj).1, tr.rep (hrep i a b e hi hj).2⟩⟩
    · cases he
  · intro o o' cs₁ cs₂ hne ho ho' hb
    rcases get_push ho with ⟨_, h1⟩ | ⟨_, he⟩
    · rcases get_push ho' with ⟨_, h2⟩ | ⟨_, he⟩
      · exact s.disj o o' cs₁ cs₂ hne h1 h2 hb
      · cases he
    · cases he
  · intro o o' es es' hne ho ho'
    rcases get_push ho with ⟨_, h1⟩ | ⟨_, he⟩
    · rcases get_push ho' with ⟨_, h2⟩ | ⟨_, he⟩
      · exact s.mdisj o o' es es' hne h1 h2
      · cases he
    · cases he
  · intro p o t ho
    rcases get_push ho with ⟨_, ho'⟩ | ⟨_, he⟩
    · obtain ⟨h1, h2⟩ := s.tag p o t ho'
      exact ⟨by simp; omega, h2⟩
    · cases he
  · intro o cs t' n ho hsh
    rcases get_push ho with ⟨_, ho'⟩ | ⟨_, he⟩
    · exact s.clean o cs t' n ho' hsh
    · cases he
theorem get_set {o o' : Nat} {x y : AObj} (h : (H.set o x)[o']? = some y) : (o' = o ∧ x = y) ∨ (o' ≠ o ∧ H[o']? = some y) := by
  by_cases e : o' = o
  · subst e
    rw [List.getElem?_set_self'] at h
    cases hh : H[o']? with
    | none => simp [hh] at h
    | some z => simp [hh] at h; exact .inl ⟨rfl, h⟩
  · rw [List.getElem?_set_ne (fun h => e h.symm)] at h; exact .inr ⟨e, h⟩
theorem live_set {o : Nat} {x y : AObj} {b : Nat} (ho : H[o]? = some y) (hy : x.real = true -> y.real = true) (h : LiveB β (H.set o x) b) : LiveB β H b := by
  obtain ⟨p, z, hp, hz, hb⟩ := h
  rcases get_set hp with ⟨rfl, rfl⟩ | ⟨_, hp'⟩
  · exact ⟨p, y, ho, hy hz, hb⟩
  · exact ⟨p, z, hp', hz, hb⟩
theorem live_kill {o : Nat} {b : Nat} (h : LiveB β (H.set o .dead) b) : LiveB β H b := by
  obtain ⟨p, z, hp, hz, hb⟩ := h
  rcases get_set hp with ⟨_, rfl⟩ | ⟨_, hp'⟩
  · cases hz
  · exact ⟨p, z, hp', hz, hb⟩
theorem owned_set {o : Nat} {cs cs' : List AV} (ho : H[o]? = some (.cells cs)) (b i : Nat) : Owned β (H.set o (.cells cs')) b i ↔ Owned β H b i := by
  constructor
  · rintro ⟨p, ds, hp, r⟩
    rcases get_set hp with ⟨rfl, _⟩ | ⟨_, hp'⟩
    · exact ⟨p, cs, ho, r⟩
    · exact ⟨p, ds, hp', r⟩
  · rintro ⟨p, ds, hp, r⟩
    by_cases e : p = o
    · subst e; exact ⟨p, cs', by rw [List.getElem?_set_self (getElem?_lt hp)], r⟩
    · exact ⟨p, ds, by rw [List.getElem?_set_ne (fun h => e h.symm)]; exact hp, r⟩
theorem owned_dead {o : Nat} (b i : Nat) (h : Owned β (H.set o .dead) b i) : Owned β H b i := by
  obtain ⟨p, ds, hp, r⟩ := h
  rcases get_set hp with ⟨_, he⟩ | ⟨_, hp'⟩
  · cases he
  · exact ⟨p, ds, hp', r⟩
theorem Sim.store (s : Sim B β H w) {o : Nat} {cs : List AV} (ho : H[o]? = some (.cells cs)) {j : Nat} (hj : j < cs.length) {a : AV} {c : Value} (hr : RepH β H w a c) {w' : World}
    (hw : w' = w.setCell ⟨(β o).blk, (β o).off + j, none⟩ c) :
    Sim B β (H.set o (.cells (cs.set j a))) w' ∧ Tr B β H w β (H.set o (.cells (cs.set j a))) w' := by
  subst hw
  have hb := s.base o cs ho
  have hroom := s.room o cs j ho (by omega)
  have tr : Tr B β H w β (H.set o (.cells (cs.set j a))) (w.setCell ⟨(β o).blk, (β o).off + j, none⟩ c) := by
    refine ⟨(Below.refl B w).setCell (p := ⟨(β o).blk, (β o).off + j, none⟩) hb.1 c, by simp, fun _ _ => rfl, fun b i c' h => ⟨⟨?_, h.1.2⟩, fun x => h.2 ((owned_set ho b i).1 x)⟩, rfl, fun b _ hn => ⟨Below.heap_setCell _ _ _ _ (fun e => hn ⟨o, _, ho, rfl, e.symm⟩), fun h => hn (live_set ho (fun _ => rfl) h)⟩⟩
    rw [set_other]
    · exact h.1.1
    · intro e; injection e with e1 e2; exact h.2 ⟨o, cs, ho, e1, by omega, by omega⟩
  have hsame : ∀ o' cs' j', H[o']? = some (.cells cs') -> j' < (β o').tot -> o' ≠ o ∨ j' ≠ j -> (w.setCell ⟨(β o).blk, (β o).off + j, none⟩ c).cell? ⟨(β o').blk, (β o').off + j', none⟩ = w.cell? ⟨(β o').blk, (β o').off + j', none⟩ := by
    intro o' cs' j' ho' hj' hne
    rw [set_other]
    intro e; injection e with e1 e2
    by_cases heq : o' = o
    · subst heq; rcases hne with hne | hne
      · exact hne rfl
      · omega
    · exact s.disj o' o cs' cs heq ho' ho e1.symm
  refine ⟨⟨s.size.go tr.below, fun p ds hp => (get_set hp).elim (fun h => by rw [h.1]; exact s.nodd o cs ho) (fun h => s.nodd p ds h.2), ?_, ?_, ?_, ?_, ?_, ?_, ?_, ?_⟩, tr⟩
  · intro o' cs' ho'
    have hsz : (w.setCell ⟨(β o).blk, (β o).off + j, none⟩ c).heap.size = w.heap.size := by simp [World.setCell]
    rw [hsz]
    rcases get_set ho' with ⟨rfl, he⟩ | ⟨_, h⟩
    · cases he; simpa using hb
    · exact s.base o' cs' h
  · intro o' cs' j' a' ho' ha'
    rcases get_set ho' with ⟨rfl, he⟩ | ⟨hne, h⟩
    · cases he
      by_cases e : j' = j
      · subst e
        rw [List.getElem?_set_self hj] at ha'; cases ha'
        obtain ⟨c0, hc0⟩ := Option.isSome_iff_exists.1 hroom.1
        exact ⟨c, set_same hc0, tr.rep hr⟩
      · rw [List.getElem?_set_ne (fun h => e h.symm)] at ha'
        obtain ⟨c', hc', hr'⟩ := s.cell o' cs j' a' ho ha'
        exact ⟨c', by rw [hsame o' cs j' ho (by have := getElem?_lt ha'; omega) (.inr e)]; exact hc', tr.rep hr'⟩
    · obtain ⟨c', hc', hr'⟩ := s.cell o' cs' j' a' h ha'
      exact ⟨c', by rw [hsame o' cs' j' h (by have := getElem?_lt ha'; have := (s.base o' cs' h).2.2; omega) (.inl hne)]; exact hc', tr.rep hr'⟩
  · intro o' cs' j' ho' hj'
    obtain ⟨cs'', ho''⟩ : ∃ cs'', H[o']? = some (.cells cs'') := by
      rcases get_set ho' with ⟨rfl, he⟩ | ⟨hne, h⟩
      · exact ⟨cs, ho⟩
      · exact ⟨cs', h⟩
    have h0 := s.room o' cs'' j' ho'' hj'
    refine ⟨?_, by simpa using h0.2⟩
    by_cases e : o' = o ∧ j' = j
    · obtain ⟨rfl, rfl⟩ := e
      obtain ⟨c0, hc0⟩ := Option.isSome_iff_exists.1 h0.1
      rw [set_same hc0]; rfl
    · rw [hsame o' cs'' j' ho'' hj' (by omega)]; exact h0.1
  · intro o' es ho'
    rcases get_set ho' with ⟨_, he⟩ | ⟨hne, h⟩
    · cases he
    · obtain ⟨hb', ents, clock, he, hl', hrep⟩ := s.map o' es h
      refine ⟨hb', ents, clock, ?_, hl', fun i a b e hi hj => ⟨tr.rep (hrep i a b e hi hj).1, tr.rep (hrep i a b e hi hj).2⟩⟩
      rw [Below.heap_setCell]
      · exact he
      · intro e
        obtain ⟨c0, hc0⟩ := Option.isSome_iff_exists.1 hroom.1
        simp only at e
        simp [World.cell?, <- e, he] at hc0
  · intro o₁ o₂ cs₁ cs₂ hne h1 h2 hb'
    have : ∀ {o' : Nat} {cs' : List AV}, (H.set o (.cells (cs.set j a)))[o']? = some (.cells cs') -> ∃ cs'', H[o']? = some (AObj.cells cs'') := by
      intro o' cs' h
      rcases get_set h with ⟨rfl, _⟩ | ⟨_, h⟩
      · exact ⟨cs, ho⟩
      · exact ⟨cs', h⟩
    obtain ⟨d1, h1'⟩ := this h1
    obtain ⟨d2, h2'⟩ := this h2
    exact s.disj o₁ o₂ d1 d2 hne h1' h2' hb'
  · intro o₁ o₂ es₁ es₂ hne h1 h2
    rcases get_set h1 with ⟨_, he⟩ | ⟨_, h1⟩
    · cases he
    · rcases get_set h2 with ⟨_, he⟩ | ⟨_, h2⟩
      · cases he
      · exact s.mdisj o₁ o₂ es₁ es₂ hne h1 h2
  · intro p o' t hp
    rcases get_set hp with ⟨_, he⟩ | ⟨_, hp'⟩
    · cases he
    · obtain ⟨h1, h2, n, h3⟩ := s.tag p o' t hp'
      exact ⟨by simpa using h1, h2, n, by rw [shape_setCell]; exact h3⟩
  · intro o' ds t' n ho' hsh
    rw [shape_setCell] at hsh
    rw [World.frozen?_setCell]
    rcases get_set ho' with ⟨rfl, _⟩ | ⟨_, h⟩
    · exact s.clean _ cs t' n ho hsh
    · exact s.clean o' ds t' n h hsh
theorem Sim.kill (s : Sim B β H w) (o : Nat) : Sim B β (H.set o .dead) w ∧ Tr B β H w β (H.set o .dead) w := by
  have tr : Tr B β H w β (H.set o .dead) w := ⟨Below.refl _ _, by simp, fun _ _ => rfl, fun b i c h => ⟨h.1, fun x => h.2 (owned_dead b i x)⟩, rfl, fun b _ hn => ⟨rfl, fun h => hn (live_kill h)⟩⟩
  refine ⟨⟨s.size, fun p ds hp => (get_set hp).elim (fun h => by cases h.2) (fun h => s.nodd p ds h.2), ?_, ?_, ?_, ?_, ?_, ?_, ?_, ?_⟩, tr⟩
  · intro o' cs ho
    rcases get_set ho with ⟨_, he⟩ | ⟨_, h⟩
    · cases he
    · exact s.base o' cs h
  · intro o' cs j a ho ha
    rcases get_set ho with ⟨_, he⟩ | ⟨_, h⟩
    · cases he
    · obtain ⟨c, hc, hr⟩ := s.cell o' cs j a h ha; exact ⟨c, hc, tr.rep hr⟩
  · intro o' cs j ho hj
    rcases get_set ho with ⟨_, he⟩ | ⟨_, h⟩
    · cases he
    · exact s.room o' cs j h hj
  · intro o' es ho
    rcases get_set ho with ⟨_, he⟩ | ⟨_, h⟩
    · cases he
    · obtain ⟨hb, ents, clock, he, hl', hrep⟩ := s.map o' es h
      exact ⟨hb, ents, clock, he, hl', fun i a b e hi hj => ⟨tr.rep (hrep i a b e hi hj).1, tr.rep (hrep i a b e hi hj).2⟩⟩
  · intro o₁ o₂ cs₁ cs₂ hne h1 h2 hb
    rcases get_set h1 with ⟨_, he⟩ | ⟨_, h1⟩
    · cases he
    · rcases get_set h2 with ⟨_, he⟩ | ⟨_, h2⟩
      · cases he
      · exact s.disj o₁ o₂ cs₁ cs₂ hne h1 h2 hb
  · intro o₁ o₂ es₁ es₂ hne h1 h2
    rcases get_set h1 with ⟨_, he⟩ | ⟨_, h1⟩
    · cases he
    · rcases get_set h2 with ⟨_, he⟩ | ⟨_, h2⟩
      · cases he
      · exact s.mdisj o₁ o₂ es₁ es₂ hne h1 h2
  · intro p o' t hp
    rcases get_set hp with ⟨_, he⟩ | ⟨_, hp'⟩
    · cases he
    · obtain ⟨h1, h2⟩ := s.tag p o' t hp'
      exact ⟨by simpa using h1, h2⟩
  · intro o' ds t' n ho' hsh
    rcases get_set ho' with ⟨_, he⟩ | ⟨_, h⟩
    · cases he
    · exact s.clean o' ds t' n h hsh
theorem Sim.reveal (s : Sim B β H w) {o : Nat} {cs : List AV} (ho : H[o]? = some (.cells cs)) (k : Nat) (hk : cs.length + k <= (β o).tot) :
    Sim B β (H.set o (.cells (cs ++ List.replicate k .any))) w ∧ Tr B β H w β (H.set o (.cells (cs ++ List.replicate k .any))) w := by
  have hb := s.base o cs ho
  have tr : Tr B β H w β (H.set o (.cells (cs ++ List.replicate k .any))) w := ⟨Below.refl _ _, by simp, fun _ _ => rfl, fun b i c h => ⟨h.1, fun x => h.2 ((owned_set ho b i).1 x)⟩, rfl, fun b _ hn => ⟨rfl, fun h => hn (live_set ho (fun _ => rfl) h)⟩⟩
  have back : ∀ {o' : Nat} {cs' : List AV}, (H.set o (.cells (cs ++ List.replicate k .any)))[o']? = some (.cells cs') -> ∃ cs'', H[o']? = some (AObj.cells cs'') := by
    intro o' cs' h
    rcases get_set h with ⟨rfl, _⟩ | ⟨_, h⟩
    · exact ⟨cs, ho⟩
    · exact ⟨cs', h⟩
  refine ⟨⟨s.size, fun p ds hp => (get_set hp).elim (fun h => by rw [h.1]; exact s.nodd o cs ho) (fun h => s.nodd p ds h.2), ?_, ?_, ?_, ?_, ?_, ?_, ?_, ?_⟩, tr⟩
  · intro o' cs' ho'
    rcases get_set ho' with ⟨rfl, he⟩ | ⟨_, h⟩
    · cases he; simp; exact ⟨hb.1, hb.2.1, hk⟩
    · exact s.base o' cs' h
  · intro o' cs' j a ho' ha
    rcases get_set ho' with ⟨rfl, he⟩ | ⟨_, h⟩
    · cases he
      rcases Nat.lt_or_ge j cs.length with hj | hj
      · rw [List.getElem?_append_left hj] at ha
        obtain ⟨c, hc, hr⟩ := s.cell o' cs j a ho ha; exact ⟨c, hc, tr.rep hr⟩
      · rw [List.getElem?_append_right hj] at ha
        have hlt := getElem?_lt ha
        simp at hlt
        have : a = .any := by rw [List.getElem?_replicate] at ha; split at ha <;> simp_all
        subst this
        obtain ⟨c0, hc0⟩ := Option.isSome_iff_exists.1 (s.room o' cs j ho (by omega)).1
        exact ⟨c0, hc0, .any _⟩
    · obtain ⟨c, hc, hr⟩ := s.cell o' cs' j a h ha; exact ⟨c, hc, tr.rep hr⟩
  · intro o' cs' j ho' hj
    obtain ⟨cs'', h⟩ := back ho'
    exact s.room o' cs'' j h hj
  · intro o' es ho'
    rcases get_set ho' with ⟨_, he⟩ | ⟨_, h⟩
    · cases he
    · obtain ⟨hb, ents, clock, he, hl', hrep⟩ := s.map o' es h
      exact ⟨hb, ents, clock, he, hl', fun i a b e hi hj => ⟨tr.rep (hrep i a b e hi hj).1, tr.rep (hrep i a b e hi hj).2⟩⟩
  · intro o₁ o₂ cs₁ cs₂ hne h1 h2 hb
    obtain ⟨d1, h1⟩ := back h1
    obtain ⟨d2, h2⟩ := back h2
    exact s.disj o₁ o₂ d1 d2 hne h1 h2 hb
  · intro o₁ o₂ es₁ es₂ hne h1 h2
    rcases get_set h1 with ⟨_, he⟩ | ⟨_, h1⟩
    · cases he
    · rcases get_set h2 with ⟨_, he⟩ | ⟨_, h2⟩
      · cases he
      · exact s.mdisj o₁ o₂ es₁ es₂ hne h1 h2
  · intro p o' t hp
    rcases get_set hp with ⟨_, he⟩ | ⟨_, hp'⟩
    · cases he
    · obtain ⟨h1, h2⟩ := s.tag p o' t hp'
      exact ⟨by simpa using h1, h2⟩
  · intro o' ds t' n ho' hsh
    obtain ⟨d1, h⟩ := back ho'
    exact s.clean o' d1 t' n h hsh
theorem Sim.move (s : Sim B β H w) {o : Nat} {cs : List AV} (ho : H[o]? = some (.cells cs)) (k : Nat) (ds : List AV)
    (hd : ∀ (j : Nat) (a : AV), ds[j]? = some a -> cs[k + j]? = some a) (T : Nat) (hk : ds.length <= T) (hkl : k + T <= (β o).tot) :
    Sim B (Em.set β H.length ⟨(β o).blk, (β o).off + k, T⟩) (H.set o .dead ++ [.cells ds]) w ∧
    Tr B β H w (Em.set β H.length ⟨(β o).blk, (β o).off + k, T⟩) (H.set o .dead ++ [.cells ds]) w := by
  obtain ⟨s1, t1⟩ := s.kill o
  have hlen : (H.set o .dead).length = H.length := by simp
  have holt := getElem?_lt ho
  have hb := s.base o cs ho
  have tr : Tr B β H w (Em.set β H.length ⟨(β o).blk, (β o).off + k, T⟩) (H.set o .dead ++ [.cells ds]) w := by
    refine ⟨Below.refl _ _, by simp, fun o' ho' => Em.set_lt _ _ ho', fun b i c h => ⟨h.1, ?_⟩, rfl, fun b _ hn => ⟨rfl, fun h => ?_⟩⟩
    rotate_left
    · obtain ⟨p, y, hp, hy, hb'⟩ := h
      rcases get_push hp with ⟨hlt, hp'⟩ | ⟨hp', _⟩
      · rw [hlen] at hlt
        rw [Em.set_lt _ _ hlt] at hb'
        exact hn (live_kill ⟨p, y, hp', hy, hb'⟩)
      · rw [hlen] at hp'; subst hp'
        rw [Em.set_same] at hb'
        exact hn ⟨o, _, ho, rfl, hb'⟩
    rintro ⟨p, es, hp, hb', h1, h2⟩
    rcases get_push hp with ⟨hlt, hp'⟩ | ⟨hp', _⟩
    · rw [hlen] at hlt
      rw [Em.set_lt _ _ hlt] at hb' h1 h2
      exact h.2 (owned_dead b i ⟨p, es, hp', hb', h1, h2⟩)
    · rw [hlen] at hp'; subst hp'
      rw [Em.set_same] at hb' h1 h2
      simp only at hb' h1 h2
      exact h.2 ⟨o, cs, ho, hb', by omega, by omega⟩
  refine ⟨⟨s.size, fun p es hp i => (get_push hp).elim (fun h => by rw [Em.set_lt _ _ (by rw [<- hlen]; exact h.1)]; exact (get_set h.2).elim (fun k => by cases k.2) (fun k => s.nodd p es k.2 i)) (fun h => by rw [h.1, hlen, Em.set_same]; exact s.nodd o cs ho i), ?_, ?_, ?_, ?_, ?_, ?_, ?_, ?_⟩, tr⟩
  · intro p es hp
    rcases get_push hp with ⟨hlt, hp'⟩ | ⟨hp', he⟩
    · rw [hlen] at hlt; rw [Em.set_lt _ _ hlt]; exact s1.base p es hp'
    · rw [hlen] at hp'; subst hp'; cases he; rw [Em.set_same]; exact ⟨hb.1, hb.2.1, by simp; omega⟩
  · intro p es j a hp ha
    rcases get_push hp with ⟨hlt, hp'⟩ | ⟨hp', he⟩
    · rw [hlen] at hlt; rw [Em.set_lt _ _ hlt]
      rcases get_set hp' with ⟨_, he⟩ | ⟨_, hp''⟩
      · cases he
      · obtain ⟨c, hc, hr⟩ := s.cell p es j a hp'' ha; exact ⟨c, hc, tr.rep hr⟩
    · rw [hlen] at hp'; subst hp'; cases he; rw [Em.set_same]
      obtain ⟨c, hc, hr⟩ := s.cell o cs (k + j) a ho (hd j a ha)
      exact ⟨c, by simpa [Nat.add_assoc] using hc, tr.rep hr⟩
  · intro p es j hp hj
    rcases get_push hp with ⟨hlt, hp'⟩ | ⟨hp', he⟩
    · rw [hlen] at hlt; rw [Em.set_lt _ _ hlt] at hj ⊢; exact s1.room p es j hp' hj
    · rw [hlen] at hp'; subst hp'; rw [Em.set_same] at hj ⊢
      have := s.room o cs (k + j) ho (by simp only at hj; omega)
      simpa [Nat.add_assoc] using this
  · intro p es hp
    rcases get_push hp with ⟨hlt, hp'⟩ | ⟨_, he⟩
    · rw [hlen] at hlt; rw [Em.set_lt _ _ hlt]
      rcases get_set hp' with ⟨_, he⟩ | ⟨_, hp''⟩
      · cases he
      · obtain ⟨hb', ents, clock, he, hl', hrep⟩ := s.map p es hp''
        exact ⟨hb', ents, clock, he, hl', fun i a b e hi hj => ⟨tr.rep (hrep i a b e hi hj).1, tr.rep (hrep i a b e hi hj).2⟩⟩
    · cases he
  · intro o₁ o₂ cs₁ cs₂ hne h1 h2 hbb
    rcases get_push h1 with ⟨l1, h1'⟩ | ⟨e1, _⟩ <;> rcases get_push h2 with ⟨l2, h2'⟩ | ⟨e2, _⟩
    · rw [hlen] at l1 l2; rw [Em.set_lt _ _ l1, Em.set_lt _ _ l2] at hbb; exact s1.disj o₁ o₂ cs₁ cs₂ hne h1' h2' hbb
    · rw [hlen] at l1 e2; subst e2
      rw [Em.set_lt _ _ l1, Em.set_same] at hbb
      rcases get_set h1' with ⟨_, he⟩ | ⟨hne1, h1''⟩
      · cases he
      · exact s.disj o₁ o cs₁ cs hne1 h1'' ho hbb
    · rw [hlen] at l2 e1; subst e1
      rw [Em.set_lt _ _ l2, Em.set_same] at hbb
      rcases get_set h2' with ⟨_, he⟩ | ⟨hne2, h2''⟩
      · cases he
      · exact s.disj o₂ o cs₂ cs hne2 h2'' ho hbb.symm
    · exact absurd (e1.trans e2.symm) hne
  · intro o₁ o₂ es₁ es₂ hne h1 h2
    rcases get_push h1 with ⟨l1, h1⟩ | ⟨_, he⟩
    · rcases get_push h2 with ⟨l2, h2⟩ | ⟨_, he⟩
      · rw [hlen] at l1 l2; rw [Em.set_lt _ _ l1, Em.set_lt _ _ l2]; exact s1.mdisj o₁ o₂ es₁ es₂ hne h1 h2
      · cases he
    · cases he
  · intro p q t hp
    rcases get_push hp with ⟨l1, h1⟩ | ⟨_, he⟩
    · obtain ⟨k1, k2, n, k3⟩ := s1.tag p q t h1
      rw [Em.set_lt _ _ (by rw [hlen] at k1; exact k1)]
      exact ⟨by simp at k1 ⊢; omega, k2, n, k3⟩
    · cases he
  · intro q ds t' n hq hsh
    rcases get_push hq with ⟨l2, h2⟩ | ⟨rfl, _⟩
    · rw [Em.set_lt _ _ (by rw [hlen] at l2; exact l2)] at hsh ⊢
      exact s1.clean q ds t' n h2 hsh
    · rw [hlen, Em.set_same] at hsh ⊢
      exact s.clean o cs t' n ho hsh
end
end Go.Ab
/-
  Objects that are forgotten: what is left of a value when all objects from number n on are let go.
-/
namespace Go.Ab
open Go Go.RowKit
inductive Bnd (n : Nat) : AV -> Prop
  | any : Bnd n .any
  | v (x : Value) : Bnd n (.v x)
  | agg {cs : List AV} (h : ∀ (i : Nat) (a : AV), cs[i]? = some a -> Bnd n a) : Bnd n (.agg cs)
  | tup {cs : List AV} (h : ∀ (i : Nat) (a : AV), cs[i]? = some a -> Bnd n a) : Bnd n (.tup cs)
  | lst {sz : Nat} {xs : List AV} (h : ∀ (i : Nat) (x : AV) (j : Nat) (a : AV), xs[i]? = some x -> x.cells[j]? = some a -> Bnd n a) : Bnd n (.lst sz xs)
  | rp {x : AV} (h : ∀ (j : Nat) (a : AV), x.cells[j]? = some a -> Bnd n a) : Bnd n (.rp x)
  | sl {sz o off len : Nat} {cap : Option Nat} (ho : o < n) : Bnd n (.sl sz o off len cap)
  | z0 : Bnd n .z0
  | ptr {o off : Nat} (ho : o < n) : Bnd n (.ptr o off)
  | fn {f : FuncId} {cs : List AV} (h : ∀ (i : Nat) (a : AV), cs[i]? = some a -> Bnd n a) : Bnd n (.fn f cs)
  | mp {o : Nat} (ho : o < n) : Bnd n (.mp o)
  | ifc {t : TypeId} {x : AV} (h : Bnd n x) : Bnd n (.ifc t x)
theorem Rep.bnd {β : Lies} {n : Nat} {R : Nat -> Nat -> Value -> Prop} {x : AV} {c : Value} (h : Rep β n R x c) : Bnd n x := by
  induction h with
  | any x => exact .any
  | v x => exact .v x
  | @agg cs vs hl _ ih => exact .agg fun i a h => ih i a (vs[i]'(by have := getElem?_lt h; omega)) h (by simp)
  | @tup cs vs hl _ ih => exact .tup fun i a h => ih i a (vs[i]'(by have := getElem?_lt h; omega)) h (by simp)
  | lstNil sz a cap => exact .lst fun i x j a h _ => by simp at h
  | lst cv hc hr hs _ ih => exact .lst fun i x j a h h' => ih i x j a h h'
  | rp cv hr _ ih => exact .rp ih
  | sl ho hl hc hn' => exact .sl ho
  | slZero p ho hc => exact .sl ho
  | z0 a => exact .z0
  | ptr ho => exact .ptr ho
  | @fn f cs vs hl _ ih => exact .fn fun i a h => ih i a (vs[i]'(by have := getElem?_lt h; omega)) h (by simp)
  | mp ho => exact .mp ho
  | ifc _ ih => exact .ifc ih
theorem Rep.shrink {β : Lies} {n m : Nat} {R : Nat -> Nat -> Value -> Prop} {x : AV} {c : Value} (h : Rep β n R x c) : Bnd m x -> Rep β m R x c := by
  induction h with
  | any x => exact fun _ => .any x
  | v x => exact fun _ => .v x
  | agg hl _ ih => exact fun b => .agg hl fun i a c h h' => ih i a c h h' (by cases b with | agg hb => exact hb i a h)
  | tup hl _ ih => exact fun b => .tup hl fun i a c h h' => ih i a c h h' (by cases b with | tup hb => exact hb i a h)
  | lstNil sz a cap => exact fun _ => .lstNil sz a cap
  | lst cv hc hr hs _ ih => exact fun b => .lst cv hc hr hs fun i x j a h h' => ih i x j a h h' (by cases b with | lst hb => exact hb i x j a h h')
  | rp cv hr _ ih => exact fun b => .rp cv hr fun j a h => ih j a h (by cases b with | rp hb => exact hb j a h)
  | sl ho hl hc hn' => exact fun b => .sl (by cases b with | sl ho => exact ho) hl hc hn'
  | slZero p ho hc => exact fun b => .slZero p (by cases b with | sl ho => exact ho) hc
  | z0 a => exact fun _ => .z0 a
  | ptr ho => exact fun b => .ptr (by cases b with | ptr ho => exact ho)
  | fn hl _ ih => exact fun b => .fn hl fun i a c h h' => ih i a c h h' (by cases b with | fn hb => exact hb i a h)
  | mp ho => exact fun b => .mp (by cases b with | mp ho => exact ho)
  | ifc _ ih => exact fun b => .ifc (ih (by cases b with | ifc hb => exact hb))
def BndObj (n : Nat) : AObj -> Prop
  | .cells cs => ∀ (j : Nat) (a : AV), cs[j]? = some a -> Bnd n a
  | .map es => ∀ (i : Nat) (a b : AV), es[i]? = some (a, b) -> Bnd n a ∧ Bnd n b
  | .dead => True
  | .tag o _ => o < n
def BndHeap (n : Nat) (H : Heap) : Prop := ∀ (o : Nat) (x : AObj), H[o]? = some x -> BndObj n x
section
variable {B : Nat} {β : Lies} {H : Heap} {w : World}
theorem Sim.bnd (s : Sim B β H w) : BndHeap H.length H := by
  intro o x ho
  cases x with
  | cells cs => exact fun j a ha => by obtain ⟨c, _, hr⟩ := s.cell o cs j a ho ha; exact hr.bnd
  | map es =>
    intro i a b he
    obtain ⟨_, ents, clock, _, hl, hr⟩ := s.map o es ho
    have hi : i < ents.size := by have := getElem?_lt he; omega
    have := hr i a b ents[i] he (by simp [hi])
    exact ⟨this.1.bnd, this.2.bnd⟩
  | dead => trivial
  | tag p t => exact (s.tag o p t ho).1
theorem get_take {n o : Nat} {x : AObj} (h : (H.take n)[o]? = some x) : o < n ∧ H[o]? = some x := by
  have := getElem?_lt h
  simp at this
  refine ⟨by omega, ?_⟩
  rw [List.getElem?_take_of_lt (by omega)] at h
  exact h
theorem owned_take {n b i : Nat} (h : Owned β (H.take n) b i) : Owned β H b i := by
  obtain ⟨o, cs, ho, r⟩ := h
  exact ⟨o, cs, (get_take ho).2, r⟩
theorem ro_take {n b i : Nat} {c : Value} (h : RO β H w b i c) : RO β (H.take n) w b i c := ⟨h.1, fun x => h.2 (owned_take x)⟩
theorem Sim.take (s : Sim B β H w) (n : Nat) (hn : n <= H.length) (hb : BndHeap n (H.take n)) : Sim B β (H.take n) w := by
  have hlen : (H.take n).length = n := by simp; omega
  have rep : ∀ {a : AV} {c : Value}, RepH β H w a c -> Bnd n a -> RepH β (H.take n) w a c := fun {a c} hr ha => by
    have h1 : Rep β n (RO β H w) a c := hr.shrink ha
    have h2 := h1.mono (R' := RO β (H.take n) w) (fun _ _ => rfl) (Nat.le_refl n) (fun _ _ _ x => ro_take x)
    unfold RepH; rw [hlen]; exact h2
  refine ⟨s.size, fun o cs ho => s.nodd o cs (get_take ho).2, ?_, ?_, ?_, ?_, ?_, ?_, ?_, ?_⟩
  · intro o cs ho; exact s.base o cs (get_take ho).2
  · intro o cs j a ho ha
    obtain ⟨c, hc, hr⟩ := s.cell o cs j a (get_take ho).2 ha
    exact ⟨c, hc, rep hr (hb o _ ho j a ha)⟩
  · intro o cs j ho hj; exact s.room o cs j (get_take ho).2 hj
  · intro o es ho
    obtain ⟨hb', ents, clock, he, hl', hrep⟩ := s.map o es (get_take ho).2
    exact ⟨hb', ents, clock, he, hl', fun i a b e hi hj => ⟨rep (hrep i a b e hi hj).1 (hb o _ ho i a b hi).1, rep (hrep i a b e hi hj).2 (hb o _ ho i a b hi).2⟩⟩
  · intro o o' cs cs' hne h1 h2; exact s.disj o o' cs cs' hne (get_take h1).2 (get_take h2).2
  · intro o o' cs cs' hne h1 h2; exact s.mdisj o o' cs cs' hne (get_take h1).2 (get_take h2).2
  · intro p o t hp
    obtain ⟨h1, h2⟩ := s.tag p o t (get_take hp).2
    exact ⟨by rw [hlen]; exact hb p _ hp, h2⟩
  · intro o cs t' m ho hsh; exact s.clean o cs t' m (get_take ho).2 hsh
theorem Tr.take {β₀ : Lies} {H₀ : Heap} {w₀ : World} (t : Tr B β₀ H₀ w₀ β H w) (n : Nat) (hn : H₀.length <= n) (hn' : n <= H.length) : Tr B β₀ H₀ w₀ β (H.take n) w :=
  ⟨t.below, by simp; omega, t.em, fun b i c h => ro_take (t.ro b i c h), t.dd, fun b hb hx => by
    obtain ⟨h1, h2⟩ := t.rest b hb hx
    refine ⟨h1, fun h => h2 ?_⟩
    obtain ⟨o, x, ho, hr⟩ := h
    exact ⟨o, x, (get_take ho).2, hr⟩⟩
inductive Frz (H : Heap) (n : Nat) : AV -> AV -> Prop
  | same {a : AV} (h : Bnd n a) : Frz H n a a
  | agg {cs ds : List AV} (hl : ds.length = cs.length) (h : ∀ (i : Nat) (a b : AV), cs[i]? = some a -> ds[i]? = some b -> Frz H n a b) : Frz H n (.agg cs) (.agg ds)
  | tup {cs ds : List AV} (hl : ds.length = cs.length) (h : ∀ (i : Nat) (a b : AV), cs[i]? = some a -> ds[i]? = some b -> Frz H n a b) : Frz H n (.tup cs) (.tup ds)
  | sl {sz o off len : Nat} {cap : Option Nat} {cs xs : List AV} (ho : H[o]? = some (.cells cs)) (hn : n <= o) (hx : xs.length = len) (hl : off + len * sz <= cs.length)
      (hs : ∀ (i : Nat) (x : AV), xs[i]? = some x -> x.cells.length = sz)
      (h : ∀ (i : Nat) (x : AV) (j : Nat) (a b : AV), xs[i]? = some x -> x.cells[j]? = some b -> cs[off + (i * sz + j)]? = some a -> Frz H n a b) :
      Frz H n (.sl sz o off len cap) (.lst sz xs)
  | slZero {sz o off : Nat} {cap : Option Nat} : Frz H n (.sl sz o off 0 cap) (.lst sz [])
  | nil0 {sz : Nat} : Frz H n (.v (.slice none 0 0)) (.lst sz [])
  | z00 {sz : Nat} : Frz H n .z0 (.lst sz [])
  | rp {o off : Nat} {cs : List AV} {x : AV} (ho : H[o]? = some (.cells cs)) (hn : n <= o) (hl : off + x.cells.length <= cs.length)
      (h : ∀ (j : Nat) (a b : AV), x.cells[j]? = some b -> cs[off + j]? = some a -> Frz H n a b) : Frz H n (.ptr o off) (.rp x)
  | ifc {t : TypeId} {x y : AV} (h : Frz H n x y) : Frz H n (.ifc t x) (.ifc t y)
theorem ro_freed (s : Sim B β H w) {n o : Nat} {cs : List AV} (ho : H[o]? = some (.cells cs)) (hn : n <= o) {j : Nat} {a : AV} (ha : cs[j]? = some a) :
    ∃ c, RO β (H.take n) w (β o).blk ((β o).off + j) c ∧ RepH β H w a c := by
  obtain ⟨c, hc, hr⟩ := s.cell o cs j a ho ha
  refine ⟨c, ⟨⟨hc, s.nod ho _⟩, ?_⟩, hr⟩
  rintro ⟨p, ds, hp, hb, h1, h2⟩
  obtain ⟨hlt, hp'⟩ := get_take hp
  have hj := getElem?_lt ha
  have := (s.base o cs ho).2.2
  exact s.disj p o ds cs (by omega) hp' ho hb
theorem Frz.rep (s : Sim B β H w) {n : Nat} {a b : AV} (f : Frz H n a b) : ∀ {c : Value}, RepH β H w a c -> Rep β n (RO β (H.take n) w) b c := by
  induction f with
  | same hb => exact fun {c} hr => (hr.shrink hb).mono (fun _ _ => rfl) (Nat.le_refl n) (fun _ _ _ x => ro_take x)
  | @agg cs ds hl _ ih =>
    intro c hr
    cases hr with
    | agg hl' h' =>
      refine .agg (by omega) fun i b c hb hc => ?_
      have hi : i < cs.length := by have := getElem?_lt hb; omega
      exact ih i cs[i] b (by simp) hb (h' i cs[i] c (by simp) hc)
  | @tup cs ds hl _ ih =>
    intro c hr
    cases hr with
    | tup hl' h' =>
      refine .tup (by omega) fun i b c hb hc => ?_
      have hi : i < cs.length := by have := getElem?_lt hb; omega
      exact ih i cs[i] b (by simp) hb (h' i cs[i] c (by simp) hc)
  | @sl sz o off len cap cs xs ho hn hx hl hs h ih =>
    intro c hr
    cases hr with
    | slZero p _ _ =>
      have : xs = [] := List.length_eq_zero_iff.1 hx
      subst this; exact .lstNil _ _ _
    | @sl _ _ _ _ cap' _ holt hlc _ _ =>
      subst hx
      have key : ∀ k, k < xs.length * sz -> ∃ c, RO β (H.take n) w (β o).blk ((β o).off + (off + k)) c ∧ ∀ a, cs[off + k]? = some a -> RepH β H w a c := by
        intro k hk
        have hk' : off + k < cs.length := by omega
        obtain ⟨c, h1, h2⟩ := ro_freed s ho hn (j := off + k) (a := cs[off + k]) (by simp [hk'])
        exact ⟨c, h1, fun a ha => by simp [hk'] at ha; subst ha; exact h2⟩
      let cv : Nat -> Value := fun k => if hk : k < xs.length * sz then (key k hk).choose else default
      have hcv : ∀ k (hk : k < xs.length * sz), RO β (H.take n) w (β o).blk ((β o).off + (off + k)) (cv k) ∧ ∀ a, cs[off + k]? = some a -> RepH β H w a (cv k) := by
        intro k hk
        simp only [cv, hk, dif_pos]
        exact (key k hk).choose_spec
      refine .lst cv hlc (fun k hk => by rw [Nat.add_assoc]; exact (hcv k hk).1) hs fun i x j b hi hj => ?_
      have hlt := getElem?_lt hi
      have hjlt := getElem?_lt hj
      rw [hs i x hi] at hjlt
      have hk : i * sz + j < xs.length * sz := by
        have : (i + 1) * sz <= xs.length * sz := Nat.mul_le_mul_right _ hlt
        rw [Nat.add_mul] at this; omega
      have hk' : off + (i * sz + j) < cs.length := by omega
      exact ih i x j cs[off + (i * sz + j)] b hi hj (by simp [hk']) ((hcv _ hk).2 _ (by simp [hk']))
  | slZero =>
    intro c hr
    cases hr with
    | slZero p _ _ => exact .lstNil _ _ _
    | sl _ _ _ _ => exact .lstNil _ _ _
  | nil0 => intro c hr; cases hr; exact .lstNil _ _ _
  | z00 => intro c hr; cases hr; exact .lstNil _ _ _
  | @rp o off cs x ho hn hl h ih =>
    intro c hr
    cases hr with
    | ptr holt =>
      have key : ∀ k, k < x.cells.length -> ∃ c, RO β (H.take n) w (β o).blk ((β o).off + (off + k)) c ∧ ∀ a, cs[off + k]? = some a -> RepH β H w a c := by
        intro k hk
        have hk' : off + k < cs.length := by omega
        obtain ⟨c, h1, h2⟩ := ro_freed s ho hn (j := off + k) (a := cs[off + k]) (by simp [hk'])
        exact ⟨c, h1, fun a ha => by simp [hk'] at ha; subst ha; exact h2⟩
      let cv : Nat -> Value := fun k => if hk : k < x.cells.length then (key k hk).choose else default
      have hcv : ∀ k (hk : k < x.cells.length), RO β (H.take n) w (β o).blk ((β o).off + (off + k)) (cv k) ∧ ∀ a, cs[off + k]? = some a -> RepH β H w a (cv k) := by
        intro k hk
        simp only [cv, hk, dif_pos]
        exact (key k hk).choose_spec
      refine .rp cv (fun k hk => by rw [Nat.add_assoc]; exact (hcv k hk).1) fun j b hj => ?_
      have hk := getElem?_lt hj
      have hk' : off + j < cs.length := by omega
      exact ih j cs[off + j] b hj (by simp [hk']) ((hcv _ hk).2 _ (by simp [hk']))
  | ifc _ ih =>
    intro c hr
    cases hr with
    | ifc hr' => exact .ifc (ih hr')
end
end Go.Ab

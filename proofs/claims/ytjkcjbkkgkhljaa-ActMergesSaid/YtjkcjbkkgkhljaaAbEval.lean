/- A part of a law's proof: AbEval. -/
import Derived.Test.YtjkcjbkkgkhljaaAbVc2
set_option linter.constructorNameAsVariable false
/-
  A run of abstract code on what is known: a function that is computed; what it says is so.
-/
namespace Go.Ab
open Go Go.RowKit
set_option linter.unusedVariables false
set_option linter.unusedSimpArgs false
def AV.scal : AV -> Bool
  | .any | .v _ | .z0 => true
  | .agg cs => AV.scalL cs
  | .tup cs => AV.scalL cs
  | .fn _ cs => AV.scalL cs
  | .ifc _ x => x.scal
  | .lst _ xs => xs.isEmpty
  | _ => false
where
  AV.scalL : List AV -> Bool
  | [] => true
  | x :: xs => x.scal && AV.scalL xs
def AV.shut : AV -> Bool
  | .any | .v _ | .z0 => true
  | .agg cs => shutL cs
  | .tup cs => shutL cs
  | .fn _ cs => shutL cs
  | .lst _ xs => shutL xs
  | .rp x => x.shut
  | .ifc _ x => x.shut
  | _ => false
where
  shutL : List AV -> Bool
  | [] => true
  | x :: xs => x.shut && shutL xs
theorem scalL_all {xs : List AV} (h : AV.scal.AV.scalL xs = true) : ∀ (i : Nat) (a : AV), xs[i]? = some a -> a.scal = true := by
  induction xs with
  | nil => intro i a ha; simp at ha
  | cons x xs ih =>
    intro i a ha
    simp only [AV.scal.AV.scalL, Bool.and_eq_true] at h
    cases i with
    | zero => simp at ha; subst ha; exact h.1
    | succ i => exact ih h.2 i a (by simpa using ha)
theorem shutL_all {xs : List AV} (h : AV.shut.shutL xs = true) : ∀ (i : Nat) (a : AV), xs[i]? = some a -> a.shut = true := by
  induction xs with
  | nil => intro i a ha; simp at ha
  | cons x xs ih =>
    intro i a ha
    simp only [AV.shut.shutL, Bool.and_eq_true] at h
    cases i with
    | zero => simp at ha; subst ha; exact h.1
    | succ i => exact ih h.2 i a (by simpa using ha)
theorem Rep.scal {β β' : Lies} {n n' : Nat} {R R' : Nat -> Nat -> Value -> Prop} {x : AV} {c : Value} (h : Rep β n R x c) (hs : x.scal = true) : Rep β' n' R' x c := by
  induction h with
  | any x => exact .any x
  | v x => exact .v x
  | agg hl _ ih => exact .agg hl fun i a c ha hc => ih i a c ha hc (scalL_all (by simpa [AV.scal] using hs) i a ha)
  | tup hl _ ih => exact .tup hl fun i a c ha hc => ih i a c ha hc (scalL_all (by simpa [AV.scal] using hs) i a ha)
  | lstNil sz a cap => exact .lstNil sz a cap
  | @lst sz b off cap xs cv hc hr hs' _ ih =>
    simp only [AV.scal, List.isEmpty_iff] at hs
    subst hs
    exact .lstNil _ _ _
  | z0 a => exact .z0 a
  | fn hl _ ih => exact .fn hl fun i a c ha hc => ih i a c ha hc (scalL_all (by simpa [AV.scal] using hs) i a ha)
  | ifc _ ih => exact .ifc (ih (by simpa [AV.scal] using hs))
  | _ => simp [AV.scal] at hs
theorem cells_shut {x : AV} (h : x.shut = true) {j : Nat} {a : AV} (hj : x.cells[j]? = some a) : a.shut = true := by
  have one : x.cells = [x] -> a.shut = true := by
    intro e
    rw [e] at hj
    cases j with
    | zero => simp at hj; subst hj; exact h
    | succ j => simp at hj
  cases x with
  | agg cs => exact shutL_all (by simpa [AV.shut] using h) j a hj
  | _ => exact one rfl
theorem Rep.shut {β β' : Lies} {n n' : Nat} {R R' : Nat -> Nat -> Value -> Prop} {x : AV} {c : Value} (h : Rep β n R x c) (hR : ∀ b i c, R b i c -> R' b i c) (hs : x.shut = true) : Rep β' n' R' x c := by
  induction h with
  | any x => exact .any x
  | v x => exact .v x
  | agg hl _ ih => exact .agg hl fun i a c ha hc => ih i a c ha hc (shutL_all (by simpa [AV.shut] using hs) i a ha)
  | tup hl _ ih => exact .tup hl fun i a c ha hc => ih i a c ha hc (shutL_all (by simpa [AV.shut] using hs) i a ha)
  | lstNil sz a cap => exact .lstNil sz a cap
  | @lst sz b off cap xs cv hc hr hs' _ ih =>
    refine .lst cv hc (fun k hk => hR _ _ _ (hr k hk)) hs' fun i x j a hi hj => ih i x j a hi hj ?_
    have hx := shutL_all (by simpa [AV.shut] using hs) i x hi
    exact cells_shut hx hj
  | @rp b off x cv hr _ ih =>
    refine .rp cv (fun k hk => hR _ _ _ (hr k hk)) fun j a hj => ih j a hj ?_
    have hx : x.shut = true := by simpa [AV.shut] using hs
    exact cells_shut hx hj
  | z0 a => exact .z0 a
  | fn hl _ ih => exact .fn hl fun i a c ha hc => ih i a c ha hc (shutL_all (by simpa [AV.shut] using hs) i a ha)
  | ifc _ ih => exact .ifc (ih (by simpa [AV.shut] using hs))
  | _ => simp [AV.shut] at hs
theorem Below.widen {B B' : Nat} {w w' : World} (h : Below B' w w') (hb : B <= B') : Below B w w' := by
  exact ⟨h.os, h.tape, h.output, h.size, fun i hi => h.block i (by omega)⟩
theorem ACalls.lift {P : Program} {f : FuncId} {args : List AV} {Q : AV -> Prop} (h : ACalls P f args [] fun r _ => Q r ∧ r.scal = true) (ha : ∀ (i : Nat) (a : AV), args[i]? = some a -> a.shut = true) (H : Heap) :
    ACalls P f args H fun r H' => Q r ∧ H' = H := by
  refine ⟨h.ok, fun B β w cs s hl hargs => ?_⟩
  have sim : Sim w.heap.size β [] w := by
    refine ⟨s.size.top, ?_, ?_, ?_, ?_, ?_, ?_, ?_, ?_, ?_⟩ <;> (intros; simp at *)
  refine Calls.mono (h.go w.heap.size β w cs sim hl fun i a c h1 h2 => (hargs i a c h1 h2).shut (fun b i c hr => ro_nil' hr) (ha i a h1)) ?_
  rintro e w' ⟨r, c, β', H', rfl, ⟨hq, hsc⟩, hrep, _, tr⟩
  have bel := tr.below
  have cellE : ∀ (a : Addr) c, w.cell? a = some c -> w'.cell? a = some c := by
    intro a c hc
    have := bel.block a.block (cell?_lt hc)
    unfold World.cell? at hc ⊢
    rw [this]; exact hc
  have ro : ∀ b i c, RO β H w b i c -> RO β H w' b i c := fun b i c hr => ⟨⟨cellE _ _ hr.1.1, hr.1.2⟩, hr.2⟩
  have rep : ∀ {a c}, RepH β H w a c -> RepH β H w' a c := fun hr => hr.mono (fun _ _ => rfl) (Nat.le_refl _) ro
  refine ⟨r, c, β, H, rfl, ⟨hq, rfl⟩, hrep.scal hsc, ?_, ⟨Below.widen bel s.size.le, Nat.le_refl _, fun _ _ => rfl, ro, rfl, fun b hb hn => ⟨bel.block b hb, hn⟩⟩⟩
  have hsz := bel.size
  refine ⟨s.size.go (Below.widen bel s.size.le), s.nodd, ?_, ?_, ?_, ?_, s.disj, s.mdisj, ?_, ?_⟩
  · intro o cs ho
    obtain ⟨h1, h2, h3⟩ := s.base o cs ho
    exact ⟨h1, by omega, h3⟩
  · intro o cs j a ho hj
    obtain ⟨c, h1, h2⟩ := s.cell o cs j a ho hj
    exact ⟨c, cellE _ _ h1, rep h2⟩
  · intro o cs j ho hj
    obtain ⟨h1, h2⟩ := s.room o cs j ho hj
    have hb := (s.base o cs ho).2.1
    have hblk := bel.block (β o).blk hb
    refine ⟨?_, ?_⟩
    · obtain ⟨c, hc⟩ := Option.isSome_iff_exists.1 h1
      rw [cellE _ _ hc]; rfl
    · unfold World.frozen? at h2 ⊢
      rw [hblk]; exact h2
  · intro o es ho
    obtain ⟨h1, ents, clock, h2, h3, h4⟩ := s.map o es ho
    refine ⟨h1, ents, clock, ?_, h3, fun i a b e hi he => ⟨rep (h4 i a b e hi he).1, rep (h4 i a b e hi he).2⟩⟩
    rw [bel.block (β o).blk ?_]; exact h2
    rcases Nat.lt_or_ge (β o).blk w.heap.size with h | h
    · exact h
    · simp [Array.getElem?_eq_none h] at h2
  · intro p o t hp
    obtain ⟨h1, h2, n, h3⟩ := s.tag p o t hp
    exact ⟨h1, h2, n, by rw [shape_below bel (shape_lt h3)]; exact h3⟩
  · intro o cs t' n ho hsh
    have hb := (s.base o cs ho).2.1
    rw [shape_below bel hb] at hsh
    have h2 := s.clean o cs t' n ho hsh
    unfold World.frozen? at h2 ⊢
    rw [bel.block (β o).blk hb]; exact h2
where
  ro_nil' {β : Lies} {H : Heap} {w : World} {b i : Nat} {c : Value} (hr : RO β H w b i c) : RO β [] w b i c := ⟨hr.1, by rintro ⟨o, cs, ho, _⟩; simp at ho⟩
end Go.Ab

/- A part of a law's proof: AbSame. -/
import Derived.Test.YtjkcjbkkgkhljaaAbEval
set_option linter.constructorNameAsVariable false
/-
  Values and memories that are the same; values over new objects, as lists.
-/
namespace Go.Ab
open Go Go.RowKit
set_option linter.unusedVariables false
set_option linter.unusedSimpArgs false
theorem bnd_shut {n : Nat} : ∀ {a : AV}, a.shut = true -> Bnd n a := by
  intro a
  refine AV.rec (motive_1 := fun a => (a.shut = true -> Bnd n a)) (motive_2 := fun as => AV.shut.shutL as = true -> ∀ (i : Nat) (a : AV), as[i]? = some a -> Bnd n a ∧ ∀ (j : Nat) (b : AV), a.cells[j]? = some b -> Bnd n b)
    ?_ ?_ ?_ ?_ ?_ ?_ ?_ ?_ ?_ ?_ ?_ ?_ ?_ ?_ a
  · intro _; exact .any
  · intro x _; exact .v x
  · intro cs ih h; exact .agg fun i a ha => (ih (by simpa [AV.shut] using h) i a ha).1
  · intro cs ih h; exact .tup fun i a ha => (ih (by simpa [AV.shut] using h) i a ha).1
  · intro sz xs ih h; exact .lst fun i x j b hi hj => (ih (by simpa [AV.shut] using h) i x hi).2 j b hj
  · intro x ih h
    have hx : x.shut = true := by simpa [AV.shut] using h
    have hb := ih hx
    refine .rp fun j b hj => ?_
    cases x with
    | agg cs => cases hb with | agg hh => exact hh j b hj
    | _ => cases j with
      | zero => simp [AV.cells] at hj; subst hj; exact hb
      | succ j => simp [AV.cells] at hj
  · intro sz o off len cap h; simp [AV.shut] at h
  · intro _; exact .z0
  · intro o off h; simp [AV.shut] at h
  · intro f cs ih h; exact .fn fun i a ha => (ih (by simpa [AV.shut] using h) i a ha).1
  · intro o h; simp [AV.shut] at h
  · intro t x ih h; exact .ifc (ih (by simpa [AV.shut] using h))
  · intro _ i a ha; simp at ha
  · intro x xs ihx ih h i a ha
    simp only [AV.shut.shutL, Bool.and_eq_true] at h
    cases i with
    | zero =>
      simp at ha; subst ha
      have hb := ihx h.1
      refine ⟨hb, fun j b hj => ?_⟩
      cases x with
      | agg cs => cases hb with | agg hh => exact hh j b hj
      | _ => cases j with
        | zero => simp [AV.cells] at hj; subst hj; exact hb
        | succ j => simp [AV.cells] at hj
    | succ i => exact ih h.2 i a (by simpa using ha)
def valSame : Value -> Value -> Bool
  | .int k x, .int k' y => decide (k = k') && decide (x = y)
  | .bool x, .bool y => decide (x = y)
  | .string x, .string y => decide (x.data.toList = y.data.toList)
  | .pointer none, .pointer none => true
  | .slice none 0 0, .slice none 0 0 => true
  | .map none, .map none => true
  | .nilFunc, .nilFunc => true
  | .nilIface, .nilIface => true
  | .tuple x, .tuple y => x.isEmpty && y.isEmpty
  | .float k x, .float k' y => decide (k = k') && Nat.beq x y
  | _, _ => false
theorem valSame_eq {x y : Value} (h : valSame x y = true) : x = y := by
  unfold valSame at h
  split at h
  · simp at h; obtain ⟨rfl, rfl⟩ := h; rfl
  · simp at h; rw [h]
  · rename_i x y
    have h := of_decide_eq_true h
    congr 1
    obtain ⟨x⟩ := x
    obtain ⟨y⟩ := y
    congr 1
    exact Array.ext' h
  case h_10 => simp at h; obtain ⟨rfl, rfl⟩ := h; rfl
  all_goals first | rfl | skip
  · rename_i x y
    simp at h
    obtain ⟨rfl, rfl⟩ := h
    rfl
  · cases h
def AV.same : AV -> AV -> Bool
  | .any, .any => true
  | .v x, .v y => valSame x y
  | .agg xs, .agg ys => sameL xs ys
  | .tup xs, .tup ys => sameL xs ys
  | .lst s xs, .lst s' ys => Nat.beq s s' && sameL xs ys
  | .rp x, .rp y => x.same y
  | .sl a b c d e, .sl a' b' c' d' e' => Nat.beq a a' && (Nat.beq b b' && (Nat.beq c c' && (Nat.beq d d' && decide (e = e'))))
  | .z0, .z0 => true
  | .ptr a b, .ptr a' b' => Nat.beq a a' && Nat.beq b b'
  | .fn f xs, .fn g ys => decide (f = g) && sameL xs ys
  | .mp a, .mp b => Nat.beq a b
  | .ifc t x, .ifc u y => decide (t = u) && x.same y
  | _, _ => false
where
  sameL : List AV -> List AV -> Bool
  | [], [] => true
  | x :: xs, y :: ys => x.same y && sameL xs ys
  | _, _ => false
theorem same_eq : ∀ {a b : AV}, a.same b = true -> a = b := by
  intro a
  refine AV.rec (motive_1 := fun a => ∀ {b : AV}, a.same b = true -> a = b) (motive_2 := fun as => ∀ {bs : List AV}, AV.same.sameL as bs = true -> as = bs)
    ?_ ?_ ?_ ?_ ?_ ?_ ?_ ?_ ?_ ?_ ?_ ?_ ?_ ?_ a
  · intro b h; cases b <;> simp [AV.same] at h; rfl
  · intro x b h; cases b <;> simp [AV.same] at h; rw [valSame_eq h]
  · intro cs ih b h; cases b <;> simp [AV.same] at h; rw [ih h]
  · intro cs ih b h; cases b <;> simp [AV.same] at h; rw [ih h]
  · intro sz xs ih b h; cases b <;> simp [AV.same] at h; rw [ih h.2, h.1]
  · intro x ih b h; cases b <;> simp [AV.same] at h; rw [ih h]
  · intro sz o off len cap b h; cases b <;> simp [AV.same] at h; obtain ⟨rfl, rfl, rfl, rfl, rfl⟩ := h; rfl
  · intro b h; cases b <;> simp [AV.same] at h; rfl
  · intro o off b h; cases b <;> simp [AV.same] at h; obtain ⟨rfl, rfl⟩ := h; rfl
  · intro f cs ih b h; cases b <;> simp [AV.same] at h; rw [ih h.2, h.1]
  · intro o b h; cases b <;> simp [AV.same] at h; rw [h]
  · intro t x ih b h; cases b <;> simp [AV.same] at h; rw [ih h.2, h.1]
  · intro bs h; cases bs <;> simp [AV.same.sameL] at h; rfl
  · intro x xs ihx ih bs h
    cases bs with
    | nil => simp [AV.same.sameL] at h
    | cons y ys => simp [AV.same.sameL] at h; rw [ihx h.1, ih h.2]
theorem sameL_eq : ∀ {as bs : List AV}, AV.same.sameL as bs = true -> as = bs := by
  intro as
  induction as with
  | nil => intro bs h; cases bs <;> simp [AV.same.sameL] at h; rfl
  | cons x xs ih =>
    intro bs h
    cases bs with
    | nil => simp [AV.same.sameL] at h
    | cons y ys => simp [AV.same.sameL] at h; rw [same_eq h.1, ih h.2]
def pairsSame : List (AV × AV) -> List (AV × AV) -> Bool
  | [], [] => true
  | (a, b) :: r, (c, d) :: q => a.same c && (b.same d && pairsSame r q)
  | _, _ => false
theorem pairsSame_eq : ∀ {l m : List (AV × AV)}, pairsSame l m = true -> l = m := by
  intro l
  induction l with
  | nil => intro m h; cases m <;> simp [pairsSame] at h; rfl
  | cons p l ih =>
    intro m h
    obtain ⟨a, b⟩ := p
    cases m with
    | nil => simp [pairsSame] at h
    | cons q m => obtain ⟨c, d⟩ := q; simp [pairsSame] at h; rw [same_eq h.1, same_eq h.2.1, ih h.2.2]
def objSame : AObj -> AObj -> Bool
  | .cells xs, .cells ys => AV.same.sameL xs ys
  | .map xs, .map ys => pairsSame xs ys
  | .dead, .dead => true
  | .tag o t, .tag p u => Nat.beq o p && decide (t = u)
  | _, _ => false
theorem objSame_eq {x y : AObj} (h : objSame x y = true) : x = y := by
  cases x <;> cases y <;> simp [objSame] at h
  · rw [sameL_eq h]
  · rw [pairsSame_eq h]
  · rfl
  · obtain ⟨rfl, rfl⟩ := h; rfl
def heapBegins : Heap -> Heap -> Bool
  | [], _ => true
  | x :: xs, y :: ys => match objSame x y with
    | true => heapBegins xs ys
    | false => false
  | _, _ => false
theorem heapBegins_app : ∀ {H H' : Heap}, heapBegins H H' = true -> ∃ L, H' = H ++ L := by
  intro H
  induction H with
  | nil => intro H' _; exact ⟨H', rfl⟩
  | cons x xs ih =>
    intro H' h
    cases H' with
    | nil => simp [heapBegins] at h
    | cons y ys =>
      simp only [heapBegins] at h
      split at h
      · rename_i he
        obtain ⟨L, rfl⟩ := ih h
        exact ⟨L, by rw [objSame_eq he]; rfl⟩
      · cases h
def mapO (f : AV -> Option AV) : List AV -> Option (List AV)
  | [] => some []
  | x :: xs => match f x with
    | some y => match mapO f xs with
      | some ys => some (y :: ys)
      | none => none
    | none => none
theorem mapO_get {f : AV -> Option AV} : ∀ {xs ys : List AV}, mapO f xs = some ys -> ys.length = xs.length ∧ ∀ (i : Nat) (a b : AV), xs[i]? = some a -> ys[i]? = some b -> f a = some b := by
  intro xs
  induction xs with
  | nil => intro ys h; simp [mapO] at h; subst h; exact ⟨rfl, fun i a b h => by simp at h⟩
  | cons x xs ih =>
    intro ys h
    simp only [mapO] at h
    split at h
    · rename_i y hy
      split at h
      · rename_i zs hz
        cases h
        obtain ⟨h1, h2⟩ := ih hz
        refine ⟨by simp [h1], fun i a b ha hb => ?_⟩
        cases i with
        | zero => simp at ha hb; subst ha; subst hb; exact hy
        | succ i => exact h2 i a b (by simpa using ha) (by simpa using hb)
      · cases h
    · cases h
def wrapEl (sz : Nat) (ds : List AV) : Option AV :=
  match sz with
  | 1 => match ds with
    | [d] => match d.isAgg with
      | true => none
      | false => some d
    | _ => none
  | _ => some (.agg ds)
theorem wrapEl_cells {sz : Nat} {ds : List AV} {x : AV} (h : wrapEl sz ds = some x) : x.cells = ds := by
  unfold wrapEl at h
  split at h
  · split at h
    · rename_i d
      split at h
      · cases h
      · rename_i hd
        cases h
        cases x <;> first | rfl | simp [AV.isAgg] at hd
    · cases h
  · cases h; rfl
def frzEls (f : AV -> Option AV) (sz : Nat) : Nat -> List AV -> Option (List AV)
  | 0, _ => some []
  | k + 1, cs => match mapO f (cs.take sz) with
    | some ds => match wrapEl sz ds with
      | some x => match frzEls f sz k (cs.drop sz) with
        | some xs => some (x :: xs)
        | none => none
      | none => none
    | none => none
theorem frzEls_get {f : AV -> Option AV} {sz : Nat} : ∀ {k : Nat} {cs xs : List AV}, frzEls f sz k cs = some xs -> k * sz <= cs.length -> xs.length = k ∧ (∀ (i : Nat) (x : AV), xs[i]? = some x -> x.cells.length = sz) ∧
    ∀ (i : Nat) (x : AV) (j : Nat) (a b : AV), xs[i]? = some x -> x.cells[j]? = some b -> cs[i * sz + j]? = some a -> f a = some b := by
  intro k
  induction k with
  | zero => intro cs xs h _; simp [frzEls] at h; subst h; exact ⟨rfl, fun i x h => by simp at h, fun i x j a b h => by simp at h⟩
  | succ k ih =>
    intro cs xs h hl
    simp only [frzEls] at h
    split at h
    · rename_i ds hds
      split at h
      · rename_i x hx
        split at h
        · rename_i ys hys
          cases h
          have hmul : (k + 1) * sz = k * sz + sz := by rw [Nat.add_mul, Nat.one_mul]
          obtain ⟨h1, h2, h3⟩ := ih hys (by rw [List.length_drop]; omega)
          obtain ⟨m1, m2⟩ := mapO_get hds
          have hc := wrapEl_cells hx
          have hlen : ds.length = sz := by rw [m1, List.length_take]; omega
          refine ⟨by simp [h1], fun i y hy => ?_, fun i y j a b hy hb ha => ?_⟩
          · cases i with
            | zero => simp at hy; subst hy; rw [hc, hlen]
            | succ i => exact h2 i y (by simpa using hy)
          · cases i with
            | zero =>
              simp at hy; subst hy
              rw [hc] at hb
              have hj := getElem?_lt hb
              refine m2 j a b ?_ hb
              rw [List.getElem?_take_of_lt (by omega)]
              simpa using ha
            | succ i =>
              refine h3 i y j a b (by simpa using hy) hb ?_
              rw [List.getElem?_drop]
              rw [<- ha]
              congr 1
              rw [Nat.add_mul, Nat.one_mul]; omega
        · cases h
      · cases h
    · cases h
def frzA (H : Heap) (n : Nat) : Nat -> AV -> Option AV
  | 0, _ => none
  | f + 1, a => match a.shut with
    | true => some a
    | false => match a with
      | .agg cs => match mapO (frzA H n f) cs with
        | some ds => some (.agg ds)
        | none => none
      | .tup cs => match mapO (frzA H n f) cs with
        | some ds => some (.tup ds)
        | none => none
      | .sl sz o off len cap => match Nat.blt o n with
        | true => some (.sl sz o off len cap)
        | false => match H[o]? with
          | some (.cells cs) => match Nat.ble (off + len * sz) cs.length with
            | true => match frzEls (frzA H n f) sz len (cs.drop off) with
              | some xs => some (.lst sz xs)
              | none => none
            | false => none
          | _ => none
      | .ptr o off => match Nat.blt o n with
        | true => some (.ptr o off)
        | false => none
      | .mp o => match Nat.blt o n with
        | true => some (.mp o)
        | false => none
      | _ => none
theorem frzA_sound {H : Heap} {n : Nat} : ∀ {f : Nat} {a b : AV}, frzA H n f a = some b -> Frz H n a b := by
  intro f
  induction f with
  | zero => intro a b h; cases h
  | succ f ih =>
    intro a b h
    simp only [frzA] at h
    split at h
    · rename_i hs; cases h; exact .same (bnd_shut hs)
    · split at h
      · split at h
        · rename_i ds hds
          cases h
          obtain ⟨h1, h2⟩ := mapO_get hds
          exact .agg h1 fun i a b ha hb => ih (h2 i a b ha hb)
        · cases h
      · split at h
        · rename_i ds hds
          cases h
          obtain ⟨h1, h2⟩ := mapO_get hds
          exact .tup h1 fun i a b ha hb => ih (h2 i a b ha hb)
        · cases h
      · split at h
        · rename_i ho; cases h; exact .same (.sl (by rw [Nat.blt_eq] at ho; exact ho))
        · rename_i ho
          have ho : ¬ _ < n := fun hh => by rw [<- Nat.blt_eq, ho] at hh; cases hh
          split at h
          · rename_i cs hcs
            split at h
            · rename_i hle
              have hle := Nat.le_of_ble_eq_true hle
              split at h
              · rename_i xs hxs
                cases h
                obtain ⟨h1, h2, h3⟩ := frzEls_get hxs (by rw [List.length_drop]; omega)
                refine .sl hcs (by omega) h1 hle h2 fun i x j a b hx hb ha => ih (h3 i x j a b hx hb ?_)
                rw [List.getElem?_drop]; exact ha
              · cases h
            · cases h
          · cases h
      · split at h
        · rename_i ho; cases h; exact .same (.ptr (by rw [Nat.blt_eq] at ho; exact ho))
        · cases h
      · split at h
        · rename_i ho; cases h; exact .same (.mp (by rw [Nat.blt_eq] at ho; exact ho))
        · cases h
      · cases h
end Go.Ab

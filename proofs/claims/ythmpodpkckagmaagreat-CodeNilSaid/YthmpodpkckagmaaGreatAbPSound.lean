/- A part of the proof of CodeNil: AbPSound. -/
import Derived.Test.YthmpodpkckagmaaGreatAbPOp
set_option linter.unusedVariables false
set_option linter.unusedSimpArgs false
set_option linter.constructorNameAsVariable false
/-
  The machine gives what the operations of AbPOp give.
-/
namespace Go.Ab
open Go Go.RowKit

section
variable {P : Program} {β : Nat → Em} {n : Nat} {R : Nat → Nat → Value → Prop}

theorem rep_flat {x : AV} {c : Value} (h : Rep β n R x c) {cs : List AV} (hf : x.flat = some cs) :
    cs.length = c.cells.size ∧ ∀ (i : Nat) (a : AV) (d : Value), cs[i]? = some a → c.cells[i]? = some d → Rep β n R a d := by
  have one : ∀ (y : AV) (d : Value), Rep β n R y d → d.cells = #[d] → [y] = cs → cs.length = d.cells.size ∧ ∀ (i : Nat) (a : AV) (e : Value), cs[i]? = some a → d.cells[i]? = some e → Rep β n R a e := by
    intro y d hr hd he
    subst he
    rw [hd]
    refine ⟨rfl, fun i a e h1 h2 => ?_⟩
    cases i with
    | zero => simp at h1 h2; subst h1; subst h2; exact hr
    | succ i => simp at h1
  cases h with
  | any x => simp [AV.flat] at hf
  | v x =>
    cases c with
    | agg cs => simp [AV.flat] at hf
    | _ => simp only [AV.flat, Option.some.injEq] at hf; exact one _ _ (.v _) rfl hf
  | agg hl h => simp [AV.flat] at hf; subst hf; exact ⟨hl, h⟩
  | tup hl h => simp [AV.flat] at hf; exact one _ _ (.tup hl h) rfl hf
  | lstNil sz a cap => simp [AV.flat] at hf; exact one _ _ (.lstNil sz a cap) rfl hf
  | lst cv hc hR hs h => simp [AV.flat] at hf; exact one _ _ (.lst cv hc hR hs h) rfl hf
  | rp cv hR h => simp [AV.flat] at hf; exact one _ _ (.rp cv hR h) rfl hf
  | sl ho hl hc hn => simp [AV.flat] at hf; exact one _ _ (.sl ho hl hc hn) rfl hf
  | slZero p ho hc => simp [AV.flat] at hf; exact one _ _ (.slZero p ho hc) rfl hf
  | z0 a => simp [AV.flat] at hf; exact one _ _ (.z0 a) rfl hf
  | ptr ho => simp [AV.flat] at hf; exact one _ _ (.ptr ho) rfl hf
  | fn hl h => simp [AV.flat] at hf; exact one _ _ (.fn hl h) rfl hf
  | mp ho => simp [AV.flat] at hf; exact one _ _ (.mp ho) rfl hf
  | ifc h => simp [AV.flat] at hf; exact one _ _ (.ifc h) rfl hf

/-- Cells of the machine, all of them told. -/
def Whole (β : Nat → Em) (n : Nat) (R : Nat → Nat → Value → Prop) (as : List AV) (xs : Array Value) : Prop :=
  as.length = xs.size ∧ ∀ (i : Nat) (a : AV) (c : Value), as[i]? = some a → xs[i]? = some c → Rep β n R a c

theorem foldl_set (off : Nat) : ∀ (vs : List (Value × Nat)) (cs : Array Value), (vs.foldl (fun cs (c, j) => cs.setIfInBounds (off + j) c) cs).size = cs.size := by
  intro vs
  induction vs with
  | nil => intro cs; rfl
  | cons v vs ih => intro cs; simp only [List.foldl_cons]; rw [ih]; simp

theorem foldl_get (off : Nat) : ∀ (vs : List Value) (k : Nat) (cs : Array Value) (i : Nat), off + k + vs.length ≤ cs.size →
    ((vs.zipIdx k).foldl (fun cs (c, j) => cs.setIfInBounds (off + j) c) cs)[i]? = if off + k ≤ i ∧ i < off + k + vs.length then vs[i - (off + k)]? else cs[i]? := by
  intro vs
  induction vs with
  | nil => intro k cs i h; simp; omega
  | cons v vs ih =>
    intro k cs i h
    simp only [List.zipIdx_cons, List.foldl_cons, List.length_cons] at *
    rw [ih (k + 1) _ i (by simp; omega)]
    by_cases h1 : off + (k + 1) ≤ i ∧ i < off + (k + 1) + vs.length
    · rw [if_pos h1, if_pos (by omega)]
      have : i - (off + k) = (i - (off + (k + 1))) + 1 := by omega
      rw [this, List.getElem?_cons_succ]
    · rw [if_neg h1]
      by_cases h2 : i = off + k
      · subst h2
        rw [if_pos (by omega), Array.getElem?_setIfInBounds_self_of_lt (by omega)]
        simp
      · rw [if_neg (by omega), Array.getElem?_setIfInBounds_ne (by omega)]

theorem fill_sound {place : Nat → Option (Nat × Nat)} : ∀ (parts : List (Nat × Value)) (aparts : List (Nat × Nat × AV)) (as : List AV) (xs : Array Value) (rs : List AV),
    parts.length = aparts.length →
    (∀ (i : Nat) (p : Nat × Value) (q : Nat × Nat × AV), parts[i]? = some p → aparts[i]? = some q → place p.1 = some (q.1, q.2.1) ∧ Rep β n R q.2.2 p.2) →
    Whole β n R as xs → fillA as aparts = some rs → ∃ ys, Instr.fill place xs parts = some ys ∧ Whole β n R rs ys := by
  intro parts
  induction parts with
  | nil =>
    intro aparts as xs rs hl h hw hf
    cases aparts with
    | nil => simp [fillA] at hf; subst hf; exact ⟨xs, rfl, hw⟩
    | cons _ _ => simp at hl
  | cons p parts ih =>
    intro aparts as xs rs hl h hw hf
    cases aparts with
    | nil => simp at hl
    | cons q aparts =>
      obtain ⟨off, size, v⟩ := q
      obtain ⟨i, c⟩ := p
      have h0 := h 0 _ _ rfl rfl
      simp only at h0
      simp only [fillA] at hf
      split at hf
      · rename_i vs hvs
        split at hf
        · rename_i hc
          obtain ⟨hlen, hget⟩ := rep_flat h0.2 hvs
          have hbad : (c.cells.size ≠ size || decide (off + c.cells.size > xs.size)) = false := by
            have := hw.1
            simp; omega
          have hz : ∀ (cs : Array Value), c.cells.zipIdx.foldl (fun cs (c, j) => cs.setIfInBounds (off + j) c) cs = (c.cells.toList.zipIdx 0).foldl (fun cs (c, j) => cs.setIfInBounds (off + j) c) cs := by
            intro cs
            rw [← Array.foldl_toList, Array.toList_zipIdx]
          simp only [Instr.fill, h0.1]
          rw [if_neg (by simpa using hbad)]
          refine ih aparts _ _ rs (by simpa using hl) (fun i p q hp hq => h (i + 1) p q (by simpa using hp) (by simpa using hq)) ?_ hf
          have hw1 := hw.1
          refine ⟨?_, fun j a d hj hd => ?_⟩
          · rw [hz, foldl_set]; simp; omega
          · rw [hz, foldl_get off _ 0 _ _ (by simp; omega)] at hd
            simp only [Nat.add_zero] at hd
            by_cases hin : off ≤ j ∧ j < off + c.cells.toList.length
            · rw [if_pos hin] at hd
              simp only [Array.length_toList] at hin
              rw [List.getElem?_append_right (by simp; omega), List.getElem?_append_left (by simp; omega)] at hj
              have : j - (as.take off).length = j - off := by simp; omega
              rw [this] at hj
              rw [Array.getElem?_toList] at hd
              exact hget _ _ _ hj hd
            · rw [if_neg hin] at hd
              simp only [Array.length_toList] at hin
              refine hw.2 j a d ?_ hd
              by_cases hlt : j < off
              · rw [List.getElem?_append_left (by simp; omega), List.getElem?_take_of_lt hlt] at hj; exact hj
              · rw [List.getElem?_append_right (by simp; omega), List.getElem?_append_right (by simp; omega), List.getElem?_drop] at hj
                have : off + size + (j - (as.take off).length - vs.length) = j := by simp; omega
                rw [this] at hj; exact hj
        · cases hf
      · cases hf

end

theorem whole_v {β : Nat → Em} {n : Nat} {R : Nat → Nat → Value → Prop} (cs : Array Value) : Whole β n R (cs.toList.map .v) cs :=
  ⟨by simp, fun i a c h h' => by
    simp only [List.getElem?_map, Array.getElem?_toList, h', Option.map_some, Option.some.injEq] at h
    subst h; exact .v _⟩

theorem trX_rep {β : Nat → Em} {n : Nat} {R : Nat → Nat → Value → Prop} {ρ : Nat → AV} {a : Act} (h : ∀ t, Rep β n R (ρ t) (a.tmps.getD t undef)) (x : Operand) :
    Rep β n R ((trX x).ev ρ) (a.eval x) := by
  cases x with
  | tmp t => exact h t
  | const c => exact rep_ofV c
  | global g => exact .v _
  | func f => exact .fn rfl fun i a c h _ => by simp at h

end Go.Ab

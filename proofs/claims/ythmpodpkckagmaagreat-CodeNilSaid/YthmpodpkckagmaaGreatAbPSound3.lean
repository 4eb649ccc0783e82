/- A part of the proof of CodeNil: AbPSound3. -/
import Derived.Test.YthmpodpkckagmaaGreatAbPSound2
set_option linter.constructorNameAsVariable false
namespace Go.Ab
open Go Go.RowKit
set_option linter.unusedVariables false
set_option linter.unusedSimpArgs false

section
variable {P : Program} {β : Nat → Em} {n : Nat} {R : Nat → Nat → Value → Prop}

theorem equal_succ (t : TypeId) (x y : Value) : Op.equal t x y = Op.equalIn (9999 + 1) t x y := rfl

inductive NilCase : TypeDesc → Value → Bool → Prop
  | pointer (e : TypeId) (p : Option Addr) : NilCase (.pointer e) (.pointer p) p.isNone
  | slice (e : TypeId) (p : Option Addr) (l c : Nat) : NilCase (.slice e) (.slice p l c) p.isNone
  | map (k e : TypeId) (p : Option Nat) : NilCase (.map k e) (.map p) p.isNone
  | func (a b : Array TypeId) (v : Bool) (f : Fn) (x y : Array Value) : NilCase (.func a b v) (.func f x y) false
  | nilFunc (a b : Array TypeId) (v : Bool) : NilCase (.func a b v) .nilFunc true
  | iface (ms : Array (String × TypeId)) (t : TypeId) (v : Value) : NilCase (.interface ms) (.iface t v) false
  | nilIface (ms : Array (String × TypeId)) : NilCase (.interface ms) .nilIface true

theorem nilF_case {d : TypeDesc} {a : AV} {r : Bool} (h : nilF d a = some r) {x : Value} (ha : Rep β n R a x) : NilCase d x r := by
  unfold nilF at h
  split at h
  · cases h; cases ha; exact .pointer _ _
  · cases h; cases ha; exact .pointer _ _
  · cases h; cases ha; exact .pointer _ _
  · cases h; cases ha
    · exact .slice _ _ _ _
    · exact .slice _ _ _ _
  · cases h; cases ha; exact .slice _ _ _ _
  · cases h; cases ha; exact .map _ _ _
  · cases h; cases ha; exact .map _ _ _
  · cases h; cases ha; exact .func _ _ _ _ _ _
  · cases h; cases ha; exact .nilFunc _ _ _
  · cases h; cases ha; exact .iface _ _ _
  · cases h; cases ha; exact .nilIface _
  · cases h

theorem nilOf_pointer {e : TypeId} {y : Operand} (h : nilOf (.pointer e) y = true) : y = .const (.pointer none) := by
  unfold nilOf at h; split at h <;> simp_all
theorem nilOf_slice {e : TypeId} {y : Operand} (h : nilOf (.slice e) y = true) : ∃ l c, y = .const (.slice none l c) := by
  unfold nilOf at h; split at h <;> simp_all
theorem nilOf_map {k e : TypeId} {y : Operand} (h : nilOf (.map k e) y = true) : y = .const (.map none) := by
  unfold nilOf at h; split at h <;> simp_all
theorem nilOf_func {a b : Array TypeId} {v : Bool} {y : Operand} (h : nilOf (.func a b v) y = true) : y = .const .nilFunc := by
  unfold nilOf at h; split at h <;> simp_all
theorem nilOf_iface {ms : Array (String × TypeId)} {y : Operand} (h : nilOf (.interface ms) y = true) : y = .const .nilIface := by
  unfold nilOf at h; split at h <;> simp_all

theorem nilF_sound {d : TypeDesc} {a : AV} {r : Bool} (h : nilF d a = some r) {x : Value} (ha : Rep β n R a x) {t : TypeId} (ht : P.underlying t = some d) {y : Operand} (hy : nilOf d y = true)
    (op : BinOp) (hop : op = .eql ∨ op = .neq) (X : Operand) (act : Act) (w : World) :
    ((do eqGuard op t X y x (act.eval y); binOp op t x (act.eval y)) : Sem Value).run P w = .ok (.bool (if op == .neq then !r else r)) w := by
  have hc := nilF_case h ha
  clear h ha
  have fin : ∀ {op : BinOp}, (op = .eql ∨ op = .neq) → ∀ {x v : Value}, (eqGuard op t X y x v).run P w = .ok () w → (Op.equal t x v).run P w = .ok r w → (binOp .eql t x v = (do pure (.bool (← Op.equal t x v)))) → (binOp .neq t x v = (do pure (.bool (!(← Op.equal t x v))))) →
      ((do eqGuard op t X y x v; binOp op t x v) : Sem Value).run P w = .ok (.bool (if op == .neq then !r else r)) w := by
    intro op hop x v hg he h1 h2
    rcases hop with rfl | rfl
    · simp [hg, h1, he]
    · simp [hg, h2, he]
  cases hc with
  | pointer e p =>
    obtain rfl := nilOf_pointer hy
    refine fin hop (eqGuard_plain (x := .pointer p) (by simp) (by simp) w) ?_ rfl rfl
    rw [equal_succ]; generalize 9999 = D; cases p <;> simp [Op.equalIn, run_und ht, Act.eval]
  | slice e p l c =>
    obtain ⟨l', c', rfl⟩ := nilOf_slice hy
    refine fin hop (eqGuard_plain (x := .slice p l c) (by simp) (by simp) w) ?_ rfl rfl
    rw [equal_succ]; generalize 9999 = D; cases p <;> simp [Op.equalIn, run_und ht, Act.eval]
  | map k e p =>
    obtain rfl := nilOf_map hy
    refine fin hop (eqGuard_plain (x := .map p) (by simp) (by simp) w) ?_ rfl rfl
    rw [equal_succ]; generalize 9999 = D; cases p <;> simp [Op.equalIn, run_und ht, Act.eval]
  | func a b v f x z =>
    obtain rfl := nilOf_func hy
    refine fin hop (eqGuard_plain (x := .func f x z) (by simp) (by simp) w) ?_ rfl rfl
    rw [equal_succ]; generalize 9999 = D; simp [Op.equalIn, run_und ht, Act.eval]
  | nilFunc a b v =>
    obtain rfl := nilOf_func hy
    refine fin hop (eqGuard_plain (x := .nilFunc) (by simp) (by simp) w) ?_ rfl rfl
    rw [equal_succ]; generalize 9999 = D; simp [Op.equalIn, run_und ht, Act.eval]
  | iface ms u v =>
    obtain rfl := nilOf_iface hy
    refine fin hop (eqGuard_plain (x := .iface u v) (by simp) (by simp) w) ?_ rfl rfl
    rw [equal_succ]; generalize 9999 = D; simp [Op.equalIn, run_und ht, Act.eval]
  | nilIface ms =>
    obtain rfl := nilOf_iface hy
    refine fin hop ?_ ?_ rfl rfl
    · unfold eqGuard; rcases hop with rfl | rfl <;> simp [Act.eval]
    · rw [equal_succ]; generalize 9999 = D; simp [Op.equalIn, run_und ht, Act.eval]

end
end Go.Ab

/- A part of the proof of CodeNil: AbCode. -/
import Derived.Test.YthmpodpkckagmaaGreatAbMSound5
set_option linter.constructorNameAsVariable false
/-
  Code: what is to be shown of it, and that this is enough.
-/
namespace Go.Ab
open Go Go.RowKit
set_option linter.unusedVariables false
set_option linter.unusedSimpArgs false

abbrev Env := Nat → AV

def upd (e : Env) (d : Nat) (v : AV) : Env := fun t => if t = d then v else e t

@[simp] theorem upd_same (e : Env) (d : Nat) (v : AV) : upd e d v d = v := by simp [upd]
theorem upd_ne (e : Env) {d t : Nat} (v : AV) (h : t ≠ d) : upd e d v t = e t := by simp [upd, h]

structure St where
  env : Env
  heap : Heap

def St.put (s : St) (d : Option Nat) (v : AV) (H : Heap) : St :=
  ⟨match d with | some d => upd s.env d v | none => s.env, H⟩

structure Rel (N B : Nat) (β : Nat → Em) (s : St) (a : Act) (w : World) : Prop where
  sim : Sim B β s.heap w
  rep : ∀ t, RepH β s.heap w (s.env t) (a.tmps.getD t undef)
  defers : a.defers = []
  size : a.tmps.size = N

/-- A function of Go's that is entered when it is called. -/
def Callable (P : Program) (f : FuncId) : Prop := ∃ fn, P.funcs[f]? = some fn ∧ (fn.name == "runtime.NumGoroutine") = false ∧ fn.body.isNone = false

/-- A call, from any memory that this one stands for. -/
structure ACalls (P : Program) (f : FuncId) (args : List AV) (H : Heap) (Q : AV → Heap → Prop) : Prop where
  ok : Callable P f
  go : ∀ (B : Nat) (β : Nat → Em) (w : World) (cs : Array Value), Sim B β H w → args.length = cs.size → (∀ (i : Nat) (a : AV) (c : Value), args[i]? = some a → cs[i]? = some c → RepH β H w a c) →
    Calls P f cs w fun e w' => ∃ r c β' H', e = .returned c ∧ Q r H' ∧ RepH β' H' w' r c ∧ Sim B β' H' w' ∧ Tr B β H w β' H' w'

theorem ACalls.mono {P : Program} {f : FuncId} {args : List AV} {H : Heap} {Q Q' : AV → Heap → Prop} (h : ACalls P f args H Q) (hq : ∀ r H', Q r H' → Q' r H') : ACalls P f args H Q' :=
  ⟨h.ok, fun B β w cs h1 h2 h3 => Calls.mono (h.go B β w cs h1 h2 h3) fun e w' ⟨r, c, β', H', k1, k2, k3, k4, k5⟩ => ⟨r, c, β', H', k1, hq _ _ k2, k3, k4, k5⟩⟩

inductive AExit where
  | normal
  | exit (id : Nat)
  | ret

def AExit.to : AExit → Exit
  | .normal => .normal
  | .exit id => .exit id
  | .ret => .ret

/-- What code comes to, from any memory that this one stands for. -/
def AWp (P : Program) (N : Nat) (c : Code) (Q : AExit → St → Prop) (s : St) : Prop :=
  ∀ (B : Nat) (β : Nat → Em) (a : Act) (w : World), Rel N B β s a w →
    c.wp P (fun e a' w' => ∃ x s' β', e = AExit.to x ∧ Q x s' ∧ Rel N B β' s' a' w' ∧ Tr B β s.heap w β' s'.heap w') a w

section
variable {P : Program} {N : Nat} {Q : AExit → St → Prop} {s : St}

theorem AWp.mono {c : Code} {Q' : AExit → St → Prop} (h : AWp P N c Q s) (hq : ∀ x s, Q x s → Q' x s) : AWp P N c Q' s := by
  intro B β a w hr
  exact wp_mono (h B β a w hr) fun e a' w' ⟨x, s', β', h1, h2, h3, h4⟩ => ⟨x, s', β', h1, hq _ _ h2, h3, h4⟩

theorem AWp.skip (h : Q .normal s) : AWp P N .skip Q s := fun B β a w hr => wp_skip ⟨.normal, s, β, rfl, h, hr, Tr.refl _ _ _ _⟩
theorem AWp.ret (h : Q .ret s) : AWp P N .ret Q s := fun B β a w hr => wp_ret ⟨.ret, s, β, rfl, h, hr, Tr.refl _ _ _ _⟩
theorem AWp.exit {id : Nat} (h : Q (.exit id) s) : AWp P N (.exit id) Q s := fun B β a w hr => wp_exit ⟨.exit id, s, β, rfl, h, hr, Tr.refl _ _ _ _⟩

def thenQ (K : St → Prop) (Q : AExit → St → Prop) : AExit → St → Prop
  | .normal, s => K s
  | .exit id, s => Q (.exit id) s
  | .ret, s => Q .ret s

theorem AWp.seq {x y : Code} (h : AWp P N x (thenQ (AWp P N y Q) Q) s) : AWp P N (.seq x y) Q s := by
  intro B β a w hr
  refine wp_seq (wp_mono (h B β a w hr) ?_)
  rintro e a' w' ⟨e', s', β', rfl, h2, h3, h4⟩
  cases e' with
  | normal =>
    refine wp_mono (h2 B β' a' w' h3) ?_
    rintro e a₂ w₂ ⟨e'', s₂, β₂, k1, k2, k3, k4⟩
    exact ⟨e'', s₂, β₂, k1, k2, k3, h4.trans k4⟩
  | exit id => exact ⟨.exit id, s', β', rfl, h2, h3, h4⟩
  | ret => exact ⟨.ret, s', β', rfl, h2, h3, h4⟩

theorem Rel.ev {B : Nat} {β : Nat → Em} {a : Act} {w : World} (hr : Rel N B β s a w) (x : Operand) : RepH β s.heap w ((trX x).ev s.env) (a.eval x) := trX_rep hr.rep x

theorem AWp.cond {c : Operand} {x y : Code} {b : Bool} (hc : (trX c).ev s.env = .v (.bool b)) (h : if b then AWp P N x Q s else AWp P N y Q s) : AWp P N (.cond c x y) Q s := by
  intro B β a w hr
  have he := hr.ev c
  rw [hc] at he
  refine wp_cond (t := b) (rep_v he) ?_
  cases b
  · exact h B β a w hr
  · exact h B β a w hr

def blockQ (id : Nat) (Q : AExit → St → Prop) : AExit → St → Prop
  | .normal, s => Q .normal s
  | .exit id', s => if id' = id then Q .normal s else Q (.exit id') s
  | .ret, s => Q .ret s

theorem AWp.block {id : Nat} {c : Code} (h : AWp P N c (blockQ id Q) s) : AWp P N (.block id c) Q s := by
  intro B β a w hr
  refine wp_block (wp_mono (h B β a w hr) ?_)
  rintro e a' w' ⟨e', s', β', rfl, h2, h3, h4⟩
  cases e' with
  | normal => exact ⟨.normal, s', β', rfl, h2, h3, h4⟩
  | exit id' =>
    simp only [AExit.to, Exit.inBlock, blockQ] at h2 ⊢
    split at h2
    · rename_i hid; rw [if_pos hid]; exact ⟨.normal, s', β', rfl, h2, h3, h4⟩
    · rename_i hid; rw [if_neg hid]; exact ⟨.exit id', s', β', rfl, h2, h3, h4⟩
  | ret => exact ⟨.ret, s', β', rfl, h2, h3, h4⟩

theorem steps_tail {X Y T : Machine} (h : step P X = .next Y) (hne : X ≠ T) (hs : Steps P X T) : Steps P Y T := by
  obtain ⟨n, hn⟩ := hs
  cases n with
  | zero => simp [runN] at hn; exact absurd hn hne
  | succ n => simp only [runN, h] at hn; exact ⟨n, hn⟩

theorem exitTo_shorter {id : Nat} : ∀ {k k' : List Item}, exitTo id k = some k' → k'.length < k.length := by
  intro k
  induction k with
  | nil => intro k' h; simp [exitTo] at h
  | cons x k ih =>
    intro k' h
    cases x <;> simp only [exitTo] at h
    case inBlock id' =>
      split at h
      · cases h; simp
      · have := ih h; simp; omega
    all_goals (have := ih h; simp; omega)

theorem lone_ne {b : Frame} {a a' : Act} {l l' : List Item} {cs : List Frame} {w w' : World} (h : l'.length < l.length) : lone (b.at a l) cs w ≠ lone (b.at a' l') cs w' := by
  intro e
  have h1 : (lone (b.at a l) cs w).gs[0]? = (lone (b.at a' l') cs w').gs[0]? := by rw [e]
  simp [lone] at h1
  have h2 : (b.at a l).todo = (b.at a' l').todo := by rw [h1]
  simp [Frame.at] at h2
  rw [h2] at h; omega

theorem lone_ne_ret {b : Frame} {a a' : Act} {l l' : List Item} {cs : List Frame} {w w' : World} : lone (b.at a l) cs w ≠ lone { b.at a' l' with mode := .returning } cs w' := by
  intro e
  have h1 : (lone (b.at a l) cs w).gs[0]? = (lone { b.at a' l' with mode := .returning } cs w').gs[0]? := by rw [e]
  simp [lone] at h1
  have h2 : (b.at a l).mode = ({ b.at a' l' with mode := .returning } : Frame).mode := by rw [h1]
  simp [Frame.at] at h2

/-- A round more. -/
theorem AWp.loop {c : Code} (h : AWp P N c (thenQ (AWp P N (.loop c) Q) Q) s) : AWp P N (.loop c) Q s := by
  intro B β a w hr b k cs
  obtain ⟨e, a₁, w₁, ⟨e', s', β', rfl, h2, h3, h4⟩, harr⟩ := h B β a w hr b (.inLoop c :: k) cs
  cases e' with
  | normal =>
    obtain ⟨e₂, a₂, w₂, ⟨e'', s₂, β₂, rfl, k2, k3, k4⟩, harr₂⟩ := h2 B β' a₁ w₁ h3 b k cs
    refine ⟨_, a₂, w₂, ⟨e'', s₂, β₂, rfl, k2, k3, h4.trans k4⟩, ?_⟩
    -- the loop's head is passed twice: once as code, once as what is left of a round
    have hl : ∀ {m : Machine}, Steps P m (lone (b.at a₁ (.inLoop c :: k)) cs w₁) → Arrives P (lone (b.at a₁ (.code (.loop c) :: k)) cs w₁) b k cs (AExit.to e'') a₂ w₂ → Arrives P m b k cs (AExit.to e'') a₂ w₂ := by
      intro m hm ha
      have h1 : step P (lone (b.at a₁ (.code (.loop c) :: k)) cs w₁) = .next (lone (b.at a₁ (.code c :: .inLoop c :: k)) cs w₁) := step_loop
      have h2 : step P (lone (b.at a₁ (.inLoop c :: k)) cs w₁) = .next (lone (b.at a₁ (.code c :: .inLoop c :: k)) cs w₁) := step_inLoop
      have hm' := hm.trans (.one h2)
      cases e'' with
      | normal => exact hm'.trans (steps_tail h1 (lone_ne (by simp)) ha)
      | exit id => exact fun k' hk => hm'.trans (steps_tail h1 (lone_ne (by have := exitTo_shorter hk; simp; omega)) (ha k' hk))
      | ret => obtain ⟨todo, hs⟩ := ha; exact ⟨todo, hm'.trans (steps_tail h1 lone_ne_ret hs)⟩
    exact hl (.head step_loop harr) harr₂
  | exit id => exact ⟨_, a₁, w₁, ⟨.exit id, s', β', rfl, h2, h3, h4⟩, .of_steps (.one step_loop) (.pass (x := .inLoop c) rfl (fun _ _ => .inl (by simp [AExit.to])) harr)⟩
  | ret => exact ⟨_, a₁, w₁, ⟨.ret, s', β', rfl, h2, h3, h4⟩, .of_steps (.one step_loop) (.pass (x := .inLoop c) rfl (fun _ _ => .inl (by simp [AExit.to])) harr)⟩

end
end Go.Ab

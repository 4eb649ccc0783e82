/- A part of a law's proof: AbVc2. -/
import Derived.Test.YtnaljkdgcooidaaGreatAbVc
set_option linter.constructorNameAsVariable false
/-
  A region whose operations come in whatever order: the text's order is enough, where those that may change places do not meet.
-/
namespace Go.Ab
open Go Go.RowKit
set_option linter.unusedVariables false
set_option linter.unusedSimpArgs false

/-! ### which variables an operation looks at -/

def AX.slots : AX → List Nat
  | .s t => [t]
  | .c _ => []

def slotsO (x : Option AX) : List Nat := match x with | some x => x.slots | none => []
def slotsL (xs : List AX) : List Nat := xs.flatMap AX.slots
def slotsP (xs : List (Nat × Nat × AX)) : List Nat := xs.flatMap fun p => p.2.2.slots

def POp.slots : POp → List Nat
  | .mov x | .eqn _ _ x | .un _ x | .cint _ x | .cstr x | .fieldAddr _ _ x | .field _ _ x | .extract x _ | .mkIfc _ x | .nilCheck x | .len _ x => x.slots
  | .pick c a b => c.slots ++ (a.slots ++ b.slots)
  | .build _ ps => slotsP ps
  | .bin _ x y | .eqa _ _ _ x y | .idxArr _ _ x y | .idxStr x y | .adrSl _ x y | .adrArr _ _ x y => x.slots ++ y.slots
  | .slStr x a b => x.slots ++ (slotsO a ++ slotsO b)
  | .slSl _ x a b c => x.slots ++ (slotsO a ++ (slotsO b ++ slotsO c))
  | .mkFn _ xs => slotsL xs
  | .lenC _ => []
  | .mm _ x xs => x.slots ++ slotsL xs

def YOp.slots : YOp → List Nat
  | .mk => []
  | .look _ _ _ _ m k | .del _ _ m k => m.slots ++ k.slots
  | .upd _ _ m k v => m.slots ++ (k.slots ++ v.slots)
  | .len m => m.slots

theorem YOp.run_agree' {op : YOp} {e e' : Nat → AV} {H : Heap} (hx : ∀ x : AX, (∀ t, t ∈ x.slots → t ∈ op.slots) → x.ev e = x.ev e') : op.run e H = op.run e' H := by
  cases op with
  | mk => rfl
  | look _ _ _ _ m k | del _ _ m k => simp only [YOp.run]; rw [hx m fun t h => List.mem_append_left _ h, hx k fun t h => List.mem_append_right _ h]
  | upd _ _ m k v => simp only [YOp.run]; rw [hx m fun t h => List.mem_append_left _ h, hx k fun t h => List.mem_append_right _ (List.mem_append_left _ h), hx v fun t h => List.mem_append_right _ (List.mem_append_right _ h)]
  | len m => simp only [YOp.run]; rw [hx m fun t h => h]

def XOp.slots : XOp → List Nat
  | .map y => y.slots
  | .ident x | .capK x | .clear _ _ x | .retype _ _ x | .sdata x => x.slots
  | .allocT _ _ => []
  | .ovl x y | .eqp _ x y | .appendT _ x y | .ustr _ x y => x.slots ++ y.slots

theorem XOp.run_agree' {op : XOp} {e e' : Nat → AV} {H : Heap} (hx : ∀ x : AX, (∀ t, t ∈ x.slots → t ∈ op.slots) → x.ev e = x.ev e') : op.run e H = op.run e' H := by
  cases op with
  | map y => exact YOp.run_agree' hx
  | ident x | capK x | clear _ _ x | retype _ _ x | sdata x => simp only [XOp.run]; rw [hx x fun t h => h]
  | allocT e zs => rfl
  | ovl x y | eqp _ x y | appendT _ x y | ustr _ x y => simp only [XOp.run]; rw [hx x fun t h => List.mem_append_left _ h, hx y fun t h => List.mem_append_right _ h]

def MOp.slots : MOp → List Nat
  | .ext x => x.slots
  | .load _ x | .box x | .b2s x | .s2b x => x.slots
  | .alloc _ => []
  | .buildSlice _ _ _ ps => slotsP ps
  | .mkSlice _ _ _ x y | .store _ x y | .append _ _ x y | .appendStr x y | .appendZ _ _ _ x y | .copy _ x y | .copyStr x y => x.slots ++ y.slots

def AAct.slots : AAct → List Nat
  | .p op => op.slots
  | .m op => op.slots
  | .call f xs | .pcall f xs | .qcall f xs => f.slots ++ slotsL xs
  | .never => []

def AOper.reads (o : AOper) : List Nat := o.act.slots ++ (match o.guard with | some (g, _) => [g] | none => [])

def Agree (l : List Nat) (e e' : Env) : Prop := ∀ t, t ∈ l → e t = e' t

theorem Agree.left {l m : List Nat} {e e' : Env} (h : Agree (l ++ m) e e') : Agree l e e' := fun t ht => h t (List.mem_append_left _ ht)
theorem Agree.right {l m : List Nat} {e e' : Env} (h : Agree (l ++ m) e e') : Agree m e e' := fun t ht => h t (List.mem_append_right _ ht)

theorem AX.ev_agree {x : AX} {e e' : Env} (h : Agree x.slots e e') : x.ev e = x.ev e' := by
  cases x with
  | s t => exact h t (by simp [AX.slots])
  | c x => rfl

theorem evO_agree {x : Option AX} {e e' : Env} (h : Agree (slotsO x) e e') : x.map (·.ev e) = x.map (·.ev e') := by
  cases x with
  | none => rfl
  | some x => simp only [Option.map_some]; rw [AX.ev_agree h]

theorem evL_agree : ∀ {xs : List AX} {e e' : Env}, Agree (slotsL xs) e e' → xs.map (·.ev e) = xs.map (·.ev e') := by
  intro xs e e' h
  refine List.map_congr_left fun x hx => AX.ev_agree fun t ht => h t ?_
  exact List.mem_flatMap.2 ⟨x, hx, ht⟩

theorem evP_agree {xs : List (Nat × Nat × AX)} {e e' : Env} (h : Agree (slotsP xs) e e') : xs.map (fun (o, s, x) => (o, s, x.ev e)) = xs.map (fun (o, s, x) => (o, s, x.ev e')) := by
  refine List.map_congr_left fun x hx => ?_
  obtain ⟨o, s, x⟩ := x
  simp only
  rw [AX.ev_agree (x := x) fun t ht => h t (List.mem_flatMap.2 ⟨_, hx, ht⟩)]

theorem POp.run_agree {op : POp} {e e' : Env} (h : Agree op.slots e e') : op.run e = op.run e' := by
  cases op <;> simp only [POp.slots] at h <;> simp only [POp.run] <;> first
    | rw [AX.ev_agree h]
    | rw [AX.ev_agree h.left, AX.ev_agree h.right]
    | rw [AX.ev_agree h.left, AX.ev_agree h.right.left, AX.ev_agree h.right.right]
    | rw [evP_agree h]
    | rw [evL_agree h]
    | rw [AX.ev_agree h.left, evL_agree h.right]
    | rw [AX.ev_agree h.left, evO_agree h.right.left, evO_agree h.right.right]
    | rw [AX.ev_agree h.left, evO_agree h.right.left, evO_agree h.right.right.left, evO_agree h.right.right.right]
    | rfl

theorem MOp.run_agree {op : MOp} {e e' : Env} {H : Heap} (h : Agree op.slots e e') : op.run e H = op.run e' H := by
  cases op <;> simp only [MOp.slots] at h <;> simp only [MOp.run] <;> first
    | exact XOp.run_agree' fun x hx => AX.ev_agree fun t ht => h t (hx t ht)
    | rw [AX.ev_agree h]
    | rw [AX.ev_agree h.left, AX.ev_agree h.right]
    | rw [evP_agree h]
    | rfl

/-! ### kinds of operations -/

inductive Cls where
  | p | r | a | w | q
  deriving DecidableEq

/-- Of the rarer kinds: does it hang on its operands alone? -/
def XOp.calm : XOp → Bool
  | .ident _ | .capK _ | .eqp .. | .sdata _ => true
  | _ => false

theorem XOp.calm_run {op : XOp} (hc : op.calm = true) {e : Nat → AV} {H H' H₂ : Heap} {v : AV} (h : op.run e H = some (v, H')) : H' = H ∧ op.run e H₂ = some (v, H₂) := by
  cases op with
  | ident x => simp only [XOp.run] at h ⊢; cases h; exact ⟨rfl, rfl⟩
  | capK x => simp only [XOp.run] at h ⊢; split at h <;> first | (rename_i hx; cases h; simp [hx]) | cases h
  | eqp n x y =>
    simp only [XOp.run] at h ⊢
    split at h
    · split at h
      · rename_i h1 h2 h3
        cases h
        simp [h1, h2, h3]
      · cases h
    · cases h
  | sdata x =>
    simp only [XOp.run] at h ⊢
    split at h
    · rename_i hx; cases h; simp [hx]
    · rename_i hx
      split at h
      · cases h
      · rename_i h0; cases h; simp [hx, h0]
    · cases h
  | _ => simp [XOp.calm] at hc

/-- Of the rarer kinds: does it look at memory, and leave it as it is? -/
def XOp.still : XOp → Bool
  | .map (.look ..) | .map (.len _) | .ovl .. => true
  | _ => false

theorem XOp.still_run {op : XOp} (hc : op.still = true) {e : Nat → AV} {H H' : Heap} {v : AV} (h : op.run e H = some (v, H')) : H' = H := by
  cases op with
  | map y =>
    cases y with
    | look ks agg ok z m k =>
      simp only [XOp.run, YOp.run] at h
      split at h
      · split at h <;> first | (cases h; rfl) | cases h
      · cases h
    | len m =>
      simp only [XOp.run, YOp.run] at h
      split at h <;> first | (cases h; rfl) | cases h
    | _ => simp [XOp.still] at hc
  | ovl x y =>
    simp only [XOp.run] at h
    split at h
    · split at h
      · split at h
        · cases h; rfl
        · cases h
      · cases h
    · cases h
  | _ => simp [XOp.still] at hc

def AAct.cls : AAct → Cls
  | .qcall _ _ => .q
  | .p _ | .pcall _ _ => .p
  | .m (.ext x) => if x.calm then .p else if x.still then .q else .w
  | .m (.load _ _) | .m (.b2s _) => .r
  | .m (.alloc _) | .m (.box _) | .m (.buildSlice ..) | .m (.mkSlice ..) | .m (.s2b _) => .a
  | _ => .w

/-- May these two change places? -/
def meet (x y : Cls) : Bool :=
  match x, y with
  | .p, _ | _, .p | .r, .r | .r, .a | .a, .r | .q, .r | .r, .q | .q, .q => true
  | _, _ => false

/-! ### one operation as a step -/

def DAct (P : Program) (act : AAct) (s : St) (v : AV) (H : Heap) : Prop :=
  match act with
  | .p op => op.run s.env = some v ∧ H = s.heap
  | .m op => op.run s.env s.heap = some (v, H)
  | .call f args => ∃ g cap, f.ev s.env = .fn g cap ∧ ACalls P g (args.map (·.ev s.env) ++ cap) s.heap fun r H' => r = v ∧ H' = H
  | .pcall f args => ∃ g cap, f.ev s.env = .fn g cap ∧ PureCall P g (args.map (·.ev s.env) ++ cap) v ∧ H = s.heap
  | .qcall f args => ∃ g cap, f.ev s.env = .fn g cap ∧ (ACalls P g (args.map (·.ev s.env) ++ cap) s.heap fun r H' => r = v ∧ H' = s.heap) ∧ H = s.heap
  | .never => False

def wantA (o : AOper) (s : St) : Prop := match o.guard with
  | none => True
  | some (g, b) => s.env g = .v (.bool b)

def waitA (o : AOper) (s : St) : Prop := match o.guard with
  | none => False
  | some (g, b) => (∃ b', s.env g = .v (.bool b') ∧ b' ≠ b) ∨ ∃ vs, s.env g = .v (.tuple vs)

inductive DEff (P : Program) (o : AOper) (s : St) : AV → Heap → Prop
  | run {v : AV} {H : Heap} (hg : wantA o s) (h : DAct P o.act s v H) : DEff P o s v H
  | skip (hg : waitA o s) : DEff P o s unit s.heap

def DStep (P : Program) (o : AOper) (s s' : St) : Prop := ∃ v H, DEff P o s v H ∧ s' = s.put o.dst v H

inductive Runs (P : Program) : List AOper → St → St → Prop
  | nil (s : St) : Runs P [] s s
  | cons {o : AOper} {os : List AOper} {s s₁ s₂ : St} (h : DStep P o s s₁) (t : Runs P os s₁ s₂) : Runs P (o :: os) s s₂

section
variable {P : Program} {N : Nat}

theorem DAct.vc {act : AAct} {s : St} {v : AV} {H : Heap} (h : DAct P act s v H) : vcAct P act (fun v' H' => v' = v ∧ H' = H) s := by
  cases act with
  | p op => exact ⟨v, h.1, rfl, h.2.symm⟩
  | m op => exact ⟨(v, H), h, rfl, rfl⟩
  | call f args => obtain ⟨g, cap, h1, h2⟩ := h; simp only [vcAct, h1]; exact h2
  | pcall f args => obtain ⟨g, cap, h1, h2, h3⟩ := h; simp only [vcAct, h1]; exact ⟨v, h2, rfl, h3.symm⟩
  | qcall f args => obtain ⟨g, cap, h1, h2, h3⟩ := h; simp only [vcAct, h1]; exact ⟨v, h2, rfl, h3.symm⟩
  | never => exact h

theorem DStep.vc {o : AOper} {s s' : St} (h : DStep P o s s') : vcOp P o (fun t => t = s') s := by
  obtain ⟨v, H, h, rfl⟩ := h
  obtain ⟨dst, act, guard, hint⟩ := o
  cases h with
  | run hg h =>
    cases guard with
    | none => simp only [vcOp]; exact vcAct_mono (fun v H ⟨h1, h2⟩ => by rw [h1, h2]) h.vc
    | some p =>
      obtain ⟨g, b⟩ := p
      simp only [wantA] at hg
      simp only [vcOp, hg, vcGuard, if_true]; exact vcAct_mono (fun v H ⟨h1, h2⟩ => by rw [h1, h2]) h.vc
  | skip hg =>
    cases guard with
    | none => exact hg.elim
    | some p =>
      obtain ⟨g, b⟩ := p
      simp only [waitA] at hg
      rcases hg with ⟨b', he, hne⟩ | ⟨vs, he⟩
      · simp only [vcOp, he, vcGuard, if_neg hne]
      · simp only [vcOp, he, vcGuard]

/-- A state that some memory of the machine stands for. -/
def Live (N : Nat) (s : St) : Prop := ∃ B β a w, Rel N B β s a w

theorem Live.env {s : St} (h : Live N s) (t : Nat) : Bnd s.heap.length (s.env t) := by
  obtain ⟨B, β, a, w, hr⟩ := h
  exact (hr.rep t).bnd

theorem Live.ev {s : St} (h : Live N s) (x : AX) (hx : ∀ y, x = .c y → Bnd s.heap.length y) : Bnd s.heap.length (x.ev s.env) := by
  cases x with
  | s t => exact h.env t
  | c y => exact hx y rfl

/-- What the machine's own operation tells of a step. -/
theorem wp_exists {o : Oper} {a : Act} {w : World} {next : Act → World → Prop} {Q : Exit → Act → World → Prop} (h : o.wp P a w next Q) (hQ : ∀ e a w, ¬ Q e a w) : ∃ a' w', next a' w' := by
  unfold Oper.wp at h
  generalize (execOp a.eval o).run P w = r at h
  cases r with
  | ok n w' =>
    cases n <;> simp only [Oper.upon] at h
    case value v => exact ⟨_, _, h⟩
    case skip => exact ⟨_, _, h⟩
    case defer d => exact ⟨_, _, h⟩
    case enter f args =>
      obtain ⟨e, w'', fr, hR, _⟩ := h []
      cases e with
      | returned v => exact ⟨_, _, hR⟩
      | panicked c => exact (hQ _ _ _ hR).elim
      | outgrown => obtain ⟨a0, w0, hq⟩ := hR; exact (hQ _ _ _ hq).elim
    case row row args =>
      obtain ⟨v, w'', hR, _⟩ := h default []
      exact ⟨_, _, hR⟩
  | halt x w' =>
    cases x <;> simp only [Oper.upon] at h
    case panic v => exact (hQ _ _ _ h).elim

theorem DStep.live {ops : Array Oper} {o : Oper} {ao bo : AOper} (htr : trO P N ops o = some bo) (hlike : Like ao bo) {s s' : St} (hl : Live N s) (h : DStep P ao s s') : Live N s' := by
  obtain ⟨B, β, a, w, hr⟩ := hl
  have h1 := op_sound (Q := fun _ _ _ => False) htr hlike hr h.vc (next := fun a' w' => ∃ β', Rel N B β' s' a' w') (fun s₂ β' a' w' e k1 _ => ⟨β', e ▸ k1⟩)
  split at h1
  · obtain ⟨a', w', β', k⟩ := wp_exists h1 (fun _ _ _ h => h)
    exact ⟨B, β', a', w', k⟩
  · obtain ⟨β', k⟩ := h1
    exact ⟨B, β', _, _, k⟩

/-! ### two that change places -/

theorem DAct.agree {act : AAct} {s s' : St} (he : Agree act.slots s.env s'.env) (hh : s'.heap = s.heap) {v : AV} {H : Heap} (h : DAct P act s v H) : DAct P act s' v H := by
  cases act with
  | p op => exact ⟨by rw [← POp.run_agree (op := op) he]; exact h.1, by rw [hh]; exact h.2⟩
  | m op => show op.run s'.env s'.heap = _; rw [hh, ← MOp.run_agree (op := op) he]; exact h
  | call f args =>
    obtain ⟨g, cap, h1, h2⟩ := h
    exact ⟨g, cap, by rw [← AX.ev_agree he.left]; exact h1, by rw [hh, ← evL_agree he.right]; exact h2⟩
  | pcall f args =>
    obtain ⟨g, cap, h1, h2, h3⟩ := h
    exact ⟨g, cap, by rw [← AX.ev_agree he.left]; exact h1, by rw [← evL_agree he.right]; exact h2, by rw [hh]; exact h3⟩
  | qcall f args =>
    obtain ⟨g, cap, h1, h2, h3⟩ := h
    exact ⟨g, cap, by rw [← AX.ev_agree he.left]; exact h1, by rw [hh, ← evL_agree he.right]; exact h2, by rw [hh]; exact h3⟩
  | never => exact h

/-- One of the first kind does not look at memory. -/
theorem DAct.anywhere {act : AAct} (hc : act.cls = .p) {s s' : St} (he : Agree act.slots s.env s'.env) {v : AV} {H : Heap} (h : DAct P act s v H) : H = s.heap ∧ DAct P act s' v s'.heap := by
  cases act with
  | p op => exact ⟨h.2, by rw [← POp.run_agree (op := op) he]; exact h.1, rfl⟩
  | m op =>
    cases op
    case ext x =>
      simp only [AAct.cls] at hc
      split at hc
      · rename_i hx
        have h1 : x.run s.env s.heap = some (v, H) := h
        have h2 := XOp.calm_run (H₂ := s'.heap) hx h1
        refine ⟨h2.1, ?_⟩
        have h3 : x.run s.env s'.heap = x.run s'.env s'.heap := XOp.run_agree' fun y hy => AX.ev_agree fun t ht => he t (hy t ht)
        show x.run s'.env s'.heap = some (v, s'.heap)
        rw [← h3]; exact h2.2
      · split at hc <;> cases hc
    all_goals simp [AAct.cls] at hc
  | call f args => simp [AAct.cls] at hc
  | qcall f args => simp [AAct.cls] at hc
  | pcall f args =>
    obtain ⟨g, cap, h1, h2, h3⟩ := h
    exact ⟨h3, g, cap, by rw [← AX.ev_agree he.left]; exact h1, by rw [← evL_agree he.right]; exact h2, rfl⟩
  | never => exact h.elim

/-- One that only reads leaves memory as it is. -/
theorem DAct.still {act : AAct} (hc : act.cls = .q) {s : St} {v : AV} {H : Heap} (h : DAct P act s v H) : H = s.heap := by
  cases act with
  | m op =>
    cases op
    case ext x =>
      simp only [AAct.cls] at hc
      split at hc
      · cases hc
      · split at hc
        · rename_i hx; exact XOp.still_run hx h
        · cases hc
    all_goals simp [AAct.cls] at hc
  | p op => simp [AAct.cls] at hc
  | call f args => simp [AAct.cls] at hc
  | pcall f args => simp [AAct.cls] at hc
  | qcall f args => obtain ⟨g, cap, h1, h2, h3⟩ := h; exact h3
  | never => exact h.elim

theorem DAct.reads {act : AAct} (hc : act.cls = .r) {s : St} {v : AV} {H : Heap} (h : DAct P act s v H) : H = s.heap := by
  cases act with
  | m op =>
    cases op
    case ext x => (simp only [AAct.cls] at hc; split at hc <;> (try cases hc)); (split at hc <;> cases hc)
    all_goals simp [AAct.cls] at hc
    case load l x =>
      simp only [DAct, MOp.run, Option.map_eq_some_iff] at h
      obtain ⟨_, _, he⟩ := h
      cases he; rfl
    case b2s x =>
      simp only [DAct, MOp.run] at h
      split at h
      · rw [Option.map_eq_some_iff] at h
        obtain ⟨_, _, he⟩ := h
        cases he; rfl
      · cases h
  | p op => simp [AAct.cls] at hc
  | call f args => simp [AAct.cls] at hc
  | pcall f args => simp [AAct.cls] at hc
  | qcall f args => simp [AAct.cls] at hc
  | never => exact h.elim

/-- One that makes an object: the same object, wherever. -/
theorem DAct.makes {act : AAct} (hc : act.cls = .a) {s : St} {v : AV} {H : Heap} (h : DAct P act s v H) : ∃ ob, H = s.heap ++ [ob] := by
  cases act with
  | m op =>
    cases op
    case ext x => (simp only [AAct.cls] at hc; split at hc <;> (try cases hc)); (split at hc <;> cases hc)
    all_goals simp [AAct.cls] at hc
    all_goals simp only [DAct, MOp.run] at h
    case alloc zs => cases h; exact ⟨_, rfl⟩
    case box x => split at h <;> first | (cases h; exact ⟨_, rfl⟩) | cases h
    case buildSlice sz len zs ps => split at h <;> first | (cases h; exact ⟨_, rfl⟩) | cases h
    case mkSlice sz b zs x y =>
      split at h
      · split at h
        · cases h; exact ⟨_, rfl⟩
        · cases h
      · cases h
    case s2b x => split at h <;> first | (cases h; exact ⟨_, rfl⟩) | cases h
  | p op => simp [AAct.cls] at hc
  | call f args => simp [AAct.cls] at hc
  | pcall f args => simp [AAct.cls] at hc
  | qcall f args => simp [AAct.cls] at hc
  | never => exact h.elim

theorem readA_push {H : Heap} {ob : AObj} {l : Option Nat} {x : AV} (hb : Bnd H.length x) : readA (H ++ [ob]) l x = readA H l x := by
  unfold readA
  cases x with
  | ptr o off =>
    have : o < H.length := by cases hb with | ptr ho => exact ho
    simp only [List.getElem?_append_left this]
  | _ => rfl

theorem cellsA_push {H : Heap} {ob : AObj} {sz : Nat} {x : AV} (hb : Bnd H.length x) : cellsA (H ++ [ob]) sz x = cellsA H sz x := by
  unfold cellsA
  cases x with
  | sl s o off len cap =>
    have : o < H.length := by cases hb with | sl ho => exact ho
    simp only [List.getElem?_append_left this]
  | v x => cases x <;> first | rfl | (rename_i p n c; cases p <;> cases n <;> cases c <;> rfl)
  | _ => rfl

theorem DAct.reads_push {act : AAct} (hc : act.cls = .r) {s s' : St} (he : Agree act.slots s.env s'.env) {ob : AObj} (hh : s'.heap = s.heap ++ [ob]) (hb : ∀ t, t ∈ act.slots → Bnd s.heap.length (s.env t))
    (hp : ∀ x, (act = .m (.b2s x) ∨ ∃ l, act = .m (.load l x)) → ∀ y, x = .c y → Bnd s.heap.length y) (v : AV) :
    DAct P act s v s.heap ↔ DAct P act s' v s'.heap := by
  have bx : ∀ x : AX, (∀ y, x = .c y → Bnd s.heap.length y) → (∀ t, t ∈ x.slots → Bnd s.heap.length (s.env t)) → Bnd s.heap.length (x.ev s.env) := by
    intro x h1 h2
    cases x with
    | s t => exact h2 t (by simp [AX.slots])
    | c y => exact h1 y rfl
  cases act with
  | m op =>
    cases op
    case ext x => (simp only [AAct.cls] at hc; split at hc <;> (try cases hc)); (split at hc <;> cases hc)
    all_goals simp [AAct.cls] at hc
    case load l x =>
      have e1 : x.ev s'.env = x.ev s.env := (AX.ev_agree he).symm
      have e2 := bx x (hp x (.inr ⟨l, rfl⟩)) hb
      simp only [DAct, MOp.run, hh, e1, readA_push e2, Option.map_eq_some_iff, Prod.mk.injEq]
    case b2s x =>
      have e1 : x.ev s'.env = x.ev s.env := (AX.ev_agree he).symm
      have e2 := bx x (hp x (.inl rfl)) hb
      simp only [DAct, MOp.run, hh, e1, cellsA_push e2]
      cases cellsA s.heap 1 (x.ev s.env) with
      | none => simp
      | some q =>
        obtain ⟨m, cs⟩ := q
        simp only [Option.map_eq_some_iff, Prod.mk.injEq]
  | p op => simp [AAct.cls] at hc
  | call f args => simp [AAct.cls] at hc
  | pcall f args => simp [AAct.cls] at hc
  | qcall f args => simp [AAct.cls] at hc
  | never => simp [AAct.cls] at hc


theorem want_agree {o : AOper} {s s' : St} (h : Agree o.reads s.env s'.env) : (wantA o s → wantA o s') ∧ (waitA o s → waitA o s') := by
  obtain ⟨dst, act, guard, hint⟩ := o
  cases guard with
  | none => exact ⟨fun _ => trivial, fun h => h⟩
  | some p =>
    obtain ⟨g, b⟩ := p
    have hg : s.env g = s'.env g := h g (List.mem_append_right _ (by simp))
    simp only [wantA, waitA, hg]
    exact ⟨id, id⟩

theorem DEff.agree {o : AOper} {s s' : St} (he : Agree o.reads s.env s'.env) (hh : s'.heap = s.heap) {v : AV} {H : Heap} (h : DEff P o s v H) : DEff P o s' v H := by
  cases h with
  | run hg h => exact .run ((want_agree he).1 hg) (h.agree he.left hh)
  | skip hg => rw [← hh]; exact .skip ((want_agree he).2 hg)

theorem DEff.anywhere {o : AOper} (hc : o.act.cls = .p) {s s' : St} (he : Agree o.reads s.env s'.env) {v : AV} {H : Heap} (h : DEff P o s v H) : H = s.heap ∧ DEff P o s' v s'.heap := by
  cases h with
  | run hg h => exact ⟨(h.anywhere hc he.left).1, .run ((want_agree he).1 hg) (h.anywhere hc he.left).2⟩
  | skip hg => exact ⟨rfl, .skip ((want_agree he).2 hg)⟩

theorem DEff.reads {o : AOper} (hc : o.act.cls = .r) {s : St} {v : AV} {H : Heap} (h : DEff P o s v H) : H = s.heap := by
  cases h with
  | run hg h => exact h.reads hc
  | skip hg => rfl

theorem DEff.still {o : AOper} (hc : o.act.cls = .q) {s : St} {v : AV} {H : Heap} (h : DEff P o s v H) : H = s.heap := by
  cases h with
  | run hg h => exact h.still hc
  | skip hg => rfl

theorem DEff.makes {o : AOper} (hc : o.act.cls = .a) {s : St} {v : AV} {H : Heap} (h : DEff P o s v H) : H = s.heap ∨ ∃ ob, H = s.heap ++ [ob] := by
  cases h with
  | run hg h => exact .inr (h.makes hc)
  | skip hg => exact .inl rfl

/-- What is read is a variable, or a plain constant. -/
def AAct.tidy : AAct → Bool
  | .m (.load _ (.c (.v _))) | .m (.b2s (.c (.v _))) => true
  | .m (.load _ (.c _)) | .m (.b2s (.c _)) => false
  | _ => true

theorem DEff.reads_push {o : AOper} (hc : o.act.cls = .r) (ht : o.act.tidy = true) {s s' : St} (he : Agree o.reads s.env s'.env) {ob : AObj} (hh : s'.heap = s.heap ++ [ob]) (hl : Live N s) (v : AV) :
    DEff P o s v s.heap ↔ DEff P o s' v s'.heap := by
  have he' : Agree o.reads s'.env s.env := fun t ht => (he t ht).symm
  have key := fun v => DAct.reads_push (P := P) hc he.left hh (fun t _ => hl.env t) (fun x hx y hy => by
    subst hy
    rcases hx with h | ⟨l, h⟩ <;> rw [h] at ht <;> (cases y <;> first | exact .v _ | simp [AAct.tidy] at ht)) v
  constructor
  · intro h
    generalize hH : s.heap = H at h
    cases h with
    | run hg h => subst hH; exact .run ((want_agree he).1 hg) ((key v).1 h)
    | skip hg => exact .skip ((want_agree he).2 hg)
  · intro h
    generalize hH : s'.heap = H at h
    cases h with
    | run hg h => subst hH; exact .run ((want_agree he').1 hg) ((key v).2 h)
    | skip hg => exact .skip ((want_agree he').2 hg)

def apartA (x y : AOper) : Bool :=
  (match x.dst with
   | some d => !(y.reads.contains d) && y.dst != some d
   | none => true) &&
  (match y.dst with
   | some d => !(x.reads.contains d)
   | none => true)

theorem put_agree {s : St} {d : Option Nat} {v : AV} {H : Heap} {l : List Nat} (h : ∀ x, d = some x → x ∉ l) : Agree l (s.put d v H).env s.env := by
  intro t ht
  cases d with
  | none => rfl
  | some x =>
    have : t ≠ x := fun e => h x rfl (e ▸ ht)
    simp [St.put, upd, this]

theorem put_comm {s : St} {d e : Option Nat} {v u : AV} {H H' H'' : Heap} (h : ∀ x, d = some x → e ≠ some x) : ((s.put d v H).put e u H').env = ((s.put e u H'').put d v H').env := by
  cases d with
  | none => rfl
  | some x =>
    cases e with
    | none => rfl
    | some y =>
      have hne : x ≠ y := fun he => h x rfl (he ▸ rfl)
      funext t
      simp only [St.put, upd]
      by_cases h1 : t = x
      · subst h1; simp [hne]
      · simp [h1]

/-- Two operations that may change places. -/
theorem swap {x y : AOper} (hap : apartA x y = true) (hm : meet x.act.cls y.act.cls = true) (hx : x.act.tidy = true) (hy : y.act.tidy = true) {s s₁ s₂ : St} (hl : Live N s) (h1 : DStep P x s s₁) (h2 : DStep P y s₁ s₂) :
    ∃ s', DStep P y s s' ∧ DStep P x s' s₂ := by
  obtain ⟨vx, Hx, ex, rfl⟩ := h1
  obtain ⟨vy, Hy, ey, rfl⟩ := h2
  have a1 : ∀ d, x.dst = some d → d ∉ y.reads := by
    intro d hd; simp [apartA, hd] at hap; exact hap.1.1
  have a2 : ∀ d, x.dst = some d → y.dst ≠ some d := by
    intro d hd; simp [apartA, hd] at hap; exact hap.1.2
  have a3 : ∀ d, y.dst = some d → d ∉ x.reads := by
    intro d hd; simp [apartA, hd] at hap; exact hap.2
  have hey : Agree y.reads (s.put x.dst vx Hx).env s.env := put_agree a1
  have hex : ∀ v H, Agree x.reads s.env (s.put y.dst v H).env := fun v H t ht => (put_agree a3 t ht).symm
  have fin : ∀ (H' : Heap), DEff P y s vy H' → DEff P x (s.put y.dst vy H') vx Hy → ∃ s', DStep P y s s' ∧ DStep P x s' ((s.put x.dst vx Hx).put y.dst vy Hy) := by
    intro H' k1 k2
    refine ⟨s.put y.dst vy H', ⟨vy, H', k1, rfl⟩, vx, Hy, k2, ?_⟩
    have := put_comm (s := s) (d := x.dst) (e := y.dst) (v := vx) (u := vy) (H := Hx) (H' := Hy) (H'' := H') a2
    have e1 : (s.put x.dst vx Hx).put y.dst vy Hy = ⟨((s.put x.dst vx Hx).put y.dst vy Hy).env, Hy⟩ := rfl
    have e2 : (s.put y.dst vy H').put x.dst vx Hy = ⟨((s.put y.dst vy H').put x.dst vx Hy).env, Hy⟩ := rfl
    rw [e1, e2, this]
  -- y does not look at memory
  have case1 : y.act.cls = .p → ∃ s', DStep P y s s' ∧ DStep P x s' ((s.put x.dst vx Hx).put y.dst vy Hy) := by
    intro hc
    have k := ey.anywhere hc (s' := s) hey
    refine fin s.heap k.2 ?_
    have : Hy = Hx := k.1
    rw [this]
    exact ex.agree (hex _ _) rfl
  -- x does not
  have case2 : x.act.cls = .p → ∃ s', DStep P y s s' ∧ DStep P x s' ((s.put x.dst vx Hx).put y.dst vy Hy) := by
    intro hc
    have hHx : Hx = s.heap := (ex.anywhere hc (s' := s) (fun _ _ => rfl)).1
    subst hHx
    refine fin Hy (ey.agree hey rfl) ?_
    exact (ex.anywhere hc (s' := s.put y.dst vy Hy) (hex _ _)).2
  have cq : (x.act.cls = .q ∨ x.act.cls = .r) → (y.act.cls = .q ∨ y.act.cls = .r) → ∃ s', DStep P y s s' ∧ DStep P x s' ((s.put x.dst vx Hx).put y.dst vy Hy) := by
    intro hcx hcy
    have hHx : Hx = s.heap := hcx.elim ex.still ex.reads
    subst hHx
    have hHy : Hy = s.heap := hcy.elim ey.still ey.reads
    subst hHy
    exact fin s.heap (ey.agree hey rfl) (ex.agree (hex _ _) rfl)
  have cr : x.act.cls = .r → y.act.cls = .r → ∃ s', DStep P y s s' ∧ DStep P x s' ((s.put x.dst vx Hx).put y.dst vy Hy) := by
    intro hcx hcy
    have hHx := ex.reads hcx
    subst hHx
    have hHy : Hy = s.heap := ey.reads hcy
    subst hHy
    exact fin s.heap (ey.agree hey rfl) (ex.agree (hex _ _) rfl)
  have cra : x.act.cls = .r → y.act.cls = .a → ∃ s', DStep P y s s' ∧ DStep P x s' ((s.put x.dst vx Hx).put y.dst vy Hy) := by
    intro hcx hcy
    have hHx := ex.reads hcx
    subst hHx
    rcases ey.makes hcy with hHy | ⟨ob, hHy⟩
    · have hHy : Hy = s.heap := hHy
      subst hHy
      exact fin s.heap (ey.agree hey rfl) (ex.agree (hex _ _) rfl)
    · have hHy : Hy = s.heap ++ [ob] := hHy
      refine fin Hy (ey.agree hey rfl) ?_
      have k := (DEff.reads_push (P := P) hcx hx (s := s) (s' := s.put y.dst vy Hy) (hex _ _) hHy hl vx).1 ex
      exact k
  have car : x.act.cls = .a → y.act.cls = .r → ∃ s', DStep P y s s' ∧ DStep P x s' ((s.put x.dst vx Hx).put y.dst vy Hy) := by
    intro hcx hcy
    have hHy : Hy = Hx := ey.reads hcy
    subst hHy
    rcases ex.makes hcx with hHx | ⟨ob, hHx⟩
    · subst hHx
      exact fin s.heap (ey.agree hey rfl) (ex.agree (hex _ _) rfl)
    · have k : DEff P y s vy s.heap := (DEff.reads_push hcy hy (s := s) (s' := s.put x.dst vx Hy) (fun t ht => (hey t ht).symm) hHx hl vy).2 ey
      exact fin s.heap k (ex.agree (hex _ _) rfl)
  revert hm case1 case2 cq cr cra car
  cases x.act.cls <;> cases y.act.cls <;> simp [meet] <;> intros <;> assumption

end
end Go.Ab

namespace Go.Ab
open Go Go.RowKit
set_option linter.unusedVariables false
set_option linter.unusedSimpArgs false

/-! ### the order that is asked for -/

def directs (o : Oper) : List Nat := o.after.toList.filterMap fun e => if Region.binds .any e then some e.on else none

/-- Of each operation those that come ahead of it, whatever the order. -/
def aheads (ops : List Oper) : List (List Nat) :=
  ops.foldl (fun acc o => acc ++ [((directs o).flatMap fun d => d :: acc.getD d []).eraseDups]) []

def okPair (l : List AOper) (ah : List (List Nat)) (i j : Nat) : Bool :=
  match l[i]?, l[j]? with
  | some x, some y => (ah.getD j []).contains i || (apartA x y && meet x.act.cls y.act.cls)
  | _, _ => true

def okDraw (ops : Array Oper) (l : List AOper) : Bool :=
  ((List.range ops.size).all fun j => ((directs (ops.getD j default)).all fun d => decide (d < j)) && (List.range j).all fun i => okPair l (aheads ops.toList) i j) && l.all fun o => o.act.tidy

section
variable {P : Program} {N : Nat}

theorem aheads_length (ops : List Oper) : (aheads ops).length = ops.length := by
  unfold aheads
  have : ∀ (ops : List Oper) (acc : List (List Nat)), (ops.foldl (fun acc o => acc ++ [((directs o).flatMap fun d => d :: acc.getD d []).eraseDups]) acc).length = acc.length + ops.length := by
    intro ops
    induction ops with
    | nil => intro acc; simp
    | cons o ops ih => intro acc; simp only [List.foldl_cons]; rw [ih]; simp; omega
  rw [this]; simp

theorem aheads_get : ∀ (ops : List Oper) (acc : List (List Nat)) (k : Nat), k < acc.length → (ops.foldl (fun acc o => acc ++ [((directs o).flatMap fun d => d :: acc.getD d []).eraseDups]) acc)[k]? = acc[k]? := by
  intro ops
  induction ops with
  | nil => intro acc k _; rfl
  | cons o ops ih =>
    intro acc k hk
    simp only [List.foldl_cons]
    rw [ih _ _ (by simp; omega), List.getElem?_append_left hk]

/-- What comes ahead of an operation: what it waits for, and what comes ahead of that. -/
theorem mem_aheads {ops : List Oper} : ∀ {k i : Nat} {o : Oper}, ops[k]? = some o → (∀ d ∈ directs o, d < k) → i ∈ (aheads ops).getD k [] → ∃ d ∈ directs o, i = d ∨ i ∈ (aheads ops).getD d [] := by
  have key : ∀ (ops : List Oper) (acc : List (List Nat)) (k i : Nat) (o : Oper), ops[k]? = some o → (∀ d ∈ directs o, d < acc.length + k) →
      i ∈ ((ops.foldl (fun acc o => acc ++ [((directs o).flatMap fun d => d :: acc.getD d []).eraseDups]) acc).getD (acc.length + k) []) →
      ∃ d ∈ directs o, i = d ∨ i ∈ (ops.foldl (fun acc o => acc ++ [((directs o).flatMap fun d => d :: acc.getD d []).eraseDups]) acc).getD d [] := by
    intro ops
    induction ops with
    | nil => intro acc k i o h; simp at h
    | cons p ops ih =>
      intro acc k i o ho hd hi
      simp only [List.foldl_cons] at hi ⊢
      cases k with
      | zero =>
        simp at ho
        subst ho
        rw [Nat.add_zero, List.getD_eq_getElem?_getD, aheads_get _ _ _ (by simp)] at hi
        simp only [List.getElem?_append_right (Nat.le_refl _), Nat.sub_self, List.getElem?_cons_zero, Option.getD_some] at hi
        rw [List.mem_eraseDups] at hi
        obtain ⟨d, hd1, hd2⟩ := List.mem_flatMap.1 hi
        refine ⟨d, hd1, ?_⟩
        rcases List.mem_cons.1 hd2 with h | h
        · exact .inl h
        · right
          have hlt := hd d hd1
          rw [List.getD_eq_getElem?_getD, aheads_get _ _ _ (by simp; omega), List.getElem?_append_left (by omega), ← List.getD_eq_getElem?_getD]
          exact h
      | succ k =>
        have := ih (acc ++ [((directs p).flatMap fun d => d :: acc.getD d []).eraseDups]) k i o (by simpa using ho) (fun d h => by have := hd d h; simp; omega)
          (by simp only [List.length_append, List.length_singleton]; rw [show acc.length + 1 + k = acc.length + (k + 1) by omega]; exact hi)
        exact this
  intro k i o ho hd hi
  exact key ops [] k i o ho (by simpa using hd) (by rw [List.length_nil, Nat.zero_add]; exact hi)

/-- What has come up, as a set of numbers, holds with an operation all that comes ahead of it. -/
def DownClosed (ops : Array Oper) (listed : Array Bool) : Prop := ∀ (k : Nat) (o : Oper), ops[k]? = some o → listed.getD k false = true → ∀ d ∈ directs o, listed.getD d false = true

theorem down_aheads {ops : Array Oper} {listed : Array Bool} (hdc : DownClosed ops listed) (hlow : ∀ (k : Nat) (o : Oper), ops[k]? = some o → ∀ d ∈ directs o, d < k) :
    ∀ (k : Nat) (o : Oper), ops[k]? = some o → (∀ d ∈ directs o, listed.getD d false = true) → ∀ i ∈ (aheads ops.toList).getD k [], listed.getD i false = true := by
  intro k
  induction k using Nat.strongRecOn with
  | _ k ih =>
    intro o ho hd i hi
    obtain ⟨d, hd1, hd2⟩ := mem_aheads (ops := ops.toList) (by simpa using ho) (hlow k o ho) hi
    rcases hd2 with rfl | hd2
    · exact hd _ hd1
    · have hlt := hlow k o ho d hd1
      have hk : k < ops.size := by
        rcases Nat.lt_or_ge k ops.size with h | h
        · exact h
        · simp [Array.getElem?_eq_none h] at ho
      have hod : ops[d]? = some ops[d] := by simp
      exact ih d hlt ops[d] hod (hdc d ops[d] hod (hd d hd1)) i hd2

/-! ### to the front -/

theorem Runs.split : ∀ {xs : List AOper} {s f : St} {ys : List AOper}, Runs P (xs ++ ys) s f → ∃ m, Runs P xs s m ∧ Runs P ys m f := by
  intro xs
  induction xs with
  | nil => intro s f ys h; exact ⟨s, .nil s, h⟩
  | cons x xs ih =>
    intro s f ys h
    cases h with
    | cons h1 h2 =>
      obtain ⟨m, k1, k2⟩ := ih h2
      exact ⟨m, .cons h1 k1, k2⟩

theorem Runs.join : ∀ {xs : List AOper} {s m f : St} {ys : List AOper}, Runs P xs s m → Runs P ys m f → Runs P (xs ++ ys) s f := by
  intro xs
  induction xs with
  | nil => intro s m f ys h k; cases h; exact k
  | cons x xs ih =>
    intro s m f ys h k
    cases h with
    | cons h1 h2 => exact .cons h1 (ih h2 k)

/-- An operation that may change places with those ahead of it may come first. -/
theorem Runs.front {ops : Array Oper} : ∀ {xs : List AOper} {y : AOper} {ys : List AOper} {s f : St}, (∀ x ∈ xs, apartA x y = true ∧ meet x.act.cls y.act.cls = true) → (∀ x ∈ y :: xs, x.act.tidy = true ∧ ∃ o b, trO P N ops o = some b ∧ Like x b) →
    Live N s → Runs P (xs ++ y :: ys) s f → ∃ s', DStep P y s s' ∧ Runs P (xs ++ ys) s' f := by
  intro xs
  induction xs with
  | nil => intro y ys s f _ _ _ h; cases h with | cons h1 h2 => exact ⟨_, h1, h2⟩
  | cons x xs ih =>
    intro y ys s f hind hok hl h
    cases h with
    | @cons _ _ _ s₁ _ h1 h2 =>
      obtain ⟨htx, o, b, htr, hlike⟩ := hok x (by simp)
      have hl1 := h1.live htr hlike hl
      obtain ⟨s₂, k1, k2⟩ := ih (fun z hz => hind z (by simp [hz])) (fun z hz => hok z (by
        rcases List.mem_cons.1 hz with h | h
        · simp [h]
        · simp [h])) hl1 h2
      obtain ⟨hap, hm⟩ := hind x (by simp)
      obtain ⟨s', q1, q2⟩ := swap hap hm htx (hok y (by simp)).1 hl h1 k1
      exact ⟨s', q1, .cons q2 k2⟩

/-! ### whatever order -/

theorem mem_directs {o : Oper} {d : Nat} : d ∈ directs o ↔ ∃ e ∈ o.after, Region.binds .any e = true ∧ e.on = d := by
  simp only [directs, List.mem_filterMap, Array.mem_toList_iff]
  constructor
  · rintro ⟨e, he, h⟩
    split at h
    · rename_i hb; cases h; exact ⟨e, he, hb, rfl⟩
    · cases h
  · rintro ⟨e, he, hb, rfl⟩
    exact ⟨e, he, by rw [if_pos hb]⟩

theorem getD_false_of {listed : Array Bool} {k : Nat} (h : listed.getD k false = true) : listed.getD k true = true := by
  rw [Array.getD_eq_getD_getElem?] at h ⊢
  cases hh : listed[k]? with
  | none => rfl
  | some b => rw [hh] at h; exact h

theorem any_sound {ops : Array Oper} {l : List AOper} (hok : okDraw ops l = true) (hal : ∀ (k : Nat) (o : Oper), ops[k]? = some o → ∃ ao bo, l[k]? = some ao ∧ trO P N ops o = some bo ∧ Like ao bo) :
    ∀ (n : Nat) (rest : List Nat) (listed : Array Bool), rest.length = n → rest.Pairwise (· < ·) → listed.size = ops.size → (∀ k, k ∈ rest ↔ k < ops.size ∧ listed.getD k true = false) → DownClosed ops listed →
    ∀ {B : Nat} {β : Nat → Em} {s f : St} {a : Act} {w : World} {Q : Exit → Act → World → Prop} (hr : Rel N B β s a w), Runs P (rest.filterMap (l[·]?)) s f →
      (∀ β' a' w', Rel N B β' f a' w' → Tr B β s.heap w β' f.heap w' → Q .normal a' w') → wpAny P .any ops Q n listed a w := by
  simp only [okDraw, Bool.and_eq_true, List.all_eq_true, List.mem_range, decide_eq_true_eq] at hok
  obtain ⟨hok1, hok2⟩ := hok
  have hlow : ∀ (k : Nat) (o : Oper), ops[k]? = some o → ∀ d ∈ directs o, d < k := by
    intro k o ho d hd
    have hk : k < ops.size := by
      rcases Nat.lt_or_ge k ops.size with h | h
      · exact h
      · simp [Array.getElem?_eq_none h] at ho
    have := (hok1 k hk).1 d (by rw [Array.getD_eq_getD_getElem?, ho]; exact hd)
    exact this
  intro n
  induction n with
  | zero =>
    intro rest listed hlen hpw hsz hmem hdc B β s f a w Q hr hrun hQ
    have : rest = [] := List.length_eq_zero_iff.1 hlen
    subst this
    cases hrun
    refine ⟨?_, hQ β a w hr (Tr.refl _ _ _ _)⟩
    cases hrd : Region.ready .any ops listed with
    | nil => rfl
    | cons i is =>
      have hi : i ∈ Region.ready .any ops listed := by rw [hrd]; simp
      obtain ⟨h1, o, ho, _⟩ := mem_ready.1 hi
      have hlt : i < ops.size := by
        rcases Nat.lt_or_ge i ops.size with h | h
        · exact h
        · simp [Array.getElem?_eq_none h] at ho
      exact absurd ((hmem i).2 ⟨hlt, h1⟩) (by simp)
  | succ n ih =>
    intro rest listed hlen hpw hsz hmem hdc B β s f a w Q hr hrun hQ
    have inRest : ∀ i, i ∈ Region.ready .any ops listed → i ∈ rest := by
      intro i hi
      obtain ⟨h1, o, ho, _⟩ := mem_ready.1 hi
      have hlt : i < ops.size := by
        rcases Nat.lt_or_ge i ops.size with h | h
        · exact h
        · simp [Array.getElem?_eq_none h] at ho
      exact (hmem i).2 ⟨hlt, h1⟩
    refine ⟨fun hnil => ?_, fun i hi => ?_⟩
    · exfalso
      cases rest with
      | nil => simp at hlen
      | cons k rest =>
        obtain ⟨hk1, hk2⟩ := (hmem k).1 (by simp)
        have : k ∈ Region.ready .any ops listed := by
          refine mem_ready.2 ⟨hk2, ops[k], by simp, fun e he hb => ?_⟩
          have hd : e.on ∈ directs ops[k] := mem_directs.2 ⟨e, he, hb, rfl⟩
          have hlt := hlow k ops[k] (by simp) _ hd
          have hnot : e.on ∉ k :: rest := by
            intro h
            rcases List.mem_cons.1 h with h | h
            · omega
            · have := List.rel_of_pairwise_cons hpw h; omega
          have := mt (hmem e.on).2 hnot
          rw [Array.getD_eq_getD_getElem?] at this ⊢
          have hin : e.on < listed.size := by omega
          simp [hin] at this ⊢
          have := this (by omega)
          simpa using this
        rw [hnil] at this
        cases this
    · have hir := inRest i hi
      obtain ⟨h1, o, ho, hall⟩ := mem_ready.1 hi
      obtain ⟨xs, ys, hsplit⟩ := List.append_of_mem hir
      obtain ⟨ao, bo, hao, htr, hlike⟩ := hal i o ho
      -- all ahead in the text may change places with it
      have hxs : ∀ k ∈ xs, k < i := by
        intro k hk
        rw [hsplit] at hpw
        exact (List.pairwise_append.1 hpw).2.2 k hk i (by simp)
      have hdir : ∀ d ∈ directs o, listed.getD d false = true := by
        intro d hd
        obtain ⟨e, he, hb, rfl⟩ := mem_directs.1 hd
        exact hall e he hb
      have hilt : i < ops.size := ((hmem i).1 hir).1
      have hah := down_aheads hdc hlow i o ho hdir
      have hind : ∀ x ∈ xs.filterMap (l[·]?), apartA x ao = true ∧ meet x.act.cls ao.act.cls = true := by
        intro x hx
        obtain ⟨k, hk, hlk⟩ := List.mem_filterMap.1 hx
        have hpair := (hok1 i hilt).2 k (hxs k hk)
        simp only [okPair, hlk, hao, Bool.or_eq_true, Bool.and_eq_true] at hpair
        rcases hpair with h | h
        · exfalso
          have h' := hah k (by simpa using h)
          have hk' := (hmem k).1 (by rw [hsplit]; simp [hk])
          rw [getD_false_of h'] at hk'
          exact absurd hk'.2 (by simp)
        · exact h
      have hrest : rest.filterMap (l[·]?) = xs.filterMap (l[·]?) ++ ao :: ys.filterMap (l[·]?) := by
        rw [hsplit, List.filterMap_append, List.filterMap_cons, hao]
      rw [hrest] at hrun
      have hmemL : ∀ (k : Nat) (x : AOper), l[k]? = some x → k < ops.size → x.act.tidy = true ∧ ∃ o b, trO P N ops o = some b ∧ Like x b := by
        intro k x hx hk
        refine ⟨hok2 x (List.mem_of_getElem? hx), ?_⟩
        obtain ⟨ao', bo', k1, k2, k3⟩ := hal k ops[k] (by simp)
        rw [hx] at k1; cases k1
        exact ⟨_, _, k2, k3⟩
      obtain ⟨s', hstep, hrun'⟩ := Runs.front (ops := ops) hind (fun x hx => by
        rcases List.mem_cons.1 hx with rfl | hx
        · exact hmemL i _ hao hilt
        · obtain ⟨k, hk, hlk⟩ := List.mem_filterMap.1 hx
          exact hmemL k x hlk ((hmem k).1 (by rw [hsplit]; simp [hk])).1) ⟨B, β, a, w, hr⟩ hrun
      have hnext : ∀ s₂ β' a' w', s₂ = s' → Rel N B β' s₂ a' w' → Tr B β s.heap w β' s₂.heap w' → wpAny P .any ops Q n (listed.setIfInBounds i true) a' w' := by
        intro s₂ β' a' w' e k1 k2
        subst e
        have hpw' : (xs ++ ys).Pairwise (· < ·) := by
          rw [hsplit] at hpw
          exact hpw.sublist (by simp)
        have hnd : i ∉ xs ++ ys := by
          rw [hsplit] at hpw
          have h1 := (List.pairwise_append.1 hpw)
          intro h
          rcases List.mem_append.1 h with h | h
          · have := h1.2.2 i h i (by simp); omega
          · have := List.rel_of_pairwise_cons h1.2.1 h; omega
        have hset : ∀ (k : Nat) (d : Bool), k ≠ i → (listed.setIfInBounds i true).getD k d = listed.getD k d := by
          intro k d hk
          simp [Array.getD_eq_getD_getElem?, Array.getElem?_setIfInBounds_ne (Ne.symm hk)]
        have hseti : ∀ d : Bool, (listed.setIfInBounds i true).getD i d = true := by
          intro d
          simp [Array.getD_eq_getD_getElem?, show i < listed.size by omega]
        refine ih (xs ++ ys) _ (by rw [hsplit] at hlen; simp at hlen ⊢; omega) hpw' (by simp [hsz]) (fun k => ?_) (fun k o' ho' hk d hd => ?_) k1 (by rw [List.filterMap_append]; exact hrun') (fun β'' a'' w'' q1 q2 => hQ β'' a'' w'' q1 (k2.trans q2))
        · by_cases e : k = i
          · subst e
            rw [hseti]
            simp [hnd]
          · rw [hset k true e, ← hmem k, hsplit]
            simp [e]
        · by_cases e : k = i
          · subst e
            rw [ho] at ho'; cases ho'
            have := hdir d hd
            by_cases e2 : d = k
            · subst e2; exact hseti _
            · rw [hset d false e2]; exact this
          · rw [hset k false e] at hk
            have := hdc k o' ho' hk d hd
            by_cases e2 : d = i
            · subst e2; exact hseti _
            · rw [hset d false e2]; exact this
      have h := op_sound (Q := Q) htr hlike hr hstep.vc (next := wpAny P .any ops Q n (listed.setIfInBounds i true)) hnext
      unfold Go.wpOp
      rw [ho]
      simp only
      split
      · rename_i hw; rw [if_pos hw] at h; exact .inl h
      · rename_i hw; rw [if_neg hw] at h; exact h

/-! ### an operation behind all the others -/

/-- The last operation of a region that comes behind all the others, whatever the order. -/
def tailOp (ops : Array Oper) (l : List AOper) : Bool :=
  (match l.getLast? with | some ⟨_, .call _ _, _, _⟩ => true | _ => false) && (List.range (l.length - 1)).all fun i => ((aheads ops.toList).getD (l.length - 1) []).contains i

theorem any_sound_tail {ops : Array Oper} {l : List AOper} {m : Nat} (hsize : ops.size = m + 1) (hok : okDraw ops l = true) (hal : ∀ (k : Nat) (o : Oper), ops[k]? = some o → ∃ ao bo, l[k]? = some ao ∧ trO P N ops o = some bo ∧ Like ao bo)
    (htail : ∀ i, i < m → i ∈ (aheads ops.toList).getD m []) {am : AOper} (ham : l[m]? = some am) {K : St → Prop} :
    ∀ (n : Nat) (rest : List Nat) (listed : Array Bool), rest.length = n → rest.Pairwise (· < ·) → listed.size = ops.size → (∀ k, k ∈ rest ↔ k < m ∧ listed.getD k true = false) → listed.getD m true = false → DownClosed ops listed →
    ∀ {B : Nat} {β : Nat → Em} {s f : St} {a : Act} {w : World} {Q : Exit → Act → World → Prop} (hr : Rel N B β s a w), Runs P (rest.filterMap (l[·]?)) s f → (∃ f₁, (∀ B β a w, Rel N B β f a w → Rel N B β f₁ a w ∧ Tr B β f.heap w β f₁.heap w) ∧ vcOp P am K f₁) →
      (∀ f' β' a' w', K f' → Rel N B β' f' a' w' → Tr B β s.heap w β' f'.heap w' → Q .normal a' w') → wpAny P .any ops Q (n + 1) listed a w := by
  have hok0 := hok
  simp only [okDraw, Bool.and_eq_true, List.all_eq_true, List.mem_range, decide_eq_true_eq] at hok
  obtain ⟨hok1, hok2⟩ := hok
  have lt_of : ∀ {k : Nat} {o : Oper}, ops[k]? = some o → k < ops.size := by
    intro k o ho
    rcases Nat.lt_or_ge k ops.size with h | h
    · exact h
    · simp [Array.getElem?_eq_none h] at ho
  have hlow : ∀ (k : Nat) (o : Oper), ops[k]? = some o → ∀ d ∈ directs o, d < k := by
    intro k o ho d hd
    exact (hok1 k (lt_of ho)).1 d (by rw [Array.getD_eq_getD_getElem?, ho]; exact hd)
  intro n
  induction n with
  | zero =>
    intro rest listed hlen hpw hsz hmem hm hdc B β s f a w Q hr hrun hv hQ
    have : rest = [] := List.length_eq_zero_iff.1 hlen
    subst this
    cases hrun
    obtain ⟨f₁, hn, hv⟩ := hv
    obtain ⟨hr₁, ht₁⟩ := hn B β a w hr
    have hin : ∀ i, i ∈ Region.ready .any ops listed → i = m := by
      intro i hi
      obtain ⟨h1, o, ho, _⟩ := mem_ready.1 hi
      have hlt := lt_of ho
      rcases Nat.lt_or_ge i m with h | h
      · exact absurd ((hmem i).2 ⟨h, h1⟩) (by simp)
      · omega
    refine ⟨fun hnil => ?_, fun i hi => ?_⟩
    · have : m ∈ Region.ready .any ops listed := by
        refine mem_ready.2 ⟨hm, ops[m], by simp, fun e he hb => ?_⟩
        have hd : e.on ∈ directs ops[m] := mem_directs.2 ⟨e, he, hb, rfl⟩
        have hlt := hlow m ops[m] (by simp) _ hd
        have := mt (hmem e.on).2 (by simp)
        rw [Array.getD_eq_getD_getElem?] at this ⊢
        have hin : e.on < listed.size := by omega
        simp [hin] at this ⊢
        have := this (by omega)
        simpa using this
      rw [hnil] at this
      cases this
    · have := hin i hi
      subst this
      obtain ⟨h1, o, ho, hall⟩ := mem_ready.1 hi
      obtain ⟨ao, bo, hao, htr, hlike⟩ := hal i o ho
      rw [ham] at hao; cases hao
      have hnext : ∀ s₂ β' a' w', K s₂ → Rel N B β' s₂ a' w' → Tr B β f₁.heap w β' s₂.heap w' → wpAny P .any ops Q 0 (listed.setIfInBounds i true) a' w' := by
        intro s₂ β' a' w' k0 k1 k2
        refine ⟨?_, hQ s₂ β' a' w' k0 k1 (ht₁.trans k2)⟩
        cases hrd : Region.ready .any ops (listed.setIfInBounds i true) with
        | nil => rfl
        | cons j js =>
          exfalso
          have hj : j ∈ Region.ready .any ops (listed.setIfInBounds i true) := by rw [hrd]; simp
          obtain ⟨h1', o', ho', _⟩ := mem_ready.1 hj
          have hlt := lt_of ho'
          by_cases e : j = i
          · subst e
            simp [Array.getD_eq_getD_getElem?, show j < listed.size by omega] at h1'
          · have : (listed.setIfInBounds i true).getD j true = listed.getD j true := by simp [Array.getD_eq_getD_getElem?, Array.getElem?_setIfInBounds_ne (Ne.symm e)]
            rw [this] at h1'
            exact absurd ((hmem j).2 ⟨by omega, h1'⟩) (by simp)
      have h := op_sound (Q := Q) htr hlike hr₁ hv (next := wpAny P .any ops Q 0 (listed.setIfInBounds i true)) hnext
      unfold Go.wpOp
      rw [ho]
      simp only
      split
      · rename_i hw; rw [if_pos hw] at h; exact .inl h
      · rename_i hw; rw [if_neg hw] at h; exact h
  | succ n ih =>
    intro rest listed hlen hpw hsz hmem hm hdc B β s f a w Q hr hrun hv hQ
    have inRest : ∀ i, i ∈ Region.ready .any ops listed → i ∈ rest := by
      intro i hi
      obtain ⟨h1, o, ho, hall⟩ := mem_ready.1 hi
      have hlt := lt_of ho
      rcases Nat.lt_or_ge i m with h | h
      · exact (hmem i).2 ⟨h, h1⟩
      · exfalso
        have : i = m := by omega
        subst this
        cases rest with
        | nil => simp at hlen
        | cons k rest =>
          obtain ⟨hk1, hk2⟩ := (hmem k).1 (by simp)
          have hdir : ∀ d ∈ directs o, listed.getD d false = true := by
            intro d hd
            obtain ⟨e, he, hb, rfl⟩ := mem_directs.1 hd
            exact hall e he hb
          have := getD_false_of (down_aheads hdc hlow i o ho hdir k (htail k hk1))
          rw [this] at hk2; cases hk2
    refine ⟨fun hnil => ?_, fun i hi => ?_⟩
    · exfalso
      cases rest with
      | nil => simp at hlen
      | cons k rest =>
        obtain ⟨hk1, hk2⟩ := (hmem k).1 (by simp)
        have : k ∈ Region.ready .any ops listed := by
          refine mem_ready.2 ⟨hk2, ops[k], by simp, fun e he hb => ?_⟩
          have hd : e.on ∈ directs ops[k] := mem_directs.2 ⟨e, he, hb, rfl⟩
          have hlt := hlow k ops[k] (by simp) _ hd
          have hnot : e.on ∉ k :: rest := by
            intro h
            rcases List.mem_cons.1 h with h | h
            · omega
            · have := List.rel_of_pairwise_cons hpw h; omega
          have := mt (hmem e.on).2 hnot
          rw [Array.getD_eq_getD_getElem?] at this ⊢
          have hin : e.on < listed.size := by omega
          simp [hin] at this ⊢
          have := this (by omega)
          simpa using this
        rw [hnil] at this
        cases this
    · have hir := inRest i hi
      obtain ⟨h1, o, ho, hall⟩ := mem_ready.1 hi
      obtain ⟨xs, ys, hsplit⟩ := List.append_of_mem hir
      obtain ⟨ao, bo, hao, htr, hlike⟩ := hal i o ho
      have hxs : ∀ k ∈ xs, k < i := by
        intro k hk
        rw [hsplit] at hpw
        exact (List.pairwise_append.1 hpw).2.2 k hk i (by simp)
      have hdir : ∀ d ∈ directs o, listed.getD d false = true := by
        intro d hd
        obtain ⟨e, he, hb, rfl⟩ := mem_directs.1 hd
        exact hall e he hb
      have hilt : i < m := ((hmem i).1 hir).1
      have hah := down_aheads hdc hlow i o ho hdir
      have hind : ∀ x ∈ xs.filterMap (l[·]?), apartA x ao = true ∧ meet x.act.cls ao.act.cls = true := by
        intro x hx
        obtain ⟨k, hk, hlk⟩ := List.mem_filterMap.1 hx
        have hpair := (hok1 i (by omega)).2 k (hxs k hk)
        simp only [okPair, hlk, hao, Bool.or_eq_true, Bool.and_eq_true] at hpair
        rcases hpair with h | h
        · exfalso
          have h' := hah k (by simpa using h)
          have hk' := (hmem k).1 (by rw [hsplit]; simp [hk])
          rw [getD_false_of h'] at hk'
          exact absurd hk'.2 (by simp)
        · exact h
      have hrest : rest.filterMap (l[·]?) = xs.filterMap (l[·]?) ++ ao :: ys.filterMap (l[·]?) := by
        rw [hsplit, List.filterMap_append, List.filterMap_cons, hao]
      rw [hrest] at hrun
      have hmemL : ∀ (k : Nat) (x : AOper), l[k]? = some x → k < ops.size → x.act.tidy = true ∧ ∃ o b, trO P N ops o = some b ∧ Like x b := by
        intro k x hx hk
        refine ⟨hok2 x (List.mem_of_getElem? hx), ?_⟩
        obtain ⟨ao', bo', k1, k2, k3⟩ := hal k ops[k] (by simp)
        rw [hx] at k1; cases k1
        exact ⟨_, _, k2, k3⟩
      obtain ⟨s', hstep, hrun'⟩ := Runs.front (ops := ops) hind (fun x hx => by
        rcases List.mem_cons.1 hx with rfl | hx
        · exact hmemL i _ hao (by omega)
        · obtain ⟨k, hk, hlk⟩ := List.mem_filterMap.1 hx
          have := ((hmem k).1 (by rw [hsplit]; simp [hk])).1
          exact hmemL k x hlk (by omega)) ⟨B, β, a, w, hr⟩ hrun
      have hnext : ∀ s₂ β' a' w', s₂ = s' → Rel N B β' s₂ a' w' → Tr B β s.heap w β' s₂.heap w' → wpAny P .any ops Q (n + 1) (listed.setIfInBounds i true) a' w' := by
        intro s₂ β' a' w' e k1 k2
        subst e
        have hpw' : (xs ++ ys).Pairwise (· < ·) := by
          rw [hsplit] at hpw
          exact hpw.sublist (by simp)
        have hnd : i ∉ xs ++ ys := by
          rw [hsplit] at hpw
          have h1 := (List.pairwise_append.1 hpw)
          intro h
          rcases List.mem_append.1 h with h | h
          · have := h1.2.2 i h i (by simp); omega
          · have := List.rel_of_pairwise_cons h1.2.1 h; omega
        have hset : ∀ (k : Nat) (d : Bool), k ≠ i → (listed.setIfInBounds i true).getD k d = listed.getD k d := by
          intro k d hk
          simp [Array.getD_eq_getD_getElem?, Array.getElem?_setIfInBounds_ne (Ne.symm hk)]
        have hseti : ∀ d : Bool, (listed.setIfInBounds i true).getD i d = true := by
          intro d
          simp [Array.getD_eq_getD_getElem?, show i < listed.size by omega]
        refine ih (xs ++ ys) _ (by rw [hsplit] at hlen; simp at hlen ⊢; omega) hpw' (by simp [hsz]) (fun k => ?_) (by rw [hset m true (by omega)]; exact hm) (fun k o' ho' hk d hd => ?_) k1 (by rw [List.filterMap_append]; exact hrun') hv (fun f'' β'' a'' w'' q0 q1 q2 => hQ f'' β'' a'' w'' q0 q1 (k2.trans q2))
        · by_cases e : k = i
          · subst e
            rw [hseti]
            simp [hnd]
          · rw [hset k true e, ← hmem k, hsplit]
            simp [e]
        · by_cases e : k = i
          · subst e
            rw [ho] at ho'; cases ho'
            have := hdir d hd
            by_cases e2 : d = k
            · subst e2; exact hseti _
            · rw [hset d false e2]; exact this
          · rw [hset k false e] at hk
            have := hdc k o' ho' hk d hd
            by_cases e2 : d = i
            · subst e2; exact hseti _
            · rw [hset d false e2]; exact this
      have h := op_sound (Q := Q) htr hlike hr hstep.vc (next := wpAny P .any ops Q (n + 1) (listed.setIfInBounds i true)) hnext
      unfold Go.wpOp
      rw [ho]
      simp only
      split
      · rename_i hw; rw [if_pos hw] at h; exact .inl h
      · rename_i hw; rw [if_neg hw] at h; exact h

/-! ### the condition, in the text's order -/

def vcActD (P : Program) (act : AAct) (K : AV → Heap → Prop) (s : St) : Prop :=
  match act with
  | .p op => bindP (op.run s.env) fun v => K v s.heap
  | .m op => bindP (op.run s.env s.heap) fun r => K r.1 r.2
  | .call f args => match f.ev s.env with
    | .fn g cap => ∃ v H, (ACalls P g (args.map (·.ev s.env) ++ cap) s.heap fun r H' => r = v ∧ H' = H) ∧ K v H
    | _ => False
  | .pcall f args => match f.ev s.env with
    | .fn g cap => ∃ v, PureCall P g (args.map (·.ev s.env) ++ cap) v ∧ K v s.heap
    | _ => False
  | .qcall f args => match f.ev s.env with
    | .fn g cap => ∃ v, (ACalls P g (args.map (·.ev s.env) ++ cap) s.heap fun r H' => r = v ∧ H' = s.heap) ∧ K v s.heap
    | _ => False
  | .never => False

def vcOpD (P : Program) (o : AOper) (K : St → Prop) (s : St) : Prop :=
  match o.guard with
  | none => vcActD P o.act (fun v H => K (s.put o.dst v H)) s
  | some (g, want) => vcGuard (s.env g) want (vcActD P o.act (fun v H => K (s.put o.dst v H)) s) (K (s.put o.dst unit s.heap))

def vcOpsD (P : Program) : List AOper → (St → Prop) → St → Prop
  | [], K, s => K s
  | o :: os, K, s => vcOpD P o (vcOpsD P os K) s

theorem vcActD_act {act : AAct} {K : AV → Heap → Prop} {s : St} (h : vcActD P act K s) : ∃ v H, DAct P act s v H ∧ K v H := by
  cases act with
  | p op => obtain ⟨v, h1, h2⟩ := h; exact ⟨v, _, ⟨h1, rfl⟩, h2⟩
  | m op => obtain ⟨⟨v, H⟩, h1, h2⟩ := h; exact ⟨v, H, h1, h2⟩
  | call f args =>
    simp only [vcActD] at h
    split at h
    · rename_i g cap hf; obtain ⟨v, H, h1, h2⟩ := h; exact ⟨v, H, ⟨g, cap, hf, h1⟩, h2⟩
    · exact h.elim
  | pcall f args =>
    simp only [vcActD] at h
    split at h
    · rename_i g cap hf; obtain ⟨v, h1, h2⟩ := h; exact ⟨v, _, ⟨g, cap, hf, h1, rfl⟩, h2⟩
    · exact h.elim
  | qcall f args =>
    simp only [vcActD] at h
    split at h
    · rename_i g cap hf; obtain ⟨v, h1, h2⟩ := h; exact ⟨v, _, ⟨g, cap, hf, h1, rfl⟩, h2⟩
    · exact h.elim
  | never => exact h.elim

theorem vcOpD_step {o : AOper} {K : St → Prop} {s : St} (h : vcOpD P o K s) : ∃ s', DStep P o s s' ∧ K s' := by
  obtain ⟨dst, act, guard, hint⟩ := o
  simp only [vcOpD] at h
  cases guard with
  | none =>
    obtain ⟨v, H, h1, h2⟩ := vcActD_act h
    exact ⟨_, ⟨v, H, .run trivial h1, rfl⟩, h2⟩
  | some p =>
    obtain ⟨g, b⟩ := p
    simp only at h
    unfold vcGuard at h
    split at h
    · rename_i b' he
      split at h
      · rename_i hb
        subst hb
        obtain ⟨v, H, h1, h2⟩ := vcActD_act h
        exact ⟨_, ⟨v, H, .run he h1, rfl⟩, h2⟩
      · rename_i hb
        exact ⟨_, ⟨_, _, .skip (.inl ⟨b', he, hb⟩), rfl⟩, h⟩
    · rename_i vs he
      exact ⟨_, ⟨_, _, .skip (.inr ⟨vs, he⟩), rfl⟩, h⟩
    · exact h.elim

theorem vcOpsD_runs : ∀ {os : List AOper} {K : St → Prop} {s : St}, vcOpsD P os K s → ∃ f, Runs P os s f ∧ K f := by
  intro os
  induction os with
  | nil => intro K s h; exact ⟨s, .nil s, h⟩
  | cons o os ih =>
    intro K s h
    obtain ⟨s', h1, h2⟩ := vcOpD_step h
    obtain ⟨f, k1, k2⟩ := ih h2
    exact ⟨f, .cons h1 k1, k2⟩

theorem filterMap_range : ∀ (l pre : List AOper), (List.range' pre.length l.length).filterMap ((pre ++ l)[·]?) = l := by
  intro l
  induction l with
  | nil => intro pre; simp
  | cons x l ih =>
    intro pre
    rw [List.length_cons, List.range'_succ, List.filterMap_cons]
    have h0 : (pre ++ x :: l)[pre.length]? = some x := by simp
    rw [h0]
    have := ih (pre ++ [x])
    rw [List.length_append, List.length_singleton, List.append_assoc, List.singleton_append] at this
    rw [this]

theorem draw_sound {id : Nat} {ops : Array Oper} {l : List AOper} (hm : P.follows .mixedOrders = true) (hok : okDraw ops l = true) (hlen : l.length = ops.size)
    (hal : ∀ (k : Nat) (o : Oper), ops[k]? = some o → ∃ ao bo, l[k]? = some ao ∧ trO P N ops o = some bo ∧ Like ao bo) {Q : AExit → St → Prop} {s : St} (h : vcOpsD P l (Q .normal) s) : AWp P N (.region id ops true) Q s := by
  intro B β a w hr
  obtain ⟨f, hrun, hQ⟩ := vcOpsD_runs h
  have hw : ({ w with drawn := w.drawn + 1 } : World).heap = w.heap := rfl
  have hr' : Rel N B β s a { w with drawn := w.drawn + 1 } := ⟨hr.sim.congr hw, fun t => (hr.rep t).mono (fun _ _ => rfl) (Nat.le_refl _) (fun _ _ _ x => x.congr hw), hr.defers, hr.size⟩
  have ht' : Tr B β s.heap w β s.heap { w with drawn := w.drawn + 1 } := Tr.congr hw rfl rfl rfl
  have hfull : (List.range ops.size).filterMap (l[·]?) = l := by
    have := filterMap_range l []
    rw [List.length_nil, ← List.range_eq_range', hlen, List.nil_append] at this
    exact this
  refine wp_region_any hm (any_sound hok hal ops.size (List.range ops.size) _ (by simp) List.pairwise_lt_range (by simp) (fun k => ?_) (fun k o ho hk d hd => ?_) hr' (by rw [hfull]; exact hrun) (fun β' a' w' k1 k2 => ⟨.normal, f, β', rfl, hQ, k1, ht'.trans k2⟩))
  · simp [Array.getD_eq_getD_getElem?, Array.getElem?_replicate]
    intro hk
    simp [hk]
  · exfalso
    rw [Array.getD_eq_getD_getElem?, Array.getElem?_replicate] at hk
    split at hk <;> simp at hk

theorem fm_congr {α β : Type} {f g : α → Option β} : ∀ {l : List α}, (∀ x ∈ l, f x = g x) → l.filterMap f = l.filterMap g := by
  intro l
  induction l with
  | nil => intro _; rfl
  | cons a l ih => intro h; simp [List.filterMap_cons, h a (by simp), ih (fun x hx => h x (by simp [hx]))]

theorem draw_sound_tail' {id : Nat} {ops : Array Oper} {l : List AOper} (hm : P.follows .mixedOrders = true) (hok : okDraw ops l = true) (hlen : l.length = ops.size) (ht : tailOp ops l = true)
    (hal : ∀ (k : Nat) (o : Oper), ops[k]? = some o → ∃ ao bo, l[k]? = some ao ∧ trO P N ops o = some bo ∧ Like ao bo) {Q : AExit → St → Prop} {s : St} {K : St → Prop}
    (hK : ∀ f', K f' → ∃ f₁, (∀ B β a w, Rel N B β f' a w → Rel N B β f₁ a w ∧ Tr B β f'.heap w β f₁.heap w) ∧ Q .normal f₁)
    {x : AOper} (hx : l.drop (l.length - 1) = [x]) {f : St} (hrun : Runs P l.dropLast s f) (hv : ∃ f₁, (∀ B β a w, Rel N B β f a w → Rel N B β f₁ a w ∧ Tr B β f.heap w β f₁.heap w) ∧ vcOp P x K f₁) : AWp P N (.region id ops true) Q s := by
  intro B β a w hr
  simp only [tailOp, Bool.and_eq_true, List.all_eq_true, List.mem_range] at ht
  obtain ⟨ht1, ht2⟩ := ht
  have hne : l ≠ [] := by
    intro e; subst e; simp at ht1
  have hpos : 0 < l.length := List.length_pos_iff.2 hne
  obtain ⟨m, hm1⟩ : ∃ m, l.length = m + 1 := ⟨l.length - 1, by omega⟩
  have hml : m < l.length := by omega
  have hdrop : l.drop (l.length - 1) = [l[m]] := by
    rw [hm1, Nat.add_sub_cancel, List.drop_eq_getElem_cons hml, List.drop_eq_nil_iff.2 (by omega)]
  rw [hdrop] at hx
  cases hx
  have hw : ({ w with drawn := w.drawn + 1 } : World).heap = w.heap := rfl
  have hr' : Rel N B β s a { w with drawn := w.drawn + 1 } := ⟨hr.sim.congr hw, fun t => (hr.rep t).mono (fun _ _ => rfl) (Nat.le_refl _) (fun _ _ _ x => x.congr hw), hr.defers, hr.size⟩
  have ht' : Tr B β s.heap w β s.heap { w with drawn := w.drawn + 1 } := Tr.congr hw rfl rfl rfl
  have hfull : (List.range m).filterMap (l[·]?) = l.dropLast := by
    have := filterMap_range l.dropLast []
    rw [List.length_nil, ← List.range_eq_range', List.nil_append, List.length_dropLast, hm1, Nat.add_sub_cancel] at this
    rw [← this]
    refine fm_congr fun k hk => ?_
    have hk := List.mem_range.1 hk
    rw [List.dropLast_eq_take, hm1, Nat.add_sub_cancel, List.getElem?_take_of_lt hk]
  have e1 : ops.size = m + 1 := by omega
  refine wp_region_any hm ?_
  suffices hh : ∀ n, n = m + 1 → wpAny P .any ops (fun e a' w' => ∃ x s' β', e = x.to ∧ Q x s' ∧ Rel N B β' s' a' w' ∧ Tr B β s.heap w β' s'.heap w') n (Array.replicate ops.size false) a { w with drawn := w.drawn + 1 } from hh _ e1
  rintro n rfl
  refine any_sound_tail (P := P) (N := N) (ops := ops) (l := l) e1 hok hal (fun i hi => by have := ht2 i (by omega); rw [hm1, Nat.add_sub_cancel] at this; simpa using this) (am := l[m]) (by simp)
    (K := K) m (List.range m) (Array.replicate ops.size false) (by simp) List.pairwise_lt_range (by simp) (fun k => ?_) ?_ (fun k o ho hk d hd => ?_) hr' (by rw [hfull]; exact hrun) hv
    (fun f' β' a' w' k0 k1 k2 => by
      obtain ⟨f₁, hn, hq⟩ := hK f' k0
      obtain ⟨hr₁, ht₁⟩ := hn B β' a' w' k1
      exact ⟨.normal, f₁, β', rfl, hq, hr₁, ht'.trans (k2.trans ht₁)⟩)
  · simp [Array.getD_eq_getD_getElem?, Array.getElem?_replicate]
    intro hk
    rw [if_pos (by omega)]; rfl
  · simp [Array.getD_eq_getD_getElem?, Array.getElem?_replicate, e1]
  · exfalso
    rw [Array.getD_eq_getD_getElem?, Array.getElem?_replicate] at hk
    split at hk <;> simp at hk

theorem tail_last {ops : Array Oper} {l : List AOper} (ht : tailOp ops l = true) : ∃ x, l.drop (l.length - 1) = [x] := by
  simp only [tailOp, Bool.and_eq_true] at ht
  cases h : l.getLast? with
  | none => rw [h] at ht; simp at ht
  | some x =>
    refine ⟨x, ?_⟩
    have hpos : 0 < l.length := by
      rcases Nat.eq_zero_or_pos l.length with e | e
      · rw [List.length_eq_zero_iff.1 e] at h; simp at h
      · exact e
    rw [List.getLast?_eq_getElem?] at h
    obtain ⟨h1, h2⟩ := List.getElem?_eq_some_iff.1 h
    rw [List.drop_eq_getElem_cons h1, h2, List.drop_eq_nil_iff.2 (by omega)]

theorem draw_sound_tail {id : Nat} {ops : Array Oper} {l : List AOper} (hm : P.follows .mixedOrders = true) (hok : okDraw ops l = true) (hlen : l.length = ops.size) (ht : tailOp ops l = true)
    (hal : ∀ (k : Nat) (o : Oper), ops[k]? = some o → ∃ ao bo, l[k]? = some ao ∧ trO P N ops o = some bo ∧ Like ao bo) {Q : AExit → St → Prop} {s : St} (h : vcOpsD P l.dropLast (vcOps P (l.drop (l.length - 1)) (Q .normal)) s) : AWp P N (.region id ops true) Q s := by
  obtain ⟨x, hx⟩ := tail_last ht
  rw [hx] at h
  obtain ⟨f, hrun, hv⟩ := vcOpsD_runs h
  refine draw_sound_tail' hm hok hlen ht hal (K := Q .normal) (fun f' h => ⟨f', fun B β a w hr => ⟨hr, Tr.refl _ _ _ _⟩, h⟩) hx hrun ⟨f, fun B β a w hr => ⟨hr, Tr.refl _ _ _ _⟩, hv⟩

end
end Go.Ab

/-
  The condition that is computed of code, and that it is enough.
-/
namespace Go.Ab
open Go Go.RowKit
set_option linter.unusedVariables false
set_option linter.unusedSimpArgs false

/-- In a region whose operations come in whatever order, calls that may change places with others are to be of the narrower kind. -/
def narrow (ops : Array Oper) (l : List AOper) : List AOper :=
  let ah := aheads ops.toList
  l.zipIdx.map fun (o, j) =>
    match o.act with
    | .call f args =>
      let free := fun (x : AOper × Nat) => x.2 != j && !((ah.getD j []).contains x.2) && !((ah.getD x.2 []).contains j) && x.1.act.cls != .p
      if l.zipIdx.any free then
        if l.zipIdx.all (fun x => !(free x) || x.1.act.cls == .r || x.1.act.cls == .q || (match x.1.act with | .call _ _ => true | _ => false)) then { o with act := .qcall f args } else { o with act := .pcall f args }
      else o
    | _ => o

def trC (P : Program) (N : Nat) : Code → Option ACode
  | .skip => some .skip
  | .label _ => some .skip
  | .region _ ops draw =>
    match ops.toList.mapM (trO P N ops) with
    | some l => if draw then (if P.follows .mixedOrders && okDraw ops (narrow ops l) then (if tailOp ops (narrow ops l) then some (.seq (.draw (narrow ops l).dropLast) (.ops ((narrow ops l).drop ((narrow ops l).length - 1)))) else some (.draw (narrow ops l))) else some .never) else some (.ops l)
    | none => some .never
  | .seq a b => match trC P N a, trC P N b with
    | some x, some y => some (.seq x y)
    | _, _ => none
  | .cond c a b => match trC P N a, trC P N b with
    | some x, some y => some (.cond (trX c) x y)
    | _, _ => none
  | .block id a => (trC P N a).map (.block id)
  | .loop a => (trC P N a).map .loop
  | .exit id => some (.exit id)
  | .ret => some .ret
  | .refuse _ => some .never
  | .scope _ => some .never
  | .goto _ => some .never
  | .rangeFunc _ _ _ _ => some .never

/-- What an abstract loop comes to. -/
def ALoop (P : Program) (N : Nat) (c : ACode) (Q : AExit → St → Prop) (s : St) : Prop := ∀ x, trC P N x = some c → AWp P N (.loop x) Q s

def vc (P : Program) (N : Nat) : ACode → (AExit → St → Prop) → St → Prop
  | .skip, Q, s => Q .normal s
  | .ops l, Q, s => vcOps P l (Q .normal) s
  | .draw l, Q, s => vcOpsD P l (Q .normal) s
  | .seq a b, Q, s => vc P N a (thenQ (vc P N b Q) Q) s
  | .cond c a b, Q, s => match c.ev s.env with
    | .v (.bool t) => if t then vc P N a Q s else vc P N b Q s
    | _ => False
  | .block id a, Q, s => vc P N a (blockQ id Q) s
  | .loop a, Q, s => ALoop P N a Q s
  | .never, _, _ => False
  | .exit id, Q, s => Q (.exit id) s
  | .ret, Q, s => Q .ret s

section
variable {P : Program} {N : Nat}

theorem narrow_length (ops : Array Oper) (l : List AOper) : (narrow ops l).length = l.length := by simp [narrow]

theorem narrow_get (ops : Array Oper) {l : List AOper} {k : Nat} {x : AOper} (h : l[k]? = some x) : ∃ y, (narrow ops l)[k]? = some y ∧ Like y x := by
  unfold narrow
  simp only [List.getElem?_map, List.getElem?_zipIdx, h, Option.map_some, Nat.zero_add]
  refine ⟨_, rfl, ?_⟩
  obtain ⟨dst, act, guard, hint⟩ := x
  simp only
  split
  · split
    · split
      · exact ⟨rfl, rfl, .inr (.inr rfl)⟩
      · exact ⟨rfl, rfl, .inr (.inl rfl)⟩
    · exact .refl _
  · exact .refl _

theorem vc_sound : ∀ (c : Code) (ac : ACode), trC P N c = some ac → ∀ (Q : AExit → St → Prop) (s : St), vc P N ac Q s → AWp P N c Q s := by
  intro c
  induction c with
  | skip => intro ac h Q s hv; simp [trC] at h; subst h; exact AWp.skip hv
  | label l => intro ac h Q s hv; simp [trC] at h; subst h; exact fun B β a w hr => wp_label ⟨.normal, s, β, rfl, hv, hr, Tr.refl _ _ _ _⟩
  | region id ops draw =>
    intro ac h Q s hv
    simp only [trC] at h
    split at h
    rotate_left
    · cases h; exact hv.elim
    rename_i l hl
    obtain ⟨hlen, hget⟩ := mapM_get hl
    cases draw with
    | true =>
      simp only [if_true] at h
      split at h
      · rename_i hc
        simp only [Bool.and_eq_true] at hc
        have hall : ∀ (k : Nat) (o : Oper), ops[k]? = some o → ∃ ao bo, (narrow ops l)[k]? = some ao ∧ trO P N ops o = some bo ∧ Like ao bo := by
          intro k o ho
          have hk : k < l.length := by
            rw [hlen]
            have : k < ops.size := by
              rcases Nat.lt_or_ge k ops.size with h | h
              · exact h
              · simp [Array.getElem?_eq_none h] at ho
            simpa using this
          obtain ⟨ao, hao, hlike⟩ := narrow_get ops (l := l) (k := k) (x := l[k]) (by simp)
          exact ⟨ao, l[k], hao, hget k o _ (by simpa using ho) (by simp), hlike⟩
        split at h
        · rename_i ht
          cases h
          refine draw_sound_tail hc.1 hc.2 (by rw [narrow_length, hlen]; simp) ht hall ?_
          simp only [vc] at hv
          exact hv
        · cases h
          simp only [vc] at hv
          exact draw_sound hc.1 hc.2 (by rw [narrow_length, hlen]; simp) hall hv
      · cases h; exact hv.elim
    | false =>
      simp only [Bool.false_eq_true, if_false, Option.some.injEq] at h
      subst h
      simp only [vc] at hv
      intro B β a w hr
      refine wp_region (ops_sound (List.range ops.size) l (by simp [hlen]) (fun j i ao hj hao => ?_) hr hv (fun s' β' a' w' hQ hr' ht' => ⟨.normal, s', β', rfl, hQ, hr', ht'⟩))
      have hji : j = i := by
        have h1 := getElem?_lt hj
        rw [List.getElem?_eq_getElem h1] at hj
        simpa using hj
      subst hji
      have hlt := getElem?_lt hao
      have hlt' : j < ops.size := by rw [hlen] at hlt; simpa using hlt
      exact ⟨ops[j], by simp, hget j ops[j] ao (by simp) hao⟩
  | seq a b iha ihb =>
    intro ac h Q s hv
    simp only [trC] at h
    split at h
    · rename_i x y hx hy
      cases h
      simp only [vc] at hv
      refine AWp.seq (AWp.mono (iha x hx _ s hv) ?_)
      intro e s' he
      cases e with
      | normal => exact ihb y hy Q s' he
      | exit id => exact he
      | ret => exact he
    · cases h
  | cond c a b iha ihb =>
    intro ac h Q s hv
    simp only [trC] at h
    split at h
    · rename_i x y hx hy
      cases h
      simp only [vc] at hv
      split at hv
      · rename_i t hc
        refine AWp.cond hc ?_
        cases t
        · exact ihb y hy Q s hv
        · exact iha x hx Q s hv
      · exact hv.elim
    · cases h
  | block id a ih =>
    intro ac h Q s hv
    simp only [trC, Option.map_eq_some_iff] at h
    obtain ⟨x, hx, rfl⟩ := h
    simp only [vc] at hv
    exact AWp.block (ih x hx _ s hv)
  | loop a ih =>
    intro ac h Q s hv
    simp only [trC, Option.map_eq_some_iff] at h
    obtain ⟨x, hx, rfl⟩ := h
    simp only [vc] at hv
    exact hv a hx
  | exit id => intro ac h Q s hv; simp [trC] at h; subst h; exact AWp.exit hv
  | ret => intro ac h Q s hv; simp [trC] at h; subst h; exact AWp.ret hv
  | rangeFunc f ps a b => intro ac h Q s hv; simp [trC] at h; subst h; exact hv.elim
  | scope b => intro ac h Q s hv; simp [trC] at h; subst h; exact hv.elim
  | goto l => intro ac h Q s hv; simp [trC] at h; subst h; exact hv.elim
  | refuse w => intro ac h Q s hv; simp [trC] at h; subst h; exact hv.elim

/-- A loop: a round, and what is left. -/
theorem ALoop.unfold {c : ACode} {Q : AExit → St → Prop} {s : St} (h : vc P N c (thenQ (ALoop P N c Q) Q) s) : ALoop P N c Q s := by
  intro x hx
  refine AWp.loop (AWp.mono (vc_sound x c hx _ s h) ?_)
  intro e s' he
  cases e with
  | normal => exact he x hx
  | exit id => exact he
  | ret => exact he

/-- Less may be known of the variables. -/
theorem ALoop.forget {c : ACode} {Q : AExit → St → Prop} {env env' : Env} {H : Heap} (h : ALoop P N c Q ⟨env', H⟩) (he : ∀ t, env' t = .any ∨ env' t = env t) : ALoop P N c Q ⟨env, H⟩ := by
  intro x hx B β a w hr
  refine h x hx B β a w ⟨hr.sim, fun t => ?_, hr.defers, hr.size⟩
  rcases he t with h | h
  · simp only [h]; exact .any _
  · simp only [h]; exact hr.rep t

inductive ARes where
  | tmp (t : Nat)
  | cell (t : Nat) (l : Option Nat)

def trR (P : Program) : ResultVar → Option ARes
  | .tmp t => some (.tmp t)
  | .cell t ty => (layOf P ty).map (.cell t)

def resF (s : St) : ARes → Option AV
  | .tmp t => some (s.env t)
  | .cell t l => readA s.heap l (s.env t)

def resV (rs : List ARes) (s : St) : Option AV :=
  match rs with
  | [r] => resF s r
  | rs => (rs.mapM (resF s)).map .tup

def envOf (args : List AV) : Env := fun t => (args[t]?).getD .any

def retQ (rs : List ARes) (Q : AV → Heap → Prop) : AExit → St → Prop
  | .normal, s => bindP (resV rs s) fun r => Q r s.heap
  | .ret, s => bindP (resV rs s) fun r => Q r s.heap
  | .exit _, _ => False

theorem res_sound {B : Nat} {β : Nat → Em} {s : St} {a : Act} {w : World} (hr : Rel N B β s a w) {g : ResultVar → Sem Value} (g1 : ∀ t, g (.tmp t) = pure (a.tmps.getD t undef)) (g2 : ∀ x t, g (.cell x t) = (do loadVar t (← asAddr (a.tmps.getD x undef))))
    {r : ResultVar} {ar : ARes} (htr : trR P r = some ar) {v : AV} (hv : resF s ar = some v) : ∃ c, (g r).run P w = .ok c w ∧ RepH β s.heap w v c := by
  cases r with
  | tmp t =>
    simp [trR] at htr
    subst htr
    simp [resF] at hv
    subst hv
    exact ⟨_, by rw [g1]; rfl, hr.rep t⟩
  | cell x t =>
    simp only [trR, Option.map_eq_some_iff] at htr
    obtain ⟨l, hl, rfl⟩ := htr
    simp only [resF] at hv
    obtain ⟨d, h1, h2⟩ := read_sound (P := P) hr.sim hl hv (hr.rep x)
    refine ⟨d, ?_, h2⟩
    rw [g2]
    have hrep := hr.rep x
    obtain ⟨c, hc⟩ : ∃ c, a.tmps.getD x undef = c := ⟨_, rfl⟩
    rw [hc] at hrep h1 ⊢
    unfold readA at hv
    split at hv
    · rename_i o off he
      rw [he] at hrep
      cases hrep with
      | ptr ho => simpa [Instr.loadAt, Instr.sureAddr, asAddr] using h1
    · rename_i y he
      rw [he] at hrep
      cases hrep with
      | rp cv k1 k2 => simpa [Instr.loadAt, Instr.sureAddr, asAddr] using h1
    · cases hv

theorem results_sound {B : Nat} {β : Nat → Em} {s : St} {a : Act} {w : World} (hr : Rel N B β s a w) {fn : Func} {rs : List ARes} (htr : fn.results.toList.mapM (trR P) = some rs) {v : AV} (hv : resV rs s = some v) :
    ∃ c, (results fn a.tmps).run P w = .ok c w ∧ RepH β s.heap w v c := by
  obtain ⟨hlen, hget⟩ := mapM_get htr
  obtain ⟨g, g1, g2, hres⟩ : ∃ g : ResultVar → Sem Value, (∀ t, g (.tmp t) = pure (a.tmps.getD t undef)) ∧ (∀ x t, g (.cell x t) = (do loadVar t (← asAddr (a.tmps.getD x undef)))) ∧
      results fn a.tmps = (do let vs ← fn.results.mapM g; pure (if h : vs.size = 1 then vs[0] else .tuple vs)) := ⟨_, fun _ => rfl, fun _ _ => rfl, rfl⟩
  have key : ∀ (l : List ResultVar) (ls : List ARes) (vs : List AV), l.length = ls.length → (∀ (i : Nat) (r : ResultVar) (ar : ARes), l[i]? = some r → ls[i]? = some ar → trR P r = some ar) → ls.mapM (resF s) = some vs →
      ∃ cs : List Value, (l.mapM g).run P w = .ok cs w ∧ vs.length = cs.length ∧ ∀ (i : Nat) (b : AV) (c : Value), vs[i]? = some b → cs[i]? = some c → RepH β s.heap w b c := by
    intro l
    induction l with
    | nil => intro ls vs hl _ h; cases ls with
      | nil => simp at h; subst h; exact ⟨[], rfl, rfl, by simp⟩
      | cons _ _ => simp at hl
    | cons r l ih =>
      intro ls vs hl hg h
      cases ls with
      | nil => simp at hl
      | cons ar ls =>
        rw [List.mapM_cons] at h
        simp only [bind, Option.bind_eq_some_iff, pure, Option.some.injEq] at h
        obtain ⟨v, hv, vs', hvs, rfl⟩ := h
        obtain ⟨c, hc, hrc⟩ := res_sound (P := P) hr g1 g2 (hg 0 r ar rfl rfl) hv
        obtain ⟨cs, h1, h2, h3⟩ := ih ls vs' (by simpa using hl) (fun i r ar h1 h2 => hg (i + 1) r ar (by simpa using h1) (by simpa using h2)) hvs
        refine ⟨c :: cs, ?_, by simp [h2], fun i b d hb hd => ?_⟩
        · rw [List.mapM_cons, Sem.run_bind, hc, Result.andThen_ok, Sem.run_bind, h1]
          rfl
        · cases i with
          | zero => simp at hb hd; subst hb; subst hd; exact hrc
          | succ i => simp at hb hd; exact h3 i b d hb hd
  have run : ∀ (cs : List Value), (fn.results.toList.mapM g).run P w = .ok cs w →
      (results fn a.tmps).run P w = .ok (if h : cs.toArray.size = 1 then cs.toArray[0] else .tuple cs.toArray) w := by
    intro cs h
    rw [hres, Sem.run_bind, Array.mapM_eq_mapM_toList]
    simp only [Sem.run_map]
    rw [h]
    rfl
  unfold resV at hv
  split at hv
  · rename_i r
    obtain ⟨cs, h1, h2, h3⟩ := key _ [r] [v] (by simpa using hlen.symm) (fun i x y hx hy => hget i x y hx hy) (by simp [hv])
    refine ⟨_, run cs h1, ?_⟩
    match cs, h2 with
    | [c], _ => exact h3 0 v c rfl rfl
  · rename_i hne
    rw [Option.map_eq_some_iff] at hv
    obtain ⟨vs, hvs, rfl⟩ := hv
    obtain ⟨cs, h1, h2, h3⟩ := key _ rs vs (by simpa using hlen.symm) (fun i x y hx hy => hget i x y hx hy) hvs
    have hl : vs.length = rs.length := (mapM_get hvs).1
    have hne1 : cs.toArray.size ≠ 1 := by
      intro e
      simp only [List.size_toArray] at e
      rcases rs with _ | ⟨x, _ | ⟨y, rs⟩⟩
      · have hl' : vs.length = 0 := hl
        omega
      · exact hne x rfl
      · have hl' : vs.length = rs.length + 1 + 1 := hl
        omega
    refine ⟨_, run cs h1, ?_⟩
    rw [dif_neg hne1]
    exact .tup (by simpa using h2) fun i b c hb hc => h3 i b c hb (by simpa using hc)

/-- A function whose body comes to what is asked. -/
theorem acalls {f : FuncId} {fn : Func} {body : Code} {ac : ACode} {rs : List ARes} {args : List AV} {H : Heap} {Q : AV → Heap → Prop} (hf : P.funcs[f]? = some fn) (hn : (fn.name == "runtime.NumGoroutine") = false) (hb : fn.body = some body)
    (hc : trC P fn.ntmps body = some ac) (hr : fn.results.toList.mapM (trR P) = some rs) (hl : args.length ≤ fn.ntmps)
    (h : vc P fn.ntmps ac (retQ rs Q) ⟨envOf args, H⟩) : ACalls P f args H Q := by
  refine ⟨⟨fn, hf, hn, by rw [hb]; rfl⟩, fun B β w cs hs hlen hargs => calls_of_wp hf hb ?_⟩
  have hrel : Rel fn.ntmps B β ⟨envOf args, H⟩ { tmps := cs ++ Array.replicate (fn.ntmps - cs.size) undef, defers := [] } w := by
    refine ⟨hs, fun t => ?_, rfl, by simp; omega⟩
    simp only [envOf]
    cases ht : args[t]? with
    | none => exact .any _
    | some a =>
      have hlt := getElem?_lt ht
      have : (cs ++ Array.replicate (fn.ntmps - cs.size) undef).getD t undef = cs[t]'(by omega) := by
        rw [Array.getD_eq_getD_getElem?, Array.getElem?_append_left (by omega)]
        simp [show t < cs.size by omega]
      rw [this]
      exact hargs t a _ ht (by simp)
  refine wp_mono (vc_sound body ac hc _ _ h B β _ w hrel) ?_
  rintro e a' w' ⟨x, s', β', rfl, hQ, hr', ht'⟩
  have fin : bindP (resV rs s') (fun r => Q r s'.heap) → a'.defers = [] ∧ ∃ v, (results fn a'.tmps).run P w' = .ok v w' ∧ ∃ r c β' H', Ending.returned v = .returned c ∧ Q r H' ∧ RepH β' H' w' r c ∧ Sim B β' H' w' ∧ Tr B β H w β' H' w' := by
    rintro ⟨r, hv, hq⟩
    obtain ⟨c, h1, h2⟩ := results_sound hr' hr hv
    exact ⟨hr'.defers, c, h1, r, c, β', s'.heap, rfl, hq, h2, hr'.sim, ht'⟩
  cases x with
  | normal => exact fin hQ
  | ret => exact fin hQ
  | exit id => exact hQ.elim

/-- Objects of the call's own are forgotten; slices over them become lists. -/
theorem ACalls.frz {f : FuncId} {args : List AV} {H : Heap} {Q : AV → Heap → Prop} (h : ACalls P f args H fun r H' => ∃ L r', H' = H ++ L ∧ Frz H' H.length r r' ∧ Q r' H) : ACalls P f args H Q := by
  refine ⟨h.ok, fun B β w cs hs hl ha => Calls.mono (h.go B β w cs hs hl ha) ?_⟩
  rintro e w' ⟨r, c, β', H', rfl, ⟨L, r', rfl, hz, hq⟩, h2, h3, h4⟩
  have htake : (H ++ L).take H.length = H := by simp
  have s' := h3.take H.length (by simp) (by rw [htake]; exact hs.bnd)
  have t' := h4.take H.length (Nat.le_refl _) (by simp)
  have r'' := hz.rep h3 h2
  rw [htake] at s' t' r''
  exact ⟨r', c, β', H, rfl, hq, r'', s', t'⟩

end
end Go.Ab

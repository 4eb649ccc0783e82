/- A part of the proof of CodeNil: AbDraw. -/
import Derived.Test.YthmpodpkckagmaaGreatAbVc
set_option linter.constructorNameAsVariable false
/-
  A region whose operations come in whatever order: the text's order is enough, where those that may change places do not meet.
-/
namespace Go.Ab
open Go Go.RowKit
set_option linter.unusedVariables false
set_option linter.unusedSimpArgs false

/-! ### which variables an operation looks at -/

def AX.slots : AX → List Nat
  | .s t => [t]
  | .c _ => []

def slotsO (x : Option AX) : List Nat := match x with | some x => x.slots | none => []
def slotsL (xs : List AX) : List Nat := xs.flatMap AX.slots
def slotsP (xs : List (Nat × Nat × AX)) : List Nat := xs.flatMap fun p => p.2.2.slots

def POp.slots : POp → List Nat
  | .mov x | .eqn _ _ x | .un _ x | .cint _ x | .cstr x | .fieldAddr _ _ x | .field _ _ x | .extract x _ | .mkIfc _ x | .nilCheck x | .len _ x => x.slots
  | .pick c a b => c.slots ++ (a.slots ++ b.slots)
  | .build _ ps => slotsP ps
  | .bin _ x y | .eqa _ _ _ x y | .idxArr _ _ x y | .idxStr x y | .adrSl _ x y | .adrArr _ _ x y => x.slots ++ y.slots
  | .slStr x a b => x.slots ++ (slotsO a ++ slotsO b)
  | .slSl _ x a b c => x.slots ++ (slotsO a ++ (slotsO b ++ slotsO c))
  | .mkFn _ xs => slotsL xs
  | .lenC _ => []
  | .mm _ x xs => x.slots ++ slotsL xs

def YOp.slots : YOp → List Nat
  | .mk => []
  | .look _ _ _ _ m k | .del _ _ m k => m.slots ++ k.slots
  | .upd _ _ m k v => m.slots ++ (k.slots ++ v.slots)
  | .len m => m.slots

theorem YOp.run_agree' {op : YOp} {e e' : Nat → AV} {H : Heap} (hx : ∀ x : AX, (∀ t, t ∈ x.slots → t ∈ op.slots) → x.ev e = x.ev e') : op.run e H = op.run e' H := by
  cases op with
  | mk => rfl
  | look _ _ _ _ m k | del _ _ m k => simp only [YOp.run]; rw [hx m fun t h => List.mem_append_left _ h, hx k fun t h => List.mem_append_right _ h]
  | upd _ _ m k v => simp only [YOp.run]; rw [hx m fun t h => List.mem_append_left _ h, hx k fun t h => List.mem_append_right _ (List.mem_append_left _ h), hx v fun t h => List.mem_append_right _ (List.mem_append_right _ h)]
  | len m => simp only [YOp.run]; rw [hx m fun t h => h]

def XOp.slots : XOp → List Nat
  | .map y => y.slots
  | .ident x | .capK x | .clear _ _ x | .retype _ _ x | .sdata x => x.slots
  | .allocT _ _ => []
  | .eqp _ x y | .appendT _ x y | .ustr _ x y => x.slots ++ y.slots

theorem XOp.run_agree' {op : XOp} {e e' : Nat → AV} {H : Heap} (hx : ∀ x : AX, (∀ t, t ∈ x.slots → t ∈ op.slots) → x.ev e = x.ev e') : op.run e H = op.run e' H := by
  cases op with
  | map y => exact YOp.run_agree' hx
  | ident x | capK x | clear _ _ x | retype _ _ x | sdata x => simp only [XOp.run]; rw [hx x fun t h => h]
  | allocT e zs => rfl
  | eqp _ x y | appendT _ x y | ustr _ x y => simp only [XOp.run]; rw [hx x fun t h => List.mem_append_left _ h, hx y fun t h => List.mem_append_right _ h]

def MOp.slots : MOp → List Nat
  | .ext x => x.slots
  | .load _ x | .box x | .b2s x | .s2b x => x.slots
  | .alloc _ => []
  | .buildSlice _ _ _ ps => slotsP ps
  | .mkSlice _ _ _ x y | .store _ x y | .append _ _ x y | .appendStr x y | .appendZ _ _ _ x y | .copy _ x y | .copyStr x y => x.slots ++ y.slots

def AAct.slots : AAct → List Nat
  | .p op => op.slots
  | .m op => op.slots
  | .call f xs | .pcall f xs | .qcall f xs => f.slots ++ slotsL xs
  | .never => []

def AOper.reads (o : AOper) : List Nat := o.act.slots ++ (match o.guard with | some (g, _) => [g] | none => [])

def Agree (l : List Nat) (e e' : Env) : Prop := ∀ t, t ∈ l → e t = e' t

theorem Agree.left {l m : List Nat} {e e' : Env} (h : Agree (l ++ m) e e') : Agree l e e' := fun t ht => h t (List.mem_append_left _ ht)
theorem Agree.right {l m : List Nat} {e e' : Env} (h : Agree (l ++ m) e e') : Agree m e e' := fun t ht => h t (List.mem_append_right _ ht)

theorem AX.ev_agree {x : AX} {e e' : Env} (h : Agree x.slots e e') : x.ev e = x.ev e' := by
  cases x with
  | s t => exact h t (by simp [AX.slots])
  | c x => rfl

theorem evO_agree {x : Option AX} {e e' : Env} (h : Agree (slotsO x) e e') : x.map (·.ev e) = x.map (·.ev e') := by
  cases x with
  | none => rfl
  | some x => simp only [Option.map_some]; rw [AX.ev_agree h]

theorem evL_agree : ∀ {xs : List AX} {e e' : Env}, Agree (slotsL xs) e e' → xs.map (·.ev e) = xs.map (·.ev e') := by
  intro xs e e' h
  refine List.map_congr_left fun x hx => AX.ev_agree fun t ht => h t ?_
  exact List.mem_flatMap.2 ⟨x, hx, ht⟩

theorem evP_agree {xs : List (Nat × Nat × AX)} {e e' : Env} (h : Agree (slotsP xs) e e') : xs.map (fun (o, s, x) => (o, s, x.ev e)) = xs.map (fun (o, s, x) => (o, s, x.ev e')) := by
  refine List.map_congr_left fun x hx => ?_
  obtain ⟨o, s, x⟩ := x
  simp only
  rw [AX.ev_agree (x := x) fun t ht => h t (List.mem_flatMap.2 ⟨_, hx, ht⟩)]

theorem POp.run_agree {op : POp} {e e' : Env} (h : Agree op.slots e e') : op.run e = op.run e' := by
  cases op <;> simp only [POp.slots] at h <;> simp only [POp.run] <;> first
    | rw [AX.ev_agree h]
    | rw [AX.ev_agree h.left, AX.ev_agree h.right]
    | rw [AX.ev_agree h.left, AX.ev_agree h.right.left, AX.ev_agree h.right.right]
    | rw [evP_agree h]
    | rw [evL_agree h]
    | rw [AX.ev_agree h.left, evL_agree h.right]
    | rw [AX.ev_agree h.left, evO_agree h.right.left, evO_agree h.right.right]
    | rw [AX.ev_agree h.left, evO_agree h.right.left, evO_agree h.right.right.left, evO_agree h.right.right.right]
    | rfl

theorem MOp.run_agree {op : MOp} {e e' : Env} {H : Heap} (h : Agree op.slots e e') : op.run e H = op.run e' H := by
  cases op <;> simp only [MOp.slots] at h <;> simp only [MOp.run] <;> first
    | exact XOp.run_agree' fun x hx => AX.ev_agree fun t ht => h t (hx t ht)
    | rw [AX.ev_agree h]
    | rw [AX.ev_agree h.left, AX.ev_agree h.right]
    | rw [evP_agree h]
    | rfl

/-! ### kinds of operations -/

inductive Cls where
  | p | r | a | w | q
  deriving DecidableEq

/-- Of the rarer kinds: does it hang on its operands alone? -/
def XOp.calm : XOp → Bool
  | .ident _ | .capK _ | .eqp .. | .sdata _ => true
  | _ => false

theorem XOp.calm_run {op : XOp} (hc : op.calm = true) {e : Nat → AV} {H H' H₂ : Heap} {v : AV} (h : op.run e H = some (v, H')) : H' = H ∧ op.run e H₂ = some (v, H₂) := by
  cases op with
  | ident x => simp only [XOp.run] at h ⊢; cases h; exact ⟨rfl, rfl⟩
  | capK x => simp only [XOp.run] at h ⊢; split at h <;> first | (rename_i hx; cases h; simp [hx]) | cases h
  | eqp n x y =>
    simp only [XOp.run] at h ⊢
    split at h
    · split at h
      · rename_i h1 h2 h3
        cases h
        simp [h1, h2, h3]
      · cases h
    · cases h
  | sdata x =>
    simp only [XOp.run] at h ⊢
    split at h
    · rename_i hx; cases h; simp [hx]
    · rename_i hx
      split at h
      · cases h
      · rename_i h0; cases h; simp [hx, h0]
    · cases h
  | _ => simp [XOp.calm] at hc

/-- Of the rarer kinds: does it look at memory, and leave it as it is? -/
def XOp.still : XOp → Bool
  | .map (.look ..) | .map (.len _) => true
  | _ => false

theorem XOp.still_run {op : XOp} (hc : op.still = true) {e : Nat → AV} {H H' : Heap} {v : AV} (h : op.run e H = some (v, H')) : H' = H := by
  cases op with
  | map y =>
    cases y with
    | look ks agg ok z m k =>
      simp only [XOp.run, YOp.run] at h
      split at h
      · split at h <;> first | (cases h; rfl) | cases h
      · cases h
    | len m =>
      simp only [XOp.run, YOp.run] at h
      split at h <;> first | (cases h; rfl) | cases h
    | _ => simp [XOp.still] at hc
  | _ => simp [XOp.still] at hc

def AAct.cls : AAct → Cls
  | .qcall _ _ => .q
  | .p _ | .pcall _ _ => .p
  | .m (.ext x) => if x.calm then .p else if x.still then .q else .w
  | .m (.load _ _) | .m (.b2s _) => .r
  | .m (.alloc _) | .m (.box _) | .m (.buildSlice ..) | .m (.mkSlice ..) | .m (.s2b _) => .a
  | _ => .w

/-- May these two change places? -/
def meet (x y : Cls) : Bool :=
  match x, y with
  | .p, _ | _, .p | .r, .r | .r, .a | .a, .r | .q, .r | .r, .q | .q, .q => true
  | _, _ => false

/-! ### one operation as a step -/

def DAct (P : Program) (act : AAct) (s : St) (v : AV) (H : Heap) : Prop :=
  match act with
  | .p op => op.run s.env = some v ∧ H = s.heap
  | .m op => op.run s.env s.heap = some (v, H)
  | .call f args => ∃ g cap, f.ev s.env = .fn g cap ∧ ACalls P g (args.map (·.ev s.env) ++ cap) s.heap fun r H' => r = v ∧ H' = H
  | .pcall f args => ∃ g cap, f.ev s.env = .fn g cap ∧ PureCall P g (args.map (·.ev s.env) ++ cap) v ∧ H = s.heap
  | .qcall f args => ∃ g cap, f.ev s.env = .fn g cap ∧ (ACalls P g (args.map (·.ev s.env) ++ cap) s.heap fun r H' => r = v ∧ H' = s.heap) ∧ H = s.heap
  | .never => False

def wantA (o : AOper) (s : St) : Prop := match o.guard with
  | none => True
  | some (g, b) => s.env g = .v (.bool b)

def waitA (o : AOper) (s : St) : Prop := match o.guard with
  | none => False
  | some (g, b) => (∃ b', s.env g = .v (.bool b') ∧ b' ≠ b) ∨ ∃ vs, s.env g = .v (.tuple vs)

inductive DEff (P : Program) (o : AOper) (s : St) : AV → Heap → Prop
  | run {v : AV} {H : Heap} (hg : wantA o s) (h : DAct P o.act s v H) : DEff P o s v H
  | skip (hg : waitA o s) : DEff P o s unit s.heap

def DStep (P : Program) (o : AOper) (s s' : St) : Prop := ∃ v H, DEff P o s v H ∧ s' = s.put o.dst v H

inductive Runs (P : Program) : List AOper → St → St → Prop
  | nil (s : St) : Runs P [] s s
  | cons {o : AOper} {os : List AOper} {s s₁ s₂ : St} (h : DStep P o s s₁) (t : Runs P os s₁ s₂) : Runs P (o :: os) s s₂

section
variable {P : Program} {N : Nat}

theorem DAct.vc {act : AAct} {s : St} {v : AV} {H : Heap} (h : DAct P act s v H) : vcAct P act (fun v' H' => v' = v ∧ H' = H) s := by
  cases act with
  | p op => exact ⟨v, h.1, rfl, h.2.symm⟩
  | m op => exact ⟨(v, H), h, rfl, rfl⟩
  | call f args => obtain ⟨g, cap, h1, h2⟩ := h; simp only [vcAct, h1]; exact h2
  | pcall f args => obtain ⟨g, cap, h1, h2, h3⟩ := h; simp only [vcAct, h1]; exact ⟨v, h2, rfl, h3.symm⟩
  | qcall f args => obtain ⟨g, cap, h1, h2, h3⟩ := h; simp only [vcAct, h1]; exact ⟨v, h2, rfl, h3.symm⟩
  | never => exact h

theorem DStep.vc {o : AOper} {s s' : St} (h : DStep P o s s') : vcOp P o (fun t => t = s') s := by
  obtain ⟨v, H, h, rfl⟩ := h
  obtain ⟨dst, act, guard, hint⟩ := o
  cases h with
  | run hg h =>
    cases guard with
    | none => simp only [vcOp]; exact vcAct_mono (fun v H ⟨h1, h2⟩ => by rw [h1, h2]) h.vc
    | some p =>
      obtain ⟨g, b⟩ := p
      simp only [wantA] at hg
      simp only [vcOp, hg, vcGuard, if_true]; exact vcAct_mono (fun v H ⟨h1, h2⟩ => by rw [h1, h2]) h.vc
  | skip hg =>
    cases guard with
    | none => exact hg.elim
    | some p =>
      obtain ⟨g, b⟩ := p
      simp only [waitA] at hg
      rcases hg with ⟨b', he, hne⟩ | ⟨vs, he⟩
      · simp only [vcOp, he, vcGuard, if_neg hne]
      · simp only [vcOp, he, vcGuard]

/-- A state that some memory of the machine stands for. -/
def Live (N : Nat) (s : St) : Prop := ∃ B β a w, Rel N B β s a w

theorem Live.env {s : St} (h : Live N s) (t : Nat) : Bnd s.heap.length (s.env t) := by
  obtain ⟨B, β, a, w, hr⟩ := h
  exact (hr.rep t).bnd

theorem Live.ev {s : St} (h : Live N s) (x : AX) (hx : ∀ y, x = .c y → Bnd s.heap.length y) : Bnd s.heap.length (x.ev s.env) := by
  cases x with
  | s t => exact h.env t
  | c y => exact hx y rfl

/-- What the machine's own operation tells of a step. -/
theorem wp_exists {o : Oper} {a : Act} {w : World} {next : Act → World → Prop} {Q : Exit → Act → World → Prop} (h : o.wp P a w next Q) (hQ : ∀ e a w, ¬ Q e a w) : ∃ a' w', next a' w' := by
  unfold Oper.wp at h
  generalize (execOp a.eval o).run P w = r at h
  cases r with
  | ok n w' =>
    cases n <;> simp only [Oper.upon] at h
    case value v => exact ⟨_, _, h⟩
    case skip => exact ⟨_, _, h⟩
    case defer d => exact ⟨_, _, h⟩
    case enter f args =>
      obtain ⟨e, w'', fr, hR, _⟩ := h []
      cases e with
      | returned v => exact ⟨_, _, hR⟩
      | panicked c => exact (hQ _ _ _ hR).elim
      | outgrown => obtain ⟨a0, w0, hq⟩ := hR; exact (hQ _ _ _ hq).elim
    case row row args =>
      obtain ⟨v, w'', hR, _⟩ := h default []
      exact ⟨_, _, hR⟩
  | halt x w' =>
    cases x <;> simp only [Oper.upon] at h
    case panic v => exact (hQ _ _ _ h).elim

theorem DStep.live {ops : Array Oper} {o : Oper} {ao bo : AOper} (htr : trO P N ops o = some bo) (hlike : Like ao bo) {s s' : St} (hl : Live N s) (h : DStep P ao s s') : Live N s' := by
  obtain ⟨B, β, a, w, hr⟩ := hl
  have h1 := op_sound (Q := fun _ _ _ => False) htr hlike hr h.vc (next := fun a' w' => ∃ β', Rel N B β' s' a' w') (fun s₂ β' a' w' e k1 _ => ⟨β', e ▸ k1⟩)
  split at h1
  · obtain ⟨a', w', β', k⟩ := wp_exists h1 (fun _ _ _ h => h)
    exact ⟨B, β', a', w', k⟩
  · obtain ⟨β', k⟩ := h1
    exact ⟨B, β', _, _, k⟩

/-! ### two that change places -/

theorem DAct.agree {act : AAct} {s s' : St} (he : Agree act.slots s.env s'.env) (hh : s'.heap = s.heap) {v : AV} {H : Heap} (h : DAct P act s v H) : DAct P act s' v H := by
  cases act with
  | p op => exact ⟨by rw [← POp.run_agree (op := op) he]; exact h.1, by rw [hh]; exact h.2⟩
  | m op => show op.run s'.env s'.heap = _; rw [hh, ← MOp.run_agree (op := op) he]; exact h
  | call f args =>
    obtain ⟨g, cap, h1, h2⟩ := h
    exact ⟨g, cap, by rw [← AX.ev_agree he.left]; exact h1, by rw [hh, ← evL_agree he.right]; exact h2⟩
  | pcall f args =>
    obtain ⟨g, cap, h1, h2, h3⟩ := h
    exact ⟨g, cap, by rw [← AX.ev_agree he.left]; exact h1, by rw [← evL_agree he.right]; exact h2, by rw [hh]; exact h3⟩
  | qcall f args =>
    obtain ⟨g, cap, h1, h2, h3⟩ := h
    exact ⟨g, cap, by rw [← AX.ev_agree he.left]; exact h1, by rw [hh, ← evL_agree he.right]; exact h2, by rw [hh]; exact h3⟩
  | never => exact h

/-- One of the first kind does not look at memory. -/
theorem DAct.anywhere {act : AAct} (hc : act.cls = .p) {s s' : St} (he : Agree act.slots s.env s'.env) {v : AV} {H : Heap} (h : DAct P act s v H) : H = s.heap ∧ DAct P act s' v s'.heap := by
  cases act with
  | p op => exact ⟨h.2, by rw [← POp.run_agree (op := op) he]; exact h.1, rfl⟩
  | m op =>
    cases op
    case ext x =>
      simp only [AAct.cls] at hc
      split at hc
      · rename_i hx
        have h1 : x.run s.env s.heap = some (v, H) := h
        have h2 := XOp.calm_run (H₂ := s'.heap) hx h1
        refine ⟨h2.1, ?_⟩
        have h3 : x.run s.env s'.heap = x.run s'.env s'.heap := XOp.run_agree' fun y hy => AX.ev_agree fun t ht => he t (hy t ht)
        show x.run s'.env s'.heap = some (v, s'.heap)
        rw [← h3]; exact h2.2
      · split at hc <;> cases hc
    all_goals simp [AAct.cls] at hc
  | call f args => simp [AAct.cls] at hc
  | qcall f args => simp [AAct.cls] at hc
  | pcall f args =>
    obtain ⟨g, cap, h1, h2, h3⟩ := h
    exact ⟨h3, g, cap, by rw [← AX.ev_agree he.left]; exact h1, by rw [← evL_agree he.right]; exact h2, rfl⟩
  | never => exact h.elim

/-- One that only reads leaves memory as it is. -/
theorem DAct.still {act : AAct} (hc : act.cls = .q) {s : St} {v : AV} {H : Heap} (h : DAct P act s v H) : H = s.heap := by
  cases act with
  | m op =>
    cases op
    case ext x =>
      simp only [AAct.cls] at hc
      split at hc
      · cases hc
      · split at hc
        · rename_i hx; exact XOp.still_run hx h
        · cases hc
    all_goals simp [AAct.cls] at hc
  | p op => simp [AAct.cls] at hc
  | call f args => simp [AAct.cls] at hc
  | pcall f args => simp [AAct.cls] at hc
  | qcall f args => obtain ⟨g, cap, h1, h2, h3⟩ := h; exact h3
  | never => exact h.elim

theorem DAct.reads {act : AAct} (hc : act.cls = .r) {s : St} {v : AV} {H : Heap} (h : DAct P act s v H) : H = s.heap := by
  cases act with
  | m op =>
    cases op
    case ext x => (simp only [AAct.cls] at hc; split at hc <;> (try cases hc)); (split at hc <;> cases hc)
    all_goals simp [AAct.cls] at hc
    case load l x =>
      simp only [DAct, MOp.run, Option.map_eq_some_iff] at h
      obtain ⟨_, _, he⟩ := h
      cases he; rfl
    case b2s x =>
      simp only [DAct, MOp.run] at h
      split at h
      · rw [Option.map_eq_some_iff] at h
        obtain ⟨_, _, he⟩ := h
        cases he; rfl
      · cases h
  | p op => simp [AAct.cls] at hc
  | call f args => simp [AAct.cls] at hc
  | pcall f args => simp [AAct.cls] at hc
  | qcall f args => simp [AAct.cls] at hc
  | never => exact h.elim

/-- One that makes an object: the same object, wherever. -/
theorem DAct.makes {act : AAct} (hc : act.cls = .a) {s : St} {v : AV} {H : Heap} (h : DAct P act s v H) : ∃ ob, H = s.heap ++ [ob] := by
  cases act with
  | m op =>
    cases op
    case ext x => (simp only [AAct.cls] at hc; split at hc <;> (try cases hc)); (split at hc <;> cases hc)
    all_goals simp [AAct.cls] at hc
    all_goals simp only [DAct, MOp.run] at h
    case alloc zs => cases h; exact ⟨_, rfl⟩
    case box x => split at h <;> first | (cases h; exact ⟨_, rfl⟩) | cases h
    case buildSlice sz len zs ps => split at h <;> first | (cases h; exact ⟨_, rfl⟩) | cases h
    case mkSlice sz b zs x y =>
      split at h
      · split at h
        · cases h; exact ⟨_, rfl⟩
        · cases h
      · cases h
    case s2b x => split at h <;> first | (cases h; exact ⟨_, rfl⟩) | cases h
  | p op => simp [AAct.cls] at hc
  | call f args => simp [AAct.cls] at hc
  | pcall f args => simp [AAct.cls] at hc
  | qcall f args => simp [AAct.cls] at hc
  | never => exact h.elim

theorem readA_push {H : Heap} {ob : AObj} {l : Option Nat} {x : AV} (hb : Bnd H.length x) : readA (H ++ [ob]) l x = readA H l x := by
  unfold readA
  cases x with
  | ptr o off =>
    have : o < H.length := by cases hb with | ptr ho => exact ho
    simp only [List.getElem?_append_left this]
  | _ => rfl

theorem cellsA_push {H : Heap} {ob : AObj} {sz : Nat} {x : AV} (hb : Bnd H.length x) : cellsA (H ++ [ob]) sz x = cellsA H sz x := by
  unfold cellsA
  cases x with
  | sl s o off len cap =>
    have : o < H.length := by cases hb with | sl ho => exact ho
    simp only [List.getElem?_append_left this]
  | v x => cases x <;> first | rfl | (rename_i p n c; cases p <;> cases n <;> cases c <;> rfl)
  | _ => rfl

theorem DAct.reads_push {act : AAct} (hc : act.cls = .r) {s s' : St} (he : Agree act.slots s.env s'.env) {ob : AObj} (hh : s'.heap = s.heap ++ [ob]) (hb : ∀ t, t ∈ act.slots → Bnd s.heap.length (s.env t))
    (hp : ∀ x, (act = .m (.b2s x) ∨ ∃ l, act = .m (.load l x)) → ∀ y, x = .c y → Bnd s.heap.length y) (v : AV) :
    DAct P act s v s.heap ↔ DAct P act s' v s'.heap := by
  have bx : ∀ x : AX, (∀ y, x = .c y → Bnd s.heap.length y) → (∀ t, t ∈ x.slots → Bnd s.heap.length (s.env t)) → Bnd s.heap.length (x.ev s.env) := by
    intro x h1 h2
    cases x with
    | s t => exact h2 t (by simp [AX.slots])
    | c y => exact h1 y rfl
  cases act with
  | m op =>
    cases op
    case ext x => (simp only [AAct.cls] at hc; split at hc <;> (try cases hc)); (split at hc <;> cases hc)
    all_goals simp [AAct.cls] at hc
    case load l x =>
      have e1 : x.ev s'.env = x.ev s.env := (AX.ev_agree he).symm
      have e2 := bx x (hp x (.inr ⟨l, rfl⟩)) hb
      simp only [DAct, MOp.run, hh, e1, readA_push e2, Option.map_eq_some_iff, Prod.mk.injEq]
    case b2s x =>
      have e1 : x.ev s'.env = x.ev s.env := (AX.ev_agree he).symm
      have e2 := bx x (hp x (.inl rfl)) hb
      simp only [DAct, MOp.run, hh, e1, cellsA_push e2]
      cases cellsA s.heap 1 (x.ev s.env) with
      | none => simp
      | some q =>
        obtain ⟨m, cs⟩ := q
        simp only [Option.map_eq_some_iff, Prod.mk.injEq]
  | p op => simp [AAct.cls] at hc
  | call f args => simp [AAct.cls] at hc
  | pcall f args => simp [AAct.cls] at hc
  | qcall f args => simp [AAct.cls] at hc
  | never => simp [AAct.cls] at hc


theorem want_agree {o : AOper} {s s' : St} (h : Agree o.reads s.env s'.env) : (wantA o s → wantA o s') ∧ (waitA o s → waitA o s') := by
  obtain ⟨dst, act, guard, hint⟩ := o
  cases guard with
  | none => exact ⟨fun _ => trivial, fun h => h⟩
  | some p =>
    obtain ⟨g, b⟩ := p
    have hg : s.env g = s'.env g := h g (List.mem_append_right _ (by simp))
    simp only [wantA, waitA, hg]
    exact ⟨id, id⟩

theorem DEff.agree {o : AOper} {s s' : St} (he : Agree o.reads s.env s'.env) (hh : s'.heap = s.heap) {v : AV} {H : Heap} (h : DEff P o s v H) : DEff P o s' v H := by
  cases h with
  | run hg h => exact .run ((want_agree he).1 hg) (h.agree he.left hh)
  | skip hg => rw [← hh]; exact .skip ((want_agree he).2 hg)

theorem DEff.anywhere {o : AOper} (hc : o.act.cls = .p) {s s' : St} (he : Agree o.reads s.env s'.env) {v : AV} {H : Heap} (h : DEff P o s v H) : H = s.heap ∧ DEff P o s' v s'.heap := by
  cases h with
  | run hg h => exact ⟨(h.anywhere hc he.left).1, .run ((want_agree he).1 hg) (h.anywhere hc he.left).2⟩
  | skip hg => exact ⟨rfl, .skip ((want_agree he).2 hg)⟩

theorem DEff.reads {o : AOper} (hc : o.act.cls = .r) {s : St} {v : AV} {H : Heap} (h : DEff P o s v H) : H = s.heap := by
  cases h with
  | run hg h => exact h.reads hc
  | skip hg => rfl

theorem DEff.still {o : AOper} (hc : o.act.cls = .q) {s : St} {v : AV} {H : Heap} (h : DEff P o s v H) : H = s.heap := by
  cases h with
  | run hg h => exact h.still hc
  | skip hg => rfl

theorem DEff.makes {o : AOper} (hc : o.act.cls = .a) {s : St} {v : AV} {H : Heap} (h : DEff P o s v H) : H = s.heap ∨ ∃ ob, H = s.heap ++ [ob] := by
  cases h with
  | run hg h => exact .inr (h.makes hc)
  | skip hg => exact .inl rfl

/-- What is read is a variable, or a plain constant. -/
def AAct.tidy : AAct → Bool
  | .m (.load _ (.c (.v _))) | .m (.b2s (.c (.v _))) => true
  | .m (.load _ (.c _)) | .m (.b2s (.c _)) => false
  | _ => true

theorem DEff.reads_push {o : AOper} (hc : o.act.cls = .r) (ht : o.act.tidy = true) {s s' : St} (he : Agree o.reads s.env s'.env) {ob : AObj} (hh : s'.heap = s.heap ++ [ob]) (hl : Live N s) (v : AV) :
    DEff P o s v s.heap ↔ DEff P o s' v s'.heap := by
  have he' : Agree o.reads s'.env s.env := fun t ht => (he t ht).symm
  have key := fun v => DAct.reads_push (P := P) hc he.left hh (fun t _ => hl.env t) (fun x hx y hy => by
    subst hy
    rcases hx with h | ⟨l, h⟩ <;> rw [h] at ht <;> (cases y <;> first | exact .v _ | simp [AAct.tidy] at ht)) v
  constructor
  · intro h
    generalize hH : s.heap = H at h
    cases h with
    | run hg h => subst hH; exact .run ((want_agree he).1 hg) ((key v).1 h)
    | skip hg => exact .skip ((want_agree he).2 hg)
  · intro h
    generalize hH : s'.heap = H at h
    cases h with
    | run hg h => subst hH; exact .run ((want_agree he').1 hg) ((key v).2 h)
    | skip hg => exact .skip ((want_agree he').2 hg)

def apartA (x y : AOper) : Bool :=
  (match x.dst with
   | some d => !(y.reads.contains d) && y.dst != some d
   | none => true) &&
  (match y.dst with
   | some d => !(x.reads.contains d)
   | none => true)

theorem put_agree {s : St} {d : Option Nat} {v : AV} {H : Heap} {l : List Nat} (h : ∀ x, d = some x → x ∉ l) : Agree l (s.put d v H).env s.env := by
  intro t ht
  cases d with
  | none => rfl
  | some x =>
    have : t ≠ x := fun e => h x rfl (e ▸ ht)
    simp [St.put, upd, this]

theorem put_comm {s : St} {d e : Option Nat} {v u : AV} {H H' H'' : Heap} (h : ∀ x, d = some x → e ≠ some x) : ((s.put d v H).put e u H').env = ((s.put e u H'').put d v H').env := by
  cases d with
  | none => rfl
  | some x =>
    cases e with
    | none => rfl
    | some y =>
      have hne : x ≠ y := fun he => h x rfl (he ▸ rfl)
      funext t
      simp only [St.put, upd]
      by_cases h1 : t = x
      · subst h1; simp [hne]
      · simp [h1]

/-- Two operations that may change places. -/
theorem swap {x y : AOper} (hap : apartA x y = true) (hm : meet x.act.cls y.act.cls = true) (hx : x.act.tidy = true) (hy : y.act.tidy = true) {s s₁ s₂ : St} (hl : Live N s) (h1 : DStep P x s s₁) (h2 : DStep P y s₁ s₂) :
    ∃ s', DStep P y s s' ∧ DStep P x s' s₂ := by
  obtain ⟨vx, Hx, ex, rfl⟩ := h1
  obtain ⟨vy, Hy, ey, rfl⟩ := h2
  have a1 : ∀ d, x.dst = some d → d ∉ y.reads := by
    intro d hd; simp [apartA, hd] at hap; exact hap.1.1
  have a2 : ∀ d, x.dst = some d → y.dst ≠ some d := by
    intro d hd; simp [apartA, hd] at hap; exact hap.1.2
  have a3 : ∀ d, y.dst = some d → d ∉ x.reads := by
    intro d hd; simp [apartA, hd] at hap; exact hap.2
  have hey : Agree y.reads (s.put x.dst vx Hx).env s.env := put_agree a1
  have hex : ∀ v H, Agree x.reads s.env (s.put y.dst v H).env := fun v H t ht => (put_agree a3 t ht).symm
  have fin : ∀ (H' : Heap), DEff P y s vy H' → DEff P x (s.put y.dst vy H') vx Hy → ∃ s', DStep P y s s' ∧ DStep P x s' ((s.put x.dst vx Hx).put y.dst vy Hy) := by
    intro H' k1 k2
    refine ⟨s.put y.dst vy H', ⟨vy, H', k1, rfl⟩, vx, Hy, k2, ?_⟩
    have := put_comm (s := s) (d := x.dst) (e := y.dst) (v := vx) (u := vy) (H := Hx) (H' := Hy) (H'' := H') a2
    have e1 : (s.put x.dst vx Hx).put y.dst vy Hy = ⟨((s.put x.dst vx Hx).put y.dst vy Hy).env, Hy⟩ := rfl
    have e2 : (s.put y.dst vy H').put x.dst vx Hy = ⟨((s.put y.dst vy H').put x.dst vx Hy).env, Hy⟩ := rfl
    rw [e1, e2, this]
  -- y does not look at memory
  have case1 : y.act.cls = .p → ∃ s', DStep P y s s' ∧ DStep P x s' ((s.put x.dst vx Hx).put y.dst vy Hy) := by
    intro hc
    have k := ey.anywhere hc (s' := s) hey
    refine fin s.heap k.2 ?_
    have : Hy = Hx := k.1
    rw [this]
    exact ex.agree (hex _ _) rfl
  -- x does not
  have case2 : x.act.cls = .p → ∃ s', DStep P y s s' ∧ DStep P x s' ((s.put x.dst vx Hx).put y.dst vy Hy) := by
    intro hc
    have hHx : Hx = s.heap := (ex.anywhere hc (s' := s) (fun _ _ => rfl)).1
    subst hHx
    refine fin Hy (ey.agree hey rfl) ?_
    exact (ex.anywhere hc (s' := s.put y.dst vy Hy) (hex _ _)).2
  have cq : (x.act.cls = .q ∨ x.act.cls = .r) → (y.act.cls = .q ∨ y.act.cls = .r) → ∃ s', DStep P y s s' ∧ DStep P x s' ((s.put x.dst vx Hx).put y.dst vy Hy) := by
    intro hcx hcy
    have hHx : Hx = s.heap := hcx.elim ex.still ex.reads
    subst hHx
    have hHy : Hy = s.heap := hcy.elim ey.still ey.reads
    subst hHy
    exact fin s.heap (ey.agree hey rfl) (ex.agree (hex _ _) rfl)
  have cr : x.act.cls = .r → y.act.cls = .r → ∃ s', DStep P y s s' ∧ DStep P x s' ((s.put x.dst vx Hx).put y.dst vy Hy) := by
    intro hcx hcy
    have hHx := ex.reads hcx
    subst hHx
    have hHy : Hy = s.heap := ey.reads hcy
    subst hHy
    exact fin s.heap (ey.agree hey rfl) (ex.agree (hex _ _) rfl)
  have cra : x.act.cls = .r → y.act.cls = .a → ∃ s', DStep P y s s' ∧ DStep P x s' ((s.put x.dst vx Hx).put y.dst vy Hy) := by
    intro hcx hcy
    have hHx := ex.reads hcx
    subst hHx
    rcases ey.makes hcy with hHy | ⟨ob, hHy⟩
    · have hHy : Hy = s.heap := hHy
      subst hHy
      exact fin s.heap (ey.agree hey rfl) (ex.agree (hex _ _) rfl)
    · have hHy : Hy = s.heap ++ [ob] := hHy
      refine fin Hy (ey.agree hey rfl) ?_
      have k := (DEff.reads_push (P := P) hcx hx (s := s) (s' := s.put y.dst vy Hy) (hex _ _) hHy hl vx).1 ex
      exact k
  have car : x.act.cls = .a → y.act.cls = .r → ∃ s', DStep P y s s' ∧ DStep P x s' ((s.put x.dst vx Hx).put y.dst vy Hy) := by
    intro hcx hcy
    have hHy : Hy = Hx := ey.reads hcy
    subst hHy
    rcases ex.makes hcx with hHx | ⟨ob, hHx⟩
    · subst hHx
      exact fin s.heap (ey.agree hey rfl) (ex.agree (hex _ _) rfl)
    · have k : DEff P y s vy s.heap := (DEff.reads_push hcy hy (s := s) (s' := s.put x.dst vx Hy) (fun t ht => (hey t ht).symm) hHx hl vy).2 ey
      exact fin s.heap k (ex.agree (hex _ _) rfl)
  revert hm case1 case2 cq cr cra car
  cases x.act.cls <;> cases y.act.cls <;> simp [meet] <;> intros <;> assumption

end
end Go.Ab

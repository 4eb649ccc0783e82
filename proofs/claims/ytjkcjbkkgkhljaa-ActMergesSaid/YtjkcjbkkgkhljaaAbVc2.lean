/- A part of a law's proof: AbVc2. -/
import Derived.Scope
import Derived.Test.YtjkcjbkkgkhljaaAbVc
set_option linter.constructorNameAsVariable false
/-
  A region whose operations come in whatever order: the text's order is enough, where those that may change places do not meet.
-/
namespace Go.Ab
open Go Go.RowKit
set_option linter.unusedVariables false
set_option linter.unusedSimpArgs false
def AX.slots : AX -> List Nat
  | .s t => [t]
  | .c _ => []
def slotsO (x : Option AX) : List Nat := match x with | some x => x.slots | none => []
def slotsL (xs : List AX) : List Nat := xs.flatMap AX.slots
def slotsP (xs : List (Nat × Nat × AX)) : List Nat := xs.flatMap fun p => p.2.2.slots
def POp.slots : POp -> List Nat
  | .mov x | .eqn _ _ x | .un _ x | .cint _ x | .cstr x | .fieldAddr _ _ x | .field _ _ x | .extract x _ | .mkIfc _ x | .nilCheck x | .len _ x => x.slots
  | .pick c a b => c.slots ++ (a.slots ++ b.slots)
  | .build _ ps => slotsP ps
  | .bin _ x y | .eqa _ _ _ x y | .idxArr _ _ x y | .idxStr x y | .adrSl _ x y | .adrArr _ _ x y => x.slots ++ y.slots
  | .slStr x a b => x.slots ++ (slotsO a ++ slotsO b)
  | .slSl _ x a b c => x.slots ++ (slotsO a ++ (slotsO b ++ slotsO c))
  | .mkFn _ xs => slotsL xs
  | .lenC _ => []
  | .mm _ x xs => x.slots ++ slotsL xs
def YOp.slots : YOp -> List Nat
  | .mk => []
  | .look _ _ _ _ m k | .del _ _ m k => m.slots ++ k.slots
  | .upd _ _ m k v => m.slots ++ (k.slots ++ v.slots)
  | .len m => m.slots
theorem YOp.run_agree' {op : YOp} {e e' : Nat -> AV} {H : Heap} (hx : ∀ x : AX, (∀ t, t ∈ x.slots -> t ∈ op.slots) -> x.ev e = x.ev e') : op.run e H = op.run e' H := by
  cases op with
  | mk => rfl
  | look _ _ _ _ m k | del _ _ m k => simp only [YOp.run]; rw [hx m fun t h => List.mem_append_left _ h, hx k fun t h => List.mem_append_right _ h]
  | upd _ _ m k v => simp only [YOp.run]; rw [hx m fun t h => List.mem_append_left _ h, hx k fun t h => List.mem_append_right _ (List.mem_append_left _ h), hx v fun t h => List.mem_append_right _ (List.mem_append_right _ h)]
  | len m => simp only [YOp.run]; rw [hx m fun t h => h]
def XOp.slots : XOp -> List Nat
  | .map y => y.slots
  | .ident x | .capK x | .clear _ _ x | .retype _ _ x | .sdata x => x.slots
  | .allocT _ _ => []
  | .ovl x y | .eqp _ x y | .appendT _ x y | .ustr _ x y => x.slots ++ y.slots
theorem XOp.run_agree' {op : XOp} {e e' : Nat -> AV} {H : Heap} (hx : ∀ x : AX, (∀ t, t ∈ x.slots -> t ∈ op.slots) -> x.ev e = x.ev e') : op.run e H = op.run e' H := by
  cases op with
  | map y => exact YOp.run_agree' hx
  | ident x | capK x | clear _ _ x | retype _ _ x | sdata x => simp only [XOp.run]; rw [hx x fun t h => h]
  | allocT e zs => rfl
  | ovl x y | eqp _ x y | appendT _ x y | ustr _ x y => simp only [XOp.run]; rw [hx x fun t h => List.mem_append_left _ h, hx y fun t h => List.mem_append_right _ h]
def MOp.slots : MOp -> List Nat
  | .ext x => x.slots
  | .load _ x | .box x | .b2s x | .s2b x => x.slots
  | .alloc _ => []
  | .buildSlice _ _ _ ps => slotsP ps
  | .mkSlice _ _ _ x y | .store _ x y | .append _ _ x y | .appendStr x y | .appendZ _ _ _ x y | .copy _ x y | .copyStr x y => x.slots ++ y.slots
def AAct.slots : AAct -> List Nat
  | .p op => op.slots
  | .m op => op.slots
  | .call f xs | .pcall f xs | .qcall f xs => f.slots ++ slotsL xs
  | .never => []
def AOper.reads (o : AOper) : List Nat := o.act.slots ++ (match o.guard with | some (g, _) => [g] | none => [])
def Agree (l : List Nat) (e e' : Env) : Prop := ∀ t, t ∈ l -> e t = e' t
theorem Agree.left {l m : List Nat} {e e' : Env} (h : Agree (l ++ m) e e') : Agree l e e' := fun t ht => h t (List.mem_append_left _ ht)
theorem Agree.right {l m : List Nat} {e e' : Env} (h : Agree (l ++ m) e e') : Agree m e e' := fun t ht => h t (List.mem_append_right _ ht)
theorem AX.ev_agree {x : AX} {e e' : Env} (h : Agree x.slots e e') : x.ev e = x.ev e' := by
  cases x with
  | s t => exact h t (by simp [AX.slots])
  | c x => rfl
theorem evO_agree {x : Option AX} {e e' : Env} (h : Agree (slotsO x) e e') : x.map (·.ev e) = x.map (·.ev e') := by
  cases x with
  | none => rfl
  | some x => simp only [Option.map_some]; rw [AX.ev_agree h]
theorem evL_agree : ∀ {xs : List AX} {e e' : Env}, Agree (slotsL xs) e e' -> xs.map (·.ev e) = xs.map (·.ev e') := by
  intro xs e e' h
  refine List.map_congr_left fun x hx => AX.ev_agree fun t ht => h t ?_
  exact List.mem_flatMap.2 ⟨x, hx, ht⟩
theorem evP_agree {xs : List (Nat × Nat × AX)} {e e' : Env} (h : Agree (slotsP xs) e e') : xs.map (fun (o, s, x) => (o, s, x.ev e)) = xs.map (fun (o, s, x) => (o, s, x.ev e')) := by
  refine List.map_congr_left fun x hx => ?_
  obtain ⟨o, s, x⟩ := x
  simp only
  rw [AX.ev_agree (x := x) fun t ht => h t (List.mem_flatMap.2 ⟨_, hx, ht⟩)]
theorem POp.run_agree {op : POp} {e e' : Env} (h : Agree op.slots e e') : op.run e = op.run e' := by
  cases op <;> simp only [POp.slots] at h <;> simp only [POp.run] <;> first
    | rw [AX.ev_agree h]
    | rw [AX.ev_agree h.left, AX.ev_agree h.right]
    | rw [AX.ev_agree h.left, AX.ev_agree h.right.left, AX.ev_agree h.right.right]
    | rw [evP_agree h]
    | rw [evL_agree h]
    | rw [AX.ev_agree h.left, evL_agree h.right]
    | rw [AX.ev_agree h.left, evO_agree h.right.left, evO_agree h.right.right]
    | rw [AX.ev_agree h.left, evO_agree h.right.left, evO_agree h.right.right.left, evO_agree h.right.right.right]
    | rfl
theorem MOp.run_agree {op : MOp} {e e' : Env} {H : Heap} (h : Agree op.slots e e') : op.run e H = op.run e' H := by
  cases op <;> simp only [MOp.slots] at h <;> simp only [MOp.run] <;> first
    | exact XOp.run_agree' fun x hx => AX.ev_agree fun t ht => h t (hx t ht)
    | rw [AX.ev_agree h]
    | rw [AX.ev_agree h.left, AX.ev_agree h.right]
    | rw [evP_agree h]
    | rfl
inductive Cls where
  | p | r | a | w | q | s
  deriving DecidableEq
def XOp.calm : XOp -> Bool
  | .ident _ | .capK _ | .eqp .. | .sdata _ => true
  | _ => false
theorem XOp.calm_run {op : XOp} (hc : op.calm = true) {e : Nat -> AV} {H H' H₂ : Heap} {v : AV} (h : op.run e H = some (v, H')) : H' = H ∧ op.run e H₂ = some (v, H₂) := by
  cases op with
  | ident x => simp only [XOp.run] at h ⊢; cases h; exact ⟨rfl, rfl⟩
  | capK x => simp only [XOp.run] at h ⊢; split at h <;> first | (rename_i hx; cases h; simp [hx]) | cases h
  | eqp n x y =>
    simp only [XOp.run] at h ⊢
    split at h
    · split at h
      · rename_i h1 h2 h3
        cases h
        simp [h1, h2, h3]
      · cases h
    · cases h
  | sdata x =>
    simp only [XOp.run] at h ⊢
    split at h
    · rename_i hx; cases h; simp [hx]
    · rename_i hx
      split at h
      · cases h
      · rename_i h0; cases h; simp [hx, h0]
    · cases h
  | _ => simp [XOp.calm] at hc
def XOp.still : XOp -> Bool
  | .map (.look ..) | .map (.len _) | .ovl .. => true
  | _ => false
theorem XOp.still_run {op : XOp} (hc : op.still = true) {e : Nat -> AV} {H H' : Heap} {v : AV} (h : op.run e H = some (v, H')) : H' = H := by
  cases op with
  | map y =>
    cases y with
    | look ks agg ok z m k =>
      simp only [XOp.run, YOp.run] at h
      split at h
      · split at h <;> first | (cases h; rfl) | cases h
      · cases h
    | len m =>
      simp only [XOp.run, YOp.run] at h
      split at h <;> first | (cases h; rfl) | cases h
    | _ => simp [XOp.still] at hc
  | ovl x y =>
    simp only [XOp.run] at h
    split at h
    · split at h
      · split at h
        · cases h; rfl
        · cases h
      · cases h
    · cases h
  | _ => simp [XOp.still] at hc
def XOp.lk : XOp -> Bool
  | .map (.look _ _ _ _ (.s _) _) | .map (.len (.s _)) => true
  | _ => false
theorem XOp.lk_still {op : XOp} (h : op.lk = true) : op.still = true := by
  cases op with
  | map y => cases y <;> first | rfl | simp [XOp.lk] at h
  | _ => simp [XOp.lk] at h
def AAct.cls : AAct -> Cls
  | .qcall _ _ => .q
  | .p _ | .pcall _ _ => .p
  | .m (.ext x) => if x.calm then .p else if x.lk then .r else if x.still then .s else .w
  | .m (.load _ _) | .m (.b2s _) => .r
  | .m (.alloc _) | .m (.box _) | .m (.buildSlice ..) | .m (.mkSlice ..) | .m (.s2b _) => .a
  | _ => .w
def meet (x y : Cls) : Bool :=
  match x, y with
  | .p, _ | _, .p | .r, .r | .r, .a | .a, .r | .q, .r | .r, .q | .q, .q | .q, .a | .s, .r | .r, .s | .s, .s | .s, .q | .q, .s => true
  | _, _ => false
def DAct (P : Program) (act : AAct) (s : St) (v : AV) (H : Heap) : Prop :=
  match act with
  | .p op => op.run s.env = some v ∧ H = s.heap
  | .m op => op.run s.env s.heap = some (v, H)
  | .call f args => ∃ g cap, f.ev s.env = .fn g cap ∧ ACalls P g (args.map (·.ev s.env) ++ cap) s.heap fun r H' => r = v ∧ H' = H
  | .pcall f args => ∃ g cap, f.ev s.env = .fn g cap ∧ PureCall P g (args.map (·.ev s.env) ++ cap) v ∧ H = s.heap
  | .qcall f args => ∃ g cap, f.ev s.env = .fn g cap ∧ (ACalls P g (args.map (·.ev s.env) ++ cap) s.heap fun r H' => r = v ∧ H' = s.heap) ∧ H = s.heap
  | .never => False
def wantA (o : AOper) (s : St) : Prop := match o.guard with
  | none => True
  | some (g, b) => s.env g = .v (.bool b)
def waitA (o : AOper) (s : St) : Prop := match o.guard with
  | none => False
  | some (g, b) => (∃ b', s.env g = .v (.bool b') ∧ b' ≠ b) ∨ ∃ vs, s.env g = .v (.tuple vs)
inductive DEff (P : Program) (o : AOper) (s : St) : AV -> Heap -> Prop
  | run {v : AV} {H : Heap} (hg : wantA o s) (h : DAct P o.act s v H) : DEff P o s v H
  | skip (hg : waitA o s) : DEff P o s unit s.heap
def DStep (P : Program) (o : AOper) (s s' : St) : Prop := ∃ v H, DEff P o s v H ∧ s' = s.put o.dst v H
inductive Runs (P : Program) : List AOper -> St -> St -> Prop
  | nil (s : St) : Runs P [] s s
  | cons {o : AOper} {os : List AOper} {s s₁ s₂ : St} (h : DStep P o s s₁) (t : Runs P os s₁ s₂) : Runs P (o :: os) s s₂
section
variable {P : Program} {N : Nat}
theorem DAct.vc {act : AAct} {s : St} {v : AV} {H : Heap} (h : DAct P act s v H) : vcAct P act (fun v' H' => v' = v ∧ H' = H) s := by
  cases act with
  | p op => exact ⟨v, h.1, rfl, h.2.symm⟩
  | m op => exact ⟨(v, H), h, rfl, rfl⟩
  | call f args => obtain ⟨g, cap, h1, h2⟩ := h; simp only [vcAct, h1]; exact h2
  | pcall f args => obtain ⟨g, cap, h1, h2, h3⟩ := h; simp only [vcAct, h1]; exact ⟨v, h2, rfl, h3.symm⟩
  | qcall f args => obtain ⟨g, cap, h1, h2, h3⟩ := h; simp only [vcAct, h1]; exact ⟨v, h2, rfl, h3.symm⟩
  | never => exact h
theorem DStep.vc {o : AOper} {s s' : St} (h : DStep P o s s') : vcOp P o (fun t => t = s') s := by
  obtain ⟨v, H, h, rfl⟩ := h
  obtain ⟨dst, act, guard, hint⟩ := o
  cases h with
  | run hg h =>
    cases guard with
    | none => simp only [vcOp]; exact vcAct_mono (fun v H ⟨h1, h2⟩ => by rw [h1, h2]) h.vc
    | some p =>
      obtain ⟨g, b⟩ := p
      simp only [wantA] at hg
      simp only [vcOp, hg, vcGuard, if_true]; exact vcAct_mono (fun v H ⟨h1, h2⟩ => by rw [h1, h2]) h.vc
  | skip hg =>
    cases guard with
    | none => exact hg.elim
    | some p =>
      obtain ⟨g, b⟩ := p
      simp only [waitA] at hg
      rcases hg with ⟨b', he, hne⟩ | ⟨vs, he⟩
      · simp only [vcOp, he, vcGuard, if_neg hne]
      · simp only [vcOp, he, vcGuard]
def Live (N : Nat) (s : St) : Prop := ∃ B β a w, Rel N B β s a w
theorem Live.env {s : St} (h : Live N s) (t : Nat) : Bnd s.heap.length (s.env t) := by
  obtain ⟨B, β, a, w, hr⟩ := h
  exact (hr.rep t).bnd
theorem Live.ev {s : St} (h : Live N s) (x : AX) (hx : ∀ y, x = .c y -> Bnd s.heap.length y) : Bnd s.heap.length (x.ev s.env) := by
  cases x with
  | s t => exact h.env t
  | c y => exact hx y rfl
theorem wp_exists {o : Oper} {a : Act} {w : World} {next : Act -> World -> Prop} {Q : Exit -> Act -> World -> Prop} (h : o.wp P a w next Q) (hQ : ∀ e a w, ¬ Q e a w) : ∃ a' w', next a' w' := by
  unfold Oper.wp at h
  generalize (execOp a.eval o).run P w = r at h
  cases r with
  | ok n w' =>
    cases n <;> simp only [Oper.upon] at h
    case value v => exact ⟨_, _, h⟩
    case skip => exact ⟨_, _, h⟩
    case defer d => exact ⟨_, _, h⟩
    case enter f args =>
      obtain ⟨e, w'', fr, hR, _⟩ := h []
      cases e with
      | returned v => exact ⟨_, _, hR⟩
      | panicked c => exact (hQ _ _ _ hR).elim
      | outgrown => obtain ⟨a0, w0, hq⟩ := hR; exact (hQ _ _ _ hq).elim
    case row row args =>
      obtain ⟨v, w'', hR, _⟩ := h default []
      exact ⟨_, _, hR⟩
  | halt x w' =>
    cases x <;> simp only [Oper.upon] at h
    case panic v => exact (hQ _ _ _ h).elim
theorem DStep.live {ops : Array Oper} {o : Oper} {ao bo : AOper} (htr : trO P N ops o = some bo) (hlike : Like ao bo) {s s' : St} (hl : Live N s) (h : DStep P ao s s') : Live N s' := by
  obtain ⟨B, β, a, w, hr⟩ := hl
  have h1 := op_sound (Q := fun _ _ _ => False) htr hlike hr h.vc (next := fun a' w' => ∃ β', Rel N B β' s' a' w') (fun s₂ β' a' w' e k1 _ => ⟨β', e ▸ k1⟩)
  split at h1
  · obtain ⟨a', w', β', k⟩ := wp_exists h1 (fun _ _ _ h => h)
    exact ⟨B, β', a', w', k⟩
  · obtain ⟨β', k⟩ := h1
    exact ⟨B, β', _, _, k⟩
theorem DAct.agree {act : AAct} {s s' : St} (he : Agree act.slots s.env s'.env) (hh : s'.heap = s.heap) {v : AV} {H : Heap} (h : DAct P act s v H) : DAct P act s' v H := by
  cases act with
  | p op => exact ⟨by rw [<- POp.run_agree (op := op) he]; exact h.1, by rw [hh]; exact h.2⟩
  | m op => show op.run s'.env s'.heap = _; rw [hh, <- MOp.run_agree (op := op) he]; exact h
  | call f args =>
    obtain ⟨g, cap, h1, h2⟩ := h
    exact ⟨g, cap, by rw [<- AX.ev_agree he.left]; exact h1, by rw [hh, <- evL_agree he.right]; exact h2⟩
  | pcall f args =>
    obtain ⟨g, cap, h1, h2, h3⟩ := h
    exact ⟨g, cap, by rw [<- AX.ev_agree he.left]; exact h1, by rw [<- evL_agree he.right]; exact h2, by rw [hh]; exact h3⟩
  | qcall f args =>
    obtain ⟨g, cap, h1, h2, h3⟩ := h
    exact ⟨g, cap, by rw [<- AX.ev_agree he.left]; exact h1, by rw [hh, <- evL_agree he.right]; exact h2, by rw [hh]; exact h3⟩
  | never => exact h
theorem DAct.anywhere {act : AAct} (hc : act.cls = .p) {s s' : St} (he : Agree act.slots s.env s'.env) {v : AV} {H : Heap} (h : DAct P act s v H) : H = s.heap ∧ DAct P act s' v s'.heap := by
  cases act with
  | p op => exact ⟨h.2, by rw [<- POp.run_agree (op := op) he]; exact h.1, rfl⟩
  | m op =>
    cases op
    case ext x =>
      simp only [AAct.cls] at hc
      split at hc
      · rename_i hx
        have h1 : x.run s.env s.heap = some (v, H) := h
        have h2 := XOp.calm_run (H₂ := s'.heap) hx h1
        refine ⟨h2.1, ?_⟩
        have h3 : x.run s.env s'.heap = x.run s'.env s'.heap := XOp.run_agree' fun y hy => AX.ev_agree fun t ht => he t (hy t ht)
        show x.run s'.env s'.heap = some (v, s'.heap)
        rw [<- h3]; exact h2.2
      · split at hc
        · cases hc
        · split at hc <;> cases hc
    all_goals simp [AAct.cls] at hc
  | call f args => simp [AAct.cls] at hc
  | qcall f args => simp [AAct.cls] at hc
  | pcall f args =>
    obtain ⟨g, cap, h1, h2, h3⟩ := h
    exact ⟨h3, g, cap, by rw [<- AX.ev_agree he.left]; exact h1, by rw [<- evL_agree he.right]; exact h2, rfl⟩
  | never => exact h.elim
theorem DAct.still {act : AAct} (hc : act.cls = .q) {s : St} {v : AV} {H : Heap} (h : DAct P act s v H) : H = s.heap := by
  cases act with
  | m op =>
    cases op
    case ext x =>
      simp only [AAct.cls] at hc
      split at hc
      · cases hc
      · split at hc
        · cases hc
        · split at hc
          · cases hc
          · cases hc
    all_goals simp [AAct.cls] at hc
  | p op => simp [AAct.cls] at hc
  | call f args => simp [AAct.cls] at hc
  | pcall f args => simp [AAct.cls] at hc
  | qcall f args => obtain ⟨g, cap, h1, h2, h3⟩ := h; exact h3
  | never => exact h.elim
theorem DAct.stays {act : AAct} (hc : act.cls = .s) {s : St} {v : AV} {H : Heap} (h : DAct P act s v H) : H = s.heap := by
  cases act with
  | m op =>
    cases op
    case ext x =>
      simp only [AAct.cls] at hc
      split at hc
      · cases hc
      · split at hc
        · cases hc
        · split at hc
          · rename_i hx; exact XOp.still_run hx h
          · cases hc
    all_goals simp [AAct.cls] at hc
  | p op => simp [AAct.cls] at hc
  | call f args => simp [AAct.cls] at hc
  | pcall f args => simp [AAct.cls] at hc
  | qcall f args => simp [AAct.cls] at hc
  | never => exact h.elim
theorem DAct.reads {act : AAct} (hc : act.cls = .r) {s : St} {v : AV} {H : Heap} (h : DAct P act s v H) : H = s.heap := by
  cases act with
  | m op =>
    cases op
    case ext x =>
      simp only [AAct.cls] at hc
      split at hc
      · cases hc
      · split at hc
        · rename_i hx; exact XOp.still_run (XOp.lk_still hx) h
        · split at hc <;> cases hc
    all_goals simp [AAct.cls] at hc
    case load l x =>
      simp only [DAct, MOp.run, Option.map_eq_some_iff] at h
      obtain ⟨_, _, he⟩ := h
      cases he; rfl
    case b2s x =>
      simp only [DAct, MOp.run] at h
      split at h
      · rw [Option.map_eq_some_iff] at h
        obtain ⟨_, _, he⟩ := h
        cases he; rfl
      · cases h
  | p op => simp [AAct.cls] at hc
  | call f args => simp [AAct.cls] at hc
  | pcall f args => simp [AAct.cls] at hc
  | qcall f args => simp [AAct.cls] at hc
  | never => exact h.elim
theorem DAct.makes {act : AAct} (hc : act.cls = .a) {s : St} {v : AV} {H : Heap} (h : DAct P act s v H) : ∃ ob, H = s.heap ++ [ob] := by
  cases act with
  | m op =>
    cases op
    case ext x =>
      simp only [AAct.cls] at hc
      split at hc
      · cases hc
      · split at hc
        · cases hc
        · split at hc <;> cases hc
    all_goals simp [AAct.cls] at hc
    all_goals simp only [DAct, MOp.run] at h
    case alloc zs => cases h; exact ⟨_, rfl⟩
    case box x => split at h <;> first | (cases h; exact ⟨_, rfl⟩) | cases h
    case buildSlice sz len zs ps => split at h <;> first | (cases h; exact ⟨_, rfl⟩) | cases h
    case mkSlice sz b zs x y =>
      split at h
      · split at h
        · cases h; exact ⟨_, rfl⟩
        · cases h
      · cases h
    case s2b x => split at h <;> first | (cases h; exact ⟨_, rfl⟩) | cases h
  | p op => simp [AAct.cls] at hc
  | call f args => simp [AAct.cls] at hc
  | pcall f args => simp [AAct.cls] at hc
  | qcall f args => simp [AAct.cls] at hc
  | never => exact h.elim
theorem readA_push {H : Heap} {ob : AObj} {l : Option Nat} {x : AV} (hb : Bnd H.length x) : readA (H ++ [ob]) l x = readA H l x := by
  unfold readA
  cases x with
  | ptr o off =>
    have : o < H.length := by cases hb with | ptr ho => exact ho
    simp only [List.getElem?_append_left this]
  | _ => rfl
theorem cellsA_push {H : Heap} {ob : AObj} {sz : Nat} {x : AV} (hb : Bnd H.length x) : cellsA (H ++ [ob]) sz x = cellsA H sz x := by
  unfold cellsA
  cases x with
  | sl s o off len cap =>
    have : o < H.length := by cases hb with | sl ho => exact ho
    simp only [List.getElem?_append_left this]
  | v x => cases x <;> first | rfl | (rename_i p n c; cases p <;> cases n <;> cases c <;> rfl)
  | _ => rfl
theorem get_push_last {H : Heap} {x : AObj} : (H ++ [x])[H.length]? = some x := by simp
theorem ACalls.push {f : FuncId} {args : List AV} {H : Heap} {v : AV} (h : ACalls P f args H fun r H' => r = v ∧ H' = H) (hb : BndHeap H.length H) (ha : ∀ (i : Nat) (a : AV), args[i]? = some a -> Bnd H.length a) (zs : List AV) :
    ACalls P f args (H ++ [.cells zs]) fun r H' => r = v ∧ H' = H ++ [.cells zs] := by
  refine ⟨h.ok, fun B β w cs s hl hargs => ?_⟩
  have hn : H.length <= (H ++ [AObj.cells zs]).length := by simp
  have htk : (H ++ [AObj.cells zs]).take H.length = H := by simp
  have s0 := s.take H.length hn (by rw [htk]; exact hb)
  rw [htk] at s0
  have hob : (H ++ [AObj.cells zs])[H.length]? = some (.cells zs) := get_push_last
  have lift : ∀ {o : Nat} {x : AObj}, H[o]? = some x -> (H ++ [AObj.cells zs])[o]? = some x := fun h => by rw [List.getElem?_append_left (getElem?_lt h)]; exact h
  -- the cells of the one object more are others' now
  have s1 : Sim B (⟨β.em, fun b i => β.D b i ∨ (b = (β H.length).blk ∧ (β H.length).off <= i ∧ i < (β H.length).off + (β H.length).tot)⟩ : Lies) H w := by
    have ro : ∀ b i c, RO β (H ++ [AObj.cells zs]) w b i c -> RO (⟨β.em, fun b i => β.D b i ∨ (b = (β H.length).blk ∧ (β H.length).off <= i ∧ i < (β H.length).off + (β H.length).tot)⟩ : Lies) H w b i c := by
      intro b i c hc
      refine ⟨⟨hc.1.1, fun hd => ?_⟩, fun ho => hc.2 ?_⟩
      · rcases hd with hd | ⟨rfl, h1, h2⟩
        · exact hc.1.2 hd
        · exact hc.2 ⟨H.length, zs, hob, rfl, h1, h2⟩
      · obtain ⟨o, ds, k, r⟩ := ho
        exact ⟨o, ds, lift k, r⟩
    have rep : ∀ {a : AV} {c : Value}, RepH β (H ++ [AObj.cells zs]) w a c -> Bnd H.length a -> RepH (⟨β.em, fun b i => β.D b i ∨ (b = (β H.length).blk ∧ (β H.length).off <= i ∧ i < (β H.length).off + (β H.length).tot)⟩ : Lies) H w a c := fun hr hbd =>
      (hr.shrink hbd).mono (fun _ _ => rfl) (Nat.le_refl _) ro
    refine ⟨⟨s.size.le, s.size.inv, fun b i hd => ?_⟩, fun o ds ho i hd => ?_, s0.base, fun o ds j a ho hj => ?_, s0.room, fun o es ho => ?_, s0.disj, s0.mdisj, s0.tag, s0.clean⟩
    · rcases hd with hd | ⟨rfl, _⟩
      · exact s.size.dlt b i hd
      · exact s.blk_lt hob
    · rcases hd with hd | ⟨e, _⟩
      · exact s0.nodd o ds ho i hd
      · exact s.disj o H.length ds zs (Nat.ne_of_lt (getElem?_lt ho)) (lift ho) hob e
    · obtain ⟨c, h1, h2⟩ := s.cell o ds j a (lift ho) hj
      exact ⟨c, h1, rep h2 (hb o _ ho j a hj)⟩
    · obtain ⟨k0, ents, clock, k1, k2, k3⟩ := s.map o es (lift ho)
      exact ⟨k0, ents, clock, k1, k2, fun i x y u hi hj => ⟨rep (k3 i x y u hi hj).1 (hb o _ ho i x y hi).1, rep (k3 i x y u hi hj).2 (hb o _ ho i x y hi).2⟩⟩
  refine Calls.mono (h.go B _ w cs s1 hl fun i a c h1 h2 => ?_) ?_
  · refine ((hargs i a c h1 h2).shrink (ha i a h1)).mono (fun _ _ => rfl) (Nat.le_refl _) fun b i c hc => ?_
    refine ⟨⟨hc.1.1, fun hd => ?_⟩, fun ho => hc.2 ?_⟩
    · rcases hd with hd | ⟨rfl, h1, h2⟩
      · exact hc.1.2 hd
      · exact hc.2 ⟨H.length, zs, hob, rfl, h1, h2⟩
    · obtain ⟨o, ds, k, r⟩ := ho
      exact ⟨o, ds, lift k, r⟩
  rintro e w' ⟨r, c, β', H', rfl, ⟨rfl, rfl⟩, hrep, s2, tr⟩
  -- where the objects lie behind the call
  let β2 : Lies := ⟨fun o => if o = H'.length then β H'.length else β' o, β.D⟩
  have hD : ∀ b i, β'.D b i ↔ (β.D b i ∨ (b = (β H'.length).blk ∧ (β H'.length).off <= i ∧ i < (β H'.length).off + (β H'.length).tot)) := fun b i => by rw [tr.dd]
  have e2 : β2 H'.length = β H'.length := by show (if _ then _ else _) = _; rw [if_pos rfl]
  have e1 : ∀ {o : Nat}, o < H'.length -> β2 o = β' o := fun ho => by show (if _ then _ else _) = _; rw [if_neg (by omega)]
  have eb : ∀ {o : Nat}, o < H'.length -> β' o = β o := fun {o} ho => tr.em o ho
  have cases' : ∀ {o : Nat} {x : AObj}, (H' ++ [AObj.cells zs])[o]? = some x -> (o < H'.length ∧ H'[o]? = some x) ∨ (o = H'.length ∧ AObj.cells zs = x) := get_push
  have ro2 : ∀ b i c, RO β' H' w' b i c -> RO β2 (H' ++ [AObj.cells zs]) w' b i c := by
    intro b i c hc
    refine ⟨⟨hc.1.1, fun hd => hc.1.2 ((hD b i).2 (.inl hd))⟩, ?_⟩
    rintro ⟨o, ds, ho, h1, h2, h3⟩
    rcases cases' ho with ⟨hlt, ho'⟩ | ⟨rfl, _⟩
    · rw [e1 hlt] at h1 h2 h3; exact hc.2 ⟨o, ds, ho', h1, h2, h3⟩
    · rw [e2] at h1 h2 h3; exact hc.1.2 ((hD b i).2 (.inr ⟨h1.symm, h2, h3⟩))
  have rep2 : ∀ {a : AV} {c : Value}, RepH β' H' w' a c -> RepH β2 (H' ++ [AObj.cells zs]) w' a c := fun hr => hr.mono (fun o ho => e1 ho) (by simp) ro2
  -- the block of the one object more is as it was
  have keep : ∀ {j : Nat}, (w.cell? ⟨(β H'.length).blk, j, none⟩).isSome = true -> w'.heap[(β H'.length).blk]? = w.heap[(β H'.length).blk]? := by
    intro j hj
    refine (tr.rest _ (s.blk_lt hob) ?_).1
    rintro ⟨o, x, ho, hx, hbk⟩
    cases x with
    | cells ds => exact s.disj o H'.length ds zs (Nat.ne_of_lt (getElem?_lt ho)) (lift ho) hob hbk
    | map es =>
      obtain ⟨_, ents, clock, k1, _⟩ := s.map o es (lift ho)
      have k1 : w.heap[(β o).blk]? = some (.map ents clock) := k1
      have hbk : (β o).blk = (β H'.length).blk := hbk
      rw [hbk] at k1
      simp [World.cell?, k1] at hj
    | dead => cases hx
    | tag p t => cases hx
  have hro : ∀ b i c, RO β (H' ++ [AObj.cells zs]) w b i c -> RO β2 (H' ++ [AObj.cells zs]) w' b i c := by
    intro b i c hc
    have h0 := tr.ro b i c ⟨⟨hc.1.1, fun hd => by
      rcases hd with hd | ⟨rfl, h1, h2⟩
      · exact hc.1.2 hd
      · exact hc.2 ⟨H'.length, zs, hob, rfl, h1, h2⟩⟩, fun ho => by
      obtain ⟨o, ds, k, r⟩ := ho
      exact hc.2 ⟨o, ds, lift k, r⟩⟩
    exact ro2 b i c h0
  have hsz := tr.below.size
  refine ⟨r, c, β2, H' ++ [.cells zs], rfl, ⟨rfl, rfl⟩, rep2 hrep, ⟨⟨Nat.le_trans s.size.le hsz, s2.size.inv, fun b i hd => Nat.lt_of_lt_of_le (s.size.dlt b i hd) hsz⟩, ?_, ?_, ?_, ?_, ?_, ?_, ?_, ?_, ?_⟩, ⟨tr.below, Nat.le_refl _, fun o ho => ?_, hro, rfl, fun b hb' hn => ?_⟩⟩
  · intro o ds ho i hd
    have hd : β.D _ i := hd
    rcases cases' ho with ⟨hlt, ho'⟩ | ⟨rfl, _⟩
    · rw [e1 hlt, eb hlt] at hd; exact s0.nodd o ds ho' i hd
    · rw [e2] at hd; exact s.nodd _ zs hob i hd
  · intro o ds ho
    rcases cases' ho with ⟨hlt, ho'⟩ | ⟨rfl, he⟩
    · rw [e1 hlt]; exact s2.base o ds ho'
    · cases he
      rw [e2]
      obtain ⟨k1, k2, k3⟩ := s.base _ zs hob
      exact ⟨k1, Nat.lt_of_lt_of_le k2 hsz, k3⟩
  · intro o ds j a ho hj
    rcases cases' ho with ⟨hlt, ho'⟩ | ⟨rfl, he⟩
    · rw [e1 hlt]
      obtain ⟨c, h1, h2⟩ := s2.cell o ds j a ho' hj
      exact ⟨c, h1, rep2 h2⟩
    · cases he
      rw [e2]
      obtain ⟨c, h1, h2⟩ := s.cell _ zs j a hob hj
      refine ⟨c, ?_, h2.mono (fun o ho => ?_) (Nat.le_refl _) hro⟩
      · have := keep (j := (β H'.length).off + j) (by rw [h1]; rfl)
        unfold World.cell? at h1 ⊢
        rw [this]; exact h1
      · have ho : o < H'.length + 1 := by simpa using ho
        rcases Nat.lt_or_ge o H'.length with h | h
        · rw [e1 h, eb h]
        · have : o = H'.length := by omega
          subst this; exact e2
  · intro o ds j ho hj
    rcases cases' ho with ⟨hlt, ho'⟩ | ⟨rfl, he⟩
    · rw [e1 hlt] at hj ⊢; exact s2.room o ds j ho' hj
    · cases he
      rw [e2] at hj ⊢
      have h0 := s.room _ zs j hob hj
      have := keep h0.1
      unfold World.cell? World.frozen? at h0 ⊢
      rw [this]; exact h0
  · intro o es ho
    rcases cases' ho with ⟨hlt, ho'⟩ | ⟨_, he⟩
    · rw [e1 hlt]
      obtain ⟨k0, ents, clock, k1, k2, k3⟩ := s2.map o es ho'
      exact ⟨k0, ents, clock, k1, k2, fun i x y u hi hj => ⟨rep2 (k3 i x y u hi hj).1, rep2 (k3 i x y u hi hj).2⟩⟩
    · cases he
  · intro o o' ds ds' hne ho ho' hbk
    rcases cases' ho with ⟨hlt, h1⟩ | ⟨rfl, he⟩ <;> rcases cases' ho' with ⟨hlt', h2⟩ | ⟨rfl, he'⟩
    · rw [e1 hlt, e1 hlt'] at hbk; exact s2.disj o o' ds ds' hne h1 h2 hbk
    · rw [e1 hlt, eb hlt, e2] at hbk; exact s.disj o _ ds zs hne (lift h1) hob hbk
    · rw [e1 hlt', eb hlt', e2] at hbk; exact s.disj _ o' zs ds' hne hob (lift h2) hbk
    · exact hne rfl
  · intro o o' es es' hne ho ho'
    rcases cases' ho with ⟨hlt, h1⟩ | ⟨_, he⟩
    · rcases cases' ho' with ⟨hlt', h2⟩ | ⟨_, he'⟩
      · rw [e1 hlt, e1 hlt']; exact s2.mdisj o o' es es' hne h1 h2
      · cases he'
    · cases he
  · intro p o t hp
    rcases cases' hp with ⟨hlt, h1⟩ | ⟨_, he⟩
    · obtain ⟨k1, k2, k3⟩ := s2.tag p o t h1
      rw [e1 k1]
      exact ⟨by simp; omega, k2, k3⟩
    · cases he
  · intro o ds t' n ho hsh
    rcases cases' ho with ⟨hlt, h1⟩ | ⟨rfl, he⟩
    · rw [e1 hlt] at hsh ⊢; exact s2.clean o ds t' n h1 hsh
    · cases he
      rw [e2] at hsh ⊢
      by_cases hlv : LiveB (⟨β.em, fun b i => β.D b i ∨ (b = (β H'.length).blk ∧ (β H'.length).off <= i ∧ i < (β H'.length).off + (β H'.length).tot)⟩ : Lies) H' (β H'.length).blk
      · exfalso
        obtain ⟨o, x, ho2, hx, hbk⟩ := hlv
        have hbk : (β o).blk = (β H'.length).blk := hbk
        have hlt := getElem?_lt ho2
        cases x with
        | cells ds => exact s.disj o H'.length ds zs (Nat.ne_of_lt hlt) (lift ho2) hob hbk
        | map es =>
          obtain ⟨_, ents, clock, k1, _⟩ := s2.map o es ho2
          rw [eb hlt, hbk] at k1
          simp [World.shape?, k1] at hsh
        | dead => cases hx
        | tag p t => cases hx
      · have := (tr.rest _ (s.blk_lt hob) hlv).1
        have hsh' : w.shape? (β H'.length).blk = some (t', n) := by
          unfold World.shape? at hsh ⊢
          rw [<- this]; exact hsh
        have k := s.clean _ zs t' n hob hsh'
        unfold World.frozen? at k ⊢
        rw [this]; exact k
  · rcases Nat.lt_or_ge o H'.length with h | h
    · rw [e1 h, eb h]
    · have ho : o < H'.length + 1 := by simpa using ho
      have : o = H'.length := by omega
      subst this; exact e2
  · have hn' : ¬ LiveB (⟨β.em, fun b i => β.D b i ∨ (b = (β H'.length).blk ∧ (β H'.length).off <= i ∧ i < (β H'.length).off + (β H'.length).tot)⟩ : Lies) H' b := by
      rintro ⟨o, x, ho, r⟩
      exact hn ⟨o, x, lift ho, r⟩
    obtain ⟨k1, k2⟩ := tr.rest b hb' hn'
    refine ⟨k1, ?_⟩
    rintro ⟨o, x, ho, hx, hbk⟩
    rcases cases' ho with ⟨hlt, h1⟩ | ⟨rfl, he⟩
    · rw [e1 hlt] at hbk; exact k2 ⟨o, x, h1, hx, hbk⟩
    · rw [e2] at hbk
      exact hn ⟨H'.length, _, hob, rfl, hbk⟩
theorem ACalls.pushD {f : FuncId} {args : List AV} {H : Heap} {v : AV} (h : ACalls P f args H fun r H' => r = v ∧ H' = H) (hb : BndHeap H.length H) (ha : ∀ (i : Nat) (a : AV), args[i]? = some a -> Bnd H.length a) :
    ACalls P f args (H ++ [.dead]) fun r H' => r = v ∧ H' = H ++ [.dead] := by
  refine ⟨h.ok, fun B β w cs s hl hargs => ?_⟩
  have htk : (H ++ [AObj.dead]).take H.length = H := by simp
  have s0 := s.take H.length (by simp) (by rw [htk]; exact hb)
  rw [htk] at s0
  have own : ∀ {b i : Nat}, Owned β H b i -> Owned β (H ++ [AObj.dead]) b i := fun ho => by
    obtain ⟨o, ds, k, r⟩ := ho
    exact ⟨o, ds, by rw [List.getElem?_append_left (getElem?_lt k)]; exact k, r⟩
  refine Calls.mono (h.go B β w cs s0 hl fun i a c h1 h2 => ((hargs i a c h1 h2).shrink (ha i a h1)).mono (fun _ _ => rfl) (Nat.le_refl _) fun b i c hc => ⟨hc.1, fun ho => hc.2 (own ho)⟩) ?_
  rintro e w' ⟨r, c, β', H', rfl, ⟨rfl, rfl⟩, hrep, s2, tr⟩
  obtain ⟨s3, t3⟩ := s2.dead
  let β2 : Lies := ⟨fun o => if o = H'.length then β H'.length else β' o, β'.D⟩
  have e1 : ∀ {o : Nat}, o < H'.length -> β2 o = β' o := fun ho => by show (if _ then _ else _) = _; rw [if_neg (by omega)]
  have cases' : ∀ {o : Nat} {x : AObj}, (H' ++ [AObj.dead])[o]? = some x -> (o < H'.length ∧ H'[o]? = some x) ∨ x = .dead := fun h => (get_push h).elim (fun k => .inl k) (fun k => .inr k.2.symm)
  have ow2 : ∀ {b i : Nat}, Owned β2 (H' ++ [AObj.dead]) b i -> Owned β' H' b i := fun ho => by
    obtain ⟨o, ds, k, r⟩ := ho
    rcases cases' k with ⟨hlt, k'⟩ | k'
    · rw [e1 hlt] at r; exact ⟨o, ds, k', r⟩
    · cases k'
  have ro2 : ∀ b i c, RO β' H' w' b i c -> RO β2 (H' ++ [AObj.dead]) w' b i c := fun b i c hc => ⟨hc.1, fun ho => hc.2 (ow2 ho)⟩
  have rep2 : ∀ {a : AV} {c : Value}, RepH β' H' w' a c -> RepH β2 (H' ++ [AObj.dead]) w' a c := fun hr => hr.mono (fun o ho => e1 ho) (by simp) ro2
  refine ⟨r, c, β2, H' ++ [.dead], rfl, ⟨rfl, rfl⟩, rep2 hrep, ⟨s2.size, fun o ds ho i => ?_, fun o ds ho => ?_, fun o ds j a ho hj => ?_, fun o ds j ho hj => ?_, fun o es ho => ?_, fun o o' ds ds' hne ho ho' hbk => ?_, fun o o' es es' hne ho ho' => ?_, fun p o t hp => ?_, fun o ds t' n ho hsh => ?_⟩, ⟨tr.below, Nat.le_refl _, fun o ho => ?_, fun b i c hc => ro2 b i c (tr.ro b i c ⟨hc.1, fun ho => hc.2 (own ho)⟩), tr.dd, fun b hb' hn => ?_⟩⟩
  · rcases cases' ho with ⟨hlt, h1⟩ | h1
    · rw [e1 hlt]; exact s2.nodd o ds h1 i
    · cases h1
  · rcases cases' ho with ⟨hlt, h1⟩ | h1
    · rw [e1 hlt]; exact s2.base o ds h1
    · cases h1
  · rcases cases' ho with ⟨hlt, h1⟩ | h1
    · rw [e1 hlt]
      obtain ⟨c, k1, k2⟩ := s2.cell o ds j a h1 hj
      exact ⟨c, k1, rep2 k2⟩
    · cases h1
  · rcases cases' ho with ⟨hlt, h1⟩ | h1
    · rw [e1 hlt] at hj ⊢; exact s2.room o ds j h1 hj
    · cases h1
  · rcases cases' ho with ⟨hlt, h1⟩ | h1
    · rw [e1 hlt]
      obtain ⟨k0, ents, clock, k1, k2, k3⟩ := s2.map o es h1
      exact ⟨k0, ents, clock, k1, k2, fun i x y u hi hj => ⟨rep2 (k3 i x y u hi hj).1, rep2 (k3 i x y u hi hj).2⟩⟩
    · cases h1
  · rcases cases' ho with ⟨hlt, h1⟩ | h1
    · rcases cases' ho' with ⟨hlt', h2⟩ | h2
      · rw [e1 hlt, e1 hlt'] at hbk; exact s2.disj o o' ds ds' hne h1 h2 hbk
      · cases h2
    · cases h1
  · rcases cases' ho with ⟨hlt, h1⟩ | h1
    · rcases cases' ho' with ⟨hlt', h2⟩ | h2
      · rw [e1 hlt, e1 hlt']; exact s2.mdisj o o' es es' hne h1 h2
      · cases h2
    · cases h1
  · rcases cases' hp with ⟨hlt, h1⟩ | h1
    · obtain ⟨k1, k2, k3⟩ := s2.tag p o t h1
      rw [e1 k1]
      exact ⟨by simp; omega, k2, k3⟩
    · cases h1
  · rcases cases' ho with ⟨hlt, h1⟩ | h1
    · rw [e1 hlt] at hsh ⊢; exact s2.clean o ds t' n h1 hsh
    · cases h1
  · rcases Nat.lt_or_ge o H'.length with h | h
    · rw [e1 h]; exact tr.em o h
    · have ho : o < H'.length + 1 := by simpa using ho
      have : o = H'.length := by omega
      subst this
      show (if _ then _ else _) = _
      rw [if_pos rfl]
  · have hn' : ¬ LiveB β H' b := by
      rintro ⟨o, x, ho, r⟩
      exact hn ⟨o, x, by rw [List.getElem?_append_left (getElem?_lt ho)]; exact ho, r⟩
    obtain ⟨k1, k2⟩ := tr.rest b hb' hn'
    refine ⟨k1, ?_⟩
    rintro ⟨o, x, ho, hx, hbk⟩
    rcases cases' ho with ⟨hlt, h1⟩ | h1
    · rw [e1 hlt] at hbk; exact k2 ⟨o, x, h1, hx, hbk⟩
    · subst h1; cases hx
theorem mapA_push {H : Heap} {ob : AObj} {x : AV} (hb : Bnd H.length x) : mapA (H ++ [ob]) x = mapA H x := by
  unfold mapA
  cases x with
  | mp o =>
    have : o < H.length := by cases hb with | mp ho => exact ho
    simp only [List.getElem?_append_left this]
  | v x => cases x <;> first | rfl | (rename_i p; cases p <;> rfl)
  | _ => rfl
theorem XOp.lk_push {x : XOp} (hx : x.lk = true) {s s' : St} (he : Agree (AAct.m (.ext x)).slots s.env s'.env) {ob : AObj} (hh : s'.heap = s.heap ++ [ob]) (hb : ∀ t, t ∈ (AAct.m (.ext x)).slots -> Bnd s.heap.length (s.env t)) (v : AV) :
    DAct P (.m (.ext x)) s v s.heap ↔ DAct P (.m (.ext x)) s' v s'.heap := by
  cases x with
  | map y =>
    cases y with
    | look ks agg ok z m k =>
      cases m with
      | c c => simp [XOp.lk] at hx
      | s t =>
        have ht : t ∈ (AAct.m (.ext (.map (.look ks agg ok z (.s t) k)))).slots := by simp [AAct.slots, MOp.slots, XOp.slots, YOp.slots, AX.slots]
        have e1 : s'.env t = s.env t := (he t ht).symm
        have e2 : k.ev s'.env = k.ev s.env := by
          cases k with
          | s u => exact (he u (by simp [AAct.slots, MOp.slots, XOp.slots, YOp.slots, AX.slots])).symm
          | c c => rfl
        simp only [DAct, MOp.run, XOp.run, YOp.run, AX.ev_s, hh, e1, e2, mapA_push (hb t ht)]
        split
        · split <;> simp
        · simp
    | len m =>
      cases m with
      | c c => simp [XOp.lk] at hx
      | s t =>
        have ht : t ∈ (AAct.m (.ext (.map (.len (.s t))))).slots := by simp [AAct.slots, MOp.slots, XOp.slots, YOp.slots, AX.slots]
        have e1 : s'.env t = s.env t := (he t ht).symm
        simp only [DAct, MOp.run, XOp.run, YOp.run, AX.ev_s, hh, e1, mapA_push (hb t ht)]
        split <;> simp
    | _ => simp [XOp.lk] at hx
  | _ => simp [XOp.lk] at hx
theorem DAct.reads_push {act : AAct} (hc : act.cls = .r) {s s' : St} (he : Agree act.slots s.env s'.env) {ob : AObj} (hh : s'.heap = s.heap ++ [ob]) (hb : ∀ t, t ∈ act.slots -> Bnd s.heap.length (s.env t))
    (hp : ∀ x, (act = .m (.b2s x) ∨ ∃ l, act = .m (.load l x)) -> ∀ y, x = .c y -> Bnd s.heap.length y) (v : AV) :
    DAct P act s v s.heap ↔ DAct P act s' v s'.heap := by
  have bx : ∀ x : AX, (∀ y, x = .c y -> Bnd s.heap.length y) -> (∀ t, t ∈ x.slots -> Bnd s.heap.length (s.env t)) -> Bnd s.heap.length (x.ev s.env) := by
    intro x h1 h2
    cases x with
    | s t => exact h2 t (by simp [AX.slots])
    | c y => exact h1 y rfl
  cases act with
  | m op =>
    cases op
    case ext x =>
      simp only [AAct.cls] at hc
      split at hc
      · cases hc
      · split at hc
        · rename_i hx
          exact XOp.lk_push hx he hh hb v
        · split at hc <;> cases hc
    all_goals simp [AAct.cls] at hc
    case load l x =>
      have e1 : x.ev s'.env = x.ev s.env := (AX.ev_agree he).symm
      have e2 := bx x (hp x (.inr ⟨l, rfl⟩)) hb
      simp only [DAct, MOp.run, hh, e1, readA_push e2, Option.map_eq_some_iff, Prod.mk.injEq]
    case b2s x =>
      have e1 : x.ev s'.env = x.ev s.env := (AX.ev_agree he).symm
      have e2 := bx x (hp x (.inl rfl)) hb
      simp only [DAct, MOp.run, hh, e1, cellsA_push e2]
      cases cellsA s.heap 1 (x.ev s.env) with
      | none => simp
      | some q =>
        obtain ⟨m, cs⟩ := q
        simp only [Option.map_eq_some_iff, Prod.mk.injEq]
  | p op => simp [AAct.cls] at hc
  | call f args => simp [AAct.cls] at hc
  | pcall f args => simp [AAct.cls] at hc
  | qcall f args => simp [AAct.cls] at hc
  | never => simp [AAct.cls] at hc
theorem want_agree {o : AOper} {s s' : St} (h : Agree o.reads s.env s'.env) : (wantA o s -> wantA o s') ∧ (waitA o s -> waitA o s') := by
  obtain ⟨dst, act, guard, hint⟩ := o
  cases guard with
  | none => exact ⟨fun _ => trivial, fun h => h⟩
  | some p =>
    obtain ⟨g, b⟩ := p
    have hg : s.env g = s'.env g := h g (List.mem_append_right _ (by simp))
    simp only [wantA, waitA, hg]
    exact ⟨id, id⟩
theorem DEff.agree {o : AOper} {s s' : St} (he : Agree o.reads s.env s'.env) (hh : s'.heap = s.heap) {v : AV} {H : Heap} (h : DEff P o s v H) : DEff P o s' v H := by
  cases h with
  | run hg h => exact .run ((want_agree he).1 hg) (h.agree he.left hh)
  | skip hg => rw [<- hh]; exact .skip ((want_agree he).2 hg)
theorem DEff.anywhere {o : AOper} (hc : o.act.cls = .p) {s s' : St} (he : Agree o.reads s.env s'.env) {v : AV} {H : Heap} (h : DEff P o s v H) : H = s.heap ∧ DEff P o s' v s'.heap := by
  cases h with
  | run hg h => exact ⟨(h.anywhere hc he.left).1, .run ((want_agree he).1 hg) (h.anywhere hc he.left).2⟩
  | skip hg => exact ⟨rfl, .skip ((want_agree he).2 hg)⟩
theorem DEff.reads {o : AOper} (hc : o.act.cls = .r) {s : St} {v : AV} {H : Heap} (h : DEff P o s v H) : H = s.heap := by
  cases h with
  | run hg h => exact h.reads hc
  | skip hg => rfl
theorem DEff.still {o : AOper} (hc : o.act.cls = .q) {s : St} {v : AV} {H : Heap} (h : DEff P o s v H) : H = s.heap := by
  cases h with
  | run hg h => exact h.still hc
  | skip hg => rfl
theorem DAct.makesC {act : AAct} (hc : act.cls = .a) {s : St} {v : AV} {H : Heap} (h : DAct P act s v H) : ∃ ob, H = s.heap ++ [ob] ∧ ((∃ zs, ob = .cells zs) ∨ ob = .dead) := by
  cases act with
  | m op =>
    cases op
    case ext x =>
      simp only [AAct.cls] at hc
      split at hc
      · cases hc
      · split at hc
        · cases hc
        · split at hc <;> cases hc
    all_goals simp [AAct.cls] at hc
    all_goals simp only [DAct, MOp.run] at h
    case alloc zs => cases h; exact ⟨_, rfl, .inl ⟨_, rfl⟩⟩
    case box x => split at h <;> first | (cases h; first | exact ⟨_, rfl, .inl ⟨_, rfl⟩⟩ | exact ⟨_, rfl, .inr rfl⟩) | cases h
    case buildSlice sz len zs ps => split at h <;> first | (cases h; first | exact ⟨_, rfl, .inl ⟨_, rfl⟩⟩ | exact ⟨_, rfl, .inr rfl⟩) | cases h
    case mkSlice sz b zs x y =>
      split at h
      · split at h
        · cases h; exact ⟨_, rfl, .inl ⟨_, rfl⟩⟩
        · cases h
      · cases h
    case s2b x => split at h <;> first | (cases h; first | exact ⟨_, rfl, .inl ⟨_, rfl⟩⟩ | exact ⟨_, rfl, .inr rfl⟩) | cases h
  | p op => simp [AAct.cls] at hc
  | call f args => simp [AAct.cls] at hc
  | pcall f args => simp [AAct.cls] at hc
  | qcall f args => simp [AAct.cls] at hc
  | never => exact h.elim
theorem DEff.stays {o : AOper} (hc : o.act.cls = .s) {s : St} {v : AV} {H : Heap} (h : DEff P o s v H) : H = s.heap := by
  cases h with
  | run hg h => exact h.stays hc
  | skip hg => rfl
theorem DEff.makesC {o : AOper} (hc : o.act.cls = .a) {s : St} {v : AV} {H : Heap} (h : DEff P o s v H) : H = s.heap ∨ ∃ ob, H = s.heap ++ [ob] ∧ ((∃ zs, ob = .cells zs) ∨ ob = .dead) := by
  cases h with
  | run hg h => exact .inr (h.makesC hc)
  | skip hg => exact .inl rfl
theorem DEff.makes {o : AOper} (hc : o.act.cls = .a) {s : St} {v : AV} {H : Heap} (h : DEff P o s v H) : H = s.heap ∨ ∃ ob, H = s.heap ++ [ob] := by
  cases h with
  | run hg h => exact .inr (h.makes hc)
  | skip hg => exact .inl rfl
def tidyX : AX -> Bool
  | .s _ => true
  | .c (.v _) => true
  | .c (.fn _ []) => true
  | .c _ => false
theorem tidyX_bnd {n : Nat} {x : AX} (h : tidyX x = true) {y : AV} (hy : x = .c y) : Bnd n y := by
  subst hy
  cases y with
  | v x => exact .v x
  | fn f cs => cases cs with
    | nil => exact .fn fun i a h => by simp at h
    | cons c cs => simp [tidyX] at h
  | _ => simp [tidyX] at h
def AAct.tidy : AAct -> Bool
  | .m (.load _ (.c (.v _))) | .m (.b2s (.c (.v _))) => true
  | .m (.load _ (.c _)) | .m (.b2s (.c _)) => false
  | .qcall f args => tidyX f && args.all tidyX
  | _ => true
theorem DEff.reads_push {o : AOper} (hc : o.act.cls = .r) (ht : o.act.tidy = true) {s s' : St} (he : Agree o.reads s.env s'.env) {ob : AObj} (hh : s'.heap = s.heap ++ [ob]) (hl : Live N s) (v : AV) :
    DEff P o s v s.heap ↔ DEff P o s' v s'.heap := by
  have he' : Agree o.reads s'.env s.env := fun t ht => (he t ht).symm
  have key := fun v => DAct.reads_push (P := P) hc he.left hh (fun t _ => hl.env t) (fun x hx y hy => by
    subst hy
    rcases hx with h | ⟨l, h⟩ <;> rw [h] at ht <;> (cases y <;> first | exact .v _ | simp [AAct.tidy] at ht)) v
  constructor
  · intro h
    generalize hH : s.heap = H at h
    cases h with
    | run hg h => subst hH; exact .run ((want_agree he).1 hg) ((key v).1 h)
    | skip hg => exact .skip ((want_agree he).2 hg)
  · intro h
    generalize hH : s'.heap = H at h
    cases h with
    | run hg h => subst hH; exact .run ((want_agree he').1 hg) ((key v).2 h)
    | skip hg => exact .skip ((want_agree he').2 hg)
def apartA (x y : AOper) : Bool :=
  (match x.dst with
   | some d => !(y.reads.contains d) && y.dst != some d
   | none => true) &&
  (match y.dst with
   | some d => !(x.reads.contains d)
   | none => true)
theorem put_agree {s : St} {d : Option Nat} {v : AV} {H : Heap} {l : List Nat} (h : ∀ x, d = some x -> x ∉ l) : Agree l (s.put d v H).env s.env := by
  intro t ht
  cases d with
  | none => rfl
  | some x =>
    have : t ≠ x := fun e => h x rfl (e ▸ ht)
    simp [St.put, upd, this]
theorem put_comm {s : St} {d e : Option Nat} {v u : AV} {H H' H'' : Heap} (h : ∀ x, d = some x -> e ≠ some x) : ((s.put d v H).put e u H').env = ((s.put e u H'').put d v H').env := by
  cases d with
  | none => rfl
  | some x =>
    cases e with
    | none => rfl
    | some y =>
      have hne : x ≠ y := fun he => h x rfl (he ▸ rfl)
      funext t
      simp only [St.put, upd]
      by_cases h1 : t = x
      · subst h1; simp [hne]
      · simp [h1]
theorem DEff.still_push {o : AOper} (hc : o.act.cls = .q) (ht : o.act.tidy = true) {s s' : St} (he : Agree o.reads s.env s'.env) {ob : AObj} (hob : (∃ zs, ob = .cells zs) ∨ ob = .dead) (hh : s'.heap = s.heap ++ [ob]) (hl : Live N s) {v : AV} (h : DEff P o s v s.heap) :
    DEff P o s' v s'.heap := by
  generalize hH : s.heap = H at h
  cases h with
  | skip hg => exact .skip ((want_agree he).2 hg)
  | run hg h =>
    subst hH
    refine .run ((want_agree he).1 hg) ?_
    have hbh : BndHeap s.heap.length s.heap := by
      obtain ⟨B, β, a, w, hr⟩ := hl
      exact hr.sim.bnd
    obtain ⟨dst, act, guard, hint⟩ := o
    have hea : Agree act.slots s.env s'.env := he.left
    simp only at hc ht h ⊢
    cases act with
    | qcall f args =>
      obtain ⟨g, cap, h1, h2, h3⟩ := h
      have e1 : f.ev s'.env = f.ev s.env := (AX.ev_agree hea.left).symm
      have e2 : args.map (·.ev s'.env) = args.map (·.ev s.env) := (evL_agree hea.right).symm
      refine ⟨g, cap, by rw [e1]; exact h1, ?_, rfl⟩
      rw [e2, hh]
      have hbnd : ∀ (i : Nat) (a : AV), (args.map (·.ev s.env) ++ cap)[i]? = some a -> Bnd s.heap.length a := fun i a ha => ?_
      · rcases hob with ⟨zs, rfl⟩ | rfl
        · exact h2.push hbh hbnd zs
        · exact h2.pushD hbh hbnd
      simp only [AAct.tidy, Bool.and_eq_true, List.all_eq_true] at ht
      rcases Nat.lt_or_ge i (args.map (·.ev s.env)).length with hi | hi
      · rw [List.getElem?_append_left hi, List.getElem?_map, Option.map_eq_some_iff] at ha
        obtain ⟨x, hx, rfl⟩ := ha
        exact hl.ev x fun y hy => tidyX_bnd (ht.2 x (List.mem_of_getElem? hx)) hy
      · rw [List.getElem?_append_right hi] at ha
        have hf := hl.ev f fun y hy => tidyX_bnd ht.1 hy
        rw [h1] at hf
        cases hf with
        | fn hh => exact hh _ a ha
    | m op =>
      cases op
      case ext x =>
        simp only [AAct.cls] at hc
        split at hc
        · cases hc
        · split at hc
          · cases hc
          · split at hc <;> cases hc
      all_goals simp [AAct.cls] at hc
    | _ => simp [AAct.cls] at hc
theorem swap {x y : AOper} (hap : apartA x y = true) (hm : meet x.act.cls y.act.cls = true) (hx : x.act.tidy = true) (hy : y.act.tidy = true) {s s₁ s₂ : St} (hl : Live N s) (h1 : DStep P x s s₁) (h2 : DStep P y s₁ s₂) :
    ∃ s', DStep P y s s' ∧ DStep P x s' s₂ := by
  obtain ⟨vx, Hx, ex, rfl⟩ := h1
  obtain ⟨vy, Hy, ey, rfl⟩ := h2
  have a1 : ∀ d, x.dst = some d -> d ∉ y.reads := by
    intro d hd; simp [apartA, hd] at hap; exact hap.1.1
  have a2 : ∀ d, x.dst = some d -> y.dst ≠ some d := by
    intro d hd; simp [apartA, hd] at hap; exact hap.1.2
  have a3 : ∀ d, y.dst = some d -> d ∉ x.reads := by
    intro d hd; simp [apartA, hd] at hap; exact hap.2
  have hey : Agree y.reads (s.put x.dst vx Hx).env s.env := put_agree a1
  have hex : ∀ v H, Agree x.reads s.env (s.put y.dst v H).env := fun v H t ht => (put_agree a3 t ht).symm
  have fin : ∀ (H' : Heap), DEff P y s vy H' -> DEff P x (s.put y.dst vy H') vx Hy -> ∃ s', DStep P y s s' ∧ DStep P x s' ((s.put x.dst vx Hx).put y.dst vy Hy) := by
    intro H' k1 k2
    refine ⟨s.put y.dst vy H', ⟨vy, H', k1, rfl⟩, vx, Hy, k2, ?_⟩
    have := put_comm (s := s) (d := x.dst) (e := y.dst) (v := vx) (u := vy) (H := Hx) (H' := Hy) (H'' := H') a2
    have e1 : (s.put x.dst vx Hx).put y.dst vy Hy = ⟨((s.put x.dst vx Hx).put y.dst vy Hy).env, Hy⟩ := rfl
    have e2 : (s.put y.dst vy H').put x.dst vx Hy = ⟨((s.put y.dst vy H').put x.dst vx Hy).env, Hy⟩ := rfl
    rw [e1, e2, this]
  -- y does not look at memory
  have case1 : y.act.cls = .p -> ∃ s', DStep P y s s' ∧ DStep P x s' ((s.put x.dst vx Hx).put y.dst vy Hy) := by
    intro hc
    have k := ey.anywhere hc (s' := s) hey
    refine fin s.heap k.2 ?_
    have : Hy = Hx := k.1
    rw [this]
    exact ex.agree (hex _ _) rfl
  -- x does not
  have case2 : x.act.cls = .p -> ∃ s', DStep P y s s' ∧ DStep P x s' ((s.put x.dst vx Hx).put y.dst vy Hy) := by
    intro hc
    have hHx : Hx = s.heap := (ex.anywhere hc (s' := s) (fun _ _ => rfl)).1
    subst hHx
    refine fin Hy (ey.agree hey rfl) ?_
    exact (ex.anywhere hc (s' := s.put y.dst vy Hy) (hex _ _)).2
  have cq : (x.act.cls = .q ∨ x.act.cls = .r ∨ x.act.cls = .s) -> (y.act.cls = .q ∨ y.act.cls = .r ∨ y.act.cls = .s) -> ∃ s', DStep P y s s' ∧ DStep P x s' ((s.put x.dst vx Hx).put y.dst vy Hy) := by
    intro hcx hcy
    have hHx : Hx = s.heap := hcx.elim ex.still (fun h => h.elim ex.reads ex.stays)
    subst hHx
    have hHy : Hy = s.heap := hcy.elim ey.still (fun h => h.elim ey.reads ey.stays)
    subst hHy
    exact fin s.heap (ey.agree hey rfl) (ex.agree (hex _ _) rfl)
  have cr : x.act.cls = .r -> y.act.cls = .r -> ∃ s', DStep P y s s' ∧ DStep P x s' ((s.put x.dst vx Hx).put y.dst vy Hy) := by
    intro hcx hcy
    have hHx := ex.reads hcx
    subst hHx
    have hHy : Hy = s.heap := ey.reads hcy
    subst hHy
    exact fin s.heap (ey.agree hey rfl) (ex.agree (hex _ _) rfl)
  have cra : x.act.cls = .r -> y.act.cls = .a -> ∃ s', DStep P y s s' ∧ DStep P x s' ((s.put x.dst vx Hx).put y.dst vy Hy) := by
    intro hcx hcy
    have hHx := ex.reads hcx
    subst hHx
    rcases ey.makes hcy with hHy | ⟨ob, hHy⟩
    · have hHy : Hy = s.heap := hHy
      subst hHy
      exact fin s.heap (ey.agree hey rfl) (ex.agree (hex _ _) rfl)
    · have hHy : Hy = s.heap ++ [ob] := hHy
      refine fin Hy (ey.agree hey rfl) ?_
      have k := (DEff.reads_push (P := P) hcx hx (s := s) (s' := s.put y.dst vy Hy) (hex _ _) hHy hl vx).1 ex
      exact k
  have car : x.act.cls = .a -> y.act.cls = .r -> ∃ s', DStep P y s s' ∧ DStep P x s' ((s.put x.dst vx Hx).put y.dst vy Hy) := by
    intro hcx hcy
    have hHy : Hy = Hx := ey.reads hcy
    subst hHy
    rcases ex.makes hcx with hHx | ⟨ob, hHx⟩
    · subst hHx
      exact fin s.heap (ey.agree hey rfl) (ex.agree (hex _ _) rfl)
    · have k : DEff P y s vy s.heap := (DEff.reads_push hcy hy (s := s) (s' := s.put x.dst vx Hy) (fun t ht => (hey t ht).symm) hHx hl vy).2 ey
      exact fin s.heap k (ex.agree (hex _ _) rfl)
  have cqa : x.act.cls = .q -> y.act.cls = .a -> ∃ s', DStep P y s s' ∧ DStep P x s' ((s.put x.dst vx Hx).put y.dst vy Hy) := by
    intro hcx hcy
    have hHx := ex.still hcx
    subst hHx
    rcases ey.makesC hcy with hHy | ⟨ob, hHy, hob⟩
    · have hHy : Hy = s.heap := hHy
      subst hHy
      exact fin s.heap (ey.agree hey rfl) (ex.agree (hex _ _) rfl)
    · have hHy : Hy = s.heap ++ [ob] := hHy
      refine fin Hy (ey.agree hey rfl) ?_
      exact DEff.still_push (P := P) hcx hx (s := s) (s' := s.put y.dst vy Hy) (hex _ _) hob hHy hl ex
  revert hm case1 case2 cq cr cra car cqa
  cases x.act.cls <;> cases y.act.cls <;> simp [meet] <;> intros <;> assumption
end
end Go.Ab
namespace Go.Ab
open Go Go.RowKit
set_option linter.unusedVariables false
set_option linter.unusedSimpArgs false
def directs (o : Oper) : List Nat := o.after.toList.filterMap fun e => if Region.binds .any e then some e.on else none
def aheads (ops : List Oper) : List (List Nat) :=
  ops.foldl (fun acc o => acc ++ [((directs o).flatMap fun d => d :: acc.getD d []).eraseDups]) []
def okPair (l : List AOper) (ah : List (List Nat)) (i j : Nat) : Bool :=
  match l[i]?, l[j]? with
  | some x, some y => (ah.getD j []).contains i || (apartA x y && meet x.act.cls y.act.cls)
  | _, _ => true
def okDraw (ops : Array Oper) (l : List AOper) : Bool :=
  ((List.range ops.size).all fun j => ((directs (ops.getD j default)).all fun d => decide (d < j)) && (List.range j).all fun i => okPair l (aheads ops.toList) i j) && l.all fun o => o.act.tidy
section
variable {P : Program} {N : Nat}
theorem aheads_get : ∀ (ops : List Oper) (acc : List (List Nat)) (k : Nat), k < acc.length -> (ops.foldl (fun acc o => acc ++ [((directs o).flatMap fun d => d :: acc.getD d []).eraseDups]) acc)[k]? = acc[k]? := by
  intro ops
  induction ops with
  | nil => intro acc k _; rfl
  | cons o ops ih =>
    intro acc k hk
    simp only [List.foldl_cons]
    rw [ih _ _ (by simp; omega), List.getElem?_append_left hk]
theorem mem_aheads {ops : List Oper} : ∀ {k i : Nat} {o : Oper}, ops[k]? = some o -> (∀ d ∈ directs o, d < k) -> i ∈ (aheads ops).getD k [] -> ∃ d ∈ directs o, i = d ∨ i ∈ (aheads ops).getD d [] := by
  have key : ∀ (ops : List Oper) (acc : List (List Nat)) (k i : Nat) (o : Oper), ops[k]? = some o -> (∀ d ∈ directs o, d < acc.length + k) ->
      i ∈ ((ops.foldl (fun acc o => acc ++ [((directs o).flatMap fun d => d :: acc.getD d []).eraseDups]) acc).getD (acc.length + k) []) ->
      ∃ d ∈ directs o, i = d ∨ i ∈ (ops.foldl (fun acc o => acc ++ [((directs o).flatMap fun d => d :: acc.getD d []).eraseDups]) acc).getD d [] := by
    intro ops
    induction ops with
    | nil => intro acc k i o h; simp at h
    | cons p ops ih =>
      intro acc k i o ho hd hi
      simp only [List.foldl_cons] at hi ⊢
      cases k with
      | zero =>
        simp at ho
        subst ho
        rw [Nat.add_zero, List.getD_eq_getElem?_getD, aheads_get _ _ _ (by simp)] at hi
        simp only [List.getElem?_append_right (Nat.le_refl _), Nat.sub_self, List.getElem?_cons_zero, Option.getD_some] at hi
        rw [List.mem_eraseDups] at hi
        obtain ⟨d, hd1, hd2⟩ := List.mem_flatMap.1 hi
        refine ⟨d, hd1, ?_⟩
        rcases List.mem_cons.1 hd2 with h | h
        · exact .inl h
        · right
          have hlt := hd d hd1
          rw [List.getD_eq_getElem?_getD, aheads_get _ _ _ (by simp; omega), List.getElem?_append_left (by omega), <- List.getD_eq_getElem?_getD]
          exact h
      | succ k =>
        have := ih (acc ++ [((directs p).flatMap fun d => d :: acc.getD d []).eraseDups]) k i o (by simpa using ho) (fun d h => by have := hd d h; simp; omega)
          (by simp only [List.length_append, List.length_singleton]; rw [show acc.length + 1 + k = acc.length + (k + 1) by omega]; exact hi)
        exact this
  intro k i o ho hd hi
  exact key ops [] k i o ho (by simpa using hd) (by rw [List.length_nil, Nat.zero_add]; exact hi)
def DownClosed (ops : Array Oper) (listed : Array Bool) : Prop := ∀ (k : Nat) (o : Oper), ops[k]? = some o -> listed.getD k false = true -> ∀ d ∈ directs o, listed.getD d false = true
theorem down_aheads {ops : Array Oper} {listed : Array Bool} (hdc : DownClosed ops listed) (hlow : ∀ (k : Nat) (o : Oper), ops[k]? = some o -> ∀ d ∈ directs o, d < k) :
    ∀ (k : Nat) (o : Oper), ops[k]? = some o -> (∀ d ∈ directs o, listed.getD d false = true) -> ∀ i ∈ (aheads ops.toList).getD k [], listed.getD i false = true := by
  intro k
  induction k using Nat.strongRecOn with
  | _ k ih =>
    intro o ho hd i hi
    obtain ⟨d, hd1, hd2⟩ := mem_aheads (ops := ops.toList) (by simpa using ho) (hlow k o ho) hi
    rcases hd2 with rfl | hd2
    · exact hd _ hd1
    · have hlt := hlow k o ho d hd1
      have hk : k < ops.size := by
        rcases Nat.lt_or_ge k ops.size with h | h
        · exact h
        · simp [Array.getElem?_eq_none h] at ho
      have hod : ops[d]? = some ops[d] := by simp
      exact ih d hlt ops[d] hod (hdc d ops[d] hod (hd d hd1)) i hd2
theorem Runs.split : ∀ {xs : List AOper} {s f : St} {ys : List AOper}, Runs P (xs ++ ys) s f -> ∃ m, Runs P xs s m ∧ Runs P ys m f := by
  intro xs
  induction xs with
  | nil => intro s f ys h; exact ⟨s, .nil s, h⟩
  | cons x xs ih =>
    intro s f ys h
    cases h with
    | cons h1 h2 =>
      obtain ⟨m, k1, k2⟩ := ih h2
      exact ⟨m, .cons h1 k1, k2⟩
theorem Runs.join : ∀ {xs : List AOper} {s m f : St} {ys : List AOper}, Runs P xs s m -> Runs P ys m f -> Runs P (xs ++ ys) s f := by
  intro xs
  induction xs with
  | nil => intro s m f ys h k; cases h; exact k
  | cons x xs ih =>
    intro s m f ys h k
    cases h with
    | cons h1 h2 => exact .cons h1 (ih h2 k)
theorem Runs.front {ops : Array Oper} : ∀ {xs : List AOper} {y : AOper} {ys : List AOper} {s f : St}, (∀ x ∈ xs, apartA x y = true ∧ meet x.act.cls y.act.cls = true) -> (∀ x ∈ y :: xs, x.act.tidy = true ∧ ∃ o b, trO P N ops o = some b ∧ Like x b) ->
    Live N s -> Runs P (xs ++ y :: ys) s f -> ∃ s', DStep P y s s' ∧ Runs P (xs ++ ys) s' f := by
  intro xs
  induction xs with
  | nil => intro y ys s f _ _ _ h; cases h with | cons h1 h2 => exact ⟨_, h1, h2⟩
  | cons x xs ih =>
    intro y ys s f hind hok hl h
    cases h with
    | @cons _ _ _ s₁ _ h1 h2 =>
      obtain ⟨htx, o, b, htr, hlike⟩ := hok x (by simp)
      have hl1 := h1.live htr hlike hl
      obtain ⟨s₂, k1, k2⟩ := ih (fun z hz => hind z (by simp [hz])) (fun z hz => hok z (by
        rcases List.mem_cons.1 hz with h | h
        · simp [h]
        · simp [h])) hl1 h2
      obtain ⟨hap, hm⟩ := hind x (by simp)
      obtain ⟨s', q1, q2⟩ := swap hap hm htx (hok y (by simp)).1 hl h1 k1
      exact ⟨s', q1, .cons q2 k2⟩
theorem mem_directs {o : Oper} {d : Nat} : d ∈ directs o ↔ ∃ e ∈ o.after, Region.binds .any e = true ∧ e.on = d := by
  simp only [directs, List.mem_filterMap, Array.mem_toList_iff]
  constructor
  · rintro ⟨e, he, h⟩
    split at h
    · rename_i hb; cases h; exact ⟨e, he, hb, rfl⟩
    · cases h
  · rintro ⟨e, he, hb, rfl⟩
    exact ⟨e, he, by rw [if_pos hb]⟩
theorem getD_false_of {listed : Array Bool} {k : Nat} (h : listed.getD k false = true) : listed.getD k true = true := by
  rw [Array.getD_eq_getD_getElem?] at h ⊢
  cases hh : listed[k]? with
  | none => rfl
  | some b => rw [hh] at h; exact h
theorem any_sound {ops : Array Oper} {l : List AOper} (hok : okDraw ops l = true) (hal : ∀ (k : Nat) (o : Oper), ops[k]? = some o -> ∃ ao bo, l[k]? = some ao ∧ trO P N ops o = some bo ∧ Like ao bo) :
    ∀ (n : Nat) (rest : List Nat) (listed : Array Bool), rest.length = n -> rest.Pairwise (· < ·) -> listed.size = ops.size -> (∀ k, k ∈ rest ↔ k < ops.size ∧ listed.getD k true = false) -> DownClosed ops listed ->
    ∀ {B : Nat} {β : Lies} {s f : St} {a : Act} {w : World} {Q : Exit -> Act -> World -> Prop} (hr : Rel N B β s a w), Runs P (rest.filterMap (l[·]?)) s f ->
      (∀ β' a' w', Rel N B β' f a' w' -> Tr B β s.heap w β' f.heap w' -> Q .normal a' w') -> wpAny P .any ops Q n listed a w := by
  simp only [okDraw, Bool.and_eq_true, List.all_eq_true, List.mem_range, decide_eq_true_eq] at hok
  obtain ⟨hok1, hok2⟩ := hok
  have hlow : ∀ (k : Nat) (o : Oper), ops[k]? = some o -> ∀ d ∈ directs o, d < k := by
    intro k o ho d hd
    have hk : k < ops.size := by
      rcases Nat.lt_or_ge k ops.size with h | h
      · exact h
      · simp [Array.getElem?_eq_none h] at ho
    have := (hok1 k hk).1 d (by rw [Array.getD_eq_getD_getElem?, ho]; exact hd)
    exact this
  intro n
  induction n with
  | zero =>
    intro rest listed hlen hpw hsz hmem hdc B β s f a w Q hr hrun hQ
    have : rest = [] := List.length_eq_zero_iff.1 hlen
    subst this
    cases hrun
    refine ⟨?_, hQ β a w hr (Tr.refl _ _ _ _)⟩
    cases hrd : Region.ready .any ops listed with
    | nil => rfl
    | cons i is =>
      have hi : i ∈ Region.ready .any ops listed := by rw [hrd]; simp
      obtain ⟨h1, o, ho, _⟩ := mem_ready.1 hi
      have hlt : i < ops.size := by
        rcases Nat.lt_or_ge i ops.size with h | h
        · exact h
        · simp [Array.getElem?_eq_none h] at ho
      exact absurd ((hmem i).2 ⟨hlt, h1⟩) (by simp)
  | succ n ih =>
    intro rest listed hlen hpw hsz hmem hdc B β s f a w Q hr hrun hQ
    have inRest : ∀ i, i ∈ Region.ready .any ops listed -> i ∈ rest := by
      intro i hi
      obtain ⟨h1, o, ho, _⟩ := mem_ready.1 hi
      have hlt : i < ops.size := by
        rcases Nat.lt_or_ge i ops.size with h | h
        · exact h
        · simp [Array.getElem?_eq_none h] at ho
      exact (hmem i).2 ⟨hlt, h1⟩
    refine ⟨fun hnil => ?_, fun i hi => ?_⟩
    · exfalso
      cases rest with
      | nil => simp at hlen
      | cons k rest =>
        obtain ⟨hk1, hk2⟩ := (hmem k).1 (by simp)
        have : k ∈ Region.ready .any ops listed := by
          refine mem_ready.2 ⟨hk2, ops[k], by simp, fun e he hb => ?_⟩
          have hd : e.on ∈ directs ops[k] := mem_directs.2 ⟨e, he, hb, rfl⟩
          have hlt := hlow k ops[k] (by simp) _ hd
          have hnot : e.on ∉ k :: rest := by
            intro h
            rcases List.mem_cons.1 h with h | h
            · omega
            · have := List.rel_of_pairwise_cons hpw h; omega
          have := mt (hmem e.on).2 hnot
          rw [Array.getD_eq_getD_getElem?] at this ⊢
          have hin : e.on < listed.size := by omega
          simp [hin] at this ⊢
          have := this (by omega)
          simpa using this
        rw [hnil] at this
        cases this
    · have hir := inRest i hi
      obtain ⟨h1, o, ho, hall⟩ := mem_ready.1 hi
      obtain ⟨xs, ys, hsplit⟩ := List.append_of_mem hir
      obtain ⟨ao, bo, hao, htr, hlike⟩ := hal i o ho
      -- all ahead in the text may change places with it
      have hxs : ∀ k ∈ xs, k < i := by
        intro k hk
        rw [hsplit] at hpw
        exact (List.pairwise_append.1 hpw).2.2 k hk i (by simp)
      have hdir : ∀ d ∈ directs o, listed.getD d false = true := by
        intro d hd
        obtain ⟨e, he, hb, rfl⟩ := mem_directs.1 hd
        exact hall e he hb
      have hilt : i < ops.size := ((hmem i).1 hir).1
      have hah := down_aheads hdc hlow i o ho hdir
      have hind : ∀ x ∈ xs.filterMap (l[·]?), apartA x ao = true ∧ meet x.act.cls ao.act.cls = true := by
        intro x hx
        obtain ⟨k, hk, hlk⟩ := List.mem_filterMap.1 hx
        have hpair := (hok1 i hilt).2 k (hxs k hk)
        simp only [okPair, hlk, hao, Bool.or_eq_true, Bool.and_eq_true] at hpair
        rcases hpair with h | h
        · exfalso
          have h' := hah k (by simpa using h)
          have hk' := (hmem k).1 (by rw [hsplit]; simp [hk])
          rw [getD_false_of h'] at hk'
          exact absurd hk'.2 (by simp)
        · exact h
      have hrest : rest.filterMap (l[·]?) = xs.filterMap (l[·]?) ++ ao :: ys.filterMap (l[·]?) := by
        rw [hsplit, List.filterMap_append, List.filterMap_cons, hao]
      rw [hrest] at hrun
      have hmemL : ∀ (k : Nat) (x : AOper), l[k]? = some x -> k < ops.size -> x.act.tidy = true ∧ ∃ o b, trO P N ops o = some b ∧ Like x b := by
        intro k x hx hk
        refine ⟨hok2 x (List.mem_of_getElem? hx), ?_⟩
        obtain ⟨ao', bo', k1, k2, k3⟩ := hal k ops[k] (by simp)
        rw [hx] at k1; cases k1
        exact ⟨_, _, k2, k3⟩
      obtain ⟨s', hstep, hrun'⟩ := Runs.front (ops := ops) hind (fun x hx => by
        rcases List.mem_cons.1 hx with rfl | hx
        · exact hmemL i _ hao hilt
        · obtain ⟨k, hk, hlk⟩ := List.mem_filterMap.1 hx
          exact hmemL k x hlk ((hmem k).1 (by rw [hsplit]; simp [hk])).1) ⟨B, β, a, w, hr⟩ hrun
      have hnext : ∀ s₂ β' a' w', s₂ = s' -> Rel N B β' s₂ a' w' -> Tr B β s.heap w β' s₂.heap w' -> wpAny P .any ops Q n (listed.setIfInBounds i true) a' w' := by
        intro s₂ β' a' w' e k1 k2
        subst e
        have hpw' : (xs ++ ys).Pairwise (· < ·) := by
          rw [hsplit] at hpw
          exact hpw.sublist (by simp)
        have hnd : i ∉ xs ++ ys := by
          rw [hsplit] at hpw
          have h1 := (List.pairwise_append.1 hpw)
          intro h
          rcases List.mem_append.1 h with h | h
          · have := h1.2.2 i h i (by simp); omega
          · have := List.rel_of_pairwise_cons h1.2.1 h; omega
        have hset : ∀ (k : Nat) (d : Bool), k ≠ i -> (listed.setIfInBounds i true).getD k d = listed.getD k d := by
          intro k d hk
          simp [Array.getD_eq_getD_getElem?, Array.getElem?_setIfInBounds_ne (Ne.symm hk)]
        have hseti : ∀ d : Bool, (listed.setIfInBounds i true).getD i d = true := by
          intro d
          simp [Array.getD_eq_getD_getElem?, show i < listed.size by omega]
        refine ih (xs ++ ys) _ (by rw [hsplit] at hlen; simp at hlen ⊢; omega) hpw' (by simp [hsz]) (fun k => ?_) (fun k o' ho' hk d hd => ?_) k1 (by rw [List.filterMap_append]; exact hrun') (fun β'' a'' w'' q1 q2 => hQ β'' a'' w'' q1 (k2.trans q2))
        · by_cases e : k = i
          · subst e
            rw [hseti]
            simp [hnd]
          · rw [hset k true e, <- hmem k, hsplit]
            simp [e]
        · by_cases e : k = i
          · subst e
            rw [ho] at ho'; cases ho'
            have := hdir d hd
            by_cases e2 : d = k
            · subst e2; exact hseti _
            · rw [hset d false e2]; exact this
          · rw [hset k false e] at hk
            have := hdc k o' ho' hk d hd
            by_cases e2 : d = i
            · subst e2; exact hseti _
            · rw [hset d false e2]; exact this
      have h := op_sound (Q := Q) htr hlike hr hstep.vc (next := wpAny P .any ops Q n (listed.setIfInBounds i true)) hnext
      unfold Go.wpOp
      rw [ho]
      simp only
      split
      · rename_i hw; rw [if_pos hw] at h; exact .inl h
      · rename_i hw; rw [if_neg hw] at h; exact h
def tailOp (ops : Array Oper) (l : List AOper) : Bool :=
  (match l.getLast? with | some ⟨_, .call _ _, _, _⟩ => true | _ => false) && (List.range (l.length - 1)).all fun i => ((aheads ops.toList).getD (l.length - 1) []).contains i
theorem any_sound_tail {ops : Array Oper} {l : List AOper} {m : Nat} (hsize : ops.size = m + 1) (hok : okDraw ops l = true) (hal : ∀ (k : Nat) (o : Oper), ops[k]? = some o -> ∃ ao bo, l[k]? = some ao ∧ trO P N ops o = some bo ∧ Like ao bo)
    (htail : ∀ i, i < m -> i ∈ (aheads ops.toList).getD m []) {am : AOper} (ham : l[m]? = some am) {K : St -> Prop} :
    ∀ (n : Nat) (rest : List Nat) (listed : Array Bool), rest.length = n -> rest.Pairwise (· < ·) -> listed.size = ops.size -> (∀ k, k ∈ rest ↔ k < m ∧ listed.getD k true = false) -> listed.getD m true = false -> DownClosed ops listed ->
    ∀ {B : Nat} {β : Lies} {s f : St} {a : Act} {w : World} {Q : Exit -> Act -> World -> Prop} (hr : Rel N B β s a w), Runs P (rest.filterMap (l[·]?)) s f -> (∃ f₁, (∀ B β a w, Rel N B β f a w -> ∃ β₁, Rel N B β₁ f₁ a w ∧ Tr B β f.heap w β₁ f₁.heap w) ∧ vcOp P am K f₁) ->
      (∀ f' β' a' w', K f' -> Rel N B β' f' a' w' -> Tr B β s.heap w β' f'.heap w' -> Q .normal a' w') -> wpAny P .any ops Q (n + 1) listed a w := by
  have hok0 := hok
  simp only [okDraw, Bool.and_eq_true, List.all_eq_true, List.mem_range, decide_eq_true_eq] at hok
  obtain ⟨hok1, hok2⟩ := hok
  have lt_of : ∀ {k : Nat} {o : Oper}, ops[k]? = some o -> k < ops.size := by
    intro k o ho
    rcases Nat.lt_or_ge k ops.size with h | h
    · exact h
    · simp [Array.getElem?_eq_none h] at ho
  have hlow : ∀ (k : Nat) (o : Oper), ops[k]? = some o -> ∀ d ∈ directs o, d < k := by
    intro k o ho d hd
    exact (hok1 k (lt_of ho)).1 d (by rw [Array.getD_eq_getD_getElem?, ho]; exact hd)
  intro n
  induction n with
  | zero =>
    intro rest listed hlen hpw hsz hmem hm hdc B β s f a w Q hr hrun hv hQ
    have : rest = [] := List.length_eq_zero_iff.1 hlen
    subst this
    cases hrun
    obtain ⟨f₁, hn, hv⟩ := hv
    obtain ⟨β₁, hr₁, ht₁⟩ := hn B β a w hr
    have hin : ∀ i, i ∈ Region.ready .any ops listed -> i = m := by
      intro i hi
      obtain ⟨h1, o, ho, _⟩ := mem_ready.1 hi
      have hlt := lt_of ho
      rcases Nat.lt_or_ge i m with h | h
      · exact absurd ((hmem i).2 ⟨h, h1⟩) (by simp)
      · omega
    refine ⟨fun hnil => ?_, fun i hi => ?_⟩
    · have : m ∈ Region.ready .any ops listed := by
        refine mem_ready.2 ⟨hm, ops[m], by simp, fun e he hb => ?_⟩
        have hd : e.on ∈ directs ops[m] := mem_directs.2 ⟨e, he, hb, rfl⟩
        have hlt := hlow m ops[m] (by simp) _ hd
        have := mt (hmem e.on).2 (by simp)
        rw [Array.getD_eq_getD_getElem?] at this ⊢
        have hin : e.on < listed.size := by omega
        simp [hin] at this ⊢
        have := this (by omega)
        simpa using this
      rw [hnil] at this
      cases this
    · have := hin i hi
      subst this
      obtain ⟨h1, o, ho, hall⟩ := mem_ready.1 hi
      obtain ⟨ao, bo, hao, htr, hlike⟩ := hal i o ho
      rw [ham] at hao; cases hao
      have hnext : ∀ s₂ β' a' w', K s₂ -> Rel N B β' s₂ a' w' -> Tr B β₁ f₁.heap w β' s₂.heap w' -> wpAny P .any ops Q 0 (listed.setIfInBounds i true) a' w' := by
        intro s₂ β' a' w' k0 k1 k2
        refine ⟨?_, hQ s₂ β' a' w' k0 k1 (ht₁.trans k2)⟩
        cases hrd : Region.ready .any ops (listed.setIfInBounds i true) with
        | nil => rfl
        | cons j js =>
          exfalso
          have hj : j ∈ Region.ready .any ops (listed.setIfInBounds i true) := by rw [hrd]; simp
          obtain ⟨h1', o', ho', _⟩ := mem_ready.1 hj
          have hlt := lt_of ho'
          by_cases e : j = i
          · subst e
            simp [Array.getD_eq_getD_getElem?, show j < listed.size by omega] at h1'
          · have : (listed.setIfInBounds i true).getD j true = listed.getD j true := by simp [Array.getD_eq_getD_getElem?, Array.getElem?_setIfInBounds_ne (Ne.symm e)]
            rw [this] at h1'
            exact absurd ((hmem j).2 ⟨by omega, h1'⟩) (by simp)
      have h := op_sound (Q := Q) htr hlike hr₁ hv (next := wpAny P .any ops Q 0 (listed.setIfInBounds i true)) hnext
      unfold Go.wpOp
      rw [ho]
      simp only
      split
      · rename_i hw; rw [if_pos hw] at h; exact .inl h
      · rename_i hw; rw [if_neg hw] at h; exact h
  | succ n ih =>
    intro rest listed hlen hpw hsz hmem hm hdc B β s f a w Q hr hrun hv hQ
    have inRest : ∀ i, i ∈ Region.ready .any ops listed -> i ∈ rest := by
      intro i hi
      obtain ⟨h1, o, ho, hall⟩ := mem_ready.1 hi
      have hlt := lt_of ho
      rcases Nat.lt_or_ge i m with h | h
      · exact (hmem i).2 ⟨h, h1⟩
      · exfalso
        have : i = m := by omega
        subst this
        cases rest with
        | nil => simp at hlen
        | cons k rest =>
          obtain ⟨hk1, hk2⟩ := (hmem k).1 (by simp)
          have hdir : ∀ d ∈ directs o, listed.getD d false = true := by
            intro d hd
            obtain ⟨e, he, hb, rfl⟩ := mem_directs.1 hd
            exact hall e he hb
          have := getD_false_of (down_aheads hdc hlow i o ho hdir k (htail k hk1))
          rw [this] at hk2; cases hk2
    refine ⟨fun hnil => ?_, fun i hi => ?_⟩
    · exfalso
      cases rest with
      | nil => simp at hlen
      | cons k rest =>
        obtain ⟨hk1, hk2⟩ := (hmem k).1 (by simp)
        have : k ∈ Region.ready .any ops listed := by
          refine mem_ready.2 ⟨hk2, ops[k], by simp, fun e he hb => ?_⟩
          have hd : e.on ∈ directs ops[k] := mem_directs.2 ⟨e, he, hb, rfl⟩
          have hlt := hlow k ops[k] (by simp) _ hd
          have hnot : e.on ∉ k :: rest := by
            intro h
            rcases List.mem_cons.1 h with h | h
            · omega
            · have := List.rel_of_pairwise_cons hpw h; omega
          have := mt (hmem e.on).2 hnot
          rw [Array.getD_eq_getD_getElem?] at this ⊢
          have hin : e.on < listed.size := by omega
          simp [hin] at this ⊢
          have := this (by omega)
          simpa using this
        rw [hnil] at this
        cases this
    · have hir := inRest i hi
      obtain ⟨h1, o, ho, hall⟩ := mem_ready.1 hi
      obtain ⟨xs, ys, hsplit⟩ := List.append_of_mem hir
      obtain ⟨ao, bo, hao, htr, hlike⟩ := hal i o ho
      have hxs : ∀ k ∈ xs, k < i := by
        intro k hk
        rw [hsplit] at hpw
        exact (List.pairwise_append.1 hpw).2.2 k hk i (by simp)
      have hdir : ∀ d ∈ directs o, listed.getD d false = true := by
        intro d hd
        obtain ⟨e, he, hb, rfl⟩ := mem_directs.1 hd
        exact hall e he hb
      have hilt : i < m := ((hmem i).1 hir).1
      have hah := down_aheads hdc hlow i o ho hdir
      have hind : ∀ x ∈ xs.filterMap (l[·]?), apartA x ao = true ∧ meet x.act.cls ao.act.cls = true := by
        intro x hx
        obtain ⟨k, hk, hlk⟩ := List.mem_filterMap.1 hx
        have hpair := (hok1 i (by omega)).2 k (hxs k hk)
        simp only [okPair, hlk, hao, Bool.or_eq_true, Bool.and_eq_true] at hpair
        rcases hpair with h | h
        · exfalso
          have h' := hah k (by simpa using h)
          have hk' := (hmem k).1 (by rw [hsplit]; simp [hk])
          rw [getD_false_of h'] at hk'
          exact absurd hk'.2 (by simp)
        · exact h
      have hrest : rest.filterMap (l[·]?) = xs.filterMap (l[·]?) ++ ao :: ys.filterMap (l[·]?) := by
        rw [hsplit, List.filterMap_append, List.filterMap_cons, hao]
      rw [hrest] at hrun
      have hmemL : ∀ (k : Nat) (x : AOper), l[k]? = some x -> k < ops.size -> x.act.tidy = true ∧ ∃ o b, trO P N ops o = some b ∧ Like x b := by
        intro k x hx hk
        refine ⟨hok2 x (List.mem_of_getElem? hx), ?_⟩
        obtain ⟨ao', bo', k1, k2, k3⟩ := hal k ops[k] (by simp)
        rw [hx] at k1; cases k1
        exact ⟨_, _, k2, k3⟩
      obtain ⟨s', hstep, hrun'⟩ := Runs.front (ops := ops) hind (fun x hx => by
        rcases List.mem_cons.1 hx with rfl | hx
        · exact hmemL i _ hao (by omega)
        · obtain ⟨k, hk, hlk⟩ := List.mem_filterMap.1 hx
          have := ((hmem k).1 (by rw [hsplit]; simp [hk])).1
          exact hmemL k x hlk (by omega)) ⟨B, β, a, w, hr⟩ hrun
      have hnext : ∀ s₂ β' a' w', s₂ = s' -> Rel N B β' s₂ a' w' -> Tr B β s.heap w β' s₂.heap w' -> wpAny P .any ops Q (n + 1) (listed.setIfInBounds i true) a' w' := by
        intro s₂ β' a' w' e k1 k2
        subst e
        have hpw' : (xs ++ ys).Pairwise (· < ·) := by
          rw [hsplit] at hpw
          exact hpw.sublist (by simp)
        have hnd : i ∉ xs ++ ys := by
          rw [hsplit] at hpw
          have h1 := (List.pairwise_append.1 hpw)
          intro h
          rcases List.mem_append.1 h with h | h
          · have := h1.2.2 i h i (by simp); omega
          · have := List.rel_of_pairwise_cons h1.2.1 h; omega
        have hset : ∀ (k : Nat) (d : Bool), k ≠ i -> (listed.setIfInBounds i true).getD k d = listed.getD k d := by
          intro k d hk
          simp [Array.getD_eq_getD_getElem?, Array.getElem?_setIfInBounds_ne (Ne.symm hk)]
        have hseti : ∀ d : Bool, (listed.setIfInBounds i true).getD i d = true := by
          intro d
          simp [Array.getD_eq_getD_getElem?, show i < listed.size by omega]
        refine ih (xs ++ ys) _ (by rw [hsplit] at hlen; simp at hlen ⊢; omega) hpw' (by simp [hsz]) (fun k => ?_) (by rw [hset m true (by omega)]; exact hm) (fun k o' ho' hk d hd => ?_) k1 (by rw [List.filterMap_append]; exact hrun') hv (fun f'' β'' a'' w'' q0 q1 q2 => hQ f'' β'' a'' w'' q0 q1 (k2.trans q2))
        · by_cases e : k = i
          · subst e
            rw [hseti]
            simp [hnd]
          · rw [hset k true e, <- hmem k, hsplit]
            simp [e]
        · by_cases e : k = i
          · subst e
            rw [ho] at ho'; cases ho'
            have := hdir d hd
            by_cases e2 : d = k
            · subst e2; exact hseti _
            · rw [hset d false e2]; exact this
          · rw [hset k false e] at hk
            have := hdc k o' ho' hk d hd
            by_cases e2 : d = i
            · subst e2; exact hseti _
            · rw [hset d false e2]; exact this
      have h := op_sound (Q := Q) htr hlike hr hstep.vc (next := wpAny P .any ops Q (n + 1) (listed.setIfInBounds i true)) hnext
      unfold Go.wpOp
      rw [ho]
      simp only
      split
      · rename_i hw; rw [if_pos hw] at h; exact .inl h
      · rename_i hw; rw [if_neg hw] at h; exact h
def vcActD (P : Program) (act : AAct) (K : AV -> Heap -> Prop) (s : St) : Prop :=
  match act with
  | .p op => bindP (op.run s.env) fun v => K v s.heap
  | .m op => bindP (op.run s.env s.heap) fun r => K r.1 r.2
  | .call f args => match f.ev s.env with
    | .fn g cap => ∃ v H, (ACalls P g (args.map (·.ev s.env) ++ cap) s.heap fun r H' => r = v ∧ H' = H) ∧ K v H
    | _ => False
  | .pcall f args => match f.ev s.env with
    | .fn g cap => ∃ v, PureCall P g (args.map (·.ev s.env) ++ cap) v ∧ K v s.heap
    | _ => False
  | .qcall f args => match f.ev s.env with
    | .fn g cap => ∃ v, (ACalls P g (args.map (·.ev s.env) ++ cap) s.heap fun r H' => r = v ∧ H' = s.heap) ∧ K v s.heap
    | _ => False
  | .never => False
def vcOpD (P : Program) (o : AOper) (K : St -> Prop) (s : St) : Prop :=
  match o.guard with
  | none => vcActD P o.act (fun v H => K (s.put o.dst v H)) s
  | some (g, want) => vcGuard (s.env g) want (vcActD P o.act (fun v H => K (s.put o.dst v H)) s) (K (s.put o.dst unit s.heap))
def vcOpsD (P : Program) : List AOper -> (St -> Prop) -> St -> Prop
  | [], K, s => K s
  | o :: os, K, s => vcOpD P o (vcOpsD P os K) s
theorem vcActD_act {act : AAct} {K : AV -> Heap -> Prop} {s : St} (h : vcActD P act K s) : ∃ v H, DAct P act s v H ∧ K v H := by
  cases act with
  | p op => obtain ⟨v, h1, h2⟩ := h; exact ⟨v, _, ⟨h1, rfl⟩, h2⟩
  | m op => obtain ⟨⟨v, H⟩, h1, h2⟩ := h; exact ⟨v, H, h1, h2⟩
  | call f args =>
    simp only [vcActD] at h
    split at h
    · rename_i g cap hf; obtain ⟨v, H, h1, h2⟩ := h; exact ⟨v, H, ⟨g, cap, hf, h1⟩, h2⟩
    · exact h.elim
  | pcall f args =>
    simp only [vcActD] at h
    split at h
    · rename_i g cap hf; obtain ⟨v, h1, h2⟩ := h; exact ⟨v, _, ⟨g, cap, hf, h1, rfl⟩, h2⟩
    · exact h.elim
  | qcall f args =>
    simp only [vcActD] at h
    split at h
    · rename_i g cap hf; obtain ⟨v, h1, h2⟩ := h; exact ⟨v, _, ⟨g, cap, hf, h1, rfl⟩, h2⟩
    · exact h.elim
  | never => exact h.elim
theorem vcOpD_step {o : AOper} {K : St -> Prop} {s : St} (h : vcOpD P o K s) : ∃ s', DStep P o s s' ∧ K s' := by
  obtain ⟨dst, act, guard, hint⟩ := o
  simp only [vcOpD] at h
  cases guard with
  | none =>
    obtain ⟨v, H, h1, h2⟩ := vcActD_act h
    exact ⟨_, ⟨v, H, .run trivial h1, rfl⟩, h2⟩
  | some p =>
    obtain ⟨g, b⟩ := p
    simp only at h
    unfold vcGuard at h
    split at h
    · rename_i b' he
      split at h
      · rename_i hb
        subst hb
        obtain ⟨v, H, h1, h2⟩ := vcActD_act h
        exact ⟨_, ⟨v, H, .run he h1, rfl⟩, h2⟩
      · rename_i hb
        exact ⟨_, ⟨_, _, .skip (.inl ⟨b', he, hb⟩), rfl⟩, h⟩
    · rename_i vs he
      exact ⟨_, ⟨_, _, .skip (.inr ⟨vs, he⟩), rfl⟩, h⟩
    · exact h.elim
theorem vcOpsD_runs : ∀ {os : List AOper} {K : St -> Prop} {s : St}, vcOpsD P os K s -> ∃ f, Runs P os s f ∧ K f := by
  intro os
  induction os with
  | nil => intro K s h; exact ⟨s, .nil s, h⟩
  | cons o os ih =>
    intro K s h
    obtain ⟨s', h1, h2⟩ := vcOpD_step h
    obtain ⟨f, k1, k2⟩ := ih h2
    exact ⟨f, .cons h1 k1, k2⟩
theorem filterMap_range : ∀ (l pre : List AOper), (List.range' pre.length l.length).filterMap ((pre ++ l)[·]?) = l := by
  intro l
  induction l with
  | nil => intro pre; simp
  | cons x l ih =>
    intro pre
    rw [List.length_cons, List.range'_succ, List.filterMap_cons]
    have h0 : (pre ++ x :: l)[pre.length]? = some x := by simp
    rw [h0]
    have := ih (pre ++ [x])
    rw [List.length_append, List.length_singleton, List.append_assoc, List.singleton_append] at this
    rw [this]
theorem draw_sound {id : Nat} {ops : Array Oper} {l : List AOper} (hm : P.follows .mixedOrders = true) (hok : okDraw ops l = true) (hlen : l.length = ops.size)
    (hal : ∀ (k : Nat) (o : Oper), ops[k]? = some o -> ∃ ao bo, l[k]? = some ao ∧ trO P N ops o = some bo ∧ Like ao bo) {Q : AExit -> St -> Prop} {s : St} (h : vcOpsD P l (Q .normal) s) : AWp P N (.region id ops true) Q s := by
  intro B β a w hr
  obtain ⟨f, hrun, hQ⟩ := vcOpsD_runs h
  have hw : ({ w with drawn := w.drawn + 1 } : World).heap = w.heap := rfl
  have hr' : Rel N B β s a { w with drawn := w.drawn + 1 } := ⟨hr.sim.congr hw, fun t => (hr.rep t).mono (fun _ _ => rfl) (Nat.le_refl _) (fun _ _ _ x => x.congr hw), hr.defers, hr.size⟩
  have ht' : Tr B β s.heap w β s.heap { w with drawn := w.drawn + 1 } := Tr.congr hw rfl rfl rfl
  have hfull : (List.range ops.size).filterMap (l[·]?) = l := by
    have := filterMap_range l []
    rw [List.length_nil, <- List.range_eq_range', hlen, List.nil_append] at this
    exact this
  refine wp_region_any hm (any_sound hok hal ops.size (List.range ops.size) _ (by simp) List.pairwise_lt_range (by simp) (fun k => ?_) (fun k o ho hk d hd => ?_) hr' (by rw [hfull]; exact hrun) (fun β' a' w' k1 k2 => ⟨.normal, f, β', rfl, hQ, k1, ht'.trans k2⟩))
  · simp [Array.getD_eq_getD_getElem?, Array.getElem?_replicate]
    intro hk
    simp [hk]
  · exfalso
    rw [Array.getD_eq_getD_getElem?, Array.getElem?_replicate] at hk
    split at hk <;> simp at hk
theorem fm_congr {α β : Type} {f g : α -> Option β} : ∀ {l : List α}, (∀ x ∈ l, f x = g x) -> l.filterMap f = l.filterMap g := by
  intro l
  induction l with
  | nil => intro _; rfl
  | cons a l ih => intro h; simp [List.filterMap_cons, h a (by simp), ih (fun x hx => h x (by simp [hx]))]
theorem draw_sound_tail' {id : Nat} {ops : Array Oper} {l : List AOper} (hm : P.follows .mixedOrders = true) (hok : okDraw ops l = true) (hlen : l.length = ops.size) (ht : tailOp ops l = true)
    (hal : ∀ (k : Nat) (o : Oper), ops[k]? = some o -> ∃ ao bo, l[k]? = some ao ∧ trO P N ops o = some bo ∧ Like ao bo) {Q : AExit -> St -> Prop} {s : St} {K : St -> Prop}
    (hK : ∀ f', K f' -> ∃ f₁, (∀ B β a w, Rel N B β f' a w -> ∃ β₁, Rel N B β₁ f₁ a w ∧ Tr B β f'.heap w β₁ f₁.heap w) ∧ Q .normal f₁)
    {x : AOper} (hx : l.drop (l.length - 1) = [x]) {f : St} (hrun : Runs P l.dropLast s f) (hv : ∃ f₁, (∀ B β a w, Rel N B β f a w -> ∃ β₁, Rel N B β₁ f₁ a w ∧ Tr B β f.heap w β₁ f₁.heap w) ∧ vcOp P x K f₁) : AWp P N (.region id ops true) Q s := by
  intro B β a w hr
  simp only [tailOp, Bool.and_eq_true, List.all_eq_true, List.mem_range] at ht
  obtain ⟨ht1, ht2⟩ := ht
  have hne : l ≠ [] := by
    intro e; subst e; simp at ht1
  have hpos : 0 < l.length := List.length_pos_iff.2 hne
  obtain ⟨m, hm1⟩ : ∃ m, l.length = m + 1 := ⟨l.length - 1, by omega⟩
  have hml : m < l.length := by omega
  have hdrop : l.drop (l.length - 1) = [l[m]] := by
    rw [hm1, Nat.add_sub_cancel, List.drop_eq_getElem_cons hml, List.drop_eq_nil_iff.2 (by omega)]
  rw [hdrop] at hx
  cases hx
  have hw : ({ w with drawn := w.drawn + 1 } : World).heap = w.heap := rfl
  have hr' : Rel N B β s a { w with drawn := w.drawn + 1 } := ⟨hr.sim.congr hw, fun t => (hr.rep t).mono (fun _ _ => rfl) (Nat.le_refl _) (fun _ _ _ x => x.congr hw), hr.defers, hr.size⟩
  have ht' : Tr B β s.heap w β s.heap { w with drawn := w.drawn + 1 } := Tr.congr hw rfl rfl rfl
  have hfull : (List.range m).filterMap (l[·]?) = l.dropLast := by
    have := filterMap_range l.dropLast []
    rw [List.length_nil, <- List.range_eq_range', List.nil_append, List.length_dropLast, hm1, Nat.add_sub_cancel] at this
    rw [<- this]
    refine fm_congr fun k hk => ?_
    have hk := List.mem_range.1 hk
    rw [List.dropLast_eq_take, hm1, Nat.add_sub_cancel, List.getElem?_take_of_lt hk]
  have e1 : ops.size = m + 1 := by omega
  refine wp_region_any hm ?_
  suffices hh : ∀ n, n = m + 1 -> wpAny P .any ops (fun e a' w' => ∃ x s' β', e = x.to ∧ Q x s' ∧ Rel N B β' s' a' w' ∧ Tr B β s.heap w β' s'.heap w') n (Array.replicate ops.size false) a { w with drawn := w.drawn + 1 } from hh _ e1
  rintro n rfl
  refine any_sound_tail (P := P) (N := N) (ops := ops) (l := l) e1 hok hal (fun i hi => by have := ht2 i (by omega); rw [hm1, Nat.add_sub_cancel] at this; simpa using this) (am := l[m]) (by simp)
    (K := K) m (List.range m) (Array.replicate ops.size false) (by simp) List.pairwise_lt_range (by simp) (fun k => ?_) ?_ (fun k o ho hk d hd => ?_) hr' (by rw [hfull]; exact hrun) hv
    (fun f' β' a' w' k0 k1 k2 => by
      obtain ⟨f₁, hn, hq⟩ := hK f' k0
      obtain ⟨β₁, hr₁, ht₁⟩ := hn B β' a' w' k1
      exact ⟨.normal, f₁, β₁, rfl, hq, hr₁, ht'.trans (k2.trans ht₁)⟩)
  · simp [Array.getD_eq_getD_getElem?, Array.getElem?_replicate]
    intro hk
    rw [if_pos (by omega)]; rfl
  · simp [Array.getD_eq_getD_getElem?, Array.getElem?_replicate, e1]
  · exfalso
    rw [Array.getD_eq_getD_getElem?, Array.getElem?_replicate] at hk
    split at hk <;> simp at hk
theorem tail_last {ops : Array Oper} {l : List AOper} (ht : tailOp ops l = true) : ∃ x, l.drop (l.length - 1) = [x] := by
  simp only [tailOp, Bool.and_eq_true] at ht
  cases h : l.getLast? with
  | none => rw [h] at ht; simp at ht
  | some x =>
    refine ⟨x, ?_⟩
    have hpos : 0 < l.length := by
      rcases Nat.eq_zero_or_pos l.length with e | e
      · rw [List.length_eq_zero_iff.1 e] at h; simp at h
      · exact e
    rw [List.getLast?_eq_getElem?] at h
    obtain ⟨h1, h2⟩ := List.getElem?_eq_some_iff.1 h
    rw [List.drop_eq_getElem_cons h1, h2, List.drop_eq_nil_iff.2 (by omega)]
theorem draw_sound_tail {id : Nat} {ops : Array Oper} {l : List AOper} (hm : P.follows .mixedOrders = true) (hok : okDraw ops l = true) (hlen : l.length = ops.size) (ht : tailOp ops l = true)
    (hal : ∀ (k : Nat) (o : Oper), ops[k]? = some o -> ∃ ao bo, l[k]? = some ao ∧ trO P N ops o = some bo ∧ Like ao bo) {Q : AExit -> St -> Prop} {s : St} (h : vcOpsD P l.dropLast (vcOps P (l.drop (l.length - 1)) (Q .normal)) s) : AWp P N (.region id ops true) Q s := by
  obtain ⟨x, hx⟩ := tail_last ht
  rw [hx] at h
  obtain ⟨f, hrun, hv⟩ := vcOpsD_runs h
  refine draw_sound_tail' hm hok hlen ht hal (K := Q .normal) (fun f' h => ⟨f', fun B β a w hr => ⟨β, hr, Tr.refl _ _ _ _⟩, h⟩) hx hrun ⟨f, fun B β a w hr => ⟨β, hr, Tr.refl _ _ _ _⟩, hv⟩
end
end Go.Ab
/-
  Regions in whatever order, where an operation that changes memory may change places with loads of what it keeps.
-/
namespace Go.Ab
open Go Go.RowKit
set_option linter.unusedVariables false
set_option linter.unusedSimpArgs false
def AAct.isLoad : AAct -> Bool
  | .m (.load _ _) => true
  | _ => false
def kPair (x y : AAct) : Bool := (x.isLoad && y.cls == .w) || (x.cls == .w && y.isLoad)
def okPairK (l : List AOper) (ms : List Bool) (ah : List (List Nat)) (i j : Nat) : Bool :=
  match l[i]?, l[j]? with
  | some x, some y => (ah.getD j []).contains i || (apartA x y && (meet x.act.cls y.act.cls || (ms.getD i false && ms.getD j false && kPair x.act y.act)))
  | _, _ => true
def okDrawK (ops : Array Oper) (l : List AOper) (ms : List Bool) : Bool :=
  ((List.range ops.size).all fun j => ((directs (ops.getD j default)).all fun d => decide (d < j)) && (List.range j).all fun i => okPairK l ms (aheads ops.toList) i j) && l.all fun o => o.act.tidy
def marksK (ops : Array Oper) (l : List AOper) : List Bool :=
  let ah := aheads ops.toList
  l.zipIdx.map fun (x, i) => l.zipIdx.any fun (y, j) => i != j && !((ah.getD j []).contains i) && !((ah.getD i []).contains j) && kPair x.act y.act
def CondK (R : List Nat) (m : Bool) (act : AAct) (s : St) (H : Heap) : Prop :=
  m = true -> (match act with | .m (.load _ x) => ∀ o off, x.ev s.env = .ptr o off -> o ∈ R | _ => True) ∧ (act.cls = .w -> ∀ q ∈ R, H[q]? = s.heap[q]?)
inductive DEffK (P : Program) (R : List Nat) (m : Bool) (o : AOper) (s : St) : AV -> Heap -> Prop
  | run {v : AV} {H : Heap} (hg : wantA o s) (h : DAct P o.act s v H) (c : CondK R m o.act s H) : DEffK P R m o s v H
  | skip (hg : waitA o s) : DEffK P R m o s unit s.heap
theorem DEffK.eff {P : Program} {R : List Nat} {m : Bool} {o : AOper} {s : St} {v : AV} {H : Heap} (h : DEffK P R m o s v H) : DEff P o s v H := by
  cases h with
  | run hg h c => exact .run hg h
  | skip hg => exact .skip hg
def DStepK (P : Program) (R : List Nat) (o : AOper × Bool) (s s' : St) : Prop := ∃ v H, DEffK P R o.2 o.1 s v H ∧ s' = s.put o.1.dst v H
theorem DStepK.step {P : Program} {R : List Nat} {o : AOper × Bool} {s s' : St} (h : DStepK P R o s s') : DStep P o.1 s s' := by
  obtain ⟨v, H, h, e⟩ := h
  exact ⟨v, H, h.eff, e⟩
inductive RunsK (P : Program) (R : List Nat) : List (AOper × Bool) -> St -> St -> Prop
  | nil (s : St) : RunsK P R [] s s
  | cons {o : AOper × Bool} {os : List (AOper × Bool)} {s s₁ s₂ : St} (h : DStepK P R o s s₁) (t : RunsK P R os s₁ s₂) : RunsK P R (o :: os) s s₂
section
variable {P : Program} {N : Nat} {R : List Nat}
theorem wantA_agree {o : AOper} {s s' : St} (he : Agree o.reads s.env s'.env) : wantA o s ↔ wantA o s' := by
  unfold wantA
  unfold AOper.reads at he
  split
  · simp
  · rename_i g b hg
    rw [hg] at he
    rw [he g (by simp)]
theorem DEffK.of {m : Bool} {o : AOper} {s : St} {v : AV} {H : Heap} (h : DEff P o s v H) (c : wantA o s -> CondK R m o.act s H) : DEffK P R m o s v H := by
  cases h with
  | run hg h => exact .run hg h (c hg)
  | skip hg => exact .skip hg
theorem DEffK.cond {m : Bool} {o : AOper} {s : St} {v : AV} {H : Heap} (h : DEffK P R m o s v H) (hw : wantA o s) : CondK R m o.act s H := by
  cases h with
  | run hg h c => exact c
  | skip hg =>
    exfalso
    unfold wantA at hw
    unfold waitA at hg
    split at hg
    · exact hg
    · rename_i g b hgd
      rw [hgd] at hw
      simp only at hw
      rcases hg with ⟨b', h1, h2⟩ | ⟨vs, h1⟩
      · rw [hw] at h1; injection h1 with h1; injection h1 with h1; exact h2 h1.symm
      · rw [hw] at h1; injection h1 with h1; cases h1
theorem CondK.move {m : Bool} {act : AAct} {s s' : St} {H H' : Heap} (c : CondK R m act s H) (he : Agree act.slots s.env s'.env) (hw : act.cls = .w -> H' = H ∧ s'.heap = s.heap) : CondK R m act s' H' := by
  intro hm
  obtain ⟨c1, c2⟩ := c hm
  refine ⟨?_, fun hc => ?_⟩
  · cases act with
    | m op =>
      cases op <;> simp only
      rename_i l x
      intro o off h
      exact c1 o off (by rw [AX.ev_agree (e' := s'.env) he]; exact h)
    | _ => trivial
  · obtain ⟨h1, h2⟩ := hw hc
    rw [h1, h2]; exact c2 hc
theorem act_slots_reads {o : AOper} {e e' : Env} (h : Agree o.reads e e') : Agree o.act.slots e e' := fun t ht => h t (by unfold AOper.reads; exact List.mem_append_left _ ht)
theorem DEff.load_keep {o : AOper} (hl : o.act.isLoad = true) {s s' : St} {v : AV} (he : Agree o.reads s.env s'.env) (h : DEff P o s v s.heap) (hk : wantA o s -> ∀ l x, o.act = .m (.load l x) -> ∀ p off, x.ev s.env = .ptr p off -> s'.heap[p]? = s.heap[p]?) : DEff P o s' v s'.heap := by
  obtain ⟨dst, act, guard, hint⟩ := o
  cases act with
  | m op =>
    cases op <;> simp [AAct.isLoad] at hl
    rename_i l x
    generalize hH : s.heap = H0 at h
    cases h with
    | run hg h =>
      refine .run ((wantA_agree he).1 hg) ?_
      have hk := hk hg l x rfl
      have hx : x.ev s.env = x.ev s'.env := AX.ev_agree (act_slots_reads he)
      simp only [DAct, MOp.run, Option.map_eq_some_iff] at h ⊢
      obtain ⟨u, h1, h2⟩ := h
      cases h2
      refine ⟨_, ?_, rfl⟩
      rw [<- hx, <- h1]
      unfold readA
      split
      · rename_i p off hp
        simp only [hp, hk p off hp]
      · rename_i y hp
        simp only [hp]
      · rfl
    | skip hg => exact .skip (by
        unfold waitA at hg ⊢
        cases guard with
        | none => exact hg
        | some p =>
          simp only at hg ⊢
          rw [<- he p.1 (by simp [AOper.reads])]
          exact hg)
  | _ => simp [AAct.isLoad] at hl
theorem DEff.loads_heap {o : AOper} (hl : o.act.isLoad = true) {s : St} {v : AV} {H : Heap} (h : DEff P o s v H) : H = s.heap := by
  have : o.act.cls = .r := by
    obtain ⟨dst, act, guard, hint⟩ := o
    cases act with
    | m op => cases op <;> simp [AAct.isLoad] at hl; rfl
    | _ => simp [AAct.isLoad] at hl
  exact h.reads this
theorem load_cls {a : AAct} (h : a.isLoad = true) : a.cls = .r := by
  cases a with
  | m op => cases op <;> simp [AAct.isLoad] at h; rfl
  | _ => simp [AAct.isLoad] at h
theorem swapK {x y : AOper} {mx my : Bool} (hap : apartA x y = true) (hm : meet x.act.cls y.act.cls = true ∨ (mx = true ∧ my = true ∧ kPair x.act y.act = true)) (hx : x.act.tidy = true) (hy : y.act.tidy = true) {s s₁ s₂ : St} (hl : Live N s) (h1 : DStepK P R (x, mx) s s₁) (h2 : DStepK P R (y, my) s₁ s₂) :
    ∃ s', DStepK P R (y, my) s s' ∧ DStepK P R (x, mx) s' s₂ := by
  obtain ⟨vx, Hx, kx, rfl⟩ := h1
  obtain ⟨vy, Hy, ky, rfl⟩ := h2
  have ex : DEff P x s vx Hx := kx.eff
  have ey : DEff P y (s.put x.dst vx Hx) vy Hy := ky.eff
  have a1 : ∀ d, x.dst = some d -> d ∉ y.reads := by
    intro d hd; simp [apartA, hd] at hap; exact hap.1.1
  have a2 : ∀ d, x.dst = some d -> y.dst ≠ some d := by
    intro d hd; simp [apartA, hd] at hap; exact hap.1.2
  have a3 : ∀ d, y.dst = some d -> d ∉ x.reads := by
    intro d hd; simp [apartA, hd] at hap; exact hap.2
  have hey : Agree y.reads (s.put x.dst vx Hx).env s.env := put_agree a1
  have hex : ∀ v H, Agree x.reads s.env (s.put y.dst v H).env := fun v H t ht => (put_agree a3 t ht).symm
  have fin : ∀ (H' : Heap), DEff P y s vy H' -> DEff P x (s.put y.dst vy H') vx Hy -> (y.act.cls = .w -> H' = Hy ∧ Hx = s.heap) -> (x.act.cls = .w -> Hy = Hx ∧ H' = s.heap) -> ∃ s', DStepK P R (y, my) s s' ∧ DStepK P R (x, mx) s' ((s.put x.dst vx Hx).put y.dst vy Hy) := by
    intro H' k1 k2 w1 w2
    refine ⟨s.put y.dst vy H', ⟨vy, H', .of k1 fun hw => ?_, rfl⟩, vx, Hy, .of k2 fun hw => ?_, ?_⟩
    · exact (ky.cond ((wantA_agree hey).2 hw)).move (act_slots_reads hey) fun hc => ⟨(w1 hc).1, (w1 hc).2.symm⟩
    · exact (kx.cond ((wantA_agree (hex vy H')).2 hw)).move (act_slots_reads (hex vy H')) fun hc => ⟨(w2 hc).1, (w2 hc).2⟩
    · have := put_comm (s := s) (d := x.dst) (e := y.dst) (v := vx) (u := vy) (H := Hx) (H' := Hy) (H'' := H') a2
      have e1 : (s.put x.dst vx Hx).put y.dst vy Hy = ⟨((s.put x.dst vx Hx).put y.dst vy Hy).env, Hy⟩ := rfl
      have e2 : (s.put y.dst vy H').put x.dst vx Hy = ⟨((s.put y.dst vy H').put x.dst vx Hy).env, Hy⟩ := rfl
      simp only
      rw [e1, e2, this]
  -- y does not look at memory
  have case1 : y.act.cls = .p -> ∃ s', DStepK P R (y, my) s s' ∧ DStepK P R (x, mx) s' ((s.put x.dst vx Hx).put y.dst vy Hy) := by
    intro hc
    have k := ey.anywhere hc (s' := s) hey
    have : Hy = Hx := k.1
    refine fin s.heap k.2 ?_ (fun h => by rw [hc] at h; cases h) (fun _ => ⟨this, rfl⟩)
    rw [this]
    exact ex.agree (hex _ _) rfl
  -- x does not
  have case2 : x.act.cls = .p -> ∃ s', DStepK P R (y, my) s s' ∧ DStepK P R (x, mx) s' ((s.put x.dst vx Hx).put y.dst vy Hy) := by
    intro hc
    have hHx : Hx = s.heap := (ex.anywhere hc (s' := s) (fun _ _ => rfl)).1
    subst hHx
    refine fin Hy (ey.agree hey rfl) ?_ (fun _ => ⟨rfl, rfl⟩) (fun h => by rw [hc] at h; cases h)
    exact (ex.anywhere hc (s' := s.put y.dst vy Hy) (hex _ _)).2
  have cq : (x.act.cls = .q ∨ x.act.cls = .r ∨ x.act.cls = .s) -> (y.act.cls = .q ∨ y.act.cls = .r ∨ y.act.cls = .s) -> ∃ s', DStepK P R (y, my) s s' ∧ DStepK P R (x, mx) s' ((s.put x.dst vx Hx).put y.dst vy Hy) := by
    intro hcx hcy
    have hHx : Hx = s.heap := hcx.elim ex.still (fun h => h.elim ex.reads ex.stays)
    subst hHx
    have hHy : Hy = s.heap := hcy.elim ey.still (fun h => h.elim ey.reads ey.stays)
    subst hHy
    exact fin s.heap (ey.agree hey rfl) (ex.agree (hex _ _) rfl) (fun h => ⟨rfl, rfl⟩) (fun h => ⟨rfl, rfl⟩)
  have cra : x.act.cls = .r -> y.act.cls = .a -> ∃ s', DStepK P R (y, my) s s' ∧ DStepK P R (x, mx) s' ((s.put x.dst vx Hx).put y.dst vy Hy) := by
    intro hcx hcy
    have hHx := ex.reads hcx
    subst hHx
    rcases ey.makes hcy with hHy | ⟨ob, hHy⟩
    · have hHy : Hy = s.heap := hHy
      subst hHy
      exact fin s.heap (ey.agree hey rfl) (ex.agree (hex _ _) rfl) (fun h => ⟨rfl, rfl⟩) (fun h => ⟨rfl, rfl⟩)
    · have hHy : Hy = s.heap ++ [ob] := hHy
      refine fin Hy (ey.agree hey rfl) ?_ (fun _ => ⟨rfl, rfl⟩) (fun h => by rw [hcx] at h; cases h)
      have k := (DEff.reads_push (P := P) hcx hx (s := s) (s' := s.put y.dst vy Hy) (hex _ _) hHy hl vx).1 ex
      exact k
  have car : x.act.cls = .a -> y.act.cls = .r -> ∃ s', DStepK P R (y, my) s s' ∧ DStepK P R (x, mx) s' ((s.put x.dst vx Hx).put y.dst vy Hy) := by
    intro hcx hcy
    have hHy : Hy = Hx := ey.reads hcy
    subst hHy
    rcases ex.makes hcx with hHx | ⟨ob, hHx⟩
    · subst hHx
      exact fin s.heap (ey.agree hey rfl) (ex.agree (hex _ _) rfl) (fun h => ⟨rfl, rfl⟩) (fun h => ⟨rfl, rfl⟩)
    · have k : DEff P y s vy s.heap := (DEff.reads_push hcy hy (s := s) (s' := s.put x.dst vx Hy) (fun t ht => (hey t ht).symm) hHx hl vy).2 ey
      exact fin s.heap k (ex.agree (hex _ _) rfl) (fun h => by rw [hcy] at h; cases h) (fun h => by rw [hcx] at h; cases h)
  have cqa : x.act.cls = .q -> y.act.cls = .a -> ∃ s', DStepK P R (y, my) s s' ∧ DStepK P R (x, mx) s' ((s.put x.dst vx Hx).put y.dst vy Hy) := by
    intro hcx hcy
    have hHx := ex.still hcx
    subst hHx
    rcases ey.makesC hcy with hHy | ⟨ob, hHy, hob⟩
    · have hHy : Hy = s.heap := hHy
      subst hHy
      exact fin s.heap (ey.agree hey rfl) (ex.agree (hex _ _) rfl) (fun h => ⟨rfl, rfl⟩) (fun h => ⟨rfl, rfl⟩)
    · have hHy : Hy = s.heap ++ [ob] := hHy
      refine fin Hy (ey.agree hey rfl) ?_ (fun _ => ⟨rfl, rfl⟩) (fun h => by rw [hcx] at h; cases h)
      exact DEff.still_push (P := P) hcx hx (s := s) (s' := s.put y.dst vy Hy) (hex _ _) hob hHy hl ex
  rcases hm with hm | ⟨hmx, hmy, hk⟩
  · have cr := fun h1 h2 => cq (.inr (.inl h1)) (.inr (.inl h2))
    revert hm case1 case2 cq cr cra car cqa
    cases x.act.cls <;> cases y.act.cls <;> simp [meet] <;> intros <;> assumption
  · subst hmx hmy
    simp only [kPair, Bool.or_eq_true, Bool.and_eq_true, beq_iff_eq] at hk
    rcases hk with ⟨kl, kw⟩ | ⟨kw, kl⟩
    · -- x loads, y writes
      have hHx := ex.loads_heap kl
      subst hHx
      have hy' : DEff P y s vy Hy := ey.agree hey rfl
      refine fin Hy hy' (ex.load_keep kl (hex _ _) fun hw l a ha p off hp => ?_) (fun _ => ⟨rfl, rfl⟩) (fun h => by rw [load_cls kl] at h; cases h)
      have c1 := (kx.cond hw rfl).1
      rw [ha] at c1
      by_cases hwy : wantA y (s.put x.dst vx s.heap)
      · exact (ky.cond hwy rfl).2 kw p (c1 p off hp)
      · cases ey with
        | run hg _ => exact absurd hg hwy
        | skip hg => rfl
    · -- x writes, y loads
      have hHy : Hy = Hx := ey.loads_heap kl
      subst hHy
      have keep : wantA y (s.put x.dst vx Hy) -> ∀ l a, y.act = .m (.load l a) -> ∀ p off, a.ev (s.put x.dst vx Hy).env = .ptr p off -> s.heap[p]? = (s.put x.dst vx Hy).heap[p]? := by
        intro hw l a ha p off hp
        have c1 := (ky.cond hw rfl).1
        rw [ha] at c1
        by_cases hwx : wantA x s
        · exact ((kx.cond hwx rfl).2 kw p (c1 p off hp)).symm
        · cases ex with
          | run hg _ => exact absurd hg hwx
          | skip hg => rfl
      exact fin s.heap (DEff.load_keep (s := s.put x.dst vx Hy) (s' := s) kl hey ey keep) (ex.agree (hex _ _) rfl) (fun h => by rw [load_cls kl] at h; cases h) (fun _ => ⟨rfl, rfl⟩)
theorem RunsK.front {ops : Array Oper} : ∀ {xs : List (AOper × Bool)} {y : AOper × Bool} {ys : List (AOper × Bool)} {s f : St}, (∀ x ∈ xs, apartA x.1 y.1 = true ∧ (meet x.1.act.cls y.1.act.cls = true ∨ (x.2 = true ∧ y.2 = true ∧ kPair x.1.act y.1.act = true))) -> (∀ x ∈ y :: xs, x.1.act.tidy = true ∧ ∃ o b, trO P N ops o = some b ∧ Like x.1 b) ->
    Live N s -> RunsK P R (xs ++ y :: ys) s f -> ∃ s', DStepK P R y s s' ∧ RunsK P R (xs ++ ys) s' f := by
  intro xs
  induction xs with
  | nil => intro y ys s f _ _ _ h; cases h with | cons h1 h2 => exact ⟨_, h1, h2⟩
  | cons x xs ih =>
    intro y ys s f hind hok hl h
    cases h with
    | @cons _ _ _ s₁ _ h1 h2 =>
      obtain ⟨htx, o, b, htr, hlike⟩ := hok x (by simp)
      have hl1 := h1.step.live htr hlike hl
      obtain ⟨s₂, k1, k2⟩ := ih (fun z hz => hind z (by simp [hz])) (fun z hz => hok z (by
        rcases List.mem_cons.1 hz with h | h
        · simp [h]
        · simp [h])) hl1 h2
      obtain ⟨hap, hm⟩ := hind x (by simp)
      obtain ⟨s', q1, q2⟩ := swapK hap hm htx (hok y (by simp)).1 hl h1 k1
      exact ⟨s', q1, .cons q2 k2⟩
structure Left (ops : Array Oper) (rest : List Nat) (listed : Array Bool) : Prop where
  asc : rest.Pairwise (· < ·)
  size : listed.size = ops.size
  mem : ∀ k, k ∈ rest ↔ k < ops.size ∧ listed.getD k true = false
  down : DownClosed ops listed
def Lows (ops : Array Oper) : Prop := ∀ (k : Nat) (o : Oper), ops[k]? = some o -> ∀ d ∈ directs o, d < k
theorem lt_size {ops : Array Oper} {k : Nat} {o : Oper} (h : ops[k]? = some o) : k < ops.size := by
  rcases Nat.lt_or_ge k ops.size with h' | h'
  · exact h'
  · simp [Array.getElem?_eq_none h'] at h
theorem Left.none {ops : Array Oper} {listed : Array Bool} (L : Left ops [] listed) : Region.ready .any ops listed = [] := by
  cases hrd : Region.ready .any ops listed with
  | nil => rfl
  | cons i is =>
    have hi : i ∈ Region.ready .any ops listed := by rw [hrd]; simp
    obtain ⟨h1, o, ho, _⟩ := mem_ready.1 hi
    exact absurd ((L.mem i).2 ⟨lt_size ho, h1⟩) (by simp)
theorem Left.some {ops : Array Oper} {k : Nat} {rest : List Nat} {listed : Array Bool} (L : Left ops (k :: rest) listed) (hlow : Lows ops) : Region.ready .any ops listed ≠ [] := by
  intro hnil
  obtain ⟨hk1, hk2⟩ := (L.mem k).1 (by simp)
  have : k ∈ Region.ready .any ops listed := by
    refine mem_ready.2 ⟨hk2, ops[k], by simp, fun e he hb => ?_⟩
    have hd : e.on ∈ directs ops[k] := mem_directs.2 ⟨e, he, hb, rfl⟩
    have hlt := hlow k ops[k] (by simp) _ hd
    have hnot : e.on ∉ k :: rest := by
      intro h
      rcases List.mem_cons.1 h with h | h
      · omega
      · have := List.rel_of_pairwise_cons L.asc h; omega
    have := mt (L.mem e.on).2 hnot
    have hsz := L.size
    rw [Array.getD_eq_getD_getElem?] at this ⊢
    have hin : e.on < listed.size := by omega
    simp [hin] at this ⊢
    have := this (by omega)
    simpa using this
  rw [hnil] at this
  cases this
theorem Left.pick {ops : Array Oper} {rest : List Nat} {listed : Array Bool} (L : Left ops rest listed) (hlow : Lows ops) {i : Nat} (hi : i ∈ Region.ready .any ops listed) :
    ∃ o xs ys, ops[i]? = Option.some o ∧ rest = xs ++ i :: ys ∧ (∀ k ∈ xs, k < i) ∧ (∀ k ∈ ys, i < k) ∧ (∀ k ∈ (aheads ops.toList).getD i [], k ∉ rest) ∧ Left ops (xs ++ ys) (listed.setIfInBounds i true) := by
  obtain ⟨h1, o, ho, hall⟩ := mem_ready.1 hi
  have hilt := lt_size ho
  have hir : i ∈ rest := (L.mem i).2 ⟨hilt, h1⟩
  obtain ⟨xs, ys, hsplit⟩ := List.append_of_mem hir
  have hpw := L.asc
  rw [hsplit] at hpw
  have hdir : ∀ d ∈ directs o, listed.getD d false = true := by
    intro d hd
    obtain ⟨e, he, hb, rfl⟩ := mem_directs.1 hd
    exact hall e he hb
  have hah := down_aheads L.down hlow i o ho hdir
  refine ⟨o, xs, ys, ho, hsplit, fun k hk => (List.pairwise_append.1 hpw).2.2 k hk i (by simp), fun k hk => List.rel_of_pairwise_cons (List.pairwise_append.1 hpw).2.1 hk, fun k hk hkr => ?_, ?_⟩
  · have := ((L.mem k).1 hkr).2
    rw [getD_false_of (hah k hk)] at this
    cases this
  · have hnd : i ∉ xs ++ ys := by
      have h1 := (List.pairwise_append.1 hpw)
      intro h
      rcases List.mem_append.1 h with h | h
      · have := h1.2.2 i h i (by simp); omega
      · have := List.rel_of_pairwise_cons h1.2.1 h; omega
    have hset : ∀ (k : Nat) (d : Bool), k ≠ i -> (listed.setIfInBounds i true).getD k d = listed.getD k d := by
      intro k d hk
      simp [Array.getD_eq_getD_getElem?, Array.getElem?_setIfInBounds_ne (Ne.symm hk)]
    have hseti : ∀ d : Bool, (listed.setIfInBounds i true).getD i d = true := by
      intro d
      have := L.size
      simp [Array.getD_eq_getD_getElem?, show i < listed.size by omega]
    refine ⟨hpw.sublist (by simp), by simp [L.size], fun k => ?_, fun k o' ho' hk d hd => ?_⟩
    · by_cases e : k = i
      · subst e
        rw [hseti]
        simp [hnd]
      · rw [hset k true e, <- L.mem k, hsplit]
        simp [e]
    · by_cases e : k = i
      · subst e
        rw [ho] at ho'; cases ho'
        have := hdir d hd
        by_cases e2 : d = k
        · subst e2; exact hseti _
        · rw [hset d false e2]; exact this
      · rw [hset k false e] at hk
        have := L.down k o' ho' hk d hd
        by_cases e2 : d = i
        · subst e2; exact hseti _
        · rw [hset d false e2]; exact this
def at' (l : List AOper) (ms : List Bool) (rest : List Nat) : List (AOper × Bool) := rest.filterMap fun k => (l[k]?).map (·, ms.getD k false)
theorem at_split {l : List AOper} {ms : List Bool} {xs ys : List Nat} {i : Nat} {ao : AOper} (h : l[i]? = some ao) : at' l ms (xs ++ i :: ys) = at' l ms xs ++ (ao, ms.getD i false) :: at' l ms ys := by
  unfold at'
  rw [List.filterMap_append, List.filterMap_cons, h]
  rfl
theorem at_append {l : List AOper} {ms : List Bool} {xs ys : List Nat} : at' l ms (xs ++ ys) = at' l ms xs ++ at' l ms ys := by
  unfold at'
  rw [List.filterMap_append]
def Pairs (ops : Array Oper) (l : List AOper) (ms : List Bool) (rest : List Nat) : Prop := ∀ i j, i < j -> i ∈ rest -> j ∈ rest -> okPairK l ms (aheads ops.toList) i j = true
def Als (P : Program) (N : Nat) (ops : Array Oper) (l : List AOper) : Prop := ∀ (k : Nat) (o : Oper), ops[k]? = some o -> ∃ ao bo, l[k]? = some ao ∧ trO P N ops o = some bo ∧ Like ao bo ∧ ao.act.tidy = true
theorem okPairK_free {l : List AOper} {ms : List Bool} {ah : List (List Nat)} {i j : Nat} {x y : AOper} (h : okPairK l ms ah i j = true) (hx : l[i]? = some x) (hy : l[j]? = some y) (hn : i ∉ ah.getD j []) :
    apartA x y = true ∧ (meet x.act.cls y.act.cls = true ∨ (ms.getD i false = true ∧ ms.getD j false = true ∧ kPair x.act y.act = true)) := by
  simp only [okPairK, hx, hy, Bool.or_eq_true, Bool.and_eq_true, and_assoc] at h
  rcases h with h | h
  · exact absurd (by simpa using h) hn
  · exact h
theorem Als.front {ops : Array Oper} {l : List AOper} {ms : List Bool} (hal : Als P N ops l) {xs ys : List Nat} {i : Nat} {o : Oper} {ao : AOper} (ho : ops[i]? = some o) (hao : l[i]? = some ao) (hxs : ∀ k ∈ xs, k < ops.size)
    (hp : ∀ k ∈ xs, k < i ∧ okPairK l ms (aheads ops.toList) k i = true ∧ k ∉ (aheads ops.toList).getD i []) {s f : St} (hl : Live N s) (h : RunsK P R (at' l ms (xs ++ i :: ys)) s f) :
    ∃ s', DStepK P R (ao, ms.getD i false) s s' ∧ RunsK P R (at' l ms (xs ++ ys)) s' f := by
  rw [at_split hao] at h
  have memL : ∀ (k : Nat) (x : AOper), l[k]? = some x -> k < ops.size -> x.act.tidy = true ∧ ∃ o b, trO P N ops o = some b ∧ Like x b := by
    intro k x hx hk
    obtain ⟨ao', bo', k1, k2, k3, k4⟩ := hal k ops[k] (by simp)
    rw [hx] at k1; cases k1
    exact ⟨k4, _, _, k2, k3⟩
  obtain ⟨s', h1, h2⟩ := RunsK.front (ops := ops) (fun x hx => by
    obtain ⟨k, hk, hlk⟩ := List.mem_filterMap.1 hx
    obtain ⟨x0, hlk2, rfl⟩ := Option.map_eq_some_iff.1 hlk
    obtain ⟨_, h2, h3⟩ := hp k hk
    exact okPairK_free h2 hlk2 hao h3) (fun x hx => by
    rcases List.mem_cons.1 hx with rfl | hx
    · exact memL i _ hao (lt_size ho)
    · obtain ⟨k, hk, hlk⟩ := List.mem_filterMap.1 hx
      obtain ⟨x0, hlk2, rfl⟩ := Option.map_eq_some_iff.1 hlk
      exact memL k x0 hlk2 (hxs k hk)) hl h
  exact ⟨s', h1, by rw [at_append]; exact h2⟩
theorem wpOp_of {ops : Array Oper} {i : Nat} {o : Oper} {ao bo : AOper} (ho : ops[i]? = some o) (htr : trO P N ops o = some bo) (hlike : Like ao bo) {B : Nat} {β : Lies} {s s' : St} {a : Act} {w : World} (hr : Rel N B β s a w) (hs : DStep P ao s s')
    {next : Act -> World -> Prop} {Q : Exit -> Act -> World -> Prop} (hk : ∀ β' a' w', Rel N B β' s' a' w' -> Tr B β s.heap w β' s'.heap w' -> next a' w') : Go.wpOp P ops Q i next a w := by
  have h := op_sound (Q := Q) htr hlike hr hs.vc (next := next) fun s₂ β' a' w' e k1 k2 => by subst e; exact hk β' a' w' k1 k2
  unfold Go.wpOp
  rw [ho]
  simp only
  split
  · rename_i hw; rw [if_pos hw] at h; exact .inl h
  · rename_i hw; rw [if_neg hw] at h; exact h
theorem mem_mid {xs ys : List Nat} {i k : Nat} (h : k ∈ xs ++ ys) : k ∈ xs ++ i :: ys := by
  rcases List.mem_append.1 h with h | h <;> simp [h]
theorem any_soundK {ops : Array Oper} {l : List AOper} {ms : List Bool} (hlow : Lows ops) (hal : Als P N ops l) :
    ∀ (n : Nat) (rest : List Nat) (listed : Array Bool), rest.length = n -> Left ops rest listed -> Pairs ops l ms rest ->
    ∀ {B : Nat} {β : Lies} {s f : St} {a : Act} {w : World} {Q : Exit -> Act -> World -> Prop} (hr : Rel N B β s a w), RunsK P R (at' l ms rest) s f ->
      (∀ β' a' w', Rel N B β' f a' w' -> Tr B β s.heap w β' f.heap w' -> Q .normal a' w') -> wpAny P .any ops Q n listed a w := by
  intro n
  induction n with
  | zero =>
    intro rest listed hlen L hp B β s f a w Q hr hrun hQ
    have : rest = [] := List.length_eq_zero_iff.1 hlen
    subst this
    cases hrun
    exact ⟨L.none, hQ β a w hr (Tr.refl _ _ _ _)⟩
  | succ n ih =>
    intro rest listed hlen L hp B β s f a w Q hr hrun hQ
    refine ⟨fun hnil => ?_, fun i hi => ?_⟩
    · cases rest with
      | nil => simp at hlen
      | cons k rest => exact (L.some hlow hnil).elim
    · obtain ⟨o, xs, ys, ho, rfl, hxs, hys, hah, L'⟩ := L.pick hlow hi
      obtain ⟨ao, bo, hao, htr, hlike, _⟩ := hal i o ho
      obtain ⟨s', hstep, hrun'⟩ := hal.front ho hao (fun k hk => ((L.mem k).1 (by simp [hk])).1) (fun k hk => ⟨hxs k hk, hp k i (hxs k hk) (by simp [hk]) (by simp), fun h => hah k h (by simp [hk])⟩) ⟨B, β, a, w, hr⟩ hrun
      refine wpOp_of ho htr hlike hr hstep.step fun β' a' w' k1 k2 => ?_
      exact ih (xs ++ ys) _ (by simp at hlen ⊢; omega) L' (fun p q h1 h2 h3 => hp p q h1 (mem_mid h2) (mem_mid h3)) k1 hrun' fun β'' a'' w'' q1 q2 => hQ β'' a'' w'' q1 (k2.trans q2)
def vcOpK (P : Program) (R : List Nat) (o : AOper × Bool) (K : St -> Prop) (s : St) : Prop :=
  match o.1.guard with
  | none => vcActD P o.1.act (fun v H => CondK R o.2 o.1.act s H ∧ K (s.put o.1.dst v H)) s
  | some (g, want) => vcGuard (s.env g) want (vcActD P o.1.act (fun v H => CondK R o.2 o.1.act s H ∧ K (s.put o.1.dst v H)) s) (K (s.put o.1.dst unit s.heap))
def vcOpsK (P : Program) (R : List Nat) : List (AOper × Bool) -> (St -> Prop) -> St -> Prop
  | [], K, s => K s
  | o :: os, K, s => vcOpK P R o (vcOpsK P R os K) s
theorem vcOpK_step {o : AOper × Bool} {K : St -> Prop} {s : St} (h : vcOpK P R o K s) : ∃ s', DStepK P R o s s' ∧ K s' := by
  obtain ⟨⟨dst, act, guard, hint⟩, m⟩ := o
  simp only [vcOpK] at h
  cases guard with
  | none =>
    obtain ⟨v, H, h1, h2, h3⟩ := vcActD_act h
    exact ⟨_, ⟨v, H, .run trivial h1 h2, rfl⟩, h3⟩
  | some p =>
    obtain ⟨g, b⟩ := p
    simp only at h
    unfold vcGuard at h
    split at h
    · rename_i b' he
      split at h
      · rename_i hb
        subst hb
        obtain ⟨v, H, h1, h2, h3⟩ := vcActD_act h
        exact ⟨_, ⟨v, H, .run he h1 h2, rfl⟩, h3⟩
      · rename_i hb
        exact ⟨_, ⟨_, _, .skip (.inl ⟨b', he, hb⟩), rfl⟩, h⟩
    · rename_i vs he
      exact ⟨_, ⟨_, _, .skip (.inr ⟨vs, he⟩), rfl⟩, h⟩
    · exact h.elim
theorem vcOpsK_runs : ∀ {os : List (AOper × Bool)} {K : St -> Prop} {s : St}, vcOpsK P R os K s -> ∃ f, RunsK P R os s f ∧ K f := by
  intro os
  induction os with
  | nil => intro K s h; exact ⟨s, .nil s, h⟩
  | cons o os ih =>
    intro K s h
    obtain ⟨s', h1, h2⟩ := vcOpK_step h
    obtain ⟨f, k1, k2⟩ := ih h2
    exact ⟨f, .cons h1 k1, k2⟩
theorem filterMap_rangeK : ∀ (l pre : List (AOper × Bool)), (List.range' pre.length l.length).filterMap ((pre ++ l)[·]?) = l := by
  intro l
  induction l with
  | nil => intro pre; simp
  | cons x l ih =>
    intro pre
    rw [List.length_cons, List.range'_succ, List.filterMap_cons]
    have h0 : (pre ++ x :: l)[pre.length]? = some x := by simp
    rw [h0]
    have := ih (pre ++ [x])
    rw [List.length_append, List.length_singleton, List.append_assoc, List.singleton_append] at this
    rw [this]
theorem zip_getK {l : List AOper} {ms : List Bool} (hl : ms.length = l.length) (k : Nat) : (l.zip ms)[k]? = (l[k]?).map (·, ms.getD k false) := by
  rcases Nat.lt_or_ge k l.length with h | h
  · have h2 : k < ms.length := by omega
    have h3 : k < (l.zip ms).length := by rw [List.length_zip]; omega
    rw [List.getElem?_eq_getElem h3, List.getElem?_eq_getElem h, List.getElem_zip]
    simp [h2]
  · rw [List.getElem?_eq_none h, List.getElem?_eq_none (by rw [List.length_zip]; omega)]
    rfl
theorem fm_congrK {α β : Type} {f g : α -> Option β} : ∀ {l : List α}, (∀ x ∈ l, f x = g x) -> l.filterMap f = l.filterMap g := by
  intro l
  induction l with
  | nil => intro _; rfl
  | cons a l ih => intro h; simp [List.filterMap_cons, h a (by simp), ih (fun x hx => h x (by simp [hx]))]
theorem draw_soundK {id : Nat} {ops : Array Oper} {l : List AOper} {ms : List Bool} (hms : ms.length = l.length) (hm : P.follows .mixedOrders = true) (hok : okDrawK ops l ms = true) (hlen : l.length = ops.size)
    (hal : ∀ (k : Nat) (o : Oper), ops[k]? = some o -> ∃ ao bo, l[k]? = some ao ∧ trO P N ops o = some bo ∧ Like ao bo) {Q : AExit -> St -> Prop} {s : St} (h : vcOpsK P R (l.zip ms) (Q .normal) s) : AWp P N (.region id ops true) Q s := by
  intro B β a w hr
  obtain ⟨f, hrun, hQ⟩ := vcOpsK_runs h
  have hw : ({ w with drawn := w.drawn + 1 } : World).heap = w.heap := rfl
  have hr' : Rel N B β s a { w with drawn := w.drawn + 1 } := ⟨hr.sim.congr hw, fun t => (hr.rep t).mono (fun _ _ => rfl) (Nat.le_refl _) (fun _ _ _ x => x.congr hw), hr.defers, hr.size⟩
  have ht' : Tr B β s.heap w β s.heap { w with drawn := w.drawn + 1 } := Tr.congr hw rfl rfl rfl
  have hfull : at' l ms (List.range ops.size) = l.zip ms := by
    have := filterMap_rangeK (l.zip ms) []
    rw [List.length_nil, <- List.range_eq_range', List.nil_append, List.length_zip, hms, Nat.min_self, hlen] at this
    rw [<- this]
    exact fm_congrK fun k _ => (zip_getK hms k).symm
  simp only [okDrawK, Bool.and_eq_true, List.all_eq_true, List.mem_range, decide_eq_true_eq] at hok
  obtain ⟨hok1, hok2⟩ := hok
  refine wp_region_any hm (any_soundK (fun k o ho d hd => (hok1 k (lt_size ho)).1 d (by rw [Array.getD_eq_getD_getElem?, ho]; exact hd))
    (fun k o ho => by obtain ⟨ao, bo, h1, h2, h3⟩ := hal k o ho; exact ⟨ao, bo, h1, h2, h3, hok2 ao (List.mem_of_getElem? h1)⟩) ops.size (List.range ops.size) _ (by simp) ⟨List.pairwise_lt_range, by simp, fun k => ?_, fun k o ho hk d hd => ?_⟩
    (fun i j h1 h2 h3 => (hok1 j (by simpa using h3)).2 i h1) hr' (by rw [hfull]; exact hrun) (fun β' a' w' k1 k2 => ⟨.normal, f, β', rfl, hQ, k1, ht'.trans k2⟩))
  · simp [Array.getD_eq_getD_getElem?, Array.getElem?_replicate]
    intro hk
    simp [hk]
  · exfalso
    rw [Array.getD_eq_getD_getElem?, Array.getElem?_replicate] at hk
    split at hk <;> simp at hk
theorem marksK_length (ops : Array Oper) (l : List AOper) : (marksK ops l).length = l.length := by simp [marksK]
end
end Go.Ab
/-
  Regions in whatever order, in which two new objects may come in either order.
-/
namespace Go.Ab
open Go Go.RowKit
set_option linter.unusedVariables false
set_option linter.unusedSimpArgs false
def vOnly : List AV -> Bool
  | [] => true
  | .v _ :: xs => vOnly xs
  | _ => false
theorem vOnly_all : ∀ {xs : List AV}, vOnly xs = true -> ∀ x ∈ xs, ∃ v, x = .v v := by
  intro xs
  induction xs with
  | nil => intro _ x hx; cases hx
  | cons x xs ih =>
    intro h y hy
    unfold vOnly at h
    split at h
    · rename_i h1; cases h1
    · rename_i v xs' e
      cases e
      rcases List.mem_cons.1 hy with rfl | hy
      · exact ⟨_, rfl⟩
      · exact ih h y hy
    · cases h
def pairAl (l : List AOper) (x : Nat) : Bool :=
  match l[x]?, l[x + 1]? with
  | some ⟨some d, .m (.alloc zs), none, _⟩, some ⟨some e, .m (.alloc ys), none, _⟩ => decide (d ≠ e) && (vOnly zs && vOnly ys)
  | _, _ => false
theorem pairAl_get {l : List AOper} {x : Nat} (h : pairAl l x = true) : ∃ d e zs ys g g', l[x]? = some ⟨some d, .m (.alloc zs), none, g⟩ ∧ l[x + 1]? = some ⟨some e, .m (.alloc ys), none, g'⟩ ∧ d ≠ e ∧ (∀ y ∈ zs, ∃ v, y = .v v) ∧ ∀ y ∈ ys, ∃ v, y = .v v := by
  unfold pairAl at h
  split at h
  · rename_i d zs g e ys g' h1 h2
    simp only [Bool.and_eq_true, decide_eq_true_eq] at h
    exact ⟨d, e, zs, ys, g, g', h1, h2, h.1, vOnly_all h.2.1, vOnly_all h.2.2⟩
  · cases h
def okDrawA (ops : Array Oper) (l : List AOper) (ms : List Bool) (x : Nat) : Bool :=
  pairAl l x && (((List.range ops.size).all fun j => ((directs (ops.getD j default)).all fun d => decide (d < j)) && (List.range j).all fun i => (i == x && j == x + 1) || okPairK l ms (aheads ops.toList) i j) &&
    ((l.all fun o => o.act.tidy) && ((List.range ops.size).all fun j => !((directs (ops.getD j default)).contains (x + 1) || ((aheads ops.toList).getD j []).contains (x + 1)) || ((aheads ops.toList).getD j []).contains x)))
def okDrawA' (ops : Array Oper) (l : List AOper) (ms : List Bool) : Bool :=
  match (List.range l.length).find? (pairAl l) with
  | some x => okDrawA ops l ms x
  | none => false
def sw (n o : Nat) : Nat := if o = n then n + 1 else if o = n + 1 then n else o
def Lies.sw (β : Lies) (n : Nat) : Lies := ⟨fun o => β (Go.Ab.sw n o), β.D⟩
theorem sw_sw (n o : Nat) : sw n (sw n o) = o := by
  unfold sw; split <;> (try split) <;> (try split) <;> (try split) <;> omega
theorem sw_lt {n o : Nat} (h : o < n) : sw n o = o := by unfold sw; rw [if_neg (by omega), if_neg (by omega)]
theorem sw_ne {n o p : Nat} (h : o ≠ p) : sw n o ≠ sw n p := fun e => h (by rw [<- sw_sw n o, e, sw_sw])
theorem sw_get {H : Heap} {x y : AObj} (o : Nat) : (H ++ [x, y])[sw H.length o]? = (H ++ [y, x])[o]? := by
  unfold sw
  split
  · rename_i h; subst h; simp
  · split
    · rename_i h; subst h; simp
    · rename_i h1 h2
      rcases Nat.lt_or_ge o H.length with h | h
      · rw [List.getElem?_append_left h, List.getElem?_append_left h]
      · rw [List.getElem?_eq_none (by simp; omega), List.getElem?_eq_none (by simp; omega)]
theorem live_sw {β : Lies} {H : Heap} {x y : AObj} {b : Nat} (h : LiveB (Lies.sw β H.length) (H ++ [y, x]) b) : LiveB β (H ++ [x, y]) b := by
  obtain ⟨o, z, ho, hz, hb⟩ := h
  exact ⟨sw H.length o, z, by rw [sw_get]; exact ho, hz, hb⟩
theorem two_get {H : Heap} {x y z : AObj} {o : Nat} (h : (H ++ [x, y])[o]? = some z) : (o < H.length ∧ H[o]? = some z) ∨ x = z ∨ y = z := by
  rcases Nat.lt_or_ge o H.length with h' | h'
  · rw [List.getElem?_append_left h'] at h; exact .inl ⟨h', h⟩
  · rw [List.getElem?_append_right h'] at h
    match hk : o - H.length with
    | 0 => rw [hk] at h; simp at h; exact .inr (.inl h)
    | 1 => rw [hk] at h; simp at h; exact .inr (.inr h)
    | k + 2 => rw [hk] at h; simp at h
section
variable {P : Program} {N : Nat} {R : List Nat}
theorem Rel.swap2 {B : Nat} {β : Lies} {a : Act} {w : World} {s₀ s₁ s₂ : St} {zs ys : List AV} {d e : Nat} (hz : ∀ x ∈ zs, ∃ v, x = .v v) (hy : ∀ x ∈ ys, ∃ v, x = .v v) (hl : Live N s₀) (hde : d ≠ e)
    (h1 : s₁ = (s₀.put (some e) (.ptr s₀.heap.length 0) (s₀.heap ++ [.cells ys])).put (some d) (.ptr (s₀.heap.length + 1) 0) (s₀.heap ++ [AObj.cells ys, AObj.cells zs]))
    (h2 : s₂ = (s₀.put (some d) (.ptr s₀.heap.length 0) (s₀.heap ++ [.cells zs])).put (some e) (.ptr (s₀.heap.length + 1) 0) (s₀.heap ++ [AObj.cells zs, AObj.cells ys]))
    (hr : Rel N B β s₁ a w) : Rel N B (Lies.sw β s₀.heap.length) s₂ a w ∧ ∀ b i c, RO β s₁.heap w b i c -> RO (Lies.sw β s₀.heap.length) s₂.heap w b i c := by
  subst h1 h2
  obtain ⟨B₀, β₀, a₀, w₀, hr₀⟩ := hl
  have hH : ∀ (o : Option Nat) (v : AV) (s : St) (H : Heap), (s.put o v H).heap = H := fun _ _ _ _ => rfl
  rw [hH, hH]
  have hs := hr.sim
  rw [hH] at hs
  have hrep := hr.rep
  rw [hH] at hrep
  have hlen : (s₀.heap ++ [AObj.cells zs, AObj.cells ys]).length = s₀.heap.length + 2 := by simp
  have hro : ∀ b i c, RO β (s₀.heap ++ [AObj.cells ys, AObj.cells zs]) w b i c -> RO (Lies.sw β s₀.heap.length) (s₀.heap ++ [AObj.cells zs, AObj.cells ys]) w b i c := by
    rintro b i c ⟨k1, k2⟩
    refine ⟨k1, ?_⟩
    rintro ⟨o, cs, ho, q1, q2, q3⟩
    exact k2 ⟨sw s₀.heap.length o, cs, by rw [sw_get]; exact ho, q1, q2, q3⟩
  have rep' : ∀ {x : AV} {c : Value}, Bnd s₀.heap.length x -> RepH β (s₀.heap ++ [AObj.cells ys, AObj.cells zs]) w x c -> RepH (Lies.sw β s₀.heap.length) (s₀.heap ++ [AObj.cells zs, AObj.cells ys]) w x c := by
    intro x c hb h
    exact (h.shrink hb).mono (fun o ho => by show β (sw _ o) = _; rw [sw_lt ho]) (by rw [hlen]; omega) hro
  have bcell : ∀ (o : Nat) (cs : List AV) (j : Nat) (x : AV), (s₀.heap ++ [AObj.cells zs, AObj.cells ys])[o]? = some (AObj.cells cs) -> cs[j]? = some x -> Bnd s₀.heap.length x := by
    intro o cs j x ho hx
    rcases two_get ho with ⟨hlt, ho'⟩ | he | he
    · obtain ⟨c, _, hc⟩ := hr₀.sim.cell o cs j x ho' hx
      exact hc.bnd
    · cases he
      obtain ⟨v, rfl⟩ := hz x (List.mem_of_getElem? hx)
      exact .v v
    · cases he
      obtain ⟨v, rfl⟩ := hy x (List.mem_of_getElem? hx)
      exact .v v
  refine ⟨⟨?_, fun t => ?_, hr.defers, hr.size⟩, hro⟩
  · rw [hH]
    refine ⟨hs.size, fun o cs ho => hs.nodd (sw _ o) cs (by rw [sw_get]; exact ho), fun o cs ho => hs.base (sw _ o) cs (by rw [sw_get]; exact ho), fun o cs j x ho hx => ?_, fun o cs j ho hj => hs.room (sw _ o) cs j (by rw [sw_get]; exact ho) hj, fun o es ho => ?_, fun o o' cs cs' hne k1 k2 => hs.disj (sw _ o) (sw _ o') cs cs' (sw_ne hne) (by rw [sw_get]; exact k1) (by rw [sw_get]; exact k2), fun o o' es es' hne k1 k2 => hs.mdisj (sw _ o) (sw _ o') es es' (sw_ne hne) (by rw [sw_get]; exact k1) (by rw [sw_get]; exact k2), fun p o t ho => ?_, fun o cs t' m ho hsh => hs.clean (sw _ o) cs t' m (by rw [sw_get]; exact ho) hsh⟩
    · obtain ⟨c, hc, hrp⟩ := hs.cell (sw _ o) cs j x (by rw [sw_get]; exact ho) hx
      exact ⟨c, hc, rep' (bcell o cs j x ho hx) hrp⟩
    · rcases two_get ho with ⟨hlt, ho'⟩ | he | he
      · obtain ⟨k0, ents₀, clock₀, k1₀, k2₀, k3₀⟩ := hr₀.sim.map o es ho'
        obtain ⟨k0, ents, clock, k1, k2, k3⟩ := hs.map (sw _ o) es (by rw [sw_get]; exact ho)
        refine ⟨k0, ents, clock, k1, k2, fun i x y u hi hj => ?_⟩
        have hi' : i < ents₀.size := by have := getElem?_lt hi; omega
        obtain ⟨b1, b2⟩ := k3₀ i x y ents₀[i] hi (by simp)
        exact ⟨rep' b1.bnd (k3 i x y u hi hj).1, rep' b2.bnd (k3 i x y u hi hj).2⟩
      · cases he
      · cases he
    · rcases two_get ho with ⟨hlt, ho'⟩ | he | he
      · obtain ⟨k1, k2, k3⟩ := hr₀.sim.tag p o t ho'
        obtain ⟨q1, q2, q3⟩ := hs.tag p o t (by rw [List.getElem?_append_left hlt]; exact ho')
        exact ⟨by simpa using q1, by show (β (sw _ o)).off = 0; rw [sw_lt k1]; exact q2, by show ∃ n, w.shape? (β (sw _ o)).blk = _; rw [sw_lt k1]; exact q3⟩
      · cases he
      · cases he
  · rw [hH]
    have ht := hrep t
    simp only [St.put, upd] at ht ⊢
    by_cases e1 : t = e
    · subst e1
      rw [if_pos rfl]
      rw [if_neg (Ne.symm hde), if_pos rfl] at ht
      generalize a.tmps.getD t undef = c at ht ⊢
      cases ht with
      | ptr ho =>
        have : β s₀.heap.length = β (sw s₀.heap.length (s₀.heap.length + 1)) := by rw [show sw s₀.heap.length (s₀.heap.length + 1) = s₀.heap.length by unfold sw; rw [if_neg (by omega), if_pos rfl]]
        rw [this]
        exact .ptr (β := Lies.sw β s₀.heap.length) (by rw [hlen]; omega)
    · rw [if_neg e1]
      by_cases e2 : t = d
      · subst e2
        rw [if_pos rfl]
        rw [if_pos rfl] at ht
        generalize a.tmps.getD t undef = c at ht ⊢
        cases ht with
        | ptr ho =>
          have : β (s₀.heap.length + 1) = β (sw s₀.heap.length s₀.heap.length) := by rw [show sw s₀.heap.length s₀.heap.length = s₀.heap.length + 1 by unfold sw; rw [if_pos rfl]]
          rw [this]
          exact .ptr (β := Lies.sw β s₀.heap.length) (by rw [hlen]; omega)
      · rw [if_neg e2]
        rw [if_neg e2, if_neg e1] at ht
        exact rep' (hr₀.rep t).bnd ht
theorem alloc_step {s : St} {d : Nat} {zs : List AV} {g : Nat} {m : Bool} : DStepK P R (⟨some d, .m (.alloc zs), none, g⟩, m) s (s.put (some d) (.ptr s.heap.length 0) (s.heap ++ [.cells zs])) :=
  ⟨_, _, .run trivial rfl (fun _ => ⟨trivial, fun h => by cases h⟩), rfl⟩
theorem alloc_det {s s' : St} {d : Nat} {zs : List AV} {g : Nat} (h : DStep P ⟨some d, .m (.alloc zs), none, g⟩ s s') : s' = s.put (some d) (.ptr s.heap.length 0) (s.heap ++ [.cells zs]) := by
  obtain ⟨v, H, h, rfl⟩ := h
  cases h with
  | run hg h => cases h; rfl
  | skip hg => exact hg.elim
theorem asc_ext : ∀ {xs ys : List Nat}, xs.Pairwise (· < ·) -> ys.Pairwise (· < ·) -> (∀ k, k ∈ xs ↔ k ∈ ys) -> xs = ys := by
  intro xs
  induction xs with
  | nil =>
    intro ys _ _ h
    cases ys with
    | nil => rfl
    | cons y ys => exact absurd ((h y).2 (by simp)) (by simp)
  | cons x xs ih =>
    intro ys hx hy h
    cases ys with
    | nil => exact absurd ((h x).1 (by simp)) (by simp)
    | cons y ys =>
      have e : x = y := by
        rcases List.mem_cons.1 ((h x).1 (by simp)) with e | e
        · exact e
        · rcases List.mem_cons.1 ((h y).2 (by simp)) with e' | e'
          · exact e'.symm
          · have := List.rel_of_pairwise_cons hx e'
            have := List.rel_of_pairwise_cons hy e
            omega
      subst e
      rw [ih (List.pairwise_cons.1 hx).2 (List.pairwise_cons.1 hy).2 fun k => ?_]
      constructor
      · intro hk
        rcases List.mem_cons.1 ((h k).1 (by simp [hk])) with e | e
        · have := List.rel_of_pairwise_cons hx hk; omega
        · exact e
      · intro hk
        rcases List.mem_cons.1 ((h k).2 (by simp [hk])) with e | e
        · have := List.rel_of_pairwise_cons hy hk; omega
        · exact e
theorem apartA_symm {x y : AOper} (h : apartA x y = true) : apartA y x = true := by
  simp only [apartA] at h ⊢
  cases hx : x.dst <;> cases hy : y.dst <;> simp_all
  exact fun e => h.1.2 e.symm
theorem meet_symm {y : Cls} (h : meet .a y = true) : meet y .a = true := by
  cases y <;> simp [meet] at h ⊢
theorem any_one {ops : Array Oper} {l : List AOper} {ms : List Bool} (hlow : Lows ops) (hal : Als P N ops l) {x d e g g' : Nat} {zs ys : List AV} (hA : l[x]? = some ⟨some d, .m (.alloc zs), none, g⟩) (hA' : l[x + 1]? = some ⟨some e, .m (.alloc ys), none, g'⟩)
    (hde : d ≠ e) (hz : ∀ y ∈ zs, ∃ v, y = .v v) (hy : ∀ y ∈ ys, ∃ v, y = .v v) (hdep : ∀ j o, ops[j]? = some o -> (x + 1 ∈ directs o ∨ x + 1 ∈ (aheads ops.toList).getD j []) -> x ∈ (aheads ops.toList).getD j []) :
    ∀ (n : Nat) (rest rest' : List Nat) (listed listed' : Array Bool), rest.length = n -> Left ops rest listed -> Left ops rest' listed' -> (∀ k b, k ≠ x + 1 -> listed'.getD k b = listed.getD k b) -> x ∈ rest -> x + 1 ∉ rest -> x + 1 ∈ rest' ->
      (∀ k ∈ (aheads ops.toList).getD (x + 1) [], k ∉ rest) -> (∀ i j, i < j -> i ∈ rest' -> j ∈ rest' -> ¬ (i = x ∧ j = x + 1) -> okPairK l ms (aheads ops.toList) i j = true) ->
    ∀ {B : Nat} {βs β : Lies} {Hs : Heap} {ws : World} {s₀ f : St} {a : Act} {w : World} {Q : Exit -> Act -> World -> Prop} (hl : Live N s₀) (hr : Rel N B β (s₀.put (some e) (.ptr s₀.heap.length 0) (s₀.heap ++ [.cells ys])) a w),
      RunsK P R (at' l ms rest') s₀ f -> Tr B βs Hs ws β (s₀.heap ++ [.cells ys]) w -> Hs.length <= s₀.heap.length -> (∀ β' a' w', Rel N B β' f a' w' -> Tr B βs Hs ws β' f.heap w' -> Q .normal a' w') -> wpAny P .any ops Q n listed a w := by
  intro n
  induction n with
  | zero =>
    intro rest rest' listed listed' hlen L L' hag hx hx1 hx1' hah1 hp
    have : rest = [] := List.length_eq_zero_iff.1 hlen
    subst this
    simp at hx
  | succ n ih =>
    intro rest rest' listed listed' hlen L L' hag hx hx1 hx1' hah1 hp B βs β Hs ws s₀ f a w Q hl hr hrun ht hle hQ
    have hmem : ∀ k, k ≠ x + 1 -> (k ∈ rest' ↔ k ∈ rest) := by
      intro k hk
      rw [L.mem, L'.mem, hag k true hk]
    refine ⟨fun hnil => ?_, fun i hi => ?_⟩
    · cases rest with
      | nil => simp at hlen
      | cons k rest => exact (L.some hlow hnil).elim
    · obtain ⟨o, xs, zt, ho, hsp, hxs, hys, hah, L2⟩ := L.pick hlow hi
      have hi1 : i ≠ x + 1 := by
        intro h
        subst h
        exact hx1 (by rw [hsp]; simp)
      have hnd : x + 1 ∉ directs o ∧ x + 1 ∉ (aheads ops.toList).getD i [] := by
        constructor <;> intro h
        · exact hah x (hdep i o ho (.inl h)) hx
        · exact hah x (hdep i o ho (.inr h)) hx
      have hi' : i ∈ Region.ready .any ops listed' := by
        obtain ⟨h1, o', ho', hall⟩ := mem_ready.1 hi
        rw [ho] at ho'; cases ho'
        refine mem_ready.2 ⟨by rw [hag i true hi1]; exact h1, o, ho, fun ed he hb => ?_⟩
        rw [hag]
        · exact hall ed he hb
        · intro h
          exact hnd.1 (h ▸ mem_directs.2 ⟨ed, he, hb, rfl⟩)
      obtain ⟨o', xs', ys', ho', hsp', hxs', hys', hah', L2'⟩ := L'.pick hlow hi'
      rw [ho] at ho'; cases ho'
      obtain ⟨ao, bo, hao, htr, hlike, hty⟩ := hal i o ho
      have hpair : ∀ k, k ∈ xs' -> k < i ∧ okPairK l ms (aheads ops.toList) k i = true ∧ k ∉ (aheads ops.toList).getD i [] := by
        intro k hk
        exact ⟨hxs' k hk, hp k i (hxs' k hk) (by rw [hsp']; simp [hk]) (by rw [hsp']; simp) (fun h => hi1 h.2), fun h => hah' k h (by rw [hsp']; simp [hk])⟩
      rw [hsp'] at hrun
      obtain ⟨s₁, hstep, hrun'⟩ := hal.front ho hao (fun k hk => ((L'.mem k).1 (by rw [hsp']; simp [hk])).1) hpair hl hrun
      have hl1 : Live N s₁ := hstep.step.live htr hlike hl
      have h1rest : x + 1 ∈ xs' ++ ys' := by
        rw [hsp'] at hx1'
        rcases List.mem_append.1 hx1' with h | h
        · simp [h]
        · rcases List.mem_cons.1 h with h | h
          · exact absurd h.symm hi1
          · simp [h]
      by_cases hix : i = x
      · -- the first one of the text, now as the second one
        subst hix
        rw [hA] at hao; cases hao
        have hs1 := alloc_det hstep.step
        -- the other one to the front
        obtain ⟨us, vs, hsp2⟩ := List.append_of_mem h1rest
        have hmid : ∀ k, k ∈ us -> k ∈ rest' ∧ k ≠ i := by
          intro k hk
          have : k ∈ xs' ++ ys' := by rw [hsp2]; simp [hk]
          refine ⟨by rw [hsp']; exact mem_mid this, fun h => ?_⟩
          subst h
          rcases List.mem_append.1 this with h | h
          · have := hxs' _ h; omega
          · have := hys' _ h; omega
        have hus : ∀ k, k ∈ us -> k < i + 1 := by
          intro k hk
          have := L2'.asc
          rw [hsp2] at this
          exact (List.pairwise_append.1 this).2.2 k hk (i + 1) (by simp)
        rw [hsp2] at hrun'
        obtain ⟨o₁, ho₁⟩ : ∃ o₁, ops[i + 1]? = some o₁ := by
          have := ((L'.mem (i + 1)).1 hx1').1
          exact ⟨ops[i + 1], by simp⟩
        obtain ⟨s₂, hstep2, hrun2⟩ := hal.front ho₁ hA' (fun k hk => ((L'.mem k).1 (hmid k hk).1).1) (fun k hk => ⟨hus k hk, hp k (i + 1) (hus k hk) (hmid k hk).1 hx1' (fun h => (hmid k hk).2 h.1), fun h => hah1 k h ((hmem k (by have := hus k hk; omega)).1 (hmid k hk).1)⟩) hl1 hrun'
        have hs2 := alloc_det hstep2.step
        have hrest : us ++ vs = xs ++ zt := by
          refine asc_ext ?_ L2.asc fun k => ?_
          · have := L2'.asc
            rw [hsp2] at this
            exact this.sublist (by simp)
          · have e1 : k ∈ us ++ vs ↔ k ∈ rest' ∧ k ≠ i ∧ k ≠ i + 1 := by
              have hnd2 : i + 1 ∉ us ++ vs := by
                have := L2'.asc
                rw [hsp2] at this
                have h1 := List.pairwise_append.1 this
                intro h
                rcases List.mem_append.1 h with h | h
                · have := h1.2.2 _ h (i + 1) (by simp); omega
                · have := List.rel_of_pairwise_cons h1.2.1 h; omega
              have hnd1 : i ∉ xs' ++ ys' := by
                intro h
                rcases List.mem_append.1 h with h | h
                · have := hxs' _ h; omega
                · have := hys' _ h; omega
              constructor
              · intro h
                have h2 : k ∈ xs' ++ ys' := by rw [hsp2]; exact mem_mid h
                exact ⟨by rw [hsp']; exact mem_mid h2, fun e => hnd1 (e ▸ h2), fun e => hnd2 (e ▸ h)⟩
              · rintro ⟨h1, h2, h3⟩
                have h4 : k ∈ xs' ++ ys' := by
                  rw [hsp'] at h1
                  rcases List.mem_append.1 h1 with h | h
                  · simp [h]
                  · rcases List.mem_cons.1 h with h | h
                    · exact absurd h h2
                    · simp [h]
                rw [hsp2] at h4
                rcases List.mem_append.1 h4 with h | h
                · simp [h]
                · rcases List.mem_cons.1 h with h | h
                  · exact absurd h h3
                  · simp [h]
            have e2 : k ∈ xs ++ zt ↔ k ∈ rest ∧ k ≠ i := by
              have hnd1 : i ∉ xs ++ zt := by
                intro h
                rcases List.mem_append.1 h with h | h
                · have := hxs _ h; omega
                · have := hys _ h; omega
              constructor
              · intro h
                exact ⟨by rw [hsp]; exact mem_mid h, fun e => hnd1 (e ▸ h)⟩
              · rintro ⟨h1, h2⟩
                rw [hsp] at h1
                rcases List.mem_append.1 h1 with h | h
                · simp [h]
                · rcases List.mem_cons.1 h with h | h
                  · exact absurd h h2
                  · simp [h]
            rw [e1, e2]
            constructor
            · rintro ⟨h1, h2, h3⟩; exact ⟨(hmem k h3).1 h1, h2⟩
            · rintro ⟨h1, h2⟩
              have h3 : k ≠ i + 1 := fun e => hx1 (e ▸ h1)
              exact ⟨(hmem k h3).2 h1, h2, h3⟩
        rw [hrest] at hrun2
        have hda := (alloc_step (P := P) (R := R) (s := s₀.put (some e) (.ptr s₀.heap.length 0) (s₀.heap ++ [.cells ys])) (d := d) (zs := zs) (g := g) (m := false)).step
        refine wpOp_of ho htr hlike hr hda fun β' a' w' k1 k2 => ?_
        obtain ⟨q1, q2⟩ := Rel.swap2 (s₁ := (s₀.put (some e) (.ptr s₀.heap.length 0) (s₀.heap ++ [.cells ys])).put (some d) (.ptr (s₀.heap.length + 1) 0) (s₀.heap ++ [AObj.cells ys, AObj.cells zs])) (s₂ := s₂) hz hy hl hde rfl (by
          rw [hs2, hs1]
          simp [St.put]) (by
          have : (s₀.put (some e) (.ptr s₀.heap.length 0) (s₀.heap ++ [.cells ys])).put (some d) (.ptr (s₀.put (some e) (.ptr s₀.heap.length 0) (s₀.heap ++ [.cells ys])).heap.length 0) ((s₀.put (some e) (.ptr s₀.heap.length 0) (s₀.heap ++ [.cells ys])).heap ++ [.cells zs]) = (s₀.put (some e) (.ptr s₀.heap.length 0) (s₀.heap ++ [.cells ys])).put (some d) (.ptr (s₀.heap.length + 1) 0) (s₀.heap ++ [AObj.cells ys, AObj.cells zs]) := by simp [St.put]
          rw [<- this]; exact k1)
        have k2' : Tr B βs Hs ws β' (s₀.heap ++ [AObj.cells ys, AObj.cells zs]) w' := by
          have := ht.trans k2
          simpa [St.put] using this
        have hs2h : s₂.heap = s₀.heap ++ [AObj.cells zs, AObj.cells ys] := by rw [hs2, hs1]; simp [St.put]
        have tr2 : Tr B βs Hs ws (Lies.sw β' s₀.heap.length) s₂.heap w' := by
          rw [hs2h]
          rw [hs2h] at q2
          exact ⟨k2'.below, by simpa using k2'.le, fun o ho => by show β' (sw _ o) = _; rw [sw_lt (by omega)]; exact k2'.em o ho, fun b i c h => q2 b i c (k2'.ro b i c h), k2'.dd, fun b hb hn => ⟨(k2'.rest b hb hn).1, fun h => (k2'.rest b hb hn).2 (live_sw h)⟩⟩
        exact any_soundK hlow hal n (xs ++ zt) _ (by rw [hsp] at hlen; simp at hlen ⊢; omega) L2 (fun p q h1 h2 h3 => hp p q h1 ((hmem p (fun e => hx1 (by rw [<- e, hsp]; exact mem_mid h2))).2 (by rw [hsp]; exact mem_mid h2)) ((hmem q (fun e => hx1 (by rw [<- e, hsp]; exact mem_mid h3))).2 (by rw [hsp]; exact mem_mid h3)) (fun h => hx1 (by rw [<- h.2, hsp]; exact mem_mid h3))) q1 hrun2 fun β'' a'' w'' r1 r2 => hQ β'' a'' w'' r1 (tr2.trans r2)
      · -- another one
        have hfree : apartA ao ⟨some e, .m (.alloc ys), none, g'⟩ = true ∧ meet ao.act.cls .a = true := by
          rcases Nat.lt_or_ge i (x + 1) with hlt | hge
          · have := okPairK_free (hp i (x + 1) hlt (by rw [hsp']; simp) hx1' (fun h => hix h.1)) hao hA' (fun h => hah1 i h (by rw [hsp]; simp))
            refine ⟨this.1, ?_⟩
            rcases this.2 with h | ⟨_, _, h⟩
            · exact h
            · simp [kPair, AAct.isLoad, AAct.cls] at h
          · have := okPairK_free (hp (x + 1) i (by omega) hx1' (by rw [hsp']; simp) (fun h => by omega)) hA' hao hnd.2
            refine ⟨apartA_symm this.1, ?_⟩
            rcases this.2 with h | ⟨_, _, h⟩
            · exact meet_symm h
            · simp [kPair, AAct.isLoad, AAct.cls] at h
        obtain ⟨s', q1, q2⟩ := swap hfree.1 hfree.2 hty rfl hl hstep.step (alloc_step (P := P) (R := R) (s := s₁) (d := e) (zs := ys) (g := g') (m := false)).step
        have := alloc_det q1
        subst this
        refine wpOp_of ho htr hlike hr q2 fun β' a' w' k1 k2 => ?_
        have hle2 : s₀.heap.length <= s₁.heap.length := by
          have := k2.le
          simp [St.put] at this
          exact this
        have hxi : x ∈ xs ++ zt := by
          rw [hsp] at hx
          rcases List.mem_append.1 hx with h | h
          · simp [h]
          · rcases List.mem_cons.1 h with h | h
            · exact absurd h.symm hix
            · simp [h]
        refine ih (xs ++ zt) (xs' ++ ys') _ _ (by rw [hsp] at hlen; simp at hlen ⊢; omega) L2 L2' (fun k b hk => ?_) hxi (fun h => hx1 (by rw [hsp]; exact mem_mid h)) h1rest (fun k hk h => hah1 k hk (by rw [hsp]; exact mem_mid h)) (fun p q h1 h2 h3 h4 => hp p q h1 (by rw [hsp']; exact mem_mid h2) (by rw [hsp']; exact mem_mid h3) h4) hl1 k1 hrun' (ht.trans k2) (by omega) hQ
        have hag' := hag k b hk
        by_cases e : k = i
        · subst e
          have := ((L.mem k).1 (by rw [hsp]; simp)).1
          have h1 := L.size
          have h2 := L'.size
          simp [Array.getD_eq_getD_getElem?, show k < listed.size by omega, show k < listed'.size by omega]
        · simp only [Array.getD_eq_getD_getElem?, Array.getElem?_setIfInBounds_ne (Ne.symm e)] at hag' ⊢
          exact hag'
theorem any_two {ops : Array Oper} {l : List AOper} {ms : List Bool} (hlow : Lows ops) (hal : Als P N ops l) {x d e g g' : Nat} {zs ys : List AV} (hA : l[x]? = some ⟨some d, .m (.alloc zs), none, g⟩) (hA' : l[x + 1]? = some ⟨some e, .m (.alloc ys), none, g'⟩)
    (hde : d ≠ e) (hz : ∀ y ∈ zs, ∃ v, y = .v v) (hy : ∀ y ∈ ys, ∃ v, y = .v v) (hdep : ∀ j o, ops[j]? = some o -> (x + 1 ∈ directs o ∨ x + 1 ∈ (aheads ops.toList).getD j []) -> x ∈ (aheads ops.toList).getD j [])
    (hp : ∀ i j, i < j -> j < ops.size -> ¬ (i = x ∧ j = x + 1) -> okPairK l ms (aheads ops.toList) i j = true) :
    ∀ (n : Nat) (rest : List Nat) (listed : Array Bool), rest.length = n -> Left ops rest listed -> x ∈ rest -> x + 1 ∈ rest ->
    ∀ {B : Nat} {β : Lies} {s f : St} {a : Act} {w : World} {Q : Exit -> Act -> World -> Prop} (hr : Rel N B β s a w), RunsK P R (at' l ms rest) s f ->
      (∀ β' a' w', Rel N B β' f a' w' -> Tr B β s.heap w β' f.heap w' -> Q .normal a' w') -> wpAny P .any ops Q n listed a w := by
  intro n
  induction n with
  | zero =>
    intro rest listed hlen L hx
    have : rest = [] := List.length_eq_zero_iff.1 hlen
    subst this
    simp at hx
  | succ n ih =>
    intro rest listed hlen L hx hx1 B β s f a w Q hr hrun hQ
    refine ⟨fun hnil => ?_, fun i hi => ?_⟩
    · cases rest with
      | nil => simp at hlen
      | cons k rest => exact (L.some hlow hnil).elim
    · obtain ⟨o, xs, zt, ho, hsp, hxs, hys, hah, L2⟩ := L.pick hlow hi
      obtain ⟨ao, bo, hao, htr, hlike, hty⟩ := hal i o ho
      have hsz : ∀ k, k ∈ rest -> k < ops.size := fun k hk => ((L.mem k).1 hk).1
      have hin : ∀ k, k ∈ rest -> k ≠ i -> k ∈ xs ++ zt := by
        intro k hk hne
        rw [hsp] at hk
        rcases List.mem_append.1 hk with h | h
        · simp [h]
        · rcases List.mem_cons.1 h with h | h
          · exact absurd h hne
          · simp [h]
      have hnot : i ∉ xs ++ zt := by
        intro h
        rcases List.mem_append.1 h with h | h
        · have := hxs _ h; omega
        · have := hys _ h; omega
      by_cases hi1 : i = x + 1
      · subst hi1
        rw [hA'] at hao; cases hao
        refine wpOp_of ho htr hlike hr (alloc_step (P := P) (R := R) (s := s) (d := e) (zs := ys) (g := g') (m := false)).step fun β' a' w' k1 k2 => ?_
        refine any_one hlow hal hA hA' hde hz hy hdep n (xs ++ zt) rest _ listed (by rw [hsp] at hlen; simp at hlen ⊢; omega) L2 L (fun k b hk => ?_) (hin x hx (by omega)) hnot hx1 (fun k hk h => hah k hk (by rw [hsp]; exact mem_mid h)) (fun p q h1 h2 h3 h4 => hp p q h1 (hsz q h3) h4) ⟨B, β, a, w, hr⟩ k1 hrun k2 (Nat.le_refl _) hQ
        simp only [Array.getD_eq_getD_getElem?, Array.getElem?_setIfInBounds_ne (Ne.symm hk)]
      · rw [hsp] at hrun
        obtain ⟨s', hstep, hrun'⟩ := hal.front ho hao (fun k hk => hsz k (by rw [hsp]; simp [hk])) (fun k hk => ⟨hxs k hk, hp k i (hxs k hk) (lt_size ho) (fun h => hi1 h.2), fun h => hah k h (by rw [hsp]; simp [hk])⟩) ⟨B, β, a, w, hr⟩ hrun
        refine wpOp_of ho htr hlike hr hstep.step fun β' a' w' k1 k2 => ?_
        have hlen2 : (xs ++ zt).length = n := by rw [hsp] at hlen; simp at hlen ⊢; omega
        by_cases hix : i = x
        · subst hix
          exact any_soundK hlow hal n (xs ++ zt) _ hlen2 L2 (fun p q h1 h2 h3 => hp p q h1 (hsz q (by rw [hsp]; exact mem_mid h3)) (fun h => hnot (h.1 ▸ h2))) k1 hrun' fun β'' a'' w'' r1 r2 => hQ β'' a'' w'' r1 (k2.trans r2)
        · exact ih (xs ++ zt) _ hlen2 L2 (hin x hx (Ne.symm hix)) (hin (x + 1) hx1 (Ne.symm hi1)) k1 hrun' fun β'' a'' w'' r1 r2 => hQ β'' a'' w'' r1 (k2.trans r2)
theorem draw_soundA {id : Nat} {ops : Array Oper} {l : List AOper} {ms : List Bool} (hms : ms.length = l.length) (hm : P.follows .mixedOrders = true) (hok : okDrawA' ops l ms = true) (hlen : l.length = ops.size)
    (hal : ∀ (k : Nat) (o : Oper), ops[k]? = some o -> ∃ ao bo, l[k]? = some ao ∧ trO P N ops o = some bo ∧ Like ao bo) {Q : AExit -> St -> Prop} {s : St} (h : vcOpsK P R (l.zip ms) (Q .normal) s) : AWp P N (.region id ops true) Q s := by
  intro B β a w hr
  obtain ⟨f, hrun, hQ⟩ := vcOpsK_runs h
  have hw : ({ w with drawn := w.drawn + 1 } : World).heap = w.heap := rfl
  have hr' : Rel N B β s a { w with drawn := w.drawn + 1 } := ⟨hr.sim.congr hw, fun t => (hr.rep t).mono (fun _ _ => rfl) (Nat.le_refl _) (fun _ _ _ x => x.congr hw), hr.defers, hr.size⟩
  have ht' : Tr B β s.heap w β s.heap { w with drawn := w.drawn + 1 } := Tr.congr hw rfl rfl rfl
  have hfull : at' l ms (List.range ops.size) = l.zip ms := by
    have := filterMap_rangeK (l.zip ms) []
    rw [List.length_nil, <- List.range_eq_range', List.nil_append, List.length_zip, hms, Nat.min_self, hlen] at this
    rw [<- this]
    exact fm_congrK fun k _ => (zip_getK hms k).symm
  unfold okDrawA' at hok
  split at hok
  · rename_i x _
    simp only [okDrawA, Bool.and_eq_true, List.all_eq_true, List.mem_range, decide_eq_true_eq] at hok
    obtain ⟨hpa, hok1, hok2, hok3⟩ := hok
    obtain ⟨d, e, zs, ys, g, g', hA, hA', hde, hz, hy⟩ := pairAl_get hpa
    have hx1 : x + 1 < ops.size := by have := getElem?_lt hA'; omega
    refine wp_region_any hm (any_two (fun k o ho d hd => (hok1 k (lt_size ho)).1 d (by rw [Array.getD_eq_getD_getElem?, ho]; exact hd))
      (fun k o ho => by obtain ⟨ao, bo, h1, h2, h3⟩ := hal k o ho; exact ⟨ao, bo, h1, h2, h3, hok2 ao (List.mem_of_getElem? h1)⟩) hA hA' hde hz hy (fun j o ho hj => ?_) (fun i j h1 h2 h3 => ?_) ops.size (List.range ops.size) _ (by simp) ⟨List.pairwise_lt_range, by simp, fun k => ?_, fun k o ho hk d hd => ?_⟩
      (by simp; omega) (by simp; omega) hr' (by rw [hfull]; exact hrun) (fun β' a' w' k1 k2 => ⟨.normal, f, β', rfl, hQ, k1, ht'.trans k2⟩))
    · have := hok3 j (lt_size ho)
      rw [Array.getD_eq_getD_getElem?, ho] at this
      simp only [Option.getD_some, Bool.or_eq_true, Bool.not_eq_true', Bool.or_eq_false_iff, List.contains_iff_mem] at this
      rcases this with h | h
      · exfalso
        rcases hj with hj | hj
        · have := h.1
          rw [<- List.contains_iff_mem] at hj
          rw [hj] at this; cases this
        · have := h.2
          rw [<- List.contains_iff_mem] at hj
          rw [hj] at this; cases this
      · exact h
    · have := (hok1 j h2).2 i h1
      simp only [Bool.or_eq_true, Bool.and_eq_true, beq_iff_eq] at this
      rcases this with h | h
      · exact absurd h h3
      · exact h
    · simp [Array.getD_eq_getD_getElem?, Array.getElem?_replicate]
      intro hk
      simp [hk]
    · exfalso
      rw [Array.getD_eq_getD_getElem?, Array.getElem?_replicate] at hk
      split at hk <;> simp at hk
  · cases hok
end
end Go.Ab
/-
  Functions that change what they are handed: their calls are never asked to leave memory as it is. A chapter's own list.
-/
namespace Go.Ab
def effFs : List Nat := [50, 45, 37, 36, 29, 15, 12]
def effCall : AX -> Bool
  | .c (.fn g _) => effFs.any (Nat.beq g)
  | _ => false
end Go.Ab
/-
  A region with an operation in its midst: all the others are ahead of it or behind it, whatever the order.
-/
namespace Go.Ab
open Go Go.RowKit
set_option linter.unusedVariables false
set_option linter.unusedSimpArgs false
section
variable {P : Program} {N : Nat}
def NormTo (N : Nat) (s s' : St) : Prop := ∀ B β a w, Rel N B β s a w -> ∃ β', Rel N B β' s' a w ∧ Tr B β s.heap w β' s'.heap w
theorem NormTo.refl {N : Nat} (s : St) : NormTo N s s := fun B β a w hr => ⟨β, hr, Tr.refl _ _ _ _⟩
theorem any_sound_mid {ops : Array Oper} {l : List AOper} {m j : Nat} (hsize : ops.size = m + 1 + j) (hok : okDraw ops l = true) (hlen0 : l.length = ops.size) (hal : ∀ (k : Nat) (o : Oper), ops[k]? = some o -> ∃ ao bo, l[k]? = some ao ∧ trO P N ops o = some bo ∧ Like ao bo)
    (htail : ∀ i, i < m -> i ∈ (aheads ops.toList).getD m []) (hbeh : ∀ k, m < k -> k < ops.size -> m ∈ (aheads ops.toList).getD k []) {am : AOper} (ham : l[m]? = some am) {K : St -> Prop} :
    ∀ (n : Nat) (rest : List Nat) (listed : Array Bool), rest.length = n -> rest.Pairwise (· < ·) -> listed.size = ops.size -> (∀ k, k ∈ rest ↔ k < m ∧ listed.getD k true = false) -> (∀ k, m <= k -> k < ops.size -> listed.getD k true = false) -> DownClosed ops listed ->
    ∀ {B : Nat} {β : Lies} {s f : St} {a : Act} {w : World} {Q : Exit -> Act -> World -> Prop} (hr : Rel N B β s a w), Runs P (rest.filterMap (l[·]?)) s f -> (∃ f₁, NormTo N f f₁ ∧ vcOp P am (fun s₂ => ∃ s₃, NormTo N s₂ s₃ ∧ ∃ f', Runs P (l.drop (m + 1)) s₃ f' ∧ K f') f₁) ->
      (∀ f' β' a' w', K f' -> Rel N B β' f' a' w' -> Tr B β s.heap w β' f'.heap w' -> Q .normal a' w') -> wpAny P .any ops Q (j + n + 1) listed a w := by
  have hok0 := hok
  simp only [okDraw, Bool.and_eq_true, List.all_eq_true, List.mem_range, decide_eq_true_eq] at hok
  obtain ⟨hok1, hok2⟩ := hok
  have lt_of : ∀ {k : Nat} {o : Oper}, ops[k]? = some o -> k < ops.size := by
    intro k o ho
    rcases Nat.lt_or_ge k ops.size with h | h
    · exact h
    · simp [Array.getElem?_eq_none h] at ho
  have hlow : ∀ (k : Nat) (o : Oper), ops[k]? = some o -> ∀ d ∈ directs o, d < k := by
    intro k o ho d hd
    exact (hok1 k (lt_of ho)).1 d (by rw [Array.getD_eq_getD_getElem?, ho]; exact hd)
  intro n
  induction n with
  | zero =>
    intro rest listed hlen hpw hsz hmem hm hdc B β s f a w Q hr hrun hv hQ
    have : rest = [] := List.length_eq_zero_iff.1 hlen
    subst this
    cases hrun
    obtain ⟨f₁, hn, hv⟩ := hv
    obtain ⟨β₁, hr₁, ht₁⟩ := hn B β a w hr
    have hmm : listed.getD m true = false := hm m (Nat.le_refl _) (by omega)
    have hin : ∀ i, i ∈ Region.ready .any ops listed -> i = m := by
      intro i hi
      obtain ⟨h1, o, ho, _⟩ := mem_ready.1 hi
      have hlt := lt_of ho
      rcases Nat.lt_or_ge i m with h | h
      · exact absurd ((hmem i).2 ⟨h, h1⟩) (by simp)
      · by_cases e : i = m
        · exact e
        · exfalso
          obtain ⟨_, o', ho', hall'⟩ := mem_ready.1 hi
          have hdir : ∀ d ∈ directs o', listed.getD d false = true := by
            intro d hd
            obtain ⟨e, he, hb, rfl⟩ := mem_directs.1 hd
            exact hall' e he hb
          have := getD_false_of (down_aheads hdc hlow i o' ho' hdir m (hbeh i (by omega) hlt))
          rw [this] at hmm; cases hmm
    refine ⟨fun hnil => ?_, fun i hi => ?_⟩
    · have : m ∈ Region.ready .any ops listed := by
        refine mem_ready.2 ⟨hmm, ops[m], by simp, fun e he hb => ?_⟩
        have hd : e.on ∈ directs ops[m] := mem_directs.2 ⟨e, he, hb, rfl⟩
        have hlt := hlow m ops[m] (by simp) _ hd
        have := mt (hmem e.on).2 (by simp)
        rw [Array.getD_eq_getD_getElem?] at this ⊢
        have hin : e.on < listed.size := by omega
        simp [hin] at this ⊢
        have := this (by omega)
        simpa using this
      rw [hnil] at this
      cases this
    · have := hin i hi
      subst this
      obtain ⟨h1, o, ho, hall⟩ := mem_ready.1 hi
      obtain ⟨ao, bo, hao, htr, hlike⟩ := hal i o ho
      rw [ham] at hao; cases hao
      have hset : ∀ (k : Nat) (d : Bool), k ≠ i -> (listed.setIfInBounds i true).getD k d = listed.getD k d := by
        intro k d hk
        simp [Array.getD_eq_getD_getElem?, Array.getElem?_setIfInBounds_ne (Ne.symm hk)]
      have hseti : ∀ d : Bool, (listed.setIfInBounds i true).getD i d = true := by
        intro d
        simp [Array.getD_eq_getD_getElem?, show i < listed.size by omega]
      have hfull : (List.range' (i + 1) j).filterMap (l[·]?) = l.drop (i + 1) := by
        have := filterMap_range (l.drop (i + 1)) (l.take (i + 1))
        rw [List.take_append_drop, List.length_take, List.length_drop, show min (i + 1) l.length = i + 1 by omega, show l.length - (i + 1) = j by omega] at this
        exact this
      have hnext : ∀ s₂ β' a' w', (∃ s₃, NormTo N s₂ s₃ ∧ ∃ f', Runs P (l.drop (i + 1)) s₃ f' ∧ K f') -> Rel N B β' s₂ a' w' -> Tr B β₁ f₁.heap w β' s₂.heap w' -> wpAny P .any ops Q j (listed.setIfInBounds i true) a' w' := by
        rintro s₂ β' a' w' ⟨s₃, hn3, f', hrun', hK⟩ k1 k2
        obtain ⟨β3, k1', k3⟩ := hn3 B β' a' w' k1
        refine any_sound hok0 hal j (List.range' (i + 1) j) _ (by simp) List.pairwise_lt_range' (by simp [hsz]) (fun k => ?_) (fun k o' ho' hk d hd => ?_) k1' (by rw [hfull]; exact hrun') (fun β'' a'' w'' h1 h2 => hQ f' β'' a'' w'' hK h1 (ht₁.trans (k2.trans (k3.trans h2))))
        · rw [List.mem_range'_1]
          by_cases e : k = i
          · subst e
            rw [hseti]
            exact ⟨fun h => by omega, fun h => absurd h.2 (by simp)⟩
          · rw [hset k true e]
            constructor
            · intro h; exact ⟨by omega, hm k (by omega) (by omega)⟩
            · intro h
              rcases Nat.lt_or_ge k i with h' | h'
              · exact absurd ((hmem k).2 ⟨h', h.2⟩) (by simp)
              · omega
        · by_cases e : k = i
          · subst e
            rw [ho] at ho'; cases ho'
            obtain ⟨e, he, hb, rfl⟩ := mem_directs.1 hd
            have h5 := hall e he hb
            by_cases e2 : e.on = k
            · rw [e2]; exact hseti _
            · rw [hset _ false e2]; exact h5
          · rw [hset k false e] at hk
            have := hdc k o' ho' hk d hd
            by_cases e2 : d = i
            · subst e2; exact hseti _
            · rw [hset d false e2]; exact this
      have h := op_sound (Q := Q) htr hlike hr₁ hv (next := wpAny P .any ops Q j (listed.setIfInBounds i true)) hnext
      unfold Go.wpOp
      rw [ho]
      simp only
      split
      · rename_i hw; rw [if_pos hw] at h; exact .inl h
      · rename_i hw; rw [if_neg hw] at h; exact h
  | succ n ih =>
    intro rest listed hlen hpw hsz hmem hm hdc B β s f a w Q hr hrun hv hQ
    have inRest : ∀ i, i ∈ Region.ready .any ops listed -> i ∈ rest := by
      intro i hi
      obtain ⟨h1, o, ho, hall⟩ := mem_ready.1 hi
      have hlt := lt_of ho
      rcases Nat.lt_or_ge i m with h | h
      · exact (hmem i).2 ⟨h, h1⟩
      · exfalso
        by_cases hei : i = m
        case neg =>
          have hdir : ∀ d ∈ directs o, listed.getD d false = true := by
            intro d hd
            obtain ⟨e, he, hb, rfl⟩ := mem_directs.1 hd
            exact hall e he hb
          have := getD_false_of (down_aheads hdc hlow i o ho hdir m (hbeh i (by omega) hlt))
          rw [hm m (Nat.le_refl _) (by omega)] at this; cases this
        subst hei
        cases rest with
        | nil => simp at hlen
        | cons k rest =>
          obtain ⟨hk1, hk2⟩ := (hmem k).1 (by simp)
          have hdir : ∀ d ∈ directs o, listed.getD d false = true := by
            intro d hd
            obtain ⟨e, he, hb, rfl⟩ := mem_directs.1 hd
            exact hall e he hb
          have := getD_false_of (down_aheads hdc hlow i o ho hdir k (htail k hk1))
          rw [this] at hk2; cases hk2
    refine ⟨fun hnil => ?_, fun i hi => ?_⟩
    · exfalso
      cases rest with
      | nil => simp at hlen
      | cons k rest =>
        obtain ⟨hk1, hk2⟩ := (hmem k).1 (by simp)
        have : k ∈ Region.ready .any ops listed := by
          refine mem_ready.2 ⟨hk2, ops[k], by simp, fun e he hb => ?_⟩
          have hd : e.on ∈ directs ops[k] := mem_directs.2 ⟨e, he, hb, rfl⟩
          have hlt := hlow k ops[k] (by simp) _ hd
          have hnot : e.on ∉ k :: rest := by
            intro h
            rcases List.mem_cons.1 h with h | h
            · omega
            · have := List.rel_of_pairwise_cons hpw h; omega
          have := mt (hmem e.on).2 hnot
          rw [Array.getD_eq_getD_getElem?] at this ⊢
          have hin : e.on < listed.size := by omega
          simp [hin] at this ⊢
          have := this (by omega)
          simpa using this
        rw [hnil] at this
        cases this
    · have hir := inRest i hi
      obtain ⟨h1, o, ho, hall⟩ := mem_ready.1 hi
      obtain ⟨xs, ys, hsplit⟩ := List.append_of_mem hir
      obtain ⟨ao, bo, hao, htr, hlike⟩ := hal i o ho
      have hxs : ∀ k ∈ xs, k < i := by
        intro k hk
        rw [hsplit] at hpw
        exact (List.pairwise_append.1 hpw).2.2 k hk i (by simp)
      have hdir : ∀ d ∈ directs o, listed.getD d false = true := by
        intro d hd
        obtain ⟨e, he, hb, rfl⟩ := mem_directs.1 hd
        exact hall e he hb
      have hilt : i < m := ((hmem i).1 hir).1
      have hah := down_aheads hdc hlow i o ho hdir
      have hind : ∀ x ∈ xs.filterMap (l[·]?), apartA x ao = true ∧ meet x.act.cls ao.act.cls = true := by
        intro x hx
        obtain ⟨k, hk, hlk⟩ := List.mem_filterMap.1 hx
        have hpair := (hok1 i (by omega)).2 k (hxs k hk)
        simp only [okPair, hlk, hao, Bool.or_eq_true, Bool.and_eq_true] at hpair
        rcases hpair with h | h
        · exfalso
          have h' := hah k (by simpa using h)
          have hk' := (hmem k).1 (by rw [hsplit]; simp [hk])
          rw [getD_false_of h'] at hk'
          exact absurd hk'.2 (by simp)
        · exact h
      have hrest : rest.filterMap (l[·]?) = xs.filterMap (l[·]?) ++ ao :: ys.filterMap (l[·]?) := by
        rw [hsplit, List.filterMap_append, List.filterMap_cons, hao]
      rw [hrest] at hrun
      have hmemL : ∀ (k : Nat) (x : AOper), l[k]? = some x -> k < ops.size -> x.act.tidy = true ∧ ∃ o b, trO P N ops o = some b ∧ Like x b := by
        intro k x hx hk
        refine ⟨hok2 x (List.mem_of_getElem? hx), ?_⟩
        obtain ⟨ao', bo', k1, k2, k3⟩ := hal k ops[k] (by simp)
        rw [hx] at k1; cases k1
        exact ⟨_, _, k2, k3⟩
      obtain ⟨s', hstep, hrun'⟩ := Runs.front (ops := ops) hind (fun x hx => by
        rcases List.mem_cons.1 hx with rfl | hx
        · exact hmemL i _ hao (by omega)
        · obtain ⟨k, hk, hlk⟩ := List.mem_filterMap.1 hx
          have := ((hmem k).1 (by rw [hsplit]; simp [hk])).1
          exact hmemL k x hlk (by omega)) ⟨B, β, a, w, hr⟩ hrun
      have hnext : ∀ s₂ β' a' w', s₂ = s' -> Rel N B β' s₂ a' w' -> Tr B β s.heap w β' s₂.heap w' -> wpAny P .any ops Q (j + n + 1) (listed.setIfInBounds i true) a' w' := by
        intro s₂ β' a' w' e k1 k2
        subst e
        have hpw' : (xs ++ ys).Pairwise (· < ·) := by
          rw [hsplit] at hpw
          exact hpw.sublist (by simp)
        have hnd : i ∉ xs ++ ys := by
          rw [hsplit] at hpw
          have h1 := (List.pairwise_append.1 hpw)
          intro h
          rcases List.mem_append.1 h with h | h
          · have := h1.2.2 i h i (by simp); omega
          · have := List.rel_of_pairwise_cons h1.2.1 h; omega
        have hset : ∀ (k : Nat) (d : Bool), k ≠ i -> (listed.setIfInBounds i true).getD k d = listed.getD k d := by
          intro k d hk
          simp [Array.getD_eq_getD_getElem?, Array.getElem?_setIfInBounds_ne (Ne.symm hk)]
        have hseti : ∀ d : Bool, (listed.setIfInBounds i true).getD i d = true := by
          intro d
          simp [Array.getD_eq_getD_getElem?, show i < listed.size by omega]
        refine ih (xs ++ ys) _ (by rw [hsplit] at hlen; simp at hlen ⊢; omega) hpw' (by simp [hsz]) (fun k => ?_) (fun k hk1 hk2 => by rw [hset k true (by omega)]; exact hm k hk1 hk2) (fun k o' ho' hk d hd => ?_) k1 (by rw [List.filterMap_append]; exact hrun') hv (fun f'' β'' a'' w'' q0 q1 q2 => hQ f'' β'' a'' w'' q0 q1 (k2.trans q2))
        · by_cases e : k = i
          · subst e
            rw [hseti]
            simp [hnd]
          · rw [hset k true e, <- hmem k, hsplit]
            simp [e]
        · by_cases e : k = i
          · subst e
            rw [ho] at ho'; cases ho'
            have := hdir d hd
            by_cases e2 : d = k
            · subst e2; exact hseti _
            · rw [hset d false e2]; exact this
          · rw [hset k false e] at hk
            have := hdc k o' ho' hk d hd
            by_cases e2 : d = i
            · subst e2; exact hseti _
            · rw [hset d false e2]; exact this
      have h := op_sound (Q := Q) htr hlike hr hstep.vc (next := wpAny P .any ops Q (j + n + 1) (listed.setIfInBounds i true)) hnext
      unfold Go.wpOp
      rw [ho]
      simp only
      split
      · rename_i hw; rw [if_pos hw] at h; exact .inl h
      · rename_i hw; rw [if_neg hw] at h; exact h
theorem vcGuard_mono {v : AV} {want : Bool} {A A' B B' : Prop} (ha : A -> A') (hb : B -> B') (h : vcGuard v want A B) : vcGuard v want A' B' := by
  unfold vcGuard at h ⊢
  split at h
  · split at h
    · rename_i h1; simp only [h1, if_true]; exact ha h
    · rename_i h1; simp only [h1]; exact hb h
  · exact hb h
  · exact h
theorem vcOp_mono {o : AOper} {K K' : St -> Prop} {s : St} (h : vcOp P o K s) (hk : ∀ s, K s -> K' s) : vcOp P o K' s := by
  unfold vcOp at h ⊢
  split
  · rename_i hg
    rw [hg] at h
    exact vcAct_mono (fun v H h => hk _ h) h
  · rename_i g want hg
    rw [hg] at h
    exact vcGuard_mono (fun h => vcAct_mono (fun v H h => hk _ h) h) (fun h => hk _ h) h
theorem vcOps_one {x : AOper} {K : St -> Prop} {s : St} (h : vcOps P [x] K s) : vcOp P x K s := h
def midOp (ops : Array Oper) (l : List AOper) : Option Nat :=
  let ah := aheads ops.toList
  (List.range l.length).find? fun m => (match l[m]? with | some ⟨_, .call _ _, _, _⟩ => true | _ => false) &&
    ((List.range m).all fun i => (ah.getD m []).contains i) && ((List.range l.length).all fun k => k <= m || (ah.getD k []).contains m)
theorem draw_sound_mid' {id : Nat} {ops : Array Oper} {l : List AOper} {m : Nat} (hm : P.follows .mixedOrders = true) (hok : okDraw ops l = true) (hlen : l.length = ops.size) (hmid : midOp ops l = some m)
    (hal : ∀ (k : Nat) (o : Oper), ops[k]? = some o -> ∃ ao bo, l[k]? = some ao ∧ trO P N ops o = some bo ∧ Like ao bo) {Q : AExit -> St -> Prop} {s : St} {K : St -> Prop}
    (hK : ∀ f', K f' -> ∃ f₁, NormTo N f' f₁ ∧ Q .normal f₁) {x : AOper} (hx : (l.drop m).take 1 = [x]) {f : St} (hrun : Runs P (l.take m) s f)
    (hv : ∃ f₁, NormTo N f f₁ ∧ vcOp P x (fun s₂ => ∃ s₃, NormTo N s₂ s₃ ∧ ∃ f', Runs P (l.drop (m + 1)) s₃ f' ∧ K f') f₁) : AWp P N (.region id ops true) Q s := by
  have hml := List.mem_range.1 (List.mem_of_find?_eq_some hmid)
  have hp := List.find?_some hmid
  simp only [Bool.and_eq_true, List.all_eq_true, List.mem_range, Bool.or_eq_true, decide_eq_true_eq] at hp
  obtain ⟨⟨_, ht2⟩, ht3⟩ := hp
  rw [List.drop_eq_getElem_cons hml] at hx
  cases hx
  intro B β a w hr
  have hw : ({ w with drawn := w.drawn + 1 } : World).heap = w.heap := rfl
  have hr' : Rel N B β s a { w with drawn := w.drawn + 1 } := ⟨hr.sim.congr hw, fun t => (hr.rep t).mono (fun _ _ => rfl) (Nat.le_refl _) (fun _ _ _ x => x.congr hw), hr.defers, hr.size⟩
  have ht' : Tr B β s.heap w β s.heap { w with drawn := w.drawn + 1 } := Tr.congr hw rfl rfl rfl
  have hfull : (List.range m).filterMap (l[·]?) = l.take m := by
    have := filterMap_range (l.take m) []
    rw [List.length_nil, <- List.range_eq_range', List.nil_append, List.length_take, show min m l.length = m by omega] at this
    rw [<- this]
    refine fm_congr fun k hk => ?_
    have hk := List.mem_range.1 hk
    rw [List.getElem?_take_of_lt hk]
  obtain ⟨j, e1⟩ : ∃ j, ops.size = m + 1 + j := ⟨ops.size - m - 1, by omega⟩
  have hbeh : ∀ k, m < k -> k < ops.size -> m ∈ (aheads ops.toList).getD k [] := by
    intro k hk1 hk2
    rcases ht3 k (by omega) with h3 | h3
    · omega
    · simpa using h3
  refine wp_region_any hm ?_
  suffices hh : ∀ n, n = j + m + 1 -> wpAny P .any ops (fun e a' w' => ∃ x s' β', e = x.to ∧ Q x s' ∧ Rel N B β' s' a' w' ∧ Tr B β s.heap w β' s'.heap w') n (Array.replicate ops.size false) a { w with drawn := w.drawn + 1 } from hh _ (by omega)
  rintro n rfl
  refine any_sound_mid (P := P) (N := N) (ops := ops) (l := l) e1 hok hlen hal (fun i hi => by simpa using ht2 i hi) hbeh (am := l[m]) (by simp)
    (K := K) m (List.range m) (Array.replicate ops.size false) (by simp) List.pairwise_lt_range (by simp) (fun k => ?_) (fun k hk1 hk2 => ?_) (fun k o ho hk d hd => ?_) hr' (by rw [hfull]; exact hrun) hv
    (fun f' β' a' w' k0 k1 k2 => by
      obtain ⟨f₁, hn, hq⟩ := hK f' k0
      obtain ⟨β₁, hr₁, ht₁⟩ := hn B β' a' w' k1
      exact ⟨.normal, f₁, β₁, rfl, hq, hr₁, ht'.trans (k2.trans ht₁)⟩)
  · simp [Array.getD_eq_getD_getElem?, Array.getElem?_replicate]
    intro hk
    rw [if_pos (by omega)]; rfl
  · simp [Array.getD_eq_getD_getElem?, Array.getElem?_replicate, hk2]
  · exfalso
    rw [Array.getD_eq_getD_getElem?, Array.getElem?_replicate] at hk
    split at hk <;> simp at hk
theorem mid_one {ops : Array Oper} {l : List AOper} {m : Nat} (hmid : midOp ops l = some m) : ∃ x, (l.drop m).take 1 = [x] := by
  have hml := List.mem_range.1 (List.mem_of_find?_eq_some hmid)
  exact ⟨l[m], by rw [List.drop_eq_getElem_cons hml]; rfl⟩
theorem draw_sound_mid {id : Nat} {ops : Array Oper} {l : List AOper} {m : Nat} (hm : P.follows .mixedOrders = true) (hok : okDraw ops l = true) (hlen : l.length = ops.size) (hmid : midOp ops l = some m)
    (hal : ∀ (k : Nat) (o : Oper), ops[k]? = some o -> ∃ ao bo, l[k]? = some ao ∧ trO P N ops o = some bo ∧ Like ao bo) {Q : AExit -> St -> Prop} {s : St}
    (h : vcOpsD P (l.take m) (vcOps P ((l.drop m).take 1) (vcOpsD P (l.drop (m + 1)) (Q .normal))) s) : AWp P N (.region id ops true) Q s := by
  obtain ⟨x, hx⟩ := mid_one hmid
  rw [hx] at h
  obtain ⟨f, hrun, hv⟩ := vcOpsD_runs h
  refine draw_sound_mid' hm hok hlen hmid hal (K := Q .normal) (fun f' h => ⟨f', NormTo.refl _, h⟩) hx hrun ⟨f, NormTo.refl _, vcOp_mono (vcOps_one hv) fun s₂ h2 => ?_⟩
  obtain ⟨f', h3, h4⟩ := vcOpsD_runs h2
  exact ⟨s₂, NormTo.refl _, f', h3, h4⟩
end
end Go.Ab
/-
  The condition that is computed of code, and that it is enough.
-/
namespace Go.Ab
open Go Go.RowKit
set_option linter.unusedVariables false
set_option linter.unusedSimpArgs false
def narrow (ops : Array Oper) (l : List AOper) : List AOper :=
  let ah := aheads ops.toList
  l.zipIdx.map fun (o, j) =>
    match o.act with
    | .call f args =>
      let free := fun (x : AOper × Nat) => x.2 != j && !((ah.getD j []).contains x.2) && !((ah.getD x.2 []).contains j) && x.1.act.cls != .p
      if !effCall f && l.zipIdx.any free then
        if l.zipIdx.all (fun x => !(free x) || x.1.act.cls == .r || x.1.act.cls == .q || x.1.act.cls == .s || (x.1.act.cls == .a && Nat.ble j x.2) || (match x.1.act with | .call _ _ => true | _ => false)) then { o with act := .qcall f args } else { o with act := .pcall f args }
      else o
    | _ => o
def trC (P : Program) (N : Nat) : Code -> Option ACode
  | .skip => some .skip
  | .label _ => some .skip
  | .region _ ops draw =>
    match ops.toList.mapM (trO P N ops) with
    | some l => if draw then (if P.follows .mixedOrders && okDraw ops (narrow ops l) then (if tailOp ops (narrow ops l) then some (.seq (.draw (narrow ops l).dropLast) (.ops ((narrow ops l).drop ((narrow ops l).length - 1)))) else match midOp ops (narrow ops l) with | some m => some (.seq (.draw ((narrow ops l).take m)) (.seq (.ops (((narrow ops l).drop m).take 1)) (.draw ((narrow ops l).drop (m + 1))))) | none => some (.draw (narrow ops l))) else if P.follows .mixedOrders && (okDrawK ops (narrow ops l) (marksK ops (narrow ops l)) || okDrawA' ops (narrow ops l) (marksK ops (narrow ops l))) then some (.drawk (narrow ops l) (marksK ops (narrow ops l))) else some .never) else some (.ops l)
    | none => some .never
  | .seq a b => match trC P N a, trC P N b with
    | some x, some y => some (.seq x y)
    | _, _ => none
  | .cond c a b => match trC P N a, trC P N b with
    | some x, some y => some (.cond (trX c) x y)
    | _, _ => none
  | .block id a => (trC P N a).map (.block id)
  | .loop a => (trC P N a).map .loop
  | .exit id => some (.exit id)
  | .ret => some .ret
  | .refuse _ => some .never
  | .scope a => trC P N a
  | .goto _ => some .never
  | .rangeFunc _ _ _ _ => some .never
def ALoop (P : Program) (N : Nat) (c : ACode) (Q : AExit -> St -> Prop) (s : St) : Prop := ∀ x, trC P N x = some c -> AWp P N (.loop x) Q s
def vc (P : Program) (N : Nat) : ACode -> (AExit -> St -> Prop) -> St -> Prop
  | .skip, Q, s => Q .normal s
  | .ops l, Q, s => vcOps P l (Q .normal) s
  | .draw l, Q, s => vcOpsD P l (Q .normal) s
  | .drawk l ms, Q, s => ∃ R, vcOpsK P R (l.zip ms) (Q .normal) s
  | .seq a b, Q, s => vc P N a (thenQ (vc P N b Q) Q) s
  | .cond c a b, Q, s => match c.ev s.env with
    | .v (.bool t) => if t then vc P N a Q s else vc P N b Q s
    | _ => False
  | .block id a, Q, s => vc P N a (blockQ id Q) s
  | .loop a, Q, s => ALoop P N a Q s
  | .never, _, _ => False
  | .exit id, Q, s => Q (.exit id) s
  | .ret, Q, s => Q .ret s
section
variable {P : Program} {N : Nat}
theorem narrow_length (ops : Array Oper) (l : List AOper) : (narrow ops l).length = l.length := by simp [narrow]
theorem narrow_get (ops : Array Oper) {l : List AOper} {k : Nat} {x : AOper} (h : l[k]? = some x) : ∃ y, (narrow ops l)[k]? = some y ∧ Like y x := by
  unfold narrow
  simp only [List.getElem?_map, List.getElem?_zipIdx, h, Option.map_some, Nat.zero_add]
  refine ⟨_, rfl, ?_⟩
  obtain ⟨dst, act, guard, hint⟩ := x
  simp only
  split
  · split
    · split
      · exact ⟨rfl, rfl, .inr (.inr rfl)⟩
      · exact ⟨rfl, rfl, .inr (.inl rfl)⟩
    · exact .refl _
  · exact .refl _
theorem AWp.scope {c : Code} {Q : AExit -> St -> Prop} {s : St} (h : AWp P N c Q s) : AWp P N (.scope c) Q s := by
  intro B β a w hr
  refine wp_scope_straight (wp_mono (h B β a w hr) ?_)
  rintro e a' w' ⟨x, s', β', rfl, k2, k3, k4⟩
  cases x <;> exact ⟨_, s', β', rfl, k2, k3, k4⟩
theorem draw_soundK' {id : Nat} {ops : Array Oper} {l : List AOper} (hm : P.follows .mixedOrders = true) (hok : (okDrawK ops l (marksK ops l) || okDrawA' ops l (marksK ops l)) = true) (hlen : l.length = ops.size)
    (hal : ∀ (k : Nat) (o : Oper), ops[k]? = some o -> ∃ ao bo, l[k]? = some ao ∧ trO P N ops o = some bo ∧ Like ao bo) {Q : AExit -> St -> Prop} {s : St} (h : ∃ R, vcOpsK P R (l.zip (marksK ops l)) (Q .normal) s) : AWp P N (.region id ops true) Q s := by
  obtain ⟨R, h⟩ := h
  rw [Bool.or_eq_true] at hok
  rcases hok with hok | hok
  · exact draw_soundK (marksK_length ops l) hm hok hlen hal h
  · exact draw_soundA (marksK_length ops l) hm hok hlen hal h
theorem vc_sound : ∀ (c : Code) (ac : ACode), trC P N c = some ac -> ∀ (Q : AExit -> St -> Prop) (s : St), vc P N ac Q s -> AWp P N c Q s := by
  intro c
  induction c with
  | skip => intro ac h Q s hv; simp [trC] at h; subst h; exact AWp.skip hv
  | label l => intro ac h Q s hv; simp [trC] at h; subst h; exact fun B β a w hr => wp_label ⟨.normal, s, β, rfl, hv, hr, Tr.refl _ _ _ _⟩
  | region id ops draw =>
    intro ac h Q s hv
    simp only [trC] at h
    split at h
    rotate_left
    · cases h; exact hv.elim
    rename_i l hl
    obtain ⟨hlen, hget⟩ := mapM_get hl
    cases draw with
    | true =>
      simp only [if_true] at h
      have hall : ∀ (k : Nat) (o : Oper), ops[k]? = some o -> ∃ ao bo, (narrow ops l)[k]? = some ao ∧ trO P N ops o = some bo ∧ Like ao bo := by
        intro k o ho
        have hk : k < l.length := by
          rw [hlen]
          have : k < ops.size := by
            rcases Nat.lt_or_ge k ops.size with h | h
            · exact h
            · simp [Array.getElem?_eq_none h] at ho
          simpa using this
        obtain ⟨ao, hao, hlike⟩ := narrow_get ops (l := l) (k := k) (x := l[k]) (by simp)
        exact ⟨ao, l[k], hao, hget k o _ (by simpa using ho) (by simp), hlike⟩
      split at h
      · rename_i hc
        simp only [Bool.and_eq_true] at hc
        split at h
        · rename_i ht
          cases h
          refine draw_sound_tail hc.1 hc.2 (by rw [narrow_length, hlen]; simp) ht hall ?_
          simp only [vc] at hv
          exact hv
        · split at h
          · rename_i m hmid
            cases h
            refine draw_sound_mid hc.1 hc.2 (by rw [narrow_length, hlen]; simp) hmid hall ?_
            simp only [vc] at hv
            exact hv
          · cases h
            simp only [vc] at hv
            exact draw_sound hc.1 hc.2 (by rw [narrow_length, hlen]; simp) hall hv
      · split at h
        · rename_i hc
          cases h
          rw [Bool.and_eq_true] at hc
          simp only [vc] at hv
          exact draw_soundK' hc.1 hc.2 (by rw [narrow_length, hlen]; simp) hall hv
        · cases h; exact hv.elim
    | false =>
      simp only [Bool.false_eq_true, if_false, Option.some.injEq] at h
      subst h
      simp only [vc] at hv
      intro B β a w hr
      refine wp_region (ops_sound (List.range ops.size) l (by simp [hlen]) (fun j i ao hj hao => ?_) hr hv (fun s' β' a' w' hQ hr' ht' => ⟨.normal, s', β', rfl, hQ, hr', ht'⟩))
      have hji : j = i := by
        have h1 := getElem?_lt hj
        rw [List.getElem?_eq_getElem h1] at hj
        simpa using hj
      subst hji
      have hlt := getElem?_lt hao
      have hlt' : j < ops.size := by rw [hlen] at hlt; simpa using hlt
      exact ⟨ops[j], by simp, hget j ops[j] ao (by simp) hao⟩
  | seq a b iha ihb =>
    intro ac h Q s hv
    simp only [trC] at h
    split at h
    · rename_i x y hx hy
      cases h
      simp only [vc] at hv
      refine AWp.seq (AWp.mono (iha x hx _ s hv) ?_)
      intro e s' he
      cases e with
      | normal => exact ihb y hy Q s' he
      | exit id => exact he
      | ret => exact he
    · cases h
  | cond c a b iha ihb =>
    intro ac h Q s hv
    simp only [trC] at h
    split at h
    · rename_i x y hx hy
      cases h
      simp only [vc] at hv
      split at hv
      · rename_i t hc
        refine AWp.cond hc ?_
        cases t
        · exact ihb y hy Q s hv
        · exact iha x hx Q s hv
      · exact hv.elim
    · cases h
  | block id a ih =>
    intro ac h Q s hv
    simp only [trC, Option.map_eq_some_iff] at h
    obtain ⟨x, hx, rfl⟩ := h
    simp only [vc] at hv
    exact AWp.block (ih x hx _ s hv)
  | loop a ih =>
    intro ac h Q s hv
    simp only [trC, Option.map_eq_some_iff] at h
    obtain ⟨x, hx, rfl⟩ := h
    simp only [vc] at hv
    exact hv a hx
  | exit id => intro ac h Q s hv; simp [trC] at h; subst h; exact AWp.exit hv
  | ret => intro ac h Q s hv; simp [trC] at h; subst h; exact AWp.ret hv
  | rangeFunc f ps a b => intro ac h Q s hv; simp [trC] at h; subst h; exact hv.elim
  | scope b ih => intro ac h Q s hv; simp only [trC] at h; exact AWp.scope (ih ac h Q s hv)
  | goto l => intro ac h Q s hv; simp [trC] at h; subst h; exact hv.elim
  | refuse w => intro ac h Q s hv; simp [trC] at h; subst h; exact hv.elim
theorem ALoop.unfold {c : ACode} {Q : AExit -> St -> Prop} {s : St} (h : vc P N c (thenQ (ALoop P N c Q) Q) s) : ALoop P N c Q s := by
  intro x hx
  refine AWp.loop (AWp.mono (vc_sound x c hx _ s h) ?_)
  intro e s' he
  cases e with
  | normal => exact he x hx
  | exit id => exact he
  | ret => exact he
inductive ARes where
  | tmp (t : Nat)
  | cell (t : Nat) (l : Option Nat)
def trR (P : Program) : ResultVar -> Option ARes
  | .tmp t => some (.tmp t)
  | .cell t ty => (layOf P ty).map (.cell t)
def resF (s : St) : ARes -> Option AV
  | .tmp t => some (s.env t)
  | .cell t l => readA s.heap l (s.env t)
def resV (rs : List ARes) (s : St) : Option AV :=
  match rs with
  | [r] => resF s r
  | rs => (rs.mapM (resF s)).map .tup
def envOf (args : List AV) : Env := fun t => (args[t]?).getD .any
def retQ (rs : List ARes) (Q : AV -> Heap -> Prop) : AExit -> St -> Prop
  | .normal, s => bindP (resV rs s) fun r => Q r s.heap
  | .ret, s => bindP (resV rs s) fun r => Q r s.heap
  | .exit _, _ => False
theorem res_sound {B : Nat} {β : Lies} {s : St} {a : Act} {w : World} (hr : Rel N B β s a w) {g : ResultVar -> Sem Value} (g1 : ∀ t, g (.tmp t) = pure (a.tmps.getD t undef)) (g2 : ∀ x t, g (.cell x t) = (do loadVar t (<- asAddr (a.tmps.getD x undef))))
    {r : ResultVar} {ar : ARes} (htr : trR P r = some ar) {v : AV} (hv : resF s ar = some v) : ∃ c, (g r).run P w = .ok c w ∧ RepH β s.heap w v c := by
  cases r with
  | tmp t =>
    simp [trR] at htr
    subst htr
    simp [resF] at hv
    subst hv
    exact ⟨_, by rw [g1]; rfl, hr.rep t⟩
  | cell x t =>
    simp only [trR, Option.map_eq_some_iff] at htr
    obtain ⟨l, hl, rfl⟩ := htr
    simp only [resF] at hv
    obtain ⟨d, h1, h2⟩ := read_sound (P := P) hr.sim hl hv (hr.rep x)
    refine ⟨d, ?_, h2⟩
    rw [g2]
    have hrep := hr.rep x
    obtain ⟨c, hc⟩ : ∃ c, a.tmps.getD x undef = c := ⟨_, rfl⟩
    rw [hc] at hrep h1 ⊢
    unfold readA at hv
    split at hv
    · rename_i o off he
      rw [he] at hrep
      cases hrep with
      | ptr ho => simpa [Instr.loadAt, Instr.sureAddr, asAddr] using h1
    · rename_i y he
      rw [he] at hrep
      cases hrep with
      | rp cv k1 k2 => simpa [Instr.loadAt, Instr.sureAddr, asAddr] using h1
    · cases hv
theorem results_sound {B : Nat} {β : Lies} {s : St} {a : Act} {w : World} (hr : Rel N B β s a w) {fn : Func} {rs : List ARes} (htr : fn.results.toList.mapM (trR P) = some rs) {v : AV} (hv : resV rs s = some v) :
    ∃ c, (results fn a.tmps).run P w = .ok c w ∧ RepH β s.heap w v c := by
  obtain ⟨hlen, hget⟩ := mapM_get htr
  obtain ⟨g, g1, g2, hres⟩ : ∃ g : ResultVar -> Sem Value, (∀ t, g (.tmp t) = pure (a.tmps.getD t undef)) ∧ (∀ x t, g (.cell x t) = (do loadVar t (<- asAddr (a.tmps.getD x undef)))) ∧
      results fn a.tmps = (do let vs <- fn.results.mapM g; pure (if h : vs.size = 1 then vs[0] else .tuple vs)) := ⟨_, fun _ => rfl, fun _ _ => rfl, rfl⟩
  have key : ∀ (l : List ResultVar) (ls : List ARes) (vs : List AV), l.length = ls.length -> (∀ (i : Nat) (r : ResultVar) (ar : ARes), l[i]? = some r -> ls[i]? = some ar -> trR P r = some ar) -> ls.mapM (resF s) = some vs ->
      ∃ cs : List Value, (l.mapM g).run P w = .ok cs w ∧ vs.length = cs.length ∧ ∀ (i : Nat) (b : AV) (c : Value), vs[i]? = some b -> cs[i]? = some c -> RepH β s.heap w b c := by
    intro l
    induction l with
    | nil => intro ls vs hl _ h; cases ls with
      | nil => simp at h; subst h; exact ⟨[], rfl, rfl, by simp⟩
      | cons _ _ => simp at hl
    | cons r l ih =>
      intro ls vs hl hg h
      cases ls with
      | nil => simp at hl
      | cons ar ls =>
        rw [List.mapM_cons] at h
        simp only [bind, Option.bind_eq_some_iff, pure, Option.some.injEq] at h
        obtain ⟨v, hv, vs', hvs, rfl⟩ := h
        obtain ⟨c, hc, hrc⟩ := res_sound (P := P) hr g1 g2 (hg 0 r ar rfl rfl) hv
        obtain ⟨cs, h1, h2, h3⟩ := ih ls vs' (by simpa using hl) (fun i r ar h1 h2 => hg (i + 1) r ar (by simpa using h1) (by simpa using h2)) hvs
        refine ⟨c :: cs, ?_, by simp [h2], fun i b d hb hd => ?_⟩
        · rw [List.mapM_cons, Sem.run_bind, hc, Result.andThen_ok, Sem.run_bind, h1]
          rfl
        · cases i with
          | zero => simp at hb hd; subst hb; subst hd; exact hrc
          | succ i => simp at hb hd; exact h3 i b d hb hd
  have run : ∀ (cs : List Value), (fn.results.toList.mapM g).run P w = .ok cs w ->
      (results fn a.tmps).run P w = .ok (if h : cs.toArray.size = 1 then cs.toArray[0] else .tuple cs.toArray) w := by
    intro cs h
    rw [hres, Sem.run_bind, Array.mapM_eq_mapM_toList]
    simp only [Sem.run_map]
    rw [h]
    rfl
  unfold resV at hv
  split at hv
  · rename_i r
    obtain ⟨cs, h1, h2, h3⟩ := key _ [r] [v] (by simpa using hlen.symm) (fun i x y hx hy => hget i x y hx hy) (by simp [hv])
    refine ⟨_, run cs h1, ?_⟩
    match cs, h2 with
    | [c], _ => exact h3 0 v c rfl rfl
  · rename_i hne
    rw [Option.map_eq_some_iff] at hv
    obtain ⟨vs, hvs, rfl⟩ := hv
    obtain ⟨cs, h1, h2, h3⟩ := key _ rs vs (by simpa using hlen.symm) (fun i x y hx hy => hget i x y hx hy) hvs
    have hl : vs.length = rs.length := (mapM_get hvs).1
    have hne1 : cs.toArray.size ≠ 1 := by
      intro e
      simp only [List.size_toArray] at e
      rcases rs with _ | ⟨x, _ | ⟨y, rs⟩⟩
      · have hl' : vs.length = 0 := hl
        omega
      · exact hne x rfl
      · have hl' : vs.length = rs.length + 1 + 1 := hl
        omega
    refine ⟨_, run cs h1, ?_⟩
    rw [dif_neg hne1]
    exact .tup (by simpa using h2) fun i b c hb hc => h3 i b c hb (by simpa using hc)
theorem ACalls.frz {f : FuncId} {args : List AV} {H : Heap} {Q : AV -> Heap -> Prop} (h : ACalls P f args H fun r H' => ∃ L r', H' = H ++ L ∧ Frz H' H.length r r' ∧ Q r' H) : ACalls P f args H Q := by
  refine ⟨h.ok, fun B β w cs hs hl ha => Calls.mono (h.go B β w cs hs hl ha) ?_⟩
  rintro e w' ⟨r, c, β', H', rfl, ⟨L, r', rfl, hz, hq⟩, h2, h3, h4⟩
  have htake : (H ++ L).take H.length = H := by simp
  have s' := h3.take H.length (by simp) (by rw [htake]; exact hs.bnd)
  have t' := h4.take H.length (Nat.le_refl _) (by simp)
  have r'' := hz.rep h3 h2
  rw [htake] at s' t' r''
  exact ⟨r', c, β', H, rfl, hq, r'', s', t'⟩
end
end Go.Ab

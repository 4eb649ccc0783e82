/- A part of a law's proof: AbVc. -/
import Derived.Test.YtjkcjbkkgkhljaaAbMSound5
set_option linter.constructorNameAsVariable false
/-
  Code: what is to be shown of it, and that this is enough.
-/
namespace Go.Ab
open Go Go.RowKit
set_option linter.unusedVariables false
set_option linter.unusedSimpArgs false
abbrev Env := Nat -> AV
def upd (e : Env) (d : Nat) (v : AV) : Env := fun t => if t = d then v else e t
@[simp] theorem upd_same (e : Env) (d : Nat) (v : AV) : upd e d v d = v := by simp [upd]
theorem upd_ne (e : Env) {d t : Nat} (v : AV) (h : t ≠ d) : upd e d v t = e t := by simp [upd, h]
structure St where
  env : Env
  heap : Heap
def St.put (s : St) (d : Option Nat) (v : AV) (H : Heap) : St :=
  ⟨match d with | some d => upd s.env d v | none => s.env, H⟩
structure Rel (N B : Nat) (β : Lies) (s : St) (a : Act) (w : World) : Prop where
  sim : Sim B β s.heap w
  rep : ∀ t, RepH β s.heap w (s.env t) (a.tmps.getD t undef)
  defers : a.defers = []
  size : a.tmps.size = N
def Callable (P : Program) (f : FuncId) : Prop := ∃ fn, P.funcs[f]? = some fn ∧ (fn.name == "runtime.NumGoroutine") = false ∧ fn.body.isNone = false
structure ACalls (P : Program) (f : FuncId) (args : List AV) (H : Heap) (Q : AV -> Heap -> Prop) : Prop where
  ok : Callable P f
  go : ∀ (B : Nat) (β : Lies) (w : World) (cs : Array Value), Sim B β H w -> args.length = cs.size -> (∀ (i : Nat) (a : AV) (c : Value), args[i]? = some a -> cs[i]? = some c -> RepH β H w a c) ->
    Calls P f cs w fun e w' => ∃ r c β' H', e = .returned c ∧ Q r H' ∧ RepH β' H' w' r c ∧ Sim B β' H' w' ∧ Tr B β H w β' H' w'
theorem ACalls.mono {P : Program} {f : FuncId} {args : List AV} {H : Heap} {Q Q' : AV -> Heap -> Prop} (h : ACalls P f args H Q) (hq : ∀ r H', Q r H' -> Q' r H') : ACalls P f args H Q' :=
  ⟨h.ok, fun B β w cs h1 h2 h3 => Calls.mono (h.go B β w cs h1 h2 h3) fun e w' ⟨r, c, β', H', k1, k2, k3, k4, k5⟩ => ⟨r, c, β', H', k1, hq _ _ k2, k3, k4, k5⟩⟩
inductive AExit where
  | normal
  | exit (id : Nat)
  | ret
def AExit.to : AExit -> Exit
  | .normal => .normal
  | .exit id => .exit id
  | .ret => .ret
def AWp (P : Program) (N : Nat) (c : Code) (Q : AExit -> St -> Prop) (s : St) : Prop :=
  ∀ (B : Nat) (β : Lies) (a : Act) (w : World), Rel N B β s a w ->
    c.wp P (fun e a' w' => ∃ x s' β', e = AExit.to x ∧ Q x s' ∧ Rel N B β' s' a' w' ∧ Tr B β s.heap w β' s'.heap w') a w
section
variable {P : Program} {N : Nat} {Q : AExit -> St -> Prop} {s : St}
theorem AWp.mono {c : Code} {Q' : AExit -> St -> Prop} (h : AWp P N c Q s) (hq : ∀ x s, Q x s -> Q' x s) : AWp P N c Q' s := by
  intro B β a w hr
  exact wp_mono (h B β a w hr) fun e a' w' ⟨x, s', β', h1, h2, h3, h4⟩ => ⟨x, s', β', h1, hq _ _ h2, h3, h4⟩
theorem AWp.skip (h : Q .normal s) : AWp P N .skip Q s := fun B β a w hr => wp_skip ⟨.normal, s, β, rfl, h, hr, Tr.refl _ _ _ _⟩
theorem AWp.ret (h : Q .ret s) : AWp P N .ret Q s := fun B β a w hr => wp_ret ⟨.ret, s, β, rfl, h, hr, Tr.refl _ _ _ _⟩
theorem AWp.exit {id : Nat} (h : Q (.exit id) s) : AWp P N (.exit id) Q s := fun B β a w hr => wp_exit ⟨.exit id, s, β, rfl, h, hr, Tr.refl _ _ _ _⟩
def thenQ (K : St -> Prop) (Q : AExit -> St -> Prop) : AExit -> St -> Prop
  | .normal, s => K s
  | .exit id, s => Q (.exit id) s
  | .ret, s => Q .ret s
theorem AWp.seq {x y : Code} (h : AWp P N x (thenQ (AWp P N y Q) Q) s) : AWp P N (.seq x y) Q s := by
  intro B β a w hr
  refine wp_seq (wp_mono (h B β a w hr) ?_)
  rintro e a' w' ⟨e', s', β', rfl, h2, h3, h4⟩
  cases e' with
  | normal =>
    refine wp_mono (h2 B β' a' w' h3) ?_
    rintro e a₂ w₂ ⟨e'', s₂, β₂, k1, k2, k3, k4⟩
    exact ⟨e'', s₂, β₂, k1, k2, k3, h4.trans k4⟩
  | exit id => exact ⟨.exit id, s', β', rfl, h2, h3, h4⟩
  | ret => exact ⟨.ret, s', β', rfl, h2, h3, h4⟩
theorem Rel.ev {B : Nat} {β : Lies} {a : Act} {w : World} (hr : Rel N B β s a w) (x : Operand) : RepH β s.heap w ((trX x).ev s.env) (a.eval x) := trX_rep hr.rep x
theorem AWp.cond {c : Operand} {x y : Code} {b : Bool} (hc : (trX c).ev s.env = .v (.bool b)) (h : if b then AWp P N x Q s else AWp P N y Q s) : AWp P N (.cond c x y) Q s := by
  intro B β a w hr
  have he := hr.ev c
  rw [hc] at he
  refine wp_cond (t := b) (rep_v he) ?_
  cases b
  · exact h B β a w hr
  · exact h B β a w hr
def blockQ (id : Nat) (Q : AExit -> St -> Prop) : AExit -> St -> Prop
  | .normal, s => Q .normal s
  | .exit id', s => if id' = id then Q .normal s else Q (.exit id') s
  | .ret, s => Q .ret s
theorem AWp.block {id : Nat} {c : Code} (h : AWp P N c (blockQ id Q) s) : AWp P N (.block id c) Q s := by
  intro B β a w hr
  refine wp_block (wp_mono (h B β a w hr) ?_)
  rintro e a' w' ⟨e', s', β', rfl, h2, h3, h4⟩
  cases e' with
  | normal => exact ⟨.normal, s', β', rfl, h2, h3, h4⟩
  | exit id' =>
    simp only [AExit.to, Exit.inBlock, blockQ] at h2 ⊢
    split at h2
    · rename_i hid; rw [if_pos hid]; exact ⟨.normal, s', β', rfl, h2, h3, h4⟩
    · rename_i hid; rw [if_neg hid]; exact ⟨.exit id', s', β', rfl, h2, h3, h4⟩
  | ret => exact ⟨.ret, s', β', rfl, h2, h3, h4⟩
theorem steps_tail {X Y T : Machine} (h : step P X = .next Y) (hne : X ≠ T) (hs : Steps P X T) : Steps P Y T := by
  obtain ⟨n, hn⟩ := hs
  cases n with
  | zero => simp [runN] at hn; exact absurd hn hne
  | succ n => simp only [runN, h] at hn; exact ⟨n, hn⟩
theorem exitTo_shorter {id : Nat} : ∀ {k k' : List Item}, exitTo id k = some k' -> k'.length < k.length := by
  intro k
  induction k with
  | nil => intro k' h; simp [exitTo] at h
  | cons x k ih =>
    intro k' h
    cases x <;> simp only [exitTo] at h
    case inBlock id' =>
      split at h
      · cases h; simp
      · have := ih h; simp; omega
    all_goals (have := ih h; simp; omega)
theorem lone_ne {b : Frame} {a a' : Act} {l l' : List Item} {cs : List Frame} {w w' : World} (h : l'.length < l.length) : lone (b.at a l) cs w ≠ lone (b.at a' l') cs w' := by
  intro e
  have h1 : (lone (b.at a l) cs w).gs[0]? = (lone (b.at a' l') cs w').gs[0]? := by rw [e]
  simp [lone] at h1
  have h2 : (b.at a l).todo = (b.at a' l').todo := by rw [h1]
  simp [Frame.at] at h2
  rw [h2] at h; omega
theorem lone_ne_ret {b : Frame} {a a' : Act} {l l' : List Item} {cs : List Frame} {w w' : World} : lone (b.at a l) cs w ≠ lone { b.at a' l' with mode := .returning } cs w' := by
  intro e
  have h1 : (lone (b.at a l) cs w).gs[0]? = (lone { b.at a' l' with mode := .returning } cs w').gs[0]? := by rw [e]
  simp [lone] at h1
  have h2 : (b.at a l).mode = ({ b.at a' l' with mode := .returning } : Frame).mode := by rw [h1]
  simp [Frame.at] at h2
theorem AWp.loop {c : Code} (h : AWp P N c (thenQ (AWp P N (.loop c) Q) Q) s) : AWp P N (.loop c) Q s := by
  intro B β a w hr b k cs
  obtain ⟨e, a₁, w₁, ⟨e', s', β', rfl, h2, h3, h4⟩, harr⟩ := h B β a w hr b (.inLoop c :: k) cs
  cases e' with
  | normal =>
    obtain ⟨e₂, a₂, w₂, ⟨e'', s₂, β₂, rfl, k2, k3, k4⟩, harr₂⟩ := h2 B β' a₁ w₁ h3 b k cs
    refine ⟨_, a₂, w₂, ⟨e'', s₂, β₂, rfl, k2, k3, h4.trans k4⟩, ?_⟩
    -- the loop's head is passed twice: once as code, once as what is left of a round
    have hl : ∀ {m : Machine}, Steps P m (lone (b.at a₁ (.inLoop c :: k)) cs w₁) -> Arrives P (lone (b.at a₁ (.code (.loop c) :: k)) cs w₁) b k cs (AExit.to e'') a₂ w₂ -> Arrives P m b k cs (AExit.to e'') a₂ w₂ := by
      intro m hm ha
      have h1 : step P (lone (b.at a₁ (.code (.loop c) :: k)) cs w₁) = .next (lone (b.at a₁ (.code c :: .inLoop c :: k)) cs w₁) := step_loop
      have h2 : step P (lone (b.at a₁ (.inLoop c :: k)) cs w₁) = .next (lone (b.at a₁ (.code c :: .inLoop c :: k)) cs w₁) := step_inLoop
      have hm' := hm.trans (.one h2)
      cases e'' with
      | normal => exact hm'.trans (steps_tail h1 (lone_ne (by simp)) ha)
      | exit id => exact fun k' hk => hm'.trans (steps_tail h1 (lone_ne (by have := exitTo_shorter hk; simp; omega)) (ha k' hk))
      | ret => obtain ⟨todo, hs⟩ := ha; exact ⟨todo, hm'.trans (steps_tail h1 lone_ne_ret hs)⟩
    exact hl (.head step_loop harr) harr₂
  | exit id => exact ⟨_, a₁, w₁, ⟨.exit id, s', β', rfl, h2, h3, h4⟩, .of_steps (.one step_loop) (.pass (x := .inLoop c) rfl (fun _ _ => .inl (by simp [AExit.to])) harr)⟩
  | ret => exact ⟨_, a₁, w₁, ⟨.ret, s', β', rfl, h2, h3, h4⟩, .of_steps (.one step_loop) (.pass (x := .inLoop c) rfl (fun _ _ => .inl (by simp [AExit.to])) harr)⟩
end
end Go.Ab
/-
  The condition that is computed of code, and that it is enough.
-/
namespace Go.Ab
open Go Go.RowKit
set_option linter.unusedVariables false
set_option linter.unusedSimpArgs false
def bindP {α : Type} (o : Option α) (K : α -> Prop) : Prop := ∃ x, o = some x ∧ K x
inductive AAct where
  | p (op : POp)
  | m (op : MOp)
  | call (f : AX) (args : List AX)
  | pcall (f : AX) (args : List AX)
  | qcall (f : AX) (args : List AX)
  | never
def PureCall (P : Program) (f : FuncId) (args : List AV) (v : AV) : Prop := ∀ H, ACalls P f args H fun r H' => r = v ∧ H' = H
structure AOper where
  dst : Option Nat
  act : AAct
  guard : Option (Nat × Bool)
  h : Nat
inductive ACode where
  | skip
  | ops (l : List AOper)
  | draw (l : List AOper)
  | drawk (l : List AOper) (ms : List Bool)
  | seq (a b : ACode)
  | cond (c : AX) (a b : ACode)
  | block (id : Nat) (a : ACode)
  | loop (a : ACode)
  | never
  | exit (id : Nat)
  | ret
def trA (P : Program) (o : Oper) : Option AAct :=
  match trP P o with
  | some p => some (.p p)
  | none => match trM P o with
    | some m => some (.m m)
    | none => match o.op with
      | .call { callee := .value f, args, .. } => some (.call (trX f) (args.toList.map trX))
      | .panic _ => some .never
      | _ => none
def elemOf (P : Program) (t : TypeId) : Nat :=
  match P.underlying t with
  | some (.slice e) => e
  | some (.map _ e) => e
  | some (.pointer e) => e
  | _ => 0
def hintOf (P : Program) (o : Oper) : Nat :=
  match o.op with
  | .makeMap t _ => match P.underlying t with
    | some (.map k e) => k * 65536 + e
    | _ => 0
  | .makeSlice t _ _ => elemOf P t
  | .buildSlice t _ _ => elemOf P t
  | .convert _ t _ => elemOf P t
  | .alloc t => match P.underlying t with
    | some (.struct fs) => fs.toList.foldr (fun f n => match elemOf P f.type with
      | 0 => n
      | e + 1 => match P.underlying f.type with
        | some (.slice _) => e + 1
        | _ => n) 0
    | _ => 0
  | .call { argTypes, .. } => match argTypes.toList with
    | t :: _ => elemOf P t
    | [] => 0
  | _ => 0
def trO (P : Program) (N : Nat) (ops : Array Oper) (o : Oper) : Option AOper :=
  match (match o.dst with | some d => decide (d < N) | none => true), trA P o with
  | true, some a =>
    match o.guard with
    | none => some ⟨o.dst, a, none, hintOf P o⟩
    | some (g, b) => match (ops[g]?).bind (·.dst) with
      | some d => some ⟨o.dst, a, some (d, b), hintOf P o⟩
      | none => none
  | _, _ => none
def AOper.put (o : AOper) (K : St -> Prop) (s : St) (v : AV) (H : Heap) : Prop := K (s.put o.dst v H)
def vcAct (P : Program) (act : AAct) (K : AV -> Heap -> Prop) (s : St) : Prop :=
  match act with
  | .p op => bindP (op.run s.env) fun v => K v s.heap
  | .m op => bindP (op.run s.env s.heap) fun r => K r.1 r.2
  | .call f args => match f.ev s.env with
    | .fn g cap => ACalls P g (args.map (·.ev s.env) ++ cap) s.heap K
    | _ => False
  | .pcall f args => match f.ev s.env with
    | .fn g cap => ∃ v, PureCall P g (args.map (·.ev s.env) ++ cap) v ∧ K v s.heap
    | _ => False
  | .qcall f args => match f.ev s.env with
    | .fn g cap => ∃ v, (ACalls P g (args.map (·.ev s.env) ++ cap) s.heap fun r H' => r = v ∧ H' = s.heap) ∧ K v s.heap
    | _ => False
  | .never => False
def vcGuard (g : AV) (want : Bool) (yes no : Prop) : Prop :=
  match g with
  | .v (.bool b) => if b = want then yes else no
  | .v (.tuple _) => no
  | _ => False
def vcOp (P : Program) (o : AOper) (K : St -> Prop) (s : St) : Prop :=
  match o.guard with
  | none => vcAct P o.act (fun v H => K (s.put o.dst v H)) s
  | some (g, want) => vcGuard (s.env g) want (vcAct P o.act (fun v H => K (s.put o.dst v H)) s) (K (s.put o.dst unit s.heap))
def vcOps (P : Program) : List AOper -> (St -> Prop) -> St -> Prop
  | [], K, s => K s
  | o :: os, K, s => vcOp P o (vcOps P os K) s
section
variable {P : Program} {N : Nat}
theorem Rel.put {B : Nat} {β β' : Lies} {s : St} {a : Act} {w w' : World} {H' : Heap} (hr : Rel N B β s a w) (hs : Sim B β' H' w') (ht : Tr B β s.heap w β' H' w') {d : Option Nat} (hd : ∀ x, d = some x -> x < N) {v : AV} {c : Value} (hv : RepH β' H' w' v c) :
    Rel N B β' (s.put d v H') (a.put d c) w' := by
  refine ⟨hs, fun t => ?_, ?_, ?_⟩
  · cases d with
    | none => exact ht.rep (hr.rep t)
    | some x =>
      have hx := hd x rfl
      have hsz := hr.size
      simp only [St.put, Act.put, upd]
      by_cases e : t = x
      · subst e
        simp only [if_true]
        have : (a.tmps.setIfInBounds t c).getD t undef = c := by
          simp [Array.getD, hsz, hx]
        rw [this]; exact hv
      · rw [if_neg e]
        have : (a.tmps.setIfInBounds x c).getD t undef = a.tmps.getD t undef := by
          simp [Array.getD_eq_getD_getElem?, Array.getElem?_setIfInBounds_ne (Ne.symm e)]
        rw [this]
        exact ht.rep (hr.rep t)
  · cases d <;> exact hr.defers
  · cases d <;> simp [Act.put, hr.size]
theorem vcAct_mono {act : AAct} {K K' : AV -> Heap -> Prop} {s : St} (hk : ∀ v H, K v H -> K' v H) (h : vcAct P act K s) : vcAct P act K' s := by
  cases act with
  | p op => obtain ⟨v, h1, h2⟩ := h; exact ⟨v, h1, hk _ _ h2⟩
  | m op => obtain ⟨v, h1, h2⟩ := h; exact ⟨v, h1, hk _ _ h2⟩
  | call f args =>
    simp only [vcAct] at h ⊢
    split at h
    · rename_i g cap hf
      exact h.mono hk
    · exact h
  | pcall f args =>
    simp only [vcAct] at h ⊢
    split at h
    · obtain ⟨v, h1, h2⟩ := h; exact ⟨v, h1, hk _ _ h2⟩
    · exact h
  | qcall f args =>
    simp only [vcAct] at h ⊢
    split at h
    · obtain ⟨v, h1, h2⟩ := h; exact ⟨v, h1, hk _ _ h2⟩
    · exact h
  | never => exact h
theorem call_sound {o : Oper} {f : Operand} {args : Array Operand} {ts : Array TypeId} (hop : o.op = .call { callee := .value f, args := args, argTypes := ts }) {B : Nat} {β : Lies} {s : St} {a : Act} {w : World} (hr : Rel N B β s a w) (hd : ∀ x, o.dst = some x -> x < N)
    {next : Act -> World -> Prop} {Q : Exit -> Act -> World -> Prop} {g : FuncId} {cap : List AV} (hf : (trX f).ev s.env = .fn g cap) {R : AV -> Heap -> Prop}
    (hv : ACalls P g ((args.toList.map trX).map (·.ev s.env) ++ cap) s.heap R) (hk : ∀ r H' β' a' w', R r H' -> Rel N B β' (s.put o.dst r H') a' w' -> Tr B β s.heap w β' H' w' -> next a' w') : o.wp P a w next Q := by
  unfold Oper.wp
  have he := hr.ev f
  rw [hf] at he
  obtain ⟨vs, hfv, hlen, hget⟩ : ∃ vs : Array Value, a.eval f = .func (.func g) #[] vs ∧ cap.length = vs.size ∧ ∀ (i : Nat) (b : AV) (c : Value), cap[i]? = some b -> vs[i]? = some c -> RepH β s.heap w b c := by
    generalize a.eval f = v at he
    cases he with
    | fn hl h => exact ⟨_, rfl, hl, h⟩
  have hl := list_rep hr.rep args.toList
  have hcalls := hv.go B β w (args.map a.eval ++ vs) hr.sim (by simp [hlen]) (fun i b c hb hc => by
    have hl1 : ((args.toList.map trX).map (·.ev s.env)).length = (args.map a.eval).size := by simp
    rcases Nat.lt_or_ge i ((args.toList.map trX).map (·.ev s.env)).length with hlt | hge
    · rw [List.getElem?_append_left hlt] at hb
      rw [Array.getElem?_append_left (by omega)] at hc
      refine hl.2 i b c hb ?_
      rw [<- Array.getElem?_toList, Array.toList_map] at hc
      exact hc
    · rw [List.getElem?_append_right hge] at hb
      rw [Array.getElem?_append_right (by omega)] at hc
      rw [hl1] at hb
      exact hget _ b c hb hc)
  obtain ⟨fn, hfn, hname, hbody⟩ := hv.ok
  have hname' : ¬ fn.name = "runtime.NumGoroutine" := by simpa using hname
  have hbody' : ¬ fn.body = none := by intro h; rw [h] at hbody; cases hbody
  have hex : (execOp a.eval o).run P w = .ok (.enter g (args.map a.eval ++ vs)) w := by
    obtain ⟨dst, op, type, pos, after, guard⟩ := o
    simp only at hop
    subst hop
    simp [execOp, resolve, hfv, Deferred.ofValue, invoke, callFunc, hfn, hname', hbody']
  rw [hex]
  simp only [Oper.upon]
  refine Calls.mono hcalls ?_
  rintro e w' ⟨r, c, β', H', rfl, k2, k3, k4, k5⟩
  exact hk r H' β' _ _ k2 (hr.put k4 k5 hd k3) k5
def pureOf : AAct -> AAct
  | .call f args => .pcall f args
  | x => x
def quietOf : AAct -> AAct
  | .call f args => .qcall f args
  | x => x
theorem act_sound {o : Oper} {act act' : AAct} (htr : trA P o = some act) (hact : act' = act ∨ act' = pureOf act ∨ act' = quietOf act) {B : Nat} {β : Lies} {s : St} {a : Act} {w : World} (hr : Rel N B β s a w) (hd : ∀ x, o.dst = some x -> x < N)
    {K : St -> Prop} {next : Act -> World -> Prop} {Q : Exit -> Act -> World -> Prop}
    (hv : vcAct P act' (fun v H => K (s.put o.dst v H)) s) (hk : ∀ s' β' a' w', K s' -> Rel N B β' s' a' w' -> Tr B β s.heap w β' s'.heap w' -> next a' w') : o.wp P a w next Q := by
  unfold trA at htr
  split at htr
  · rename_i p hp
    cases htr
    have : act' = .p p := by rcases hact with h | h | h <;> exact h
    subst this
    obtain ⟨v, h1, h2⟩ := hv
    obtain ⟨c, hc, hrep⟩ := pure_sound hp hr.rep h1 w
    unfold Oper.wp
    rw [hc]
    exact hk _ β _ _ h2 (hr.put hr.sim (Tr.refl _ _ _ _) hd hrep) (Tr.refl _ _ _ _)
  · split at htr
    · rename_i m hm
      cases htr
      have : act' = .m m := by rcases hact with h | h | h <;> exact h
      subst this
      obtain ⟨⟨v, H'⟩, h1, h2⟩ := hv
      obtain ⟨nx, w', β', c, k1, k2, k3, k4, k5⟩ := mem_sound hm hr.sim hr.rep h1
      unfold Oper.wp
      rw [k1]
      rcases k2 with rfl | ⟨rfl, rfl⟩
      · exact hk _ β' _ _ h2 (hr.put k4 k5 hd k3) k5
      · exact hk _ β' _ _ h2 (hr.put k4 k5 hd k3) k5
    · split at htr
      · rename_i f args ts hop
        cases htr
        rcases hact with rfl | rfl | rfl
        · simp only [vcAct] at hv
          split at hv
          · rename_i g cap hf
            exact call_sound hop hr hd hf hv fun r H' β' a' w' h1 h2 h3 => hk _ β' a' w' h1 h2 h3
          · exact hv.elim
        · simp only [pureOf, vcAct] at hv
          split at hv
          · rename_i g cap hf
            obtain ⟨v, h1, h2⟩ := hv
            refine call_sound hop hr hd hf (h1 s.heap) fun r H' β' a' w' k1 k2 k3 => ?_
            obtain ⟨rfl, rfl⟩ := k1
            exact hk _ β' a' w' h2 k2 k3
          · exact hv.elim
        · simp only [quietOf, vcAct] at hv
          split at hv
          · rename_i g cap hf
            obtain ⟨v, h1, h2⟩ := hv
            refine call_sound hop hr hd hf h1 fun r H' β' a' w' k1 k2 k3 => ?_
            obtain ⟨rfl, rfl⟩ := k1
            exact hk _ β' a' w' h2 k2 k3
          · exact hv.elim
      · cases htr
        have : act' = .never := by rcases hact with h | h | h <;> exact h
        subst this
        exact hv.elim
      · cases htr
theorem put_rel_none {B : Nat} {β : Lies} {s : St} {a : Act} {w : World} (hr : Rel N B β s a w) {d : Option Nat} (hd : ∀ x, d = some x -> x < N) : Rel N B β (s.put d unit s.heap) (a.put d undef) w :=
  hr.put hr.sim (Tr.refl _ _ _ _) hd (.v _)
def Like (x y : AOper) : Prop := x.dst = y.dst ∧ x.guard = y.guard ∧ (x.act = y.act ∨ x.act = pureOf y.act ∨ x.act = quietOf y.act)
theorem Like.refl (x : AOper) : Like x x := ⟨rfl, rfl, .inl rfl⟩
theorem op_sound {ops : Array Oper} {o : Oper} {ao bo : AOper} (htr : trO P N ops o = some bo) (hlike : Like ao bo) {B : Nat} {β : Lies} {s : St} {a : Act} {w : World} (hr : Rel N B β s a w)
    {K : St -> Prop} {next : Act -> World -> Prop} {Q : Exit -> Act -> World -> Prop}
    (hv : vcOp P ao K s) (hk : ∀ s' β' a' w', K s' -> Rel N B β' s' a' w' -> Tr B β s.heap w β' s'.heap w' -> next a' w') :
    if Region.wanted o (yielded ops a.tmps) then o.wp P a w next Q else next (a.put o.dst undef) w := by
  unfold trO at htr
  split at htr
  · rename_i act hd ha
    have hd' : ∀ x, o.dst = some x -> x < N := by
      intro x hx
      rw [hx] at hd
      simpa using hd
    obtain ⟨adst, aact, aguard, ahint⟩ := ao
    obtain ⟨l1, l2, l3⟩ := hlike
    simp only at l1 l2 l3
    split at htr
    · rename_i hg
      cases htr
      simp only at l1 l2 l3
      subst l1; subst l2
      simp only [vcOp] at hv
      have hw : Region.wanted o (yielded ops a.tmps) = true := by simp [Region.wanted, hg]
      rw [if_pos hw]
      exact act_sound ha l3 hr hd' hv hk
    · rename_i g b hg
      split at htr
      · rename_i d hgd
        cases htr
        simp only at l1 l2 l3
        subst l1; subst l2
        simp only [vcOp] at hv
        have hrep := hr.rep d
        have hskip : K (s.put o.dst unit s.heap) -> next (a.put o.dst undef) w := fun h => hk _ β _ _ h (put_rel_none hr hd') (Tr.refl _ _ _ _)
        have hy : yielded ops a.tmps g = (match a.tmps[d]? with | some (.bool b) => some b | _ => none) := by
          simp only [yielded, hgd, Option.bind_some]
          cases a.tmps[d]? with
          | none => rfl
          | some v => cases v <;> rfl
        unfold vcGuard at hv
        split at hv
        · rename_i b' he
          rw [he] at hrep
          have hv' := rep_v hrep
          have hsome : a.tmps[d]? = some (.bool b') := by
            rw [Array.getD_eq_getD_getElem?] at hv'
            cases h : a.tmps[d]? with
            | none => rw [h] at hv'; simp [undef] at hv'
            | some v => rw [h] at hv'; simp at hv'; rw [hv']
          rw [hsome] at hy
          simp only at hy
          split at hv
          · rename_i hb
            subst hb
            rw [if_pos (by simp [Region.wanted, hg, hy])]
            exact act_sound ha l3 hr hd' hv hk
          · rename_i hb
            rw [if_neg (by simp [Region.wanted, hg, hy, hb])]
            exact hskip hv
        · rename_i vs he
          rw [he] at hrep
          have hv' := rep_v hrep
          have hnone : yielded ops a.tmps g = none := by
            rw [hy]
            rw [Array.getD_eq_getD_getElem?] at hv'
            cases h : a.tmps[d]? with
            | none => rfl
            | some v => rw [h] at hv'; simp at hv'; rw [hv']
          rw [if_neg (by simp [Region.wanted, hg, hnone])]
          exact hskip hv
        · exact hv.elim
      · cases htr
  · cases htr
theorem ops_sound {ops : Array Oper} : ∀ (is : List Nat) (os : List AOper), is.length = os.length -> (∀ (j i : Nat) (ao : AOper), is[j]? = some i -> os[j]? = some ao -> ∃ o, ops[i]? = some o ∧ trO P N ops o = some ao) ->
    ∀ {B : Nat} {β : Lies} {s : St} {a : Act} {w : World} (hr : Rel N B β s a w) {K : St -> Prop} {Q : Exit -> Act -> World -> Prop}
    (hv : vcOps P os K s) (hk : ∀ s' β' a' w', K s' -> Rel N B β' s' a' w' -> Tr B β s.heap w β' s'.heap w' -> Q .normal a' w'), wpOps P ops Q is a w := by
  intro is
  induction is with
  | nil =>
    intro os hl _ B β s a w hr K Q hv hk
    cases os with
    | nil => exact hk _ _ _ _ hv hr (Tr.refl _ _ _ _)
    | cons _ _ => simp at hl
  | cons i is ih =>
    intro os hl hal B β s a w hr K Q hv hk
    cases os with
    | nil => simp at hl
    | cons ao os =>
      obtain ⟨o, ho, htr⟩ := hal 0 i ao rfl rfl
      simp only [vcOps] at hv
      have h1 := op_sound (Q := Q) htr (.refl _) hr hv (next := wpOps P ops Q is) (fun s' β' a' w' hK hr' ht' =>
        ih os (by simpa using hl) (fun j i ao hj hao => hal (j + 1) i ao (by simpa using hj) (by simpa using hao)) hr' hK (fun s₂ β₂ a₂ w₂ k1 k2 k3 => hk _ _ _ _ k1 k2 (ht'.trans k3)))
      simp only [wpOps, ho]
      split
      · rename_i hw
        rw [if_pos hw] at h1
        exact .inl h1
      · rename_i hw
        rw [if_neg hw] at h1
        exact h1
end
end Go.Ab

/- A part of a law's proof: AbRun. -/
import Derived.Test.YtjkcjbkkgkhljaaAbSame
set_option linter.constructorNameAsVariable false
/-
  A run of abstract code on what is known: a function that is computed; what it says is so.
-/
namespace Go.Ab
open Go Go.RowKit
set_option linter.unusedVariables false
set_option linter.unusedSimpArgs false
theorem ACalls.pureFrz {P : Program} {f : FuncId} {args : List AV} {r : AV} (h : ACalls P f args [] fun v H₁ => Frz H₁ 0 v r) (hr : r.shut = true) (ha : AV.shut.shutL args = true) : PureCall P f args r := by
  intro H
  refine ⟨h.ok, fun B β w cs s hl hargs => ?_⟩
  have sim : Sim w.heap.size (⟨β.em, fun b i => β.D b i ∨ Owned β H b i⟩ : Lies) [] w := by
    refine ⟨⟨Nat.le_refl _, s.size.inv.up s.size.le, fun b i hd => ?_⟩, ?_, ?_, ?_, ?_, ?_, ?_, ?_, ?_, ?_⟩
    · rcases hd with hd | ⟨o, cs, ho, hb, _⟩
      · exact s.size.dlt b i hd
      · rw [<- hb]; exact s.blk_lt ho
    all_goals (intros; simp at *)
  refine Calls.mono (h.go w.heap.size _ w cs sim hl fun i a c h1 h2 => (hargs i a c h1 h2).shut (fun b i c hc => ⟨⟨hc.1.1, fun hd => ?_⟩, ?_⟩) (shutL_all ha i a h1)) ?_
  · rcases hd with hd | hd
    · exact hc.1.2 hd
    · exact hc.2 hd
  · rintro ⟨o, cs, ho, _⟩
    simp at ho
  rintro e w' ⟨v, c, β', H', rfl, hf, hrep, hs', tr⟩
  obtain ⟨s2, tr2⟩ := s.widen tr.below
  refine ⟨r, c, β, H, rfl, ⟨rfl, rfl⟩, ?_, s2, tr2⟩
  have h0 : Rep β' 0 (RO β' (H'.take 0) w') r c := hf.rep hs' hrep
  refine h0.shut (fun b i c hc => ⟨⟨hc.1.1, fun hd => hc.1.2 ?_⟩, fun ho => hc.1.2 ?_⟩) hr
  · rw [tr.dd]; exact .inl hd
  · rw [tr.dd]; exact .inr ho
inductive ET where
  | leaf
  | node (v : AV) (l r : ET)
def ET.get : ET -> Nat -> AV
  | .leaf, _ => .any
  | .node v l r, n => match Nat.beq n 0 with
    | true => v
    | false => match Nat.beq (n % 2) 1 with
      | true => l.get (n / 2)
      | false => r.get (n / 2 - 1)
def ET.set : ET -> Nat -> AV -> Option ET
  | .leaf, _, _ => none
  | .node v l r, n, x => match Nat.beq n 0 with
    | true => some (.node x l r)
    | false => match Nat.beq (n % 2) 1 with
      | true => match l.set (n / 2) x with
        | some l' => some (.node v l' r)
        | none => none
      | false => match r.set (n / 2 - 1) x with
        | some r' => some (.node v l r')
        | none => none
def ET.full : Nat -> ET
  | 0 => .leaf
  | n + 1 => .node .any (full n) (full n)
theorem nbeq_true {a b : Nat} (h : Nat.beq a b = true) : a = b := Nat.eq_of_beq_eq_true h
theorem nbeq_false {a b : Nat} (h : Nat.beq a b = false) : a ≠ b := Nat.ne_of_beq_eq_false h
theorem ET.get_full (d : Nat) : ∀ n, (ET.full d).get n = .any := by
  induction d with
  | zero => intro n; rfl
  | succ d ih =>
    intro n
    simp only [ET.full, ET.get]
    split
    · rfl
    · split
      · exact ih _
      · exact ih _
theorem ET.get_set {t : ET} : ∀ {n : Nat} {x : AV} {t' : ET}, t.set n x = some t' -> ∀ m, t'.get m = if m = n then x else t.get m := by
  induction t with
  | leaf => intro n x t' h; simp [ET.set] at h
  | node v l r ihl ihr =>
    intro n x t' h m
    simp only [ET.set] at h
    split at h
    · rename_i hn
      cases h
      have := nbeq_true hn
      subst this
      simp only [ET.get]
      cases hm : Nat.beq m 0 with
      | true => rw [if_pos (nbeq_true hm)]
      | false => rw [if_neg (nbeq_false hm)]
    · rename_i hn
      have hn' := nbeq_false hn
      split at h
      · rename_i h1
        have h1' := nbeq_true h1
        split at h
        · rename_i l' hl
          cases h
          have := ihl hl
          simp only [ET.get]
          cases hm : Nat.beq m 0 with
          | true => have := nbeq_true hm; rw [if_neg (by omega)]
          | false =>
            have hm' := nbeq_false hm
            cases hp : Nat.beq (m % 2) 1 with
            | true =>
              have hp' := nbeq_true hp
              simp only [this]
              by_cases e : m = n
              · subst e; simp
              · rw [if_neg e, if_neg (by omega)]
            | false => have hp' := nbeq_false hp; rw [if_neg (by intro e; subst e; exact hp' h1')]
        · cases h
      · rename_i h1
        have h1' := nbeq_false h1
        split at h
        · rename_i r' hr
          cases h
          have := ihr hr
          simp only [ET.get]
          cases hm : Nat.beq m 0 with
          | true => have := nbeq_true hm; rw [if_neg (by omega)]
          | false =>
            have hm' := nbeq_false hm
            cases hp : Nat.beq (m % 2) 1 with
            | true => have hp' := nbeq_true hp; rw [if_neg (by intro e; subst e; exact h1' hp')]
            | false =>
              have hp' := nbeq_false hp
              simp only [this]
              by_cases e : m = n
              · subst e; simp
              · rw [if_neg e, if_neg (by omega)]
        · cases h
def ET.put (t : ET) : Option Nat -> AV -> Option ET
  | none, _ => some t
  | some d, v => t.set d v
theorem ET.put_eq {t t' : ET} {d : Option Nat} {v : AV} (h : t.put d v = some t') (H : Heap) {H₀ : Heap} : (⟨t'.get, H⟩ : St) = St.put ⟨t.get, H₀⟩ d v H := by
  cases d with
  | none => simp [ET.put] at h; subst h; rfl
  | some d =>
    simp only [ET.put] at h
    simp only [St.put, St.mk.injEq, and_true]
    funext m
    rw [ET.get_set h m]
    rfl
def ET.args : List AV -> Nat -> ET -> Option ET
  | [], _, t => some t
  | a :: as, i, t => match t.set i a with
    | some t' => ET.args as (i + 1) t'
    | none => none
theorem ET.get_args : ∀ {as : List AV} {i : Nat} {t t' : ET}, ET.args as i t = some t' -> (∀ m, i <= m -> t.get m = .any) -> ∀ m, t'.get m = if m < i then t.get m else (as[m - i]?).getD .any := by
  intro as
  induction as with
  | nil => intro i t t' h ht m; simp [ET.args] at h; subst h; split; all_goals first | rfl | (rw [ht m (by omega)]; rfl)
  | cons a as ih =>
    intro i t t' h ht m
    simp only [ET.args] at h
    split at h
    · rename_i t₁ h₁
      have hs := ET.get_set h₁
      have := ih h (fun m hm => by rw [hs m, if_neg (by omega)]; exact ht m (by omega)) m
      rw [this, hs m]
      by_cases h1 : m = i
      · subst h1; simp
      · by_cases h2 : m < i
        · rw [if_pos (by omega), if_neg h1, if_pos h2]
        · rw [if_neg (by omega), if_neg h2]
          rw [show m - i = (m - (i + 1)) + 1 by omega]
          rfl
    · cases h
theorem ET.args_env {as : List AV} {d : Nat} {t : ET} (h : ET.args as 0 (ET.full d) = some t) : t.get = envOf as := by
  funext m
  have := ET.get_args h (fun m _ => ET.get_full d m) m
  simpa [envOf] using this
structure FI where
  n : Nat
  code : ACode
  rs : List ARes
def lookupT : List (Nat × FI) -> Nat -> Option FI
  | [], _ => none
  | (k, x) :: r, f => match Nat.beq k f with
    | true => some x
    | false => lookupT r f
abbrev Called := Nat -> List AV -> Heap -> Option (AV × Heap)
def exAct (call : Called) : AAct -> Env -> Heap -> Option (AV × Heap)
  | .p op, ρ, H => match op.run ρ with
    | some v => some (v, H)
    | none => none
  | .m op, ρ, H => op.run ρ H
  | .call f args, ρ, H => match f.ev ρ with
    | .fn g cap => call g (args.map (·.ev ρ) ++ cap) H
    | _ => none
  | .pcall f args, ρ, H => match f.ev ρ with
    | .fn g cap => match AV.shut.shutL (args.map (·.ev ρ) ++ cap) with
      | true => match call g (args.map (·.ev ρ) ++ cap) [] with
        | some (v, H') => match v.scal with
          | true => some (v, H)
          | false => match frzA H' 0 12 v with
            | some r => match r.shut with
              | true => some (r, H)
              | false => none
            | none => none
        | none => none
      | false => none
    | _ => none
  | .qcall f args, ρ, H => match f.ev ρ with
    | .fn g cap => match call g (args.map (·.ev ρ) ++ cap) H with
      | some (v, H') => match heapBegins H H' with
        | true => match frzA H' H.length 12 v with
          | some r => some (r, H)
          | none => none
        | false => none
      | none => none
    | _ => none
  | .never, _, _ => none
def exOps (call : Called) : List AOper -> ET -> Heap -> Option (ET × Heap)
  | [], t, H => some (t, H)
  | o :: os, t, H =>
    match o.guard with
    | none => match exAct call o.act t.get H with
      | some (v, H') => match t.put o.dst v with
        | some t' => exOps call os t' H'
        | none => none
      | none => none
    | some (g, want) => match t.get g with
      | .v (.bool b) => match b == want with
        | true => match exAct call o.act t.get H with
          | some (v, H') => match t.put o.dst v with
            | some t' => exOps call os t' H'
            | none => none
          | none => none
        | false => match t.put o.dst unit with
          | some t' => exOps call os t' H
          | none => none
      | .v (.tuple _) => match t.put o.dst unit with
          | some t' => exOps call os t' H
          | none => none
      | _ => none
def readsK (m : Bool) (act : AAct) (t : ET) : List Nat :=
  match m, act with
  | true, .m (.load _ x) => match x.ev t.get with
    | .ptr p _ => [p]
    | _ => []
  | _, _ => []
def keepsK (m : Bool) (act : AAct) (H H' : Heap) : List (Heap × Heap) :=
  match m, act.cls with
  | true, .w => [(H, H')]
  | _, _ => []
def sameAt (a b : Heap) (q : Nat) : Bool :=
  match a[q]?, b[q]? with
  | some x, some y => objSame x y
  | none, none => true
  | _, _ => false
theorem sameAt_eq {a b : Heap} {q : Nat} (h : sameAt a b q = true) : b[q]? = a[q]? := by
  unfold sameAt at h
  split at h
  · rename_i x y h1 h2; rw [h1, h2, objSame_eq h]
  · rename_i h1 h2; rw [h1, h2]
  · cases h
def exOpsK (call : Called) : List (AOper × Bool) -> ET -> Heap -> Option (ET × Heap × List Nat × List (Heap × Heap))
  | [], t, H => some (t, H, [], [])
  | o :: os, t, H =>
    match o.1.guard with
    | none => match exAct call o.1.act t.get H with
      | some (v, H') => match t.put o.1.dst v with
        | some t' => match exOpsK call os t' H' with
          | some (t'', H'', rs, ps) => some (t'', H'', readsK o.2 o.1.act t ++ rs, keepsK o.2 o.1.act H H' ++ ps)
          | none => none
        | none => none
      | none => none
    | some (g, want) => match t.get g with
      | .v (.bool b) => match b == want with
        | true => match exAct call o.1.act t.get H with
          | some (v, H') => match t.put o.1.dst v with
            | some t' => match exOpsK call os t' H' with
              | some (t'', H'', rs, ps) => some (t'', H'', readsK o.2 o.1.act t ++ rs, keepsK o.2 o.1.act H H' ++ ps)
              | none => none
            | none => none
          | none => none
        | false => match t.put o.1.dst unit with
          | some t' => exOpsK call os t' H
          | none => none
      | .v (.tuple _) => match t.put o.1.dst unit with
          | some t' => exOpsK call os t' H
          | none => none
      | _ => none
abbrev Ran := Option (AExit × ET × Heap)
def exStep (call : Called) (ih : ACode -> ET -> Heap -> Ran) : ACode -> ET -> Heap -> Ran
  | .skip, t, H => some (.normal, t, H)
  | .ops l, t, H => match exOps call l t H with
    | some (t', H') => some (.normal, t', H')
    | none => none
  | .draw l, t, H => match exOps call l t H with
    | some (t', H') => some (.normal, t', H')
    | none => none
  | .drawk l ms, t, H => match exOpsK call (l.zip ms) t H with
    | some (t', H', rs, ps) => match ps.all fun p => rs.all (sameAt p.1 p.2) with
      | true => some (.normal, t', H')
      | false => none
    | none => none
  | .seq a b, t, H => match ih a t H with
    | some (.normal, t', H') => ih b t' H'
    | r => r
  | .cond c a b, t, H => match c.ev t.get with
    | .v (.bool x) => match x with
      | true => ih a t H
      | false => ih b t H
    | _ => none
  | .block id a, t, H => match ih a t H with
    | some (.exit j, t', H') => match Nat.beq j id with
      | true => some (.normal, t', H')
      | false => some (.exit j, t', H')
    | r => r
  | .loop a, t, H => match ih a t H with
    | some (.normal, t', H') => ih (.loop a) t' H'
    | r => r
  | .exit id, t, H => some (.exit id, t, H)
  | .ret, t, H => some (.ret, t, H)
  | .never, _, _ => none
def exCall (T : List (Nat × FI)) (prim : Called) (ih : ACode -> ET -> Heap -> Ran) : Called := fun f args H =>
  match prim f args H with
  | some r => some r
  | none => match lookupT T f with
    | some x => match bif Nat.ble args.length x.n then ET.args args 0 (ET.full 9) else none with
      | some t => match ih x.code t H with
        | some (.normal, t', H') => match resV x.rs ⟨t'.get, H'⟩ with
          | some r => some (r, H')
          | none => none
        | some (.ret, t', H') => match resV x.rs ⟨t'.get, H'⟩ with
          | some r => some (r, H')
          | none => none
        | _ => none
      | none => none
    | none => none
def exF (T : List (Nat × FI)) (prim : Called) : Nat -> ACode -> ET -> Heap -> Ran
  | 0 => fun _ _ _ => none
  | n + 1 => exStep (exCall T prim (exF T prim n)) (exF T prim n)
def Knows (P : Program) (f : Nat) (x : FI) : Prop := ∃ fn body, P.funcs[f]? = some fn ∧ (fn.name == "runtime.NumGoroutine") = false ∧ fn.body = some body ∧ trC P fn.ntmps body = some x.code ∧
  fn.results.toList.mapM (trR P) = some x.rs ∧ x.n = fn.ntmps
def Says (P : Program) (call : Called) : Prop := ∀ f args H r H', call f args H = some (r, H') -> ACalls P f args H fun a b => a = r ∧ b = H'
section
variable {P : Program}
theorem acalls_wp {f : FuncId} {fn : Func} {body : Code} {rs : List ARes} {args : List AV} {H : Heap} {Q : AV -> Heap -> Prop} (hf : P.funcs[f]? = some fn) (hn : (fn.name == "runtime.NumGoroutine") = false) (hb : fn.body = some body)
    (hr : fn.results.toList.mapM (trR P) = some rs) (hl : args.length <= fn.ntmps)
    (h : AWp P fn.ntmps body (retQ rs Q) ⟨envOf args, H⟩) : ACalls P f args H Q := by
  refine ⟨⟨fn, hf, hn, by rw [hb]; rfl⟩, fun B β w cs hs hlen hargs => calls_of_wp hf hb ?_⟩
  have hrel : Rel fn.ntmps B β ⟨envOf args, H⟩ { tmps := cs ++ Array.replicate (fn.ntmps - cs.size) undef, defers := [] } w := by
    refine ⟨hs, fun t => ?_, rfl, by simp; omega⟩
    simp only [envOf]
    cases ht : args[t]? with
    | none => exact .any _
    | some a =>
      have hlt := getElem?_lt ht
      have : (cs ++ Array.replicate (fn.ntmps - cs.size) undef).getD t undef = cs[t]'(by omega) := by
        rw [Array.getD_eq_getD_getElem?, Array.getElem?_append_left (by omega)]
        simp [show t < cs.size by omega]
      rw [this]
      exact hargs t a _ ht (by simp)
  refine wp_mono (h B β _ w hrel) ?_
  rintro e a' w' ⟨x, s', β', rfl, hQ, hr', ht'⟩
  have fin : bindP (resV rs s') (fun r => Q r s'.heap) -> a'.defers = [] ∧ ∃ v, (results fn a'.tmps).run P w' = .ok v w' ∧ ∃ r c β' H', Ending.returned v = .returned c ∧ Q r H' ∧ RepH β' H' w' r c ∧ Sim B β' H' w' ∧ Tr B β H w β' H' w' := by
    rintro ⟨r, hv, hq⟩
    obtain ⟨c, h1, h2⟩ := results_sound hr' hr hv
    exact ⟨hr'.defers, c, h1, r, c, β', s'.heap, rfl, hq, h2, hr'.sim, ht'⟩
  cases x with
  | normal => exact fin hQ
  | ret => exact fin hQ
  | exit id => exact hQ.elim
theorem exAct_sound {call : Called} (hc : Says P call) {act : AAct} {s : St} {v : AV} {H' : Heap} (h : exAct call act s.env s.heap = some (v, H')) {K : AV -> Heap -> Prop} (hk : K v H') : vcAct P act K s ∧ vcActD P act K s := by
  cases act with
  | p op =>
    simp only [exAct] at h
    split at h
    · rename_i x hx; cases h; exact ⟨⟨_, hx, hk⟩, ⟨_, hx, hk⟩⟩
    · cases h
  | m op => exact ⟨⟨_, h, hk⟩, ⟨_, h, hk⟩⟩
  | call f args =>
    simp only [exAct] at h
    split at h
    · rename_i g cap hg
      have := hc _ _ _ _ _ h
      simp only [vcAct, vcActD, hg]
      exact ⟨this.mono fun r H'' ⟨h1, h2⟩ => by rw [h1, h2]; exact hk, v, H', this, hk⟩
    · cases h
  | pcall f args =>
    simp only [exAct] at h
    split at h
    · rename_i g cap hg
      split at h
      · rename_i hs
        split at h
        · rename_i r H₁ hr
          split at h
          · rename_i hsc
            cases h
            have hp : PureCall P g (args.map (·.ev s.env) ++ cap) v := by
              intro H
              exact ACalls.lift ((hc _ _ _ _ _ hr).mono fun a b ⟨h1, h2⟩ => ⟨h1, by rw [h1]; exact hsc⟩) (shutL_all hs) H
            simp only [vcAct, vcActD, hg]
            exact ⟨⟨v, hp, hk⟩, ⟨v, hp, hk⟩⟩
          · split at h
            · rename_i q hq
              split at h
              · rename_i hsh
                cases h
                have hp : PureCall P g (args.map (·.ev s.env) ++ cap) v := ACalls.pureFrz ((hc _ _ _ _ _ hr).mono fun a b ⟨h1, h2⟩ => by rw [h1, h2]; exact frzA_sound hq) hsh hs
                simp only [vcAct, vcActD, hg]
                exact ⟨⟨v, hp, hk⟩, ⟨v, hp, hk⟩⟩
              · cases h
            · cases h
        · cases h
      · cases h
    · cases h
  | qcall f args =>
    simp only [exAct] at h
    split at h
    · rename_i g cap hg
      split at h
      · rename_i r H₁ hr
        split at h
        · rename_i hb
          split at h
          · rename_i b hz
            cases h
            obtain ⟨L, hL⟩ := heapBegins_app hb
            have hp : ACalls P g (args.map (·.ev s.env) ++ cap) s.heap fun a H' => a = v ∧ H' = s.heap :=
              ACalls.frz ((hc _ _ _ _ _ hr).mono fun a b ⟨h1, h2⟩ => ⟨L, v, by rw [h2, hL], by rw [h1, h2]; exact frzA_sound hz, rfl, rfl⟩)
            simp only [vcAct, vcActD, hg]
            exact ⟨⟨v, hp, hk⟩, ⟨v, hp, hk⟩⟩
          · cases h
        · cases h
      · cases h
    · cases h
  | never => simp [exAct] at h
theorem exOps_sound {call : Called} (hc : Says P call) : ∀ {l : List AOper} {t t' : ET} {H H' : Heap}, exOps call l t H = some (t', H') -> ∀ {K : St -> Prop}, K ⟨t'.get, H'⟩ -> vcOps P l K ⟨t.get, H⟩ ∧ vcOpsD P l K ⟨t.get, H⟩ := by
  intro l
  induction l with
  | nil => intro t t' H H' h K hk; simp [exOps] at h; obtain ⟨rfl, rfl⟩ := h; exact ⟨hk, hk⟩
  | cons o os ih =>
    intro t t' H H' h K hk
    have act : ∀ {r : Option (ET × Heap)}, (match exAct call o.act t.get H with
        | some (v, H') => match t.put o.dst v with
          | some t' => exOps call os t' H'
          | none => none
        | none => none) = some (t', H') -> vcAct P o.act (fun v H' => vcOps P os K (St.put ⟨t.get, H⟩ o.dst v H')) ⟨t.get, H⟩ ∧ vcActD P o.act (fun v H' => vcOpsD P os K (St.put ⟨t.get, H⟩ o.dst v H')) ⟨t.get, H⟩ := by
      intro _ h
      split at h
      · rename_i v H₁ ha
        split at h
        · rename_i t₁ hp
          obtain ⟨h1, h2⟩ := ih h hk
          rw [ET.put_eq hp H₁ (H₀ := H)] at h1 h2
          exact ⟨(exAct_sound hc (s := ⟨t.get, H⟩) ha (K := fun v H' => vcOps P os K (St.put ⟨t.get, H⟩ o.dst v H')) h1).1, (exAct_sound hc (s := ⟨t.get, H⟩) ha (K := fun v H' => vcOpsD P os K (St.put ⟨t.get, H⟩ o.dst v H')) h2).2⟩
        · cases h
      · cases h
    have pass : (match t.put o.dst unit with
          | some t' => exOps call os t' H
          | none => none) = some (t', H') -> vcOps P os K (St.put ⟨t.get, H⟩ o.dst unit H) ∧ vcOpsD P os K (St.put ⟨t.get, H⟩ o.dst unit H) := by
      intro h
      split at h
      · rename_i t₁ hp
        have := ih h hk
        rw [ET.put_eq hp H (H₀ := H)] at this
        exact this
      · cases h
    simp only [exOps] at h
    simp only [vcOps, vcOpsD, vcOp, vcOpD]
    split at h
    · rename_i hg
      rw [hg]
      exact act (r := none) h
    · rename_i g want hg
      rw [hg]
      simp only
      split at h
      · rename_i b hb
        rw [hb]
        split at h
        · rename_i hw
          have : b = want := by simpa using hw
          simp only [vcGuard, if_pos this]
          exact act (r := none) h
        · rename_i hw
          have : ¬ b = want := by simpa using hw
          simp only [vcGuard, if_neg this]
          exact pass h
      · rename_i hb
        rw [hb]
        simp only [vcGuard]
        exact pass h
      · cases h
theorem exOpsK_sound {call : Called} (hc : Says P call) {R : List Nat} : ∀ {l : List (AOper × Bool)} {t t' : ET} {H H' : Heap} {rs : List Nat} {ps : List (Heap × Heap)}, exOpsK call l t H = some (t', H', rs, ps) ->
    (∀ q ∈ rs, q ∈ R) -> (∀ p ∈ ps, ∀ q ∈ R, p.2[q]? = p.1[q]?) -> ∀ {K : St -> Prop}, K ⟨t'.get, H'⟩ -> vcOpsK P R l K ⟨t.get, H⟩ := by
  intro l
  induction l with
  | nil => intro t t' H H' rs ps h hr hp K hk; simp [exOpsK] at h; obtain ⟨rfl, rfl, rfl, rfl⟩ := h; exact hk
  | cons o os ih =>
    intro t t' H H' rs ps h hr hp K hk
    have act : (match exAct call o.1.act t.get H with
      | some (v, H') => match t.put o.1.dst v with
        | some t' => match exOpsK call os t' H' with
          | some (t'', H'', rs, ps) => some (t'', H'', readsK o.2 o.1.act t ++ rs, keepsK o.2 o.1.act H H' ++ ps)
          | none => none
        | none => none
      | none => none) = some (t', H', rs, ps) -> vcActD P o.1.act (fun v H' => CondK R o.2 o.1.act ⟨t.get, H⟩ H' ∧ vcOpsK P R os K (St.put ⟨t.get, H⟩ o.1.dst v H')) ⟨t.get, H⟩ := by
      intro h
      split at h
      · rename_i v H₁ ha
        split at h
        · rename_i t₁ hput
          split at h
          · rename_i t₂ H₂ rs₁ ps₁ hrec
            cases h
            have h2 := ih hrec (fun q hq => hr q (by simp [hq])) (fun p hq => hp p (by simp [hq])) hk
            rw [ET.put_eq hput H₁ (H₀ := H)] at h2
            refine (exAct_sound hc (s := ⟨t.get, H⟩) ha (K := fun v H' => CondK R o.2 o.1.act ⟨t.get, H⟩ H' ∧ vcOpsK P R os K (St.put ⟨t.get, H⟩ o.1.dst v H')) ⟨fun hm => ⟨?_, fun hw => ?_⟩, h2⟩).2
            · split
              · rename_i lx x hact
                intro p off he
                refine hr p (List.mem_append_left _ ?_)
                have he' : x.ev t.get = .ptr p off := he
                simp only [readsK, hm, hact, he']
                simp
              · trivial
            · have : (H, H₁) ∈ keepsK o.2 o.1.act H H₁ := by
                simp only [keepsK, hm, hw]
                simp
              exact hp (H, H₁) (List.mem_append_left _ this)
          · cases h
        · cases h
      · cases h
    have pass : (match t.put o.1.dst unit with
          | some t' => exOpsK call os t' H
          | none => none) = some (t', H', rs, ps) -> vcOpsK P R os K (St.put ⟨t.get, H⟩ o.1.dst unit H) := by
      intro h
      split at h
      · rename_i t₁ hput
        have := ih h hr hp hk
        rw [ET.put_eq hput H (H₀ := H)] at this
        exact this
      · cases h
    simp only [exOpsK] at h
    simp only [vcOpsK, vcOpK]
    split at h
    · rename_i hg
      rw [hg]
      exact act h
    · rename_i g want hg
      rw [hg]
      simp only
      split at h
      · rename_i b hb
        rw [hb]
        split at h
        · rename_i hw
          have : b = want := by simpa using hw
          simp only [vcGuard, if_pos this]
          exact act h
        · rename_i hw
          have : ¬ b = want := by simpa using hw
          simp only [vcGuard, if_neg this]
          exact pass h
      · rename_i hb
        rw [hb]
        simp only [vcGuard]
        exact pass h
      · cases h
theorem unscope_wp {N : Nat} {ac : ACode} {Q : AExit -> St -> Prop} {s : St} (h : ∀ c, (∀ x, c ≠ .scope x) -> trC P N c = some ac -> AWp P N c Q s) : ∀ c, trC P N c = some ac -> AWp P N c Q s := by
  intro c
  induction c with
  | scope x ih => intro hc; simp only [trC] at hc; exact AWp.scope (ih hc)
  | _ => exact h _ (by intro x hx; cases hx)
variable {T : List (Nat × FI)} {prim : Called}
theorem exF_sound (hT : ∀ f x, lookupT T f = some x -> Knows P f x) (hp : Says P prim) : ∀ n,
    (∀ (ac : ACode) (t : ET) (H : Heap) (e : AExit) (t' : ET) (H' : Heap), exF T prim n ac t H = some (e, t', H') -> ∀ (N : Nat) (c : Code) (Q : AExit -> St -> Prop), trC P N c = some ac -> Q e ⟨t'.get, H'⟩ -> AWp P N c Q ⟨t.get, H⟩) ∧
    Says P (exCall T prim (exF T prim n)) ∧
    (∀ (l : List AOper) (t : ET) (H : Heap) (e : AExit) (t' : ET) (H' : Heap), (exF T prim n (.ops l) t H = some (e, t', H') ∨ exF T prim n (.draw l) t H = some (e, t', H')) -> e = .normal ∧ ∀ K : St -> Prop, K ⟨t'.get, H'⟩ -> vcOps P l K ⟨t.get, H⟩ ∧ vcOpsD P l K ⟨t.get, H⟩) ∧
    (∀ (l l' : List AOper) (t : ET) (H : Heap) (e : AExit) (t' : ET) (H' : Heap), exF T prim n (.seq (.ops l) (.draw l')) t H = some (e, t', H') -> e = .normal ∧ ∀ K : St -> Prop, K ⟨t'.get, H'⟩ -> vcOps P l (vcOpsD P l' K) ⟨t.get, H⟩) := by
  intro n
  have callS : ∀ (ih : ACode -> ET -> Heap -> Ran), (∀ (ac : ACode) (t : ET) (H : Heap) (e : AExit) (t' : ET) (H' : Heap), ih ac t H = some (e, t', H') -> ∀ (N : Nat) (c : Code) (Q : AExit -> St -> Prop), trC P N c = some ac -> Q e ⟨t'.get, H'⟩ -> AWp P N c Q ⟨t.get, H⟩) ->
      Says P (exCall T prim ih) := by
    intro ih hih f args H r H' h
    unfold exCall at h
    split at h
    · rename_i r' hr; cases h; exact hp _ _ _ _ _ hr
    · split at h
      · rename_i x hx
        obtain ⟨fn, body, k1, k2, k3, k4, k5, k6⟩ := hT f x hx
        split at h
        · rename_i t ht
          obtain ⟨hlen, ht⟩ : args.length <= fn.ntmps ∧ ET.args args 0 (ET.full 9) = some t := by
            cases hb : Nat.ble args.length x.n with
            | true => rw [hb] at ht; exact ⟨by rw [<- k6]; exact Nat.le_of_ble_eq_true hb, ht⟩
            | false => rw [hb] at ht; cases ht
          have henv := ET.args_env ht
          have fin : ∀ (e : AExit) (t' : ET) (H₁ : Heap), ih x.code t H = some (e, t', H₁) -> (e = .normal ∨ e = .ret) -> resV x.rs ⟨t'.get, H₁⟩ = some r -> H₁ = H' -> ACalls P f args H fun a b => a = r ∧ b = H' := by
            intro e t' H₁ h1 h2 h3 h4
            subst h4
            have hw := hih _ _ _ _ _ _ h1 fn.ntmps body (retQ x.rs fun a b => a = r ∧ b = H₁) k4 (by rcases h2 with rfl | rfl <;> exact ⟨r, h3, rfl, rfl⟩)
            rw [henv] at hw
            exact acalls_wp k1 k2 k3 k5 hlen hw
          split at h
          · rename_i t' H₁ h1
            split at h
            · rename_i r' hr; cases h; exact fin _ _ _ h1 (.inl rfl) hr rfl
            · cases h
          · rename_i t' H₁ h1
            split at h
            · rename_i r' hr; cases h; exact fin _ _ _ h1 (.inr rfl) hr rfl
            · cases h
          · cases h
        · cases h
      · cases h
  induction n with
  | zero => exact ⟨fun ac t H e t' H' h => by simp [exF] at h, callS _ fun ac t H e t' H' h => by simp [exF] at h, fun l t H e t' H' h => by simp [exF] at h, fun l l' t H e t' H' h => by simp [exF] at h⟩
  | succ n ih =>
    have main : ∀ (ac : ACode) (t : ET) (H : Heap) (e : AExit) (t' : ET) (H' : Heap), exF T prim (n + 1) ac t H = some (e, t', H') -> ∀ (N : Nat) (c : Code) (Q : AExit -> St -> Prop), trC P N c = some ac -> Q e ⟨t'.get, H'⟩ -> AWp P N c Q ⟨t.get, H⟩ := by
      intro ac t H e t' H' h N c₀ Q htr₀ hQ
      refine unscope_wp (fun c hns htr => ?_) c₀ htr₀
      obtain ⟨ih, hcall, hparts, hmids⟩ := ih
      rw [exF] at h
      cases ac with
      | skip =>
        simp only [exStep] at h; cases h
        exact vc_sound c _ htr Q _ hQ
      | ops l =>
        simp only [exStep] at h
        split at h
        · rename_i t₁ H₁ ho; cases h
          exact vc_sound c _ htr Q _ (exOps_sound hcall ho (K := Q .normal) hQ).1
        · cases h
      | draw l =>
        simp only [exStep] at h
        split at h
        · rename_i t₁ H₁ ho; cases h
          exact vc_sound c _ htr Q _ (exOps_sound hcall ho (K := Q .normal) hQ).2
        · cases h
      | drawk l ms =>
        simp only [exStep] at h
        split at h
        · rename_i t₁ H₁ rs ps ho
          split at h
          · rename_i hall
            cases h
            simp only [List.all_eq_true] at hall
            exact vc_sound c _ htr Q _ ⟨rs, exOpsK_sound hcall ho (fun q h => h) (fun p hp q hq => sameAt_eq (hall p hp q hq)) (K := Q .normal) hQ⟩
          · cases h
        · cases h
      | exit id =>
        simp only [exStep] at h; cases h
        exact vc_sound c _ htr Q _ hQ
      | ret =>
        simp only [exStep] at h; cases h
        exact vc_sound c _ htr Q _ hQ
      | never => simp [exStep] at h
      | seq a b =>
        cases c <;> simp only [trC] at htr
        case seq x y =>
          split at htr
          · rename_i a' b' ha hb
            cases htr
            simp only [exStep] at h
            refine AWp.seq ?_
            split at h
            · rename_i t₁ H₁ h1
              exact ih _ _ _ _ _ _ h1 N x _ ha (ih _ _ _ _ _ _ h N y Q hb hQ)
            · rename_i hne
              refine ih _ _ _ _ _ _ h N x _ ha ?_
              cases e with
              | normal => exact (hne _ _ h).elim
              | exit id => exact hQ
              | ret => exact hQ
          · cases htr
        case region id ops draw =>
          have htr0 : trC P N (.region id ops draw) = some (.seq a b) := by simpa only [trC] using htr
          have hab : ∃ l l', a = .draw l ∧ (b = .ops l' ∨ ∃ l'', b = .seq (.ops l') (.draw l'')) := by
            split at htr
            · split at htr
              · split at htr
                · split at htr
                  · cases htr; exact ⟨_, _, rfl, .inl rfl⟩
                  · split at htr
                    · cases htr; exact ⟨_, _, rfl, .inr ⟨_, rfl⟩⟩
                    · cases htr
                · split at htr <;> cases htr
              · cases htr
            · cases htr
          obtain ⟨l, l', rfl, hb'⟩ := hab
          refine vc_sound _ _ htr0 Q _ ?_
          rcases hb' with rfl | ⟨l'', rfl⟩
          case inr =>
            simp only [exStep] at h
            split at h
            · rename_i t₁ H₁ h1
              obtain ⟨rfl, k2⟩ := hmids l' l'' t₁ H₁ e t' H' h
              exact ((hparts l t H .normal t₁ H₁ (.inr h1)).2 _ (k2 (Q .normal) hQ)).2
            · rename_i hne
              obtain ⟨rfl, _⟩ := hparts l t H e t' H' (.inr h)
              exact (hne _ _ h).elim
          simp only [exStep] at h
          split at h
          · rename_i t₁ H₁ h1
            obtain ⟨rfl, k2⟩ := hparts l' t₁ H₁ e t' H' (.inl h)
            exact ((hparts l t H .normal t₁ H₁ (.inr h1)).2 _ ((k2 (Q .normal) hQ).1)).2
          · rename_i hne
            obtain ⟨rfl, _⟩ := hparts l t H e t' H' (.inr h)
            exact (hne _ _ h).elim
        case cond x y z => exfalso; split at htr <;> cases htr
        case scope x => exact absurd rfl (hns x)
        all_goals (exfalso; simp at htr)
      | cond o a b =>
        cases c <;> simp only [trC] at htr
        case cond o x y =>
          split at htr
          · rename_i a' b' ha hb
            cases htr
            simp only [exStep] at h
            split at h
            · rename_i z hz
              refine AWp.cond (b := z) hz ?_
              cases z with
              | true => exact ih _ _ _ _ _ _ h N x Q ha hQ
              | false => exact ih _ _ _ _ _ _ h N y Q hb hQ
            · cases h
          · cases htr
        case region id ops draw =>
          exfalso
          split at htr
          · split at htr
            · split at htr
              · split at htr
                · cases htr
                · split at htr <;> cases htr
              · split at htr <;> cases htr
            · cases htr
          · cases htr
        case seq x y => exfalso; split at htr <;> cases htr
        case scope x => exact absurd rfl (hns x)
        all_goals (exfalso; simp at htr)
      | block id a =>
        cases c <;> simp only [trC] at htr
        case block id x =>
          obtain ⟨a', ha, hh⟩ := Option.map_eq_some_iff.1 htr
          cases hh
          simp only [exStep] at h
          refine AWp.block ?_
          split at h
          · rename_i j t₁ H₁ h1
            refine ih _ _ _ _ _ _ h1 N x _ ha ?_
            simp only [blockQ]
            split at h
            · rename_i hj; cases h; rw [if_pos (nbeq_true hj)]; exact hQ
            · rename_i hj; cases h; rw [if_neg (nbeq_false hj)]; exact hQ
          · rename_i hne
            refine ih _ _ _ _ _ _ h N x _ ha ?_
            cases e with
            | normal => exact hQ
            | exit j => exact (hne _ _ _ h).elim
            | ret => exact hQ
        case region id ops draw =>
          exfalso
          split at htr
          · split at htr
            · split at htr
              · split at htr
                · cases htr
                · split at htr <;> cases htr
              · split at htr <;> cases htr
            · cases htr
          · cases htr
        case seq x y => exfalso; split at htr <;> cases htr
        case cond x y z => exfalso; split at htr <;> cases htr
        case scope x => exact absurd rfl (hns x)
        all_goals (exfalso; simp at htr)
      | loop a =>
        cases c <;> simp only [trC] at htr
        case loop x =>
          have htr' := htr
          obtain ⟨a', ha, hh⟩ := Option.map_eq_some_iff.1 htr
          cases hh
          simp only [exStep] at h
          refine AWp.loop ?_
          split at h
          · rename_i t₁ H₁ h1
            exact ih _ _ _ _ _ _ h1 N x _ ha (ih _ _ _ _ _ _ h N (.loop x) Q htr' hQ)
          · rename_i hne
            refine ih _ _ _ _ _ _ h N x _ ha ?_
            cases e with
            | normal => exact (hne _ _ h).elim
            | exit id => exact hQ
            | ret => exact hQ
        case region id ops draw =>
          exfalso
          split at htr
          · split at htr
            · split at htr
              · split at htr
                · cases htr
                · split at htr <;> cases htr
              · split at htr <;> cases htr
            · cases htr
          · cases htr
        case seq x y => exfalso; split at htr <;> cases htr
        case cond x y z => exfalso; split at htr <;> cases htr
        case scope x => exact absurd rfl (hns x)
        all_goals (exfalso; simp at htr)
    refine ⟨main, callS _ main, fun l t H e t' H' h => ?_, fun l l' t H e t' H' h => ?_⟩
    rotate_left
    · obtain ⟨_, hcall, hparts, _⟩ := ih
      rw [exF] at h
      simp only [exStep] at h
      split at h
      · rename_i t₁ H₁ h1
        obtain ⟨rfl, k2⟩ := hparts l' t₁ H₁ e t' H' (.inr h)
        exact ⟨rfl, fun K hK => ((hparts l t H .normal t₁ H₁ (.inl h1)).2 _ ((k2 K hK).2)).1⟩
      · rename_i hne
        obtain ⟨rfl, _⟩ := hparts l t H e t' H' (.inl h)
        exact (hne _ _ h).elim
    obtain ⟨_, hcall, _, _⟩ := ih
    rcases h with h | h
    · rw [exF] at h
      simp only [exStep] at h
      split at h
      · rename_i t₁ H₁ ho; cases h
        exact ⟨rfl, fun K hK => exOps_sound hcall ho (K := K) hK⟩
      · cases h
    · rw [exF] at h
      simp only [exStep] at h
      split at h
      · rename_i t₁ H₁ ho; cases h
        exact ⟨rfl, fun K hK => exOps_sound hcall ho (K := K) hK⟩
      · cases h
theorem lookupT_mem : ∀ {T : List (Nat × FI)} {f : Nat} {x : FI}, lookupT T f = some x -> (f, x) ∈ T := by
  intro T
  induction T with
  | nil => intro f x h; cases h
  | cons p T ih =>
    intro f x h
    obtain ⟨k, y⟩ := p
    simp only [lookupT] at h
    split at h
    · rename_i hk; cases h; rw [nbeq_true hk]; exact List.mem_cons_self ..
    · exact List.mem_cons_of_mem _ (ih h)
def noPrim : Called := fun _ _ _ => none
theorem noPrim_says : Says P noPrim := fun _ _ _ _ _ h => by cases h
theorem exRun (hT : ∀ p ∈ T, Knows P p.1 p.2) (hp : Says P prim) {n f : Nat} {args : List AV} {H H' : Heap} {r : AV} (h : exCall T prim (exF T prim n) f args H = some (r, H')) : ACalls P f args H fun a b => a = r ∧ b = H' :=
  (exF_sound (fun f x hx => hT (f, x) (lookupT_mem hx)) hp n).2.1 f args H r H' h
def exTrue (T : List (Nat × FI)) (prim : Called) (n f : Nat) (args : List AV) : Bool :=
  match exCall T prim (exF T prim n) f args [] with
  | some (.v (.bool true), _) => true
  | _ => false
theorem exTrue_pure (hT : ∀ p ∈ T, Knows P p.1 p.2) (hp : Says P prim) {n f : Nat} {args : List AV} (hs : AV.shut.shutL args = true) (h : exTrue T prim n f args = true) : PureCall P f args (.v (.bool true)) := by
  unfold exTrue at h
  split at h
  · rename_i H' hh
    have := exRun hT hp hh
    exact fun H => ACalls.lift (this.mono fun a b ⟨h1, _⟩ => ⟨h1, by rw [h1]; rfl⟩) (shutL_all hs) H
  · cases h
end
def autoFI (P : Program) (fn : Func) : FI := ⟨fn.ntmps, (trC P fn.ntmps (fn.body.getD .skip)).getD .never, (fn.results.toList.mapM (trR P)).getD []⟩
def autoOk (P : Program) (fn : Func) : Bool :=
  match fn.body with
  | some body => match fn.name == "runtime.NumGoroutine" with
    | true => false
    | false => match trC P fn.ntmps body with
      | some _ => (fn.results.toList.mapM (trR P)).isSome
      | none => false
  | none => false
theorem autoKnows {P : Program} {f : Nat} {fn : Func} (hf : P.funcs[f]? = some fn) (h : autoOk P fn = true) : Knows P f (autoFI P fn) := by
  unfold autoOk at h
  split at h
  · rename_i body hb
    split at h
    · cases h
    · rename_i hn
      split at h
      · rename_i c hc
        refine ⟨fn, body, hf, hn, hb, ?_, ?_, rfl⟩
        · simp only [autoFI, hb, Option.getD_some, hc]
        · simp only [autoFI]
          obtain ⟨x, hx⟩ := Option.isSome_iff_exists.1 h
          rw [hx]; rfl
      · cases h
  · cases h
def autoT (P : Program) : List (Nat × Func) -> List (Nat × FI)
  | [] => []
  | (k, fn) :: r => (k, autoFI P fn) :: autoT P r
theorem autoT_knows {P : Program} : ∀ {l : List (Nat × Func)}, (∀ p ∈ l, P.funcs[p.1]? = some p.2) -> l.all (fun p => autoOk P p.2) = true -> ∀ p ∈ autoT P l, Knows P p.1 p.2 := by
  intro l
  induction l with
  | nil => intro _ _ p hp; cases hp
  | cons q l ih =>
    intro h1 h2 p hp
    rw [List.all_cons, Bool.and_eq_true] at h2
    rcases List.mem_cons.1 hp with e | e
    · rw [e]; exact autoKnows (h1 q (by simp)) h2.1
    · exact ih (fun p hp => h1 p (by simp [hp])) h2.2 p e
end Go.Ab

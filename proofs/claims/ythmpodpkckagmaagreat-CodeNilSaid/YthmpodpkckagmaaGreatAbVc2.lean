/- A part of the proof of CodeNil: AbVc2. -/
import Derived.Test.YthmpodpkckagmaaGreatAbDraw2
set_option linter.constructorNameAsVariable false
/-
  The condition that is computed of code, and that it is enough.
-/
namespace Go.Ab
open Go Go.RowKit
set_option linter.unusedVariables false
set_option linter.unusedSimpArgs false

/-- In a region whose operations come in whatever order, calls that may change places with others are to be of the narrower kind. -/
def narrow (ops : Array Oper) (l : List AOper) : List AOper :=
  let ah := aheads ops.toList
  l.zipIdx.map fun (o, j) =>
    match o.act with
    | .call f args =>
      let free := fun (x : AOper × Nat) => x.2 != j && !((ah.getD j []).contains x.2) && !((ah.getD x.2 []).contains j) && x.1.act.cls != .p
      if l.zipIdx.any free then
        if l.zipIdx.all (fun x => !(free x) || x.1.act.cls == .r || x.1.act.cls == .q || (match x.1.act with | .call _ _ => true | _ => false)) then { o with act := .qcall f args } else { o with act := .pcall f args }
      else o
    | _ => o

def trC (P : Program) (N : Nat) : Code → Option ACode
  | .skip => some .skip
  | .label _ => some .skip
  | .region _ ops draw =>
    match ops.toList.mapM (trO P N ops) with
    | some l => if draw then (if P.follows .mixedOrders && okDraw ops (narrow ops l) then some (.draw (narrow ops l)) else some .never) else some (.ops l)
    | none => some .never
  | .seq a b => match trC P N a, trC P N b with
    | some x, some y => some (.seq x y)
    | _, _ => none
  | .cond c a b => match trC P N a, trC P N b with
    | some x, some y => some (.cond (trX c) x y)
    | _, _ => none
  | .block id a => (trC P N a).map (.block id)
  | .loop a => (trC P N a).map .loop
  | .exit id => some (.exit id)
  | .ret => some .ret
  | .refuse _ => some .never
  | .scope _ => some .never
  | .goto _ => some .never
  | .rangeFunc _ _ _ _ => some .never

/-- What an abstract loop comes to. -/
def ALoop (P : Program) (N : Nat) (c : ACode) (Q : AExit → St → Prop) (s : St) : Prop := ∀ x, trC P N x = some c → AWp P N (.loop x) Q s

def vc (P : Program) (N : Nat) : ACode → (AExit → St → Prop) → St → Prop
  | .skip, Q, s => Q .normal s
  | .ops l, Q, s => vcOps P l (Q .normal) s
  | .draw l, Q, s => vcOpsD P l (Q .normal) s
  | .seq a b, Q, s => vc P N a (thenQ (vc P N b Q) Q) s
  | .cond c a b, Q, s => match c.ev s.env with
    | .v (.bool t) => if t then vc P N a Q s else vc P N b Q s
    | _ => False
  | .block id a, Q, s => vc P N a (blockQ id Q) s
  | .loop a, Q, s => ALoop P N a Q s
  | .never, _, _ => False
  | .exit id, Q, s => Q (.exit id) s
  | .ret, Q, s => Q .ret s

section
variable {P : Program} {N : Nat}

theorem narrow_length (ops : Array Oper) (l : List AOper) : (narrow ops l).length = l.length := by simp [narrow]

theorem narrow_get (ops : Array Oper) {l : List AOper} {k : Nat} {x : AOper} (h : l[k]? = some x) : ∃ y, (narrow ops l)[k]? = some y ∧ Like y x := by
  unfold narrow
  simp only [List.getElem?_map, List.getElem?_zipIdx, h, Option.map_some, Nat.zero_add]
  refine ⟨_, rfl, ?_⟩
  obtain ⟨dst, act, guard, hint⟩ := x
  simp only
  split
  · split
    · split
      · exact ⟨rfl, rfl, .inr (.inr rfl)⟩
      · exact ⟨rfl, rfl, .inr (.inl rfl)⟩
    · exact .refl _
  · exact .refl _

theorem vc_sound : ∀ (c : Code) (ac : ACode), trC P N c = some ac → ∀ (Q : AExit → St → Prop) (s : St), vc P N ac Q s → AWp P N c Q s := by
  intro c
  induction c with
  | skip => intro ac h Q s hv; simp [trC] at h; subst h; exact AWp.skip hv
  | label l => intro ac h Q s hv; simp [trC] at h; subst h; exact fun B β a w hr => wp_label ⟨.normal, s, β, rfl, hv, hr, Tr.refl _ _ _ _⟩
  | region id ops draw =>
    intro ac h Q s hv
    simp only [trC] at h
    split at h
    rotate_left
    · cases h; exact hv.elim
    rename_i l hl
    obtain ⟨hlen, hget⟩ := mapM_get hl
    cases draw with
    | true =>
      simp only [if_true] at h
      split at h
      · rename_i hc
        cases h
        simp only [vc] at hv
        simp only [Bool.and_eq_true] at hc
        refine draw_sound hc.1 hc.2 (by rw [narrow_length, hlen]; simp) (fun k o ho => ?_) hv
        have hk : k < l.length := by
          rw [hlen]
          have : k < ops.size := by
            rcases Nat.lt_or_ge k ops.size with h | h
            · exact h
            · simp [Array.getElem?_eq_none h] at ho
          simpa using this
        obtain ⟨ao, hao, hlike⟩ := narrow_get ops (l := l) (k := k) (x := l[k]) (by simp)
        exact ⟨ao, l[k], hao, hget k o _ (by simpa using ho) (by simp), hlike⟩
      · cases h; exact hv.elim
    | false =>
      simp only [Bool.false_eq_true, if_false, Option.some.injEq] at h
      subst h
      simp only [vc] at hv
      intro B β a w hr
      refine wp_region (ops_sound (List.range ops.size) l (by simp [hlen]) (fun j i ao hj hao => ?_) hr hv (fun s' β' a' w' hQ hr' ht' => ⟨.normal, s', β', rfl, hQ, hr', ht'⟩))
      have hji : j = i := by
        have h1 := getElem?_lt hj
        rw [List.getElem?_eq_getElem h1] at hj
        simpa using hj
      subst hji
      have hlt := getElem?_lt hao
      have hlt' : j < ops.size := by rw [hlen] at hlt; simpa using hlt
      exact ⟨ops[j], by simp, hget j ops[j] ao (by simp) hao⟩
  | seq a b iha ihb =>
    intro ac h Q s hv
    simp only [trC] at h
    split at h
    · rename_i x y hx hy
      cases h
      simp only [vc] at hv
      refine AWp.seq (AWp.mono (iha x hx _ s hv) ?_)
      intro e s' he
      cases e with
      | normal => exact ihb y hy Q s' he
      | exit id => exact he
      | ret => exact he
    · cases h
  | cond c a b iha ihb =>
    intro ac h Q s hv
    simp only [trC] at h
    split at h
    · rename_i x y hx hy
      cases h
      simp only [vc] at hv
      split at hv
      · rename_i t hc
        refine AWp.cond hc ?_
        cases t
        · exact ihb y hy Q s hv
        · exact iha x hx Q s hv
      · exact hv.elim
    · cases h
  | block id a ih =>
    intro ac h Q s hv
    simp only [trC, Option.map_eq_some_iff] at h
    obtain ⟨x, hx, rfl⟩ := h
    simp only [vc] at hv
    exact AWp.block (ih x hx _ s hv)
  | loop a ih =>
    intro ac h Q s hv
    simp only [trC, Option.map_eq_some_iff] at h
    obtain ⟨x, hx, rfl⟩ := h
    simp only [vc] at hv
    exact hv a hx
  | exit id => intro ac h Q s hv; simp [trC] at h; subst h; exact AWp.exit hv
  | ret => intro ac h Q s hv; simp [trC] at h; subst h; exact AWp.ret hv
  | rangeFunc f ps a b => intro ac h Q s hv; simp [trC] at h; subst h; exact hv.elim
  | scope b => intro ac h Q s hv; simp [trC] at h; subst h; exact hv.elim
  | goto l => intro ac h Q s hv; simp [trC] at h; subst h; exact hv.elim
  | refuse w => intro ac h Q s hv; simp [trC] at h; subst h; exact hv.elim

/-- A loop: a round, and what is left. -/
theorem ALoop.unfold {c : ACode} {Q : AExit → St → Prop} {s : St} (h : vc P N c (thenQ (ALoop P N c Q) Q) s) : ALoop P N c Q s := by
  intro x hx
  refine AWp.loop (AWp.mono (vc_sound x c hx _ s h) ?_)
  intro e s' he
  cases e with
  | normal => exact he x hx
  | exit id => exact he
  | ret => exact he

/-- Less may be known of the variables. -/
theorem ALoop.forget {c : ACode} {Q : AExit → St → Prop} {env env' : Env} {H : Heap} (h : ALoop P N c Q ⟨env', H⟩) (he : ∀ t, env' t = .any ∨ env' t = env t) : ALoop P N c Q ⟨env, H⟩ := by
  intro x hx B β a w hr
  refine h x hx B β a w ⟨hr.sim, fun t => ?_, hr.defers, hr.size⟩
  rcases he t with h | h
  · simp only [h]; exact .any _
  · simp only [h]; exact hr.rep t

inductive ARes where
  | tmp (t : Nat)
  | cell (t : Nat) (l : Option Nat)

def trR (P : Program) : ResultVar → Option ARes
  | .tmp t => some (.tmp t)
  | .cell t ty => (layOf P ty).map (.cell t)

def resF (s : St) : ARes → Option AV
  | .tmp t => some (s.env t)
  | .cell t l => readA s.heap l (s.env t)

def resV (rs : List ARes) (s : St) : Option AV :=
  match rs with
  | [r] => resF s r
  | rs => (rs.mapM (resF s)).map .tup

def envOf (args : List AV) : Env := fun t => (args[t]?).getD .any

def retQ (rs : List ARes) (Q : AV → Heap → Prop) : AExit → St → Prop
  | .normal, s => bindP (resV rs s) fun r => Q r s.heap
  | .ret, s => bindP (resV rs s) fun r => Q r s.heap
  | .exit _, _ => False

theorem res_sound {B : Nat} {β : Nat → Em} {s : St} {a : Act} {w : World} (hr : Rel N B β s a w) {g : ResultVar → Sem Value} (g1 : ∀ t, g (.tmp t) = pure (a.tmps.getD t undef)) (g2 : ∀ x t, g (.cell x t) = (do loadVar t (← asAddr (a.tmps.getD x undef))))
    {r : ResultVar} {ar : ARes} (htr : trR P r = some ar) {v : AV} (hv : resF s ar = some v) : ∃ c, (g r).run P w = .ok c w ∧ RepH β s.heap w v c := by
  cases r with
  | tmp t =>
    simp [trR] at htr
    subst htr
    simp [resF] at hv
    subst hv
    exact ⟨_, by rw [g1]; rfl, hr.rep t⟩
  | cell x t =>
    simp only [trR, Option.map_eq_some_iff] at htr
    obtain ⟨l, hl, rfl⟩ := htr
    simp only [resF] at hv
    obtain ⟨d, h1, h2⟩ := read_sound (P := P) hr.sim hl hv (hr.rep x)
    refine ⟨d, ?_, h2⟩
    rw [g2]
    have hrep := hr.rep x
    obtain ⟨c, hc⟩ : ∃ c, a.tmps.getD x undef = c := ⟨_, rfl⟩
    rw [hc] at hrep h1 ⊢
    unfold readA at hv
    split at hv
    · rename_i o off he
      rw [he] at hrep
      cases hrep with
      | ptr ho => simpa [Instr.loadAt, Instr.sureAddr, asAddr] using h1
    · rename_i y he
      rw [he] at hrep
      cases hrep with
      | rp cv k1 k2 => simpa [Instr.loadAt, Instr.sureAddr, asAddr] using h1
    · cases hv

theorem results_sound {B : Nat} {β : Nat → Em} {s : St} {a : Act} {w : World} (hr : Rel N B β s a w) {fn : Func} {rs : List ARes} (htr : fn.results.toList.mapM (trR P) = some rs) {v : AV} (hv : resV rs s = some v) :
    ∃ c, (results fn a.tmps).run P w = .ok c w ∧ RepH β s.heap w v c := by
  obtain ⟨hlen, hget⟩ := mapM_get htr
  obtain ⟨g, g1, g2, hres⟩ : ∃ g : ResultVar → Sem Value, (∀ t, g (.tmp t) = pure (a.tmps.getD t undef)) ∧ (∀ x t, g (.cell x t) = (do loadVar t (← asAddr (a.tmps.getD x undef)))) ∧
      results fn a.tmps = (do let vs ← fn.results.mapM g; pure (if h : vs.size = 1 then vs[0] else .tuple vs)) := ⟨_, fun _ => rfl, fun _ _ => rfl, rfl⟩
  have key : ∀ (l : List ResultVar) (ls : List ARes) (vs : List AV), l.length = ls.length → (∀ (i : Nat) (r : ResultVar) (ar : ARes), l[i]? = some r → ls[i]? = some ar → trR P r = some ar) → ls.mapM (resF s) = some vs →
      ∃ cs : List Value, (l.mapM g).run P w = .ok cs w ∧ vs.length = cs.length ∧ ∀ (i : Nat) (b : AV) (c : Value), vs[i]? = some b → cs[i]? = some c → RepH β s.heap w b c := by
    intro l
    induction l with
    | nil => intro ls vs hl _ h; cases ls with
      | nil => simp at h; subst h; exact ⟨[], rfl, rfl, by simp⟩
      | cons _ _ => simp at hl
    | cons r l ih =>
      intro ls vs hl hg h
      cases ls with
      | nil => simp at hl
      | cons ar ls =>
        rw [List.mapM_cons] at h
        simp only [bind, Option.bind_eq_some_iff, pure, Option.some.injEq] at h
        obtain ⟨v, hv, vs', hvs, rfl⟩ := h
        obtain ⟨c, hc, hrc⟩ := res_sound (P := P) hr g1 g2 (hg 0 r ar rfl rfl) hv
        obtain ⟨cs, h1, h2, h3⟩ := ih ls vs' (by simpa using hl) (fun i r ar h1 h2 => hg (i + 1) r ar (by simpa using h1) (by simpa using h2)) hvs
        refine ⟨c :: cs, ?_, by simp [h2], fun i b d hb hd => ?_⟩
        · rw [List.mapM_cons, Sem.run_bind, hc, Result.andThen_ok, Sem.run_bind, h1]
          rfl
        · cases i with
          | zero => simp at hb hd; subst hb; subst hd; exact hrc
          | succ i => simp at hb hd; exact h3 i b d hb hd
  have run : ∀ (cs : List Value), (fn.results.toList.mapM g).run P w = .ok cs w →
      (results fn a.tmps).run P w = .ok (if h : cs.toArray.size = 1 then cs.toArray[0] else .tuple cs.toArray) w := by
    intro cs h
    rw [hres, Sem.run_bind, Array.mapM_eq_mapM_toList]
    simp only [Sem.run_map]
    rw [h]
    rfl
  unfold resV at hv
  split at hv
  · rename_i r
    obtain ⟨cs, h1, h2, h3⟩ := key _ [r] [v] (by simpa using hlen.symm) (fun i x y hx hy => hget i x y hx hy) (by simp [hv])
    refine ⟨_, run cs h1, ?_⟩
    match cs, h2 with
    | [c], _ => exact h3 0 v c rfl rfl
  · rename_i hne
    rw [Option.map_eq_some_iff] at hv
    obtain ⟨vs, hvs, rfl⟩ := hv
    obtain ⟨cs, h1, h2, h3⟩ := key _ rs vs (by simpa using hlen.symm) (fun i x y hx hy => hget i x y hx hy) hvs
    have hl : vs.length = rs.length := (mapM_get hvs).1
    have hne1 : cs.toArray.size ≠ 1 := by
      intro e
      simp only [List.size_toArray] at e
      rcases rs with _ | ⟨x, _ | ⟨y, rs⟩⟩
      · have hl' : vs.length = 0 := hl
        omega
      · exact hne x rfl
      · have hl' : vs.length = rs.length + 1 + 1 := hl
        omega
    refine ⟨_, run cs h1, ?_⟩
    rw [dif_neg hne1]
    exact .tup (by simpa using h2) fun i b c hb hc => h3 i b c hb (by simpa using hc)

/-- A function whose body comes to what is asked. -/
theorem acalls {f : FuncId} {fn : Func} {body : Code} {ac : ACode} {rs : List ARes} {args : List AV} {H : Heap} {Q : AV → Heap → Prop} (hf : P.funcs[f]? = some fn) (hn : (fn.name == "runtime.NumGoroutine") = false) (hb : fn.body = some body)
    (hc : trC P fn.ntmps body = some ac) (hr : fn.results.toList.mapM (trR P) = some rs) (hl : args.length ≤ fn.ntmps)
    (h : vc P fn.ntmps ac (retQ rs Q) ⟨envOf args, H⟩) : ACalls P f args H Q := by
  refine ⟨⟨fn, hf, hn, by rw [hb]; rfl⟩, fun B β w cs hs hlen hargs => calls_of_wp hf hb ?_⟩
  have hrel : Rel fn.ntmps B β ⟨envOf args, H⟩ { tmps := cs ++ Array.replicate (fn.ntmps - cs.size) undef, defers := [] } w := by
    refine ⟨hs, fun t => ?_, rfl, by simp; omega⟩
    simp only [envOf]
    cases ht : args[t]? with
    | none => exact .any _
    | some a =>
      have hlt := getElem?_lt ht
      have : (cs ++ Array.replicate (fn.ntmps - cs.size) undef).getD t undef = cs[t]'(by omega) := by
        rw [Array.getD_eq_getD_getElem?, Array.getElem?_append_left (by omega)]
        simp [show t < cs.size by omega]
      rw [this]
      exact hargs t a _ ht (by simp)
  refine wp_mono (vc_sound body ac hc _ _ h B β _ w hrel) ?_
  rintro e a' w' ⟨x, s', β', rfl, hQ, hr', ht'⟩
  have fin : bindP (resV rs s') (fun r => Q r s'.heap) → a'.defers = [] ∧ ∃ v, (results fn a'.tmps).run P w' = .ok v w' ∧ ∃ r c β' H', Ending.returned v = .returned c ∧ Q r H' ∧ RepH β' H' w' r c ∧ Sim B β' H' w' ∧ Tr B β H w β' H' w' := by
    rintro ⟨r, hv, hq⟩
    obtain ⟨c, h1, h2⟩ := results_sound hr' hr hv
    exact ⟨hr'.defers, c, h1, r, c, β', s'.heap, rfl, hq, h2, hr'.sim, ht'⟩
  cases x with
  | normal => exact fin hQ
  | ret => exact fin hQ
  | exit id => exact hQ.elim

/-- Objects of the call's own are forgotten; slices over them become lists. -/
theorem ACalls.frz {f : FuncId} {args : List AV} {H : Heap} {Q : AV → Heap → Prop} (h : ACalls P f args H fun r H' => ∃ L r', H' = H ++ L ∧ Frz H' H.length r r' ∧ Q r' H) : ACalls P f args H Q := by
  refine ⟨h.ok, fun B β w cs hs hl ha => Calls.mono (h.go B β w cs hs hl ha) ?_⟩
  rintro e w' ⟨r, c, β', H', rfl, ⟨L, r', rfl, hz, hq⟩, h2, h3, h4⟩
  have htake : (H ++ L).take H.length = H := by simp
  have s' := h3.take H.length (by simp) (by rw [htake]; exact hs.bnd)
  have t' := h4.take H.length (Nat.le_refl _) (by simp)
  have r'' := hz.rep h3 h2
  rw [htake] at s' t' r''
  exact ⟨r', c, β', H, rfl, hq, r'', s', t'⟩

end
end Go.Ab

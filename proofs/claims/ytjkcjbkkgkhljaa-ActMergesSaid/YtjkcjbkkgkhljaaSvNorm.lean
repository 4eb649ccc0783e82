/- A part of a law's proof: SvNorm. -/
import Derived.Test.YtjkcjbkkgkhljaaSvMOp
set_option linter.constructorNameAsVariable false
/-
  What is known of memory may be told anew: a row that nobody writes any more becomes a list.
-/
namespace Go.Ab
open Go Go.RowKit
set_option linter.unusedVariables false
set_option linter.unusedSimpArgs false
def NormS (N : Nat) (s s' : St) : Prop := ∀ (B : Nat) (β : Lies) (a : Act) (w : World), Rel N B β s a w -> ∃ β', Rel N B β' s' a w ∧ Tr B β s.heap w β' s'.heap w
theorem NormS.refl (N : Nat) (s : St) : NormS N s s := fun B β a w h => ⟨β, h, Tr.refl _ _ _ _⟩
theorem NormS.trans {N : Nat} {s s' s₂ : St} (h : NormS N s s') (k : NormS N s' s₂) : NormS N s s₂ := fun B β a w hr =>
  have ⟨β1, h1, h2⟩ := h B β a w hr
  have ⟨β2, k1, k2⟩ := k B β1 a w h1
  ⟨β2, k1, h2.trans k2⟩
theorem AWp.norm {P : Program} {N : Nat} {c : Code} {Q : AExit -> St -> Prop} {s s' : St} (hn : NormS N s s') (h : AWp P N c Q s') : AWp P N c Q s := by
  intro B β a w hr
  obtain ⟨β1, h1, h2⟩ := hn B β a w hr
  refine wp_mono (h B β1 a w h1) ?_
  rintro e a' w' ⟨x, s'', β', k1, k2, k3, k4⟩
  exact ⟨x, s'', β', k1, k2, k3, h2.trans k4⟩
def gOps (P : Program) (N : Nat) : List AOper -> (St -> Prop) -> St -> Prop
  | [], K, s => ∃ s', NormS N s s' ∧ K s'
  | o :: os, K, s => ∃ s', NormS N s s' ∧ vcOp P o (gOps P N os K) s'
def gc (P : Program) (N : Nat) : ACode -> (AExit -> St -> Prop) -> St -> Prop
  | .skip, Q, s => Q .normal s
  | .ops l, Q, s => gOps P N l (Q .normal) s
  | .draw l, Q, s => ∃ s', NormS N s s' ∧ vcOpsD P l (Q .normal) s'
  | .drawk l ms, Q, s => ∃ s', NormS N s s' ∧ ∃ R, vcOpsK P R (l.zip ms) (Q .normal) s'
  | .seq a b, Q, s => gc P N a (thenQ (gc P N b Q) Q) s
  | .cond c a b, Q, s => match c.ev s.env with
    | .v (.bool t) => if t then gc P N a Q s else gc P N b Q s
    | _ => False
  | .block id a, Q, s => gc P N a (blockQ id Q) s
  | .loop a, Q, s => ALoop P N a Q s
  | .never, _, _ => False
  | .exit id, Q, s => Q (.exit id) s
  | .ret, Q, s => Q .ret s
section
variable {P : Program} {N : Nat}
theorem gops_sound {ops : Array Oper} : ∀ (is : List Nat) (os : List AOper), is.length = os.length -> (∀ (j i : Nat) (ao : AOper), is[j]? = some i -> os[j]? = some ao -> ∃ o, ops[i]? = some o ∧ trO P N ops o = some ao) ->
    ∀ {B : Nat} {β : Lies} {s : St} {a : Act} {w : World} (hr : Rel N B β s a w) {K : St -> Prop} {Q : Exit -> Act -> World -> Prop}
    (hv : gOps P N os K s) (hk : ∀ s' β' a' w', K s' -> Rel N B β' s' a' w' -> Tr B β s.heap w β' s'.heap w' -> Q .normal a' w'), wpOps P ops Q is a w := by
  intro is
  induction is with
  | nil =>
    intro os hl _ B β s a w hr K Q hv hk
    cases os with
    | nil =>
      obtain ⟨s', hn, h⟩ := hv
      obtain ⟨β1, h1, h2⟩ := hn B β a w hr
      exact hk _ _ _ _ h h1 h2
    | cons _ _ => simp at hl
  | cons i is ih =>
    intro os hl hal B β s a w hr K Q hv hk
    cases os with
    | nil => simp at hl
    | cons ao os =>
      obtain ⟨o, ho, htr⟩ := hal 0 i ao rfl rfl
      obtain ⟨s₁, hn, hv⟩ := hv
      obtain ⟨β1, hr1, ht1⟩ := hn B β a w hr
      have h1 := op_sound (Q := Q) htr (.refl _) hr1 hv (next := wpOps P ops Q is) (fun s' β' a' w' hK hr' ht' =>
        ih os (by simpa using hl) (fun j i ao hj hao => hal (j + 1) i ao (by simpa using hj) (by simpa using hao)) hr' hK (fun s₂ β₂ a₂ w₂ k1 k2 k3 => hk _ _ _ _ k1 k2 (ht1.trans (ht'.trans k3))))
      simp only [wpOps, ho]
      split
      · rename_i hw
        rw [if_pos hw] at h1
        exact .inl h1
      · rename_i hw
        rw [if_neg hw] at h1
        exact h1
theorem gc_sound : ∀ (c : Code) (ac : ACode), trC P N c = some ac -> ∀ (Q : AExit -> St -> Prop) (s : St), gc P N ac Q s -> AWp P N c Q s := by
  intro c
  induction c with
  | skip => intro ac h Q s hv; simp [trC] at h; subst h; exact AWp.skip hv
  | label l => intro ac h Q s hv; simp [trC] at h; subst h; exact fun B β a w hr => wp_label ⟨.normal, s, β, rfl, hv, hr, Tr.refl _ _ _ _⟩
  | region id ops draw =>
    intro ac h Q s hv
    simp only [trC] at h
    split at h
    rotate_left
    · cases h; exact hv.elim
    rename_i l hl
    obtain ⟨hlen, hget⟩ := mapM_get hl
    cases draw with
    | true =>
      simp only [if_true] at h
      have hall : ∀ (k : Nat) (o : Oper), ops[k]? = some o -> ∃ ao bo, (narrow ops l)[k]? = some ao ∧ trO P N ops o = some bo ∧ Like ao bo := by
        intro k o ho
        have hk : k < l.length := by
          rw [hlen]
          have : k < ops.size := by
            rcases Nat.lt_or_ge k ops.size with h | h
            · exact h
            · simp [Array.getElem?_eq_none h] at ho
          simpa using this
        obtain ⟨ao, hao, hlike⟩ := narrow_get ops (l := l) (k := k) (x := l[k]) (by simp)
        exact ⟨ao, l[k], hao, hget k o _ (by simpa using ho) (by simp), hlike⟩
      split at h
      · rename_i hc
        simp only [Bool.and_eq_true] at hc
        split at h
        · rename_i ht
          cases h
          obtain ⟨x, hx⟩ := tail_last ht
          rw [hx] at hv
          simp only [gc] at hv
          obtain ⟨s', hn, hv⟩ := hv
          obtain ⟨f, hrun, f₁, hn₁, hv⟩ := vcOpsD_runs hv
          exact AWp.norm hn (draw_sound_tail' hc.1 hc.2 (by rw [narrow_length, hlen]; simp) ht hall (K := gOps P N [] (Q .normal)) (fun f' h => h) hx hrun ⟨f₁, hn₁, hv⟩)
        · split at h
          · rename_i m hmid
            cases h
            obtain ⟨x, hx⟩ := mid_one hmid
            rw [hx] at hv
            simp only [gc] at hv
            obtain ⟨s', hn, hv⟩ := hv
            obtain ⟨f, hrun, f₁, hn₁, hv⟩ := vcOpsD_runs hv
            refine AWp.norm hn (draw_sound_mid' hc.1 hc.2 (by rw [narrow_length, hlen]; simp) hmid hall (K := Q .normal) (fun f' h => ⟨f', NormTo.refl _, h⟩) hx hrun ⟨f₁, hn₁, vcOp_mono hv fun s₂ h2 => ?_⟩)
            obtain ⟨s₃, hn3, s₄, hn4, h4⟩ := h2
            obtain ⟨f', h5, h6⟩ := vcOpsD_runs h4
            refine ⟨s₄, fun B β a w hr => ?_, f', h5, h6⟩
            obtain ⟨β1, h1, h2⟩ := hn3 B β a w hr
            obtain ⟨β2, h7, h8⟩ := hn4 B β1 a w h1
            exact ⟨β2, h7, h2.trans h8⟩
          · cases h
            simp only [gc] at hv
            obtain ⟨s', hn, hv⟩ := hv
            exact AWp.norm hn (draw_sound hc.1 hc.2 (by rw [narrow_length, hlen]; simp) hall hv)
      · split at h
        · rename_i hc
          cases h
          rw [Bool.and_eq_true] at hc
          simp only [gc] at hv
          obtain ⟨s', hn, hv⟩ := hv
          exact AWp.norm hn (draw_soundK' hc.1 hc.2 (by rw [narrow_length, hlen]; simp) hall hv)
        · cases h; exact hv.elim
    | false =>
      simp only [Bool.false_eq_true, if_false, Option.some.injEq] at h
      subst h
      simp only [gc] at hv
      intro B β a w hr
      refine wp_region (gops_sound (List.range ops.size) l (by simp [hlen]) (fun j i ao hj hao => ?_) hr hv (fun s' β' a' w' hQ hr' ht' => ⟨.normal, s', β', rfl, hQ, hr', ht'⟩))
      have hji : j = i := by
        have h1 := getElem?_lt hj
        rw [List.getElem?_eq_getElem h1] at hj
        simpa using hj
      subst hji
      have hlt := getElem?_lt hao
      have hlt' : j < ops.size := by rw [hlen] at hlt; simpa using hlt
      exact ⟨ops[j], by simp, hget j ops[j] ao (by simp) hao⟩
  | seq a b iha ihb =>
    intro ac h Q s hv
    simp only [trC] at h
    split at h
    · rename_i x y hx hy
      cases h
      simp only [gc] at hv
      refine AWp.seq (AWp.mono (iha x hx _ s hv) ?_)
      intro e s' he
      cases e with
      | normal => exact ihb y hy Q s' he
      | exit id => exact he
      | ret => exact he
    · cases h
  | cond c a b iha ihb =>
    intro ac h Q s hv
    simp only [trC] at h
    split at h
    · rename_i x y hx hy
      cases h
      simp only [gc] at hv
      split at hv
      · rename_i t hc
        refine AWp.cond hc ?_
        cases t
        · exact ihb y hy Q s hv
        · exact iha x hx Q s hv
      · exact hv.elim
    · cases h
  | block id a ih =>
    intro ac h Q s hv
    simp only [trC, Option.map_eq_some_iff] at h
    obtain ⟨x, hx, rfl⟩ := h
    simp only [gc] at hv
    exact AWp.block (ih x hx _ s hv)
  | loop a ih =>
    intro ac h Q s hv
    simp only [trC, Option.map_eq_some_iff] at h
    obtain ⟨x, hx, rfl⟩ := h
    simp only [gc] at hv
    exact hv a hx
  | exit id => intro ac h Q s hv; simp [trC] at h; subst h; exact AWp.exit hv
  | ret => intro ac h Q s hv; simp [trC] at h; subst h; exact AWp.ret hv
  | rangeFunc f ps a b => intro ac h Q s hv; simp [trC] at h; subst h; exact hv.elim
  | scope b ih => intro ac h Q s hv; simp only [trC] at h; exact AWp.scope (ih ac h Q s hv)
  | goto l => intro ac h Q s hv; simp [trC] at h; subst h; exact hv.elim
  | refuse w => intro ac h Q s hv; simp [trC] at h; subst h; exact hv.elim
theorem ALoop.unfoldG {c : ACode} {Q : AExit -> St -> Prop} {s : St} (h : gc P N c (thenQ (ALoop P N c Q) Q) s) : ALoop P N c Q s := by
  intro x hx
  refine AWp.loop (AWp.mono (gc_sound x c hx _ s h) ?_)
  intro e s' he
  cases e with
  | normal => exact he x hx
  | exit id => exact he
  | ret => exact he
theorem ALoop.norm {c : ACode} {Q : AExit -> St -> Prop} {s s' : St} (hn : NormS N s s') (h : ALoop P N c Q s') : ALoop P N c Q s := fun x hx => AWp.norm hn (h x hx)
theorem callG {f : Nat} {x : FI} {args : List AV} {H : Heap} {Q : AV -> Heap -> Prop} (h : Knows P f x) (hl : args.length <= x.n) (hv : gc P x.n x.code (retQ x.rs Q) ⟨envOf args, H⟩) : ACalls P f args H Q := by
  obtain ⟨fn, body, k1, k2, k3, k4, k5, k6⟩ := h
  rw [k6] at hl hv
  exact acalls_wp k1 k2 k3 k5 hl (gc_sound _ _ k4 _ _ hv)
end
inductive FzP (H : Heap) (p : Option Nat) : AV -> AV -> Prop
  | same (a : AV) : FzP H p a a
  | agg {cs ds : List AV} (hl : ds.length = cs.length) (h : ∀ (i : Nat) (a b : AV), cs[i]? = some a -> ds[i]? = some b -> FzP H p a b) : FzP H p (.agg cs) (.agg ds)
  | tup {cs ds : List AV} (hl : ds.length = cs.length) (h : ∀ (i : Nat) (a b : AV), cs[i]? = some a -> ds[i]? = some b -> FzP H p a b) : FzP H p (.tup cs) (.tup ds)
  | fn {f : FuncId} {cs ds : List AV} (hl : ds.length = cs.length) (h : ∀ (i : Nat) (a b : AV), cs[i]? = some a -> ds[i]? = some b -> FzP H p a b) : FzP H p (.fn f cs) (.fn f ds)
  | ifc {t : TypeId} {a b : AV} (h : FzP H p a b) : FzP H p (.ifc t a) (.ifc t b)
  | sl {q sz off len : Nat} {cap : Option Nat} {cs xs : List AV} (hp : p = some q) (ho : H[q]? = some (.cells cs)) (hx : xs.length = len) (hl : off + len * sz <= cs.length)
      (hs : ∀ (i : Nat) (x : AV), xs[i]? = some x -> x.cells.length = sz)
      (h : ∀ (i : Nat) (x : AV) (j : Nat) (a : AV), xs[i]? = some x -> x.cells[j]? = some a -> cs[off + (i * sz + j)]? = some a) : FzP H p (.sl sz q off len cap) (.lst sz xs)
  | nil0 {sz : Nat} : FzP H p nilSl (.lst sz [])
  | z0 {sz : Nat} : FzP H p .z0 (.lst sz [])
def letGo (H : Heap) : Option Nat -> Heap
  | some p => H.set p .dead
  | none => H
section
variable {B : Nat} {β : Lies} {H : Heap} {w : World}
theorem Sim.letGo' (s : Sim B β H w) (p : Option Nat) : Sim B β (letGo H p) w ∧ Tr B β H w β (letGo H p) w := by
  cases p with
  | none => exact ⟨s, Tr.refl _ _ _ _⟩
  | some p => exact s.kill p
theorem FzP.rep (s : Sim B β H w) {p : Option Nat} {a b : AV} (f : FzP H p a b) : ∀ {c : Value}, RepH β H w a c -> RepH β (letGo H p) w b c := by
  have tr := (s.letGo' p).2
  induction f with
  | same a => exact fun hr => tr.rep hr
  | @agg cs ds hl _ ih =>
    intro c hr
    cases hr with
    | agg hl' h' =>
      refine .agg (by omega) fun i b c hb hc => ?_
      have hi : i < cs.length := by have := getElem?_lt hb; omega
      exact ih i cs[i] b (by simp) hb (h' i cs[i] c (by simp) hc)
  | @tup cs ds hl _ ih =>
    intro c hr
    cases hr with
    | tup hl' h' =>
      refine .tup (by omega) fun i b c hb hc => ?_
      have hi : i < cs.length := by have := getElem?_lt hb; omega
      exact ih i cs[i] b (by simp) hb (h' i cs[i] c (by simp) hc)
  | @fn f cs ds hl _ ih =>
    intro c hr
    cases hr with
    | fn hl' h' =>
      refine .fn (by omega) fun i b c hb hc => ?_
      have hi : i < cs.length := by have := getElem?_lt hb; omega
      exact ih i cs[i] b (by simp) hb (h' i cs[i] c (by simp) hc)
  | ifc _ ih =>
    intro c hr
    cases hr with
    | ifc hr' => exact .ifc (ih hr')
  | nil0 => intro c hr; have := rep_v hr; subst this; exact .lstNil _ _ _
  | z0 => intro c hr; cases hr; exact .lstNil _ _ _
  | @sl q sz off len cap cs xs hp ho hx hl hs h =>
    intro c hr
    subst hp
    cases hr with
    | slZero p _ _ =>
      have : xs = [] := List.length_eq_zero_iff.1 hx
      subst this; exact .lstNil _ _ _
    | @sl _ _ _ _ cap' _ holt hlc _ _ =>
      subst hx
      have key : ∀ k, k < xs.length * sz -> ∃ c, RO β (H.set q .dead) w (β q).blk ((β q).off + (off + k)) c ∧ ∀ a, cs[off + k]? = some a -> RepH β H w a c := by
        intro k hk
        have hk' : off + k < cs.length := by omega
        obtain ⟨c, h1, h2⟩ := s.cell q cs (off + k) cs[off + k] ho (by simp [hk'])
        refine ⟨c, ⟨⟨h1, s.nod ho _⟩, ?_⟩, fun a ha => by simp [hk'] at ha; subst ha; exact h2⟩
        rintro ⟨p, ds, hp, hb, h3, h4⟩
        rcases get_set hp with ⟨_, he⟩ | ⟨hne, hp'⟩
        · cases he
        · exact s.disj p q ds cs hne hp' ho hb
      let cv : Nat -> Value := fun k => if hk : k < xs.length * sz then (key k hk).choose else default
      have hcv : ∀ k (hk : k < xs.length * sz), RO β (H.set q .dead) w (β q).blk ((β q).off + (off + k)) (cv k) ∧ ∀ a, cs[off + k]? = some a -> RepH β H w a (cv k) := by
        intro k hk
        simp only [cv, hk, dif_pos]
        exact (key k hk).choose_spec
      refine .lst cv hlc (fun k hk => by rw [Nat.add_assoc]; exact (hcv k hk).1) hs fun i x j b hi hj => ?_
      have hlt := getElem?_lt hi
      have hjlt := getElem?_lt hj
      rw [hs i x hi] at hjlt
      have hk : i * sz + j < xs.length * sz := by
        have : (i + 1) * sz <= xs.length * sz := Nat.mul_le_mul_right _ hlt
        rw [Nat.add_mul] at this; omega
      exact tr.rep ((hcv _ hk).2 _ (h i x j b hi hj))
def FzObj (H : Heap) (p : Option Nat) (x y : AObj) : Prop :=
  x = y ∨ ∃ cs ds, x = .cells cs ∧ y = .cells ds ∧ ds.length = cs.length ∧ ∀ (j : Nat) (a b : AV), cs[j]? = some a -> ds[j]? = some b -> FzP H p a b
theorem Sim.redesc (s : Sim B β H w) {p : Option Nat} {H' : Heap} (hl : H'.length = H.length) (h : ∀ (o : Nat) (y : AObj), H'[o]? = some y -> ∃ x, (letGo H p)[o]? = some x ∧ FzObj H p x y) : Sim B β H' w ∧ Tr B β H w β H' w := by
  obtain ⟨s1, t1⟩ := s.letGo' p
  have hkl : (letGo H p).length = H.length := by cases p <;> simp [letGo]
  have ofCells : ∀ {o : Nat} {ds : List AV}, H'[o]? = some (.cells ds) -> ∃ cs, (letGo H p)[o]? = some (.cells cs) ∧ ds.length = cs.length ∧ ∀ (j : Nat) (a b : AV), cs[j]? = some a -> ds[j]? = some b -> FzP H p a b := by
    intro o ds ho
    obtain ⟨x, hx, hf⟩ := h o _ ho
    rcases hf with rfl | ⟨cs, ds', rfl, he, h1, h2⟩
    · exact ⟨ds, hx, rfl, fun j a b h1 h2 => by rw [h1] at h2; cases h2; exact .same a⟩
    · cases he; exact ⟨cs, hx, h1, h2⟩
  have ofOther : ∀ {o : Nat} {y : AObj}, (∀ ds, y ≠ .cells ds) -> H'[o]? = some y -> (letGo H p)[o]? = some y := by
    intro o y hy ho
    obtain ⟨x, hx, hf⟩ := h o _ ho
    rcases hf with rfl | ⟨cs, ds', _, he, _⟩
    · exact hx
    · exact absurd he (hy _)
  have live : ∀ {o : Nat} {cs : List AV}, (letGo H p)[o]? = some (.cells cs) -> H[o]? = some (.cells cs) := by
    intro o cs ho
    cases p with
    | none => exact ho
    | some p =>
      rcases get_set ho with ⟨_, he⟩ | ⟨_, h⟩
      · cases he
      · exact h
  have hown : ∀ b i, Owned β H' b i -> Owned β (letGo H p) b i := by
    rintro b i ⟨o, ds, ho, r⟩
    obtain ⟨cs, hcs, _⟩ := ofCells ho
    exact ⟨o, cs, hcs, r⟩
  have ro : ∀ b i c, RO β (letGo H p) w b i c -> RO β H' w b i c := fun b i c hr => ⟨hr.1, fun h => hr.2 (hown b i h)⟩
  have rep : ∀ {a : AV} {c : Value}, RepH β (letGo H p) w a c -> RepH β H' w a c := fun hr => hr.mono (fun _ _ => rfl) (by omega) ro
  refine ⟨⟨s.size, (fun o ds ho => by obtain ⟨cs, hcs, _⟩ := ofCells ho; exact s.nodd o cs (live hcs)), ?_, ?_, ?_, ?_, ?_, ?_, ?_, ?_⟩, ⟨Below.refl _ _, by omega, fun _ _ => rfl, fun b i c hr => ro b i c (t1.ro b i c hr), rfl, fun b hb hn => ⟨rfl, fun hv => (t1.rest b hb hn).2 (by
    obtain ⟨o, x, ho, hx, hbb⟩ := hv
    obtain ⟨z, hz, hf⟩ := h o _ ho
    rcases hf with rfl | ⟨cs, ds, rfl, _⟩
    · exact ⟨o, _, hz, hx, hbb⟩
    · exact ⟨o, _, hz, rfl, hbb⟩)⟩⟩⟩
  · intro o ds ho
    obtain ⟨cs, hcs, hl', _⟩ := ofCells ho
    have := s1.base o cs hcs
    exact ⟨this.1, this.2.1, by omega⟩
  · intro o ds j b ho hb
    obtain ⟨cs, hcs, hl', hf⟩ := ofCells ho
    have hj : j < cs.length := by have := getElem?_lt hb; omega
    obtain ⟨c, hc, hr⟩ := s.cell o cs j cs[j] (live hcs) (by simp [hj])
    exact ⟨c, hc, rep ((hf j cs[j] b (by simp [hj]) hb).rep s hr)⟩
  · intro o ds j ho hj
    obtain ⟨cs, hcs, _⟩ := ofCells ho
    exact s1.room o cs j hcs hj
  · intro o es ho
    obtain ⟨hb', ents, clock, he, hl', hrep⟩ := s1.map o es (ofOther (fun _ h => by cases h) ho)
    exact ⟨hb', ents, clock, he, hl', fun i a b e hi hj => ⟨rep (hrep i a b e hi hj).1, rep (hrep i a b e hi hj).2⟩⟩
  · intro o o' ds ds' hne h1 h2
    obtain ⟨cs, hcs, _⟩ := ofCells h1
    obtain ⟨cs', hcs', _⟩ := ofCells h2
    exact s1.disj o o' cs cs' hne hcs hcs'
  · intro o o' es es' hne h1 h2
    exact s1.mdisj o o' es es' hne (ofOther (fun _ h => by cases h) h1) (ofOther (fun _ h => by cases h) h2)
  · intro q o t hq
    obtain ⟨h1, h2⟩ := s1.tag q o t (ofOther (fun _ h => by cases h) hq)
    exact ⟨by omega, h2⟩
  · intro o ds t' n ho hsh
    obtain ⟨cs, hcs, _⟩ := ofCells ho
    exact s1.clean o cs t' n hcs hsh
theorem NormS.freeze {N : Nat} {e e' : Env} {H H' : Heap} {p : Option Nat} (hl : H'.length = H.length) (h : ∀ (o : Nat) (y : AObj), H'[o]? = some y -> ∃ x, (letGo H p)[o]? = some x ∧ FzObj H p x y) (he : ∀ t, FzP H p (e t) (e' t)) : NormS N ⟨e, H⟩ ⟨e', H'⟩ := by
  intro B β a w hr
  obtain ⟨s1, t1⟩ := hr.sim.redesc hl h
  refine ⟨β, ⟨s1, fun t => ?_, hr.defers, hr.size⟩, t1⟩
  have h1 := (he t).rep hr.sim (hr.rep t)
  have hkl : (letGo H p).length = H.length := by cases p <;> simp [letGo]
  refine h1.mono (fun _ _ => rfl) (by simp only at *; omega) fun b i c hro => ⟨hro.1, ?_⟩
  rintro ⟨o, ds, ho, r⟩
  obtain ⟨x, hx, hf⟩ := h o _ ho
  refine hro.2 ?_
  rcases hf with rfl | ⟨cs, ds', rfl, _⟩
  · exact ⟨o, ds, hx, r⟩
  · exact ⟨o, cs, hx, r⟩
end
variable {Θ : Nat -> Type}
def fzV (o c : Nat) (xs : List (Θ c)) : SV Θ -> SV Θ
  | .sl c' o' off len cap => match Nat.beq o' o, Nat.beq c' c with
    | true, true => .lst c ((xs.drop off).take len)
    | _, _ => .sl c' o' off len cap
  | .agg cs => .agg (fzL o c xs cs)
  | .tup cs => .tup (fzL o c xs cs)
  | .fn f cs => .fn f (fzL o c xs cs)
  | .ifc t x => .ifc t (fzV o c xs x)
  | x => x
where
  fzL (o c : Nat) (xs : List (Θ c)) : List (SV Θ) -> List (SV Θ)
  | [] => []
  | x :: r => fzV o c xs x :: fzL o c xs r
def fzC (o c : Nat) (xs : List (Θ c)) : SV Θ -> List Prop
  | .sl c' o' off len cap => match Nat.beq o' o, Nat.beq c' c with
    | true, true => [off + len <= xs.length]
    | _, _ => []
  | .agg cs => fzCL o c xs cs
  | .tup cs => fzCL o c xs cs
  | .fn _ cs => fzCL o c xs cs
  | .ifc _ x => fzC o c xs x
  | _ => []
where
  fzCL (o c : Nat) (xs : List (Θ c)) : List (SV Θ) -> List Prop
  | [] => []
  | x :: r => match fzC o c xs x with
    | [] => fzCL o c xs r
    | p :: ps => (p :: ps) ++ fzCL o c xs r
def allP : List Prop -> Prop
  | [] => True
  | p :: ps => match ps with
    | [] => p
    | _ :: _ => p ∧ allP ps
theorem allP_mem : ∀ {ps : List Prop}, allP ps -> ∀ p ∈ ps, p := by
  intro ps
  induction ps with
  | nil => intro _ p hp; simp at hp
  | cons q qs ih =>
    intro h p hp
    cases qs with
    | nil => simp at hp; exact hp.mpr h
    | cons r rs =>
      simp only [allP] at h
      rcases List.mem_cons.1 hp with rfl | hp
      · exact h.1
      · exact ih h.2 p hp
theorem fzCL_mem {o c : Nat} {xs : List (Θ c)} : ∀ {l : List (SV Θ)} {i : Nat} {x : SV Θ}, l[i]? = some x -> ∀ p ∈ fzC o c xs x, p ∈ fzC.fzCL o c xs l := by
  intro l
  induction l with
  | nil => intro i x hx; simp at hx
  | cons y ys ih =>
    intro i x hx p hp
    simp only [fzC.fzCL]
    cases i with
    | zero =>
      simp at hx; subst hx
      split
      · rename_i h0; rw [h0] at hp; simp at hp
      · rename_i q qs h0; rw [h0] at hp; exact List.mem_append_left _ hp
    | succ i =>
      have := ih (by simpa using hx) p hp
      split
      · exact this
      · exact List.mem_append_right _ this
theorem fzL_map (o c : Nat) (xs : List (Θ c)) (l : List (SV Θ)) : fzV.fzL o c xs l = l.map (fzV o c xs) := by
  induction l with
  | nil => rfl
  | cons x l ih => simp [fzV.fzL, ih]
section
variable {C : Cod Θ} {ι : Emb} {A : Base} {S : SHeap Θ} {H : Heap}
theorem list_choose {α β : Type} {l : List α} {R : Nat -> α -> β -> Prop} (h : ∀ (i : Nat) (a : α), l[i]? = some a -> ∃ b, R i a b) : ∃ m : List β, m.length = l.length ∧ ∀ (i : Nat) (a : α) (b : β), l[i]? = some a -> m[i]? = some b -> R i a b := by
  induction l generalizing R with
  | nil => exact ⟨[], rfl, fun i a b h => by simp at h⟩
  | cons x l ih =>
    obtain ⟨y, hy⟩ := h 0 x rfl
    obtain ⟨m, h1, h2⟩ := ih (R := fun i => R (i + 1)) (fun i a ha => h (i + 1) a (by simpa using ha))
    refine ⟨y :: m, by simp [h1], fun i a b ha hb => ?_⟩
    cases i with
    | zero => simp at ha hb; subst ha; subst hb; exact hy
    | succ i => exact h2 i a b (by simpa using ha) (by simpa using hb)
theorem fz_rv (ok : CodOk C) (r : RH C A ι S H) {o c : Nat} {xs : List (Θ c)} {p : Option Nat} (ho : ι[o]? = some p) (hS : S[o]? = some (.arr c xs)) {x : SV Θ} {a : AV} (h : RV C ι x a) :
    (∀ q ∈ fzC o c xs x, q) -> ∃ b, FzP H p a b ∧ RV C ι (fzV o c xs x) b := by
  have list : ∀ {cs : List (SV Θ)} {as : List AV}, cs.length = as.length -> (∀ (i : Nat) (x : SV Θ) (a : AV), cs[i]? = some x -> as[i]? = some a -> (∀ q ∈ fzC o c xs x, q) -> ∃ b, FzP H p a b ∧ RV C ι (fzV o c xs x) b) -> (∀ q ∈ fzC.fzCL o c xs cs, q) ->
      ∃ bs : List AV, bs.length = as.length ∧ (∀ (i : Nat) (a b : AV), as[i]? = some a -> bs[i]? = some b -> FzP H p a b) ∧ RVs C ι (fzV.fzL o c xs cs) bs := by
    intro cs as hl hh hq
    obtain ⟨bs, h1, h2⟩ := list_choose (l := as) (R := fun i a b => FzP H p a b ∧ ∀ x, cs[i]? = some x -> RV C ι (fzV o c xs x) b) (fun i a ha => by
      have hi : i < cs.length := by have := getElem?_lt ha; omega
      obtain ⟨b, k1, k2⟩ := hh i cs[i] a (by simp [hi]) ha (fun q hq' => hq q (fzCL_mem (i := i) (by simp [hi]) q hq'))
      exact ⟨b, k1, fun x hx => by simp [hi] at hx; subst hx; exact k2⟩)
    refine ⟨bs, h1, fun i a b ha hb => (h2 i a b ha hb).1, by simp [fzL_map, hl, h1], fun i y b hy hb => ?_⟩
    rw [fzL_map, List.getElem?_map, Option.map_eq_some_iff] at hy
    obtain ⟨x, hx, rfl⟩ := hy
    have hi : i < as.length := by have := getElem?_lt hb; omega
    exact (h2 i as[i] b (by simp [hi]) hb).2 x hx
  induction h with
  | self0 => intro _; exact ⟨_, .same _, .self0⟩
  | self1 ho1 => intro _; exact ⟨_, .same _, .self1 ho1⟩
  | sd0 ho1 => intro _; exact ⟨_, .same _, .sd0 ho1⟩
  | sd1 ho1 => intro _; exact ⟨_, .same _, .sd1 ho1⟩
  | bl0 ho1 => intro _; exact ⟨_, .same _, .bl0 ho1⟩
  | bl1 ho1 hk1 => intro _; exact ⟨_, .same _, .bl1 ho1 hk1⟩
  | agg hl _ ih =>
    intro hq
    obtain ⟨bs, h1, h2, h3⟩ := list hl ih hq
    exact ⟨_, .agg h1 h2, .agg h3.1 h3.2⟩
  | tup hl _ ih =>
    intro hq
    obtain ⟨bs, h1, h2, h3⟩ := list hl ih hq
    exact ⟨_, .tup h1 h2, .tup h3.1 h3.2⟩
  | fn hl _ ih =>
    intro hq
    obtain ⟨bs, h1, h2, h3⟩ := list hl ih hq
    exact ⟨_, .fn h1 h2, .fn h3.1 h3.2⟩
  | ifc _ ih =>
    intro hq
    obtain ⟨b, h1, h2⟩ := ih hq
    exact ⟨_, .ifc h1, .ifc h2⟩
  | @sl c' o' off len cap acap q ho' hk hc =>
    intro hq
    simp only [fzV, fzC] at hq ⊢
    split
    · rename_i e1 e2
      have e1 := nbeq_true e1
      have e2 := nbeq_true e2
      subst e1; subst e2
      simp only [Nat.beq_refl, List.mem_singleton, forall_eq] at hq
      rw [ho'] at ho
      cases ho
      rcases r.obj o' q _ ho' hS with h | ⟨y, hy, hr⟩
      · cases h
      · cases hr with
        | arr _ _ ext =>
          refine ⟨_, .sl (cs := C.flat c' xs ++ ext) (xs := ((xs.drop off).take len).map (C.avE c')) rfl hy (by simp; omega) ?_ ?_ ?_, .lst _ _⟩
          · have hmul : off * C.sz c' + len * C.sz c' = (off + len) * C.sz c' := (Nat.add_mul _ _ _).symm
            have hle : (off + len) * C.sz c' <= xs.length * C.sz c' := Nat.mul_le_mul_right _ hq
            simp [flat_length ok]; omega
          · intro i z hz
            rw [List.getElem?_map, Option.map_eq_some_iff] at hz
            obtain ⟨y, _, rfl⟩ := hz
            rw [avE_cells ok, ok.len]
          · intro i z j b hz hb
            rw [List.getElem?_map, Option.map_eq_some_iff] at hz
            obtain ⟨y, hy', rfl⟩ := hz
            rw [avE_cells ok] at hb
            have hi := getElem?_lt hy'
            simp at hi
            rw [List.getElem?_take_of_lt (by omega), List.getElem?_drop] at hy'
            obtain ⟨as, bs, e1, e2, _⟩ := flat_split ok hy' ext
            rw [e1]
            have hj := getElem?_lt hb
            have : off * C.sz c' + (i * C.sz c' + j) = as.length + j := by rw [e2, Nat.add_mul]; omega
            rw [this, List.getElem?_append_right (by omega), Nat.add_sub_cancel_left, List.getElem?_append_left hj]
            exact hb
    · exact ⟨_, .same _, .sl ho' hk hc⟩
  | @slNil c' o' cap a ho' hc ha =>
    intro hq
    simp only [fzV, fzC] at hq ⊢
    split
    · have := RV.lst (C := C) (ι := ι) c ([] : List (Θ c))
      rename_i e1 e2
      have e2 := nbeq_true e2
      subst e2
      refine ⟨.lst (C.sz c') [], ?_, ?_⟩
      · rcases ha with rfl | rfl
        · exact .nil0
        · exact .z0
      · simpa using this
    · exact ⟨_, .same _, .slNil ho' hc ha⟩
  | any a => intro _; exact ⟨a, .same _, .any _⟩
  | i k x => intro _; exact ⟨_, .same _, .i _ _⟩
  | b x => intro _; exact ⟨_, .same _, .b _⟩
  | kb x => intro _; exact ⟨_, .same _, .kb _⟩
  | s l => intro _; exact ⟨_, .same _, .s _⟩
  | v x => intro _; exact ⟨_, .same _, .v _⟩
  | lst c xs => intro _; exact ⟨_, .same _, .lst _ _⟩
  | rp h _ => intro _; exact ⟨_, .same _, .rp h⟩
  | z0 => intro _; exact ⟨_, .same _, .z0⟩
  | ptr ho => intro _; exact ⟨_, .same _, .ptr ho⟩
  | eptr ho => intro _; exact ⟨_, .same _, .eptr ho⟩
  | mp ho => intro _; exact ⟨_, .same _, .mp ho⟩
end
def fzEnv (o c : Nat) (xs : List (Θ c)) : SEnv Θ -> SEnv Θ
  | [] => []
  | (t, x) :: r => (t, fzV o c xs x) :: fzEnv o c xs r
def fzEnvC (o c : Nat) (xs : List (Θ c)) : SEnv Θ -> List Prop
  | [] => []
  | (t, x) :: r => match fzC o c xs x with
    | [] => fzEnvC o c xs r
    | p :: ps => (p :: ps) ++ fzEnvC o c xs r
def fzO (o c : Nat) (xs : List (Θ c)) : SO Θ -> SO Θ
  | .box cs => .box (fzV.fzL o c xs cs)
  | .hole c' ys j cs => .hole c' ys j (fzV.fzL o c xs cs)
  | x => x
def fzHeap (o c : Nat) (xs : List (Θ c)) : SHeap Θ -> SHeap Θ
  | [] => []
  | x :: r => fzO o c xs x :: fzHeap o c xs r
def fzHeapC (o c : Nat) (xs : List (Θ c)) : SHeap Θ -> List Prop
  | [] => []
  | .box cs :: r => match fzC.fzCL o c xs cs with
    | [] => fzHeapC o c xs r
    | p :: ps => (p :: ps) ++ fzHeapC o c xs r
  | .hole _ _ _ cs :: r => match fzC.fzCL o c xs cs with
    | [] => fzHeapC o c xs r
    | p :: ps => (p :: ps) ++ fzHeapC o c xs r
  | _ :: r => fzHeapC o c xs r
def freeze (o : Nat) (ρ : SEnv Θ) (S : SHeap Θ) : Cm (SEnv Θ × SHeap Θ) :=
  match sNth S o with
  | some (.arr c xs) => .chk (allP (fzEnvC o c xs ρ ++ fzHeapC o c xs S)) (.ret (fzEnv o c xs ρ, (fzHeap o c xs S).set o .dead))
  | _ => .ret (ρ, S)
section
variable {C : Cod Θ} {ι : Emb} {A : Base} {S : SHeap Θ} {H : Heap}
theorem fzEnv_get {o c : Nat} {xs : List (Θ c)} : ∀ {ρ : SEnv Θ} (t : Nat), (fzEnv o c xs ρ).get t = fzV o c xs (ρ.get t) := by
  intro ρ
  induction ρ with
  | nil => intro t; rfl
  | cons p ρ ih =>
    intro t
    obtain ⟨k, x⟩ := p
    simp only [fzEnv, SEnv.get]
    split
    · rfl
    · exact ih t
theorem fzEnvC_mem {o c : Nat} {xs : List (Θ c)} : ∀ {ρ : SEnv Θ} (t : Nat), ∀ p ∈ fzC o c xs (ρ.get t), p ∈ fzEnvC o c xs ρ := by
  intro ρ
  induction ρ with
  | nil => intro t p hp; simp [SEnv.get, fzC] at hp
  | cons q ρ ih =>
    intro t p hp
    obtain ⟨k, x⟩ := q
    simp only [fzEnvC]
    simp only [SEnv.get] at hp
    split at hp
    · split
      · rename_i h0; rw [h0] at hp; simp at hp
      · rename_i h0; rw [h0] at hp; exact List.mem_append_left _ hp
    · split
      · exact ih t p hp
      · exact List.mem_append_right _ (ih t p hp)
theorem fzHeap_get {o c : Nat} {xs : List (Θ c)} : ∀ {S : SHeap Θ} (i : Nat), (fzHeap o c xs S)[i]? = (S[i]?).map (fzO o c xs) := by
  intro S
  induction S with
  | nil => intro i; simp [fzHeap]
  | cons x S ih => intro i; cases i with
    | zero => simp [fzHeap]
    | succ i => simpa [fzHeap] using ih i
theorem fzHeapC_mem {o c : Nat} {xs : List (Θ c)} : ∀ {S : SHeap Θ} {i : Nat} {cs : List (SV Θ)}, (S[i]? = some (.box cs) ∨ ∃ c' ys j, S[i]? = some (.hole c' ys j cs)) -> ∀ p ∈ fzC.fzCL o c xs cs, p ∈ fzHeapC o c xs S := by
  intro S
  induction S with
  | nil => intro i cs h; simp at h
  | cons x S ih =>
    intro i cs h p hp
    cases i with
    | zero =>
      rcases h with h | ⟨c', ys, j, h⟩
      · simp at h; subst h
        simp only [fzHeapC]
        split
        · rename_i h0; rw [h0] at hp; simp at hp
        · rename_i h0; rw [h0] at hp; exact List.mem_append_left _ hp
      · simp at h; subst h
        simp only [fzHeapC]
        split
        · rename_i h0; rw [h0] at hp; simp at hp
        · rename_i h0; rw [h0] at hp; exact List.mem_append_left _ hp
    | succ i =>
      have := ih (i := i) (by simpa using h) p hp
      cases x with
      | box ds =>
        simp only [fzHeapC]
        split
        · exact this
        · exact List.mem_append_right _ this
      | hole c' ys j ds =>
        simp only [fzHeapC]
        split
        · exact this
        · exact List.mem_append_right _ this
      | _ => exact this
theorem fzHeap_length {o c : Nat} {xs : List (Θ c)} : ∀ {S : SHeap Θ}, (fzHeap o c xs S).length = S.length := by
  intro S; induction S with
  | nil => rfl
  | cons x S ih => simp [fzHeap, ih]
theorem letGo_length (H : Heap) (p : Option Nat) : (letGo H p).length = H.length := by cases p <;> simp [letGo]
theorem freeze_sound (ok : CodOk C) {N : Nat} {o : Nat} {ρ : SEnv Θ} {e : Env} (r : RH C A ι S H) (he : RE C ι ρ e) {K : SEnv Θ × SHeap Θ -> Prop} (h : (freeze o ρ S).den K) :
    ∃ ρ' S' e' H', NormS N ⟨e, H⟩ ⟨e', H'⟩ ∧ RH C A ι S' H' ∧ RE C ι ρ' e' ∧ (∀ t b, ρ.get t = .kb b -> ρ'.get t = .kb b) ∧ K (ρ', S') := by
  unfold freeze at h
  split at h
  · rename_i c xs hS
    rw [nth_get] at hS
    obtain ⟨hq, hK⟩ := h
    have hall := allP_mem hq
    have holt := getElem?_lt hS
    obtain ⟨p, hp⟩ : ∃ p, ι[o]? = some p := ⟨ι[o]'(by rw [r.len]; exact holt), by simp [r.len, holt]⟩
    have envc : ∀ t, ∃ b, FzP H p (e t) b ∧ RV C ι (fzV o c xs (ρ.get t)) b := fun t => fz_rv ok r hp hS (he t) fun q hq' => hall q (List.mem_append_left _ (fzEnvC_mem t q hq'))
    let e' : Env := fun t => (envc t).choose
    have he' : ∀ t, FzP H p (e t) (e' t) ∧ RV C ι (fzV o c xs (ρ.get t)) (e' t) := fun t => (envc t).choose_spec
    -- the other objects
    have hobj : ∀ (q : Nat) (y : AObj), (letGo H p)[q]? = some y -> ∃ z, FzObj H p y z ∧ ((∀ o', ι[o']? = some (some q) -> (S[o']? = some .dead ∨ o' = o)) -> z = y) ∧ ∀ (o' : Nat) (x : SO Θ), o' ≠ o -> ι[o']? = some (some q) -> S[o']? = some x -> x ≠ .dead -> RObj C ι (fzO o c xs x) z := by
      intro q y hy
      by_cases hex : ∃ o' x, o' ≠ o ∧ ι[o']? = some (some q) ∧ S[o']? = some x ∧ x ≠ .dead
      · obtain ⟨o', x, hne, h1, h2, h3⟩ := hex
        have uniq : ∀ (o₂ : Nat) (x₂ : SO Θ), o₂ ≠ o -> ι[o₂]? = some (some q) -> S[o₂]? = some x₂ -> x₂ ≠ .dead -> o₂ = o' := by
          intro o₂ x₂ k0 k1 k2 k3
          rcases r.inj o₂ o' q k1 h1 with h | h | h
          · exact h
          · rw [k2] at h; exact absurd (Option.some.inj h) k3
          · rw [h2] at h; exact absurd (Option.some.inj h) h3
        rcases r.obj o' q x h1 h2 with h | ⟨y', hy', hr⟩
        · exact absurd h h3
        · have hpq : p ≠ some q := by
            intro e1
            rw [e1] at hp
            rcases r.inj o o' q hp h1 with h | h | h
            · exact hne h.symm
            · rw [hS] at h; cases h
            · rw [h2] at h; exact absurd (Option.some.inj h) h3
          have hyy : y = y' := by
            cases p with
            | none => simp [letGo] at hy; rw [hy] at hy'; exact Option.some.inj hy'
            | some p =>
              simp only [letGo] at hy
              rw [List.getElem?_set_ne (fun e => hpq (by rw [e])), hy'] at hy
              exact (Option.some.inj hy).symm
          subst hyy
          cases hr with
          | @box cs as hb =>
            obtain ⟨b, hb1, hb2⟩ := fz_rv ok r hp hS (x := .agg cs) (a := .agg as) (.agg hb.1 hb.2) (fun q' hq' => hall q' (List.mem_append_right _ (fzHeapC_mem (.inl h2) q' hq')))
            simp only [fzV] at hb2
            generalize hcs : fzV.fzL o c xs cs = cs' at hb2
            obtain ⟨bs, rfl⟩ : ∃ bs, b = .agg bs := by cases hb2; exact ⟨_, rfl⟩
            have hb2' : RVs C ι cs' bs := by cases hb2 with | agg k1 k2 => exact ⟨k1, k2⟩
            have hb1' : bs.length = as.length ∧ ∀ (i : Nat) (a b : AV), as[i]? = some a -> bs[i]? = some b -> FzP H p a b := by
              cases hb1 with
              | same => exact ⟨rfl, fun i a b k1 k2 => by rw [k1] at k2; cases k2; exact .same a⟩
              | agg k1 k2 => exact ⟨k1, k2⟩
            refine ⟨.cells bs, .inr ⟨as, bs, rfl, rfl, hb1'.1, hb1'.2⟩, fun hall' => ?_, fun o₂ x₂ k0 k1 k2 k3 => ?_⟩
            · rcases hall' o' h1 with h | h
              · rw [h2] at h; exact absurd (Option.some.inj h) h3
              · exact absurd h hne
            · have := uniq o₂ x₂ k0 k1 k2 k3
              subst this
              rw [h2] at k2; cases k2
              simp only [fzO, hcs]
              exact .box hb2'
          | arr c' ys ext =>
            refine ⟨_, .inl rfl, fun _ => rfl, fun o₂ x₂ k0 k1 k2 k3 => ?_⟩
            have := uniq o₂ x₂ k0 k1 k2 k3
            subst this
            rw [h2] at k2; cases k2
            exact .arr c' ys ext
          | map c' d' es =>
            refine ⟨_, .inl rfl, fun _ => rfl, fun o₂ x₂ k0 k1 k2 k3 => ?_⟩
            have := uniq o₂ x₂ k0 k1 k2 k3
            subst this
            rw [h2] at k2; cases k2
            exact .map c' d' es
          | @raw c' ys as hx ext hn =>
            refine ⟨_, .inl rfl, fun _ => rfl, fun o₂ x₂ k0 k1 k2 k3 => ?_⟩
            have := uniq o₂ x₂ k0 k1 k2 k3
            subst this
            rw [h2] at k2; cases k2
            exact .raw hx ext hn
          | @hole c' ys j cs ins hj hb hl ext =>
            obtain ⟨b, hb1, hb2⟩ := fz_rv ok r hp hS (x := .agg cs) (a := .agg ins) (.agg hb.1 hb.2) (fun q' hq' => hall q' (List.mem_append_right _ (fzHeapC_mem (.inr ⟨_, _, _, h2⟩) q' hq')))
            simp only [fzV] at hb2
            generalize hcs : fzV.fzL o c xs cs = cs' at hb2
            obtain ⟨bs, rfl⟩ : ∃ bs, b = .agg bs := by cases hb2; exact ⟨_, rfl⟩
            have hb2' : RVs C ι cs' bs := by cases hb2 with | agg k1 k2 => exact ⟨k1, k2⟩
            have hb1' : bs.length = ins.length ∧ ∀ (i : Nat) (a b : AV), ins[i]? = some a -> bs[i]? = some b -> FzP H p a b := by
              cases hb1 with
              | same => exact ⟨rfl, fun i a b k1 k2 => by rw [k1] at k2; cases k2; exact .same a⟩
              | agg k1 k2 => exact ⟨k1, k2⟩
            have hl' : cs'.length = C.sz c' := by rw [hb2'.1, hb1'.1, <- hb.1, hl]
            refine ⟨.cells (C.flat c' (ys.take j) ++ (bs ++ (C.flat c' (ys.drop (j + 1)) ++ ext))), .inr ⟨_, _, rfl, rfl, by simp [hb1'.1], fun k a b ha hb => ?_⟩, fun hall' => ?_, fun o₂ x₂ k0 k1 k2 k3 => ?_⟩
            · rcases Nat.lt_or_ge k (C.flat c' (ys.take j)).length with hk | hk
              · rw [List.getElem?_append_left hk] at ha hb
                rw [ha] at hb; cases hb; exact .same _
              · rw [List.getElem?_append_right hk] at ha hb
                rcases Nat.lt_or_ge (k - (C.flat c' (ys.take j)).length) ins.length with hk' | hk'
                · rw [List.getElem?_append_left hk'] at ha
                  rw [List.getElem?_append_left (by omega)] at hb
                  exact hb1'.2 _ a b ha hb
                · rw [List.getElem?_append_right hk'] at ha
                  rw [List.getElem?_append_right (by omega), hb1'.1] at hb
                  rw [ha] at hb; cases hb; exact .same _
            · rcases hall' o' h1 with h | h
              · rw [h2] at h; exact absurd (Option.some.inj h) h3
              · exact absurd h hne
            · have := uniq o₂ x₂ k0 k1 k2 k3
              subst this
              rw [h2] at k2; cases k2
              simp only [fzO, hcs]
              exact .hole hj hb2' hl' ext
      · exact ⟨y, .inl rfl, fun _ => rfl, fun o' x k0 k1 k2 k3 => absurd ⟨o', x, k0, k1, k2, k3⟩ hex⟩
    obtain ⟨H', hl', hH'⟩ := list_choose hobj
    rw [letGo_length] at hl'
    have hH2 : ∀ (q : Nat) (z : AObj), H'[q]? = some z -> ∃ y, (letGo H p)[q]? = some y ∧ FzObj H p y z := by
      intro q z hz
      have hq : q < (letGo H p).length := by rw [letGo_length]; have := getElem?_lt hz; omega
      exact ⟨(letGo H p)[q], by simp [hq], (hH' q _ z (by simp [hq]) hz).1⟩
    refine ⟨_, _, e', H', NormS.freeze hl' hH2 fun t => (he' t).1, ?_, fun t => ?_, fun t b h => by rw [fzEnv_get, h]; rfl, hK⟩
    · have hSl : ((fzHeap o c xs S).set o .dead).length = S.length := by simp [fzHeap_length]
      have getS : ∀ {o' : Nat} {x : SO Θ}, ((fzHeap o c xs S).set o .dead)[o']? = some x -> (o' = o ∧ x = .dead) ∨ (o' ≠ o ∧ ∃ x0, S[o']? = some x0 ∧ x = fzO o c xs x0) := by
        intro o' x hx
        by_cases e1 : o' = o
        · subst e1
          rw [List.getElem?_set_self (by rw [fzHeap_length]; exact holt)] at hx
          exact .inl ⟨rfl, (Option.some.inj hx).symm⟩
        · rw [List.getElem?_set_ne (Ne.symm e1), fzHeap_get, Option.map_eq_some_iff] at hx
          obtain ⟨x0, h1, h2⟩ := hx
          exact .inr ⟨e1, x0, h1, h2.symm⟩
      have deadS : ∀ {o' : Nat}, S[o']? = some SO.dead -> ((fzHeap o c xs S).set o .dead)[o']? = some SO.dead := by
        intro o' hd
        by_cases e1 : o' = o
        · subst e1; rw [List.getElem?_set_self (by rw [fzHeap_length]; exact holt)]
        · rw [List.getElem?_set_ne (Ne.symm e1), fzHeap_get, hd]; rfl
      refine ⟨by rw [r.len, hSl], fun o' q h1 => by have := r.lt o' q h1; omega, fun o1 o2 q h1 h2 => ?_, fun o' q x h1 h2 => ?_, fun o' x h1 h2 => ?_, fun j q t hj => ?_, r.own, by have := r.big; omega, fun q hq1 hm => ?_, r.rts⟩
      · rcases r.inj o1 o2 q h1 h2 with h | h | h
        · exact .inl h
        · exact .inr (.inl (deadS h))
        · exact .inr (.inr (deadS h))
      · rcases getS h2 with ⟨_, rfl⟩ | ⟨hne, x0, k1, rfl⟩
        · exact .inl rfl
        · by_cases hd : x0 = .dead
          · subst hd; exact .inl rfl
          · have hq : q < (letGo H p).length := by rw [letGo_length]; exact r.lt o' q h1
            have hq' : q < H'.length := by rw [hl']; exact r.lt o' q h1
            exact .inr ⟨H'[q], by simp [hq'], (hH' q (letGo H p)[q] H'[q] (by simp [hq]) (by simp [hq'])).2.2 o' x0 hne h1 k1 hd⟩
      · rcases getS h2 with ⟨_, rfl⟩ | ⟨hne, x0, k1, rfl⟩
        · exact .inl rfl
        · rcases r.nil o' x0 h1 k1 with rfl | ⟨c', rfl⟩ | ⟨q, t, rfl⟩
          · exact .inl rfl
          · exact .inr (.inl ⟨c', rfl⟩)
          · exact .inr (.inr ⟨q, t, rfl⟩)
      · rcases getS hj with ⟨_, h⟩ | ⟨hne, x0, k1, h⟩
        · cases h
        · have hx0 : x0 = .tag q t := by
            cases x0 <;> simp only [fzO] at h <;> first | exact h.symm | cases h
          subst hx0
          obtain ⟨k0, k⟩ := r.tg j q t k1
          refine ⟨by rw [hSl]; exact k0, fun p' hp' => ?_⟩
          obtain ⟨k2, k3⟩ := k p' hp'
          refine ⟨?_, fun c' ys hy => ?_⟩
          · obtain ⟨i, hi⟩ := tagged_get' k2
            have hi2 : (letGo H p)[i]? = some (.tag p' t) := by
              cases p with
              | none => exact hi
              | some p0 =>
                have hne' : p0 ≠ i := by
                  intro e1; subst e1
                  rcases r.obj o p0 _ hp hS with h5 | ⟨y5, h5, h6⟩
                  · cases h5
                  · rw [hi] at h5
                    exact h6.nt _ _ (Option.some.inj h5).symm
                simp only [letGo]
                rw [List.getElem?_set_ne hne']; exact hi
            have hil : i < H'.length := by rw [hl']; exact getElem?_lt hi
            have := (hH' i _ H'[i] hi2 (by simp [hil])).1
            rcases this with h7 | ⟨cs7, _, h7, _⟩
            · exact tagged_of (i := i) (by rw [show H'[i]? = some H'[i] by simp [hil], <- h7])
            · cases h7
          · rcases getS hy with ⟨_, h⟩ | ⟨_, y0, q1, h⟩
            · cases h
            · have hy0 : y0 = .arr c' ys := by
                cases y0 <;> simp only [fzO] at h <;> first | exact h.symm | cases h
              subst hy0
              exact k3 c' ys q1
      · have hno : ∀ o', ι[o']? = some (some q) -> False := fun o' h1 => by
          rcases r.own o' q h1 with h | h
          · omega
          · exact hm h
        have hqH : q < H.length := by have := r.big; omega
        have hq' : q < H'.length := by omega
        have hq2 : q < (letGo H p).length := by rw [letGo_length]; exact hqH
        have := (hH' q (letGo H p)[q] H'[q] (by simp [hq2]) (by simp [hq'])).2.1 (fun o' h1 => (hno o' h1).elim)
        rw [show H'[q]? = some H'[q] by simp [hq'], this]
        have : (letGo H p)[q] = H[q] := by
          cases p with
          | none => rfl
          | some p =>
            have hpq : p ≠ q := fun e1 => hno o (by rw [hp, e1])
            simp only [letGo]
            rw [List.getElem_set_ne hpq]
        rw [this]
        have := r.base q hq1 hm
        rw [<- this]; simp [hqH]
    · rw [fzEnv_get]; exact (he' t).2
  · exact ⟨ρ, S, e, H, .refl _ _, r, he, fun _ _ h => h, h⟩
end
end Go.Ab

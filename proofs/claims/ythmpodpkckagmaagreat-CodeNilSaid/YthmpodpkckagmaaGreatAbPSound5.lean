/- A part of the proof of CodeNil: AbPSound5. -/
import Derived.Test.YthmpodpkckagmaaGreatAbPSound4
set_option linter.constructorNameAsVariable false
namespace Go.Ab
open Go Go.RowKit
set_option linter.unusedVariables false
set_option linter.unusedSimpArgs false

section
variable {P : Program} {β : Nat → Em} {n : Nat} {R : Nat → Nat → Value → Prop}

theorem mapM_get {α γ : Type} {f : α → Option γ} : ∀ {xs : List α} {ys : List γ}, xs.mapM f = some ys → ys.length = xs.length ∧ ∀ (i : Nat) (x : α) (y : γ), xs[i]? = some x → ys[i]? = some y → f x = some y := by
  intro xs
  induction xs with
  | nil => intro ys h; simp at h; subst h; simp
  | cons x xs ih =>
    intro ys h
    rw [List.mapM_cons] at h
    simp only [bind, Option.bind_eq_some_iff, pure, Option.some.injEq] at h
    obtain ⟨y, hy, ys', hys, rfl⟩ := h
    obtain ⟨hl, hg⟩ := ih hys
    refine ⟨by simp [hl], fun i a b ha hb => ?_⟩
    cases i with
    | zero => simp at ha hb; subst ha; subst hb; exact hy
    | succ i => simp at ha hb; exact hg i a b ha hb

theorem mmF_sound (mx : Bool) : ∀ (as : List AV) (a r : AV), mmF mx a as = some r → ∀ (x : Value) (xs : List Value), Rep β n R a x → as.length = xs.length → (∀ (i : Nat) (a : AV) (c : Value), as[i]? = some a → xs[i]? = some c → Rep β n R a c) →
    ∀ w, ∃ c, (xs.foldlM (if mx then Builtin.max2 else Builtin.min2) x).run P w = .ok c w ∧ Rep β n R r c := by
  intro as
  induction as with
  | nil =>
    intro a r h x xs hx hl _ w
    cases xs with
    | nil => simp [mmF] at h; subst h; exact ⟨x, rfl, hx⟩
    | cons _ _ => simp at hl
  | cons b as ih =>
    intro a r h x xs hx hl hr w
    cases xs with
    | nil => simp at hl
    | cons y xs =>
      unfold mmF at h
      split at h
      · simp_all
      · rename_i k p k' q rest heq
        injection heq with e1 e2
        subst e1; subst e2
        have hy := hr 0 _ _ rfl rfl
        have := rep_v hx; have := rep_v hy; subst x; subst y
        split at h
        · rename_i hk
          subst hk
          obtain ⟨c, hc, hrc⟩ := ih _ _ h (.int k (if mx then (if p < q then q else p) else (if q < p then q else p))) xs (.v _) (by simpa using hl) (fun i a c h1 h2 => hr (i + 1) a c (by simpa using h1) (by simpa using h2)) w
          refine ⟨c, ?_, hrc⟩
          rw [List.foldlM_cons, Sem.run_bind]
          have : ((if mx then Builtin.max2 else Builtin.min2) (.int k p) (.int k q)).run P w = .ok (.int k (if mx then (if p < q then q else p) else (if q < p then q else p))) w := by
            cases mx <;> simp [Builtin.max2, Builtin.min2]
          rw [this]; exact hc
        · cases h
      · cases h

theorem repO_map {ρ : Nat → AV} {a : Act} (h : ∀ t, Rep β n R (ρ t) (a.tmps.getD t undef)) (x : Option Operand) : RepO β n R ((x.map trX).map (·.ev ρ)) (x.map a.eval) := by
  cases x with
  | none => trivial
  | some x => exact trX_rep h x

theorem list_rep {ρ : Nat → AV} {a : Act} (h : ∀ t, Rep β n R (ρ t) (a.tmps.getD t undef)) (xs : List Operand) :
    ((xs.map trX).map (·.ev ρ)).length = (xs.map a.eval).length ∧ ∀ (i : Nat) (b : AV) (c : Value), ((xs.map trX).map (·.ev ρ))[i]? = some b → (xs.map a.eval)[i]? = some c → Rep β n R b c := by
  refine ⟨by simp, fun i b c hb hc => ?_⟩
  simp only [List.getElem?_map, Option.map_eq_some_iff] at hb hc
  obtain ⟨y, ⟨x, hx, rfl⟩, rfl⟩ := hb
  obtain ⟨x', hx', rfl⟩ := hc
  rw [hx] at hx'; cases hx'
  exact trX_rep h x

theorem info_und {t : TypeId} {i : TypeInfo} (h : P.info? t = some i) {z : Value} (hz : i.zero = some z) (w : World) : (zeroValue t).run P w = .ok z w := by
  simp [zeroValue, typeInfo, h, hz]

theorem places_run : ∀ (l : List Field), (∀ f ∈ l, ∃ l', layOf P f.type = some l') → ∀ w, (l.mapM fun f => Prod.mk f.offset <$> sizeOf f.type : Sem (List (Nat × Nat))).run P w = .ok (l.map fun f => (f.offset, (layOf P f.type).elim 0 laySize)) w := by
  intro l
  induction l with
  | nil => intro _ w; rfl
  | cons f l ih =>
    intro hl w
    obtain ⟨l', hl'⟩ := hl f (by simp)
    rw [List.mapM_cons]
    have hS := layOf_size hl' w
    have h2 := ih (fun g hg => hl g (by simp [hg])) w
    simp only [Sem.run_bind, Sem.run_map, hS, Result.andThen_ok, h2, Sem.run_pure, List.map_cons, hl', Option.elim_some]

/-- One operation that hangs on its operands alone. -/
theorem pure_sound {o : Oper} {p : POp} (htr : trP P o = some p) {ρ : Nat → AV} {a : Act} (hρ : ∀ t, Rep β n R (ρ t) (a.tmps.getD t undef)) {r : AV} (hp : p.run ρ = some r) (w : World) :
    ∃ c, (execOp a.eval o).run P w = .ok (.value c) w ∧ Rep β n R r c := by
  obtain ⟨dst, op, type, pos, after, guard⟩ := o
  have fin : ∀ {s : Sem Value} {c : Value}, s.run P w = .ok c w → (do pure (Next.value (← s)) : Sem Next).run P w = .ok (.value c) w := by
    intro s c h; simp [h]
  unfold trP at htr
  simp only at htr
  split at htr
  -- move
  · cases htr; simp only [POp.run, Option.some.injEq] at hp; subst hp; exact ⟨_, by simp [execOp], trX_rep hρ _⟩
  · cases htr; simp only [POp.run, Option.some.injEq] at hp; subst hp; exact ⟨_, by simp [execOp], trX_rep hρ _⟩
  -- pick
  · rename_i c x y
    cases htr
    simp only [POp.run] at hp
    split at hp
    · rename_i b hb
      cases hp
      have hc := trX_rep hρ c
      rw [hb] at hc
      have := rep_v hc
      cases b
      · exact ⟨_, by simp [execOp, this, asBool], trX_rep hρ y⟩
      · exact ⟨_, by simp [execOp, this, asBool], trX_rep hρ x⟩
    · cases hp
  -- build
  · rename_i t parts
    split at htr
    · rename_i z ps hz hps
      split at htr
      · rename_i hlaid
        cases htr
        simp only [POp.run, Option.map_eq_some_iff] at hp
        obtain ⟨cs, hcs, rfl⟩ := hp
        rw [Option.bind_eq_some_iff] at hz
        obtain ⟨i, hi, hz⟩ := hz
        have hzv := info_und hi hz w
        unfold placesOf at hps
        split at hps
        · rename_i fs hu
          obtain ⟨hlen, hget⟩ := mapM_get hps
          have hfl : ∀ f ∈ fs.toList, ∃ l, layOf P f.type = some l := by
            simp only [fieldsLaid, hu, List.all_eq_true] at hlaid
            intro f hf
            exact Option.isSome_iff_exists.1 (hlaid f hf)
          have hplaces : (fs.mapM fun f => Prod.mk f.offset <$> sizeOf f.type : Sem (Array (Nat × Nat))).run P w = .ok (fs.map fun f => (f.offset, (layOf P f.type).elim 0 laySize)) w := by
            rw [Array.mapM_eq_mapM_toList]
            have h2 := places_run fs.toList hfl w
            simp only [Sem.run_map, h2, Result.andThen_ok]
            congr 1
            apply Array.ext'
            simp
          obtain ⟨ys, hys, hw⟩ := fill_sound (β := β) (n := n) (R := R) (place := ((fs.map fun f => (f.offset, (layOf P f.type).elim 0 laySize))[·]?)) (parts.toList.map fun (i, x) => (i, a.eval x)) (ps.map fun (o, s, x) => (o, s, x.ev ρ)) _ z.cells cs
            (by simp [hlen]) (fun j p q hp hq => by
              simp only [List.getElem?_map, Option.map_eq_some_iff] at hp hq
              obtain ⟨⟨i0, x0⟩, hx0, rfl⟩ := hp
              obtain ⟨⟨o1, s1, x1⟩, hx1, rfl⟩ := hq
              have := hget j _ _ hx0 hx1
              simp only at this
              split at this
              · rename_i f hf
                split at this
                · rename_i l hl
                  cases this
                  exact ⟨by simp [hf, hl], trX_rep hρ x0⟩
                · cases this
              · cases this) (whole_v z.cells) hcs
          refine ⟨.agg ys, ?_, .agg hw.1 hw.2⟩
          refine fin ?_
          have hpl : (Array.map (fun x => (x.fst, a.eval x.snd)) parts).toList = parts.toList.map fun (i, x) => (i, a.eval x) := by simp
          have hys' : Instr.fill (fun x => Option.map (fun f : Field => (f.offset, (layOf P f.type).elim 0 laySize)) fs[x]?) z.cells (List.map (fun x => (x.fst, a.eval x.snd)) parts.toList) = some ys := by
            rw [← hys]; congr 1; funext x; simp
          simp [Instr.build, hzv, run_und hu, hplaces, hpl, hys']
        · rename_i m e hu
          split at hps
          · rename_i l hl
            cases hps
            have hS := layOf_size hl w
            obtain ⟨ys, hys, hw⟩ := fill_sound (β := β) (n := n) (R := R) (place := fun i => some (i * laySize l, laySize l)) (parts.toList.map fun (i, x) => (i, a.eval x)) _ _ z.cells cs
              (by simp) (fun j p q hp hq => by
                simp only [List.getElem?_map, Option.map_eq_some_iff] at hp hq
                obtain ⟨⟨i0, x0⟩, hx0, rfl⟩ := hp
                obtain ⟨⟨o1, s1, x1⟩, ⟨⟨i2, x2⟩, hx1, he⟩, rfl⟩ := hq
                rw [hx0] at hx1; cases hx1; cases he
                exact ⟨rfl, trX_rep hρ x0⟩) (whole_v z.cells) hcs
            refine ⟨.agg ys, ?_, .agg hw.1 hw.2⟩
            refine fin ?_
            have hpl : (Array.map (fun x => (x.fst, a.eval x.snd)) parts).toList = parts.toList.map fun (i, x) => (i, a.eval x) := by simp
            simp [Instr.build, hzv, run_und hu, hS, hpl, hys]
          · cases hps
        · cases hps
      · cases htr
    · cases htr
  -- binOp
  · rename_i op t x y t'
    unfold trBin at htr
    split at htr
    · cases htr
      simp only [POp.run] at hp
      obtain ⟨c, hc, hrun⟩ := binF_sound (P := P) hp (trX_rep hρ x) (trX_rep hρ y) t x y w
      exact ⟨c, fin hrun, hc ▸ .v c⟩
    · cases htr
      simp only [POp.run] at hp
      obtain ⟨c, hc, hrun⟩ := binF_sound (P := P) hp (trX_rep hρ x) (trX_rep hρ y) t x y w
      exact ⟨c, fin hrun, hc ▸ .v c⟩
    · rename_i d h1 h2 hu
      have hop : op = .eql ∨ op = .neq := by
        cases op <;> first | exact .inl rfl | exact .inr rfl | (simp at htr; done)
      have nilc : nilOf d y = true → (some (POp.eqn (op == .neq) d (trX x))) = some p → ∃ c, (execOp a.eval { dst, op := .binOp op t x y t', type, pos, after, guard }).run P w = .ok (.value c) w ∧ Rep β n R r c := by
        intro hy hpp
        cases hpp
        simp only [POp.run, Option.map_eq_some_iff] at hp
        obtain ⟨b, hb, rfl⟩ := hp
        exact ⟨_, fin (nilF_sound hb (trX_rep hρ x) hu hy op hop x a w), .v _⟩
      have eqc : (d = .bool ∨ (∃ fs, d = .struct fs) ∨ ∃ m e, d = .array m e) →
          (if P.eqGuardType P.depth t then none else
            match leavesOf P 1000 t, layOf P t with
            | some ks, some l => if laySize l = ks.length then some (POp.eqa (op == .neq) ks l.isSome (trX x) (trX y)) else none
            | _, _ => none) = some p → ∃ c, (execOp a.eval { dst, op := .binOp op t x y t', type, pos, after, guard }).run P w = .ok (.value c) w ∧ Rep β n R r c := by
        intro hdd hpp
        split at hpp
        · cases hpp
        · rename_i hg
          split at hpp
          · rename_i ks l hk hl
            split at hpp
            · rename_i hs
              cases hpp
              simp only [POp.run, Option.map_eq_some_iff] at hp
              obtain ⟨b, hb, rfl⟩ := hp
              exact ⟨_, fin (eqa_sound hk hl hs (by simpa using hg) hu hdd hb (trX_rep hρ x) (trX_rep hρ y) op hop x y w), .v _⟩
            · cases hpp
          · cases hpp
      rcases hop with rfl | rfl
      all_goals
        simp only at htr
        split at htr
        all_goals first
          | (split at htr
             · rename_i hy; exact nilc hy htr
             · cases htr)
          | exact eqc (.inl rfl) htr
          | exact eqc (.inr (.inl ⟨_, rfl⟩)) htr
          | exact eqc (.inr (.inr ⟨_, _, rfl⟩)) htr
          | cases htr
    · cases htr
  -- unOp
  · rename_i op t x
    cases htr
    simp only [POp.run] at hp
    obtain ⟨c, hc, hrun⟩ := unF_sound (P := P) hp (trX_rep hρ x) w
    exact ⟨c, fin hrun, hc ▸ .v c⟩
  -- convert
  · rename_i src dstT x
    split at htr
    · rename_i k0 k hs hu
      cases htr
      simp only [POp.run] at hp
      split at hp
      · rename_i k' m hx
        cases hp
        have hr := trX_rep hρ x
        rw [hx] at hr
        have := rep_v hr
        exact ⟨_, fin (by rw [this]; simp [convert, run_und hs, run_und hu, Conv.intToInt]), .v _⟩
      · cases hp
    · rename_i hs hu
      cases htr
      simp only [POp.run] at hp
      split at hp
      · rename_i s hx
        cases hp
        have hr := trX_rep hρ x
        rw [hx] at hr
        have := rep_v hr
        exact ⟨_, fin (by rw [this]; simp [convert, run_und hs, run_und hu]), .v _⟩
      · cases hp
    · cases htr
  -- fieldAddr
  · rename_i s x f
    split at htr
    · rename_i fs hu
      split at htr
      · rename_i fd hf
        split at htr
        · rename_i l hl
          split at htr
          · cases htr
          · rename_i h0
            cases htr
            simp only [POp.run] at hp
            obtain ⟨b, o, hx, hr⟩ := partAddr_sound hp (trX_rep hρ x)
            have hS := layOf_size hl w
            refine ⟨_, fin (c := .pointer (some ⟨b, o + fd.offset, none⟩)) ?_, hr⟩
            have hadd : Addr.add ⟨b, o, none⟩ fd.offset = ⟨b, o + fd.offset, none⟩ := by
              unfold Addr.add; split
              · rename_i e; rw [e]; rfl
              · rfl
            simp [Instr.fieldAt, run_und hu, hf, hx, Instr.sureAddr, fieldPlace, hS, h0, hadd]
        · cases htr
      · cases htr
    · cases htr
  -- field
  · rename_i t x f
    split at htr
    · rename_i fs hu
      split at htr
      · rename_i fd hf
        split at htr
        · rename_i l hl
          cases htr
          simp only [POp.run] at hp
          split at hp
          · rename_i cs hx
            have hr := trX_rep hρ x
            rw [hx] at hr
            obtain ⟨vs, hv, hlen, hget⟩ : ∃ vs : Array Value, a.eval x = .agg vs ∧ cs.length = vs.size ∧ ∀ (i : Nat) (b : AV) (c : Value), cs[i]? = some b → vs[i]? = some c → Rep β n R b c := by
              generalize a.eval x = v at hr
              cases hr with
              | agg hl h => exact ⟨_, rfl, hl, h⟩
            obtain ⟨c, hc, hrc⟩ := part_sound hl hlen hget hp w
            exact ⟨c, fin (by simp [Instr.field, run_und hu, hf, hv, asAgg, hc]), hrc⟩
          · cases hp
        · cases htr
      · cases htr
    · cases htr
  -- index
  · rename_i t x i
    split at htr
    · rename_i m e hu
      split at htr
      · rename_i l hl
        cases htr
        simp only [POp.run] at hp
        split at hp
        · rename_i cs k q hx hi
          have hr := trX_rep hρ x
          rw [hx] at hr
          have hri := trX_rep hρ i
          rw [hi] at hri
          have hiv := rep_v hri
          obtain ⟨vs, hv, hlen, hget⟩ : ∃ vs : Array Value, a.eval x = .agg vs ∧ cs.length = vs.size ∧ ∀ (i : Nat) (b : AV) (c : Value), cs[i]? = some b → vs[i]? = some c → Rep β n R b c := by
            generalize a.eval x = v at hr
            cases hr with
            | agg hl h => exact ⟨_, rfl, hl, h⟩
          split at hp
          · rename_i hb
            have hS := layOf_size hl w
            obtain ⟨c, hc, hrc⟩ := part_sound hl hlen hget hp w
            exact ⟨c, fin (by simp [Instr.index, hv, hiv, asIntOf, run_und hu, hb, hS, hc]), hrc⟩
          · cases hp
        · cases hp
      · cases htr
    · rename_i hu
      cases htr
      simp only [POp.run] at hp
      split at hp
      · rename_i s k q hx hi
        have hr := trX_rep hρ x
        rw [hx] at hr
        have hv := rep_v hr
        have hri := trX_rep hρ i
        rw [hi] at hri
        have hiv := rep_v hri
        split at hp
        · rename_i hb
          rw [Option.map_eq_some_iff] at hp
          obtain ⟨b, hb', rfl⟩ := hp
          have hsb : s[q.toNat]? = some b := hb'
          exact ⟨_, fin (by simp [Instr.index, hv, hiv, asIntOf, run_und hu, hb, hsb]), .v _⟩
        · cases hp
      · cases hp
    · cases htr
  -- indexAddr
  · rename_i t x i
    split at htr
    · rename_i m e hu
      split at htr
      · rename_i l hl
        cases htr
        simp only [POp.run] at hp
        split at hp
        · rename_i k q hi
          have hri := trX_rep hρ i
          rw [hi] at hri
          have hiv := rep_v hri
          split at hp
          · rename_i hb
            obtain ⟨bl, o, hx, hr⟩ := partAddr_sound hp (trX_rep hρ x)
            have hS := layOf_size hl w
            have hadd : Addr.add ⟨bl, o, none⟩ (q.toNat * laySize l) = ⟨bl, o + q.toNat * laySize l, none⟩ := by
              unfold Addr.add; split
              · rename_i e; rw [e]; rfl
              · rfl
            exact ⟨_, fin (c := .pointer (some ⟨bl, o + q.toNat * laySize l, none⟩)) (by simp [Instr.indexAt, hx, hiv, asIntOf, run_und hu, Instr.sureAddr, hb, hS, hadd]), hr⟩
          · cases hp
        · cases hp
      · cases htr
    · rename_i e hu
      split at htr
      · rename_i l hl
        cases htr
        have hS := layOf_size hl w
        simp only [POp.run] at hp
        have run : ∀ (bl o len cap : Nat) (q : Int) (k : IntKind), a.eval x = .slice (some ⟨bl, o, none⟩) len cap → a.eval i = .int k q → 0 ≤ q → q < (len : Int) →
            (Instr.indexAt t (a.eval x) (a.eval i)).run P w = .ok (.pointer (some ⟨bl, o + q.toNat * laySize l, none⟩)) w := by
          intro bl o len cap q k hx hi h1 h2
          have hadd : Addr.add ⟨bl, o, none⟩ (q.toNat * laySize l) = ⟨bl, o + q.toNat * laySize l, none⟩ := by
            unfold Addr.add; split
            · rename_i e; rw [e]; rfl
            · rfl
          simp [Instr.indexAt, hx, hi, asIntOf, run_und hu, h1, h2, hS, hadd]
        split at hp
        · rename_i s xs k q hx hi
          have hri := trX_rep hρ i
          rw [hi] at hri
          have hiv := rep_v hri
          have hr := trX_rep hρ x
          rw [hx] at hr
          split at hp
          · rename_i hb
            rw [Option.map_eq_some_iff] at hp
            obtain ⟨y, hy, rfl⟩ := hp
            have hlt := getElem?_lt hy
            generalize hv : a.eval x = v at hr
            cases hr with
            | lstNil _ _ _ => simp at hy
            | @lst _ bl o cap _ cv hc hR hs h =>
              have hys := hs _ y hy
              refine ⟨_, fin (run bl o xs.length cap q k hv hiv hb.2 (by omega)), ?_⟩
              have hsz : s = laySize l := hb.1
              rw [← hsz]
              refine .rp (fun j => cv (q.toNat * s + j)) (fun j hj => ?_) (fun j b hj => h _ y j b hy hj)
              rw [Nat.add_assoc]
              refine hR _ ?_
              rw [hys] at hj
              have : (q.toNat + 1) * s ≤ xs.length * s := Nat.mul_le_mul_right _ hlt
              rw [Nat.add_mul] at this; omega
          · cases hp
        · rename_i s o off m cap k q hx hi
          have hri := trX_rep hρ i
          rw [hi] at hri
          have hiv := rep_v hri
          have hr := trX_rep hρ x
          rw [hx] at hr
          split at hp
          · rename_i hb
            cases hp
            generalize hv : a.eval x = v at hr
            cases hr with
            | slZero p _ _ => have := hb.2; omega
            | sl ho hlc hc hn =>
              refine ⟨_, fin (run _ _ _ _ q k hv hiv hb.2.1 hb.2.2), ?_⟩
              have hsz : s = laySize l := hb.1
              rw [← hsz, Nat.add_assoc]
              exact .ptr ho
          · cases hp
        · cases hp
      · cases htr
    · cases htr
  -- slice
  · rename_i t x lo hi mx
    split at htr
    · rename_i hu
      split at htr
      · cases htr
      · rename_i hmx
        cases htr
        have hmx' : mx = none := by cases mx <;> simp_all
        subst hmx'
        simp only [POp.run] at hp
        split at hp
        · rename_i s hx
          have hr := trX_rep hρ x
          rw [hx] at hr
          have hv := rep_v hr
          rw [Option.map_eq_some_iff] at hp
          obtain ⟨⟨l', h', m'⟩, hb, rfl⟩ := hp
          have hbs := boundsF_sound (P := P) hb (repO_map hρ lo) (repO_map hρ hi) (vmx := none) trivial false (Nat.le_refl _) w
          exact ⟨_, fin (c := .string (s.extract l' h')) (by simp [Instr.sliceAt, Instr.slice, hv, run_und hu, hbs.1]), .v _⟩
        · cases hp
    · rename_i e hu
      split at htr
      · rename_i l hl
        cases htr
        simp only [POp.run] at hp
        obtain ⟨c, hc, hrc⟩ := sliceF_sound hp (trX_rep hρ x) (repO_map hρ lo) (repO_map hρ hi) (repO_map hρ mx) hu hl rfl w
        exact ⟨c, fin hc, hrc⟩
      · cases htr
    · cases htr
  -- extract
  · rename_i x i
    cases htr
    simp only [POp.run] at hp
    split at hp
    · rename_i vs hx
      have hr := trX_rep hρ x
      rw [hx] at hr
      generalize hv : a.eval x = v at hr
      cases hr with
      | @tup _ ws hl h =>
        have hlt := getElem?_lt hp
        have hw : ws[i]? = some (ws[i]'(by omega)) := by simp
        exact ⟨_, fin (by simp [Instr.extract, hv, hw]), h _ _ _ hp hw⟩
    · cases hp
  -- makeFunc
  · rename_i f first cap
    split at htr
    · rename_i h0
      cases htr
      simp only [POp.run, Option.some.injEq] at hp
      subst hp
      have h0' : first = #[] := by simpa using h0
      subst h0'
      have hl := list_rep hρ cap.toList
      refine ⟨.func (.func f) #[] (cap.map a.eval), fin (by simp [Instr.makeFunc]), .fn (by simp) fun i b c hb hc => ?_⟩
      refine hl.2 i b c hb ?_
      have := hc
      rw [← Array.getElem?_toList, Array.toList_map] at this
      exact this
    · cases htr
  -- makeInterface
  · rename_i t x
    split at htr
    · cases htr
    · rename_i d h1 hu
      cases htr
      simp only [POp.run, Option.some.injEq] at hp
      subst hp
      refine ⟨.iface t (a.eval x), fin ?_, .ifc (trX_rep hρ x)⟩
      unfold Instr.makeInterface
      simp only [Sem.run_bind, run_und hu, Result.andThen_ok]
      first
        | rfl
        | (split
           · rename_i ms; exact absurd rfl (h1 ms)
           · rfl)
    · cases htr
  -- nilCheck
  · rename_i x
    cases htr
    simp only [POp.run] at hp
    have hr := trX_rep hρ x
    split at hp
    · rename_i o k hx
      cases hp
      rw [hx] at hr
      generalize hv : a.eval x = v at hr
      cases hr with
      | ptr ho => exact ⟨_, by simp [execOp, hv], .ptr ho⟩
    · rename_i y hx
      cases hp
      rw [hx] at hr
      generalize hv : a.eval x = v at hr
      cases hr with
      | rp cv h1 h2 => exact ⟨_, by simp [execOp, hv], .rp cv h1 h2⟩
    · rename_i f cs hx
      cases hp
      rw [hx] at hr
      generalize hv : a.eval x = v at hr
      cases hr with
      | fn hl h => exact ⟨_, by simp [execOp, hv], .fn hl h⟩
    · cases hp
  -- len
  · rename_i args argTypes
    have call : ∀ (ts : Array TypeId) (xs : Array Operand) (b : Builtin) (c : Value), (∀ cs, (Go.builtin b ts type cs (xs.map a.eval)).run P w = .ok (.value c) w) →
        (execOp a.eval { dst, op := .call { callee := .builtin b, args := xs, argTypes := ts }, type, pos, after, guard }).run P w = .ok (.value c) w := by
      intro ts xs b c h
      simp only [execOp, resolve, Sem.run_bind, Sem.run_pure, Result.andThen_ok, invoke]
      exact h _
    split at htr
    · rename_i x t hx ht
      have hargs : args = #[x] := by
        apply Array.ext'; simpa using hx
      subst hargs
      have lc : ∀ m : Nat, (Builtin.len_ argTypes type #[a.eval x]).run P w = .ok (.int .i64 m) w → some (POp.lenC m) = some p → ∃ c, (execOp a.eval { dst, op := .call { callee := .builtin .len, args := #[x], argTypes := argTypes }, type, pos, after, guard }).run P w = .ok (.value c) w ∧ Rep β n R r c := by
        intro m hl hpp
        cases hpp
        simp only [POp.run, Option.some.injEq] at hp
        subst hp
        exact ⟨_, call _ _ _ _ (fun cs => by simp [builtin, hl]), .v _⟩
      split at htr
      · rename_i hu
        cases htr
        simp only [POp.run, Option.map_eq_some_iff] at hp
        obtain ⟨m, hm, rfl⟩ := hp
        obtain ⟨s, hv, rfl⟩ := lenF_str hm (trX_rep hρ x)
        exact ⟨_, call _ _ _ _ (fun cs => by simp [builtin, Builtin.len_, ht, hv, run_und hu, goInt]), .v _⟩
      · rename_i e hu
        cases htr
        simp only [POp.run, Option.map_eq_some_iff] at hp
        obtain ⟨m, hm, rfl⟩ := hp
        obtain ⟨q, c, hv⟩ := lenF_sl hm (trX_rep hρ x)
        exact ⟨_, call _ _ _ _ (fun cs => by simp [builtin, Builtin.len_, ht, hv, run_und hu, goInt]), .v _⟩
      · rename_i m e hu
        exact lc m (by simp [Builtin.len_, ht, run_und hu, goInt]) htr
      · rename_i b hu
        split at htr
        · rename_i m e hu2
          exact lc m (by simp [Builtin.len_, ht, run_und hu, run_und hu2, goInt]) htr
        · cases htr
      · cases htr
    · cases htr
  -- max
  · rename_i args argTypes
    split at htr
    · rename_i x xs hx
      cases htr
      simp only [POp.run] at hp
      have hl := list_rep hρ xs
      obtain ⟨c, hc, hrc⟩ := mmF_sound true _ _ _ hp (a.eval x) (xs.map a.eval) (trX_rep hρ x) hl.1 hl.2 w
      refine ⟨c, ?_, hrc⟩
      have hc' : ((xs.map a.eval).foldlM Builtin.max2 (a.eval x)).run P w = .ok c w := hc
      simp [execOp, resolve, invoke, builtin, Builtin.max_, hx, hc']
    · cases htr
  -- min
  · rename_i args argTypes
    split at htr
    · rename_i x xs hx
      cases htr
      simp only [POp.run] at hp
      have hl := list_rep hρ xs
      obtain ⟨c, hc, hrc⟩ := mmF_sound false _ _ _ hp (a.eval x) (xs.map a.eval) (trX_rep hρ x) hl.1 hl.2 w
      refine ⟨c, ?_, hrc⟩
      have hc' : ((xs.map a.eval).foldlM Builtin.min2 (a.eval x)).run P w = .ok c w := hc
      simp [execOp, resolve, invoke, builtin, Builtin.min_, hx, hc']
    · cases htr
  · cases htr

end
end Go.Ab

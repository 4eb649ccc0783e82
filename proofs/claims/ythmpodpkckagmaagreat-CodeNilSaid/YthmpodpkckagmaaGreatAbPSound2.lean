/- A part of the proof of CodeNil: AbPSound2. -/
import Derived.Test.YthmpodpkckagmaaGreatAbPSound
set_option linter.constructorNameAsVariable false
namespace Go.Ab
open Go Go.RowKit
set_option linter.unusedVariables false
set_option linter.unusedSimpArgs false

section
variable {P : Program} {β : Nat → Em} {n : Nat} {R : Nat → Nat → Value → Prop}

theorem bitsF_sound {op : BinOp} {k : IntKind} {x y r : Int} (h : bitsF op k x y = some r) (w : World) : (Op.intBits op k x y).run P w = .ok (.int k r) w := by
  unfold bitsF at h
  cases op <;> simp at h <;> subst h <;> simp [Op.intBits]

theorem intF_sound {op : BinOp} {k : IntKind} {x y : Int} {r : AV} (hs : isShift op = false) (h : intF op k x y = some r) (t : TypeId) (w : World) :
    ∃ c, r = .v c ∧ (binOp op t (.int k x) (.int k y)).run P w = .ok c w := by
  unfold intF at h
  cases op <;> simp only [isShift, Bool.true_eq_false, Bool.false_eq_true] at hs
  case add => cases h; exact ⟨_, rfl, by simp [binOp, Op.intArith]⟩
  case sub => cases h; exact ⟨_, rfl, by simp [binOp, Op.intArith]⟩
  case mul => cases h; exact ⟨_, rfl, by simp [binOp, Op.intArith]⟩
  case quo =>
    by_cases h0 : y = 0
    · simp [h0] at h
    · simp only [h0, if_false, Option.some.injEq] at h; subst h; exact ⟨_, rfl, by simp [binOp, Op.intDiv, h0]⟩
  case rem =>
    by_cases h0 : y = 0
    · simp [h0] at h
    · simp only [h0, if_false, Option.some.injEq] at h; subst h; exact ⟨_, rfl, by simp [binOp, Op.intDiv, h0]⟩
  case and => simp only [Option.map_eq_some_iff] at h; obtain ⟨r', h1, rfl⟩ := h; exact ⟨_, rfl, by simp [binOp, bitsF_sound h1]⟩
  case or => simp only [Option.map_eq_some_iff] at h; obtain ⟨r', h1, rfl⟩ := h; exact ⟨_, rfl, by simp [binOp, bitsF_sound h1]⟩
  case xor => simp only [Option.map_eq_some_iff] at h; obtain ⟨r', h1, rfl⟩ := h; exact ⟨_, rfl, by simp [binOp, bitsF_sound h1]⟩
  case andNot => simp only [Option.map_eq_some_iff] at h; obtain ⟨r', h1, rfl⟩ := h; exact ⟨_, rfl, by simp [binOp, bitsF_sound h1]⟩
  case eql => cases h; exact ⟨_, rfl, by simp [binOp, Op.intCmp]⟩
  case neq => cases h; exact ⟨_, rfl, by simp [binOp, Op.intCmp]⟩
  case lss => cases h; exact ⟨_, rfl, by simp [binOp, Op.intCmp]⟩
  case leq => cases h; exact ⟨_, rfl, by simp [binOp, Op.intCmp]⟩
  case gtr => cases h; exact ⟨_, rfl, by simp [binOp, Op.intCmp]⟩
  case geq => cases h; exact ⟨_, rfl, by simp [binOp, Op.intCmp]⟩

theorem shiftF_sound {op : BinOp} {k k' : IntKind} {x y : Int} {r : AV} (h : shiftF op k x y = some r) (t : TypeId) (w : World) :
    ∃ c, r = .v c ∧ (binOp op t (.int k x) (.int k' y)).run P w = .ok c w := by
  unfold shiftF at h
  by_cases h0 : y < 0
  · simp [h0] at h
  · simp only [h0, if_false] at h
    cases op <;> simp only [Option.some.injEq, reduceCtorEq] at h
    case shl => subst h; exact ⟨_, rfl, by simp [binOp, Op.shift, h0]⟩
    case shr => subst h; exact ⟨_, rfl, by simp [binOp, Op.shift, h0]⟩

theorem strF_sound {op : BinOp} {x y : ByteArray} {r : AV} (h : strF op x y = some r) (t : TypeId) (w : World) :
    ∃ c, r = .v c ∧ (binOp op t (.string x) (.string y)).run P w = .ok c w := by
  unfold strF at h
  cases op <;> simp only [Option.some.injEq, reduceCtorEq] at h
  case add =>
    split at h
    · rename_i hle
      simp only [Option.some.injEq] at h; subst h
      refine ⟨_, rfl, ?_⟩
      have : ¬ (((x.size + y.size : Nat) : Int) > IntKind.i64.max) := by
        show ¬ (((x.size + y.size : Nat) : Int) > 9223372036854775807)
        omega
      simp only [binOp, Op.stringOp]
      rw [if_neg this]; rfl
    · cases h
  all_goals (subst h; exact ⟨_, rfl, by simp [binOp, Op.stringOp]⟩)

theorem eqGuard_plain {op : BinOp} {t : TypeId} {X Y : Operand} {x y : Value} (h : x ≠ .nilIface) (h' : ∀ cs, x ≠ .agg cs) (w : World) :
    (eqGuard op t X Y x y).run P w = .ok () w := by
  cases x <;> first
    | exact absurd rfl h
    | exact absurd rfl (h' _)
    | (unfold eqGuard; split <;> rfl)

theorem binF_sound {op : BinOp} {a b r : AV} (h : binF op a b = some r) {x y : Value} (ha : Rep β n R a x) (hb : Rep β n R b y) (t : TypeId) (X Y : Operand) (w : World) :
    ∃ c, r = .v c ∧ ((do eqGuard op t X Y x y; binOp op t x y) : Sem Value).run P w = .ok c w := by
  unfold binF at h
  split at h
  · have := rep_v ha; have := rep_v hb; subst x; subst y
    rename_i k x k' y
    have hg := eqGuard_plain (P := P) (op := op) (t := t) (X := X) (Y := Y) (x := .int k x) (y := .int k' y) (by simp) (by simp) w
    by_cases hs : isShift op = true
    · rw [if_pos hs] at h
      obtain ⟨c, hc, hr⟩ := shiftF_sound (P := P) (k' := k') h t w
      exact ⟨c, hc, by simp [hg, hr]⟩
    · rw [if_neg hs] at h
      by_cases hk : k = k'
      · subst hk
        simp only [if_true] at h
        obtain ⟨c, hc, hr⟩ := intF_sound (P := P) (by simpa using hs) h t w
        exact ⟨c, hc, by simp [hg, hr]⟩
      · simp [hk] at h
  · have := rep_v ha; have := rep_v hb; subst x; subst y
    rename_i x y
    have hg := eqGuard_plain (P := P) (op := op) (t := t) (X := X) (Y := Y) (x := .string x) (y := .string y) (by simp) (by simp) w
    obtain ⟨c, hc, hr⟩ := strF_sound (P := P) h t w
    exact ⟨c, hc, by simp [hg, hr]⟩
  · cases h

theorem boundF_sound {x : AV} {y m : Nat} (h : boundF x y = some m) {v : Value} (hr : Rep β n R x v) (code : BoundsCode) (w : World) :
    (Instr.sliceBound v y code).run P w = .ok m w ∧ m ≤ y := by
  unfold boundF at h
  split at h
  · have := rep_v hr; subst v
    rename_i k i
    split at h
    · rename_i hi
      cases h
      refine ⟨?_, by omega⟩
      simp only [Instr.sliceBound, asIntOf, pure_bind]
      rw [if_pos hi]; rfl
    · cases h
  · cases h

/-- Optional operands. -/
def RepO (β : Nat → Em) (n : Nat) (R : Nat → Nat → Value → Prop) : Option AV → Option Value → Prop
  | none, none => True
  | some a, some c => Rep β n R a c
  | _, _ => False

theorem boundsF_sound {len cap : Nat} {lo hi mx : Option AV} {l h m : Nat} (hb : boundsF len cap lo hi mx = some (l, h, m)) {vlo vhi vmx : Option Value}
    (rlo : RepO β n R lo vlo) (rhi : RepO β n R hi vhi) (rmx : RepO β n R mx vmx) (isS : Bool) (hlen : len ≤ cap) (w : World) :
    (Instr.sliceBounds isS len cap vlo vhi vmx).run P w = .ok (l, h, m) w ∧ l ≤ h ∧ h ≤ m ∧ m ≤ cap := by
  unfold boundsF at hb
  split at hb
  · cases hb
  rename_i m' hm'
  split at hb
  · cases hb
  rename_i h' hh'
  split at hb
  · cases hb
  rename_i l' hl'
  cases hb
  have mx' : (match vmx with
      | some v => Instr.sliceBound v cap (if isS then .slice3Acap else .slice3Alen)
      | none => (pure cap : Sem Nat)).run P w = .ok m w ∧ m ≤ cap := by
    cases mx with
    | none => cases vmx with
      | none => simp at hm'; subst hm'; exact ⟨rfl, Nat.le_refl _⟩
      | some v => exact rmx.elim
    | some a => cases vmx with
      | none => exact rmx.elim
      | some v => exact boundF_sound hm' rmx _ w
  have hi' : (match vhi, vmx with
      | some v, some _ => Instr.sliceBound v m .slice3B
      | some v, none => Instr.sliceBound v m (if isS then .sliceAcap else .sliceAlen)
      | none, none => (pure len : Sem Nat)
      | none, some _ => stuck "Slice: max without high").run P w = .ok h w ∧ h ≤ m := by
    cases hi with
    | none => cases vhi with
      | none => cases mx with
        | none => cases vmx with
          | none => simp at hh' hm'; subst hh'; subst hm'; exact ⟨rfl, hlen⟩
          | some v => exact rmx.elim
        | some a => simp at hh'
      | some v => exact rhi.elim
    | some a => cases vhi with
      | none => exact rhi.elim
      | some v => cases vmx with
        | none => exact boundF_sound hh' rhi _ w
        | some v' => exact boundF_sound hh' rhi _ w
  have lo' : (match vlo with
      | some v => Instr.sliceBound v h (if vmx.isSome then .slice3C else .sliceB)
      | none => (pure 0 : Sem Nat)).run P w = .ok l w ∧ l ≤ h := by
    cases lo with
    | none => cases vlo with
      | none => simp at hl'; subst hl'; exact ⟨rfl, Nat.zero_le _⟩
      | some v => exact rlo.elim
    | some a => cases vlo with
      | none => exact rlo.elim
      | some v => exact boundF_sound hl' rlo _ w
  refine ⟨?_, lo'.2, hi'.2, mx'.2⟩
  replace mx' := mx'.1
  replace hi' := hi'.1
  replace lo' := lo'.1
  clear hm' hh' hl' rlo rhi rmx hlen
  cases vmx <;> cases vhi <;> cases vlo <;> simp only [Sem.run_pure, Result.ok.injEq, and_true, run_stuck, reduceCtorEq, Option.isSome_none, Option.isSome_some, Bool.false_eq_true, if_false, if_true] at mx' hi' lo' <;> (try subst mx') <;> (try subst hi') <;> (try subst lo') <;>
    simp [Instr.sliceBounds, *]

theorem sizeOf_elem {t : TypeId} {l : Option Nat} (h : layOf P t = some l) (w : World) : (sizeOf t).run P w = .ok (laySize l) w := layOf_size h w

theorem sliceF_sound {sz : Nat} {x r : AV} {lo hi mx : Option AV} (h : sliceF sz x lo hi mx = some r) {v : Value} (hv : Rep β n R x v) {vlo vhi vmx : Option Value}
    (rlo : RepO β n R lo vlo) (rhi : RepO β n R hi vhi) (rmx : RepO β n R mx vmx) {t e : TypeId} {l : Option Nat} (ht : P.underlying t = some (.slice e)) (hl : layOf P e = some l) (hsz : laySize l = sz) (w : World) :
    ∃ c, (Instr.sliceAt t v vlo vhi vmx).run P w = .ok c w ∧ Rep β n R r c := by
  have hS := layOf_size hl w
  rw [hsz] at hS
  have red : ∀ (a : Option Addr) (len cap : Nat) (l' h' m' : Nat), (Instr.sliceBounds true len cap vlo vhi vmx).run P w = .ok (l', h', m') w →
      (Instr.sliceAt t (.slice a len cap) vlo vhi vmx).run P w = .ok (.slice (if m' = l' then a else a.map (·.add (l' * sz))) (h' - l') (m' - l')) w := by
    intro a len cap l' h' m' hb
    simp [Instr.sliceAt, Instr.slice, run_und ht, hb, hS]
  have mxsome : mx.isSome = vmx.isSome := by
    cases mx <;> cases vmx <;> first | rfl | exact rmx.elim
  unfold sliceF at h
  split at h
  · rw [Option.map_eq_some_iff] at h
    obtain ⟨⟨l', h', m'⟩, hb, rfl⟩ := h
    have := rep_v hv; subst v
    have hbs := boundsF_sound (P := P) hb rlo rhi rmx true (Nat.le_refl _) w
    refine ⟨_, red _ _ _ _ _ _ hbs.1, ?_⟩
    have h1 : l' = 0 := by omega
    have h2 : h' = 0 := by omega
    have h3 : m' = 0 := by omega
    subst h1; subst h2; subst h3
    exact .v _
  · rw [Option.map_eq_some_iff] at h
    obtain ⟨⟨l', h', m'⟩, hb, rfl⟩ := h
    cases hv with
    | z0 a =>
      have hbs := boundsF_sound (P := P) hb rlo rhi rmx true (Nat.le_refl _) w
      refine ⟨_, red _ _ _ _ _ _ hbs.1, ?_⟩
      have h1 : l' = 0 := by omega
      have h2 : h' = 0 := by omega
      have h3 : m' = 0 := by omega
      subst h1; subst h2; subst h3
      exact .z0 _
  · rename_i s xs
    split at h
    · rename_i hs
      subst hs
      rw [Option.map_eq_some_iff] at h
      obtain ⟨⟨l', h', m'⟩, hb, hr⟩ := h
      simp only at hr
      -- the room of the machine's slice is at least as great
      have key : ∀ cap, xs.length ≤ cap → ∃ mc, (Instr.sliceBounds true xs.length cap vlo vhi vmx).run P w = .ok (l', h', mc) w ∧ l' ≤ h' ∧ h' ≤ mc ∧ h' ≤ xs.length ∧ (mx.isSome = true → mc = m') := by
        intro cap hcap
        have hbs := boundsF_sound (P := P) hb rlo rhi rmx true (Nat.le_refl _) w
        have hb' : ∃ mc, boundsF xs.length cap lo hi mx = some (l', h', mc) ∧ (mx.isSome = true → mc = m') := by
          have bmono : ∀ {x : AV} {y y' k : Nat}, boundF x y = some k → y ≤ y' → boundF x y' = some k := by
            intro x y y' k hk hy
            unfold boundF at hk ⊢
            split at hk
            · split at hk
              · rw [if_pos (by omega)]; exact hk
              · cases hk
            · cases hk
          unfold boundsF at hb ⊢
          cases mx with
          | none =>
            simp only at hb ⊢
            refine ⟨cap, ?_, by simp⟩
            cases hi with
            | none => simp only at hb ⊢; split at hb <;> simp_all
            | some a =>
              simp only at hb ⊢
              split at hb
              · cases hb
              · rename_i hh hhe
                rw [bmono hhe hcap]
                simp only
                split at hb
                · cases hb
                · simp_all
          | some a =>
            simp only at hb ⊢
            split at hb
            · cases hb
            · rename_i mm hme
              rw [bmono hme hcap]
              exact ⟨m', by simpa using hb, by simp⟩
        obtain ⟨mc, hb1, hb2⟩ := hb'
        have := boundsF_sound (P := P) hb1 rlo rhi rmx true hcap w
        exact ⟨mc, this.1, this.2.1, this.2.2.1, by omega, hb2⟩
      have hbs := boundsF_sound (P := P) hb rlo rhi rmx true (Nat.le_refl _) w
      cases hv with
      | lstNil _ a cap =>
        obtain ⟨mc, k1, k2, k3, k4, k5⟩ := key cap (Nat.zero_le _)
        refine ⟨_, red _ _ _ _ _ _ k1, ?_⟩
        simp at k4
        subst k4
        have : l' = 0 := by omega
        subst this
        subst hr
        split
        · rename_i hc
          have := k5 hc.1
          rw [this, hc.2]
          simpa using Rep.z0 _
        · simpa using Rep.lstNil _ _ _
      | @lst _ b off cap _ cv hc hR hs h =>
        obtain ⟨mc, k1, k2, k3, k4, k5⟩ := key cap hc
        refine ⟨_, red _ _ _ _ _ _ k1, ?_⟩
        subst hr
        split
        · rename_i hcnd
          have hmc := k5 hcnd.1
          have e1 : mc = l' := by rw [hmc, hcnd.2]
          have e2 : h' - l' = 0 := by omega
          rw [if_pos e1, e2, e1, Nat.sub_self]
          exact .z0 _
        · by_cases hnil : h' - l' = 0
          · have : (xs.take h').drop l' = [] := by simp; omega
            rw [this, hnil]; exact .lstNil _ _ _
          · rw [if_neg (by omega)]
            have hlen : ((xs.take h').drop l').length = h' - l' := by simp; omega
            have hadd : (Option.map (fun x : Addr => x.add (l' * s)) (some ⟨b, off, none⟩)) = some ⟨b, off + l' * s, none⟩ := by
              simp only [Option.map_some, Addr.add]
              split
              · rename_i h0; rw [h0]; rfl
              · rfl
            rw [hadd, ← hlen]
            have idx : ∀ i x, ((xs.take h').drop l')[i]? = some x → xs[l' + i]? = some x := by
              intro i x hi
              have := getElem?_lt hi
              simp at this
              rw [List.getElem?_drop, List.getElem?_take_of_lt (by omega)] at hi
              exact hi
            refine .lst (fun k => cv (l' * s + k)) (by omega) (fun k hk => ?_) (fun i x hi => hs _ x (idx i x hi)) (fun i x j a hi hj => ?_)
            · have hk' : l' * s + k < xs.length * s := by
                rw [hlen] at hk
                have h1 : (l' + (h' - l')) * s ≤ xs.length * s := Nat.mul_le_mul_right _ (by omega)
                rw [Nat.add_mul] at h1
                omega
              have := hR _ hk'
              rw [Nat.add_assoc]; exact this
            · have := h _ x j a (idx i x hi) hj
              rw [Nat.add_mul, Nat.add_assoc] at this
              exact this
    · cases h
  · rename_i s o off len cap
    split at h
    · rename_i hs
      subst hs
      rw [Option.map_eq_some_iff] at h
      obtain ⟨⟨l', h', m'⟩, hb, hr⟩ := h
      subst hr
      cases hv with
      | slZero p ho hc =>
        have hcap : cap.getD 0 = 0 := by
          rcases hc with h | h
          · rw [h.1]; rfl
          · rw [h]; rfl
        rw [hcap] at hb
        have hbs := boundsF_sound (P := P) hb rlo rhi rmx true (Nat.le_refl _) w
        refine ⟨_, red _ _ _ _ _ _ hbs.1, ?_⟩
        have h1 : l' = 0 := by omega
        have h2 : h' = 0 := by omega
        have h3 : m' = 0 := by omega
        subst h1; subst h2; subst h3
        simp only [if_true, Nat.sub_self]
        refine .slZero p ho ?_
        unfold newCap
        cases mx with
        | some _ => right; rfl
        | none =>
          rcases hc with h | h
          · left; rw [h.1]; exact ⟨rfl, by omega⟩
          · right; rw [h]; rfl
      | @sl _ _ _ _ cap' _ ho hlc hc hn =>
        -- bounds by the machine's own room
        have hcapd : cap.getD len ≤ cap' := by
          cases cap with
          | none => exact hlc
          | some c => have := (hc c rfl).1; simp; omega
        have hlend : len ≤ cap.getD len := by
          cases cap with
          | none => simp
          | some c => have := (hc c rfl).1; simp; omega
        have hbs := boundsF_sound (P := P) hb rlo rhi rmx true hlend w
        have hb' : ∃ mc, boundsF len cap' lo hi mx = some (l', h', mc) ∧ (mx.isSome = true → mc = m') ∧ (mx.isSome = false → mc = cap' ∧ m' = cap.getD len) := by
          have bmono : ∀ {x : AV} {y y' k : Nat}, boundF x y = some k → y ≤ y' → boundF x y' = some k := by
            intro x y y' k hk hy
            unfold boundF at hk ⊢
            split at hk
            · split at hk
              · rw [if_pos (by omega)]; exact hk
              · cases hk
            · cases hk
          unfold boundsF at hb ⊢
          cases mx with
          | none =>
            simp only at hb ⊢
            cases hi with
            | none =>
              simp only at hb ⊢
              split at hb
              · cases hb
              · rename_i hl0
                cases hb
                (try rw [hl0])
                exact ⟨cap', rfl, by simp, by simp⟩
            | some a =>
              simp only at hb ⊢
              split at hb
              · cases hb
              · rename_i hh hhe
                rw [bmono hhe hcapd]
                simp only
                split at hb
                · cases hb
                · rename_i hl0
                  cases hb
                  (try rw [hl0])
                  exact ⟨cap', rfl, by simp, by simp⟩
          | some a =>
            simp only at hb ⊢
            split at hb
            · cases hb
            · rename_i mm hme
              rw [bmono hme hcapd]
              exact ⟨m', by simpa using hb, by simp, by simp⟩
        obtain ⟨mc, hb1, hb2, hb3⟩ := hb'
        have hbc := boundsF_sound (P := P) hb1 rlo rhi rmx true hlc w
        refine ⟨_, red _ _ _ _ _ _ hbc.1, ?_⟩
        show Rep β n R (.sl s o (off + l' * s) (h' - l') (newCap mx m' l' cap)) _
        by_cases hml : mc = l'
        · rw [if_pos hml]
          have e1 : h' - l' = 0 := by omega
          have e2 : mc - l' = 0 := by omega
          rw [e1, e2]
          refine .slZero _ ho ?_
          unfold newCap
          cases mx with
          | some _ =>
            right
            have := hb2 rfl
            simp; omega
          | none =>
            obtain ⟨q1, q2⟩ := hb3 rfl
            cases cap with
            | none =>
              left
              have := hn rfl
              refine ⟨rfl, ?_⟩
              have e : l' = cap' := by omega
              rw [e]; omega
            | some c => right; have := (hc c rfl).1; simp; omega
        · rw [if_neg hml]
          have hadd : (Option.map (fun x : Addr => x.add (l' * s)) (some ⟨(β o).blk, (β o).off + off, none⟩)) = some ⟨(β o).blk, (β o).off + (off + l' * s), none⟩ := by
            simp only [Option.map_some, Addr.add, Nat.add_assoc]
            split
            · rename_i h0; rw [h0]; rfl
            · rfl
          rw [hadd]
          have dec : ∀ q, l' ≤ q → off + l' * s + (q - l') * s = off + q * s := by
            intro q hq
            rw [Nat.add_assoc, ← Nat.add_mul]
            have : l' + (q - l') = q := by omega
            rw [this]
          have tot' : off + cap' * s ≤ (β o).tot := by
            cases cap with
            | none => exact Nat.le_of_eq (hn rfl)
            | some c => have := hc c rfl; rw [this.1]; exact this.2
          have hmcap : mc ≤ cap' := hbc.2.2.2
          unfold newCap
          refine .sl ho (by omega) ?_ ?_
          · intro c hc'
            have hmul : ∀ q, l' ≤ q → q ≤ cap' → off + l' * s + (q - l') * s ≤ (β o).tot := by
              intro q h1 h2
              rw [dec q h1]
              have : q * s ≤ cap' * s := Nat.mul_le_mul_right _ h2
              omega
            cases mx with
            | some a =>
              simp only [Option.some.injEq] at hc'
              subst hc'
              have := hb2 rfl
              exact ⟨by omega, hmul m' (by omega) (by omega)⟩
            | none =>
              obtain ⟨q1, q2⟩ := hb3 rfl
              cases cap with
              | none => simp at hc'
              | some c0 =>
                simp only [Option.map_some, Option.some.injEq] at hc'
                subst hc'
                have := (hc c0 rfl).1
                exact ⟨by omega, by rw [← this]; exact hmul cap' (by omega) (Nat.le_refl _)⟩
          · intro hc'
            cases mx with
            | some a => simp at hc'
            | none =>
              obtain ⟨q1, q2⟩ := hb3 rfl
              cases cap with
              | none => rw [q1, dec cap' (by omega)]; exact hn rfl
              | some c0 => simp at hc'
    · cases h
  · cases h

end
end Go.Ab

/- A part of a law's proof: AbPSound5. -/
import Derived.Test.YtjkcjbkkgkhljaaAbPOp
set_option linter.constructorNameAsVariable false
/-
  The machine gives what the operations of AbPOp give.
-/
namespace Go.Ab
open Go Go.RowKit
section
variable {P : Program} {β : Lies} {n : Nat} {R : Nat -> Nat -> Value -> Prop}
theorem rep_flat {x : AV} {c : Value} (h : Rep β n R x c) {cs : List AV} (hf : x.flat = some cs) :
    cs.length = c.cells.size ∧ ∀ (i : Nat) (a : AV) (d : Value), cs[i]? = some a -> c.cells[i]? = some d -> Rep β n R a d := by
  have one : ∀ (y : AV) (d : Value), Rep β n R y d -> d.cells = #[d] -> [y] = cs -> cs.length = d.cells.size ∧ ∀ (i : Nat) (a : AV) (e : Value), cs[i]? = some a -> d.cells[i]? = some e -> Rep β n R a e := by
    intro y d hr hd he
    subst he
    rw [hd]
    refine ⟨rfl, fun i a e h1 h2 => ?_⟩
    cases i with
    | zero => simp at h1 h2; subst h1; subst h2; exact hr
    | succ i => simp at h1
  cases h with
  | any x => simp [AV.flat] at hf
  | v x =>
    cases c with
    | agg cs => simp [AV.flat] at hf
    | _ => simp only [AV.flat, Option.some.injEq] at hf; exact one _ _ (.v _) rfl hf
  | agg hl h => simp [AV.flat] at hf; subst hf; exact ⟨hl, h⟩
  | tup hl h => simp [AV.flat] at hf; exact one _ _ (.tup hl h) rfl hf
  | lstNil sz a cap => simp [AV.flat] at hf; exact one _ _ (.lstNil sz a cap) rfl hf
  | lst cv hc hR hs h => simp [AV.flat] at hf; exact one _ _ (.lst cv hc hR hs h) rfl hf
  | rp cv hR h => simp [AV.flat] at hf; exact one _ _ (.rp cv hR h) rfl hf
  | sl ho hl hc hn => simp [AV.flat] at hf; exact one _ _ (.sl ho hl hc hn) rfl hf
  | slZero p ho hc => simp [AV.flat] at hf; exact one _ _ (.slZero p ho hc) rfl hf
  | z0 a => simp [AV.flat] at hf; exact one _ _ (.z0 a) rfl hf
  | ptr ho => simp [AV.flat] at hf; exact one _ _ (.ptr ho) rfl hf
  | fn hl h => simp [AV.flat] at hf; exact one _ _ (.fn hl h) rfl hf
  | mp ho => simp [AV.flat] at hf; exact one _ _ (.mp ho) rfl hf
  | ifc h => simp [AV.flat] at hf; exact one _ _ (.ifc h) rfl hf
def Whole (β : Lies) (n : Nat) (R : Nat -> Nat -> Value -> Prop) (as : List AV) (xs : Array Value) : Prop :=
  as.length = xs.size ∧ ∀ (i : Nat) (a : AV) (c : Value), as[i]? = some a -> xs[i]? = some c -> Rep β n R a c
theorem foldl_set (off : Nat) : ∀ (vs : List (Value × Nat)) (cs : Array Value), (vs.foldl (fun cs (c, j) => cs.setIfInBounds (off + j) c) cs).size = cs.size := by
  intro vs
  induction vs with
  | nil => intro cs; rfl
  | cons v vs ih => intro cs; simp only [List.foldl_cons]; rw [ih]; simp
theorem foldl_get (off : Nat) : ∀ (vs : List Value) (k : Nat) (cs : Array Value) (i : Nat), off + k + vs.length <= cs.size ->
    ((vs.zipIdx k).foldl (fun cs (c, j) => cs.setIfInBounds (off + j) c) cs)[i]? = if off + k <= i ∧ i < off + k + vs.length then vs[i - (off + k)]? else cs[i]? := by
  intro vs
  induction vs with
  | nil => intro k cs i h; simp; omega
  | cons v vs ih =>
    intro k cs i h
    simp only [List.zipIdx_cons, List.foldl_cons, List.length_cons] at *
    rw [ih (k + 1) _ i (by simp; omega)]
    by_cases h1 : off + (k + 1) <= i ∧ i < off + (k + 1) + vs.length
    · rw [if_pos h1, if_pos (by omega)]
      have : i - (off + k) = (i - (off + (k + 1))) + 1 := by omega
      rw [this, List.getElem?_cons_succ]
    · rw [if_neg h1]
      by_cases h2 : i = off + k
      · subst h2
        rw [if_pos (by omega), Array.getElem?_setIfInBounds_self_of_lt (by omega)]
        simp
      · rw [if_neg (by omega), Array.getElem?_setIfInBounds_ne (by omega)]
theorem fill_sound {place : Nat -> Option (Nat × Nat)} : ∀ (parts : List (Nat × Value)) (aparts : List (Nat × Nat × AV)) (as : List AV) (xs : Array Value) (rs : List AV),
    parts.length = aparts.length ->
    (∀ (i : Nat) (p : Nat × Value) (q : Nat × Nat × AV), parts[i]? = some p -> aparts[i]? = some q -> place p.1 = some (q.1, q.2.1) ∧ Rep β n R q.2.2 p.2) ->
    Whole β n R as xs -> fillA as aparts = some rs -> ∃ ys, Instr.fill place xs parts = some ys ∧ Whole β n R rs ys := by
  intro parts
  induction parts with
  | nil =>
    intro aparts as xs rs hl h hw hf
    cases aparts with
    | nil => simp [fillA] at hf; subst hf; exact ⟨xs, rfl, hw⟩
    | cons _ _ => simp at hl
  | cons p parts ih =>
    intro aparts as xs rs hl h hw hf
    cases aparts with
    | nil => simp at hl
    | cons q aparts =>
      obtain ⟨off, size, v⟩ := q
      obtain ⟨i, c⟩ := p
      have h0 := h 0 _ _ rfl rfl
      simp only at h0
      simp only [fillA] at hf
      split at hf
      · rename_i vs hvs
        split at hf
        · rename_i hc
          obtain ⟨hlen, hget⟩ := rep_flat h0.2 hvs
          have hbad : (c.cells.size ≠ size || decide (off + c.cells.size > xs.size)) = false := by
            have := hw.1
            simp; omega
          have hz : ∀ (cs : Array Value), c.cells.zipIdx.foldl (fun cs (c, j) => cs.setIfInBounds (off + j) c) cs = (c.cells.toList.zipIdx 0).foldl (fun cs (c, j) => cs.setIfInBounds (off + j) c) cs := by
            intro cs
            rw [<- Array.foldl_toList, Array.toList_zipIdx]
          simp only [Instr.fill, h0.1]
          rw [if_neg (by simpa using hbad)]
          refine ih aparts _ _ rs (by simpa using hl) (fun i p q hp hq => h (i + 1) p q (by simpa using hp) (by simpa using hq)) ?_ hf
          have hw1 := hw.1
          refine ⟨?_, fun j a d hj hd => ?_⟩
          · rw [hz, foldl_set]; simp; omega
          · rw [hz, foldl_get off _ 0 _ _ (by simp; omega)] at hd
            simp only [Nat.add_zero] at hd
            by_cases hin : off <= j ∧ j < off + c.cells.toList.length
            · rw [if_pos hin] at hd
              simp only [Array.length_toList] at hin
              rw [List.getElem?_append_right (by simp; omega), List.getElem?_append_left (by simp; omega)] at hj
              have : j - (as.take off).length = j - off := by simp; omega
              rw [this] at hj
              rw [Array.getElem?_toList] at hd
              exact hget _ _ _ hj hd
            · rw [if_neg hin] at hd
              simp only [Array.length_toList] at hin
              refine hw.2 j a d ?_ hd
              by_cases hlt : j < off
              · rw [List.getElem?_append_left (by simp; omega), List.getElem?_take_of_lt hlt] at hj; exact hj
              · rw [List.getElem?_append_right (by simp; omega), List.getElem?_append_right (by simp; omega), List.getElem?_drop] at hj
                have : off + size + (j - (as.take off).length - vs.length) = j := by simp; omega
                rw [this] at hj; exact hj
        · cases hf
      · cases hf
end
theorem whole_v {β : Lies} {n : Nat} {R : Nat -> Nat -> Value -> Prop} (cs : Array Value) : Whole β n R (cs.toList.map .v) cs :=
  ⟨by simp, fun i a c h h' => by
    simp only [List.getElem?_map, Array.getElem?_toList, h', Option.map_some, Option.some.injEq] at h
    subst h; exact .v _⟩
theorem trX_rep {β : Lies} {n : Nat} {R : Nat -> Nat -> Value -> Prop} {ρ : Nat -> AV} {a : Act} (h : ∀ t, Rep β n R (ρ t) (a.tmps.getD t undef)) (x : Operand) :
    Rep β n R ((trX x).ev ρ) (a.eval x) := by
  cases x with
  | tmp t => exact h t
  | const c => exact rep_ofV c
  | global g => exact .v _
  | func f => exact .fn rfl fun i a c h _ => by simp at h
end Go.Ab
namespace Go.Ab
open Go Go.RowKit
set_option linter.unusedVariables false
set_option linter.unusedSimpArgs false
section
variable {P : Program} {β : Lies} {n : Nat} {R : Nat -> Nat -> Value -> Prop}
theorem bitsF_sound {op : BinOp} {k : IntKind} {x y r : Int} (h : bitsF op k x y = some r) (w : World) : (Op.intBits op k x y).run P w = .ok (.int k r) w := by
  unfold bitsF at h
  cases op <;> simp at h <;> subst h <;> simp [Op.intBits]
theorem intF_sound {op : BinOp} {k : IntKind} {x y : Int} {r : AV} (hs : isShift op = false) (h : intF op k x y = some r) (t : TypeId) (w : World) :
    ∃ c, r = .v c ∧ (binOp op t (.int k x) (.int k y)).run P w = .ok c w := by
  unfold intF at h
  cases op <;> simp only [isShift, Bool.true_eq_false, Bool.false_eq_true] at hs
  case add => cases h; exact ⟨_, rfl, by simp [binOp, Op.intArith]⟩
  case sub => cases h; exact ⟨_, rfl, by simp [binOp, Op.intArith]⟩
  case mul => cases h; exact ⟨_, rfl, by simp [binOp, Op.intArith]⟩
  case quo =>
    by_cases h0 : y = 0
    · simp [h0] at h
    · simp only [h0, if_false, Option.some.injEq] at h; subst h; exact ⟨_, rfl, by simp [binOp, Op.intDiv, h0]⟩
  case rem =>
    by_cases h0 : y = 0
    · simp [h0] at h
    · simp only [h0, if_false, Option.some.injEq] at h; subst h; exact ⟨_, rfl, by simp [binOp, Op.intDiv, h0]⟩
  case and => simp only [Option.map_eq_some_iff] at h; obtain ⟨r', h1, rfl⟩ := h; exact ⟨_, rfl, by simp [binOp, bitsF_sound h1]⟩
  case or => simp only [Option.map_eq_some_iff] at h; obtain ⟨r', h1, rfl⟩ := h; exact ⟨_, rfl, by simp [binOp, bitsF_sound h1]⟩
  case xor => simp only [Option.map_eq_some_iff] at h; obtain ⟨r', h1, rfl⟩ := h; exact ⟨_, rfl, by simp [binOp, bitsF_sound h1]⟩
  case andNot => simp only [Option.map_eq_some_iff] at h; obtain ⟨r', h1, rfl⟩ := h; exact ⟨_, rfl, by simp [binOp, bitsF_sound h1]⟩
  case eql => cases h; exact ⟨_, rfl, by simp [binOp, Op.intCmp]⟩
  case neq => cases h; exact ⟨_, rfl, by simp [binOp, Op.intCmp]⟩
  case lss => cases h; exact ⟨_, rfl, by simp [binOp, Op.intCmp]⟩
  case leq => cases h; exact ⟨_, rfl, by simp [binOp, Op.intCmp]⟩
  case gtr => cases h; exact ⟨_, rfl, by simp [binOp, Op.intCmp]⟩
  case geq => cases h; exact ⟨_, rfl, by simp [binOp, Op.intCmp]⟩
theorem shiftF_sound {op : BinOp} {k k' : IntKind} {x y : Int} {r : AV} (h : shiftF op k x y = some r) (t : TypeId) (w : World) :
    ∃ c, r = .v c ∧ (binOp op t (.int k x) (.int k' y)).run P w = .ok c w := by
  unfold shiftF at h
  by_cases h0 : y < 0
  · simp [h0] at h
  · simp only [h0, if_false] at h
    cases op <;> simp only [Option.some.injEq, reduceCtorEq] at h
    case shl => subst h; exact ⟨_, rfl, by simp [binOp, Op.shift, h0]⟩
    case shr => subst h; exact ⟨_, rfl, by simp [binOp, Op.shift, h0]⟩
theorem strF_sound {op : BinOp} {x y : ByteArray} {r : AV} (h : strF op x y = some r) (t : TypeId) (w : World) :
    ∃ c, r = .v c ∧ (binOp op t (.string x) (.string y)).run P w = .ok c w := by
  unfold strF at h
  cases op <;> simp only [Option.some.injEq, reduceCtorEq] at h
  case add =>
    split at h
    · rename_i hle
      simp only [Option.some.injEq] at h; subst h
      refine ⟨_, rfl, ?_⟩
      have : ¬ (((x.size + y.size : Nat) : Int) > IntKind.i64.max) := by
        show ¬ (((x.size + y.size : Nat) : Int) > 9223372036854775807)
        omega
      simp only [binOp, Op.stringOp]
      rw [if_neg this]; rfl
    · cases h
  all_goals (subst h; exact ⟨_, rfl, by simp [binOp, Op.stringOp]⟩)
theorem floatF_sound {op : BinOp} {k : FloatKind} {x y : Nat} {r : AV} (h : floatF op k x y = some r) (t : TypeId) (w : World) :
    ∃ c, r = .v c ∧ (binOp op t (.float k x) (.float k y)).run P w = .ok c w := by
  unfold floatF at h
  cases op <;> simp only [Option.some.injEq, reduceCtorEq] at h
  all_goals (subst h; exact ⟨_, rfl, by simp [binOp, Op.floatCmp]⟩)
theorem eqGuard_plain {op : BinOp} {t : TypeId} {X Y : Operand} {x y : Value} (h : x ≠ .nilIface) (h' : ∀ cs, x ≠ .agg cs) (w : World) :
    (eqGuard op t X Y x y).run P w = .ok () w := by
  cases x <;> first
    | exact absurd rfl h
    | exact absurd rfl (h' _)
    | (unfold eqGuard; split <;> rfl)
theorem binF_sound {op : BinOp} {a b r : AV} (h : binF op a b = some r) {x y : Value} (ha : Rep β n R a x) (hb : Rep β n R b y) (t : TypeId) (X Y : Operand) (w : World) :
    ∃ c, r = .v c ∧ ((do eqGuard op t X Y x y; binOp op t x y) : Sem Value).run P w = .ok c w := by
  unfold binF at h
  split at h
  · have := rep_v ha; have := rep_v hb; subst x; subst y
    rename_i k x k' y
    have hg := eqGuard_plain (P := P) (op := op) (t := t) (X := X) (Y := Y) (x := .int k x) (y := .int k' y) (by simp) (by simp) w
    by_cases hs : isShift op = true
    · rw [if_pos hs] at h
      obtain ⟨c, hc, hr⟩ := shiftF_sound (P := P) (k' := k') h t w
      exact ⟨c, hc, by simp [hg, hr]⟩
    · rw [if_neg hs] at h
      by_cases hk : k = k'
      · subst hk
        simp only [if_true] at h
        obtain ⟨c, hc, hr⟩ := intF_sound (P := P) (by simpa using hs) h t w
        exact ⟨c, hc, by simp [hg, hr]⟩
      · simp [hk] at h
  · have := rep_v ha; have := rep_v hb; subst x; subst y
    rename_i x y
    have hg := eqGuard_plain (P := P) (op := op) (t := t) (X := X) (Y := Y) (x := .string x) (y := .string y) (by simp) (by simp) w
    obtain ⟨c, hc, hr⟩ := strF_sound (P := P) h t w
    exact ⟨c, hc, by simp [hg, hr]⟩
  · have := rep_v ha; have := rep_v hb; subst x; subst y
    rename_i k x k' y
    have hg := eqGuard_plain (P := P) (op := op) (t := t) (X := X) (Y := Y) (x := .float k x) (y := .float k' y) (by simp) (by simp) w
    by_cases hk : k = k'
    · subst hk
      simp only [if_true] at h
      obtain ⟨c, hc, hr⟩ := floatF_sound (P := P) h t w
      exact ⟨c, hc, by simp [hg, hr]⟩
    · simp [hk] at h
  · cases h
theorem boundF_sound {x : AV} {y m : Nat} (h : boundF x y = some m) {v : Value} (hr : Rep β n R x v) (code : BoundsCode) (w : World) :
    (Instr.sliceBound v y code).run P w = .ok m w ∧ m <= y := by
  unfold boundF at h
  split at h
  · have := rep_v hr; subst v
    rename_i k i
    split at h
    · rename_i hi
      cases h
      refine ⟨?_, by omega⟩
      simp only [Instr.sliceBound, asIntOf, pure_bind]
      rw [if_pos hi]; rfl
    · cases h
  · cases h
def RepO (β : Lies) (n : Nat) (R : Nat -> Nat -> Value -> Prop) : Option AV -> Option Value -> Prop
  | none, none => True
  | some a, some c => Rep β n R a c
  | _, _ => False
theorem boundsF_sound {len cap : Nat} {lo hi mx : Option AV} {l h m : Nat} (hb : boundsF len cap lo hi mx = some (l, h, m)) {vlo vhi vmx : Option Value}
    (rlo : RepO β n R lo vlo) (rhi : RepO β n R hi vhi) (rmx : RepO β n R mx vmx) (isS : Bool) (hlen : len <= cap) (w : World) :
    (Instr.sliceBounds isS len cap vlo vhi vmx).run P w = .ok (l, h, m) w ∧ l <= h ∧ h <= m ∧ m <= cap := by
  unfold boundsF at hb
  split at hb
  · cases hb
  rename_i m' hm'
  split at hb
  · cases hb
  rename_i h' hh'
  split at hb
  · cases hb
  rename_i l' hl'
  cases hb
  have mx' : (match vmx with
      | some v => Instr.sliceBound v cap (if isS then .slice3Acap else .slice3Alen)
      | none => (pure cap : Sem Nat)).run P w = .ok m w ∧ m <= cap := by
    cases mx with
    | none => cases vmx with
      | none => simp at hm'; subst hm'; exact ⟨rfl, Nat.le_refl _⟩
      | some v => exact rmx.elim
    | some a => cases vmx with
      | none => exact rmx.elim
      | some v => exact boundF_sound hm' rmx _ w
  have hi' : (match vhi, vmx with
      | some v, some _ => Instr.sliceBound v m .slice3B
      | some v, none => Instr.sliceBound v m (if isS then .sliceAcap else .sliceAlen)
      | none, none => (pure len : Sem Nat)
      | none, some _ => stuck "Slice: max without high").run P w = .ok h w ∧ h <= m := by
    cases hi with
    | none => cases vhi with
      | none => cases mx with
        | none => cases vmx with
          | none => simp at hh' hm'; subst hh'; subst hm'; exact ⟨rfl, hlen⟩
          | some v => exact rmx.elim
        | some a => simp at hh'
      | some v => exact rhi.elim
    | some a => cases vhi with
      | none => exact rhi.elim
      | some v => cases vmx with
        | none => exact boundF_sound hh' rhi _ w
        | some v' => exact boundF_sound hh' rhi _ w
  have lo' : (match vlo with
      | some v => Instr.sliceBound v h (if vmx.isSome then .slice3C else .sliceB)
      | none => (pure 0 : Sem Nat)).run P w = .ok l w ∧ l <= h := by
    cases lo with
    | none => cases vlo with
      | none => simp at hl'; subst hl'; exact ⟨rfl, Nat.zero_le _⟩
      | some v => exact rlo.elim
    | some a => cases vlo with
      | none => exact rlo.elim
      | some v => exact boundF_sound hl' rlo _ w
  refine ⟨?_, lo'.2, hi'.2, mx'.2⟩
  replace mx' := mx'.1
  replace hi' := hi'.1
  replace lo' := lo'.1
  clear hm' hh' hl' rlo rhi rmx hlen
  cases vmx <;> cases vhi <;> cases vlo <;> simp only [Sem.run_pure, Result.ok.injEq, and_true, run_stuck, reduceCtorEq, Option.isSome_none, Option.isSome_some, Bool.false_eq_true, if_false, if_true] at mx' hi' lo' <;> (try subst mx') <;> (try subst hi') <;> (try subst lo') <;>
    simp [Instr.sliceBounds, *]
theorem sliceF_sound {sz : Nat} {x r : AV} {lo hi mx : Option AV} (h : sliceF sz x lo hi mx = some r) {v : Value} (hv : Rep β n R x v) {vlo vhi vmx : Option Value}
    (rlo : RepO β n R lo vlo) (rhi : RepO β n R hi vhi) (rmx : RepO β n R mx vmx) {t e : TypeId} {l : Option Nat} (ht : P.underlying t = some (.slice e)) (hl : layOf P e = some l) (hsz : laySize l = sz) (w : World) :
    ∃ c, (Instr.sliceAt t v vlo vhi vmx).run P w = .ok c w ∧ Rep β n R r c := by
  have hS := layOf_size hl w
  rw [hsz] at hS
  have red : ∀ (a : Option Addr) (len cap : Nat) (l' h' m' : Nat), (Instr.sliceBounds true len cap vlo vhi vmx).run P w = .ok (l', h', m') w ->
      (Instr.sliceAt t (.slice a len cap) vlo vhi vmx).run P w = .ok (.slice (if m' = l' then a else a.map (·.add (l' * sz))) (h' - l') (m' - l')) w := by
    intro a len cap l' h' m' hb
    simp [Instr.sliceAt, Instr.slice, run_und ht, hb, hS]
  have mxsome : mx.isSome = vmx.isSome := by
    cases mx <;> cases vmx <;> first | rfl | exact rmx.elim
  unfold sliceF at h
  split at h
  · rw [Option.map_eq_some_iff] at h
    obtain ⟨⟨l', h', m'⟩, hb, rfl⟩ := h
    have := rep_v hv; subst v
    have hbs := boundsF_sound (P := P) hb rlo rhi rmx true (Nat.le_refl _) w
    refine ⟨_, red _ _ _ _ _ _ hbs.1, ?_⟩
    have h1 : l' = 0 := by omega
    have h2 : h' = 0 := by omega
    have h3 : m' = 0 := by omega
    subst h1; subst h2; subst h3
    exact .v _
  · rw [Option.map_eq_some_iff] at h
    obtain ⟨⟨l', h', m'⟩, hb, rfl⟩ := h
    cases hv with
    | z0 a =>
      have hbs := boundsF_sound (P := P) hb rlo rhi rmx true (Nat.le_refl _) w
      refine ⟨_, red _ _ _ _ _ _ hbs.1, ?_⟩
      have h1 : l' = 0 := by omega
      have h2 : h' = 0 := by omega
      have h3 : m' = 0 := by omega
      subst h1; subst h2; subst h3
      exact .z0 _
  · rename_i s xs
    split at h
    · rename_i hs
      subst hs
      rw [Option.map_eq_some_iff] at h
      obtain ⟨⟨l', h', m'⟩, hb, hr⟩ := h
      simp only at hr
      -- the room of the machine's slice is at least as great
      have key : ∀ cap, xs.length <= cap -> ∃ mc, (Instr.sliceBounds true xs.length cap vlo vhi vmx).run P w = .ok (l', h', mc) w ∧ l' <= h' ∧ h' <= mc ∧ h' <= xs.length ∧ (mx.isSome = true -> mc = m') := by
        intro cap hcap
        have hbs := boundsF_sound (P := P) hb rlo rhi rmx true (Nat.le_refl _) w
        have hb' : ∃ mc, boundsF xs.length cap lo hi mx = some (l', h', mc) ∧ (mx.isSome = true -> mc = m') := by
          have bmono : ∀ {x : AV} {y y' k : Nat}, boundF x y = some k -> y <= y' -> boundF x y' = some k := by
            intro x y y' k hk hy
            unfold boundF at hk ⊢
            split at hk
            · split at hk
              · rw [if_pos (by omega)]; exact hk
              · cases hk
            · cases hk
          unfold boundsF at hb ⊢
          cases mx with
          | none =>
            simp only at hb ⊢
            refine ⟨cap, ?_, by simp⟩
            cases hi with
            | none => simp only at hb ⊢; split at hb <;> simp_all
            | some a =>
              simp only at hb ⊢
              split at hb
              · cases hb
              · rename_i hh hhe
                rw [bmono hhe hcap]
                simp only
                split at hb
                · cases hb
                · simp_all
          | some a =>
            simp only at hb ⊢
            split at hb
            · cases hb
            · rename_i mm hme
              rw [bmono hme hcap]
              exact ⟨m', by simpa using hb, by simp⟩
        obtain ⟨mc, hb1, hb2⟩ := hb'
        have := boundsF_sound (P := P) hb1 rlo rhi rmx true hcap w
        exact ⟨mc, this.1, this.2.1, this.2.2.1, by omega, hb2⟩
      have hbs := boundsF_sound (P := P) hb rlo rhi rmx true (Nat.le_refl _) w
      cases hv with
      | lstNil _ a cap =>
        obtain ⟨mc, k1, k2, k3, k4, k5⟩ := key cap (Nat.zero_le _)
        refine ⟨_, red _ _ _ _ _ _ k1, ?_⟩
        simp at k4
        subst k4
        have : l' = 0 := by omega
        subst this
        subst hr
        split
        · rename_i hc
          have := k5 hc.1
          rw [this, hc.2]
          simpa using Rep.z0 _
        · simpa using Rep.lstNil _ _ _
      | @lst _ b off cap _ cv hc hR hs h =>
        obtain ⟨mc, k1, k2, k3, k4, k5⟩ := key cap hc
        refine ⟨_, red _ _ _ _ _ _ k1, ?_⟩
        subst hr
        split
        · rename_i hcnd
          have hmc := k5 hcnd.1
          have e1 : mc = l' := by rw [hmc, hcnd.2]
          have e2 : h' - l' = 0 := by omega
          rw [if_pos e1, e2, e1, Nat.sub_self]
          exact .z0 _
        · by_cases hnil : h' - l' = 0
          · have : (xs.take h').drop l' = [] := by simp; omega
            rw [this, hnil]; exact .lstNil _ _ _
          · rw [if_neg (by omega)]
            have hlen : ((xs.take h').drop l').length = h' - l' := by simp; omega
            have hadd : (Option.map (fun x : Addr => x.add (l' * s)) (some ⟨b, off, none⟩)) = some ⟨b, off + l' * s, none⟩ := by
              simp only [Option.map_some, Addr.add]
              split
              · rename_i h0; rw [h0]; rfl
              · rfl
            rw [hadd, <- hlen]
            have idx : ∀ i x, ((xs.take h').drop l')[i]? = some x -> xs[l' + i]? = some x := by
              intro i x hi
              have := getElem?_lt hi
              simp at this
              rw [List.getElem?_drop, List.getElem?_take_of_lt (by omega)] at hi
              exact hi
            refine .lst (fun k => cv (l' * s + k)) (by omega) (fun k hk => ?_) (fun i x hi => hs _ x (idx i x hi)) (fun i x j a hi hj => ?_)
            · have hk' : l' * s + k < xs.length * s := by
                rw [hlen] at hk
                have h1 : (l' + (h' - l')) * s <= xs.length * s := Nat.mul_le_mul_right _ (by omega)
                rw [Nat.add_mul] at h1
                omega
              have := hR _ hk'
              rw [Nat.add_assoc]; exact this
            · have := h _ x j a (idx i x hi) hj
              rw [Nat.add_mul, Nat.add_assoc] at this
              exact this
    · cases h
  · rename_i s o off len cap
    split at h
    · rename_i hs
      subst hs
      rw [Option.map_eq_some_iff] at h
      obtain ⟨⟨l', h', m'⟩, hb, hr⟩ := h
      subst hr
      cases hv with
      | slZero p ho hc =>
        have hcap : cap.getD 0 = 0 := by
          rcases hc with h | h
          · rw [h.1]; rfl
          · rw [h]; rfl
        rw [hcap] at hb
        have hbs := boundsF_sound (P := P) hb rlo rhi rmx true (Nat.le_refl _) w
        refine ⟨_, red _ _ _ _ _ _ hbs.1, ?_⟩
        have h1 : l' = 0 := by omega
        have h2 : h' = 0 := by omega
        have h3 : m' = 0 := by omega
        subst h1; subst h2; subst h3
        simp only [if_true, Nat.sub_self]
        refine .slZero p ho ?_
        unfold newCap
        cases mx with
        | some _ => right; rfl
        | none =>
          rcases hc with h | h
          · left; rw [h.1]; exact ⟨rfl, by omega⟩
          · right; rw [h]; rfl
      | @sl _ _ _ _ cap' _ ho hlc hc hn =>
        -- bounds by the machine's own room
        have hcapd : cap.getD len <= cap' := by
          cases cap with
          | none => exact hlc
          | some c => have := (hc c rfl).1; simp; omega
        have hlend : len <= cap.getD len := by
          cases cap with
          | none => simp
          | some c => have := (hc c rfl).1; simp; omega
        have hbs := boundsF_sound (P := P) hb rlo rhi rmx true hlend w
        have hb' : ∃ mc, boundsF len cap' lo hi mx = some (l', h', mc) ∧ (mx.isSome = true -> mc = m') ∧ (mx.isSome = false -> mc = cap' ∧ m' = cap.getD len) := by
          have bmono : ∀ {x : AV} {y y' k : Nat}, boundF x y = some k -> y <= y' -> boundF x y' = some k := by
            intro x y y' k hk hy
            unfold boundF at hk ⊢
            split at hk
            · split at hk
              · rw [if_pos (by omega)]; exact hk
              · cases hk
            · cases hk
          unfold boundsF at hb ⊢
          cases mx with
          | none =>
            simp only at hb ⊢
            cases hi with
            | none =>
              simp only at hb ⊢
              split at hb
              · cases hb
              · rename_i hl0
                cases hb
                (try rw [hl0])
                exact ⟨cap', rfl, by simp, by simp⟩
            | some a =>
              simp only at hb ⊢
              split at hb
              · cases hb
              · rename_i hh hhe
                rw [bmono hhe hcapd]
                simp only
                split at hb
                · cases hb
                · rename_i hl0
                  cases hb
                  (try rw [hl0])
                  exact ⟨cap', rfl, by simp, by simp⟩
          | some a =>
            simp only at hb ⊢
            split at hb
            · cases hb
            · rename_i mm hme
              rw [bmono hme hcapd]
              exact ⟨m', by simpa using hb, by simp, by simp⟩
        obtain ⟨mc, hb1, hb2, hb3⟩ := hb'
        have hbc := boundsF_sound (P := P) hb1 rlo rhi rmx true hlc w
        refine ⟨_, red _ _ _ _ _ _ hbc.1, ?_⟩
        show Rep β n R (.sl s o (off + l' * s) (h' - l') (newCap mx m' l' cap)) _
        by_cases hml : mc = l'
        · rw [if_pos hml]
          have e1 : h' - l' = 0 := by omega
          have e2 : mc - l' = 0 := by omega
          rw [e1, e2]
          refine .slZero _ ho ?_
          unfold newCap
          cases mx with
          | some _ =>
            right
            have := hb2 rfl
            simp; omega
          | none =>
            obtain ⟨q1, q2⟩ := hb3 rfl
            cases cap with
            | none =>
              left
              have := hn rfl
              refine ⟨rfl, ?_⟩
              have e : l' = cap' := by omega
              rw [e]; omega
            | some c => right; have := (hc c rfl).1; simp; omega
        · rw [if_neg hml]
          have hadd : (Option.map (fun x : Addr => x.add (l' * s)) (some ⟨(β o).blk, (β o).off + off, none⟩)) = some ⟨(β o).blk, (β o).off + (off + l' * s), none⟩ := by
            simp only [Option.map_some, Addr.add, Nat.add_assoc]
            split
            · rename_i h0; rw [h0]; rfl
            · rfl
          rw [hadd]
          have dec : ∀ q, l' <= q -> off + l' * s + (q - l') * s = off + q * s := by
            intro q hq
            rw [Nat.add_assoc, <- Nat.add_mul]
            have : l' + (q - l') = q := by omega
            rw [this]
          have tot' : off + cap' * s <= (β o).tot := by
            cases cap with
            | none => exact Nat.le_of_eq (hn rfl)
            | some c => have := hc c rfl; rw [this.1]; exact this.2
          have hmcap : mc <= cap' := hbc.2.2.2
          unfold newCap
          refine .sl ho (by omega) ?_ ?_
          · intro c hc'
            have hmul : ∀ q, l' <= q -> q <= cap' -> off + l' * s + (q - l') * s <= (β o).tot := by
              intro q h1 h2
              rw [dec q h1]
              have : q * s <= cap' * s := Nat.mul_le_mul_right _ h2
              omega
            cases mx with
            | some a =>
              simp only [Option.some.injEq] at hc'
              subst hc'
              have := hb2 rfl
              exact ⟨by omega, hmul m' (by omega) (by omega)⟩
            | none =>
              obtain ⟨q1, q2⟩ := hb3 rfl
              cases cap with
              | none => simp at hc'
              | some c0 =>
                simp only [Option.map_some, Option.some.injEq] at hc'
                subst hc'
                have := (hc c0 rfl).1
                exact ⟨by omega, by rw [<- this]; exact hmul cap' (by omega) (Nat.le_refl _)⟩
          · intro hc'
            cases mx with
            | some a => simp at hc'
            | none =>
              obtain ⟨q1, q2⟩ := hb3 rfl
              cases cap with
              | none => rw [q1, dec cap' (by omega)]; exact hn rfl
              | some c0 => simp at hc'
    · cases h
  · cases h
end
end Go.Ab
namespace Go.Ab
open Go Go.RowKit
set_option linter.unusedVariables false
set_option linter.unusedSimpArgs false
section
variable {P : Program} {β : Lies} {n : Nat} {R : Nat -> Nat -> Value -> Prop}
theorem equal_succ (t : TypeId) (x y : Value) : Op.equal t x y = Op.equalIn (9999 + 1) t x y := rfl
inductive NilCase : TypeDesc -> Value -> Bool -> Prop
  | pointer (e : TypeId) (p : Option Addr) : NilCase (.pointer e) (.pointer p) p.isNone
  | slice (e : TypeId) (p : Option Addr) (l c : Nat) : NilCase (.slice e) (.slice p l c) p.isNone
  | map (k e : TypeId) (p : Option Nat) : NilCase (.map k e) (.map p) p.isNone
  | func (a b : Array TypeId) (v : Bool) (f : Fn) (x y : Array Value) : NilCase (.func a b v) (.func f x y) false
  | nilFunc (a b : Array TypeId) (v : Bool) : NilCase (.func a b v) .nilFunc true
  | iface (ms : Array (String × TypeId)) (t : TypeId) (v : Value) : NilCase (.interface ms) (.iface t v) false
  | nilIface (ms : Array (String × TypeId)) : NilCase (.interface ms) .nilIface true
theorem nilF_case {d : TypeDesc} {a : AV} {r : Bool} (h : nilF d a = some r) {x : Value} (ha : Rep β n R a x) : NilCase d x r := by
  unfold nilF at h
  split at h
  · cases h; cases ha; exact .pointer _ _
  · cases h; cases ha; exact .pointer _ _
  · cases h; cases ha; exact .pointer _ _
  · cases h; cases ha
    · exact .slice _ _ _ _
    · exact .slice _ _ _ _
  · cases h; cases ha; exact .slice _ _ _ _
  · cases h; cases ha; exact .map _ _ _
  · cases h; cases ha; exact .map _ _ _
  · cases h; cases ha; exact .func _ _ _ _ _ _
  · cases h; cases ha; exact .nilFunc _ _ _
  · cases h; cases ha; exact .iface _ _ _
  · cases h; cases ha; exact .nilIface _
  · cases h
theorem nilOf_pointer {e : TypeId} {y : Operand} (h : nilOf (.pointer e) y = true) : y = .const (.pointer none) := by
  unfold nilOf at h; split at h <;> simp_all
theorem nilOf_slice {e : TypeId} {y : Operand} (h : nilOf (.slice e) y = true) : ∃ l c, y = .const (.slice none l c) := by
  unfold nilOf at h; split at h <;> simp_all
theorem nilOf_map {k e : TypeId} {y : Operand} (h : nilOf (.map k e) y = true) : y = .const (.map none) := by
  unfold nilOf at h; split at h <;> simp_all
theorem nilOf_func {a b : Array TypeId} {v : Bool} {y : Operand} (h : nilOf (.func a b v) y = true) : y = .const .nilFunc := by
  unfold nilOf at h; split at h <;> simp_all
theorem nilOf_iface {ms : Array (String × TypeId)} {y : Operand} (h : nilOf (.interface ms) y = true) : y = .const .nilIface := by
  unfold nilOf at h; split at h <;> simp_all
theorem nilF_sound {d : TypeDesc} {a : AV} {r : Bool} (h : nilF d a = some r) {x : Value} (ha : Rep β n R a x) {t : TypeId} (ht : P.underlying t = some d) {y : Operand} (hy : nilOf d y = true)
    (op : BinOp) (hop : op = .eql ∨ op = .neq) (X : Operand) (act : Act) (w : World) :
    ((do eqGuard op t X y x (act.eval y); binOp op t x (act.eval y)) : Sem Value).run P w = .ok (.bool (if op == .neq then !r else r)) w := by
  have hc := nilF_case h ha
  clear h ha
  have fin : ∀ {op : BinOp}, (op = .eql ∨ op = .neq) -> ∀ {x v : Value}, (eqGuard op t X y x v).run P w = .ok () w -> (Op.equal t x v).run P w = .ok r w -> (binOp .eql t x v = (do pure (.bool (<- Op.equal t x v)))) -> (binOp .neq t x v = (do pure (.bool (!(<- Op.equal t x v))))) ->
      ((do eqGuard op t X y x v; binOp op t x v) : Sem Value).run P w = .ok (.bool (if op == .neq then !r else r)) w := by
    intro op hop x v hg he h1 h2
    rcases hop with rfl | rfl
    · simp [hg, h1, he]
    · simp [hg, h2, he]
  cases hc with
  | pointer e p =>
    obtain rfl := nilOf_pointer hy
    refine fin hop (eqGuard_plain (x := .pointer p) (by simp) (by simp) w) ?_ rfl rfl
    rw [equal_succ]; generalize 9999 = D; cases p <;> simp [Op.equalIn, run_und ht, Act.eval]
  | slice e p l c =>
    obtain ⟨l', c', rfl⟩ := nilOf_slice hy
    refine fin hop (eqGuard_plain (x := .slice p l c) (by simp) (by simp) w) ?_ rfl rfl
    rw [equal_succ]; generalize 9999 = D; cases p <;> simp [Op.equalIn, run_und ht, Act.eval]
  | map k e p =>
    obtain rfl := nilOf_map hy
    refine fin hop (eqGuard_plain (x := .map p) (by simp) (by simp) w) ?_ rfl rfl
    rw [equal_succ]; generalize 9999 = D; cases p <;> simp [Op.equalIn, run_und ht, Act.eval]
  | func a b v f x z =>
    obtain rfl := nilOf_func hy
    refine fin hop (eqGuard_plain (x := .func f x z) (by simp) (by simp) w) ?_ rfl rfl
    rw [equal_succ]; generalize 9999 = D; simp [Op.equalIn, run_und ht, Act.eval]
  | nilFunc a b v =>
    obtain rfl := nilOf_func hy
    refine fin hop (eqGuard_plain (x := .nilFunc) (by simp) (by simp) w) ?_ rfl rfl
    rw [equal_succ]; generalize 9999 = D; simp [Op.equalIn, run_und ht, Act.eval]
  | iface ms u v =>
    obtain rfl := nilOf_iface hy
    refine fin hop (eqGuard_plain (x := .iface u v) (by simp) (by simp) w) ?_ rfl rfl
    rw [equal_succ]; generalize 9999 = D; simp [Op.equalIn, run_und ht, Act.eval]
  | nilIface ms =>
    obtain rfl := nilOf_iface hy
    refine fin hop ?_ ?_ rfl rfl
    · unfold eqGuard; rcases hop with rfl | rfl <;> simp [Act.eval]
    · rw [equal_succ]; generalize 9999 = D; simp [Op.equalIn, run_und ht, Act.eval]
end
end Go.Ab
namespace Go.Ab
open Go Go.RowKit
set_option linter.unusedVariables false
set_option linter.unusedSimpArgs false
section
variable {P : Program} {β : Lies} {n : Nat} {R : Nat -> Nat -> Value -> Prop}
theorem eqF_sound {ks : List Leaf} {l : Option Nat} {a b : AV} {r : Bool} {t : TypeId} (hk : leavesOf P 1000 t = some ks) (hl : layOf P t = some l) (hs : laySize l = ks.length)
    (h : eqF ks l.isSome a b = some r) {x y : Value} (ha : Rep β n R a x) (hb : Rep β n R b y) (w : World) : (Op.equal t x y).run P w = .ok r w := by
  unfold eqF at h
  have hmax : ∀ x y, Op.equal t x y = Op.equalIn (1000 + 9000) t x y := fun _ _ => rfl
  cases l with
  | some m =>
    simp only [Option.isSome_some, if_true] at h
    simp only [laySize] at hs
    split at h
    · rename_i as bs
      cases ha with
      | @agg _ xs hlx hx =>
        cases hb with
        | @agg _ ys hly hy =>
          have hlen := leavesEq_length h
          obtain ⟨X, Y, pX, pY, he⟩ := equalIn_sound (β := β) (n := n) (R := R) 1000 t ks (some m) hk hl hs 9000 xs ys 0 0 as bs r
            (fun i a ha => by
              have := getElem?_lt ha
              exact ⟨xs[i]'(by omega), by simp, hx i a _ ha (by simp)⟩)
            (fun i a ha => by
              have := getElem?_lt ha
              exact ⟨ys[i]'(by omega), by simp, hy i a _ ha (by simp)⟩) h w
          have hA := layOf_agg hl w
          have hS := layOf_size hl w
          have e1 : xs.extract 0 m = xs := by rw [show m = xs.size by omega]; exact Array.extract_size
          have e2 : ys.extract 0 m = ys := by rw [show m = ys.size by omega]; exact Array.extract_size
          simp [part, hA, hS, laySize, e1] at pX
          simp [part, hA, hS, laySize, e2] at pY
          rw [hmax, pX, pY]; exact he
    · cases h
  | none =>
    simp only [Option.isSome_none, Bool.false_eq_true, if_false] at h
    split at h
    · rename_i k
      have hd : P.underlying t = some (leafDesc k) := by
        unfold leavesOf at hk
        split at hk
        · rename_i hu; cases hk; exact hu
        · rename_i hu; cases hk; exact hu
        · rename_i hu; cases hk; exact hu
        · rename_i hu; obtain ⟨_, h0⟩ := layOf_struct hu hl; cases h0
        · rename_i hu; obtain ⟨_, h0⟩ := layOf_array hu hl; cases h0
        · cases hk
      rw [equal_succ]
      exact leafEq_sound h ha hb 9999 hd w
    · cases h
theorem eqa_sound {ks : List Leaf} {l : Option Nat} {a b : AV} {r : Bool} {t : TypeId} (hk : leavesOf P 1000 t = some ks) (hl : layOf P t = some l) (hs : laySize l = ks.length) (hg : P.eqGuardType P.depth t = false)
    {d : TypeDesc} (hd : P.underlying t = some d) (hdd : d = .bool ∨ (∃ fs, d = .struct fs) ∨ ∃ m e, d = .array m e)
    (h : eqF ks l.isSome a b = some r) {x y : Value} (ha : Rep β n R a x) (hb : Rep β n R b y) (op : BinOp) (hop : op = .eql ∨ op = .neq) (X Y : Operand) (w : World) :
    ((do eqGuard op t X Y x y; binOp op t x y) : Sem Value).run P w = .ok (.bool (if op == .neq then !r else r)) w := by
  have he := eqF_sound hk hl hs h ha hb w
  -- both are aggregates, or both are bools
  have shape : (∃ xs ys, x = .agg xs ∧ y = .agg ys) ∨ (∃ p q, x = .bool p ∧ y = .bool q) := by
    unfold eqF at h
    cases l with
    | some m =>
      simp only [Option.isSome_some, if_true] at h
      split at h
      · cases ha; cases hb; exact .inl ⟨_, _, rfl, rfl⟩
      · cases h
    | none =>
      simp only [Option.isSome_none, Bool.false_eq_true, if_false] at h
      rcases hdd with rfl | ⟨fs, rfl⟩ | ⟨m, e, rfl⟩
      · have : ks = [.bool] := by
          unfold leavesOf at hk; rw [hd] at hk; simp at hk; exact hk.symm
        subst this
        simp only [leafEq] at h
        split at h <;> first | (cases h; done) | skip
        all_goals rename_i e
        all_goals first
          | (have := rep_v ha; have := rep_v hb; subst x; subst y; exact .inr ⟨_, _, rfl, rfl⟩)
          | (cases e)
      · obtain ⟨_, h0⟩ := layOf_struct hd hl; cases h0
      · obtain ⟨_, h0⟩ := layOf_array hd hl; cases h0
  rcases shape with ⟨xs, ys, rfl, rfl⟩ | ⟨p, q, rfl, rfl⟩
  · have hgd : (eqGuard op t X Y (.agg xs) (.agg ys)).run P w = .ok () w := by
      unfold eqGuard
      rcases hop with rfl | rfl <;> simp [hg]
    rcases hop with rfl | rfl
    · have hb : binOp .eql t (.agg xs) (.agg ys) = (do pure (.bool (<- Op.equal t (.agg xs) (.agg ys)))) := rfl
      simp [hgd, hb, he]
    · have hb : binOp .neq t (.agg xs) (.agg ys) = (do pure (.bool (!(<- Op.equal t (.agg xs) (.agg ys))))) := rfl
      simp [hgd, hb, he]
  · have hgd := eqGuard_plain (P := P) (op := op) (t := t) (X := X) (Y := Y) (x := .bool p) (y := .bool q) (by simp) (by simp) w
    rcases hop with rfl | rfl
    · have hb : binOp .eql t (.bool p) (.bool q) = (do pure (.bool (<- Op.equal t (.bool p) (.bool q)))) := rfl
      simp [hgd, hb, he]
    · have hb : binOp .neq t (.bool p) (.bool q) = (do pure (.bool (!(<- Op.equal t (.bool p) (.bool q))))) := rfl
      simp [hgd, hb, he]
theorem unF_sound {op : UnOp} {a r : AV} (h : unF op a = some r) {x : Value} (ha : Rep β n R a x) (w : World) : ∃ c, r = .v c ∧ (Op.unary op x).run P w = .ok c w := by
  unfold unF at h
  split at h
  · have := rep_v ha; subst x; cases h; exact ⟨_, rfl, by simp [Op.unary, Op.intArith]⟩
  · have := rep_v ha; subst x
    rw [Option.map_eq_some_iff] at h
    obtain ⟨r', h1, rfl⟩ := h
    exact ⟨_, rfl, by simp [Op.unary, bitsF_sound h1]⟩
  · have := rep_v ha; subst x; cases h; exact ⟨_, rfl, by simp [Op.unary]⟩
  · cases h
theorem lenF_str {a : AV} {m : Nat} (h : lenF true a = some m) {x : Value} (ha : Rep β n R a x) : ∃ s : ByteArray, x = .string s ∧ m = s.size := by
  unfold lenF at h
  rw [if_pos rfl] at h
  split at h
  · have := rep_v ha; subst x; cases h; exact ⟨_, rfl, rfl⟩
  · cases h
theorem lenF_sl {a : AV} {m : Nat} (h : lenF false a = some m) {x : Value} (ha : Rep β n R a x) : ∃ p c, x = .slice p m c := by
  unfold lenF at h
  rw [if_neg (by simp)] at h
  split at h
  · have := rep_v ha; subst x; cases h; exact ⟨_, _, rfl⟩
  · cases h; cases ha; exact ⟨_, _, rfl⟩
  · cases h
    cases ha
    · exact ⟨_, _, rfl⟩
    · exact ⟨_, _, rfl⟩
  · cases h
    cases ha
    · exact ⟨_, _, rfl⟩
    · exact ⟨_, _, rfl⟩
  · cases h
theorem partAddr_sound {l : Option Nat} {a r : AV} {off : Nat} (h : partAddr l a off = some r) {x : Value} (ha : Rep β n R a x) :
    ∃ b o, x = .pointer (some ⟨b, o, none⟩) ∧ Rep β n R r (.pointer (some ⟨b, o + off, none⟩)) := by
  unfold partAddr at h
  split at h
  · cases h
    cases ha with
    | ptr ho => exact ⟨_, _, rfl, by rw [Nat.add_assoc]; exact .ptr ho⟩
  · rename_i y
    rw [Option.bind_eq_some_iff] at h
    obtain ⟨z, hz, hzr⟩ := h
    split at hzr
    · rename_i hcond
      cases hzr
      cases ha with
      | @rp b o _ cv hR hr =>
        refine ⟨b, o, rfl, ?_⟩
        cases l with
        | some m =>
          simp only [partA] at hz
          split at hz
          · cases hz
            refine .rp (fun k => cv (off + k)) (fun k hk => ?_) (fun j a hj => ?_)
            · simp at hk
              rw [Nat.add_assoc]; exact hR _ (by omega)
            · simp only [AV.cells_agg] at hj
              have := getElem?_lt hj; simp at this
              rw [List.getElem?_take_of_lt (by omega), List.getElem?_drop] at hj
              exact hr _ _ hj
          · cases hz
        | none =>
          simp only [partA] at hz
          have hlt := getElem?_lt hz
          have hrz := hr _ _ hz
          have hcz : z.cells = [z] := by
            cases z <;> first | rfl | simp [AV.isAgg] at hcond
          refine .rp (fun k => cv (off + k)) (fun k hk => ?_) (fun j a hj => ?_)
          · rw [hcz] at hk
            simp at hk; subst hk
            exact hR _ hlt
          · rw [hcz] at hj
            cases j with
            | zero => simp at hj; subst hj; exact hrz
            | succ j => simp at hj
    · cases hzr
  · cases h
end
end Go.Ab
namespace Go.Ab
open Go Go.RowKit
set_option linter.unusedVariables false
set_option linter.unusedSimpArgs false
section
variable {P : Program} {β : Lies} {n : Nat} {R : Nat -> Nat -> Value -> Prop}
theorem mapM_get {α γ : Type} {f : α -> Option γ} : ∀ {xs : List α} {ys : List γ}, xs.mapM f = some ys -> ys.length = xs.length ∧ ∀ (i : Nat) (x : α) (y : γ), xs[i]? = some x -> ys[i]? = some y -> f x = some y := by
  intro xs
  induction xs with
  | nil => intro ys h; simp at h; subst h; simp
  | cons x xs ih =>
    intro ys h
    rw [List.mapM_cons] at h
    simp only [bind, Option.bind_eq_some_iff, pure, Option.some.injEq] at h
    obtain ⟨y, hy, ys', hys, rfl⟩ := h
    obtain ⟨hl, hg⟩ := ih hys
    refine ⟨by simp [hl], fun i a b ha hb => ?_⟩
    cases i with
    | zero => simp at ha hb; subst ha; subst hb; exact hy
    | succ i => simp at ha hb; exact hg i a b ha hb
theorem mmF_sound (mx : Bool) : ∀ (as : List AV) (a r : AV), mmF mx a as = some r -> ∀ (x : Value) (xs : List Value), Rep β n R a x -> as.length = xs.length -> (∀ (i : Nat) (a : AV) (c : Value), as[i]? = some a -> xs[i]? = some c -> Rep β n R a c) ->
    ∀ w, ∃ c, (xs.foldlM (if mx then Builtin.max2 else Builtin.min2) x).run P w = .ok c w ∧ Rep β n R r c := by
  intro as
  induction as with
  | nil =>
    intro a r h x xs hx hl _ w
    cases xs with
    | nil => simp [mmF] at h; subst h; exact ⟨x, rfl, hx⟩
    | cons _ _ => simp at hl
  | cons b as ih =>
    intro a r h x xs hx hl hr w
    cases xs with
    | nil => simp at hl
    | cons y xs =>
      unfold mmF at h
      split at h
      · simp_all
      · rename_i k p k' q rest heq
        injection heq with e1 e2
        subst e1; subst e2
        have hy := hr 0 _ _ rfl rfl
        have := rep_v hx; have := rep_v hy; subst x; subst y
        split at h
        · rename_i hk
          subst hk
          obtain ⟨c, hc, hrc⟩ := ih _ _ h (.int k (if mx then (if p < q then q else p) else (if q < p then q else p))) xs (.v _) (by simpa using hl) (fun i a c h1 h2 => hr (i + 1) a c (by simpa using h1) (by simpa using h2)) w
          refine ⟨c, ?_, hrc⟩
          rw [List.foldlM_cons, Sem.run_bind]
          have : ((if mx then Builtin.max2 else Builtin.min2) (.int k p) (.int k q)).run P w = .ok (.int k (if mx then (if p < q then q else p) else (if q < p then q else p))) w := by
            cases mx <;> simp [Builtin.max2, Builtin.min2]
          rw [this]; exact hc
        · cases h
      · cases h
theorem repO_map {ρ : Nat -> AV} {a : Act} (h : ∀ t, Rep β n R (ρ t) (a.tmps.getD t undef)) (x : Option Operand) : RepO β n R ((x.map trX).map (·.ev ρ)) (x.map a.eval) := by
  cases x with
  | none => trivial
  | some x => exact trX_rep h x
theorem list_rep {ρ : Nat -> AV} {a : Act} (h : ∀ t, Rep β n R (ρ t) (a.tmps.getD t undef)) (xs : List Operand) :
    ((xs.map trX).map (·.ev ρ)).length = (xs.map a.eval).length ∧ ∀ (i : Nat) (b : AV) (c : Value), ((xs.map trX).map (·.ev ρ))[i]? = some b -> (xs.map a.eval)[i]? = some c -> Rep β n R b c := by
  refine ⟨by simp, fun i b c hb hc => ?_⟩
  simp only [List.getElem?_map, Option.map_eq_some_iff] at hb hc
  obtain ⟨y, ⟨x, hx, rfl⟩, rfl⟩ := hb
  obtain ⟨x', hx', rfl⟩ := hc
  rw [hx] at hx'; cases hx'
  exact trX_rep h x
theorem info_und {t : TypeId} {i : TypeInfo} (h : P.info? t = some i) {z : Value} (hz : i.zero = some z) (w : World) : (zeroValue t).run P w = .ok z w := by
  simp [zeroValue, typeInfo, h, hz]
theorem places_run : ∀ (l : List Field), (∀ f ∈ l, ∃ l', layOf P f.type = some l') -> ∀ w, (l.mapM fun f => Prod.mk f.offset <$> sizeOf f.type : Sem (List (Nat × Nat))).run P w = .ok (l.map fun f => (f.offset, (layOf P f.type).elim 0 laySize)) w := by
  intro l
  induction l with
  | nil => intro _ w; rfl
  | cons f l ih =>
    intro hl w
    obtain ⟨l', hl'⟩ := hl f (by simp)
    rw [List.mapM_cons]
    have hS := layOf_size hl' w
    have h2 := ih (fun g hg => hl g (by simp [hg])) w
    simp only [Sem.run_bind, Sem.run_map, hS, Result.andThen_ok, h2, Sem.run_pure, List.map_cons, hl', Option.elim_some]
theorem pure_sound {o : Oper} {p : POp} (htr : trP P o = some p) {ρ : Nat -> AV} {a : Act} (hρ : ∀ t, Rep β n R (ρ t) (a.tmps.getD t undef)) {r : AV} (hp : p.run ρ = some r) (w : World) :
    ∃ c, (execOp a.eval o).run P w = .ok (.value c) w ∧ Rep β n R r c := by
  obtain ⟨dst, op, type, pos, after, guard⟩ := o
  have fin : ∀ {s : Sem Value} {c : Value}, s.run P w = .ok c w -> (do pure (Next.value (<- s)) : Sem Next).run P w = .ok (.value c) w := by
    intro s c h; simp [h]
  unfold trP at htr
  simp only at htr
  split at htr
  -- move
  · cases htr; simp only [POp.run, Option.some.injEq] at hp; subst hp; exact ⟨_, by simp [execOp], trX_rep hρ _⟩
  · cases htr; simp only [POp.run, Option.some.injEq] at hp; subst hp; exact ⟨_, by simp [execOp], trX_rep hρ _⟩
  -- pick
  · rename_i c x y
    cases htr
    simp only [POp.run] at hp
    split at hp
    · rename_i b hb
      cases hp
      have hc := trX_rep hρ c
      rw [hb] at hc
      have := rep_v hc
      cases b
      · exact ⟨_, by simp [execOp, this, asBool], trX_rep hρ y⟩
      · exact ⟨_, by simp [execOp, this, asBool], trX_rep hρ x⟩
    · cases hp
  -- build
  · rename_i t parts
    split at htr
    · rename_i z ps hz hps
      split at htr
      · rename_i hlaid
        cases htr
        simp only [POp.run, Option.map_eq_some_iff] at hp
        obtain ⟨cs, hcs, rfl⟩ := hp
        rw [Option.bind_eq_some_iff] at hz
        obtain ⟨i, hi, hz⟩ := hz
        have hzv := info_und hi hz w
        unfold placesOf at hps
        split at hps
        · rename_i fs hu
          obtain ⟨hlen, hget⟩ := mapM_get hps
          have hfl : ∀ f ∈ fs.toList, ∃ l, layOf P f.type = some l := by
            simp only [fieldsLaid, hu, List.all_eq_true] at hlaid
            intro f hf
            exact Option.isSome_iff_exists.1 (hlaid f hf)
          have hplaces : (fs.mapM fun f => Prod.mk f.offset <$> sizeOf f.type : Sem (Array (Nat × Nat))).run P w = .ok (fs.map fun f => (f.offset, (layOf P f.type).elim 0 laySize)) w := by
            rw [Array.mapM_eq_mapM_toList]
            have h2 := places_run fs.toList hfl w
            simp only [Sem.run_map, h2, Result.andThen_ok]
            congr 1
            apply Array.ext'
            simp
          obtain ⟨ys, hys, hw⟩ := fill_sound (β := β) (n := n) (R := R) (place := ((fs.map fun f => (f.offset, (layOf P f.type).elim 0 laySize))[·]?)) (parts.toList.map fun (i, x) => (i, a.eval x)) (ps.map fun (o, s, x) => (o, s, x.ev ρ)) _ z.cells cs
            (by simp [hlen]) (fun j p q hp hq => by
              simp only [List.getElem?_map, Option.map_eq_some_iff] at hp hq
              obtain ⟨⟨i0, x0⟩, hx0, rfl⟩ := hp
              obtain ⟨⟨o1, s1, x1⟩, hx1, rfl⟩ := hq
              have := hget j _ _ hx0 hx1
              simp only at this
              split at this
              · rename_i f hf
                split at this
                · rename_i l hl
                  cases this
                  exact ⟨by simp [hf, hl], trX_rep hρ x0⟩
                · cases this
              · cases this) (whole_v z.cells) hcs
          refine ⟨.agg ys, ?_, .agg hw.1 hw.2⟩
          refine fin ?_
          have hpl : (Array.map (fun x => (x.fst, a.eval x.snd)) parts).toList = parts.toList.map fun (i, x) => (i, a.eval x) := by simp
          have hys' : Instr.fill (fun x => Option.map (fun f : Field => (f.offset, (layOf P f.type).elim 0 laySize)) fs[x]?) z.cells (List.map (fun x => (x.fst, a.eval x.snd)) parts.toList) = some ys := by
            rw [<- hys]; congr 1; funext x; simp
          simp [Instr.build, hzv, run_und hu, hplaces, hpl, hys']
        · rename_i m e hu
          split at hps
          · rename_i l hl
            cases hps
            have hS := layOf_size hl w
            obtain ⟨ys, hys, hw⟩ := fill_sound (β := β) (n := n) (R := R) (place := fun i => some (i * laySize l, laySize l)) (parts.toList.map fun (i, x) => (i, a.eval x)) _ _ z.cells cs
              (by simp) (fun j p q hp hq => by
                simp only [List.getElem?_map, Option.map_eq_some_iff] at hp hq
                obtain ⟨⟨i0, x0⟩, hx0, rfl⟩ := hp
                obtain ⟨⟨o1, s1, x1⟩, ⟨⟨i2, x2⟩, hx1, he⟩, rfl⟩ := hq
                rw [hx0] at hx1; cases hx1; cases he
                exact ⟨rfl, trX_rep hρ x0⟩) (whole_v z.cells) hcs
            refine ⟨.agg ys, ?_, .agg hw.1 hw.2⟩
            refine fin ?_
            have hpl : (Array.map (fun x => (x.fst, a.eval x.snd)) parts).toList = parts.toList.map fun (i, x) => (i, a.eval x) := by simp
            simp [Instr.build, hzv, run_und hu, hS, hpl, hys]
          · cases hps
        · cases hps
      · cases htr
    · cases htr
  -- binOp
  · rename_i op t x y t'
    unfold trBin at htr
    split at htr
    · cases htr
      simp only [POp.run] at hp
      obtain ⟨c, hc, hrun⟩ := binF_sound (P := P) hp (trX_rep hρ x) (trX_rep hρ y) t x y w
      exact ⟨c, fin hrun, hc ▸ .v c⟩
    · cases htr
      simp only [POp.run] at hp
      obtain ⟨c, hc, hrun⟩ := binF_sound (P := P) hp (trX_rep hρ x) (trX_rep hρ y) t x y w
      exact ⟨c, fin hrun, hc ▸ .v c⟩
    · cases htr
      simp only [POp.run] at hp
      obtain ⟨c, hc, hrun⟩ := binF_sound (P := P) hp (trX_rep hρ x) (trX_rep hρ y) t x y w
      exact ⟨c, fin hrun, hc ▸ .v c⟩
    · rename_i d h1 h2 h3 hu
      have hop : op = .eql ∨ op = .neq := by
        cases op <;> first | exact .inl rfl | exact .inr rfl | (simp at htr; done)
      have nilc : nilOf d y = true -> (some (POp.eqn (op == .neq) d (trX x))) = some p -> ∃ c, (execOp a.eval { dst, op := .binOp op t x y t', type, pos, after, guard }).run P w = .ok (.value c) w ∧ Rep β n R r c := by
        intro hy hpp
        cases hpp
        simp only [POp.run, Option.map_eq_some_iff] at hp
        obtain ⟨b, hb, rfl⟩ := hp
        exact ⟨_, fin (nilF_sound hb (trX_rep hρ x) hu hy op hop x a w), .v _⟩
      have eqc : (d = .bool ∨ (∃ fs, d = .struct fs) ∨ ∃ m e, d = .array m e) ->
          (if P.eqGuardType P.depth t then none else
            match leavesOf P 1000 t, layOf P t with
            | some ks, some l => if laySize l = ks.length then some (POp.eqa (op == .neq) ks l.isSome (trX x) (trX y)) else none
            | _, _ => none) = some p -> ∃ c, (execOp a.eval { dst, op := .binOp op t x y t', type, pos, after, guard }).run P w = .ok (.value c) w ∧ Rep β n R r c := by
        intro hdd hpp
        split at hpp
        · cases hpp
        · rename_i hg
          split at hpp
          · rename_i ks l hk hl
            split at hpp
            · rename_i hs
              cases hpp
              simp only [POp.run, Option.map_eq_some_iff] at hp
              obtain ⟨b, hb, rfl⟩ := hp
              exact ⟨_, fin (eqa_sound hk hl hs (by simpa using hg) hu hdd hb (trX_rep hρ x) (trX_rep hρ y) op hop x y w), .v _⟩
            · cases hpp
          · cases hpp
      rcases hop with rfl | rfl
      all_goals
        simp only at htr
        split at htr
        all_goals first
          | (split at htr
             · rename_i hy; exact nilc hy htr
             · cases htr)
          | exact eqc (.inl rfl) htr
          | exact eqc (.inr (.inl ⟨_, rfl⟩)) htr
          | exact eqc (.inr (.inr ⟨_, _, rfl⟩)) htr
          | cases htr
    · cases htr
  -- unOp
  · rename_i op t x
    cases htr
    simp only [POp.run] at hp
    obtain ⟨c, hc, hrun⟩ := unF_sound (P := P) hp (trX_rep hρ x) w
    exact ⟨c, fin hrun, hc ▸ .v c⟩
  -- convert
  · rename_i src dstT x
    split at htr
    · rename_i k0 k hs hu
      cases htr
      simp only [POp.run] at hp
      split at hp
      · rename_i k' m hx
        cases hp
        have hr := trX_rep hρ x
        rw [hx] at hr
        have := rep_v hr
        exact ⟨_, fin (by rw [this]; simp [convert, run_und hs, run_und hu, Conv.intToInt]), .v _⟩
      · cases hp
    · rename_i hs hu
      cases htr
      simp only [POp.run] at hp
      split at hp
      · rename_i s hx
        cases hp
        have hr := trX_rep hρ x
        rw [hx] at hr
        have := rep_v hr
        exact ⟨_, fin (by rw [this]; simp [convert, run_und hs, run_und hu]), .v _⟩
      · cases hp
    · cases htr
  -- fieldAddr
  · rename_i s x f
    split at htr
    · rename_i fs hu
      split at htr
      · rename_i fd hf
        split at htr
        · rename_i l hl
          split at htr
          · cases htr
          · rename_i h0
            cases htr
            simp only [POp.run] at hp
            obtain ⟨b, o, hx, hr⟩ := partAddr_sound hp (trX_rep hρ x)
            have hS := layOf_size hl w
            refine ⟨_, fin (c := .pointer (some ⟨b, o + fd.offset, none⟩)) ?_, hr⟩
            have hadd : Addr.add ⟨b, o, none⟩ fd.offset = ⟨b, o + fd.offset, none⟩ := by
              unfold Addr.add; split
              · rename_i e; rw [e]; rfl
              · rfl
            simp [Instr.fieldAt, run_und hu, hf, hx, Instr.sureAddr, fieldPlace, hS, h0, hadd]
        · cases htr
      · cases htr
    · cases htr
  -- field
  · rename_i t x f
    split at htr
    · rename_i fs hu
      split at htr
      · rename_i fd hf
        split at htr
        · rename_i l hl
          cases htr
          simp only [POp.run] at hp
          split at hp
          · rename_i cs hx
            have hr := trX_rep hρ x
            rw [hx] at hr
            obtain ⟨vs, hv, hlen, hget⟩ : ∃ vs : Array Value, a.eval x = .agg vs ∧ cs.length = vs.size ∧ ∀ (i : Nat) (b : AV) (c : Value), cs[i]? = some b -> vs[i]? = some c -> Rep β n R b c := by
              generalize a.eval x = v at hr
              cases hr with
              | agg hl h => exact ⟨_, rfl, hl, h⟩
            obtain ⟨c, hc, hrc⟩ := part_sound hl hlen hget hp w
            exact ⟨c, fin (by simp [Instr.field, run_und hu, hf, hv, asAgg, hc]), hrc⟩
          · cases hp
        · cases htr
      · cases htr
    · cases htr
  -- index
  · rename_i t x i
    split at htr
    · rename_i m e hu
      split at htr
      · rename_i l hl
        cases htr
        simp only [POp.run] at hp
        split at hp
        · rename_i cs k q hx hi
          have hr := trX_rep hρ x
          rw [hx] at hr
          have hri := trX_rep hρ i
          rw [hi] at hri
          have hiv := rep_v hri
          obtain ⟨vs, hv, hlen, hget⟩ : ∃ vs : Array Value, a.eval x = .agg vs ∧ cs.length = vs.size ∧ ∀ (i : Nat) (b : AV) (c : Value), cs[i]? = some b -> vs[i]? = some c -> Rep β n R b c := by
            generalize a.eval x = v at hr
            cases hr with
            | agg hl h => exact ⟨_, rfl, hl, h⟩
          split at hp
          · rename_i hb
            have hS := layOf_size hl w
            obtain ⟨c, hc, hrc⟩ := part_sound hl hlen hget hp w
            exact ⟨c, fin (by simp [Instr.index, hv, hiv, asIntOf, run_und hu, hb, hS, hc]), hrc⟩
          · cases hp
        · cases hp
      · cases htr
    · rename_i hu
      cases htr
      simp only [POp.run] at hp
      split at hp
      · rename_i s k q hx hi
        have hr := trX_rep hρ x
        rw [hx] at hr
        have hv := rep_v hr
        have hri := trX_rep hρ i
        rw [hi] at hri
        have hiv := rep_v hri
        split at hp
        · rename_i hb
          rw [Option.map_eq_some_iff] at hp
          obtain ⟨b, hb', rfl⟩ := hp
          have hsb : s[q.toNat]? = some b := hb'
          exact ⟨_, fin (by simp [Instr.index, hv, hiv, asIntOf, run_und hu, hb, hsb]), .v _⟩
        · cases hp
      · cases hp
    · cases htr
  -- indexAddr
  · rename_i t x i
    split at htr
    · rename_i m e hu
      split at htr
      · rename_i l hl
        cases htr
        simp only [POp.run] at hp
        split at hp
        · rename_i k q hi
          have hri := trX_rep hρ i
          rw [hi] at hri
          have hiv := rep_v hri
          split at hp
          · rename_i hb
            obtain ⟨bl, o, hx, hr⟩ := partAddr_sound hp (trX_rep hρ x)
            have hS := layOf_size hl w
            have hadd : Addr.add ⟨bl, o, none⟩ (q.toNat * laySize l) = ⟨bl, o + q.toNat * laySize l, none⟩ := by
              unfold Addr.add; split
              · rename_i e; rw [e]; rfl
              · rfl
            exact ⟨_, fin (c := .pointer (some ⟨bl, o + q.toNat * laySize l, none⟩)) (by simp [Instr.indexAt, hx, hiv, asIntOf, run_und hu, Instr.sureAddr, hb, hS, hadd]), hr⟩
          · cases hp
        · cases hp
      · cases htr
    · rename_i e hu
      split at htr
      · rename_i l hl
        cases htr
        have hS := layOf_size hl w
        simp only [POp.run] at hp
        have run : ∀ (bl o len cap : Nat) (q : Int) (k : IntKind), a.eval x = .slice (some ⟨bl, o, none⟩) len cap -> a.eval i = .int k q -> 0 <= q -> q < (len : Int) ->
            (Instr.indexAt t (a.eval x) (a.eval i)).run P w = .ok (.pointer (some ⟨bl, o + q.toNat * laySize l, none⟩)) w := by
          intro bl o len cap q k hx hi h1 h2
          have hadd : Addr.add ⟨bl, o, none⟩ (q.toNat * laySize l) = ⟨bl, o + q.toNat * laySize l, none⟩ := by
            unfold Addr.add; split
            · rename_i e; rw [e]; rfl
            · rfl
          simp [Instr.indexAt, hx, hi, asIntOf, run_und hu, h1, h2, hS, hadd]
        split at hp
        · rename_i s xs k q hx hi
          have hri := trX_rep hρ i
          rw [hi] at hri
          have hiv := rep_v hri
          have hr := trX_rep hρ x
          rw [hx] at hr
          split at hp
          · rename_i hb
            rw [Option.map_eq_some_iff] at hp
            obtain ⟨y, hy, rfl⟩ := hp
            have hlt := getElem?_lt hy
            generalize hv : a.eval x = v at hr
            cases hr with
            | lstNil _ _ _ => simp at hy
            | @lst _ bl o cap _ cv hc hR hs h =>
              have hys := hs _ y hy
              refine ⟨_, fin (run bl o xs.length cap q k hv hiv hb.2 (by omega)), ?_⟩
              have hsz : s = laySize l := hb.1
              rw [<- hsz]
              refine .rp (fun j => cv (q.toNat * s + j)) (fun j hj => ?_) (fun j b hj => h _ y j b hy hj)
              rw [Nat.add_assoc]
              refine hR _ ?_
              rw [hys] at hj
              have : (q.toNat + 1) * s <= xs.length * s := Nat.mul_le_mul_right _ hlt
              rw [Nat.add_mul] at this; omega
          · cases hp
        · rename_i s o off m cap k q hx hi
          have hri := trX_rep hρ i
          rw [hi] at hri
          have hiv := rep_v hri
          have hr := trX_rep hρ x
          rw [hx] at hr
          split at hp
          · rename_i hb
            cases hp
            generalize hv : a.eval x = v at hr
            cases hr with
            | slZero p _ _ => have := hb.2; omega
            | sl ho hlc hc hn =>
              refine ⟨_, fin (run _ _ _ _ q k hv hiv hb.2.1 hb.2.2), ?_⟩
              have hsz : s = laySize l := hb.1
              rw [<- hsz, Nat.add_assoc]
              exact .ptr ho
          · cases hp
        · cases hp
      · cases htr
    · cases htr
  -- slice
  · rename_i t x lo hi mx
    split at htr
    · rename_i hu
      split at htr
      · cases htr
      · rename_i hmx
        cases htr
        have hmx' : mx = none := by cases mx <;> simp_all
        subst hmx'
        simp only [POp.run] at hp
        split at hp
        · rename_i s hx
          have hr := trX_rep hρ x
          rw [hx] at hr
          have hv := rep_v hr
          rw [Option.map_eq_some_iff] at hp
          obtain ⟨⟨l', h', m'⟩, hb, rfl⟩ := hp
          have hbs := boundsF_sound (P := P) hb (repO_map hρ lo) (repO_map hρ hi) (vmx := none) trivial false (Nat.le_refl _) w
          exact ⟨_, fin (c := .string (s.extract l' h')) (by simp [Instr.sliceAt, Instr.slice, hv, run_und hu, hbs.1]), .v _⟩
        · cases hp
    · rename_i e hu
      split at htr
      · rename_i l hl
        cases htr
        simp only [POp.run] at hp
        obtain ⟨c, hc, hrc⟩ := sliceF_sound hp (trX_rep hρ x) (repO_map hρ lo) (repO_map hρ hi) (repO_map hρ mx) hu hl rfl w
        exact ⟨c, fin hc, hrc⟩
      · cases htr
    · cases htr
  -- extract
  · rename_i x i
    cases htr
    simp only [POp.run] at hp
    split at hp
    · rename_i vs hx
      have hr := trX_rep hρ x
      rw [hx] at hr
      generalize hv : a.eval x = v at hr
      cases hr with
      | @tup _ ws hl h =>
        have hlt := getElem?_lt hp
        have hw : ws[i]? = some (ws[i]'(by omega)) := by simp
        exact ⟨_, fin (by simp [Instr.extract, hv, hw]), h _ _ _ hp hw⟩
    · cases hp
  -- makeFunc
  · rename_i f first cap
    split at htr
    · rename_i h0
      cases htr
      simp only [POp.run, Option.some.injEq] at hp
      subst hp
      have h0' : first = #[] := by simpa using h0
      subst h0'
      have hl := list_rep hρ cap.toList
      refine ⟨.func (.func f) #[] (cap.map a.eval), fin (by simp [Instr.makeFunc]), .fn (by simp) fun i b c hb hc => ?_⟩
      refine hl.2 i b c hb ?_
      have := hc
      rw [<- Array.getElem?_toList, Array.toList_map] at this
      exact this
    · cases htr
  -- makeInterface
  · rename_i t x
    split at htr
    · cases htr
    · rename_i d h1 hu
      cases htr
      simp only [POp.run, Option.some.injEq] at hp
      subst hp
      refine ⟨.iface t (a.eval x), fin ?_, .ifc (trX_rep hρ x)⟩
      unfold Instr.makeInterface
      simp only [Sem.run_bind, run_und hu, Result.andThen_ok]
      first
        | rfl
        | (split
           · rename_i ms; exact absurd rfl (h1 ms)
           · rfl)
    · cases htr
  -- nilCheck
  · rename_i x
    cases htr
    simp only [POp.run] at hp
    have hr := trX_rep hρ x
    split at hp
    · rename_i o k hx
      cases hp
      rw [hx] at hr
      generalize hv : a.eval x = v at hr
      cases hr with
      | ptr ho => exact ⟨_, by simp [execOp, hv], .ptr ho⟩
    · rename_i y hx
      cases hp
      rw [hx] at hr
      generalize hv : a.eval x = v at hr
      cases hr with
      | rp cv h1 h2 => exact ⟨_, by simp [execOp, hv], .rp cv h1 h2⟩
    · rename_i f cs hx
      cases hp
      rw [hx] at hr
      generalize hv : a.eval x = v at hr
      cases hr with
      | fn hl h => exact ⟨_, by simp [execOp, hv], .fn hl h⟩
    · cases hp
  -- len
  · rename_i args argTypes
    have call : ∀ (ts : Array TypeId) (xs : Array Operand) (b : Builtin) (c : Value), (∀ cs, (Go.builtin b ts type cs (xs.map a.eval)).run P w = .ok (.value c) w) ->
        (execOp a.eval { dst, op := .call { callee := .builtin b, args := xs, argTypes := ts }, type, pos, after, guard }).run P w = .ok (.value c) w := by
      intro ts xs b c h
      simp only [execOp, resolve, Sem.run_bind, Sem.run_pure, Result.andThen_ok, invoke]
      exact h _
    split at htr
    · rename_i x t hx ht
      have hargs : args = #[x] := by
        apply Array.ext'; simpa using hx
      subst hargs
      have lc : ∀ m : Nat, (Builtin.len_ argTypes type #[a.eval x]).run P w = .ok (.int .i64 m) w -> some (POp.lenC m) = some p -> ∃ c, (execOp a.eval { dst, op := .call { callee := .builtin .len, args := #[x], argTypes := argTypes }, type, pos, after, guard }).run P w = .ok (.value c) w ∧ Rep β n R r c := by
        intro m hl hpp
        cases hpp
        simp only [POp.run, Option.some.injEq] at hp
        subst hp
        exact ⟨_, call _ _ _ _ (fun cs => by simp [builtin, hl]), .v _⟩
      split at htr
      · rename_i hu
        cases htr
        simp only [POp.run, Option.map_eq_some_iff] at hp
        obtain ⟨m, hm, rfl⟩ := hp
        obtain ⟨s, hv, rfl⟩ := lenF_str hm (trX_rep hρ x)
        exact ⟨_, call _ _ _ _ (fun cs => by simp [builtin, Builtin.len_, ht, hv, run_und hu, goInt]), .v _⟩
      · rename_i e hu
        cases htr
        simp only [POp.run, Option.map_eq_some_iff] at hp
        obtain ⟨m, hm, rfl⟩ := hp
        obtain ⟨q, c, hv⟩ := lenF_sl hm (trX_rep hρ x)
        exact ⟨_, call _ _ _ _ (fun cs => by simp [builtin, Builtin.len_, ht, hv, run_und hu, goInt]), .v _⟩
      · rename_i m e hu
        exact lc m (by simp [Builtin.len_, ht, run_und hu, goInt]) htr
      · rename_i b hu
        split at htr
        · rename_i m e hu2
          exact lc m (by simp [Builtin.len_, ht, run_und hu, run_und hu2, goInt]) htr
        · cases htr
      · cases htr
    · cases htr
  -- max
  · rename_i args argTypes
    split at htr
    · rename_i x xs hx
      cases htr
      simp only [POp.run] at hp
      have hl := list_rep hρ xs
      obtain ⟨c, hc, hrc⟩ := mmF_sound true _ _ _ hp (a.eval x) (xs.map a.eval) (trX_rep hρ x) hl.1 hl.2 w
      refine ⟨c, ?_, hrc⟩
      have hc' : ((xs.map a.eval).foldlM Builtin.max2 (a.eval x)).run P w = .ok c w := hc
      simp [execOp, resolve, invoke, builtin, Builtin.max_, hx, hc']
    · cases htr
  -- min
  · rename_i args argTypes
    split at htr
    · rename_i x xs hx
      cases htr
      simp only [POp.run] at hp
      have hl := list_rep hρ xs
      obtain ⟨c, hc, hrc⟩ := mmF_sound false _ _ _ hp (a.eval x) (xs.map a.eval) (trX_rep hρ x) hl.1 hl.2 w
      refine ⟨c, ?_, hrc⟩
      have hc' : ((xs.map a.eval).foldlM Builtin.min2 (a.eval x)).run P w = .ok c w := hc
      simp [execOp, resolve, invoke, builtin, Builtin.min_, hx, hc']
    · cases htr
  · cases htr
end
end Go.Ab

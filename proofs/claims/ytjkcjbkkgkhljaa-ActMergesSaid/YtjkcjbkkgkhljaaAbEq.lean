/- A part of a law's proof: AbEq. -/
import Derived.ChangeKeysEq
import Derived.Test.YtjkcjbkkgkhljaaAbPure
set_option linter.unusedVariables false
set_option linter.unusedSimpArgs false
set_option linter.constructorNameAsVariable false
/-
  Equality of values whose parts are numbers, bools and texts.
-/
namespace Go.Ab
open Go Go.RowKit
def leavesFields (P : Program) (rec : TypeId -> Option (List Leaf)) : List Field -> Nat -> Option (List Leaf)
  | [], _ => some []
  | f :: fs, off =>
    if f.name = "_" ∨ f.offset ≠ off then none else
    match rec f.type, layOf P f.type with
    | some ks, some l => if laySize l = ks.length then (leavesFields P rec fs (off + ks.length)).map (ks ++ ·) else none
    | _, _ => none
def leavesOf (P : Program) : (depth : Nat) -> TypeId -> Option (List Leaf)
  | 0, _ => none
  | d + 1, t =>
    match P.underlying t with
    | some (.int k) => some [.int k]
    | some .bool => some [.bool]
    | some .string => some [.str]
    | some (.struct fs) => if P.stoodInHeld t then none else leavesFields P (leavesOf P d) fs.toList 0
    | some (.array m e) =>
      match leavesOf P d e, layOf P e with
      | some ks, some l => if laySize l = ks.length then some (List.replicate m ks).flatten else none
      | _, _ => none
    | _ => none
theorem leavesEq_length {ks : List Leaf} : ∀ {as bs : List AV} {r : Bool}, leavesEq ks as bs = some r -> as.length = ks.length ∧ bs.length = ks.length := by
  induction ks with
  | nil => intro as bs r h; cases as <;> cases bs <;> simp_all [leavesEq]
  | cons k ks ih =>
    intro as bs r h
    cases as with
    | nil => cases bs <;> simp [leavesEq] at h
    | cons a as => cases bs with
      | nil => simp [leavesEq] at h
      | cons b bs =>
        simp only [leavesEq] at h
        split at h
        · rename_i h1 h2; have := ih h2; simp; omega
        · cases h
theorem leavesEq_append {ks js : List Leaf} : ∀ {as bs : List AV} {r : Bool}, leavesEq (ks ++ js) as bs = some r ->
    ∃ p q, leavesEq ks (as.take ks.length) (bs.take ks.length) = some p ∧ leavesEq js (as.drop ks.length) (bs.drop ks.length) = some q ∧ r = (p && q) := by
  induction ks with
  | nil => intro as bs r h; exact ⟨true, r, by simp [leavesEq], by simpa using h, by simp⟩
  | cons k ks ih =>
    intro as bs r h
    cases as with
    | nil => cases bs <;> simp [leavesEq] at h
    | cons a as => cases bs with
      | nil => simp [leavesEq] at h
      | cons b bs =>
        simp only [List.cons_append, leavesEq] at h
        split at h
        · rename_i x y h1 h2
          cases h
          obtain ⟨p, q, hp, hq, rfl⟩ := ih h2
          exact ⟨x && p, q, by simp [leavesEq, h1, hp], by simpa using hq, by simp [Bool.and_assoc]⟩
        · cases h
section
variable {P : Program} {β : Lies} {n : Nat} {R : Nat -> Nat -> Value -> Prop}
def At (β : Lies) (n : Nat) (R : Nat -> Nat -> Value -> Prop) (xs : Array Value) (off : Nat) (as : List AV) : Prop :=
  ∀ (i : Nat) (a : AV), as[i]? = some a -> ∃ c, xs[off + i]? = some c ∧ Rep β n R a c
theorem At.take {xs : Array Value} {off : Nat} {as : List AV} (h : At β n R xs off as) (m : Nat) : At β n R xs off (as.take m) := fun i a ha => by
  have := getElem?_lt ha; simp at this
  rw [List.getElem?_take_of_lt (by omega)] at ha
  exact h i a ha
theorem At.drop {xs : Array Value} {off : Nat} {as : List AV} (h : At β n R xs off as) (m : Nat) : At β n R xs (off + m) (as.drop m) := fun i a ha => by
  rw [List.getElem?_drop] at ha
  obtain ⟨c, hc, hr⟩ := h _ a ha
  exact ⟨c, by rw [Nat.add_assoc]; exact hc, hr⟩
theorem rep_v {x : Value} {c : Value} (h : Rep β n R (.v x) c) : c = x := by cases h; rfl
def leafDesc : Leaf -> TypeDesc
  | .int k => .int k
  | .bool => .bool
  | .str => .string
theorem layOf_struct {t : TypeId} {fs : Array Field} {l : Option Nat} (hu : P.underlying t = some (.struct fs)) (hl : layOf P t = some l) : ∃ m, l = some m := by
  unfold layOf at hl; rw [hu] at hl; cases hi : P.info? t with
  | none => rw [hi] at hl; simp at hl
  | some i => rw [hi] at hl; simp at hl; exact ⟨_, hl.symm⟩
theorem layOf_array {t e : TypeId} {m : Nat} {l : Option Nat} (hu : P.underlying t = some (.array m e)) (hl : layOf P t = some l) : ∃ m, l = some m := by
  unfold layOf at hl; rw [hu] at hl; cases hi : P.info? t with
  | none => rw [hi] at hl; simp at hl
  | some i => rw [hi] at hl; simp at hl; exact ⟨_, hl.symm⟩
theorem layOf_leaf {t : TypeId} {k : Leaf} {l : Option Nat} (hu : P.underlying t = some (leafDesc k)) (hl : layOf P t = some l) : l = none := by
  unfold layOf at hl; rw [hu] at hl
  cases hi : P.info? t with
  | none => rw [hi] at hl; cases k <;> simp [leafDesc] at hl
  | some i => rw [hi] at hl; cases k <;> simp [leafDesc] at hl <;> exact hl.2.symm
theorem layOf_info {t : TypeId} {l : Option Nat} (hl : layOf P t = some l) : ∃ i, P.info? t = some i := by
  unfold layOf at hl; cases hi : P.info? t with
  | none => rw [hi] at hl; split at hl <;> simp_all
  | some i => exact ⟨i, rfl⟩
theorem leafEq_sound {k : Leaf} {a b : AV} {r : Bool} (h : leafEq k a b = some r) {x y : Value} (ha : Rep β n R a x) (hb : Rep β n R b y) {t : TypeId} (d : Nat)
    (hk : P.underlying t = some (leafDesc k)) (w : World) :
    (Op.equalIn (d + 1) t x y).run P w = .ok r w := by
  unfold leafEq at h
  split at h
  · have := rep_v ha; have := rep_v hb; subst x; subst y
    rename_i k k₁ _ k₂ _
    by_cases he : k = k₁ ∧ k = k₂
    · obtain ⟨rfl, rfl⟩ := he
      simp only [and_self, if_true, Option.some.injEq] at h
      subst h; simp [Op.equalIn, run_und hk, leafDesc]
    · rw [if_neg he] at h; cases h
  · have := rep_v ha; have := rep_v hb; subst x; subst y
    simp only [Option.some.injEq] at h
    subst h; simp [Op.equalIn, run_und hk, leafDesc]
  · have := rep_v ha; have := rep_v hb; subst x; subst y
    simp only [Option.some.injEq] at h
    subst h; simp [Op.equalIn, run_und hk, leafDesc]
  · cases h
theorem equalIn_sound : ∀ (d : Nat) (t : TypeId) (ks : List Leaf) (l : Option Nat), leavesOf P d t = some ks -> layOf P t = some l -> laySize l = ks.length ->
    ∀ (D : Nat) (xs ys : Array Value) (ox oy : Nat) (as bs : List AV) (r : Bool), At β n R xs ox as -> At β n R ys oy bs -> leavesEq ks as bs = some r ->
    ∀ w, ∃ X Y, (part t xs ox).run P w = .ok X w ∧ (part t ys oy).run P w = .ok Y w ∧ (Op.equalIn (d + D) t X Y).run P w = .ok r w := by
  intro d
  induction d with
  | zero => intro t ks l h; simp [leavesOf] at h
  | succ d ih =>
    intro t ks l h hl hls D xs ys ox oy as bs r hx hy he w
    have hA := layOf_agg hl w
    have hS := layOf_size hl w
    have hlen := leavesEq_length he
    have hdd : d + 1 + D = (d + D) + 1 := by omega
    -- the parts
    have leafCase : ∀ k : Leaf, ks = [k] -> l = none -> P.underlying t = some (leafDesc k) ->
        ∃ X Y, (part t xs ox).run P w = .ok X w ∧ (part t ys oy).run P w = .ok Y w ∧ (Op.equalIn (d + 1 + D) t X Y).run P w = .ok r w := by
      intro k hk hln hu
      subst hk; subst hln
      match as, bs, hlen with
      | [a], [b], _ =>
        obtain ⟨X, hX, rX⟩ := hx 0 a rfl
        obtain ⟨Y, hY, rY⟩ := hy 0 b rfl
        simp only [leavesEq] at he
        split at he
        · rename_i p q hp hq
          cases hq; cases he
          refine ⟨X, Y, by simp only [Nat.add_zero] at hX; simp [part, hA, hX], by simp only [Nat.add_zero] at hY; simp [part, hA, hY], ?_⟩
          rw [hdd]; simpa using leafEq_sound hp rX rY (d + D) hu w
        · cases he
    simp only [leavesOf] at h
    split at h
    · rename_i k hu
      cases h
      exact leafCase (.int k) rfl (layOf_leaf (k := .int k) hu hl) hu
    · rename_i hu
      cases h
      exact leafCase .bool rfl (layOf_leaf (k := .bool) hu hl) hu
    · rename_i hu
      cases h
      exact leafCase .str rfl (layOf_leaf (k := .str) hu hl) hu
    · rename_i fs hu
      split at h
      · cases h
      · rename_i hst
        obtain ⟨m, rfl⟩ := layOf_struct hu hl
        simp only [laySize] at hls
        refine ⟨.agg (xs.extract ox (ox + m)), .agg (ys.extract oy (oy + m)), by simp [part, hA, hS, laySize], by simp [part, hA, hS, laySize], ?_⟩
        have hfo : P.fieldsOf t = fs := by simp [Program.fieldsOf, hu]
        rw [hdd, run_equalIn_struct w (d + D) t _ _ (by rw [hfo]; exact hu) (by simpa using hst), hfo]
        have hX : At β n R (xs.extract ox (ox + m)) 0 as := fun i a ha => by
          obtain ⟨c, hc, hr⟩ := hx i a ha
          refine ⟨c, ?_, hr⟩
          have := getElem?_lt ha
          rw [Nat.zero_add, Array.getElem?_extract, if_pos (by have := getElem?_lt ha; have : ox + i < xs.size := by rcases Nat.lt_or_ge (ox + i) xs.size with h | h; exact h; simp [Array.getElem?_eq_none h] at hc
                                                               omega)]
          exact hc
        have hY : At β n R (ys.extract oy (oy + m)) 0 bs := fun i a ha => by
          obtain ⟨c, hc, hr⟩ := hy i a ha
          refine ⟨c, ?_, hr⟩
          have := getElem?_lt ha
          rw [Nat.zero_add, Array.getElem?_extract, if_pos (by have := getElem?_lt ha; have : oy + i < ys.size := by rcases Nat.lt_or_ge (oy + i) ys.size with h | h; exact h; simp [Array.getElem?_eq_none h] at hc
                                                               omega)]
          exact hc
        clear hx hy hu hfo hlen hS hA hls hl leafCase
        generalize xs.extract ox (ox + m) = XS at *
        generalize ys.extract oy (oy + m) = YS at *
        generalize 0 = off at *
        generalize fs.toList = fl at *
        induction fl generalizing off ks as bs r with
        | nil =>
          simp only [leavesFields] at h; cases h
          match as, bs with
          | [], [] => simp [leavesEq] at he; subst he; simp [Op.eqFields]
          | [], _ :: _ => simp [leavesEq] at he
          | _ :: _, _ => simp [leavesEq] at he
        | cons f fl ihf =>
          simp only [leavesFields] at h
          split at h
          · cases h
          · rename_i hname
            simp only [not_or, Decidable.not_not] at hname
            split at h
            · rename_i ks₁ l₁ hk₁ hl₁
              split at h
              · rename_i hsz
                rw [Option.map_eq_some_iff] at h
                obtain ⟨ks₂, hk₂, rfl⟩ := h
                obtain ⟨p, q, hp, hq, rfl⟩ := leavesEq_append he
                obtain ⟨X, Y, pX, pY, hXY⟩ := ih f.type ks₁ l₁ hk₁ hl₁ hsz D XS YS off off _ _ p (hX.take _) (hY.take _) hp w
                have hrec := ihf _ _ _ q hq (off + ks₁.length) (hX.drop _) (hY.drop _) hk₂
                rw [<- hname.2] at pX pY
                simp only [Op.eqFields, Sem.run_bind, Sem.run_ite]
                rw [if_pos hname.1]
                simp only [pX, pY, Result.andThen_ok, hXY]
                cases p
                · simp
                · simpa using hrec
              · cases h
            · cases h
    · rename_i m e hu
      split at h
      · rename_i ks₁ l₁ hk₁ hl₁
        split at h
        · rename_i hsz
          cases h
          obtain ⟨m', rfl⟩ := layOf_array hu hl
          simp only [laySize] at hls
          refine ⟨.agg (xs.extract ox (ox + m')), .agg (ys.extract oy (oy + m')), by simp [part, hA, hS, laySize], by simp [part, hA, hS, laySize], ?_⟩
          obtain ⟨i, hi⟩ := layOf_info hl₁
          have hce : P.cellsOf e = ks₁.length := by
            have h1 := layOf_size hl₁ w
            have h2 := run_sizeOf w hi
            rw [h1] at h2; injection h2 with h2; rw [<- h2, hsz]
          rw [hdd, run_equalIn_array w (d + D) _ _ hu hi, hce]
          have hX : At β n R (xs.extract ox (ox + m')) 0 as := fun i a ha => by
            obtain ⟨c, hc, hr⟩ := hx i a ha
            refine ⟨c, ?_, hr⟩
            have := getElem?_lt ha
            rw [Nat.zero_add, Array.getElem?_extract, if_pos (by have : ox + i < xs.size := by rcases Nat.lt_or_ge (ox + i) xs.size with h | h; exact h; simp [Array.getElem?_eq_none h] at hc
                                                                 omega)]
            exact hc
          have hY : At β n R (ys.extract oy (oy + m')) 0 bs := fun i a ha => by
            obtain ⟨c, hc, hr⟩ := hy i a ha
            refine ⟨c, ?_, hr⟩
            have := getElem?_lt ha
            rw [Nat.zero_add, Array.getElem?_extract, if_pos (by have : oy + i < ys.size := by rcases Nat.lt_or_ge (oy + i) ys.size with h | h; exact h; simp [Array.getElem?_eq_none h] at hc
                                                                 omega)]
            exact hc
          clear hx hy hu hlen hS hA hls hl leafCase
          generalize xs.extract ox (ox + m') = XS at *
          generalize ys.extract oy (oy + m') = YS at *
          rw [List.range_eq_range']
          rw [show (0 : Nat) = 0 * ks₁.length by simp] at hX hY
          generalize 0 = j at *
          induction m generalizing j as bs r with
          | zero =>
            simp only [List.replicate_zero, List.flatten_nil] at he
            match as, bs with
            | [], [] => simp [leavesEq] at he; subst he; simp [Op.eqItems]
            | [], _ :: _ => simp [leavesEq] at he
            | _ :: _, _ => simp [leavesEq] at he
          | succ m ihm =>
            rw [List.replicate_succ, List.flatten_cons] at he
            obtain ⟨p, q, hp, hq, rfl⟩ := leavesEq_append he
            obtain ⟨X, Y, pX, pY, hXY⟩ := ih e ks₁ l₁ hk₁ hl₁ hsz D XS YS _ _ _ _ p (hX.take _) (hY.take _) hp w
            have hrec := ihm _ _ q hq (j + 1) (by rw [Nat.add_mul, Nat.one_mul]; exact hX.drop _) (by rw [Nat.add_mul, Nat.one_mul]; exact hY.drop _)
            rw [List.range'_succ]
            simp only [Op.eqItems, Sem.run_bind, pX, pY, Result.andThen_ok, hXY]
            cases p
            · simp
            · simpa using hrec
        · cases h
      · cases h
    · cases h
end
end Go.Ab

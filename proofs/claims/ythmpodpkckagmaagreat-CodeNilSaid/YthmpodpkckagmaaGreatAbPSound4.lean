/- A part of the proof of CodeNil: AbPSound4. -/
import Derived.Test.YthmpodpkckagmaaGreatAbPSound3
set_option linter.constructorNameAsVariable false
namespace Go.Ab
open Go Go.RowKit
set_option linter.unusedVariables false
set_option linter.unusedSimpArgs false

section
variable {P : Program} {β : Nat → Em} {n : Nat} {R : Nat → Nat → Value → Prop}

theorem eqF_sound {ks : List Leaf} {l : Option Nat} {a b : AV} {r : Bool} {t : TypeId} (hk : leavesOf P 1000 t = some ks) (hl : layOf P t = some l) (hs : laySize l = ks.length)
    (h : eqF ks l.isSome a b = some r) {x y : Value} (ha : Rep β n R a x) (hb : Rep β n R b y) (w : World) : (Op.equal t x y).run P w = .ok r w := by
  unfold eqF at h
  have hmax : ∀ x y, Op.equal t x y = Op.equalIn (1000 + 9000) t x y := fun _ _ => rfl
  cases l with
  | some m =>
    simp only [Option.isSome_some, if_true] at h
    simp only [laySize] at hs
    split at h
    · rename_i as bs
      cases ha with
      | @agg _ xs hlx hx =>
        cases hb with
        | @agg _ ys hly hy =>
          have hlen := leavesEq_length h
          obtain ⟨X, Y, pX, pY, he⟩ := equalIn_sound (β := β) (n := n) (R := R) 1000 t ks (some m) hk hl hs 9000 xs ys 0 0 as bs r
            (fun i a ha => by
              have := getElem?_lt ha
              exact ⟨xs[i]'(by omega), by simp, hx i a _ ha (by simp)⟩)
            (fun i a ha => by
              have := getElem?_lt ha
              exact ⟨ys[i]'(by omega), by simp, hy i a _ ha (by simp)⟩) h w
          have hA := layOf_agg hl w
          have hS := layOf_size hl w
          have e1 : xs.extract 0 m = xs := by rw [show m = xs.size by omega]; exact Array.extract_size
          have e2 : ys.extract 0 m = ys := by rw [show m = ys.size by omega]; exact Array.extract_size
          simp [part, hA, hS, laySize, e1] at pX
          simp [part, hA, hS, laySize, e2] at pY
          rw [hmax, pX, pY]; exact he
    · cases h
  | none =>
    simp only [Option.isSome_none, Bool.false_eq_true, if_false] at h
    split at h
    · rename_i k
      have hd : P.underlying t = some (leafDesc k) := by
        unfold leavesOf at hk
        split at hk
        · rename_i hu; cases hk; exact hu
        · rename_i hu; cases hk; exact hu
        · rename_i hu; cases hk; exact hu
        · rename_i hu; obtain ⟨_, h0⟩ := layOf_struct hu hl; cases h0
        · rename_i hu; obtain ⟨_, h0⟩ := layOf_array hu hl; cases h0
        · cases hk
      rw [equal_succ]
      exact leafEq_sound h ha hb 9999 hd w
    · cases h

theorem eqa_sound {ks : List Leaf} {l : Option Nat} {a b : AV} {r : Bool} {t : TypeId} (hk : leavesOf P 1000 t = some ks) (hl : layOf P t = some l) (hs : laySize l = ks.length) (hg : P.eqGuardType P.depth t = false)
    {d : TypeDesc} (hd : P.underlying t = some d) (hdd : d = .bool ∨ (∃ fs, d = .struct fs) ∨ ∃ m e, d = .array m e)
    (h : eqF ks l.isSome a b = some r) {x y : Value} (ha : Rep β n R a x) (hb : Rep β n R b y) (op : BinOp) (hop : op = .eql ∨ op = .neq) (X Y : Operand) (w : World) :
    ((do eqGuard op t X Y x y; binOp op t x y) : Sem Value).run P w = .ok (.bool (if op == .neq then !r else r)) w := by
  have he := eqF_sound hk hl hs h ha hb w
  -- both are aggregates, or both are bools
  have shape : (∃ xs ys, x = .agg xs ∧ y = .agg ys) ∨ (∃ p q, x = .bool p ∧ y = .bool q) := by
    unfold eqF at h
    cases l with
    | some m =>
      simp only [Option.isSome_some, if_true] at h
      split at h
      · cases ha; cases hb; exact .inl ⟨_, _, rfl, rfl⟩
      · cases h
    | none =>
      simp only [Option.isSome_none, Bool.false_eq_true, if_false] at h
      rcases hdd with rfl | ⟨fs, rfl⟩ | ⟨m, e, rfl⟩
      · have : ks = [.bool] := by
          unfold leavesOf at hk; rw [hd] at hk; simp at hk; exact hk.symm
        subst this
        simp only [leafEq] at h
        split at h <;> first | (cases h; done) | skip
        all_goals rename_i e
        all_goals first
          | (have := rep_v ha; have := rep_v hb; subst x; subst y; exact .inr ⟨_, _, rfl, rfl⟩)
          | (cases e)
      · obtain ⟨_, h0⟩ := layOf_struct hd hl; cases h0
      · obtain ⟨_, h0⟩ := layOf_array hd hl; cases h0
  rcases shape with ⟨xs, ys, rfl, rfl⟩ | ⟨p, q, rfl, rfl⟩
  · have hgd : (eqGuard op t X Y (.agg xs) (.agg ys)).run P w = .ok () w := by
      unfold eqGuard
      rcases hop with rfl | rfl <;> simp [hg]
    rcases hop with rfl | rfl
    · have hb : binOp .eql t (.agg xs) (.agg ys) = (do pure (.bool (← Op.equal t (.agg xs) (.agg ys)))) := rfl
      simp [hgd, hb, he]
    · have hb : binOp .neq t (.agg xs) (.agg ys) = (do pure (.bool (!(← Op.equal t (.agg xs) (.agg ys))))) := rfl
      simp [hgd, hb, he]
  · have hgd := eqGuard_plain (P := P) (op := op) (t := t) (X := X) (Y := Y) (x := .bool p) (y := .bool q) (by simp) (by simp) w
    rcases hop with rfl | rfl
    · have hb : binOp .eql t (.bool p) (.bool q) = (do pure (.bool (← Op.equal t (.bool p) (.bool q)))) := rfl
      simp [hgd, hb, he]
    · have hb : binOp .neq t (.bool p) (.bool q) = (do pure (.bool (!(← Op.equal t (.bool p) (.bool q))))) := rfl
      simp [hgd, hb, he]

theorem unF_sound {op : UnOp} {a r : AV} (h : unF op a = some r) {x : Value} (ha : Rep β n R a x) (w : World) : ∃ c, r = .v c ∧ (Op.unary op x).run P w = .ok c w := by
  unfold unF at h
  split at h
  · have := rep_v ha; subst x; cases h; exact ⟨_, rfl, by simp [Op.unary, Op.intArith]⟩
  · have := rep_v ha; subst x
    rw [Option.map_eq_some_iff] at h
    obtain ⟨r', h1, rfl⟩ := h
    exact ⟨_, rfl, by simp [Op.unary, bitsF_sound h1]⟩
  · have := rep_v ha; subst x; cases h; exact ⟨_, rfl, by simp [Op.unary]⟩
  · cases h

theorem lenF_str {a : AV} {m : Nat} (h : lenF true a = some m) {x : Value} (ha : Rep β n R a x) : ∃ s : ByteArray, x = .string s ∧ m = s.size := by
  unfold lenF at h
  rw [if_pos rfl] at h
  split at h
  · have := rep_v ha; subst x; cases h; exact ⟨_, rfl, rfl⟩
  · cases h

theorem lenF_sl {a : AV} {m : Nat} (h : lenF false a = some m) {x : Value} (ha : Rep β n R a x) : ∃ p c, x = .slice p m c := by
  unfold lenF at h
  rw [if_neg (by simp)] at h
  split at h
  · have := rep_v ha; subst x; cases h; exact ⟨_, _, rfl⟩
  · cases h; cases ha; exact ⟨_, _, rfl⟩
  · cases h
    cases ha
    · exact ⟨_, _, rfl⟩
    · exact ⟨_, _, rfl⟩
  · cases h
    cases ha
    · exact ⟨_, _, rfl⟩
    · exact ⟨_, _, rfl⟩
  · cases h

theorem partAddr_sound {l : Option Nat} {a r : AV} {off : Nat} (h : partAddr l a off = some r) {x : Value} (ha : Rep β n R a x) :
    ∃ b o, x = .pointer (some ⟨b, o, none⟩) ∧ Rep β n R r (.pointer (some ⟨b, o + off, none⟩)) := by
  unfold partAddr at h
  split at h
  · cases h
    cases ha with
    | ptr ho => exact ⟨_, _, rfl, by rw [Nat.add_assoc]; exact .ptr ho⟩
  · rename_i y
    rw [Option.bind_eq_some_iff] at h
    obtain ⟨z, hz, hzr⟩ := h
    split at hzr
    · rename_i hcond
      cases hzr
      cases ha with
      | @rp b o _ cv hR hr =>
        refine ⟨b, o, rfl, ?_⟩
        cases l with
        | some m =>
          simp only [partA] at hz
          split at hz
          · cases hz
            refine .rp (fun k => cv (off + k)) (fun k hk => ?_) (fun j a hj => ?_)
            · simp at hk
              rw [Nat.add_assoc]; exact hR _ (by omega)
            · simp only [AV.cells_agg] at hj
              have := getElem?_lt hj; simp at this
              rw [List.getElem?_take_of_lt (by omega), List.getElem?_drop] at hj
              exact hr _ _ hj
          · cases hz
        | none =>
          simp only [partA] at hz
          have hlt := getElem?_lt hz
          have hrz := hr _ _ hz
          have hcz : z.cells = [z] := by
            cases z <;> first | rfl | simp [AV.isAgg] at hcond
          refine .rp (fun k => cv (off + k)) (fun k hk => ?_) (fun j a hj => ?_)
          · rw [hcz] at hk
            simp at hk; subst hk
            exact hR _ hlt
          · rw [hcz] at hj
            cases j with
            | zero => simp at hj; subst hj; exact hrz
            | succ j => simp at hj
    · cases hzr
  · cases h

end
end Go.Ab

/- A part of the proof of CodeNil: AbDraw2. -/
import Derived.Test.YthmpodpkckagmaaGreatAbDraw
set_option linter.constructorNameAsVariable false
namespace Go.Ab
open Go Go.RowKit
set_option linter.unusedVariables false
set_option linter.unusedSimpArgs false

/-! ### the order that is asked for -/

def directs (o : Oper) : List Nat := o.after.toList.filterMap fun e => if Region.binds .any e then some e.on else none

/-- Of each operation those that come ahead of it, whatever the order. -/
def aheads (ops : List Oper) : List (List Nat) :=
  ops.foldl (fun acc o => acc ++ [((directs o).flatMap fun d => d :: acc.getD d []).eraseDups]) []

def okPair (l : List AOper) (ah : List (List Nat)) (i j : Nat) : Bool :=
  match l[i]?, l[j]? with
  | some x, some y => (ah.getD j []).contains i || (apartA x y && meet x.act.cls y.act.cls)
  | _, _ => true

def okDraw (ops : Array Oper) (l : List AOper) : Bool :=
  ((List.range ops.size).all fun j => ((directs (ops.getD j default)).all fun d => decide (d < j)) && (List.range j).all fun i => okPair l (aheads ops.toList) i j) && l.all fun o => o.act.tidy

section
variable {P : Program} {N : Nat}

theorem aheads_length (ops : List Oper) : (aheads ops).length = ops.length := by
  unfold aheads
  have : ∀ (ops : List Oper) (acc : List (List Nat)), (ops.foldl (fun acc o => acc ++ [((directs o).flatMap fun d => d :: acc.getD d []).eraseDups]) acc).length = acc.length + ops.length := by
    intro ops
    induction ops with
    | nil => intro acc; simp
    | cons o ops ih => intro acc; simp only [List.foldl_cons]; rw [ih]; simp; omega
  rw [this]; simp

theorem aheads_get : ∀ (ops : List Oper) (acc : List (List Nat)) (k : Nat), k < acc.length → (ops.foldl (fun acc o => acc ++ [((directs o).flatMap fun d => d :: acc.getD d []).eraseDups]) acc)[k]? = acc[k]? := by
  intro ops
  induction ops with
  | nil => intro acc k _; rfl
  | cons o ops ih =>
    intro acc k hk
    simp only [List.foldl_cons]
    rw [ih _ _ (by simp; omega), List.getElem?_append_left hk]

/-- What comes ahead of an operation: what it waits for, and what comes ahead of that. -/
theorem mem_aheads {ops : List Oper} : ∀ {k i : Nat} {o : Oper}, ops[k]? = some o → (∀ d ∈ directs o, d < k) → i ∈ (aheads ops).getD k [] → ∃ d ∈ directs o, i = d ∨ i ∈ (aheads ops).getD d [] := by
  have key : ∀ (ops : List Oper) (acc : List (List Nat)) (k i : Nat) (o : Oper), ops[k]? = some o → (∀ d ∈ directs o, d < acc.length + k) →
      i ∈ ((ops.foldl (fun acc o => acc ++ [((directs o).flatMap fun d => d :: acc.getD d []).eraseDups]) acc).getD (acc.length + k) []) →
      ∃ d ∈ directs o, i = d ∨ i ∈ (ops.foldl (fun acc o => acc ++ [((directs o).flatMap fun d => d :: acc.getD d []).eraseDups]) acc).getD d [] := by
    intro ops
    induction ops with
    | nil => intro acc k i o h; simp at h
    | cons p ops ih =>
      intro acc k i o ho hd hi
      simp only [List.foldl_cons] at hi ⊢
      cases k with
      | zero =>
        simp at ho
        subst ho
        rw [Nat.add_zero, List.getD_eq_getElem?_getD, aheads_get _ _ _ (by simp)] at hi
        simp only [List.getElem?_append_right (Nat.le_refl _), Nat.sub_self, List.getElem?_cons_zero, Option.getD_some] at hi
        rw [List.mem_eraseDups] at hi
        obtain ⟨d, hd1, hd2⟩ := List.mem_flatMap.1 hi
        refine ⟨d, hd1, ?_⟩
        rcases List.mem_cons.1 hd2 with h | h
        · exact .inl h
        · right
          have hlt := hd d hd1
          rw [List.getD_eq_getElem?_getD, aheads_get _ _ _ (by simp; omega), List.getElem?_append_left (by omega), ← List.getD_eq_getElem?_getD]
          exact h
      | succ k =>
        have := ih (acc ++ [((directs p).flatMap fun d => d :: acc.getD d []).eraseDups]) k i o (by simpa using ho) (fun d h => by have := hd d h; simp; omega)
          (by simp only [List.length_append, List.length_singleton]; rw [show acc.length + 1 + k = acc.length + (k + 1) by omega]; exact hi)
        exact this
  intro k i o ho hd hi
  exact key ops [] k i o ho (by simpa using hd) (by rw [List.length_nil, Nat.zero_add]; exact hi)

/-- What has come up, as a set of numbers, holds with an operation all that comes ahead of it. -/
def DownClosed (ops : Array Oper) (listed : Array Bool) : Prop := ∀ (k : Nat) (o : Oper), ops[k]? = some o → listed.getD k false = true → ∀ d ∈ directs o, listed.getD d false = true

theorem down_aheads {ops : Array Oper} {listed : Array Bool} (hdc : DownClosed ops listed) (hlow : ∀ (k : Nat) (o : Oper), ops[k]? = some o → ∀ d ∈ directs o, d < k) :
    ∀ (k : Nat) (o : Oper), ops[k]? = some o → (∀ d ∈ directs o, listed.getD d false = true) → ∀ i ∈ (aheads ops.toList).getD k [], listed.getD i false = true := by
  intro k
  induction k using Nat.strongRecOn with
  | _ k ih =>
    intro o ho hd i hi
    obtain ⟨d, hd1, hd2⟩ := mem_aheads (ops := ops.toList) (by simpa using ho) (hlow k o ho) hi
    rcases hd2 with rfl | hd2
    · exact hd _ hd1
    · have hlt := hlow k o ho d hd1
      have hk : k < ops.size := by
        rcases Nat.lt_or_ge k ops.size with h | h
        · exact h
        · simp [Array.getElem?_eq_none h] at ho
      have hod : ops[d]? = some ops[d] := by simp
      exact ih d hlt ops[d] hod (hdc d ops[d] hod (hd d hd1)) i hd2

/-! ### to the front -/

theorem Runs.split : ∀ {xs : List AOper} {s f : St} {ys : List AOper}, Runs P (xs ++ ys) s f → ∃ m, Runs P xs s m ∧ Runs P ys m f := by
  intro xs
  induction xs with
  | nil => intro s f ys h; exact ⟨s, .nil s, h⟩
  | cons x xs ih =>
    intro s f ys h
    cases h with
    | cons h1 h2 =>
      obtain ⟨m, k1, k2⟩ := ih h2
      exact ⟨m, .cons h1 k1, k2⟩

theorem Runs.join : ∀ {xs : List AOper} {s m f : St} {ys : List AOper}, Runs P xs s m → Runs P ys m f → Runs P (xs ++ ys) s f := by
  intro xs
  induction xs with
  | nil => intro s m f ys h k; cases h; exact k
  | cons x xs ih =>
    intro s m f ys h k
    cases h with
    | cons h1 h2 => exact .cons h1 (ih h2 k)

/-- An operation that may change places with those ahead of it may come first. -/
theorem Runs.front {ops : Array Oper} : ∀ {xs : List AOper} {y : AOper} {ys : List AOper} {s f : St}, (∀ x ∈ xs, apartA x y = true ∧ meet x.act.cls y.act.cls = true) → (∀ x ∈ y :: xs, x.act.tidy = true ∧ ∃ o b, trO P N ops o = some b ∧ Like x b) →
    Live N s → Runs P (xs ++ y :: ys) s f → ∃ s', DStep P y s s' ∧ Runs P (xs ++ ys) s' f := by
  intro xs
  induction xs with
  | nil => intro y ys s f _ _ _ h; cases h with | cons h1 h2 => exact ⟨_, h1, h2⟩
  | cons x xs ih =>
    intro y ys s f hind hok hl h
    cases h with
    | @cons _ _ _ s₁ _ h1 h2 =>
      obtain ⟨htx, o, b, htr, hlike⟩ := hok x (by simp)
      have hl1 := h1.live htr hlike hl
      obtain ⟨s₂, k1, k2⟩ := ih (fun z hz => hind z (by simp [hz])) (fun z hz => hok z (by
        rcases List.mem_cons.1 hz with h | h
        · simp [h]
        · simp [h])) hl1 h2
      obtain ⟨hap, hm⟩ := hind x (by simp)
      obtain ⟨s', q1, q2⟩ := swap hap hm htx (hok y (by simp)).1 hl h1 k1
      exact ⟨s', q1, .cons q2 k2⟩

/-! ### whatever order -/

theorem mem_directs {o : Oper} {d : Nat} : d ∈ directs o ↔ ∃ e ∈ o.after, Region.binds .any e = true ∧ e.on = d := by
  simp only [directs, List.mem_filterMap, Array.mem_toList_iff]
  constructor
  · rintro ⟨e, he, h⟩
    split at h
    · rename_i hb; cases h; exact ⟨e, he, hb, rfl⟩
    · cases h
  · rintro ⟨e, he, hb, rfl⟩
    exact ⟨e, he, by rw [if_pos hb]⟩

theorem getD_false_of {listed : Array Bool} {k : Nat} (h : listed.getD k false = true) : listed.getD k true = true := by
  rw [Array.getD_eq_getD_getElem?] at h ⊢
  cases hh : listed[k]? with
  | none => rfl
  | some b => rw [hh] at h; exact h

theorem any_sound {ops : Array Oper} {l : List AOper} (hok : okDraw ops l = true) (hal : ∀ (k : Nat) (o : Oper), ops[k]? = some o → ∃ ao bo, l[k]? = some ao ∧ trO P N ops o = some bo ∧ Like ao bo) :
    ∀ (n : Nat) (rest : List Nat) (listed : Array Bool), rest.length = n → rest.Pairwise (· < ·) → listed.size = ops.size → (∀ k, k ∈ rest ↔ k < ops.size ∧ listed.getD k true = false) → DownClosed ops listed →
    ∀ {B : Nat} {β : Nat → Em} {s f : St} {a : Act} {w : World} {Q : Exit → Act → World → Prop} (hr : Rel N B β s a w), Runs P (rest.filterMap (l[·]?)) s f →
      (∀ β' a' w', Rel N B β' f a' w' → Tr B β s.heap w β' f.heap w' → Q .normal a' w') → wpAny P .any ops Q n listed a w := by
  simp only [okDraw, Bool.and_eq_true, List.all_eq_true, List.mem_range, decide_eq_true_eq] at hok
  obtain ⟨hok1, hok2⟩ := hok
  have hlow : ∀ (k : Nat) (o : Oper), ops[k]? = some o → ∀ d ∈ directs o, d < k := by
    intro k o ho d hd
    have hk : k < ops.size := by
      rcases Nat.lt_or_ge k ops.size with h | h
      · exact h
      · simp [Array.getElem?_eq_none h] at ho
    have := (hok1 k hk).1 d (by rw [Array.getD_eq_getD_getElem?, ho]; exact hd)
    exact this
  intro n
  induction n with
  | zero =>
    intro rest listed hlen hpw hsz hmem hdc B β s f a w Q hr hrun hQ
    have : rest = [] := List.length_eq_zero_iff.1 hlen
    subst this
    cases hrun
    refine ⟨?_, hQ β a w hr (Tr.refl _ _ _ _)⟩
    cases hrd : Region.ready .any ops listed with
    | nil => rfl
    | cons i is =>
      have hi : i ∈ Region.ready .any ops listed := by rw [hrd]; simp
      obtain ⟨h1, o, ho, _⟩ := mem_ready.1 hi
      have hlt : i < ops.size := by
        rcases Nat.lt_or_ge i ops.size with h | h
        · exact h
        · simp [Array.getElem?_eq_none h] at ho
      exact absurd ((hmem i).2 ⟨hlt, h1⟩) (by simp)
  | succ n ih =>
    intro rest listed hlen hpw hsz hmem hdc B β s f a w Q hr hrun hQ
    have inRest : ∀ i, i ∈ Region.ready .any ops listed → i ∈ rest := by
      intro i hi
      obtain ⟨h1, o, ho, _⟩ := mem_ready.1 hi
      have hlt : i < ops.size := by
        rcases Nat.lt_or_ge i ops.size with h | h
        · exact h
        · simp [Array.getElem?_eq_none h] at ho
      exact (hmem i).2 ⟨hlt, h1⟩
    refine ⟨fun hnil => ?_, fun i hi => ?_⟩
    · exfalso
      cases rest with
      | nil => simp at hlen
      | cons k rest =>
        obtain ⟨hk1, hk2⟩ := (hmem k).1 (by simp)
        have : k ∈ Region.ready .any ops listed := by
          refine mem_ready.2 ⟨hk2, ops[k], by simp, fun e he hb => ?_⟩
          have hd : e.on ∈ directs ops[k] := mem_directs.2 ⟨e, he, hb, rfl⟩
          have hlt := hlow k ops[k] (by simp) _ hd
          have hnot : e.on ∉ k :: rest := by
            intro h
            rcases List.mem_cons.1 h with h | h
            · omega
            · have := List.rel_of_pairwise_cons hpw h; omega
          have := mt (hmem e.on).2 hnot
          rw [Array.getD_eq_getD_getElem?] at this ⊢
          have hin : e.on < listed.size := by omega
          simp [hin] at this ⊢
          have := this (by omega)
          simpa using this
        rw [hnil] at this
        cases this
    · have hir := inRest i hi
      obtain ⟨h1, o, ho, hall⟩ := mem_ready.1 hi
      obtain ⟨xs, ys, hsplit⟩ := List.append_of_mem hir
      obtain ⟨ao, bo, hao, htr, hlike⟩ := hal i o ho
      -- all ahead in the text may change places with it
      have hxs : ∀ k ∈ xs, k < i := by
        intro k hk
        rw [hsplit] at hpw
        exact (List.pairwise_append.1 hpw).2.2 k hk i (by simp)
      have hdir : ∀ d ∈ directs o, listed.getD d false = true := by
        intro d hd
        obtain ⟨e, he, hb, rfl⟩ := mem_directs.1 hd
        exact hall e he hb
      have hilt : i < ops.size := ((hmem i).1 hir).1
      have hah := down_aheads hdc hlow i o ho hdir
      have hind : ∀ x ∈ xs.filterMap (l[·]?), apartA x ao = true ∧ meet x.act.cls ao.act.cls = true := by
        intro x hx
        obtain ⟨k, hk, hlk⟩ := List.mem_filterMap.1 hx
        have hpair := (hok1 i hilt).2 k (hxs k hk)
        simp only [okPair, hlk, hao, Bool.or_eq_true, Bool.and_eq_true] at hpair
        rcases hpair with h | h
        · exfalso
          have h' := hah k (by simpa using h)
          have hk' := (hmem k).1 (by rw [hsplit]; simp [hk])
          rw [getD_false_of h'] at hk'
          exact absurd hk'.2 (by simp)
        · exact h
      have hrest : rest.filterMap (l[·]?) = xs.filterMap (l[·]?) ++ ao :: ys.filterMap (l[·]?) := by
        rw [hsplit, List.filterMap_append, List.filterMap_cons, hao]
      rw [hrest] at hrun
      have hmemL : ∀ (k : Nat) (x : AOper), l[k]? = some x → k < ops.size → x.act.tidy = true ∧ ∃ o b, trO P N ops o = some b ∧ Like x b := by
        intro k x hx hk
        refine ⟨hok2 x (List.mem_of_getElem? hx), ?_⟩
        obtain ⟨ao', bo', k1, k2, k3⟩ := hal k ops[k] (by simp)
        rw [hx] at k1; cases k1
        exact ⟨_, _, k2, k3⟩
      obtain ⟨s', hstep, hrun'⟩ := Runs.front (ops := ops) hind (fun x hx => by
        rcases List.mem_cons.1 hx with rfl | hx
        · exact hmemL i _ hao hilt
        · obtain ⟨k, hk, hlk⟩ := List.mem_filterMap.1 hx
          exact hmemL k x hlk ((hmem k).1 (by rw [hsplit]; simp [hk])).1) ⟨B, β, a, w, hr⟩ hrun
      have hnext : ∀ s₂ β' a' w', s₂ = s' → Rel N B β' s₂ a' w' → Tr B β s.heap w β' s₂.heap w' → wpAny P .any ops Q n (listed.setIfInBounds i true) a' w' := by
        intro s₂ β' a' w' e k1 k2
        subst e
        have hpw' : (xs ++ ys).Pairwise (· < ·) := by
          rw [hsplit] at hpw
          exact hpw.sublist (by simp)
        have hnd : i ∉ xs ++ ys := by
          rw [hsplit] at hpw
          have h1 := (List.pairwise_append.1 hpw)
          intro h
          rcases List.mem_append.1 h with h | h
          · have := h1.2.2 i h i (by simp); omega
          · have := List.rel_of_pairwise_cons h1.2.1 h; omega
        have hset : ∀ (k : Nat) (d : Bool), k ≠ i → (listed.setIfInBounds i true).getD k d = listed.getD k d := by
          intro k d hk
          simp [Array.getD_eq_getD_getElem?, Array.getElem?_setIfInBounds_ne (Ne.symm hk)]
        have hseti : ∀ d : Bool, (listed.setIfInBounds i true).getD i d = true := by
          intro d
          simp [Array.getD_eq_getD_getElem?, show i < listed.size by omega]
        refine ih (xs ++ ys) _ (by rw [hsplit] at hlen; simp at hlen ⊢; omega) hpw' (by simp [hsz]) (fun k => ?_) (fun k o' ho' hk d hd => ?_) k1 (by rw [List.filterMap_append]; exact hrun') (fun β'' a'' w'' q1 q2 => hQ β'' a'' w'' q1 (k2.trans q2))
        · by_cases e : k = i
          · subst e
            rw [hseti]
            simp [hnd]
          · rw [hset k true e, ← hmem k, hsplit]
            simp [e]
        · by_cases e : k = i
          · subst e
            rw [ho] at ho'; cases ho'
            have := hdir d hd
            by_cases e2 : d = k
            · subst e2; exact hseti _
            · rw [hset d false e2]; exact this
          · rw [hset k false e] at hk
            have := hdc k o' ho' hk d hd
            by_cases e2 : d = i
            · subst e2; exact hseti _
            · rw [hset d false e2]; exact this
      have h := op_sound (Q := Q) htr hlike hr hstep.vc (next := wpAny P .any ops Q n (listed.setIfInBounds i true)) hnext
      unfold Go.wpOp
      rw [ho]
      simp only
      split
      · rename_i hw; rw [if_pos hw] at h; exact .inl h
      · rename_i hw; rw [if_neg hw] at h; exact h

/-! ### the condition, in the text's order -/

def vcActD (P : Program) (act : AAct) (K : AV → Heap → Prop) (s : St) : Prop :=
  match act with
  | .p op => bindP (op.run s.env) fun v => K v s.heap
  | .m op => bindP (op.run s.env s.heap) fun r => K r.1 r.2
  | .call f args => match f.ev s.env with
    | .fn g cap => ∃ v H, (ACalls P g (args.map (·.ev s.env) ++ cap) s.heap fun r H' => r = v ∧ H' = H) ∧ K v H
    | _ => False
  | .pcall f args => match f.ev s.env with
    | .fn g cap => ∃ v, PureCall P g (args.map (·.ev s.env) ++ cap) v ∧ K v s.heap
    | _ => False
  | .qcall f args => match f.ev s.env with
    | .fn g cap => ∃ v, (ACalls P g (args.map (·.ev s.env) ++ cap) s.heap fun r H' => r = v ∧ H' = s.heap) ∧ K v s.heap
    | _ => False
  | .never => False

def vcOpD (P : Program) (o : AOper) (K : St → Prop) (s : St) : Prop :=
  match o.guard with
  | none => vcActD P o.act (fun v H => K (s.put o.dst v H)) s
  | some (g, want) => vcGuard (s.env g) want (vcActD P o.act (fun v H => K (s.put o.dst v H)) s) (K (s.put o.dst unit s.heap))

def vcOpsD (P : Program) : List AOper → (St → Prop) → St → Prop
  | [], K, s => K s
  | o :: os, K, s => vcOpD P o (vcOpsD P os K) s

theorem vcActD_act {act : AAct} {K : AV → Heap → Prop} {s : St} (h : vcActD P act K s) : ∃ v H, DAct P act s v H ∧ K v H := by
  cases act with
  | p op => obtain ⟨v, h1, h2⟩ := h; exact ⟨v, _, ⟨h1, rfl⟩, h2⟩
  | m op => obtain ⟨⟨v, H⟩, h1, h2⟩ := h; exact ⟨v, H, h1, h2⟩
  | call f args =>
    simp only [vcActD] at h
    split at h
    · rename_i g cap hf; obtain ⟨v, H, h1, h2⟩ := h; exact ⟨v, H, ⟨g, cap, hf, h1⟩, h2⟩
    · exact h.elim
  | pcall f args =>
    simp only [vcActD] at h
    split at h
    · rename_i g cap hf; obtain ⟨v, h1, h2⟩ := h; exact ⟨v, _, ⟨g, cap, hf, h1, rfl⟩, h2⟩
    · exact h.elim
  | qcall f args =>
    simp only [vcActD] at h
    split at h
    · rename_i g cap hf; obtain ⟨v, h1, h2⟩ := h; exact ⟨v, _, ⟨g, cap, hf, h1, rfl⟩, h2⟩
    · exact h.elim
  | never => exact h.elim

theorem vcOpD_step {o : AOper} {K : St → Prop} {s : St} (h : vcOpD P o K s) : ∃ s', DStep P o s s' ∧ K s' := by
  obtain ⟨dst, act, guard, hint⟩ := o
  simp only [vcOpD] at h
  cases guard with
  | none =>
    obtain ⟨v, H, h1, h2⟩ := vcActD_act h
    exact ⟨_, ⟨v, H, .run trivial h1, rfl⟩, h2⟩
  | some p =>
    obtain ⟨g, b⟩ := p
    simp only at h
    unfold vcGuard at h
    split at h
    · rename_i b' he
      split at h
      · rename_i hb
        subst hb
        obtain ⟨v, H, h1, h2⟩ := vcActD_act h
        exact ⟨_, ⟨v, H, .run he h1, rfl⟩, h2⟩
      · rename_i hb
        exact ⟨_, ⟨_, _, .skip (.inl ⟨b', he, hb⟩), rfl⟩, h⟩
    · rename_i vs he
      exact ⟨_, ⟨_, _, .skip (.inr ⟨vs, he⟩), rfl⟩, h⟩
    · exact h.elim

theorem vcOpsD_runs : ∀ {os : List AOper} {K : St → Prop} {s : St}, vcOpsD P os K s → ∃ f, Runs P os s f ∧ K f := by
  intro os
  induction os with
  | nil => intro K s h; exact ⟨s, .nil s, h⟩
  | cons o os ih =>
    intro K s h
    obtain ⟨s', h1, h2⟩ := vcOpD_step h
    obtain ⟨f, k1, k2⟩ := ih h2
    exact ⟨f, .cons h1 k1, k2⟩

theorem filterMap_range : ∀ (l pre : List AOper), (List.range' pre.length l.length).filterMap ((pre ++ l)[·]?) = l := by
  intro l
  induction l with
  | nil => intro pre; simp
  | cons x l ih =>
    intro pre
    rw [List.length_cons, List.range'_succ, List.filterMap_cons]
    have h0 : (pre ++ x :: l)[pre.length]? = some x := by simp
    rw [h0]
    have := ih (pre ++ [x])
    rw [List.length_append, List.length_singleton, List.append_assoc, List.singleton_append] at this
    rw [this]

theorem draw_sound {id : Nat} {ops : Array Oper} {l : List AOper} (hm : P.follows .mixedOrders = true) (hok : okDraw ops l = true) (hlen : l.length = ops.size)
    (hal : ∀ (k : Nat) (o : Oper), ops[k]? = some o → ∃ ao bo, l[k]? = some ao ∧ trO P N ops o = some bo ∧ Like ao bo) {Q : AExit → St → Prop} {s : St} (h : vcOpsD P l (Q .normal) s) : AWp P N (.region id ops true) Q s := by
  intro B β a w hr
  obtain ⟨f, hrun, hQ⟩ := vcOpsD_runs h
  have hw : ({ w with drawn := w.drawn + 1 } : World).heap = w.heap := rfl
  have hr' : Rel N B β s a { w with drawn := w.drawn + 1 } := ⟨hr.sim.congr hw, fun t => (hr.rep t).mono (fun _ _ => rfl) (Nat.le_refl _) (fun _ _ _ x => x.congr hw), hr.defers, hr.size⟩
  have ht' : Tr B β s.heap w β s.heap { w with drawn := w.drawn + 1 } := Tr.congr hw rfl rfl rfl
  have hfull : (List.range ops.size).filterMap (l[·]?) = l := by
    have := filterMap_range l []
    rw [List.length_nil, ← List.range_eq_range', hlen, List.nil_append] at this
    exact this
  refine wp_region_any hm (any_sound hok hal ops.size (List.range ops.size) _ (by simp) List.pairwise_lt_range (by simp) (fun k => ?_) (fun k o ho hk d hd => ?_) hr' (by rw [hfull]; exact hrun) (fun β' a' w' k1 k2 => ⟨.normal, f, β', rfl, hQ, k1, ht'.trans k2⟩))
  · simp [Array.getD_eq_getD_getElem?, Array.getElem?_replicate]
    intro hk
    simp [hk]
  · exfalso
    rw [Array.getD_eq_getD_getElem?, Array.getElem?_replicate] at hk
    split at hk <;> simp at hk

end
end Go.Ab

/- A part of a law's proof: AbDecode. -/
import Derived.ProofKit
import Derived.Test.YtjkcjbkkgkhljaaAbVc2
import GoSem.ClaimJoined
set_option linter.constructorNameAsVariable false
/-
  Data that come in: what is read off memory, as values of the abstract memory.
-/
namespace Go.Ab
open Go Go.RowKit
set_option linter.unusedVariables false
set_option linter.unusedSimpArgs false
def isAggT (P : Program) (t : TypeId) : Bool :=
  match P.underlying t with
  | some (.struct _) | some (.array _ _) => true
  | _ => false
def rowOk (P : Program) : List Field -> Nat -> Option Nat
  | [], off => some off
  | f :: fs, off => if f.offset = off then rowOk P fs (off + P.cellsOf f.type) else none
def okTy (P : Program) : Nat -> TypeId -> Bool
  | 0, _ => false
  | d + 1, t =>
    match P.underlying t with
    | some .bool | some (.int _) | some (.float _) | some .string => P.cellsOf t == 1
    | some (.slice e) => P.cellsOf t == 1 && decide (0 < P.cellsOf e) && okTy P d e
    | some (.struct fs) => rowOk P fs.toList 0 == some (P.cellsOf t) && fs.toList.all fun f => okTy P d f.type
    | some (.array n e) => P.cellsOf t == n * P.cellsOf e && okTy P d e
    | _ => false
def tyF (rec : TypeId -> List AV -> Prop) : List Field -> List AV -> Prop
  | [], as => as = []
  | f :: fs, as => ∃ p q, as = p ++ q ∧ rec f.type p ∧ tyF rec fs q
def tyN (rec : List AV -> Prop) : Nat -> List AV -> Prop
  | 0, as => as = []
  | n + 1, as => ∃ p q, as = p ++ q ∧ rec p ∧ tyN rec n q
def tyC (P : Program) (B : Nat) : Nat -> TypeId -> List AV -> Prop
  | 0, _, _ => False
  | d + 1, t, as =>
    match P.underlying t with
    | some .bool => ∃ b, as = [.v (.bool b)]
    | some (.int k) => ∃ n, as = [.v (.int k n)] ∧ (Lit.int k n).wf = true
    | some (.float k) => ∃ n, as = [.v (.float k n)] ∧ (Lit.float k n).wf = true
    | some .string => ∃ s : ByteArray, as = [.v (.string s)] ∧ s.size <= B
    | some (.slice e) => ∃ xs, as = [.lst (P.cellsOf e) xs] ∧ xs.length * P.bytesOf e <= B ∧ xs.length <= maxLen ∧
        ∀ x ∈ xs, (if isAggT P e then ∃ cs, x = .agg cs ∧ tyC P B d e cs else tyC P B d e [x] ∧ x.isAgg = false)
    | some (.struct fs) => tyF (tyC P B d) fs.toList as
    | some (.array n e) => tyN (tyC P B d e) n as
    | _ => False
def tyV (P : Program) (B : Nat) (d : Nat) (t : TypeId) (x : AV) : Prop := if isAggT P t then ∃ cs, x = .agg cs ∧ tyC P B d t cs else tyC P B d t [x] ∧ x.isAgg = false
theorem choose_list {α : Type} {p : Nat -> α -> Prop} : ∀ (n : Nat), (∀ i, i < n -> ∃ x, p i x) -> ∃ xs : List α, xs.length = n ∧ ∀ (i : Nat) (x : α), xs[i]? = some x -> p i x := by
  intro n
  induction n with
  | zero => intro _; exact ⟨[], rfl, by simp⟩
  | succ n ih =>
    intro h
    obtain ⟨xs, h1, h2⟩ := ih fun i hi => h i (by omega)
    obtain ⟨y, hy⟩ := h n (by omega)
    refine ⟨xs ++ [y], by simp [h1], fun i x hx => ?_⟩
    rcases Nat.lt_or_ge i xs.length with hlt | hge
    · rw [List.getElem?_append_left hlt] at hx; exact h2 i x hx
    · rw [List.getElem?_append_right hge] at hx
      have := getElem?_lt hx
      simp at this
      have e : i = n := by omega
      subst e
      rw [h1] at hx
      simp at hx; subst hx; exact hy
section
variable {H : Type} {enc : TypeId × Value -> H} {P : Program} {W : World} {B : Nat} {base : Nat} {spare : Nat -> Bool} {held : Bool}
abbrev RepW (W : World) : AV -> Value -> Prop := RepH Lies.nil [] W
theorem ro_nil {b i : Nat} {c : Value} (h : W.cell? ⟨b, i, none⟩ = some c) : RO Lies.nil [] W b i c := ⟨⟨h, fun hd => hd⟩, by rintro ⟨o, cs, ho, _⟩; simp at ho⟩
def Row (W : World) (as : List AV) (cs : List Value) : Prop := as.length = cs.length ∧ ∀ (i : Nat) (a : AV) (c : Value), as[i]? = some a -> cs[i]? = some c -> RepW W a c
theorem Row.one {a : AV} {c : Value} (h : RepW W a c) : Row W [a] [c] := ⟨rfl, fun i x y hx hy => by
  cases i with
  | zero => simp at hx hy; subst hx; subst hy; exact h
  | succ i => simp at hx⟩
theorem Row.append {as bs : List AV} {cs ds : List Value} (h : Row W as cs) (k : Row W bs ds) : Row W (as ++ bs) (cs ++ ds) := by
  refine ⟨by simp [h.1, k.1], fun i a c ha hc => ?_⟩
  have hl := h.1
  rcases Nat.lt_or_ge i as.length with hlt | hge
  · rw [List.getElem?_append_left hlt] at ha
    rw [List.getElem?_append_left (by omega)] at hc
    exact h.2 i a c ha hc
  · rw [List.getElem?_append_right hge] at ha
    rw [List.getElem?_append_right (by omega)] at hc
    rw [hl] at ha
    exact k.2 _ a c ha hc
theorem weightsEach_mem {ts : List TypeId} : ∀ {ds : List (DataW H)} {i : Nat} {t : TypeId} {d : DataW H}, ts[i]? = some t -> ds[i]? = some d -> ∀ n ∈ d.weights P t, n ∈ DataW.weightsEach P ts ds := by
  induction ts with
  | nil => intro ds i t d h; simp at h
  | cons u ts ih =>
    intro ds i t d ht hd n hn
    cases ds with
    | nil => simp at hd
    | cons e ds =>
      simp only [DataW.weightsEach]
      cases i with
      | zero => simp at ht hd; subst ht; subst hd; exact List.mem_append_left _ hn
      | succ i => simp at ht hd; exact List.mem_append_right _ (ih ht hd n hn)
theorem weightsAll_mem {e : TypeId} : ∀ {ds : List (DataW H)} {d : DataW H}, d ∈ ds -> ∀ n ∈ d.weights P e, n ∈ DataW.weightsAll P e ds := by
  intro ds
  induction ds with
  | nil => intro d h; simp at h
  | cons x ds ih =>
    intro d hd n hn
    simp only [DataW.weightsAll]
    rcases List.mem_cons.1 hd with rfl | h
    · exact List.mem_append_left _ hn
    · exact List.mem_append_right _ (ih h n hn)
theorem cells?_get {a : Addr} {n : Nat} {cs : List Value} (h : W.cells? base a n = some cs) : cs.length = n ∧ ∀ (i : Nat) (c : Value), cs[i]? = some c -> W.cell? (a.add i) = some c := by
  unfold World.cells? at h
  split at h
  · obtain ⟨hl, hg⟩ := mapM_get h
    simp at hl
    refine ⟨hl, fun i c hc => ?_⟩
    have hlt := getElem?_lt hc
    exact hg i i c (by simp [List.getElem?_range (show i < n by omega)]) hc
  · cases h
theorem tyC_one {d : Nat} {t : TypeId} {as : List AV} (hok : okTy P d t = true) (hg : isAggT P t = false) (h : tyC P B d t as) : ∃ x, as = [x] ∧ x.isAgg = false ∧ P.cellsOf t = 1 := by
  cases d with
  | zero => simp [okTy] at hok
  | succ d =>
    simp only [okTy] at hok
    simp only [tyC] at h
    unfold isAggT at hg
    cases hu : P.underlying t with
    | none => rw [hu] at h; exact h.elim
    | some k =>
      rw [hu] at h hok hg
      cases k with
      | bool => obtain ⟨b, rfl⟩ := h; exact ⟨_, rfl, rfl, by simpa using hok⟩
      | int k => obtain ⟨b, rfl, _⟩ := h; exact ⟨_, rfl, rfl, by simpa using hok⟩
      | float k => obtain ⟨b, rfl, _⟩ := h; exact ⟨_, rfl, rfl, by simpa using hok⟩
      | string => obtain ⟨b, rfl, _⟩ := h; exact ⟨_, rfl, rfl, by simpa using hok⟩
      | slice e => obtain ⟨b, rfl, _⟩ := h; simp at hok; exact ⟨_, rfl, rfl, hok.1.1⟩
      | struct fs => simp at hg
      | array n e => simp at hg
      | _ => simp at hok
theorem rowOk_le : ∀ {fs : List Field} {off tot : Nat}, rowOk P fs off = some tot -> off <= tot := by
  intro fs
  induction fs with
  | nil => intro off tot h; simp [rowOk] at h; omega
  | cons f fs ih =>
    intro off tot h
    simp only [rowOk] at h
    split at h
    · have := ih h; omega
    · cases h
theorem struct_ex {d : Nat} {cs : List Value} : ∀ {fs : List Field} {off tot : Nat}, rowOk P fs off = some tot -> cs.length = tot ->
    (∀ f ∈ fs, ((cs.drop f.offset).take (P.cellsOf f.type)).length = P.cellsOf f.type -> ∃ as, Row W as ((cs.drop f.offset).take (P.cellsOf f.type)) ∧ tyC P B d f.type as) ->
    ∃ as, Row W as (cs.drop off) ∧ tyF (tyC P B d) fs as := by
  intro fs
  induction fs with
  | nil =>
    intro off tot h hl _
    simp [rowOk] at h
    have e : cs.drop off = [] := List.drop_eq_nil_of_le (by omega)
    exact ⟨[], by rw [e]; exact ⟨rfl, fun i a c h => by simp at h⟩, rfl⟩
  | cons f fs ih =>
    intro off tot h hl hf
    simp only [rowOk] at h
    split at h
    · rename_i ho
      have hle := rowOk_le h
      obtain ⟨p, hp, hp'⟩ := hf f (List.mem_cons_self ..) (by simp; omega)
      obtain ⟨q, hq, hq'⟩ := ih h hl fun g hg => hf g (List.mem_cons_of_mem _ hg)
      refine ⟨p ++ q, ?_, p, q, rfl, hp', hq'⟩
      have := hp.append hq
      rw [ho, <- List.drop_drop, List.take_append_drop] at this
      exact this
    · cases h
theorem array_ex {d k : Nat} {e : TypeId} {cs : List Value} : ∀ (n i : Nat), cs.length = (i + n) * k ->
    (∀ j, i <= j -> j < i + n -> ((cs.drop (j * k)).take k).length = k -> ∃ as, Row W as ((cs.drop (j * k)).take k) ∧ tyC P B d e as) ->
    ∃ as, Row W as (cs.drop (i * k)) ∧ tyN (tyC P B d e) n as := by
  intro n
  induction n with
  | zero =>
    intro i hl _
    have e : cs.drop (i * k) = [] := List.drop_eq_nil_of_le (by simp at hl; omega)
    exact ⟨[], by rw [e]; exact ⟨rfl, fun i a c h => by simp at h⟩, rfl⟩
  | succ n ih =>
    intro i hl hf
    have hl' : cs.length = i * k + k + n * k := by rw [hl, Nat.add_mul, Nat.add_mul]; omega
    obtain ⟨p, hp, hp'⟩ := hf i (Nat.le_refl _) (by omega) (by simp; omega)
    obtain ⟨q, hq, hq'⟩ := ih (i + 1) (by rw [hl]; congr 1; omega) fun j hj hj' => hf j (by omega) (by omega)
    refine ⟨p ++ q, ?_, p, q, rfl, hp', hq'⟩
    have := hp.append hq
    rw [show (i + 1) * k = i * k + k by rw [Nat.add_mul]; omega, <- List.drop_drop, List.take_append_drop] at this
    exact this
theorem slice_ex {d : Nat} {e : TypeId} {a : Addr} {len : Nat} (hok : okTy P d e = true) (h0 : 0 < P.cellsOf e)
    (h : ∀ i, i < len -> ∃ cs as, W.cells? base (a.add (i * P.cellsOf e)) (P.cellsOf e) = some cs ∧ Row W as cs ∧ tyC P B d e as) (cap : Nat) (hc : len <= cap) :
    ∃ xs, xs.length = len ∧ RepW W (.lst (P.cellsOf e) xs) (.slice (some a) len cap) ∧ ∀ x ∈ xs, (if isAggT P e then ∃ cs, x = .agg cs ∧ tyC P B d e cs else tyC P B d e [x] ∧ x.isAgg = false) := by
  have key : ∀ i, i < len -> ∃ x : AV, (∃ cs, W.cells? base (a.add (i * P.cellsOf e)) (P.cellsOf e) = some cs ∧ Row W x.cells cs) ∧ (if isAggT P e then ∃ cs, x = .agg cs ∧ tyC P B d e cs else tyC P B d e [x] ∧ x.isAgg = false) := by
    intro i hi
    obtain ⟨cs, as, h1, h2, h3⟩ := h i hi
    cases hg : isAggT P e with
    | true => exact ⟨.agg as, ⟨cs, h1, h2⟩, by simp; exact h3⟩
    | false =>
      obtain ⟨x, rfl, hx, _⟩ := tyC_one hok hg h3
      refine ⟨x, ⟨cs, h1, ?_⟩, by simp; exact ⟨h3, hx⟩⟩
      have : x.cells = [x] := by cases x <;> first | rfl | simp [AV.isAgg] at hx
      rw [this]; exact h2
  obtain ⟨xs, hl, hx⟩ := choose_list len key
  refine ⟨xs, hl, ?_, fun x hm => ?_⟩
  · by_cases hz : len = 0
    · subst hz
      have : xs = [] := List.length_eq_zero_iff.1 hl
      subst this
      exact .lstNil _ _ _
    · have hcell : ∀ i j, i < len -> j < P.cellsOf e -> ∃ c, W.cell? ⟨a.block, a.off + (i * P.cellsOf e + j), none⟩ = some c := by
        intro i j hi hj
        obtain ⟨cs, as, h1, h2, h3⟩ := h i hi
        obtain ⟨g1, g2⟩ := cells?_get h1
        obtain ⟨c, hc⟩ := List.getElem?_eq_some_iff.2 ⟨show j < cs.length by omega, rfl⟩ |> fun h => (⟨_, h⟩ : ∃ c, cs[j]? = some c)
        have := g2 j c hc
        refine ⟨c, ?_⟩
        have e : ((a.add (i * P.cellsOf e)).add j).block = a.block ∧ ((a.add (i * P.cellsOf e)).add j).off = a.off + (i * P.cellsOf e + j) := by
          unfold Addr.add; split <;> split <;> simp <;> omega
        revert this
        unfold World.cell?
        rw [e.1, e.2]
        simp
        intro h
        split at h
        · split at h
          · cases h
          · exact h
        · cases h
      have hspot : a.spot = none := by
        obtain ⟨cs, as, h1, h2, h3⟩ := h 0 (by omega)
        obtain ⟨g1, g2⟩ := cells?_get h1
        obtain ⟨c, hc⟩ := List.getElem?_eq_some_iff.2 ⟨show 0 < cs.length by omega, rfl⟩ |> fun h => (⟨_, h⟩ : ∃ c, cs[0]? = some c)
        have := g2 0 c hc
        simp [Addr.add, World.cell?] at this
        split at this
        · split at this
          · cases this
          · rename_i h; simpa using h
        · cases this
      have ea : a = ⟨a.block, a.off, none⟩ := by cases a; simp at hspot; simp [hspot]
      let cv : Nat -> Value := fun k => (W.cell? ⟨a.block, a.off + k, none⟩).getD default
      have hcv : ∀ k, k < len * P.cellsOf e -> W.cell? ⟨a.block, a.off + k, none⟩ = some (cv k) := by
        intro k hk
        have hq : k / P.cellsOf e < len := (Nat.div_lt_iff_lt_mul h0).2 hk
        obtain ⟨c, hc⟩ := hcell (k / P.cellsOf e) (k % P.cellsOf e) hq (Nat.mod_lt _ h0)
        have e : k / P.cellsOf e * P.cellsOf e + k % P.cellsOf e = k := by rw [Nat.mul_comm]; exact Nat.div_add_mod _ _
        rw [e] at hc
        simp only [cv, hc]; rfl
      have hcs : ∀ (i : Nat) (x : AV), xs[i]? = some x -> x.cells.length = P.cellsOf e := by
        intro i x hi
        obtain ⟨⟨cs, h1, h2⟩, _⟩ := hx i x hi
        rw [h2.1]; exact (cells?_get h1).1
      rw [ea, <- hl]
      refine Rep.lst cv (by omega) (fun k hk => ro_nil (hcv k (by rw [<- hl]; exact hk))) hcs ?_
      intro i x j y hi hj
      obtain ⟨⟨cs, h1, h2⟩, _⟩ := hx i x hi
      have hi' : i < len := by have := getElem?_lt hi; omega
      have hj' : j < P.cellsOf e := by have := getElem?_lt hj; have := hcs i x hi; omega
      obtain ⟨g1, g2⟩ := cells?_get h1
      obtain ⟨c, hc⟩ := List.getElem?_eq_some_iff.2 ⟨show j < cs.length by omega, rfl⟩ |> fun h => (⟨_, h⟩ : ∃ c, cs[j]? = some c)
      have h4 := g2 j c hc
      have h5 := hcv (i * P.cellsOf e + j) (by
        have : (i + 1) * P.cellsOf e <= len * P.cellsOf e := Nat.mul_le_mul_right _ hi'
        rw [Nat.add_mul] at this; omega)
      have : cv (i * P.cellsOf e + j) = c := by
        have e : (a.add (i * P.cellsOf e)).add j = ⟨a.block, a.off + (i * P.cellsOf e + j), none⟩ := by
          rw [ea]; unfold Addr.add; split <;> split <;> simp only [Addr.mk.injEq, and_true, true_and] <;> omega
        rw [e, h5] at h4
        exact Option.some.inj h4
      rw [this]
      exact h2.2 j y c hj hc
  · obtain ⟨i, hi⟩ := List.getElem?_of_mem hm
    exact (hx i x hi).2
theorem decode : ∀ (d : Nat) (t : TypeId), okTy P d t = true -> ∀ (fuel : Nat) (cs : List Value) (x : DataW H) (ps : List MemPlace), cs.length = P.cellsOf t -> DataW.trod enc P W base spare held fuel t cs = some (x, ps) -> (∀ n ∈ x.weights P t, n <= B) ->
    ∃ as, Row W as cs ∧ tyC P B d t as := by
  intro d
  induction d with
  | zero => intro t h; simp [okTy] at h
  | succ d ih =>
    intro t hok fuel cs x ps hlen h hw
    cases fuel with
    | zero => simp [DataW.trod] at h
    | succ fuel =>
      simp only [okTy] at hok
      simp only [tyC]
      simp only [DataW.trod] at h
      cases hu : P.underlying t with
      | none => rw [hu] at hok; simp at hok
      | some k =>
        rw [hu] at h hok
        cases k with
        | bool =>
          simp only at h hok ⊢
          split at h
          all_goals try (injections; done)
          all_goals try contradiction
          · exact ⟨_, Row.one (.v _), _, rfl⟩
        | int k =>
          simp only at h hok ⊢
          split at h
          all_goals try (injections; done)
          all_goals try contradiction
          · split at h
            · rename_i heq hk; cases heq; exact ⟨_, Row.one (.v _), _, by rw [hk.1], hk.2⟩
            · cases h
        | float k =>
          simp only at h hok ⊢
          split at h
          all_goals try (injections; done)
          all_goals try contradiction
          · split at h
            · rename_i heq hk; cases heq; exact ⟨_, Row.one (.v _), _, by rw [hk.1], hk.2⟩
            · cases h
        | string =>
          simp only at h hok ⊢
          split at h
          all_goals try (injections; done)
          all_goals try contradiction
          · split at h
            · rename_i s heq hk
              simp at h
              obtain ⟨h1, h2⟩ := h
              subst h1
              exact ⟨_, Row.one (.v _), s, rfl, hw s.size (by simp [DataW.weights])⟩
            · cases h
        | slice e =>
          simp only at h hok ⊢
          simp only [Bool.and_eq_true, beq_iff_eq, decide_eq_true_eq] at hok
          split at h
          all_goals try (injections; done)
          all_goals try contradiction
          · exact ⟨_, Row.one (.lstNil _ _ _), [], rfl, by simp, by simp [maxLen], by simp⟩
          · rename_i e' a len cap heq
            cases heq
            split at h
            · rename_i hb
              obtain ⟨elems, he, h⟩ := Option.bind_eq_some_iff.1 h
              obtain ⟨rest, hr, h⟩ := Option.map_eq_some_iff.1 h
              cases h
              obtain ⟨g1, g2⟩ := mapM_get he
              simp at g1
              have hwt : ∀ n ∈ (elems.length + rest.length) * P.bytesOf e :: (DataW.weightsAll P e (elems.map (·.1)) ++ DataW.weightsAll P e (rest.map (·.1))), n <= B := by
                intro n hn
                refine hw n ?_
                simp only [DataW.weights, hu, List.length_map]
                exact hn
              obtain ⟨xs, hl, hrep, hx⟩ := slice_ex (base := base) (a := a) (len := len) hok.2 hok.1.2 (fun i hi => by
                obtain ⟨x, hxe⟩ : ∃ x, elems[i]? = some x := ⟨_, List.getElem?_eq_getElem (by omega)⟩
                have hg := g2 i i x (by simp [List.getElem?_range hi]) hxe
                obtain ⟨cs, hc1, hc2⟩ := Option.bind_eq_some_iff.1 hg
                obtain ⟨as, h1, h2⟩ := ih e hok.2 fuel cs x.1 x.2 (cells?_get hc1).1 hc2 (fun n hn => hwt n (List.mem_cons_of_mem _ (List.mem_append_left _
                  (weightsAll_mem (List.mem_map.2 ⟨x, List.mem_of_getElem? hxe, rfl⟩) n hn))))
                exact ⟨cs, as, hc1, h1, h2⟩) cap hb.2.1
              refine ⟨_, Row.one hrep, xs, rfl, ?_, ?_, hx⟩
              · have h1 := hwt _ (List.mem_cons_self ..)
                rw [hl, <- g1]
                exact Nat.le_trans (Nat.mul_le_mul_right _ (Nat.le_add_right _ _)) h1
              · have := hb.2.1; have := hb.2.2; omega
            · cases h
        | struct fs =>
          simp only at h hok ⊢
          simp only [Bool.and_eq_true, beq_iff_eq, List.all_eq_true] at hok
          rw [if_pos hlen] at h
          obtain ⟨xs, hm, h⟩ := Option.map_eq_some_iff.1 h
          cases h
          obtain ⟨g1, g2⟩ := mapM_get hm
          have hwt : ∀ n ∈ DataW.weightsEach P (fs.toList.map (·.type)) (xs.map (·.1)), n <= B := fun n hn => hw n (by simp only [DataW.weights, hu]; exact hn)
          have := struct_ex (W := W) (d := d) hok.1 hlen (fun f hf hl => by
            obtain ⟨i, hi⟩ := List.getElem?_of_mem hf
            obtain ⟨x, hxe⟩ : ∃ x, xs[i]? = some x := ⟨_, List.getElem?_eq_getElem (by have := getElem?_lt hi; omega)⟩
            exact ih f.type (hok.2 f hf) fuel _ x.1 x.2 hl (g2 i f x hi hxe) (fun n hn => hwt n (weightsEach_mem (i := i) (by simp [hi]) (by simp [hxe]) n hn)))
          simpa using this
        | array n e =>
          simp only at h hok ⊢
          simp only [Bool.and_eq_true, beq_iff_eq] at hok
          rw [if_pos hlen] at h
          obtain ⟨xs, hm, h⟩ := Option.map_eq_some_iff.1 h
          cases h
          obtain ⟨g1, g2⟩ := mapM_get hm
          simp at g1
          have hwt : ∀ n ∈ DataW.weightsAll P e (xs.map (·.1)), n <= B := fun n hn => hw n (by simp only [DataW.weights, hu]; exact hn)
          have := array_ex (W := W) (d := d) (e := e) (k := P.cellsOf e) (cs := cs) n 0 (by rw [hlen, hok.1]; simp) (fun i _ hi hl => by
            obtain ⟨x, hxe⟩ : ∃ x, xs[i]? = some x := ⟨_, List.getElem?_eq_getElem (by omega)⟩
            exact ih e hok.2 fuel _ x.1 x.2 hl (g2 i i x (by simp [List.getElem?_range (show i < n by omega)]) hxe) (fun n hn => hwt n (weightsAll_mem (List.mem_map.2 ⟨x, List.mem_of_getElem? hxe, rfl⟩) n hn)))
          simpa using this
        | _ => simp at hok
end
end Go.Ab

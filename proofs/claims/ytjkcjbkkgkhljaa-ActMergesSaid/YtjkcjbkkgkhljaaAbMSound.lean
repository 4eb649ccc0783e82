/- A part of a law's proof: AbMSound. -/
import Derived.IntWalk
import Derived.Test.YtjkcjbkkgkhljaaAbMOp
set_option linter.constructorNameAsVariable false
namespace Go.Ab
open Go Go.RowKit
set_option linter.unusedVariables false
set_option linter.unusedSimpArgs false
section
variable {P : Program} {B : Nat} {β : Lies} {H : Heap} {w : World}
theorem add_none (b o k : Nat) : Addr.add ⟨b, o, none⟩ k = ⟨b, o + k, none⟩ := by
  unfold Addr.add; split
  · rename_i e; rw [e]; rfl
  · rfl
theorem row_of {β' : Lies} {n : Nat} {R : Nat -> Nat -> Value -> Prop} : ∀ (as : List AV) (b o : Nat), (∀ (j : Nat) (a : AV), as[j]? = some a -> ∃ c, w.cell? ⟨b, o + j, none⟩ = some c ∧ Rep β' n R a c) ->
    ∃ vs : List Value, vs.length = as.length ∧ (∀ (j : Nat) (v : Value), vs[j]? = some v -> w.cell? ⟨b, o + j, none⟩ = some v) ∧ (∀ (j : Nat) (a : AV) (c : Value), as[j]? = some a -> vs[j]? = some c -> Rep β' n R a c) := by
  intro as
  induction as with
  | nil => intro b o _; exact ⟨[], rfl, by simp, by simp⟩
  | cons a as ih =>
    intro b o h
    obtain ⟨c, hc, hr⟩ := h 0 a rfl
    obtain ⟨vs, h1, h2, h3⟩ := ih b (o + 1) (fun j x hx => by
      have := h (j + 1) x (by simpa using hx)
      rw [show o + 1 + j = o + (j + 1) by omega]; exact this)
    refine ⟨c :: vs, by simp [h1], fun j v hv => ?_, fun j x v hx hv => ?_⟩
    · cases j with
      | zero => simp at hv; subst hv; exact hc
      | succ j => simp at hv; have := h2 j v hv; rw [show o + (j + 1) = o + 1 + j by omega]; exact this
    · cases j with
      | zero => simp at hx hv; subst hx; subst hv; exact hr
      | succ j => simp at hx hv; exact h3 j x v hx hv
theorem loadCells_run {b o : Nat} {vs : List Value} (h : ∀ (j : Nat) (v : Value), vs[j]? = some v -> w.cell? ⟨b, o + j, none⟩ = some v) : (loadCells ⟨b, o, none⟩ vs.length).run P w = .ok vs.toArray w :=
  run_loadCells_list w ⟨b, o, none⟩ vs (fun j v hv => by rw [add_none]; exact h j v hv)
theorem read_sound (s : Sim B β H w) {t : TypeId} {l : Option Nat} (hl : layOf P t = some l) {x r : AV} (h : readA H l x = some r) {c : Value} (hx : RepH β H w x c) :
    ∃ d, (Instr.loadAt t c).run P w = .ok d w ∧ RepH β H w r d := by
  have hA := layOf_agg hl w
  have hS := layOf_size hl w
  have agg : ∀ (m : Nat) (b o : Nat) (as : List AV), l = some m -> as.length = m -> (∀ (j : Nat) (a : AV), as[j]? = some a -> ∃ c, w.cell? ⟨b, o + j, none⟩ = some c ∧ RepH β H w a c) ->
      ∃ d, (Instr.loadAt t (.pointer (some ⟨b, o, none⟩))).run P w = .ok d w ∧ RepH β H w (.agg as) d := by
    intro m b o as hlm hlen hc
    subst hlm
    obtain ⟨vs, h1, h2, h3⟩ := row_of as b o hc
    have hld := loadCells_run (P := P) h2
    rw [show vs.length = m by omega] at hld
    refine ⟨.agg vs.toArray, by simp [Instr.loadAt, Instr.sureAddr, loadVar, hA, hS, laySize, hld], .agg (by simp [h1]) fun i a c ha hc => h3 i a c ha (by simpa using hc)⟩
  have one : ∀ (b o : Nat) (a : AV) (c : Value), l = none -> w.cell? ⟨b, o, none⟩ = some c -> RepH β H w a c -> ∃ d, (Instr.loadAt t (.pointer (some ⟨b, o, none⟩))).run P w = .ok d w ∧ RepH β H w a d := by
    intro b o a c hln hc hr
    subst hln
    exact ⟨c, by simp [Instr.loadAt, Instr.sureAddr, loadVar, hA, hc], hr⟩
  unfold readA at h
  split at h
  · rename_i o off
    cases hx with
    | ptr ho =>
      split at h
      · rename_i cs hcs
        cases l with
        | some m =>
          simp only [partA] at h
          split at h
          · rename_i hle
            cases h
            refine agg m _ _ _ rfl (by simp; omega) fun j a ha => ?_
            have := getElem?_lt ha; simp at this
            rw [List.getElem?_take_of_lt (by omega), List.getElem?_drop] at ha
            rw [Nat.add_assoc]
            exact s.cell o cs _ a hcs ha
          · cases h
        | none =>
          simp only [partA] at h
          obtain ⟨c, hc, hr⟩ := s.cell o cs _ r hcs h
          exact one _ _ r c rfl hc hr
      · cases h
  · rename_i x
    cases hx with
    | @rp b o _ cv hR hr =>
      cases l with
      | some m =>
        simp only at h
        split at h
        · rename_i cs
          split at h
          · rename_i hm
            cases h
            refine agg m b o cs rfl hm fun j a ha => ?_
            exact ⟨cv j, (hR j (by simp only [AV.cells_agg]; exact getElem?_lt ha)).1.1, hr j a ha⟩
          · cases h
        · cases h
      | none =>
        simp only at h
        split at h
        · cases h
        · rename_i hagg
          cases h
          have hcx : r.cells = [r] := by cases r <;> first | rfl | simp [AV.isAgg] at hagg
          refine one b o r (cv 0) rfl ?_ (hr 0 r (by rw [hcx]; rfl))
          have := (hR 0 (by rw [hcx]; simp)).1.1
          simpa using this
  · cases h
theorem one_cell {n : Nat} {R : Nat -> Nat -> Value -> Prop} {a : AV} (ha : a.one = true) {c : Value} (hr : Rep β n R a c) : c.oneCell' = true := by
  cases hr with
  | any x => simp [AV.one] at ha
  | v x => cases c <;> first | rfl | simp [AV.one] at ha
  | agg => simp [AV.one] at ha
  | tup => simp [AV.one] at ha
  | _ => rfl
theorem storeCells_sound : ∀ (as : List AV) (vs : List Value) (i : Nat) {H : Heap} {w : World} (s : Sim B β H w) {o off : Nat} {cs : List AV}, H[o]? = some (.cells cs) -> off + i + as.length <= cs.length -> as.length = vs.length ->
    as.all AV.one = true -> (∀ (j : Nat) (a : AV) (c : Value), as[j]? = some a -> vs[j]? = some c -> RepH β H w a c) ->
    ∃ w', (storeCells ⟨(β o).blk, (β o).off + off, none⟩ vs i).run P w = .ok () w' ∧ Sim B β (H.set o (.cells (setsA cs (off + i) as))) w' ∧ Tr B β H w β (H.set o (.cells (setsA cs (off + i) as))) w' := by
  intro as
  induction as with
  | nil =>
    intro vs i H w s o off cs ho hle hl _ _
    cases vs with
    | cons _ _ => simp at hl
    | nil =>
      have he : H.set o (.cells cs) = H := List.ext_getElem? fun k => by
        by_cases e : k = o
        · subst e; rw [List.getElem?_set_self (getElem?_lt ho), ho]
        · rw [List.getElem?_set_ne (fun h => e h.symm)]
      refine ⟨w, rfl, ?_, ?_⟩
      · simp only [setsA]; rw [he]; exact s
      · simp only [setsA]; rw [he]; exact Tr.refl _ _ _ _
  | cons a as ih =>
    intro vs i H w s o off cs ho hle hl hone hr
    cases vs with
    | nil => simp at hl
    | cons v vs =>
      simp only [List.length_cons] at hle hl
      simp only [List.all_cons, Bool.and_eq_true] at hone
      have hra := hr 0 a v rfl rfl
      have hb := s.base o cs ho
      have hroom := s.room o cs (off + i) ho (by omega)
      obtain ⟨c0, hc0⟩ := Option.isSome_iff_exists.1 hroom.1
      have hrun : (store (Addr.add ⟨(β o).blk, (β o).off + off, none⟩ i) v).run P w = .ok () (w.setCell ⟨(β o).blk, (β o).off + (off + i), none⟩ v) := by
        rw [add_none, Nat.add_assoc, run_store P w _ v .plain (one_cell hone.1 hra), hc0]
        simp [hroom.2]
      obtain ⟨s1, t1⟩ := s.store ho (j := off + i) (by omega) hra (w' := w.setCell ⟨(β o).blk, (β o).off + (off + i), none⟩ v) rfl
      obtain ⟨w', h1, h2, h3⟩ := ih vs (i + 1) s1 (o := o) (off := off) (cs := cs.set (off + i) a) (by rw [List.getElem?_set_self (getElem?_lt ho)]) (by simp; omega) (by omega) hone.2 (fun j x c hx hc => t1.rep (hr (j + 1) x c (by simpa using hx) (by simpa using hc)))
      rw [List.set_set, show off + (i + 1) = off + i + 1 by omega] at h2 h3
      refine ⟨w', ?_, h2, t1.trans h3⟩
      simp only [storeCells, Sem.run_bind, hrun, Result.andThen_ok]
      exact h1
theorem store_sound (s : Sim B β H w) {t : TypeId} {l : Option Nat} (hl : layOf P t = some l) {x y : AV} {H' : Heap} (h : storeA H l x y = some H') {c d : Value} (hx : RepH β H w x c) (hy : RepH β H w y d) :
    ∃ w', (Instr.storeAt t c d).run P w = .ok () w' ∧ Sim B β H' w' ∧ Tr B β H w β H' w' := by
  have hS := layOf_size hl w
  unfold storeA at h
  split at h
  · rename_i o off vs hf
    split at h
    · rename_i cs hcs
      split at h
      · rename_i hc
        cases h
        cases hx with
        | ptr ho =>
          obtain ⟨hlen, hget⟩ := rep_flat hy hf
          obtain ⟨w', h1, h2, h3⟩ := storeCells_sound (P := P) vs d.cells.toList 0 s hcs (off := off) (by omega) (by simp [hlen]) hc.2.2 (fun j a c ha hc => hget j a c ha (by simpa using hc))
          refine ⟨w', ?_, by simpa using h2, by simpa using h3⟩
          have : ¬ (d.cells.size ≠ laySize l) := by omega
          simp [Instr.storeAt, Instr.sureAddr, storeVar, hS, this, h1]
      · cases h
    · cases h
  · cases h
theorem flatMap_get {sz : Nat} : ∀ {xs : List AV}, (∀ (i : Nat) (x : AV), xs[i]? = some x -> x.cells.length = sz) -> (xs.flatMap AV.cells).length = xs.length * sz ∧
    ∀ (k : Nat) (a : AV), (xs.flatMap AV.cells)[k]? = some a -> ∃ (i : Nat) (x : AV) (j : Nat), k = i * sz + j ∧ xs[i]? = some x ∧ x.cells[j]? = some a := by
  intro xs
  induction xs with
  | nil => intro _; simp
  | cons x xs ih =>
    intro h
    have h0 := h 0 x rfl
    obtain ⟨hl, hg⟩ := ih fun i y hy => h (i + 1) y (by simpa using hy)
    refine ⟨by simp only [List.flatMap_cons, List.length_append, hl, h0, List.length_cons, Nat.add_mul]; omega, fun k a hk => ?_⟩
    rw [List.flatMap_cons] at hk
    rcases Nat.lt_or_ge k x.cells.length with hlt | hge
    · rw [List.getElem?_append_left hlt] at hk
      exact ⟨0, x, k, by omega, rfl, hk⟩
    · rw [List.getElem?_append_right hge] at hk
      obtain ⟨i, y, j, e, h1, h2⟩ := hg _ _ hk
      exact ⟨i + 1, y, j, by rw [Nat.add_mul]; omega, by simpa using h1, h2⟩
theorem cells_sound (s : Sim B β H w) {sz : Nat} {x : AV} {m : Nat} {news : List AV} (h : cellsA H sz x = some (m, news)) {c : Value} (hx : RepH β H w x c) :
    ∃ p cap, c = .slice p m cap ∧ ∃ vs : List Value, vs.length = m * sz ∧ news.length = m * sz ∧ (∀ (j : Nat) (a : AV) (c : Value), news[j]? = some a -> vs[j]? = some c -> RepH β H w a c) ∧
      ∀ k, k <= m -> ∀ w2 : World, w2.heap = w.heap -> (Builtin.firstCells sz k c).run P w2 = .ok (vs.take (k * sz)).toArray w2 := by
  have triv : ∀ (p : Option Addr) (cap : Nat), c = .slice p 0 cap -> m = 0 -> news = [] -> ∃ p cap, c = .slice p m cap ∧ ∃ vs : List Value, vs.length = m * sz ∧ news.length = m * sz ∧ (∀ (j : Nat) (a : AV) (c : Value), news[j]? = some a -> vs[j]? = some c -> RepH β H w a c) ∧
      ∀ k, k <= m -> ∀ w2 : World, w2.heap = w.heap -> (Builtin.firstCells sz k c).run P w2 = .ok (vs.take (k * sz)).toArray w2 := by
    intro p cap hc hm hn
    subst hc; subst hm; subst hn
    refine ⟨p, cap, rfl, [], by simp, by simp, by simp, fun k hk w2 _ => ?_⟩
    have : k = 0 := by omega
    subst this
    cases p <;> simp [Builtin.firstCells, loadCells, loadCellsFrom]
  have full : ∀ (b o len cap : Nat), c = .slice (some ⟨b, o, none⟩) len cap -> m = len -> news.length = len * sz -> (∀ (j : Nat) (a : AV), news[j]? = some a -> ∃ d, w.cell? ⟨b, o + j, none⟩ = some d ∧ RepH β H w a d) ->
      ∃ p cap, c = .slice p m cap ∧ ∃ vs : List Value, vs.length = m * sz ∧ news.length = m * sz ∧ (∀ (j : Nat) (a : AV) (c : Value), news[j]? = some a -> vs[j]? = some c -> RepH β H w a c) ∧
      ∀ k, k <= m -> ∀ w2 : World, w2.heap = w.heap -> (Builtin.firstCells sz k c).run P w2 = .ok (vs.take (k * sz)).toArray w2 := by
    intro b o len cap hc hm hn hget
    subst hc; subst hm
    obtain ⟨vs, h1, h2, h3⟩ := row_of news b o hget
    refine ⟨_, cap, rfl, vs, by omega, hn, h3, fun k hk w2 hw2 => ?_⟩
    have hle : k * sz <= vs.length := by rw [h1, hn]; exact Nat.mul_le_mul_right _ hk
    have := loadCells_run (P := P) (w := w2) (b := b) (o := o) (vs := vs.take (k * sz)) (fun j v hv => by
      have hlt := getElem?_lt hv
      simp at hlt
      rw [List.getElem?_take_of_lt (by omega)] at hv
      rw [cell?_congr hw2]; exact h2 j v hv)
    rw [show (vs.take (k * sz)).length = k * sz by simp; omega] at this
    simp only [Builtin.firstCells]
    exact this
  unfold cellsA at h
  split at h
  · cases h; exact triv _ _ (rep_v hx) rfl rfl
  · cases h
    cases hx with
    | z0 a => exact triv _ _ rfl rfl rfl
  · rename_i s' xs
    split at h
    · rename_i hs
      subst hs
      cases h
      cases hx with
      | lstNil _ a cap => exact triv _ _ rfl rfl rfl
      | @lst _ b o cap _ cv hcap hR hs h =>
        obtain ⟨hl, hg⟩ := flatMap_get hs
        refine full _ _ _ _ rfl rfl hl fun k a hk => ?_
        obtain ⟨i, x, j, e, h1, h2⟩ := hg k a hk
        have hk' := getElem?_lt hk
        exact ⟨cv k, (hR k (by omega)).1.1, by rw [e]; exact h i x j a h1 h2⟩
    · cases h
  · rename_i s' o off len cap
    split at h
    · rename_i hs
      subst hs
      split at h
      · rename_i h0
        subst h0
        cases h
        cases hx with
        | slZero p _ _ => exact triv _ _ rfl rfl rfl
        | sl _ _ _ _ => exact triv _ _ rfl rfl rfl
      · rename_i h0
        split at h
        · rename_i cs hcs
          split at h
          · rename_i hle
            cases h
            cases hx with
            | slZero p _ _ => exact absurd rfl h0
            | sl ho hl _ _ =>
              refine full _ _ _ _ rfl rfl (by simp; omega) fun j a ha => ?_
              have hlt := getElem?_lt ha; simp at hlt
              rw [List.getElem?_take_of_lt (by omega), List.getElem?_drop] at ha
              rw [Nat.add_assoc]
              exact s.cell o cs _ a hcs ha
          · cases h
        · cases h
    · cases h
  · cases h
theorem zeroCells_size (zero : Array Value) (n : Nat) : (Builtin.zeroCells zero n).size = n * zero.size := by simp [Builtin.zeroCells]
theorem drew_tr (s : Sim B β H w) : Sim B β H w.drew ∧ Tr B β H w β H w.drew := ⟨Sim.congr (w := w) (w' := w.drew) rfl s, Tr.congr rfl rfl rfl rfl⟩
def grown (w : World) (need old : Nat) (e : TypeId) : Nat := (Question.appendCap need old e).cut (w.tape w.drawn (.appendCap need old e))
theorem grown_ge (w : World) {need old : Nat} (e : TypeId) : need <= grown w need old e := by
  simp [grown, Question.cut]
section
variable {t u e ty : TypeId} {i : TypeInfo} {z : Value}
theorem append_room {d : TypeDesc} (ht : P.underlying t = some (.slice e)) (hi : P.info? e = some i) (hu : P.underlying u = some d) (hd : d = .string ∨ ∃ f, d = .slice f)
    {base : Option Addr} {sLen sCap : Nat} {x : Value} {m : Nat} (hn : (Builtin.lenOf x).run P w = .ok m w) {news : List Value} (hnews : (Builtin.firstCells i.size m x).run P w = .ok news.toArray w)
    (hroom : sLen + m <= sCap) {w' : World} (hst : ∀ a, base = some a -> (storeCells (a.add (sLen * i.size)) news).run P w = .ok () w') (hbase : base = none -> w' = w) :
    (Builtin.append_ #[t, u] ty #[.slice base sLen sCap, x]).run P w = .ok (.slice base (sLen + m) sCap) w' := by
  have hS : (sizeOf e).run P w = .ok i.size w := by simp [sizeOf, typeInfo, hi]
  rcases hd with rfl | ⟨f, rfl⟩
  all_goals
    cases base with
    | none =>
      have := hbase rfl
      subst this
      simp [Builtin.append_, run_und ht, hS, run_und hu, hn, hroom, hnews]
    | some a =>
      have h3 := hst a rfl
      simp [Builtin.append_, run_und ht, hS, run_und hu, hn, hroom, hnews, h3]
theorem append_grow {d : TypeDesc} (ht : P.underlying t = some (.slice e)) (hi : P.info? e = some i) (hz : i.zero = some z) (hu : P.underlying u = some d) (hd : d = .string ∨ ∃ f, d = .slice f)
    {base : Option Addr} {sLen sCap : Nat} {x : Value} {m : Nat} (hn : (Builtin.lenOf x).run P w = .ok m w) {olds news : List Value} (hnews : (Builtin.firstCells i.size m x).run P w.drew = .ok news.toArray w.drew)
    (holds : (Builtin.firstCells i.size sLen (.slice base sLen sCap)).run P w.drew = .ok olds.toArray w.drew)
    (hroom : sCap < sLen + m) (hlim : (sLen + m) * i.bytes <= LIM) (hlim2 : sLen + m <= LIM) (hb : 0 < i.bytes) :
    (Builtin.append_ #[t, u] ty #[.slice base sLen sCap, x]).run P w = .ok (.slice (some ⟨w.heap.size, 0, none⟩) (sLen + m) (grown w (sLen + m) sCap e))
      (w.drew.alloc (.cells (olds.toArray ++ news.toArray ++ Builtin.zeroCells z.cells (grown w (sLen + m) sCap e - (sLen + m))) e)) := by
  have hS : (sizeOf e).run P w = .ok i.size w := by simp [sizeOf, typeInfo, hi]
  have h1 : ¬ (sLen + m <= sCap) := by omega
  have h2 : ¬ (9223372036854775807 < ((sLen : Int) + (m : Int))) := by unfold LIM at hlim2; omega
  have h3 : ¬ (281474976710656 < Builtin.nextslicecap (sLen + m) sCap * i.bytes) := by
    have := growslice_fits hroom (bytes := i.bytes) hlim
    omega
  have h4 : ¬ (i.bytes = 0) := by omega
  rcases hd with rfl | ⟨f, rfl⟩
  all_goals
    simp [Builtin.append_, run_und ht, hS, run_und hu, hn, h1, h2, h3, h4, hnews, holds, typeInfo, hi, zeroValue, hz, newRow, Question.forced, grown]
    congr 2
    apply Array.ext'
    simp [List.append_assoc]
theorem appendZ_room {k : IntKind} (ht : P.underlying t = some (.slice e)) (hi : P.info? e = some i) (hz : i.zero = some z) (hu : P.underlying u = some (.int k))
    {base : Option Addr} {sLen sCap : Nat} {k' : IntKind} {m : Nat} (hm : m * i.bytes <= 281474976710656) (hb : 0 < i.bytes) {news : List Value} (hnews : news.toArray = Builtin.zeroCells z.cells m)
    (hzs : z.cells.size = i.size)
    (hroom : sLen + m <= sCap) {w' : World} (hst : ∀ a, base = some a -> (storeCells (a.add (sLen * i.size)) news).run P w = .ok () w') (hbase : base = none -> w' = w) :
    (Builtin.append_ #[t, u] ty #[.slice base sLen sCap, .int k' (m : Int)]).run P w = .ok (.slice base (sLen + m) sCap) w' := by
  have hS : (sizeOf e).run P w = .ok i.size w := by simp [sizeOf, typeInfo, hi]
  have hm' : m <= 281474976710656 := Nat.le_trans (Nat.le_mul_of_pos_right m hb) hm
  have hwrap : IntKind.i64.wrap (m : Int) = (m : Int) := IntWalk.i64_in _ (by omega)
  have hneg : ¬ ((m : Int) < 0) := by omega
  have hbig : ¬ (281474976710656 < (m : Int) * (i.bytes : Int)) := by
    have h1 : ((m * i.bytes : Nat) : Int) <= ((281474976710656 : Nat) : Int) := Int.ofNat_le.2 hm
    rw [Int.natCast_mul] at h1
    omega
  have hnews' : (if m * i.size = 0 then (pure #[] : Sem (Array Value)) else do pure (Builtin.zeroCells (<- zeroValue e).cells m)) = (if m * i.size = 0 then pure news.toArray else do pure (Builtin.zeroCells (<- zeroValue e).cells m)) := by
    split
    · rename_i h0
      have : news = [] := by
        have h2 : news.toArray.size = 0 := by rw [hnews, zeroCells_size, hzs, h0]
        simpa using h2
      rw [this]
    · rfl
  cases base with
  | none =>
    have := hbase rfl
    subst this
    by_cases h0 : m * i.size = 0
    · simp [Builtin.append_, run_und ht, hS, run_und hu, hwrap, hneg, hbig, asInt, asIntOf, typeInfo, hi, hroom, h0]
    · simp [Builtin.append_, run_und ht, hS, run_und hu, hwrap, hneg, hbig, asInt, asIntOf, typeInfo, hi, hroom, h0, zeroValue, hz]
  | some a =>
    have h3 := hst a rfl
    by_cases h0 : m * i.size = 0
    · have : news = [] := by
        have h2 : news.toArray.size = 0 := by rw [hnews, zeroCells_size, hzs, h0]
        simpa using h2
      subst this
      simp [Builtin.append_, run_und ht, hS, run_und hu, hwrap, hneg, hbig, asInt, asIntOf, typeInfo, hi, hroom, h0, h3]
    · simp [Builtin.append_, run_und ht, hS, run_und hu, hwrap, hneg, hbig, asInt, asIntOf, typeInfo, hi, hroom, h0, zeroValue, hz, <- hnews, h3]
theorem appendZ_grow {k : IntKind} (ht : P.underlying t = some (.slice e)) (hi : P.info? e = some i) (hz : i.zero = some z) (hu : P.underlying u = some (.int k))
    {base : Option Addr} {sLen sCap : Nat} {k' : IntKind} {m : Nat} (hm : m * i.bytes <= 281474976710656) {olds news : List Value} (hnews : news.toArray = Builtin.zeroCells z.cells m) (hzs : z.cells.size = i.size)
    (holds : (Builtin.firstCells i.size sLen (.slice base sLen sCap)).run P w.drew = .ok olds.toArray w.drew)
    (hroom : sCap < sLen + m) (hlim : (sLen + m) * i.bytes <= LIM) (hlim2 : sLen + m <= LIM) (hb : 0 < i.bytes) :
    (Builtin.append_ #[t, u] ty #[.slice base sLen sCap, .int k' (m : Int)]).run P w = .ok (.slice (some ⟨w.heap.size, 0, none⟩) (sLen + m) (grown w (sLen + m) sCap e))
      (w.drew.alloc (.cells (olds.toArray ++ news.toArray ++ Builtin.zeroCells z.cells (grown w (sLen + m) sCap e - (sLen + m))) e)) := by
  have hS : (sizeOf e).run P w = .ok i.size w := by simp [sizeOf, typeInfo, hi]
  have h1 : ¬ (sLen + m <= sCap) := by omega
  have h2 : ¬ (9223372036854775807 < ((sLen : Int) + (m : Int))) := by unfold LIM at hlim2; omega
  have h3 : ¬ (281474976710656 < Builtin.nextslicecap (sLen + m) sCap * i.bytes) := by
    have := growslice_fits hroom (bytes := i.bytes) hlim
    omega
  have h4 : ¬ (i.bytes = 0) := by omega
  have hm' : m <= 281474976710656 := Nat.le_trans (Nat.le_mul_of_pos_right m hb) hm
  have hwrap : IntKind.i64.wrap (m : Int) = (m : Int) := IntWalk.i64_in _ (by omega)
  have hneg : ¬ ((m : Int) < 0) := by omega
  have hbig : ¬ (281474976710656 < (m : Int) * (i.bytes : Int)) := by
    have h1 : ((m * i.bytes : Nat) : Int) <= ((281474976710656 : Nat) : Int) := Int.ofNat_le.2 hm
    rw [Int.natCast_mul] at h1
    omega
  by_cases h0 : m * i.size = 0
  · have : news = [] := by
      have h2 : news.toArray.size = 0 := by rw [hnews, zeroCells_size, hzs, h0]
      simpa using h2
    subst this
    simp [Builtin.append_, run_und ht, hS, run_und hu, hwrap, hneg, hbig, asInt, asIntOf, h1, h2, h3, h4, holds, typeInfo, hi, zeroValue, hz, newRow, Question.forced, grown, h0]
  · simp [Builtin.append_, run_und ht, hS, run_und hu, hwrap, hneg, hbig, asInt, asIntOf, h1, h2, h3, h4, holds, typeInfo, hi, zeroValue, hz, newRow, Question.forced, grown, h0, <- hnews]
    congr 2
    apply Array.ext'
    simp [List.append_assoc]
end
end
end Go.Ab

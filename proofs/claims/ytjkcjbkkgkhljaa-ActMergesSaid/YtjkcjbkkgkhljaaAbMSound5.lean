/- A part of a law's proof: AbMSound5. -/
import Derived.Lib.Builder
import Derived.Lib.Overlaps
import Derived.Lib.UnsafeStr
import Derived.Test.YtjkcjbkkgkhljaaAbMap
set_option linter.constructorNameAsVariable false
/-
  Operations of rarer kinds.
-/
namespace Go.Ab
open Go Go.RowKit
set_option linter.unusedVariables false
set_option linter.unusedSimpArgs false
section
variable {P : Program} {B : Nat} {β : Lies} {H : Heap} {w : World}
theorem Sim.addTag (s : Sim B β H w) {o : Nat} {e : TypeId} (ho : o < H.length) (ht : NewTag o β w e) : Sim B β (H ++ [.tag o e]) w ∧ Tr B β H w β (H ++ [.tag o e]) w := by
  have hown : ∀ b i, Owned β (H ++ [.tag o e]) b i ↔ Owned β H b i := fun b i => by
    constructor
    · rintro ⟨p, cs, hp, r⟩
      rcases get_push hp with ⟨_, hp'⟩ | ⟨_, he⟩
      · exact ⟨p, cs, hp', r⟩
      · cases he
    · rintro ⟨p, cs, hp, r⟩
      exact ⟨p, cs, by rw [List.getElem?_append_left (getElem?_lt hp)]; exact hp, r⟩
  have tr : Tr B β H w β (H ++ [.tag o e]) w := ⟨Below.refl _ _, by simp, fun _ _ => rfl, fun b i c h => ⟨h.1, fun x => h.2 ((hown b i).1 x)⟩, rfl, fun b _ hn => ⟨rfl, fun h => hn (live_pushN rfl h)⟩⟩
  refine ⟨⟨s.size, fun p ds hp i => (get_push hp).elim (fun h => s.nodd p ds h.2 i) (fun h => by cases h.2), ?_, ?_, ?_, ?_, ?_, ?_, ?_, ?_⟩, tr⟩
  · intro p cs hp
    rcases get_push hp with ⟨_, hp'⟩ | ⟨_, he⟩
    · exact s.base p cs hp'
    · cases he
  · intro p cs j a hp ha
    rcases get_push hp with ⟨_, hp'⟩ | ⟨_, he⟩
    · obtain ⟨c, hc, hr⟩ := s.cell p cs j a hp' ha; exact ⟨c, hc, tr.rep hr⟩
    · cases he
  · intro p cs j hp hj
    rcases get_push hp with ⟨_, hp'⟩ | ⟨_, he⟩
    · exact s.room p cs j hp' hj
    · cases he
  · intro p es hp
    rcases get_push hp with ⟨_, hp'⟩ | ⟨_, he⟩
    · obtain ⟨hb, ents, clock, he, hl', hrep⟩ := s.map p es hp'
      exact ⟨hb, ents, clock, he, hl', fun i a b e hi hj => ⟨tr.rep (hrep i a b e hi hj).1, tr.rep (hrep i a b e hi hj).2⟩⟩
    · cases he
  · intro o₁ o₂ cs₁ cs₂ hne h1 h2 hb
    rcases get_push h1 with ⟨_, h1⟩ | ⟨_, he⟩
    · rcases get_push h2 with ⟨_, h2⟩ | ⟨_, he⟩
      · exact s.disj o₁ o₂ cs₁ cs₂ hne h1 h2 hb
      · cases he
    · cases he
  · intro o₁ o₂ es₁ es₂ hne h1 h2
    rcases get_push h1 with ⟨_, h1⟩ | ⟨_, he⟩
    · rcases get_push h2 with ⟨_, h2⟩ | ⟨_, he⟩
      · exact s.mdisj o₁ o₂ es₁ es₂ hne h1 h2
      · cases he
    · cases he
  · intro p q t hp
    rcases get_push hp with ⟨_, hp'⟩ | ⟨_, he⟩
    · obtain ⟨h1, h2⟩ := s.tag p q t hp'
      exact ⟨by simp; omega, h2⟩
    · cases he
      exact ⟨by simp; omega, ht⟩
  · intro q cs t' n hq hsh
    rcases get_push hq with ⟨_, hq'⟩ | ⟨_, he⟩
    · exact s.clean q cs t' n hq' hsh
    · cases he
theorem tagged_get {o : Nat} {e : TypeId} (h : tagged H o e = true) : ∃ p : Nat, H[p]? = some (AObj.tag o e) := by
  unfold tagged at h
  obtain ⟨x, hx, hb⟩ := List.any_eq_true.1 h
  obtain ⟨p, hp⟩ := List.getElem?_of_mem hx
  cases x with
  | tag o' e' =>
    simp only [Bool.and_eq_true] at hb
    have h1 := Nat.eq_of_beq_eq_true hb.1
    have h2 := Nat.eq_of_beq_eq_true hb.2
    subst h1; subst h2
    exact ⟨p, hp⟩
  | _ => simp at hb
theorem freeze_cell {a b : Addr} {n : Nat} : (w.freeze a n).cell? b = w.cell? b := by
  unfold World.freeze
  split
  · rfl
  · unfold World.cell?
    simp only [Array.getElem?_modify]
    by_cases e : a.block = b.block
    · rw [if_pos e]
      cases hh : w.heap[b.block]? with
      | none => rfl
      | some x => cases x <;> rfl
    · rw [if_neg e]
theorem freeze_shape {a : Addr} {r n : Nat} : (w.freeze a n).shape? r = w.shape? r := by
  unfold World.freeze
  split
  · rfl
  · unfold World.shape?
    simp only [Array.getElem?_modify]
    by_cases e : a.block = r
    · rw [if_pos e]
      cases hh : w.heap[r]? with
      | none => rfl
      | some x => cases x <;> rfl
    · rw [if_neg e]
theorem freeze_heap {a : Addr} {r n : Nat} (h : r ≠ a.block) : (w.freeze a n).heap[r]? = w.heap[r]? := by
  unfold World.freeze
  split
  · rfl
  · simp only [Array.getElem?_modify]
    rw [if_neg (fun e => h e.symm)]
theorem freeze_size {a : Addr} {n : Nat} : (w.freeze a n).heap.size = w.heap.size := by
  unfold World.freeze
  split <;> simp
theorem Sim.freeze (s : Sim B β H w) {o : Nat} {cs : List AV} (ho : H[o]? = some (.cells cs)) {sh : TypeId × Nat} (hsh : w.shape? (β o).blk = some sh) (x n : Nat) :
    Sim B β (H.set o .dead) (w.freeze ⟨(β o).blk, x, none⟩ n) ∧ Tr B β H w β (H.set o .dead) (w.freeze ⟨(β o).blk, x, none⟩ n) := by
  have hb := s.base o cs ho
  have tr : Tr B β H w β (H.set o .dead) (w.freeze ⟨(β o).blk, x, none⟩ n) :=
    ⟨Go.Lib.below_freeze (Below.refl B w) hb.1 n, by simp, fun _ _ => rfl, fun b i c h => ⟨⟨by rw [freeze_cell]; exact h.1.1, h.1.2⟩, fun y => h.2 (owned_dead b i y)⟩, rfl, fun b _ hn => ⟨freeze_heap (fun e => hn ⟨o, _, ho, rfl, e.symm⟩), fun h => hn (live_kill h)⟩⟩
  have hfz : ∀ {p : Nat} {ds : List AV}, p ≠ o -> H[p]? = some (.cells ds) -> (w.freeze ⟨(β o).blk, x, none⟩ n).heap[(β p).blk]? = w.heap[(β p).blk]? := by
    intro p ds hne hp
    exact freeze_heap fun e => s.disj p o ds cs hne hp ho e
  refine ⟨⟨s.size.go tr.below, fun p ds hp => (get_set hp).elim (fun h => by cases h.2) (fun h => s.nodd p ds h.2), ?_, ?_, ?_, ?_, ?_, ?_, ?_, ?_⟩, tr⟩
  · intro p ds hp
    rw [freeze_size]
    rcases get_set hp with ⟨_, he⟩ | ⟨_, h⟩
    · cases he
    · exact s.base p ds h
  · intro p ds j a hp ha
    rcases get_set hp with ⟨_, he⟩ | ⟨_, h⟩
    · cases he
    · obtain ⟨c, hc, hr⟩ := s.cell p ds j a h ha; exact ⟨c, by rw [freeze_cell]; exact hc, tr.rep hr⟩
  · intro p ds j hp hj
    rcases get_set hp with ⟨_, he⟩ | ⟨hne, h⟩
    · cases he
    · obtain ⟨h1, h2⟩ := s.room p ds j h hj
      refine ⟨by rw [freeze_cell]; exact h1, ?_⟩
      unfold World.frozen? at h2 ⊢
      rw [hfz hne h]; exact h2
  · intro p es hp
    rcases get_set hp with ⟨_, he⟩ | ⟨hne, h⟩
    · cases he
    · obtain ⟨hb', ents, clock, he, hl', hrep⟩ := s.map p es h
      refine ⟨hb', ents, clock, ?_, hl', fun i a b e hi hj => ⟨tr.rep (hrep i a b e hi hj).1, tr.rep (hrep i a b e hi hj).2⟩⟩
      rw [freeze_heap]
      · exact he
      · intro e
        have e' : (β p).blk = (β o).blk := e
        unfold World.shape? at hsh
        rw [<- e', he] at hsh
        cases hsh
  · intro o₁ o₂ cs₁ cs₂ hne h1 h2 hbb
    rcases get_set h1 with ⟨_, he⟩ | ⟨_, h1⟩
    · cases he
    · rcases get_set h2 with ⟨_, he⟩ | ⟨_, h2⟩
      · cases he
      · exact s.disj o₁ o₂ cs₁ cs₂ hne h1 h2 hbb
  · intro o₁ o₂ es₁ es₂ hne h1 h2
    rcases get_set h1 with ⟨_, he⟩ | ⟨_, h1⟩
    · cases he
    · rcases get_set h2 with ⟨_, he⟩ | ⟨_, h2⟩
      · cases he
      · exact s.mdisj o₁ o₂ es₁ es₂ hne h1 h2
  · intro p q t hp
    rcases get_set hp with ⟨_, he⟩ | ⟨_, hp'⟩
    · cases he
    · obtain ⟨h1, h2, k, h3⟩ := s.tag p q t hp'
      exact ⟨by simpa using h1, h2, k, by rw [freeze_shape]; exact h3⟩
  · intro q ds t' n hq hsh
    rcases get_set hq with ⟨_, he⟩ | ⟨hne, hq'⟩
    · cases he
    · rw [freeze_shape] at hsh
      have h2 := s.clean q ds t' n hq' hsh
      unfold World.frozen? at h2 ⊢
      rw [hfz hne hq']; exact h2
theorem cap_sound {x : AV} {n : Nat} (h : capF x = some n) {c : Value} (hx : RepH β H w x c) : ∃ a l, c = .slice a l n := by
  unfold capF at h
  split at h
  · cases h; exact ⟨_, _, rep_v hx⟩
  · cases h; cases hx; exact ⟨_, _, rfl⟩
  · cases h
    cases hx with
    | sl ho hl hc hn => have := (hc _ rfl).1; subst this; exact ⟨_, _, rfl⟩
    | slZero p ho hc =>
      rcases hc with ⟨h, _⟩ | h
      · cases h
      · cases h; exact ⟨_, _, rfl⟩
  · cases h
theorem run_cap {t e ty : TypeId} (ht : P.underlying t = some (.slice e)) (a : Option Addr) (l n : Nat) : (Builtin.cap_ #[t] ty #[.slice a l n]).run P w = .ok (.int .i64 (n : Int)) w := by
  simp [Builtin.cap_, run_und ht, goInt]
theorem repA_one {zs : List AV} (h : zs.all AV.one = true) (n : Nat) : (repA n zs).all AV.one = true := by
  unfold repA
  rw [List.all_eq_true] at h ⊢
  intro x hx
  obtain ⟨l, hl, hx⟩ := List.mem_flatten.1 hx
  rw [List.eq_of_mem_replicate hl] at hx
  exact h x hx
theorem x_clear (s : Sim B β H w) {t e ty : TypeId} {l : Option Nat} {zs : List AV} (ht : P.underlying t = some (.slice e)) (hl : layOf P e = some l) (hz : zeroA P e = some zs) (hzl : zs.length = laySize l) (hpos : 0 < laySize l) (hone : zs.all AV.one = true)
    {x : AX} {ρ : Nat -> AV} {r : AV} {H' : Heap} (h : XOp.run ρ H (.clear (laySize l) zs x) = some (r, H')) {c : Value} (hx : RepH β H w (x.ev ρ) c) :
    MemOk P B β H w (do pure (Next.value (<- Builtin.clear_ #[t] ty #[c]))) r H' := by
  obtain ⟨i, z, hi, hz', rfl⟩ := zeroA_some hz
  simp only [List.length_map, Array.length_toList] at hzl
  have nil : ∀ (a : Option Addr) (n : Nat), (a = none ∨ n = 0) -> ∀ cap, (Builtin.clear_ #[t] ty #[.slice a n cap]).run P w = .ok (.tuple #[]) w := by
    intro a n ha cap
    rcases ha with rfl | rfl
    · simp [Builtin.clear_, run_und ht]
    · cases a <;> simp [Builtin.clear_, run_und ht]
  simp only [XOp.run] at h
  generalize x.ev ρ = X at h hx
  split at h
  · cases h
    have := rep_v hx
    subst this
    exact .val (nil _ _ (.inl rfl) _) (.v _) s (Tr.refl _ _ _ _)
  · cases h
    cases hx
    exact .val (nil _ _ (.inr rfl) _) (.v _) s (Tr.refl _ _ _ _)
  · rename_i s' o off len cap
    split at h
    · rename_i hs
      subst hs
      split at h
      · rename_i h0
        cases h
        cases hx with
        | sl ho hl' hc hn => subst h0; exact .val (nil _ _ (.inr rfl) _) (.v _) s (Tr.refl _ _ _ _)
        | slZero p ho hc => exact .val (nil _ _ (.inr rfl) _) (.v _) s (Tr.refl _ _ _ _)
      · rename_i h0
        split at h
        · rename_i cs hcs
          split at h
          · rename_i hin
            cases h
            cases hx with
            | slZero p ho hc => exact absurd rfl h0
            | @sl _ _ _ _ cap' _ ho hl' hc hn =>
              have hwh := whole_rep (β' := β) (n := H.length) (R := RO β H w) z.cells len (.inl (by omega))
              have hlen : (repA len (z.cells.toList.map .v)).length = len * laySize l := by rw [repA_length]; simp [hzl]
              obtain ⟨w', k1, k2, k3⟩ := storeCells_sound (P := P) (repA len (z.cells.toList.map .v)) (Builtin.zeroCells z.cells len).toList 0 s hcs (off := off) (by rw [hlen]; omega)
                (by rw [hlen, Array.length_toList, zeroCells_size, hzl]) (repA_one hone len) (fun j a c ha hc => hwh.2 j a c ha (by rw [<- Array.getElem?_toList]; exact hc))
              simp only [Nat.add_zero] at k2 k3
              have hrun : (Builtin.clear_ #[t] ty #[.slice (some ⟨(β o).blk, (β o).off + off, none⟩) len cap']).run P w = .ok (.tuple #[]) w' := by
                obtain ⟨n, rfl⟩ : ∃ n, len = n + 1 := ⟨len - 1, by omega⟩
                simp [Builtin.clear_, run_und ht, info_und hi hz' w, k1]
              exact .val hrun (.v _) k2 k3
          · cases h
        · cases h
    · cases h
  · cases h
theorem x_alloc (s : Sim B β H w) {t : TypeId} {zs : List AV} (hz : zeroA P t = some zs) :
    MemOk P B β H w (do pure (Next.value (<- Instr.alloc t true (.tuple #[])))) (.ptr H.length 0) (H ++ [.cells zs] ++ [.tag H.length t]) := by
  obtain ⟨i, z, hi, hz', rfl⟩ := zeroA_some hz
  obtain ⟨s', t'⟩ := s.alloc z.cells t (z.cells.toList.map .v) (by simp) (fun j a ha => by
    simp only [List.getElem?_map, Option.map_eq_some_iff] at ha
    obtain ⟨c, hc, rfl⟩ := ha
    exact ⟨c, by simpa using hc, .v _⟩) rfl
  obtain ⟨s2, t2⟩ := s'.addTag (o := H.length) (e := t) (by simp) ⟨by rw [Em.set_same], _, by rw [Em.set_same]; exact shape_alloc_new⟩
  exact .val (S := Instr.alloc t true (.tuple #[])) (by simp [Instr.alloc, info_und hi hz' w, newVar, newRow]) (t2.rep (rep_new s s')) s2 (t'.trans t2)
theorem x_retype (s : Sim B β H w) {src dst e : TypeId} (hn : 0 < P.cellsOf e) (ht : (P.underlying src = some (.pointer e) ∧ P.underlying dst = some .unsafePointer) ∨ (P.underlying src = some .unsafePointer ∧ P.underlying dst = some (.pointer e)))
    {x : AX} {ρ : Nat -> AV} {r : AV} {H' : Heap} (h : XOp.run ρ H (.retype e (P.cellsOf e) x) = some (r, H')) {c : Value} (hx : RepH β H w (x.ev ρ) c) :
    MemOk P B β H w (do pure (Next.value (<- convert src dst c))) r H' := by
  simp only [XOp.run] at h
  generalize x.ev ρ = X at h hx
  split at h
  · rename_i o off
    split at h
    · rename_i hb
      simp only [Bool.and_eq_true] at hb
      have h0 := Nat.eq_of_beq_eq_true hb.1
      subst h0
      obtain ⟨p, hp⟩ := tagged_get hb.2
      obtain ⟨q1, q2, k, q3⟩ := s.tag p o e hp
      split at h
      · rename_i cs hcs
        split at h
        · rename_i hlen
          cases h
          cases hx with
          | ptr ho =>
            have hbase := (s.base o cs hcs).2.2
            have hroom := (s.room o cs (P.cellsOf e - 1) hcs (by omega)).1
            have hk : P.cellsOf e <= k := by
              unfold World.shape? at q3
              split at q3
              · rename_i arr el fz hh
                simp only [Option.some.injEq, Prod.mk.injEq] at q3
                rw [q2] at hroom
                unfold World.cell? at hroom
                simp only [hh] at hroom
                simp at hroom
                omega
              · cases q3
            have hinfo : ∃ j, P.info? e = some j ∧ j.size ≠ 0 := by
              unfold Program.cellsOf at hn
              cases hi : P.info? e with
              | none => rw [hi] at hn; simp at hn
              | some j => rw [hi] at hn; simp at hn; exact ⟨j, rfl, by omega⟩
            obtain ⟨j, hj, hj0⟩ := hinfo
            refine .val (c := .pointer (some ⟨(β o).blk, (β o).off + 0, none⟩)) (w' := w) (β' := β) ?_ (.ptr ho) s (Tr.refl _ _ _ _)
            rcases ht with ⟨hs, hd⟩ | ⟨hs, hd⟩
            · exact Go.Lib.run_to_unsafe (P := P) w _ hs hd hj hj0 q3 (by simp; omega)
            · refine Go.Lib.run_from_unsafe (P := P) w _ hs hd hj q3 ?_
              rw [q2]
              have hd : P.depth = (2 * (P.types.size + Made.depth) + 1) + 1 := rfl
              have hdiv : 1 <= k / P.cellsOf e := (Nat.one_le_div_iff hn).2 hk
              rw [hd]
              simp only [liesAt, Bool.or_eq_true]
              left
              rw [hd]
              simp [rowAt, sameLayout]
              exact ⟨by omega, by left; omega⟩
        · cases h
      · cases h
    · cases h
  · cases h
theorem bytes_cells : ∀ {cs : List AV} {bs : List UInt8}, bytesOfA cs = some bs -> ∀ {b o : Nat}, (∀ (j : Nat) (a : AV), cs[j]? = some a -> ∃ c, w.cell? ⟨b, o + j, none⟩ = some c ∧ RepH β H w a c) ->
    bs.length = cs.length ∧ ∀ (acc : ByteArray), (loadBytes ⟨b, o, none⟩ acc cs.length).run P w = .ok ⟨acc.data ++ bs.toArray⟩ w := by
  intro cs
  induction cs with
  | nil => intro bs h b o _; simp [bytesOfA] at h; subst h; exact ⟨rfl, fun acc => by simp [loadBytes]⟩
  | cons x cs ih =>
    intro bs h b o hc
    unfold bytesOfA at h
    split at h
    · rename_i heq; cases heq
    · rename_i n rest heq
      cases heq
      obtain ⟨bs', hb, rfl⟩ := Option.map_eq_some_iff.1 h
      obtain ⟨c, h1, h2⟩ := hc 0 _ rfl
      have := rep_v h2
      subst this
      obtain ⟨k1, k2⟩ := ih hb (b := b) (o := o + 1) (fun j a hj => by
        have := hc (j + 1) a (by simpa using hj)
        rw [show o + 1 + j = o + (j + 1) by omega]; exact this)
      refine ⟨by simp [k1], fun acc => ?_⟩
      have e : Addr.add ⟨b, o, none⟩ 1 = ⟨b, o + 1, none⟩ := rfl
      simp only [List.length_cons, loadBytes, Sem.run_bind, run_load]
      rw [show w.cell? ⟨b, o, none⟩ = some (.int .u8 n) from h1]
      simp only [Result.andThen, e]
      rw [k2]
      congr 1
      apply ByteArray.ext
      simp [ByteArray.push]
    · cases h
theorem x_ustr (s : Sim B β H w) {t u ty e : TypeId} (ht : P.underlying t = some (.pointer e)) (hc : P.cellsOf e = 1)
    {x n : AX} {ρ : Nat -> AV} {r : AV} {H' : Heap} (h : XOp.run ρ H (.ustr e x n) = some (r, H')) {c d : Value} (hx : RepH β H w (x.ev ρ) c) (hn : RepH β H w (n.ev ρ) d) :
    MemOk P B β H w (do pure (Next.value (<- Builtin.unsafeString_ #[t, u] ty #[c, d]))) r H' := by
  simp only [XOp.run] at h
  generalize x.ev ρ = X at h hx
  generalize n.ev ρ = Nn at h hn
  split at h
  · rename_i k
    split at h
    · rename_i h0
      cases h
      have h1 := rep_v hx
      have h2 := rep_v hn
      subst h1; subst h2; subst h0
      exact .val (Go.Lib.run_unsafeString_none (P := P) w t u ty none) (.v _) s (Tr.refl _ _ _ _)
    · cases h
  · rename_i o off k
    split at h
    · rename_i hb
      simp only [Bool.and_eq_true] at hb
      have h0 := Nat.eq_of_beq_eq_true hb.1
      subst h0
      obtain ⟨p, hp⟩ := tagged_get hb.2
      obtain ⟨q1, q2, kk, q3⟩ := s.tag p o e hp
      split at h
      · rename_i cs hcs
        split at h
        · rename_i hlim
          split at h
          · rename_i bs hbs
            cases h
            have h2 := rep_v hn
            subst h2
            cases hx with
            | ptr ho =>
              obtain ⟨k0, rfl⟩ := Int.eq_ofNat_of_zero_le (show 0 <= k by omega)
              rw [show ((k0 : Int)).toNat = k0 from Int.toNat_natCast k0] at hbs hlim
              have hlen : (cs.take k0).length = k0 := by simp; omega
              obtain ⟨b1, b2⟩ := bytes_cells (P := P) (β := β) (H := H) (w := w) hbs (b := (β o).blk) (o := (β o).off + 0) (fun j a hj => by
                have hlt := getElem?_lt hj
                rw [hlen] at hlt
                rw [List.getElem?_take_of_lt hlt] at hj
                exact s.cell o cs j a hcs hj)
              rw [hlen] at b2
              have hbase := (s.base o cs hcs).2.2
              have hroom := (s.room o cs (k0 - 1) hcs (by omega)).1
              have hk : k0 <= kk := by
                unfold World.shape? at q3
                split at q3
                · rename_i arr el fz hh
                  simp only [Option.some.injEq, Prod.mk.injEq] at q3
                  rw [q2] at hroom
                  unfold World.cell? at hroom
                  simp only [hh] at hroom
                  simp at hroom
                  omega
                · cases q3
              obtain ⟨s', t'⟩ := s.freeze hcs q3 ((β o).off + 0) k0
              refine .val (c := .string ⟨bs.toArray⟩) (w' := w.freeze ⟨(β o).blk, (β o).off + 0, none⟩ k0) (β' := β) ?_ (.v _) s' t'
              have hlies := Go.Lib.liesAt_bytes (P := P) hc (kk / P.cellsOf e) k0 (by rw [hc]; simpa using hk)
              have hoff : (β o).off + 0 = 0 := by omega
              rw [hoff] at b2 ⊢
              have hdef : Builtin.unsafeString_ #[t, u] ty #[.pointer (some ⟨(β o).blk, 0, none⟩), .int .i64 (k0 : Int)] =
                  (do
                    let n <- asInt (.int .i64 (k0 : Int))
                    if n < 0 then runtimePanic (.error "unsafe.String: len out of range")
                    if n > IntKind.i64.max then unsupported (.unsafePointer "String: a length above the largest int")
                    if n = 0 then pure (.string .empty)
                    else if <- variablesAt ⟨(β o).blk, 0, none⟩ (<- elemOf t) n.toNat then do
                      let s <- loadBytes ⟨(β o).blk, 0, none⟩ .empty n.toNat
                      freeze ⟨(β o).blk, 0, none⟩ n.toNat
                      pure (.string s)
                    else unsupported (.unsafePointer "String: not so many bytes at ptr")) := rfl
              rw [hdef]
              have hmax : IntKind.i64.max = 9223372036854775807 := rfl
              have hneg : ¬ (k0 : Int) < 0 := by omega
              have h63 : ¬ (9223372036854775807 : Int) < (k0 : Int) := by omega
              have hk0 : ¬ k0 = 0 := by omega
              have b3 := b2 .empty
              simp [asInt, asIntOf, hmax, h63, hneg, hk0, variablesAt, q3, elemOf, run_und ht, hlies, b3]
          · cases h
        · cases h
      · cases h
    · cases h
  · cases h
theorem x_append (s : Sim B β H w) {t u ty e : TypeId} {zs : List AV} {i : TypeInfo} {b : ByteArray} (ht : P.underlying t = some (.slice e)) (hu : P.underlying u = some .string) (hz : zeroA P e = some zs) (hi : P.info? e = some i) (hs1 : i.size = 1) (hb1 : i.bytes = 1) (hzs : zs.length = 1)
    {x r : AV} {H' : Heap} {c : Value} (hx : RepH β H w x c) (ha : appendA H 1 1 x b.size (byteCells b) = some (r, H')) :
    MemOk P B β H w (do pure (Next.value (<- Builtin.append_ #[t, u] ty #[c, .string b]))) r (tagIf H H' e x) := by
  obtain ⟨d, w', β', h1, h2, h3, h4, h5⟩ := appendStr_run (P := P) s (ty := ty) ht hu hz hi hs1 hb1 hzs hx ha
  have plain : MemOk P B β H w (do pure (Next.value (<- Builtin.append_ #[t, u] ty #[c, .string b]))) r H' := .val h1 h2 h3 h4
  have more : H.length < H'.length -> NewTag H.length β' w' e -> MemOk P B β H w (do pure (Next.value (<- Builtin.append_ #[t, u] ty #[c, .string b]))) r (H' ++ [.tag H.length e]) := by
    intro hl ht
    obtain ⟨s2, t2⟩ := h3.addTag hl ht
    exact .val h1 (t2.rep h2) s2 (h4.trans t2)
  unfold tagIf
  split
  · exact plain
  · rename_i hb
    have hl : H.length < H'.length := by
      rcases Nat.lt_or_ge H.length H'.length with h | h
      · exact h
      · rw [Nat.ble_eq_true_of_le h] at hb; cases hb
    split
    · exact more hl (h5 (fun _ _ _ _ _ h => by cases h) hl)
    · exact more hl (h5 (fun _ _ _ _ _ h => by cases h) hl)
    · rename_i sz o off len cap
      split
      · rename_i hc
        simp only [Bool.and_eq_true] at hc
        refine more hl (h5 (fun sz' o' off' len' cap' h => ?_) hl)
        cases h
        exact ⟨Nat.eq_of_beq_eq_true hc.1, tagged_get hc.2⟩
      · exact plain
    · exact plain
theorem x_eqp (s : Sim B β H w) {t e : TypeId} {op : BinOp} {neg : Bool} {X Y : Operand} (ht : P.underlying t = some (.pointer e)) (hn : 0 < P.cellsOf e) (hop : (op = .eql ∧ neg = false) ∨ (op = .neq ∧ neg = true)) {x y : AX} {ρ : Nat -> AV} {r : AV} {H' : Heap}
    (h : XOp.run ρ H (.eqp neg x y) = some (r, H')) {c d : Value} (hx : RepH β H w (x.ev ρ) c) (hy : RepH β H w (y.ev ρ) d) :
    MemOk P B β H w (do pure (Next.value (<- (do eqGuard op t X Y c d; binOp op t c d)))) r H' := by
  simp only [XOp.run] at h
  generalize x.ev ρ = A at h hx
  generalize y.ev ρ = C at h hy
  split at h
  · rename_i o a o' b
    split at h
    · rename_i ho
      subst ho
      cases h
      cases hx with
      | ptr h1 =>
        cases hy with
        | ptr h2 =>
          have hinfo : ∃ j, P.info? e = some j ∧ j.size ≠ 0 := by
            unfold Program.cellsOf at hn
            cases hi : P.info? e with
            | none => rw [hi] at hn; simp at hn
            | some j => rw [hi] at hn; simp at hn; exact ⟨j, rfl, by omega⟩
          obtain ⟨j, hj, hj0⟩ := hinfo
          have hab : ((⟨(β o).blk, (β o).off + a, none⟩ : Addr) == ⟨(β o).blk, (β o).off + b, none⟩) = (a == b) := by
            by_cases e : a = b
            · subst e; simp
            · have h1 : (a == b) = false := by simpa using e
              rw [h1]
              simp [e]
          have heq : ∀ D : Nat, (Op.equalIn (D + 1) t (.pointer (some ⟨(β o).blk, (β o).off + a, none⟩)) (.pointer (some ⟨(β o).blk, (β o).off + b, none⟩))).run P w = .ok (a == b) w := by
            intro D
            simp [Op.equalIn, run_und ht, sizeOf, typeInfo, hj, hj0, sameAddr, hab]
          have hg := eqGuard_plain (P := P) (op := op) (t := t) (X := X) (Y := Y) (x := .pointer (some ⟨(β o).blk, (β o).off + a, none⟩)) (y := .pointer (some ⟨(β o).blk, (β o).off + b, none⟩)) (by simp) (by simp) w
          have h9 := heq 9999
          rw [<- equal_succ] at h9
          refine .val (c := .bool ((a == b) != neg)) (w' := w) (β' := β) ?_ (.v _) s (Tr.refl _ _ _ _)
          rcases hop with ⟨rfl, rfl⟩ | ⟨rfl, rfl⟩
          · simp [hg, binOp, h9]
          · simp [hg, binOp, h9]
    · cases h
  · cases h
theorem cell_shape {b i : Nat} (h : (w.cell? ⟨b, i, none⟩).isSome = true) : ∃ t n, w.shape? b = some (t, n) ∧ n ≠ 0 := by
  unfold World.cell? at h
  unfold World.shape?
  cases hh : w.heap[b]? with
  | none => simp [hh] at h
  | some x =>
    cases x with
    | cells arr t fz =>
      refine ⟨t, arr.size, rfl, ?_⟩
      intro h0
      have : arr = #[] := Array.eq_empty_of_size_eq_zero h0
      subst this
      simp [hh] at h
    | _ => simp [hh] at h
theorem x_ovl (s : Sim B β H w) {t e tR : TypeId} (ht : P.underlying t = some (.slice e)) (hn : 0 < P.cellsOf e) {x y : AX} {ρ : Nat -> AV} {r : AV} {H' : Heap}
    (h : XOp.run ρ H (.ovl x y) = some (r, H')) {c d : Value} (hx : RepH β H w (x.ev ρ) c) (hy : RepH β H w (y.ev ρ) d) :
    r = .v (.bool false) ∧ H' = H ∧ (Extern.SlicesOverlaps.overlaps #[t, t] #[tR] #[c, d]).run P w = .ok (.bool false) w := by
  have hinfo : ∃ j, P.info? e = some j := by
    unfold Program.cellsOf at hn
    cases hi : P.info? e with
    | none => rw [hi] at hn; simp at hn
    | some j => exact ⟨j, rfl⟩
  obtain ⟨j, hj⟩ := hinfo
  have hz : ∀ w, (Go.sizeOf e).run P w = .ok j.size w := fun w => by simp [sizeOf, typeInfo, hj]
  simp only [XOp.run] at h
  generalize x.ev ρ = A at h hx
  generalize y.ev ρ = C at h hy
  split at h
  · rename_i s1 q off l1 c1 s2 o off' l2 c2
    split at h
    · rename_i cs ds hq ho
      split at h
      · rename_i hc
        cases h
        refine ⟨rfl, rfl, ?_⟩
        obtain ⟨hc, n1, n2⟩ := hc
        cases hx with
        | slZero p _ _ => exact absurd rfl n1
        | sl _ _ _ _ =>
          cases hy with
          | slZero p' _ _ => exact absurd rfl n2
          | sl _ _ _ _ =>
            have hb1 := s.base q cs hq
            have hb2 := s.base o ds ho
            have r1 := s.room q cs off hq (by omega)
            have r2 := s.room o ds off' ho (by omega)
            obtain ⟨tA, kA, hsa, _⟩ := cell_shape r1.1
            obtain ⟨tB, kB, hsb, hkB⟩ := cell_shape r2.1
            exact Go.Lib.run_overlaps_apart w t tR e ht j.size hz _ _ _ _ _ _ (fun he => s.disj q o cs ds hc.1 hq ho he) tA tB kA kB hsa hsb hkB r1.2 (s.clean q cs tA kA hq hsa)
      · cases h
    · cases h
  · cases h
theorem x_sound {o : Oper} {m : XOp} (htr : trXO P o = some m) (s : Sim B β H w) {ρ : Nat -> AV} {a : Act} (hρ : ∀ t, RepH β H w (ρ t) (a.tmps.getD t undef)) {r : AV} {H' : Heap} (hp : m.run ρ H = some (r, H')) :
    MemOk P B β H w (execOp a.eval o) r H' := by
  obtain ⟨dst, op, type, pos, after, guard⟩ := o
  have call : ∀ (ts : Array TypeId) (xs : Array Operand) (b : Builtin) (S : Sem Value), (∀ cs, Go.builtin b ts type cs (xs.map a.eval) = (do pure (Next.value (<- S)))) -> MemOk P B β H w (do pure (Next.value (<- S))) r H' ->
      MemOk P B β H w (execOp a.eval { dst, op := .call { callee := .builtin b, args := xs, argTypes := ts }, type, pos, after, guard }) r H' := by
    intro ts xs b S h1 h2
    have : (execOp a.eval { dst, op := .call { callee := .builtin b, args := xs, argTypes := ts }, type, pos, after, guard }).run P w = (do pure (Next.value (<- S)) : Sem Next).run P w := by
      simp only [execOp, resolve, Sem.run_bind, Sem.run_pure, Result.andThen_ok, invoke, h1]
    unfold MemOk at h2 ⊢
    rw [this]; exact h2
  unfold trXO at htr
  simp only at htr
  split at htr
  -- alloc
  · rename_i t
    split at htr
    · split at htr
      · obtain ⟨zs, hz, rfl⟩ := Option.map_eq_some_iff.1 htr
        simp only [XOp.run, Option.some.injEq, Prod.mk.injEq] at hp
        obtain ⟨rfl, rfl⟩ := hp
        exact x_alloc s hz
      · cases htr
    · cases htr
  -- convert
  · rename_i src dst' x
    split at htr
    · rename_i e h1 h2
      split at htr
      · rename_i hn; cases htr; exact x_retype s hn (.inl ⟨h1, h2⟩) hp (trX_rep hρ x)
      · cases htr
    · rename_i e h1 h2
      split at htr
      · rename_i hn; cases htr; exact x_retype s hn (.inr ⟨h1, h2⟩) hp (trX_rep hρ x)
      · cases htr
    · cases htr
  -- pointers
  · rename_i op t x y f
    split at htr
    · rename_i e ht
      split at htr
      · rename_i hn
        split at htr
        · cases htr; exact x_eqp s ht hn (.inl ⟨rfl, rfl⟩) hp (trX_rep hρ x) (trX_rep hρ y)
        · cases htr; exact x_eqp s ht hn (.inr ⟨rfl, rfl⟩) hp (trX_rep hρ x) (trX_rep hρ y)
        · cases htr
      · cases htr
    · cases htr
  -- builtins
  · rename_i b args ts
    have one : ∀ {x : Operand}, args.toList = [x] -> args = #[x] := fun h => by apply Array.ext'; simpa using h
    have two : ∀ {x y : Operand}, args.toList = [x, y] -> args = #[x, y] := fun h => by apply Array.ext'; simpa using h
    have oneT : ∀ {x : TypeId}, ts.toList = [x] -> ts = #[x] := fun h => by apply Array.ext'; simpa using h
    have twoT : ∀ {x y : TypeId}, ts.toList = [x, y] -> ts = #[x, y] := fun h => by apply Array.ext'; simpa using h
    unfold trXc at htr
    split at htr
    · -- cap
      split at htr
      · rename_i x t hx ht
        split at htr
        · rename_i e hu
          cases htr
          rw [one hx, oneT ht]
          simp only [XOp.run] at hp
          split at hp
          · rename_i n hn
            cases hp
            obtain ⟨p, l, hc⟩ := cap_sound hn (trX_rep hρ x)
            refine call _ _ _ (Builtin.cap_ #[t] type #[a.eval x]) (fun cs => by simp [Go.builtin]) ?_
            rw [hc]
            exact .val (run_cap hu p l n) (.v _) s (Tr.refl _ _ _ _)
          · cases hp
        · cases htr
      · cases htr
    · -- clear
      split at htr
      · rename_i x t hx ht
        split at htr
        · rename_i e hu
          split at htr
          · rename_i l zs hl hz
            split at htr
            · rename_i hc
              cases htr
              rw [one hx, oneT ht]
              exact call _ _ _ (Builtin.clear_ #[t] type #[a.eval x]) (fun cs => by simp [Go.builtin]) (x_clear s hu hl hz hc.1 hc.2.1 hc.2.2 hp (trX_rep hρ x))
            · cases htr
          · cases htr
        · cases htr
      · cases htr
    · -- append
      split at htr
      · rename_i x y t u hx ht
        split at htr
        · rename_i e hu1 hu2
          split at htr
          · rename_i zs i hz hi
            split at htr
            · rename_i hc
              cases htr
              rw [two hx, twoT ht]
              simp only [XOp.run] at hp
              split at hp
              · rename_i str hy
                split at hp
                · rename_i r' H₁ ha
                  cases hp
                  have hys := rep_v (by have := trX_rep hρ y; rw [hy] at this; exact this)
                  refine call _ _ _ (Builtin.append_ #[t, u] type #[a.eval x, a.eval y]) (fun cs => by simp [Go.builtin]) ?_
                  rw [hys]
                  exact x_append s hu1 hu2 hz hi hc.1 hc.2.1 hc.2.2 (trX_rep hρ x) ha
                · cases hp
              · cases hp
            · cases htr
          · cases htr
        · cases htr
      · cases htr
    · -- unsafe.SliceData
      split at htr
      · rename_i x hx
        cases htr
        rw [one hx]
        refine call _ _ _ (Builtin.unsafeSliceData_ ts type #[a.eval x]) (fun cs => by simp [Go.builtin]) ?_
        have hrep := trX_rep hρ x
        simp only [XOp.run] at hp
        generalize (trX x).ev ρ = X at hp hrep
        split at hp
        · cases hp
          have := rep_v hrep
          rw [this]
          exact .val (Go.Lib.run_unsafeSliceData_nil (P := P) w ts type 0 0) (.v _) s (Tr.refl _ _ _ _)
        · rename_i sz o off len cap
          split at hp
          · cases hp
          · rename_i h0
            cases hp
            generalize a.eval x = c at hrep
            cases hrep with
            | sl ho hl hc hn => exact .val (Go.Lib.run_unsafeSliceData_row (P := P) w ts type _ len _ (by omega)) (.ptr ho) s (Tr.refl _ _ _ _)
            | slZero p ho hc => exact absurd rfl h0
        · cases hp
      · cases htr
    · -- unsafe.String
      split at htr
      · rename_i x n t u hx ht
        split at htr
        · rename_i e hu
          split at htr
          · rename_i hc
            cases htr
            rw [two hx, twoT ht]
            exact call _ _ _ (Builtin.unsafeString_ #[t, u] type #[a.eval x, a.eval n]) (fun cs => by simp [Go.builtin]) (x_ustr s hu hc hp (trX_rep hρ x) (trX_rep hρ n))
          · cases htr
        · cases htr
      · cases htr
    · cases htr
  -- calls
  · rename_i f args ts
    split at htr
    · rename_i fn hfn
      split at htr
      · rename_i hc
        simp only [Bool.and_eq_true, Option.isNone_iff_eq_none, beq_iff_eq] at hc
        split at htr
        · rename_i x hx
          cases htr
          have hargs : args = #[x] := by apply Array.ext'; simpa using hx
          simp only [XOp.run, Option.some.injEq, Prod.mk.injEq] at hp
          obtain ⟨rfl, rfl⟩ := hp
          subst hargs
          have hname : ¬ fn.name = "runtime.NumGoroutine" := by rw [hc.1.2]; decide
          have hfind : Extern.find fn = some Extern.AbiNoEscape.same := by
            unfold Extern.find
            simp only [hc.1.2]
            rfl
          refine ⟨.value (a.eval x), w, β, a.eval x, ?_, .inl rfl, trX_rep hρ x, s, Tr.refl _ _ _ _⟩
          have hsame : ∀ v, Extern.AbiNoEscape.same #[v] = pure v := fun v => rfl
          have hev : a.eval (.func f) = .func (.func f) #[] #[] := rfl
          simp [execOp, resolve, hev, Deferred.ofValue, invoke, callFunc, hfn, hname, hc.1.1, hc.2, hfind, hsame]
        · cases htr
      · split at htr
        · rename_i hov
          split at htr
          · rename_i x y hx
            cases htr
            have hargs : args = #[x, y] := by apply Array.ext'; simpa using hx
            subst hargs
            unfold isOvl at hov
            simp only [Bool.and_eq_true, Option.isNone_iff_eq_none, beq_iff_eq, Bool.not_eq_true', beq_eq_false_iff_ne] at hov
            obtain ⟨⟨⟨⟨⟨⟨⟨k1, k2⟩, k3⟩, k4⟩, k5⟩, k6⟩, k7⟩, k8⟩ := hov
            split at k8
            · rename_i t u v hps hrs
              simp only [Bool.and_eq_true] at k8
              obtain ⟨k8, k9⟩ := k8
              have e1 := Nat.eq_of_beq_eq_true k8
              subst e1
              split at k9
              · rename_i e hu
                have hps' : fn.params = #[t, t] := by apply Array.ext'; simpa using hps
                have hrs' : fn.resultTypes = #[v] := by apply Array.ext'; simpa using hrs
                have hfind : Extern.find fn = some (Extern.SlicesOverlaps.overlaps #[t, t] #[v]) := by
                  unfold Extern.find
                  simp only [k5, k6, k7, k2, hps', hrs']
                  rfl
                obtain ⟨rfl, rfl, hrun⟩ := x_ovl (P := P) s (tR := v) hu (Nat.le_of_ble_eq_true k9) hp (trX_rep hρ x) (trX_rep hρ y)
                refine ⟨.value (.bool false), w, β, .bool false, ?_, .inl rfl, .v _, s, Tr.refl _ _ _ _⟩
                have hev : a.eval (.func f) = .func (.func f) #[] #[] := rfl
                simp [execOp, resolve, hev, Deferred.ofValue, invoke, callFunc, hfn, k4, k1, k3, hfind, hrun]
              · cases k9
            · cases k8
          · cases htr
        · cases htr
    · cases htr
  · cases htr
theorem mem_sound {o : Oper} {m : MOp} (htr : trM P o = some m) (s : Sim B β H w) {ρ : Nat -> AV} {a : Act} (hρ : ∀ t, RepH β H w (ρ t) (a.tmps.getD t undef)) {r : AV} {H' : Heap} (hp : m.run ρ H = some (r, H')) :
    MemOk P B β H w (execOp a.eval o) r H' := by
  unfold trM at htr
  split at htr
  · rename_i y hy
    cases htr
    exact y_sound hy s hρ hp
  · split at htr
    · rename_i x hx
      cases htr
      exact x_sound hx s hρ hp
    · exact mem_sound0 htr s hρ hp
end
end Go.Ab

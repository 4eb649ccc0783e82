/- A part of the proof of CodeNil: AbMSound3. -/
import Derived.Test.YthmpodpkckagmaaGreatAbMSound2
set_option linter.constructorNameAsVariable false
namespace Go.Ab
open Go Go.RowKit
set_option linter.unusedVariables false
set_option linter.unusedSimpArgs false

section
variable {P : Program} {B : Nat} {β : Nat → Em} {H : Heap} {w : World}

/-- Zero cells of the machine and of the abstract memory. -/
theorem whole_zero {β' : Nat → Em} {n : Nat} {R : Nat → Nat → Value → Prop} (z : Array Value) (k sz : Nat) (hz : z.size = sz) :
    Whole β' n R (repA k (z.toList.map .v)) ((Array.range (k * sz)).map ((if k * sz = 0 then #[] else z)[· % (if k * sz = 0 then #[] else z).size]!)) := by
  subst hz
  split
  · rename_i h0
    refine ⟨by simp [repA_length, h0], fun j b c hb _ => ?_⟩
    have := getElem?_lt hb
    rw [repA_length] at this
    simp [h0] at this
  · rename_i h0
    have hpos : 0 < z.size := by
      rcases Nat.eq_zero_or_pos z.size with h | h
      · rw [h] at h0; simp at h0
      · exact h
    exact whole_rep z k (.inl hpos)

theorem mem_buildSlice (s : Sim B β H w) {ρ : Nat → AV} {a : Act} (hρ : ∀ t, RepH β H w (ρ t) (a.tmps.getD t undef)) {t e : TypeId} {len : Nat} {parts : Array (Nat × Operand)} {l : Option Nat} {zs cs : List AV}
    (hu : P.underlying t = some (.slice e)) (hl : layOf P e = some l) (hz : zeroA P e = some zs) (hc : zs.length = laySize l) (hlim : len * laySize l ≤ 16777216)
    (hcs : fillA (repA len zs) ((parts.toList.map fun (i, x) => (i * laySize l, laySize l, trX x)).map fun (o, s, x) => (o, s, x.ev ρ)) = some cs) :
    MemOk P B β H w (do pure (Next.value (← Instr.buildSlice t len (parts.map fun (i, x) => (i, a.eval x))))) (.sl (laySize l) H.length 0 len (some len)) (H ++ [.cells cs]) := by
  obtain ⟨i, z, hi, hz', rfl⟩ := zeroA_some hz
  simp only [List.length_map, Array.length_toList] at hc
  have hS := layOf_size hl w
  have hwhole := whole_zero (β' := β) (n := H.length) (R := RO β H w) z.cells len (laySize l) hc
  obtain ⟨ys, hys, hw⟩ := fill_sound (β := β) (n := H.length) (R := RO β H w) (place := fun i => some (i * laySize l, laySize l)) (parts.toList.map fun (i, x) => (i, a.eval x)) _ _ _ cs
    (by simp) (fun j p q hp hq => by
      simp only [List.getElem?_map, Option.map_eq_some_iff] at hp hq
      obtain ⟨⟨i0, x0⟩, hx0, rfl⟩ := hp
      obtain ⟨⟨o1, s1, x1⟩, ⟨⟨i2, x2⟩, hx1, he⟩, rfl⟩ := hq
      rw [hx0] at hx1; cases hx1; cases he
      exact ⟨rfl, trX_rep hρ x0⟩) hwhole hcs
  have hys' : Instr.fill (fun i => some (i * laySize l, laySize l)) ((Array.range (len * laySize l)).map ((if len * laySize l = 0 then #[] else z.cells)[· % (if len * laySize l = 0 then #[] else z.cells).size]!)) (parts.map fun (i, x) => (i, a.eval x)).toList = some ys := by
    rw [← hys]; congr 1; simp
  have hrun := buildSlice_run (P := P) (w := w) hu hS (info_und hi hz' w) hlim hys'
  obtain ⟨s', t'⟩ := s.alloc ys e cs (by have := hw.1; omega) (fun j b hb => by
    have := getElem?_lt hb
    have := hw.1
    exact ⟨ys[j]'(by omega), by simp, hw.2 j b _ hb (by simp)⟩) rfl
  have hsz : len * laySize l = ys.size := by
    have h1 := hw.1
    have h2 := fillA_length hcs
    rw [repA_length] at h2
    simp only [List.length_map, Array.length_toList, hc] at h2
    omega
  exact .val hrun (rep_newSl (Nat.le_refl _) (fun c h => by cases h; rfl) hsz) s' t'

theorem mem_makeSlice (s : Sim B β H w) {t e : TypeId} {l : Option Nat} {zs : List AV} {i : TypeInfo} {k k' : IntKind} {n c : Int}
    (hu : P.underlying t = some (.slice e)) (hl : layOf P e = some l) (hz : zeroA P e = some zs) (hi : P.info? e = some i) (hc : zs.length = laySize l) (hb : 0 < i.bytes)
    (h0 : 0 ≤ n) (hnc : n ≤ c) (hlim : c * (i.bytes : Int) ≤ 281474976710656) :
    MemOk P B β H w (do pure (Next.value (← Instr.makeSlice t (.int k n) (.int k' c)))) (.sl (laySize l) H.length 0 n.toNat (some c.toNat)) (H ++ [.cells (repA c.toNat zs)]) := by
  obtain ⟨i', z, hi', hz', rfl⟩ := zeroA_some hz
  rw [hi] at hi'; cases hi'
  simp only [List.length_map, Array.length_toList] at hc
  have hS := layOf_size hl w
  obtain ⟨ys, hrun, hwhole, hsize⟩ : ∃ ys : Array Value, (Instr.makeSlice t (.int k n) (.int k' c)).run P w = .ok (.slice (some ⟨w.heap.size, 0, none⟩) n.toNat c.toNat) (w.alloc (.cells ys e)) ∧
      Whole β H.length (RO β H w) (repA c.toNat (z.cells.toList.map .v)) ys ∧ ys.size = c.toNat * laySize l :=
    ⟨_, makeSlice_run (P := P) (w := w) (k := k) (k' := k') hu hi hz' hS hc hb h0 hnc hlim, whole_zero (β' := β) (n := H.length) (R := RO β H w) z.cells c.toNat (laySize l) hc, by simp⟩
  obtain ⟨s', t'⟩ := s.alloc ys e (repA c.toNat (z.cells.toList.map .v)) (by have := hwhole.1; omega) (fun j b hb => by
    have := getElem?_lt hb
    have := hwhole.1
    exact ⟨ys[j]'(by omega), by simp, hwhole.2 j b _ hb (by simp)⟩) rfl
  exact .val hrun (rep_newSl (by omega) (fun c h => by cases h; rfl) hsize.symm) s' t'

theorem mem_append (s : Sim B β H w) {t u e f ty : TypeId} {l : Option Nat} {zs : List AV} {i : TypeInfo} {x y r : AV} {c d : Value} {m : Nat} {news : List AV} {H' : Heap}
    (ht : P.underlying t = some (.slice e)) (hu : P.underlying u = some (.slice f)) (hl : layOf P e = some l) (hz : zeroA P e = some zs) (hi : P.info? e = some i) (hc : zs.length = laySize l) (hsz : 0 < laySize l) (hb : 0 < i.bytes)
    (hx : RepH β H w x c) (hy : RepH β H w y d) (hn : cellsA H (laySize l) y = some (m, news)) (ha : appendA H (laySize l) i.bytes x m news = some (r, H')) :
    MemOk P B β H w (do pure (Next.value (← Builtin.append_ #[t, u] ty #[c, d]))) r H' := by
  obtain ⟨i', z, hi', hz', rfl⟩ := zeroA_some hz
  rw [hi] at hi'; cases hi'
  simp only [List.length_map, Array.length_toList] at hc
  have his := layOf_info_size hl hi
  obtain ⟨p, cap, rfl, vs, hv1, hv2, hv3, hv4⟩ := cells_sound (P := P) s hn hy
  have hl1 : (Builtin.lenOf (.slice p m cap)).run P w = .ok m w := rfl
  have hfull : vs.take (m * laySize l) = vs := List.take_of_length_le (by omega)
  obtain ⟨d', w', β', h1, h2, h3, h4, _⟩ := appendA_sound (P := P) s hsz ha hx hv1 hv2 hv3 (e := e) (R := (Builtin.append_ #[t, u] ty #[c, .slice p m cap]).run P w)
    { room := fun base sLen sCap w' hcs hroom hst hbase => by
        subst hcs
        have hf := hv4 m (Nat.le_refl _) w rfl
        rw [hfull, ← his] at hf
        exact append_room ht hi hu (.inr ⟨f, rfl⟩) hl1 hf hroom (by rw [his]; exact hst) hbase
      grow := fun base sLen sCap olds hcs hroom hlim hlim2 hold => by
        subst hcs
        have hf := hv4 m (Nat.le_refl _) w.drew rfl
        rw [hfull, ← his] at hf
        rw [← his] at hold
        refine ⟨_, _, append_grow ht hi hz' hu (.inr ⟨f, rfl⟩) hl1 hf hold hroom hlim hlim2 hb, grown_ge w e, ?_⟩
        rw [zeroCells_size, hc, ← Nat.add_mul]
        congr 1
        have := grown_ge w (need := sLen + m) (old := sCap) e
        omega }
  exact .val h1 h2 h3 h4

theorem byteCells_whole {β' : Nat → Em} {n : Nat} {R : Nat → Nat → Value → Prop} (b : ByteArray) : (byteCells b).length = b.size ∧ ∃ vs : List Value, vs = b.data.toList.map (fun x : UInt8 => Value.int .u8 (x.toNat : Int)) ∧ vs.length = b.size ∧
    ∀ (j : Nat) (a : AV) (c : Value), (byteCells b)[j]? = some a → vs[j]? = some c → Rep β' n R a c := by
  refine ⟨by unfold byteCells; rw [List.length_map, Array.length_toList]; rfl, _, rfl, by rw [List.length_map, Array.length_toList]; rfl, fun j a c ha hc => ?_⟩
  simp only [byteCells, List.getElem?_map, Option.map_eq_some_iff] at ha hc
  obtain ⟨x, hx, rfl⟩ := ha
  obtain ⟨y, hy, rfl⟩ := hc
  rw [hx] at hy; cases hy
  exact .v _

theorem firstCells_str (b : ByteArray) (k : Nat) (hk : k ≤ b.size) (w2 : World) : (Builtin.firstCells 1 k (.string b)).run P w2 = .ok ((b.data.toList.map (fun x : UInt8 => Value.int .u8 (x.toNat : Int))).take (k * 1)).toArray w2 := by
  simp only [Builtin.firstCells, Sem.run_pure]
  congr 1
  apply Array.ext'
  simp [ByteArray.data_extract]

theorem appendStr_run (s : Sim B β H w) {t u e ty : TypeId} {zs : List AV} {i : TypeInfo} {x r : AV} {c : Value} {b : ByteArray} {H' : Heap}
    (ht : P.underlying t = some (.slice e)) (hu : P.underlying u = some .string) (hz : zeroA P e = some zs) (hi : P.info? e = some i) (hs1 : i.size = 1) (hb1 : i.bytes = 1) (hzs : zs.length = 1)
    (hx : RepH β H w x c) (ha : appendA H 1 1 x b.size (byteCells b) = some (r, H')) :
    ∃ d w' β', (Builtin.append_ #[t, u] ty #[c, .string b]).run P w = .ok d w' ∧ RepH β' H' w' r d ∧ Sim B β' H' w' ∧ Tr B β H w β' H' w' ∧ AppTag β H w e x β' H' w' := by
  obtain ⟨i', z, hi', hz', rfl⟩ := zeroA_some hz
  rw [hi] at hi'; cases hi'
  simp only [List.length_map, Array.length_toList] at hzs
  obtain ⟨h0, vs, hvs, hv1, hv3⟩ := byteCells_whole (β' := β) (n := H.length) (R := RO β H w) b
  have hl1 : (Builtin.lenOf (.string b)).run P w = .ok b.size w := rfl
  have hfull : vs.take (b.size * 1) = vs := List.take_of_length_le (by omega)
  have hf : ∀ w2, (Builtin.firstCells i.size b.size (.string b)).run P w2 = .ok vs.toArray w2 := fun w2 => by
    have := firstCells_str (P := P) b b.size (Nat.le_refl _) w2
    rw [← hvs, hfull] at this
    rw [hs1]; exact this
  obtain ⟨d', w', β', h1, h2, h3, h4, h5⟩ := appendA_sound (P := P) s (by omega) ha hx (by omega) (by omega) hv3 (e := e) (R := (Builtin.append_ #[t, u] ty #[c, .string b]).run P w)
    { room := fun base sLen sCap w' hcs hroom hst hbase => by
        subst hcs
        exact append_room ht hi hu (.inl rfl) hl1 (hf w) hroom (by rw [hs1]; exact hst) hbase
      grow := fun base sLen sCap olds hcs hroom hlim hlim2 hold => by
        subst hcs
        rw [← hs1] at hold
        refine ⟨_, _, append_grow ht hi hz' hu (.inl rfl) hl1 (hf _) hold hroom (by rw [hb1]; exact hlim) hlim2 (by omega), grown_ge w e, ?_⟩
        rw [zeroCells_size, hzs]
        have := grown_ge w (need := sLen + b.size) (old := sCap) e
        omega }
  exact ⟨d', w', β', h1, h2, h3, h4, h5⟩

theorem mem_appendStr (s : Sim B β H w) {t u e ty : TypeId} {zs : List AV} {i : TypeInfo} {x r : AV} {c : Value} {b : ByteArray} {H' : Heap}
    (ht : P.underlying t = some (.slice e)) (hu : P.underlying u = some .string) (hz : zeroA P e = some zs) (hi : P.info? e = some i) (hs1 : i.size = 1) (hb1 : i.bytes = 1) (hzs : zs.length = 1)
    (hx : RepH β H w x c) (ha : appendA H 1 1 x b.size (byteCells b) = some (r, H')) :
    MemOk P B β H w (do pure (Next.value (← Builtin.append_ #[t, u] ty #[c, .string b]))) r H' := by
  obtain ⟨d', w', β', h1, h2, h3, h4, _⟩ := appendStr_run (P := P) s (ty := ty) ht hu hz hi hs1 hb1 hzs hx ha
  exact .val h1 h2 h3 h4

theorem mem_appendZ (s : Sim B β H w) {t u e ty : TypeId} {k : IntKind} {l : Option Nat} {zs : List AV} {i : TypeInfo} {x r : AV} {c : Value} {k' : IntKind} {q : Int} {H' : Heap}
    (ht : P.underlying t = some (.slice e)) (hu : P.underlying u = some (.int k)) (hl : layOf P e = some l) (hz : zeroA P e = some zs) (hi : P.info? e = some i) (hc : zs.length = laySize l) (hsz : 0 < laySize l) (hb : 0 < i.bytes)
    (hx : RepH β H w x c) (hq : 0 ≤ q) (hlim : q * (i.bytes : Int) ≤ 281474976710656) (ha : appendA H (laySize l) i.bytes x q.toNat (repA q.toNat zs) = some (r, H')) :
    MemOk P B β H w (do pure (Next.value (← Builtin.append_ #[t, u] ty #[c, .int k' q]))) r H' := by
  obtain ⟨i', z, hi', hz', rfl⟩ := zeroA_some hz
  rw [hi] at hi'; cases hi'
  simp only [List.length_map, Array.length_toList] at hc
  have his := layOf_info_size hl hi
  obtain ⟨m, rfl⟩ := Int.eq_ofNat_of_zero_le hq
  rw [show ((m : Int)).toNat = m from Int.toNat_natCast m] at ha
  have hm : m * i.bytes ≤ 281474976710656 := by
    have : ((m * i.bytes : Nat) : Int) ≤ ((281474976710656 : Nat) : Int) := by rw [Int.natCast_mul]; exact hlim
    exact Int.ofNat_le.1 this
  have hw := whole_rep (β' := β) (n := H.length) (R := RO β H w) z.cells m (.inl (by omega))
  have hzc : (Builtin.zeroCells z.cells m).toList.length = m * laySize l := by rw [Array.length_toList, zeroCells_size, hc]
  have hzl : (repA m (z.cells.toList.map .v)).length = m * laySize l := by rw [repA_length]; simp [hc]
  obtain ⟨d', w', β', h1, h2, h3, h4, _⟩ := appendA_sound (P := P) s hsz ha hx (vs := (Builtin.zeroCells z.cells m).toList) hzc hzl
    (fun j b d hb hd => hw.2 j b d hb (by rw [← Array.getElem?_toList]; exact hd)) (e := e) (R := (Builtin.append_ #[t, u] ty #[c, .int k' (m : Int)]).run P w)
    { room := fun base sLen sCap w' hcs hroom hst hbase => by
        subst hcs
        exact appendZ_room (news := (Builtin.zeroCells z.cells m).toList) ht hi hz' hu hm hb Array.toArray_toList (by omega) hroom (by rw [his]; exact hst) hbase
      grow := fun base sLen sCap olds hcs hroom hlim hlim2 hold => by
        subst hcs
        rw [← his] at hold
        refine ⟨_, _, appendZ_grow (news := (Builtin.zeroCells z.cells m).toList) ht hi hz' hu hm Array.toArray_toList (by omega) hold hroom hlim hlim2 hb, grown_ge w e, ?_⟩
        rw [zeroCells_size, hc, ← Nat.add_mul]
        congr 1
        have := grown_ge w (need := sLen + m) (old := sCap) e
        omega }
  exact .val h1 h2 h3 h4

end
end Go.Ab

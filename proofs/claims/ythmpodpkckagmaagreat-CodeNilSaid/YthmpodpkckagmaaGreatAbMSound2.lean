/- A part of the proof of CodeNil: AbMSound2. -/
import Derived.Test.YthmpodpkckagmaaGreatAbAppend
set_option linter.constructorNameAsVariable false
namespace Go.Ab
open Go Go.RowKit
set_option linter.unusedVariables false
set_option linter.unusedSimpArgs false

section
variable {P : Program} {B : Nat} {β : Nat → Em} {H : Heap} {w : World}

theorem layOf_info_size {e : TypeId} {l : Option Nat} {i : TypeInfo} (hl : layOf P e = some l) (hi : P.info? e = some i) : i.size = laySize l := by
  have h1 := layOf_size hl default
  simp [sizeOf, typeInfo, hi] at h1
  exact h1

theorem zeroA_some {e : TypeId} {zs : List AV} (h : zeroA P e = some zs) : ∃ i z, P.info? e = some i ∧ i.zero = some z ∧ zs = z.cells.toList.map .v := by
  unfold zeroA at h
  rw [Option.map_eq_some_iff] at h
  obtain ⟨z, hz, rfl⟩ := h
  rw [Option.bind_eq_some_iff] at hz
  obtain ⟨i, hi, hz⟩ := hz
  exact ⟨i, z, hi, hz, rfl⟩

theorem repA_length (k : Nat) (zs : List AV) : (repA k zs).length = k * zs.length := by
  simp [repA]

theorem repA_get (zs : List AV) : ∀ (k j : Nat), j < k * zs.length → (repA k zs)[j]? = zs[j % zs.length]? := by
  intro k
  induction k with
  | zero => intro j h; omega
  | succ k ih =>
    intro j h
    unfold repA at *
    rw [List.replicate_succ, List.flatten_cons]
    rcases Nat.lt_or_ge j zs.length with hlt | hge
    · rw [List.getElem?_append_left hlt, Nat.mod_eq_of_lt hlt]
    · rw [List.getElem?_append_right hge, ih _ (by rw [Nat.add_mul] at h; omega), ← Nat.mod_eq_sub_mod hge]

/-- The cells of a new row, and what stands for them. -/
theorem whole_rep {β' : Nat → Em} {n : Nat} {R : Nat → Nat → Value → Prop} (z : Array Value) (k : Nat) (hz : 0 < z.size ∨ k * z.size = 0) :
    Whole β' n R (repA k (z.toList.map .v)) ((Array.range (k * z.size)).map (z[· % z.size]!)) := by
  refine ⟨by simp [repA_length], fun j a c ha hc => ?_⟩
  have hj := getElem?_lt ha
  rw [repA_length] at hj
  simp only [List.length_map, Array.length_toList] at hj
  rw [repA_get _ _ _ (by simpa using hj)] at ha
  simp only [List.length_map, Array.length_toList, List.getElem?_map, Array.getElem?_toList, Option.map_eq_some_iff] at ha
  obtain ⟨c', hc', rfl⟩ := ha
  simp only [Array.getElem?_map, Option.map_eq_some_iff] at hc
  obtain ⟨j', hj', rfl⟩ := hc
  have e : j' = j := by
    have := hj'
    simp [Array.getElem?_range] at this
    omega
  subst e
  have : z[j' % z.size]! = c' := by
    have hlt : j' % z.size < z.size := by
      rcases Nat.lt_or_ge (j' % z.size) z.size with h | h
      · exact h
      · simp [Array.getElem?_eq_none h] at hc'
    simp [Array.getElem?_eq_getElem hlt] at hc'
    simp [getElem!_pos, hlt, hc']
  rw [this]; exact .v _

theorem rep_new (s : Sim B β H w) {w' : World} {arr : Array Value} {cs : List AV} (hw : Sim B (Em.set β H.length ⟨w.heap.size, 0, arr.size⟩) (H ++ [.cells cs]) w') :
    RepH (Em.set β H.length ⟨w.heap.size, 0, arr.size⟩) (H ++ [.cells cs]) w' (.ptr H.length 0) (.pointer (some ⟨w.heap.size, 0, none⟩)) := by
  have := Rep.ptr (β := Em.set β H.length ⟨w.heap.size, 0, arr.size⟩) (n := (H ++ [AObj.cells cs]).length) (R := RO (Em.set β H.length ⟨w.heap.size, 0, arr.size⟩) (H ++ [.cells cs]) w') (o := H.length) (off := 0) (by simp)
  rw [Em.set_same] at this
  exact this

theorem rep_newSl {w' : World} {arr : Array Value} {cs : List AV} {sz len cap : Nat} {k : Option Nat} {b : Nat} (hl : len ≤ cap) (hk : ∀ c, k = some c → cap = c) (ht : cap * sz = arr.size) :
    RepH (Em.set β H.length ⟨b, 0, arr.size⟩) (H ++ [.cells cs]) w' (.sl sz H.length 0 len k) (.slice (some ⟨b, 0, none⟩) len cap) := by
  have := Rep.sl (β := Em.set β H.length ⟨b, 0, arr.size⟩) (n := (H ++ [AObj.cells cs]).length) (R := RO (Em.set β H.length ⟨b, 0, arr.size⟩) (H ++ [.cells cs]) w') (sz := sz) (o := H.length) (off := 0) (len := len) (cap' := cap) (cap := k) (by simp) hl
    (fun c hc => by rw [Em.set_same]; have := hk c hc; subst this; simp; omega) (fun _ => by rw [Em.set_same]; simp; omega)
  rw [Em.set_same] at this
  exact this

theorem copyA_sound (s : Sim B β H w) {sz : Nat} {x : AV} {m k : Nat} {news : List AV} {H' : Heap} (h : copyA H sz x m news = some (k, H')) {c : Value} (hx : RepH β H w x c)
    {vs : List Value} (hv : vs.length = m * sz) (hnw : news.length = m * sz) (hrep : ∀ (j : Nat) (a : AV) (c : Value), news[j]? = some a → vs[j]? = some c → RepH β H w a c) :
    ∃ base len cap w', c = .slice base len cap ∧ k = min m len ∧ (∀ a, base = some a → (storeCells a (vs.take (min m len * sz))).run P w = .ok () w') ∧ (base = none → w' = w) ∧ Sim B β H' w' ∧ Tr B β H w β H' w' := by
  have triv : ∀ base len cap, c = .slice base len cap → min m len = 0 → some (0, H) = some (k, H') → ∃ base len cap w', c = .slice base len cap ∧ k = min m len ∧ (∀ a, base = some a → (storeCells a (vs.take (min m len * sz))).run P w = .ok () w') ∧ (base = none → w' = w) ∧ Sim B β H' w' ∧ Tr B β H w β H' w' := by
    intro base len cap hc h0 he
    cases he
    exact ⟨base, len, cap, w, hc, h0.symm, fun a _ => by rw [h0, Nat.zero_mul]; rfl, fun _ => rfl, s, Tr.refl _ _ _ _⟩
  unfold copyA at h
  split at h
  · exact triv _ _ _ (rep_v hx) (by simp) h
  · cases hx with
    | z0 a => exact triv _ _ _ rfl (by simp) h
  · rename_i s' o off len cap
    split at h
    · rename_i hs
      subst hs
      split at h
      · rename_i h0
        cases hx with
        | slZero p _ _ => exact triv _ _ _ rfl h0 h
        | sl _ _ _ _ => exact triv _ _ _ rfl h0 h
      · rename_i h0
        split at h
        · rename_i cs hcs
          split at h
          · rename_i hc
            cases h
            cases hx with
            | slZero p _ _ => simp at h0
            | sl ho hl hcp hn =>
              have hle : min m len * s' ≤ m * s' := Nat.mul_le_mul_right _ (Nat.min_le_left _ _)
              obtain ⟨w', k1, k2, k3⟩ := storeCells_sound (P := P) (news.take (min m len * s')) (vs.take (min m len * s')) 0 s hcs (off := off) (by simp; omega) (by simp; omega)
                (by rw [List.all_eq_true] at hc ⊢; exact fun a ha => hc.2 a (List.mem_of_mem_take ha)) (fun j a c ha hc => by
                  have h1 := getElem?_lt ha; simp at h1
                  rw [List.getElem?_take_of_lt (by omega)] at ha hc
                  exact hrep j a c ha hc)
              refine ⟨_, _, _, w', rfl, rfl, fun a ha => ?_, (fun hn => by cases hn), by simpa using k2, by simpa using k3⟩
              cases ha; exact k1
          · cases h
        · cases h
    · cases h
  · cases h

theorem bytesOfA_sound : ∀ {cs : List AV} {bs : List UInt8}, bytesOfA cs = some bs → cs.length = bs.length ∧ ∀ (vs : List Value), vs.length = cs.length → (∀ (j : Nat) (a : AV) (c : Value), cs[j]? = some a → vs[j]? = some c → RepH β H w a c) →
    ∃ ns : List Int, vs = ns.map (Value.int .u8) ∧ ns.map (fun n => UInt8.ofNat n.toNat) = bs := by
  intro cs
  induction cs with
  | nil => intro bs h; simp [bytesOfA] at h; subst h; exact ⟨rfl, fun vs hl _ => ⟨[], by simpa using hl, rfl⟩⟩
  | cons a cs ih =>
    intro bs h
    unfold bytesOfA at h
    split at h
    · rename_i heq; cases heq
    · rename_i n rest heq
      injection heq with e1 e2
      subst e1; subst e2
      rw [Option.map_eq_some_iff] at h
      obtain ⟨bs', hb, rfl⟩ := h
      obtain ⟨h1, h2⟩ := ih hb
      refine ⟨by simp [h1], fun vs hl hr => ?_⟩
      cases vs with
      | nil => simp at hl
      | cons v vs =>
        have hv := rep_v (hr 0 _ v rfl rfl)
        subst hv
        obtain ⟨ns, e1, e2⟩ := h2 vs (by simpa using hl) (fun j a c ha hc => hr (j + 1) a c (by simpa using ha) (by simpa using hc))
        exact ⟨n :: ns, by simp [e1], by simp [e2]⟩
    · cases h


theorem fillA_length : ∀ {ps : List (Nat × Nat × AV)} {as rs : List AV}, fillA as ps = some rs → rs.length = as.length := by
  intro ps
  induction ps with
  | nil => intro as rs h; simp [fillA] at h; rw [h]
  | cons q ps ih =>
    intro as rs h
    obtain ⟨o, sz, v⟩ := q
    simp only [fillA] at h
    split at h
    · split at h
      · rename_i hcc
        rw [ih h]; simp; omega
      · cases h
    · cases h

theorem buildSlice_run {t e : TypeId} {len sz : Nat} {z : Value} {parts : Array (Nat × Value)} {ys : Array Value} (hu : P.underlying t = some (.slice e)) (hS : (sizeOf e).run P w = .ok sz w) (hz : (zeroValue e).run P w = .ok z w)
    (hb : len * sz ≤ 16777216) (hf : Instr.fill (fun i => some (i * sz, sz)) ((Array.range (len * sz)).map ((if len * sz = 0 then #[] else z.cells)[· % (if len * sz = 0 then #[] else z.cells).size]!)) parts.toList = some ys) :
    (Instr.buildSlice t len parts).run P w = .ok (.slice (some ⟨w.heap.size, 0, none⟩) len len) (w.alloc (.cells ys e)) := by
  have hbig : ¬ (16777216 < len * sz) := by omega
  by_cases h0 : len * sz = 0
  · rcases Nat.mul_eq_zero.1 h0 with rfl | rfl
    · simp at hf
      simp [Instr.buildSlice, run_und hu, hS, newRow, hf]
    · simp at hf
      simp [Instr.buildSlice, run_und hu, hS, newRow, hf]
  · simp only [h0, if_false] at hf
    have h00 : ¬ (len = 0 ∨ sz = 0) := by
      intro h; rcases h with h | h <;> simp [h] at h0
    simp [Instr.buildSlice, run_und hu, hS, hbig, h00, hz, newRow, hf]
    intro h; exact absurd h h0

theorem makeSlice_run {t e : TypeId} {sz : Nat} {z : Value} {i : TypeInfo} {n c : Int} {k k' : IntKind} (hu : P.underlying t = some (.slice e)) (hi : P.info? e = some i) (hz : i.zero = some z) (hS : (sizeOf e).run P w = .ok sz w)
    (hzs : z.cells.size = sz) (hb : 0 < i.bytes) (h0 : 0 ≤ n) (hnc : n ≤ c) (hlim : c * (i.bytes : Int) ≤ 281474976710656) :
    (Instr.makeSlice t (.int k n) (.int k' c)).run P w = .ok (.slice (some ⟨w.heap.size, 0, none⟩) n.toNat c.toNat)
      (w.alloc (.cells ((Array.range (c.toNat * sz)).map ((if c.toNat * sz = 0 then #[] else z.cells)[· % (if c.toNat * sz = 0 then #[] else z.cells).size]!)) e)) := by
  have hc : c ≤ 281474976710656 := by
    have : c * 1 ≤ c * (i.bytes : Int) := Int.mul_le_mul_of_nonneg_left (by omega) (by omega)
    omega
  have w1 : IntKind.i64.wrap n = n := IntWalk.i64_in _ (by omega)
  have w2 : IntKind.i64.wrap c = c := IntWalk.i64_in _ (by omega)
  have hcomm : (i.bytes : Int) * c = c * (i.bytes : Int) := Int.mul_comm _ _
  have h1 : ¬ (c < 0) := by omega
  have h2 : ¬ (281474976710656 < (i.bytes : Int) * c) := by omega
  have h3 : ¬ (n < 0) := by omega
  have h4 : ¬ (c < n) := by omega
  by_cases h5 : c.toNat * sz = 0
  · simp [Instr.makeSlice, run_und hu, asInt, asIntOf, typeInfo, hi, w1, w2, h1, h2, h3, h4, hS, h5, newRow]
  · have h00 : ¬ (c.toNat = 0 ∨ sz = 0) := by
      intro h; rcases h with h | h <;> simp [h] at h5
    have h01 : ¬ (c ≤ 0 ∨ sz = 0) := by omega
    simp [Instr.makeSlice, run_und hu, asInt, asIntOf, typeInfo, hi, w1, w2, h1, h2, h3, h4, hS, h5, h00, h01, zeroValue, hz, newRow]

/-- What an operation on memory gives. -/
def MemOk (P : Program) (B : Nat) (β : Nat → Em) (H : Heap) (w : World) (S : Sem Next) (r : AV) (H' : Heap) : Prop :=
  ∃ nx w' β' c, S.run P w = .ok nx w' ∧ (nx = .value c ∨ (nx = .skip ∧ c = undef)) ∧ RepH β' H' w' r c ∧ Sim B β' H' w' ∧ Tr B β H w β' H' w'

theorem MemOk.val {S : Sem Value} {r : AV} {H' : Heap} {c : Value} {w' : World} {β' : Nat → Em} (h : S.run P w = .ok c w') (hr : RepH β' H' w' r c) (hs : Sim B β' H' w') (ht : Tr B β H w β' H' w') :
    MemOk P B β H w (do pure (Next.value (← S))) r H' := ⟨.value c, w', β', c, by simp [h], .inl rfl, hr, hs, ht⟩

end
end Go.Ab

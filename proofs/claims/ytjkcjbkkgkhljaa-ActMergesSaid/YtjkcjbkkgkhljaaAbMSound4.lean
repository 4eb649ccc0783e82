/- A part of a law's proof: AbMSound4. -/
import Derived.Test.YtjkcjbkkgkhljaaAbMSound
set_option linter.constructorNameAsVariable false
namespace Go.Ab
open Go Go.RowKit
set_option linter.unusedVariables false
set_option linter.unusedSimpArgs false
section
variable {P : Program} {B : Nat} {β : Lies} {H : Heap} {w : World}
theorem setsA_get : ∀ (vs cs : List AV) (off : Nat), off + vs.length <= cs.length -> ∀ j, (setsA cs off vs)[j]? = if off <= j ∧ j < off + vs.length then vs[j - off]? else cs[j]? := by
  intro vs
  induction vs with
  | nil => intro cs off h j; simp [setsA]; omega
  | cons v vs ih =>
    intro cs off h j
    simp only [List.length_cons] at h ⊢
    simp only [setsA]
    rw [ih _ _ (by simp; omega)]
    by_cases h1 : off + 1 <= j ∧ j < off + 1 + vs.length
    · rw [if_pos h1, if_pos (by omega)]
      rw [show j - off = (j - (off + 1)) + 1 by omega, List.getElem?_cons_succ]
    · rw [if_neg h1]
      by_cases h2 : j = off
      · subst h2
        rw [if_pos (by omega), List.getElem?_set_self (by omega)]; simp
      · rw [if_neg (by omega), List.getElem?_set_ne (fun h => h2 h.symm)]
structure AppendRun (P : Program) (w : World) (sz bytes m : Nat) (vs : List Value) (c : Value) (e : TypeId) (R : Result Value) : Prop where
  room : ∀ base sLen sCap w', c = .slice base sLen sCap -> sLen + m <= sCap -> (∀ a, base = some a -> (storeCells (a.add (sLen * sz)) vs).run P w = .ok () w') -> (base = none -> w' = w) -> R = .ok (.slice base (sLen + m) sCap) w'
  grow : ∀ base sLen sCap olds, c = .slice base sLen sCap -> sCap < sLen + m -> (sLen + m) * bytes <= LIM -> sLen + m <= LIM -> (Builtin.firstCells sz sLen c).run P w.drew = .ok (List.toArray olds) w.drew ->
    ∃ cap zs, R = .ok (.slice (some ⟨w.heap.size, 0, none⟩) (sLen + m) cap) (w.drew.alloc (.cells (olds.toArray ++ vs.toArray ++ zs) e)) ∧ sLen + m <= cap ∧ (sLen + m) * sz + Array.size zs = cap * sz
def NewTag (n : Nat) (β : Lies) (w : World) (e : TypeId) : Prop := (β n).off = 0 ∧ ∃ k, w.shape? (β n).blk = some (e, k)
def AppTag (β : Lies) (H : Heap) (w : World) (e : TypeId) (x : AV) (β' : Lies) (H' : Heap) (w' : World) : Prop :=
  (∀ sz o off len cap, x = .sl sz o off len cap -> off = 0 ∧ ∃ p : Nat, H[p]? = some (AObj.tag o e)) -> H.length < H'.length -> NewTag H.length β' w' e
theorem AppTag.same {β β' : Lies} {H H' : Heap} {w w' : World} {e : TypeId} {x : AV} (h : H'.length = H.length) : AppTag β H w e x β' H' w' := fun _ hl => absurd hl (by omega)
theorem shape_alloc_new {w : World} {arr : Array Value} {e : TypeId} {fz : Nat × Nat} : (w.alloc (.cells arr e fz)).shape? w.heap.size = some (e, arr.size) := by
  unfold World.shape?
  have : (w.alloc (.cells arr e fz)).heap[w.heap.size]? = some (.cells arr e fz) := by unfold World.alloc; simp
  rw [this]
theorem appendA_sound (s : Sim B β H w) {sz bytes : Nat} (hsz : 0 < sz) {x r : AV} {m : Nat} {news : List AV} {H' : Heap} (h : appendA H sz bytes x m news = some (r, H')) {c : Value} (hx : RepH β H w x c)
    {vs : List Value} (hv : vs.length = m * sz) (hnw : news.length = m * sz) (hrep : ∀ (j : Nat) (a : AV) (c : Value), news[j]? = some a -> vs[j]? = some c -> RepH β H w a c)
    {e : TypeId} {R : Result Value} (run : AppendRun P w sz bytes m vs c e R) :
    ∃ d w' β', R = .ok d w' ∧ RepH β' H' w' r d ∧ Sim B β' H' w' ∧ Tr B β H w β' H' w' ∧ AppTag β H w e x β' H' w' := by
  obtain ⟨sd, td⟩ := drew_tr s
  have vs0 : m = 0 -> vs = [] := fun h0 => List.length_eq_zero_iff.1 (by rw [hv, h0, Nat.zero_mul])
  -- nothing is appended
  have none0 : m = 0 -> ∀ p len cap, c = .slice p len cap -> len <= cap -> R = .ok c w := by
    intro h0 p len cap hc hle
    have := run.room p len cap w hc (by omega) (fun a _ => by rw [vs0 h0]; rfl) (fun _ => rfl)
    rw [this, hc, h0, Nat.add_zero]
  -- a new block
  have fresh : ∀ (base : Option Addr) (len cap : Nat) (olds : List Value) (as : List AV) (H₁ : Heap), c = .slice base len cap -> cap < len + m -> (len + m) * bytes <= LIM -> len + m <= LIM ->
      (Builtin.firstCells sz len c).run P w.drew = .ok olds.toArray w.drew -> olds.length = len * sz -> as.length = len * sz -> (∀ (j : Nat) (a : AV) (c : Value), as[j]? = some a -> olds[j]? = some c -> RepH β H w a c) ->
      H₁.length = H.length -> Sim B β H₁ w.drew -> Tr B β H w β H₁ w.drew ->
      ∃ d w' β', R = .ok d w' ∧ RepH β' (H₁ ++ [.cells (as ++ news)]) w' (.sl sz H.length 0 (len + m) none) d ∧ Sim B β' (H₁ ++ [.cells (as ++ news)]) w' ∧ Tr B β H w β' (H₁ ++ [.cells (as ++ news)]) w' ∧ AppTag β H w e x β' (H₁ ++ [.cells (as ++ news)]) w' := by
    intro base len cap olds as H₁ hc hlt h1 h2 hf ho ha hr hl1 s1 t1
    obtain ⟨ncap, zs, hR, hcap, hzs⟩ := run.grow base len cap olds hc hlt h1 h2 hf
    have hmul : (len + m) * sz = len * sz + m * sz := Nat.add_mul _ _ _
    have harr : (olds.toArray ++ vs.toArray ++ zs).size = ncap * sz := by simp; omega
    obtain ⟨s2, t2⟩ := s1.alloc (w' := w.drew.alloc (.cells (olds.toArray ++ vs.toArray ++ zs) e)) (olds.toArray ++ vs.toArray ++ zs) e (as ++ news) (by simp; omega) (fun j a hj => by
      rcases Nat.lt_or_ge j as.length with hlt' | hge
      · rw [List.getElem?_append_left hlt'] at hj
        have hlo : j < olds.length := by omega
        refine ⟨olds[j], by rw [Array.getElem?_append_left (by simp; omega), Array.getElem?_append_left (by simp; omega)]; simp [hlo], t1.rep (hr j a _ hj (by simp [hlo]))⟩
      · rw [List.getElem?_append_right hge] at hj
        have hlt2 := getElem?_lt hj
        have hlo : j - as.length < vs.length := by omega
        refine ⟨vs[j - as.length], ?_, t1.rep (hrep _ a _ hj (by simp [hlo]))⟩
        rw [Array.getElem?_append_left (by simp; omega), Array.getElem?_append_right (by simp; omega)]
        simp only [List.size_toArray, List.getElem?_toArray]
        rw [ho, <- ha]
        simp [hlo]) rfl
    refine ⟨_, _, _, hR, ?_, s2, t1.trans t2, fun _ _ => ⟨by rw [<- hl1, Em.set_same], _, by rw [<- hl1, Em.set_same]; exact shape_alloc_new⟩⟩
    have hb : Em.set β H₁.length ⟨w.drew.heap.size, 0, (olds.toArray ++ vs.toArray ++ zs).size⟩ H.length = ⟨w.heap.size, 0, ncap * sz⟩ := by
      rw [<- hl1, Em.set_same, harr]; rfl
    have := Rep.sl (β := Em.set β H₁.length ⟨w.drew.heap.size, 0, (olds.toArray ++ vs.toArray ++ zs).size⟩) (n := (H₁ ++ [AObj.cells (as ++ news)]).length)
      (R := RO (Em.set β H₁.length ⟨w.drew.heap.size, 0, (olds.toArray ++ vs.toArray ++ zs).size⟩) (H₁ ++ [AObj.cells (as ++ news)]) (w.drew.alloc (.cells (olds.toArray ++ vs.toArray ++ zs) e)))
      (sz := sz) (o := H.length) (off := 0) (len := len + m) (cap' := ncap) (cap := none) (by simp; omega) hcap (fun c h => by cases h) (fun _ => by rw [hb]; simp)
    rw [hb] at this
    exact this
  unfold appendA at h
  split at h
  · have hc := rep_v hx
    split at h
    · rename_i h0
      cases h
      exact ⟨c, w, β, none0 h0 _ _ _ hc (Nat.le_refl _), hx, s, Tr.refl _ _ _ _, .same rfl⟩
    · rename_i h0
      split at h
      · rename_i hlim
        cases h
        have := fresh none 0 0 [] [] H hc (by omega) (by simpa using hlim.1) (by simpa using hlim.2) (by rw [hc]; simp [Builtin.firstCells]) (by simp) (by simp) (by simp) rfl sd td
        simpa using this
      · cases h
  · cases hx with
    | z0 a =>
      split at h
      · rename_i h0
        cases h
        exact ⟨_, w, β, none0 h0 _ _ _ rfl (Nat.le_refl _), .z0 a, s, Tr.refl _ _ _ _, .same rfl⟩
      · rename_i h0
        split at h
        · rename_i hlim
          cases h
          have := fresh a 0 0 [] [] H rfl (by omega) (by simpa using hlim.1) (by simpa using hlim.2) (by cases a <;> simp [Builtin.firstCells, loadCells, loadCellsFrom]) (by simp) (by simp) (by simp) rfl sd td
          simpa using this
        · cases h
  · rename_i s' xs
    split at h
    · rename_i hc
      cases h
      cases hx with
      | lstNil _ a cap => exact ⟨_, w, β, none0 hc.1 _ _ _ rfl (Nat.zero_le _), .lstNil _ _ _, s, Tr.refl _ _ _ _, .same rfl⟩
      | lst cv hcap hR hs hh => exact ⟨_, w, β, none0 hc.1 _ _ _ rfl hcap, .lst cv hcap hR hs hh, s, Tr.refl _ _ _ _, .same rfl⟩
    · cases h
  · rename_i s' o off len cap
    split at h
    · rename_i hs
      subst hs
      split at h
      · rename_i h0
        cases h
        cases hx with
        | slZero p ho hc => exact ⟨_, w, β, none0 h0 _ _ _ rfl (Nat.le_refl _), .slZero p ho hc, s, Tr.refl _ _ _ _, .same rfl⟩
        | sl ho hl hc hn => exact ⟨_, w, β, none0 h0 _ _ _ rfl hl, .sl ho hl hc hn, s, Tr.refl _ _ _ _, .same rfl⟩
      · rename_i h0
        split at h
        · rename_i cs hcs
          split at h
          · rename_i hone
            -- the slice's own cells
            have base := s.base o cs hcs
            have olds : ∀ (len' cap' : Nat), c = .slice (some ⟨(β o).blk, (β o).off + off, none⟩) len' cap' -> off + len' * s' <= cs.length ->
                ∃ vs : List Value, vs.length = len' * s' ∧ (Builtin.firstCells s' len' c).run P w.drew = .ok vs.toArray w.drew ∧ ∀ (j : Nat) (a : AV) (c : Value), ((cs.drop off).take (len' * s'))[j]? = some a -> vs[j]? = some c -> RepH β H w a c := by
              intro len' cap' hc hle
              obtain ⟨ws, h1, h2, h3⟩ := row_of (w := w) (β' := β) (n := H.length) (R := RO β H w) ((cs.drop off).take (len' * s')) (β o).blk ((β o).off + off) (fun j a ha => by
                have hlt := getElem?_lt ha; simp at hlt
                rw [List.getElem?_take_of_lt (by omega), List.getElem?_drop] at ha
                rw [Nat.add_assoc]; exact s.cell o cs _ a hcs ha)
              have hwl : ws.length = len' * s' := by rw [h1]; simp; omega
              refine ⟨ws, hwl, ?_, h3⟩
              have := loadCells_run (P := P) (w := w.drew) (b := (β o).blk) (o := (β o).off + off) (vs := ws) (fun j v hv => by simpa using h2 j v hv)
              rw [hc]
              simp only [Builtin.firstCells]
              rw [<- hwl]; exact this
            have inPlace : ∀ (len' cap' : Nat), c = .slice (some ⟨(β o).blk, (β o).off + off, none⟩) len' cap' -> len' + m <= cap' -> off + (len' + m) * s' <= cs.length ->
                ∃ w', R = .ok (.slice (some ⟨(β o).blk, (β o).off + off, none⟩) (len' + m) cap') w' ∧ Sim B β (H.set o (.cells (setsA cs (off + len' * s') news))) w' ∧ Tr B β H w β (H.set o (.cells (setsA cs (off + len' * s') news))) w' := by
              intro len' cap' hc hle hin
              rw [Nat.add_mul] at hin
              obtain ⟨w', k1, k2, k3⟩ := storeCells_sound (P := P) news vs 0 s hcs (off := off + len' * s') (by omega) (by omega) hone hrep
              refine ⟨w', run.room _ _ _ w' hc hle (fun a ha => ?_) (fun hn => by cases hn), by simpa using k2, by simpa using k3⟩
              cases ha
              rw [add_none, Nat.add_assoc]; exact k1
            split at h
            · rename_i hin
              cases cap with
              | some c0 =>
                -- the room is known
                simp only at h
                split at h
                · rename_i hroom
                  cases h
                  cases hx with
                  | slZero p ho hc =>
                    rcases hc with hc | hc
                    · cases hc.1
                    · cases hc; omega
                  | sl ho hl hc hn =>
                    have hcc := (hc c0 rfl)
                    obtain ⟨w', k1, k2, k3⟩ := inPlace _ _ rfl (by omega) hin
                    refine ⟨_, w', β, k1, ?_, k2, k3, .same (by simp)⟩
                    exact .sl (by simpa using ho) (by omega) hc hn
                · rename_i hroom
                  split at h
                  · rename_i hlim
                    cases h
                    cases hx with
                    | slZero p ho hc =>
                      rcases hc with hc | hc
                      · cases hc.1
                      · cases hc
                        have := fresh (some p) 0 0 [] [] H rfl (by omega) (by simpa using hlim.1) (by simpa using hlim.2.1) (by simp [Builtin.firstCells, loadCells, loadCellsFrom]) (by simp) (by simp) (by simp) rfl sd td
                        simpa using this
                    | sl ho hl hc hn =>
                      have hcc := (hc c0 rfl)
                      obtain ⟨ws, k1, k2, k3⟩ := olds _ _ rfl hlim.2.2
                      exact fresh _ _ _ ws _ H rfl (by omega) hlim.1 hlim.2.1 k2 k1 (by simp; omega) k3 rfl sd td
                  · cases h
              | none =>
                cases h
                cases hx with
                | slZero p ho hc =>
                  rcases hc with hc | hc
                  · have h1 : 1 * s' <= (0 + m) * s' := Nat.mul_le_mul_right _ (by omega)
                    omega
                  · cases hc
                | @sl _ _ _ _ cap' _ ho hl hc hn =>
                  have htot := hn rfl
                  have hle : len + m <= cap' := by
                    have h1 : off + (len + m) * s' <= off + cap' * s' := by omega
                    exact Nat.le_of_mul_le_mul_right (by omega) hsz
                  obtain ⟨w', k1, k2, k3⟩ := inPlace _ _ rfl hle hin
                  exact ⟨_, w', β, k1, .sl (by simpa using ho) hle hc hn, k2, k3, .same (by simp)⟩
            · -- the room is the machine's affair
              rename_i hin
              split at h
              · rename_i hlim
                cases h
                by_cases hg : ∃ c0, cap = some c0 ∧ c0 < len + m
                · -- the room is known, and too little
                  obtain ⟨c0, rfl, hg⟩ := hg
                  have e : letgo (some c0) (len + m) H o = H := by unfold letgo; exact if_pos hg
                  rw [e]
                  cases hx with
                  | slZero p ho hc =>
                    have := fresh (some p) 0 0 [] [] H rfl (by omega) (by simpa using hlim.1) (by simpa using hlim.2.1) (by simp [Builtin.firstCells, loadCells, loadCellsFrom]) (by simp) (by simp) (by simp) rfl sd td
                    simpa using this
                  | sl ho hl hc hn =>
                    have hcc := (hc c0 rfl)
                    obtain ⟨ws, k1, k2, k3⟩ := olds _ _ rfl hlim.2.2
                    exact fresh _ _ _ ws _ H rfl (by omega) hlim.1 hlim.2.1 k2 k1 (by simp; omega) k3 rfl sd td
                have elg : letgo cap (len + m) H o = H.set o .dead := by
                  unfold letgo
                  split
                  · rename_i c0; rw [if_neg]; exact fun hh => hg ⟨c0, rfl, hh⟩
                  · rfl
                rw [elg]
                obtain ⟨s1, t1⟩ := sd.kill o
                have t1' := td.trans t1
                cases hx with
                | slZero p ho hc =>
                  have := fresh (some p) 0 0 [] [] (H.set o .dead) rfl (by omega) (by simpa using hlim.1) (by simpa using hlim.2.1) (by simp [Builtin.firstCells, loadCells, loadCellsFrom]) (by simp) (by simp) (by simp) (by simp) s1 t1'
                  simpa using this
                | @sl _ _ _ _ cap' _ ho hl hc hn =>
                  have htot : off + cap' * s' <= (β o).tot := by
                    cases cap with
                    | none => have := hn rfl; omega
                    | some c0 => obtain ⟨e1, e2⟩ := hc c0 rfl; rw [e1]; exact e2
                  obtain ⟨ws, k1, k2, k3⟩ := olds _ _ rfl hlim.2.2
                  rcases Nat.lt_or_ge cap' (len + m) with hlt | hge
                  · exact fresh _ _ _ ws _ (H.set o .dead) rfl hlt hlim.1 hlim.2.1 k2 k1 (by simp; omega) k3 (by simp) s1 t1'
                  · -- in place, behind the object's known cells
                    have hmul : (len + m) * s' = len * s' + m * s' := Nat.add_mul _ _ _
                    have hle : (len + m) * s' <= cap' * s' := Nat.mul_le_mul_right _ hge
                    obtain ⟨s2, t2⟩ := s.reveal hcs (off + (len + m) * s' - cs.length) (by omega)
                    have hrlen : (cs ++ List.replicate (off + (len + m) * s' - cs.length) AV.any).length = off + (len + m) * s' := by simp; omega
                    obtain ⟨w', q1, q2, q3⟩ := storeCells_sound (P := P) news vs 0 s2 (o := o) (off := off + len * s') (cs := cs ++ List.replicate (off + (len + m) * s' - cs.length) .any)
                      (by rw [List.getElem?_set_self (getElem?_lt hcs)]) (by rw [hrlen]; omega) (by omega) hone (fun j a c h1 h2 => t2.rep (hrep j a c h1 h2))
                    rw [List.set_set] at q2 q3
                    simp only [Nat.add_zero] at q2 q3
                    obtain ⟨s3, t3⟩ := q2.move (o := o) (cs := setsA (cs ++ List.replicate (off + (len + m) * s' - cs.length) .any) (off + len * s') news)
                      (by rw [List.getElem?_set_self (getElem?_lt hcs)]) off ((cs.drop off).take (len * s') ++ news) (fun j a hj => by
                        rw [setsA_get _ _ _ (by rw [hrlen]; omega)]
                        rcases Nat.lt_or_ge j (len * s') with hlt | hge'
                        · rw [if_neg (by omega)]
                          rw [List.getElem?_append_left (by simp; omega), List.getElem?_take_of_lt hlt, List.getElem?_drop] at hj
                          rw [List.getElem?_append_left (getElem?_lt hj)]; exact hj
                        · have hl2 : ((cs.drop off).take (len * s')).length = len * s' := by simp; omega
                          rw [List.getElem?_append_right (by omega), hl2] at hj
                          have := getElem?_lt hj
                          rw [if_pos (by omega)]
                          rw [<- hj]; congr 1; omega) (cap' * s') (by simp; omega) (by omega)
                    rw [List.set_set, List.length_set] at s3 t3
                    refine ⟨_, w', _, run.room _ _ _ w' rfl hge (fun a ha => ?_) (fun hn => by cases hn), ?_, s3, (t2.trans q3).trans t3, fun ht _ => ?_⟩
                    · cases ha
                      rw [add_none, Nat.add_assoc]; exact q1
                    · have hb : Em.set β H.length ⟨(β o).blk, (β o).off + off, cap' * s'⟩ H.length = ⟨(β o).blk, (β o).off + off, cap' * s'⟩ := Em.set_same _ _ _
                      have := Rep.sl (β := Em.set β H.length ⟨(β o).blk, (β o).off + off, cap' * s'⟩) (n := (H.set o .dead ++ [AObj.cells ((cs.drop off).take (len * s') ++ news)]).length)
                        (R := RO (Em.set β H.length ⟨(β o).blk, (β o).off + off, cap' * s'⟩) (H.set o .dead ++ [AObj.cells ((cs.drop off).take (len * s') ++ news)]) w')
                        (sz := s') (o := H.length) (off := 0) (len := len + m) (cap' := cap') (cap := none) (by simp) hge (fun c h => by cases h) (fun _ => by rw [hb]; simp only; omega)
                      rw [hb] at this
                      exact this
                    · obtain ⟨h0', p, hp⟩ := ht _ _ _ _ _ rfl
                      subst h0'
                      have hpo : p ≠ o := fun e' => by rw [e', hcs] at hp; cases hp
                      have hplt := getElem?_lt hp
                      have holt := getElem?_lt hcs
                      obtain ⟨_, k2', n', k3'⟩ := s3.tag p o e (by
                        rw [List.getElem?_append_left (by simpa using hplt), List.getElem?_set_ne (fun h => hpo h.symm)]; exact hp)
                      rw [Em.set_lt _ _ holt] at k2' k3'
                      exact ⟨by rw [Em.set_same]; simpa using k2', n', by rw [Em.set_same]; exact k3'⟩
              · cases h
          · cases h
        · cases h
    · cases h
  · cases h
end
end Go.Ab
namespace Go.Ab
open Go Go.RowKit
set_option linter.unusedVariables false
set_option linter.unusedSimpArgs false
section
variable {P : Program} {B : Nat} {β : Lies} {H : Heap} {w : World}
theorem layOf_info_size {e : TypeId} {l : Option Nat} {i : TypeInfo} (hl : layOf P e = some l) (hi : P.info? e = some i) : i.size = laySize l := by
  have h1 := layOf_size hl default
  simp [sizeOf, typeInfo, hi] at h1
  exact h1
theorem zeroA_some {e : TypeId} {zs : List AV} (h : zeroA P e = some zs) : ∃ i z, P.info? e = some i ∧ i.zero = some z ∧ zs = z.cells.toList.map .v := by
  unfold zeroA at h
  rw [Option.map_eq_some_iff] at h
  obtain ⟨z, hz, rfl⟩ := h
  rw [Option.bind_eq_some_iff] at hz
  obtain ⟨i, hi, hz⟩ := hz
  exact ⟨i, z, hi, hz, rfl⟩
theorem repA_length (k : Nat) (zs : List AV) : (repA k zs).length = k * zs.length := by
  simp [repA]
theorem repA_get (zs : List AV) : ∀ (k j : Nat), j < k * zs.length -> (repA k zs)[j]? = zs[j % zs.length]? := by
  intro k
  induction k with
  | zero => intro j h; omega
  | succ k ih =>
    intro j h
    unfold repA at *
    rw [List.replicate_succ, List.flatten_cons]
    rcases Nat.lt_or_ge j zs.length with hlt | hge
    · rw [List.getElem?_append_left hlt, Nat.mod_eq_of_lt hlt]
    · rw [List.getElem?_append_right hge, ih _ (by rw [Nat.add_mul] at h; omega), <- Nat.mod_eq_sub_mod hge]
theorem whole_rep {β' : Lies} {n : Nat} {R : Nat -> Nat -> Value -> Prop} (z : Array Value) (k : Nat) (hz : 0 < z.size ∨ k * z.size = 0) :
    Whole β' n R (repA k (z.toList.map .v)) ((Array.range (k * z.size)).map (z[· % z.size]!)) := by
  refine ⟨by simp [repA_length], fun j a c ha hc => ?_⟩
  have hj := getElem?_lt ha
  rw [repA_length] at hj
  simp only [List.length_map, Array.length_toList] at hj
  rw [repA_get _ _ _ (by simpa using hj)] at ha
  simp only [List.length_map, Array.length_toList, List.getElem?_map, Array.getElem?_toList, Option.map_eq_some_iff] at ha
  obtain ⟨c', hc', rfl⟩ := ha
  simp only [Array.getElem?_map, Option.map_eq_some_iff] at hc
  obtain ⟨j', hj', rfl⟩ := hc
  have e : j' = j := by
    have := hj'
    simp [Array.getElem?_range] at this
    omega
  subst e
  have : z[j' % z.size]! = c' := by
    have hlt : j' % z.size < z.size := by
      rcases Nat.lt_or_ge (j' % z.size) z.size with h | h
      · exact h
      · simp [Array.getElem?_eq_none h] at hc'
    simp [Array.getElem?_eq_getElem hlt] at hc'
    simp [getElem!_pos, hlt, hc']
  rw [this]; exact .v _
theorem rep_new (s : Sim B β H w) {w' : World} {arr : Array Value} {cs : List AV} (hw : Sim B (Em.set β H.length ⟨w.heap.size, 0, arr.size⟩) (H ++ [.cells cs]) w') :
    RepH (Em.set β H.length ⟨w.heap.size, 0, arr.size⟩) (H ++ [.cells cs]) w' (.ptr H.length 0) (.pointer (some ⟨w.heap.size, 0, none⟩)) := by
  have := Rep.ptr (β := Em.set β H.length ⟨w.heap.size, 0, arr.size⟩) (n := (H ++ [AObj.cells cs]).length) (R := RO (Em.set β H.length ⟨w.heap.size, 0, arr.size⟩) (H ++ [.cells cs]) w') (o := H.length) (off := 0) (by simp)
  rw [Em.set_same] at this
  exact this
theorem rep_newSl {w' : World} {arr : Array Value} {cs : List AV} {sz len cap : Nat} {k : Option Nat} {b : Nat} (hl : len <= cap) (hk : ∀ c, k = some c -> cap = c) (ht : cap * sz = arr.size) :
    RepH (Em.set β H.length ⟨b, 0, arr.size⟩) (H ++ [.cells cs]) w' (.sl sz H.length 0 len k) (.slice (some ⟨b, 0, none⟩) len cap) := by
  have := Rep.sl (β := Em.set β H.length ⟨b, 0, arr.size⟩) (n := (H ++ [AObj.cells cs]).length) (R := RO (Em.set β H.length ⟨b, 0, arr.size⟩) (H ++ [.cells cs]) w') (sz := sz) (o := H.length) (off := 0) (len := len) (cap' := cap) (cap := k) (by simp) hl
    (fun c hc => by rw [Em.set_same]; have := hk c hc; subst this; simp; omega) (fun _ => by rw [Em.set_same]; simp; omega)
  rw [Em.set_same] at this
  exact this
theorem copyA_sound (s : Sim B β H w) {sz : Nat} {x : AV} {m k : Nat} {news : List AV} {H' : Heap} (h : copyA H sz x m news = some (k, H')) {c : Value} (hx : RepH β H w x c)
    {vs : List Value} (hv : vs.length = m * sz) (hnw : news.length = m * sz) (hrep : ∀ (j : Nat) (a : AV) (c : Value), news[j]? = some a -> vs[j]? = some c -> RepH β H w a c) :
    ∃ base len cap w', c = .slice base len cap ∧ k = min m len ∧ (∀ a, base = some a -> (storeCells a (vs.take (min m len * sz))).run P w = .ok () w') ∧ (base = none -> w' = w) ∧ Sim B β H' w' ∧ Tr B β H w β H' w' := by
  have triv : ∀ base len cap, c = .slice base len cap -> min m len = 0 -> some (0, H) = some (k, H') -> ∃ base len cap w', c = .slice base len cap ∧ k = min m len ∧ (∀ a, base = some a -> (storeCells a (vs.take (min m len * sz))).run P w = .ok () w') ∧ (base = none -> w' = w) ∧ Sim B β H' w' ∧ Tr B β H w β H' w' := by
    intro base len cap hc h0 he
    cases he
    exact ⟨base, len, cap, w, hc, h0.symm, fun a _ => by rw [h0, Nat.zero_mul]; rfl, fun _ => rfl, s, Tr.refl _ _ _ _⟩
  unfold copyA at h
  split at h
  · exact triv _ _ _ (rep_v hx) (by simp) h
  · cases hx with
    | z0 a => exact triv _ _ _ rfl (by simp) h
  · rename_i s' o off len cap
    split at h
    · rename_i hs
      subst hs
      split at h
      · rename_i h0
        cases hx with
        | slZero p _ _ => exact triv _ _ _ rfl h0 h
        | sl _ _ _ _ => exact triv _ _ _ rfl h0 h
      · rename_i h0
        split at h
        · rename_i cs hcs
          split at h
          · rename_i hc
            cases h
            cases hx with
            | slZero p _ _ => simp at h0
            | sl ho hl hcp hn =>
              have hle : min m len * s' <= m * s' := Nat.mul_le_mul_right _ (Nat.min_le_left _ _)
              obtain ⟨w', k1, k2, k3⟩ := storeCells_sound (P := P) (news.take (min m len * s')) (vs.take (min m len * s')) 0 s hcs (off := off) (by simp; omega) (by simp; omega)
                hc.2 (fun j a c ha hc => by
                  have h1 := getElem?_lt ha; simp at h1
                  rw [List.getElem?_take_of_lt (by omega)] at ha hc
                  exact hrep j a c ha hc)
              refine ⟨_, _, _, w', rfl, rfl, fun a ha => ?_, (fun hn => by cases hn), by simpa using k2, by simpa using k3⟩
              cases ha; exact k1
          · cases h
        · cases h
    · cases h
  · cases h
theorem bytesOfA_sound : ∀ {cs : List AV} {bs : List UInt8}, bytesOfA cs = some bs -> cs.length = bs.length ∧ ∀ (vs : List Value), vs.length = cs.length -> (∀ (j : Nat) (a : AV) (c : Value), cs[j]? = some a -> vs[j]? = some c -> RepH β H w a c) ->
    ∃ ns : List Int, vs = ns.map (Value.int .u8) ∧ ns.map (fun n => UInt8.ofNat n.toNat) = bs := by
  intro cs
  induction cs with
  | nil => intro bs h; simp [bytesOfA] at h; subst h; exact ⟨rfl, fun vs hl _ => ⟨[], by simpa using hl, rfl⟩⟩
  | cons a cs ih =>
    intro bs h
    unfold bytesOfA at h
    split at h
    · rename_i heq; cases heq
    · rename_i n rest heq
      injection heq with e1 e2
      subst e1; subst e2
      rw [Option.map_eq_some_iff] at h
      obtain ⟨bs', hb, rfl⟩ := h
      obtain ⟨h1, h2⟩ := ih hb
      refine ⟨by simp [h1], fun vs hl hr => ?_⟩
      cases vs with
      | nil => simp at hl
      | cons v vs =>
        have hv := rep_v (hr 0 _ v rfl rfl)
        subst hv
        obtain ⟨ns, e1, e2⟩ := h2 vs (by simpa using hl) (fun j a c ha hc => hr (j + 1) a c (by simpa using ha) (by simpa using hc))
        exact ⟨n :: ns, by simp [e1], by simp [e2]⟩
    · cases h
theorem fillA_length : ∀ {ps : List (Nat × Nat × AV)} {as rs : List AV}, fillA as ps = some rs -> rs.length = as.length := by
  intro ps
  induction ps with
  | nil => intro as rs h; simp [fillA] at h; rw [h]
  | cons q ps ih =>
    intro as rs h
    obtain ⟨o, sz, v⟩ := q
    simp only [fillA] at h
    split at h
    · split at h
      · rename_i hcc
        rw [ih h]; simp; omega
      · cases h
    · cases h
theorem buildSlice_run {t e : TypeId} {len sz : Nat} {z : Value} {parts : Array (Nat × Value)} {ys : Array Value} (hu : P.underlying t = some (.slice e)) (hS : (sizeOf e).run P w = .ok sz w) (hz : (zeroValue e).run P w = .ok z w)
    (hb : len * sz <= 16777216) (hf : Instr.fill (fun i => some (i * sz, sz)) ((Array.range (len * sz)).map ((if len * sz = 0 then #[] else z.cells)[· % (if len * sz = 0 then #[] else z.cells).size]!)) parts.toList = some ys) :
    (Instr.buildSlice t len parts).run P w = .ok (.slice (some ⟨w.heap.size, 0, none⟩) len len) (w.alloc (.cells ys e)) := by
  have hbig : ¬ (16777216 < len * sz) := by omega
  by_cases h0 : len * sz = 0
  · rcases Nat.mul_eq_zero.1 h0 with rfl | rfl
    · simp at hf
      simp [Instr.buildSlice, run_und hu, hS, newRow, hf]
    · simp at hf
      simp [Instr.buildSlice, run_und hu, hS, newRow, hf]
  · simp only [h0, if_false] at hf
    have h00 : ¬ (len = 0 ∨ sz = 0) := by
      intro h; rcases h with h | h <;> simp [h] at h0
    simp [Instr.buildSlice, run_und hu, hS, hbig, h00, hz, newRow, hf]
    intro h; exact absurd h h0
theorem makeSlice_run {t e : TypeId} {sz : Nat} {z : Value} {i : TypeInfo} {n c : Int} {k k' : IntKind} (hu : P.underlying t = some (.slice e)) (hi : P.info? e = some i) (hz : i.zero = some z) (hS : (sizeOf e).run P w = .ok sz w)
    (hzs : z.cells.size = sz) (hb : 0 < i.bytes) (h0 : 0 <= n) (hnc : n <= c) (hlim : c * (i.bytes : Int) <= 281474976710656) :
    (Instr.makeSlice t (.int k n) (.int k' c)).run P w = .ok (.slice (some ⟨w.heap.size, 0, none⟩) n.toNat c.toNat)
      (w.alloc (.cells ((Array.range (c.toNat * sz)).map ((if c.toNat * sz = 0 then #[] else z.cells)[· % (if c.toNat * sz = 0 then #[] else z.cells).size]!)) e)) := by
  have hc : c <= 281474976710656 := by
    have : c * 1 <= c * (i.bytes : Int) := Int.mul_le_mul_of_nonneg_left (by omega) (by omega)
    omega
  have w1 : IntKind.i64.wrap n = n := IntWalk.i64_in _ (by omega)
  have w2 : IntKind.i64.wrap c = c := IntWalk.i64_in _ (by omega)
  have hcomm : (i.bytes : Int) * c = c * (i.bytes : Int) := Int.mul_comm _ _
  have h1 : ¬ (c < 0) := by omega
  have h2 : ¬ (281474976710656 < (i.bytes : Int) * c) := by omega
  have h3 : ¬ (n < 0) := by omega
  have h4 : ¬ (c < n) := by omega
  by_cases h5 : c.toNat * sz = 0
  · simp [Instr.makeSlice, run_und hu, asInt, asIntOf, typeInfo, hi, w1, w2, h1, h2, h3, h4, hS, h5, newRow]
  · have h00 : ¬ (c.toNat = 0 ∨ sz = 0) := by
      intro h; rcases h with h | h <;> simp [h] at h5
    have h01 : ¬ (c <= 0 ∨ sz = 0) := by omega
    simp [Instr.makeSlice, run_und hu, asInt, asIntOf, typeInfo, hi, w1, w2, h1, h2, h3, h4, hS, h5, h00, h01, zeroValue, hz, newRow]
def MemOk (P : Program) (B : Nat) (β : Lies) (H : Heap) (w : World) (S : Sem Next) (r : AV) (H' : Heap) : Prop :=
  ∃ nx w' β' c, S.run P w = .ok nx w' ∧ (nx = .value c ∨ (nx = .skip ∧ c = undef)) ∧ RepH β' H' w' r c ∧ Sim B β' H' w' ∧ Tr B β H w β' H' w'
theorem MemOk.val {S : Sem Value} {r : AV} {H' : Heap} {c : Value} {w' : World} {β' : Lies} (h : S.run P w = .ok c w') (hr : RepH β' H' w' r c) (hs : Sim B β' H' w') (ht : Tr B β H w β' H' w') :
    MemOk P B β H w (do pure (Next.value (<- S))) r H' := ⟨.value c, w', β', c, by simp [h], .inl rfl, hr, hs, ht⟩
end
end Go.Ab
namespace Go.Ab
open Go Go.RowKit
set_option linter.unusedVariables false
set_option linter.unusedSimpArgs false
section
variable {P : Program} {B : Nat} {β : Lies} {H : Heap} {w : World}
theorem whole_zero {β' : Lies} {n : Nat} {R : Nat -> Nat -> Value -> Prop} (z : Array Value) (k sz : Nat) (hz : z.size = sz) :
    Whole β' n R (repA k (z.toList.map .v)) ((Array.range (k * sz)).map ((if k * sz = 0 then #[] else z)[· % (if k * sz = 0 then #[] else z).size]!)) := by
  subst hz
  split
  · rename_i h0
    refine ⟨by simp [repA_length, h0], fun j b c hb _ => ?_⟩
    have := getElem?_lt hb
    rw [repA_length] at this
    simp [h0] at this
  · rename_i h0
    have hpos : 0 < z.size := by
      rcases Nat.eq_zero_or_pos z.size with h | h
      · rw [h] at h0; simp at h0
      · exact h
    exact whole_rep z k (.inl hpos)
theorem mem_buildSlice (s : Sim B β H w) {ρ : Nat -> AV} {a : Act} (hρ : ∀ t, RepH β H w (ρ t) (a.tmps.getD t undef)) {t e : TypeId} {len : Nat} {parts : Array (Nat × Operand)} {l : Option Nat} {zs cs : List AV}
    (hu : P.underlying t = some (.slice e)) (hl : layOf P e = some l) (hz : zeroA P e = some zs) (hc : zs.length = laySize l) (hlim : len * laySize l <= 16777216)
    (hcs : fillA (repA len zs) ((parts.toList.map fun (i, x) => (i * laySize l, laySize l, trX x)).map fun (o, s, x) => (o, s, x.ev ρ)) = some cs) :
    MemOk P B β H w (do pure (Next.value (<- Instr.buildSlice t len (parts.map fun (i, x) => (i, a.eval x))))) (.sl (laySize l) H.length 0 len (some len)) (H ++ [.cells cs]) := by
  obtain ⟨i, z, hi, hz', rfl⟩ := zeroA_some hz
  simp only [List.length_map, Array.length_toList] at hc
  have hS := layOf_size hl w
  have hwhole := whole_zero (β' := β) (n := H.length) (R := RO β H w) z.cells len (laySize l) hc
  obtain ⟨ys, hys, hw⟩ := fill_sound (β := β) (n := H.length) (R := RO β H w) (place := fun i => some (i * laySize l, laySize l)) (parts.toList.map fun (i, x) => (i, a.eval x)) _ _ _ cs
    (by simp) (fun j p q hp hq => by
      simp only [List.getElem?_map, Option.map_eq_some_iff] at hp hq
      obtain ⟨⟨i0, x0⟩, hx0, rfl⟩ := hp
      obtain ⟨⟨o1, s1, x1⟩, ⟨⟨i2, x2⟩, hx1, he⟩, rfl⟩ := hq
      rw [hx0] at hx1; cases hx1; cases he
      exact ⟨rfl, trX_rep hρ x0⟩) hwhole hcs
  have hys' : Instr.fill (fun i => some (i * laySize l, laySize l)) ((Array.range (len * laySize l)).map ((if len * laySize l = 0 then #[] else z.cells)[· % (if len * laySize l = 0 then #[] else z.cells).size]!)) (parts.map fun (i, x) => (i, a.eval x)).toList = some ys := by
    rw [<- hys]; congr 1; simp
  have hrun := buildSlice_run (P := P) (w := w) hu hS (info_und hi hz' w) hlim hys'
  obtain ⟨s', t'⟩ := s.alloc ys e cs (by have := hw.1; omega) (fun j b hb => by
    have := getElem?_lt hb
    have := hw.1
    exact ⟨ys[j]'(by omega), by simp, hw.2 j b _ hb (by simp)⟩) rfl
  have hsz : len * laySize l = ys.size := by
    have h1 := hw.1
    have h2 := fillA_length hcs
    rw [repA_length] at h2
    simp only [List.length_map, Array.length_toList, hc] at h2
    omega
  exact .val hrun (rep_newSl (Nat.le_refl _) (fun c h => by cases h; rfl) hsz) s' t'
theorem mem_makeSlice (s : Sim B β H w) {t e : TypeId} {l : Option Nat} {zs : List AV} {i : TypeInfo} {k k' : IntKind} {n c : Int}
    (hu : P.underlying t = some (.slice e)) (hl : layOf P e = some l) (hz : zeroA P e = some zs) (hi : P.info? e = some i) (hc : zs.length = laySize l) (hb : 0 < i.bytes)
    (h0 : 0 <= n) (hnc : n <= c) (hlim : c * (i.bytes : Int) <= 281474976710656) :
    MemOk P B β H w (do pure (Next.value (<- Instr.makeSlice t (.int k n) (.int k' c)))) (.sl (laySize l) H.length 0 n.toNat (some c.toNat)) (H ++ [.cells (repA c.toNat zs)]) := by
  obtain ⟨i', z, hi', hz', rfl⟩ := zeroA_some hz
  rw [hi] at hi'; cases hi'
  simp only [List.length_map, Array.length_toList] at hc
  have hS := layOf_size hl w
  obtain ⟨ys, hrun, hwhole, hsize⟩ : ∃ ys : Array Value, (Instr.makeSlice t (.int k n) (.int k' c)).run P w = .ok (.slice (some ⟨w.heap.size, 0, none⟩) n.toNat c.toNat) (w.alloc (.cells ys e)) ∧
      Whole β H.length (RO β H w) (repA c.toNat (z.cells.toList.map .v)) ys ∧ ys.size = c.toNat * laySize l :=
    ⟨_, makeSlice_run (P := P) (w := w) (k := k) (k' := k') hu hi hz' hS hc hb h0 hnc hlim, whole_zero (β' := β) (n := H.length) (R := RO β H w) z.cells c.toNat (laySize l) hc, by simp⟩
  obtain ⟨s', t'⟩ := s.alloc ys e (repA c.toNat (z.cells.toList.map .v)) (by have := hwhole.1; omega) (fun j b hb => by
    have := getElem?_lt hb
    have := hwhole.1
    exact ⟨ys[j]'(by omega), by simp, hwhole.2 j b _ hb (by simp)⟩) rfl
  exact .val hrun (rep_newSl (by omega) (fun c h => by cases h; rfl) hsize.symm) s' t'
theorem mem_append (s : Sim B β H w) {t u e f ty : TypeId} {l : Option Nat} {zs : List AV} {i : TypeInfo} {x y r : AV} {c d : Value} {m : Nat} {news : List AV} {H' : Heap}
    (ht : P.underlying t = some (.slice e)) (hu : P.underlying u = some (.slice f)) (hl : layOf P e = some l) (hz : zeroA P e = some zs) (hi : P.info? e = some i) (hc : zs.length = laySize l) (hsz : 0 < laySize l) (hb : 0 < i.bytes)
    (hx : RepH β H w x c) (hy : RepH β H w y d) (hn : cellsA H (laySize l) y = some (m, news)) (ha : appendA H (laySize l) i.bytes x m news = some (r, H')) :
    MemOk P B β H w (do pure (Next.value (<- Builtin.append_ #[t, u] ty #[c, d]))) r H' := by
  obtain ⟨i', z, hi', hz', rfl⟩ := zeroA_some hz
  rw [hi] at hi'; cases hi'
  simp only [List.length_map, Array.length_toList] at hc
  have his := layOf_info_size hl hi
  obtain ⟨p, cap, rfl, vs, hv1, hv2, hv3, hv4⟩ := cells_sound (P := P) s hn hy
  have hl1 : (Builtin.lenOf (.slice p m cap)).run P w = .ok m w := rfl
  have hfull : vs.take (m * laySize l) = vs := List.take_of_length_le (by omega)
  obtain ⟨d', w', β', h1, h2, h3, h4, _⟩ := appendA_sound (P := P) s hsz ha hx hv1 hv2 hv3 (e := e) (R := (Builtin.append_ #[t, u] ty #[c, .slice p m cap]).run P w)
    { room := fun base sLen sCap w' hcs hroom hst hbase => by
        subst hcs
        have hf := hv4 m (Nat.le_refl _) w rfl
        rw [hfull, <- his] at hf
        exact append_room ht hi hu (.inr ⟨f, rfl⟩) hl1 hf hroom (by rw [his]; exact hst) hbase
      grow := fun base sLen sCap olds hcs hroom hlim hlim2 hold => by
        subst hcs
        have hf := hv4 m (Nat.le_refl _) w.drew rfl
        rw [hfull, <- his] at hf
        rw [<- his] at hold
        refine ⟨_, _, append_grow ht hi hz' hu (.inr ⟨f, rfl⟩) hl1 hf hold hroom hlim hlim2 hb, grown_ge w e, ?_⟩
        rw [zeroCells_size, hc, <- Nat.add_mul]
        congr 1
        have := grown_ge w (need := sLen + m) (old := sCap) e
        omega }
  exact .val h1 h2 h3 h4
theorem byteCells_whole {β' : Lies} {n : Nat} {R : Nat -> Nat -> Value -> Prop} (b : ByteArray) : (byteCells b).length = b.size ∧ ∃ vs : List Value, vs = b.data.toList.map (fun x : UInt8 => Value.int .u8 (x.toNat : Int)) ∧ vs.length = b.size ∧
    ∀ (j : Nat) (a : AV) (c : Value), (byteCells b)[j]? = some a -> vs[j]? = some c -> Rep β' n R a c := by
  refine ⟨by unfold byteCells; rw [List.length_map, Array.length_toList]; rfl, _, rfl, by rw [List.length_map, Array.length_toList]; rfl, fun j a c ha hc => ?_⟩
  simp only [byteCells, List.getElem?_map, Option.map_eq_some_iff] at ha hc
  obtain ⟨x, hx, rfl⟩ := ha
  obtain ⟨y, hy, rfl⟩ := hc
  rw [hx] at hy; cases hy
  exact .v _
theorem firstCells_str (b : ByteArray) (k : Nat) (hk : k <= b.size) (w2 : World) : (Builtin.firstCells 1 k (.string b)).run P w2 = .ok ((b.data.toList.map (fun x : UInt8 => Value.int .u8 (x.toNat : Int))).take (k * 1)).toArray w2 := by
  simp only [Builtin.firstCells, Sem.run_pure]
  congr 1
  apply Array.ext'
  simp [ByteArray.data_extract]
theorem appendStr_run (s : Sim B β H w) {t u e ty : TypeId} {zs : List AV} {i : TypeInfo} {x r : AV} {c : Value} {b : ByteArray} {H' : Heap}
    (ht : P.underlying t = some (.slice e)) (hu : P.underlying u = some .string) (hz : zeroA P e = some zs) (hi : P.info? e = some i) (hs1 : i.size = 1) (hb1 : i.bytes = 1) (hzs : zs.length = 1)
    (hx : RepH β H w x c) (ha : appendA H 1 1 x b.size (byteCells b) = some (r, H')) :
    ∃ d w' β', (Builtin.append_ #[t, u] ty #[c, .string b]).run P w = .ok d w' ∧ RepH β' H' w' r d ∧ Sim B β' H' w' ∧ Tr B β H w β' H' w' ∧ AppTag β H w e x β' H' w' := by
  obtain ⟨i', z, hi', hz', rfl⟩ := zeroA_some hz
  rw [hi] at hi'; cases hi'
  simp only [List.length_map, Array.length_toList] at hzs
  obtain ⟨h0, vs, hvs, hv1, hv3⟩ := byteCells_whole (β' := β) (n := H.length) (R := RO β H w) b
  have hl1 : (Builtin.lenOf (.string b)).run P w = .ok b.size w := rfl
  have hfull : vs.take (b.size * 1) = vs := List.take_of_length_le (by omega)
  have hf : ∀ w2, (Builtin.firstCells i.size b.size (.string b)).run P w2 = .ok vs.toArray w2 := fun w2 => by
    have := firstCells_str (P := P) b b.size (Nat.le_refl _) w2
    rw [<- hvs, hfull] at this
    rw [hs1]; exact this
  obtain ⟨d', w', β', h1, h2, h3, h4, h5⟩ := appendA_sound (P := P) s (by omega) ha hx (by omega) (by omega) hv3 (e := e) (R := (Builtin.append_ #[t, u] ty #[c, .string b]).run P w)
    { room := fun base sLen sCap w' hcs hroom hst hbase => by
        subst hcs
        exact append_room ht hi hu (.inl rfl) hl1 (hf w) hroom (by rw [hs1]; exact hst) hbase
      grow := fun base sLen sCap olds hcs hroom hlim hlim2 hold => by
        subst hcs
        rw [<- hs1] at hold
        refine ⟨_, _, append_grow ht hi hz' hu (.inl rfl) hl1 (hf _) hold hroom (by rw [hb1]; exact hlim) hlim2 (by omega), grown_ge w e, ?_⟩
        rw [zeroCells_size, hzs]
        have := grown_ge w (need := sLen + b.size) (old := sCap) e
        omega }
  exact ⟨d', w', β', h1, h2, h3, h4, h5⟩
theorem mem_appendStr (s : Sim B β H w) {t u e ty : TypeId} {zs : List AV} {i : TypeInfo} {x r : AV} {c : Value} {b : ByteArray} {H' : Heap}
    (ht : P.underlying t = some (.slice e)) (hu : P.underlying u = some .string) (hz : zeroA P e = some zs) (hi : P.info? e = some i) (hs1 : i.size = 1) (hb1 : i.bytes = 1) (hzs : zs.length = 1)
    (hx : RepH β H w x c) (ha : appendA H 1 1 x b.size (byteCells b) = some (r, H')) :
    MemOk P B β H w (do pure (Next.value (<- Builtin.append_ #[t, u] ty #[c, .string b]))) r H' := by
  obtain ⟨d', w', β', h1, h2, h3, h4, _⟩ := appendStr_run (P := P) s (ty := ty) ht hu hz hi hs1 hb1 hzs hx ha
  exact .val h1 h2 h3 h4
theorem mem_appendZ (s : Sim B β H w) {t u e ty : TypeId} {k : IntKind} {l : Option Nat} {zs : List AV} {i : TypeInfo} {x r : AV} {c : Value} {k' : IntKind} {q : Int} {H' : Heap}
    (ht : P.underlying t = some (.slice e)) (hu : P.underlying u = some (.int k)) (hl : layOf P e = some l) (hz : zeroA P e = some zs) (hi : P.info? e = some i) (hc : zs.length = laySize l) (hsz : 0 < laySize l) (hb : 0 < i.bytes)
    (hx : RepH β H w x c) (hq : 0 <= q) (hlim : q * (i.bytes : Int) <= 281474976710656) (ha : appendA H (laySize l) i.bytes x q.toNat (repA q.toNat zs) = some (r, H')) :
    MemOk P B β H w (do pure (Next.value (<- Builtin.append_ #[t, u] ty #[c, .int k' q]))) r H' := by
  obtain ⟨i', z, hi', hz', rfl⟩ := zeroA_some hz
  rw [hi] at hi'; cases hi'
  simp only [List.length_map, Array.length_toList] at hc
  have his := layOf_info_size hl hi
  obtain ⟨m, rfl⟩ := Int.eq_ofNat_of_zero_le hq
  rw [show ((m : Int)).toNat = m from Int.toNat_natCast m] at ha
  have hm : m * i.bytes <= 281474976710656 := by
    have : ((m * i.bytes : Nat) : Int) <= ((281474976710656 : Nat) : Int) := by rw [Int.natCast_mul]; exact hlim
    exact Int.ofNat_le.1 this
  have hw := whole_rep (β' := β) (n := H.length) (R := RO β H w) z.cells m (.inl (by omega))
  have hzc : (Builtin.zeroCells z.cells m).toList.length = m * laySize l := by rw [Array.length_toList, zeroCells_size, hc]
  have hzl : (repA m (z.cells.toList.map .v)).length = m * laySize l := by rw [repA_length]; simp [hc]
  obtain ⟨d', w', β', h1, h2, h3, h4, _⟩ := appendA_sound (P := P) s hsz ha hx (vs := (Builtin.zeroCells z.cells m).toList) hzc hzl
    (fun j b d hb hd => hw.2 j b d hb (by rw [<- Array.getElem?_toList]; exact hd)) (e := e) (R := (Builtin.append_ #[t, u] ty #[c, .int k' (m : Int)]).run P w)
    { room := fun base sLen sCap w' hcs hroom hst hbase => by
        subst hcs
        exact appendZ_room (news := (Builtin.zeroCells z.cells m).toList) ht hi hz' hu hm hb Array.toArray_toList (by omega) hroom (by rw [his]; exact hst) hbase
      grow := fun base sLen sCap olds hcs hroom hlim hlim2 hold => by
        subst hcs
        rw [<- his] at hold
        refine ⟨_, _, appendZ_grow (news := (Builtin.zeroCells z.cells m).toList) ht hi hz' hu hm Array.toArray_toList (by omega) hold hroom hlim hlim2 hb, grown_ge w e, ?_⟩
        rw [zeroCells_size, hc, <- Nat.add_mul]
        congr 1
        have := grown_ge w (need := sLen + m) (old := sCap) e
        omega }
  exact .val h1 h2 h3 h4
end
end Go.Ab
namespace Go.Ab
open Go Go.RowKit
set_option linter.unusedVariables false
set_option linter.unusedSimpArgs false
section
variable {P : Program} {B : Nat} {β : Lies} {H : Heap} {w : World}
theorem copy_run {t u e ty : TypeId} {base : Option Addr} {len cap m sz : Nat} {x : Value} {vs : List Value} {w' : World} (ht : P.underlying t = some (.slice e)) (hS : (sizeOf e).run P w = .ok sz w)
    (hn : (Builtin.lenOf x).run P w = .ok m w) (hf : (Builtin.firstCells sz (min m len) x).run P w = .ok (vs.take (min m len * sz)).toArray w)
    (hst : ∀ a, base = some a -> (storeCells a (vs.take (min m len * sz))).run P w = .ok () w') (hbase : base = none -> w' = w) :
    (Builtin.copy_ #[t, u] ty #[.slice base len cap, x]).run P w = .ok (.int .i64 ((min m len : Nat) : Int)) w' := by
  have hmin : Nat.min m len = min m len := rfl
  cases base with
  | none =>
    have := hbase rfl
    subst this
    simp [Builtin.copy_, run_und ht, hn, hS, hmin, hf, goInt]
  | some a =>
    have h1 := hst a rfl
    simp [Builtin.copy_, run_und ht, hn, hS, hmin, hf, goInt, h1]
theorem mem_copy (s : Sim B β H w) {t u e ty : TypeId} {l : Option Nat} {x y : AV} {c d : Value} {m k : Nat} {news : List AV} {H' : Heap}
    (ht : P.underlying t = some (.slice e)) (hl : layOf P e = some l) (hx : RepH β H w x c) (hy : RepH β H w y d) (hn : cellsA H (laySize l) y = some (m, news)) (ha : copyA H (laySize l) x m news = some (k, H')) :
    MemOk P B β H w (do pure (Next.value (<- Builtin.copy_ #[t, u] ty #[c, d]))) (.v (.int .i64 (k : Int))) H' := by
  have hS := layOf_size hl w
  obtain ⟨p, cap, rfl, vs, hv1, hv2, hv3, hv4⟩ := cells_sound (P := P) s hn hy
  obtain ⟨base, len, cap', w', rfl, rfl, h1, h2, h3, h4⟩ := copyA_sound (P := P) s ha hx hv1 hv2 hv3
  exact .val (copy_run ht hS rfl (hv4 _ (Nat.min_le_left _ _) w rfl) h1 h2) (.v _) h3 h4
theorem mem_copyStr (s : Sim B β H w) {t u e ty : TypeId} {x : AV} {c : Value} {b : ByteArray} {k : Nat} {H' : Heap}
    (ht : P.underlying t = some (.slice e)) (hl : layOf P e = some none) (hx : RepH β H w x c) (ha : copyA H 1 x b.size (byteCells b) = some (k, H')) :
    MemOk P B β H w (do pure (Next.value (<- Builtin.copy_ #[t, u] ty #[c, .string b]))) (.v (.int .i64 (k : Int))) H' := by
  have hS := layOf_size hl w
  obtain ⟨h0, vs, hvs, hv1, hv3⟩ := byteCells_whole (β' := β) (n := H.length) (R := RO β H w) b
  obtain ⟨base, len, cap', w', rfl, rfl, h1, h2, h3, h4⟩ := copyA_sound (P := P) s ha hx (by omega) (by omega) hv3
  refine .val (copy_run (vs := vs) ht hS rfl ?_ h1 h2) (.v _) h3 h4
  have := firstCells_str (P := P) b (min b.size len) (Nat.min_le_left _ _) w
  rw [<- hvs] at this
  exact this
theorem mem_b2s (s : Sim B β H w) {src dst e : TypeId} {x : AV} {c : Value} {m : Nat} {cs : List AV} {bs : List UInt8} (hs : P.underlying src = some (.slice e)) (hd : P.underlying dst = some .string) (he : P.underlying e = some (.int .u8))
    (hx : RepH β H w x c) (hc : cellsA H 1 x = some (m, cs)) (hb : bytesOfA cs = some bs) :
    MemOk P B β H w (do pure (Next.value (<- convert src dst c))) (.v (.string ⟨bs.toArray⟩)) H := by
  obtain ⟨p, cap, rfl, vs, hv1, hv2, hv3, hv4⟩ := cells_sound (P := P) s hc hx
  obtain ⟨hlen, hget⟩ := bytesOfA_sound (β := β) (H := H) (w := w) hb
  obtain ⟨ns, hns, hbs⟩ := hget vs (by omega) hv3
  have hrun : (convert src dst (.slice p m cap)).run P w = .ok (.string ⟨bs.toArray⟩) w := by
    rw [run_convert_bytes_string w src dst e p m cap hs he hd]
    have hf := hv4 m (Nat.le_refl _) w rfl
    rw [List.take_of_length_le (by omega)] at hf
    cases p with
    | none =>
      have : vs = [] := by
        simp only [Builtin.firstCells, Sem.run_pure, Result.ok.injEq, and_true] at hf
        simpa using hf.symm
      subst this
      have : ns = [] := by simpa using hns
      subst this
      simp only [List.map_nil] at hbs
      subst hbs
      rfl
    | some a =>
      simp only [Builtin.firstCells, Nat.mul_one] at hf
      rw [hns] at hf
      rw [run_bytesToString w a m cap ns hf]
      congr 2
      rw [<- hbs]
      have : ∀ (l : List Int) (r : ByteArray), l.foldl (fun r n => r.push (UInt8.ofNat n.toNat)) r = ⟨r.data ++ (l.map (fun n => UInt8.ofNat n.toNat)).toArray⟩ := by
        intro l
        induction l with
        | nil => intro r; simp
        | cons n l ih => intro r; simp only [List.foldl_cons, List.map_cons]; rw [ih]; simp [ByteArray.push]
      rw [this]
      have he0 : ByteArray.empty.data = #[] := rfl
      rw [he0]; simp
  exact .val hrun (.v _) s (Tr.refl _ _ _ _)
theorem mem_s2b (s : Sim B β H w) {src dst e : TypeId} {b : ByteArray} (hs : P.underlying src = some .string) (hd : P.underlying dst = some (.slice e)) (he : P.underlying e = some (.int .u8)) :
    MemOk P B β H w (do pure (Next.value (<- convert src dst (.string b)))) (.lst 1 (byteCells b)) (H ++ [.dead]) := by
  have hrun := run_bytes_of_string (P := P) w src dst e b hs hd he
  have hge : b.size <= grownCap w b.size 0 e := grown_ge w e
  have hsz : (bytesRow b (grownCap w b.size 0 e)).size = grownCap w b.size 0 e := by
    simp only [bytesRow, Array.size_append, Array.size_map, Array.size_replicate]
    show b.size + _ = _
    omega
  obtain ⟨sd, td⟩ := drew_tr s
  obtain ⟨s1, t1⟩ := sd.widen (w' := w.drew.alloc (.cells (bytesRow b (grownCap w b.size 0 e)) e ((bytesRow b (grownCap w b.size 0 e)).size, (bytesRow b (grownCap w b.size 0 e)).size + 1))) ((Below.refl _ _).alloc (Nat.le_refl _) _)
  obtain ⟨s2, t2⟩ := s1.dead
  refine .val hrun ?_ s2 ((td.trans t1).trans t2)
  have hlen : (byteCells b).length = b.size := by unfold byteCells; rw [List.length_map, Array.length_toList]; rfl
  have hone : ∀ (i : Nat) (x : AV), (byteCells b)[i]? = some x -> ∃ y, b.data[i]? = some y ∧ x = .v (.int .u8 (y.toNat : Int)) := by
    intro i x hx
    simp only [byteCells, List.getElem?_map, Option.map_eq_some_iff, Array.getElem?_toList] at hx
    obtain ⟨y, hy, rfl⟩ := hx
    exact ⟨y, hy, rfl⟩
  have hcv : ∀ k, k < b.size -> (bytesRow b (grownCap w b.size 0 e))[k]? = some ((bytesRow b (grownCap w b.size 0 e)).getD k undef) := by
    intro k hk
    rw [Array.getD_eq_getD_getElem?]
    have : k < (bytesRow b (grownCap w b.size 0 e)).size := by omega
    simp [this]
  have := Rep.lst (β := β) (n := (H ++ [AObj.dead]).length) (R := RO β (H ++ [.dead]) (w.drew.alloc (.cells (bytesRow b (grownCap w b.size 0 e)) e ((bytesRow b (grownCap w b.size 0 e)).size, (bytesRow b (grownCap w b.size 0 e)).size + 1))))
    (sz := 1) (b := w.drew.heap.size) (off := 0) (cap := grownCap w b.size 0 e) (xs := byteCells b) (fun k => (bytesRow b (grownCap w b.size 0 e)).getD k undef) (by omega) (fun k hk => by
      rw [Nat.mul_one, hlen] at hk
      refine ⟨⟨?_, fun hd => ?_⟩, ?_⟩
      · rw [Nat.zero_add, World.cell?_alloc_mark]; exact hcv k hk
      · have h1 := sd.size.dlt _ _ hd; omega
      · rintro ⟨o, cs, ho, hb, _⟩
        rcases get_push ho with ⟨_, ho'⟩ | ⟨_, he⟩
        · have := sd.blk_lt ho'; omega
        · cases he) (fun i x hx => by obtain ⟨y, _, rfl⟩ := hone i x hx; rfl) (fun i x j a hx ha => by
      obtain ⟨y, hy, rfl⟩ := hone i x hx
      have hj : j = 0 := by
        cases j with
        | zero => rfl
        | succ j => simp [AV.cells] at ha
      subst hj
      simp [AV.cells] at ha
      subst ha
      have hi : i < b.data.size := by
        rcases Nat.lt_or_ge i b.data.size with h | h
        · exact h
        · simp [Array.getElem?_eq_none h] at hy
      have h1 := hcv i hi
      rw [bytesRow_at b _ i hi] at h1
      have : (bytesRow b (grownCap w b.size 0 e)).getD (i * 1 + 0) undef = .int .u8 (y.toNat : Int) := by
        rw [Nat.mul_one, Nat.add_zero]
        rw [Array.getElem?_eq_getElem hi] at hy
        cases hy
        exact (Option.some.inj h1).symm
      rw [this]
      exact .v _)
  rw [hlen] at this
  exact this
theorem mem_sound0 {o : Oper} {m : MOp} (htr : trM0 P o = some m) (s : Sim B β H w) {ρ : Nat -> AV} {a : Act} (hρ : ∀ t, RepH β H w (ρ t) (a.tmps.getD t undef)) {r : AV} {H' : Heap} (hp : m.run ρ H = some (r, H')) :
    MemOk P B β H w (execOp a.eval o) r H' := by
  obtain ⟨dst, op, type, pos, after, guard⟩ := o
  have call : ∀ (ts : Array TypeId) (xs : Array Operand) (b : Builtin) (S : Sem Value), (∀ cs, Go.builtin b ts type cs (xs.map a.eval) = (do pure (Next.value (<- S)))) -> MemOk P B β H w (do pure (Next.value (<- S))) r H' ->
      MemOk P B β H w (execOp a.eval { dst, op := .call { callee := .builtin b, args := xs, argTypes := ts }, type, pos, after, guard }) r H' := by
    intro ts xs b S h1 h2
    have : (execOp a.eval { dst, op := .call { callee := .builtin b, args := xs, argTypes := ts }, type, pos, after, guard }).run P w = (do pure (Next.value (<- S)) : Sem Next).run P w := by
      simp only [execOp, resolve, Sem.run_bind, Sem.run_pure, Result.andThen_ok, invoke, h1]
    unfold MemOk at h2 ⊢
    rw [this]; exact h2
  unfold trM0 at htr
  simp only at htr
  split at htr
  -- load
  · rename_i t x
    split at htr
    · rename_i l hl
      cases htr
      simp only [MOp.run, Option.map_eq_some_iff] at hp
      obtain ⟨v, hv, he⟩ := hp
      cases he
      obtain ⟨d, h1, h2⟩ := read_sound (P := P) s hl hv (trX_rep hρ x)
      exact .val h1 h2 s (Tr.refl _ _ _ _)
    · cases htr
  -- alloc
  · rename_i t
    split at htr
    · rename_i zs hz
      cases htr
      simp only [MOp.run, Option.some.injEq, Prod.mk.injEq] at hp
      obtain ⟨rfl, rfl⟩ := hp
      obtain ⟨i, z, hi, hz', rfl⟩ := zeroA_some hz
      obtain ⟨s', t'⟩ := s.alloc z.cells t (z.cells.toList.map .v) (by simp) (fun j a ha => by
        simp only [List.getElem?_map, Option.map_eq_some_iff] at ha
        obtain ⟨c, hc, rfl⟩ := ha
        exact ⟨c, by simpa using hc, .v _⟩) rfl
      exact .val (S := Instr.alloc t true (.tuple #[])) (by simp [Instr.alloc, info_und hi hz' w, newVar, newRow]) (rep_new s s') s' t'
    · cases htr
  -- box
  · rename_i t x
    cases htr
    simp only [MOp.run] at hp
    split at hp
    · rename_i cs hcs
      simp only [Option.some.injEq, Prod.mk.injEq] at hp
      obtain ⟨rfl, rfl⟩ := hp
      obtain ⟨h1, h2⟩ := rep_flat (trX_rep hρ x) hcs
      obtain ⟨s', t'⟩ := s.alloc (a.eval x).cells t cs (by omega) (fun j b hb => by
        have := getElem?_lt hb
        exact ⟨(a.eval x).cells[j]'(by omega), by simp, h2 j b _ hb (by simp)⟩) rfl
      exact .val (S := Instr.box t (a.eval x)) (by simp [Instr.box, newVar, newRow]) (rep_new s s') s' t'
    · cases hp
  -- buildSlice
  · rename_i t len parts
    split at htr
    · rename_i e hu
      split at htr
      · rename_i l zs hl hz
        split at htr
        · rename_i hc
          cases htr
          simp only [MOp.run] at hp
          split at hp
          · rename_i cs hcs
            simp only [Option.some.injEq, Prod.mk.injEq] at hp
            obtain ⟨rfl, rfl⟩ := hp
            exact mem_buildSlice s hρ hu hl hz hc.1 hc.2 hcs
          · cases hp
        · cases htr
      · cases htr
    · cases htr
  -- makeSlice
  · rename_i t len cap
    split at htr
    · rename_i e hu
      split at htr
      · rename_i l zs i hl hz hi
        split at htr
        · rename_i hc
          cases htr
          simp only [MOp.run] at hp
          split at hp
          · rename_i k n k' c hn hcap
            split at hp
            · rename_i hb
              simp only [Option.some.injEq, Prod.mk.injEq] at hp
              obtain ⟨rfl, rfl⟩ := hp
              have hln := rep_v (by have := trX_rep hρ len; rw [hn] at this; exact this)
              have hcp := rep_v (by have := trX_rep hρ cap; rw [hcap] at this; exact this)
              have := mem_makeSlice (P := P) s (k := k) (k' := k') hu hl hz hi hc.1 hc.2 hb.1 hb.2.1 hb.2.2
              rw [<- hln, <- hcp] at this
              exact this
            · cases hp
          · cases hp
        · cases htr
      · cases htr
    · cases htr
  -- store
  · rename_i t x y
    split at htr
    · rename_i l hl
      cases htr
      simp only [MOp.run, Option.map_eq_some_iff] at hp
      obtain ⟨H1, hH, he⟩ := hp
      cases he
      obtain ⟨w', h1, h2, h3⟩ := store_sound (P := P) s hl hH (trX_rep hρ x) (trX_rep hρ y)
      exact ⟨.skip, w', β, undef, by simp [execOp, h1], .inr ⟨rfl, rfl⟩, .v _, h2, h3⟩
    · cases htr
  -- convert
  · rename_i src dstT x
    split at htr
    · rename_i e hs hd
      split at htr
      · rename_i he
        cases htr
        simp only [MOp.run] at hp
        split at hp
        · rename_i m cs hc
          rw [Option.map_eq_some_iff] at hp
          obtain ⟨bs, hb, heq⟩ := hp
          cases heq
          exact mem_b2s s hs hd he (trX_rep hρ x) hc hb
        · cases hp
      · cases htr
    · rename_i e hs hd
      split at htr
      · rename_i he
        cases htr
        simp only [MOp.run] at hp
        split at hp
        · rename_i b hb
          cases hp
          have hv := rep_v (by have := trX_rep hρ x; rw [hb] at this; exact this)
          have := mem_s2b (P := P) s (b := b) hs hd he
          rw [<- hv] at this
          exact this
        · cases hp
      · cases htr
    · cases htr
  -- append
  · rename_i args argTypes
    split at htr
    · rename_i x y t u hargs htys
      have ha : args = #[x, y] := by apply Array.ext'; simpa using hargs
      have hT : argTypes = #[t, u] := by apply Array.ext'; simpa using htys
      subst ha; subst hT
      refine call _ _ _ (Builtin.append_ #[t, u] type #[a.eval x, a.eval y]) (fun cs => by simp [builtin]) ?_
      split at htr
      · rename_i e f ht hu
        split at htr
        · rename_i l zs i hl hz hi
          split at htr
          · rename_i hc
            cases htr
            simp only [MOp.run] at hp
            split at hp
            · rename_i m news hn
              exact mem_append s ht hu hl hz hi hc.1 hc.2.1 hc.2.2 (trX_rep hρ x) (trX_rep hρ y) hn hp
            · cases hp
          · cases htr
        · cases htr
      · rename_i e ht hu
        split at htr
        · rename_i zs i hz hi
          split at htr
          · rename_i hc
            cases htr
            simp only [MOp.run] at hp
            split at hp
            · rename_i b hb
              have hv := rep_v (by have := trX_rep hρ y; rw [hb] at this; exact this)
              rw [hv]
              exact mem_appendStr s ht hu hz hi hc.1 hc.2.1 hc.2.2 (trX_rep hρ x) hp
            · cases hp
          · cases htr
        · cases htr
      · rename_i e k ht hu
        split at htr
        · rename_i l zs i hl hz hi
          split at htr
          · rename_i hc
            cases htr
            simp only [MOp.run] at hp
            split at hp
            · rename_i k' q hq
              split at hp
              · rename_i hb
                have hv := rep_v (by have := trX_rep hρ y; rw [hq] at this; exact this)
                rw [hv]
                exact mem_appendZ s ht hu hl hz hi hc.1 hc.2.1 hc.2.2 (trX_rep hρ x) hb.1 hb.2 hp
              · cases hp
            · cases hp
          · cases htr
        · cases htr
      · cases htr
    · cases htr
  -- copy
  · rename_i args argTypes
    split at htr
    · rename_i x y t u hargs htys
      have ha : args = #[x, y] := by apply Array.ext'; simpa using hargs
      have hT : argTypes = #[t, u] := by apply Array.ext'; simpa using htys
      subst ha; subst hT
      refine call _ _ _ (Builtin.copy_ #[t, u] type #[a.eval x, a.eval y]) (fun cs => by simp [builtin]) ?_
      split at htr
      · rename_i e f ht hu
        split at htr
        · rename_i l hl
          split at htr
          · rename_i hc
            cases htr
            simp only [MOp.run] at hp
            split at hp
            · rename_i m news hn
              rw [Option.map_eq_some_iff] at hp
              obtain ⟨⟨k, H1⟩, hk, he⟩ := hp
              cases he
              exact mem_copy s ht hl (trX_rep hρ x) (trX_rep hρ y) hn hk
            · cases hp
          · cases htr
        · cases htr
      · rename_i e ht hu
        split at htr
        · rename_i he hl
          cases htr
          simp only [MOp.run] at hp
          split at hp
          · rename_i b hb
            rw [Option.map_eq_some_iff] at hp
            obtain ⟨⟨k, H1⟩, hk, heq⟩ := hp
            cases heq
            have hv := rep_v (by have := trX_rep hρ y; rw [hb] at this; exact this)
            rw [hv]
            exact mem_copyStr s ht hl (trX_rep hρ x) hk
          · cases hp
        · cases htr
      · cases htr
    · cases htr
  · cases htr
end
end Go.Ab

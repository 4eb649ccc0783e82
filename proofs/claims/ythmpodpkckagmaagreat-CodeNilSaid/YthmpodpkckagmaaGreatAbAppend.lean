/- A part of the proof of CodeNil: AbAppend. -/
import Derived.Test.YthmpodpkckagmaaGreatAbMSound
set_option linter.constructorNameAsVariable false
namespace Go.Ab
open Go Go.RowKit
set_option linter.unusedVariables false
set_option linter.unusedSimpArgs false

section
variable {P : Program} {B : Nat} {β : Nat → Em} {H : Heap} {w : World}

theorem setsA_get : ∀ (vs cs : List AV) (off : Nat), off + vs.length ≤ cs.length → ∀ j, (setsA cs off vs)[j]? = if off ≤ j ∧ j < off + vs.length then vs[j - off]? else cs[j]? := by
  intro vs
  induction vs with
  | nil => intro cs off h j; simp [setsA]; omega
  | cons v vs ih =>
    intro cs off h j
    simp only [List.length_cons] at h ⊢
    simp only [setsA]
    rw [ih _ _ (by simp; omega)]
    by_cases h1 : off + 1 ≤ j ∧ j < off + 1 + vs.length
    · rw [if_pos h1, if_pos (by omega)]
      rw [show j - off = (j - (off + 1)) + 1 by omega, List.getElem?_cons_succ]
    · rw [if_neg h1]
      by_cases h2 : j = off
      · subst h2
        rw [if_pos (by omega), List.getElem?_set_self (by omega)]; simp
      · rw [if_neg (by omega), List.getElem?_set_ne (fun h => h2 h.symm)]

/-- What an append does, as one that grows or one that does not. -/
structure AppendRun (P : Program) (w : World) (sz bytes m : Nat) (vs : List Value) (c : Value) (e : TypeId) (R : Result Value) : Prop where
  room : ∀ base sLen sCap w', c = .slice base sLen sCap → sLen + m ≤ sCap → (∀ a, base = some a → (storeCells (a.add (sLen * sz)) vs).run P w = .ok () w') → (base = none → w' = w) → R = .ok (.slice base (sLen + m) sCap) w'
  grow : ∀ base sLen sCap olds, c = .slice base sLen sCap → sCap < sLen + m → (sLen + m) * bytes ≤ LIM → sLen + m ≤ LIM → (Builtin.firstCells sz sLen c).run P w.drew = .ok (List.toArray olds) w.drew →
    ∃ cap zs, R = .ok (.slice (some ⟨w.heap.size, 0, none⟩) (sLen + m) cap) (w.drew.alloc (.cells (olds.toArray ++ vs.toArray ++ zs) e)) ∧ sLen + m ≤ cap ∧ (sLen + m) * sz + Array.size zs = cap * sz

/-- An object lies at the head of a block of a type. -/
def NewTag (n : Nat) (β : Nat → Em) (w : World) (e : TypeId) : Prop := (β n).off = 0 ∧ ∃ k, w.shape? (β n).blk = some (e, k)

/-- A new object that an append makes is of the slice's type. -/
def AppTag (β : Nat → Em) (H : Heap) (w : World) (e : TypeId) (x : AV) (β' : Nat → Em) (H' : Heap) (w' : World) : Prop :=
  (∀ sz o off len cap, x = .sl sz o off len cap → off = 0 ∧ ∃ p : Nat, H[p]? = some (AObj.tag o e)) → H.length < H'.length → NewTag H.length β' w' e

theorem AppTag.same {β β' : Nat → Em} {H H' : Heap} {w w' : World} {e : TypeId} {x : AV} (h : H'.length = H.length) : AppTag β H w e x β' H' w' := fun _ hl => absurd hl (by omega)

theorem shape_alloc_new {w : World} {arr : Array Value} {e : TypeId} {fz : Nat × Nat} : (w.alloc (.cells arr e fz)).shape? w.heap.size = some (e, arr.size) := by
  unfold World.shape?
  have : (w.alloc (.cells arr e fz)).heap[w.heap.size]? = some (.cells arr e fz) := by unfold World.alloc; simp
  rw [this]

theorem appendA_sound (s : Sim B β H w) {sz bytes : Nat} (hsz : 0 < sz) {x r : AV} {m : Nat} {news : List AV} {H' : Heap} (h : appendA H sz bytes x m news = some (r, H')) {c : Value} (hx : RepH β H w x c)
    {vs : List Value} (hv : vs.length = m * sz) (hnw : news.length = m * sz) (hrep : ∀ (j : Nat) (a : AV) (c : Value), news[j]? = some a → vs[j]? = some c → RepH β H w a c)
    {e : TypeId} {R : Result Value} (run : AppendRun P w sz bytes m vs c e R) :
    ∃ d w' β', R = .ok d w' ∧ RepH β' H' w' r d ∧ Sim B β' H' w' ∧ Tr B β H w β' H' w' ∧ AppTag β H w e x β' H' w' := by
  obtain ⟨sd, td⟩ := drew_tr s
  have vs0 : m = 0 → vs = [] := fun h0 => List.length_eq_zero_iff.1 (by rw [hv, h0, Nat.zero_mul])
  -- nothing is appended
  have none0 : m = 0 → ∀ p len cap, c = .slice p len cap → len ≤ cap → R = .ok c w := by
    intro h0 p len cap hc hle
    have := run.room p len cap w hc (by omega) (fun a _ => by rw [vs0 h0]; rfl) (fun _ => rfl)
    rw [this, hc, h0, Nat.add_zero]
  -- a new block
  have fresh : ∀ (base : Option Addr) (len cap : Nat) (olds : List Value) (as : List AV) (H₁ : Heap), c = .slice base len cap → cap < len + m → (len + m) * bytes ≤ LIM → len + m ≤ LIM →
      (Builtin.firstCells sz len c).run P w.drew = .ok olds.toArray w.drew → olds.length = len * sz → as.length = len * sz → (∀ (j : Nat) (a : AV) (c : Value), as[j]? = some a → olds[j]? = some c → RepH β H w a c) →
      H₁.length = H.length → Sim B β H₁ w.drew → Tr B β H w β H₁ w.drew →
      ∃ d w' β', R = .ok d w' ∧ RepH β' (H₁ ++ [.cells (as ++ news)]) w' (.sl sz H.length 0 (len + m) none) d ∧ Sim B β' (H₁ ++ [.cells (as ++ news)]) w' ∧ Tr B β H w β' (H₁ ++ [.cells (as ++ news)]) w' ∧ AppTag β H w e x β' (H₁ ++ [.cells (as ++ news)]) w' := by
    intro base len cap olds as H₁ hc hlt h1 h2 hf ho ha hr hl1 s1 t1
    obtain ⟨ncap, zs, hR, hcap, hzs⟩ := run.grow base len cap olds hc hlt h1 h2 hf
    have hmul : (len + m) * sz = len * sz + m * sz := Nat.add_mul _ _ _
    have harr : (olds.toArray ++ vs.toArray ++ zs).size = ncap * sz := by simp; omega
    obtain ⟨s2, t2⟩ := s1.alloc (w' := w.drew.alloc (.cells (olds.toArray ++ vs.toArray ++ zs) e)) (olds.toArray ++ vs.toArray ++ zs) e (as ++ news) (by simp; omega) (fun j a hj => by
      rcases Nat.lt_or_ge j as.length with hlt' | hge
      · rw [List.getElem?_append_left hlt'] at hj
        have hlo : j < olds.length := by omega
        refine ⟨olds[j], by rw [Array.getElem?_append_left (by simp; omega), Array.getElem?_append_left (by simp; omega)]; simp [hlo], t1.rep (hr j a _ hj (by simp [hlo]))⟩
      · rw [List.getElem?_append_right hge] at hj
        have hlt2 := getElem?_lt hj
        have hlo : j - as.length < vs.length := by omega
        refine ⟨vs[j - as.length], ?_, t1.rep (hrep _ a _ hj (by simp [hlo]))⟩
        rw [Array.getElem?_append_left (by simp; omega), Array.getElem?_append_right (by simp; omega)]
        simp only [List.size_toArray, List.getElem?_toArray]
        rw [ho, ← ha]
        simp [hlo]) rfl
    refine ⟨_, _, _, hR, ?_, s2, t1.trans t2, fun _ _ => ⟨by rw [← hl1, Em.set_same], _, by rw [← hl1, Em.set_same]; exact shape_alloc_new⟩⟩
    have hb : Em.set β H₁.length ⟨w.drew.heap.size, 0, (olds.toArray ++ vs.toArray ++ zs).size⟩ H.length = ⟨w.heap.size, 0, ncap * sz⟩ := by
      rw [← hl1, Em.set_same, harr]; rfl
    have := Rep.sl (β := Em.set β H₁.length ⟨w.drew.heap.size, 0, (olds.toArray ++ vs.toArray ++ zs).size⟩) (n := (H₁ ++ [AObj.cells (as ++ news)]).length)
      (R := RO (Em.set β H₁.length ⟨w.drew.heap.size, 0, (olds.toArray ++ vs.toArray ++ zs).size⟩) (H₁ ++ [AObj.cells (as ++ news)]) (w.drew.alloc (.cells (olds.toArray ++ vs.toArray ++ zs) e)))
      (sz := sz) (o := H.length) (off := 0) (len := len + m) (cap' := ncap) (cap := none) (by simp; omega) hcap (fun c h => by cases h) (fun _ => by rw [hb]; simp)
    rw [hb] at this
    exact this
  unfold appendA at h
  split at h
  · have hc := rep_v hx
    split at h
    · rename_i h0
      cases h
      exact ⟨c, w, β, none0 h0 _ _ _ hc (Nat.le_refl _), hx, s, Tr.refl _ _ _ _, .same rfl⟩
    · rename_i h0
      split at h
      · rename_i hlim
        cases h
        have := fresh none 0 0 [] [] H hc (by omega) (by simpa using hlim.1) (by simpa using hlim.2) (by rw [hc]; simp [Builtin.firstCells]) (by simp) (by simp) (by simp) rfl sd td
        simpa using this
      · cases h
  · cases hx with
    | z0 a =>
      split at h
      · rename_i h0
        cases h
        exact ⟨_, w, β, none0 h0 _ _ _ rfl (Nat.le_refl _), .z0 a, s, Tr.refl _ _ _ _, .same rfl⟩
      · rename_i h0
        split at h
        · rename_i hlim
          cases h
          have := fresh a 0 0 [] [] H rfl (by omega) (by simpa using hlim.1) (by simpa using hlim.2) (by cases a <;> simp [Builtin.firstCells, loadCells, loadCellsFrom]) (by simp) (by simp) (by simp) rfl sd td
          simpa using this
        · cases h
  · rename_i s' xs
    split at h
    · rename_i hc
      cases h
      cases hx with
      | lstNil _ a cap => exact ⟨_, w, β, none0 hc.1 _ _ _ rfl (Nat.zero_le _), .lstNil _ _ _, s, Tr.refl _ _ _ _, .same rfl⟩
      | lst cv hcap hR hs hh => exact ⟨_, w, β, none0 hc.1 _ _ _ rfl hcap, .lst cv hcap hR hs hh, s, Tr.refl _ _ _ _, .same rfl⟩
    · cases h
  · rename_i s' o off len cap
    split at h
    · rename_i hs
      subst hs
      split at h
      · rename_i h0
        cases h
        cases hx with
        | slZero p ho hc => exact ⟨_, w, β, none0 h0 _ _ _ rfl (Nat.le_refl _), .slZero p ho hc, s, Tr.refl _ _ _ _, .same rfl⟩
        | sl ho hl hc hn => exact ⟨_, w, β, none0 h0 _ _ _ rfl hl, .sl ho hl hc hn, s, Tr.refl _ _ _ _, .same rfl⟩
      · rename_i h0
        split at h
        · rename_i cs hcs
          split at h
          · rename_i hone
            -- the slice's own cells
            have base := s.base o cs hcs
            have olds : ∀ (len' cap' : Nat), c = .slice (some ⟨(β o).blk, (β o).off + off, none⟩) len' cap' → off + len' * s' ≤ cs.length →
                ∃ vs : List Value, vs.length = len' * s' ∧ (Builtin.firstCells s' len' c).run P w.drew = .ok vs.toArray w.drew ∧ ∀ (j : Nat) (a : AV) (c : Value), ((cs.drop off).take (len' * s'))[j]? = some a → vs[j]? = some c → RepH β H w a c := by
              intro len' cap' hc hle
              obtain ⟨ws, h1, h2, h3⟩ := row_of (w := w) (β' := β) (n := H.length) (R := RO β H w) ((cs.drop off).take (len' * s')) (β o).blk ((β o).off + off) (fun j a ha => by
                have hlt := getElem?_lt ha; simp at hlt
                rw [List.getElem?_take_of_lt (by omega), List.getElem?_drop] at ha
                rw [Nat.add_assoc]; exact s.cell o cs _ a hcs ha)
              have hwl : ws.length = len' * s' := by rw [h1]; simp; omega
              refine ⟨ws, hwl, ?_, h3⟩
              have := loadCells_run (P := P) (w := w.drew) (b := (β o).blk) (o := (β o).off + off) (vs := ws) (fun j v hv => by simpa using h2 j v hv)
              rw [hc]
              simp only [Builtin.firstCells]
              rw [← hwl]; exact this
            have inPlace : ∀ (len' cap' : Nat), c = .slice (some ⟨(β o).blk, (β o).off + off, none⟩) len' cap' → len' + m ≤ cap' → off + (len' + m) * s' ≤ cs.length →
                ∃ w', R = .ok (.slice (some ⟨(β o).blk, (β o).off + off, none⟩) (len' + m) cap') w' ∧ Sim B β (H.set o (.cells (setsA cs (off + len' * s') news))) w' ∧ Tr B β H w β (H.set o (.cells (setsA cs (off + len' * s') news))) w' := by
              intro len' cap' hc hle hin
              rw [Nat.add_mul] at hin
              obtain ⟨w', k1, k2, k3⟩ := storeCells_sound (P := P) news vs 0 s hcs (off := off + len' * s') (by omega) (by omega) hone hrep
              refine ⟨w', run.room _ _ _ w' hc hle (fun a ha => ?_) (fun hn => by cases hn), by simpa using k2, by simpa using k3⟩
              cases ha
              rw [add_none, Nat.add_assoc]; exact k1
            split at h
            · rename_i hin
              cases cap with
              | some c0 =>
                -- the room is known
                simp only at h
                split at h
                · rename_i hroom
                  cases h
                  cases hx with
                  | slZero p ho hc =>
                    rcases hc with hc | hc
                    · cases hc.1
                    · cases hc; omega
                  | sl ho hl hc hn =>
                    have hcc := (hc c0 rfl)
                    obtain ⟨w', k1, k2, k3⟩ := inPlace _ _ rfl (by omega) hin
                    refine ⟨_, w', β, k1, ?_, k2, k3, .same (by simp)⟩
                    exact .sl (by simpa using ho) (by omega) hc hn
                · rename_i hroom
                  split at h
                  · rename_i hlim
                    cases h
                    cases hx with
                    | slZero p ho hc =>
                      rcases hc with hc | hc
                      · cases hc.1
                      · cases hc
                        have := fresh (some p) 0 0 [] [] H rfl (by omega) (by simpa using hlim.1) (by simpa using hlim.2.1) (by simp [Builtin.firstCells, loadCells, loadCellsFrom]) (by simp) (by simp) (by simp) rfl sd td
                        simpa using this
                    | sl ho hl hc hn =>
                      have hcc := (hc c0 rfl)
                      obtain ⟨ws, k1, k2, k3⟩ := olds _ _ rfl hlim.2.2
                      exact fresh _ _ _ ws _ H rfl (by omega) hlim.1 hlim.2.1 k2 k1 (by simp; omega) k3 rfl sd td
                  · cases h
              | none =>
                cases h
                cases hx with
                | slZero p ho hc =>
                  rcases hc with hc | hc
                  · have h1 : 1 * s' ≤ (0 + m) * s' := Nat.mul_le_mul_right _ (by omega)
                    omega
                  · cases hc
                | @sl _ _ _ _ cap' _ ho hl hc hn =>
                  have htot := hn rfl
                  have hle : len + m ≤ cap' := by
                    have h1 : off + (len + m) * s' ≤ off + cap' * s' := by omega
                    exact Nat.le_of_mul_le_mul_right (by omega) hsz
                  obtain ⟨w', k1, k2, k3⟩ := inPlace _ _ rfl hle hin
                  exact ⟨_, w', β, k1, .sl (by simpa using ho) hle hc hn, k2, k3, .same (by simp)⟩
            · -- the room is the machine's affair
              rename_i hin
              split at h
              · rename_i hlim
                cases h
                obtain ⟨s1, t1⟩ := sd.kill o
                have t1' := td.trans t1
                cases hx with
                | slZero p ho hc =>
                  have := fresh (some p) 0 0 [] [] (H.set o .dead) rfl (by omega) (by simpa using hlim.1) (by simpa using hlim.2.1) (by simp [Builtin.firstCells, loadCells, loadCellsFrom]) (by simp) (by simp) (by simp) (by simp) s1 t1'
                  simpa using this
                | @sl _ _ _ _ cap' _ ho hl hc hn =>
                  have htot : off + cap' * s' ≤ (β o).tot := by
                    cases cap with
                    | none => have := hn rfl; omega
                    | some c0 => obtain ⟨e1, e2⟩ := hc c0 rfl; rw [e1]; exact e2
                  obtain ⟨ws, k1, k2, k3⟩ := olds _ _ rfl hlim.2.2
                  rcases Nat.lt_or_ge cap' (len + m) with hlt | hge
                  · exact fresh _ _ _ ws _ (H.set o .dead) rfl hlt hlim.1 hlim.2.1 k2 k1 (by simp; omega) k3 (by simp) s1 t1'
                  · -- in place, behind the object's known cells
                    have hmul : (len + m) * s' = len * s' + m * s' := Nat.add_mul _ _ _
                    have hle : (len + m) * s' ≤ cap' * s' := Nat.mul_le_mul_right _ hge
                    obtain ⟨s2, t2⟩ := s.reveal hcs (off + (len + m) * s' - cs.length) (by omega)
                    have hrlen : (cs ++ List.replicate (off + (len + m) * s' - cs.length) AV.any).length = off + (len + m) * s' := by simp; omega
                    obtain ⟨w', q1, q2, q3⟩ := storeCells_sound (P := P) news vs 0 s2 (o := o) (off := off + len * s') (cs := cs ++ List.replicate (off + (len + m) * s' - cs.length) .any)
                      (by rw [List.getElem?_set_self (getElem?_lt hcs)]) (by rw [hrlen]; omega) (by omega) hone (fun j a c h1 h2 => t2.rep (hrep j a c h1 h2))
                    rw [List.set_set] at q2 q3
                    simp only [Nat.add_zero] at q2 q3
                    obtain ⟨s3, t3⟩ := q2.move (o := o) (cs := setsA (cs ++ List.replicate (off + (len + m) * s' - cs.length) .any) (off + len * s') news)
                      (by rw [List.getElem?_set_self (getElem?_lt hcs)]) off ((cs.drop off).take (len * s') ++ news) (fun j a hj => by
                        rw [setsA_get _ _ _ (by rw [hrlen]; omega)]
                        rcases Nat.lt_or_ge j (len * s') with hlt | hge'
                        · rw [if_neg (by omega)]
                          rw [List.getElem?_append_left (by simp; omega), List.getElem?_take_of_lt hlt, List.getElem?_drop] at hj
                          rw [List.getElem?_append_left (getElem?_lt hj)]; exact hj
                        · have hl2 : ((cs.drop off).take (len * s')).length = len * s' := by simp; omega
                          rw [List.getElem?_append_right (by omega), hl2] at hj
                          have := getElem?_lt hj
                          rw [if_pos (by omega)]
                          rw [← hj]; congr 1; omega) (cap' * s') (by simp; omega) (by omega)
                    rw [List.set_set, List.length_set] at s3 t3
                    refine ⟨_, w', _, run.room _ _ _ w' rfl hge (fun a ha => ?_) (fun hn => by cases hn), ?_, s3, (t2.trans q3).trans t3, fun ht _ => ?_⟩
                    · cases ha
                      rw [add_none, Nat.add_assoc]; exact q1
                    · have hb : Em.set β H.length ⟨(β o).blk, (β o).off + off, cap' * s'⟩ H.length = ⟨(β o).blk, (β o).off + off, cap' * s'⟩ := Em.set_same _ _ _
                      have := Rep.sl (β := Em.set β H.length ⟨(β o).blk, (β o).off + off, cap' * s'⟩) (n := (H.set o .dead ++ [AObj.cells ((cs.drop off).take (len * s') ++ news)]).length)
                        (R := RO (Em.set β H.length ⟨(β o).blk, (β o).off + off, cap' * s'⟩) (H.set o .dead ++ [AObj.cells ((cs.drop off).take (len * s') ++ news)]) w')
                        (sz := s') (o := H.length) (off := 0) (len := len + m) (cap' := cap') (cap := none) (by simp) hge (fun c h => by cases h) (fun _ => by rw [hb]; simp only; omega)
                      rw [hb] at this
                      exact this
                    · obtain ⟨h0', p, hp⟩ := ht _ _ _ _ _ rfl
                      subst h0'
                      have hpo : p ≠ o := fun e' => by rw [e', hcs] at hp; cases hp
                      have hplt := getElem?_lt hp
                      have holt := getElem?_lt hcs
                      obtain ⟨_, k2', n', k3'⟩ := s3.tag p o e (by
                        rw [List.getElem?_append_left (by simpa using hplt), List.getElem?_set_ne (fun h => hpo h.symm)]; exact hp)
                      rw [Em.set_lt _ _ holt] at k2' k3'
                      exact ⟨by rw [Em.set_same]; simpa using k2', n', by rw [Em.set_same]; exact k3'⟩
              · cases h
          · cases h
        · cases h
    · cases h
  · cases h

end
end Go.Ab

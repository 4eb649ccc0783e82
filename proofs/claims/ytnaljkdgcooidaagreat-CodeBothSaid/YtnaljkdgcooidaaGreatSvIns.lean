/- A part of a law's proof: SvIns. -/
import Derived.Test.YtnaljkdgcooidaaGreatAbIns
import Derived.Test.YtnaljkdgcooidaaGreatSvRun
set_option linter.constructorNameAsVariable false
/-
  slices.Insert as a known call that changes memory.
-/
namespace Go.Ab
open Go Go.RowKit
set_option linter.unusedVariables false
set_option linter.unusedSimpArgs false

variable {Θ : Nat → Type}

/-- What is behind an insertion of some elements. -/
def insR (S : SHeap Θ) (c bytes : Nat) (i : Int) (m q : Nat) (ys : List (Θ c)) : SV Θ → Cm (SV Θ × SHeap Θ)
  | .v (.slice none 0 0) => .chk ((i = 0 ∧ m = ys.length ∧ m ≠ 0) ∧ ys.length * bytes ≤ LIM ∧ ys.length ≤ LIM) (.ret (.sl c S.length 0 ys.length none, S ++ [.arr c ys]))
  | .z0 => .chk ((i = 0 ∧ m = ys.length ∧ m ≠ 0) ∧ ys.length * bytes ≤ LIM ∧ ys.length ≤ LIM) (.ret (.sl c S.length 0 ys.length none, S ++ [.arr c ys]))
  | .sl c' o 0 len _ => match Nat.beq c' c, Nat.beq o q with
    | true, false => match sNth S o with
      | some (.arr c'' zs) => match Nat.beq c' c'' with
        | true => match sCast c c'' zs with
          | some xs => .chk ((0 ≤ i ∧ i ≤ (len : Int) ∧ m = ys.length ∧ m ≠ 0) ∧ len = xs.length ∧ (len + ys.length) * bytes ≤ LIM ∧ len + ys.length ≤ LIM)
              (.ret (.sl c S.length 0 (xs.take i.toNat ++ (ys ++ xs.drop i.toNat)).length none, S.set o .dead ++ [.arr c (xs.take i.toNat ++ (ys ++ xs.drop i.toNat))]))
          | none => .no
        | false => .no
      | _ => .no
    | _, _ => .no
  | _ => .no

def insK (c bytes : Nat) : List (SV Θ) → SHeap Θ → Cm (SV Θ × SHeap Θ)
  | [x, .i .i64 i, .sl c' q 0 m _], S => match Nat.beq c' c with
    | true => match sNth S q with
      | some (.arr c'' zs) => match Nat.beq c' c'' with
        | true => match sCast c c'' zs with
          | some ys => insR S c bytes i m q ys x
          | none => .no
        | false => .no
      | _ => .no
    | false => .no
  | _, _ => .no

section
variable {C : Cod Θ} {P : Program}

theorem insK_ok (ok : CodOk C) {f n0 h rot c bytes : Nat} {zs : List AV} (hk : Knows P f ⟨n0, insCode (C.sz c) bytes h rot zs, [.tmp 6]⟩) (h0 : Nat.ble 3 n0 = true) (hsz : Nat.blt 0 (C.sz c) = true) (hz : zs.length = C.sz c) (hzo : zs.all AV.one = true) :
    EffOk P C f (insK c bytes) := by
  have h0 : 3 ≤ n0 := Nat.le_of_ble_eq_true h0
  have hsz : 0 < C.sz c := Nat.le_of_ble_eq_true hsz
  have hLIM : LIM < 9223372036854775808 := by decide
  intro args S Q hd A ι as H hr r
  unfold insK at hd
  split at hd
  rotate_left
  · exact hd.elim
  rename_i args' S' x i c' q m capq
  obtain ⟨hlen, hget⟩ := hr
  have has : ∃ a b d, as = [a, b, d] := by
    match as, hlen with
    | [a, b, d], _ => exact ⟨a, b, d, rfl⟩
  obtain ⟨a, b, d, rfl⟩ := has
  have ra := hget 0 x a rfl rfl
  have rb := hget 1 _ b rfl rfl
  have rd := hget 2 _ d rfl rfl
  cases rb
  split at hd
  rotate_left
  · exact hd.elim
  rename_i hc0
  have := nbeq_true hc0
  subst this
  split at hd
  rotate_left
  · exact hd.elim
  rename_i c'' ws hqs
  split at hd
  rotate_left
  · exact hd.elim
  rename_i hc1
  have := nbeq_true hc1
  subst this
  split at hd
  rotate_left
  · exact hd.elim
  rename_i ys hys
  obtain ⟨e, he⟩ := cast_some hys
  have he : ys = ws := he
  subst he
  have hqs' : S[q]? = some (.arr c' ys) := by rw [← nth_get]; exact hqs
  -- the elements that come in
  have vrow : m ≠ 0 → m = ys.length → ∃ p cap ext, ι[q]? = some (some p) ∧ d = .sl (C.sz c') p 0 m cap ∧ H[p]? = some (.cells (C.flat c' ys ++ ext)) := by
    intro hm0 hml
    cases rd with
    | slNil _ _ _ => exact absurd rfl hm0
    | @sl _ _ _ _ _ acap p ho hk' hc' =>
      obtain ⟨z, hz', hr'⟩ := r.get ho hqs (by simp)
      cases hr' with
      | arr _ _ ext => exact ⟨p, acap, ext, ho, by rw [Nat.zero_mul], hz'⟩
  have hfy := flat_length ok ys
  -- an empty slice
  have none0 : (a = nilSl ∨ a = .z0) → ((i = 0 ∧ m = ys.length ∧ m ≠ 0) ∧ ys.length * bytes ≤ LIM ∧ ys.length ≤ LIM) → Q (.sl c' S.length 0 ys.length none, S ++ [.arr c' ys]) →
      ∃ v S', Q (v, S') ∧ ACalls P f [a, .v (.int .i64 i), d] H fun r H' => ∃ L, RV C (ι ++ L) v r ∧ RH C A (ι ++ L) S' H' := by
    rintro ha ⟨⟨rfl, hml, hm0⟩, hl⟩ hQ
    obtain ⟨p, cap, ext, hp, rfl, hz'⟩ := vrow hm0 hml
    obtain ⟨L, b, H', k1, k2, k3⟩ := app_new ok r (news := ys) (bytes := bytes) hl ha
    refine ⟨_, _, hQ, ins_acalls (args := [a, .v (.int .i64 0), .sl (C.sz c') p 0 m cap]) hk h0 fun N => ?_⟩
    refine ins_end (n := 0) (m := m) (S := a) (S' := a) (r := b) (H' := H') (ds := C.flat c' ys) (by decide) ?_ ?_ rfl hm0 ?_ (by rw [hml]; exact k1) ⟨L, k2, k3⟩
    · rcases ha with rfl | rfl <;> rfl
    · rcases ha with rfl | rfl <;> rfl
    · simp only [cellsA, if_true]
      rw [if_neg hm0, hz']
      simp only
      rw [if_pos (by rw [List.length_append, hfy, hml]; omega), List.drop_zero, flat_take ok _ _ (by omega), hml, List.take_length]
  unfold insR at hd
  split at hd
  · obtain ⟨h1, h2⟩ := hd
    cases ra
    exact none0 (.inl rfl) h1 h2
  · obtain ⟨h1, h2⟩ := hd
    cases ra
    exact none0 (.inr rfl) h1 h2
  · rename_i c2 o len cap
    split at hd
    rotate_left
    · exact hd.elim
    rename_i hc2 hoq
    have := nbeq_true hc2
    subst this
    have hoq : o ≠ q := nbeq_false hoq
    split at hd
    rotate_left
    · exact hd.elim
    rename_i c3 vs hos
    split at hd
    rotate_left
    · exact hd.elim
    rename_i hc3
    have := nbeq_true hc3
    subst this
    split at hd
    rotate_left
    · exact hd.elim
    rename_i xs hxs
    obtain ⟨e, he⟩ := cast_some hxs
    have he : xs = vs := he
    subst he
    obtain ⟨⟨⟨i0, i1, hml, hm0⟩, hl1, hl2, hl3⟩, hQ⟩ := hd
    have hQ : Q (.sl c2 S.length 0 (xs.take i.toNat ++ (ys ++ xs.drop i.toNat)).length none, S.set o .dead ++ [.arr c2 (xs.take i.toNat ++ (ys ++ xs.drop i.toNat))]) := hQ
    obtain ⟨k, rfl⟩ := Int.eq_ofNat_of_zero_le i0
    simp only [Int.toNat_natCast] at hQ
    have hkl : k ≤ len := by omega
    have hos' : S[o]? = some (.arr c2 xs) := by rw [← nth_get]; exact hos
    obtain ⟨pq, capd, extq, hpq, rfl, hzq⟩ := vrow hm0 hml
    have hcd : ∀ {H' : Heap} {z : List AV}, H'[pq]? = some (.cells (C.flat c2 ys ++ z)) → cellsA H' (C.sz c2) (.sl (C.sz c2) pq 0 m capd) = some (m, C.flat c2 ys) := by
      intro H' z hz'
      simp only [cellsA, if_true]
      rw [if_neg hm0, hz']
      simp only
      rw [if_pos (by rw [List.length_append, hfy, hml]; omega), List.drop_zero, flat_take ok _ _ (by omega), hml, List.take_length]
    by_cases hend : k = len
    · -- at the end
      have hlist : xs.take k ++ (ys ++ xs.drop k) = xs ++ ys := by rw [hend, hl1, List.take_length, List.drop_length, List.append_nil]
      rw [hlist] at hQ
      obtain ⟨v, S', L, b, H', k1, k2, k3, k4⟩ := app_typed ok r (bytes := bytes) hsz (news := ys) (x := .sl c2 o 0 len cap) ra (K := fun z => z = (.sl c2 S.length 0 (xs ++ ys).length none, S.set o .dead ++ [.arr c2 (xs ++ ys)])) (by
        unfold sApp
        simp only [hos, hxs]
        rw [show Nat.beq c2 c2 = true from Nat.beq_refl c2]
        exact ⟨⟨hl1, hl2, hl3⟩, rfl⟩)
      cases k4
      refine ⟨_, _, hQ, ins_acalls (args := [a, .v (.int .i64 (k : Int)), .sl (C.sz c2) pq 0 m capd]) hk h0 fun N => ?_⟩
      have hsl : ∃ S', sliceF (C.sz c2) a (some (iv len)) none none = some S' ∧ lenF false a = some len := by
        cases ra with
        | slNil _ _ ha => rcases ha with rfl | rfl <;> exact ⟨_, rfl, rfl⟩
        | sl _ _ _ => exact ⟨_, slice_from (Nat.le_refl _), rfl⟩
      obtain ⟨S'', e1, e2⟩ := hsl
      have := ins_end (P := P) (N := N) (bytes := bytes) (h := h) (rot := rot) (zs := zs) (Q := fun r H' => ∃ L, RV C (ι ++ L) (.sl c2 S.length 0 (xs ++ ys).length none) r ∧ RH C A (ι ++ L) (S.set o .dead ++ [.arr c2 (xs ++ ys)]) H')
        (n := len) (m := m) (V := .sl (C.sz c2) pq 0 m capd) (by omega) e1 e2 rfl hm0 (hcd hzq) (by rw [hml]; exact k1) ⟨L, k2, k3⟩
      rw [hend]
      exact this
    · -- within
      have hkl : k < len := by omega
      cases ra with
      | slNil _ _ _ => omega
      | @sl _ _ _ _ _ acap p ho hk' hc' =>
        obtain ⟨z, hz', hr'⟩ := r.get ho hos (by simp)
        cases hr' with
        | arr _ _ ext =>
          have hfx := flat_length ok xs
          have hpne : pq ≠ p := by
            intro e
            subst e
            rcases r.inj o q pq ho hpq with h' | h' | h'
            · exact hoq h'
            · rw [hos'] at h'; cases h'
            · rw [hqs'] at h'; cases h'
          refine ⟨_, _, hQ, ?_⟩
          rw [Nat.zero_mul]
          have key := ins_mid (P := P) hk h0 hsz hz hzo (o := p) (q := pq) (n := len) (m := m) (i := k) (acap := acap) (capq := capd) (H := H) (X := C.flat c2 xs ++ ext) (cs := C.flat c2 xs) (ds := C.flat c2 ys) (Z := C.flat c2 ys ++ extq) hkl hm0
            (by rw [hml]; exact hl2) (by rw [hml]; exact hl3) hz' (by rw [flat_take ok _ _ (by omega), hl1, List.take_length]) (by rw [List.length_append, hfx, hl1]; omega) (flat_one ok xs) hpne hzq
            (by rw [flat_take ok _ _ (by omega), hml, List.take_length]) (flat_one ok ys) (by rw [hfy, hml])
          refine key.mono ?_
          rintro rr H' ⟨rfl, rfl⟩
          have hins : insL (C.flat c2 xs) (C.flat c2 ys) (k * C.sz c2) = C.flat c2 (xs.take k ++ (ys ++ xs.drop k)) := by
            have e1 := flat_take ok xs k (by omega) []
            have e2 := flat_drop ok xs k (by omega) []
            rw [List.append_nil] at e1 e2
            unfold insL
            rw [e1, e2, List.append_nil, flat_append, flat_append]
          have hlen' : (xs.take k ++ (ys ++ xs.drop k)).length = len + m := by simp; omega
          refine ⟨[some H.length], ?_, ?_⟩
          · rw [hlen']
            have := RV.sl (C := C) (ι := ι ++ [some H.length]) (c := c2) (o := S.length) (off := 0) (len := len + m) (cap := none) (acap := none) (p := H.length) (by rw [← r.len]; simp) (fun k h => by cases h) (.inl rfl)
            rw [Nat.zero_mul] at this
            exact this
          · rw [hins]
            have kd2 := (r.kill o).drop ho (by rw [List.getElem?_set_self (getElem?_lt hos')]) (fun o' hne h' => by
              rw [List.getElem?_set_ne (Ne.symm hne)]
              rcases r.inj o' o p h' ho with h5 | h5 | h5
              · exact absurd h5 hne
              · exact h5
              · rw [hos'] at h5; cases h5) hz' .dead
            have hrobj : RObj C (ι ++ [some H.length]) (.arr c2 (xs.take k ++ (ys ++ xs.drop k))) (.cells (C.flat c2 (xs.take k ++ (ys ++ xs.drop k)))) := by
              have := RObj.arr (C := C) (ι := ι ++ [some H.length]) c2 (xs.take k ++ (ys ++ xs.drop k)) []
              rw [List.append_nil] at this
              exact this
            have := kd2.push (x := .arr c2 (xs.take k ++ (ys ++ xs.drop k))) (y := .cells (C.flat c2 (xs.take k ++ (ys ++ xs.drop k)))) (by simpa using hrobj)
            simpa using this
  · exact hd.elim

theorem KnownOk.addE {K : KnownF Θ} (ko : KnownOk P C K) {f : Nat} {frz : List Bool} {h : List (SV Θ) → SHeap Θ → Cm (SV Θ × SHeap Θ)} (e : EffOk P C f h) : KnownOk P C ((f, .eff frz h) :: K) := by
  refine ⟨fun k w hw => ?_, fun k b w hw => ?_⟩
  · simp only [knownGet] at hw
    split at hw
    · cases hw
    · exact ko.pure k w hw
  · simp only [effGet] at hw
    split at hw
    · rename_i hk
      cases hw
      rw [← nbeq_true hk]; exact e
    · exact ko.eff k b w hw

/-! ### slices.Grow of a nil slice: an empty row, with room -/

def growK (c bytes : Nat) : List (SV Θ) → SHeap Θ → Cm (SV Θ × SHeap Θ)
  | [.v (.slice none 0 0), .i .i64 n], S => .chk (0 ≤ n ∧ n * (bytes : Int) ≤ 140737488355328 ∧ n ≤ 140737488355328) (.ret (.sl c S.length 0 0 none, S ++ [.arr c []]))
  | _, _ => .no

theorem growK_ok (ok : CodOk C) {f n0 h ty c bytes : Nat} {str : ByteArray} {zs : List AV} (hk : Knows P f ⟨n0, growCode (C.sz c) bytes h ty str zs, [.tmp 4]⟩) (h0 : Nat.ble 2 n0 = true) :
    EffOk P C f (growK c bytes) := by
  have h0 : 2 ≤ n0 := Nat.le_of_ble_eq_true h0
  intro args S Q hd A ι as H hr r
  unfold growK at hd
  split at hd
  rotate_left
  · exact hd.elim
  rename_i args' S' n
  obtain ⟨⟨n1, n2, n3⟩, hQ⟩ := hd
  obtain ⟨k, rfl⟩ := Int.eq_ofNat_of_zero_le n1
  obtain ⟨hlen, hget⟩ := hr
  have has : ∃ a b, as = [a, b] := by
    match as, hlen with
    | [a, b], _ => exact ⟨a, b, rfl⟩
  obtain ⟨a, b, rfl⟩ := has
  have ra := hget 0 _ a rfl rfl
  have rb := hget 1 _ b rfl rfl
  cases ra
  cases rb
  have hLIM : LIM = 140737488355328 := rfl
  refine ⟨_, _, hQ, ins_acalls (args := [.v (.slice none 0 0), iv k]) hk h0 fun N => ?_⟩
  refine grow_nil (by rw [hLIM]; have := n2; exact Int.ofNat_le.1 (by simpa using this)) (by rw [hLIM]; omega) (fun _ => ⟨[none], ?_, r.pushNil c⟩) (fun _ => ⟨[some H.length], ?_, ?_⟩)
  · exact .slNil (by rw [← r.len]; simp) (.inl rfl) (.inl rfl)
  · have := RV.sl (C := C) (ι := ι ++ [some H.length]) (c := c) (o := S.length) (off := 0) (len := 0) (cap := none) (acap := none) (p := H.length) (by rw [← r.len]; simp) (fun k h => by cases h) (.inl rfl)
    rw [Nat.zero_mul] at this
    exact this
  · refine r.push ?_
    have := RObj.arr (C := C) (ι := ι ++ [some H.length]) c [] (repA k zs)
    simpa [Cod.flat] using this

end

end Go.Ab

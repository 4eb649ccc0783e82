/- A part of a law's proof: SvIns. -/
import Derived.Test.YtjkcjbkkgkhljaaAbIns
import Derived.Test.YtjkcjbkkgkhljaaSvRun
set_option linter.constructorNameAsVariable false
/-
  slices.Insert as a known call that changes memory.
-/
namespace Go.Ab
open Go Go.RowKit
set_option linter.unusedVariables false
set_option linter.unusedSimpArgs false
variable {Θ : Nat -> Type}
section
variable {C : Cod Θ} {P : Program}
theorem KnownOk.addE {K : KnownF Θ} (ko : KnownOk P C K) {f : Nat} {frz : List Bool} {h : List (SV Θ) -> SHeap Θ -> Cm (SV Θ × SHeap Θ)} (e : EffOk P C f h) : KnownOk P C ((f, .eff frz h) :: K) := by
  refine ⟨fun k w hw => ?_, fun k b w hw => ?_⟩
  · simp only [knownGet] at hw
    split at hw
    · cases hw
    · rename_i hk
      intro args Q h1 h2
      obtain ⟨v, k1, k2, k3, k4⟩ := ko.pure k w hw args Q h1 h2
      exact ⟨v, k1, k2, fun hx => k3 (by simpa [scalK, hk] using hx), k4⟩
  · simp only [effGet] at hw
    split at hw
    · rename_i hk
      cases hw
      rw [<- nbeq_true hk]; exact e
    · exact ko.eff k b w hw
def growK (c bytes : Nat) : List (SV Θ) -> SHeap Θ -> Cm (SV Θ × SHeap Θ)
  | [.v (.slice none 0 0), .i .i64 n], S => .chk (0 <= n ∧ n * (bytes : Int) <= 140737488355328 ∧ n <= 140737488355328) (.ret (.sl c S.length 0 0 none, S ++ [.arr c []]))
  | _, _ => .no
theorem growK_ok (ok : CodOk C) {f n0 h ty c bytes : Nat} {str : ByteArray} {zs : List AV} (hk : Knows P f ⟨n0, growCode (C.sz c) bytes h ty str zs, [.tmp 4]⟩) (h0 : Nat.ble 2 n0 = true) :
    EffOk P C f (growK c bytes) := by
  have h0 : 2 <= n0 := Nat.le_of_ble_eq_true h0
  intro args S Q hd A ι as H hr r
  unfold growK at hd
  split at hd
  rotate_left
  · exact hd.elim
  rename_i args' S' n
  obtain ⟨⟨n1, n2, n3⟩, hQ⟩ := hd
  obtain ⟨k, rfl⟩ := Int.eq_ofNat_of_zero_le n1
  obtain ⟨hlen, hget⟩ := hr
  have has : ∃ a b, as = [a, b] := by
    match as, hlen with
    | [a, b], _ => exact ⟨a, b, rfl⟩
  obtain ⟨a, b, rfl⟩ := has
  have ra := hget 0 _ a rfl rfl
  have rb := hget 1 _ b rfl rfl
  cases ra
  cases rb
  have hLIM : LIM = 140737488355328 := rfl
  refine ⟨_, _, hQ, ins_acalls (args := [.v (.slice none 0 0), iv k]) hk h0 fun N => ?_⟩
  refine grow_nil (by rw [hLIM]; have := n2; exact Int.ofNat_le.1 (by simpa using this)) (by rw [hLIM]; omega) (fun _ => ⟨[none], ?_, r.pushNil c⟩) (fun _ => ⟨[some H.length], ?_, ?_⟩)
  · exact .slNil (by rw [<- r.len]; simp) (.inl rfl) (.inl rfl)
  · have := RV.sl (C := C) (ι := ι ++ [some H.length]) (c := c) (o := S.length) (off := 0) (len := 0) (cap := none) (acap := none) (p := H.length) (by rw [<- r.len]; simp) (fun k h => by cases h) (.inl rfl)
    rw [Nat.zero_mul] at this
    exact this
  · refine r.push ?_
    have := RObj.arr (C := C) (ι := ι ++ [some H.length]) c [] (repA k zs)
    simpa [Cod.flat] using this
end
end Go.Ab

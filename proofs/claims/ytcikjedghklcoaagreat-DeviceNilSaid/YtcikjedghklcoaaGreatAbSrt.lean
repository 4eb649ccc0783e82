/- A part of a law's proof: AbSrt. -/
import Derived.Test.YtcikjedghklcoaaGreatAbFrzP
set_option linter.constructorNameAsVariable false
/-
  maps.Keys, and slices.Sorted of the keys of a map that has none.
-/
namespace Go.Ab
open Go Go.RowKit
set_option linter.unusedVariables false
set_option linter.unusedSimpArgs false
structure KeysAt (P : Program) (fk fi fs T : Nat) : Prop where
  okk : Callable P fk
  oks : Callable P fs
  keys : ∀ (mb : Option Nat) (W : World), Calls P fk #[.map mb] W fun e w' => e = .returned (.func (.func fi) #[] #[.pointer (some ⟨W.heap.size, 0, none⟩)]) ∧ w' = W.alloc (.cells #[.map mb] T)
  sorted : ∀ (Bm b clock : Nat) (W : World), Bm < W.heap.size -> W.cell? ⟨Bm, 0, none⟩ = some (.map (some b)) -> W.heap[b]? = some (.map #[] clock) ->
    Calls P fs #[.func (.func fi) #[] #[.pointer (some ⟨Bm, 0, none⟩)]] W fun e w' => e = .returned (.slice none 0 0) ∧ Below W.heap.size W w'
def srtPrim (fk fi fs T : Nat) : Called := fun f args H =>
  match Nat.beq f fk with
  | true => match args with
    | [.mp q] => some (.fn fi [.ptr H.length 0], H ++ [.cells [.mp q]] ++ [.tag H.length T])
    | _ => none
  | false => match Nat.beq f fs with
    | true => match args with
      | [.fn g [.ptr o off]] => match Nat.beq g fi && (Nat.beq off 0 && tagged H o T) with
        | true => match H[o]? with
          | some (.cells [.mp q]) => match H[q]? with
            | some (.map []) => some (.v (.slice none 0 0), H)
            | _ => none
          | _ => none
        | false => none
      | _ => none
    | false => none
theorem one_arg {args : List AV} {a : AV} {cs : Array Value} {R : AV -> Value -> Prop} (hl : args.length = cs.size) (h : ∀ (i : Nat) (a : AV) (c : Value), args[i]? = some a -> cs[i]? = some c -> R a c) (ha : args = [a]) : ∃ c, cs = #[c] ∧ R a c := by
  subst ha
  obtain ⟨l⟩ := cs
  match l, hl with
  | [c], _ => exact ⟨c, rfl, h 0 a c rfl rfl⟩
theorem srtPrim_says {P : Program} {fk fi fs T : Nat} (k : KeysAt P fk fi fs T) : Says P (srtPrim fk fi fs T) := by
  intro f args H r H' h
  unfold srtPrim at h
  split at h
  · rename_i hf
    have := nbeq_true hf
    subst this
    split at h
    · rename_i q
      cases h
      refine ⟨k.okk, fun B β w cs s hl hargs => ?_⟩
      obtain ⟨c, rfl, hc⟩ := one_arg hl hargs rfl
      cases hc with
      | mp ho =>
        refine Calls.mono (k.keys _ w) ?_
        rintro e w' ⟨rfl, rfl⟩
        obtain ⟨s1, t1⟩ := s.alloc #[.map (some (β q).blk)] T [.mp q] (by simp) (fun j a ha => by
          cases j with
          | zero => simp at ha; subst ha; exact ⟨_, rfl, .mp ho⟩
          | succ j => simp at ha) rfl
        obtain ⟨s2, t2⟩ := s1.addTag (o := H.length) (e := T) (by simp) ⟨by rw [Em.set_same], _, by rw [Em.set_same]; exact shape_alloc_new⟩
        refine ⟨_, _, _, _, rfl, ⟨rfl, rfl⟩, .fn rfl fun i a c h1 h2 => ?_, s2, t1.trans t2⟩
        cases i with
        | zero =>
          simp at h1 h2
          subst h1; subst h2
          exact t2.rep (rep_new s s1)
        | succ i => simp at h1
    · cases h
  · split at h
    · rename_i hf
      have := nbeq_true hf
      subst this
      split at h
      · rename_i g o off
        split at h
        · rename_i hb
          simp only [Bool.and_eq_true] at hb
          obtain ⟨hg, h0, htag⟩ := hb
          have := nbeq_true hg
          subst this
          have := nbeq_true h0
          subst this
          split at h
          · rename_i q ho
            split at h
            · rename_i hq
              cases h
              refine ⟨k.oks, fun B β w cs s hl hargs => ?_⟩
              obtain ⟨c, rfl, hc⟩ := one_arg hl hargs rfl
              obtain ⟨p, hp⟩ := tagged_get htag
              obtain ⟨_, q2, _⟩ := s.tag p o T hp
              have hblk := s.blk_lt ho
              obtain ⟨c0, h1, h2⟩ := s.cell o _ 0 (.mp q) ho rfl
              cases h2 with
              | mp hqo =>
                obtain ⟨_, ents, clock, h3, h4, _⟩ := s.map q [] hq
                have h5 : ents = #[] := by
                  have : ents.size = 0 := h4.symm
                  exact Array.eq_empty_of_size_eq_zero this
                subst h5
                cases hc with
                | @fn _ _ vs hl2 hr2 =>
                  have : ∃ v, vs = #[v] := by
                    obtain ⟨l⟩ := vs
                    match l, hl2 with
                    | [v], _ => exact ⟨v, rfl⟩
                  obtain ⟨v, rfl⟩ := this
                  have hv := hr2 0 _ v rfl rfl
                  cases hv with
                  | ptr hol =>
                    rw [q2, Nat.add_zero]
                    rw [q2, Nat.zero_add] at h1
                    refine Calls.mono (k.sorted _ _ clock w hblk h1 h3) ?_
                    rintro e w' ⟨rfl, hbel⟩
                    obtain ⟨s', tr'⟩ := s.widen hbel
                    exact ⟨_, _, β, H, rfl, ⟨rfl, rfl⟩, .v _, s', tr'⟩
            · cases h
          · cases h
        · cases h
      · cases h
    · cases h
end Go.Ab

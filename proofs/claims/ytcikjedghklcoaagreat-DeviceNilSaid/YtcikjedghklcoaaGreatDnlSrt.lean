/- A part of a law's proof: DnlSrt. -/
import Derived.Test.YtcikjedghklcoaaGreatAbSrt
import Derived.Test.YtcikjedghklcoaaGreatDnlShelf
set_option linter.unusedSimpArgs false
set_option linter.constructorNameAsVariable false
/-
  slices.Sorted(maps.Keys(..)) at this program: by the library's contracts.
-/
namespace Go.Proofs.Dnl
open Go Go.Ab Go.RowKit Go.Proofs Go.Shelf Go.Maps Go.Sort
set_option linter.unusedVariables false
set_option maxRecDepth 100000
theorem sortsA (m : Nat) : AnyZI.SortsIn Tryz.prog Tryz.sortedA_ren Fence.wide m :=
  ⟨fun blk off cap ss W hH hblk hsz => callsIn_wide.2 (AnyM.slices_Sort_int Tryz.sortA blk off cap ss W hH hblk hsz),
   fun p cap W => callsIn_wide.2 (AnyM.slices_Sort_int_none Tryz.sortA p cap W)⟩
theorem keysAt : KeysAt Tryz.prog 43 97 42 121 where
  okk := ⟨Tryz.f43, Tryz.func43, by kernel_rfl, by kernel_rfl⟩
  oks := ⟨Tryz.f42, Tryz.func42, by kernel_rfl, by kernel_rfl⟩
  keys mb W := (callsIn_wide (n := 5)).1 (AnyZI.keys_in Tryz.keysA Fence.wide 5 trivial rfl mb W)
  sorted Bm b clock W hB hc hb := by
    have hown : W.ownsMap (H := Nat) Tryz.prog 3 (fun _ => none) b 0 (.map []) := ⟨#[], clock, hb, ⟨by simp, Go.MapKept.stamped_empty clock, by simp⟩, Nat.le_refl _, rfl⟩
    have hseq : SeqGives Fence.wide 2 Tryz.prog 97 #[.pointer (some ⟨Bm, 0, none⟩)] encZ (fun ss => ss.Perm (intKeys (.map [] : DataW Nat))) (Maps.size (.map [] : DataW Nat)) W :=
      AnyZI.keys_gives (ρ := Tryz.keysA_ren) { Tryz.keysA with } Fence.wide _ trivial rfl (by omega) Bm b 0 _ W hB hc hown
    have cS := AnyZI.sorted_in Tryz.sortedA Fence.wide 5 trivial trivial trivial trivial rfl (by omega) (sortsA _) (enters_of Tryz.func96 (by kernel_rfl) rfl) 97 #[.pointer (some ⟨Bm, 0, none⟩)] trivial (enters_of Tryz.func97 (by kernel_rfl) rfl) _ _ (Nat.zero_le _) (by decide) _ hseq
    refine Calls.mono ((callsIn_wide (n := 5)).1 cS) ?_
    rintro e w' ⟨v, ss, rfl, hS, _, hnil, hbel⟩
    have : ss = [] := List.length_eq_zero_iff.1 hS.length_eq
    exact ⟨by rw [hnil.2 this], hbel⟩
theorem prim_says : Says Tryz.prog (srtPrim 43 97 42 121) := srtPrim_says keysAt
end Go.Proofs.Dnl

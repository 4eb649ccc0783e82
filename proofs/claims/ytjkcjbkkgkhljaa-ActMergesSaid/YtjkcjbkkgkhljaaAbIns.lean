/- A part of a law's proof: AbIns. -/
import Derived.Lib.Overlaps
import Derived.Test.YtjkcjbkkgkhljaaAbRun
set_option linter.constructorNameAsVariable false
/-
  slices.Insert, whatever the elements: what it gives, wherever the row's room ends.
-/
namespace Go.Ab
open Go Go.RowKit
set_option linter.unusedVariables false
set_option linter.unusedSimpArgs false
section
variable (sz bytes h rot : Nat) (zs : List AV)
def mvI (d s : Nat) : AOper := ⟨some d, .p (.mov (.s s)), none, 0⟩
def toI (d x l : Nat) : AOper := ⟨some d, .p (.slSl sz (.s x) none (some (.s l)) none), none, 0⟩
end
section
variable {P : Program} {N : Nat} {Q : AExit -> St -> Prop} {K : St -> Prop} {s : St} {os l : List AOper} {a b c : ACode}
theorem vo_p {d : Option Nat} {op : POp} {hh : Nat} (v : AV) (h : op.run s.env = some v) (k : vcOps P os K (s.put d v s.heap)) : vcOps P (⟨d, .p op, none, hh⟩ :: os) K s := ⟨v, h, k⟩
theorem vo_mv {d x : Nat} (v : AV) (h : s.env x = v) (k : vcOps P os K (s.put (some d) v s.heap)) : vcOps P (mvI d x :: os) K s := vo_p v (by rw [<- h]; rfl) k
theorem vo_m' {d : Option Nat} {op : MOp} {hh : Nat} (v : AV) (H H' : Heap) (e : s.heap = H) (h : op.run s.env H = some (v, H')) (k : vcOps P os K (s.put d v H')) : vcOps P (⟨d, .m op, none, hh⟩ :: os) K s := ⟨(v, H'), by rw [e]; exact h, k⟩
theorem vs_ops (h : vcOps P l (vc P N b Q) s) : vc P N (.seq (.ops l) b) Q s := h
theorem vs_ops2 (h : vcOps P l (vc P N c (thenQ (vc P N b Q) Q)) s) : vc P N (.seq (.seq (.ops l) c) b) Q s := h
theorem vc_t {x : AX} (h : x.ev s.env = .v (.bool true)) (k : vc P N a Q s) : vc P N (.cond x a b) Q s := by simp only [vc, h]; exact k
theorem vc_f {x : AX} (h : x.ev s.env = .v (.bool false)) (k : vc P N b Q s) : vc P N (.cond x a b) Q s := by simp only [vc, h]; exact k
end
def iv (n : Nat) : AV := .v (.int .i64 (n : Int))
theorem sub_iv {a b : Nat} (h : b <= a) (ha : a < 9223372036854775808) : binF .sub (iv a) (iv b) = some (iv (a - b)) := by
  have hb : IntKind.i64.wrap ((a : Int) - (b : Int)) = ((a - b : Nat) : Int) := by
    rw [IntKind.wrap_i64]; omega
  unfold iv
  rw [<- hb]; rfl
theorem gtr_iv {a b : Nat} : binF .gtr (iv a) (iv b) = some (.v (.bool (decide (b < a)))) := by
  have : (decide ((b : Int) < (a : Int))) = decide (b < a) := by rw [decide_eq_decide]; omega
  unfold iv
  rw [<- this]; rfl
theorem len_iv {S : AV} {n : Nat} {ρ : Nat -> AV} {x : Nat} (hx : ρ x = S) (h : lenF false S = some n) : (POp.len false (.s x)).run ρ = some (iv n) := by
  show (lenF false (ρ x)).map _ = _
  rw [hx, h]; rfl
theorem to_eq {sz : Nat} {ρ : Nat -> AV} {x l : Nat} {S I r : AV} (hx : ρ x = S) (hl : ρ l = I) (h : sliceF sz S none (some I) none = some r) : (POp.slSl sz (.s x) none (some (.s l)) none).run ρ = some r := by
  show sliceF sz (ρ x) none (some (ρ l)) none = some r
  rw [hx, hl]; exact h
theorem bin_eq {op : BinOp} {ρ : Nat -> AV} {x y : Nat} {X Y r : AV} (hx : ρ x = X) (hy : ρ y = Y) (h : binF op X Y = some r) : (POp.bin op (.s x) (.s y)).run ρ = some r := by
  show binF op (ρ x) (ρ y) = some r
  rw [hx, hy]; exact h
theorem appZ_eq {sz bytes : Nat} {zs : List AV} {ρ : Nat -> AV} {H H' : Heap} {x n k : Nat} {X r : AV} (hx : ρ x = X) (hn : ρ n = iv k) (hb : k * bytes <= 281474976710656) (h : appendA H sz bytes X k (repA k zs) = some (r, H')) :
    (MOp.appendZ sz bytes zs (.s x) (.s n)).run ρ H = some (r, H') := by
  have ex : (AX.s x).ev ρ = X := hx
  have en : (AX.s n).ev ρ = .v (.int .i64 (k : Int)) := hn
  simp only [MOp.run, ex, en]
  rw [if_pos ⟨by omega, by have := Int.ofNat_le.2 hb; simpa using this⟩, Int.toNat_natCast]
  exact h
section
variable {P : Program} {N : Nat} {sz bytes h rot : Nat} {zs : List AV} {Q : AV -> Heap -> Prop}
theorem ins_acalls {f : Nat} {x : FI} (hk : Knows P f x) {args : List AV} (hl : args.length <= x.n) {H : Heap} (h : ∀ N, vc P N x.code (retQ x.rs Q) ⟨envOf args, H⟩) : ACalls P f args H Q := by
  obtain ⟨fn, body, k1, k2, k3, k4, k5, k6⟩ := hk
  exact acalls_wp k1 k2 k3 k5 (by rw [<- k6]; exact hl) (vc_sound _ _ k4 _ _ (h _))
end
section
variable (sz bytes h ty : Nat) (str : ByteArray) (zs : List AV)
def grw1 : ACode := .cond (.s 16) (.ops [mvI 17 0, mvI 18 0, ⟨some 19, .m (.ext (.capK (.s 18))), none, h⟩, toI sz 20 17 19, mvI 21 1, ⟨some 22, .m (.appendZ sz bytes zs (.s 20) (.s 21)), none, h⟩, mvI 23 0, ⟨some 24, .p (.len false (.s 23)), none, h⟩, toI sz 25 22 24, mvI 0 25]) .skip
def grw2 : ACode := .seq (.seq (.ops [mvI 8 1, mvI 9 0, ⟨some 10, .m (.ext (.capK (.s 9))), none, h⟩, mvI 11 0, ⟨some 12, .p (.len false (.s 11)), none, h⟩, ⟨some 13, .p (.bin .sub (.s 10) (.s 12)), none, 0⟩, ⟨some 14, .p (.bin .sub (.s 8) (.s 13)), none, 0⟩, mvI 1 14])
  (.seq (.ops [mvI 15 1, ⟨some 16, .p (.bin .gtr (.s 15) (.c (.v (.int .i64 0)))), none, 0⟩]) (grw1 sz bytes h zs))) (.seq (.ops [mvI 26 0, mvI 4 26]) .ret)
def growCode : ACode := .seq (.ops [⟨some 4, .p (.mov (.c (.v (.slice none 0 0)))), none, 0⟩]) (.seq (.seq (.ops [mvI 5 1, ⟨some 6, .p (.bin .lss (.s 5) (.c (.v (.int .i64 0)))), none, 0⟩])
  (.cond (.s 6) (.ops [⟨some 7, .p (.mkIfc ty (.c (.v (.string str)))), none, 0⟩, ⟨none, .never, none, 0⟩]) .skip)) (grw2 sz bytes h zs))
end
theorem lss_iv {a b : Nat} : binF .lss (iv a) (iv b) = some (.v (.bool (decide (a < b)))) := by
  have : (decide ((a : Int) < (b : Int))) = decide (a < b) := by rw [decide_eq_decide]; omega
  unfold iv
  rw [<- this]; rfl
section
variable {P : Program} {N : Nat} {sz bytes h ty : Nat} {str : ByteArray} {zs : List AV} {Q : AV -> Heap -> Prop}
theorem grow_nil {n : Nat} {H : Heap} (hb : n * bytes <= LIM) (hl : n <= LIM) (hQ0 : n = 0 -> Q (.v (.slice none 0 0)) H) (hQ : n ≠ 0 -> Q (.sl sz H.length 0 0 none) (H ++ [.cells (repA n zs)])) :
    vc P N (growCode sz bytes h ty str zs) (retQ [.tmp 4] Q) ⟨envOf [.v (.slice none 0 0), iv n], H⟩ := by
  have hL : LIM < 9223372036854775808 := by decide
  have hL2 : LIM <= 281474976710656 := by decide
  have b0 : binF .lss (iv n) (iv 0) = some (.v (.bool false)) := by rw [lss_iv, decide_eq_false (by omega)]
  have b1 : binF .sub (iv 0) (iv 0) = some (iv 0) := sub_iv (by omega) (by omega)
  have b2 : binF .sub (iv n) (iv 0) = some (iv n) := sub_iv (by omega) (by omega)
  generalize hN : AV.v (.slice none 0 0) = nil at *
  refine vs_ops (vo_p nil (by subst hN; rfl) ?_)
  refine vs_ops2 (vo_mv (iv n) rfl (vo_p (.v (.bool false)) ?_ (vc_f rfl ?_)))
  · exact Eq.trans (b := binF .lss (iv n) (iv 0)) rfl b0
  refine vs_ops2 (vo_mv (iv n) rfl (vo_mv nil rfl (vo_m' (iv 0) H H rfl (by subst hN; rfl) (vo_mv nil rfl (vo_p (iv 0) (len_iv (S := nil) rfl (by subst hN; rfl)) (vo_p (iv 0) (bin_eq (X := iv 0) (Y := iv 0) rfl rfl b1) (vo_p (iv n) (bin_eq (X := iv n) (Y := iv 0) rfl rfl b2) (vo_mv (iv n) rfl ?_))))))))
  by_cases hn : n = 0
  · have b3 : binF .gtr (iv n) (iv 0) = some (.v (.bool false)) := by rw [gtr_iv, decide_eq_false (by omega)]
    refine vs_ops (vo_mv (iv n) rfl (vo_p (.v (.bool false)) ?_ (vc_f rfl ?_)))
    · exact Eq.trans (b := binF .gtr (iv n) (iv 0)) rfl b3
    refine vs_ops (vo_mv nil rfl (vo_mv nil rfl ?_))
    exact ⟨nil, rfl, hQ0 hn⟩
  · have b3 : binF .gtr (iv n) (iv 0) = some (.v (.bool true)) := by rw [gtr_iv, decide_eq_true (by omega)]
    have happ : appendA H sz bytes nil n (repA n zs) = some (.sl sz H.length 0 n none, H ++ [.cells (repA n zs)]) := by
      subst hN
      simp only [appendA]
      rw [if_neg hn, if_pos ⟨hb, hl⟩]
    have hs1 : sliceF sz nil none (some (iv 0)) none = some nil := by subst hN; rfl
    have hs2 : sliceF sz (.sl sz H.length 0 n none) none (some (iv 0)) none = some (.sl sz H.length 0 0 none) := by
      have hb' : boundF (iv 0) n = some 0 := by
        simp only [boundF, iv]; rw [if_pos (by omega)]; simp
      have hB : boundsF n n none (some (iv 0)) none = some (0, 0, n) := by delta boundsF; simp only [hb']
      simp only [sliceF, if_true, Option.getD_none, hB, Option.map_some, newCap, Nat.zero_mul, Nat.add_zero, Nat.sub_zero, Option.map_none]
    have hQ := hQ hn
    generalize H.length = L at *
    generalize hZ : repA n zs = Z at *
    refine vs_ops (vo_mv (iv n) rfl (vo_p (.v (.bool true)) ?_ (vc_t rfl ?_)))
    · exact Eq.trans (b := binF .gtr (iv n) (iv 0)) rfl b3
    refine vo_mv nil rfl (vo_mv nil rfl (vo_m' (iv 0) H H rfl (by subst hN; rfl) (vo_p nil (to_eq (S := nil) (I := iv 0) rfl rfl hs1) (vo_mv (iv n) rfl ?_))))
    refine vo_m' (.sl sz L 0 n none) H (H ++ [.cells Z]) rfl ?_ ?_
    · have ex : ∀ {ρ : Nat -> AV}, ρ 20 = nil -> ρ 21 = iv n -> (MOp.appendZ sz bytes zs (.s 20) (.s 21)).run ρ H = some (.sl sz L 0 n none, H ++ [.cells Z]) := by
        intro ρ e1 e2
        exact appZ_eq e1 e2 (by omega) (by rw [hZ]; exact happ)
      exact ex rfl rfl
    refine vo_mv nil rfl (vo_p (iv 0) (len_iv (S := nil) rfl (by subst hN; rfl)) (vo_p (.sl sz L 0 0 none) (to_eq (S := .sl sz L 0 n none) (I := iv 0) rfl rfl hs2) (vo_mv (.sl sz L 0 0 none) rfl ?_)))
    refine vs_ops (vo_mv (.sl sz L 0 0 none) rfl (vo_mv (.sl sz L 0 0 none) rfl ?_))
    exact ⟨_, rfl, hQ⟩
end
end Go.Ab

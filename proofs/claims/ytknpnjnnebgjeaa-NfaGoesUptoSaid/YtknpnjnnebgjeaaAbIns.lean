/- A part of a law's proof: AbIns. -/
import Derived.Lib.Overlaps
import Derived.Test.YtknpnjnnebgjeaaAbRun
set_option linter.constructorNameAsVariable false
/-
  slices.Insert, whatever the elements: what it gives, wherever the row's room ends.
-/
namespace Go.Ab
open Go Go.RowKit
set_option linter.unusedVariables false
set_option linter.unusedSimpArgs false

/-! ### the library's text, as abstract code -/

section
variable (sz bytes h rot : Nat) (zs : List AV)

def mvI (d s : Nat) : AOper := ⟨some d, .p (.mov (.s s)), none, 0⟩
def addI (d a b : Nat) : AOper := ⟨some d, .p (.bin .add (.s a) (.s b)), none, 0⟩
def fromI (d x l : Nat) : AOper := ⟨some d, .p (.slSl sz (.s x) (some (.s l)) none none), none, 0⟩
def toI (d x l : Nat) : AOper := ⟨some d, .p (.slSl sz (.s x) none (some (.s l)) none), none, 0⟩
def cpI (d x y : Nat) : AOper := ⟨some d, .m (.copy sz (.s x) (.s y)), none, h⟩

def ins1 : ACode := .cond (.s 16) (.seq (.ops [mvI 17 0, mvI 6 17]) .ret) .skip
def ins2 : ACode := .cond (.s 22) (.seq (.ops [mvI 23 0, mvI 24 2, ⟨some 25, .m (.append sz bytes (.s 23) (.s 24)), none, h⟩, mvI 6 25]) .ret) .skip
def ins3 : ACode := .seq (.draw [mvI 46 9, mvI 47 1, mvI 48 7, addI 49 47 48, fromI sz 50 46 49, mvI 51 0, mvI 52 1, fromI sz 53 51 52, cpI sz h 54 50 53]) (.seq (.ops [mvI 55 9, mvI 6 55]) .ret)
def ins4 : ACode := .seq (.ops [mvI 41 9, mvI 42 1, fromI sz 43 41 42, mvI 44 2, cpI sz h 45 43 44]) (ins3 sz h)
def ins5 : ACode := .cond (.s 31) (.seq (.ops [mvI 32 0, mvI 33 1, toI sz 34 32 33, mvI 35 8, mvI 36 7, addI 37 35 36, mvI 38 1, ⟨some 39, .p (.bin .sub (.s 37) (.s 38)), none, 0⟩, ⟨some 40, .m (.appendZ sz bytes zs (.s 34) (.s 39)), none, h⟩, mvI 9 40]) (ins4 sz h)) .skip
def ins6 : ACode := .seq (.ops [mvI 78 0, mvI 79 1, fromI sz 80 78 79, mvI 81 2, cpI sz h 82 80 81]) (.seq (.ops [mvI 83 0, mvI 6 83]) .ret)
def ins7 : ACode := .cond (.s 68) (.seq (.draw [mvI 69 0, mvI 70 1, mvI 71 7, addI 72 70 71, fromI sz 73 69 72, mvI 74 0, mvI 75 1, fromI sz 76 74 75, cpI sz h 77 73 76]) (ins6 sz h)) .skip
def ins8 : ACode := .seq (.ops [mvI 84 0, mvI 85 8, fromI sz 86 84 85, mvI 87 2, cpI sz h 88 86 87]) (.seq (.ops [mvI 89 0, mvI 90 1, fromI sz 91 89 90, mvI 92 7, ⟨some 93, .call (.c (.fn rot [])) [.s 91, .s 92], none, h⟩]) (.seq (.ops [mvI 94 0, mvI 6 94]) .ret))
def ins9 : ACode := .seq (.seq (.ops [mvI 61 2, mvI 62 0, mvI 63 1, mvI 64 7, addI 65 63 64, fromI sz 66 62 65, ⟨some 67, .m (.ext (.ovl (.s 61) (.s 66))), none, h⟩, ⟨some 68, .p (.un .not (.s 67)), none, 0⟩]) (ins7 sz h)) (ins8 sz h rot)
def ins10 : ACode := .seq (.ops [mvI 56 0, mvI 57 8, mvI 58 7, addI 59 57 58, toI sz 60 56 59, mvI 0 60]) (ins9 sz h rot)
def ins11 : ACode := .seq (.seq (.ops [mvI 26 8, mvI 27 7, addI 28 26 27, mvI 29 0, ⟨some 30, .m (.ext (.capK (.s 29))), none, h⟩, ⟨some 31, .p (.bin .gtr (.s 28) (.s 30)), none, 0⟩]) (ins5 sz bytes h zs)) (ins10 sz h rot)
def ins12 : ACode := .seq (.seq (.ops [mvI 20 1, mvI 21 8, ⟨some 22, .p (.bin .eql (.s 20) (.s 21)), none, 0⟩]) (ins2 sz bytes h)) (ins11 sz bytes h rot zs)
def ins13 : ACode := .seq (.ops [mvI 18 0, ⟨some 19, .p (.len false (.s 18)), none, h⟩, mvI 8 19]) (ins12 sz bytes h rot zs)
def ins14 : ACode := .seq (.seq (.ops [mvI 15 7, ⟨some 16, .p (.bin .eql (.s 15) (.c (.v (.int .i64 0)))), none, 0⟩]) ins1) (ins13 sz bytes h rot zs)
def ins15 : ACode := .seq (.ops [mvI 13 2, ⟨some 14, .p (.len false (.s 13)), none, h⟩, mvI 7 14]) (ins14 sz bytes h rot zs)
def ins16 : ACode := .seq (.ops [mvI 10 0, mvI 11 1, fromI sz 12 10 11]) (ins15 sz bytes h rot zs)
def insCode : ACode := .seq (.ops [⟨some 6, .p (.mov (.c (.v (.slice none 0 0)))), none, 0⟩]) (ins16 sz bytes h rot zs)
end

/-! ### steps -/

section
variable {P : Program} {N : Nat} {Q : AExit → St → Prop} {K : St → Prop} {s : St} {os l : List AOper} {a b c : ACode}

theorem vo_p {d : Option Nat} {op : POp} {hh : Nat} (v : AV) (h : op.run s.env = some v) (k : vcOps P os K (s.put d v s.heap)) : vcOps P (⟨d, .p op, none, hh⟩ :: os) K s := ⟨v, h, k⟩
theorem vo_m {d : Option Nat} {op : MOp} {hh : Nat} (v : AV) (H' : Heap) (h : op.run s.env s.heap = some (v, H')) (k : vcOps P os K (s.put d v H')) : vcOps P (⟨d, .m op, none, hh⟩ :: os) K s := ⟨(v, H'), h, k⟩
theorem vd_p {d : Option Nat} {op : POp} {hh : Nat} (v : AV) (h : op.run s.env = some v) (k : vcOpsD P os K (s.put d v s.heap)) : vcOpsD P (⟨d, .p op, none, hh⟩ :: os) K s := ⟨v, h, k⟩
theorem vd_m {d : Option Nat} {op : MOp} {hh : Nat} (v : AV) (H' : Heap) (h : op.run s.env s.heap = some (v, H')) (k : vcOpsD P os K (s.put d v H')) : vcOpsD P (⟨d, .m op, none, hh⟩ :: os) K s := ⟨(v, H'), h, k⟩
theorem vo_mv {d x : Nat} (v : AV) (h : s.env x = v) (k : vcOps P os K (s.put (some d) v s.heap)) : vcOps P (mvI d x :: os) K s := vo_p v (by rw [← h]; rfl) k
theorem vd_mv {d x : Nat} (v : AV) (h : s.env x = v) (k : vcOpsD P os K (s.put (some d) v s.heap)) : vcOpsD P (mvI d x :: os) K s := vd_p v (by rw [← h]; rfl) k
theorem vo_m' {d : Option Nat} {op : MOp} {hh : Nat} (v : AV) (H H' : Heap) (e : s.heap = H) (h : op.run s.env H = some (v, H')) (k : vcOps P os K (s.put d v H')) : vcOps P (⟨d, .m op, none, hh⟩ :: os) K s := ⟨(v, H'), by rw [e]; exact h, k⟩
theorem vd_m' {d : Option Nat} {op : MOp} {hh : Nat} (v : AV) (H H' : Heap) (e : s.heap = H) (h : op.run s.env H = some (v, H')) (k : vcOpsD P os K (s.put d v H')) : vcOpsD P (⟨d, .m op, none, hh⟩ :: os) K s := ⟨(v, H'), by rw [e]; exact h, k⟩
theorem vs_ops (h : vcOps P l (vc P N b Q) s) : vc P N (.seq (.ops l) b) Q s := h
theorem vs_draw (h : vcOpsD P l (vc P N b Q) s) : vc P N (.seq (.draw l) b) Q s := h
theorem vs_ops2 (h : vcOps P l (vc P N c (thenQ (vc P N b Q) Q)) s) : vc P N (.seq (.seq (.ops l) c) b) Q s := h
theorem vc_t {x : AX} (h : x.ev s.env = .v (.bool true)) (k : vc P N a Q s) : vc P N (.cond x a b) Q s := by simp only [vc, h]; exact k
theorem vc_f {x : AX} (h : x.ev s.env = .v (.bool false)) (k : vc P N b Q s) : vc P N (.cond x a b) Q s := by simp only [vc, h]; exact k
end

def iv (n : Nat) : AV := .v (.int .i64 (n : Int))

theorem add_iv {a b : Nat} (h : a + b < 9223372036854775808) : binF .add (iv a) (iv b) = some (iv (a + b)) := by
  have hb : IntKind.i64.wrap ((a : Int) + (b : Int)) = ((a + b : Nat) : Int) := by
    rw [IntKind.wrap_i64]; omega
  unfold iv
  rw [← hb]; rfl
theorem sub_iv {a b : Nat} (h : b ≤ a) (ha : a < 9223372036854775808) : binF .sub (iv a) (iv b) = some (iv (a - b)) := by
  have hb : IntKind.i64.wrap ((a : Int) - (b : Int)) = ((a - b : Nat) : Int) := by
    rw [IntKind.wrap_i64]; omega
  unfold iv
  rw [← hb]; rfl
theorem eql_iv {a b : Nat} : binF .eql (iv a) (iv b) = some (.v (.bool (decide (a = b)))) := by
  have : (decide ((a : Int) = (b : Int))) = decide (a = b) := by rw [decide_eq_decide]; omega
  unfold iv
  rw [← this]; rfl
theorem gtr_iv {a b : Nat} : binF .gtr (iv a) (iv b) = some (.v (.bool (decide (b < a)))) := by
  have : (decide ((b : Int) < (a : Int))) = decide (b < a) := by rw [decide_eq_decide]; omega
  unfold iv
  rw [← this]; rfl

theorem len_iv {S : AV} {n : Nat} {ρ : Nat → AV} {x : Nat} (hx : ρ x = S) (h : lenF false S = some n) : (POp.len false (.s x)).run ρ = some (iv n) := by
  show (lenF false (ρ x)).map _ = _
  rw [hx, h]; rfl
theorem from_eq {sz : Nat} {ρ : Nat → AV} {x l : Nat} {S I r : AV} (hx : ρ x = S) (hl : ρ l = I) (h : sliceF sz S (some I) none none = some r) : (POp.slSl sz (.s x) (some (.s l)) none none).run ρ = some r := by
  show sliceF sz (ρ x) (some (ρ l)) none none = some r
  rw [hx, hl]; exact h
theorem to_eq {sz : Nat} {ρ : Nat → AV} {x l : Nat} {S I r : AV} (hx : ρ x = S) (hl : ρ l = I) (h : sliceF sz S none (some I) none = some r) : (POp.slSl sz (.s x) none (some (.s l)) none).run ρ = some r := by
  show sliceF sz (ρ x) none (some (ρ l)) none = some r
  rw [hx, hl]; exact h
theorem bin_eq {op : BinOp} {ρ : Nat → AV} {x y : Nat} {X Y r : AV} (hx : ρ x = X) (hy : ρ y = Y) (h : binF op X Y = some r) : (POp.bin op (.s x) (.s y)).run ρ = some r := by
  show binF op (ρ x) (ρ y) = some r
  rw [hx, hy]; exact h

theorem copy_eq {sz : Nat} {ρ : Nat → AV} {H H' : Heap} {x y m k : Nat} {X Y : AV} {news : List AV} (hx : ρ x = X) (hy : ρ y = Y) (h1 : cellsA H sz Y = some (m, news)) (h2 : copyA H sz X m news = some (k, H')) :
    (MOp.copy sz (.s x) (.s y)).run ρ H = some (iv k, H') := by
  have ex : (AX.s x).ev ρ = X := hx
  have ey : (AX.s y).ev ρ = Y := hy
  simp only [MOp.run, ex, ey, h1, h2, Option.map_some]
  rfl

theorem appZ_eq {sz bytes : Nat} {zs : List AV} {ρ : Nat → AV} {H H' : Heap} {x n k : Nat} {X r : AV} (hx : ρ x = X) (hn : ρ n = iv k) (hb : k * bytes ≤ 281474976710656) (h : appendA H sz bytes X k (repA k zs) = some (r, H')) :
    (MOp.appendZ sz bytes zs (.s x) (.s n)).run ρ H = some (r, H') := by
  have ex : (AX.s x).ev ρ = X := hx
  have en : (AX.s n).ev ρ = .v (.int .i64 (k : Int)) := hn
  simp only [MOp.run, ex, en]
  rw [if_pos ⟨by omega, by have := Int.ofNat_le.2 hb; simpa using this⟩, Int.toNat_natCast]
  exact h

theorem slice_from {sz o off n i : Nat} {cap : Option Nat} (h : i ≤ n) : sliceF sz (.sl sz o off n cap) (some (iv i)) none none = some (.sl sz o (off + i * sz) (n - i) (cap.map (· - i))) := by
  have hb : boundF (iv i) n = some i := by
    simp only [boundF, iv]; rw [if_pos (by omega)]; simp
  have hB : ∀ C, boundsF n C (some (iv i)) none none = some (i, n, C) := by intro C; delta boundsF; simp only [hb]
  simp only [sliceF, if_true, hB, Option.map_some, newCap]
theorem slice_to {sz o off n i c : Nat} (h : i ≤ c) : sliceF sz (.sl sz o off n (some c)) none (some (iv i)) none = some (.sl sz o off i (some c)) := by
  have hb : boundF (iv i) c = some i := by
    simp only [boundF, iv]; rw [if_pos (by omega)]; simp
  have hB : boundsF n c none (some (iv i)) none = some (0, i, c) := by delta boundsF; simp only [hb]
  simp only [sliceF, if_true, Option.getD_some, hB, Option.map_some, newCap, Nat.zero_mul, Nat.add_zero, Nat.sub_zero]

section
variable {P : Program} {N : Nat} {sz bytes h rot : Nat} {zs : List AV} {Q : AV → Heap → Prop}

/-- At the end. -/
theorem ins_end {n m : Nat} {S S' V r : AV} {H H' : Heap} {ds : List AV} (hn : n < 9223372036854775808) (h1 : sliceF sz S (some (iv n)) none none = some S') (h2 : lenF false S = some n) (h3 : lenF false V = some m) (hm : m ≠ 0)
    (h4 : cellsA H sz V = some (m, ds)) (h5 : appendA H sz bytes S m ds = some (r, H')) (hQ : Q r H') :
    vc P N (insCode sz bytes h rot zs) (retQ [.tmp 6] Q) ⟨envOf [S, iv n, V], H⟩ := by
  refine vs_ops (vo_p (.v (.slice none 0 0)) rfl ?_)
  refine vs_ops (vo_mv S rfl (vo_mv (iv n) rfl (vo_p S' (from_eq (S := S) (I := iv n) rfl rfl h1) ?_)))
  refine vs_ops (vo_mv V rfl (vo_p (iv m) (len_iv (S := V) rfl h3) (vo_mv (iv m) rfl ?_)))
  refine vs_ops2 (vo_mv (iv m) rfl (vo_p (.v (.bool false)) ?_ (vc_f rfl ?_)))
  · refine Eq.trans (b := binF .eql (iv m) (iv 0)) rfl ?_
    rw [eql_iv, decide_eq_false hm]
  refine vs_ops (vo_mv S rfl (vo_p (iv n) (len_iv (S := S) rfl h2) (vo_mv (iv n) rfl ?_)))
  refine vs_ops2 (vo_mv (iv n) rfl (vo_mv (iv n) rfl (vo_p (.v (.bool true)) (bin_eq (X := iv n) (Y := iv n) rfl rfl (by rw [eql_iv, decide_eq_true rfl])) (vc_t rfl ?_))))
  refine vs_ops (vo_mv S rfl (vo_mv V rfl (vo_m r H' ?_ (vo_mv r rfl ?_))))
  · refine Eq.trans (b := match cellsA H sz V with | some (m, news) => appendA H sz bytes S m news | none => none) rfl ?_
    rw [h4]; exact h5
  exact ⟨r, rfl, hQ⟩

theorem setsA_len (vs cs : List AV) (off : Nat) : (setsA cs off vs).length = cs.length := by
  induction vs generalizing cs off with
  | nil => rfl
  | cons v vs ih => simp only [setsA]; rw [ih]; simp

theorem all_get {l : List AV} (h : l.all AV.one = true) {l' : List AV} (hs : ∀ a ∈ l', a ∈ l) : l'.all AV.one = true := by
  rw [List.all_eq_true] at h ⊢; exact fun a ha => h a (hs a ha)

theorem repA_len {k : Nat} : (repA k zs).length = k * zs.length := by
  unfold repA
  induction k with
  | zero => simp
  | succ k ih => simp only [List.replicate_succ, List.flatten_cons, List.length_append, ih, Nat.succ_mul]; omega
theorem repA_ones (hz : zs.all AV.one = true) (k : Nat) : (repA k zs).all AV.one = true := by
  rw [List.all_eq_true] at hz ⊢
  intro a ha
  unfold repA at ha
  obtain ⟨l, hl, ha⟩ := List.mem_flatten.1 ha
  rw [(List.mem_replicate.1 hl).2] at ha
  exact hz a ha

/-- What stands behind an insertion. -/
def insL (cs ds : List AV) (a : Nat) : List AV := cs.take a ++ (ds ++ cs.drop a)

/-- A new row is made. -/
theorem ins_grow {n m i c o : Nat} {V : AV} {H : Heap} {cs X ds : List AV} (hsz : 0 < sz) (hi : i < n) (hm : m ≠ 0) (hnc : n ≤ c) (hg : c < n + m) (hb : (n + m) * bytes ≤ LIM) (hl : n + m ≤ LIM) (hbig : (n + m - i) * bytes ≤ 281474976710656)
    (hX : H[o]? = some (.cells X)) (hXl : c * sz ≤ X.length) (hcs : X.take (n * sz) = cs) (hone : cs.all AV.one = true) (hz : zs.length = sz) (hzo : zs.all AV.one = true)
    (h3 : lenF false V = some m) (h4 : ∀ H', (∀ q, q < H.length → H'[q]? = H[q]?) → cellsA H' sz V = some (m, ds)) (hd : ds.all AV.one = true) (hdl : ds.length = m * sz)
    (hQ : Q (.sl sz H.length 0 (n + m) none) (H ++ [.cells (insL cs ds (i * sz))])) :
    vc P N (insCode sz bytes h rot zs) (retQ [.tmp 6] Q) ⟨envOf [.sl sz o 0 n (some c), iv i, V], H⟩ := by
  have hol : o < H.length := getElem?_lt hX
  have hL : LIM < 9223372036854775808 := by decide
  obtain ⟨d, hd0⟩ : ∃ d, n = i + d := ⟨n - i, by omega⟩
  subst hd0
  have E1 : (i + d) * sz = i * sz + d * sz := Nat.add_mul _ _ _
  have E2 : (i + d + m) * sz = i * sz + d * sz + m * sz := by rw [Nat.add_mul, Nat.add_mul]
  have E3 : (i + m) * sz = i * sz + m * sz := Nat.add_mul _ _ _
  have E4 : (i + d + m - i) * sz = d * sz + m * sz := by rw [show i + d + m - i = d + m by omega, Nat.add_mul]
  have E5 : i + d - i = d := by omega
  have hcz : (i + d) * sz ≤ c * sz := Nat.mul_le_mul_right _ hnc
  have hnot : ¬ (i + d + m) * sz ≤ c * sz := by
    intro hh
    have := Nat.le_of_mul_le_mul_right hh hsz
    omega
  have hcl : cs.length = i * sz + d * sz := by rw [← hcs]; simp; omega
  have hXi : X.take (i * sz) = cs.take (i * sz) := by rw [← hcs, List.take_take, Nat.min_eq_left (by omega)]
  have hXd : (X.drop (i * sz)).take (d * sz) = cs.drop (i * sz) := by rw [← hcs, List.drop_take, show (i + d) * sz - i * sz = d * sz by omega]
  -- what the operations on memory give
  have happ : appendA H sz bytes (.sl sz o 0 i (some c)) (i + d + m - i) (repA (i + d + m - i) zs) = some (.sl sz H.length 0 (i + d + m) none, H ++ [.cells (cs.take (i * sz) ++ repA (i + d + m - i) zs)]) := by
    simp only [appendA, if_true]
    rw [if_neg (by omega), hX]
    simp only
    have e : i + (i + d + m - i) = i + d + m := by omega
    rw [if_pos (repA_ones hzo _), e]
    have hlim : (i + d + m) * bytes ≤ LIM ∧ i + d + m ≤ LIM ∧ 0 + i * sz ≤ X.length := ⟨hb, hl, by omega⟩
    have hlg : letgo (some c) (i + d + m) H o = H := by unfold letgo; exact if_pos hg
    by_cases hbig2 : 0 + (i + d + m) * sz ≤ X.length
    · rw [if_pos hbig2]
      rw [if_neg (show ¬ (i + d + m ≤ c) by omega), if_pos hlim, List.drop_zero, hXi]
    · rw [if_neg hbig2, if_pos hlim, List.drop_zero, hXi, hlg]
  have hYl : (cs.take (i * sz) ++ repA (i + d + m - i) zs).length = i * sz + (d * sz + m * sz) := by
    rw [List.length_append, repA_len, hz, E4, List.length_take]; omega
  have hset : ∀ (Y Z : AObj), (H ++ [Y]).set H.length Z = H ++ [Z] := by intro Y Z; simp
  have hcp1 : copyA (H ++ [.cells (cs.take (i * sz) ++ repA (i + d + m - i) zs)]) sz (.sl sz H.length (i * sz) (i + d + m - i) none) m ds = some (m, H ++ [.cells (setsA (cs.take (i * sz) ++ repA (i + d + m - i) zs) (i * sz) ds)]) := by
    have hL1 : (H ++ [AObj.cells (cs.take (i * sz) ++ repA (i + d + m - i) zs)])[H.length]? = some (.cells (cs.take (i * sz) ++ repA (i + d + m - i) zs)) := by simp
    simp only [copyA, if_true]
    have e : min m (i + d + m - i) = m := by omega
    rw [e, if_neg hm, hL1]
    simp only
    have et : ds.take (m * sz) = ds := List.take_of_length_le (by omega)
    rw [if_pos ⟨by omega, all_get hd fun a ha => List.mem_of_mem_take ha⟩, et, hset]
  have hcp2 : cellsA (H ++ [.cells (setsA (cs.take (i * sz) ++ repA (i + d + m - i) zs) (i * sz) ds)]) sz (.sl sz o (i * sz) d (some (c - i))) = some (d, cs.drop (i * sz)) ∧
      copyA (H ++ [.cells (setsA (cs.take (i * sz) ++ repA (i + d + m - i) zs) (i * sz) ds)]) sz (.sl sz H.length ((i + m) * sz) (i + d + m - (i + m)) none) d (cs.drop (i * sz)) = some (d, H ++ [.cells (insL cs ds (i * sz))]) := by
    generalize hY : setsA (cs.take (i * sz) ++ repA (i + d + m - i) zs) (i * sz) ds = Y
    have hYl' : Y.length = i * sz + (d * sz + m * sz) := by rw [← hY, setsA_len, hYl]
    constructor
    · simp only [cellsA, if_true]
      rw [if_neg (by omega), List.getElem?_append_left hol, hX]
      simp only
      rw [if_pos (by omega), hXd]
    · simp only [copyA, if_true]
      have e : min d (i + d + m - (i + m)) = d := by omega
      have hL2 : (H ++ [AObj.cells Y])[H.length]? = some (.cells Y) := by simp
      have et : (cs.drop (i * sz)).take (d * sz) = cs.drop (i * sz) := List.take_of_length_le (by simp; omega)
      rw [e, if_neg (by omega), hL2]
      simp only
      rw [if_pos ⟨by omega, all_get hone fun a ha => List.mem_of_mem_drop (List.mem_of_mem_take ha)⟩, et, hset]
      have : setsA Y ((i + m) * sz) (cs.drop (i * sz)) = insL cs ds (i * sz) := by
        apply List.ext_getElem?
        intro j
        have hlt : (cs.take (i * sz)).length = i * sz := by rw [List.length_take]; omega
        rw [setsA_get _ _ _ (by simp; omega), ← hY, setsA_get _ _ _ (by rw [hYl]; omega)]
        unfold insL
        rcases Nat.lt_or_ge j (i * sz) with h1 | h1
        · have e1 : (cs.take (i * sz) ++ repA (i + d + m - i) zs)[j]? = (cs.take (i * sz))[j]? := List.getElem?_append_left (by omega)
          have e2 : (cs.take (i * sz) ++ (ds ++ cs.drop (i * sz)))[j]? = (cs.take (i * sz))[j]? := List.getElem?_append_left (by omega)
          rw [if_neg (by omega), if_neg (by omega), e1, e2]
        · rw [List.getElem?_append_right (l₁ := cs.take (i * sz)) (l₂ := ds ++ cs.drop (i * sz)) (by omega), hlt]
          rcases Nat.lt_or_ge j ((i + m) * sz) with h2 | h2
          · rw [if_neg (by omega), if_pos (by omega), List.getElem?_append_left (by omega)]
          · rw [List.getElem?_append_right (l₁ := ds) (by omega), hdl]
            rcases Nat.lt_or_ge j ((i + m) * sz + d * sz) with h3 | h3
            · rw [if_pos (by simp; omega)]
              congr 1; omega
            · rw [if_neg (by simp; omega), if_neg (by omega), List.getElem?_eq_none (by omega), List.getElem?_eq_none (by simp; omega)]
      rw [this]
  have hs1 : sliceF sz (.sl sz H.length 0 (i + d + m) none) (some (iv i)) none none = some (.sl sz H.length (i * sz) (i + d + m - i) none) := by rw [slice_from (by omega)]; simp
  have hs2 : sliceF sz (.sl sz H.length 0 (i + d + m) none) (some (iv (i + m))) none none = some (.sl sz H.length ((i + m) * sz) (i + d + m - (i + m)) none) := by rw [slice_from (by omega)]; simp
  have hs3 : sliceF sz (.sl sz o 0 (i + d) (some c)) (some (iv i)) none none = some (.sl sz o (i * sz) d (some (c - i))) := by rw [slice_from (by omega), E5]; simp
  have hv1 := h4 (H ++ [.cells (cs.take (i * sz) ++ repA (i + d + m - i) zs)]) (fun q hq => List.getElem?_append_left hq)
  have hb0 : binF .eql (iv m) (iv 0) = some (.v (.bool false)) := by rw [eql_iv, decide_eq_false hm]
  have hb1 : binF .eql (iv i) (iv (i + d)) = some (.v (.bool false)) := by rw [eql_iv, decide_eq_false (by omega)]
  have hb2 : binF .gtr (iv (i + d + m)) (iv c) = some (.v (.bool true)) := by rw [gtr_iv, decide_eq_true hg]
  have ha1 : binF .add (iv (i + d)) (iv m) = some (iv (i + d + m)) := add_iv (by omega)
  have ha2 : binF .add (iv i) (iv m) = some (iv (i + m)) := add_iv (by omega)
  have hsb : binF .sub (iv (i + d + m)) (iv i) = some (iv (i + d + m - i)) := sub_iv (by omega) (by omega)
  have ht : sliceF sz (.sl sz o 0 (i + d) (some c)) none (some (iv i)) none = some (.sl sz o 0 i (some c)) := slice_to (by omega)
  obtain ⟨hcp2a, hcp2b⟩ := hcp2
  generalize hLL : H.length = L at *
  generalize i + d + m - i = k1 at *
  generalize i + d + m - (i + m) = k2 at *
  generalize i + d + m = nm at *
  generalize cs.take (i * sz) ++ repA k1 zs = Y1 at *
  generalize setsA Y1 (i * sz) ds = Y2 at *
  generalize insL cs ds (i * sz) = Y3 at *
  have hlen1 : lenF false (.sl sz o 0 (i + d) (some c)) = some (i + d) := rfl
  clear hXd hXi hcl hnot hcz E1 E2 E3 E4 E5 hset hYl hX hXl hcs hone hz hzo hd hdl h4 hol
  generalize hS : AV.sl sz o 0 (i + d) (some c) = S at *
  generalize hI : iv i = I at *
  generalize hR : AV.sl sz L 0 nm none = R at *
  refine vs_ops (vo_p (.v (.slice none 0 0)) rfl ?_)
  refine vs_ops (vo_mv S rfl (vo_mv I rfl (vo_p _ (from_eq (S := S) (I := I) rfl rfl hs3) ?_)))
  refine vs_ops (vo_mv V rfl (vo_p (iv m) (len_iv (S := V) rfl h3) (vo_mv (iv m) rfl ?_)))
  refine vs_ops2 (vo_mv (iv m) rfl (vo_p (.v (.bool false)) hb0 (vc_f rfl ?_)))
  refine vs_ops (vo_mv S rfl (vo_p (iv (i + d)) (len_iv (S := S) rfl hlen1) (vo_mv (iv (i + d)) rfl ?_)))
  refine vs_ops2 (vo_mv I rfl (vo_mv (iv (i + d)) rfl (vo_p (.v (.bool false)) (bin_eq (X := I) (Y := iv (i + d)) rfl rfl hb1) (vc_f rfl ?_))))
  refine vs_ops2 (vo_mv (iv (i + d)) rfl (vo_mv (iv m) rfl (vo_p (iv nm) (bin_eq (X := iv (i + d)) (Y := iv m) rfl rfl ha1) (vo_mv S rfl (vo_m' (iv c) H H rfl (by subst hS; rfl) (vo_p (.v (.bool true)) (bin_eq (X := iv nm) (Y := iv c) rfl rfl hb2) (vc_t rfl ?_)))))))
  refine vs_ops (vo_mv S rfl (vo_mv I rfl (vo_p (.sl sz o 0 i (some c)) (to_eq (S := S) (I := I) rfl rfl ht) ?_)))
  refine vo_mv (iv (i + d)) rfl (vo_mv (iv m) rfl (vo_p (iv nm) (bin_eq (X := iv (i + d)) (Y := iv m) rfl rfl ha1) (vo_mv I rfl (vo_p (iv k1) (bin_eq (X := iv nm) (Y := I) rfl rfl hsb) ?_))))
  refine vo_m' R H (H ++ [.cells Y1]) rfl (appZ_eq (X := .sl sz o 0 i (some c)) (k := k1) rfl rfl hbig happ) (vo_mv R rfl ?_)
  refine vs_ops (vo_mv R rfl (vo_mv I rfl (vo_p (.sl sz L (i * sz) k1 none) (from_eq (S := R) (I := I) rfl rfl hs1) (vo_mv V rfl ?_))))
  refine vo_m' (iv m) (H ++ [.cells Y1]) (H ++ [.cells Y2]) rfl (copy_eq (X := .sl sz L (i * sz) k1 none) (Y := V) rfl rfl hv1 hcp1) ?_
  refine vs_draw (vd_mv R rfl (vd_mv I rfl (vd_mv (iv m) rfl (vd_p (iv (i + m)) (bin_eq (X := I) (Y := iv m) rfl rfl ha2) (vd_p (.sl sz L ((i + m) * sz) k2 none) (from_eq (S := R) (I := iv (i + m)) rfl rfl hs2) ?_)))))
  refine vd_mv S rfl (vd_mv I rfl (vd_p (.sl sz o (i * sz) d (some (c - i))) (from_eq (S := S) (I := I) rfl rfl hs3) ?_))
  refine vd_m' (iv d) (H ++ [.cells Y2]) (H ++ [.cells Y3]) rfl (copy_eq (X := .sl sz L ((i + m) * sz) k2 none) (Y := .sl sz o (i * sz) d (some (c - i))) rfl rfl hcp2a hcp2b) ?_
  refine vs_ops (vo_mv R rfl (vo_mv R rfl ?_))
  exact ⟨_, rfl, hQ⟩

/-- There is room: in place. -/
theorem ins_room {n m i c o q : Nat} {capq : Option Nat} {H : Heap} {cs X ds Z : List AV} (hsz : 0 < sz) (hi : i < n) (hm : m ≠ 0) (hg : n + m ≤ c) (hl : n + m ≤ LIM)
    (hX : H[o]? = some (.cells X)) (hXl : c * sz ≤ X.length) (hcs : X.take (n * sz) = cs) (hone : cs.all AV.one = true)
    (hq : q ≠ o) (hZ : H[q]? = some (.cells Z)) (hZd : Z.take (m * sz) = ds) (hd : ds.all AV.one = true) (hdl : ds.length = m * sz)
    (hQ : ∀ X' : List AV, X'.length = X.length → (∀ (j : Nat) (a : AV), (insL cs ds (i * sz))[j]? = some a → X'[j]? = some a) → Q (.sl sz o 0 (n + m) (some c)) (H.set o (.cells X'))) :
    vc P N (insCode sz bytes h rot zs) (retQ [.tmp 6] Q) ⟨envOf [.sl sz o 0 n (some c), iv i, .sl sz q 0 m capq], H⟩ := by
  have hol : o < H.length := getElem?_lt hX
  have hL : LIM < 9223372036854775808 := by decide
  obtain ⟨d, hd0⟩ : ∃ d, n = i + d := ⟨n - i, by omega⟩
  subst hd0
  have E1 : (i + d) * sz = i * sz + d * sz := Nat.add_mul _ _ _
  have E2 : (i + d + m) * sz = i * sz + d * sz + m * sz := by rw [Nat.add_mul, Nat.add_mul]
  have E3 : (i + m) * sz = i * sz + m * sz := Nat.add_mul _ _ _
  have E4 : (i + d + m - i) * sz = d * sz + m * sz := by rw [show i + d + m - i = d + m by omega, Nat.add_mul]
  have E5 : i + d - i = d := by omega
  have hcz : (i + d + m) * sz ≤ c * sz := Nat.mul_le_mul_right _ hg
  have hcl : cs.length = i * sz + d * sz := by rw [← hcs]; simp; omega
  have hXd : ((X.drop (i * sz)).take ((i + d + m - i) * sz)).take (d * sz) = cs.drop (i * sz) := by
    rw [List.take_take, Nat.min_eq_left (by omega), ← hcs, List.drop_take, show (i + d) * sz - i * sz = d * sz by omega]
  -- what the operations on memory give
  have hc1 : cellsA H sz (.sl sz o (i * sz) (i + d + m - i) (some (c - i))) = some (i + d + m - i, (X.drop (i * sz)).take ((i + d + m - i) * sz)) := by
    simp only [cellsA, if_true]
    rw [if_neg (by omega), hX]
    simp only
    rw [if_pos (by omega)]
  have hcp1 : copyA H sz (.sl sz o ((i + m) * sz) (i + d + m - (i + m)) (some (c - (i + m)))) (i + d + m - i) ((X.drop (i * sz)).take ((i + d + m - i) * sz)) = some (d, H.set o (.cells (setsA X ((i + m) * sz) (cs.drop (i * sz))))) := by
    simp only [copyA, if_true]
    have e : min (i + d + m - i) (i + d + m - (i + m)) = d := by omega
    rw [e, if_neg (by omega), hX]
    simp only
    rw [hXd, if_pos ⟨by omega, all_get hone fun a ha => List.mem_of_mem_drop ha⟩]
  have hset : (H.set o (.cells (setsA X ((i + m) * sz) (cs.drop (i * sz)))))[o]? = some (.cells (setsA X ((i + m) * sz) (cs.drop (i * sz)))) := by rw [List.getElem?_set_self hol]
  have hc2 : cellsA (H.set o (.cells (setsA X ((i + m) * sz) (cs.drop (i * sz))))) sz (.sl sz q 0 m capq) = some (m, ds) := by
    have hZl : m * sz ≤ Z.length := by have := congrArg List.length hZd; rw [hdl, List.length_take] at this; omega
    simp only [cellsA, if_true]
    rw [if_neg hm, List.getElem?_set_ne (fun e => hq e.symm), hZ]
    simp only
    rw [if_pos (by omega), List.drop_zero, hZd]
  have hcp2 : copyA (H.set o (.cells (setsA X ((i + m) * sz) (cs.drop (i * sz))))) sz (.sl sz o (i * sz) (i + d + m - i) (some (c - i))) m ds = some (m, H.set o (.cells (setsA (setsA X ((i + m) * sz) (cs.drop (i * sz))) (i * sz) ds))) := by
    have et : ds.take (m * sz) = ds := List.take_of_length_le (by omega)
    simp only [copyA, if_true]
    have e : min m (i + d + m - i) = m := by omega
    rw [e, if_neg hm, hset]
    simp only
    rw [if_pos ⟨by rw [setsA_len]; omega, all_get hd fun a ha => List.mem_of_mem_take ha⟩, et, List.set_set]
  have hfin := hQ (setsA (setsA X ((i + m) * sz) (cs.drop (i * sz))) (i * sz) ds) (by rw [setsA_len, setsA_len]) (by
    intro j a hj
    have hlt : (cs.take (i * sz)).length = i * sz := by rw [List.length_take]; omega
    have hdl' : (cs.drop (i * sz)).length = d * sz := by rw [List.length_drop]; omega
    rw [setsA_get _ _ _ (by rw [setsA_len]; omega), setsA_get _ _ _ (by omega)]
    unfold insL at hj
    rcases Nat.lt_or_ge j (i * sz) with h1 | h1
    · have e2 : (cs.take (i * sz) ++ (ds ++ cs.drop (i * sz)))[j]? = (cs.take (i * sz))[j]? := List.getElem?_append_left (by omega)
      rw [e2, List.getElem?_take_of_lt h1, ← hcs, List.getElem?_take_of_lt (by omega)] at hj
      rw [if_neg (by omega), if_neg (by omega)]; exact hj
    · rw [List.getElem?_append_right (l₁ := cs.take (i * sz)) (l₂ := ds ++ cs.drop (i * sz)) (by omega), hlt] at hj
      rcases Nat.lt_or_ge j ((i + m) * sz) with h2 | h2
      · rw [List.getElem?_append_left (by omega)] at hj
        rw [if_pos (by omega)]; exact hj
      · rw [List.getElem?_append_right (l₁ := ds) (by omega), hdl] at hj
        have := getElem?_lt hj
        rw [if_neg (by omega), if_pos (by omega), ← hj]
        congr 1; omega)
  have hs1 : sliceF sz (.sl sz o 0 (i + d) (some c)) (some (iv i)) none none = some (.sl sz o (i * sz) d (some (c - i))) := by rw [slice_from (by omega), E5]; simp
  have ht : sliceF sz (.sl sz o 0 (i + d) (some c)) none (some (iv (i + d + m))) none = some (.sl sz o 0 (i + d + m) (some c)) := slice_to hg
  have hs2 : sliceF sz (.sl sz o 0 (i + d + m) (some c)) (some (iv (i + m))) none none = some (.sl sz o ((i + m) * sz) (i + d + m - (i + m)) (some (c - (i + m)))) := by rw [slice_from (by omega)]; simp
  have hs3 : sliceF sz (.sl sz o 0 (i + d + m) (some c)) (some (iv i)) none none = some (.sl sz o (i * sz) (i + d + m - i) (some (c - i))) := by rw [slice_from (by omega)]; simp
  have hb0 : binF .eql (iv m) (iv 0) = some (.v (.bool false)) := by rw [eql_iv, decide_eq_false hm]
  have hb1 : binF .eql (iv i) (iv (i + d)) = some (.v (.bool false)) := by rw [eql_iv, decide_eq_false (by omega)]
  have hb2 : binF .gtr (iv (i + d + m)) (iv c) = some (.v (.bool false)) := by rw [gtr_iv, decide_eq_false (by omega)]
  have ha1 : binF .add (iv (i + d)) (iv m) = some (iv (i + d + m)) := add_iv (by omega)
  have ha2 : binF .add (iv i) (iv m) = some (iv (i + m)) := add_iv (by omega)
  have hZl : 0 < Z.length := by
    have h1 : 1 * sz ≤ m * sz := Nat.mul_le_mul_right _ (by omega)
    have := congrArg List.length hZd
    rw [hdl, List.length_take] at this
    omega
  have hov1 : (XOp.ovl (.s 0) (.s 1)).run (fun t => if t = 0 then .sl sz q 0 m capq else .sl sz o ((i + m) * sz) (i + d + m - (i + m)) (some (c - (i + m)))) H = some (.v (.bool false), H) := by
    show (match H[q]?, H[o]? with
      | some (.cells cs), some (.cells ds) => if (q ≠ o ∧ 0 < cs.length ∧ (i + m) * sz < ds.length) ∧ m ≠ 0 ∧ i + d + m - (i + m) ≠ 0 then some (AV.v (.bool false), H) else none
      | _, _ => none) = _
    rw [hZ, hX]
    simp only
    have hdz : 1 * sz ≤ d * sz := Nat.mul_le_mul_right _ (by omega)
    rw [if_pos ⟨⟨hq, hZl, by omega⟩, hm, by omega⟩]
  have hlen1 : lenF false (.sl sz o 0 (i + d) (some c)) = some (i + d) := rfl
  have hlen3 : lenF false (.sl sz q 0 m capq) = some m := rfl
  clear hQ hZl hXd hcl hcz E1 E2 E3 E4 E5 hset hX hXl hcs hone hd hdl hol hZ hZd
  generalize i + d + m - i = k1 at *
  generalize i + d + m - (i + m) = k2 at *
  generalize i + d + m = nm at *
  generalize setsA (setsA X ((i + m) * sz) (cs.drop (i * sz))) (i * sz) ds = Y2 at *
  generalize setsA X ((i + m) * sz) (cs.drop (i * sz)) = Y1 at *
  generalize hS : AV.sl sz o 0 (i + d) (some c) = S at *
  generalize hV : AV.sl sz q 0 m capq = V at *
  generalize hI : iv i = I at *
  generalize hR : AV.sl sz o 0 nm (some c) = R at *
  refine vs_ops (vo_p (.v (.slice none 0 0)) rfl ?_)
  refine vs_ops (vo_mv S rfl (vo_mv I rfl (vo_p _ (from_eq (S := S) (I := I) rfl rfl hs1) ?_)))
  refine vs_ops (vo_mv V rfl (vo_p (iv m) (len_iv (S := V) rfl hlen3) (vo_mv (iv m) rfl ?_)))
  refine vs_ops2 (vo_mv (iv m) rfl (vo_p (.v (.bool false)) hb0 (vc_f rfl ?_)))
  refine vs_ops (vo_mv S rfl (vo_p (iv (i + d)) (len_iv (S := S) rfl hlen1) (vo_mv (iv (i + d)) rfl ?_)))
  refine vs_ops2 (vo_mv I rfl (vo_mv (iv (i + d)) rfl (vo_p (.v (.bool false)) (bin_eq (X := I) (Y := iv (i + d)) rfl rfl hb1) (vc_f rfl ?_))))
  refine vs_ops2 (vo_mv (iv (i + d)) rfl (vo_mv (iv m) rfl (vo_p (iv nm) (bin_eq (X := iv (i + d)) (Y := iv m) rfl rfl ha1) (vo_mv S rfl (vo_m' (iv c) H H rfl (by subst hS; rfl) (vo_p (.v (.bool false)) (bin_eq (X := iv nm) (Y := iv c) rfl rfl hb2) (vc_f rfl ?_)))))))
  refine vs_ops (vo_mv S rfl (vo_mv (iv (i + d)) rfl (vo_mv (iv m) rfl (vo_p (iv nm) (bin_eq (X := iv (i + d)) (Y := iv m) rfl rfl ha1) (vo_p R (to_eq (S := S) (I := iv nm) rfl rfl ht) (vo_mv R rfl ?_))))))
  refine vs_ops2 (vo_mv V rfl (vo_mv R rfl (vo_mv I rfl (vo_mv (iv m) rfl (vo_p (iv (i + m)) (bin_eq (X := I) (Y := iv m) rfl rfl ha2) (vo_p (.sl sz o ((i + m) * sz) k2 (some (c - (i + m)))) (from_eq (S := R) (I := iv (i + m)) rfl rfl hs2) ?_))))))
  refine vo_m' (.v (.bool false)) H H rfl (by subst hV; exact hov1) ?_
  refine vo_p (.v (.bool true)) rfl (vc_t rfl ?_)
  refine vs_draw (vd_mv R rfl (vd_mv I rfl (vd_mv (iv m) rfl (vd_p (iv (i + m)) (bin_eq (X := I) (Y := iv m) rfl rfl ha2) (vd_p (.sl sz o ((i + m) * sz) k2 (some (c - (i + m)))) (from_eq (S := R) (I := iv (i + m)) rfl rfl hs2) ?_)))))
  refine vd_mv R rfl (vd_mv I rfl (vd_p (.sl sz o (i * sz) k1 (some (c - i))) (from_eq (S := R) (I := I) rfl rfl hs3) ?_))
  refine vd_m' (iv d) H (H.set o (.cells Y1)) rfl (copy_eq (X := .sl sz o ((i + m) * sz) k2 (some (c - (i + m)))) (Y := .sl sz o (i * sz) k1 (some (c - i))) rfl rfl hc1 hcp1) ?_
  refine vs_ops (vo_mv R rfl (vo_mv I rfl (vo_p (.sl sz o (i * sz) k1 (some (c - i))) (from_eq (S := R) (I := I) rfl rfl hs3) (vo_mv V rfl ?_))))
  refine vo_m' (iv m) (H.set o (.cells Y1)) (H.set o (.cells Y2)) rfl (copy_eq (X := .sl sz o (i * sz) k1 (some (c - i))) (Y := V) rfl rfl hc2 hcp2) ?_
  refine vs_ops (vo_mv R rfl (vo_mv R rfl ?_))
  exact ⟨_, rfl, hfin⟩

theorem sl_inv {β : Nat → Em} {H : Heap} {w : World} {o off len c : Nat} {d : Value} (hr : RepH β H w (.sl sz o off len (some c)) d) (h0 : len ≠ 0) : d = .slice (some ⟨(β o).blk, (β o).off + off, none⟩) len c := by
  cases hr with
  | slZero p _ _ => exact absurd rfl h0
  | sl ho hl hc hn => obtain ⟨e, _⟩ := hc c rfl; rw [e]

theorem ins_acalls {f : Nat} {x : FI} (hk : Knows P f x) {args : List AV} (hl : args.length ≤ x.n) {H : Heap} (h : ∀ N, vc P N x.code (retQ x.rs Q) ⟨envOf args, H⟩) : ACalls P f args H Q := by
  obtain ⟨fn, body, k1, k2, k3, k4, k5, k6⟩ := hk
  exact acalls_wp k1 k2 k3 k5 (by rw [← k6]; exact hl) (vc_sound _ _ k4 _ _ (h _))

/-- Within a row: whatever room there is. -/
theorem ins_mid {f n0 : Nat} (hk : Knows P f ⟨n0, insCode sz bytes h rot zs, [.tmp 6]⟩) (h0 : 3 ≤ n0) (hsz : 0 < sz) (hz : zs.length = sz) (hzo : zs.all AV.one = true) {o q n m i : Nat} {acap capq : Option Nat} {H : Heap} {X cs ds Z : List AV}
    (hi : i < n) (hm : m ≠ 0) (hb : (n + m) * bytes ≤ LIM) (hl : n + m ≤ LIM) (hX : H[o]? = some (.cells X)) (hcs : X.take (n * sz) = cs) (hcl : n * sz ≤ X.length) (hone : cs.all AV.one = true)
    (hq : q ≠ o) (hZ : H[q]? = some (.cells Z)) (hZd : Z.take (m * sz) = ds) (hd : ds.all AV.one = true) (hdl : ds.length = m * sz) :
    ACalls P f [.sl sz o 0 n acap, iv i, .sl sz q 0 m capq] H fun r H' => r = .sl sz H.length 0 (n + m) none ∧ H' = H.set o .dead ++ [.cells (insL cs ds (i * sz))] := by
  have ok : Callable P f := by
    obtain ⟨fn, body, k1, k2, k3, _⟩ := hk
    exact ⟨fn, k1, k2, by rw [k3]; rfl⟩
  have hol : o < H.length := getElem?_lt hX
  have hZl : m * sz ≤ Z.length := by have := congrArg List.length hZd; rw [hdl, List.length_take] at this; omega
  refine ⟨ok, fun B β w vs s hlen hargs => ?_⟩
  have hvs : ∃ c0 c1 c2, vs = #[c0, c1, c2] := by
    have h3 : vs.size = 3 := by simpa using hlen.symm
    match vs, h3 with
    | ⟨[a, b, c]⟩, _ => exact ⟨a, b, c, rfl⟩
  obtain ⟨c0, c1, c2, rfl⟩ := hvs
  have r0 := hargs 0 _ c0 rfl rfl
  have r1 := hargs 1 _ c1 rfl rfl
  have r2 := hargs 2 _ c2 rfl rfl
  cases r0 with
  | slZero p _ _ => omega
  | @sl _ _ _ _ cap' _ ho hle hc hn =>
    have htot : cap' * sz ≤ (β o).tot := by
      cases acap with
      | none => have := hn rfl; omega
      | some k => obtain ⟨e1, e2⟩ := hc k rfl; rw [e1]; omega
    have hbase := (s.base o X hX).2.2
    obtain ⟨s2, t2⟩ := s.reveal hX (cap' * sz - X.length) (by omega)
    have hH2l : (H.set o (.cells (X ++ List.replicate (cap' * sz - X.length) AV.any))).length = H.length := by simp
    have hX2 : (H.set o (.cells (X ++ List.replicate (cap' * sz - X.length) AV.any)))[o]? = some (.cells (X ++ List.replicate (cap' * sz - X.length) AV.any)) := by rw [List.getElem?_set_self hol]
    have hX2l : cap' * sz ≤ (X ++ List.replicate (cap' * sz - X.length) AV.any).length := by simp; omega
    have hcs2 : (X ++ List.replicate (cap' * sz - X.length) AV.any).take (n * sz) = cs := by rw [List.take_append_of_le_length hcl, hcs]
    have hZ2 : (H.set o (.cells (X ++ List.replicate (cap' * sz - X.length) AV.any)))[q]? = some (.cells Z) := by rw [List.getElem?_set_ne (fun e => hq e.symm)]; exact hZ
    have hargs2 : ∀ (j : Nat) (a : AV) (c : Value), [AV.sl sz o 0 n (some cap'), iv i, .sl sz q 0 m capq][j]? = some a → (#[Value.slice (some ⟨(β o).blk, (β o).off + 0, none⟩) n cap', c1, c2] : Array Value)[j]? = some c → RepH β (H.set o (.cells (X ++ List.replicate (cap' * sz - X.length) AV.any))) w a c := by
      intro j a c ha hcc
      match j, ha, hcc with
      | 0, ha, hcc =>
        cases ha; cases hcc
        exact .sl (by rw [hH2l]; exact ho) hle (fun k hk => by cases hk; exact ⟨rfl, by omega⟩) (fun h => by cases h)
      | 1, ha, hcc => cases ha; cases hcc; exact t2.rep r1
      | 2, ha, hcc => cases ha; cases hcc; exact t2.rep r2
      | j + 3, ha, _ => simp at ha
    rcases Nat.lt_or_ge cap' (n + m) with hg | hg
    · -- a new row
      have key := ins_acalls (P := P) (Q := fun r H' => r = .sl sz H.length 0 (n + m) none ∧ H' = H.set o (.cells (X ++ List.replicate (cap' * sz - X.length) AV.any)) ++ [.cells (insL cs ds (i * sz))]) hk (args := [.sl sz o 0 n (some cap'), iv i, .sl sz q 0 m capq]) h0
        (H := H.set o (.cells (X ++ List.replicate (cap' * sz - X.length) AV.any))) (fun N => ins_grow hsz hi hm hle hg hb hl
          (Nat.le_trans (Nat.mul_le_mul_right _ (by omega)) (Nat.le_trans hb (by decide))) hX2 hX2l hcs2 hone hz hzo rfl (fun H' hH => by
            have hql : q < (H.set o (.cells (X ++ List.replicate (cap' * sz - X.length) AV.any))).length := getElem?_lt hZ2
            simp only [cellsA, if_true]
            rw [if_neg hm, hH q hql, hZ2]
            simp only
            rw [if_pos (by omega), List.drop_zero, hZd]) hd hdl ⟨by rw [hH2l], rfl⟩)
      refine Calls.mono (key.go B β w _ s2 rfl hargs2) ?_
      rintro e w' ⟨r, c, β', H', rfl, ⟨rfl, rfl⟩, hrep, s3, t3⟩
      obtain ⟨s4, t4⟩ := s3.kill o
      have e1 : (H.set o (AObj.cells (X ++ List.replicate (cap' * sz - X.length) AV.any)) ++ [AObj.cells (insL cs ds (i * sz))]).set o AObj.dead = H.set o AObj.dead ++ [AObj.cells (insL cs ds (i * sz))] := by
        rw [List.set_append_left _ _ (by simp; omega), List.set_set]
      rw [e1] at s4 t4
      exact ⟨_, c, β', _, rfl, ⟨rfl, rfl⟩, t4.rep hrep, s4, (t2.trans t3).trans t4⟩
    · -- in place
      have key := ins_acalls (P := P) (Q := fun r H' => r = .sl sz o 0 (n + m) (some cap') ∧ ∃ X' : List AV, (∀ (j : Nat) (a : AV), (insL cs ds (i * sz))[j]? = some a → X'[j]? = some a) ∧ H' = (H.set o (.cells (X ++ List.replicate (cap' * sz - X.length) AV.any))).set o (.cells X')) hk (args := [.sl sz o 0 n (some cap'), iv i, .sl sz q 0 m capq]) h0
        (H := H.set o (.cells (X ++ List.replicate (cap' * sz - X.length) AV.any))) (fun N => ins_room hsz hi hm hg hl hX2 hX2l hcs2 hone hq hZ2 hZd hd hdl (fun X' _ hX' => ⟨rfl, X', hX', rfl⟩))
      refine Calls.mono (key.go B β w _ s2 rfl hargs2) ?_
      rintro e w' ⟨r, c, β', H', rfl, ⟨rfl, X', hX', rfl⟩, hrep, s3, t3⟩
      have hem : β' o = β o := t3.em o (by rw [hH2l]; exact hol)
      have hcsl : cs.length = n * sz := by rw [← hcs, List.length_take]; omega
      have hins : (insL cs ds (i * sz)).length = (n + m) * sz := by
        have e1 : (n + m) * sz = n * sz + m * sz := Nat.add_mul _ _ _
        have e2 : i * sz ≤ n * sz := Nat.mul_le_mul_right _ (by omega)
        unfold insL; simp only [List.length_append, List.length_take, List.length_drop]; omega
      have hnm : (n + m) * sz ≤ cap' * sz := Nat.mul_le_mul_right _ hg
      obtain ⟨s4, t4⟩ := s3.move (o := o) (cs := X') (by rw [List.getElem?_set_self (by simp; exact hol)]) 0 (insL cs ds (i * sz)) (fun j a hj => by rw [Nat.zero_add]; exact hX' j a hj) (cap' * sz) (by omega) (by rw [hem]; omega)
      have e1 : ((H.set o (AObj.cells (X ++ List.replicate (cap' * sz - X.length) AV.any))).set o (.cells X')).set o .dead = H.set o .dead := by rw [List.set_set, List.set_set]
      have e2 : ((H.set o (AObj.cells (X ++ List.replicate (cap' * sz - X.length) AV.any))).set o (.cells X')).length = H.length := by simp
      rw [e1, e2] at s4 t4
      refine ⟨_, c, _, _, rfl, ⟨rfl, rfl⟩, ?_, s4, (t2.trans t3).trans t4⟩
      have hd := sl_inv hrep (by omega)
      subst hd
      have hb : Em.set β' H.length ⟨(β' o).blk, (β' o).off + 0, cap' * sz⟩ H.length = ⟨(β' o).blk, (β' o).off + 0, cap' * sz⟩ := Em.set_same _ _ _
      have := Rep.sl (β := Em.set β' H.length ⟨(β' o).blk, (β' o).off + 0, cap' * sz⟩) (n := (H.set o AObj.dead ++ [AObj.cells (insL cs ds (i * sz))]).length)
        (R := RO (Em.set β' H.length ⟨(β' o).blk, (β' o).off + 0, cap' * sz⟩) (H.set o AObj.dead ++ [AObj.cells (insL cs ds (i * sz))]) w')
        (sz := sz) (o := H.length) (off := 0) (len := n + m) (cap' := cap') (cap := none) (by simp) hg (fun c h => by cases h) (fun _ => by rw [hb]; simp)
      rw [hb] at this
      exact this

end

/-! ### within a run -/

/-- Insertions within a row, as a run knows them. -/
def insPrim (f sz bytes : Nat) : Called := fun g args H =>
  match Nat.beq f g with
  | true => match args with
    | [.sl s o 0 n _, .v (.int .i64 (.ofNat i)), .sl s' q 0 m _] => match H[o]?, H[q]? with
      | some (.cells X), some (.cells Z) =>
        if s = sz ∧ s' = sz ∧ i < n ∧ m ≠ 0 ∧ (n + m) * bytes ≤ LIM ∧ n + m ≤ LIM ∧ n * sz ≤ X.length ∧ m * sz ≤ Z.length ∧ q ≠ o ∧ (X.take (n * sz)).all AV.one = true ∧ (Z.take (m * sz)).all AV.one = true then
          some (.sl sz H.length 0 (n + m) none, H.set o .dead ++ [.cells (insL (X.take (n * sz)) (Z.take (m * sz)) (i * sz))])
        else none
      | _, _ => none
    | _ => none
  | false => none

theorem insPrim_says {P : Program} {f n0 sz bytes h rot : Nat} {zs : List AV} (hk : Knows P f ⟨n0, insCode sz bytes h rot zs, [.tmp 6]⟩) (h0 : Nat.ble 3 n0 = true) (hsz : Nat.blt 0 sz = true) (hz : zs.length = sz) (hzo : zs.all AV.one = true) :
    Says P (insPrim f sz bytes) := by
  intro g args H r H' h
  unfold insPrim at h
  split at h
  · rename_i hg
    have := nbeq_true hg
    subst this
    split at h
    · rename_i s o n acap i s' q m capq
      split at h
      · rename_i X Z hX hZ
        split at h
        · rename_i hc
          obtain ⟨rfl, rfl, c1, c2, c3, c4, c5, c6, c7, c8, c9⟩ := hc
          cases h
          exact ins_mid hk (Nat.le_of_ble_eq_true h0) (Nat.le_of_ble_eq_true hsz) hz hzo c1 c2 c3 c4 hX rfl c5 c8 c7 hZ rfl c9 (by rw [List.length_take]; omega)
        · cases h
      · cases h
    · cases h
  · cases h

/-! ### slices.Grow of a nil slice -/

section
variable (sz bytes h ty : Nat) (str : ByteArray) (zs : List AV)

def grw1 : ACode := .cond (.s 16) (.ops [mvI 17 0, mvI 18 0, ⟨some 19, .m (.ext (.capK (.s 18))), none, h⟩, toI sz 20 17 19, mvI 21 1, ⟨some 22, .m (.appendZ sz bytes zs (.s 20) (.s 21)), none, h⟩, mvI 23 0, ⟨some 24, .p (.len false (.s 23)), none, h⟩, toI sz 25 22 24, mvI 0 25]) .skip
def grw2 : ACode := .seq (.seq (.ops [mvI 8 1, mvI 9 0, ⟨some 10, .m (.ext (.capK (.s 9))), none, h⟩, mvI 11 0, ⟨some 12, .p (.len false (.s 11)), none, h⟩, ⟨some 13, .p (.bin .sub (.s 10) (.s 12)), none, 0⟩, ⟨some 14, .p (.bin .sub (.s 8) (.s 13)), none, 0⟩, mvI 1 14])
  (.seq (.ops [mvI 15 1, ⟨some 16, .p (.bin .gtr (.s 15) (.c (.v (.int .i64 0)))), none, 0⟩]) (grw1 sz bytes h zs))) (.seq (.ops [mvI 26 0, mvI 4 26]) .ret)
def growCode : ACode := .seq (.ops [⟨some 4, .p (.mov (.c (.v (.slice none 0 0)))), none, 0⟩]) (.seq (.seq (.ops [mvI 5 1, ⟨some 6, .p (.bin .lss (.s 5) (.c (.v (.int .i64 0)))), none, 0⟩])
  (.cond (.s 6) (.ops [⟨some 7, .p (.mkIfc ty (.c (.v (.string str)))), none, 0⟩, ⟨none, .never, none, 0⟩]) .skip)) (grw2 sz bytes h zs))
end

theorem lss_iv {a b : Nat} : binF .lss (iv a) (iv b) = some (.v (.bool (decide (a < b)))) := by
  have : (decide ((a : Int) < (b : Int))) = decide (a < b) := by rw [decide_eq_decide]; omega
  unfold iv
  rw [← this]; rfl

section
variable {P : Program} {N : Nat} {sz bytes h ty : Nat} {str : ByteArray} {zs : List AV} {Q : AV → Heap → Prop}

theorem grow_nil {n : Nat} {H : Heap} (hb : n * bytes ≤ LIM) (hl : n ≤ LIM) (hQ0 : n = 0 → Q (.v (.slice none 0 0)) H) (hQ : n ≠ 0 → Q (.sl sz H.length 0 0 none) (H ++ [.cells (repA n zs)])) :
    vc P N (growCode sz bytes h ty str zs) (retQ [.tmp 4] Q) ⟨envOf [.v (.slice none 0 0), iv n], H⟩ := by
  have hL : LIM < 9223372036854775808 := by decide
  have hL2 : LIM ≤ 281474976710656 := by decide
  have b0 : binF .lss (iv n) (iv 0) = some (.v (.bool false)) := by rw [lss_iv, decide_eq_false (by omega)]
  have b1 : binF .sub (iv 0) (iv 0) = some (iv 0) := sub_iv (by omega) (by omega)
  have b2 : binF .sub (iv n) (iv 0) = some (iv n) := sub_iv (by omega) (by omega)
  generalize hN : AV.v (.slice none 0 0) = nil at *
  refine vs_ops (vo_p nil (by subst hN; rfl) ?_)
  refine vs_ops2 (vo_mv (iv n) rfl (vo_p (.v (.bool false)) ?_ (vc_f rfl ?_)))
  · exact Eq.trans (b := binF .lss (iv n) (iv 0)) rfl b0
  refine vs_ops2 (vo_mv (iv n) rfl (vo_mv nil rfl (vo_m' (iv 0) H H rfl (by subst hN; rfl) (vo_mv nil rfl (vo_p (iv 0) (len_iv (S := nil) rfl (by subst hN; rfl)) (vo_p (iv 0) (bin_eq (X := iv 0) (Y := iv 0) rfl rfl b1) (vo_p (iv n) (bin_eq (X := iv n) (Y := iv 0) rfl rfl b2) (vo_mv (iv n) rfl ?_))))))))
  by_cases hn : n = 0
  · have b3 : binF .gtr (iv n) (iv 0) = some (.v (.bool false)) := by rw [gtr_iv, decide_eq_false (by omega)]
    refine vs_ops (vo_mv (iv n) rfl (vo_p (.v (.bool false)) ?_ (vc_f rfl ?_)))
    · exact Eq.trans (b := binF .gtr (iv n) (iv 0)) rfl b3
    refine vs_ops (vo_mv nil rfl (vo_mv nil rfl ?_))
    exact ⟨nil, rfl, hQ0 hn⟩
  · have b3 : binF .gtr (iv n) (iv 0) = some (.v (.bool true)) := by rw [gtr_iv, decide_eq_true (by omega)]
    have happ : appendA H sz bytes nil n (repA n zs) = some (.sl sz H.length 0 n none, H ++ [.cells (repA n zs)]) := by
      subst hN
      simp only [appendA]
      rw [if_neg hn, if_pos ⟨hb, hl⟩]
    have hs1 : sliceF sz nil none (some (iv 0)) none = some nil := by subst hN; rfl
    have hs2 : sliceF sz (.sl sz H.length 0 n none) none (some (iv 0)) none = some (.sl sz H.length 0 0 none) := by
      have hb' : boundF (iv 0) n = some 0 := by
        simp only [boundF, iv]; rw [if_pos (by omega)]; simp
      have hB : boundsF n n none (some (iv 0)) none = some (0, 0, n) := by delta boundsF; simp only [hb']
      simp only [sliceF, if_true, Option.getD_none, hB, Option.map_some, newCap, Nat.zero_mul, Nat.add_zero, Nat.sub_zero, Option.map_none]
    have hQ := hQ hn
    generalize H.length = L at *
    generalize hZ : repA n zs = Z at *
    refine vs_ops (vo_mv (iv n) rfl (vo_p (.v (.bool true)) ?_ (vc_t rfl ?_)))
    · exact Eq.trans (b := binF .gtr (iv n) (iv 0)) rfl b3
    refine vo_mv nil rfl (vo_mv nil rfl (vo_m' (iv 0) H H rfl (by subst hN; rfl) (vo_p nil (to_eq (S := nil) (I := iv 0) rfl rfl hs1) (vo_mv (iv n) rfl ?_))))
    refine vo_m' (.sl sz L 0 n none) H (H ++ [.cells Z]) rfl ?_ ?_
    · have ex : ∀ {ρ : Nat → AV}, ρ 20 = nil → ρ 21 = iv n → (MOp.appendZ sz bytes zs (.s 20) (.s 21)).run ρ H = some (.sl sz L 0 n none, H ++ [.cells Z]) := by
        intro ρ e1 e2
        exact appZ_eq e1 e2 (by omega) (by rw [hZ]; exact happ)
      exact ex rfl rfl
    refine vo_mv nil rfl (vo_p (iv 0) (len_iv (S := nil) rfl (by subst hN; rfl)) (vo_p (.sl sz L 0 0 none) (to_eq (S := .sl sz L 0 n none) (I := iv 0) rfl rfl hs2) (vo_mv (.sl sz L 0 0 none) rfl ?_)))
    refine vs_ops (vo_mv (.sl sz L 0 0 none) rfl (vo_mv (.sl sz L 0 0 none) rfl ?_))
    exact ⟨_, rfl, hQ⟩

end

end Go.Ab

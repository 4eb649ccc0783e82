/- A part of a law's proof: AbClone. -/
import Derived.Test.YtdeenejbgfmchaaGreatAbIns
set_option linter.constructorNameAsVariable false
/-
  slices.Clone of a row that is only read: a row with the same elements, whatever is nothing.
-/
namespace Go.Ab
open Go Go.RowKit
set_option linter.unusedVariables false
set_option linter.unusedSimpArgs false
def nilA : AV := .v (.slice none 0 0)
structure CloneAt (P : Program) (f n0 T sz bytes h : Nat) (fn : Func) (c1 c2 c3 c4 : Code) : Prop where
  func : P.funcs[f]? = some fn
  name : (fn.name == "runtime.NumGoroutine") = false
  body : fn.body = some (.seq c1 (.seq (.seq c2 c3) c4))
  res : fn.results.toList.mapM (trR P) = some [.tmp 2]
  tmps : fn.ntmps = n0
  t1 : trC P n0 c1 = some (.ops [⟨some 2, .p (.mov (.c (.v (.slice none 0 0)))), none, 0⟩])
  t2 : trC P n0 c2 = some (.ops [⟨some 3, .p (.mov (.s 0)), none, 0⟩, ⟨some 4, .p (.eqn false (.slice T) (.s 3)), none, 0⟩])
  t3 : trC P n0 c3 = some (.cond (.s 4) (.seq (.ops [⟨some 2, .p (.mov (.c (.v (.slice none 0 0)))), none, 0⟩]) .ret) .skip)
  t4 : trC P n0 c4 = some (.seq (.ops [⟨some 5, .m (.buildSlice sz 0 [] []), none, h⟩, ⟨some 6, .p (.mov (.s 0)), none, 0⟩, ⟨some 7, .m (.append sz bytes (.s 5) (.s 6)), none, h⟩, ⟨some 2, .p (.mov (.s 7)), none, 0⟩]) .ret)
theorem flat_cells_len {sz : Nat} : ∀ {xs : List AV}, (∀ x ∈ xs, x.cells.length = sz) -> (xs.flatMap AV.cells).length = xs.length * sz := by
  intro xs
  induction xs with
  | nil => intro _; simp
  | cons x xs ih =>
    intro h
    rw [List.flatMap_cons, List.length_append, h x (by simp), ih (fun y hy => h y (by simp [hy])), List.length_cons, Nat.add_mul, Nat.one_mul, Nat.add_comm]
theorem flat_cells_get {sz : Nat} : ∀ {xs : List AV}, (∀ x ∈ xs, x.cells.length = sz) -> ∀ {i j : Nat} {x q : AV}, xs[i]? = some x -> x.cells[j]? = some q -> (xs.flatMap AV.cells)[i * sz + j]? = some q := by
  intro xs
  induction xs with
  | nil => intro _ i j x q hx; simp at hx
  | cons y ys ih =>
    intro h i j x q hx hq
    have hy := h y (by simp)
    rw [List.flatMap_cons]
    cases i with
    | zero =>
      simp at hx; subst hx
      rw [Nat.zero_mul, Nat.zero_add, List.getElem?_append_left (getElem?_lt hq)]
      exact hq
    | succ i =>
      rw [List.getElem?_append_right (by rw [hy, Nat.add_mul]; omega), hy, show (i + 1) * sz + j - sz = i * sz + j by rw [Nat.add_mul]; omega]
      exact ih (fun z hz => h z (by simp [hz])) (by simpa using hx) hq
section
variable {P : Program} {N : Nat}
theorem AWp.view {c : Code} {Q : AExit -> St -> Prop} {s : St} (t : Nat) (h : ∀ v, (∃ β n R, Rep β n R (s.env t) v) -> AWp P N c (fun e s' => s'.env t = .v v ∧ Q e ⟨upd s'.env t (s.env t), s'.heap⟩) ⟨upd s.env t (.v v), s.heap⟩) : AWp P N c Q s := by
  intro B β a w hr
  have hrv : Rel N B β ⟨upd s.env t (.v (a.tmps.getD t undef)), s.heap⟩ a w := by
    refine ⟨hr.sim, fun k => ?_, hr.defers, hr.size⟩
    show RepH β s.heap w (upd s.env t (.v (a.tmps.getD t undef)) k) _
    by_cases hk : k = t
    · subst hk; rw [upd_same]; exact .v _
    · rw [upd_ne _ _ hk]; exact hr.rep k
  refine wp_mono (h _ ⟨_, _, _, hr.rep t⟩ B β a w hrv) ?_
  rintro e a' w' ⟨x, s', β', rfl, ⟨h1, h2⟩, hr', ht⟩
  refine ⟨x, _, β', rfl, h2, ⟨hr'.sim, fun k => ?_, hr'.defers, hr'.size⟩, ht⟩
  show RepH β' s'.heap w' (upd s'.env t (s.env t) k) _
  by_cases hk : k = t
  · subst hk
    rw [upd_same]
    have := hr'.rep k
    rw [h1] at this
    have e : a'.tmps.getD k undef = a.tmps.getD k undef := rep_v this
    rw [e]
    exact ht.rep (hr.rep k)
  · rw [upd_ne _ _ hk]; exact hr'.rep k
theorem clone_acalls {f n0 T sz bytes h : Nat} {fn : Func} {c1 c2 c3 c4 : Code} (hk : CloneAt P f n0 T sz bytes h fn c1 c2 c3 c4) (hn : 1 <= n0) {xs : List AV} (hsz : ∀ x ∈ xs, x.cells.length = sz) (hone : (xs.flatMap AV.cells).all AV.one = true)
    (hb : ∀ x ∈ xs, ∀ a ∈ x.cells, a.shut = true) (hl : xs.length * bytes <= LIM ∧ xs.length <= LIM) (H : Heap) : ACalls P f [.lst sz xs] H fun r H' => r = .lst sz xs ∧ H' = H := by
  obtain ⟨k1, k2, k3, k4, rfl, t1, t2, t3, t4⟩ := hk
  refine ACalls.frz (acalls_wp k1 k2 k3 k4 (by simpa using hn) ?_)
  refine AWp.seq (vc_sound c1 _ t1 _ _ ?_)
  refine vo_p nilA rfl ?_
  refine AWp.seq (AWp.seq ?_)
  refine AWp.view 0 fun v hv => vc_sound c2 _ t2 _ _ ?_
  have hv : ∃ a len cap, v = .slice a len cap ∧ (a = none -> xs = []) := by
    obtain ⟨β, n, R, hv⟩ := hv
    have hv : Rep β n R (.lst sz xs) v := hv
    cases hv with
    | lstNil _ a cap => exact ⟨a, 0, cap, rfl, fun _ => rfl⟩
    | lst cv hc hR hs hh => exact ⟨_, _, _, rfl, fun h => by cases h⟩
  obtain ⟨a, len, cap, rfl, hav⟩ := hv
  refine vo_p (.v (.slice a len cap)) rfl (vo_p (.v (.bool a.isNone)) ?_ ⟨rfl, ?_⟩)
  · simp [POp.run, AX.ev, St.put, upd, nilF]
  refine vc_sound c3 _ t3 _ _ ?_
  cases a with
  | none =>
    refine vc_t rfl ?_
    refine vs_ops (vo_p nilA rfl ?_)
    refine ⟨nilA, rfl, [], .lst sz [], by simp [St.put], ?_, by rw [hav rfl], rfl⟩
    exact .nil0
  | some ad =>
    refine vc_f rfl ?_
    refine vc_sound c4 _ t4 _ _ ?_
    refine vs_ops (vo_m (.sl sz H.length 0 0 (some 0)) (H ++ [.cells []]) rfl (vo_p (.lst sz xs) rfl ?_))
    have hc : cellsA (H ++ [AObj.cells []]) sz (.lst sz xs) = some (xs.length, xs.flatMap AV.cells) := by simp [cellsA]
    by_cases hm : xs.length = 0
    · have hx : xs = [] := List.length_eq_zero_iff.1 hm
      refine vo_m' (.sl sz H.length 0 0 (some 0)) (H ++ [.cells []]) (H ++ [.cells []]) rfl ?_ (vo_p (.sl sz H.length 0 0 (some 0)) rfl ?_)
      · show (match cellsA (H ++ [AObj.cells []]) sz (.lst sz xs) with | some (m, news) => appendA (H ++ [AObj.cells []]) sz bytes (.sl sz H.length 0 0 (some 0)) m news | none => none) = _
        rw [hc]
        simp only [appendA, hm, if_true]
      · refine ⟨.sl sz H.length 0 0 (some 0), rfl, [.cells []], .lst sz [], rfl, .slZero, by rw [hx], rfl⟩
    · refine vo_m' (.sl sz (H.length + 1) 0 xs.length none) (H ++ [.cells []]) (H ++ [.cells [], .cells (xs.flatMap AV.cells)]) rfl ?_ (vo_p (.sl sz (H.length + 1) 0 xs.length none) rfl ?_)
      · show (match cellsA (H ++ [AObj.cells []]) sz (.lst sz xs) with | some (m, news) => appendA (H ++ [AObj.cells []]) sz bytes (.sl sz H.length 0 0 (some 0)) m news | none => none) = _
        rw [hc]
        have hsz0 : sz = 0 ∨ ¬ (0 + (0 + xs.length) * sz <= 0) := by
          rcases Nat.eq_zero_or_pos sz with h | h
          · exact .inl h
          · right
            have : 0 < xs.length * sz := Nat.mul_pos (by omega) h
            simp; omega
        have hlg : letgo (some 0) (0 + xs.length) (H ++ [AObj.cells []]) H.length = H ++ [AObj.cells []] := by
          simp only [letgo]; rw [if_pos (by omega)]
        simp only [appendA, if_true, if_neg hm, hone]
        have hget : (H ++ [AObj.cells []])[H.length]? = some (AObj.cells []) := by simp
        rw [hget]
        simp only [List.length_nil]
        rcases hsz0 with h0 | h0
        · subst h0
          rw [if_pos (by omega), if_neg (by omega), if_pos ⟨by rw [Nat.zero_add]; exact hl.1, by rw [Nat.zero_add]; exact hl.2, by simp⟩]
          simp
        · rw [if_neg h0, if_pos ⟨by rw [Nat.zero_add]; exact hl.1, by rw [Nat.zero_add]; exact hl.2, by simp⟩, hlg]
          simp
      · refine ⟨.sl sz (H.length + 1) 0 xs.length none, rfl, [.cells [], .cells (xs.flatMap AV.cells)], .lst sz xs, rfl, ?_, rfl, rfl⟩
        have hfl := flat_cells_len hsz
        refine .sl (cs := xs.flatMap AV.cells) (by show (H ++ [AObj.cells [], AObj.cells (xs.flatMap AV.cells)])[H.length + 1]? = _; simp) (by omega) rfl (by rw [hfl]; omega) (fun i x hx => hsz x (List.mem_of_getElem? hx)) fun i x j p q hx hq hp => ?_
        have hq' := flat_cells_get hsz hx hq
        rw [Nat.zero_add, hq'] at hp
        cases hp
        exact .same (bnd_shut (hb x (List.mem_of_getElem? hx) _ (List.mem_of_getElem? hq)))
end
end Go.Ab

/- A part of a law's proof: AbLaw. -/
import Derived.Below
import Derived.Carry
import Derived.ChangeOld
import Derived.OpenShut
import Derived.ProofKit
import Derived.ShutString
import Derived.SizedLaws
import Derived.Test.YtknpnjnnebgjeaaAbDecode
import Derived.WalkKit
set_option linter.constructorNameAsVariable false
/-
  The row of a law that returns true whatever it is handed, out of its abstract call.
-/
namespace Go.Ab
open Go Go.RowKit Go.ChangeShapes Go.WideShapes
set_option linter.unusedVariables false
set_option linter.unusedSimpArgs false

def TyAll (P : Program) (d : Nat) : List TypeId → List AV → Prop
  | [], avs => avs = []
  | t :: ts, avs => ∃ x rest, avs = x :: rest ∧ tyV P d t x ∧ TyAll P d ts rest

section
variable {H : Type} {enc : TypeId × Value → H} {P : Program} {W : World}

theorem decodeV {d : Nat} {t : TypeId} {v : Value} {x : DataW H} {ps : List MemPlace} {base b : Nat} {spare : Nat → Bool} {held : Bool} (hok : okTy P d t = true) (hv : Value.okWide P W .any b t v)
    (h : DataW.Trod enc P W base spare held t v x ps) (hw : ∀ n ∈ x.weights P t, n ≤ reachBytes) : ∃ a, RepW W a v ∧ tyV P d t a := by
  obtain ⟨fuel, hf⟩ := h
  unfold Value.okWide at hv
  have hnon : isAggT P t = false → v.cells = #[v] := by
    intro hg
    cases d with
    | zero => simp [okTy] at hok
    | succ d =>
      simp only [okTy] at hok
      unfold isAggT at hg
      cases hu : P.underlying t with
      | none => rw [hu] at hok; simp at hok
      | some k =>
        rw [hu] at hok hg hv
        cases k <;> simp at hok hg hv <;> (unfold Cell.okWide Cell.ok at hv; rw [hu] at hv; cases v <;> first | rfl | simp at hv)
  cases hg : isAggT P t with
  | false =>
    have hc := hnon hg
    rw [hc] at hf
    have hlen : ([v] : List Value).length = P.cellsOf t := by
      cases d with
      | zero => simp [okTy] at hok
      | succ d =>
        simp only [okTy] at hok
        unfold isAggT at hg
        cases hu : P.underlying t with
        | none => rw [hu] at hok; simp at hok
        | some k =>
          rw [hu] at hok hg
          cases k <;> simp at hok hg <;> simp [hok]
    obtain ⟨as, hr, ht⟩ := decode d t hok fuel [v] x ps hlen hf hw
    obtain ⟨a, rfl, ha, _⟩ := tyC_one hok hg ht
    refine ⟨a, hr.2 0 a v rfl rfl, ?_⟩
    unfold tyV
    rw [hg]
    exact ⟨ht, ha⟩
  | true =>
    obtain ⟨cs, rfl, hcs⟩ : ∃ cs, v = .agg cs ∧ cs.size = P.cellsOf t := by
      unfold isAggT at hg
      split at hg
      · rename_i hu; rw [hu] at hv; obtain ⟨cs, h1, h2, _⟩ := hv; exact ⟨cs, h1, h2⟩
      · rename_i hu; rw [hu] at hv; obtain ⟨cs, h1, h2, _⟩ := hv; exact ⟨cs, h1, h2⟩
      · cases hg
    obtain ⟨as, hr, ht⟩ := decode d t hok fuel cs.toList x ps (by simpa using hcs) hf hw
    refine ⟨.agg as, .agg (by simpa using hr.1) (fun i a c h1 h2 => hr.2 i a c h1 (by simpa using h2)), ?_⟩
    unfold tyV
    rw [hg]
    exact ⟨as, rfl, ht⟩

theorem decodeAll {d : Nat} {base b : Nat} {spare : Nat → Bool} {held : Bool} : ∀ {ts : List TypeId} {vs : List Value} {ds : List (DataW H)} {ps : List MemPlace}, DataW.TrodAll enc P W base spare held ts vs ds ps →
    (∀ (j : Nat) t v, ts[j]? = some t → vs[j]? = some v → Value.okWide P W .any b t v) → (∀ t ∈ ts, okTy P d t = true) → (∀ n ∈ DataW.weightsEach P ts ds, n ≤ reachBytes) →
    ∃ avs : List AV, avs.length = vs.length ∧ (∀ (i : Nat) (a : AV) (c : Value), avs[i]? = some a → vs[i]? = some c → RepW W a c) ∧ TyAll P d ts avs ∧ ds.length = ts.length := by
  intro ts
  induction ts with
  | nil =>
    intro vs ds ps h _ _ _
    obtain ⟨rfl, rfl, rfl⟩ := trodAll_nil h
    exact ⟨[], rfl, by simp, rfl, rfl⟩
  | cons t ts ih =>
    intro vs ds ps h hv hok hw
    obtain ⟨v, vs, x, ds, p, q, rfl, rfl, rfl, h1, h2⟩ := trodAll_cons h
    simp only [DataW.weightsEach] at hw
    obtain ⟨a, ha, hta⟩ := decodeV (hok t (List.mem_cons_self ..)) (hv 0 t v rfl rfl) h1 (fun n hn => hw n (List.mem_append_left _ hn))
    obtain ⟨avs, hl, hr, ht, hd⟩ := ih h2 (fun j t v hj hj' => hv (j + 1) t v hj hj') (fun t ht => hok t (List.mem_cons_of_mem _ ht)) (fun n hn => hw n (List.mem_append_right _ hn))
    refine ⟨a :: avs, by simp [hl], fun i y c hi hc => ?_, ⟨a, avs, rfl, hta, ht⟩, by simp [hd]⟩
    cases i with
    | zero => simp at hi hc; subst hi; subst hc; exact ha
    | succ i => exact hr i y c hi hc

theorem trodAll_stays (hl : laidOutB P = true) {W' : World} (hb : Below W.heap.size W W') : ∀ {ts : List TypeId} {vs : List Value} {ds : List (DataW H)} {ps : List MemPlace}, DataW.TrodAll enc P W 0 (fun _ => true) true ts vs ds ps →
    (∀ t ∈ ts, P.readableRec t = true ∧ t < P.types.size) → DataW.TrodAll enc P W' 0 (fun b => decide (b < W.heap.size)) true ts vs ds ps := by
  intro ts
  induction ts with
  | nil => intro vs ds ps h _; obtain ⟨rfl, rfl, rfl⟩ := trodAll_nil h; rfl
  | cons t ts ih =>
    intro vs ds ps h hk
    obtain ⟨v, vs, x, ds, p, q, rfl, rfl, rfl, h1, h2⟩ := trodAll_cons h
    obtain ⟨k1, k2⟩ := hk t (List.mem_cons_self ..)
    have lt : ∀ x ∈ p, x.block < W.heap.size := by obtain ⟨m, hm⟩ := h1; exact DataW.trod_lt m _ _ _ hm
    exact trodAll_cons_mk (Below.trod hl k1 k2 h1 hb lt) (ih h2 fun t ht => hk t (List.mem_cons_of_mem _ ht))
end

/-- What is to be shown of a law: whatever it is handed, it returns true. -/
def LawTrue (P : Program) (d : Nat) (f : FuncId) (fn : Func) : Prop := ∀ avs, TyAll P d fn.params.toList avs → ACalls P f avs [] fun r _ => r = .v (.bool true)

theorem lawLifted {C : Checked} {os : Os} {f : FuncId} {fn : Func} {s : ChangeSpec} {conds : List PathCond} {d : Nat} {tb : TypeId} {H : Type} {enc : TypeId × Value → H}
    (own : ownKnob C.prog.godebug = none) (started : os.Started) (noInit : C.prog.inits.idxOf? f = none) (hfn : C.prog.funcs[f]? = some fn)
    (witness : ∃ (w : World) (tape : Tape) (i : Input), w.os = os ∧ (w.forCall tape i).Shaped C.prog ∧ i.vars = [] ∧ Input.okWide C.prog (w.forCall tape i) .any w.heap.size f i ∧
      s.pre6 enc C.prog fn conds false (w.forCall tape i).memory i.args ∧ ({} : Assume).holds C.prog (lone (Frame.enter C.prog f i.args .normal) [] (w.forCall tape i)))
    (laidOut : laidOutB C.prog = true) (hp : fn.params.toList.all (fun t => okTy C.prog d t && C.prog.readableRec t && decide (t < C.prog.types.size)) = true)
    (hvars : s.vars = []) (hres : fn.resultTypes = #[tb]) (hb : C.prog.underlying tb = some .bool)
    (hs : ∀ ds : List (DataW H), ds.length = fn.params.size → s.fn H ds = { results := [.lit (.bool true)], args := ds })
    (h : LawTrue C.prog d f fn) :
    ReturnsInHanded {} C os f .any (s.pre6 enc C.prog fn conds false) (s.post enc C.prog fn false true false false) := by
  have hp' : ∀ t ∈ fn.params.toList, okTy C.prog d t = true ∧ C.prog.readableRec t = true ∧ t < C.prog.types.size := by
    intro t ht
    have := List.all_eq_true.1 hp t ht
    simp only [Bool.and_eq_true, decide_eq_true_eq] at this
    exact ⟨this.1.1, this.1.2, this.2⟩
  refine returnsInHanded_of_change_sized own started noInit hfn witness ?_
  intro W base args ds gs before hval hW _ hsz _
  have hW' := hW
  obtain ⟨p, q, hA, hV, rfl, hfz, hnd⟩ := hW
  rw [hvars] at hV
  obtain ⟨rfl, rfl⟩ := trodVars_none hV
  have hsz' : ∀ n ∈ DataW.weightsEach C.prog fn.params.toList ds, n ≤ reachBytes := by
    intro n hn
    have e : s.plain.varTypes C.prog = [] := by unfold ChangeSpec.plain; rw [hvars]; rfl
    rw [e, List.append_nil, List.append_nil] at hsz
    have := List.all_eq_true.1 hsz n hn
    simpa using this
  obtain ⟨avs, hl, hr, ht, hd⟩ := decodeAll (b := base) hA (fun j t v h1 h2 => hval j t v (by simpa using h1) (by simpa using h2)) (fun t ht => (hp' t ht).1) hsz'
  have sim : Sim W.heap.size (fun _ => default) [] W := by
    refine ⟨Nat.le_refl _, ?_, ?_, ?_, ?_, ?_, ?_, ?_, ?_⟩ <;> (intros; simp at *)
  refine ((h avs ht).go W.heap.size (fun _ => default) W args sim (by simpa using hl) (fun i a c h1 h2 => hr i a c h1 (by simpa using h2))).mono fun e W' ⟨r, c, β', H', he, hq, hrep, _, tr⟩ => ?_
  subst hq
  cases hrep
  subst he
  have bel := tr.below
  have hsp := hs ds (by simpa using hd)
  refine ⟨_, rfl, ds, [], _, [], p, [], hW', ?_, ?_, ?_, bel.frame _, fun h => by cases h⟩
  · rw [List.append_nil, hsp, hres]
    exact trodAll_mk1 (shut_bool hb _)
  · rw [List.append_nil, hsp]
    exact trodAll_stays laidOut bel hA fun t ht => (hp' t ht).2
  · rw [List.append_nil, hsp, hvars]
    rfl

end Go.Ab

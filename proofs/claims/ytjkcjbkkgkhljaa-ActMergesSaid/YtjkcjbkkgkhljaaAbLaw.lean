/- A part of a law's proof: AbLaw. -/
import Derived.Below
import Derived.Carry
import Derived.ChangeOld
import Derived.JoinedCond
import Derived.OpenShut
import Derived.ProofKit
import Derived.ShutString
import Derived.SizedLaws
import Derived.Test.YtjkcjbkkgkhljaaAbDecode
import Derived.WalkKit
set_option linter.constructorNameAsVariable false
/-
  The row of a law that returns true whatever it is handed, out of its abstract call.
-/
namespace Go.Ab
open Go Go.RowKit Go.ChangeShapes Go.WideShapes
set_option linter.unusedVariables false
set_option linter.unusedSimpArgs false
def TyAll (P : Program) (B : Nat) (d : Nat) : List TypeId -> List AV -> Prop
  | [], avs => avs = []
  | t :: ts, avs => ∃ x rest, avs = x :: rest ∧ tyV P B d t x ∧ TyAll P B d ts rest
section
variable {H : Type} {enc : TypeId × Value -> H} {P : Program} {W : World} {B : Nat}
theorem decodeV {d : Nat} {t : TypeId} {v : Value} {x : DataW H} {ps : List MemPlace} {base b : Nat} {spare : Nat -> Bool} {held : Bool} (hok : okTy P d t = true) (hv : Value.okWide P W .any b t v)
    (h : DataW.Trod enc P W base spare held t v x ps) (hw : ∀ n ∈ x.weights P t, n <= B) : ∃ a, RepW W a v ∧ tyV P B d t a := by
  obtain ⟨fuel, hf⟩ := h
  unfold Value.okWide at hv
  have hnon : isAggT P t = false -> v.cells = #[v] := by
    intro hg
    cases d with
    | zero => simp [okTy] at hok
    | succ d =>
      simp only [okTy] at hok
      unfold isAggT at hg
      cases hu : P.underlying t with
      | none => rw [hu] at hok; simp at hok
      | some k =>
        rw [hu] at hok hg hv
        cases k <;> simp at hok hg hv <;> (unfold Cell.okWide Cell.ok at hv; rw [hu] at hv; cases v <;> first | rfl | simp at hv)
  cases hg : isAggT P t with
  | false =>
    have hc := hnon hg
    rw [hc] at hf
    have hlen : ([v] : List Value).length = P.cellsOf t := by
      cases d with
      | zero => simp [okTy] at hok
      | succ d =>
        simp only [okTy] at hok
        unfold isAggT at hg
        cases hu : P.underlying t with
        | none => rw [hu] at hok; simp at hok
        | some k =>
          rw [hu] at hok hg
          cases k <;> simp at hok hg <;> simp [hok]
    obtain ⟨as, hr, ht⟩ := decode d t hok fuel [v] x ps hlen hf hw
    obtain ⟨a, rfl, ha, _⟩ := tyC_one hok hg ht
    refine ⟨a, hr.2 0 a v rfl rfl, ?_⟩
    unfold tyV
    rw [hg]
    exact ⟨ht, ha⟩
  | true =>
    obtain ⟨cs, rfl, hcs⟩ : ∃ cs, v = .agg cs ∧ cs.size = P.cellsOf t := by
      unfold isAggT at hg
      split at hg
      · rename_i hu; rw [hu] at hv; obtain ⟨cs, h1, h2, _⟩ := hv; exact ⟨cs, h1, h2⟩
      · rename_i hu; rw [hu] at hv; obtain ⟨cs, h1, h2, _⟩ := hv; exact ⟨cs, h1, h2⟩
      · cases hg
    obtain ⟨as, hr, ht⟩ := decode d t hok fuel cs.toList x ps (by simpa using hcs) hf hw
    refine ⟨.agg as, .agg (by simpa using hr.1) (fun i a c h1 h2 => hr.2 i a c h1 (by simpa using h2)), ?_⟩
    unfold tyV
    rw [hg]
    exact ⟨as, rfl, ht⟩
theorem decodeAll {d : Nat} {base b : Nat} {spare : Nat -> Bool} {held : Bool} : ∀ {ts : List TypeId} {vs : List Value} {ds : List (DataW H)} {ps : List MemPlace}, DataW.TrodAll enc P W base spare held ts vs ds ps ->
    (∀ (j : Nat) t v, ts[j]? = some t -> vs[j]? = some v -> Value.okWide P W .any b t v) -> (∀ t ∈ ts, okTy P d t = true) -> (∀ n ∈ DataW.weightsEach P ts ds, n <= B) ->
    ∃ avs : List AV, avs.length = vs.length ∧ (∀ (i : Nat) (a : AV) (c : Value), avs[i]? = some a -> vs[i]? = some c -> RepW W a c) ∧ TyAll P B d ts avs ∧ ds.length = ts.length := by
  intro ts
  induction ts with
  | nil =>
    intro vs ds ps h _ _ _
    obtain ⟨rfl, rfl, rfl⟩ := trodAll_nil h
    exact ⟨[], rfl, by simp, rfl, rfl⟩
  | cons t ts ih =>
    intro vs ds ps h hv hok hw
    obtain ⟨v, vs, x, ds, p, q, rfl, rfl, rfl, h1, h2⟩ := trodAll_cons h
    simp only [DataW.weightsEach] at hw
    obtain ⟨a, ha, hta⟩ := decodeV (hok t (List.mem_cons_self ..)) (hv 0 t v rfl rfl) h1 (fun n hn => hw n (List.mem_append_left _ hn))
    obtain ⟨avs, hl, hr, ht, hd⟩ := ih h2 (fun j t v hj hj' => hv (j + 1) t v hj hj') (fun t ht => hok t (List.mem_cons_of_mem _ ht)) (fun n hn => hw n (List.mem_append_right _ hn))
    refine ⟨a :: avs, by simp [hl], fun i y c hi hc => ?_, ⟨a, avs, rfl, hta, ht⟩, by simp [hd]⟩
    cases i with
    | zero => simp at hi hc; subst hi; subst hc; exact ha
    | succ i => exact hr i y c hi hc
theorem trodAll_stays (hl : laidOutB P = true) {W' : World} (hb : Below W.heap.size W W') : ∀ {ts : List TypeId} {vs : List Value} {ds : List (DataW H)} {ps : List MemPlace}, DataW.TrodAll enc P W 0 (fun _ => true) true ts vs ds ps ->
    (∀ t ∈ ts, P.readableRec t = true ∧ t < P.types.size) -> DataW.TrodAll enc P W' 0 (fun b => decide (b < W.heap.size)) true ts vs ds ps := by
  intro ts
  induction ts with
  | nil => intro vs ds ps h _; obtain ⟨rfl, rfl, rfl⟩ := trodAll_nil h; rfl
  | cons t ts ih =>
    intro vs ds ps h hk
    obtain ⟨v, vs, x, ds, p, q, rfl, rfl, rfl, h1, h2⟩ := trodAll_cons h
    obtain ⟨k1, k2⟩ := hk t (List.mem_cons_self ..)
    have lt : ∀ x ∈ p, x.block < W.heap.size := by obtain ⟨m, hm⟩ := h1; exact DataW.trod_lt m _ _ _ hm
    exact trodAll_cons_mk (Below.trod hl k1 k2 h1 hb lt) (ih h2 fun t ht => hk t (List.mem_cons_of_mem _ ht))
end
def LawTrueB (P : Program) (B d : Nat) (f : FuncId) (fn : Func) : Prop := ∀ avs, TyAll P B d fn.params.toList avs -> ACalls P f avs [] fun r _ => r = .v (.bool true)
abbrev LawTrue (P : Program) (d : Nat) (f : FuncId) (fn : Func) : Prop := LawTrueB P reachBytes d f fn
theorem lawLifted {C : Checked} {os : Os} {f : FuncId} {fn : Func} {s : ChangeSpec} {conds : List PathCond} {d : Nat} {tb : TypeId} {H : Type} {enc : TypeId × Value -> H}
    (own : ownKnob C.prog.godebug = none) (started : os.Started) (noInit : C.prog.inits.idxOf? f = none) (hfn : C.prog.funcs[f]? = some fn)
    (witness : ∃ (w : World) (tape : Tape) (i : Input), w.os = os ∧ (w.forCall tape i).Shaped C.prog ∧ i.vars = [] ∧ Input.okWide C.prog (w.forCall tape i) .any w.heap.size f i ∧
      s.pre6 enc C.prog fn conds false (w.forCall tape i).memory i.args ∧ ({} : Assume).holds C.prog (lone (Frame.enter C.prog f i.args .normal) [] (w.forCall tape i)))
    (laidOut : laidOutB C.prog = true) (hp : fn.params.toList.all (fun t => okTy C.prog d t && C.prog.readableRec t && decide (t < C.prog.types.size)) = true)
    (hvars : s.vars = []) (hres : fn.resultTypes = #[tb]) (hb : C.prog.underlying tb = some .bool)
    (hs : ∀ ds : List (DataW H), ds.length = fn.params.size -> s.fn H ds = { results := [.lit (.bool true)], args := ds })
    (h : LawTrue C.prog d f fn) (hW0 : wiTabs = [] := by rfl) :
    ReturnsInHanded {} C os f .any (s.pre6 enc C.prog fn conds false) (s.post enc C.prog fn false true false false) := by
  have hp' : ∀ t ∈ fn.params.toList, okTy C.prog d t = true ∧ C.prog.readableRec t = true ∧ t < C.prog.types.size := by
    intro t ht
    have := List.all_eq_true.1 hp t ht
    simp only [Bool.and_eq_true, decide_eq_true_eq] at this
    exact ⟨this.1.1, this.1.2, this.2⟩
  refine returnsInHanded_of_change_sized own started noInit hfn witness ?_
  intro W base args ds gs before hval hW _ hsz _
  have hW' := hW
  obtain ⟨p, q, hA, hV, rfl, hfz, hnd⟩ := hW
  rw [hvars] at hV
  obtain ⟨rfl, rfl⟩ := trodVars_none hV
  have hsz' : ∀ n ∈ DataW.weightsEach C.prog fn.params.toList ds, n <= reachBytes := by
    intro n hn
    have e : s.plain.varTypes C.prog = [] := by unfold ChangeSpec.plain; rw [hvars]; rfl
    rw [e, List.append_nil, List.append_nil] at hsz
    have := List.all_eq_true.1 hsz n hn
    simpa using this
  obtain ⟨avs, hl, hr, ht, hd⟩ := decodeAll (b := base) hA (fun j t v h1 h2 => hval j t v (by simpa using h1) (by simpa using h2)) (fun t ht => (hp' t ht).1) hsz'
  have sim : Sim W.heap.size Lies.nil [] W := by
    refine ⟨⟨Nat.le_refl _, WI.none hW0, fun b i hd => hd.elim⟩, ?_, ?_, ?_, ?_, ?_, ?_, ?_, ?_, ?_⟩ <;> (intros; simp at *)
  refine ((h avs ht).go W.heap.size Lies.nil W args sim (by simpa using hl) (fun i a c h1 h2 => hr i a c h1 (by simpa using h2))).mono fun e W' ⟨r, c, β', H', he, hq, hrep, _, tr⟩ => ?_
  subst hq
  cases hrep
  subst he
  have bel := tr.below
  have hsp := hs ds (by simpa using hd)
  refine ⟨_, rfl, ds, [], _, [], p, [], hW', ?_, ?_, ?_, bel.frame _, fun h => by cases h⟩
  · rw [List.append_nil, hsp, hres]
    exact trodAll_mk1 (shut_bool hb _)
  · rw [List.append_nil, hsp]
    exact trodAll_stays laidOut bel hA fun t ht => (hp' t ht).2
  · rw [List.append_nil, hsp, hvars]
    rfl
mutual
def bulkD {H : Type} : DataW H -> Nat
  | .lit (.string bytes) => bytes.length + 1
  | .lit _ => 1
  | .nil => 1
  | .ptr d => bulkD d + 1
  | .slice elems spare => bulkL elems + bulkL spare + 1
  | .agg parts => bulkL parts + 1
  | .iface _ d => bulkD d + 1
  | .map entries => bulkE entries + 1
  | .held _ => 1
def bulkL {H : Type} : List (DataW H) -> Nat
  | [] => 0
  | d :: r => bulkD d + bulkL r
def bulkE {H : Type} : List (Lit × DataW H) -> Nat
  | [] => 0
  | x :: r => bulkX x + bulkE r
def bulkX {H : Type} : Lit × DataW H -> Nat
  | (.string bytes, d) => bytes.length + bulkD d + 1
  | (_, d) => bulkD d + 1
end
theorem bulkD_pos {H : Type} (d : DataW H) : 1 <= bulkD d := by
  unfold bulkD
  split <;> omega
theorem bulkX_pos {H : Type} (x : Lit × DataW H) : 1 <= bulkX x := by
  unfold bulkX
  split <;> omega
theorem bulkL_len {H : Type} : ∀ l : List (DataW H), l.length <= bulkL l
  | [] => by simp
  | d :: l => by have := bulkL_len l; have := bulkD_pos d; simp only [bulkL, List.length_cons]; omega
theorem bulkE_len {H : Type} : ∀ l : List (Lit × DataW H), l.length <= bulkE l
  | [] => by simp
  | d :: l => by have := bulkE_len l; have := bulkX_pos d; simp only [bulkE, List.length_cons]; omega
section
variable {H : Type} {P : Program} {M N : Nat}
def inTab (P : Program) (n t : Nat) : Bool :=
  match P.underlying t with
  | some (.pointer e) => decide (e < n)
  | some (.slice e) => decide (e < n)
  | some (.array _ e) => decide (e < n)
  | some (.map k e) => decide (k < n) && decide (e < n)
  | some (.struct fs) => fs.toList.all fun f => decide (f.type < n)
  | _ => true
theorem le_mulM {a b M n : Nat} (hM : 1 <= M) (h : n <= a * M) (hab : a <= b) : n <= b * M := Nat.le_trans h (Nat.mul_le_mul_right _ hab)
mutual
theorem weights_le (hM : 1 <= M) (hb : ∀ t, t < N -> P.bytesOf t * 2 <= M ∧ inTab P N t = true) {t : TypeId} (ht : t < N) : ∀ (d : DataW H), ∀ n ∈ d.weights P t, n <= bulkD d * M
  | .lit (.string bytes), n, hn => by
    simp only [DataW.weights, List.mem_singleton] at hn
    subst hn
    exact Nat.le_trans (Nat.le_mul_of_pos_right _ hM) (Nat.mul_le_mul_right _ (by simp only [bulkD]; omega))
  | .lit .nil, n, hn => by simp [DataW.weights] at hn
  | .lit (.bool _), n, hn => by simp [DataW.weights] at hn
  | .lit (.int _ _), n, hn => by simp [DataW.weights] at hn
  | .lit (.float _ _), n, hn => by simp [DataW.weights] at hn
  | .nil, n, hn => by simp [DataW.weights] at hn
  | .ptr d, n, hn => by
    simp only [DataW.weights] at hn
    split at hn
    · rename_i e hu
      have he : e < N := by have := (hb t ht).2; unfold inTab at this; rw [hu] at this; exact of_decide_eq_true this
      exact le_mulM hM (weights_le hM hb he d n hn) (by simp only [bulkD]; omega)
    · simp at hn
  | .slice elems spare, n, hn => by
    simp only [DataW.weights] at hn
    split at hn
    · rename_i e hu
      have he : e < N := by have := (hb t ht).2; unfold inTab at this; rw [hu] at this; exact of_decide_eq_true this
      rcases List.mem_cons.1 hn with h | h
      · subst h
        have h1 := bulkL_len elems
        have h2 := bulkL_len spare
        have h3 := (hb e he).1
        refine Nat.le_trans (Nat.mul_le_mul_left _ (show P.bytesOf e <= M by omega)) (Nat.mul_le_mul_right _ (by simp only [bulkD]; omega))
      · rcases List.mem_append.1 h with h | h
        · exact le_mulM hM (weightsAll_le hM hb he elems n h) (by simp only [bulkD]; omega)
        · exact le_mulM hM (weightsAll_le hM hb he spare n h) (by simp only [bulkD]; omega)
    · simp at hn
  | .agg parts, n, hn => by
    simp only [DataW.weights] at hn
    split at hn
    · rename_i fs hu
      refine le_mulM hM (weightsEach_le hM hb _ parts (fun u hu' => ?_) n hn) (by simp only [bulkD]; omega)
      have := (hb t ht).2; unfold inTab at this; rw [hu] at this
      obtain ⟨f, hf, rfl⟩ := List.mem_map.1 hu'
      exact of_decide_eq_true (List.all_eq_true.1 this f hf)
    · rename_i k e hu
      have he : e < N := by have := (hb t ht).2; unfold inTab at this; rw [hu] at this; exact of_decide_eq_true this
      exact le_mulM hM (weightsAll_le hM hb he parts n hn) (by simp only [bulkD]; omega)
    · simp at hn
  | .iface _ d, n, hn => by simp [DataW.weights] at hn
  | .map entries, n, hn => by
    simp only [DataW.weights] at hn
    split at hn
    · rename_i k e hu
      have hke : k < N ∧ e < N := by have := (hb t ht).2; unfold inTab at this; rw [hu] at this; simpa using this
      rcases List.mem_cons.1 hn with h | h
      · subst h
        have h1 := bulkE_len entries
        have h2 := (hb k hke.1).1
        have h3 := (hb e hke.2).1
        refine Nat.le_trans (Nat.mul_le_mul_left _ (show P.bytesOf k + P.bytesOf e <= M by omega)) (Nat.mul_le_mul_right _ (by simp only [bulkD]; omega))
      · exact le_mulM hM (weightsEntries_le hM hb hke.2 entries n h) (by simp only [bulkD]; omega)
    · simp at hn
  | .held _, n, hn => by simp [DataW.weights] at hn
theorem weightsAll_le (hM : 1 <= M) (hb : ∀ t, t < N -> P.bytesOf t * 2 <= M ∧ inTab P N t = true) {t : TypeId} (ht : t < N) : ∀ (l : List (DataW H)), ∀ n ∈ DataW.weightsAll P t l, n <= bulkL l * M
  | [], n, hn => by simp [DataW.weightsAll] at hn
  | d :: l, n, hn => by
    simp only [DataW.weightsAll] at hn
    rcases List.mem_append.1 hn with h | h
    · exact le_mulM hM (weights_le hM hb ht d n h) (by simp only [bulkL]; omega)
    · exact le_mulM hM (weightsAll_le hM hb ht l n h) (by simp only [bulkL]; omega)
theorem weightsEach_le (hM : 1 <= M) (hb : ∀ t, t < N -> P.bytesOf t * 2 <= M ∧ inTab P N t = true) : ∀ (ts : List TypeId) (l : List (DataW H)), (∀ t ∈ ts, t < N) -> ∀ n ∈ DataW.weightsEach P ts l, n <= bulkL l * M
  | [], l, _, n, hn => by simp [DataW.weightsEach] at hn
  | t :: ts, [], _, n, hn => by simp [DataW.weightsEach] at hn
  | t :: ts, d :: l, hts, n, hn => by
    simp only [DataW.weightsEach] at hn
    rcases List.mem_append.1 hn with h | h
    · exact le_mulM hM (weights_le hM hb (hts t (by simp)) d n h) (by simp only [bulkL]; omega)
    · exact le_mulM hM (weightsEach_le hM hb ts l (fun u hu => hts u (by simp [hu])) n h) (by simp only [bulkL]; omega)
theorem weightsEntries_le (hM : 1 <= M) (hb : ∀ t, t < N -> P.bytesOf t * 2 <= M ∧ inTab P N t = true) {e : TypeId} (he : e < N) : ∀ (l : List (Lit × DataW H)), ∀ n ∈ DataW.weightsEntries P e l, n <= bulkE l * M
  | [], n, hn => by simp [DataW.weightsEntries] at hn
  | x :: l, n, hn => by
    simp only [DataW.weightsEntries] at hn
    rcases List.mem_append.1 hn with h | h
    · exact le_mulM hM (weightsEntry_le hM hb he x n h) (by simp only [bulkE]; omega)
    · exact le_mulM hM (weightsEntries_le hM hb he l n h) (by simp only [bulkE]; omega)
theorem weightsEntry_le (hM : 1 <= M) (hb : ∀ t, t < N -> P.bytesOf t * 2 <= M ∧ inTab P N t = true) {e : TypeId} (he : e < N) : ∀ (x : Lit × DataW H), ∀ n ∈ DataW.weightsEntry P e x, n <= bulkX x * M
  | (.string bytes, d), n, hn => by
    simp only [DataW.weightsEntry] at hn
    rcases List.mem_cons.1 hn with h | h
    · subst h
      exact Nat.le_trans (Nat.le_mul_of_pos_right _ hM) (Nat.mul_le_mul_right _ (by simp only [bulkX]; omega))
    · exact le_mulM hM (weights_le hM hb he d n h) (by simp only [bulkX]; omega)
  | (.nil, d), n, hn => by simp only [DataW.weightsEntry] at hn; exact le_mulM hM (weights_le hM hb he d n hn) (by simp only [bulkX]; omega)
  | (.bool _, d), n, hn => by simp only [DataW.weightsEntry] at hn; exact le_mulM hM (weights_le hM hb he d n hn) (by simp only [bulkX]; omega)
  | (.int _ _, d), n, hn => by simp only [DataW.weightsEntry] at hn; exact le_mulM hM (weights_le hM hb he d n hn) (by simp only [bulkX]; omega)
  | (.float _ _, d), n, hn => by simp only [DataW.weightsEntry] at hn; exact le_mulM hM (weights_le hM hb he d n hn) (by simp only [bulkX]; omega)
end
end
end Go.Ab

/- A part of the proof of CodeNil: AbMSound4. -/
import Derived.Test.YthmpodpkckagmaaGreatAbMSound3
set_option linter.constructorNameAsVariable false
namespace Go.Ab
open Go Go.RowKit
set_option linter.unusedVariables false
set_option linter.unusedSimpArgs false

section
variable {P : Program} {B : Nat} {β : Nat → Em} {H : Heap} {w : World}

theorem copy_run {t u e ty : TypeId} {base : Option Addr} {len cap m sz : Nat} {x : Value} {vs : List Value} {w' : World} (ht : P.underlying t = some (.slice e)) (hS : (sizeOf e).run P w = .ok sz w)
    (hn : (Builtin.lenOf x).run P w = .ok m w) (hf : (Builtin.firstCells sz (min m len) x).run P w = .ok (vs.take (min m len * sz)).toArray w)
    (hst : ∀ a, base = some a → (storeCells a (vs.take (min m len * sz))).run P w = .ok () w') (hbase : base = none → w' = w) :
    (Builtin.copy_ #[t, u] ty #[.slice base len cap, x]).run P w = .ok (.int .i64 ((min m len : Nat) : Int)) w' := by
  have hmin : Nat.min m len = min m len := rfl
  cases base with
  | none =>
    have := hbase rfl
    subst this
    simp [Builtin.copy_, run_und ht, hn, hS, hmin, hf, goInt]
  | some a =>
    have h1 := hst a rfl
    simp [Builtin.copy_, run_und ht, hn, hS, hmin, hf, goInt, h1]

theorem mem_copy (s : Sim B β H w) {t u e ty : TypeId} {l : Option Nat} {x y : AV} {c d : Value} {m k : Nat} {news : List AV} {H' : Heap}
    (ht : P.underlying t = some (.slice e)) (hl : layOf P e = some l) (hx : RepH β H w x c) (hy : RepH β H w y d) (hn : cellsA H (laySize l) y = some (m, news)) (ha : copyA H (laySize l) x m news = some (k, H')) :
    MemOk P B β H w (do pure (Next.value (← Builtin.copy_ #[t, u] ty #[c, d]))) (.v (.int .i64 (k : Int))) H' := by
  have hS := layOf_size hl w
  obtain ⟨p, cap, rfl, vs, hv1, hv2, hv3, hv4⟩ := cells_sound (P := P) s hn hy
  obtain ⟨base, len, cap', w', rfl, rfl, h1, h2, h3, h4⟩ := copyA_sound (P := P) s ha hx hv1 hv2 hv3
  exact .val (copy_run ht hS rfl (hv4 _ (Nat.min_le_left _ _) w rfl) h1 h2) (.v _) h3 h4

theorem mem_copyStr (s : Sim B β H w) {t u e ty : TypeId} {x : AV} {c : Value} {b : ByteArray} {k : Nat} {H' : Heap}
    (ht : P.underlying t = some (.slice e)) (hl : layOf P e = some none) (hx : RepH β H w x c) (ha : copyA H 1 x b.size (byteCells b) = some (k, H')) :
    MemOk P B β H w (do pure (Next.value (← Builtin.copy_ #[t, u] ty #[c, .string b]))) (.v (.int .i64 (k : Int))) H' := by
  have hS := layOf_size hl w
  obtain ⟨h0, vs, hvs, hv1, hv3⟩ := byteCells_whole (β' := β) (n := H.length) (R := RO β H w) b
  obtain ⟨base, len, cap', w', rfl, rfl, h1, h2, h3, h4⟩ := copyA_sound (P := P) s ha hx (by omega) (by omega) hv3
  refine .val (copy_run (vs := vs) ht hS rfl ?_ h1 h2) (.v _) h3 h4
  have := firstCells_str (P := P) b (min b.size len) (Nat.min_le_left _ _) w
  rw [← hvs] at this
  exact this

theorem mem_b2s (s : Sim B β H w) {src dst e : TypeId} {x : AV} {c : Value} {m : Nat} {cs : List AV} {bs : List UInt8} (hs : P.underlying src = some (.slice e)) (hd : P.underlying dst = some .string) (he : P.underlying e = some (.int .u8))
    (hx : RepH β H w x c) (hc : cellsA H 1 x = some (m, cs)) (hb : bytesOfA cs = some bs) :
    MemOk P B β H w (do pure (Next.value (← convert src dst c))) (.v (.string ⟨bs.toArray⟩)) H := by
  obtain ⟨p, cap, rfl, vs, hv1, hv2, hv3, hv4⟩ := cells_sound (P := P) s hc hx
  obtain ⟨hlen, hget⟩ := bytesOfA_sound (β := β) (H := H) (w := w) hb
  obtain ⟨ns, hns, hbs⟩ := hget vs (by omega) hv3
  have hrun : (convert src dst (.slice p m cap)).run P w = .ok (.string ⟨bs.toArray⟩) w := by
    rw [run_convert_bytes_string w src dst e p m cap hs he hd]
    have hf := hv4 m (Nat.le_refl _) w rfl
    rw [List.take_of_length_le (by omega)] at hf
    cases p with
    | none =>
      have : vs = [] := by
        simp only [Builtin.firstCells, Sem.run_pure, Result.ok.injEq, and_true] at hf
        simpa using hf.symm
      subst this
      have : ns = [] := by simpa using hns
      subst this
      simp only [List.map_nil] at hbs
      subst hbs
      rfl
    | some a =>
      simp only [Builtin.firstCells, Nat.mul_one] at hf
      rw [hns] at hf
      rw [run_bytesToString w a m cap ns hf]
      congr 2
      rw [← hbs]
      have : ∀ (l : List Int) (r : ByteArray), l.foldl (fun r n => r.push (UInt8.ofNat n.toNat)) r = ⟨r.data ++ (l.map (fun n => UInt8.ofNat n.toNat)).toArray⟩ := by
        intro l
        induction l with
        | nil => intro r; simp
        | cons n l ih => intro r; simp only [List.foldl_cons, List.map_cons]; rw [ih]; simp [ByteArray.push]
      rw [this]
      have he0 : ByteArray.empty.data = #[] := rfl
      rw [he0]; simp
  exact .val hrun (.v _) s (Tr.refl _ _ _ _)

theorem mem_s2b (s : Sim B β H w) {src dst e : TypeId} {b : ByteArray} (hs : P.underlying src = some .string) (hd : P.underlying dst = some (.slice e)) (he : P.underlying e = some (.int .u8)) :
    MemOk P B β H w (do pure (Next.value (← convert src dst (.string b)))) (.sl 1 H.length 0 b.size none) (H ++ [.cells (byteCells b)]) := by
  have hrun := run_bytes_of_string (P := P) w src dst e b hs hd he
  obtain ⟨h0, vs, hvs, hv1, hv3⟩ := byteCells_whole (β' := β) (n := H.length) (R := RO β H w) b
  have hge : b.size ≤ grownCap w b.size 0 e := grown_ge w e
  have hsz : (bytesRow b (grownCap w b.size 0 e)).size = grownCap w b.size 0 e := by
    simp only [bytesRow, Array.size_append, Array.size_map, Array.size_replicate]
    show b.size + _ = _
    omega
  obtain ⟨sd, td⟩ := drew_tr s
  obtain ⟨s', t'⟩ := sd.allocM (bytesRow b (grownCap w b.size 0 e)) e ((bytesRow b (grownCap w b.size 0 e)).size, (bytesRow b (grownCap w b.size 0 e)).size + 1) (fun i hi => by simp only; omega) (byteCells b) (by omega) (fun j a ha => by
    have hj := getElem?_lt ha
    simp only [byteCells, List.getElem?_map, Option.map_eq_some_iff, Array.getElem?_toList] at ha
    obtain ⟨y, hy, rfl⟩ := ha
    have hj' : j < b.data.size := by
      rcases Nat.lt_or_ge j b.data.size with h | h
      · exact h
      · simp [Array.getElem?_eq_none h] at hy
    rw [bytesRow_at b _ j hj']
    refine ⟨_, rfl, ?_⟩
    rw [Array.getElem?_eq_getElem hj'] at hy
    cases hy
    exact .v _) rfl
  refine .val hrun ?_ s' (td.trans t')
  exact rep_newSl (β := β) (H := H) hge (fun c h => by cases h) (by omega)

theorem mem_sound0 {o : Oper} {m : MOp} (htr : trM0 P o = some m) (s : Sim B β H w) {ρ : Nat → AV} {a : Act} (hρ : ∀ t, RepH β H w (ρ t) (a.tmps.getD t undef)) {r : AV} {H' : Heap} (hp : m.run ρ H = some (r, H')) :
    MemOk P B β H w (execOp a.eval o) r H' := by
  obtain ⟨dst, op, type, pos, after, guard⟩ := o
  have call : ∀ (ts : Array TypeId) (xs : Array Operand) (b : Builtin) (S : Sem Value), (∀ cs, Go.builtin b ts type cs (xs.map a.eval) = (do pure (Next.value (← S)))) → MemOk P B β H w (do pure (Next.value (← S))) r H' →
      MemOk P B β H w (execOp a.eval { dst, op := .call { callee := .builtin b, args := xs, argTypes := ts }, type, pos, after, guard }) r H' := by
    intro ts xs b S h1 h2
    have : (execOp a.eval { dst, op := .call { callee := .builtin b, args := xs, argTypes := ts }, type, pos, after, guard }).run P w = (do pure (Next.value (← S)) : Sem Next).run P w := by
      simp only [execOp, resolve, Sem.run_bind, Sem.run_pure, Result.andThen_ok, invoke, h1]
    unfold MemOk at h2 ⊢
    rw [this]; exact h2
  unfold trM0 at htr
  simp only at htr
  split at htr
  -- load
  · rename_i t x
    split at htr
    · rename_i l hl
      cases htr
      simp only [MOp.run, Option.map_eq_some_iff] at hp
      obtain ⟨v, hv, he⟩ := hp
      cases he
      obtain ⟨d, h1, h2⟩ := read_sound (P := P) s hl hv (trX_rep hρ x)
      exact .val h1 h2 s (Tr.refl _ _ _ _)
    · cases htr
  -- alloc
  · rename_i t
    split at htr
    · rename_i zs hz
      cases htr
      simp only [MOp.run, Option.some.injEq, Prod.mk.injEq] at hp
      obtain ⟨rfl, rfl⟩ := hp
      obtain ⟨i, z, hi, hz', rfl⟩ := zeroA_some hz
      obtain ⟨s', t'⟩ := s.alloc z.cells t (z.cells.toList.map .v) (by simp) (fun j a ha => by
        simp only [List.getElem?_map, Option.map_eq_some_iff] at ha
        obtain ⟨c, hc, rfl⟩ := ha
        exact ⟨c, by simpa using hc, .v _⟩) rfl
      exact .val (S := Instr.alloc t true (.tuple #[])) (by simp [Instr.alloc, info_und hi hz' w, newVar, newRow]) (rep_new s s') s' t'
    · cases htr
  -- box
  · rename_i t x
    cases htr
    simp only [MOp.run] at hp
    split at hp
    · rename_i cs hcs
      simp only [Option.some.injEq, Prod.mk.injEq] at hp
      obtain ⟨rfl, rfl⟩ := hp
      obtain ⟨h1, h2⟩ := rep_flat (trX_rep hρ x) hcs
      obtain ⟨s', t'⟩ := s.alloc (a.eval x).cells t cs (by omega) (fun j b hb => by
        have := getElem?_lt hb
        exact ⟨(a.eval x).cells[j]'(by omega), by simp, h2 j b _ hb (by simp)⟩) rfl
      exact .val (S := Instr.box t (a.eval x)) (by simp [Instr.box, newVar, newRow]) (rep_new s s') s' t'
    · cases hp
  -- buildSlice
  · rename_i t len parts
    split at htr
    · rename_i e hu
      split at htr
      · rename_i l zs hl hz
        split at htr
        · rename_i hc
          cases htr
          simp only [MOp.run] at hp
          split at hp
          · rename_i cs hcs
            simp only [Option.some.injEq, Prod.mk.injEq] at hp
            obtain ⟨rfl, rfl⟩ := hp
            exact mem_buildSlice s hρ hu hl hz hc.1 hc.2 hcs
          · cases hp
        · cases htr
      · cases htr
    · cases htr
  -- makeSlice
  · rename_i t len cap
    split at htr
    · rename_i e hu
      split at htr
      · rename_i l zs i hl hz hi
        split at htr
        · rename_i hc
          cases htr
          simp only [MOp.run] at hp
          split at hp
          · rename_i k n k' c hn hcap
            split at hp
            · rename_i hb
              simp only [Option.some.injEq, Prod.mk.injEq] at hp
              obtain ⟨rfl, rfl⟩ := hp
              have hln := rep_v (by have := trX_rep hρ len; rw [hn] at this; exact this)
              have hcp := rep_v (by have := trX_rep hρ cap; rw [hcap] at this; exact this)
              have := mem_makeSlice (P := P) s (k := k) (k' := k') hu hl hz hi hc.1 hc.2 hb.1 hb.2.1 hb.2.2
              rw [← hln, ← hcp] at this
              exact this
            · cases hp
          · cases hp
        · cases htr
      · cases htr
    · cases htr
  -- store
  · rename_i t x y
    split at htr
    · rename_i l hl
      cases htr
      simp only [MOp.run, Option.map_eq_some_iff] at hp
      obtain ⟨H1, hH, he⟩ := hp
      cases he
      obtain ⟨w', h1, h2, h3⟩ := store_sound (P := P) s hl hH (trX_rep hρ x) (trX_rep hρ y)
      exact ⟨.skip, w', β, undef, by simp [execOp, h1], .inr ⟨rfl, rfl⟩, .v _, h2, h3⟩
    · cases htr
  -- convert
  · rename_i src dstT x
    split at htr
    · rename_i e hs hd
      split at htr
      · rename_i he
        cases htr
        simp only [MOp.run] at hp
        split at hp
        · rename_i m cs hc
          rw [Option.map_eq_some_iff] at hp
          obtain ⟨bs, hb, heq⟩ := hp
          cases heq
          exact mem_b2s s hs hd he (trX_rep hρ x) hc hb
        · cases hp
      · cases htr
    · rename_i e hs hd
      split at htr
      · rename_i he
        cases htr
        simp only [MOp.run] at hp
        split at hp
        · rename_i b hb
          cases hp
          have hv := rep_v (by have := trX_rep hρ x; rw [hb] at this; exact this)
          have := mem_s2b (P := P) s (b := b) hs hd he
          rw [← hv] at this
          exact this
        · cases hp
      · cases htr
    · cases htr
  -- append
  · rename_i args argTypes
    split at htr
    · rename_i x y t u hargs htys
      have ha : args = #[x, y] := by apply Array.ext'; simpa using hargs
      have hT : argTypes = #[t, u] := by apply Array.ext'; simpa using htys
      subst ha; subst hT
      refine call _ _ _ (Builtin.append_ #[t, u] type #[a.eval x, a.eval y]) (fun cs => by simp [builtin]) ?_
      split at htr
      · rename_i e f ht hu
        split at htr
        · rename_i l zs i hl hz hi
          split at htr
          · rename_i hc
            cases htr
            simp only [MOp.run] at hp
            split at hp
            · rename_i m news hn
              exact mem_append s ht hu hl hz hi hc.1 hc.2.1 hc.2.2 (trX_rep hρ x) (trX_rep hρ y) hn hp
            · cases hp
          · cases htr
        · cases htr
      · rename_i e ht hu
        split at htr
        · rename_i zs i hz hi
          split at htr
          · rename_i hc
            cases htr
            simp only [MOp.run] at hp
            split at hp
            · rename_i b hb
              have hv := rep_v (by have := trX_rep hρ y; rw [hb] at this; exact this)
              rw [hv]
              exact mem_appendStr s ht hu hz hi hc.1 hc.2.1 hc.2.2 (trX_rep hρ x) hp
            · cases hp
          · cases htr
        · cases htr
      · rename_i e k ht hu
        split at htr
        · rename_i l zs i hl hz hi
          split at htr
          · rename_i hc
            cases htr
            simp only [MOp.run] at hp
            split at hp
            · rename_i k' q hq
              split at hp
              · rename_i hb
                have hv := rep_v (by have := trX_rep hρ y; rw [hq] at this; exact this)
                rw [hv]
                exact mem_appendZ s ht hu hl hz hi hc.1 hc.2.1 hc.2.2 (trX_rep hρ x) hb.1 hb.2 hp
              · cases hp
            · cases hp
          · cases htr
        · cases htr
      · cases htr
    · cases htr
  -- copy
  · rename_i args argTypes
    split at htr
    · rename_i x y t u hargs htys
      have ha : args = #[x, y] := by apply Array.ext'; simpa using hargs
      have hT : argTypes = #[t, u] := by apply Array.ext'; simpa using htys
      subst ha; subst hT
      refine call _ _ _ (Builtin.copy_ #[t, u] type #[a.eval x, a.eval y]) (fun cs => by simp [builtin]) ?_
      split at htr
      · rename_i e f ht hu
        split at htr
        · rename_i l hl
          split at htr
          · rename_i hc
            cases htr
            simp only [MOp.run] at hp
            split at hp
            · rename_i m news hn
              rw [Option.map_eq_some_iff] at hp
              obtain ⟨⟨k, H1⟩, hk, he⟩ := hp
              cases he
              exact mem_copy s ht hl (trX_rep hρ x) (trX_rep hρ y) hn hk
            · cases hp
          · cases htr
        · cases htr
      · rename_i e ht hu
        split at htr
        · rename_i he hl
          cases htr
          simp only [MOp.run] at hp
          split at hp
          · rename_i b hb
            rw [Option.map_eq_some_iff] at hp
            obtain ⟨⟨k, H1⟩, hk, heq⟩ := hp
            cases heq
            have hv := rep_v (by have := trX_rep hρ y; rw [hb] at this; exact this)
            rw [hv]
            exact mem_copyStr s ht hl (trX_rep hρ x) hk
          · cases hp
        · cases htr
      · cases htr
    · cases htr
  · cases htr

end
end Go.Ab

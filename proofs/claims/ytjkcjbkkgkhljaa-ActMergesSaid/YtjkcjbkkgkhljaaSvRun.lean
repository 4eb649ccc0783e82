/- A part of a law's proof: SvRun. -/
import Derived.Test.YtjkcjbkkgkhljaaSvFz
set_option linter.constructorNameAsVariable false
/-
  A symbolic run of code: what it comes to, up to the next loop; what it says is so.
-/
namespace Go.Ab
open Go Go.RowKit
set_option linter.unusedVariables false
set_option linter.unusedSimpArgs false
variable {Θ : Nat -> Type}
inductive Fr (Θ : Nat -> Type) where
  | seq (N : Nat) (b : ACode)
  | blk (id : Nat)
  | lp (N : Nat) (a : ACode)
  | ops (N : Nat) (l : List AOper)
  | cal (ρ : SEnv Θ) (dst : Option Nat) (rs : List ARes)
inductive Lf (Θ : Nat -> Type) where
  | fin (v : SV Θ) (S : SHeap Θ)
  | at (fs : List (Fr Θ)) (ρ : SEnv Θ) (S : SHeap Θ)
inductive Cmd where
  | ex (N : Nat) (c : ACode)
  | back (x : AExit)
  | ops (N : Nat) (l : List AOper)
inductive Kn (Θ : Nat -> Type) where
  | pure (g : List (SV Θ) -> Cm (SV Θ))
  | scal (g : List (SV Θ) -> Cm (SV Θ))
  | eff (frz : List Bool) (h : List (SV Θ) -> SHeap Θ -> Cm (SV Θ × SHeap Θ))
abbrev KnownF (Θ : Nat -> Type) := List (Nat × Kn Θ)
def knownGet : KnownF Θ -> Nat -> Option (List (SV Θ) -> Cm (SV Θ))
  | [], _ => none
  | (k, g) :: r, f => match Nat.beq k f with
    | true => match g with
      | .pure g => some g
      | .scal g => some g
      | .eff _ _ => none
    | false => knownGet r f
def effGet : KnownF Θ -> Nat -> Option (List Bool × (List (SV Θ) -> SHeap Θ -> Cm (SV Θ × SHeap Θ)))
  | [], _ => none
  | (k, g) :: r, f => match Nat.beq k f with
    | true => match g with
      | .pure _ => none
      | .scal _ => none
      | .eff b h => some (b, h)
    | false => effGet r f
def scalK : KnownF Θ -> Nat -> Bool
  | [], _ => false
  | (k, g) :: r, f => match Nat.beq k f with
    | true => match g with
      | .scal _ => true
      | _ => false
    | false => scalK r f
def EffOk (P : Program) (C : Cod Θ) (f : Nat) (h : List (SV Θ) -> SHeap Θ -> Cm (SV Θ × SHeap Θ)) : Prop :=
  ∀ (args : List (SV Θ)) (S : SHeap Θ) (Q : SV Θ × SHeap Θ -> Prop), (h args S).den Q -> ∀ (A : Base) (ι : Emb) (as : List AV) (H : Heap), RVs C ι args as -> RH C A ι S H ->
    ∃ v S', Q (v, S') ∧ ACalls P f as H fun r H' => ∃ L, RV C (ι ++ L) v r ∧ RH C A (ι ++ L) S' H'
structure KnownOk (P : Program) (C : Cod Θ) (K : KnownF Θ) : Prop where
  pure : ∀ f g, knownGet K f = some g -> ∀ (args : List (SV Θ)) (Q : SV Θ -> Prop), SV.shut.shutL args = true -> (g args).den Q -> ∃ v, Q v ∧ v.shut = true ∧ (scalK K f = true -> v.sc = true) ∧ PureCall P f (args.map (SV.av C)) (v.av C)
  eff : ∀ f b h, effGet K f = some (b, h) -> EffOk P C f h
def rowsOf : SV Θ -> List Nat
  | .sl _ o _ _ _ => [o]
  | .agg cs => rowsL cs
  | .tup cs => rowsL cs
  | .fn _ cs => rowsL cs
  | .ifc _ x => rowsOf x
  | _ => []
where
  rowsL : List (SV Θ) -> List Nat
  | [] => []
  | x :: r => match rowsOf x with
    | [] => rowsL r
    | o :: os => (o :: os) ++ rowsL r
def freezeL : List Nat -> SEnv Θ -> SHeap Θ -> Cm (SEnv Θ × SHeap Θ)
  | [], ρ, S => .ret (ρ, S)
  | o :: os, ρ, S => (freeze o ρ S).bind fun r => freezeL os r.1 r.2
def partRows (ρ : SEnv Θ) : List (Nat × Nat × AX) -> List Nat
  | [] => []
  | (_, _, x) :: r => match rowsOf (sev ρ x) with
    | [] => partRows ρ r
    | o :: os => (o :: os) ++ partRows ρ r
def rowsFlag : List Bool -> List (SV Θ) -> List Nat
  | b :: bs, x :: xs => match b with
    | true => match rowsOf x with
      | [] => rowsFlag bs xs
      | o :: os => (o :: os) ++ rowsFlag bs xs
    | false => rowsFlag bs xs
  | _, _ => []
def unO (C : Cod Θ) : SO Θ -> SO Θ
  | .hole c xs j cs => match C.dec c cs with
    | some x => .arr c (xs.set j x)
    | none => .hole c xs j cs
  | x => x
def unhole (C : Cod Θ) : SHeap Θ -> SHeap Θ
  | [] => []
  | x :: r => unO C x :: unhole C r
def rwO : SO Θ -> SO Θ
  | .raw c xs => .arr c xs
  | x => x
def hasRaw : SHeap Θ -> Bool
  | [] => false
  | .raw _ _ :: _ => true
  | _ :: r => hasRaw r
def unraw : SHeap Θ -> SHeap Θ
  | [] => []
  | x :: r => rwO x :: unraw r
def unrawC (S : SHeap Θ) : SHeap Θ :=
  match hasRaw S with
  | true => unraw S
  | false => S
def settle (C : Cod Θ) (os : List Nat) (ρ : SEnv Θ) (S : SHeap Θ) : Cm (SEnv Θ × SHeap Θ) :=
  match os with
  | [] => .ret (ρ, unrawC S)
  | o :: os => (freezeL (o :: os) ρ S).bind fun r => .ret (r.1, unhole C (unrawC r.2))
def holeAt (S : SHeap Θ) (o : Nat) : List Nat :=
  match sNth S o with
  | some (.hole _ _ _ cs) => rowsOf.rowsL cs
  | _ => []
def holesAt (S : SHeap Θ) : List Nat -> List Nat
  | [] => []
  | o :: os => match holeAt S o with
    | [] => holesAt S os
    | q :: qs => (q :: qs) ++ holesAt S os
def allHoles : SHeap Θ -> List Nat
  | [] => []
  | .hole _ _ _ cs :: r => match rowsOf.rowsL cs with
    | [] => allHoles r
    | q :: qs => (q :: qs) ++ allHoles r
  | _ :: r => allHoles r
def slHole (S : SHeap Θ) : SV Θ -> List Nat
  | .sl _ o _ _ _ => holeAt S o
  | _ => []
def preRows (K : KnownF Θ) (ρ : SEnv Θ) (S : SHeap Θ) : AAct -> List Nat
  | .m (.buildSlice _ _ _ parts) => partRows ρ parts
  | .m (.ext (.map (.upd _ _ _ _ v))) => rowsOf (sev ρ v)
  | .m (.store _ x y) => match sev ρ x with
    | .eptr _ o _ _ => match sNth S o, sev ρ y with
      | some (.arr _ _), .sl _ _ _ _ _ => []
      | _, v => rowsOf v
    | _ => []
  | .call f args => match sev ρ f with
    | .fn g cap => match knownGet K g with
      | some _ => match scalK K g with
        | true => []
        | false => rowsOf.rowsL (sevL ρ args ++ cap)
      | none => match effGet K g with
        | some p => rowsFlag p.1 (sevL ρ args ++ cap)
        | none => []
    | _ => []
  | .pcall f args => match sev ρ f with
    | .fn g cap => rowsOf.rowsL (sevL ρ args ++ cap)
    | _ => []
  | .qcall f args => match sev ρ f with
    | .fn g cap => match scalK K g with
      | true => []
      | false => rowsOf.rowsL (sevL ρ args ++ cap)
    | _ => []
  | _ => []
def preHoles (K : KnownF Θ) (ρ : SEnv Θ) (S : SHeap Θ) (act : AAct) : List Nat :=
  match act with
  | .p _ => []
  | .m (.load _ _) => []
  | .m (.store _ x _) => match sev ρ x with
    | .eptr _ o _ _ => holeAt S o
    | _ => []
  | .m (.append _ _ x y) => slHole S (sev ρ x) ++ slHole S (sev ρ y)
  | .m (.appendZ _ _ _ x _) => slHole S (sev ρ x)
  | .m (.copy _ x y) => slHole S (sev ρ x) ++ slHole S (sev ρ y)
  | act => holesAt S (preRows K ρ S act)
def movEnv (ρ : SEnv Θ) (o : AOper) : SEnv Θ :=
  match o.dst, o.act with
  | some d, .p (.mov x) => (d, sev ρ x) :: ρ
  | _, _ => ρ
def preRowsL (K : KnownF Θ) (S : SHeap Θ) : SEnv Θ -> List AOper -> List Nat
  | _, [] => []
  | ρ, o :: os => match preRows K ρ S o.act with
    | [] => preRowsL K S (movEnv ρ o) os
    | x :: xs => (x :: xs) ++ preRowsL K S (movEnv ρ o) os
def splitOn (ρ : SEnv Θ) : AAct -> Option (Nat × Bool)
  | .p (.pick (.s t) _ _) => match ρ.get t with
    | .b x => some (t, x)
    | _ => none
  | _ => none
def putS (ρ : SEnv Θ) (d : Option Nat) (v : SV Θ) : SEnv Θ :=
  match d with
  | some t => (t, v) :: ρ
  | none => ρ
def argsEnv : List (SV Θ) -> Nat -> SEnv Θ
  | [], _ => []
  | x :: xs, i => (i, x) :: argsEnv xs (i + 1)
def sResF (C : Cod Θ) (ρ : SEnv Θ) (S : SHeap Θ) : ARes -> Cm (SV Θ)
  | .tmp t => .ret (ρ.get t)
  | .cell t l => sLoad C S l (ρ.get t)
def sResL (C : Cod Θ) (ρ : SEnv Θ) (S : SHeap Θ) : List ARes -> Cm (List (SV Θ))
  | [] => .ret []
  | r :: rs => (sResF C ρ S r).bind fun v => (sResL C ρ S rs).bind fun vs => .ret (v :: vs)
def sRes (C : Cod Θ) (ρ : SEnv Θ) (S : SHeap Θ) (rs : List ARes) : Cm (SV Θ) :=
  match rs with
  | [r] => sResF C ρ S r
  | rs => (sResL C ρ S rs).bind fun vs => .ret (.tup vs)
def sCond (ρ : SEnv Θ) (c : AX) (a b : SEnv Θ -> Cm (Lf Θ)) : Cm (Lf Θ) :=
  match sev ρ c with
  | .kb true => a ρ
  | .kb false => b ρ
  | .b t => match c with
    | .s k => .ite t (a ((k, .kb true) :: ρ)) (b ((k, .kb false) :: ρ))
    | .c _ => .ite t (a ρ) (b ρ)
  | _ => .no
def tagOf : SHeap Θ -> Nat -> Nat
  | [], _ => 0
  | .tag q t :: r, o => match Nat.beq q o with
    | true => t
    | false => tagOf r o
  | _ :: r, o => tagOf r o
def isCC (S : SHeap Θ) (l : List (SV Θ)) (x : FI) : Bool :=
  match l with
  | [.ptr o 0] => match sNth S o with
    | some (.box (.self q :: _ :: _)) => match x.rs with
      | [] => andB (Nat.beq q o) (andB (Nat.ble 1 x.n) (andB (sTag S o (tagOf S o)) (cEq x.code (mkCC (tagOf S o)))))
      | _ :: _ => false
    | _ => false
  | _ => false
abbrev Runs' (Θ : Nat -> Type) := Cmd -> List (Fr Θ) -> SEnv Θ -> SHeap Θ -> Cm (Lf Θ)
def argsK (K : KnownF Θ) (g : Nat) (S : SHeap Θ) (xs : List (SV Θ)) : Cm (List (SV Θ)) :=
  match scalK K g with
  | true => pk.pkL S xs
  | false => match SV.shut.shutL xs with
    | true => .ret xs
    | false => .no
noncomputable def sAct (C : Cod Θ) (T : List (Nat × FI)) (K : KnownF Θ) (ih : Runs' Θ) (N : Nat) (o : AOper) (os : List AOper) (fs : List (Fr Θ)) (ρ : SEnv Θ) (S : SHeap Θ) : Cm (Lf Θ) :=
  match splitOn ρ o.act with
  | some (t, x) => .ite x (ih (.ops N (o :: os)) fs ((t, .kb true) :: ρ) S) (ih (.ops N (o :: os)) fs ((t, .kb false) :: ρ) S)
  | none => (settle C (preHoles K ρ S o.act) ρ S).bind fun r0 => (freezeL (preRows K r0.1 r0.2 o.act) r0.1 r0.2).bind fun r => match o.act with
    | .p op => (sP C r.1 op).bind fun v => ih (.ops N os) fs (putS r.1 o.dst v) r.2
    | .m op => (sM C o.h r.1 r.2 op).bind fun v => ih (.ops N os) fs (putS r.1 o.dst v.1) v.2
    | .call f args => match sev r.1 f with
      | .fn g cap => match knownGet K g with
        | some h => (argsK K g r.2 (sevL r.1 args ++ cap)).bind fun xs => (h xs).bind fun v => ih (.ops N os) fs (putS r.1 o.dst v) r.2
        | none => match effGet K g with
         | some p => (p.2 (sevL r.1 args ++ cap) r.2).bind fun v => ih (.ops N os) fs (putS r.1 o.dst v.1) v.2
         | none => match lookupT T g with
          | some x => match isCC r.2 (sevL r.1 args ++ cap) x with
            | true => ih (.ops N os) fs (putS r.1 o.dst (.tup [])) r.2
            | false => match Nat.ble (sevL r.1 args ++ cap).length x.n with
              | true => ih (.ex x.n x.code) (.cal r.1 o.dst x.rs :: .ops N os :: fs) (argsEnv (sevL r.1 args ++ cap) 0) r.2
              | false => .no
          | none => .no
      | _ => .no
    | .pcall f args => .no
    | .qcall f args => .no
    | .never => .no
def rdOk : MOp -> Bool
  | .load _ _ => true
  | .alloc _ => true
  | .box _ => true
  | _ => false
abbrev RdK (Θ : Nat -> Type) := SEnv Θ -> SHeap Θ -> Cm (SV Θ)
noncomputable def rdOne (C : Cod Θ) (o : AOper) (rest : RdK Θ) : RdK Θ := fun ρ S =>
  match o.act with
  | .p op => (sP C ρ op).bind fun v => rest (putS ρ o.dst v) S
  | .m op => match rdOk op with
    | true => (sM C o.h ρ S op).bind fun v => rest (putS ρ o.dst v.1) v.2
    | false => .no
  | _ => .no
def rdPass (o : AOper) (rest : RdK Θ) : RdK Θ := fun ρ S => rest (putS ρ o.dst (.v (.tuple #[]))) S
noncomputable def rdGuard (C : Cod Θ) (o : AOper) (rest : RdK Θ) : RdK Θ := fun ρ S =>
  match o.guard with
  | none => rdOne C o rest ρ S
  | some (g, want) => match ρ.get g with
    | .kb b => match b, want with
      | true, true => rdOne C o rest ρ S
      | false, false => rdOne C o rest ρ S
      | true, false => rdPass o rest ρ S
      | false, true => rdPass o rest ρ S
    | .b b => match want with
      | true => .ite b (rdOne C o rest ((g, .kb true) :: ρ) S) (rdPass o rest ((g, .kb false) :: ρ) S)
      | false => .ite b (rdPass o rest ((g, .kb true) :: ρ) S) (rdOne C o rest ((g, .kb false) :: ρ) S)
    | .v (.tuple _) => rdPass o rest ρ S
    | _ => .no
noncomputable def rdOps (C : Cod Θ) : List AOper -> RdK Θ -> RdK Θ
  | [], k => k
  | o :: os, k => fun ρ S => match splitOn ρ o.act with
    | some (t, x) => .ite x (rdGuard C o (rdOps C os k) ((t, .kb true) :: ρ) S) (rdGuard C o (rdOps C os k) ((t, .kb false) :: ρ) S)
    | none => rdGuard C o (rdOps C os k) ρ S
noncomputable def rdC (C : Cod Θ) : ACode -> (AExit -> RdK Θ) -> RdK Θ
  | .skip, k => k .normal
  | .ops l, k => rdOps C l (k .normal)
  | .draw l, k => rdOps C l (k .normal)
  | .seq a b, k => rdC C a fun x => match x with
    | .normal => rdC C b k
    | .exit j => k (.exit j)
    | .ret => k .ret
  | .cond c a b, k => fun ρ S => match sev ρ c with
    | .kb true => rdC C a k ρ S
    | .kb false => rdC C b k ρ S
    | .b t => match c with
      | .s i => .ite t (rdC C a k ((i, .kb true) :: ρ) S) (rdC C b k ((i, .kb false) :: ρ) S)
      | .c _ => .ite t (rdC C a k ρ S) (rdC C b k ρ S)
    | _ => .no
  | .block id a, k => rdC C a fun x => match x with
    | .normal => k .normal
    | .exit j => match Nat.beq j id with
      | true => k .normal
      | false => k (.exit j)
    | .ret => k .ret
  | .exit id, k => k (.exit id)
  | .ret, k => k .ret
  | _, _ => fun _ _ => .no
def rdEnd (C : Cod Θ) (rs : List ARes) (e : AExit) : RdK Θ := fun ρ S =>
  match e with
  | .exit _ => .no
  | _ => sRes C ρ S rs
noncomputable def rdCall (C : Cod Θ) (S : SHeap Θ) (x : FI) (args : List (SV Θ)) : Cm (SV Θ) :=
  match Nat.ble args.length x.n with
  | true => (rdC C x.code (rdEnd C x.rs) (argsEnv args 0) S).bind fun v => match v.shut with
    | true => .ret v
    | false => .no
  | false => .no
noncomputable def dOne (C : Cod Θ) (T : List (Nat × FI)) (K : KnownF Θ) (o : AOper) (rest : SEnv Θ -> SHeap Θ -> Cm (Lf Θ)) (ρ : SEnv Θ) (S : SHeap Θ) : Cm (Lf Θ) :=
  match o.act with
  | .p op => (sP C ρ op).bind fun v => rest (putS ρ o.dst v) S
  | .m op => (sM C o.h ρ S op).bind fun v => rest (putS ρ o.dst v.1) v.2
  | .call f args => match sev ρ f with
    | .fn g cap => match knownGet K g with
      | some h => (argsK K g S (sevL ρ args ++ cap)).bind fun xs => (h xs).bind fun v => rest (putS ρ o.dst v) S
      | none => .no
    | _ => .no
  | .pcall f args => match sev ρ f with
    | .fn g cap => match knownGet K g with
      | some h => match SV.shut.shutL (sevL ρ args ++ cap) with
        | true => (h (sevL ρ args ++ cap)).bind fun v => rest (putS ρ o.dst v) S
        | false => .no
      | none => .no
    | _ => .no
  | .qcall f args => match sev ρ f with
    | .fn g cap => match knownGet K g with
      | some h => (argsK K g S (sevL ρ args ++ cap)).bind fun xs => (h xs).bind fun v => rest (putS ρ o.dst v) S
      | none => match lookupT T g with
        | some x => (rdCall C S x (sevL ρ args ++ cap)).bind fun v => rest (putS ρ o.dst v) S
        | none => .no
    | _ => .no
  | .never => .no
def dPass (o : AOper) (rest : SEnv Θ -> SHeap Θ -> Cm (Lf Θ)) (ρ : SEnv Θ) (S : SHeap Θ) : Cm (Lf Θ) := rest (putS ρ o.dst (.v (.tuple #[]))) S
noncomputable def dGuard (C : Cod Θ) (T : List (Nat × FI)) (K : KnownF Θ) (o : AOper) (rest : SEnv Θ -> SHeap Θ -> Cm (Lf Θ)) (ρ : SEnv Θ) (S : SHeap Θ) : Cm (Lf Θ) :=
  match o.guard with
  | none => dOne C T K o rest ρ S
  | some (g, want) => match ρ.get g with
    | .kb b => match b, want with
      | true, true => dOne C T K o rest ρ S
      | false, false => dOne C T K o rest ρ S
      | true, false => dPass o rest ρ S
      | false, true => dPass o rest ρ S
    | .b b => match want with
      | true => .ite b (dOne C T K o rest ((g, .kb true) :: ρ) S) (dPass o rest ((g, .kb false) :: ρ) S)
      | false => .ite b (dPass o rest ((g, .kb true) :: ρ) S) (dOne C T K o rest ((g, .kb false) :: ρ) S)
    | .v (.tuple _) => dPass o rest ρ S
    | _ => .no
noncomputable def sDraw (C : Cod Θ) (T : List (Nat × FI)) (K : KnownF Θ) : List AOper -> SEnv Θ -> SHeap Θ -> (SEnv Θ -> SHeap Θ -> Cm (Lf Θ)) -> Cm (Lf Θ)
  | [], ρ, S, k => k ρ S
  | o :: os, ρ, S, k => match splitOn ρ o.act with
    | some (t, x) => .ite x (dGuard C T K o (fun ρ S => sDraw C T K os ρ S k) ((t, .kb true) :: ρ) S) (dGuard C T K o (fun ρ S => sDraw C T K os ρ S k) ((t, .kb false) :: ρ) S)
    | none => dGuard C T K o (fun ρ S => sDraw C T K os ρ S k) ρ S
def noMarks : List AOper -> List Bool -> Bool
  | [], [] => true
  | _ :: l, b :: ms => match b with
    | true => false
    | false => noMarks l ms
  | _, _ => false
noncomputable def runStep (C : Cod Θ) (T : List (Nat × FI)) (K : KnownF Θ) (rs0 : List ARes) (ih : Runs' Θ) : Runs' Θ := fun cmd fs ρ S =>
  match cmd with
  | .ex N c => match c with
    | .skip => ih (.back .normal) fs ρ S
    | .ops l => ih (.ops N l) fs ρ S
    | .draw l => (settle C (preRowsL K S ρ l) ρ S).bind fun r => sDraw C T K l r.1 r.2 fun ρ S => ih (.back .normal) fs ρ S
    | .drawk l ms => match noMarks l ms with
      | true => (settle C (preRowsL K S ρ l) ρ S).bind fun r => sDraw C T K l r.1 r.2 fun ρ S => ih (.back .normal) fs ρ S
      | false => .no
    | .seq a b => ih (.ex N a) (.seq N b :: fs) ρ S
    | .cond c a b => sCond ρ c (fun ρ => ih (.ex N a) fs ρ S) (fun ρ => ih (.ex N b) fs ρ S)
    | .block id a => ih (.ex N a) (.blk id :: fs) ρ S
    | .loop a => (settle C (allHoles S) ρ S).bind fun r => .ret (.at (.lp N a :: fs) r.1 r.2)
    | .never => .no
    | .exit id => ih (.back (.exit id)) fs ρ S
    | .ret => ih (.back .ret) fs ρ S
  | .back x => match fs with
    | [] => match x with
      | .exit _ => .no
      | _ => (sRes C ρ S rs0).bind fun v => .ret (.fin v S)
    | .seq N b :: fs => match x with
      | .normal => ih (.ex N b) fs ρ S
      | .exit j => ih (.back (.exit j)) fs ρ S
      | .ret => ih (.back .ret) fs ρ S
    | .blk id :: fs => match x with
      | .normal => ih (.back .normal) fs ρ S
      | .exit j => match Nat.beq j id with
        | true => ih (.back .normal) fs ρ S
        | false => ih (.back (.exit j)) fs ρ S
      | .ret => ih (.back .ret) fs ρ S
    | .lp N a :: fs => match x with
      | .normal => (settle C (allHoles S) ρ S).bind fun r => .ret (.at (.lp N a :: fs) r.1 r.2)
      | .exit j => ih (.back (.exit j)) fs ρ S
      | .ret => ih (.back .ret) fs ρ S
    | .ops N l :: fs => match x with
      | .normal => ih (.ops N l) fs ρ S
      | _ => .no
    | .cal ρ' dst rs :: fs => match x with
      | .exit _ => .no
      | _ => (sRes C ρ S rs).bind fun v => ih (.back .normal) fs (putS ρ' dst v) S
  | .ops N l => match l with
    | [] => ih (.back .normal) fs ρ S
    | o :: os => match o.guard with
      | none => sAct C T K ih N o os fs ρ S
      | some (g, want) => match ρ.get g with
        | .kb b => match b, want with
          | true, true => sAct C T K ih N o os fs ρ S
          | false, false => sAct C T K ih N o os fs ρ S
          | true, false => ih (.ops N os) fs (putS ρ o.dst (.v (.tuple #[]))) S
          | false, true => ih (.ops N os) fs (putS ρ o.dst (.v (.tuple #[]))) S
        | .b b => .ite b (ih (.ops N l) fs ((g, .kb true) :: ρ) S) (ih (.ops N l) fs ((g, .kb false) :: ρ) S)
        | .v (.tuple _) => ih (.ops N os) fs (putS ρ o.dst (.v (.tuple #[]))) S
        | _ => .no
noncomputable def run (C : Cod Θ) (T : List (Nat × FI)) (K : KnownF Θ) (rs0 : List ARes) : Nat -> Runs' Θ
  | 0 => fun _ _ _ _ => .no
  | n + 1 => runStep C T K rs0 (run C T K rs0 n)
section
variable {C : Cod Θ} {ι : Emb} {A : Base} {S : SHeap Θ} {H : Heap} {P : Program} {rs0 : List ARes} {Qf : AV -> Heap -> Prop}
def opsQ (P : Program) (N : Nat) (l : List AOper) (Q : AExit -> St -> Prop) : AExit -> St -> Prop
  | .normal, s => gOps P N l (Q .normal) s
  | _, _ => False
inductive FR (P : Program) (C : Cod Θ) (rs0 : List ARes) (Qf : AV -> Heap -> Prop) (ι : Emb) : List (Fr Θ) -> (AExit -> St -> Prop) -> Prop
  | nil : FR P C rs0 Qf ι [] (retQ rs0 Qf)
  | seq {fs Q N b} (h : FR P C rs0 Qf ι fs Q) : FR P C rs0 Qf ι (.seq N b :: fs) (thenQ (gc P N b Q) Q)
  | blk {fs Q id} (h : FR P C rs0 Qf ι fs Q) : FR P C rs0 Qf ι (.blk id :: fs) (blockQ id Q)
  | lp {fs Q N a} (h : FR P C rs0 Qf ι fs Q) : FR P C rs0 Qf ι (.lp N a :: fs) (thenQ (ALoop P N a Q) Q)
  | ops {fs Q N l} (h : FR P C rs0 Qf ι fs Q) : FR P C rs0 Qf ι (.ops N l :: fs) (opsQ P N l Q)
  | cal {fs Q ρ e dst rs} (h : FR P C rs0 Qf ι fs Q) (he : RE C ι ρ e) : FR P C rs0 Qf ι (.cal ρ dst rs :: fs) (retQ rs fun r H => Q .normal (St.put ⟨e, H⟩ dst r H))
theorem FR.mono {fs : List (Fr Θ)} {Q : AExit -> St -> Prop} (h : FR P C rs0 Qf ι fs Q) (L : Emb) : FR P C rs0 Qf (ι ++ L) fs Q := by
  induction h with
  | nil => exact .nil
  | seq _ ih => exact .seq ih
  | blk _ ih => exact .blk ih
  | lp _ ih => exact .lp ih
  | ops _ ih => exact .ops ih
  | cal _ he ih => exact .cal ih (he.mono L)
def CW (P : Program) (C : Cod Θ) (A : Base) (rs0 : List ARes) (Qf : AV -> Heap -> Prop) (fs : List (Fr Θ)) (ρ : SEnv Θ) (S : SHeap Θ) : Prop :=
  ∀ (ι : Emb) (s : St) (Q : AExit -> St -> Prop), FR P C rs0 Qf ι fs Q -> RE C ι ρ s.env -> RH C A ι S s.heap -> Q .normal s
def LfP (P : Program) (C : Cod Θ) (A : Base) (rs0 : List ARes) (Qf : AV -> Heap -> Prop) : Lf Θ -> Prop
  | .fin v S => ∀ (ι : Emb) (r : AV) (H : Heap), RV C ι v r -> RH C A ι S H -> Qf r H
  | .at fs ρ S => CW P C A rs0 Qf fs ρ S
def CmdP (P : Program) (Q : AExit -> St -> Prop) (s : St) : Cmd -> Prop
  | .ex N c => gc P N c Q s
  | .back x => Q x s
  | .ops N l => gOps P N l (Q .normal) s
theorem Cm.den_split {α : Type} {b : Bool} {t e : Cm α} {K : α -> Prop} (h : (Cm.ite b t e).den K) : (b = true ∧ t.den K) ∨ (b = false ∧ e.den K) := by
  cases b with
  | true => exact .inl ⟨rfl, h.1 rfl⟩
  | false => exact .inr ⟨rfl, h.2 rfl⟩
theorem RE.kb {ρ : SEnv Θ} {e : Env} (he : RE C ι ρ e) {t : Nat} {x : Bool} (h : ρ.get t = .b x) : RE C ι ((t, .kb x) :: ρ) e := by
  refine he.known ?_
  have := he t
  rw [h] at this
  generalize e t = a at this
  cases this
  exact .kb _
theorem RE.putS {ρ : SEnv Θ} {s : St} (he : RE C ι ρ s.env) {v : SV Θ} {a : AV} (hv : RV C ι v a) (d : Option Nat) (H : Heap) : RE C ι (Go.Ab.putS ρ d v) (s.put d a H).env := by
  cases d with
  | none => exact he
  | some t => exact he.cons hv
theorem argsEnv_get : ∀ {xs : List (SV Θ)} {as : List AV} (i : Nat), RVs C ι xs as -> ∀ t, RV C ι ((argsEnv xs i).get t) (if i <= t then (as[t - i]?).getD .any else .any) := by
  intro xs
  induction xs with
  | nil => intro as i h t; exact .any _
  | cons x xs ih =>
    intro as i h t
    obtain ⟨a, bs, rfl, ha, hb⟩ := h.uncons
    simp only [argsEnv, SEnv.get]
    split
    · rename_i ht
      have := nbeq_true ht
      subst this
      rw [if_pos (Nat.le_refl _)]
      simpa using ha
    · rename_i ht
      have hne := nbeq_false ht
      have := ih (i + 1) hb t
      by_cases h1 : i <= t
      · rw [if_pos (by omega)] at this
        rw [if_pos h1, show t - i = (t - (i + 1)) + 1 by omega]
        simpa using this
      · rw [if_neg (by omega)] at this
        rw [if_neg h1]
        exact this
theorem RE.args {xs : List (SV Θ)} {as : List AV} (h : RVs C ι xs as) : RE C ι (argsEnv xs 0) (envOf as) := by
  intro t
  have := argsEnv_get 0 h t
  simpa [envOf] using this
theorem resF_typed (ok : CodOk C) (r : RH C A ι S H) {ρ : SEnv Θ} {e : Env} (he : RE C ι ρ e) {x : ARes} {K : SV Θ -> Prop} (h : (sResF C ρ S x).den K) : ∃ v a, resF ⟨e, H⟩ x = some a ∧ RV C ι v a ∧ K v := by
  cases x with
  | tmp t => exact ⟨_, _, rfl, he t, h⟩
  | cell t l =>
    obtain ⟨v, b, h1, h2, h3⟩ := load_typed ok r (he t) h
    exact ⟨v, b, h1, h2, h3⟩
theorem resL_typed (ok : CodOk C) (r : RH C A ι S H) {ρ : SEnv Θ} {e : Env} (he : RE C ι ρ e) : ∀ {xs : List ARes} {K : List (SV Θ) -> Prop}, (sResL C ρ S xs).den K -> ∃ vs as, xs.mapM (resF ⟨e, H⟩) = some as ∧ RVs C ι vs as ∧ K vs := by
  intro xs
  induction xs with
  | nil => intro K h; exact ⟨[], [], rfl, .nil, h⟩
  | cons x xs ih =>
    intro K h
    obtain ⟨v, a, h1, h2, h3⟩ := resF_typed ok r he (Cm.den_bind h)
    obtain ⟨vs, as, h4, h5, h6⟩ := ih (Cm.den_bind h3)
    refine ⟨v :: vs, a :: as, ?_, .cons h2 h5, h6⟩
    rw [List.mapM_cons, h1, h4]; rfl
theorem res_typed (ok : CodOk C) (r : RH C A ι S H) {ρ : SEnv Θ} {e : Env} (he : RE C ι ρ e) {xs : List ARes} {K : SV Θ -> Prop} (h : (sRes C ρ S xs).den K) : ∃ v a, resV xs ⟨e, H⟩ = some a ∧ RV C ι v a ∧ K v := by
  unfold sRes at h
  split at h
  · obtain ⟨v, a, h1, h2, h3⟩ := resF_typed ok r he h
    exact ⟨v, a, h1, h2, h3⟩
  · rename_i hne
    obtain ⟨vs, as, h1, h2, h3⟩ := resL_typed ok r he (Cm.den_bind h)
    refine ⟨.tup vs, .tup as, ?_, .tup h2.1 h2.2, h3⟩
    unfold resV
    split
    · exact absurd rfl (hne _)
    · rw [h1]; rfl
theorem freezeL_sound (ok : CodOk C) {N : Nat} : ∀ {os : List Nat} {ρ : SEnv Θ} {e : Env} {S : SHeap Θ} {H : Heap}, RH C A ι S H -> RE C ι ρ e -> ∀ {K : SEnv Θ × SHeap Θ -> Prop}, (freezeL os ρ S).den K ->
    ∃ ρ' S' e' H', NormS N ⟨e, H⟩ ⟨e', H'⟩ ∧ RH C A ι S' H' ∧ RE C ι ρ' e' ∧ (∀ t b, ρ.get t = .kb b -> ρ'.get t = .kb b) ∧ K (ρ', S') := by
  intro os
  induction os with
  | nil => intro ρ e S H r he K h; exact ⟨ρ, S, e, H, .refl _ _, r, he, fun _ _ h => h, h⟩
  | cons o os ih =>
    intro ρ e S H r he K h
    obtain ⟨ρ1, S1, e1, H1, h1, h2, h3, h4, h5⟩ := freeze_sound ok (N := N) r he (Cm.den_bind h)
    obtain ⟨ρ2, S2, e2, H2, k1, k2, k3, k4, k5⟩ := ih h2 h3 h5
    exact ⟨ρ2, S2, e2, H2, h1.trans k1, k2, k3, fun t b h => k4 t b (h4 t b h), k5⟩
theorem unhole_get : ∀ {S : SHeap Θ} (i : Nat), (unhole C S)[i]? = (S[i]?).map (unO C) := by
  intro S
  induction S with
  | nil => intro i; simp [unhole]
  | cons x S ih => intro i; cases i with
    | zero => simp [unhole]
    | succ i => simpa [unhole] using ih i
theorem unhole_length : ∀ {S : SHeap Θ}, (unhole C S).length = S.length := by
  intro S
  induction S with
  | nil => rfl
  | cons x S ih => simp [unhole, ih]
theorem unO_obj (ok : CodOk C) {x : SO Θ} {y : AObj} (h : RObj C ι x y) : RObj C ι (unO C x) y := by
  cases h with
  | box h => exact .box h
  | arr c xs ext => exact .arr c xs ext
  | map c d es => exact .map c d es
  | raw hx ext h => exact .raw hx ext h
  | @hole c xs j cs ins hj hi hl ext =>
    simp only [unO]
    split
    · rename_i x hx
      have e := ok.wr c _ x _ ι hx hi
      subst e
      have := RObj.arr (C := C) (ι := ι) c (xs.set j x) ext
      have e2 : C.flat c (xs.set j x) ++ ext = C.flat c (xs.take j) ++ (C.avs c x ++ (C.flat c (xs.drop (j + 1)) ++ ext)) := by
        have : xs.set j x = xs.take j ++ (x :: xs.drop (j + 1)) := by rw [List.set_eq_take_append_cons_drop, if_pos hj]
        rw [this, flat_append, flat_cons]; simp
      rw [e2] at this
      exact this
    · exact .hole hj hi hl ext
theorem unhole_sound (ok : CodOk C) (r : RH C A ι S H) : RH C A ι (unhole C S) H := by
  have dead : ∀ {o : Nat}, S[o]? = some SO.dead -> (unhole C S)[o]? = some SO.dead := fun h => by rw [unhole_get, h]; rfl
  refine ⟨by rw [r.len, unhole_length], r.lt, fun o o' p h1 h2 => ?_, fun o p x h1 h2 => ?_, fun o x h1 h2 => ?_, fun j q t h => ?_, r.own, r.big, r.base, r.rts⟩
  · rcases r.inj o o' p h1 h2 with h | h | h
    · exact .inl h
    · exact .inr (.inl (dead h))
    · exact .inr (.inr (dead h))
  · rw [unhole_get, Option.map_eq_some_iff] at h2
    obtain ⟨x0, h2, rfl⟩ := h2
    rcases r.obj o p x0 h1 h2 with rfl | ⟨y, hy, hr⟩
    · exact .inl rfl
    · exact .inr ⟨y, hy, unO_obj ok hr⟩
  · rw [unhole_get, Option.map_eq_some_iff] at h2
    obtain ⟨x0, h2, rfl⟩ := h2
    rcases r.nil o x0 h1 h2 with rfl | ⟨c, rfl⟩ | ⟨q, t, rfl⟩
    · exact .inl rfl
    · exact .inr (.inl ⟨c, rfl⟩)
    · exact .inr (.inr ⟨q, t, rfl⟩)
  · rw [unhole_get, Option.map_eq_some_iff] at h
    obtain ⟨x0, h0, h⟩ := h
    have hx0 : x0 = .tag q t := by
      cases x0 <;> simp only [unO] at h
      case hole c xs j cs => split at h <;> cases h
      all_goals first | exact h | cases h
    subst hx0
    obtain ⟨k0, k⟩ := r.tg j q t h0
    refine ⟨by rw [unhole_length]; exact k0, fun p hp => ?_⟩
    obtain ⟨k1, k2⟩ := k p hp
    refine ⟨k1, fun c xs hx => ?_⟩
    rw [unhole_get, Option.map_eq_some_iff] at hx
    obtain ⟨y0, hy0, hx⟩ := hx
    cases y0 <;> simp only [unO] at hx
    case arr c' xs' => exact k2 c xs (by rw [hy0, hx])
    case hole c' ys j' cs =>
      split at hx
      · cases hx
        rcases r.obj q p _ hp hy0 with h | ⟨y, hy, hr⟩
        · cases h
        · cases hr with
          | hole hj hi hl ext =>
            intro e
            have := congrArg List.length e
            simp at this
            rw [this] at hj
            exact absurd hj (Nat.not_lt_zero _)
      · cases hx
    all_goals cases hx
theorem unraw_get : ∀ {S : SHeap Θ} (i : Nat), (unraw S)[i]? = (S[i]?).map rwO := by
  intro S
  induction S with
  | nil => intro i; simp [unraw]
  | cons x S ih => intro i; cases i with
    | zero => simp [unraw]
    | succ i => simpa [unraw] using ih i
theorem unraw_length : ∀ {S : SHeap Θ}, (unraw S).length = S.length := by
  intro S
  induction S with
  | nil => rfl
  | cons x S ih => simp [unraw, ih]
theorem unraw_sound {N : Nat} (r : RH C A ι S H) (e : Env) : ∃ H', NormS N ⟨e, H⟩ ⟨e, H'⟩ ∧ RH C A ι (unrawC S) H' := by
  unfold unrawC
  split
  rotate_left
  · exact ⟨H, .refl _ _, r⟩
  have hobj : ∀ (q : Nat) (y : AObj), H[q]? = some y -> ∃ z, FzObj H none y z ∧ ((∀ (o' : Nat), ι[o']? = some (some q) -> S[o']? = some SO.dead) -> z = y) ∧ ∀ (o' : Nat) (x : SO Θ), ι[o']? = some (some q) -> S[o']? = some x -> x ≠ SO.dead -> RObj C ι (rwO x) z := by
    intro q y hy
    by_cases hex : ∃ (o' : Nat) (x : SO Θ), ι[o']? = some (some q) ∧ S[o']? = some x ∧ x ≠ SO.dead
    · obtain ⟨o', x, h1, h2, h3⟩ := hex
      have uniq : ∀ (o₂ : Nat) (x₂ : SO Θ), ι[o₂]? = some (some q) -> S[o₂]? = some x₂ -> x₂ ≠ .dead -> o₂ = o' := by
        intro o₂ x₂ k1 k2 k3
        rcases r.inj o₂ o' q k1 h1 with h | h | h
        · exact h
        · rw [k2] at h; exact absurd (Option.some.inj h) k3
        · rw [h2] at h; exact absurd (Option.some.inj h) h3
      rcases r.obj o' q x h1 h2 with h | ⟨y', hy', hr⟩
      · exact absurd h h3
      · rw [hy] at hy'
        have hyy := Option.some.inj hy'
        subst hyy
        have plain : rwO x = x -> ∃ z, FzObj H none y z ∧ ((∀ (o' : Nat), ι[o']? = some (some q) -> S[o']? = some SO.dead) -> z = y) ∧ ∀ (o' : Nat) (x : SO Θ), ι[o']? = some (some q) -> S[o']? = some x -> x ≠ SO.dead -> RObj C ι (rwO x) z := by
          intro hx
          refine ⟨y, .inl rfl, fun _ => rfl, fun o₂ x₂ k1 k2 k3 => ?_⟩
          have := uniq o₂ x₂ k1 k2 k3
          subst this
          rw [h2] at k2; cases k2
          rw [hx]; exact hr
        cases hr with
        | box hb => exact plain rfl
        | arr c xs ext => exact plain rfl
        | map c d es => exact plain rfl
        | hole hj hi hl ext => exact plain rfl
        | @raw c xs as hx ext hn =>
          refine ⟨.cells (C.flat c xs ++ ext), .inr ⟨_, _, rfl, rfl, hn.1.symm, fun j a b ha hb => ?_⟩, fun hall => ?_, fun o₂ x₂ k1 k2 k3 => ?_⟩
          · rcases hn.2 j a b ha hb with h | ⟨h, sz, h'⟩
            · rw [h]; exact .same _
            · rw [h']
              rcases h with h | h
              · rw [h]; exact .nil0
              · rw [h]; exact .z0
          · have := hall o' h1
            rw [h2] at this; exact absurd (Option.some.inj this) h3
          · have := uniq o₂ x₂ k1 k2 k3
            subst this
            rw [h2] at k2; cases k2
            exact .arr c xs ext
    · exact ⟨y, .inl rfl, fun _ => rfl, fun o' x k1 k2 k3 => absurd ⟨o', x, k1, k2, k3⟩ hex⟩
  obtain ⟨H', hl', hH'⟩ := list_choose hobj
  have at' : ∀ (q : Nat) (z : AObj), H'[q]? = some z -> ∃ y, H[q]? = some y ∧ FzObj H none y z := by
    intro q z hz
    have hq : q < H.length := by have := getElem?_lt hz; omega
    exact ⟨H[q], by simp [hq], (hH' q _ z (by simp [hq]) hz).1⟩
  refine ⟨H', NormS.freeze (p := none) hl' at' fun t => .same _, ?_⟩
  have dead : ∀ {o : Nat}, S[o]? = some SO.dead -> (unraw S)[o]? = some SO.dead := fun h => by rw [unraw_get, h]; rfl
  refine ⟨by rw [r.len, unraw_length], fun o p h => by rw [hl']; exact r.lt o p h, fun o o' p h1 h2 => ?_, fun o p x h1 h2 => ?_, fun o x h1 h2 => ?_, fun j q t h => ?_, r.own, by rw [hl']; exact r.big, fun p hp hm => ?_, r.rts⟩
  · rcases r.inj o o' p h1 h2 with h | h | h
    · exact .inl h
    · exact .inr (.inl (dead h))
    · exact .inr (.inr (dead h))
  · rw [unraw_get, Option.map_eq_some_iff] at h2
    obtain ⟨x0, h2, rfl⟩ := h2
    by_cases hd : x0 = .dead
    · subst hd; exact .inl rfl
    · have hp := r.lt o p h1
      exact .inr ⟨H'[p]'(by omega), by simp [show p < H'.length by omega], (hH' p H[p] (H'[p]'(by omega)) (by simp [hp]) (by simp [show p < H'.length by omega])).2.2 o x0 h1 h2 hd⟩
  · rw [unraw_get, Option.map_eq_some_iff] at h2
    obtain ⟨x0, h2, rfl⟩ := h2
    rcases r.nil o x0 h1 h2 with rfl | ⟨c, rfl⟩ | ⟨q, t, rfl⟩
    · exact .inl rfl
    · exact .inr (.inl ⟨c, rfl⟩)
    · exact .inr (.inr ⟨q, t, rfl⟩)
  · rw [unraw_get, Option.map_eq_some_iff] at h
    obtain ⟨x0, h0, h⟩ := h
    have hx0 : x0 = .tag q t := by cases x0 <;> simp only [rwO] at h <;> first | exact h | cases h
    subst hx0
    obtain ⟨k0, k⟩ := r.tg j q t h0
    refine ⟨by rw [unraw_length]; exact k0, fun p hp => ?_⟩
    obtain ⟨k1, k2⟩ := k p hp
    refine ⟨?_, fun c xs hx => ?_⟩
    · obtain ⟨i, hi⟩ := tagged_get' k1
      have hil : i < H.length := getElem?_lt hi
      have := (hH' i _ (H'[i]'(by omega)) hi (by simp [show i < H'.length by omega])).1
      rcases this with h7 | ⟨cs7, _, h7, _⟩
      · exact tagged_of (i := i) (by rw [show H'[i]? = some (H'[i]'(by omega)) by simp [show i < H'.length by omega], <- h7])
      · cases h7
    · rw [unraw_get, Option.map_eq_some_iff] at hx
      obtain ⟨y0, hy0, hx⟩ := hx
      cases y0 <;> simp only [rwO] at hx
      case arr c' ys => exact k2 c xs (by rw [hy0, hx])
      case raw c' ys =>
        cases hx
        rcases r.obj q p _ hp hy0 with h | ⟨y, hy, hr⟩
        · cases h
        · cases hr with
          | raw hx ext hn => exact hx
      all_goals cases hx
  · have hno : ∀ o', ι[o']? = some (some p) -> False := fun o' h1 => by
      rcases r.own o' p h1 with h | h
      · omega
      · exact hm h
    have hqH : p < H.length := by have := r.big; omega
    have := (hH' p H[p] (H'[p]'(by omega)) (by simp [hqH]) (by simp [show p < H'.length by omega])).2.1 (fun o' h1 => (hno o' h1).elim)
    rw [show H'[p]? = some (H'[p]'(by omega)) by simp [show p < H'.length by omega], this]
    have := r.base p hp hm
    rw [<- this]; simp [hqH]
theorem settle_sound (ok : CodOk C) {N : Nat} {os : List Nat} {ρ : SEnv Θ} {e : Env} {S : SHeap Θ} {H : Heap} (r : RH C A ι S H) (he : RE C ι ρ e) {K : SEnv Θ × SHeap Θ -> Prop} (h : (settle C os ρ S).den K) :
    ∃ ρ' S' e' H', NormS N ⟨e, H⟩ ⟨e', H'⟩ ∧ RH C A ι S' H' ∧ RE C ι ρ' e' ∧ (∀ t b, ρ.get t = .kb b -> ρ'.get t = .kb b) ∧ K (ρ', S') := by
  unfold settle at h
  split at h
  · obtain ⟨H1, k1, k2⟩ := unraw_sound (N := N) r e
    exact ⟨ρ, _, e, H1, k1, k2, he, fun _ _ h => h, h⟩
  · obtain ⟨ρ1, S1, e1, H1, h1, h2, h3, h4, h5⟩ := freezeL_sound ok (N := N) r he (Cm.den_bind h)
    obtain ⟨H2, k1, k2⟩ := unraw_sound (N := N) h2 e1
    exact ⟨ρ1, _, e1, H2, h1.trans k1, unhole_sound ok k2, h3, h4, h5⟩
def RdAt (C : Cod Θ) (A : Base) (H0 : Heap) (ρ : SEnv Θ) (S : SHeap Θ) (s : St) : Prop := ∃ ι, RE C ι ρ s.env ∧ RH C A ι S s.heap ∧ ∃ L, s.heap = H0 ++ L
theorem RdAt.kb {H0 : Heap} {ρ : SEnv Θ} {S : SHeap Θ} {s : St} (h : RdAt C A H0 ρ S s) {t : Nat} {x : Bool} (hx : ρ.get t = .b x) : RdAt C A H0 ((t, .kb x) :: ρ) S s := by
  obtain ⟨ι, h1, h2, h3⟩ := h
  exact ⟨ι, h1.kb hx, h2, h3⟩
theorem rdOk_app {op : MOp} (h : rdOk op = true) {e : Env} {H : Heap} {a : AV} {H' : Heap} (hr : op.run e H = some (a, H')) : ∃ L, H' = H ++ L := by
  cases op <;> simp only [rdOk, Bool.false_eq_true] at h
  case load l x =>
    simp only [MOp.run, Option.map_eq_some_iff] at hr
    obtain ⟨y, _, hy⟩ := hr
    cases hy
    exact ⟨[], by simp⟩
  case alloc zs => simp only [MOp.run] at hr; cases hr; exact ⟨_, rfl⟩
  case box x =>
    simp only [MOp.run] at hr
    split at hr
    · cases hr; exact ⟨_, rfl⟩
    · cases hr
theorem rdOne_sound (ok : CodOk C) {H0 : Heap} {L0 : SV Θ -> Prop} {rest : RdK Θ} {o : AOper} {ρ : SEnv Θ} {S : SHeap Θ} (h : (rdOne C o rest ρ S).den L0) {s : St} (ha : RdAt C A H0 ρ S s) {R : St -> Prop}
    (hrest : ∀ ρ S s, RdAt C A H0 ρ S s -> (rest ρ S).den L0 -> R s) : vcAct P o.act (fun v H => R (s.put o.dst v H)) s ∧ vcActD P o.act (fun v H => R (s.put o.dst v H)) s := by
  unfold rdOne at h
  obtain ⟨ι, he, r, L, hL⟩ := ha
  have putH : ∀ {v : AV} {H : Heap}, (s.put o.dst v H).heap = H := by intro v H; cases o.dst <;> rfl
  split at h
  · rename_i op hop
    obtain ⟨v, a, k1, k2, k3⟩ := pure_typed ok he (Cm.den_bind h)
    rw [hop]
    have := hrest _ _ (s.put o.dst a s.heap) ⟨ι, RE.putS he k2 _ _, by rw [putH]; exact r, L, by rw [putH]; exact hL⟩ k3
    exact ⟨⟨a, k1, this⟩, ⟨a, k1, this⟩⟩
  · rename_i op hop
    split at h
    · rename_i hok
      obtain ⟨v, S', L', a, H', k1, k2, k3, k4⟩ := mem_typed ok r he (Cm.den_bind h)
      obtain ⟨M, hM⟩ := rdOk_app hok k1
      rw [hop]
      have := hrest _ _ (s.put o.dst a H') ⟨ι ++ L', RE.putS (he.mono L') k2 _ _, by rw [putH]; exact k3, L ++ M, by rw [putH, hM, hL, List.append_assoc]⟩ k4
      exact ⟨⟨(a, H'), k1, this⟩, ⟨(a, H'), k1, this⟩⟩
    · exact h.elim
  · exact h.elim
theorem rd_kb {ρ : SEnv Θ} {e : Env} (he : RE C ι ρ e) {g : Nat} {b : Bool} (hk : ρ.get g = .kb b) : e g = .v (.bool b) := by
  have := he g
  rw [hk] at this
  generalize e g = a at this
  cases this; rfl
theorem rd_b {ρ : SEnv Θ} {e : Env} (he : RE C ι ρ e) {g : Nat} {b : Bool} (hk : ρ.get g = .b b) : e g = .v (.bool b) := by
  have := he g
  rw [hk] at this
  generalize e g = a at this
  cases this; rfl
theorem rd_tuple {ρ : SEnv Θ} {e : Env} (he : RE C ι ρ e) {g : Nat} {b : Array Value} (hk : ρ.get g = .v (.tuple b)) : e g = .v (.tuple b) := by
  have := he g
  rw [hk] at this
  generalize e g = a at this
  cases this; rfl
theorem rdGuard_sound (ok : CodOk C) {H0 : Heap} {L0 : SV Θ -> Prop} {rest : RdK Θ} {o : AOper} {ρ : SEnv Θ} {S : SHeap Θ} (h : (rdGuard C o rest ρ S).den L0) {s : St} (ha : RdAt C A H0 ρ S s) {R : St -> Prop}
    (hrest : ∀ ρ S s, RdAt C A H0 ρ S s -> (rest ρ S).den L0 -> R s) : vcOp P o R s ∧ vcOpD P o R s := by
  have pass : ∀ {ρ : SEnv Θ}, RdAt C A H0 ρ S s -> (rdPass o rest ρ S).den L0 -> R (s.put o.dst unit s.heap) := fun ⟨ι, he, r, hL⟩ h =>
    hrest _ _ _ ⟨ι, RE.putS he (.v _) _ _, by cases o.dst <;> exact r, by cases o.dst <;> exact hL⟩ h
  have ha0 := ha
  obtain ⟨ι, he, r, hL⟩ := ha0
  unfold rdGuard at h
  unfold vcOp vcOpD
  split at h
  · rename_i hg; rw [hg]; exact rdOne_sound ok h ha hrest
  · rename_i g want hg
    rw [hg]
    simp only
    split at h
    · rename_i b hk
      rw [rd_kb he hk]
      split at h
      · exact rdOne_sound ok h ha hrest
      · exact rdOne_sound ok h ha hrest
      · exact ⟨pass ha h, pass ha h⟩
      · exact ⟨pass ha h, pass ha h⟩
    · rename_i b hk
      rw [rd_b he hk]
      split at h
      · rcases Cm.den_split h with ⟨hb, h'⟩ | ⟨hb, h'⟩
        · subst hb; exact rdOne_sound ok h' (ha.kb hk) hrest
        · subst hb; exact ⟨pass (ha.kb hk) h', pass (ha.kb hk) h'⟩
      · rcases Cm.den_split h with ⟨hb, h'⟩ | ⟨hb, h'⟩
        · subst hb; exact ⟨pass (ha.kb hk) h', pass (ha.kb hk) h'⟩
        · subst hb; exact rdOne_sound ok h' (ha.kb hk) hrest
    · rename_i vs hk
      rw [rd_tuple he hk]
      exact ⟨pass ha h, pass ha h⟩
    · exact h.elim
theorem rd_splitOn {ρ : SEnv Θ} {act : AAct} {t : Nat} {x : Bool} (hs : splitOn ρ act = some (t, x)) : ρ.get t = .b x := by
  unfold splitOn at hs
  split at hs
  · split at hs
    · rename_i h1; cases hs; exact h1
    · cases hs
  · cases hs
theorem rdOps_sound (ok : CodOk C) {H0 : Heap} {L0 : SV Θ -> Prop} {k : RdK Θ} {R : St -> Prop} (hk : ∀ ρ S s, RdAt C A H0 ρ S s -> (k ρ S).den L0 -> R s) :
    ∀ {l : List AOper} {ρ : SEnv Θ} {S : SHeap Θ}, (rdOps C l k ρ S).den L0 -> ∀ {s : St}, RdAt C A H0 ρ S s -> vcOps P l R s ∧ vcOpsD P l R s := by
  intro l
  induction l with
  | nil => intro ρ S h s ha; exact ⟨hk ρ S s ha h, hk ρ S s ha h⟩
  | cons o os ih =>
    intro ρ S h s ha
    simp only [rdOps] at h
    have go : ∀ {ρ : SEnv Θ}, RdAt C A H0 ρ S s -> (rdGuard C o (rdOps C os k) ρ S).den L0 -> vcOps P (o :: os) R s ∧ vcOpsD P (o :: os) R s := by
      intro ρ ha h
      exact ⟨(rdGuard_sound (P := P) ok h ha (R := fun s => vcOps P os R s) fun ρ S s ha h => (ih h ha).1).1, (rdGuard_sound (P := P) ok h ha (R := fun s => vcOpsD P os R s) fun ρ S s ha h => (ih h ha).2).2⟩
    split at h
    · rename_i t x hs
      have ht := rd_splitOn hs
      rcases Cm.den_split h with ⟨hb, h'⟩ | ⟨hb, h'⟩
      · subst hb; exact go (ha.kb ht) h'
      · subst hb; exact go (ha.kb ht) h'
    · exact go ha h
theorem rdC_sound (ok : CodOk C) {N : Nat} {H0 : Heap} {L0 : SV Θ -> Prop} : ∀ (c : ACode) {ρ : SEnv Θ} {S : SHeap Θ} {k : AExit -> RdK Θ} {Q : AExit -> St -> Prop}, (rdC C c k ρ S).den L0 ->
    (∀ x ρ S s, RdAt C A H0 ρ S s -> (k x ρ S).den L0 -> Q x s) -> ∀ {s : St}, RdAt C A H0 ρ S s -> vc P N c Q s := by
  intro c
  induction c with
  | skip => intro ρ S k Q h hk s ha; exact hk _ _ _ _ ha h
  | ops l => intro ρ S k Q h hk s ha; exact (rdOps_sound ok (hk .normal) h ha).1
  | draw l => intro ρ S k Q h hk s ha; exact (rdOps_sound ok (hk .normal) h ha).2
  | drawk l ms => intro ρ S k Q h hk s ha; exact h.elim
  | seq a b iha ihb =>
    intro ρ S k Q h hk s ha
    refine iha (k := fun x => match x with | .normal => rdC C b k | .exit j => k (.exit j) | .ret => k .ret) h ?_ ha
    intro x ρ S s ha h
    cases x with
    | normal => exact ihb h hk ha
    | exit j => exact hk _ _ _ _ ha h
    | ret => exact hk _ _ _ _ ha h
  | cond c a b iha ihb =>
    intro ρ S k Q h hk s ha
    simp only [rdC] at h
    have ha0 := ha
    obtain ⟨ι, he, r, hL⟩ := ha0
    have hc := rv_sev he c
    show vc P N (.cond c a b) Q s
    simp only [vc]
    split at h
    · rename_i hv; rw [hv] at hc; generalize c.ev s.env = y at hc; cases hc; exact iha h hk ha
    · rename_i hv; rw [hv] at hc; generalize c.ev s.env = y at hc; cases hc; exact ihb h hk ha
    · rename_i t hv
      have hx : c.ev s.env = .v (.bool t) := by rw [hv] at hc; generalize c.ev s.env = y at hc; cases hc; rfl
      rw [hx]
      cases c with
      | s i =>
        simp only at h
        rcases Cm.den_split h with ⟨hb, h'⟩ | ⟨hb, h'⟩
        · subst hb; exact iha h' hk (ha.kb hv)
        · subst hb; exact ihb h' hk (ha.kb hv)
      | c x =>
        simp only at h
        rcases Cm.den_split h with ⟨hb, h'⟩ | ⟨hb, h'⟩
        · subst hb; exact iha h' hk ha
        · subst hb; exact ihb h' hk ha
    · exact h.elim
  | block id a ih =>
    intro ρ S k Q h hk s ha
    refine ih (Q := blockQ id Q) (k := fun x => match x with | .normal => k .normal | .exit j => (match Nat.beq j id with | true => k .normal | false => k (.exit j)) | .ret => k .ret) h ?_ ha
    intro x ρ S s ha h
    cases x with
    | normal => exact hk _ _ _ _ ha h
    | exit j =>
      simp only at h
      simp only [blockQ]
      cases hj : Nat.beq j id with
      | true => rw [hj] at h; rw [if_pos (nbeq_true hj)]; exact hk _ _ _ _ ha h
      | false => rw [hj] at h; rw [if_neg (nbeq_false hj)]; exact hk _ _ _ _ ha h
    | ret => exact hk _ _ _ _ ha h
  | loop a ih => intro ρ S k Q h hk s ha; exact h.elim
  | never => intro ρ S k Q h hk s ha; exact h.elim
  | exit id => intro ρ S k Q h hk s ha; exact hk _ _ _ _ ha h
  | ret => intro ρ S k Q h hk s ha; exact hk _ _ _ _ ha h
theorem rdCall_sound (ok : CodOk C) {g : Nat} {x : FI} (hx : Knows P g x) {args : List (SV Θ)} {as : List AV} (ha : RVs C ι args as) (r : RH C A ι S H) {K0 : SV Θ -> Prop} (h : (rdCall C S x args).den K0) :
    ∃ v, v.shut = true ∧ K0 v ∧ ACalls P g as H fun r H' => r = v.av C ∧ H' = H := by
  unfold rdCall at h
  split at h
  rotate_left
  · exact h.elim
  rename_i hle
  have hle' : as.length <= x.n := by rw [<- ha.1]; exact Nat.le_of_ble_eq_true hle
  obtain ⟨v, h1, h2⟩ := Cm.den_ex (Cm.den_bind h)
  split at h1
  rotate_left
  · exact h1.elim
  rename_i hs
  refine ⟨v, hs, h1, ?_⟩
  obtain ⟨fn, body, k1, k2, k3, k4, k5, k6⟩ := hx
  rw [k6] at hle'
  refine ACalls.frz (acalls_wp k1 k2 k3 k5 hle' (vc_sound _ _ k4 _ _ (rdC_sound (A := A) (H0 := H) (Q := retQ x.rs fun r H' => ∃ L r', H' = H ++ L ∧ Frz H' H.length r r' ∧ r' = v.av C ∧ H = H) ok x.code (h2 (fun w => w = v) rfl) ?_ ⟨ι, RE.args ha, r, [], by simp⟩)))
  intro e ρ S s ⟨ι', he, r', L, hL⟩ hd
  unfold rdEnd at hd
  split at hd
  · exact hd.elim
  · rename_i hne
    obtain ⟨w, a, g1, g2, g3⟩ := res_typed ok r' he hd
    have : w = v := g3
    subst this
    have hav := g2.eq_av hs
    have hz : Frz s.heap H.length a a := .same (bnd_shut (by rw [hav]; exact av_shut ok hs))
    cases e with
    | normal => exact ⟨a, g1, L, a, hL, hz, hav, rfl⟩
    | ret => exact ⟨a, g1, L, a, hL, hz, hav, rfl⟩
    | exit j => exact absurd rfl (hne j)
theorem fn_rv {f : AX} {ρ : SEnv Θ} {e : Env} (he : RE C ι ρ e) {g : Nat} {cap : List (SV Θ)} (h : sev ρ f = .fn g cap) : ∃ as, f.ev e = .fn g as ∧ RVs C ι cap as := by
  have := rv_sev he f
  rw [h] at this
  generalize f.ev e = a at this
  cases this with
  | fn hl hh => exact ⟨_, rfl, hl, hh⟩
theorem RVs.eq_av {xs : List (SV Θ)} {as : List AV} (h : RVs C ι xs as) (hs : SV.shut.shutL xs = true) : as = xs.map (SV.av C) := by
  refine list_eq_of_get (by simp [h.1]) fun i x y hx hy => ?_
  simp only [List.getElem?_map, Option.map_eq_some_iff] at hy
  obtain ⟨z, hz, rfl⟩ := hy
  exact (h.2 i z x hz hx).eq_av (shutL_get hs i z hz)
theorem known_typed {K : KnownF Θ} (ko : KnownOk P C K) {g : Nat} {hf : List (SV Θ) -> Cm (SV Θ)} (hk : knownGet K g = some hf) {xs : List (SV Θ)} {as : List AV} (h : RVs C ι xs as) (hs : SV.shut.shutL xs = true) {Q : SV Θ -> Prop} (hd : (hf xs).den Q) :
    ∃ v a, PureCall P g as a ∧ RV C ι v a ∧ Q v := by
  obtain ⟨v, h1, h2, _, h3⟩ := ko.pure g hf hk xs Q hs hd
  rw [<- h.eq_av hs] at h3
  exact ⟨v, _, h3, RV.of_av h2, h1⟩
theorem known_call (ok : CodOk C) {K : KnownF Θ} (ko : KnownOk P C K) {g : Nat} {hf : List (SV Θ) -> Cm (SV Θ)} (hk : knownGet K g = some hf) (r : RH C A ι S H) {xs : List (SV Θ)} {as : List AV} (h : RVs C ι xs as) {Q : SV Θ -> Prop} (hd : (argsK K g S xs).den fun ys => (hf ys).den Q) :
    ∃ v a, (ACalls P g as H fun r H' => r = a ∧ H' = H) ∧ RV C ι v a ∧ Q v := by
  unfold argsK at hd
  split at hd
  · rename_i hsc
    obtain ⟨ys, h1, h2, h3, h4⟩ := pkL_sound ok r.noB h hd
    obtain ⟨v, k1, k2, k3, k4⟩ := ko.pure g hf hk ys Q h3 h4
    have hs := sc_scal (C := C) (k3 hsc)
    exact ⟨v, _, ACalls.frz0 (Q := fun r => r = v.av C) ((k4 []).mono fun r H' ⟨e1, _⟩ => ⟨e1, by rw [e1]; exact hs⟩) (by simp [h1]) h2, RV.of_av k2, k1⟩
  · split at hd
    · rename_i hs
      obtain ⟨v, a, k1, k2, k3⟩ := known_typed ko hk h hs hd
      exact ⟨v, a, k1 H, k2, k3⟩
    · exact hd.elim
variable {K : KnownF Θ} {T : List (Nat × FI)}
def RunsOk (P : Program) (C : Cod Θ) (A : Base) (rs0 : List ARes) (Qf : AV -> Heap -> Prop) (ih : Runs' Θ) : Prop :=
  ∀ (cmd : Cmd) (fs : List (Fr Θ)) (ρ : SEnv Θ) (S : SHeap Θ), (ih cmd fs ρ S).den (LfP P C A rs0 Qf) -> ∀ (ι : Emb) (s : St) (Q : AExit -> St -> Prop), FR P C rs0 Qf ι fs Q -> RE C ι ρ s.env -> RH C A ι S s.heap -> CmdP P Q s cmd
theorem vcOp_of {o : AOper} {s : St} {K : St -> Prop} {ρ : SEnv Θ} (he : RE C ι ρ s.env) (hg : o.guard = none ∨ ∃ g want, o.guard = some (g, want) ∧ ρ.get g = .kb want) (h : vcAct P o.act (fun v H => K (s.put o.dst v H)) s) : vcOp P o K s := by
  unfold vcOp
  rcases hg with hg | ⟨g, want, hg, hk⟩
  · rw [hg]; exact h
  · rw [hg]
    have := he g
    rw [hk] at this
    generalize he' : s.env g = a at this
    cases this
    simp only [vcGuard, he', if_true]
    exact h
theorem sAct_sound (ok : CodOk C) (ko : KnownOk P C K) (hT : ∀ p ∈ T, Knows P p.1 p.2) {ih : Runs' Θ} (hih : RunsOk P C A rs0 Qf ih) {N : Nat} {o : AOper} {os : List AOper} {fs : List (Fr Θ)} {ρ : SEnv Θ} {S : SHeap Θ}
    (h : (sAct C T K ih N o os fs ρ S).den (LfP P C A rs0 Qf)) {ι : Emb} {s : St} {Q : AExit -> St -> Prop} (hf : FR P C rs0 Qf ι fs Q) (he : RE C ι ρ s.env) (r : RH C A ι S s.heap)
    (hg : o.guard = none ∨ ∃ g want, o.guard = some (g, want) ∧ ρ.get g = .kb want) : gOps P N (o :: os) (Q .normal) s := by
  unfold sAct at h
  split at h
  · rename_i t x hs
    have ht : ρ.get t = .b x := by
      unfold splitOn at hs
      split at hs
      · split at hs
        · rename_i h1; cases hs; exact h1
        · cases hs
      · cases hs
    rcases Cm.den_split h with ⟨hx, h'⟩ | ⟨hx, h'⟩
    · subst hx; exact hih _ _ _ _ h' ι s Q hf (he.kb ht) r
    · subst hx; exact hih _ _ _ _ h' ι s Q hf (he.kb ht) r
  · obtain ⟨ρ0, S0, e0, H0, h0, r0, he0, hkb0, h⟩ := settle_sound ok (N := N) (e := s.env) (H := s.heap) r he (Cm.den_bind h)
    obtain ⟨ρ1, S1, e1, H1, h1, r1, he1, hkb1, h⟩ := freezeL_sound ok (N := N) r0 he0 (Cm.den_bind h)
    have h1 := NormS.trans h0 h1
    have hkb : ∀ t b, ρ.get t = .kb b -> ρ1.get t = .kb b := fun t b h => hkb1 t b (hkb0 t b h)
    refine ⟨⟨e1, H1⟩, h1, vcOp_of he1 (hg.imp id fun ⟨g, want, k1, k2⟩ => ⟨g, want, k1, hkb _ _ k2⟩) ?_⟩
    simp only at h
    split at h
    · rename_i op hop
      obtain ⟨v, a, k1, k2, k3⟩ := pure_typed ok he1 (Cm.den_bind h)
      rw [hop]
      exact ⟨a, k1, hih _ _ _ _ k3 ι _ Q hf (RE.putS (s := ⟨e1, H1⟩) he1 k2 _ _) (by cases o.dst <;> exact r1)⟩
    · rename_i op hop
      obtain ⟨v, S', L, a, H', k1, k2, k3, k4⟩ := mem_typed ok r1 he1 (Cm.den_bind h)
      rw [hop]
      exact ⟨(a, H'), k1, hih _ _ _ _ k4 (ι ++ L) _ Q (hf.mono L) (RE.putS (s := ⟨e1, H1⟩) (he1.mono L) k2 _ _) (by cases o.dst <;> exact k3)⟩
    · rename_i f args hop
      split at h
      · rename_i g cap hfn
        obtain ⟨as, hfe, hcap⟩ := fn_rv he1 hfn
        have hargs := (rv_sevL he1 args).append hcap
        rw [hop]
        simp only [vcAct, hfe]
        split at h
        · rename_i hk hkg
          obtain ⟨v, a, k1, k2, k3⟩ := known_call ok ko hkg r1 hargs (Cm.den_mono (fun _ h => Cm.den_bind h) (Cm.den_bind h))
          refine k1.mono ?_
          rintro r' H' ⟨rfl, rfl⟩
          exact hih _ _ _ _ k3 ι _ Q hf (RE.putS (s := ⟨e1, H'⟩) he1 k2 _ _) (by cases o.dst <;> exact r1)
        · rcases hef : effGet K g with _ | p
          rotate_left
          · rw [hef] at h
            simp only at h
            obtain ⟨v, S', k1, k2⟩ := ko.eff _ _ _ hef _ _ _ (Cm.den_bind h) A ι _ _ hargs r1
            refine k2.mono ?_
            rintro r' H' ⟨L, k3, k4⟩
            exact hih _ _ _ _ k1 (ι ++ L) _ Q (hf.mono L) (RE.putS (s := ⟨e1, H'⟩) (he1.mono L) k3 _ _) (by cases o.dst <;> exact k4)
          rw [hef] at h
          simp only at h
          split at h
          · rename_i x hx
            split at h
            · rename_i hcc
              unfold isCC at hcc
              split at hcc
              · rename_i q hl
                split at hcc
                · rename_i q' y ys hq
                  split at hcc
                  · rename_i hrs
                    obtain ⟨c1, c1'⟩ := andB_t hcc
                    obtain ⟨c2', c2''⟩ := andB_t c1'
                    obtain ⟨c3, c4'⟩ := andB_t c2''
                    have c1 := nbeq_true c1
                    have c2 : 1 <= x.n := Nat.le_of_ble_eq_true c2'
                    have c4 := cEq_eq c4'
                    subst c1
                    obtain ⟨j, hj⟩ := sTag_get c3
                    rw [hl] at hargs
                    obtain ⟨a0, as0, e0, k1, k2⟩ := hargs.uncons
                    rw [k2.unnil] at e0
                    rw [e0]
                    cases k1 with
                    | @ptr _ _ p hp =>
                      obtain ⟨z, hz, hzr⟩ := r1.get hp hq (by simp)
                      cases hzr with
                      | box hb =>
                        obtain ⟨b0, bs, rfl, hb0, hbs⟩ := hb.uncons
                        have hb1 : b0 = .v (.pointer none) ∨ b0 = .ptr p 0 := by
                          cases hb0 with
                          | self0 => exact .inl rfl
                          | self1 h1 => rw [hp] at h1; cases h1; exact .inr rfl
                        have hlen : 0 < bs.length := by rw [<- hbs.1]; simp
                        refine callG (hT _ (lookupT_mem hx)) (by simpa using c2) ?_
                        rw [c4, hrs]
                        have hq' : S1[q']? = some (.box (.self q' :: y :: ys)) := by rw [<- nth_get]; exact hq
                        refine cc_sound hz hb1 hlen ((r1.tg j q' _ hj).2 p hp).1 (fun en => ?_) (fun en => ?_)
                        · exact ⟨.tup [], rfl, hih _ _ _ _ h ι _ Q hf (RE.putS (s := ⟨e1, H1⟩) he1 (.tup rfl fun i x a hx _ => by simp at hx) _ _) (by cases o.dst <;> exact r1)⟩
                        · refine ⟨.tup [], rfl, hih _ _ _ _ h ι _ Q hf (RE.putS (s := ⟨e1, H1⟩) he1 (.tup rfl fun i x a hx _ => by simp at hx) _ _) ?_⟩
                          have r2 := r1.set hp hq' (by simp) (x := .box (.self q' :: y :: ys)) (y := .cells (.ptr p 0 :: bs)) (.box (.cons (.self1 hp) hbs)) .box
                          have hid : S1.set q' (.box (.self q' :: y :: ys)) = S1 := by
                            apply List.ext_getElem?
                            intro i
                            by_cases e : q' = i
                            · subst e; rw [List.getElem?_set_self (getElem?_lt hq'), hq']
                            · rw [List.getElem?_set_ne e]
                          rw [hid] at r2
                          cases o.dst <;> exact r2
                  · cases hcc
                · cases hcc
              · cases hcc
            split at h
            · rename_i hle
              have hle' := Nat.le_of_ble_eq_true hle
              refine callG (hT _ (lookupT_mem hx)) (by rw [<- hargs.1]; exact hle') ?_
              have := hih _ _ _ _ h ι ⟨envOf (args.map (·.ev e1) ++ as), H1⟩ _ (.cal (.ops hf) he1) (RE.args hargs) r1
              exact this
            · exact h.elim
          · exact h.elim
      · exact h.elim
    · exact h.elim
    · exact h.elim
    · exact h.elim
theorem splitOn_get {ρ : SEnv Θ} {act : AAct} {t : Nat} {x : Bool} (hs : splitOn ρ act = some (t, x)) : ρ.get t = .b x := by
  unfold splitOn at hs
  split at hs
  · split at hs
    · rename_i h1; cases hs; exact h1
    · cases hs
  · cases hs
section
variable {L0 : Lf Θ -> Prop} {rest : SEnv Θ -> SHeap Θ -> Cm (Lf Θ)} {R : St -> Prop} {o : AOper} {ι : Emb}
theorem dOne_sound (ok : CodOk C) (ko : KnownOk P C K) (hT : ∀ p ∈ T, Knows P p.1 p.2) (hrest : ∀ (ρ : SEnv Θ) (S : SHeap Θ), (rest ρ S).den L0 -> ∀ (L : Emb) (s : St), RE C (ι ++ L) ρ s.env -> RH C A (ι ++ L) S s.heap -> R s) {ρ : SEnv Θ} {S : SHeap Θ}
    (h : (dOne C T K o rest ρ S).den L0) {L : Emb} {s : St} (he : RE C (ι ++ L) ρ s.env) (r : RH C A (ι ++ L) S s.heap) : vcActD P o.act (fun v H => R (s.put o.dst v H)) s := by
  unfold dOne at h
  split at h
  · rename_i op hop
    obtain ⟨v, a, k1, k2, k3⟩ := pure_typed ok he (Cm.den_bind h)
    rw [hop]
    exact ⟨a, k1, hrest _ _ k3 L _ (RE.putS he k2 _ _) (by cases o.dst <;> exact r)⟩
  · rename_i op hop
    obtain ⟨v, S', L', a, H', k1, k2, k3, k4⟩ := mem_typed ok r he (Cm.den_bind h)
    rw [hop]
    rw [List.append_assoc] at k2 k3
    have he' := he.mono L'
    rw [List.append_assoc] at he'
    exact ⟨(a, H'), k1, hrest _ _ k4 (L ++ L') _ (RE.putS he' k2 _ _) (by cases o.dst <;> exact k3)⟩
  · rename_i f args hop
    split at h
    · rename_i g cap hfn
      obtain ⟨as, hfe, hcap⟩ := fn_rv he hfn
      have hargs := (rv_sevL he args).append hcap
      rw [hop]
      simp only [vcActD, hfe]
      split at h
      · rename_i hk' hkg
        obtain ⟨v, a, k1, k2, k3⟩ := known_call ok ko hkg r hargs (Cm.den_mono (fun _ h => Cm.den_bind h) (Cm.den_bind h))
        exact ⟨a, s.heap, k1, hrest _ _ k3 L _ (RE.putS he k2 _ _) (by cases o.dst <;> exact r)⟩
      · exact h.elim
    · exact h.elim
  · rename_i f args hop
    split at h
    · rename_i g cap hfn
      obtain ⟨as, hfe, hcap⟩ := fn_rv he hfn
      have hargs := (rv_sevL he args).append hcap
      rw [hop]
      simp only [vcActD, hfe]
      split at h
      · rename_i hk' hkg
        split at h
        · rename_i hs
          obtain ⟨v, a, k1, k2, k3⟩ := known_typed ko hkg hargs hs (Cm.den_bind h)
          exact ⟨a, k1, hrest _ _ k3 L _ (RE.putS he k2 _ _) (by cases o.dst <;> exact r)⟩
        · exact h.elim
      · exact h.elim
    · exact h.elim
  · rename_i f args hop
    split at h
    · rename_i g cap hfn
      obtain ⟨as, hfe, hcap⟩ := fn_rv he hfn
      have hargs := (rv_sevL he args).append hcap
      rw [hop]
      simp only [vcActD, hfe]
      split at h
      · rename_i hk' hkg
        obtain ⟨v, a, k1, k2, k3⟩ := known_call ok ko hkg r hargs (Cm.den_mono (fun _ h => Cm.den_bind h) (Cm.den_bind h))
        exact ⟨a, k1, hrest _ _ k3 L _ (RE.putS he k2 _ _) (by cases o.dst <;> exact r)⟩
      · split at h
        · rename_i x hx
          obtain ⟨v, k1, k2, k3⟩ := rdCall_sound ok (hT _ (lookupT_mem hx)) hargs r (Cm.den_bind h)
          exact ⟨v.av C, k3, hrest _ _ k2 L _ (RE.putS he (RV.of_av k1) _ _) (by cases o.dst <;> exact r)⟩
        · exact h.elim
    · exact h.elim
  · exact h.elim
theorem rv_kb {ρ : SEnv Θ} {e : Env} (he : RE C ι ρ e) {g : Nat} {b : Bool} (hk : ρ.get g = .kb b) : e g = .v (.bool b) := by
  have := he g
  rw [hk] at this
  generalize e g = a at this
  cases this; rfl
theorem rv_b {ρ : SEnv Θ} {e : Env} (he : RE C ι ρ e) {g : Nat} {b : Bool} (hk : ρ.get g = .b b) : e g = .v (.bool b) := by
  have := he g
  rw [hk] at this
  generalize e g = a at this
  cases this; rfl
theorem rv_tuple {ρ : SEnv Θ} {e : Env} (he : RE C ι ρ e) {g : Nat} {b : Array Value} (hk : ρ.get g = .v (.tuple b)) : e g = .v (.tuple b) := by
  have := he g
  rw [hk] at this
  generalize e g = a at this
  cases this; rfl
theorem dGuard_sound (ok : CodOk C) (ko : KnownOk P C K) (hT : ∀ p ∈ T, Knows P p.1 p.2) (hrest : ∀ (ρ : SEnv Θ) (S : SHeap Θ), (rest ρ S).den L0 -> ∀ (L : Emb) (s : St), RE C (ι ++ L) ρ s.env -> RH C A (ι ++ L) S s.heap -> R s) {ρ : SEnv Θ} {S : SHeap Θ}
    (h : (dGuard C T K o rest ρ S).den L0) {L : Emb} {s : St} (he : RE C (ι ++ L) ρ s.env) (r : RH C A (ι ++ L) S s.heap) : vcOpD P o R s := by
  have pass : ∀ {ρ : SEnv Θ}, RE C (ι ++ L) ρ s.env -> (dPass o rest ρ S).den L0 -> R (s.put o.dst unit s.heap) := fun he h =>
    hrest _ _ h L _ (RE.putS he (.v _) _ _) (by cases o.dst <;> exact r)
  unfold dGuard at h
  unfold vcOpD
  split at h
  · rename_i hg; rw [hg]; exact dOne_sound ok ko hT hrest h he r
  · rename_i g want hg
    rw [hg]
    simp only
    split at h
    · rename_i b hk
      rw [rv_kb he hk]
      split at h
      · exact dOne_sound ok ko hT hrest h he r
      · exact dOne_sound ok ko hT hrest h he r
      · exact pass he h
      · exact pass he h
    · rename_i b hk
      rw [rv_b he hk]
      split at h
      · rcases Cm.den_split h with ⟨hb, h'⟩ | ⟨hb, h'⟩
        · subst hb; exact dOne_sound ok ko hT hrest h' (he.kb hk) r
        · subst hb; exact pass (he.kb hk) h'
      · rcases Cm.den_split h with ⟨hb, h'⟩ | ⟨hb, h'⟩
        · subst hb; exact pass (he.kb hk) h'
        · subst hb; exact dOne_sound ok ko hT hrest h' (he.kb hk) r
    · rename_i vs hk
      rw [rv_tuple he hk]
      exact pass he h
    · exact h.elim
end
theorem sDraw_sound (ok : CodOk C) (ko : KnownOk P C K) (hT : ∀ p ∈ T, Knows P p.1 p.2) {k : SEnv Θ -> SHeap Θ -> Cm (Lf Θ)} {L0 : Lf Θ -> Prop} {Q : St -> Prop} {ι : Emb}
    (hk : ∀ (ρ : SEnv Θ) (S : SHeap Θ), (k ρ S).den L0 -> ∀ (L : Emb) (s : St), RE C (ι ++ L) ρ s.env -> RH C A (ι ++ L) S s.heap -> Q s) :
    ∀ {l : List AOper} {ρ : SEnv Θ} {S : SHeap Θ}, (sDraw C T K l ρ S k).den L0 -> ∀ (L : Emb) (s : St), RE C (ι ++ L) ρ s.env -> RH C A (ι ++ L) S s.heap -> vcOpsD P l Q s := by
  intro l
  induction l with
  | nil => intro ρ S h L s he r; exact hk ρ S h L s he r
  | cons o os ih =>
    intro ρ S h L s he r
    simp only [sDraw] at h
    split at h
    · rename_i t x hs
      have ht := splitOn_get hs
      rcases Cm.den_split h with ⟨hb, h'⟩ | ⟨hb, h'⟩
      · subst hb; exact dGuard_sound ok ko hT (fun ρ S h => ih h) h' (he.kb ht) r
      · subst hb; exact dGuard_sound ok ko hT (fun ρ S h => ih h) h' (he.kb ht) r
    · exact dGuard_sound ok ko hT (fun ρ S h => ih h) h he r
theorem sCond_sound {ρ : SEnv Θ} {c : AX} {a b : SEnv Θ -> Cm (Lf Θ)} {L0 : Lf Θ -> Prop} (h : (sCond ρ c a b).den L0) {ι : Emb} {e : Env} (he : RE C ι ρ e) :
    ∃ t, c.ev e = .v (.bool t) ∧ ∃ ρ', RE C ι ρ' e ∧ (if t then (a ρ').den L0 else (b ρ').den L0) := by
  unfold sCond at h
  have hc := rv_sev he c
  split at h
  · rename_i hk; rw [hk] at hc; generalize c.ev e = x at hc; cases hc; exact ⟨true, rfl, ρ, he, h⟩
  · rename_i hk; rw [hk] at hc; generalize c.ev e = x at hc; cases hc; exact ⟨false, rfl, ρ, he, h⟩
  · rename_i t hk
    have hx : c.ev e = .v (.bool t) := by rw [hk] at hc; generalize c.ev e = x at hc; cases hc; rfl
    refine ⟨t, hx, ?_⟩
    cases c with
    | s k =>
      simp only at h
      rcases Cm.den_split h with ⟨hb, h'⟩ | ⟨hb, h'⟩
      · subst hb; exact ⟨_, he.kb hk, h'⟩
      · subst hb; exact ⟨_, he.kb hk, h'⟩
    | c x =>
      simp only at h
      rcases Cm.den_split h with ⟨hb, h'⟩ | ⟨hb, h'⟩
      · subst hb; exact ⟨_, he, h'⟩
      · subst hb; exact ⟨_, he, h'⟩
  · exact h.elim
theorem vcActD_mono {act : AAct} {K K' : AV -> Heap -> Prop} {s : St} (hk : ∀ v H, K v H -> K' v H) (h : vcActD P act K s) : vcActD P act K' s := by
  cases act with
  | p op => obtain ⟨v, h1, h2⟩ := h; exact ⟨v, h1, hk _ _ h2⟩
  | m op => obtain ⟨v, h1, h2⟩ := h; exact ⟨v, h1, hk _ _ h2⟩
  | call f args =>
    simp only [vcActD] at h ⊢
    split at h
    · obtain ⟨v, H, h1, h2⟩ := h; exact ⟨v, H, h1, hk _ _ h2⟩
    · exact h
  | pcall f args =>
    simp only [vcActD] at h ⊢
    split at h
    · obtain ⟨v, h1, h2⟩ := h; exact ⟨v, h1, hk _ _ h2⟩
    · exact h
  | qcall f args =>
    simp only [vcActD] at h ⊢
    split at h
    · obtain ⟨v, h1, h2⟩ := h; exact ⟨v, h1, hk _ _ h2⟩
    · exact h
  | never => exact h
theorem vcOpsK_of : ∀ {l : List AOper} {ms : List Bool}, noMarks l ms = true -> ∀ {K : St -> Prop} {s : St}, vcOpsD P l K s -> vcOpsK P [] (l.zip ms) K s := by
  intro l
  induction l with
  | nil => intro ms hm K s h; cases ms with
    | nil => exact h
    | cons b ms => simp [noMarks] at hm
  | cons o os ih =>
    intro ms hm K s h
    cases ms with
    | nil => simp [noMarks] at hm
    | cons b ms =>
      cases b with
      | true => simp [noMarks] at hm
      | false =>
        simp only [noMarks] at hm
        show vcOpK P [] (o, false) (vcOpsK P [] (os.zip ms) K) s
        have h : vcOpD P o (vcOpsD P os K) s := h
        unfold vcOpD at h
        unfold vcOpK
        have c : ∀ (act : AAct) (s : St) (H : Heap), CondK [] false act s H := fun act s H h => by cases h
        split at h
        · rename_i hg
          simp only [hg]
          exact vcActD_mono (fun v H h => ⟨c _ _ _, ih hm h⟩) h
        · rename_i g want hg
          simp only [hg]
          unfold vcGuard at h ⊢
          split at h
          · split at h
            · rename_i hb; simp only [hb, if_true]; exact vcActD_mono (fun v H h => ⟨c _ _ _, ih hm h⟩) h
            · rename_i hb; simp only [if_neg hb]; exact ih hm h
          · exact ih hm h
          · exact h.elim
theorem runStep_sound (ok : CodOk C) (ko : KnownOk P C K) (hT : ∀ p ∈ T, Knows P p.1 p.2) {ih : Runs' Θ} (hih : RunsOk P C A rs0 Qf ih) : RunsOk P C A rs0 Qf (runStep C T K rs0 ih) := by
  intro cmd fs ρ S h ι s Q hf he r
  have pass : ∀ {o : AOper} {os : List AOper} {N : Nat}, (ih (.ops N os) fs (putS ρ o.dst (.v (.tuple #[]))) S).den (LfP P C A rs0 Qf) -> gOps P N os (Q .normal) (s.put o.dst unit s.heap) := fun h =>
    hih _ _ _ _ h ι _ Q hf (RE.putS he (.v _) _ _) (by rename_i o _ _; cases o.dst <;> exact r)
  unfold runStep at h
  cases cmd with
  | ex N c =>
    simp only at h
    cases c with
    | skip => exact hih _ _ _ _ h ι s Q hf he r
    | ops l => exact hih _ _ _ _ h ι s Q hf he r
    | draw l =>
      obtain ⟨ρ1, S1, e1, H1, h1, r1, he1, _, h⟩ := settle_sound ok (N := N) (e := s.env) (H := s.heap) r he (Cm.den_bind h)
      refine ⟨⟨e1, H1⟩, h1, sDraw_sound ok ko hT (ι := ι) (Q := Q .normal) (fun ρ S h L s he r => hih (.back .normal) _ _ _ h (ι ++ L) s Q (hf.mono L) he r) h [] _ ?_ ?_⟩
      · rw [List.append_nil]; exact he1
      · rw [List.append_nil]; exact r1
    | drawk l ms =>
      simp only at h
      split at h
      · rename_i hm
        obtain ⟨ρ1, S1, e1, H1, h1, r1, he1, _, h⟩ := settle_sound ok (N := N) (e := s.env) (H := s.heap) r he (Cm.den_bind h)
        refine ⟨⟨e1, H1⟩, h1, [], vcOpsK_of hm (sDraw_sound ok ko hT (ι := ι) (Q := Q .normal) (fun ρ S h L s he r => hih (.back .normal) _ _ _ h (ι ++ L) s Q (hf.mono L) he r) h [] _ ?_ ?_)⟩
        · rw [List.append_nil]; exact he1
        · rw [List.append_nil]; exact r1
      · exact h.elim
    | seq a b => exact hih _ _ _ _ h ι s _ (.seq hf) he r
    | cond c a b =>
      obtain ⟨t, h1, ρ', h2, h3⟩ := sCond_sound h he
      show gc P N (.cond c a b) Q s
      simp only [gc, h1]
      cases t with
      | true => exact hih _ _ _ _ h3 ι s Q hf h2 r
      | false => exact hih _ _ _ _ h3 ι s Q hf h2 r
    | block id a => exact hih _ _ _ _ h ι s _ (.blk hf) he r
    | loop a =>
      obtain ⟨ρ0, S0, e0, H0, h0, r0, he0, _, h⟩ := settle_sound ok (N := N) (e := s.env) (H := s.heap) r he (Cm.den_bind h)
      exact ALoop.norm h0 (h ι ⟨e0, H0⟩ _ (.lp hf) he0 r0)
    | never => exact h.elim
    | exit id => exact hih _ _ _ _ h ι s Q hf he r
    | ret => exact hih _ _ _ _ h ι s Q hf he r
  | back x =>
    simp only at h
    have fin : ∀ {rs : List ARes} {K1 : AV -> Heap -> Prop} (x : AExit), (∀ j, x ≠ .exit j) -> (∃ a, resV rs ⟨s.env, s.heap⟩ = some a ∧ K1 a s.heap) -> retQ rs K1 x s := by
      intro rs K1 x hx ⟨a, h1, h2⟩
      cases x with
      | normal => exact ⟨a, h1, h2⟩
      | ret => exact ⟨a, h1, h2⟩
      | exit j => exact absurd rfl (hx j)
    cases hf with
    | nil =>
      simp only at h
      split at h
      · exact h.elim
      · rename_i hx
        obtain ⟨v, a, h1, h2, h3⟩ := res_typed ok r he (Cm.den_bind h)
        exact fin x (fun j e => hx j e) ⟨a, h1, h3 ι a s.heap h2 r⟩
    | seq hf =>
      simp only at h
      cases x with
      | normal => have := hih _ _ _ _ h ι s _ hf he r; exact this
      | exit j => have := hih _ _ _ _ h ι s _ hf he r; exact this
      | ret => have := hih _ _ _ _ h ι s _ hf he r; exact this
    | @blk fs Q id hf =>
      simp only at h
      cases x with
      | normal => have := hih _ _ _ _ h ι s _ hf he r; exact this
      | exit j =>
        simp only at h
        show blockQ id Q (.exit j) s
        simp only [blockQ]
        split at h
        · rename_i hj; rw [if_pos (nbeq_true hj)]; have := hih _ _ _ _ h ι s _ hf he r; exact this
        · rename_i hj; rw [if_neg (nbeq_false hj)]; have := hih _ _ _ _ h ι s _ hf he r; exact this
      | ret => have := hih _ _ _ _ h ι s _ hf he r; exact this
    | lp hf =>
      simp only at h
      cases x with
      | normal =>
        rename_i N0 _
        obtain ⟨ρ0, S0, e0, H0, h0, r0, he0, _, h⟩ := settle_sound ok (N := N0) (e := s.env) (H := s.heap) r he (Cm.den_bind h)
        exact ALoop.norm h0 (h ι ⟨e0, H0⟩ _ (.lp hf) he0 r0)
      | exit j => have := hih _ _ _ _ h ι s _ hf he r; exact this
      | ret => have := hih _ _ _ _ h ι s _ hf he r; exact this
    | ops hf =>
      simp only at h
      cases x with
      | normal => exact hih _ _ _ _ h ι s _ hf he r
      | exit j => exact h.elim
      | ret => exact h.elim
    | @cal fs Q ρ' e dst rs hf he' =>
      simp only at h
      split at h
      · exact h.elim
      · rename_i hx
        obtain ⟨v, a, h1, h2, h3⟩ := res_typed ok r he (Cm.den_bind h)
        show retQ rs (fun r H => Q .normal (St.put ⟨e, H⟩ dst r H)) x s
        refine fin x (fun j e => hx j e) ⟨a, h1, ?_⟩
        exact hih _ _ _ _ h3 ι (St.put ⟨e, s.heap⟩ dst a s.heap) _ hf (RE.putS (s := ⟨e, s.heap⟩) he' h2 _ _) (by cases dst <;> exact r)
  | ops N l =>
    simp only at h
    cases l with
    | nil => exact ⟨s, .refl _ _, hih _ _ _ _ h ι s Q hf he r⟩
    | cons o os =>
      simp only at h
      split at h
      · rename_i hg
        exact sAct_sound ok ko hT hih h hf he r (.inl hg)
      · rename_i g want hg
        have skip : ∀ {b : Bool}, s.env g = .v (.bool b) -> b ≠ want -> (ih (.ops N os) fs (putS ρ o.dst (.v (.tuple #[]))) S).den (LfP P C A rs0 Qf) -> gOps P N (o :: os) (Q .normal) s := by
          intro b hb hne h
          refine ⟨s, .refl _ _, ?_⟩
          unfold vcOp
          rw [hg]
          simp only [vcGuard, hb, if_neg hne]
          exact pass h
        split at h
        · rename_i b hk
          split at h
          · exact sAct_sound ok ko hT hih h hf he r (.inr ⟨g, true, hg, hk⟩)
          · exact sAct_sound ok ko hT hih h hf he r (.inr ⟨g, false, hg, hk⟩)
          · exact skip (rv_kb he hk) (by simp) h
          · exact skip (rv_kb he hk) (by simp) h
        · rename_i b hk
          rcases Cm.den_split h with ⟨hb, h'⟩ | ⟨hb, h'⟩
          · subst hb; exact hih _ _ _ _ h' ι s Q hf (he.kb hk) r
          · subst hb; exact hih _ _ _ _ h' ι s Q hf (he.kb hk) r
        · rename_i vs hk
          refine ⟨s, .refl _ _, ?_⟩
          unfold vcOp
          rw [hg]
          simp only [vcGuard, rv_tuple he hk]
          exact pass h
        · exact h.elim
theorem run_sound (ok : CodOk C) (ko : KnownOk P C K) (hT : ∀ p ∈ T, Knows P p.1 p.2) : ∀ n, RunsOk P C A rs0 Qf (run C T K rs0 n) := by
  intro n
  induction n with
  | zero => intro cmd fs ρ S h; exact h.elim
  | succ n ih => exact runStep_sound ok ko hT ih
theorem CW.round (ok : CodOk C) (ko : KnownOk P C K) (hT : ∀ p ∈ T, Knows P p.1 p.2) (n : Nat) {N : Nat} {a : ACode} {fs : List (Fr Θ)} {ρ : SEnv Θ} {S : SHeap Θ} (h : (run C T K rs0 n (.ex N a) (.lp N a :: fs) ρ S).den (LfP P C A rs0 Qf)) :
    CW P C A rs0 Qf (.lp N a :: fs) ρ S := by
  intro ι s Q hf he r
  cases hf with
  | lp hf => exact ALoop.unfoldG (run_sound ok ko hT n _ _ _ _ h ι s _ (.lp hf) he r)
end
end Go.Ab

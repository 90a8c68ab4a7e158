/- The abstract machine's run, made for the kernel. -/
import Derived.Test.YtlkdhhkncoekgaaDoorAmQ
namespace Go.Am
open Go.RowKit

structure FS where
  F : FT
  M : List Nat
  H : AH

def FS.dn (s : FS) : St := ⟨s.F.toL, s.M, s.H⟩

abbrev RecF := Option Nat → Code → FS → Option (AEx × FS)

def dn2 (p : AEx × FS) : AEx × St := (p.1, p.2.dn)

def RecEq (rec : Rec) (recF : RecF) : Prop := ∀ r c s, rec r c s.dn = (recF r c s).map dn2

section
variable (P : Program) (X : Ext) (recF : RecF)

def resF (F : FT) (H : AH) : List ResultVar → Option (List AV)
  | [] => some []
  | .tmp t :: l => (resF F H l).map (F.look t :: ·)
  | .cell a t :: l => (loadV P H t (F.look a)).bind fun v => (resF F H l).map (v :: ·)

theorem resF_eq (F : FT) (H : AH) : ∀ l, resF P F H l = resVs P F.toL H l
  | [] => rfl
  | .tmp t :: l => by simp only [resF, resVs, resF_eq F H l, FT.look_eq]
  | .cell a t :: l => by simp only [resF, resVs, resF_eq F H l, FT.look_eq]

def endF (fn : Func) (s : FS) : Option (AV × AH) := (takeMarks s.M s.H).bind fun H' => (resF P s.F H' fn.results.toList).map fun vs => (oneOf vs, H')

def bodyF (fn : Func) (c : Code) (args : List AV) (H : AH) : Option (AV × AH) :=
  match recF none c ⟨FT.ofL args (args.length + (fn.ntmps - args.length)), [], H⟩ with
  | some (.normal, s) => endF P fn s
  | some (.ret, s) => endF P fn s
  | _ => none

def callF (f : FuncId) (args : List AV) (H : AH) : Option (AV × AH) :=
  match P.funcs[f]? with
  | some fn =>
    match fn.body with
    | some c => bif goB P f then bodyF P recF fn c args H else none
    | none => X f args H
  | none => none

def yieldF (b : Nat) (vs : List AV) (H : AH) : Option (AV × AH) :=
  match H.get b with
  | some (.loop _ _ T' ps as bd _) =>
    if vs.length = ps.size then
      match recF (some b) as ⟨FT.ofL (setPs ps.toList vs T') ((setPs ps.toList vs T').length + 0), [], H⟩ with
      | some (.normal, s) =>
        match s.H.get b with
        | some (.loop .ready pe T₁ ps₁ as₁ bd₁ d₁) => (recF (some b) bd ⟨s.F, s.M, s.H.set b (.loop .busy pe T₁ ps₁ as₁ bd₁ d₁)⟩).bind fun p => endRoundX b p.1 p.2.dn
        | _ => none
      | _ => none
    else none
  | _ => none

def callV (fv : AV) (vs : List AV) (H : AH) : Option (AV × AH) :=
  match fv with
  | .func (.func g) x y => callF P X recF g (x ++ vs ++ y) H
  | .yld b => yieldF recF b vs H
  | _ => none

def opF (op : Op) (F : FT) (H : AH) : Option (AV × AH) :=
  match op with
  | .call ⟨.value f, xs, _⟩ => (evF P F f).bind fun fv => (evsE (evF P F) xs.toList).bind fun vs => callV P X recF fv vs H
  | op => opE P (evF P F) H op

def wantedF (ops : Array Oper) (F : FT) (g : Option (Nat × Bool)) : Option Bool :=
  match g with
  | none => some true
  | some (j, want) =>
    match (ops[j]?).bind (·.dst) with
    | none => some false
    | some d =>
      match F.look d with
      | .bool b => some (b == want)
      | .any => none
      | _ => some false

theorem wantedF_eq (ops : Array Oper) (F : FT) (o : Oper) : wantedF ops F o.guard = wantedV ops F.toL o := by
  unfold wantedF wantedV
  cases o.guard with
  | none => rfl
  | some g =>
    obtain ⟨j, want⟩ := g
    cases hd : (ops[j]?).bind (·.dst) with
    | none => simp [hd]
    | some d =>
      simp only [hd, Option.bind_some, FT.look_eq]
      cases hT : F.toL[d]? with
      | none => rfl
      | some v => cases v <;> rfl

abbrev OpsK := FT → AH → Option (FT × AH)

def opsStep (ops : Array Oper) (o : Oper) (ih : OpsK) (F : FT) (H : AH) : Option (FT × AH) :=
  match wantedF ops F o.guard with
  | some true => (opF P X recF o.op F H).bind fun p => ih (F.put o.dst p.1) p.2
  | some false => ih (F.put o.dst .undef) H
  | none => none

noncomputable def opsF (ops : Array Oper) (l : List Oper) : OpsK := List.rec (fun F H => some (F, H)) (fun o _ ih => opsStep P X recF ops o ih) l

abbrev PendF := List (Nat × Oper × FT × AV)

def pend1 (ops : Array Oper) (H : AH) (o : Oper) (F : FT) (v : AV) : Bool :=
  match wantedF ops F o.guard with
  | some true => (match opE P (evF P F) H o.op with | some (u, _) => beqV u v && convOk o.op u | none => false)
  | some false => true
  | none => false

def pendF (ops : Array Oper) (A : List Nat) (i : Nat) (H : AH) : PendF → Bool
  | [] => true
  | (j, o, F, v) :: pend => (ancOf A i j || pend1 P ops H o F v) && pendF ops A i H pend

abbrev DrawK := PendF → FT → AH → Option (FT × AH)

def drawStep (ops : Array Oper) (A : List Nat) (i k : Nat) (o : Oper) (ih : DrawK) (pend : PendF) (F : FT) (H : AH) : Option (FT × AH) :=
  match wantedF ops F o.guard with
  | none => none
  | some false => ih (if k = 2 ∨ k = 0 then pend else (i, o, F, .undef) :: pend) (F.put o.dst .undef) H
  | some true =>
    if k = 2 then (opF P X recF o.op F H).bind fun p => if pendF P ops A i p.2 pend then ih pend (F.put o.dst p.1) p.2 else none
    else (opE P (evF P F) H o.op).bind fun p => if convOk o.op p.1 then ih (if k = 0 then pend else (i, o, F, p.1) :: pend) (F.put o.dst p.1) H else none

def drawStep0 (ops : Array Oper) (A : List Nat) (q : Nat × Nat) (ih : DrawK) : DrawK :=
  match ops[q.1]? with
  | none => fun _ _ _ => none
  | some o => drawStep P X recF ops A q.1 q.2 o ih

noncomputable def drawF (ops : Array Oper) (A : List Nat) (σ : List (Nat × Nat)) : DrawK := List.rec (fun _ F H => some (F, H)) (fun q _ ih => drawStep0 P X recF ops A q ih) σ

noncomputable def scopeF (r : Option Nat) (c : Code) (m : Nat) : Code → FS → Option (AEx × FS) := Nat.rec (fun _ _ => none) (fun _ ih cur s =>
    match recF r cur s with
    | some (.goto l, s') =>
      match findLabel c l with
      | some rest => ih rest s'
      | none => some (.goto l, s')
    | x => x) m

noncomputable def loopF (r : Option Nat) (c : Code) (m : Nat) : FS → Option (AEx × FS) := Nat.rec (fun _ => none) (fun _ ih s =>
    match recF r c s with
    | some (.normal, s') => ih s'
    | x => x) m

def endRangeF (r : Option Nat) (l : Nat) (F : FT) (M : List Nat) (H : AH) : Option (AEx × FS) :=
  match H.get l with
  | some (.loop st pe _ _ _ _ _) =>
    if isBusy st then none
    else match pe with
      | none => some (.normal, ⟨F, M, H.set l .dead⟩)
      | some c => recF r c ⟨F, M, H.set l .dead⟩
  | _ => none

def rangeF (r : Option Nat) (g : Operand) (ps : Array Tmp) (as bd : Code) (s : FS) : Option (AEx × FS) :=
  (evF P s.F g).bind fun gv =>
    match gv, r with
    | .func (.func gf) x y, none =>
      if goB P gf then (callF P X recF gf (x ++ [.yld (s.H.n + 1)] ++ y) ((s.H.alloc .deferred).alloc (.loop .ready none s.F.toL ps as bd s.H.n))).bind fun p => endRangeF recF none (s.H.n + 1) s.F (s.H.n :: s.M) p.2 else none
    | .func (.func gf) x y, some b₀ =>
      match s.H.get b₀ with
      | some (.loop _ _ _ _ _ _ d₀) =>
        if goB P gf then (callF P X recF gf (x ++ [.yld s.H.n] ++ y) (s.H.alloc (.loop .ready none s.F.toL ps as bd d₀))).bind fun p => endRangeF recF (some b₀) s.H.n s.F s.M p.2 else none
      | _ => none
    | _, _ => none

def seqF (r : Option Nat) (a b : Code) (s : FS) : Option (AEx × FS) :=
  match recF r a s with
  | some (.normal, s') => recF r b s'
  | x => x

def condF (r : Option Nat) (c : Operand) (x y : Code) (s : FS) : Option (AEx × FS) :=
  match evF P s.F c with
  | some (.bool true) => recF r x s
  | some (.bool false) => recF r y s
  | _ => none

def backF (M : List Nat) (p : FT × AH) : AEx × FS := (.normal, ⟨p.1, M, p.2⟩)

noncomputable def drawRegionF (ops : Array Oper) (s : FS) : Option (AEx × FS) :=
  match drawOf ops with
  | some (σ, A) => (drawF P X recF ops A σ [] s.F s.H).map (backF s.M)
  | none => none

noncomputable def stepF (n : Nat) : RecF := fun r c s =>
  match c with
  | .skip => some (.normal, s)
  | .label _ => some (.normal, s)
  | .exit id => some (.exit id, s)
  | .goto l => some (.goto l, s)
  | .ret => some (.ret, s)
  | .refuse _ => none
  | .seq a b => seqF recF r a b s
  | .cond c x y => condF P recF r c x y s
  | .block id c => (recF r c s).map fun p => (inBlockX id p.1, p.2)
  | .loop c => loopF recF r c n s
  | .scope c => scopeF recF r c n c s
  | .region _ ops false => (opsF P X recF ops ops.toList s.F s.H).map (backF s.M)
  | .region _ ops true => drawRegionF P X recF ops s
  | .rangeFunc g ps as bd => rangeF P X recF r g ps as bd s
end

noncomputable def runF (P : Program) (X : Ext) (n : Nat) : RecF := Nat.rec (fun _ _ _ => none) (fun n ih => stepF P X ih n) n

noncomputable def runCallF (P : Program) (X : Ext) (n : Nat) (f : FuncId) (args : List AV) (H : AH) : Option (AV × AH) := callF P X (runF P X n) f args H

end Go.Am

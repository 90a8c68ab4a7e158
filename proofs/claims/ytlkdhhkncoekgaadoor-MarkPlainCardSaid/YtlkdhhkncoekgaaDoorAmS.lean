/- The abstract machine's two runs are one. -/
import Derived.Test.YtlkdhhkncoekgaaDoorAmR
namespace Go.Am
open Go.RowKit

section
variable {P : Program} {X : Ext} {rec : Rec} {recF : RecF}

theorem endF_eq (fn : Func) (s : FS) : ((takeMarks s.dn.M s.dn.H).bind fun H' => (resVs P s.dn.T H' fn.results.toList).map fun vs => (oneOf vs, H')) = endF P fn s := by
  unfold endF
  simp only [resF_eq]
  rfl

theorem callF_eq (h : RecEq rec recF) (f : FuncId) (args : List AV) (H : AH) : callX P X rec f args H = callF P X recF f args H := by
  unfold callX callF
  cases P.funcs[f]? with
  | none => rfl
  | some fn =>
    simp only
    cases fn.body with
    | none => rfl
    | some c =>
      simp only
      cases goB P f with
      | false => rfl
      | true =>
        simp only [if_true, cond_true]
        have e : rec none c ⟨args ++ List.replicate (fn.ntmps - args.length) .undef, [], H⟩ = (recF none c ⟨FT.ofL args (args.length + (fn.ntmps - args.length)), [], H⟩).map dn2 := by
          rw [← h]; simp only [FS.dn, FT.ofL_toL]
        rw [e]
        unfold bodyF
        cases recF none c ⟨FT.ofL args (args.length + (fn.ntmps - args.length)), [], H⟩ with
        | none => rfl
        | some p =>
          obtain ⟨e, s⟩ := p
          cases e with
          | normal => exact endF_eq fn s
          | ret => exact endF_eq fn s
          | exit id => rfl
          | goto l => rfl

theorem yieldF_eq (h : RecEq rec recF) (b : Nat) (vs : List AV) (H : AH) : yieldX rec b vs H = yieldF recF b vs H := by
  unfold yieldX yieldF
  cases H.get b with
  | none => rfl
  | some o =>
    cases o with
    | loop st pe T' ps as bd d =>
      simp only
      by_cases hl : vs.length = ps.size
      · rw [if_pos hl, if_pos hl]
        have e : rec (some b) as ⟨setPs ps.toList vs T', [], H⟩ = (recF (some b) as ⟨FT.ofL (setPs ps.toList vs T') ((setPs ps.toList vs T').length + 0), [], H⟩).map dn2 := by
          rw [← h]; simp only [FS.dn, FT.ofL_toL, List.replicate_zero, List.append_nil]
        rw [e]
        cases recF (some b) as ⟨FT.ofL (setPs ps.toList vs T') ((setPs ps.toList vs T').length + 0), [], H⟩ with
        | none => rfl
        | some p =>
          obtain ⟨e, s⟩ := p
          cases e with
          | normal =>
            simp only [Option.map_some, dn2, FS.dn]
            cases hg : s.H.get b with
            | none => rfl
            | some o =>
              cases o with
              | loop st₁ pe₁ T₁ ps₁ as₁ bd₁ d₁ =>
                cases st₁ with
                | ready =>
                  simp only
                  have e2 : rec (some b) bd ⟨s.F.toL, s.M, s.H.set b (.loop .busy pe₁ T₁ ps₁ as₁ bd₁ d₁)⟩ = (recF (some b) bd ⟨s.F, s.M, s.H.set b (.loop .busy pe₁ T₁ ps₁ as₁ bd₁ d₁)⟩).map dn2 := h (some b) bd ⟨s.F, s.M, s.H.set b (.loop .busy pe₁ T₁ ps₁ as₁ bd₁ d₁)⟩
                  rw [e2]
                  cases recF (some b) bd ⟨s.F, s.M, s.H.set b (.loop .busy pe₁ T₁ ps₁ as₁ bd₁ d₁)⟩ with
                  | none => rfl
                  | some q => rfl
                | _ => rfl
              | _ => rfl
          | _ => rfl
      · rw [if_neg hl, if_neg hl]
    | _ => rfl

theorem opF_eq (h : RecEq rec recF) (o : Oper) (F : FT) (H : AH) : opX P X rec o F.toL H = opF P X recF o.op F H := by
  have key : opV P F.toL H o = opE P (evF P F) H o.op := by rw [evF_eq, opE_eq]
  obtain ⟨dst, op, ty, pos, after, guard⟩ := o
  unfold opX opF
  cases op
  case call c =>
    obtain ⟨callee, args, ts⟩ := c
    cases callee with
    | value f =>
      simp only [evF_eq, evsE_eq]
      cases ev P F.toL f with
      | none => rfl
      | some fv =>
        simp only [Option.bind_some]
        cases evs P F.toL args.toList with
        | none => rfl
        | some vs =>
          simp only [Option.bind_some]
          unfold callV
          cases fv with
          | func g x y =>
            cases g with
            | func g => simp only [callF_eq h]
            | _ => rfl
          | yld b => simp only [yieldF_eq h]
          | _ => rfl
    | builtin b => exact key
    | invoke x m => exact key
  all_goals exact key

theorem opsF_eq (h : RecEq rec recF) (ops : Array Oper) : ∀ (l : List Oper) (F : FT) (H : AH), opsX P X rec ops l F.toL H = (opsF P X recF ops l F H).map fun p => (p.1.toL, p.2)
  | [], F, H => rfl
  | o :: l, F, H => by
    show opsX P X rec ops (o :: l) F.toL H = (opsStep P X recF ops o (opsF P X recF ops l) F H).map _
    unfold opsStep
    simp only [opsX, wantedF_eq]
    cases wantedV ops F.toL o with
    | none => rfl
    | some b =>
      cases b with
      | false =>
        simp only
        rw [← FT.put_toL, opsF_eq h ops l]
      | true =>
        simp only [opF_eq h]
        cases opF P X recF o.op F H with
        | none => rfl
        | some p =>
          simp only [Option.bind_some]
          rw [← FT.put_toL, opsF_eq h ops l]

def upP (p : Nat × Oper × FT × AV) : Nat × Oper × List AV × AV := (p.1, p.2.1, p.2.2.1.toL, p.2.2.2)

theorem pendF_eq (ops : Array Oper) (A : List Nat) (i : Nat) (H : AH) : ∀ pend : PendF, pendB P ops A i H (pend.map upP) = pendF P ops A i H pend
  | [] => rfl
  | (j, o, F, v) :: pend => by
    simp only [List.map_cons, upP, pendB, pendF, pendF_eq ops A i H pend, pend1, wantedF_eq, evF_eq, opE_eq]
    rfl

theorem drawF_eq (h : RecEq rec recF) (ops : Array Oper) (A : List Nat) : ∀ (σ : List (Nat × Nat)) (pend : PendF) (F : FT) (H : AH), drawX P X rec ops A σ (pend.map upP) F.toL H = (drawF P X recF ops A σ pend F H).map fun p => (p.1.toL, p.2)
  | [], _, F, H => rfl
  | (i, k) :: σ, pend, F, H => by
    show drawX P X rec ops A ((i, k) :: σ) (pend.map upP) F.toL H = (drawStep0 P X recF ops A (i, k) (drawF P X recF ops A σ) pend F H).map _
    unfold drawStep0
    simp only [drawX]
    cases ops[i]? with
    | none => rfl
    | some o =>
      simp only
      unfold drawStep
      simp only [wantedF_eq]
      cases wantedV ops F.toL o with
      | none => rfl
      | some b =>
        cases b with
        | false =>
          simp only
          rw [← FT.put_toL, ← drawF_eq h ops A σ]
          split <;> rfl
        | true =>
          simp only
          by_cases hk : k = 2
          · simp only [hk, if_true, opF_eq h]
            cases opF P X recF o.op F H with
            | none => rfl
            | some p =>
              simp only [Option.bind_some, pendF_eq]
              split
              · rw [← FT.put_toL, drawF_eq h ops A σ]
              · rfl
          · simp only [hk, if_false, evF_eq, opE_eq]
            cases opV P F.toL H o with
            | none => rfl
            | some p =>
              simp only [Option.bind_some]
              split
              · rw [← FT.put_toL, ← drawF_eq h ops A σ]
                split <;> rfl
              · rfl

theorem scopeF_eq (h : RecEq rec recF) (r : Option Nat) (c : Code) : ∀ (m : Nat) (cur : Code) (s : FS), scopeX rec r c m cur s.dn = (scopeF recF r c m cur s).map dn2
  | 0, _, _ => rfl
  | m + 1, cur, s => by
    show scopeX rec r c (m + 1) cur s.dn = (match recF r cur s with
      | some (.goto l, s') => match findLabel c l with | some rest => scopeF recF r c m rest s' | none => some (.goto l, s')
      | x => x).map dn2
    have hh := h r cur s
    simp only [scopeX, hh]
    cases recF r cur s with
    | none => rfl
    | some p =>
      obtain ⟨e, s'⟩ := p
      cases e with
      | goto l =>
        simp only [Option.map_some, dn2]
        cases findLabel c l with
        | none => rfl
        | some rest => exact scopeF_eq h r c m rest s'
      | _ => rfl

theorem loopF_eq (h : RecEq rec recF) (r : Option Nat) (c : Code) : ∀ (m : Nat) (s : FS), loopX rec r c m s.dn = (loopF recF r c m s).map dn2
  | 0, _ => rfl
  | m + 1, s => by
    show loopX rec r c (m + 1) s.dn = (match recF r c s with
      | some (.normal, s') => loopF recF r c m s'
      | x => x).map dn2
    have hh := h r c s
    simp only [loopX, hh]
    cases recF r c s with
    | none => rfl
    | some p =>
      obtain ⟨e, s'⟩ := p
      cases e with
      | normal => exact loopF_eq h r c m s'
      | _ => rfl

theorem endRangeF_eq (h : RecEq rec recF) (r : Option Nat) (l : Nat) (F : FT) (M : List Nat) (H : AH) : endRangeX rec r l F.toL M H = (endRangeF recF r l F M H).map dn2 := by
  unfold endRangeX endRangeF
  cases H.get l with
  | none => rfl
  | some o =>
    cases o with
    | loop st pe T' ps as bd d =>
      simp only
      cases isBusy st with
      | true => rfl
      | false =>
        simp only [Bool.false_eq_true, if_false]
        cases pe with
        | none => rfl
        | some c => exact h r c ⟨F, M, H.set l .dead⟩
    | _ => rfl

theorem rangeF_eq (h : RecEq rec recF) (r : Option Nat) (g : Operand) (ps : Array Tmp) (as bd : Code) (s : FS) : rangeX P X rec r g ps as bd s.dn = (rangeF P X recF r g ps as bd s).map dn2 := by
  unfold rangeX rangeF
  simp only [evF_eq, callF_eq h]
  show (ev P s.F.toL g).bind _ = _
  cases ev P s.F.toL g with
  | none => rfl
  | some gv =>
    simp only [Option.bind_some]
    cases gv with
    | func fn x y =>
      cases fn with
      | func gf =>
        cases r with
        | none =>
          simp only
          cases goB P gf with
          | false => rfl
          | true =>
            simp only [if_true, FS.dn]
            cases callF P X recF gf (x ++ [.yld (s.H.n + 1)] ++ y) ((s.H.alloc .deferred).alloc (.loop .ready none s.F.toL ps as bd s.H.n)) with
            | none => rfl
            | some p => exact endRangeF_eq h none (s.H.n + 1) s.F (s.H.n :: s.M) p.2
        | some b₀ =>
          simp only [FS.dn]
          cases s.H.get b₀ with
          | none => rfl
          | some o =>
            cases o with
            | loop st pe T' ps' as' bd' d₀ =>
              simp only
              cases goB P gf with
              | false => rfl
              | true =>
                simp only [if_true]
                cases callF P X recF gf (x ++ [.yld s.H.n] ++ y) (s.H.alloc (.loop .ready none s.F.toL ps as bd d₀)) with
                | none => rfl
                | some p => exact endRangeF_eq h (some b₀) s.H.n s.F s.M p.2
            | _ => rfl
      | _ => cases r <;> rfl
    | _ => cases r <;> rfl

theorem runF_eq : ∀ n, RecEq (run P X n) (runF P X n)
  | 0 => fun _ _ _ => rfl
  | n + 1 => fun r c s => by
    have h := runF_eq n
    show run P X (n + 1) r c s.dn = (stepF P X (runF P X n) n r c s).map dn2
    cases c with
    | skip => rfl
    | label l => rfl
    | exit id => rfl
    | goto l => rfl
    | ret => rfl
    | refuse w => rfl
    | seq a b =>
      have hh := h r a s
      simp only [run, stepF, seqF, hh]
      cases runF P X n r a s with
      | none => rfl
      | some p =>
        obtain ⟨e, s'⟩ := p
        cases e with
        | normal => exact h r b s'
        | _ => rfl
    | cond c x y =>
      simp only [run, stepF, condF, evF_eq]
      show (match ev P s.F.toL c with | some (.bool true) => run P X n r x s.dn | some (.bool false) => run P X n r y s.dn | _ => none) = _
      cases ev P s.F.toL c with
      | none => rfl
      | some v =>
        cases v with
        | bool b => cases b <;> exact h _ _ _
        | _ => rfl
    | block id c =>
      have hh := h r c s
      simp only [run, stepF, hh]
      cases runF P X n r c s with
      | none => rfl
      | some p => rfl
    | loop c => exact loopF_eq h r c n s
    | scope c => exact scopeF_eq h r c n c s
    | region id ops draw =>
      cases draw with
      | false =>
        simp only [run, stepF]
        show (opsX P X (run P X n) ops ops.toList s.F.toL s.H).map _ = _
        rw [opsF_eq h]
        cases opsF P X (runF P X n) ops ops.toList s.F s.H with
        | none => rfl
        | some p => rfl
      | true =>
        simp only [run, stepF, drawRegionF]
        cases drawOf ops with
        | none => rfl
        | some q =>
          obtain ⟨σ, A⟩ := q
          simp only
          have := drawF_eq (P := P) (X := X) h ops A σ [] s.F s.H
          simp only [List.map_nil] at this
          show (drawX P X (run P X n) ops A σ [] s.F.toL s.H).map _ = _
          rw [this]
          cases drawF P X (runF P X n) ops A σ [] s.F s.H with
          | none => rfl
          | some p => rfl
    | rangeFunc g ps as bd => exact rangeF_eq h r g ps as bd s

theorem runCallF_eq (n : Nat) (f : FuncId) (args : List AV) (H : AH) : runCall P X n f args H = runCallF P X n f args H := callF_eq (runF_eq n) f args H

/-- A call, by the run. -/
theorem ACall.of_run (hm : P.follows .mixedOrders = true) (hX : ExtOk P X) {n : Nat} {f : FuncId} {args : List AV} {H : AH} {v : AV} (hgo : goB P f = true) (h : (runCallF P X n f args H).map (·.1) = some v) :
    ACall P f args H (fun v' _ => v' = v) := by
  obtain ⟨⟨v', H'⟩, hr, rfl⟩ := Option.map_eq_some_iff.1 h
  rw [← runCallF_eq] at hr
  exact (runCall_sound hm hX hgo hr).mono fun _ _ h => h.1
end

end Go.Am

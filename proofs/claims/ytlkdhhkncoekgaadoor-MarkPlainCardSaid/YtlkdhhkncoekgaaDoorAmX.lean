/- What a statement, a function asks. -/
import Derived.Test.YtlkdhhkncoekgaaDoorAmW
namespace Go.Am
open Go.RowKit

section
variable (X : Atoms) (P : Program)

/-- A conversion that is reckoned ahead makes a number. -/
def calmφ : Op → Option Bool
  | .convert .. => some true
  | _ => none

theorem calm_ok {P : Program} {r : Option Nat} {T : List AV} {H : AH} {o : Oper} {K : AV → AH → Prop} (hq : quietOp o.op = true) (h : opK (real P r) P (calmφ o.op) (ev P T) H o.op o.type K) : ∃ v, opV P T H o = some (v, H) ∧ K v H := by
  obtain ⟨v, H', h1, h2, h3⟩ := opK_ok h
  have he : opV P T H o = some (v, H') := by rw [← opE_eq]; exact h1 (by cases o.op <;> rfl)
  have : H' = H := by
    obtain ⟨dst, op, ty, pos, after, guard⟩ := o
    cases op
    case convert => exact h2 (by simp [calmφ])
    all_goals exact quietOp_spec hq he rfl
  subst this
  exact ⟨v, he, h3⟩

def pendK (A : List Nat) (i : Nat) (H : AH) : Pend → Prop → Prop
  | [], k => k
  | (j, o, T, v) :: pend, k => bif ancOf A i j then pendK A i H pend k else bif quietOp o.op then opK X P (calmφ o.op) (ev P T) H o.op o.type (fun u _ => u = v) ∧ pendK A i H pend k else False

/-- A region that draws its order. -/
def drawK (ops : Array Oper) (A : List Nat) : List (Nat × Nat) → Pend → List AV → AH → (List AV → AH → Prop) → Prop
  | [], _, T, H, K => K T H
  | (i, k) :: σ, pend, T, H, K =>
    match ops[i]? with
    | none => False
    | some o =>
      let done : List AV → Prop := fun T =>
        bif Nat.beq k 2 then stepK X P T H o fun v H' => pendK X P A i H' pend (drawK ops A σ pend (putT T o.dst v) H' K)
        else bif quietOp o.op then opK X P (calmφ o.op) (ev P T) H o.op o.type fun v _ => drawK ops A σ (bif Nat.beq k 0 then pend else (i, o, T, v) :: pend) (putT T o.dst v) H K
        else False
      match o.guard with
      | none => done T
      | some gd =>
        match phiS ops T [] 1 gd with
        | some p => cond p (done (knowT ops [] gd.1 gd.2 T)) (drawK ops A σ pend (putT (knowT ops [] gd.1 (!gd.2) T) o.dst .undef) H K)
        | none => False

def look (T : List AV) (t : Tmp) : AV := (T[t]?).getD .undef

/-- A loop: the number of its first region; the temporaries that live where it begins, what they hold, and what holds there. -/
structure LoopAnn where
  key : Nat
  α : Type
  live : List Tmp
  tmpl : α → List AV
  inv : α → AH → Nat → Prop

def firstReg : Code → Option Nat
  | .region id _ _ => some id
  | .seq a b => match firstReg a with | some i => some i | none => firstReg b
  | .cond _ a b => match firstReg a with | some i => some i | none => firstReg b
  | .block _ c => firstReg c
  | .loop c => firstReg c
  | .scope c => firstReg c
  | .rangeFunc _ _ a b => match firstReg a with | some i => some i | none => firstReg b
  | _ => none

def findAnn (k : Nat) : List LoopAnn → Option LoopAnn
  | [] => none
  | a :: l => bif Nat.beq a.key k then some a else findAnn k l

def setAll : List Tmp → List AV → List AV → List AV
  | t :: ts, v :: vs, T => setAll ts vs (T.set t v)
  | _, _, T => T
def mkT (n : Nat) (live : List Tmp) (vs : List AV) : List AV := setAll live vs (List.replicate n .any)

abbrev VK := AEx → List AV → List Nat → AH → Prop

/-- The marks are as they were. -/
def sameM (M2 M : List Nat) (k : Prop) : Prop :=
  match M2, M with
  | [], [] => k
  | a, b => a = b ∧ k
theorem sameM_iff {M2 M : List Nat} {k : Prop} (h : sameM M2 M k) : M2 = M ∧ k := by
  unfold sameM at h
  split at h
  · exact ⟨rfl, h⟩
  · exact h

def vcC (anns : List LoopAnn) : Code → VK → List AV → List Nat → AH → Prop
  | .skip, K, T, M, H => K .normal T M H
  | .label _, K, T, M, H => K .normal T M H
  | .exit id, K, T, M, H => K (.exit id) T M H
  | .goto l, K, T, M, H => K (.goto l) T M H
  | .ret, K, T, M, H => K .ret T M H
  | .seq a b, K, T, M, H => vcC anns a (fun e T M H => match e with | .normal => vcC anns b K T M H | e => K e T M H) T M H
  | .cond c x y, K, T, M, H => vK (ev P T c) fun v => match v with
    | .bool u => cond u (vcC anns x K T M H) (vcC anns y K T M H)
    | _ => False
  | .block id c, K, T, M, H => vcC anns c (fun e => K (inBlockX id e)) T M H
  | .loop c, K, T, M, H => match firstReg c with
    | some k => match findAnn k anns with
      | some a => (∃ x j, a.live.map (look T) = a.tmpl x ∧ a.inv x H j) ∧ ∀ x H' j, a.inv x H' j →
          vcC anns c (fun e T2 M2 H2 => match e with
            | .normal => bif Nat.beq T2.length T.length then sameM M2 M (∃ x' j', j' < j ∧ a.live.map (look T2) = a.tmpl x' ∧ a.inv x' H2 j') else False
            | e => K e T2 M2 H2) (mkT T.length a.live (a.tmpl x)) M H'
      | none => False
    | none => False
  | .region _ ops false, K, T, M, H => opsK X P ops ops.toList T [] [] H fun T' cd H' => K .normal (dropCd T' cd) M H'
  | .region _ ops true, K, T, M, H => match drawOf ops with
    | some (σ, A) => drawK X P ops A σ [] T H fun T' H' => K .normal T' M H'
    | none => False
  | _, _, _, _, _ => False

def marksK (M : List Nat) (H : AH) (k : AH → Prop) : Prop :=
  match M with
  | [] => k H
  | M => ∃ H', X.tm M H = some H' ∧ k H'

def resK (T : List AV) (H : AH) : List ResultVar → (List AV → Prop) → Prop
  | [], k => k []
  | .tmp t :: l, k => resK T H l fun vs => k (look T t :: vs)
  | .cell a t :: l, k => loadK X P none H t (look T a) fun v => resK T H l fun vs => k (v :: vs)

def retK (fn : Func) (Q : AV → AH → Prop) : VK := fun e T M H =>
  match e with
  | .normal => marksK X M H fun H' => resK X P T H' fn.results.toList fun vs => Q (oneOf vs) H'
  | .ret => marksK X M H fun H' => resK X P T H' fn.results.toList fun vs => Q (oneOf vs) H'
  | _ => False

/-- What a function asks so that it hands back what Q takes. -/
def vcF (anns : List LoopAnn) (f : FuncId) (args : List AV) (H : AH) (Q : AV → AH → Prop) : Prop :=
  match P.funcs[f]? with
  | some fn => match fn.body with
    | some c => vcC X P anns c (retK X P fn Q) (args ++ List.replicate (fn.ntmps - args.length) .undef) [] H
    | none => False
  | none => False
end

section
variable {P : Program} {r : Option Nat}

theorem pendK_ok {A : List Nat} {i : Nat} {H : AH} : ∀ {pend : Pend} {k : Prop}, pendK (real P r) P A i H pend k → (∀ p ∈ pend, ancOf A i p.1 = false → opV P p.2.2.1 H p.2.1 = some (p.2.2.2, H)) ∧ k
  | [], _, h => ⟨fun _ h => (by cases h), h⟩
  | (j, o, T, v) :: pend, k, h => by
    simp only [pendK] at h
    cases hb : ancOf A i j with
    | true =>
      rw [hb] at h
      obtain ⟨h1, h2⟩ := pendK_ok h
      refine ⟨fun p hp ha => ?_, h2⟩
      rcases List.mem_cons.1 hp with rfl | hp
      · simp only at ha; rw [hb] at ha; cases ha
      · exact h1 p hp ha
    | false =>
      rw [hb] at h
      obtain ⟨hq, h0, h⟩ := bool_if (show bif quietOp o.op then _ else False from h)
      obtain ⟨h1, h2⟩ := pendK_ok h
      refine ⟨fun p hp ha => ?_, h2⟩
      rcases List.mem_cons.1 hp with rfl | hp
      · obtain ⟨u, k1, k3⟩ := calm_ok hq h0
        subst k3
        exact k1
      · exact h1 p hp ha

def PendR (ops : Array Oper) (pend pendA : Pend) : Prop :=
  ∀ p ∈ pendA, (p ∈ pend ∧ wantedV ops p.2.2.1 p.2.1 = some true ∧ quietOp p.2.1.op = true) ∨ (wantedV ops p.2.2.1 p.2.1 = some false ∧ p.2.2.2 = .undef)

theorem drawK_ok {ops : Array Oper} {A : List Nat} {K : List AV → AH → Prop} : ∀ {σ : List (Nat × Nat)} {pend pendA : Pend} {T : List AV} {H : AH}, drawK (real P r) P ops A σ pend T H K → PendR ops pend pendA → ADraw P r ops (ancOf A) K σ pendA T H
  | [], _, _, _, _, h, _ => h
  | (i, k) :: σ, pend, pendA, T, H, h, hp => by
    simp only [drawK] at h
    split at h
    · exact h.elim
    · rename_i o ho
      refine ⟨o, ho, ?_⟩
      have done : wantedV ops T o = some true → (bif Nat.beq k 2 then stepK (real P r) P T H o fun v H' => pendK (real P r) P A i H' pend (drawK (real P r) P ops A σ pend (putT T o.dst v) H' K)
          else bif quietOp o.op then opK (real P r) P (calmφ o.op) (ev P T) H o.op o.type fun v _ => drawK (real P r) P ops A σ (bif Nat.beq k 0 then pend else (i, o, T, v) :: pend) (putT T o.dst v) H K else False) →
          if k = 2 then (wantedV ops T o = some false ∧ ADraw P r ops (ancOf A) K σ pendA (putT T o.dst .undef) H) ∨
            (wantedV ops T o = some true ∧ AOp P r o T H fun v H' => pendOk P ops (ancOf A) i H' pendA ∧ ADraw P r ops (ancOf A) K σ pendA (putT T o.dst v) H')
          else ∃ v, Stills P ops o T H v ∧ ADraw P r ops (ancOf A) K σ (if k = 0 then pendA else (i, o, T, v) :: pendA) (putT T o.dst v) H := by
        intro hw h
        by_cases hk : k = 2
        · subst hk
          rw [if_pos rfl]
          have h' : stepK (real P r) P T H o fun v H' => pendK (real P r) P A i H' pend (drawK (real P r) P ops A σ pend (putT T o.dst v) H' K) := h
          refine .inr ⟨hw, (stepK_ok (fun _ _ => rfl) h').mono fun v H' hv => ?_⟩
          obtain ⟨h1, h2⟩ := pendK_ok hv
          refine ⟨fun p hpa ha => ?_, drawK_ok h2 hp⟩
          rcases hp p hpa with ⟨k1, k2, k3⟩ | ⟨k1, k2⟩
          · exact .inr ⟨k2, h1 p k1 ha⟩
          · exact .inl ⟨k1, k2⟩
        · rw [if_neg hk]
          have hb : Nat.beq k 2 = false := by
            cases hb : Nat.beq k 2 with
            | false => rfl
            | true => exact absurd (Nat.eq_of_beq_eq_true hb) hk
          rw [hb] at h
          obtain ⟨hq, h⟩ := bool_if (show bif quietOp o.op then _ else False from h)
          obtain ⟨v, he, h3⟩ := calm_ok hq h
          refine ⟨v, .inr ⟨hw, he⟩, drawK_ok h3 ?_⟩
          by_cases h0 : k = 0
          · subst h0; rw [if_pos rfl]; exact hp
          · rw [if_neg h0]
            have hb0 : Nat.beq k 0 = false := by
              cases hb : Nat.beq k 0 with
              | false => rfl
              | true => exact absurd (Nat.eq_of_beq_eq_true hb) h0
            rw [hb0]
            intro p hpa
            rcases List.mem_cons.1 hpa with rfl | hpa
            · exact .inl ⟨by simp, hw, hq⟩
            · rcases hp p hpa with ⟨k1, k2⟩ | k2
              · exact .inl ⟨by simp [k1], k2⟩
              · exact .inr k2
      split at h
      · rename_i hg
        exact done (by rw [wantedV_eq, hg]) h
      · rename_i gd hg
        split at h
        · rename_i p hph
          have hw : wantedV ops T o = some p := by rw [wantedV_eq, hg]; exact phiS_ok (Rel.nil T) hph
          cases p with
          | true =>
            have h' : _ := h
            simp only [cond_true] at h'
            rw [(Rel.nil T).know hph (fun u _ e => by simpa using e)] at h'
            exact done hw h'
          | false =>
            simp only [cond_false] at h
            rw [(Rel.nil T).know hph (fun u _ e => by revert e; cases u <;> cases gd.2 <;> decide)] at h
            by_cases hk : k = 2
            · rw [if_pos hk]; exact .inl ⟨hw, drawK_ok h hp⟩
            · rw [if_neg hk]
              refine ⟨.undef, .inl ⟨hw, rfl⟩, drawK_ok h ?_⟩
              by_cases h0 : k = 0
              · rw [if_pos h0]; exact hp
              · rw [if_neg h0]
                intro q hqa
                rcases List.mem_cons.1 hqa with rfl | hqa
                · exact .inr ⟨hw, rfl⟩
                · exact hp q hqa
        · exact h.elim

theorem VRs.weaken {E : Env} {T Ta : List AV} (h : Wk T Ta) {X : List Value} (k : VRs E Ta X) : VRs E T X := by
  refine VRs.of_get (by rw [h.len]; exact k.length) fun i x y hx hy => ?_
  rcases h.at' i x hx with rfl | e
  · trivial
  · obtain ⟨y', h1, h2⟩ := k.get e
    rw [hy] at h1; cases h1; exact h2

theorem AWp.weaken {c : Code} {Q : AEx → St → Prop} {T Ta : List AV} {M : List Nat} {H : AH} (h : Wk T Ta) (k : AWp P r c Q ⟨T, M, H⟩) : AWp P r c Q ⟨Ta, M, H⟩ :=
  fun E B w a rc hs hr => k E B w a rc ⟨hs.heap, VRs.weaken h hs.tmps, hs.marks⟩ hr

def WkP (K : VK) : AEx → St → Prop := fun e s => ∃ T, Wk T s.T ∧ K e T s.M s.H

theorem setAll_wk {T : List AV} : ∀ {live : List Tmp} {T0 : List AV}, Wk T0 T → Wk (setAll live (live.map (look T)) T0) T
  | [], _, h => h
  | t :: ts, T0, h => by
    refine setAll_wk (live := ts) ⟨by simpa using h.len, fun i v hv => ?_⟩
    rw [List.getElem?_set] at hv
    split at hv
    · rename_i e; subst e
      split at hv
      · rename_i hlt
        cases hv
        refine .inr ?_
        have : t < T.length := by rw [← h.len]; exact hlt
        unfold look
        rw [List.getElem?_eq_getElem this]; rfl
      · cases hv
    · exact h.at' i v hv

theorem mkT_wk {T : List AV} {n : Nat} (hn : n = T.length) (live : List Tmp) : Wk (mkT n live (live.map (look T))) T := by
  refine setAll_wk ⟨by simp [hn], fun i v hv => ?_⟩
  rw [List.getElem?_replicate] at hv
  split at hv
  · cases hv; exact .inl rfl
  · cases hv

theorem vcC_ok (hm : P.follows .mixedOrders = true) {anns : List LoopAnn} : ∀ {c : Code} {K : VK} {T : List AV} {M : List Nat} {H : AH}, vcC (real P r) P anns c K T M H → AWp P r c (WkP K) ⟨T, M, H⟩ := by
  intro c
  induction c with
  | skip => intro K T M H h; exact AWp.skip ⟨T, Wk.refl T, h⟩
  | label l => intro K T M H h; exact AWp.label ⟨T, Wk.refl T, h⟩
  | exit id => intro K T M H h; exact AWp.exit ⟨T, Wk.refl T, h⟩
  | goto l => intro K T M H h; exact AWp.goto ⟨T, Wk.refl T, h⟩
  | ret => intro K T M H h; exact AWp.ret ⟨T, Wk.refl T, h⟩
  | refuse w => intro K T M H h; exact h.elim
  | scope c ih => intro K T M H h; exact h.elim
  | rangeFunc g ps a b iha ihb => intro K T M H h; exact h.elim
  | seq a b iha ihb =>
    intro K T M H h
    refine AWp.seq ((iha h).mono ?_)
    rintro e s ⟨T', hw, hk⟩
    cases e with
    | normal => exact AWp.weaken hw (ihb hk)
    | exit id => exact ⟨T', hw, hk⟩
    | goto l => exact ⟨T', hw, hk⟩
    | ret => exact ⟨T', hw, hk⟩
  | cond c x y ihx ihy =>
    intro K T M H h
    obtain ⟨v, hv, h⟩ := vK_iff h
    split at h
    · rename_i u
      refine AWp.cond hv ?_
      cases u with
      | true => exact ihx h
      | false => exact ihy h
    · exact h.elim
  | block id c ih =>
    intro K T M H h
    refine AWp.block ((ih h).mono ?_)
    rintro e s ⟨T', hw, hk⟩
    cases e with
    | exit i =>
      simp only [inBlockA]
      simp only [inBlockX] at hk
      split
      · rename_i e; rw [if_pos e] at hk; exact ⟨T', hw, hk⟩
      · rename_i e; rw [if_neg e] at hk; exact ⟨T', hw, hk⟩
    | normal => exact ⟨T', hw, hk⟩
    | goto l => exact ⟨T', hw, hk⟩
    | ret => exact ⟨T', hw, hk⟩
  | loop c ih =>
    intro K T M H h
    simp only [vcC] at h
    split at h
    · split at h
      · rename_i a _
        obtain ⟨⟨x, j, hl, hi⟩, h⟩ := h
        refine AWp.loop (j := j) (fun j s => ∃ x, a.inv x s.H j ∧ s.M = M ∧ Wk (mkT T.length a.live (a.tmpl x)) s.T) ⟨x, hi, rfl, by rw [← hl]; exact mkT_wk rfl _⟩ ?_
        rintro j ⟨T1, M1, H1⟩ ⟨x, hi, rfl, hw⟩
        refine AWp.weaken hw ((ih (h x H1 j hi)).mono ?_)
        rintro e s ⟨T2, hw2, hk⟩
        cases e with
        | normal =>
          obtain ⟨hlen, hk⟩ := bool_if hk
          obtain ⟨hM, x', j', hj, hl', hi'⟩ := sameM_iff hk
          refine ⟨j', hj, x', hi', hM, ?_⟩
          rw [← hl']
          exact (mkT_wk (Nat.eq_of_beq_eq_true hlen).symm _).trans hw2
        | exit id => exact ⟨T2, hw2, hk⟩
        | goto l => exact ⟨T2, hw2, hk⟩
        | ret => exact ⟨T2, hw2, hk⟩
      · exact h.elim
    · exact h.elim
  | region id ops draw =>
    intro K T M H h
    cases draw with
    | false =>
      refine AWp.mono (AWp.region (Q := WkP K) ?_) fun _ _ h => h
      have key : ∀ {l : List Oper} {T : List AV} {H : AH} {K1 K2 : List AV → AH → Prop}, (∀ T H, K1 T H → K2 T H) → AOps P r ops K1 l T H → AOps P r ops K2 l T H := by
        intro l
        induction l with
        | nil => intro T H K1 K2 hk h; exact hk _ _ h
        | cons o l ih =>
          intro T H K1 K2 hk h
          rcases h with ⟨h1, h2⟩ | ⟨h1, h2⟩
          · exact .inl ⟨h1, h2.mono fun v H' h => ih hk h⟩
          · exact .inr ⟨h1, ih hk h2⟩
      refine key ?_ (opsK_ok h (Rel.nil T) (fun _ h => by cases h))
      rintro T' H' ⟨T2, cd, hR, hk⟩
      exact ⟨_, hR.drop, hk⟩
    | true =>
      simp only [vcC] at h
      split at h
      · rename_i σ A hd
        obtain ⟨cc, hd⟩ := drawOf_as hd
        unfold drawAs at hd
        simp only at hd
        split at hd
        · rename_i hc
          simp only [Option.some.injEq, Prod.mk.injEq] at hd
          obtain ⟨rfl, rfl⟩ := hd
          simp only [Bool.and_eq_true, decide_eq_true_eq] at hc
          refine AWp.draw hm (ancB_spec hc.1.1.2) hc.1.1.1 hc.1.2 ?_
          have key : ∀ {σ : List (Nat × Nat)} {pend : Pend} {T : List AV} {H : AH} {A : List Nat} {K1 K2 : List AV → AH → Prop}, (∀ T H, K1 T H → K2 T H) → ADraw P r ops (ancOf A) K1 σ pend T H → ADraw P r ops (ancOf A) K2 σ pend T H := by
            intro σ
            induction σ with
            | nil => intro pend T H A K1 K2 hk h; exact hk _ _ h
            | cons ik σ ih =>
              intro pend T H A K1 K2 hk h
              obtain ⟨o, ho, h⟩ := h
              refine ⟨o, ho, ?_⟩
              split at h
              · rename_i hk2
                rw [if_pos hk2]
                rcases h with ⟨h1, h2⟩ | ⟨h1, h2⟩
                · exact .inl ⟨h1, ih hk h2⟩
                · exact .inr ⟨h1, h2.mono fun v H' h => ⟨h.1, ih hk h.2⟩⟩
              · rename_i hk2
                rw [if_neg hk2]
                obtain ⟨v, h1, h2⟩ := h
                exact ⟨v, h1, ih hk h2⟩
          refine key ?_ (drawK_ok (pendA := []) h (fun p hp => by cases hp))
          intro T' H' hk
          exact ⟨_, Wk.refl _, hk⟩
        · cases hd
      · exact h.elim

theorem resK_ok {T : List AV} {H : AH} : ∀ {l : List ResultVar} {k : List AV → Prop}, resK (real P r) P T H l k → ∃ vs, resVs P T H l = some vs ∧ k vs
  | [], _, h => ⟨[], rfl, h⟩
  | .tmp t :: l, k, h => by
    obtain ⟨vs, h1, h2⟩ := resK_ok (l := l) h
    exact ⟨_, by simp [resVs, h1]; rfl, h2⟩
  | .cell a t :: l, k, h => by
    obtain ⟨v, h1, h2⟩ := loadK_ok (φ := none) h
    obtain ⟨vs, h3, h4⟩ := resK_ok h2
    exact ⟨v :: vs, by simp only [resVs]; rw [show loadV P H t ((T[a]?).getD .undef) = some v from h1 rfl, h3]; rfl, h4⟩

theorem marksK_ok {M : List Nat} {H : AH} {k : AH → Prop} (h : marksK (real P r) M H k) : ∃ H', takeMarks M H = some H' ∧ k H' := by
  unfold marksK at h
  split at h
  · exact ⟨H, rfl, h⟩
  · exact h

/-- A function that asks what holds. -/
theorem vcF_ok (hm : P.follows .mixedOrders = true) {anns : List LoopAnn} {f : FuncId} {args : List AV} {H : AH} {Q : AV → AH → Prop} (h : vcF (real P none) P anns f args H Q) : ACall P f args H Q := by
  unfold vcF at h
  split at h
  · rename_i fn hf
    split at h
    · rename_i c hb
      refine ACall.body hf hb ?_
      -- the state that is weaker is put in the place of the other one
      intro E B w a rc hs hr
      refine Go.wpIn_mono (vcC_ok hm h E B w a rc hs hr) ?_
      rintro e a' w' ⟨ae, s', E', h1, ⟨T', hw, hk⟩, h3, h4, h5⟩
      refine ⟨ae, ⟨T', s'.M, s'.H⟩, E', h1, ?_, h3, ⟨h4.heap, VRs.weaken hw h4.tmps, h4.marks⟩, h5⟩
      cases ae with
      | normal =>
        obtain ⟨H', h6, h7⟩ := marksK_ok (P := P) (r := none) (show marksK (real P none) s'.M s'.H (fun H' => resK (real P none) P T' H' fn.results.toList fun vs => Q (oneOf vs) H') from hk)
        obtain ⟨vs, h8, h9⟩ := resK_ok h7
        exact ⟨.inl rfl, H', vs, h6, h8, h9⟩
      | ret =>
        obtain ⟨H', h6, h7⟩ := marksK_ok (P := P) (r := none) (show marksK (real P none) s'.M s'.H (fun H' => resK (real P none) P T' H' fn.results.toList fun vs => Q (oneOf vs) H') from hk)
        obtain ⟨vs, h8, h9⟩ := resK_ok h7
        exact ⟨.inr rfl, H', vs, h6, h8, h9⟩
      | exit id => exact hk.elim
      | goto l => exact hk.elim
    · exact h.elim
  · exact h.elim

end
end Go.Am

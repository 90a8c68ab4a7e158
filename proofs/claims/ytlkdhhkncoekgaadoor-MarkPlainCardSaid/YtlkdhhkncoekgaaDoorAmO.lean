/- The abstract machine's own run is sound. -/
import Derived.Test.YtlkdhhkncoekgaaDoorAmN
namespace Go.Am
open Go.RowKit

section
variable {P : Program} {X : Ext} {rec : Rec}

def RecOk (P : Program) (rec : Rec) : Prop := ∀ r c s e s', rec r c s = some (e, s') → AWp P r c (fun e' s'' => e' = e ∧ s'' = s') s
def ExtOk (P : Program) (X : Ext) : Prop := ∀ g vs H v H', X g vs H = some (v, H') → ACallee P g vs H (fun v' H'' => v' = v ∧ H'' = H')

theorem goB_spec {g : FuncId} (h : goB P g = true) : Goes P g := by
  intro args w
  unfold goB at h
  cases hf : P.funcs[g]? with
  | none => rw [hf] at h; cases h
  | some fn =>
    rw [hf] at h
    simp only [Bool.and_eq_true, Bool.not_eq_true'] at h
    obtain ⟨h1, h2⟩ := h
    have h2' : fn.name ≠ "runtime.NumGoroutine" := by simpa using h2
    have h3 : fn.body ≠ none := by intro e; rw [e] at h1; cases h1
    simp [callFunc, hf, h2', h3]

theorem callX_go (hr : RecOk P rec) {f : FuncId} {args : List AV} {H : AH} {v : AV} {H' : AH} (hgo : goB P f = true) (h : callX P X rec f args H = some (v, H')) :
    ACall P f args H (fun v' H'' => v' = v ∧ H'' = H') := by
  unfold callX at h
  cases hf : P.funcs[f]? with
  | none => rw [hf] at h; cases h
  | some fn =>
    rw [hf] at h
    simp only at h
    cases hb : fn.body with
    | none => unfold goB at hgo; rw [hf] at hgo; simp [hb] at hgo
    | some c =>
      rw [hb] at h
      simp only [hgo, if_true] at h
      refine ACall.body hf hb ?_
      split at h
      all_goals first | cases h | skip
      all_goals
        rename_i s' hs
        obtain ⟨H₁, h1, h⟩ := Option.bind_eq_some_iff.1 h
        obtain ⟨vs, h2, h'⟩ := Option.map_eq_some_iff.1 h
        simp only [Prod.mk.injEq] at h'
        refine (hr _ _ _ _ _ hs).mono ?_
        rintro e s'' ⟨rfl, rfl⟩
        exact ⟨by simp, H₁, vs, h1, h2, h'.1, h'.2⟩

theorem callX_sound (hr : RecOk P rec) (hX : ExtOk P X) {f : FuncId} {args : List AV} {H : AH} {v : AV} {H' : AH} (h : callX P X rec f args H = some (v, H')) :
    ACallee P f args H (fun v' H'' => v' = v ∧ H'' = H') := by
  cases hgo : goB P f with
  | true => exact .inl ⟨goB_spec hgo, callX_go hr hgo h⟩
  | false =>
    unfold callX at h
    cases hf : P.funcs[f]? with
    | none => rw [hf] at h; cases h
    | some fn =>
      rw [hf] at h
      simp only at h
      cases hb : fn.body with
      | none => rw [hb] at h; exact hX _ _ _ _ _ h
      | some c => rw [hb] at h; simp [hgo] at h

theorem endRoundX_sound {b : Nat} {e : AEx} {s : St} {v : AV} {H' : AH} (h : endRoundX b e s = some (v, H')) : roundA b (fun v' H'' => v' = v ∧ H'' = H') e s := by
  unfold endRoundX at h
  split at h
  · rename_i st pe T' ps as bd d hg
    refine ⟨st, pe, T', ps, as, bd, d, hg, ?_⟩
    cases e <;> simp only [Option.some.injEq, Prod.mk.injEq] at h ⊢ <;> exact ⟨h.1, h.2⟩
  · cases h

theorem opX_sound (hr : RecOk P rec) (hX : ExtOk P X) {r : Option Nat} {o : Oper} {T : List AV} {H : AH} {v : AV} {H' : AH} (h : opX P X rec o T H = some (v, H')) :
    AOp P r o T H (fun v' H'' => v' = v ∧ H'' = H') := by
  obtain ⟨dst, op, ty, pos, after, guard⟩ := o
  unfold opX at h
  split at h
  · rename_i f xs ts e
    simp only at e
    subst e
    obtain ⟨fv, hf, h⟩ := Option.bind_eq_some_iff.1 h
    obtain ⟨vs, hx, h⟩ := Option.bind_eq_some_iff.1 h
    split at h
    · exact AOp.callee hf hx (callX_sound hr hX h)
    · rename_i b
      unfold yieldX at h
      split at h
      · rename_i st pe T' ps as bd d hg
        split at h
        · rename_i hl
          split at h
          · rename_i s hs
            split at h
            · rename_i pe₁ T₁ ps₁ as₁ bd₁ d₁ hg₁
              obtain ⟨⟨e, s₂⟩, h2, h⟩ := Option.bind_eq_some_iff.1 h
              refine AOp.yield hf hx hg hl ((hr _ _ _ _ _ hs).mono ?_)
              rintro e' s' ⟨rfl, rfl⟩
              refine ⟨pe₁, T₁, ps₁, as₁, bd₁, d₁, hg₁, (hr _ _ _ _ _ h2).mono ?_⟩
              rintro e' s' ⟨rfl, rfl⟩
              exact endRoundX_sound h
            · cases h
          · cases h
        · cases h
      · cases h
    · cases h
  · exact AOp.of_opV h ⟨rfl, rfl⟩

theorem opsX_sound (hr : RecOk P rec) (hX : ExtOk P X) {r : Option Nat} {ops : Array Oper} {K : List AV → AH → Prop} : ∀ {l : List Oper} {T : List AV} {H : AH} {T' : List AV} {H' : AH}, opsX P X rec ops l T H = some (T', H') → K T' H' → AOps P r ops K l T H
  | [], T, H, T', H', h, hk => by simp only [opsX, Option.some.injEq, Prod.mk.injEq] at h; obtain ⟨rfl, rfl⟩ := h; exact hk
  | o :: l, T, H, T', H', h, hk => by
    simp only [opsX] at h
    split at h
    · rename_i hw
      obtain ⟨⟨v, H₁⟩, h1, h⟩ := Option.bind_eq_some_iff.1 h
      refine .inl ⟨hw, (opX_sound hr hX h1).mono ?_⟩
      rintro v' H'' ⟨rfl, rfl⟩
      exact opsX_sound hr hX h hk
    · rename_i hw
      exact .inr ⟨hw, opsX_sound hr hX h hk⟩
    · cases h

theorem pendB_sound {ops : Array Oper} {A : List Nat} {i : Nat} {H : AH} : ∀ {pend : Pend}, (∀ p ∈ pend, quietOp p.2.1.op = true ∧ (wantedV ops p.2.2.1 p.2.1 = some false → p.2.2.2 = .undef)) → pendB P ops A i H pend = true → pendOk P ops (ancOf A) i H pend
  | [], _, _ => fun p hp => by cases hp
  | (j, o, T, v) :: pend, hq, h => by
    simp only [pendB, Bool.and_eq_true] at h
    intro p hp ha
    rcases List.mem_cons.1 hp with rfl | hp
    · simp only at ha
      simp only [ha, Bool.false_or] at h
      obtain ⟨h, _⟩ := h
      obtain ⟨q1, q2⟩ := hq _ (by simp : ((j, o, T, v) : Nat × Oper × List AV × AV) ∈ (j, o, T, v) :: pend)
      split at h
      · rename_i hw
        split at h
        · rename_i u H'' hu
          simp only [Bool.and_eq_true] at h
          have := quietOp_spec q1 hu h.2
          subst this
          exact .inr ⟨hw, by rw [hu, beqV_eq h.1]⟩
        · cases h
      · rename_i hw; exact .inl ⟨hw, q2 hw⟩
      · cases h
    · exact pendB_sound (fun p hp => hq p (List.mem_cons_of_mem _ hp)) h.2 p hp ha

theorem drawX_sound (hr : RecOk P rec) (hX : ExtOk P X) {r : Option Nat} {ops : Array Oper} {A : List Nat} {K : List AV → AH → Prop} : ∀ {σ : List (Nat × Nat)} {pend : Pend} {T : List AV} {H : AH} {T' : List AV} {H' : AH},
    (∀ p ∈ σ, p.2 = 2 ∨ ∀ o, ops[p.1]? = some o → quietOp o.op = true) → (∀ p ∈ pend, quietOp p.2.1.op = true ∧ (wantedV ops p.2.2.1 p.2.1 = some false → p.2.2.2 = .undef)) →
    drawX P X rec ops A σ pend T H = some (T', H') → K T' H' → ADraw P r ops (ancOf A) K σ pend T H
  | [], pend, T, H, T', H', _, _, h, hk => by simp only [drawX, Option.some.injEq, Prod.mk.injEq] at h; obtain ⟨rfl, rfl⟩ := h; exact hk
  | (i, k) :: σ, pend, T, H, T', H', hσ, hp, h, hk => by
    simp only [drawX] at h
    split at h
    · cases h
    rename_i o ho
    have hσ' : ∀ p ∈ σ, p.2 = 2 ∨ ∀ o, ops[p.1]? = some o → quietOp o.op = true := fun p hp => hσ p (List.mem_cons_of_mem _ hp)
    refine ⟨o, ho, ?_⟩
    split at h
    · cases h
    · rename_i hw
      by_cases h2 : k = 2
      · rw [if_pos (.inl h2)] at h
        rw [if_pos h2]
        exact .inl ⟨hw, drawX_sound hr hX hσ' hp h hk⟩
      · rw [if_neg h2]
        refine ⟨.undef, .inl ⟨hw, rfl⟩, ?_⟩
        have hq := (hσ (i, k) (by simp)).resolve_left h2 o ho
        by_cases h0 : k = 0
        · rw [if_pos (.inr h0)] at h; rw [if_pos h0]; exact drawX_sound hr hX hσ' hp h hk
        · rw [if_neg (by omega)] at h; rw [if_neg h0]
          refine drawX_sound hr hX hσ' (fun p hp' => ?_) h hk
          rcases List.mem_cons.1 hp' with rfl | hp'
          · exact ⟨hq, fun _ => rfl⟩
          · exact hp p hp'
    · rename_i hw
      by_cases h2 : k = 2
      · rw [if_pos h2] at h ⊢
        obtain ⟨⟨v, H₁⟩, h1, h⟩ := Option.bind_eq_some_iff.1 h
        simp only at h
        split at h
        · rename_i hpb
          refine .inr ⟨hw, (opX_sound hr hX h1).mono ?_⟩
          rintro v' H'' ⟨rfl, rfl⟩
          exact ⟨pendB_sound hp hpb, drawX_sound hr hX hσ' hp h hk⟩
        · cases h
      · rw [if_neg h2] at h ⊢
        obtain ⟨⟨v, H₁⟩, h1, h⟩ := Option.bind_eq_some_iff.1 h
        have hq := (hσ (i, k) (by simp)).resolve_left h2 o ho
        simp only at h
        split at h
        case isFalse => cases h
        rename_i hcv
        have hHH := quietOp_spec hq h1 hcv
        subst hHH
        refine ⟨v, .inr ⟨hw, h1⟩, ?_⟩
        by_cases h0 : k = 0
        · simp only [h0, if_true] at h ⊢; exact drawX_sound hr hX hσ' hp h hk
        · simp only [h0, if_false] at h ⊢
          refine drawX_sound hr hX hσ' (fun p hp' => ?_) h hk
          rcases List.mem_cons.1 hp' with rfl | hp'
          · exact ⟨hq, fun h' => by rw [hw] at h'; cases h'⟩
          · exact hp p hp'

theorem loopX_sound (hr : RecOk P rec) {r : Option Nat} {c : Code} {m : Nat} {s : St} {e : AEx} {s' : St} (h : loopX rec r c m s = some (e, s')) : AWp P r (.loop c) (fun e' s'' => e' = e ∧ s'' = s') s := by
  refine AWp.loop (j := m) (fun j s => loopX rec r c j s = some (e, s')) h ?_
  intro j s hj
  cases j with
  | zero => cases hj
  | succ j =>
    simp only [loopX] at hj
    split at hj
    · rename_i s₁ hs
      refine (hr _ _ _ _ _ hs).mono ?_
      rintro e' s'' ⟨rfl, rfl⟩
      exact ⟨j, Nat.lt_succ_self j, hj⟩
    · rename_i hne
      refine (hr _ _ _ _ _ hj).mono ?_
      rintro e' s'' ⟨rfl, rfl⟩
      cases e' with
      | normal => exact (hne _ hj).elim
      | exit id => exact ⟨rfl, rfl⟩
      | goto l => exact ⟨rfl, rfl⟩
      | ret => exact ⟨rfl, rfl⟩

theorem scopeX_sound (hr : RecOk P rec) {r : Option Nat} {c : Code} {m : Nat} {s : St} {e : AEx} {s' : St} (h : scopeX rec r c m c s = some (e, s')) : AWp P r (.scope c) (fun e' s'' => e' = e ∧ s'' = s') s := by
  have step : ∀ {m : Nat} {cur : Code} {s : St}, scopeX rec r c (m + 1) cur s = some (e, s') →
      AWp P r cur (jumpsA c (fun l s => ∃ rest, findLabel c l = some rest ∧ scopeX rec r c m rest s = some (e, s')) (fun e' s'' => e' = e ∧ s'' = s')) s := by
    intro m cur s h
    simp only [scopeX] at h
    split at h
    · rename_i l s₁ hs
      refine (hr _ _ _ _ _ hs).mono ?_
      rintro e' s'' ⟨rfl, rfl⟩
      simp only [jumpsA]
      split at h
      · rename_i rest hf
        rw [if_pos (by rw [hf]; rfl)]
        exact ⟨rest, hf, h⟩
      · rename_i hf
        rw [if_neg (by rw [hf]; simp)]
        simp only [Option.some.injEq, Prod.mk.injEq] at h
        exact ⟨h.1, h.2⟩
    · rename_i hne
      refine (hr _ _ _ _ _ h).mono ?_
      rintro e' s'' ⟨rfl, rfl⟩
      cases e' with
      | normal => exact ⟨rfl, rfl⟩
      | exit id => exact ⟨rfl, rfl⟩
      | goto l => exact (hne _ _ h).elim
      | ret => exact ⟨rfl, rfl⟩
  refine AWp.scope (fun j l s => ∃ rest, findLabel c l = some rest ∧ scopeX rec r c j rest s = some (e, s')) ?_ ?_
  · cases m with
    | zero => cases h
    | succ m =>
      refine (step h).mono fun e' s'' hq => ?_
      cases e' with
      | goto l =>
        simp only [jumpsA] at hq ⊢
        split at hq
        · rename_i hl; rw [if_pos hl]; exact ⟨m, hq⟩
        · rename_i hl; rw [if_neg hl]; exact hq
      | normal => exact hq
      | exit id => exact hq
      | ret => exact hq
  · rintro j l s rest hf ⟨rest', hf', hj⟩
    rw [hf] at hf'; cases hf'
    cases j with
    | zero => cases hj
    | succ j =>
      refine (step hj).mono fun e' s'' hq => ?_
      cases e' with
      | goto l =>
        simp only [jumpsA] at hq ⊢
        split at hq
        · rename_i hl; rw [if_pos hl]; exact ⟨j, Nat.lt_succ_self j, hq⟩
        · rename_i hl; rw [if_neg hl]; exact hq
      | normal => exact hq
      | exit id => exact hq
      | ret => exact hq

theorem endRangeX_sound (hr : RecOk P rec) {r : Option Nat} {l : Nat} {T : List AV} {M : List Nat} {H : AH} {v : AV} {e : AEx} {s' : St} (h : endRangeX rec r l T M H = some (e, s')) :
    rangeA P r l T M (fun e' s'' => e' = e ∧ s'' = s') v H := by
  unfold endRangeX at h
  split at h
  · rename_i st pe T' ps as bd d hg
    split at h
    · cases h
    · rename_i hb
      refine ⟨st, pe, T', ps, as, bd, d, hg, fun hb' => ?_, ?_⟩
      · subst hb'; exact hb rfl
      · cases pe with
        | none => simp only [Option.some.injEq, Prod.mk.injEq] at h ⊢; exact ⟨h.1, h.2⟩
        | some c => exact hr _ _ _ _ _ h
  · cases h

theorem rangeX_sound (hr : RecOk P rec) {r : Option Nat} {g : Operand} {ps : Array Tmp} {as bd : Code} {s : St} {e : AEx} {s' : St} (h : rangeX P X rec r g ps as bd s = some (e, s')) :
    AWp P r (.rangeFunc g ps as bd) (fun e' s'' => e' = e ∧ s'' = s') s := by
  unfold rangeX at h
  obtain ⟨gv, hg, h⟩ := Option.bind_eq_some_iff.1 h
  split at h
  · rename_i gf x y
    split at h
    · rename_i hgo
      obtain ⟨⟨v, H⟩, hc, h⟩ := Option.bind_eq_some_iff.1 h
      refine AWp.rangeFunc (goB_spec hgo) hg ((callX_go hr hgo hc).mono ?_)
      rintro v' H'' ⟨rfl, rfl⟩
      exact endRangeX_sound hr h
    · cases h
  · rename_i gf x y b₀
    split at h
    · rename_i st pe T' ps' as' bd' d₀ hb₀
      split at h
      · rename_i hgo
        obtain ⟨⟨v, H⟩, hc, h⟩ := Option.bind_eq_some_iff.1 h
        refine AWp.rangeFunc_in hb₀ (goB_spec hgo) hg ((callX_go hr hgo hc).mono ?_)
        rintro v' H'' ⟨rfl, rfl⟩
        exact endRangeX_sound hr h
      · cases h
    · cases h
  · cases h

theorem run_sound (hm : P.follows .mixedOrders = true) (hX : ExtOk P X) : ∀ n, RecOk P (run P X n)
  | 0 => fun r c s e s' h => by cases h
  | n + 1 => fun r c s e s' h => by
    have ih := run_sound hm hX n
    cases c with
    | skip => simp only [run, Option.some.injEq, Prod.mk.injEq] at h; exact AWp.skip ⟨h.1, h.2⟩
    | label l => simp only [run, Option.some.injEq, Prod.mk.injEq] at h; exact AWp.label ⟨h.1, h.2⟩
    | exit id => simp only [run, Option.some.injEq, Prod.mk.injEq] at h; exact AWp.exit ⟨h.1, h.2⟩
    | goto l => simp only [run, Option.some.injEq, Prod.mk.injEq] at h; exact AWp.goto ⟨h.1, h.2⟩
    | ret => simp only [run, Option.some.injEq, Prod.mk.injEq] at h; exact AWp.ret ⟨h.1, h.2⟩
    | refuse why => cases h
    | seq a b =>
      simp only [run] at h
      refine AWp.seq ?_
      split at h
      · rename_i s₁ hs
        refine (ih _ _ _ _ _ hs).mono ?_
        rintro e' s'' ⟨rfl, rfl⟩
        exact ih _ _ _ _ _ h
      · rename_i hne
        refine (ih _ _ _ _ _ h).mono ?_
        rintro e' s'' ⟨rfl, rfl⟩
        cases e' with
        | normal => exact (hne _ h).elim
        | exit id => exact ⟨rfl, rfl⟩
        | goto l => exact ⟨rfl, rfl⟩
        | ret => exact ⟨rfl, rfl⟩
    | cond c x y =>
      simp only [run] at h
      split at h
      · rename_i hc; exact AWp.cond hc (ih _ _ _ _ _ h)
      · rename_i hc; exact AWp.cond hc (ih _ _ _ _ _ h)
      · cases h
    | block id c =>
      simp only [run] at h
      obtain ⟨⟨e₁, s₁⟩, hs, h⟩ := Option.map_eq_some_iff.1 h
      refine AWp.block ((ih _ _ _ _ _ hs).mono ?_)
      rintro e' s'' ⟨rfl, rfl⟩
      simp only [Prod.mk.injEq] at h
      cases e' with
      | exit i =>
        simp only [inBlockX] at h
        simp only [inBlockA]
        split
        · rename_i hi; rw [if_pos hi] at h; exact ⟨h.1, h.2⟩
        · rename_i hi; rw [if_neg hi] at h; exact ⟨h.1, h.2⟩
      | normal => exact ⟨h.1, h.2⟩
      | goto l => exact ⟨h.1, h.2⟩
      | ret => exact ⟨h.1, h.2⟩
    | loop c => exact loopX_sound ih h
    | scope c => exact scopeX_sound ih h
    | region id ops draw =>
      cases draw with
      | false =>
        simp only [run] at h
        obtain ⟨⟨T, H⟩, hs, h⟩ := Option.map_eq_some_iff.1 h
        simp only [Prod.mk.injEq] at h
        obtain ⟨rfl, rfl⟩ := h
        exact AWp.region (opsX_sound ih hX hs ⟨rfl, rfl⟩)
      | true =>
        simp only [run] at h
        split at h
        · rename_i σ A hd
          obtain ⟨⟨T, H⟩, hs, h⟩ := Option.map_eq_some_iff.1 h
          simp only [Prod.mk.injEq] at h
          obtain ⟨rfl, rfl⟩ := h
          obtain ⟨cc, hd⟩ := drawOf_as hd
          unfold drawAs at hd
          simp only at hd
          split at hd
          · rename_i hg
            simp only [Option.some.injEq, Prod.mk.injEq] at hd
            obtain ⟨rfl, rfl⟩ := hd
            simp only [Bool.and_eq_true, decide_eq_true_eq] at hg
            obtain ⟨⟨⟨h1, h2⟩, h3⟩, h4⟩ := hg
            refine AWp.draw hm (ancB_spec h2) h1 h3 (drawX_sound ih hX ?_ (fun p hp => by cases hp) hs ⟨rfl, rfl⟩)
            intro p hp
            have := List.all_eq_true.1 h4 p hp
            simp only [Bool.or_eq_true, beq_iff_eq] at this
            refine this.imp (fun h => h) fun h o ho => ?_
            rw [ho] at h; exact h
          · cases hd
        · cases h
    | rangeFunc g ps as bd => exact rangeX_sound ih h

theorem runCall_sound (hm : P.follows .mixedOrders = true) (hX : ExtOk P X) {n : Nat} {f : FuncId} {args : List AV} {H : AH} {v : AV} {H' : AH} (hgo : goB P f = true) (h : runCall P X n f args H = some (v, H')) :
    ACall P f args H (fun v' H'' => v' = v ∧ H'' = H') := callX_go (run_sound hm hX n) hgo h

end
end Go.Am

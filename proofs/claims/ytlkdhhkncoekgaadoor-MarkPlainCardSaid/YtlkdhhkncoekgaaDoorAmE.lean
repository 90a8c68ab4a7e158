/- The abstract machine: operators, comparisons, slices. -/
import Derived.Test.YtlkdhhkncoekgaaDoorAmD
import Derived.Maps.Range
namespace Go.Am
open Go.RowKit

section
variable {P : Program} {E : Env} {B : Bnd} {H : AH} {w : World}

theorem ba_toList (s : List UInt8) : (⟨s.toArray⟩ : ByteArray).toList = s := by
  rw [ByteArray.toList_eq]

theorem ba_beq (u v : List UInt8) : ((⟨u.toArray⟩ : ByteArray) == ⟨v.toArray⟩) = true ↔ u = v := by
  show (u.toArray == v.toArray) = true ↔ _
  simp

theorem eqFields_sim {eq : TypeId → AV → AV → Option Bool} {eq' : TypeId → Value → Value → Sem Bool} (hq : ∀ t a b x y r, eq t a b = some r → VR E a x → VR E b y → (eq' t x y).run P w = .ok r w)
    {xs ys : List AV} {xs' ys' : Array Value} (hx : VRs E xs xs'.toList) (hy : VRs E ys ys'.toList) : ∀ {fs : List Field} {r : Bool}, eqFields P eq xs ys fs = some r →
    (do for f in fs do
          if f.name ≠ "_" then
            if !(← eq' f.type (← part f.type xs' f.offset) (← part f.type ys' f.offset)) then return false
        pure true : Sem Bool).run P w = .ok r w
  | [], r, h => by simp only [eqFields, Option.some.injEq] at h; subst h; simp
  | f :: fs, r, h => by
    simp only [eqFields] at h
    split at h
    · rename_i hn
      obtain ⟨a, ha, h⟩ := Option.bind_eq_some_iff.1 h
      obtain ⟨b, hb, h⟩ := Option.bind_eq_some_iff.1 h
      obtain ⟨q, hq1, h⟩ := Option.bind_eq_some_iff.1 h
      obtain ⟨x, hx1, hxv⟩ := run_part (w := w) ha hx
      obtain ⟨y, hy1, hyv⟩ := run_part (w := w) hb hy
      have hrun := hq _ _ _ _ _ _ hq1 hxv hyv
      cases q with
      | true =>
        have ih := eqFields_sim hq hx hy h
        simp only [List.forIn_cons, hn, ne_eq, not_false_eq_true, if_true, bind_assoc, Sem.run_bind, hx1, hy1, hrun, Result.andThen_ok] at ih ⊢
        simpa using ih
      | false =>
        cases h
        simp [List.forIn_cons, hn, hx1, hy1, hrun]
    · rename_i hn
      have ih := eqFields_sim hq hx hy h
      simp only [List.forIn_cons, hn, if_false, bind_assoc, Sem.run_bind] at ih ⊢
      simpa using ih

theorem eqElems_sim {eq : TypeId → AV → AV → Option Bool} {eq' : TypeId → Value → Value → Sem Bool} (hq : ∀ t a b x y r, eq t a b = some r → VR E a x → VR E b y → (eq' t x y).run P w = .ok r w)
    {xs ys : List AV} {xs' ys' : Array Value} (hx : VRs E xs xs'.toList) (hy : VRs E ys ys'.toList) {e : TypeId} {n : Nat} : ∀ {m i : Nat} {r : Bool}, eqElems P eq e xs ys n i m = some r →
    (do for i in List.range' i m do
          if !(← eq' e (← part e xs' (i * n)) (← part e ys' (i * n))) then return false
        pure true : Sem Bool).run P w = .ok r w
  | 0, i, r, h => by simp only [eqElems, Option.some.injEq] at h; subst h; simp
  | m + 1, i, r, h => by
    simp only [eqElems] at h
    obtain ⟨a, ha, h⟩ := Option.bind_eq_some_iff.1 h
    obtain ⟨b, hb, h⟩ := Option.bind_eq_some_iff.1 h
    obtain ⟨q, hq1, h⟩ := Option.bind_eq_some_iff.1 h
    obtain ⟨x, hx1, hxv⟩ := run_part (w := w) ha hx
    obtain ⟨y, hy1, hyv⟩ := run_part (w := w) hb hy
    have hrun := hq _ _ _ _ _ _ hq1 hxv hyv
    cases q with
    | true =>
      have ih := eqElems_sim hq hx hy h
      simp only [List.range'_succ, List.forIn_cons, bind_assoc, Sem.run_bind, hx1, hy1, hrun, Result.andThen_ok] at ih ⊢
      simpa using ih
    | false =>
      cases h
      simp [List.range'_succ, List.forIn_cons, hx1, hy1, hrun]

theorem run_equalIn : ∀ (d D : Nat) (t : TypeId) (a b : AV) (x y : Value) (r : Bool), d ≤ D → eqV P d t a b = some r → VR E a x → VR E b y → (Op.equalIn D t x y).run P w = .ok r w
  | 0, _, _, _, _, _, _, _, _, h, _, _ => by simp [eqV] at h
  | d + 1, 0, _, _, _, _, _, _, hd, _, _, _ => by omega
  | d + 1, D + 1, t, a, b, x, y, r, hd, h, hx, hy => by
    have ih := fun t a b x y r => run_equalIn d D t a b x y r (by omega)
    simp only [eqV] at h
    simp only [Op.equalIn]
    split at h
    · rename_i u v hu; cases h; obtain rfl : x = _ := hx; obtain rfl : y = _ := hy; simp [run_underlying hu]
    · rename_i k0 k u k' v hu
      split at h
      · rename_i hk; cases h; obtain rfl : x = _ := hx; obtain rfl : y = _ := hy; simp [run_underlying hu, hk]
      · cases h
    · rename_i u v hu; cases h; obtain rfl : x = _ := hx; obtain rfl : y = _ := hy
      simp only [Sem.run_bind, run_underlying hu, Result.andThen_ok, Sem.run_pure]
      congr 1
      rw [Bool.eq_iff_iff, ba_beq]; simp
    · rename_i e0 v hu; cases h; obtain rfl : x = _ := hx
      cases v with
      | none => obtain rfl : y = _ := hy; simp [run_underlying hu]
      | some p => obtain ⟨pb, po⟩ := p; obtain ⟨L, _, rfl⟩ := hy; simp [run_underlying hu]
    · rename_i e0 p hu; cases h; obtain ⟨pb, po⟩ := p; obtain ⟨L, _, rfl⟩ := hx; obtain rfl : y = _ := hy; simp [run_underlying hu]
    · rename_i e0 p q hu
      split at h
      · rename_i s hs
        split at h
        · rename_i hc
          obtain ⟨hc1, hc2⟩ := hc
          cases h
          obtain ⟨pb, po⟩ := p; obtain ⟨qb, qo⟩ := q
          simp only at hc1; subst hc1
          obtain ⟨L, hL, rfl⟩ := hx; obtain ⟨L', hL', rfl⟩ := hy
          rw [hL] at hL'; cases hL'
          simp only [Sem.run_bind, run_underlying hu, Result.andThen_ok, run_sizeOf' hs, ne_eq, hc2, not_false_eq_true, if_true, sameAddr, BEq.rfl, Sem.run_pure]
          congr 1
          rw [Bool.eq_iff_iff]; simp
        · cases h
      · cases h
    · rename_i ms hu; cases h; obtain rfl : x = _ := hx; obtain rfl : y = _ := hy; simp [run_underlying hu]
    · rename_i ms ty v hu; cases h; obtain rfl : x = _ := hx; obtain ⟨z, rfl, _⟩ := hy; simp [run_underlying hu]
    · rename_i ms ty v hu; cases h; obtain ⟨z, rfl, _⟩ := hx; obtain rfl : y = _ := hy; simp [run_underlying hu]
    · rename_i ms tx vx ty vy hu
      obtain ⟨z, rfl, hz⟩ := hx; obtain ⟨z', rfl, hz'⟩ := hy
      split at h
      · rename_i hne; cases h; simp [run_underlying hu, hne]
      · rename_i hne
        simp only [ne_eq, Decidable.not_not] at hne
        subst hne
        split at h
        · rename_i i hi
          split at h
          · rename_i hc
            have := ih _ _ _ _ _ _ h hz hz'
            simp [run_underlying hu, run_typeInfo' hi, hc, this]
          · cases h
        · cases h
    · rename_i fs xs ys hu
      obtain ⟨xs', rfl, hxs⟩ := hx; obtain ⟨ys', rfl, hys⟩ := hy
      split at h
      · cases h
      · rename_i hst
        have := eqFields_sim (eq' := Op.equalIn D) ih hxs hys h
        simp only [Sem.run_bind, run_underlying hu, Result.andThen_ok, run_program, hst]
        obtain ⟨fl⟩ := fs
        simpa using this
    · rename_i len e0 xs ys hu
      obtain ⟨xs', rfl, hxs⟩ := hx; obtain ⟨ys', rfl, hys⟩ := hy
      split at h
      · rename_i s hs
        have := eqElems_sim (eq' := Op.equalIn D) ih hxs hys h
        simp only [Sem.run_bind, run_underlying hu, Result.andThen_ok, run_sizeOf' hs]
        simpa [Std.Legacy.Range.forIn_eq_forIn_range'] using this
      · cases h
    · rename_i e0 l c v hl2 hc2 hu; cases h
      obtain ⟨rfl, _⟩ := hx
      cases v with
      | none => obtain ⟨rfl, _⟩ := hy; simp [run_underlying hu]
      | some p => obtain ⟨pb, po⟩ := p; obtain ⟨L, a', c', _, rfl, _⟩ := hy; simp [run_underlying hu]
    · rename_i e0 p l c l2 c2 hu; cases h
      obtain ⟨pb, po⟩ := p
      obtain ⟨L, a', c', _, rfl, _⟩ := hx; obtain ⟨rfl, _⟩ := hy
      simp [run_underlying hu]
    · rename_i hu; cases h; obtain rfl : x = _ := hx; obtain rfl : y = _ := hy; simp [run_underlying hu]
    · rename_i f0 a0 b0 hu; cases h; obtain rfl : x = _ := hx; obtain ⟨x', y', rfl, _⟩ := hy; simp [run_underlying hu]
    · rename_i f0 a0 b0 hu; cases h; obtain ⟨x', y', rfl, _⟩ := hx; obtain rfl : y = _ := hy; simp [run_underlying hu]
    · cases h

theorem bytesLt_eq : ∀ (a b : List UInt8), Op.bytesLess a b = bytesLt a b
  | _, [] => by simp [Op.bytesLess, bytesLt]
  | [], _ :: _ => by simp [Op.bytesLess, bytesLt]
  | a :: x, b :: y => by simp [Op.bytesLess, bytesLt, bytesLt_eq x y]

theorem run_intBin {op : BinOp} {k : IntKind} {a b : Int} {v : AV} (t : TypeId) (h : intBin op k a b = some v) : Got P E w v (binOp op t (.int k a) (.int k b)) := by
  cases op <;> simp only [intBin, Option.some.injEq, reduceCtorEq] at h
  case quo =>
    split at h
    · cases h
    · rename_i hb; cases h; refine ⟨_, ?_, rfl⟩; simp [binOp, Op.intDiv, hb]
  case rem =>
    split at h
    · cases h
    · rename_i hb; cases h; refine ⟨_, ?_, rfl⟩; simp [binOp, Op.intDiv, hb]
  all_goals (subst h; refine ⟨_, ?_, rfl⟩; simp [binOp, Op.intArith, Op.intBits, Op.intCmp])

theorem run_strBin {op : BinOp} {a b : List UInt8} {v : AV} (t : TypeId) (h : strBin op a b = some v) : Got P E w v (binOp op t (.string ⟨a.toArray⟩) (.string ⟨b.toArray⟩)) := by
  cases op <;> simp only [strBin, Option.some.injEq, reduceCtorEq] at h
  case add =>
    split at h
    · cases h
    · rename_i hb
      cases h
      have hsz : ∀ l : List UInt8, (⟨l.toArray⟩ : ByteArray).size = l.length := fun l => rfl
      refine ⟨.string (⟨a.toArray⟩ ++ ⟨b.toArray⟩), ?_, ?_⟩
      · simp only [binOp, Op.stringOp, hsz]
        rw [if_neg hb]; rfl
      · show _ = _
        congr 1
  all_goals (subst h; refine ⟨_, rfl, ?_⟩; simp [VR, bytesLt_eq])

theorem run_eqGuard {op : BinOp} {t : TypeId} {xo yo : Operand} {a b : AV} {x y : Value} (h : eqGuardOk P t xo yo a b = true) (hx : VR E a x) (hy : VR E b y) : (eqGuard op t xo yo x y).run P w = .ok () w := by
  cases op <;> first | rfl | skip
  all_goals
    unfold eqGuard
    simp only [Bool.not_true, Bool.false_eq_true, if_false]
    split
    · match a, b, hx, hy, h with
      | .nilIface, .nilIface, _, _, h => cases xo <;> cases yo <;> first | rfl | (exact absurd h (by simp [eqGuardOk, isConstOp]))
      | .any, _, _, _, h => simp [eqGuardOk] at h
      | .nilIface, .any, _, _, h => simp [eqGuardOk] at h
      | .agg _, _, hx, _, _ => obtain ⟨_, e, _⟩ := hx; cases e
    · match a, b, hx, hy, h with
      | .agg _, .agg _, _, _, h =>
        have h' : P.eqGuardType P.depth t = false := by simpa [eqGuardOk] using h
        simp [h']
      | .any, _, _, _, h => simp [eqGuardOk] at h
      | .agg _, .any, _, _, h => simp [eqGuardOk] at h
    · rfl

theorem eqV_int {d : Nat} {t : TypeId} {k : IntKind} {n : Int} {b : AV} {r : Bool} (h : eqV P d t (.int k n) b = some r) : ∃ k' m, b = .int k' m := by
  cases d with
  | zero => simp [eqV] at h
  | succ d => simp only [eqV] at h; split at h <;> simp_all

theorem eqV_str {d : Nat} {t : TypeId} {s : List UInt8} {b : AV} {r : Bool} (h : eqV P d t (.str s) b = some r) : ∃ u, b = .str u := by
  cases d with
  | zero => simp [eqV] at h
  | succ d => simp only [eqV] at h; split at h <;> simp_all

theorem eqV_any {d : Nat} {t : TypeId} {b : AV} {r : Bool} (h : eqV P d t .any b = some r) : False := by
  cases d with
  | zero => simp [eqV] at h
  | succ d => simp only [eqV] at h; split at h <;> simp_all

/-- '==' on what is neither a number nor a string. -/
theorem binOp_equal {t : TypeId} {d : Nat} {a b : AV} {x y : Value} {r : Bool} (hr : eqV P d t a b = some r) (hx : VR E a x) (h1 : ∀ k n k' m, a = .int k n → b = .int k' m → False) (h2 : ∀ s u, a = .str s → b = .str u → False) :
    binOp .eql t x y = (do pure (.bool (← Op.equal t x y))) ∧ binOp .neq t x y = (do pure (.bool (!(← Op.equal t x y)))) := by
  match a, hx with
  | .int k n, _ => obtain ⟨k', m, rfl⟩ := eqV_int hr; exact (h1 _ _ _ _ rfl rfl).elim
  | .str s, _ => obtain ⟨u, rfl⟩ := eqV_str hr; exact (h2 _ _ rfl rfl).elim
  | .any, _ => exact (eqV_any hr).elim
  | .bool u, hx => obtain rfl : x = _ := hx; exact ⟨by simp [binOp], by simp [binOp]⟩
  | .ptr none, hx => obtain rfl : x = _ := hx; exact ⟨by simp [binOp], by simp [binOp]⟩
  | .ptr (some (p, o)), hx => obtain ⟨L, _, rfl⟩ := hx; exact ⟨by simp [binOp], by simp [binOp]⟩
  | .slice none l c, hx => obtain ⟨rfl, _⟩ := hx; exact ⟨by simp [binOp], by simp [binOp]⟩
  | .slice (some (p, o)) l c, hx => obtain ⟨L, a', c', _, rfl, _⟩ := hx; exact ⟨by simp [binOp], by simp [binOp]⟩
  | .func f u v, hx => obtain ⟨u', v', rfl, _⟩ := hx; exact ⟨by simp [binOp], by simp [binOp]⟩
  | .nilFunc, hx => obtain rfl : x = _ := hx; exact ⟨by simp [binOp], by simp [binOp]⟩
  | .yld b, hx => obtain ⟨L, _, rfl⟩ := hx; exact ⟨by simp [binOp], by simp [binOp]⟩
  | .iface u v, hx => obtain ⟨z, rfl, _⟩ := hx; exact ⟨by simp [binOp], by simp [binOp]⟩
  | .nilIface, hx => obtain rfl : x = _ := hx; exact ⟨by simp [binOp], by simp [binOp]⟩
  | .agg cs, hx => obtain ⟨z, rfl, _⟩ := hx; exact ⟨by simp [binOp], by simp [binOp]⟩
  | .tuple cs, hx => obtain ⟨z, rfl, _⟩ := hx; exact ⟨by simp [binOp], by simp [binOp]⟩

theorem run_binV {op : BinOp} {t : TypeId} {xo yo : Operand} {a b v : AV} {x y : Value} (h : binV P op t xo yo a b = some v) (hx : VR E a x) (hy : VR E b y) :
    Got P E w v (do eqGuard op t xo yo x y; binOp op t x y) := by
  unfold binV at h
  split at h
  · rename_i k n k' m
    obtain rfl : x = _ := hx; obtain rfl : y = _ := hy
    split at h
    · cases h
    · rename_i hm; cases h
      refine ⟨_, ?_, rfl⟩
      have : (eqGuard .shl t xo yo (.int k n) (.int k' m)).run P w = .ok () w := rfl
      simp [this, binOp, Op.shift, hm]
  · rename_i k n k' m
    obtain rfl : x = _ := hx; obtain rfl : y = _ := hy
    split at h
    · cases h
    · rename_i hm; cases h
      refine ⟨_, ?_, rfl⟩
      have : (eqGuard .shr t xo yo (.int k n) (.int k' m)).run P w = .ok () w := rfl
      simp [this, binOp, Op.shift, hm]
  · rename_i k n k' m h1 h2
    obtain rfl : x = _ := hx; obtain rfl : y = _ := hy
    split at h
    · rename_i hk; subst hk
      obtain ⟨z, hz, hv⟩ := run_intBin (P := P) (E := E) (w := w) t h
      have : (eqGuard op t xo yo (.int k n) (.int k m)).run P w = .ok () w := by cases op <;> rfl
      exact ⟨z, by simp [this, hz], hv⟩
    · cases h
  · rename_i s u
    obtain rfl : x = _ := hx; obtain rfl : y = _ := hy
    obtain ⟨z, hz, hv⟩ := run_strBin (P := P) (E := E) (w := w) t h
    have : (eqGuard op t xo yo (.string ⟨s.toArray⟩) (.string ⟨u.toArray⟩)).run P w = .ok () w := by cases op <;> rfl
    exact ⟨z, by simp [this, hz], hv⟩
  · rename_i h1 h2
    split at h
    · rename_i hg
      obtain ⟨r, hr, rfl⟩ := Option.map_eq_some_iff.1 h
      have hge := run_eqGuard (w := w) (op := .eql) hg hx hy
      have heq : (Op.equal t x y).run P w = .ok r w := run_equalIn 8 Op.maxDepth t a b x y r (by decide) hr hx hy
      refine ⟨.bool r, ?_, rfl⟩
      have hb := (binOp_equal (y := y) hr hx (fun k n k' m e e' => h1 k n k' m e e') (fun s u e e' => h2 s u e e')).1
      simp [hge, hb, heq]
    · cases h
  · rename_i h1 h2
    split at h
    · rename_i hg
      obtain ⟨r, hr, rfl⟩ := Option.map_eq_some_iff.1 h
      have hge := run_eqGuard (w := w) (op := .neq) hg hx hy
      have heq : (Op.equal t x y).run P w = .ok r w := run_equalIn 8 Op.maxDepth t a b x y r (by decide) hr hx hy
      refine ⟨.bool (!r), ?_, rfl⟩
      have hb := (binOp_equal (y := y) hr hx (fun k n k' m e e' => h1 k n k' m e e') (fun s u e e' => h2 s u e e')).2
      simp [hge, hb, heq]
    · cases h
  · cases h

end
end Go.Am

/- What an operation asks: it is enough. -/
import Derived.Test.YtlkdhhkncoekgaaDoorAmT
namespace Go.Am
open Go.RowKit

/-- A function value is called. -/
def ACfn (P : Program) (r : Option Nat) (fv : AV) (vs : List AV) (H : AH) (K : AV → AH → Prop) : Prop :=
  ∀ (dst : Option Tmp) (f : Operand) (xs : Array Operand) (ts : Array TypeId) (ty : TypeId) (pos : String) (after : Array Edge) (guard : Option (Nat × Bool)) (T : List AV),
    ev P T f = some fv → evs P T xs.toList = some vs → AOp P r ⟨dst, .call { callee := .value f, args := xs, argTypes := ts }, ty, pos, after, guard⟩ T H K

def bytesAt (H : AH) : AV → Option (List UInt8)
  | .slice none _ _ => some []
  | .slice (some (b, o)) len _ => (H.read b o len).bind bytesOfCells
  | _ => none

def real (P : Program) (r : Option Nat) : Atoms where
  wrap := IntKind.wrap
  call := ACallee P
  yld := fun b => ACfn P r (.yld b)
  cfn := ACfn P r
  n := AH.n
  get := AH.get
  set := AH.set
  al := AH.alloc
  rd1 := AH.read1
  rdn := AH.read
  wr := AH.write
  app := fun t u x y H => appendV P H t u x y
  cpy := fun t x y H => copyV P H t x y
  mks := fun t l c H => makeSliceV P H t (.int .i64 l) (.int .i64 c)
  slc := fun t x lo hi mx H => sliceV P H t x lo hi mx
  str := fun v H => bytesAt H v
  bs := fun s d x H => convV P H s d (.str x)
  idx := indexV P
  caps := fun t x H => capV P H t x
  ustr := fun t p n H => unsafeStringV P H t p n
  tm := takeMarks
  cvs := fun s d x H => convV P H s d x

section
variable {P : Program} {r : Option Nat} {φ : Option Bool} {H : AH}

/-- What comes of it: a value; the heap as it was, if it was done under a condition. -/
def Comes (φ : Option Bool) (x : Option AV) (K : AV → Prop) : Prop := ∃ v, (φ.getD true = true → x = some v) ∧ K v

theorem Comes.same {x y : Option AV} {K : AV → Prop} (h : Comes φ x K) (e : φ.getD true = true → x = y) : Comes φ y K := by
  obtain ⟨v, h1, h2⟩ := h
  exact ⟨v, fun hp => by rw [← e hp]; exact h1 hp, h2⟩

theorem intK_ok {op : BinOp} {k : IntKind} {a b : Int} {K : AV → Prop} (h : intK (real P r) φ op k a b K) : Comes φ (intBin op k a b) K := by
  cases op <;> simp only [intK] at h
  case quo => exact ⟨_, fun hp => by simp only [intBin]; rw [if_neg (imp_of h.1 hp)]; rfl, h.2⟩
  case rem => exact ⟨_, fun hp => by simp only [intBin]; rw [if_neg (imp_of h.1 hp)], h.2⟩
  all_goals exact ⟨_, fun _ => rfl, h⟩

theorem strK_ok {op : BinOp} {a b : List UInt8} {K : AV → Prop} (h : strK φ op a b K) : Comes φ (strBin op a b) K := by
  cases op <;> simp only [strK] at h
  case add => exact ⟨_, fun hp => by simp only [strBin]; rw [if_neg (by have := imp_of h.1 hp; show ¬ (_ > (9223372036854775807 : Int)); omega)], h.2⟩
  all_goals exact ⟨_, fun _ => rfl, h⟩

theorem bool_if {b : Bool} {p : Prop} (h : bif b then p else False) : b = true ∧ p := by
  cases b with
  | true => exact ⟨rfl, h⟩
  | false => exact h.elim

theorem binK_ok {op : BinOp} {t : TypeId} {xo yo : Operand} {x y : AV} {K : AV → Prop} (h : binK (real P r) P φ op t xo yo x y K) : Comes φ (binV P op t xo yo x y) K := by
  unfold binK at h
  split at h
  · rename_i k a kb b
    refine ⟨_, fun hp => ?_, h.2⟩
    have := imp_of h.1 hp
    simp only [binV]; rw [if_neg (by omega)]; rfl
  · rename_i k a kb b
    refine ⟨_, fun hp => ?_, h.2⟩
    have := imp_of h.1 hp
    simp only [binV]; rw [if_neg (by omega)]
  · rename_i op k a kb b hn1 hn2
    split at h
    · rename_i hk
      refine (intK_ok h).same fun _ => ?_
      subst hk
      cases op <;> first | (simp only [binV, if_true]; done) | (simp only [intBin] at *; simp_all [intK])
    · exact h.elim
  · rename_i a b
    refine (strK_ok h).same fun _ => ?_
    cases op <;> first | rfl | (simp only [strK] at h)
  · rename_i hn1 hn2
    obtain ⟨h1, h2⟩ := bool_if h
    obtain ⟨v, hv, hk⟩ := vK_iff h2
    obtain ⟨q, hq, rfl⟩ := Option.map_eq_some_iff.1 hv
    refine ⟨_, fun _ => ?_, hk⟩
    have : binV P .eql t xo yo x y = if eqGuardOk P t xo yo x y then (eqV P 8 t x y).map .bool else none := by
      unfold binV
      cases x <;> cases y <;> first | rfl | exact (hn1 _ _ _ _ rfl rfl).elim | exact (hn2 _ _ rfl rfl).elim
    rw [this, if_pos h1, eqS_ok _ hq]; rfl
  · rename_i hn1 hn2
    obtain ⟨h1, h2⟩ := bool_if h
    obtain ⟨v, hv, hk⟩ := vK_iff h2
    obtain ⟨q, hq, rfl⟩ := Option.map_eq_some_iff.1 hv
    refine ⟨_, fun _ => ?_, hk⟩
    have : binV P .neq t xo yo x y = if eqGuardOk P t xo yo x y then (eqV P 8 t x y).map (fun r => .bool (!r)) else none := by
      unfold binV
      cases x <;> cases y <;> first | rfl | exact (hn1 _ _ _ _ rfl rfl).elim | exact (hn2 _ _ rfl rfl).elim
    rw [this, if_pos h1, eqS_ok _ hq]; rfl
  · exact h.elim

theorem unK_ok {op : UnOp} {x : AV} {K : AV → Prop} (h : unK (real P r) op x K) : Comes φ (unV op x) K := by
  unfold unK at h
  split at h
  · exact ⟨_, fun _ => rfl, h⟩
  · exact ⟨_, fun _ => rfl, h⟩
  · exact ⟨_, fun _ => rfl, h⟩
  · exact h.elim

theorem boundK_iff {d : Nat} {v : Option AV} {k : Int → Prop} (h : boundK d v k) : ∃ i, k i ∧ (0 ≤ i → idxV d v = some i.toNat) := by
  unfold boundK at h
  split at h
  · exact ⟨_, h, fun _ => by simp [idxV]⟩
  · exact ⟨_, h, fun h0 => by simp [idxV, h0]⟩
  · exact h.elim

theorem sliceK_ok {t : TypeId} {x : AV} {lo hi mx : Option AV} {K : AV → Prop} (h : sliceK (real P r) P φ H t x lo hi mx K) : Comes φ (sliceV P H t x lo hi mx) K := by
  unfold sliceK at h
  split at h
  · rename_i s hu
    split at h
    · exact h.elim
    · obtain ⟨l, h, hl⟩ := boundK_iff (d := 0) h
      obtain ⟨u, h, hh⟩ := boundK_iff (d := s.length) h
      refine ⟨_, fun hp => ?_, h.2⟩
      obtain ⟨g1, g2, g3⟩ := imp_of h.1 hp
      unfold sliceV
      simp only [hu, Option.isSome_none, Bool.false_eq_true, if_false]
      rw [hl g1, Option.bind_some, hh (by omega), Option.bind_some, if_pos (by omega)]
      rw [show u.toNat - l.toNat = (u - l).toNat by omega]
  · obtain ⟨a, l, c, h1, h2⟩ := h
    exact ⟨_, fun hp => imp_of h1 hp, h2⟩

theorem lenK_ok {t : TypeId} {x : AV} {K : AV → Prop} (h : lenK P t x K) : Comes φ (lenV P t x) K := by
  unfold lenK at h
  split at h
  · rename_i hu; exact ⟨_, fun _ => by simp only [lenV, hu], h⟩
  · rename_i hu; exact ⟨_, fun _ => by simp only [lenV, hu], h⟩
  · rename_i hu; exact ⟨_, fun _ => by simp only [lenV, hu], h⟩
  · rename_i hu
    split at h
    · rename_i hu2; exact ⟨_, fun _ => by simp only [lenV, hu, hu2], h⟩
    · exact h.elim
  · exact h.elim

theorem loadK_ok {t : TypeId} {a : AV} {K : AV → Prop} (h : loadK (real P r) P φ H t a K) : Comes φ (loadV P H t a) K := by
  unfold loadK at h
  split at h
  · rename_i b o
    split at h
    · rename_i ha
      split at h
      · rename_i s hs
        obtain ⟨cs, h1, h2⟩ := exCells_iff h
        refine ⟨_, fun hp => ?_, h2⟩
        have := imp_of h1 hp
        simp only [loadV, ha, hs, Option.bind_some]
        rw [show AH.read H b o s = some cs from this]; rfl
      · exact h.elim
    · rename_i ha
      obtain ⟨v, h1, h2⟩ := exS1_iff h
      refine ⟨_, fun hp => ?_, h2⟩
      have := imp_of h1 hp
      simp only [loadV, ha]; exact this
    · exact h.elim
  · exact h.elim

theorem indexAddrK_ok {t : TypeId} {x ix : AV} {K : AV → Prop} (h : indexAddrK P φ t x ix K) : Comes φ (indexAddrV P t x ix) K := by
  unfold indexAddrK at h
  split at h
  · rename_i e a len c kd i hu
    split at h
    · rename_i s hs
      obtain ⟨b, o, h1, h2⟩ := h
      refine ⟨_, fun hp => ?_, h2⟩
      obtain ⟨rfl, g1, g2⟩ := imp_of h1 hp
      simp only [indexAddrV, hu, hs]; rw [if_pos ⟨g1, g2⟩]
    · exact h.elim
  · rename_i len e b o kd i hu
    split at h
    · rename_i s hs
      refine ⟨_, fun hp => ?_, h.2⟩
      simp only [indexAddrV, hu, hs]; rw [if_pos (imp_of h.1 hp)]
    · exact h.elim
  · exact h.elim

theorem indexK_ok {ty t : TypeId} {x ix : AV} {K : AV → Prop} (h : indexK (real P r) P φ ty t x ix K) : Comes φ (indexV P t x ix) K := by
  unfold indexK at h
  split at h
  · rename_i s kd i hu
    refine ⟨_, fun hp => ?_, h.2⟩
    obtain ⟨g1, g2⟩ := imp_of h.1 hp
    simp only [indexV, hu]
    rw [if_pos g1]
    have : i.toNat < s.length := by omega
    rw [List.getElem?_eq_getElem this]
    simp
  · obtain ⟨v, h1, h2⟩ := exV_iff h
    exact ⟨_, fun hp => imp_of h1 hp, h2⟩

theorem minK_ok {K : AV → Prop} : ∀ {l : List AV} {x : AV}, minK K x l → Comes φ (minMaxV (fun y x => decide (y < x)) x l) K
  | [], .int k x, h => ⟨_, fun _ => rfl, h⟩
  | .int k' y :: l, .int k x, h => by
    have := minK_ok (l := l) (x := .int k (if y < x then y else x)) h
    refine this.same fun _ => ?_
    simp only [minMaxV, decide_eq_true_eq]
  | .bool _ :: _, .int _ _, h | .str _ :: _, .int _ _, h | .ptr _ :: _, .int _ _, h | .slice _ _ _ :: _, .int _ _, h | .func _ _ _ :: _, .int _ _, h | .nilFunc :: _, .int _ _, h
  | .yld _ :: _, .int _ _, h | .iface _ _ :: _, .int _ _, h | .nilIface :: _, .int _ _, h | .agg _ :: _, .int _ _, h | .tuple _ :: _, .int _ _, h | .any :: _, .int _ _, h => h.elim
  | _, .bool _, h | _, .str _, h | _, .ptr _, h | _, .slice _ _ _, h | _, .func _ _ _, h | _, .nilFunc, h | _, .yld _, h | _, .iface _ _, h | _, .nilIface, h | _, .agg _, h | _, .tuple _, h | _, .any, h => by
    simp [minK] at h

theorem maxK_ok {K : AV → Prop} : ∀ {l : List AV} {x : AV}, maxK K x l → Comes φ (minMaxV (fun y x => decide (y > x)) x l) K
  | [], .int k x, h => ⟨_, fun _ => rfl, h⟩
  | .int k' y :: l, .int k x, h => by
    have := maxK_ok (l := l) (x := .int k (if y > x then y else x)) h
    refine this.same fun _ => ?_
    simp only [minMaxV, decide_eq_true_eq]
  | .bool _ :: _, .int _ _, h | .str _ :: _, .int _ _, h | .ptr _ :: _, .int _ _, h | .slice _ _ _ :: _, .int _ _, h | .func _ _ _ :: _, .int _ _, h | .nilFunc :: _, .int _ _, h
  | .yld _ :: _, .int _ _, h | .iface _ _ :: _, .int _ _, h | .nilIface :: _, .int _ _, h | .agg _ :: _, .int _ _, h | .tuple _ :: _, .int _ _, h | .any :: _, .int _ _, h => h.elim
  | _, .bool _, h | _, .str _, h | _, .ptr _, h | _, .slice _ _ _, h | _, .func _ _ _, h | _, .nilFunc, h | _, .yld _, h | _, .iface _ _, h | _, .nilIface, h | _, .agg _, h | _, .tuple _, h | _, .any, h => by
    simp [maxK] at h

/-- What comes of it, with the heap. -/
def ComesH (φ : Option Bool) (H : AH) (x : Option (AV × AH)) (K : AV → AH → Prop) : Prop := ∃ v H', (φ.getD true = true → x = some (v, H')) ∧ (φ ≠ none → H' = H) ∧ K v H'

theorem Comes.heap {x : Option AV} {K : AV → AH → Prop} (h : Comes φ x fun v => K v H) : ComesH φ H (x.map (·, H)) K := by
  obtain ⟨v, h1, h2⟩ := h
  exact ⟨v, H, fun hp => by rw [h1 hp]; rfl, fun _ => rfl, h2⟩
theorem ComesH.none {x : Option (AV × AH)} {K : AV → AH → Prop} {v : AV} {H' : AH} (h : x = some (v, H')) (k : K v H') : ComesH none H x K := ⟨v, H', fun _ => h, fun h => absurd rfl h, k⟩
theorem ComesH.still {x : Option (AV × AH)} {K : AV → AH → Prop} {v : AV} (h : x = some (v, H)) (k : K v H) : ComesH φ H x K := ⟨v, H, fun _ => h, fun _ => rfl, k⟩
theorem ComesH.same {x y : Option (AV × AH)} {K : AV → AH → Prop} (h : ComesH φ H x K) (e : φ.getD true = true → x = y) : ComesH φ H y K := by
  obtain ⟨v, H', h1, h2, h3⟩ := h
  exact ⟨v, H', fun hp => by rw [← e hp]; exact h1 hp, h2, h3⟩

theorem convK_ok {s d : TypeId} {x : AV} {K : AV → AH → Prop} (h : convK (real P r) P φ H s d x K) : ComesH φ H (convV P H s d x) K := by
  unfold convK at h
  split at h
  · rename_i hs hd; exact ComesH.still (by simp only [convV, hs, hd]; rfl) h
  · rename_i hs hd; exact ComesH.still (by simp only [convV, hs, hd]) h
  · rename_i hs hd; exact ComesH.still (by simp only [convV, hs, hd]) h
  · split at h
    · obtain ⟨a, l, c, H', h1, h2⟩ := h
      exact ComesH.none h1 h2
    · exact h.elim
  · rename_i e a l c hs hd
    split at h
    · rename_i he
      obtain ⟨s, h1, h2⟩ := h
      refine ⟨_, _, fun hp => ?_, fun _ => rfl, h2⟩
      have := imp_of h1 hp
      cases a with
      | none =>
        simp only [real, bytesAt, Option.some.injEq] at this
        subst this
        simp only [convV, hs, hd, he]
      | some q =>
        obtain ⟨b, o⟩ := q
        simp only [real, bytesAt] at this
        obtain ⟨cs, hc, hb⟩ := Option.bind_eq_some_iff.1 this
        simp only [convV, hs, hd, he, hc, Option.bind_some, hb, Option.map_some]
    · exact h.elim
  · split at h
    · obtain ⟨H', h1, h2⟩ := h
      exact ComesH.none h1 h2
    · exact h.elim
  · exact h.elim

theorem builtinK_ok {b : Builtin} {ts : List TypeId} {xs : List AV} {K : AV → AH → Prop} (h : builtinK (real P r) P φ H b ts xs K) : ComesH φ H (builtinV P H b ts xs) K := by
  unfold builtinK at h
  split at h
  · exact (lenK_ok h).heap
  · obtain ⟨v, h1, h2⟩ := exS1_iff h
    exact Comes.heap ⟨v, fun hp => imp_of h1 hp, h2⟩
  · exact (minK_ok h).heap
  · exact (maxK_ok h).heap
  · split at h
    · obtain ⟨a, l, c, H', h1, h2⟩ := h; exact ComesH.none h1 h2
    · exact h.elim
  · split at h
    · obtain ⟨n, H', h1, h2⟩ := h; exact ComesH.none h1 h2
    · exact h.elim
  · rename_i ts a l c
    obtain ⟨q, h1, h2⟩ := h
    refine ⟨_, _, fun hp => ?_, fun _ => rfl, h2⟩
    obtain ⟨g1, rfl⟩ := imp_of h1 hp
    cases ts <;> simp [builtinV, g1]
  · split at h
    · obtain ⟨s, H', h1, h2⟩ := h; exact ComesH.none h1 h2
    · exact h.elim
  · exact h.elim

theorem opK_ok {e : Operand → Option AV} {op : Op} {ty : TypeId} {K : AV → AH → Prop} (h : opK (real P r) P φ e H op ty K) : ComesH φ H (opE P e H op) K := by
  unfold opK at h
  split at h
  · obtain ⟨v, hv, h⟩ := vK_iff h; exact ComesH.still (by simp [opE, oMove, hv]) h
  · obtain ⟨v, hv, h⟩ := vK_iff h; exact ComesH.still (by simp [opE, oMove, hv]) h
  · obtain ⟨c', hc, h⟩ := vK_iff h
    split at h
    · rename_i u
      cases u with
      | true => obtain ⟨v, hv, h⟩ := vK_iff (show vK _ _ from h); exact ComesH.still (by simp [opE, oPick, hc, hv]) h
      | false => obtain ⟨v, hv, h⟩ := vK_iff (show vK _ _ from h); exact ComesH.still (by simp [opE, oPick, hc, hv]) h
    · exact h.elim
  · split at h
    · rename_i z hz
      obtain ⟨h1, h2⟩ := bool_if h
      exact ComesH.none (by simp only [opE, oAlloc, hz, Option.bind_some]; rw [if_pos h1]; rfl) h2
    · exact h.elim
  · split at h
    · obtain ⟨v, hv, h1, h2⟩ := vK_iff h
      exact ComesH.none (by simp only [opE, oBox, hv, Option.bind_some]; rw [if_pos h1]; rfl) h2
    · exact h.elim
  · split at h
    · rename_i l hl
      obtain ⟨v, hv, h⟩ := vK_iff h
      exact ComesH.still (by simp [opE, oBuild, hl, hv]) h
    · exact h.elim
  · split at h
    · rename_i l el hl hu
      split at h
      · rename_i s z hs hz
        split at h
        · rename_i cs hf
          exact ComesH.none (by simp only [opE, oBuildSlice, hl, Option.bind_some, buildSliceV, hu, hs, hz]; rw [if_pos h.1, hf]; rfl) h.2
        · exact h.elim
      · exact h.elim
    · exact h.elim
  · obtain ⟨a, ha, h⟩ := vK_iff h
    exact (loadK_ok h).heap.same fun _ => by simp [opE, oLoad, ha]
  · split at h
    · obtain ⟨a, ha, h⟩ := vK_iff h
      obtain ⟨v, hv, h⟩ := vK_iff h
      split at h
      · rename_i b o s hs hold
        obtain ⟨h1, H', h2, h3⟩ := h
        exact ComesH.none (by simp only [opE, oStore, ha, hv, Option.bind_some, storeV]; rw [if_pos (by rw [hs, h1]), show AH.write H b o v.cells = some H' from h2]; rfl) h3
      · exact h.elim
    · exact h.elim
  · obtain ⟨v, hv, h⟩ := vK_iff h
    split at h
    · exact ComesH.still (by simp [opE, oNil, hv]) h
    · exact ComesH.still (by simp [opE, oNil, hv]) h
    · exact ComesH.still (by simp [opE, oNil, hv]) h
    · exact h.elim
  · obtain ⟨a, ha, h⟩ := vK_iff h
    obtain ⟨b, hb, h⟩ := vK_iff h
    exact (binK_ok h).heap.same fun _ => by simp [opE, oBin, ha, hb]
  · obtain ⟨a, ha, h⟩ := vK_iff h
    exact (unK_ok h).heap.same fun _ => by simp [opE, oUn, ha]
  · obtain ⟨a, ha, h⟩ := vK_iff h
    exact (convK_ok h).same fun _ => by simp [opE, oConv, ha]
  · obtain ⟨a, ha, h⟩ := vK_iff h
    split at h
    · exact h.elim
    · rename_i d hni hu
      refine ComesH.still ?_ h
      simp only [opE, oIface, ha, Option.bind_some, hu]
    · exact h.elim
  · obtain ⟨a, ha, h⟩ := evsK_iff h
    obtain ⟨b, hb, h⟩ := evsK_iff h
    exact ComesH.still (by simp [opE, oFunc, ha, hb]) h
  · split at h
    · obtain ⟨a, ha, h⟩ := vK_iff h
      obtain ⟨b, hb, h⟩ := vK_iff h
      split at h
      · obtain ⟨q, n, m, H', h1, h2⟩ := h
        exact ComesH.none (by simp only [opE, oMkSlice, ha, hb, Option.bind_some]; exact h1) h2
      · exact h.elim
    · exact h.elim
  · obtain ⟨a, ha, h⟩ := vK_iff h
    split at h
    · rename_i lo hi mx hlo hhi hmx
      exact (sliceK_ok h).heap.same fun _ => by simp [opE, oSlice, ha, hlo, hhi, hmx]
    · exact h.elim
  · obtain ⟨a, ha, h⟩ := vK_iff h
    obtain ⟨v, hv, h⟩ := vK_iff h
    exact ComesH.still (by simp [opE, oFieldAddr, ha, hv]) h
  · obtain ⟨a, ha, h⟩ := vK_iff h
    obtain ⟨v, hv, h⟩ := vK_iff h
    exact ComesH.still (by simp [opE, oField, ha, hv]) h
  · obtain ⟨a, ha, h⟩ := vK_iff h
    obtain ⟨b, hb, h⟩ := vK_iff h
    exact (indexAddrK_ok h).heap.same fun _ => by simp [opE, oIndexAddr, ha, hb]
  · obtain ⟨a, ha, h⟩ := vK_iff h
    obtain ⟨b, hb, h⟩ := vK_iff h
    exact (indexK_ok h).heap.same fun _ => by simp [opE, oIndex, ha, hb]
  · split at h
    · obtain ⟨a, ha, h⟩ := vK_iff h
      split at h
      · rename_i s hu
        exact ComesH.none (by simp only [opE, oRange, ha, Option.bind_some, hu]; rfl) h
      · exact h.elim
    · exact h.elim
  · split at h
    · obtain ⟨a, ha, h⟩ := vK_iff h
      split at h
      · rename_i b
        obtain ⟨s, pos, h1, h2, h3⟩ := h
        have hg : AH.get H b = some (.iter s pos) := h1
        by_cases hp : pos < s.length
        · exact ComesH.none (by simp only [opE, oNext, ha, Option.bind_some, hg]; rw [if_pos hp]; rfl) (h2 hp)
        · exact ComesH.none (by simp only [opE, oNext, ha, Option.bind_some, hg]; rw [if_neg hp]) (h3 hp)
      · exact h.elim
    · exact h.elim
  · obtain ⟨a, ha, h⟩ := vK_iff h
    split at h
    · obtain ⟨v, hv, h⟩ := vK_iff h
      exact ComesH.still (by simp [opE, oExtract, ha, hv]) h
    · exact h.elim
  · obtain ⟨l, hl, h⟩ := evsK_iff h
    exact (builtinK_ok h).same fun _ => by simp [opE, oBuiltin, hl]
  · exact h.elim

end
end Go.Am

/- The abstract machine: each operation does in the model what it does here (no heap turned). -/
import Derived.Test.YtlkdhhkncoekgaaDoorAmC
namespace Go.Am
open Go.RowKit

section
variable {P : Program} {E : Env} {B : Bnd} {H : AH} {w : World}

/-- A value that is read or reckoned: the world stays. -/
def Got (P : Program) (E : Env) (w : World) (v : AV) (s : Sem Value) : Prop := ∃ x, s.run P w = .ok x w ∧ VR E v x

theorem eval_sim (h : HR P E B H w) {T : List AV} {a : Act} (hT : VRs E T a.tmps.toList) {x : Operand} {v : AV} (hv : ev P T x = some v) : VR E v (a.eval x) := by
  cases x with
  | tmp t =>
    simp only [ev, Option.some.injEq] at hv
    subst hv
    simp only [Act.eval]
    cases ht : T[t]? with
    | some v =>
      obtain ⟨y, hy, hvy⟩ := hT.get ht
      rw [Array.getElem?_toList] at hy
      simpa [Array.getD_eq_getD_getElem?, hy] using hvy
    | none =>
      have hl := hT.length
      have ht' : a.tmps[t]? = none := by
        rw [← Array.getElem?_toList]
        have := List.getElem?_eq_none_iff.1 ht
        exact List.getElem?_eq_none (by omega)
      simp only [Array.getD_eq_getD_getElem?, ht', Option.getD_none]
      exact ⟨#[], rfl, rfl⟩
  | const v' => exact VR.of _ _ hv
  | global g =>
    simp only [ev] at hv
    split at hv
    · rename_i hg
      cases hv
      obtain ⟨L, h1, h2, h3⟩ := h.glob g hg
      exact ⟨L, h1, by simp [Act.eval, h2, h3]⟩
    · cases hv
  | func f => simp only [ev, Option.some.injEq] at hv; subst hv; exact ⟨#[], #[], rfl, rfl, rfl⟩

theorem evals_sim (h : HR P E B H w) {T : List AV} {a : Act} (hT : VRs E T a.tmps.toList) : ∀ {xs : List Operand} {vs : List AV}, evs P T xs = some vs → VRs E vs (xs.map a.eval)
  | [], vs, hv => by simp only [evs, Option.some.injEq] at hv; subst hv; rfl
  | x :: xs, vs, hv => by
    simp only [evs] at hv
    obtain ⟨v, h1, hv⟩ := Option.bind_eq_some_iff.1 hv
    obtain ⟨vs', h2, hv⟩ := Option.map_eq_some_iff.1 hv
    subst hv
    exact ⟨_, _, rfl, eval_sim h hT h1, evals_sim h hT h2⟩

def VRo (E : Env) : Option AV → Option Value → Prop
  | none, v => v = none
  | some x, v => ∃ y, v = some y ∧ VR E x y

theorem evo_sim (h : HR P E B H w) {T : List AV} {a : Act} (hT : VRs E T a.tmps.toList) {x : Option Operand} {v : Option AV} (hv : evo P T x = some v) : VRo E v (x.map a.eval) := by
  cases x with
  | none => simp only [evo, Option.some.injEq] at hv; subst hv; rfl
  | some x =>
    simp only [evo] at hv
    obtain ⟨v', h1, hv⟩ := Option.map_eq_some_iff.1 hv
    subst hv
    exact ⟨_, rfl, eval_sim h hT h1⟩

/-- Numbered parts. -/
def VRp (E : Env) : List (Nat × AV) → List (Nat × Value) → Prop
  | [], l => l = []
  | (i, x) :: xs, l => ∃ y ys, l = (i, y) :: ys ∧ VR E x y ∧ VRp E xs ys

theorem evp_sim (h : HR P E B H w) {T : List AV} {a : Act} (hT : VRs E T a.tmps.toList) : ∀ {xs : List (Nat × Operand)} {vs : List (Nat × AV)}, evp P T xs = some vs → VRp E vs (xs.map fun (i, x) => (i, a.eval x))
  | [], vs, hv => by simp only [evp, Option.some.injEq] at hv; subst hv; rfl
  | (i, x) :: xs, vs, hv => by
    simp only [evp] at hv
    obtain ⟨v, h1, hv⟩ := Option.bind_eq_some_iff.1 hv
    obtain ⟨vs', h2, hv⟩ := Option.map_eq_some_iff.1 hv
    subst hv
    exact ⟨_, _, rfl, eval_sim h hT h1, evp_sim h hT h2⟩

/-! ### Types -/

theorem run_sizeOf' {t : TypeId} {s : Nat} (h : szOf P t = some s) (w : World) : (sizeOf t).run P w = .ok s w := by
  unfold szOf at h
  obtain ⟨i, hi, rfl⟩ := Option.map_eq_some_iff.1 h
  simp [sizeOf, typeInfo, hi]

theorem cellsOf_eq {t : TypeId} {s : Nat} (h : szOf P t = some s) : P.cellsOf t = s := by
  unfold szOf at h
  obtain ⟨i, hi, rfl⟩ := Option.map_eq_some_iff.1 h
  simp [Program.cellsOf, hi]

theorem szOf_mk {t : TypeId} {i : TypeInfo} (h : P.info? t = some i) : szOf P t = some i.size := by simp [szOf, h]

theorem run_typeInfo' {t : TypeId} {i : TypeInfo} (h : P.info? t = some i) (w : World) : (typeInfo t).run P w = .ok i w := by simp [typeInfo, h]

theorem byOf_some {t : TypeId} {n : Nat} (h : byOf P t = some n) : ∃ i, P.info? t = some i ∧ i.bytes = n := by
  unfold byOf at h; exact Option.map_eq_some_iff.1 h

theorem run_zero {t : TypeId} {z : AV} (h : zeroOf P t = some z) (E : Env) (w : World) : ∃ x, (zeroValue t).run P w = .ok x w ∧ VR E z x := by
  unfold zeroOf at h
  obtain ⟨i, hi, h⟩ := Option.bind_eq_some_iff.1 h
  obtain ⟨x, hx, h⟩ := Option.bind_eq_some_iff.1 h
  exact ⟨x, by simp [zeroValue, typeInfo, hi, hx], VR.of _ _ h⟩

theorem aggT_true {t : TypeId} (h : aggT P t = some true) : ∃ d, P.underlying t = some d ∧ (d matches .struct _ | .array _ _) = true := by
  unfold aggT at h
  split at h
  · rename_i fs he; exact ⟨_, he, rfl⟩
  · rename_i n e he; exact ⟨_, he, rfl⟩
  · cases h
  · cases h

theorem run_isAgg {t : TypeId} {b : Bool} (h : aggT P t = some b) (w : World) : (isAgg t).run P w = .ok b w := by
  unfold aggT at h
  split at h
  · rename_i fs he; cases h; simp [isAgg, run_underlying he]
  · rename_i n e he; cases h; simp [isAgg, run_underlying he]
  · rename_i d hs hn he
    cases h
    simp only [isAgg, Sem.run_bind, run_underlying he, Result.andThen_ok]
    cases d <;> first | rfl | (exact absurd rfl (hs _)) | (exact absurd rfl (hn _ _))
  · cases h

theorem run_part {t : TypeId} {cs : List AV} {xs : Array Value} {off : Nat} {v : AV} (h : partV P t cs off = some v) (hx : VRs E cs xs.toList) : Got P E w v (part t xs off) := by
  unfold partV at h
  split at h
  · rename_i ha
    obtain ⟨s, hs, rfl⟩ := Option.map_eq_some_iff.1 h
    refine ⟨.agg (xs.extract off (off + s)), by simp [part, run_isAgg ha, run_sizeOf' hs], _, rfl, ?_⟩
    have := (hx.drop off).take s
    have e : (xs.extract off (off + s)).toList = (xs.toList.drop off).take s := by
      rw [Array.toList_extract]; simp [List.extract_eq_take_drop, Nat.add_sub_cancel_left]
    rw [e]; exact this
  · rename_i ha
    obtain ⟨y, hy, hv⟩ := hx.get h
    rw [Array.getElem?_toList] at hy
    exact ⟨y, by simp [part, run_isAgg ha, hy], hv⟩
  · cases h

/-! ### Reading memory -/

theorem run_loadV (h : HR P E B H w) {t : TypeId} {a v : AV} {x : Value} (hv : loadV P H t a = some v) (hx : VR E a x) : Got P E w v (Instr.loadAt t x) := by
  unfold loadV at hv
  split at hv
  · rename_i b o
    obtain ⟨L, hL, rfl⟩ := hx
    split at hv
    · rename_i ha
      obtain ⟨s, hs, hv⟩ := Option.bind_eq_some_iff.1 hv
      obtain ⟨vs, hr, rfl⟩ := Option.map_eq_some_iff.1 hv
      obtain ⟨L', ys, hL', hys, hrun⟩ := run_read h hr
      rw [hL] at hL'; cases hL'
      exact ⟨.agg ys.toArray, by simp [Instr.loadAt, Instr.sureAddr, loadVar, run_isAgg ha, run_sizeOf' hs, hrun], _, rfl, by simpa using hys⟩
    · rename_i ha
      obtain ⟨L', y, hL', hy, hc⟩ := run_read1 h hv
      rw [hL] at hL'; cases hL'
      exact ⟨y, by simp [Instr.loadAt, Instr.sureAddr, loadVar, run_isAgg ha, hc], hy⟩
    · cases hv
  · cases hv

theorem addr_add (b o n : Nat) : (⟨b, o, none⟩ : Addr).add n = ⟨b, o + n, none⟩ := by unfold Addr.add; split <;> simp_all

theorem run_fieldAddrV {t : TypeId} {a v : AV} {x : Value} {f : Nat} (hv : fieldAddrV P t a f = some v) (hx : VR E a x) : Got P E w v (Instr.fieldAt t x f) := by
  unfold fieldAddrV at hv
  split at hv
  · rename_i fs b o hu
    obtain ⟨L, hL, rfl⟩ := hx
    split at hv
    · rename_i fd hf
      split at hv
      · cases hv
      · rename_i s hs0 hs
        cases hv
        have h0 : s ≠ 0 := hs0
        exact ⟨.pointer (some ⟨L.blk, L.off + o + fd.offset, none⟩), by simp [Instr.fieldAt, run_underlying hu, hf, Instr.sureAddr, fieldPlace, run_sizeOf' hs, h0, addr_add], L, hL, by simp [Nat.add_assoc]⟩
      · cases hv
    · cases hv
  · cases hv

theorem run_fieldV {t : TypeId} {a v : AV} {x : Value} {f : Nat} (hv : fieldV P t a f = some v) (hx : VR E a x) : Got P E w v (Instr.field t x f) := by
  unfold fieldV at hv
  split at hv
  · rename_i fs cs hu
    obtain ⟨xs, rfl, hxs⟩ := hx
    split at hv
    · rename_i fd hf
      obtain ⟨y, hy, hvy⟩ := run_part (w := w) hv hxs
      exact ⟨y, by simp [Instr.field, run_underlying hu, hf, asAgg, hy], hvy⟩
    · cases hv
  · cases hv

theorem run_indexAddrV {t : TypeId} {a i v : AV} {x y : Value} (hv : indexAddrV P t a i = some v) (hx : VR E a x) (hy : VR E i y) : Got P E w v (Instr.indexAt t x y) := by
  unfold indexAddrV at hv
  split at hv
  · rename_i e b o len cap k n hu
    obtain ⟨L, a', c', hL, rfl, hlc, hcc, hsp, ha⟩ := hx
    obtain rfl : y = .int k n := hy
    split at hv
    · rename_i s hs
      split at hv
      · rename_i hn
        cases hv
        have hc0 : c' ≠ 0 := by rcases hcc with rfl | ⟨_, rfl⟩ <;> omega
        rcases ha with rfl | h0
        · exact ⟨.pointer (some ⟨L.blk, L.off + o + n.toNat * s, none⟩), by simp [Instr.indexAt, asIntOf, run_underlying hu, hn, run_sizeOf' hs, addr_add], L, hL, by simp [Nat.add_assoc]⟩
        · exact absurd h0 hc0
      · cases hv
    · cases hv
  · rename_i len e b o k n hu
    obtain ⟨L, hL, rfl⟩ := hx
    obtain rfl : y = .int k n := hy
    split at hv
    · rename_i s hs
      split at hv
      · rename_i hn
        cases hv
        exact ⟨.pointer (some ⟨L.blk, L.off + o + n.toNat * s, none⟩), by simp [Instr.indexAt, asIntOf, run_underlying hu, hn, run_sizeOf' hs, addr_add, Instr.sureAddr], L, hL, by simp [Nat.add_assoc]⟩
      · cases hv
    · cases hv
  · cases hv

theorem run_indexV {t : TypeId} {a i v : AV} {x y : Value} (hv : indexV P t a i = some v) (hx : VR E a x) (hy : VR E i y) : Got P E w v (Instr.index t x y) := by
  unfold indexV at hv
  split at hv
  · rename_i len e cs k n hu
    obtain ⟨xs, rfl, hxs⟩ := hx
    obtain rfl : y = .int k n := hy
    split at hv
    · rename_i s hs
      split at hv
      · rename_i hn
        obtain ⟨z, hz, hvz⟩ := run_part (w := w) hv hxs
        exact ⟨z, by simp [Instr.index, asIntOf, run_underlying hu, hn, run_sizeOf' hs, hz], hvz⟩
      · cases hv
    · cases hv
  · rename_i s k n hu
    obtain rfl : x = .string ⟨s.toArray⟩ := hx
    obtain rfl : y = .int k n := hy
    split at hv
    · rename_i hn
      obtain ⟨b, hb, rfl⟩ := Option.map_eq_some_iff.1 hv
      refine ⟨.int .u8 b.toNat, ?_, rfl⟩
      have hget : (⟨s.toArray⟩ : ByteArray)[n.toNat]? = some b := by
        obtain ⟨hlt, hb⟩ := List.getElem?_eq_some_iff.1 hb
        rw [getElem?_pos (⟨s.toArray⟩ : ByteArray) n.toNat (show n.toNat < (⟨s.toArray⟩ : ByteArray).size from hlt)]
        exact congrArg some hb
      simp [Instr.index, asIntOf, run_underlying hu, hn, hget]
    · cases hv
  · cases hv

/-! ### Parts put together -/

theorem VRp.get {x : List (Nat × AV)} {y : List (Nat × Value)} (h : VRp E x y) : x.length = y.length := by
  induction x generalizing y with
  | nil => cases h; rfl
  | cons p x ih => obtain ⟨i, v⟩ := p; obtain ⟨z, zs, rfl, _, h⟩ := h; simp [ih h]

theorem fill_sim {place : Nat → Option (Nat × Nat)} : ∀ {parts : List (Nat × AV)} {parts' : List (Nat × Value)} {cs : List AV} {cs' : Array Value} {r : List AV},
    VRp E parts parts' → VRs E cs cs'.toList → fillV place cs parts = some r → ∃ r', Instr.fill place cs' parts' = some r' ∧ VRs E r r'.toList
  | [], _, cs, cs', r, h, hc, hr => by cases h; simp only [fillV, Option.some.injEq] at hr; subst hr; exact ⟨cs', rfl, hc⟩
  | (i, v) :: parts, _, cs, cs', r, h, hc, hr => by
    obtain ⟨y, ys, rfl, hv, h⟩ := h
    simp only [fillV] at hr
    simp only [Instr.fill]
    cases hp : place i with
    | none => simp [hp] at hr
    | some os =>
      obtain ⟨off, size⟩ := os
      simp only [hp] at hr ⊢
      split at hr
      · rename_i hcond0
        have hcond : v.cells.length = size ∧ off + v.cells.length ≤ cs.length := ⟨hcond0.1, hcond0.2.1⟩
        have hvc := hv.cells hcond0.2.2
        have hl1 := hvc.length
        have hl2 := hc.length
        simp only [Array.length_toList] at hl1 hl2
        rw [if_neg (by simp; omega)]
        have e : ∀ (vs : List Value) (k : Nat) (X : Array Value), off + k + vs.length ≤ X.size →
            (vs.zipIdx k).foldl (fun cs (c, j) => cs.setIfInBounds (off + j) c) X = spliceA X (off + k) vs := by
          intro vs
          induction vs with
          | nil => intro k X _; simp [spliceA_nil]
          | cons v vs ih =>
            intro k X hX
            simp only [List.length_cons] at hX
            simp only [List.zipIdx_cons, List.foldl_cons]
            rw [ih (k + 1) _ (by simp; omega), ← spliceA_cons _ _ _ _ (by omega)]
            rfl
        have e2 : (y.cells.zipIdx.foldl (fun cs (c, j) => cs.setIfInBounds (off + j) c) cs') = spliceA cs' off y.cells.toList := by
          have := e y.cells.toList 0 cs' (by simp; omega)
          rw [← Array.foldl_toList, Array.toList_zipIdx]
          simpa using this
        rw [e2]
        refine fill_sim h ?_ hr
        have := seg_splice (off := 0) (X := cs') (o := off) (vs := v.cells) (ys := y.cells.toList) (cs := cs) (by
          rw [List.drop_zero, hc.length, List.take_length]; exact hc) (by omega) hvc (by omega)
        rw [List.drop_zero, Nat.zero_add] at this
        have hlen : (splice cs off v.cells).length = (spliceA cs' off y.cells.toList).toList.length := by simp [splice, spliceA]; omega
        rw [hlen, List.take_length] at this
        exact this
      · cases hr

theorem mapM_places (fs : Array Field) (h : fs.all (fun f => (szOf P f.type).isSome) = true) (w : World) :
    ∃ ps : Array (Nat × Nat), (fs.mapM fun (f : Field) => do pure (f.offset, ← sizeOf f.type) : Sem (Array (Nat × Nat))).run P w = .ok ps w ∧ ∀ i : Nat, ps[i]? = (fs[i]?).bind fun (f : Field) => (szOf P f.type).map fun s => (f.offset, s) := by
  obtain ⟨l⟩ := fs
  have key : ∀ l : List Field, (∀ f ∈ l, (szOf P f.type).isSome = true) → ∃ ps : List (Nat × Nat), (l.mapM fun (f : Field) => do pure (f.offset, ← sizeOf f.type) : Sem (List (Nat × Nat))).run P w = .ok ps w ∧
      ∀ i : Nat, ps[i]? = (l[i]?).bind fun (f : Field) => (szOf P f.type).map fun s => (f.offset, s) := by
    intro l
    induction l with
    | nil => intro _; exact ⟨[], by simp, by simp⟩
    | cons f l ih =>
      intro hl
      obtain ⟨ps, h1, h2⟩ := ih (fun g hg => hl g (by simp [hg]))
      obtain ⟨s, hs⟩ := Option.isSome_iff_exists.1 (hl f (by simp))
      refine ⟨(f.offset, s) :: ps, ?_, ?_⟩
      · rw [List.mapM_cons]; simp only [bind_pure_comp] at h1 ⊢; simp [run_sizeOf' hs, h1]
      · intro i
        cases i with
        | zero => simp [hs]
        | succ i => simpa using h2 i
  obtain ⟨ps, h1, h2⟩ := key l (by simpa using h)
  refine ⟨⟨ps⟩, ?_, by simpa using h2⟩
  rw [List.mapM_toArray]
  simp only [bind_pure_comp] at h1 ⊢
  simp [h1]

theorem run_buildV {t : TypeId} {parts : List (Nat × AV)} {parts' : List (Nat × Value)} {v : AV} (hv : buildV P t parts = some v) (hp : VRp E parts parts') : Got P E w v (Instr.build t parts'.toArray) := by
  unfold buildV at hv
  split at hv
  · rename_i fs z hu hz
    obtain ⟨zx, hzr, hzv⟩ := run_zero hz E w
    obtain ⟨cs, hf, hv⟩ := Option.bind_eq_some_iff.1 hv
    split at hv
    · rename_i hall
      cases hv
      obtain ⟨ps, hm, hps⟩ := mapM_places fs hall w
      have hplace : (fun i : Nat => (fs[i]?).bind fun (f : Field) => (szOf P f.type).map fun s => (f.offset, s)) = (fun i => ps[i]?) := funext fun i => (hps i).symm
      rw [hplace] at hf
      obtain ⟨r, hr, hrv⟩ := fill_sim hp (hzv.cells (zeroOf_notAny hz)) hf
      refine ⟨.agg r, ?_, r, rfl, hrv⟩
      simp only [Instr.build, Sem.run_bind, hzr, Result.andThen_ok, run_underlying hu, hm, hr]
      rfl
    · cases hv
  · rename_i n e z hu hz
    obtain ⟨zx, hzr, hzv⟩ := run_zero hz E w
    split at hv
    · rename_i s hs
      obtain ⟨cs, hf, rfl⟩ := Option.map_eq_some_iff.1 hv
      obtain ⟨r, hr, hrv⟩ := fill_sim hp (hzv.cells (zeroOf_notAny hz)) hf
      refine ⟨.agg r, ?_, r, rfl, hrv⟩
      simp only [Instr.build, Sem.run_bind, hzr, Result.andThen_ok, run_underlying hu, run_sizeOf' hs, hr]
      rfl
    · cases hv
  · cases hv

end
end Go.Am

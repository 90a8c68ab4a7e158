/- The abstract machine: what makes and turns blocks. -/
import Derived.Test.YtlkdhhkncoekgaaDoorAmF
namespace Go.Am
open Go.RowKit

section
variable {P : Program} {E : Env} {B : Bnd} {H : AH} {w : World}

/-- A value, the heap turned. -/
def Made (P : Program) (E : Env) (B : Bnd) (w : World) (v : AV) (H' : AH) (s : Sem Value) : Prop :=
  ∃ x w' E', s.run P w = .ok x w' ∧ E.le E' ∧ VR E' v x ∧ HR P E' B H' w' ∧ Below B w w'

theorem Got.made (hH : HR P E B H w) {v : AV} {s : Sem Value} (h : Got P E w v s) : Made P E B w v H s := by
  obtain ⟨x, hx, hv⟩ := h
  exact ⟨x, w, E, hx, Env.le.refl E, hv, hH, Below.refl B w⟩

/-- A new row of the call's own. -/
theorem new_row (hH : HR P E B H w) {cs : List AV} {X : Array Value} {e : TypeId} {fl : Fl} {extra : Nat} (hX : VRs E cs (X.toList.take cs.length)) (hone : ∀ v ∈ cs, v.one = true)
    (hsz : cs.length + extra * P.cellsOf e ≤ X.size) (hex : fl.opn = false → extra = 0) (lo hi : Nat) (hfr : ∀ k, k < X.size → ¬ (lo ≤ k ∧ k < hi)) (hsi : fl.sish = false → lo = hi ∨ hi ≤ fl.fz) (hwh : fl.whole = true → X.size = cs.length ∧ lo = hi := by intro h; cases h) :
    E.le (E.put H.n ⟨w.heap.size, 0, cs.length, P.cellsOf e, extra⟩) ∧
    HR P (E.put H.n ⟨w.heap.size, 0, cs.length, P.cellsOf e, extra⟩) B (H.alloc (.cells cs e fl)) (w.alloc (.cells X e (lo, hi))) ∧ Below B w (w.alloc (.cells X e (lo, hi))) := by
  have hle := hH.put_le ⟨w.heap.size, 0, cs.length, P.cellsOf e, extra⟩
  refine ⟨hle, hH.alloc rfl ?_, (Below.refl B w).alloc hH.base _⟩
  refine ⟨X, lo, hi, by simpa using World.alloc_heap_new w _, rfl, rfl, by simpa using hsz, ?_, fun _ => ⟨hH.fresh, fun k _ h2 => hfr k h2, by simpa using hsi⟩, hex, hone, fun h => ⟨rfl, (hwh h).1, fun _ _ => (hwh h).2⟩⟩
  simpa using VRs.mono hle _ _ hX

theorem put_get (b : Nat) (L : Loc) : (E.put b L) b = some L := by simp [Env.put]

theorem run_allocV (hH : HR P E B H w) {e : TypeId} {z : AV} (hz : zeroOf P e = some z) (h1 : z.cells.all AV.one = true) :
    Made P E B w (.ptr (some (H.n, 0))) (H.alloc (.cells z.cells e { whole := true })) (Instr.alloc e true (.tuple #[])) := by
  obtain ⟨x, hx, hv⟩ := run_zero hz E w
  have hc := hv.cells (zeroOf_notAny hz)
  obtain ⟨k1, k2, k3⟩ := new_row hH (X := x.cells) (e := e) (fl := { whole := true }) (extra := 0) (by rw [hc.length, List.take_length]; exact hc) (by simpa using h1) (by have := hc.length; simp at this; omega) (fun _ => rfl) 0 0 (by omega) (by simp) (fun _ => ⟨by have := hc.length; simp at this; omega, rfl⟩)
  exact ⟨.pointer (some ⟨w.heap.size, 0, none⟩), _, _, by simp [Instr.alloc, hx, newVar, newRow], k1, ⟨_, put_get _ _, rfl⟩, k2, k3⟩

theorem run_boxV (hH : HR P E B H w) {e : TypeId} {v : AV} {x : Value} (hv : VR E v x) (h1 : v.cells.all AV.one = true) :
    Made P E B w (.ptr (some (H.n, 0))) (H.alloc (.cells v.cells e { whole := true })) (Instr.box e x) := by
  have hc := hv.cells (AV.notAny_of_ones h1)
  obtain ⟨k1, k2, k3⟩ := new_row hH (X := x.cells) (e := e) (fl := { whole := true }) (extra := 0) (by rw [hc.length, List.take_length]; exact hc) (by simpa using h1) (by have := hc.length; simp at this; omega) (fun _ => rfl) 0 0 (by omega) (by simp) (fun _ => ⟨by have := hc.length; simp at this; omega, rfl⟩)
  exact ⟨.pointer (some ⟨w.heap.size, 0, none⟩), _, _, by simp [Instr.box, newVar, newRow], k1, ⟨_, put_get _ _, rfl⟩, k2, k3⟩

theorem zeroCells_eq (zs : Array Value) : ∀ n : Nat, 0 < zs.size → ((Array.range (n * zs.size)).map fun i => zs[i % zs.size]!).toList = (List.replicate n zs.toList).flatten := by
  intro n h
  induction n with
  | zero => simp
  | succ n ih =>
    rw [List.replicate_succ', List.flatten_append, ← ih]
    apply List.ext_getElem?
    intro i
    simp only [Array.toList_map, Array.toList_range, List.getElem?_map]
    by_cases h1 : i < n * zs.size
    · rw [List.getElem?_append_left (by simpa using h1)]
      simp [h1, show i < (n + 1) * zs.size by rw [Nat.succ_mul]; omega]
    · rw [List.getElem?_append_right (by simpa using h1)]
      by_cases h2 : i < (n + 1) * zs.size
      · have h3 : i - n * zs.size < zs.size := by rw [Nat.succ_mul] at h2; omega
        have h4 : i % zs.size = i - n * zs.size := by
          have : i = zs.size * n + (i - n * zs.size) := by rw [Nat.mul_comm]; omega
          rw [this, Nat.mul_add_mod, Nat.mod_eq_of_lt h3]
          rw [Nat.mul_comm]; omega
        simp [h2, h4, h3]
      · have h3 : ¬ i - n * zs.size < zs.size := by rw [Nat.succ_mul] at h2; omega
        rw [List.getElem?_eq_none (by simp; omega), List.getElem?_eq_none (by simp; omega)]
        rfl

theorem repCells_sim {z : List AV} {zs : List Value} (h : VRs E z zs) : ∀ n, VRs E (repCells z n) (List.replicate n zs).flatten
  | 0 => rfl
  | n + 1 => by rw [List.replicate_succ, List.flatten_cons]; exact h.append (repCells_sim h n)

theorem repCells_ones {z : List AV} (h : ∀ v ∈ z, v.one = true) : ∀ n, ∀ v ∈ repCells z n, v.one = true
  | 0, v, hv => by cases hv
  | n + 1, v, hv => by
    rcases List.mem_append.1 hv with hv | hv
    · exact h v hv
    · exact repCells_ones h n v hv

theorem repCells_length (z : List AV) : ∀ n, (repCells z n).length = n * z.length
  | 0 => by simp [repCells]
  | n + 1 => by simp [repCells, repCells_length z n, Nat.succ_mul, Nat.add_comm]

theorem fill_ones : ∀ {place : Nat → Option (Nat × Nat)} {parts : List (Nat × AV)} {cs r : List AV}, fillV place cs parts = some r → (∀ v ∈ cs, v.one = true) → parts.all (fun p => p.2.cells.all AV.one) = true → ∀ v ∈ r, v.one = true
  | _, [], cs, r, h, hc, _ => by simp only [fillV, Option.some.injEq] at h; subst h; exact hc
  | place, (i, x) :: parts, cs, r, h, hc, hp => by
    simp only [fillV] at h
    simp only [List.all_cons, Bool.and_eq_true] at hp
    split at h
    · cases h
    · split at h
      · exact fill_ones h (splice_ones hc (by simpa using hp.1)) hp.2
      · cases h

theorem fill_length : ∀ {place : Nat → Option (Nat × Nat)} {parts : List (Nat × AV)} {cs r : List AV}, fillV place cs parts = some r → r.length = cs.length
  | _, [], cs, r, h => by simp only [fillV, Option.some.injEq] at h; rw [h]
  | place, (i, x) :: parts, cs, r, h => by
    simp only [fillV] at h
    split at h
    · cases h
    · split at h
      · rename_i hc; rw [fill_length h]; simp [splice]; omega
      · cases h

theorem zeroRow {s : Nat} {z : AV} {zx : Value} (hzv : VR E z zx) (hza : z.isAny = false) (hl : z.cells.length = s) (h0 : 0 < s) (n : Nat) :
    VRs E (repCells z.cells n) ((Array.range (n * s)).map fun i => zx.cells[i % zx.cells.size]!).toList := by
  have hc := hzv.cells hza
  have hcl := hc.length
  simp only [Array.length_toList] at hcl
  have hs : zx.cells.size = s := by omega
  subst hs
  have := zeroCells_eq zx.cells n h0
  rw [this]
  exact repCells_sim hc n

theorem run_buildSliceV (hH : HR P E B H w) {t : TypeId} {len : Nat} {parts : List (Nat × AV)} {parts' : List (Nat × Value)} {v : AV} {H' : AH} (h : buildSliceV P H t len parts = some (v, H')) (hp : VRp E parts parts') :
    Made P E B w v H' (Instr.buildSlice t len parts'.toArray) := by
  unfold buildSliceV at h
  split at h
  · rename_i e hu
    split at h
    · rename_i s z hs hz
      split at h
      · rename_i hc
        obtain ⟨h1, h2, h3, h4, h5⟩ := hc
        obtain ⟨cs, hf, h⟩ := Option.map_eq_some_iff.1 h
        cases h
        obtain ⟨zx, hzr, hzv⟩ := run_zero hz E w
        have hzc := zeroRow hzv (zeroOf_notAny hz) h2 h3 len
        obtain ⟨r, hr, hrv⟩ := fill_sim hp hzc hf
        have hlen : r.size = cs.length := by rw [hrv.length]; simp
        obtain ⟨k1, k2, k3⟩ := new_row hH (X := r) (e := e) (fl := { whole := true }) (extra := 0) (by rw [hrv.length, List.take_length]; exact hrv) (fill_ones hf (repCells_ones (by simpa using h4) _) h5) (by omega) (fun _ => rfl) 0 0 (by omega) (by simp) (fun _ => ⟨hlen, rfl⟩)
        refine ⟨.slice (some ⟨w.heap.size, 0, none⟩) len len, _, _, ?_, k1, ⟨_, _, _, put_get _ _, rfl, Nat.le_refl _, .inl rfl, rfl, .inl rfl⟩, k2, k3⟩
        have hrun : ((Array.range (len * s)).map fun i => (if len * s = 0 then #[] else zx.cells)[i % (if len * s = 0 then (#[] : Array Value) else zx.cells).size]!) = ((Array.range (len * s)).map fun i => zx.cells[i % zx.cells.size]!) := by
          by_cases h0 : len * s = 0
          · simp [h0]
          · simp [h0]
        simp only [Instr.buildSlice, Sem.run_bind, run_underlying hu, run_sizeOf' hs, Result.andThen_ok]
        rw [if_neg (by omega)]
        have e0 : Array.range 0 = #[] := rfl
        by_cases h0 : len * s = 0
        · rw [h0, e0] at hr
          simp at hr
          simp [h0, hr, newRow, e0]
        · simp [h0, hzr, hr, newRow]
      · cases h
    · cases h
  · cases h

theorem run_makeSliceV (hH : HR P E B H w) {t : TypeId} {l c : AV} {x y : Value} {v : AV} {H' : AH} (h : makeSliceV P H t l c = some (v, H')) (hx : VR E l x) (hy : VR E c y) :
    Made P E B w v H' (Instr.makeSlice t x y) := by
  unfold makeSliceV at h
  split at h
  · rename_i e l c hu
    obtain rfl : x = _ := hx; obtain rfl : y = _ := hy
    split at h
    · rename_i s by_ z hs hby hz
      split at h
      · rename_i hc
        obtain ⟨h1, h2, h3, h4, h5, h6, h7⟩ := hc
        cases h
        obtain ⟨zx, hzr, hzv⟩ := run_zero hz E w
        obtain ⟨i, hi, hib⟩ := byOf_some hby
        have hwrap : ∀ q : Int, 0 ≤ q → q < 2 ^ 62 → IntKind.i64.wrap q = q := by
          intro q h0 h1
          simp only [IntKind.wrap, IntKind.bits, IntKind.signed]
          have : q % (2 : Int) ^ 64 = q := Int.emod_eq_of_lt h0 (by omega)
          simp only [this, Bool.true_and]
          rw [if_neg (by simp; omega)]
        have hwl := hwrap l h1 (by omega)
        have hwc := hwrap c (by omega) h4
        have hzc := zeroRow hzv (zeroOf_notAny hz) h5 h6 c.toNat
        obtain ⟨k1, k2, k3⟩ := new_row hH (X := (Array.range (c.toNat * s)).map fun i => zx.cells[i % zx.cells.size]!) (e := e) (fl := {}) (extra := 0)
          (by rw [hzc.length, List.take_length]; exact hzc) (repCells_ones (by simpa using h7) _) (by have := hzc.length; simp at this ⊢; omega) (fun _ => rfl) 0 0 (by omega) (by simp)
        refine ⟨.slice (some ⟨w.heap.size, 0, none⟩) l.toNat c.toNat, _, _, ?_, k1, ⟨_, _, _, put_get _ _, rfl, by omega, .inl rfl, rfl, .inl rfl⟩, k2, k3⟩
        have ht1 : ¬ (c < 0) := by omega
        have ht2 : ¬ ((i.bytes : Int) * c > 2 ^ 48) := by rw [hib]; omega
        simp only [Instr.makeSlice, Sem.run_bind, run_underlying hu, Result.andThen_ok, asInt, asIntOf, Sem.run_pure, run_typeInfo' hi, hwl, hwc]
        have ht3 : ¬ (l < 0) := by omega
        have ht4 : ¬ (l > c) := by omega
        rw [if_neg (by simp only [Bool.or_eq_true, decide_eq_true_eq, not_or]; exact ⟨⟨⟨ht1, ht2⟩, ht3⟩, ht4⟩)]
        by_cases h0 : c.toNat * s = 0
        · have e0 : Array.range 0 = #[] := rfl
          have hr : ((Array.range (c.toNat * s)).map fun i => zx.cells[i % zx.cells.size]!) = #[] := by rw [h0, e0]; simp
          rw [hr]
          simp [run_sizeOf' hs, h0, newRow, e0]
        · simp [run_sizeOf' hs, h0, hzr, newRow]
      · cases h
    · cases h
  · cases h

theorem run_storeV (hH : HR P E B H w) {t : TypeId} {a v : AV} {x y : Value} {H' : AH} (h : storeV P H t a v = some H') (hx : VR E a x) (hy : VR E v y) :
    ∃ w', (Instr.storeAt t x y).run P w = .ok () w' ∧ HR P E B H' w' ∧ Below B w w' := by
  unfold storeV at h
  split at h
  · rename_i b o
    obtain ⟨L, hL, rfl⟩ := hx
    split at h
    · rename_i hs
      have hya : v.isAny = false := by
        unfold AH.write at h
        split at h
        · split at h
          · rename_i hq; exact AV.notAny_of_ones hq.2.2.2
          · cases h
        · cases h
      have hc := hy.cells hya
      obtain ⟨L', w', hL', hrun, h1, h2⟩ := run_write hH h hc
      rw [hL] at hL'; cases hL'
      have hl := hc.length
      simp only [Array.length_toList] at hl
      refine ⟨w', ?_, h1, h2⟩
      have hsz : (sizeOf t).run P w = .ok v.cells.length w := run_sizeOf' hs.symm w
      simp [Instr.storeAt, Instr.sureAddr, storeVar, hsz, hl, hrun]
    · cases h
  · cases h

/-- What is appended or copied. -/
theorem run_srcV (hH : HR P E B H w) {s : Nat} {y : AV} {yx : Value} {n : Nat} {new : List AV} (h : srcV H s y = some (n, new)) (hy : VR E y yx) :
    ∃ ys, VRs E new ys ∧ new.length = n * s ∧ (∀ w, (Builtin.lenOf yx).run P w = .ok n w) ∧ ∀ w', w'.heap = w.heap → ∀ m, m ≤ n → (Builtin.firstCells s m yx).run P w' = .ok (ys.take (m * s)).toArray w' := by
  unfold srcV at h
  split at h
  · rename_i x
    obtain rfl : yx = _ := hy
    split at h
    · rename_i hs
      cases h
      subst hs
      refine ⟨_, VRs.bytes x, by simp [byteCellsA], fun _ => rfl, fun w' _ m hm => ?_⟩
      have hd : ((⟨x.toArray⟩ : ByteArray).extract 0 m).data = (x.take m).toArray := by
        rw [ByteArray.data_extract]; apply Array.ext'; simp [List.extract_eq_take_drop]
      simp only [Builtin.firstCells, Sem.run_pure, hd]
      simp [List.map_take]
    · cases h
  · rename_i l c
    split at h
    · rename_i hl0
      cases h
      subst hl0
      obtain ⟨rfl, hl⟩ := hy
      exact ⟨[], rfl, by simp, fun _ => rfl, fun w' _ m hm => by simp [Builtin.firstCells]⟩
    · cases h
  · rename_i b o n' c
    obtain ⟨cs, hr, h⟩ := Option.map_eq_some_iff.1 h
    cases h
    obtain ⟨L, a', c', hL, rfl, hlc, hcc, hsp, ha⟩ := hy
    obtain ⟨cs', e, fl, hb, hle, rfl⟩ := AH.read_some hr
    obtain ⟨L', hL', ho⟩ := hH.obj _ _ hb
    rw [hL] at hL'; cases hL'
    obtain ⟨seg, h1, h2⟩ := read_seg ho
    refine ⟨(seg.drop o).take (n * s), (h1.drop o).take _, by simp; omega, fun _ => rfl, fun w' hw' m hm => ?_⟩
    have hms : m * s ≤ n * s := Nat.mul_le_mul_right _ hm
    rcases ha with rfl | h0
    · rw [List.take_take, Nat.min_eq_left hms]
      exact h2 w' hw' o (m * s) (by omega)
    · have : m = 0 := by rcases hcc with e | ⟨_, e⟩ <;> omega
      subst this
      have hl0 : (loadCells a' 0).run P w' = .ok #[] w' := rfl
      simp [Builtin.firstCells, hl0]
  · cases h

theorem run_copyV (hH : HR P E B H w) {t ty : TypeId} {ts : Array TypeId} {a y v : AV} {x yx : Value} {xs : Array Value} {H' : AH} (ht : ts[0]? = some t) (hx0 : xs[0]? = some x) (hx1 : xs[1]? = some yx)
    (h : copyV P H t a y = some (v, H')) (hx : VR E a x) (hy : VR E y yx) : Made P E B w v H' (Builtin.copy_ ts ty xs) := by
  unfold copyV at h
  split at h
  · rename_i e p dlen cap hu
    split at h
    · rename_i s hs
      obtain ⟨⟨m, new⟩, hsrc, h⟩ := Option.bind_eq_some_iff.1 h
      obtain ⟨ys, h1, h2, h3, h4⟩ := run_srcV hH hsrc hy
      have h5 := h4 w rfl (min m dlen) (Nat.min_le_left _ _)
      have hmin : Nat.min m dlen = min m dlen := rfl
      dsimp only at h
      cases p with
      | none =>
        dsimp only at h
        split at h
        · rename_i hn0
          cases h
          obtain ⟨rfl, _⟩ := hx
          refine Got.made hH ⟨.int .i64 0, ?_, rfl⟩
          rw [hn0] at h5
          simp [Builtin.copy_, ht, hx0, hx1, run_underlying hu, h3, hmin, hn0, run_sizeOf' hs, h5, goInt]
        · cases h
      | some p =>
        obtain ⟨b, o⟩ := p
        dsimp only at h
        obtain ⟨H2, hw, h⟩ := Option.map_eq_some_iff.1 h
        cases h
        obtain ⟨L, a', c', hL, rfl, hlc, hcc, hsp, ha⟩ := hx
        obtain ⟨L', w', hL', hrun, hH', hB⟩ := run_write hH hw (h1.take (min m dlen * s))
        rw [hL] at hL'; cases hL'
        refine ⟨.int .i64 (min m dlen : Nat), w', E, ?_, Env.le.refl E, rfl, hH', hB⟩
        have hst : (storeCells a' (ys.take (min m dlen * s))).run P w = .ok () w' := by
          rcases ha with rfl | h0
          · exact hrun
          · have h00 : min m dlen = 0 := by
              have : dlen = 0 := by rcases hcc with e | ⟨_, e⟩ <;> omega
              omega
            rw [h00] at hrun ⊢
            simpa [storeCells] using hrun
        simp [Builtin.copy_, ht, hx0, hx1, run_underlying hu, h3, run_sizeOf' hs, hmin, h5, hst, goInt]
    · cases h
  · cases h

theorem growBy_le : ∀ (r n c : Nat), c < n → Builtin.growBy n r c ≤ 2 * n + 192
  | 0, n, c, h => by simp only [Builtin.growBy]; omega
  | r + 1, n, c, h => by
    simp only [Builtin.growBy]
    rw [if_neg (by omega)]
    by_cases h2 : c + (c + 768) / 4 < n
    · exact growBy_le r n _ h2
    · cases r with
      | zero => simp only [Builtin.growBy]; omega
      | succ r => simp only [Builtin.growBy]; rw [if_pos (by omega)]; omega

theorem nextslicecap_le (n c : Nat) (h : c < n) : Builtin.nextslicecap n c ≤ 2 * n + 192 := by
  unfold Builtin.nextslicecap
  split
  · omega
  · split
    · omega
    · exact growBy_le _ _ _ h

/-- The append that grows, in the model. -/
theorem run_append_grow {u ty e : TypeId} {t : TypeId} {ts : Array TypeId} {xs : Array Value} {yx : Value} {a : Option Addr} {len c' n s by_ : Nat} {i : TypeInfo} {zx : Value} {ys olds : List Value} {xd : TypeDesc}
    (ht : ts[0]? = some t) (hu1 : ts[1]? = some u) (hx0 : xs[0]? = some (.slice a len c')) (hx1 : xs[1]? = some yx) (hu : P.underlying t = some (.slice e)) (hxd : P.underlying u = some xd) (hni : ∀ k, xd ≠ .int k)
    (hs : szOf P e = some s) (hi : P.info? e = some i) (hby : i.bytes = by_) (hb0 : by_ ≠ 0) (hroom : (2 * (len + n) + 1000) * by_ ≤ 2 ^ 48) (hlt : c' < len + n) (hlen : ∀ w, (Builtin.lenOf yx).run P w = .ok n w)
    (hold : ∀ w', w'.heap = w.heap → (Builtin.firstCells s len (.slice a len c')).run P w' = .ok olds.toArray w') (hnew : ∀ w', w'.heap = w.heap → (Builtin.firstCells s n yx).run P w' = .ok ys.toArray w') (hz : ∀ w, (zeroValue e).run P w = .ok zx w) :
    ∃ newCap, len + n ≤ newCap ∧ (Builtin.append_ ts ty xs).run P w = .ok (.slice (some ⟨w.heap.size, 0, none⟩) (len + n) newCap)
      (w.drew.alloc (.cells (olds.toArray ++ ys.toArray ++ Builtin.zeroCells zx.cells (newCap - (len + n))) e)) := by
  refine ⟨(Question.appendCap (len + n) c' e).cut (w.tape w.drawn (.appendCap (len + n) c' e)), by simp [Question.cut], ?_⟩
  have hcap : Builtin.nextslicecap (len + n) c' * i.bytes ≤ 2 ^ 48 := by
    rw [hby]
    exact Nat.le_trans (Nat.mul_le_mul_right _ (by have := nextslicecap_le (len + n) c' hlt; omega)) hroom
  have hb0' : ¬ i.bytes = 0 := by rw [hby]; exact hb0
  simp only [Builtin.append_, ht, hu1, hx0, hx1, Sem.run_bind, run_underlying hu, run_underlying hxd, Result.andThen_ok, run_sizeOf' hs, Sem.run_pure, Bool.false_eq_true, if_false, hlen]
  rw [if_neg (by omega)]
  simp only [Sem.run_bind, Sem.run_ite, run_typeInfo' hi, Result.andThen_ok, Sem.run_pure, false_or, hb0', and_false, if_false]
  rw [if_neg (by omega)]
  simp only [Sem.run_bind, Sem.run_pure, Result.andThen_ok, run_choose, Question.forced, Bool.false_eq_true, if_false, run_askRoom, hz, newRow, run_newObj, World.alloc]
  have e1 := hold w.drew rfl
  have e2 := hnew w.drew rfl
  simp [e1, e2]
  show w.drew.alloc (Obj.cells _ e) = w.drew.alloc (Obj.cells _ e)
  congr 2
  rw [← List.append_toArray, Array.append_assoc]

/-- What lies behind a grown row's cells. -/
theorem zeroCells_size (zs : Array Value) (n : Nat) : (Builtin.zeroCells zs n).size = n * zs.size := by simp [Builtin.zeroCells]

theorem run_appendV (hH : HR P E B H w) {t u ty : TypeId} {ts : Array TypeId} {a y v : AV} {x yx : Value} {xs : Array Value} {H' : AH} (ht : ts[0]? = some t) (hu1 : ts[1]? = some u) (hx0 : xs[0]? = some x) (hx1 : xs[1]? = some yx)
    (h : appendV P H t u a y = some (v, H')) (hx : VR E a x) (hy : VR E y yx) : Made P E B w v H' (Builtin.append_ ts ty xs) := by
  unfold appendV at h
  split at h
  · rename_i e xd p len cap hu hxd
    split at h
    · cases h
    · rename_i hni
      cases hs : szOf P e with
      | none => simp [hs] at h
      | some s =>
      cases hby : byOf P e with
      | none => simp [hs, hby] at h
      | some by_ =>
      simp only [hs, hby] at h
      obtain ⟨⟨n, new⟩, hsrc, h⟩ := Option.bind_eq_some_iff.1 h
      obtain ⟨ys, h1, h2, h3, h4⟩ := run_srcV hH hsrc hy
      have h5 : ∀ w', w'.heap = w.heap → (Builtin.firstCells s n yx).run P w' = .ok ys.toArray w' := fun w' hw' => by
        have := h4 w' hw' n (Nat.le_refl _)
        rwa [← h2, h1.length, List.take_length] at this
      -- the append that fits, in the model
      have fits : ∀ (base : Option Addr) (c' : Nat) (w' : World), x = .slice base len c' → len + n ≤ c' →
          (∀ q, base = some q → (storeCells (q.add (len * s)) ys).run P w = .ok () w') → (base = none → w' = w) →
          (Builtin.append_ ts ty xs).run P w = .ok (.slice base (len + n) c') w' := by
        intro base c' w' hxe hle hst hn
        subst hxe
        have e5 := h5 w rfl
        cases base with
        | none =>
          have := hn rfl
          subst this
          simp only [Builtin.append_, ht, hu1, hx0, hx1, Sem.run_bind, run_underlying hu, run_underlying hxd, Result.andThen_ok, run_sizeOf' hs, Sem.run_pure, Bool.false_eq_true, if_false, h3]
          rw [if_pos hle]
          simp [e5]
        | some q =>
          have := hst q rfl
          simp only [Builtin.append_, ht, hu1, hx0, hx1, Sem.run_bind, run_underlying hu, run_underlying hxd, Result.andThen_ok, run_sizeOf' hs, Sem.run_pure, Bool.false_eq_true, if_false, h3]
          rw [if_pos hle]
          simp [e5, this]
      dsimp only at h
      split at h
      · -- it fits
        rename_i hfit
        cases p with
        | none =>
          dsimp only at h
          split at h
          · rename_i he
            cases h
            obtain ⟨rfl, hlc⟩ := hx
            exact Got.made hH ⟨.slice none (len + n) cap, fits none cap w rfl hfit (fun q hq => by cases hq) (fun _ => rfl), rfl, hfit⟩
          · cases h
        | some p =>
          obtain ⟨b, o⟩ := p
          dsimp only at h
          obtain ⟨H2, hw, h⟩ := Option.map_eq_some_iff.1 h
          cases h
          obtain ⟨L, a', c', hL, rfl, hlc, hcc, hsp, ha⟩ := hx
          obtain ⟨L', w', hL', hrun, hH', hB⟩ := run_write hH hw h1
          rw [hL] at hL'; cases hL'
          have hcc' : cap ≤ c' := by rcases hcc with e | ⟨_, e⟩ <;> omega
          refine ⟨.slice (some a') (len + n) c', w', E, fits (some a') c' w' rfl (by omega) (fun q hq => ?_) (fun hq => by cases hq), Env.le.refl E, ⟨L, a', c', hL, rfl, hfit, hcc, hsp, ha⟩, hH', hB⟩
          cases hq
          rcases ha with rfl | h0
          · rw [addr_add, Nat.add_assoc]; exact hrun
          · have hn0 : ys = [] := by
              have := h1.length
              have : n = 0 := by omega
              subst this
              simp at h2
              simpa [h2] using (h1.length).symm
            subst hn0
            simpa [storeCells] using hrun
      · rename_i hfit
        split at h
        · cases h
        · rename_i hck
          simp only [not_or, ne_eq, Decidable.not_not, Nat.not_lt] at hck
          obtain ⟨hb0, hroom, hone, hzl⟩ := hck
          have hone' : ∀ v ∈ new, v.one = true := by simpa using hone
          obtain ⟨i, hi, hib⟩ := byOf_some hby
          obtain ⟨z, hz, hzs⟩ := Option.map_eq_some_iff.1 hzl
          obtain ⟨zx, hzr, hzv⟩ := run_zero hz E w
          have hzall : ∀ w, (zeroValue e).run P w = .ok zx w := by
            intro w2
            unfold zeroOf at hz
            obtain ⟨i2, hi2, hz⟩ := Option.bind_eq_some_iff.1 hz
            obtain ⟨zq, hzq, hz⟩ := Option.bind_eq_some_iff.1 hz
            have e1 : (zeroValue e).run P w = .ok zq w := by simp [zeroValue, typeInfo, hi2, hzq]
            have e2 : (zeroValue e).run P w2 = .ok zq w2 := by simp [zeroValue, typeInfo, hi2, hzq]
            rw [e1] at hzr; cases hzr; exact e2
          have hzsz : zx.cells.size = s := by have := (hzv.cells (zeroOf_notAny hz)).length; simp at this; omega
          have hcell := cellsOf_eq hs
          -- a new row
          have grows : ∀ (H2 : AH), HR P E B H2 w → H2.n = H.n → ∀ (base : Option Addr) (c' : Nat) (old : List AV) (olds : List Value), x = .slice base len c' → c' < len + n → VRs E old olds → old.length = len * s → (∀ v ∈ old, v.one = true) →
              (∀ w', w'.heap = w.heap → (Builtin.firstCells s len x).run P w' = .ok olds.toArray w') →
              ∀ fl : Fl, fl.opn = true → fl.whole = false → Made P E B w (.slice (some (H.n, 0)) (len + n) (len + n)) (H2.alloc (.cells (old ++ new) e fl)) (Builtin.append_ ts ty xs) := by
            intro H2 hH2 hHn base c' old olds hxe hlt hold hol ho1 hrd fl hfl hwl
            subst hxe
            obtain ⟨newCap, hnc, hrun⟩ := run_append_grow (ty := ty) ht hu1 hx0 hx1 hu hxd hni hs hi hib hb0 hroom hlt h3 hrd h5 hzall
            have hw2 : HR P E B H2 w.drew := hH2.world rfl
            have hlenX : (old ++ new).length = (len + n) * s := by rw [List.length_append, hol, h2, Nat.add_mul]
            obtain ⟨k1, k2, k3⟩ := new_row hw2 (cs := old ++ new) (X := olds.toArray ++ ys.toArray ++ Builtin.zeroCells zx.cells (newCap - (len + n))) (e := e) (fl := fl) (extra := newCap - (len + n))
              (by
                have := hold.append h1
                have hll := this.length
                have e3 : (olds.toArray ++ ys.toArray ++ Builtin.zeroCells zx.cells (newCap - (len + n))).toList = (olds ++ ys) ++ (Builtin.zeroCells zx.cells (newCap - (len + n))).toList := by simp
                rw [hll, e3, List.take_left']
                · exact this
                · rfl)
              (fun v hv => (List.mem_append.1 hv).elim (ho1 v) (hone' v))
              (by
                have q1 := hold.length; have q2 := h1.length
                simp only [Array.size_append, List.size_toArray, zeroCells_size, hzsz, hcell, List.length_append, q1, q2]
                omega)
              (fun hh => by rw [hfl] at hh; cases hh) 0 0 (by omega) (by simp) (fun hh => by rw [hwl] at hh; cases hh)
            rw [hHn] at k1 k2
            refine ⟨_, _, _, hrun, k1, ⟨_, _, newCap, put_get _ _, rfl, Nat.le_refl _, .inr ⟨?_, ?_⟩, rfl, .inl rfl⟩, k2, ⟨k3.os, k3.tape, k3.output, k3.size, k3.block⟩⟩
            · show 0 + (len + n) * P.cellsOf e = (old ++ new).length
              rw [hlenX, hcell, Nat.zero_add]
            · show newCap = len + n + (newCap - (len + n)); omega
          cases p with
          | none =>
            dsimp only at h
            split at h
            · rename_i hl0
              cases h
              obtain ⟨rfl, hlc⟩ := hx
              have := grows H hH rfl none cap [] [] rfl (by omega) rfl (by simp [hl0]) (by simp) (fun w' _ => by simp [Builtin.firstCells]) {opn := true} rfl rfl
              simpa using this
            · cases h
          | some p =>
            obtain ⟨b, o⟩ := p
            dsimp only at h
            split at h
            · rename_i cs e' fl hb
              split at h
              · rename_i hrange
                obtain ⟨hr1, hr2, hr3⟩ := hrange
                obtain ⟨L, a', c', hL, rfl, hlc, hcc, hsp, ha⟩ := hx
                obtain ⟨L', hL', ho⟩ := hH.obj _ _ hb
                rw [hL] at hL'; cases hL'
                obtain ⟨seg, g1, g2⟩ := read_seg ho
                have hold := (g1.drop o).take (len * s)
                have hrd : ∀ w', w'.heap = w.heap → (Builtin.firstCells s len (.slice (some a') len c')).run P w' = .ok ((seg.drop o).take (len * s)).toArray w' := by
                  intro w' hw'
                  rcases ha with rfl | h0
                  · exact g2 w' hw' o (len * s) hr1
                  · have hl0 : len = 0 := by rcases hcc with e | ⟨_, e⟩ <;> omega
                    subst hl0
                    have hl0 : (loadCells a' 0).run P w' = .ok #[] w' := rfl
                    simp [Builtin.firstCells, hl0]
                have ho' := ho
                obtain ⟨X, lo, hi2, q1, q2, q3, q4, q5, q6, q7, q8⟩ := ho
                have hol : ((cs.drop o).take (len * s)).length = len * s := by simp; omega
                have ho1 : ∀ v ∈ (cs.drop o).take (len * s), v.one = true := fun v hv => q8.1 v (List.mem_of_mem_drop (List.mem_of_mem_take hv))
                split at h
                · rename_i hopn
                  obtain ⟨hop, hend⟩ := hopn
                  have he := hr3 hop
                  subst he
                  split at h
                  · rename_i hown
                    obtain ⟨how, hfz⟩ := hown
                    cases h
                    by_cases hlt : c' < len + n
                    · -- the model lays a new row
                      exact grows (H.set b .dead) (hH.kill hb) rfl (some a') c' _ _ rfl hlt hold hol ho1 hrd { opn := true, fz := fl.fz - o, sish := fl.sish } rfl rfl
                    · -- the model writes behind the row
                      obtain ⟨hBl, hF, hS⟩ := q6 how
                      have hc0 : c' ≠ 0 := by omega
                      have ha' : a' = ⟨L.blk, L.off + o, none⟩ := ha.resolve_right hc0
                      have hce : c' = cap + L.extra ∧ o + cap * L.esz = L.size := by
                        rcases hcc with e | ⟨e1, e2⟩
                        · omega
                        · exact ⟨e2, e1⟩
                      have hesz : L.esz = s := by rw [← q3, hcell]
                      have hyl : ys.length = n * s := by rw [← h1.length, h2]
                      have hmul : (len + n) * s ≤ (cap + L.extra) * s := Nat.mul_le_mul_right _ (by omega)
                      rw [Nat.add_mul, Nat.add_mul] at hmul
                      rw [hesz] at q4
                      have hX : L.off + (o + len * s) + 0 + ys.length ≤ X.size := by omega
                      have hst := run_storeRow (P := P) (off := L.off + (o + len * s)) ys 0 X w q1 hX (fun k k1 k2 => hF k (by omega) (by omega)) (VRs.ones h1 (by simpa using hone))
                      rw [Nat.add_zero] at hst
                      have hlt2 : L.blk < w.heap.size := (Array.getElem?_eq_some_iff.1 q1).1
                      have hnl : ((cs.drop o).take (len * s) ++ new).length = (len + n) * s := by rw [List.length_append, hol, h2, Nat.add_mul]
                      have hreg := hH.regrow (L₂ := ⟨L.blk, L.off + o, ((cs.drop o).take (len * s) ++ new).length, P.cellsOf e', c' - (len + n)⟩) (o₂ := .cells ((cs.drop o).take (len * s) ++ new) e' { opn := true, fz := fl.fz - o, sish := fl.sish })
                        (o' := .cells (spliceA X (L.off + (o + len * s)) ys) e' (lo, hi2)) hb hL how rfl (by
                          have hsz : (spliceA X (L.off + (o + len * s)) ys).size = X.size := by simp [spliceA]; omega
                          refine ⟨_, lo, hi2, World.putObj_heap_same hlt2, rfl, rfl, ?_, ?_, fun _ => ⟨hBl, ?_, ?_⟩, by simp, fun v hv => (List.mem_append.1 hv).elim (ho1 v) (hone' v), fun h => (by cases h)⟩
                          · rw [hsz, hnl, hcell]
                            have : (len + n) * s + (c' - (len + n)) * s = (cap + L.extra) * s := by rw [← Nat.add_mul]; congr 1; omega
                            have e6 : (cap + L.extra) * s = cap * s + L.extra * s := Nat.add_mul _ _ _
                            show L.off + o + ((len + n) * s + (c' - (len + n)) * s) ≤ X.size
                            omega
                          · -- the cells
                            have hle := hH.put_le ⟨L.blk, L.off + o, ((cs.drop o).take (len * s) ++ new).length, P.cellsOf e', c' - (len + n)⟩
                            have hv := VRs.mono hle _ _ (((q5.drop o).take (len * s)).append h1)
                            have e4 : ((spliceA X (L.off + (o + len * s)) ys).toList.drop (L.off + o)).take ((cs.drop o).take (len * s) ++ new).length = (((X.toList.drop L.off).take cs.length).drop o).take (len * s) ++ ys := by
                              rw [hnl, Nat.add_mul, ← hyl]
                              simp only [spliceA]
                              have hA : (X.toList.take (L.off + (o + len * s))).length = L.off + (o + len * s) := by simp; omega
                              rw [List.drop_append_of_le_length (by omega)]
                              have hd : ((X.toList.take (L.off + (o + len * s))).drop (L.off + o)) = (((X.toList.drop L.off).take cs.length).drop o).take (len * s) := by
                                apply List.ext_getElem?
                                intro j
                                by_cases hj : j < len * s
                                · rw [List.getElem?_drop, List.getElem?_take_of_lt (by omega), List.getElem?_take_of_lt hj, List.getElem?_drop, List.getElem?_take_of_lt (by omega), List.getElem?_drop, Nat.add_assoc]
                                · rw [List.getElem?_eq_none (by simp; omega), List.getElem?_eq_none (by simp; omega)]
                              rw [hd]
                              have hdl : ((((X.toList.drop L.off).take cs.length).drop o).take (len * s)).length = len * s := by simp; omega
                              rw [List.take_append, hdl, List.take_of_length_le (by omega)]
                              congr 1
                              rw [Nat.add_sub_cancel_left, List.take_left]
                            rw [e4]; exact hv
                          · rw [hsz]
                            intro k k1 k2
                            exact hF k (by show L.off + fl.fz ≤ k; have : L.off + o + (fl.fz - o) ≤ k := k1; omega) k2
                          · intro hsh
                            rcases hS hsh with e5 | e5
                            · exact .inl e5
                            · exact .inr (show hi2 ≤ L.off + o + (fl.fz - o) by omega))
                      refine ⟨.slice (some a') (len + n) c', _, _, fits (some a') c' _ rfl (by omega) (fun q hq => ?_) (fun hq => by cases hq), hH.put_le _, ⟨_, a', c', put_get _ _, rfl, Nat.le_refl _, .inr ⟨?_, ?_⟩, hsp, .inl ?_⟩, hreg, Below.putObj (Below.refl B w) hBl _⟩
                      · cases hq
                        rw [ha', addr_add, Nat.add_assoc]; exact hst
                      · show 0 + (len + n) * P.cellsOf e' = ((cs.drop o).take (len * s) ++ new).length
                        rw [hnl, hcell, Nat.zero_add]
                      · show c' = len + n + (c' - (len + n)); omega
                      · rw [ha']; rfl
                  · cases h
                · rename_i hopn
                  cases h
                  have hcap : c' = cap := by
                    rcases hcc with e | ⟨e1, e2⟩
                    · exact e
                    · by_cases hop : fl.opn = true
                      · have he := hr3 hop
                        subst he
                        exact absurd ⟨hop, by rw [← hcell, q3, e1, q2]⟩ hopn
                      · have := q7 (by simpa using hop); omega
                  exact grows H hH rfl (some a') c' _ _ rfl (by omega) hold hol ho1 hrd {opn := true} rfl rfl
              · cases h
            · cases h
  · cases h

end
end Go.Am

/- The abstract machine: reading, writing, making blocks, in the model's worlds. -/
import Derived.Test.YtlkdhhkncoekgaaDoorAmB
namespace Go.Am
open Go.RowKit

def Env.put (E : Env) (b : Nat) (L : Loc) : Env := fun c => if c = b then some L else E c

section
variable {P : Program} {E : Env} {B : Bnd} {H : AH} {w : World}

theorem HR.none (h : HR P E B H w) : E H.n = none := by
  cases hE : E H.n with
  | none => rfl
  | some L => have := h.dom _ _ hE; omega

theorem HR.put_le (h : HR P E B H w) (L : Loc) : E.le (E.put H.n L) := fun b M hb => by
  unfold Env.put
  by_cases e : b = H.n
  · subst e; rw [h.none] at hb; cases hb
  · rw [if_neg e]; exact hb

theorem HR.lt (h : HR P E B H w) {b : Nat} {o : AObj} (hb : H.get b = some o) : b < H.n := by
  obtain ⟨L, hL, _⟩ := h.obj b o hb
  exact h.dom _ _ hL

theorem OR.blk_lt {L : Loc} {o : AObj} (h : OR P E B w L o) (hl : o.live = true) : L.blk < w.heap.size := by
  cases o with
  | cells cs e fl => obtain ⟨X, lo, hi, h1, _⟩ := h; exact (Array.getElem?_eq_some_iff.1 h1).1
  | dead => cases hl
  | iter s pos => exact (Array.getElem?_eq_some_iff.1 h.1).1
  | loop st pe T ps as bd d => obtain ⟨fn, tmps, Ld, h1, _⟩ := h; exact (Array.getElem?_eq_some_iff.1 h1).1
  | deferred => exact (Array.getElem?_eq_some_iff.1 h.1).1

/-- A draw turns nothing. -/
theorem HR.world (h : HR P E B H w) {w' : World} (hw : w'.heap = w.heap) : HR P E B H w' :=
  ⟨h.dom, fun b o hb => by obtain ⟨L, hL, ho⟩ := h.obj b o hb; exact ⟨L, hL, ho.same (Env.le.refl E) (by rw [hw])⟩, fun k hk => by rw [hw]; exact h.base k hk, h.glob, h.sep⟩

/-- A new block of the model's under a new block of ours. -/
theorem HR.alloc (h : HR P E B H w) {o : AObj} {o' : Obj} {L : Loc} (hL : L.blk = w.heap.size) (ho : OR P (E.put H.n L) B (w.alloc o') L o) :
    HR P (E.put H.n L) B (H.alloc o) (w.alloc o') := by
  have hle := h.put_le L
  refine ⟨fun b M hb => ?_, fun b x hb => ?_, ?_, fun g hg => by obtain ⟨M, h1, h2⟩ := h.glob g hg; exact ⟨M, hle _ _ h1, h2⟩, fun b b' x x' M M' hne hx hx' hown hlive hM hM' => ?_⟩
  · unfold Env.put at hb
    by_cases e : b = H.n
    · subst e; simp
    · rw [if_neg e] at hb; have := h.dom _ _ hb; simp; omega
  · rw [AH.get_alloc] at hb
    by_cases e : b = H.n
    · subst e
      rw [if_pos rfl] at hb; cases hb
      exact ⟨L, by simp [Env.put], ho⟩
    · rw [if_neg e] at hb
      obtain ⟨M, hM, hx⟩ := h.obj b x hb
      refine ⟨M, hle _ _ hM, ?_⟩
      by_cases hl : x.live = true
      · exact hx.same hle (Below.heap_alloc _ _ _ (hx.blk_lt hl))
      · cases x <;> first | trivial | (exact absurd rfl hl)
  · intro k hk; have := h.base k hk; simp; omega
  · rw [AH.get_alloc] at hx hx'
    unfold Env.put at hM hM'
    by_cases e : b = H.n
    · rw [if_pos e] at hx hM
      rw [if_neg (fun e' => hne (e.trans e'.symm))] at hx' hM'
      cases hM
      obtain ⟨N, hN, hxx⟩ := h.obj b' x' hx'
      rw [hN] at hM'; cases hM'
      have := hxx.blk_lt hlive
      omega
    · rw [if_neg e] at hx hM
      by_cases e' : b' = H.n
      · rw [if_pos e'] at hx' hM'
        cases hM'
        obtain ⟨N, hN, hxx⟩ := h.obj b x hx
        rw [hN] at hM; cases hM
        have := hxx.blk_lt (by cases x <;> simp_all [AObj.owns, AObj.live])
        omega
      · rw [if_neg e'] at hx' hM'
        exact h.sep b b' x x' M M' hne hx hx' hown hlive hM hM'

/-- One block of ours turns, and with it the model's block that it lies in. -/
theorem HR.turn (h : HR P E B H w) {b : Nat} {o o₂ : AObj} {L : Loc} {o' : Obj} (hb : H.get b = some o) (hL : E b = some L) (hown : o.owns = true)
    (ho : OR P E B (w.putObj L.blk o') L o₂) : HR P E B (H.set b o₂) (w.putObj L.blk o') := by
  refine ⟨fun c M hc => by simpa using h.dom c M hc, fun c x hc => ?_, fun k hk => by simpa using h.base k hk, h.glob, fun c c' x x' M M' hne hx hx' ho1 hl1 hM hM' => ?_⟩
  · rw [AH.get_set] at hc
    by_cases e : c = b
    · subst e; rw [if_pos rfl] at hc; cases hc; exact ⟨L, hL, ho⟩
    · rw [if_neg e] at hc
      obtain ⟨M, hM, hx⟩ := h.obj c x hc
      refine ⟨M, hM, ?_⟩
      by_cases hl : x.live = true
      · exact hx.same (Env.le.refl E) (World.putObj_heap_other (fun e' => h.sep b c o x L M (Ne.symm e) hb hc hown hl hL hM e'.symm))
      · cases x <;> first | trivial | (exact absurd rfl hl)
  · rw [AH.get_set] at hx hx'
    have hlive : ∀ {y : AObj}, y.owns = true → y.live = true := fun {y} hy => by cases y <;> simp_all [AObj.owns, AObj.live]
    by_cases e : c = b
    · rw [if_pos e] at hx
      rw [if_neg (fun e' => hne (e.trans e'.symm))] at hx'
      exact h.sep c c' o x' M M' hne (e ▸ hb) hx' hown hl1 hM hM'
    · rw [if_neg e] at hx
      by_cases e' : c' = b
      · rw [if_pos e'] at hx'
        exact h.sep c c' x o M M' hne hx (e' ▸ hb) ho1 (hlive hown) hM hM'
      · rw [if_neg e'] at hx'
        exact h.sep c c' x x' M M' hne hx hx' ho1 hl1 hM hM'

/-- A block is given up. -/
theorem HR.kill (h : HR P E B H w) {b : Nat} {o : AObj} (hb : H.get b = some o) : HR P E B (H.set b .dead) w := by
  refine ⟨fun c M hc => by simpa using h.dom c M hc, fun c x hc => ?_, h.base, h.glob, fun c c' x x' M M' hne hx hx' ho1 hl1 hM hM' => ?_⟩
  · rw [AH.get_set] at hc
    by_cases e : c = b
    · subst e; rw [if_pos rfl] at hc; cases hc
      obtain ⟨L, hL, _⟩ := h.obj c o hb
      exact ⟨L, hL, trivial⟩
    · rw [if_neg e] at hc; exact h.obj c x hc
  · rw [AH.get_set] at hx hx'
    by_cases e : c = b
    · rw [if_pos e] at hx; cases hx; cases ho1
    · rw [if_neg e] at hx
      by_cases e' : c' = b
      · rw [if_pos e'] at hx'; cases hx'; cases hl1
      · rw [if_neg e'] at hx'; exact h.sep c c' x x' M M' hne hx hx' ho1 hl1 hM hM'

/-- A block is given up for a new one that lies in its place. -/
theorem HR.regrow (h : HR P E B H w) {b : Nat} {o o₂ : AObj} {L L₂ : Loc} {o' : Obj} (hb : H.get b = some o) (hL : E b = some L) (hown : o.owns = true) (hblk : L₂.blk = L.blk)
    (ho : OR P (E.put H.n L₂) B (w.putObj L.blk o') L₂ o₂) : HR P (E.put H.n L₂) B ((H.set b .dead).alloc o₂) (w.putObj L.blk o') := by
  have hle := h.put_le L₂
  have hbn := h.lt hb
  have hlive : ∀ {y : AObj}, y.owns = true → y.live = true := fun {y} hy => by cases y <;> simp_all [AObj.owns, AObj.live]
  refine ⟨fun c M hc => ?_, fun c x hc => ?_, fun k hk => by simpa using h.base k hk, fun g hg => by obtain ⟨M, h1, h2⟩ := h.glob g hg; exact ⟨M, hle _ _ h1, h2⟩, fun c c' x x' M M' hne hx hx' ho1 hl1 hM hM' => ?_⟩
  · unfold Env.put at hc
    by_cases e : c = H.n
    · subst e; simp
    · rw [if_neg e] at hc; have := h.dom _ _ hc; simp; omega
  · rw [AH.get_alloc] at hc
    by_cases e : c = H.n
    · subst e
      rw [if_pos (by simp)] at hc; cases hc
      exact ⟨L₂, by simp [Env.put], ho⟩
    · rw [if_neg (by simpa using e), AH.get_set] at hc
      by_cases e' : c = b
      · subst e'
        rw [if_pos rfl] at hc; cases hc
        exact ⟨L, hle _ _ hL, trivial⟩
      · rw [if_neg e'] at hc
        obtain ⟨M, hM, hx⟩ := h.obj c x hc
        refine ⟨M, hle _ _ hM, ?_⟩
        by_cases hl : x.live = true
        · exact hx.same hle (World.putObj_heap_other (fun e'' => h.sep b c o x L M (Ne.symm e') hb hc hown hl hL hM e''.symm))
        · cases x <;> first | trivial | (exact absurd rfl hl)
  · -- who lies apart from whom
    rw [AH.get_alloc] at hx hx'
    unfold Env.put at hM hM'
    by_cases e : c = H.n
    · rw [if_pos e] at hM; cases hM
      rw [if_neg (fun e' => hne (e.trans e'.symm))] at hM'
      rw [if_neg (by simpa using fun e' => hne (e.trans e'.symm)), AH.get_set] at hx'
      by_cases e' : c' = b
      · rw [if_pos e'] at hx'; cases hx'; cases hl1
      · rw [if_neg e'] at hx'
        rw [hblk]
        exact h.sep b c' o x' L M' (Ne.symm e') hb hx' hown hl1 hL hM'
    · rw [if_neg e] at hM
      rw [if_neg (by simpa using e), AH.get_set] at hx
      by_cases e' : c = b
      · rw [if_pos e'] at hx; cases hx; cases ho1
      · rw [if_neg e'] at hx
        by_cases e2 : c' = H.n
        · rw [if_pos e2] at hM'; cases hM'
          rw [hblk]
          exact h.sep c b x o M L e' hx hb ho1 (hlive hown) hM hL
        · rw [if_neg e2] at hM'
          rw [if_neg (by simpa using e2), AH.get_set] at hx'
          by_cases e3 : c' = b
          · rw [if_pos e3] at hx'; cases hx'; cases hl1
          · rw [if_neg e3] at hx'
            exact h.sep c c' x x' M M' hne hx hx' ho1 hl1 hM hM'

/-! ### Cells -/

/-- The segment's values, one by one. -/
theorem seg_get {X : Array Value} {off n i : Nat} (hi : i < n) : ((X.toList.drop off).take n)[i]? = X[off + i]? := by
  rw [List.getElem?_take_of_lt hi, List.getElem?_drop, Array.getElem?_toList]

theorem read_cells {L : Loc} {cs : List AV} {e : TypeId} {fl : Fl} (ho : OR P E B w L (.cells cs e fl)) {o n : Nat} (hn : o + n ≤ cs.length) :
    ∃ ys, VRs E ((cs.drop o).take n) ys ∧ (loadCells ⟨L.blk, L.off + o, none⟩ n).run P w = .ok ys.toArray w := by
  obtain ⟨X, lo, hi, h1, h2, h3, h4, h5, _⟩ := ho
  have h6 := (h5.drop o).take n
  have hl := h6.length
  refine ⟨_, h6, ?_⟩
  have hlen : (List.take n (List.drop o (List.take cs.length (List.drop L.off X.toList)))).length = n := by rw [← hl]; simp; omega
  have := run_loadCells_list (P := P) w ⟨L.blk, L.off + o, none⟩ (List.take n (List.drop o (List.take cs.length (List.drop L.off X.toList)))) (fun j v hj => by
    have hjn : j < n := by have := (List.getElem?_eq_some_iff.1 hj).1; omega
    rw [List.getElem?_take_of_lt hjn, List.getElem?_drop, seg_get (by omega)] at hj
    have hadd : (⟨L.blk, L.off + o, none⟩ : Addr).add j = ⟨L.blk, L.off + o + j, none⟩ := by unfold Addr.add; split <;> simp_all
    rw [hadd]
    simp only [World.cell?, h1]
    simp
    rw [show L.off + o + j = L.off + (o + j) by omega]; exact hj)
  rw [hlen] at this
  exact this

/-- The same, the list written out. -/
theorem read_seg {L : Loc} {cs : List AV} {e : TypeId} {fl : Fl} (ho : OR P E B w L (.cells cs e fl)) : ∃ seg : List Value, VRs E cs seg ∧
    ∀ w', w'.heap = w.heap → ∀ o n, o + n ≤ cs.length → (loadCells ⟨L.blk, L.off + o, none⟩ n).run P w' = .ok ((seg.drop o).take n).toArray w' := by
  obtain ⟨X, lo, hi, h1, h2, h3, h4, h5, _⟩ := ho
  refine ⟨_, h5, fun w' hw' o n hn => ?_⟩
  have h6 := (h5.drop o).take n
  have hl := h6.length
  have hlen : (List.take n (List.drop o (List.take cs.length (List.drop L.off X.toList)))).length = n := by rw [← hl]; simp; omega
  have := run_loadCells_list (P := P) w' ⟨L.blk, L.off + o, none⟩ (List.take n (List.drop o (List.take cs.length (List.drop L.off X.toList)))) (fun j v hj => by
    have hjn : j < n := by have := (List.getElem?_eq_some_iff.1 hj).1; omega
    rw [List.getElem?_take_of_lt hjn, List.getElem?_drop, seg_get (by omega)] at hj
    have hadd : (⟨L.blk, L.off + o, none⟩ : Addr).add j = ⟨L.blk, L.off + o + j, none⟩ := by unfold Addr.add; split <;> simp_all
    rw [hadd]
    simp only [World.cell?, hw', h1]
    simp
    rw [show L.off + o + j = L.off + (o + j) by omega]; exact hj)
  rw [hlen] at this
  exact this

theorem AH.read_some {b o n : Nat} {vs : List AV} (h : H.read b o n = some vs) : ∃ cs e fl, H.get b = some (.cells cs e fl) ∧ o + n ≤ cs.length ∧ vs = (cs.drop o).take n := by
  unfold AH.read at h
  split at h
  · rename_i cs e fl hb
    split at h
    · rename_i hn; cases h; exact ⟨cs, e, fl, hb, hn, rfl⟩
    · cases h
  · cases h

theorem run_read (h : HR P E B H w) {b o n : Nat} {vs : List AV} (hr : H.read b o n = some vs) :
    ∃ L ys, E b = some L ∧ VRs E vs ys ∧ (loadCells ⟨L.blk, L.off + o, none⟩ n).run P w = .ok ys.toArray w := by
  obtain ⟨cs, e, fl, hb, hn, rfl⟩ := AH.read_some hr
  obtain ⟨L, hL, ho⟩ := h.obj _ _ hb
  obtain ⟨ys, h1, h2⟩ := read_cells ho hn
  exact ⟨L, ys, hL, h1, h2⟩

theorem run_read1 (h : HR P E B H w) {b o : Nat} {v : AV} (hr : H.read1 b o = some v) :
    ∃ L x, E b = some L ∧ VR E v x ∧ w.cell? ⟨L.blk, L.off + o, none⟩ = some x := by
  unfold AH.read1 at hr
  split at hr
  · rename_i cs e fl hb
    obtain ⟨L, hL, X, lo, hi, h1, h2, h3, h4, h5, _⟩ := h.obj _ _ hb
    obtain ⟨y, hy, hv⟩ := h5.get hr
    have hlt : o < cs.length := (List.getElem?_eq_some_iff.1 hr).1
    rw [seg_get hlt] at hy
    refine ⟨L, y, hL, hv, ?_⟩
    simp only [World.cell?, h1]
    simpa using hy
  · cases hr

theorem setCell_put {g k : Nat} {X : Array Value} {t : TypeId} {fr : Nat × Nat} (h : w.heap[g]? = some (.cells X t fr)) (v : Value) :
    w.setCell ⟨g, k, none⟩ v = w.putObj g (.cells (X.setIfInBounds k v) t fr) := by
  unfold World.setCell World.putObj
  congr 1
  apply Array.ext_getElem?
  intro i
  rw [Array.getElem?_modify]
  by_cases e : g = i
  · subst e; obtain ⟨lo, hi⟩ := fr; obtain ⟨hlt, hx⟩ := Array.getElem?_eq_some_iff.1 h; simp [hlt, hx]
  · simp [e, Array.getElem?_setIfInBounds_ne e]

def spliceA (X : Array Value) (o : Nat) (vs : List Value) : Array Value := (X.toList.take o ++ (vs ++ X.toList.drop (o + vs.length))).toArray

theorem spliceA_nil (X : Array Value) (o : Nat) : spliceA X o [] = X := by simp [spliceA]

theorem spliceA_cons (X : Array Value) (o : Nat) (v : Value) (vs : List Value) (h : o < X.size) : spliceA (X.setIfInBounds o v) (o + 1) vs = spliceA X o (v :: vs) := by
  have ho : o < X.toList.length := by simpa using h
  apply Array.ext'
  simp only [spliceA, Array.toList_setIfInBounds]
  rw [List.take_succ_eq_append_getElem (by simpa using h)]
  simp only [List.getElem_set_self, List.append_assoc, List.length_cons]
  rw [List.take_set_of_le (Nat.le_refl _)]
  congr 1
  simp only [List.cons_append, List.nil_append]
  congr 1
  congr 1
  rw [List.drop_set_of_lt (by omega)]
  congr 1
  omega

theorem run_storeRow {g : Nat} {t : TypeId} {lo hi off : Nat} : ∀ (vs : List Value) (i : Nat) (X : Array Value) (w : World), w.heap[g]? = some (.cells X t (lo, hi)) → off + i + vs.length ≤ X.size →
    (∀ k, off + i ≤ k → k < off + i + vs.length → ¬ (lo ≤ k ∧ k < hi)) → (∀ v ∈ vs, v.oneCell' = true) →
    (storeCells ⟨g, off, none⟩ vs i).run P w = .ok () (w.putObj g (.cells (spliceA X (off + i) vs) t (lo, hi)))
  | [], i, X, w, h, _, _, _ => by
    have hw : w.putObj g (.cells X t (lo, hi)) = w := by
      unfold World.putObj
      have : w.heap.setIfInBounds g (.cells X t (lo, hi)) = w.heap := by
        apply Array.ext_getElem?
        intro j
        by_cases e : g = j
        · subst e; obtain ⟨hlt, hx⟩ := Array.getElem?_eq_some_iff.1 h; simp [hlt, hx]
        · rw [Array.getElem?_setIfInBounds_ne e]
      rw [this]
    rw [spliceA_nil, hw]; rfl
  | v :: vs, i, X, w, h, hlen, hfz, hone => by
    simp only [List.length_cons] at hlen hfz
    have hadd : (⟨g, off, none⟩ : Addr).add i = ⟨g, off + i, none⟩ := by unfold Addr.add; split <;> simp_all
    have hc : w.cell? ⟨g, off + i, none⟩ = some X[off + i] := by simp only [World.cell?, h]; simp [show off + i < X.size by omega]
    have hf : w.frozen? ⟨g, off + i, none⟩ = false := by
      have := hfz (off + i) (Nat.le_refl _) (by omega)
      simp only [World.frozen?, h]
      simp only [Bool.and_eq_false_iff, decide_eq_false_iff_not]
      by_cases hl : lo ≤ off + i
      · exact .inr (fun hh => this ⟨hl, hh⟩)
      · exact .inl hl
    have hst : (store ((⟨g, off, none⟩ : Addr).add i) v).run P w = .ok () (w.putObj g (.cells (X.setIfInBounds (off + i) v) t (lo, hi))) := by
      rw [hadd, run_store P w _ v _ (hone v (by simp))]
      simp [hc, hf, setCell_put h]
    have hlt : g < w.heap.size := (Array.getElem?_eq_some_iff.1 h).1
    have ih := run_storeRow (off := off) vs (i + 1) (X.setIfInBounds (off + i) v) (w.putObj g (.cells (X.setIfInBounds (off + i) v) t (lo, hi))) (World.putObj_heap_same hlt) (by simp; omega)
      (fun k h1 h2 => hfz k (by omega) (by omega)) (fun x hx => hone x (by simp [hx]))
    simp only [storeCells, Sem.run_bind, hst, Result.andThen_ok, ih]
    rw [show off + (i + 1) = off + i + 1 by omega, spliceA_cons _ _ _ _ (by omega)]
    congr 1
    simp [World.putObj]

theorem seg_splice {cs : List AV} {X : Array Value} {off o : Nat} {vs : List AV} {ys : List Value} (h : VRs E cs ((X.toList.drop off).take cs.length)) (hX : off + cs.length ≤ X.size) (hv : VRs E vs ys) (ho : o + vs.length ≤ cs.length) :
    VRs E (splice cs o vs) (((spliceA X (off + o) ys).toList.drop off).take (splice cs o vs).length) := by
  have hl := hv.length
  have hlen : (splice cs o vs).length = cs.length := by simp [splice]; omega
  rw [hlen]
  have e : ((spliceA X (off + o) ys).toList.drop off).take cs.length = ((X.toList.drop off).take cs.length).take o ++ (ys ++ ((X.toList.drop off).take cs.length).drop (o + vs.length)) := by
    apply List.ext_getElem?
    intro i
    by_cases hi : i < cs.length
    · rw [List.getElem?_take_of_lt hi, List.getElem?_drop]
      simp only [spliceA, hl]
      by_cases h1 : i < o
      · rw [List.getElem?_append_left (by simp; omega), List.getElem?_append_left (by simp; omega), List.getElem?_take_of_lt (by omega), List.getElem?_take_of_lt h1, List.getElem?_take_of_lt hi, List.getElem?_drop]
      · have hA : (List.take (off + o) X.toList).length = off + o := by simp; omega
        have hB : (List.take o (List.take cs.length (List.drop off X.toList))).length = o := by simp; omega
        rw [List.getElem?_append_right (l₁ := List.take (off + o) X.toList) (by omega), List.getElem?_append_right (l₁ := List.take o (List.take cs.length (List.drop off X.toList))) (by omega), hA, hB]
        rw [show off + i - (off + o) = i - o by omega]
        by_cases h2 : i - o < ys.length
        · rw [List.getElem?_append_left h2, List.getElem?_append_left h2]
        · rw [List.getElem?_append_right (l₁ := ys) (by omega), List.getElem?_append_right (l₁ := ys) (by omega), List.getElem?_drop, List.getElem?_drop, List.getElem?_take_of_lt (by omega), List.getElem?_drop]
          congr 1; omega
    · rw [List.getElem?_eq_none (by simp; omega), List.getElem?_eq_none (by simp; omega)]
  rw [e]
  exact (h.take o).append (hv.append (h.drop _))

theorem splice_ones {cs vs : List AV} {o : Nat} (h : ∀ v ∈ cs, v.one = true) (k : ∀ v ∈ vs, v.one = true) : ∀ v ∈ splice cs o vs, v.one = true := by
  intro v hv
  simp only [splice, List.mem_append] at hv
  rcases hv with hv | hv | hv
  · exact h v (List.mem_of_mem_take hv)
  · exact k v hv
  · exact h v (List.mem_of_mem_drop hv)

theorem run_write (h : HR P E B H w) {b o : Nat} {vs : List AV} {H' : AH} {ys : List Value} (hw : H.write b o vs = some H') (hv : VRs E vs ys) :
    ∃ L w', E b = some L ∧ (storeCells ⟨L.blk, L.off + o, none⟩ ys).run P w = .ok () w' ∧ HR P E B H' w' ∧ Below B w w' := by
  unfold AH.write at hw
  split at hw
  · rename_i cs e fl hb
    split at hw
    · rename_i hc
      obtain ⟨hown, hfz, hlen, hone⟩ := hc
      cases hw
      obtain ⟨L, hL, ho⟩ := h.obj _ _ hb
      have ho' := ho
      obtain ⟨X, lo, hi, h1, h2, h3, h4, h5, h6, h7, h8⟩ := ho
      obtain ⟨hB, hF, hS⟩ := h6 hown
      have hl := hv.length
      have hst := run_storeRow (P := P) (off := L.off + o) ys 0 X w h1 (by omega) (fun k k1 k2 => hF k (by omega) (by omega)) (VRs.ones hv hone)
      refine ⟨L, _, hL, hst, ?_, Below.putObj (Below.refl B w) hB _⟩
      refine h.turn hb hL hown ?_
      have hlt : L.blk < w.heap.size := (Array.getElem?_eq_some_iff.1 h1).1
      have hsz : (spliceA X (L.off + o + 0) ys).size = X.size := by simp [spliceA]; omega
      refine ⟨_, lo, hi, World.putObj_heap_same hlt, ?_, h3, ?_, ?_, fun _ => ⟨hB, ?_, hS⟩, h7, splice_ones h8.1 (by simpa using hone), fun hw => ?_⟩
      · rw [h2]; simp [splice]; omega
      · rw [hsz]; simp only [splice]; simp; omega
      · exact seg_splice h5 (by omega) hv hlen
      · rw [hsz]; exact hF
      · obtain ⟨g1, g2, g3⟩ := h8.2 hw
        refine ⟨g1, ?_, g3⟩
        simp [spliceA, splice]; omega
    · cases hw
  · cases hw

end
end Go.Am

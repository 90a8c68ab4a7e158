/- The abstract machine: a range over a function; a function out of its body. -/
import Derived.Test.YtlkdhhkncoekgaaDoorAmK
namespace Go.Am
open Go.RowKit

section
variable {P : Program} {Q : AEx → St → Prop} {s : St}

/-- What is asked when the function that was ranged over has returned. -/
def rangeA (P : Program) (r : Option Nat) (l : Nat) (T : List AV) (M : List Nat) (Q : AEx → St → Prop) : AV → AH → Prop := fun _ H' =>
  ∃ st pe T' ps as bd d, H'.get l = some (.loop st pe T' ps as bd d) ∧ st ≠ .busy ∧
    match pe with
    | none => Q .normal ⟨T, M, H'.set l .dead⟩
    | some c => AWp P r c Q ⟨T, M, H'.set l .dead⟩

theorem rangeA_sim {r rc : Option Nat} {l : Nat} {T : List AV} {M : List Nat} {v : AV} {H' : AH} (h : rangeA P r l T M Q v H')
    {E E' : Env} {B : Bnd} {w w' : World} {a : Act} {L : Loc} (hL : E' l = some L) (hE : E.le E') (hH : HR P E' B H' w') (hT : VRs E' T a.tmps.toList) (hM : MR E' M a.defers) (hr : RR E' r rc) (hb : Below B w w') (u : Value) :
    rangePost (Fr rc) 0 P L.blk (APost P E B w Q) a (.returned u) w' := by
  obtain ⟨st, pe, T', ps, as, bd, d, hg, hne, hpe⟩ := h
  obtain ⟨rec, hrec, rfl, rfl, rfl, rfl, rfl, hT', hset⟩ := hH.loop hL hg
  have hBl : ¬ B L.blk := by
    obtain ⟨L', hL', ho⟩ := hH.obj _ _ hg
    rw [hL] at hL'; cases hL'
    obtain ⟨_, _, _, _, _, _, h4⟩ := ho
    exact h4
  have hH'' : HR P E' B (H'.set l .dead) (w'.putObj L.blk (.loop { rec with state := .exhausted })) := hH.turn hg hL rfl trivial
  have hb' : Below B w (w'.putObj L.blk (.loop { rec with state := .exhausted })) := Below.putObj hb hBl _
  refine ⟨_, _, run_endLoop hrec hne, ?_⟩
  generalize (w'.putObj L.blk (.loop { rec with state := .exhausted })) = W2 at hH'' hb'
  cases hp : rec.pending with
  | none =>
    rw [hp] at hpe
    exact ⟨.normal, _, E', rfl, hpe, hE, ⟨hH'', hT, hM⟩, hb'⟩
  | some c =>
    rw [hp] at hpe
    exact Go.wpIn_mono (hpe E' B _ a rc ⟨hH'', hT, hM⟩ hr) fun e a w h => h.trans hE hb'

/-- A range over a function, outside a round. -/
theorem AWp.rangeFunc {g : Operand} {ps : Array Tmp} {as bd : Code} {gf : FuncId} {x y : List AV} (hgo : Goes P gf) (hg : ev P s.T g = some (.func (.func gf) x y))
    (h : ACall P gf (x ++ [.yld (s.H.n + 1)] ++ y) ((s.H.alloc .deferred).alloc (.loop .ready none s.T ps as bd s.H.n)) (rangeA P none (s.H.n + 1) s.T (s.H.n :: s.M) Q)) :
    AWp P none (.rangeFunc g ps as bd) Q s := by
  intro E B w a rc hs hr
  obtain rfl : rc = none := hr
  obtain ⟨x', y', h2, h3, h4⟩ := eval_sim hs.heap hs.tmps hg
  refine wpIn_rangeFunc fun fn _ => ?_
  obtain ⟨W0, hW0⟩ : ∃ W0, w.alloc (.deferred (some [])) = W0 := ⟨_, rfl⟩
  have hs0 : W0.heap.size = w.heap.size + 1 := by rw [← hW0]; simp
  have hH0 : HR P (E.put s.H.n ⟨w.heap.size, 0, 0, 0, 0⟩) B (s.H.alloc .deferred) W0 := by
    rw [← hW0]
    exact hs.heap.alloc rfl ⟨World.alloc_heap_new w _, hs.heap.fresh⟩
  have hE0 : E.le (E.put s.H.n ⟨w.heap.size, 0, 0, 0, 0⟩) := hs.heap.put_le _
  generalize hE0' : E.put s.H.n ⟨w.heap.size, 0, 0, 0, 0⟩ = E0 at hH0 hE0
  have hEd : E0 s.H.n = some ⟨w.heap.size, 0, 0, 0, 0⟩ := by rw [← hE0']; simp [Env.put]
  have hE1 : E0.le (E0.put (s.H.n + 1) ⟨W0.heap.size, 0, 0, 0, 0⟩) := hH0.put_le ⟨W0.heap.size, 0, 0, 0, 0⟩
  have hH1 : HR P (E0.put (s.H.n + 1) ⟨W0.heap.size, 0, 0, 0, 0⟩) B ((s.H.alloc .deferred).alloc (.loop .ready none s.T ps as bd s.H.n))
      (W0.alloc (.loop { state := .ready, pending := none, fn, tmps := a.tmps, params := ps, assign := as, body := bd, defers := w.heap.size })) :=
    hH0.alloc rfl ⟨fn, a.tmps, ⟨w.heap.size, 0, 0, 0, 0⟩, World.alloc_heap_new W0 _, VRs.mono (hE0.trans hE1) _ _ hs.tmps, hE1 _ _ hEd, hH0.fresh⟩
  generalize hE1' : E0.put (s.H.n + 1) ⟨W0.heap.size, 0, 0, 0, 0⟩ = E1 at hH1 hE1
  have hEl : E1 (s.H.n + 1) = some ⟨W0.heap.size, 0, 0, 0, 0⟩ := by rw [← hE1']; simp [Env.put]
  generalize hW1 : W0.alloc (.loop { state := .ready, pending := none, fn, tmps := a.tmps, params := ps, assign := as, body := bd, defers := w.heap.size }) = W1 at hH1
  have hb1 : Below B w W1 := by
    rw [← hW1, ← hW0]
    exact ((Below.refl B w).alloc hs.heap.base _).alloc (fun k hk => by have := hs.heap.base k hk; simp; omega) _
  have hE := hE0.trans hE1
  refine ⟨W0.heap.size, [{ target := .collected w.heap.size, args := #[] }], W1, { target := .fn (.func gf) y', args := x' ++ #[.func (.yield W0.heap.size) #[] #[]] }, W1, gf,
    x' ++ #[.func (.yield W0.heap.size) #[] #[]] ++ y', W1, ?_, ?_, fun _ _ => trivial, ?_, fun h => by simp [Fr, Fence.wide] at h, callsIn_fr.2 (Calls.mono (h E1 B W1 _ hH1 ?_) ?_)⟩
  · rw [hs0, ← hW1, ← hW0]
    exact run_enterLoop_outer fn a.tmps ps as bd
  · have := run_resolve_value (P := P) h2 #[.const (.func (.yield W0.heap.size) #[] #[])] #[] 0 W1
    simpa [Act.eval] using this
  · simp only [invoke]; exact hgo _ _
  · have : VRs E1 [.yld (s.H.n + 1)] [Value.func (.yield W0.heap.size) #[] #[]] := ⟨_, _, rfl, ⟨_, hEl, rfl⟩, rfl⟩
    simpa using ((VRs.mono hE _ _ h3).append this).append (VRs.mono hE _ _ h4)
  · rintro e w' ⟨v, H', E', u, rfl, hq, hE', hH', _, hb⟩
    refine rangeA_sim (a := { a with defers := [{ target := .collected w.heap.size, args := #[] }] ++ a.defers }) hq (hE' _ _ hEl) (hE.trans hE') hH' (VRs.mono (hE.trans hE') _ _ hs.tmps) ?_ rfl (hb1.trans hb) u
    exact ⟨_, _, hE' _ _ (hE1 _ _ hEd), rfl, hs.marks.mono (hE.trans hE')⟩

/-- A range over a function, in a round of another. -/
theorem AWp.rangeFunc_in {b₀ : Nat} {g : Operand} {ps : Array Tmp} {as bd : Code} {gf : FuncId} {x y : List AV} {st₀ : LoopState} {pe₀ : Option Code} {T₀ : List AV} {ps₀ : Array Tmp} {as₀ bd₀ : Code} {d₀ : Nat}
    (hb₀ : s.H.get b₀ = some (.loop st₀ pe₀ T₀ ps₀ as₀ bd₀ d₀)) (hgo : Goes P gf) (hg : ev P s.T g = some (.func (.func gf) x y))
    (h : ACall P gf (x ++ [.yld s.H.n] ++ y) (s.H.alloc (.loop .ready none s.T ps as bd d₀)) (rangeA P (some b₀) s.H.n s.T s.M Q)) :
    AWp P (some b₀) (.rangeFunc g ps as bd) Q s := by
  intro E B w a rc hs hr
  have hr₀ := hr
  obtain ⟨L₀, hL₀, rfl⟩ := hr
  obtain ⟨x', y', h2, h3, h4⟩ := eval_sim hs.heap hs.tmps hg
  obtain ⟨L₀', hL₀', fn₀, tmps₀, Ld, hrec₀, _, hLd, _⟩ := hs.heap.obj _ _ hb₀
  rw [hL₀] at hL₀'; cases hL₀'
  refine wpIn_rangeFunc fun fn _ => ?_
  have hE1 : E.le (E.put s.H.n ⟨w.heap.size, 0, 0, 0, 0⟩) := hs.heap.put_le ⟨w.heap.size, 0, 0, 0, 0⟩
  have hH1 : HR P (E.put s.H.n ⟨w.heap.size, 0, 0, 0, 0⟩) B (s.H.alloc (.loop .ready none s.T ps as bd d₀))
      (w.alloc (.loop { state := .ready, pending := none, fn, tmps := a.tmps, params := ps, assign := as, body := bd, defers := Ld.blk })) :=
    hs.heap.alloc rfl ⟨fn, a.tmps, Ld, World.alloc_heap_new w _, VRs.mono hE1 _ _ hs.tmps, hE1 _ _ hLd, hs.heap.fresh⟩
  generalize hE1' : E.put s.H.n ⟨w.heap.size, 0, 0, 0, 0⟩ = E1 at hH1 hE1
  have hEl : E1 s.H.n = some ⟨w.heap.size, 0, 0, 0, 0⟩ := by rw [← hE1']; simp [Env.put]
  generalize hW1 : w.alloc (.loop { state := .ready, pending := none, fn, tmps := a.tmps, params := ps, assign := as, body := bd, defers := Ld.blk }) = W1 at hH1
  have hb1 : Below B w W1 := by rw [← hW1]; exact (Below.refl B w).alloc hs.heap.base _
  refine ⟨w.heap.size, [], W1, { target := .fn (.func gf) y', args := x' ++ #[.func (.yield w.heap.size) #[] #[]] }, W1, gf,
    x' ++ #[.func (.yield w.heap.size) #[] #[]] ++ y', W1, ?_, ?_, fun _ _ => trivial, ?_, fun h => by simp [Fr, Fence.wide] at h, callsIn_fr.2 (Calls.mono (h E1 B W1 _ hH1 ?_) ?_)⟩
  · rw [← hW1]
    show (Instr.enterLoop fn a.tmps ps as bd (some L₀.blk)).run P w = _
    unfold Instr.enterLoop
    simp only [Sem.run_bind, run_getLoop hrec₀, run_newObj_alloc, Result.andThen, Sem.run_pure]
  · have := run_resolve_value (P := P) h2 #[.const (.func (.yield w.heap.size) #[] #[])] #[] 0 W1
    simpa [Act.eval] using this
  · simp only [invoke]; exact hgo _ _
  · have : VRs E1 [.yld s.H.n] [Value.func (.yield w.heap.size) #[] #[]] := ⟨_, _, rfl, ⟨_, hEl, rfl⟩, rfl⟩
    simpa using ((VRs.mono hE1 _ _ h3).append this).append (VRs.mono hE1 _ _ h4)
  · rintro e w' ⟨v, H', E', u, rfl, hq, hE', hH', _, hb⟩
    exact rangeA_sim (a := { a with defers := [] ++ a.defers }) hq (hE' _ _ hEl) (hE1.trans hE') hH' (VRs.mono (hE1.trans hE') _ _ hs.tmps) (hs.marks.mono (hE1.trans hE')) (hr₀.mono (hE1.trans hE')) (hb1.trans hb) u

end

/-! ### A function -/
section
variable {P : Program}

def takeMarks : List Nat → AH → Option AH
  | [], H => some H
  | m :: ms, H =>
    match H.get m with
    | some .deferred => takeMarks ms (H.set m .dead)
    | _ => none

def resVs (P : Program) (T : List AV) (H : AH) : List ResultVar → Option (List AV)
  | [] => some []
  | .tmp t :: l => (resVs P T H l).map ((T[t]?).getD .undef :: ·)
  | .cell a t :: l => (loadV P H t ((T[a]?).getD .undef)).bind fun v => (resVs P T H l).map (v :: ·)

def oneOf : List AV → AV
  | [v] => v
  | vs => .tuple vs

def retA (P : Program) (fn : Func) (Q : AV → AH → Prop) : AEx → St → Prop := fun e s =>
  (e = .normal ∨ e = .ret) ∧ ∃ H' vs, takeMarks s.M s.H = some H' ∧ resVs P s.T H' fn.results.toList = some vs ∧ Q (oneOf vs) H'

theorem VRs.getD {E : Env} {T : List AV} {X : Array Value} (h : VRs E T X.toList) (t : Nat) : VR E ((T[t]?).getD .undef) (X.getD t undef) := by
  cases hT : T[t]? with
  | none =>
    have : X[t]? = none := by
      rw [← Array.getElem?_toList, List.getElem?_eq_none_iff, ← h.length]; exact List.getElem?_eq_none_iff.1 hT
    rw [Array.getD_eq_getD_getElem?, this]
    exact ⟨#[], rfl, rfl⟩
  | some v =>
    obtain ⟨y, hy, hv⟩ := h.get hT
    rw [Array.getElem?_toList] at hy
    rw [Array.getD_eq_getD_getElem?, hy]
    exact hv

theorem run_loadVar {E : Env} {B : Bnd} {H : AH} {w : World} (h : HR P E B H w) {t : TypeId} {a v : AV} {x : Value} (hv : loadV P H t a = some v) (hx : VR E a x) :
    Got P E w v (do loadVar t (← asAddr x)) := by
  unfold loadV at hv
  split at hv
  · rename_i b o
    obtain ⟨L, hL, rfl⟩ := hx
    split at hv
    · rename_i ha
      obtain ⟨s, hs, hv⟩ := Option.bind_eq_some_iff.1 hv
      obtain ⟨vs, hr, rfl⟩ := Option.map_eq_some_iff.1 hv
      obtain ⟨L', ys, hL', hys, hrun⟩ := run_read h hr
      rw [hL] at hL'; cases hL'
      exact ⟨.agg ys.toArray, by simp [asAddr, loadVar, run_isAgg ha, run_sizeOf' hs, hrun], _, rfl, by simpa using hys⟩
    · rename_i ha
      obtain ⟨L', y, hL', hy, hc⟩ := run_read1 h hv
      rw [hL] at hL'; cases hL'
      exact ⟨y, by simp [asAddr, loadVar, run_isAgg ha, hc], hy⟩
    · cases hv
  · cases hv

def resOf (X : Array Value) : ResultVar → Sem Value
  | .tmp t => pure (X.getD t undef)
  | .cell a t => do loadVar t (← asAddr (X.getD a undef))

theorem run_results {E : Env} {B : Bnd} {H : AH} {w : World} (h : HR P E B H w) {fn : Func} {T : List AV} {X : Array Value} {vs : List AV} (hT : VRs E T X.toList) (hv : resVs P T H fn.results.toList = some vs) :
    Got P E w (oneOf vs) (results fn X) := by
  have key : ∀ (l : List ResultVar) (vs : List AV), resVs P T H l = some vs → ∃ ys : List Value, VRs E vs ys ∧
      (l.mapM (resOf X)).run P w = .ok ys w := by
    intro l
    induction l with
    | nil => intro vs hv; simp only [resVs, Option.some.injEq] at hv; subst hv; exact ⟨[], rfl, by simp⟩
    | cons rv l ih =>
      intro vs hv
      cases rv with
      | tmp t =>
        obtain ⟨us, hu, rfl⟩ := Option.map_eq_some_iff.1 hv
        obtain ⟨ys, hys, hrun⟩ := ih us hu
        refine ⟨_ :: ys, VRs.cons (hT.getD t) hys, ?_⟩
        rw [List.mapM_cons, Sem.run_bind, show (resOf X (.tmp t)).run P w = .ok (X.getD t undef) w from rfl, Result.andThen_ok, Sem.run_bind, hrun]
        rfl
      | cell a t =>
        obtain ⟨v, hv1, hv⟩ := Option.bind_eq_some_iff.1 hv
        obtain ⟨us, hu, rfl⟩ := Option.map_eq_some_iff.1 hv
        obtain ⟨ys, hys, hrun⟩ := ih us hu
        obtain ⟨y, hy, hyv⟩ := run_loadVar h hv1 (hT.getD a)
        refine ⟨y :: ys, VRs.cons hyv hys, ?_⟩
        rw [List.mapM_cons, Sem.run_bind, show (resOf X (.cell a t)).run P w = .ok y w from hy, Result.andThen_ok, Sem.run_bind, hrun]
        rfl
  obtain ⟨ys, hys, hrun⟩ := key _ _ hv
  have hl := hys.length
  refine ⟨if h : ys.toArray.size = 1 then ys.toArray[0] else .tuple ys.toArray, ?_, ?_⟩
  · have h1 : (fn.results.mapM (resOf X)).run P w = .ok ys.toArray w := by
      rw [Array.mapM_eq_mapM_toList, ← bind_pure_comp, Sem.run_bind, hrun]; rfl
    show (do let vs ← fn.results.mapM (resOf X); pure (if h : vs.size = 1 then vs[0] else .tuple vs)).run P w = _
    rw [Sem.run_bind, h1]
    rfl
  · match vs, ys, hys, hl with
    | [v], [y], hys, _ => obtain ⟨y', ys', e, h1, _⟩ := hys; cases e; simpa [oneOf] using h1
    | [], [], hys, _ => exact ⟨#[], by simp, rfl⟩
    | v :: v' :: vs, y :: y' :: ys, hys, _ => exact ⟨_, by simp; rfl, by simpa using hys⟩

theorem leaves_sim {fn : Func} {B : Bnd} {R : Ending → World → Prop} {T : List AV} {X : Array Value} {vs : List AV} : ∀ {M : List Nat} {ds : List Deferred} {E : Env} {H H' : AH} {w : World},
    HR P E B H w → VRs E T X.toList → MR E M ds → takeMarks M H = some H' → resVs P T H' fn.results.toList = some vs →
    (∀ w' x, HR P E B H' w' → VR E (oneOf vs) x → Below B w w' → R (.returned x) w') → LeavesInM (Fr none) 0 P fn X R ds .returning w
  | [], ds, E, H, H', w, hH, hT, hM, ht, hv, hR => by
    obtain rfl : ds = [] := hM
    simp only [takeMarks, Option.some.injEq] at ht
    subst ht
    obtain ⟨x, hx, hxv⟩ := run_results hH hT hv
    exact ⟨x, hx, hR w x hH hxv (Below.refl B w)⟩
  | m :: M, ds, E, H, H', w, hH, hT, hM, ht, hv, hR => by
    obtain ⟨L, ds', hL, rfl, hM'⟩ := hM
    simp only [takeMarks] at ht
    split at ht
    · rename_i hg
      obtain ⟨L', hL', ho⟩ := hH.obj _ _ hg
      rw [hL] at hL'; cases hL'
      have hH' : HR P E B (H.set m .dead) (w.putObj L.blk (.deferred none)) := hH.turn hg hL rfl trivial
      refine ⟨by simp, .inl ⟨L.blk, _, rfl, run_takeDeferred ho.1, leaves_sim hH' hT hM' ht hv fun w' x h1 h2 h3 => hR w' x h1 h2 ((Below.putObj (Below.refl B w) ho.2 _).trans h3)⟩⟩
    · cases ht

/-- A function, out of its body. -/
theorem ACall.body {f : FuncId} {fn : Func} {c : Code} {args : List AV} {H : AH} {Q : AV → AH → Prop} (hf : P.funcs[f]? = some fn) (hb : fn.body = some c)
    (h : AWp P none c (retA P fn Q) ⟨args ++ List.replicate (fn.ntmps - args.length) .undef, [], H⟩) : ACall P f args H Q := by
  intro E B w args' hH ha
  refine callsIn_fr (rc := none) (n := 0) |>.1 (callsIn_of_wp_marks hf hb trivial ?_)
  have hT : VRs E (args ++ List.replicate (fn.ntmps - args.length) .undef) (args' ++ Array.replicate (fn.ntmps - args'.size) undef).toList := by
    have hl : args.length = args'.size := by simpa using ha.length
    rw [hl]
    simpa using ha.append (VRs.replicate (x := .undef) (y := undef) ⟨#[], rfl, rfl⟩ (fn.ntmps - args'.size))
  refine Go.wpIn_mono (h E B w ⟨args' ++ Array.replicate (fn.ntmps - args'.size) undef, []⟩ none ⟨hH, hT, rfl⟩ rfl) ?_
  rintro e a' w' ⟨ae, s', E', rfl, ⟨he, H', vs, h1, h2, h3⟩, hE, hs, hb⟩
  have := leaves_sim (fn := fn) (R := fun e w' => ∃ v H' E' x, e = .returned x ∧ Q v H' ∧ E.le E' ∧ HR P E' B H' w' ∧ VR E' v x ∧ Below B w w') hs.heap hs.tmps hs.marks h1 h2
    fun w'' x hH'' hx hb' => ⟨_, H', E', x, rfl, h3, hE, hH'', hx, hb.trans hb'⟩
  rcases he with rfl | rfl <;> exact this
end

end Go.Am

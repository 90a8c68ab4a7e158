/- The abstract machine: operations in a region, calls of functions, rounds. -/
import Derived.Test.YtlkdhhkncoekgaaDoorAmJ
namespace Go.Am
open Go.RowKit

def putT (T : List AV) (dst : Option Tmp) (v : AV) : List AV :=
  match dst with
  | some d => T.set d v
  | none => T

theorem VRs.put {E : Env} {T : List AV} {a : Act} (h : VRs E T a.tmps.toList) (dst : Option Tmp) {v : AV} {x : Value} (hv : VR E v x) : VRs E (putT T dst v) (a.put dst x).tmps.toList := by
  cases dst with
  | none => exact h
  | some d => simpa [putT, Act.put] using VRs.set d h hv

@[simp] theorem put_defers (a : Act) (dst : Option Tmp) (x : Value) : (a.put dst x).defers = a.defers := by cases dst <;> rfl

/-- Is the operation done? (none: not known) -/
def wantedV (ops : Array Oper) (T : List AV) (o : Oper) : Option Bool :=
  match o.guard with
  | none => some true
  | some (j, want) =>
    match ((ops[j]?).bind (·.dst)).bind (T[·]?) with
    | some (.bool b) => some (b == want)
    | some .any => none
    | _ => some false

theorem wanted_sim {E : Env} {T : List AV} {a : Act} {ops : Array Oper} {o : Oper} {b : Bool} (h : VRs E T a.tmps.toList) (hw : wantedV ops T o = some b) : Region.wanted o (yielded ops a.tmps) = b := by
  unfold wantedV at hw
  unfold Region.wanted
  cases hg : o.guard with
  | none => rw [hg] at hw; simpa using hw
  | some g =>
    obtain ⟨j, want⟩ := g
    rw [hg] at hw
    simp only at hw ⊢
    unfold yielded
    cases hd : (ops[j]?).bind (·.dst) with
    | none => rw [hd] at hw; simp at hw; simp [hw]
    | some d =>
      rw [hd] at hw
      simp only [Option.bind_some] at hw ⊢
      cases hT : T[d]? with
      | none =>
        have : a.tmps[d]? = none := by
          rw [← Array.getElem?_toList, List.getElem?_eq_none_iff, ← h.length]; exact List.getElem?_eq_none_iff.1 hT
        rw [hT] at hw; simp at hw
        simp [this, hw]
      | some v =>
        obtain ⟨y, hy, hv⟩ := h.get hT
        rw [Array.getElem?_toList] at hy
        rw [hT] at hw
        rw [hy]
        match v, hv with
        | .bool u, hv => obtain rfl : y = _ := hv; simp at hw; subst hw; simp
        | .any, _ => simp at hw
        | .int _ _, hv => obtain rfl : y = _ := hv; simp at hw; subst hw; rfl
        | .str _, hv => obtain rfl : y = _ := hv; simp at hw; subst hw; rfl
        | .ptr none, hv => obtain rfl : y = _ := hv; simp at hw; subst hw; rfl
        | .ptr (some (p, q)), hv => obtain ⟨L, _, rfl⟩ := hv; simp at hw; subst hw; rfl
        | .slice none l c, hv => obtain ⟨rfl, _⟩ := hv; simp at hw; subst hw; rfl
        | .slice (some (p, q)) l c, hv => obtain ⟨L, a', c', _, rfl, _⟩ := hv; simp at hw; subst hw; rfl
        | .func f u v, hv => obtain ⟨u', v', rfl, _⟩ := hv; simp at hw; subst hw; rfl
        | .nilFunc, hv => obtain rfl : y = _ := hv; simp at hw; subst hw; rfl
        | .yld u, hv => obtain ⟨L, _, rfl⟩ := hv; simp at hw; subst hw; rfl
        | .iface u v, hv => obtain ⟨z, rfl, _⟩ := hv; simp at hw; subst hw; rfl
        | .nilIface, hv => obtain rfl : y = _ := hv; simp at hw; subst hw; rfl
        | .agg cs, hv => obtain ⟨z, rfl, _⟩ := hv; simp at hw; subst hw; rfl
        | .tuple cs, hv => obtain ⟨z, rfl, _⟩ := hv; simp at hw; subst hw; rfl

/-- One operation, at the temporaries T and the heap H: what it yields, and the heap behind it, is taken by K. -/
def AOp (P : Program) (r : Option Nat) (o : Oper) (T : List AV) (H : AH) (K : AV → AH → Prop) : Prop :=
  ∀ E B w a rc (next : Act → World → Prop) (Q' : Exit → Act → World → Prop), HR P E B H w → OpsOk P E T a o.op.operands → RR E r rc →
    (∀ v H' E' w' x, K v H' → E.le E' → HR P E' B H' w' → VR E' v x → Below B w w' → next (a.put o.dst x) w') → o.wpIn (Fr rc) 0 P a w next Q'

section
variable {P : Program} {r : Option Nat} {o : Oper} {T : List AV} {H : AH} {K : AV → AH → Prop}

theorem AOp.mono {K' : AV → AH → Prop} (h : AOp P r o T H K) (hk : ∀ v H, K v H → K' v H) : AOp P r o T H K' :=
  fun E B w a rc next Q' hH hT hr hn => h E B w a rc next Q' hH hT hr fun v H' E' w' x hv => hn v H' E' w' x (hk v H' hv)

theorem semAt_plain (rc : Option Nat) (ρ : Operand → Value) (o : Oper) (h : ∀ c, o.op ≠ .defer c) : Oper.semAt (Fr rc).round ρ o = execOp ρ o := Oper.semAt_eq _ _ _ h

/-- An operation that calls nothing. -/
theorem AOp.of_opV {v : AV} {H' : AH} (h : opV P T H o = some (v, H')) (k : K v H') : AOp P r o T H K := by
  intro E B w a rc next Q' hH hT hr hn
  obtain ⟨⟨E', w', x, hx, hE, hv, hH', hb⟩, hd⟩ := opV_sim hH hT h
  refine ⟨fun _ _ => trivial, ?_⟩
  rw [semAt_plain rc _ _ hd]
  rcases hx with hx | ⟨hx, rfl⟩
  · rw [hx, Oper.uponIn_value]; exact hn v H' E' w' x k hE hH' hv hb
  · rw [hx, Oper.uponIn_skip]; exact hn v H' E' w' _ k hE hH' hv hb

/-- A call of this function enters it. -/
def Goes (P : Program) (g : FuncId) : Prop := ∀ args w, (callFunc g args).run P w = .ok (.enter g args) w

theorem run_resolve_value {ρ : Operand → Value} {f : Operand} {fn : Fn} {x y : Array Value} (h : ρ f = .func fn x y) (xs : Array Operand) (ts : Array TypeId) (ty : TypeId) (w : World) :
    (resolve ρ { callee := .value f, args := xs, argTypes := ts } ty).run P w = .ok { target := .fn fn y, args := x ++ xs.map ρ } w := by
  simp [resolve, h, Deferred.ofValue]

/-- The function g, called: one of the Go text, or one of the model's own. -/
def ACallee (P : Program) (g : FuncId) (args : List AV) (H : AH) (K : AV → AH → Prop) : Prop :=
  (Goes P g ∧ ACall P g args H K) ∨
  (∀ E B w args', HR P E B H w → VRs E args args'.toList → ∃ v H' E' w' x, (callFunc g args').run P w = .ok (.value x) w' ∧ K v H' ∧ E.le E' ∧ HR P E' B H' w' ∧ VR E' v x ∧ Below B w w')

/-- A call of a Go function. -/
theorem AOp.call {dst : Option Tmp} {f : Operand} {xs : Array Operand} {ts : Array TypeId} {ty : TypeId} {pos : String} {after : Array Edge} {guard : Option (Nat × Bool)} {g : FuncId} {x y vs : List AV}
    (hgo : Goes P g) (hf : ev P T f = some (.func (.func g) x y)) (hx : evs P T xs.toList = some vs) (h : ACall P g (x ++ vs ++ y) H K) :
    AOp P r ⟨dst, .call { callee := .value f, args := xs, argTypes := ts }, ty, pos, after, guard⟩ T H K := by
  intro E B w a rc next Q' hH hT hr hn
  refine ⟨fun _ _ => trivial, ?_⟩
  rw [semAt_plain rc _ _ (by simp)]
  have h1 := evals_ok (a := a) (fun y hy => hT y (by simp [Op.operands, Call.operands]; right; simpa using hy)) hx
  obtain ⟨x', y', h2, h3, h4⟩ := hT f (by simp [Op.operands, Call.operands]) _ hf
  have he : (execOp a.eval ⟨dst, .call { callee := .value f, args := xs, argTypes := ts }, ty, pos, after, guard⟩).run P w = .ok (.enter g (x' ++ xs.map a.eval ++ y')) w := by
    simp only [execOp, Sem.run_bind, run_resolve_value h2, Result.andThen_ok, invoke]
    exact hgo _ _
  rw [he, Oper.uponIn_enter]
  refine ⟨fun h => by simp [Fr, Fence.wide] at h, callsIn_fr.2 (Calls.mono (h E B w _ hH ?_) ?_)⟩
  · simpa using (h3.append (by simpa using h1)).append h4
  · rintro e w' ⟨v, H', E', x, rfl, hq, hE, hH', hv, hb⟩
    exact hn v H' E' w' x hq hE hH' hv hb

theorem AOp.callee {dst : Option Tmp} {f : Operand} {xs : Array Operand} {ts : Array TypeId} {ty : TypeId} {pos : String} {after : Array Edge} {guard : Option (Nat × Bool)} {g : FuncId} {x y vs : List AV}
    (hf : ev P T f = some (.func (.func g) x y)) (hx : evs P T xs.toList = some vs) (h : ACallee P g (x ++ vs ++ y) H K) :
    AOp P r ⟨dst, .call { callee := .value f, args := xs, argTypes := ts }, ty, pos, after, guard⟩ T H K := by
  rcases h with ⟨hgo, h⟩ | h
  · exact AOp.call hgo hf hx h
  · intro E B w a rc next Q' hH hT hr hn
    refine ⟨fun _ _ => trivial, ?_⟩
    rw [semAt_plain rc _ _ (by simp)]
    have h1 := evals_ok (a := a) (fun y hy => hT y (by simp [Op.operands, Call.operands]; right; simpa using hy)) hx
    obtain ⟨x', y', h2, h3, h4⟩ := hT f (by simp [Op.operands, Call.operands]) _ hf
    obtain ⟨v, H', E', w', u, hrun, hk, hE, hH', hv, hb⟩ := h E B w (x' ++ xs.map a.eval ++ y') hH (by simpa using (h3.append (by simpa using h1)).append h4)
    have he : (execOp a.eval ⟨dst, .call { callee := .value f, args := xs, argTypes := ts }, ty, pos, after, guard⟩).run P w = .ok (.value u) w' := by
      simp only [execOp, Sem.run_bind, run_resolve_value h2, Result.andThen_ok, invoke]
      exact hrun
    rw [he, Oper.uponIn_value]
    exact hn v H' E' w' u hk hE hH' hv hb

/-- yield's arguments in the parameters. -/
def setPs : List Tmp → List AV → List AV → List AV
  | p :: ps, v :: vs, T => setPs ps vs (T.set p v)
  | _, _, T => T

theorem setPs_sim {E : Env} : ∀ (ps : List Tmp) {vs : List AV} {ys : List Value} {T : List AV} {X : Array Value}, VRs E vs ys → VRs E T X.toList →
    VRs E (setPs ps vs T) (((ps.zip ys).foldl (fun t (p, v) => t.setIfInBounds p v) X).toList)
  | [], vs, ys, T, X, _, hT => by cases vs <;> exact hT
  | p :: ps, [], ys, T, X, hv, hT => by cases hv; exact hT
  | p :: ps, v :: vs, ys, T, X, hv, hT => by
    obtain ⟨y, ys', rfl, h1, h2⟩ := hv
    simp only [setPs, List.zip_cons_cons, List.foldl_cons]
    exact setPs_sim ps h2 (by simpa using VRs.set p hT h1)

/-- How a round ends: what yield hands back. -/
def roundA (b : Nat) (K : AV → AH → Prop) : AEx → St → Prop := fun e s =>
  ∃ st pe T' ps as bd d, s.H.get b = some (.loop st pe T' ps as bd d) ∧
  match e with
  | .normal => K (.bool true) (s.H.set b (.loop .ready none T' ps as bd d))
  | .ret => K (.bool false) (s.H.set b (.loop .done (some .ret) T' ps as bd d))
  | .exit id => K (.bool false) (s.H.set b (.loop .done (some (.exit id)) T' ps as bd d))
  | .goto l => K (.bool false) (s.H.set b (.loop .done (some (.goto l)) T' ps as bd d))

theorem HR.loop {E : Env} {B : Bnd} {w : World} (hH : HR P E B H w) {b : Nat} {L : Loc} (hL : E b = some L) {st : LoopState} {pe : Option Code} {T' : List AV} {ps : Array Tmp} {as bd : Code} {d : Nat}
    (hb : H.get b = some (.loop st pe T' ps as bd d)) : ∃ rec : Loop, w.heap[L.blk]? = some (.loop rec) ∧ rec.state = st ∧ rec.pending = pe ∧ rec.params = ps ∧ rec.assign = as ∧ rec.body = bd ∧ VRs E T' rec.tmps.toList ∧
      ∀ st' pe', HR P E B (H.set b (.loop st' pe' T' ps as bd d)) (w.putObj L.blk (.loop { rec with state := st', pending := pe' })) ∧ Below B w (w.putObj L.blk (.loop { rec with state := st', pending := pe' })) := by
  obtain ⟨L', hL', ho⟩ := hH.obj _ _ hb
  rw [hL] at hL'; cases hL'
  obtain ⟨fn, tmps, Ld, h1, h2, h3, h4⟩ := ho
  refine ⟨_, h1, rfl, rfl, rfl, rfl, rfl, h2, fun st' pe' => ⟨hH.turn hb hL rfl ⟨fn, tmps, Ld, World.putObj_heap_same (Array.getElem?_eq_some_iff.1 h1).1, h2, h3, h4⟩, Below.putObj (Below.refl B w) h4 _⟩⟩

/-- A call of yield: a round of the loop. -/
theorem AOp.yield {dst : Option Tmp} {f : Operand} {xs : Array Operand} {ts : Array TypeId} {ty : TypeId} {pos : String} {after : Array Edge} {guard : Option (Nat × Bool)} {b : Nat} {vs : List AV}
    {st : LoopState} {pe : Option Code} {T' : List AV} {ps : Array Tmp} {as bd : Code} {d : Nat}
    (hf : ev P T f = some (.yld b)) (hx : evs P T xs.toList = some vs) (hb : H.get b = some (.loop st pe T' ps as bd d)) (hl : vs.length = ps.size)
    (h : AWp P (some b) as (thenA (fun s => ∃ pe' T₁ ps₁ as₁ bd₁ d₁, s.H.get b = some (.loop .ready pe' T₁ ps₁ as₁ bd₁ d₁) ∧
      AWp P (some b) bd (roundA b K) ⟨s.T, s.M, s.H.set b (.loop .busy pe' T₁ ps₁ as₁ bd₁ d₁)⟩) (fun _ _ => False)) ⟨setPs ps.toList vs T', [], H⟩) :
    AOp P r ⟨dst, .call { callee := .value f, args := xs, argTypes := ts }, ty, pos, after, guard⟩ T H K := by
  intro E B w a rc next Q' hH hT hr hn
  refine ⟨fun _ _ => trivial, ?_⟩
  rw [semAt_plain rc _ _ (by simp)]
  have h1 := evals_ok (a := a) (fun y hy => hT y (by simp [Op.operands, Call.operands]; right; simpa using hy)) hx
  obtain ⟨L, hL, h2⟩ := hT f (by simp [Op.operands, Call.operands]) _ hf
  obtain ⟨rec, hrec, rfl, rfl, rfl, rfl, rfl, hT', hset⟩ := hH.loop hL hb
  have hsz : (xs.map a.eval).size = rec.params.size := by rw [← hl, h1.length]; simp
  have he : (execOp a.eval ⟨dst, .call { callee := .value f, args := xs, argTypes := ts }, ty, pos, after, guard⟩).run P w =
      .ok (.round L.blk rec.fn ((rec.params.zip (xs.map a.eval)).foldl (fun tmps (t, a) => tmps.setIfInBounds t a) rec.tmps) rec.assign rec.body) w := by
    simp only [execOp, Sem.run_bind, run_resolve_value h2, Result.andThen_ok, invoke]
    have := run_yield (P := P) (w := w) (args := xs.map a.eval) hrec hsz
    simpa using this
  rw [he, Oper.uponIn_round]
  refine ⟨fun h => by simp [Fr, Fence.wide] at h, roundIn_of_wpIn trivial ?_⟩
  have hTs : VRs E (setPs rec.params.toList vs T') ((rec.params.zip (xs.map a.eval)).foldl (fun tmps (t, a) => tmps.setIfInBounds t a) rec.tmps).toList := by
    have := setPs_sim rec.params.toList h1 hT'
    rw [← Array.foldl_toList, Array.toList_zip]
    simpa using this
  have hw := h E B w ⟨(rec.params.zip (xs.map a.eval)).foldl (fun tmps (t, a) => tmps.setIfInBounds t a) rec.tmps, []⟩ (some L.blk) ⟨hH, hTs, rfl⟩ ⟨L, hL, rfl⟩
  refine Go.wpIn_mono (show Code.wpIn ((Fr rc).inRound L.blk) 0 P _ _ _ _ from hw) ?_
  rintro e a₁ w₁ ⟨ae, s₁, E₁, rfl, hq, hE₁, hs₁, hb₁⟩
  cases ae with
  | normal =>
    obtain ⟨pe', T₁, ps₁, as₁, bd₁, d₁, hb', hbody⟩ := hq
    obtain ⟨rec₁, hrec₁, e1, e2, e3, e4, e5, hT₁, hset₁⟩ := hs₁.heap.loop (hE₁ _ _ hL) hb'
    obtain ⟨hH₂, hb₂⟩ := hset₁ .busy pe'
    refine ⟨_, run_beginRound hrec₁ e1, ?_⟩
    have ee : ({ rec₁ with state := .busy } : Loop) = { rec₁ with state := .busy, pending := pe' } := by rw [← e2]
    rw [ee]
    have hw₂ := hbody E₁ B _ a₁ (some L.blk) ⟨hH₂, hs₁.tmps, hs₁.marks⟩ ⟨L, hE₁ _ _ hL, rfl⟩
    refine Go.wpIn_mono (show Code.wpIn ((Fr rc).inRound L.blk) 0 P _ _ _ _ from hw₂) ?_
    rintro e a₂ w₂ ⟨ae, s₂, E₂, rfl, ⟨st₂, pe₂, T₂, ps₂, as₂, bd₂, d₂, hg₂, hq₂⟩, hE₂, hs₂, hb₂'⟩
    obtain ⟨rec₂, hrec₂, e1', e2', e3', e4', e5', hT₂, hset₂⟩ := hs₂.heap.loop (hE₂ _ _ (hE₁ _ _ hL)) hg₂
    have hbb : Below B w w₂ := hb₁.trans (hb₂.trans hb₂')
    have fin : ∀ (jump : Option Code) (v : AV), v = .bool jump.isNone → K v (s₂.H.set b (.loop (if jump.isNone then .ready else .done) jump T₂ ps₂ as₂ bd₂ d₂)) →
        ∃ v w', (Instr.endRound L.blk jump).run P w₂ = .ok v w' ∧ next (a.put dst v) w' := by
      intro jump v ev hk
      obtain ⟨hH₃, hb₃⟩ := hset₂ (if jump.isNone then .ready else .done) jump
      exact ⟨_, _, run_endRound jump hrec₂, hn _ _ E₂ _ _ hk (hE₁.trans hE₂) hH₃ (by rw [ev]; rfl) (hbb.trans hb₃)⟩
    cases ae with
    | normal => exact fin none _ rfl hq₂
    | ret => exact fin (some .ret) _ rfl hq₂
    | exit id => exact fin (some (.exit id)) _ rfl hq₂
    | goto l => exact fin (some (.goto l)) _ rfl hq₂
  | exit id => exact hq.elim
  | goto l => exact hq.elim
  | ret => exact hq.elim

end

/-! ### A region in its own order -/
section
variable {P : Program} {r : Option Nat}

def AOps (P : Program) (r : Option Nat) (ops : Array Oper) (K : List AV → AH → Prop) : List Oper → List AV → AH → Prop
  | [], T, H => K T H
  | o :: l, T, H => (wantedV ops T o = some true ∧ AOp P r o T H fun v H' => AOps P r ops K l (putT T o.dst v) H') ∨ (wantedV ops T o = some false ∧ AOps P r ops K l (putT T o.dst .undef) H)

theorem AOps.sim {ops : Array Oper} {K : List AV → AH → Prop} {B : Bnd} {M : List Nat} {rc : Option Nat} {Qc : Exit → Act → World → Prop} : ∀ {l : List Oper} {T : List AV} {H : AH} {E : Env} {a : Act} {w : World},
    AOps P r ops K l T H → HR P E B H w → VRs E T a.tmps.toList → MR E M a.defers → RR E r rc →
    (∀ T' H' E' a' w', K T' H' → E.le E' → HR P E' B H' w' → VRs E' T' a'.tmps.toList → MR E' M a'.defers → Below B w w' → Qc .normal a' w') → wpListIn (Fr rc) 0 P ops Qc l a w
  | [], T, H, E, a, w, h, hH, hT, hM, hr, hq => hq T H E a w h (Env.le.refl E) hH hT hM (Below.refl B w)
  | o :: l, T, H, E, a, w, h, hH, hT, hM, hr, hq => by
    rcases h with ⟨hw, h⟩ | ⟨hw, h⟩
    · have := wanted_sim (a := a) hT hw
      simp only [wpListIn, this, if_true]
      refine h E B w a rc _ Qc hH (OpsOk.of hH hT _) hr ?_
      intro v H' E' w' x hk hE hH' hv hb
      exact AOps.sim hk hH' ((VRs.mono hE _ _ hT).put o.dst hv) (by rw [put_defers]; exact hM.mono hE) (hr.mono hE)
        fun T' H'' E'' a' w'' hk' hE' h1 h2 h3 h4 => hq T' H'' E'' a' w'' hk' (hE.trans hE') h1 h2 h3 (hb.trans h4)
    · have := wanted_sim (a := a) hT hw
      simp only [wpListIn, this, Bool.false_eq_true, if_false]
      refine ⟨fun _ _ => trivial, ?_⟩
      exact AOps.sim h hH (hT.put o.dst (v := .undef) (x := undef) ⟨#[], rfl, rfl⟩) (by rw [put_defers]; exact hM) hr hq

theorem AWp.region {id : Nat} {ops : Array Oper} {Q : AEx → St → Prop} {s : St} (h : AOps P r ops (fun T H => Q .normal ⟨T, s.M, H⟩) ops.toList s.T s.H) : AWp P r (.region id ops false) Q s := by
  intro E B w a rc hs hr
  refine wpIn_region_list (h.sim hs.heap hs.tmps hs.marks hr ?_)
  intro T' H' E' a' w' hq hE h1 h2 h3 h4
  exact ⟨.normal, ⟨T', s.M, H'⟩, E', rfl, hq, hE, ⟨h1, h2, h3⟩, h4⟩
end

end Go.Am

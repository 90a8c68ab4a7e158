/- The abstract machine: one operation, whole. -/
import Derived.Test.YtlkdhhkncoekgaaDoorAmH
namespace Go.Am
open Go.RowKit

section
variable {P : Program} {E : Env} {B : Bnd} {H : AH} {w : World}

/-- An operation goes through in the model. -/
def Oped (P : Program) (E : Env) (B : Bnd) (w : World) (a : Act) (o : Oper) (v : AV) (H' : AH) : Prop :=
  ∃ E' w' x, ((execOp a.eval o).run P w = .ok (.value x) w' ∨ ((execOp a.eval o).run P w = .ok .skip w' ∧ x = Go.undef)) ∧ E.le E' ∧ VR E' v x ∧ HR P E' B H' w' ∧ Below B w w'

theorem Made.oped {a : Act} {o : Oper} {v : AV} {H' : AH} {s : Sem Value} (he : execOp a.eval o = (do pure (.value (← s)))) (h : Made P E B w v H' s) : Oped P E B w a o v H' := by
  obtain ⟨x, w', E', h1, h2⟩ := h
  exact ⟨E', w', x, .inl (by rw [he]; simp [h1]), h2⟩

theorem Got.oped (hH : HR P E B H w) {a : Act} {o : Oper} {v : AV} {s : Sem Value} (he : execOp a.eval o = (do pure (.value (← s)))) (h : Got P E w v s) : Oped P E B w a o v H := (h.made hH).oped he

theorem run_builtin (hH : HR P E B H w) {b : Builtin} {ts : Array TypeId} {ty : TypeId} {cs : Array Bool} {xs : List AV} {ys : Array Value} {v : AV} {H' : AH} (h : builtinV P H b ts.toList xs = some (v, H')) (hx : VRs E xs ys.toList) :
    ∃ s, builtin b ts ty cs ys = (do pure (.value (← s))) ∧ Made P E B w v H' s := by
  have ht0 : ∀ {t : TypeId} {l : List TypeId}, ts.toList = t :: l → ts[0]? = some t := fun e => by rw [← Array.getElem?_toList, e]; rfl
  have ht1 : ∀ {t u : TypeId} {l : List TypeId}, ts.toList = t :: u :: l → ts[1]? = some u := fun e => by rw [← Array.getElem?_toList, e]; rfl
  unfold builtinV at h
  split at h
  · rename_i t l x r e
    obtain ⟨z, hz, h⟩ := Option.map_eq_some_iff.1 h
    cases h
    obtain ⟨y, ys', hy, hxy, _⟩ := hx
    exact ⟨_, rfl, (run_lenV ts ys (ht0 e) (by rw [← Array.getElem?_toList, hy]; rfl) hz hxy).made hH⟩
  · rename_i t l x r e
    obtain ⟨z, hz, h⟩ := Option.map_eq_some_iff.1 h
    cases h
    obtain ⟨y, ys', hy, hxy, _⟩ := hx
    exact ⟨_, rfl, (run_capV hH ts ys (ht0 e) (by rw [← Array.getElem?_toList, hy]; rfl) hz hxy).made hH⟩
  · rename_i t u l x q r e
    obtain ⟨y, ys', hy, hxy, y2, ys2, hy2, hxy2, _⟩ := hx
    subst hy2
    exact ⟨_, rfl, run_appendV hH (ht0 e) (ht1 e) (by rw [← Array.getElem?_toList, hy]; rfl) (by rw [← Array.getElem?_toList, hy]; rfl) h hxy hxy2⟩
  · rename_i t l x q r e
    obtain ⟨y, ys', hy, hxy, y2, ys2, hy2, hxy2, _⟩ := hx
    subst hy2
    exact ⟨_, rfl, run_copyV hH (ht0 e) (by rw [← Array.getElem?_toList, hy]; rfl) (by rw [← Array.getElem?_toList, hy]; rfl) h hxy hxy2⟩
  · rename_i x l
    obtain ⟨z, hz, h⟩ := Option.map_eq_some_iff.1 h
    cases h
    obtain ⟨y, ys', hy, hxy, hl⟩ := hx
    refine ⟨Builtin.min_ ts ty ys, rfl, ?_⟩
    obtain ⟨q, hq, hv⟩ := run_min2 (P := P) (w := w) hz hxy hl
    refine Got.made hH ⟨q, ?_, hv⟩
    simp [Builtin.min_, hy, hq]
  · rename_i x l
    obtain ⟨z, hz, h⟩ := Option.map_eq_some_iff.1 h
    cases h
    obtain ⟨y, ys', hy, hxy, hl⟩ := hx
    refine ⟨Builtin.max_ ts ty ys, rfl, ?_⟩
    obtain ⟨q, hq, hv⟩ := run_max2 (P := P) (w := w) hz hxy hl
    refine Got.made hH ⟨q, ?_, hv⟩
    simp [Builtin.max_, hy, hq]
  · rename_i l c
    cases h
    obtain ⟨y, ys', hy, ⟨rfl, _⟩, rfl⟩ := hx
    obtain rfl : ys = #[.slice none l c] := Array.ext' hy
    exact ⟨_, rfl, Got.made hH ⟨.pointer none, rfl, rfl⟩⟩
  · rename_i a l c
    split at h
    · cases h
    · rename_i hc
      cases h
      obtain ⟨y, ys', hy, hxy, rfl⟩ := hx
      obtain ⟨b, o⟩ := a
      obtain ⟨L, a', c', hL, rfl, hlc, hcc, hsp, ha⟩ := hxy
      obtain rfl : ys = #[.slice (some a') l c'] := Array.ext' hy
      have hc0 : c' ≠ 0 := by rcases hcc with e | ⟨_, e⟩ <;> omega
      refine ⟨_, rfl, Got.made hH ⟨.pointer (some a'), ?_, ?_⟩⟩
      · have := Lib.run_unsafeSliceData_row (P := P) w ts ty a' l c' hc0
        exact this
      · exact ⟨L, hL, by rw [ha.resolve_right hc0]⟩
  · rename_i t l p n e
    obtain ⟨y, ys', hy, hxy, y2, ys2, hy2, hxy2, hn⟩ := hx
    subst hy2
    cases hn
    obtain rfl : ys = #[y, y2] := Array.ext' hy
    exact ⟨_, rfl, run_unsafeStringV hH (ht0 e) h hxy hxy2⟩
  · cases h

/-- The operands of an operation stand in the frame as they stand here. -/
def OpsOk (P : Program) (E : Env) (T : List AV) (a : Act) (xs : Array Operand) : Prop := ∀ x, x ∈ xs → ∀ v, ev P T x = some v → VR E v (a.eval x)

theorem OpsOk.of (hH : HR P E B H w) {T : List AV} {a : Act} (hT : VRs E T a.tmps.toList) (xs : Array Operand) : OpsOk P E T a xs := fun _ _ _ hv => eval_sim hH hT hv

theorem evals_ok {T : List AV} {a : Act} : ∀ {xs : List Operand} {vs : List AV}, (∀ x, x ∈ xs → ∀ v, ev P T x = some v → VR E v (a.eval x)) → evs P T xs = some vs → VRs E vs (xs.map a.eval)
  | [], vs, _, hv => by simp only [evs, Option.some.injEq] at hv; subst hv; rfl
  | x :: xs, vs, hT, hv => by
    simp only [evs] at hv
    obtain ⟨v, h1, hv⟩ := Option.bind_eq_some_iff.1 hv
    obtain ⟨vs', h2, hv⟩ := Option.map_eq_some_iff.1 hv
    subst hv
    exact ⟨_, _, rfl, hT x (by simp) v h1, evals_ok (fun y hy => hT y (by simp [hy])) h2⟩

theorem evo_ok {T : List AV} {a : Act} {x : Option Operand} {v : Option AV} (hT : ∀ y, x = some y → ∀ v, ev P T y = some v → VR E v (a.eval y)) (hv : evo P T x = some v) : VRo E v (x.map a.eval) := by
  cases x with
  | none => simp only [evo, Option.some.injEq] at hv; subst hv; rfl
  | some x =>
    simp only [evo] at hv
    obtain ⟨v', h1, hv⟩ := Option.map_eq_some_iff.1 hv
    subst hv
    exact ⟨_, rfl, hT x rfl _ h1⟩

theorem evp_ok {T : List AV} {a : Act} : ∀ {xs : List (Nat × Operand)} {vs : List (Nat × AV)}, (∀ p, p ∈ xs → ∀ v, ev P T p.2 = some v → VR E v (a.eval p.2)) → evp P T xs = some vs → VRp E vs (xs.map fun (i, x) => (i, a.eval x))
  | [], vs, _, hv => by simp only [evp, Option.some.injEq] at hv; subst hv; rfl
  | (i, x) :: xs, vs, hT, hv => by
    simp only [evp] at hv
    obtain ⟨v, h1, hv⟩ := Option.bind_eq_some_iff.1 hv
    obtain ⟨vs', h2, hv⟩ := Option.map_eq_some_iff.1 hv
    subst hv
    exact ⟨_, _, rfl, hT (i, x) (by simp) v h1, evp_ok (fun y hy => hT y (by simp [hy])) h2⟩

theorem opV_sim (hH : HR P E B H w) {T : List AV} {a : Act} {o : Oper} (hT : OpsOk P E T a o.op.operands) {v : AV} {H' : AH} (h : opV P T H o = some (v, H')) :
    Oped P E B w a o v H' ∧ (∀ c, o.op ≠ .defer c) := by
  obtain ⟨dst, op, ty, pos, after, guard⟩ := o
  have e1 := fun {x : Operand} {v : AV} (hx : x ∈ op.operands) (hv : ev P T x = some v) => hT x hx v hv
  refine ⟨?_, fun c hc => by simp only at hc; subst hc; simp [opV] at h⟩
  cases op <;> simp only [opV, reduceCtorEq] at h
  case move x =>
    obtain ⟨z, hz, h⟩ := Option.map_eq_some_iff.1 h; cases h
    exact ⟨E, w, _, .inl rfl, Env.le.refl E, e1 (by simp [Op.operands]) hz, hH, Below.refl B w⟩
  case assign x =>
    obtain ⟨z, hz, h⟩ := Option.map_eq_some_iff.1 h; cases h
    exact ⟨E, w, _, .inl rfl, Env.le.refl E, e1 (by simp [Op.operands]) hz, hH, Below.refl B w⟩
  case pick c x y =>
    obtain ⟨z, hz, h⟩ := Option.bind_eq_some_iff.1 h
    have hc := e1 (by simp [Op.operands]) hz
    split at h
    · obtain ⟨q, hq, h⟩ := Option.map_eq_some_iff.1 h; cases h
      have hc' : a.eval c = .bool true := hc
      exact ⟨E, w, _, .inl (by simp [execOp, hc', asBool]), Env.le.refl E, e1 (by simp [Op.operands]) hq, hH, Below.refl B w⟩
    · obtain ⟨q, hq, h⟩ := Option.map_eq_some_iff.1 h; cases h
      have hc' : a.eval c = .bool false := hc
      exact ⟨E, w, _, .inl (by simp [execOp, hc', asBool]), Env.le.refl E, e1 (by simp [Op.operands]) hq, hH, Below.refl B w⟩
    · cases h
  case alloc e =>
    obtain ⟨z, hz, h⟩ := Option.bind_eq_some_iff.1 h
    split at h
    · rename_i hone; cases h; exact (run_allocV hH hz hone).oped rfl
    · cases h
  case box e x =>
    obtain ⟨z, hz, h⟩ := Option.bind_eq_some_iff.1 h
    split at h
    · rename_i hone; cases h; exact (run_boxV hH (e1 (by simp [Op.operands]) hz) hone).oped rfl
    · cases h
  case build t ps =>
    obtain ⟨l, hl, h⟩ := Option.bind_eq_some_iff.1 h
    obtain ⟨q, hq, h⟩ := Option.map_eq_some_iff.1 h; cases h
    have hp := evp_ok (a := a) (fun p hp => hT p.2 (by simp only [Op.operands, List.mem_toArray, List.mem_map]; exact ⟨p, by simpa using hp, rfl⟩)) hl
    have := run_buildV (w := w) hq hp
    refine this.oped hH ?_
    simp only [execOp]
    congr 2
    apply Array.ext'; simp
  case buildSlice t n ps =>
    obtain ⟨l, hl, h⟩ := Option.bind_eq_some_iff.1 h
    have hp := evp_ok (a := a) (fun p hp => hT p.2 (by simp only [Op.operands, List.mem_toArray, List.mem_map]; exact ⟨p, by simpa using hp, rfl⟩)) hl
    refine (run_buildSliceV hH h hp).oped ?_
    simp only [execOp]
    congr 2
    apply Array.ext'; simp
  case load t x =>
    obtain ⟨z, hz, h⟩ := Option.bind_eq_some_iff.1 h
    obtain ⟨q, hq, h⟩ := Option.map_eq_some_iff.1 h; cases h
    exact (run_loadV hH hq (e1 (by simp [Op.operands]) hz)).oped hH rfl
  case store t x y =>
    obtain ⟨z, hz, h⟩ := Option.bind_eq_some_iff.1 h
    obtain ⟨u, hu, h⟩ := Option.bind_eq_some_iff.1 h
    obtain ⟨q, hq, h⟩ := Option.map_eq_some_iff.1 h; cases h
    obtain ⟨w', h1, h2, h3⟩ := run_storeV hH hq (e1 (by simp [Op.operands]) hz) (e1 (by simp [Op.operands]) hu)
    exact ⟨E, w', _, .inr ⟨by simp [execOp, h1], rfl⟩, Env.le.refl E, ⟨#[], rfl, rfl⟩, h2, h3⟩
  case nilCheck x =>
    obtain ⟨z, hz, h⟩ := Option.bind_eq_some_iff.1 h
    have hx := e1 (by simp [Op.operands]) hz
    split at h
    · rename_i p; cases h
      obtain ⟨pb, po⟩ := p
      obtain ⟨L, hL, he⟩ := hx
      exact ⟨E, w, _, .inl (by simp [execOp, he]), Env.le.refl E, ⟨L, hL, rfl⟩, hH, Below.refl B w⟩
    · cases h
      obtain ⟨x', y', he, hq⟩ := hx
      exact ⟨E, w, _, .inl (by simp [execOp, he]), Env.le.refl E, ⟨x', y', rfl, hq⟩, hH, Below.refl B w⟩
    · cases h
      obtain ⟨L, hL, he⟩ := hx
      exact ⟨E, w, _, .inl (by simp [execOp, he]), Env.le.refl E, ⟨L, hL, rfl⟩, hH, Below.refl B w⟩
    · cases h
  case binOp op t x y u =>
    obtain ⟨z, hz, h⟩ := Option.bind_eq_some_iff.1 h
    obtain ⟨q, hq, h⟩ := Option.bind_eq_some_iff.1 h
    obtain ⟨r, hr, h⟩ := Option.map_eq_some_iff.1 h; cases h
    exact (run_binV hr (e1 (by simp [Op.operands]) hz) (e1 (by simp [Op.operands]) hq)).oped hH rfl
  case unOp op t x =>
    obtain ⟨z, hz, h⟩ := Option.bind_eq_some_iff.1 h
    obtain ⟨r, hr, h⟩ := Option.map_eq_some_iff.1 h; cases h
    exact (run_unV hr (e1 (by simp [Op.operands]) hz)).oped hH rfl
  case convert s d x =>
    obtain ⟨z, hz, h⟩ := Option.bind_eq_some_iff.1 h
    exact (run_convV hH h (e1 (by simp [Op.operands]) hz)).oped rfl
  case makeInterface t x =>
    obtain ⟨z, hz, h⟩ := Option.bind_eq_some_iff.1 h
    have hx := e1 (by simp [Op.operands]) hz
    split at h
    · cases h
    · rename_i d hni hu
      cases h
      refine ⟨E, w, .iface t (a.eval x), .inl ?_, Env.le.refl E, ⟨_, rfl, hx⟩, hH, Below.refl B w⟩
      cases d <;> first | (exact absurd rfl (hni _)) | simp [execOp, Instr.makeInterface, run_underlying hu]
    · cases h
  case makeFunc f xs ys =>
    obtain ⟨z, hz, h⟩ := Option.bind_eq_some_iff.1 h
    obtain ⟨q, hq, h⟩ := Option.bind_eq_some_iff.1 h
    cases h
    have h1 := evals_ok (a := a) (fun y hy => hT y (by simp [Op.operands]; left; simpa using hy)) hz
    have h2 := evals_ok (a := a) (fun y hy => hT y (by simp [Op.operands]; right; simpa using hy)) hq
    exact ⟨E, w, .func f (xs.map a.eval) (ys.map a.eval), .inl (by simp [execOp, Instr.makeFunc]), Env.le.refl E, ⟨_, _, rfl, by simpa using h1, by simpa using h2⟩, hH, Below.refl B w⟩
  case makeSlice t l c =>
    obtain ⟨z, hz, h⟩ := Option.bind_eq_some_iff.1 h
    obtain ⟨q, hq, h⟩ := Option.bind_eq_some_iff.1 h
    exact (run_makeSliceV hH h (e1 (by simp [Op.operands]) hz) (e1 (by simp [Op.operands]) hq)).oped rfl
  case slice t x lo hi mx =>
    obtain ⟨z, hz, h⟩ := Option.bind_eq_some_iff.1 h
    obtain ⟨z1, hz1, h⟩ := Option.bind_eq_some_iff.1 h
    obtain ⟨z2, hz2, h⟩ := Option.bind_eq_some_iff.1 h
    obtain ⟨z3, hz3, h⟩ := Option.bind_eq_some_iff.1 h
    obtain ⟨r, hr, h⟩ := Option.map_eq_some_iff.1 h; cases h
    exact (run_sliceV hH hr (e1 (by simp [Op.operands]) hz) (evo_ok (fun y hy => hT y (by subst hy; simp [Op.operands])) hz1) (evo_ok (fun y hy => hT y (by subst hy; simp [Op.operands])) hz2) (evo_ok (fun y hy => hT y (by subst hy; simp [Op.operands])) hz3)).oped hH rfl
  case fieldAddr t x f =>
    obtain ⟨z, hz, h⟩ := Option.bind_eq_some_iff.1 h
    obtain ⟨r, hr, h⟩ := Option.map_eq_some_iff.1 h; cases h
    exact (run_fieldAddrV hr (e1 (by simp [Op.operands]) hz)).oped hH rfl
  case field t x f =>
    obtain ⟨z, hz, h⟩ := Option.bind_eq_some_iff.1 h
    obtain ⟨r, hr, h⟩ := Option.map_eq_some_iff.1 h; cases h
    exact (run_fieldV hr (e1 (by simp [Op.operands]) hz)).oped hH rfl
  case indexAddr t x i =>
    obtain ⟨z, hz, h⟩ := Option.bind_eq_some_iff.1 h
    obtain ⟨q, hq, h⟩ := Option.bind_eq_some_iff.1 h
    obtain ⟨r, hr, h⟩ := Option.map_eq_some_iff.1 h; cases h
    exact (run_indexAddrV hr (e1 (by simp [Op.operands]) hz) (e1 (by simp [Op.operands]) hq)).oped hH rfl
  case index t x i =>
    obtain ⟨z, hz, h⟩ := Option.bind_eq_some_iff.1 h
    obtain ⟨q, hq, h⟩ := Option.bind_eq_some_iff.1 h
    obtain ⟨r, hr, h⟩ := Option.map_eq_some_iff.1 h; cases h
    exact (run_indexV hr (e1 (by simp [Op.operands]) hz) (e1 (by simp [Op.operands]) hq)).oped hH rfl
  case range t x =>
    obtain ⟨z, hz, h⟩ := Option.bind_eq_some_iff.1 h
    have hx := e1 (by simp [Op.operands]) hz
    split at h
    · rename_i s hu
      cases h
      have hx' : a.eval x = .string ⟨s.toArray⟩ := hx
      refine (run_rangeV hH hu).oped ?_
      simp only [execOp, hx']
    · cases h
  case next x str =>
    cases str with
    | false => simp at h
    | true =>
      simp only at h
      obtain ⟨z, hz, h⟩ := Option.bind_eq_some_iff.1 h
      have hx := e1 (by simp [Op.operands]) hz
      split at h
      · rename_i b
        split at h
        · rename_i s pos hb
          have := run_nextV (ty := ty) hH hb hx
          split at h
          · rename_i hp; cases h; rw [if_pos hp] at this; exact this.oped rfl
          · rename_i hp; cases h; rw [if_neg hp] at this; exact this.oped rfl
        · cases h
      · cases h
  case typeAssert x st t ok =>
    obtain ⟨z, hz, h⟩ := Option.bind_eq_some_iff.1 h
    obtain ⟨r, hr, h⟩ := Option.map_eq_some_iff.1 h; cases h
    exact (run_typeAssertV hr (e1 (by simp [Op.operands]) hz)).oped hH rfl
  case extract x i =>
    obtain ⟨z, hz, h⟩ := Option.bind_eq_some_iff.1 h
    have hx := e1 (by simp [Op.operands]) hz
    split at h
    · rename_i vs
      obtain ⟨r, hr, h⟩ := Option.map_eq_some_iff.1 h; cases h
      obtain ⟨cs, he, hcs⟩ := hx
      obtain ⟨y, hy, hv⟩ := hcs.get hr
      rw [Array.getElem?_toList] at hy
      exact ⟨E, w, y, .inl (by simp [execOp, he, Instr.extract, hy]), Env.le.refl E, hv, hH, Below.refl B w⟩
    · cases h
  case call c =>
    obtain ⟨callee, args, ts⟩ := c
    cases callee with
    | builtin b =>
      simp only at h
      obtain ⟨l, hl, h⟩ := Option.bind_eq_some_iff.1 h
      have hargs := evals_ok (a := a) (fun y hy => hT y (by simp [Op.operands, Call.operands]; simpa using hy)) hl
      obtain ⟨s, hs, hm⟩ := run_builtin (ty := ty) (cs := args.map fun | .const _ => true | _ => false) (ys := args.map a.eval) hH h (by simpa using hargs)
      refine hm.oped ?_
      simp only [execOp, resolve, invoke, pure_bind]
      exact hs
    | value f => simp at h
    | invoke r m => simp at h

end
end Go.Am

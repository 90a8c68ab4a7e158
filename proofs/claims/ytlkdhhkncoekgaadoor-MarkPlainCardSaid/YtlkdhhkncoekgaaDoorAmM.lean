/- The abstract machine: a region that draws its order. -/
import Derived.Test.YtlkdhhkncoekgaaDoorAmL
namespace Go.Am
open Go.RowKit

section congr
variable {P : Program} {r : Option Nat} {T T' : List AV}

theorem evs_congr : ∀ {xs : List Operand}, (∀ x ∈ xs, ev P T x = ev P T' x) → evs P T xs = evs P T' xs
  | [], _ => rfl
  | x :: xs, h => by simp only [evs, h x (by simp), evs_congr (xs := xs) fun y hy => h y (by simp [hy])]

theorem evo_congr {x : Option Operand} (h : ∀ y, x = some y → ev P T y = ev P T' y) : evo P T x = evo P T' x := by
  cases x with
  | none => rfl
  | some x => simp only [evo, h x rfl]

theorem evp_congr : ∀ {xs : List (Nat × Operand)}, (∀ p ∈ xs, ev P T p.2 = ev P T' p.2) → evp P T xs = evp P T' xs
  | [], _ => rfl
  | (i, x) :: xs, h => by simp only [evp, h (i, x) (by simp), evp_congr (xs := xs) fun y hy => h y (by simp [hy])]

theorem opV_congr {o : Oper} (H : AH) (h : ∀ x ∈ o.op.operands, ev P T x = ev P T' x) : opV P T H o = opV P T' H o := by
  obtain ⟨dst, op, ty, pos, after, guard⟩ := o
  simp only at h
  cases op <;> simp only [opV]
  case build t ps => rw [evp_congr (T' := T') fun p hp => h p.2 (by simp only [Op.operands, List.mem_toArray, List.mem_map]; exact ⟨p, hp, rfl⟩)]
  case buildSlice t n ps => rw [evp_congr (T' := T') fun p hp => h p.2 (by simp only [Op.operands, List.mem_toArray, List.mem_map]; exact ⟨p, hp, rfl⟩)]
  case makeFunc f xs ys =>
    rw [evs_congr (T' := T') fun y hy => h y (by simp [Op.operands]; left; simpa using hy), evs_congr (xs := ys.toList) (T' := T') fun y hy => h y (by simp [Op.operands]; right; simpa using hy)]
  case slice t x lo hi mx =>
    rw [h x (by simp [Op.operands]), evo_congr (x := lo) (T' := T') fun y hy => h y (by subst hy; simp [Op.operands]), evo_congr (x := hi) (T' := T') fun y hy => h y (by subst hy; simp [Op.operands]),
      evo_congr (x := mx) (T' := T') fun y hy => h y (by subst hy; simp [Op.operands])]
  case call c =>
    obtain ⟨callee, args, ts⟩ := c
    cases callee with
    | builtin b =>
      simp only
      rw [evs_congr (T' := T') fun y hy => h y (by simp [Op.operands, Call.operands]; simpa using hy)]
    | value f => rfl
    | invoke x m => rfl
  case next x str => 
    cases str with
    | false => rfl
    | true => simp only []; rw [h x (by simp [Op.operands])]
  all_goals (simp [Op.operands] at h; simp only [h])

theorem AOp.congr {o : Oper} {H : AH} {K : AV → AH → Prop} (h : ∀ x ∈ o.op.operands, ev P T x = ev P T' x) (k : AOp P r o T H K) : AOp P r o T' H K :=
  fun E B w a rc next Q' hH hT hr hn => k E B w a rc next Q' hH (fun x hx v hv => hT x hx v (by rw [← h x hx]; exact hv)) hr hn

theorem ev_put {x : Operand} {dst : Option Tmp} {v : AV} (h : ∀ d, dst = some d → x ≠ .tmp d) : ev P (putT T dst v) x = ev P T x := by
  cases dst with
  | none => rfl
  | some d =>
    cases x with
    | tmp t =>
      have : d ≠ t := fun e => h d rfl (by rw [e])
      simp [ev, putT, this]
    | const c => rfl
    | global g => rfl
    | func f => rfl

theorem ev_put_op {o : Oper} {ops : Array Oper} {dst : Option Tmp} {v : AV} (h : ∀ d, dst = some d → d ∉ o.looksAt ops) : ∀ x ∈ o.op.operands, ev P (putT T dst v) x = ev P T x := fun x hx =>
  ev_put fun d hd hxd => h d hd (by subst hxd; exact List.mem_append_left _ (List.mem_filterMap.2 ⟨.tmp d, by simpa using hx, rfl⟩))

theorem wantedV_put {o : Oper} {ops : Array Oper} {dst : Option Tmp} {v : AV} (h : ∀ d, dst = some d → d ∉ o.looksAt ops) : wantedV ops (putT T dst v) o = wantedV ops T o := by
  cases dst with
  | none => rfl
  | some d =>
    unfold wantedV
    cases hg : o.guard with
    | none => rfl
    | some gw =>
      obtain ⟨g, want⟩ := gw
      cases ht : (ops[g]?).bind (·.dst) with
      | none => simp [ht]
      | some t =>
        have hne : d ≠ t := fun e => h d rfl (by subst e; simp [Oper.looksAt, hg, ht])
        simp [ht, putT, List.getElem?_set, hne]

theorem putT_comm (T : List AV) {x y : Option Tmp} (v u : AV) (h : ∀ d, x = some d → y ≠ some d) : putT (putT T x v) y u = putT (putT T y u) x v := by
  cases x with
  | none => rfl
  | some d =>
    cases y with
    | none => rfl
    | some e =>
      have : d ≠ e := fun k => h d rfl (by rw [k])
      simp only [putT]
      rw [List.set_comm _ _ this]
end congr

section
variable {P : Program} {r : Option Nat} {ops : Array Oper} {md : Region.Mode} {anc : Nat → Nat → Bool}

/-- The operation yields v and leaves the heap. -/
def Stills (P : Program) (ops : Array Oper) (o : Oper) (T : List AV) (H : AH) (v : AV) : Prop :=
  (wantedV ops T o = some false ∧ v = .undef) ∨ (wantedV ops T o = some true ∧ opV P T H o = some (v, H))

theorem Stills.put {o : Oper} {T : List AV} {H : AH} {v : AV} {dst : Option Tmp} {u : AV} (h : ∀ d, dst = some d → d ∉ o.looksAt ops) : Stills P ops o (putT T dst u) H v ↔ Stills P ops o T H v := by
  unfold Stills
  rw [wantedV_put h, opV_congr H (ev_put_op h)]

/-- Operation number i comes up. R: what is asked of the heap behind it, if it acts. -/
def AStep (P : Program) (r : Option Nat) (ops : Array Oper) (R : AH → Prop) (i : Nat) (T : List AV) (H : AH) (K : List AV → AH → Prop) : Prop :=
  match ops[i]? with
  | none => K T H
  | some o => (∃ v, Stills P ops o T H v ∧ K (putT T o.dst v) H) ∨ (wantedV ops T o = some true ∧ AOp P r o T H fun v H' => R H' ∧ K (putT T o.dst v) H')

def AAny (P : Program) (r : Option Nat) (ops : Array Oper) (md : Region.Mode) (R : Nat → AH → Prop) (K : List AV → AH → Prop) : Nat → Array Bool → List AV → AH → Prop
  | 0, listed, T, H => Region.ready md ops listed = [] ∧ K T H
  | fuel + 1, listed, T, H => (Region.ready md ops listed = [] → K T H) ∧ ∀ i ∈ Region.ready md ops listed, AStep P r ops (R i) i T H (AAny P r ops md R K fuel (listed.setIfInBounds i true))

theorem AStep.mono {R R' : AH → Prop} {i : Nat} {T : List AV} {H : AH} {K K' : List AV → AH → Prop} (hR : ∀ H, R H → R' H) (hK : ∀ T H, K T H → K' T H) (h : AStep P r ops R i T H K) : AStep P r ops R' i T H K' := by
  unfold AStep at *
  cases ho : ops[i]? with
  | none => rw [ho] at h; exact hK _ _ h
  | some o =>
    rw [ho] at h
    rcases h with ⟨v, h1, h2⟩ | ⟨h1, h2⟩
    · exact .inl ⟨v, h1, hK _ _ h2⟩
    · exact .inr ⟨h1, h2.mono fun v H' h => ⟨hR _ h.1, hK _ _ h.2⟩⟩

theorem AAny.mono {R R' : Nat → AH → Prop} {K : List AV → AH → Prop} (hR : ∀ j H, R j H → R' j H) : ∀ {fuel : Nat} {listed : Array Bool} {T : List AV} {H : AH}, AAny P r ops md R K fuel listed T H → AAny P r ops md R' K fuel listed T H
  | 0, _, _, _, h => h
  | _ + 1, _, _, _, h => ⟨h.1, fun i hi => (h.2 i hi).mono (hR i) fun _ _ => AAny.mono hR⟩

/-- anc knows of no more than what the edges say. -/
def AncOk (md : Region.Mode) (ops : Array Oper) (anc : Nat → Nat → Bool) : Prop :=
  ∀ j o, ops[j]? = some o → ∀ i, anc j i = true → ∃ e ∈ o.after, Region.binds md e = true ∧ (e.on = i ∨ anc e.on i = true)

def Closed (anc : Nat → Nat → Bool) (listed : Array Bool) : Prop := ∀ j i, listed.getD j false = true → anc j i = true → listed.getD i false = true

theorem Closed.anc_of_ready (hA : AncOk md ops anc) {listed : Array Bool} (hc : Closed anc listed) {j : Nat} (hj : j ∈ Region.ready md ops listed) {i : Nat} (h : anc j i = true) : listed.getD i false = true := by
  obtain ⟨_, o, ho, hall⟩ := mem_ready.1 hj
  obtain ⟨e, he, hb, h'⟩ := hA j o ho i h
  have := hall e he hb
  rcases h' with rfl | h'
  · exact this
  · exact hc _ _ this h'

theorem Closed.list (hA : AncOk md ops anc) {listed : Array Bool} (hc : Closed anc listed) {j : Nat} (hj : j ∈ Region.ready md ops listed) : Closed anc (listed.setIfInBounds j true) := by
  intro k i hk h
  by_cases e : j = k
  · subst e; exact getD_set_true (hc.anc_of_ready hA hj h)
  · rw [getD_set_ne false e] at hk
    exact getD_set_true (hc k i hk h)

theorem AStep.put {R : AH → Prop} {j : Nat} {oi oj : Oper} {v : AV} (hj : ops[j]? = some oj) (hap : oi.apart ops oj = true) {T : List AV} {H : AH} {K : List AV → AH → Prop} {Y : AH → Prop} (hY : Y H)
    (h : AStep P r ops (fun H' => R H' ∧ Y H') j (putT T oi.dst v) H K) : AStep P r ops R j T H (fun T' H' => (∃ u, T' = putT T oj.dst u) ∧ Y H' ∧ K (putT T' oi.dst v) H') := by
  obtain ⟨h1, h2, h3⟩ := Oper.apart_spec hap
  unfold AStep at *
  rw [hj] at h ⊢
  rcases h with ⟨u, hs, hk⟩ | ⟨hw, hk⟩
  · exact .inl ⟨u, (Stills.put h1).1 hs, ⟨u, rfl⟩, hY, by rw [← putT_comm T v u h2]; exact hk⟩
  · rw [wantedV_put h1] at hw
    refine .inr ⟨hw, (hk.congr (ev_put_op h1)).mono fun u H' hu => ⟨hu.1.1, ⟨u, rfl⟩, hu.1.2, ?_⟩⟩
    rw [← putT_comm T v u h2]; exact hu.2

/-- A still operation may be taken first, if what acts before it leaves its value as it is. -/
theorem AAny.first (hA : AncOk md ops anc) {K : List AV → AH → Prop} {i : Nat} {oi : Oper} {v : AV} {T₀ : List AV} (hi : ops[i]? = some oi) : ∀ (fuel : Nat) (R : Nat → AH → Prop) (listed : Array Bool) (T : List AV) (H : AH), Closed anc listed →
    (∀ j oj, ops[j]? = some oj → j ≠ i → listed.getD j true = false → (∀ e ∈ oj.after, Region.binds md e = true → e.on ≠ i) → oi.apart ops oj = true) →
    i ∈ Region.ready md ops listed → (∀ H', Stills P ops oi T H' v ↔ Stills P ops oi T₀ H' v) → Stills P ops oi T₀ H v →
    AAny P r ops md (fun j H' => R j H' ∧ (anc j i = false → Stills P ops oi T₀ H' v)) K fuel (listed.setIfInBounds i true) (putT T oi.dst v) H → AAny P r ops md R K (fuel + 1) listed T H := by
  intro fuel
  induction fuel with
  | zero =>
    intro R listed T H hc hfree hr hT hy H0
    refine ⟨fun h => (by rw [h] at hr; cases hr), fun j hj => ?_⟩
    by_cases hji : j = i
    · subst hji
      unfold AStep; rw [hi]
      exact .inl ⟨v, (hT H).2 hy, AAny.mono (fun _ _ h => h.1) H0⟩
    · have := ready_mono hj hji
      rw [H0.1] at this
      cases this
  | succ fuel ih =>
    intro R listed T H hc hfree hr hT hy H0
    refine ⟨fun h => (by rw [h] at hr; cases hr), fun j hj => ?_⟩
    by_cases hji : j = i
    · subst hji
      unfold AStep; rw [hi]
      exact .inl ⟨v, (hT H).2 hy, AAny.mono (fun _ _ h => h.1) H0⟩
    · have h1 := H0.2 j (ready_mono hj hji)
      obtain ⟨hjun, oj, hoj, hall⟩ := mem_ready.1 hj
      have hiun : listed.getD i false = false := by
        have h0 := (mem_ready.1 hr).1
        rcases Nat.lt_or_ge i listed.size with h' | h'
        · simp [h'] at h0 ⊢; exact h0
        · simp [Array.getElem?_eq_none h'] at h0
      have hanc : anc j i = false := by
        cases e : anc j i with
        | false => rfl
        | true => rw [hc.anc_of_ready hA hj e] at hiun; cases hiun
      have hnot : ∀ e ∈ oj.after, Region.binds md e = true → e.on ≠ i := fun e he hb heq => by
        have h1 := hall e he hb
        rw [heq, hiun] at h1; cases h1
      have hap := hfree j oj hoj hji hjun hnot
      have h2 := AStep.put (R := R j) (Y := fun H' => Stills P ops oi T₀ H' v) hoj hap hy (h1.mono (R' := fun H' => R j H' ∧ Stills P ops oi T₀ H' v) (fun H' h => ⟨h.1, h.2 hanc⟩) fun _ _ h => h)
      have hfree' : ∀ k ok, ops[k]? = some ok → k ≠ i → (listed.setIfInBounds j true).getD k true = false →
          (∀ e ∈ ok.after, Region.binds md e = true → e.on ≠ i) → oi.apart ops ok = true := fun k ok hk hki hun hno => by
        refine hfree k ok hk hki ?_ hno
        by_cases hjk : j = k
        · subst hjk; exact hjun
        · rw [getD_set_ne true hjk] at hun; exact hun
      refine h2.mono (fun _ h => h) ?_
      rintro T' H' ⟨⟨u, rfl⟩, hy', hk⟩
      refine ih R (listed.setIfInBounds j true) _ H' (hc.list hA hj) hfree' (ready_mono hr (Ne.symm hji)) (fun H'' => ?_) hy' ?_
      · rw [Stills.put (Oper.apart_spec hap).2.2]; exact hT H''
      · rw [Array.setIfInBounds_comm _ _ hji]; exact hk

/-! ### The walk -/

/-- Operations that don't ask the heap. -/
def freeOp : Op → Bool
  | .move _ | .assign _ | .pick .. | .build .. | .nilCheck _ | .binOp .. | .unOp .. | .makeInterface .. | .makeFunc .. | .fieldAddr .. | .field .. | .indexAddr .. | .index .. | .typeAssert .. | .extract .. => true
  | _ => false

theorem freeOp_spec {o : Oper} {T : List AV} {H H' : AH} {v : AV} (hf : freeOp o.op = true) (h : opV P T H o = some (v, H)) : opV P T H' o = some (v, H') := by
  obtain ⟨dst, op, ty, pos, after, guard⟩ := o
  have key : ∀ {x : Option AV}, x.map (·, H) = some (v, H) → x.map (·, H') = some (v, H') := fun h => by
    obtain ⟨z, hz, h⟩ := Option.map_eq_some_iff.1 h
    simp only [Prod.mk.injEq, and_true] at h
    subst h; rw [hz]; rfl
  cases op <;> simp only [freeOp, Bool.false_eq_true] at hf <;> simp only [opV] at h ⊢
  case move => exact key h
  case assign => exact key h
  case pick =>
    obtain ⟨z, hz, h⟩ := Option.bind_eq_some_iff.1 h
    rw [hz]; simp only [Option.bind_some]
    split at h
    · exact key h
    · exact key h
    · cases h
  case build => obtain ⟨z, hz, h⟩ := Option.bind_eq_some_iff.1 h; rw [hz]; exact key h
  case nilCheck =>
    obtain ⟨z, hz, h⟩ := Option.bind_eq_some_iff.1 h
    rw [hz]; simp only [Option.bind_some]
    split at h
    all_goals first | (simp only [Option.some.injEq, Prod.mk.injEq, and_true] at h; subst h; rfl) | cases h
  case binOp => obtain ⟨z, hz, h⟩ := Option.bind_eq_some_iff.1 h; obtain ⟨z', hz', h⟩ := Option.bind_eq_some_iff.1 h; rw [hz, Option.bind_some, hz']; exact key h
  case unOp => obtain ⟨z, hz, h⟩ := Option.bind_eq_some_iff.1 h; rw [hz]; exact key h
  case makeInterface =>
    obtain ⟨z, hz, h⟩ := Option.bind_eq_some_iff.1 h
    rw [hz]; simp only [Option.bind_some]
    split at h
    · cases h
    · rename_i d hni hu
      simp only [Option.some.injEq, Prod.mk.injEq, and_true] at h
      subst h
      cases d <;> first | rfl | exact absurd rfl (hni _)
    · cases h
  case makeFunc =>
    obtain ⟨z, hz, h⟩ := Option.bind_eq_some_iff.1 h; obtain ⟨z', hz', h⟩ := Option.bind_eq_some_iff.1 h
    rw [hz, Option.bind_some, hz']
    simp only [Option.some.injEq, Prod.mk.injEq, and_true] at h
    subst h; rfl
  case fieldAddr => obtain ⟨z, hz, h⟩ := Option.bind_eq_some_iff.1 h; rw [hz]; exact key h
  case field => obtain ⟨z, hz, h⟩ := Option.bind_eq_some_iff.1 h; rw [hz]; exact key h
  case indexAddr => obtain ⟨z, hz, h⟩ := Option.bind_eq_some_iff.1 h; obtain ⟨z', hz', h⟩ := Option.bind_eq_some_iff.1 h; rw [hz, Option.bind_some, hz']; exact key h
  case index => obtain ⟨z, hz, h⟩ := Option.bind_eq_some_iff.1 h; obtain ⟨z', hz', h⟩ := Option.bind_eq_some_iff.1 h; rw [hz, Option.bind_some, hz']; exact key h
  case typeAssert => obtain ⟨z, hz, h⟩ := Option.bind_eq_some_iff.1 h; rw [hz]; exact key h
  case extract =>
    obtain ⟨z, hz, h⟩ := Option.bind_eq_some_iff.1 h
    rw [hz]; simp only [Option.bind_some]
    split at h
    · exact key h
    · cases h

abbrev Pend := List (Nat × Oper × List AV × AV)

/-- What the reads that may still be to come in ask of a heap behind an operation that acts. -/
def pendOk (P : Program) (ops : Array Oper) (anc : Nat → Nat → Bool) (i : Nat) (H : AH) (pend : Pend) : Prop := ∀ p ∈ pend, anc i p.1 = false → Stills P ops p.2.1 p.2.2.1 H p.2.2.2

/-- A walk along an order: 0: doesn't ask the heap · 1: leaves the heap · 2: acts. -/
def ADraw (P : Program) (r : Option Nat) (ops : Array Oper) (anc : Nat → Nat → Bool) (K : List AV → AH → Prop) : List (Nat × Nat) → Pend → List AV → AH → Prop
  | [], _, T, H => K T H
  | (i, k) :: σ, pend, T, H => ∃ o, ops[i]? = some o ∧
    if k = 2 then (wantedV ops T o = some false ∧ ADraw P r ops anc K σ pend (putT T o.dst .undef) H) ∨
        (wantedV ops T o = some true ∧ AOp P r o T H fun v H' => pendOk P ops anc i H' pend ∧ ADraw P r ops anc K σ pend (putT T o.dst v) H')
    else ∃ v, Stills P ops o T H v ∧ ADraw P r ops anc K σ (if k = 0 then pend else (i, o, T, v) :: pend) (putT T o.dst v) H

def drawOk (md : Region.Mode) (ops : Array Oper) : List (Nat × Nat) → Array Bool → Bool
  | [], listed => (Region.ready md ops listed).isEmpty
  | (i, k) :: σ, listed =>
    (match ops[i]? with
      | none => false
      | some o => if k = 2 then Region.ready md ops listed == [i] else (Region.ready md ops listed).contains i && Region.free md ops listed i && (k != 0 || freeOp o.op)) && drawOk md ops σ (listed.setIfInBounds i true)

theorem ADraw.any (hA : AncOk md ops anc) {K : List AV → AH → Prop} : ∀ {σ : List (Nat × Nat)} {listed : Array Bool} {pend : Pend} {T : List AV} {H : AH}, drawOk md ops σ listed = true → Closed anc listed → ADraw P r ops anc K σ pend T H →
    AAny P r ops md (fun j H' => pendOk P ops anc j H' pend) K σ.length listed T H
  | [], listed, pend, T, H, hd, _, h => ⟨by simpa [drawOk] using hd, h⟩
  | (i, k) :: σ, listed, pend, T, H, hd, hc, h => by
    obtain ⟨o, ho, h⟩ := h
    simp only [drawOk, ho, Bool.and_eq_true] at hd
    obtain ⟨hd, hd'⟩ := hd
    by_cases hk : k = 2
    · rw [if_pos hk] at hd h
      have hr : Region.ready md ops listed = [i] := by simpa using hd
      refine ⟨fun h => (by rw [hr] at h; cases h), fun j hj => ?_⟩
      have hij : j = i := by rw [hr] at hj; simpa using hj
      subst hij
      have hc' := hc.list hA hj
      unfold AStep; rw [ho]
      rcases h with ⟨hw, h⟩ | ⟨hw, h⟩
      · exact .inl ⟨.undef, .inl ⟨hw, rfl⟩, ADraw.any hA hd' hc' h⟩
      · exact .inr ⟨hw, h.mono fun v H' hv => ⟨hv.1, ADraw.any hA hd' hc' hv.2⟩⟩
    · rw [if_neg hk] at hd h
      simp only [Bool.and_eq_true] at hd
      obtain ⟨⟨hr, hf⟩, hfree⟩ := hd
      obtain ⟨v, hv, h⟩ := h
      have hr' : i ∈ Region.ready md ops listed := by simpa using hr
      refine AAny.first hA (T₀ := T) ho σ.length _ listed T H hc (Region.free_spec ho hf) hr' (fun _ => Iff.rfl) hv ?_
      refine AAny.mono (fun j H' hp => ?_) (ADraw.any hA hd' (hc.list hA hr') h)
      by_cases h0 : k = 0
      · rw [if_pos h0] at hp
        refine ⟨hp, fun _ => ?_⟩
        rcases hv with ⟨hw, e⟩ | ⟨hw, e⟩
        · exact .inl ⟨hw, e⟩
        · exact .inr ⟨hw, freeOp_spec (by simpa [h0] using hfree) e⟩
      · rw [if_neg h0] at hp
        exact ⟨fun p hp' => hp p (List.mem_cons_of_mem _ hp'), hp (i, o, T, v) (by simp)⟩

theorem AAny.sim {R : Nat → AH → Prop} {K : List AV → AH → Prop} {B : Bnd} {M : List Nat} {rc : Option Nat} {Qc : Exit → Act → World → Prop} : ∀ {fuel : Nat} {listed : Array Bool} {T : List AV} {H : AH} {E : Env} {a : Act} {w : World},
    AAny P r ops md R K fuel listed T H → HR P E B H w → VRs E T a.tmps.toList → MR E M a.defers → RR E r rc →
    (∀ T' H' E' a' w', K T' H' → E.le E' → HR P E' B H' w' → VRs E' T' a'.tmps.toList → MR E' M a'.defers → Below B w w' → Qc .normal a' w') → wpAnyIn (Fr rc) 0 P md ops Qc fuel listed a w
  | 0, listed, T, H, E, a, w, h, hH, hT, hM, hr, hq => ⟨h.1, hq T H E a w h.2 (Env.le.refl E) hH hT hM (Below.refl B w)⟩
  | fuel + 1, listed, T, H, E, a, w, h, hH, hT, hM, hr, hq => by
    refine ⟨fun h0 => hq T H E a w (h.1 h0) (Env.le.refl E) hH hT hM (Below.refl B w), fun i hi => ?_⟩
    have hs := h.2 i hi
    unfold AStep at hs
    unfold wpOpIn
    cases ho : ops[i]? with
    | none =>
      rw [ho] at hs
      exact AAny.sim hs hH hT hM hr hq
    | some o =>
      rw [ho] at hs
      have step : ∀ {K' : AV → AH → Prop}, wantedV ops T o = some true → AOp P r o T H K' → (∀ v H', K' v H' → AAny P r ops md R K fuel (listed.setIfInBounds i true) (putT T o.dst v) H') →
          (if Region.wanted o (yielded ops a.tmps) then o.wpIn (Fr rc) 0 P a w (wpAnyIn (Fr rc) 0 P md ops Qc fuel (listed.setIfInBounds i true)) Qc
            else (∀ f, o.about P w a.eval = some f → (Fr rc).fn f) ∧ wpAnyIn (Fr rc) 0 P md ops Qc fuel (listed.setIfInBounds i true) (a.put o.dst undef) w) := by
        intro K' hw hop hK
        rw [if_pos (wanted_sim (a := a) hT hw)]
        refine hop E B w a rc _ Qc hH (OpsOk.of hH hT _) hr ?_
        intro v H' E' w' x hk hE hH' hv hb
        exact AAny.sim (hK v H' hk) hH' ((VRs.mono hE _ _ hT).put o.dst hv) (by rw [put_defers]; exact hM.mono hE) (hr.mono hE)
          fun T' H'' E'' a' w'' hk' hE' h1 h2 h3 h4 => hq T' H'' E'' a' w'' hk' (hE.trans hE') h1 h2 h3 (hb.trans h4)
      rcases hs with ⟨v, ⟨hw, rfl⟩ | ⟨hw, hv⟩, hk⟩ | ⟨hw, hop⟩
      · simp only [wanted_sim (a := a) hT hw, Bool.false_eq_true, if_false]
        refine ⟨fun _ _ => trivial, ?_⟩
        exact AAny.sim hk hH (hT.put o.dst (v := .undef) (x := undef) ⟨#[], rfl, rfl⟩) (by rw [put_defers]; exact hM) hr hq
      · exact step (K' := fun v' H' => v' = v ∧ H' = H) hw (AOp.of_opV hv ⟨rfl, rfl⟩) (by rintro _ _ ⟨rfl, rfl⟩; exact hk)
      · exact step hw hop fun v H' h => h.2

theorem AWp.draw {id : Nat} {σ : List (Nat × Nat)} {Q : AEx → St → Prop} {s : St} (hm : P.follows .mixedOrders = true) (hA : AncOk .any ops anc) (hd : drawOk .any ops σ (Array.replicate ops.size false) = true) (hl : σ.length = ops.size)
    (h : ADraw P r ops anc (fun T H => Q .normal ⟨T, s.M, H⟩) σ [] s.T s.H) : AWp P r (.region id ops true) Q s := by
  intro E B w a rc hs hr
  have hc : Closed anc (Array.replicate ops.size false) := fun j i hj _ => by
    exfalso
    rcases Nat.lt_or_ge j ops.size with h' | h' <;> simp [h'] at hj
  have hb0 : Below B w { w with drawn := w.drawn + 1 } := ⟨rfl, rfl, rfl, Nat.le_refl _, fun _ _ => rfl⟩
  refine wpIn_region_any hm ?_
  rw [← hl]
  rw [← hl] at hd hc
  refine (h.any hA hd hc).sim (hs.heap.world rfl) hs.tmps hs.marks hr ?_
  intro T' H' E' a' w' hq hE h1 h2 h3 h4
  exact ⟨.normal, ⟨T', s.M, H'⟩, E', rfl, hq, hE, ⟨h1, h2, h3⟩, hb0.trans h4⟩

/-! ### The table of what stands before what -/

def ancOf (A : List Nat) (j i : Nat) : Bool := (A[j]?.getD 0).testBit i

def ancB (md : Region.Mode) (ops : Array Oper) (A : List Nat) : Bool :=
  (List.range ops.size).all fun j =>
    match ops[j]? with
    | none => true
    | some o => (A[j]?.getD 0) == o.after.toList.foldl (fun m e => if Region.binds md e then m ||| ((1 <<< e.on) ||| (A[e.on]?.getD 0)) else m) 0

theorem ancB_spec {A : List Nat} (h : ancB md ops A = true) : AncOk md ops (ancOf A) := by
  intro j o ho i hi
  have hj : j < ops.size := (Array.getElem?_eq_some_iff.1 ho).1
  have := List.all_eq_true.1 h j (List.mem_range.2 hj)
  simp only [ho, beq_iff_eq] at this
  unfold ancOf at hi
  rw [this] at hi
  have key : ∀ (l : List Edge) (m : Nat), (l.foldl (fun m e => if Region.binds md e then m ||| ((1 <<< e.on) ||| (A[e.on]?.getD 0)) else m) m).testBit i = true →
      m.testBit i = true ∨ ∃ e ∈ l, Region.binds md e = true ∧ (e.on = i ∨ ancOf A e.on i = true) := by
    intro l
    induction l with
    | nil => intro m h; exact .inl h
    | cons e l ih =>
      intro m h
      rcases ih _ h with h | ⟨e', he', h⟩
      · simp only [] at h
        split at h
        · rename_i hb
          rw [Nat.testBit_or, Nat.testBit_or] at h
          simp only [Bool.or_eq_true] at h
          rcases h with h | h | h
          · exact .inl h
          · refine .inr ⟨e, by simp, hb, .inl ?_⟩
            rw [Nat.one_shiftLeft, Nat.testBit_two_pow] at h
            simpa using h
          · exact .inr ⟨e, by simp, hb, .inr h⟩
        · exact .inl h
      · exact .inr ⟨e', by simp [he'], h⟩
  rcases key _ _ hi with h | ⟨e, he, h⟩
  · simp at h
  · exact ⟨e, by simpa using he, h⟩

end
end Go.Am

/- What a region asks. -/
import Derived.Test.YtlkdhhkncoekgaaDoorAmU
namespace Go.Am
open Go.RowKit

/-- Temporaries that hold what is told only where a guard is met. -/
abbrev Cd := List (Tmp × (Nat × Bool))

section
variable (ops : Array Oper)

def gTmp (g : Nat) : Option Tmp := (ops[g]?).bind (·.dst)

def wantG (T : List AV) (gd : Nat × Bool) : Option Bool :=
  match (gTmp ops gd.1).bind (T[·]?) with
  | some (.bool b) => some (b == gd.2)
  | some .any => none
  | _ => some false

theorem wantedV_eq (T : List AV) (o : Oper) : wantedV ops T o = match o.guard with | none => some true | some gd => wantG ops T gd := by
  unfold wantedV wantG gTmp
  cases o.guard with
  | none => rfl
  | some gd => rfl

/-- The condition of a guard. -/
def phiS (T : List AV) (cd : Cd) : Nat → Nat × Bool → Option Bool
  | 0, _ => none
  | d + 1, gd =>
    match gTmp ops gd.1 with
    | some t => match T[t]? with
      | some (.bool u) => match cd.lookup t with
        | none => some (u == gd.2)
        | some g2 => (phiS T cd d g2).map fun p => p && (u == gd.2)
      | _ => none
    | none => none

structure Rel (T : List AV) (cd : Cd) (Ta : List AV) : Prop where
  len : Ta.length = T.length
  pl : ∀ t, cd.lookup t = none → Ta[t]? = T[t]?
  cn : ∀ t gd, cd.lookup t = some gd → ∃ p, wantG ops Ta gd = some p ∧ (p = true → Ta[t]? = T[t]?) ∧ (p = false → Ta[t]? = some .undef ∨ Ta[t]? = none)

variable {ops}
theorem phiS_ok {T : List AV} {cd : Cd} {Ta : List AV} (h : Rel ops T cd Ta) : ∀ {d : Nat} {gd : Nat × Bool} {p : Bool}, phiS ops T cd d gd = some p → wantG ops Ta gd = some p
  | 0, _, _, hp => by cases hp
  | d + 1, gd, p, hp => by
    simp only [phiS] at hp
    split at hp
    · rename_i t ht
      split at hp
      · rename_i u hu
        split at hp
        · rename_i hc
          cases hp
          simp only [wantG, ht, Option.bind_some, h.pl t hc, hu]
        · rename_i g2 hc
          obtain ⟨q, hq, rfl⟩ := Option.map_eq_some_iff.1 hp
          obtain ⟨q', h1, h2, h3⟩ := h.cn t g2 hc
          rw [phiS_ok h hq] at h1
          cases h1
          cases q with
          | true => simp only [wantG, ht, Option.bind_some, h2 rfl, hu, Bool.true_and]
          | false =>
            rcases h3 rfl with e | e <;> simp [wantG, ht, e]
      · cases hp
    · cases hp

/-- May d be written beside what is told under guards? -/
def freshB (ops : Array Oper) (cd : Cd) (dst : Option Tmp) : Bool :=
  match dst with
  | none => true
  | some d => cd.all fun p => !(Nat.beq p.1 d) && match gTmp ops p.2.1 with | some t => !(Nat.beq t d) | none => true

theorem lookup_mem' {β : Type} {t : Nat} {g : β} : ∀ {cd : List (Nat × β)}, cd.lookup t = some g → (t, g) ∈ cd
  | [], h => by cases h
  | (a, b) :: l, h => by
    rw [List.lookup_cons] at h
    split at h
    · rename_i e; simp only [beq_iff_eq] at e; cases h; subst e; simp
    · exact List.mem_cons_of_mem _ (lookup_mem' h)

theorem freshB_spec {cd : Cd} {d : Tmp} (h : freshB ops cd (some d) = true) {t : Tmp} {gd : Nat × Bool} (hc : cd.lookup t = some gd) : t ≠ d ∧ gTmp ops gd.1 ≠ some d := by
  have := List.all_eq_true.1 h _ (lookup_mem' hc)
  simp only [Bool.and_eq_true, Bool.not_eq_true'] at this
  refine ⟨fun e => ?_, fun e => ?_⟩
  · have h1 := this.1; rw [e, Nat.beq_refl] at h1; cases h1
  · have h2 := this.2; rw [e] at h2; simp at h2

theorem wantG_put {T : List AV} {dst : Option Tmp} {v : AV} {gd : Nat × Bool} (h : ∀ d, dst = some d → gTmp ops gd.1 ≠ some d) : wantG ops (putT T dst v) gd = wantG ops T gd := by
  cases dst with
  | none => rfl
  | some d =>
    unfold wantG
    cases ht : gTmp ops gd.1 with
    | none => rfl
    | some t =>
      have : d ≠ t := fun e => h d rfl (by rw [ht, e])
      simp [putT, this]

theorem Rel.put {T : List AV} {cd : Cd} {Ta : List AV} (h : Rel ops T cd Ta) {dst : Option Tmp} (hf : freshB ops cd dst = true) (v : AV) : Rel ops (putT T dst v) cd (putT Ta dst v) := by
  cases dst with
  | none => exact h
  | some d =>
    refine ⟨by simp [putT, h.len], fun t ht => ?_, fun t gd hc => ?_⟩
    · simp only [putT, List.getElem?_set, h.pl t ht, h.len]
    · obtain ⟨p, h1, h2, h3⟩ := h.cn t gd hc
      obtain ⟨e1, e2⟩ := freshB_spec hf hc
      refine ⟨p, by rw [wantG_put (fun d' hd' => by cases hd'; exact e2)]; exact h1, ?_, ?_⟩
      · simpa [putT, List.getElem?_set, Ne.symm e1] using h2
      · simpa [putT, List.getElem?_set, Ne.symm e1] using h3

def addCd (dst : Option Tmp) (gd : Nat × Bool) (cd : Cd) : Cd :=
  match dst with
  | some d => (d, gd) :: cd
  | none => cd

theorem Rel.putCd {T : List AV} {cd : Cd} {Ta : List AV} (h : Rel ops T cd Ta) {dst : Option Tmp} (hf : freshB ops cd dst = true) {gd : Nat × Bool} (hg : ∀ d, dst = some d → gTmp ops gd.1 ≠ some d) {p : Bool} (hw : wantG ops Ta gd = some p) (v : AV) :
    Rel ops (putT T dst v) (addCd dst gd cd) (putT Ta dst (if p then v else .undef)) := by
  cases dst with
  | none => exact h
  | some d =>
    refine ⟨by simp [putT, h.len], fun t ht => ?_, fun t gd' hc => ?_⟩
    · simp only [addCd, List.lookup_cons] at ht
      split at ht
      · cases ht
      · rename_i e
        have : d ≠ t := fun h => by simp [h] at e
        simp [putT, this, h.pl t ht]
    · simp only [addCd, List.lookup_cons] at hc
      split at hc
      · rename_i e
        simp only [beq_iff_eq] at e
        cases hc; subst e
        refine ⟨p, by rw [wantG_put (fun d' hd' => by cases hd'; exact hg _ rfl)]; exact hw, fun hp => ?_, fun hp => ?_⟩
        · subst hp; simp [putT, List.getElem?_set, h.len]
        · subst hp
          simp only [putT, List.getElem?_set, Bool.false_eq_true, if_false, if_true]
          split <;> simp
      · rename_i e
        have hne : d ≠ t := fun h => by simp [h] at e
        obtain ⟨q, h1, h2, h3⟩ := h.cn t gd' hc
        obtain ⟨e1, e2⟩ := freshB_spec hf hc
        refine ⟨q, by rw [wantG_put (fun d' hd' => by cases hd'; exact e2)]; exact h1, ?_, ?_⟩
        · simpa [putT, List.getElem?_set, hne] using h2
        · simpa [putT, List.getElem?_set, hne] using h3

theorem Rel.nil (T : List AV) : Rel ops T [] T := ⟨rfl, fun _ _ => rfl, fun t gd h => by cases h⟩

/-- What was told under guards is not known behind the region. -/
def dropCd (T : List AV) : Cd → List AV
  | [] => T
  | (t, _) :: cd => dropCd (T.set t .any) cd

/-- T tells no more than T'. -/
structure Wk (T T' : List AV) : Prop where
  len : T.length = T'.length
  at' : ∀ (i : Nat) (v : AV), T[i]? = some v → v = AV.any ∨ T'[i]? = some v

theorem Wk.refl (T : List AV) : Wk T T := ⟨rfl, fun _ _ h => .inr h⟩
theorem Wk.trans {A B C : List AV} (h : Wk A B) (k : Wk B C) : Wk A C := ⟨h.len.trans k.len, fun i v hv => by
  rcases h.at' i v hv with e | e
  · exact .inl e
  · exact k.at' i v e⟩

theorem dropCd_get : ∀ {cd : Cd} {T : List AV} {i : Nat} {v : AV}, (dropCd T cd)[i]? = some v → v = AV.any ∨ (cd.lookup i = none ∧ T[i]? = some v)
  | [], T, i, v, h => .inr ⟨rfl, h⟩
  | (t, g) :: cd, T, i, v, h => by
    rcases dropCd_get (cd := cd) h with e | ⟨e1, e2⟩
    · exact .inl e
    · rw [List.getElem?_set] at e2
      split at e2
      · split at e2
        · cases e2; exact .inl rfl
        · cases e2
      · rename_i hne
        refine .inr ⟨?_, e2⟩
        rw [List.lookup_cons]
        have : (i == t) = false := by simpa using fun h => hne h.symm
        rw [this]; exact e1
theorem dropCd_length : ∀ {cd : Cd} {T : List AV}, (dropCd T cd).length = T.length
  | [], _ => rfl
  | (t, g) :: cd, T => by rw [dropCd, dropCd_length]; simp

theorem Rel.drop {T : List AV} {cd : Cd} {Ta : List AV} (h : Rel ops T cd Ta) : Wk (dropCd T cd) Ta := by
  refine ⟨by rw [dropCd_length, h.len], fun i v hv => ?_⟩
  rcases dropCd_get hv with e | ⟨e1, e2⟩
  · exact .inl e
  · exact .inr (by rw [h.pl i e1]; exact e2)
end

/-! ### One operation in a region -/
section
variable (X : Atoms) (P : Program) (ops : Array Oper)

def sameG (a b : Nat × Bool) : Bool := Nat.beq a.1 b.1 && (a.2 == b.2)

/-- May this operand be read? gd: the guard of the operation that reads it, φ its condition. -/
def readK (T : List AV) (cd : Cd) (gd : Option (Nat × Bool)) (φ : Option Bool) (x : Operand) (k : Prop) : Prop :=
  match x with
  | .tmp t => match cd.lookup t with
    | none => k
    | some g =>
      bif (match gd with | some g' => sameG g g' | none => false) then k
      else match phiS ops T cd 8 g with
        | some p => imp φ (p = true) ∧ k
        | none => False
  | _ => k

def readsK (T : List AV) (cd : Cd) (gd : Option (Nat × Bool)) (φ : Option Bool) : List Operand → Prop → Prop
  | [], k => k
  | x :: l, k => readK ops T cd gd φ x (readsK T cd gd φ l k)

variable {ops}
theorem readK_ok {T : List AV} {cd : Cd} {Ta : List AV} (h : Rel ops T cd Ta) {gd : Option (Nat × Bool)} {φ : Option Bool} (hφ : φ.getD true = true) (hg : ∀ g, gd = some g → wantG ops Ta g = some true) {x : Operand} {k : Prop} (hr : readK ops T cd gd φ x k) :
    ev P Ta x = ev P T x ∧ k := by
  unfold readK at hr
  split at hr
  · rename_i t
    split at hr
    · rename_i hc
      exact ⟨by simp only [ev, h.pl t hc], hr⟩
    · rename_i g hc
      obtain ⟨q, h1, h2, _⟩ := h.cn t g hc
      cases hb : (match gd with | some g' => sameG g g' | none => false) with
      | true =>
        rw [hb] at hr
        refine ⟨?_, hr⟩
        cases gd with
        | none => cases hb
        | some g' =>
          simp only [sameG, Bool.and_eq_true, beq_iff_eq] at hb
          have e : g = g' := by
            obtain ⟨a, b⟩ := g; obtain ⟨c, d⟩ := g'
            simp only at hb
            rw [Nat.eq_of_beq_eq_true hb.1, hb.2]
          subst e
          rw [hg g rfl] at h1; cases h1
          simp only [ev, h2 rfl]
      | false =>
        rw [hb] at hr
        simp only [cond_false] at hr
        split at hr
        · rename_i p hp
          obtain ⟨hr1, hr2⟩ := hr
          have e := imp_of hr1 hφ
          subst e
          rw [phiS_ok h hp] at h1; cases h1
          exact ⟨by simp only [ev, h2 rfl], hr2⟩
        · exact hr.elim
  · rename_i hx
    refine ⟨?_, hr⟩
    cases x with
    | tmp t => exact absurd rfl (hx t)
    | _ => rfl

theorem readsK_ok {T : List AV} {cd : Cd} {Ta : List AV} (h : Rel ops T cd Ta) {gd : Option (Nat × Bool)} {φ : Option Bool} (hφ : φ.getD true = true) (hg : ∀ g, gd = some g → wantG ops Ta g = some true) : ∀ {l : List Operand} {k : Prop}, readsK ops T cd gd φ l k →
    (∀ x ∈ l, ev P Ta x = ev P T x) ∧ k
  | [], k, hr => ⟨fun _ h => (by cases h), hr⟩
  | x :: l, k, hr => by
    obtain ⟨h1, hr⟩ := readK_ok P h hφ hg hr
    obtain ⟨h2, hk⟩ := readsK_ok h hφ hg hr
    refine ⟨fun y hy => ?_, hk⟩
    rcases List.mem_cons.1 hy with rfl | hy
    · exact h1
    · exact h2 y hy

/-- Behind the reads, whatever the condition. -/
theorem readK_k {T : List AV} {cd : Cd} {gd : Option (Nat × Bool)} {φ : Option Bool} {x : Operand} {k : Prop} (hr : readK ops T cd gd φ x k) : k := by
  unfold readK at hr
  split at hr
  · split at hr
    · exact hr
    · rename_i g _
      cases hb : (match gd with | some g' => sameG g g' | none => false) with
      | true => rw [hb] at hr; exact hr
      | false =>
        rw [hb] at hr
        simp only [cond_false] at hr
        split at hr
        · exact hr.2
        · exact hr.elim
  · exact hr
theorem readsK_k {T : List AV} {cd : Cd} {gd : Option (Nat × Bool)} {φ : Option Bool} : ∀ {l : List Operand} {k : Prop}, readsK ops T cd gd φ l k → k
  | [], _, h => h
  | _ :: _, _, h => readsK_k (readK_k h)

/-! pick -/

/-- May the arm of a pick be read, whose condition is temporary c? -/
def armOk (ops : Array Oper) (cd : Cd) (c : Operand) (want : Bool) (x : Operand) : Bool :=
  match x with
  | .tmp t => match cd.lookup t with
    | none => true
    | some g => (g.2 == want) && match c, gTmp ops g.1 with
      | .tmp tc, some tg => Nat.beq tc tg
      | _, _ => false
  | _ => true

def mergeK (a b : Operand) (u x y : Bool) (K : AV → Prop) : Prop :=
  match a, b with
  | .const (.bool true), _ => K (.bool (u || y))
  | _, .const (.bool false) => K (.bool (u && x))
  | _, _ => K (.bool (cond u x y))

theorem mergeK_eq {T : List AV} {a b : Operand} {u x y : Bool} {K : AV → Prop} (ha : ev P T a = some (.bool x)) (hb : ev P T b = some (.bool y)) (h : mergeK a b u x y K) : K (.bool (cond u x y)) := by
  unfold mergeK at h
  split at h
  · simp [ev, ofV] at ha; subst ha; cases u <;> exact h
  · simp [ev, ofV] at hb; subst hb; cases u <;> exact h
  · exact h

def pickK (T : List AV) (cd : Cd) (φ : Option Bool) (c a b : Operand) (K : AV → Prop) : Prop :=
  bif armOk ops cd c true a && armOk ops cd c false b then
    vK (ev P T c) fun c' => vK (ev P T a) fun a' => vK (ev P T b) fun b' =>
      match c', a', b' with
      | .bool u, .bool x, .bool y => mergeK a b u x y K
      | .bool u, x, y => match φ with
        | none => (u = true → K x) ∧ (u = false → K y)
        | some _ => False
      | _, _, _ => False
  else False

theorem arm_ok {T : List AV} {cd : Cd} {Ta : List AV} (h : Rel ops T cd Ta) {c : Operand} {u : Bool} (hc : ev P Ta c = some (.bool u)) {x : Operand} (ha : armOk ops cd c u x = true) : ev P Ta x = ev P T x := by
  unfold armOk at ha
  split at ha
  · rename_i t
    split at ha
    · rename_i hl; simp only [ev, h.pl t hl]
    · rename_i g hl
      simp only [Bool.and_eq_true, beq_iff_eq] at ha
      obtain ⟨h1, h2⟩ := ha
      split at h2
      · rename_i tc tg hg
        obtain rfl := Nat.eq_of_beq_eq_true h2
        obtain ⟨p, k1, k2, _⟩ := h.cn t g hl
        have hT : Ta[tc]? = some (.bool u) := by
          simp only [ev, Option.some.injEq] at hc
          cases hx : Ta[tc]? with
          | none => rw [hx] at hc; simp [AV.undef] at hc
          | some v => rw [hx] at hc; simp at hc; rw [hc]
        have : wantG ops Ta g = some true := by
          simp only [wantG, hg, Option.bind_some, hT, h1, BEq.rfl]
        rw [this] at k1; cases k1
        simp only [ev, k2 rfl]
      · cases h2
  · rename_i hx
    cases x with
    | tmp t => exact absurd rfl (hx t)
    | _ => rfl

theorem pickK_ok {T : List AV} {cd : Cd} {Ta : List AV} (h : Rel ops T cd Ta) {φ : Option Bool} {c a b : Operand} {K : AV → Prop} (hc : φ.getD true = true → ev P Ta c = ev P T c) (hp : pickK P (ops := ops) T cd φ c a b K) (H : AH) :
    ∃ v, (φ.getD true = true → oPick (ev P Ta) H c a b = some (v, H)) ∧ K v := by
  unfold pickK at hp
  obtain ⟨h0, hp⟩ := bool_if hp
  simp only [Bool.and_eq_true] at h0
  obtain ⟨c', hc', hp⟩ := vK_iff hp
  obtain ⟨a', ha', hp⟩ := vK_iff hp
  obtain ⟨b', hb', hp⟩ := vK_iff hp
  have key : ∃ u, c' = .bool u ∧ ((∃ x y, a' = .bool x ∧ b' = .bool y ∧ mergeK a b u x y K) ∨ (φ = none ∧ (u = true → K a') ∧ (u = false → K b'))) := by
    cases c' with
    | bool u =>
      refine ⟨u, rfl, ?_⟩
      cases a' <;> cases b' <;> first
        | exact .inl ⟨_, _, rfl, rfl, hp⟩
        | (cases φ with
          | none => exact .inr ⟨rfl, hp⟩
          | some _ => exact hp.elim)
    | _ => exact hp.elim
  obtain ⟨u, rfl, ⟨x, y, rfl, rfl, hk⟩ | ⟨rfl, hk⟩⟩ := key
  · refine ⟨_, fun hφ => ?_, mergeK_eq P ha' hb' hk⟩
    have hcu := (hc hφ).trans hc'
    cases u with
    | true => simp only [oPick, hcu, Option.bind_some]; rw [arm_ok P h hcu h0.1, ha']; rfl
    | false => simp only [oPick, hcu, Option.bind_some]; rw [arm_ok P h hcu h0.2, hb']; rfl
  · have hcu := (hc rfl).trans hc'
    cases u with
    | true => exact ⟨_, fun _ => by simp only [oPick, hcu, Option.bind_some]; rw [arm_ok P h hcu h0.1, ha']; rfl, hk.1 rfl⟩
    | false => exact ⟨_, fun _ => by simp only [oPick, hcu, Option.bind_some]; rw [arm_ok P h hcu h0.2, hb']; rfl, hk.2 rfl⟩

end
end Go.Am

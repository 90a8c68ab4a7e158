/- What a region, a statement, a function asks. -/
import Derived.Test.YtlkdhhkncoekgaaDoorAmV
namespace Go.Am
open Go.RowKit

section
variable (X : Atoms) (P : Program)

/-- The results of a function of these types. -/
def exVs : List TypeId → (List AV → Prop) → Prop
  | [], k => k []
  | t :: ts, k => exV P t fun v => exVs ts fun vs => k (v :: vs)

theorem exVs_iff {P : Program} : ∀ {ts : List TypeId} {k : List AV → Prop}, exVs P ts k → ∃ vs, k vs
  | [], _, h => ⟨_, h⟩
  | _ :: _, _, h => by
    obtain ⟨v, h⟩ := exV_iff h
    obtain ⟨vs, h⟩ := exVs_iff h
    exact ⟨_, h⟩

/-- What is asked of the value that a function hands back. -/
def gotK (f : FuncId) (v : AV) (K : AV → Prop) : Prop :=
  match P.funcs[f]? with
  | some fn => match fn.resultTypes.toList with
    | [] => K v
    | [t] => exV P t fun u => v = u ∧ K u
    | ts => exVs P ts fun us => v = .tuple us ∧ K (.tuple us)
  | none => False

theorem gotK_k {f : FuncId} {v : AV} {K : AV → Prop} (h : gotK P f v K) : K v := by
  unfold gotK at h
  split at h
  · split at h
    · exact h
    · obtain ⟨u, hv, hk⟩ := exV_iff h; rw [hv]; exact hk
    · obtain ⟨u, hv, hk⟩ := exVs_iff h; rw [hv]; exact hk
  · exact h.elim

def callK (fv : AV) (vs : List AV) (H : AH) (K : AV → AH → Prop) : Prop :=
  match fv with
  | .func (.func g) x y => X.call g (x ++ vs ++ y) H fun v H' => gotK P g v fun v => K v H'
  | .yld b => X.yld b vs H fun v H' => ∃ t, v = .bool t ∧ K (.bool t) H'
  | _ => False

/-- An operation that is done. -/
def stepK (T : List AV) (H : AH) (o : Oper) (K : AV → AH → Prop) : Prop :=
  match o.op with
  | .call ⟨.value f, xs, _⟩ => vK (ev P T f) fun fv => evsK (ev P T) xs.toList fun vs => callK X P fv vs H K
  | op => opK X P none (ev P T) H op o.type K

def isPick : Op → Bool
  | .pick .. => true
  | _ => false

/-- Operations that may be reckoned where their guard is not known. -/
def specOp : Op → Bool
  | .load .. | .slice .. => true
  | .call ⟨.builtin b, _, _⟩ => match b with | .len | .cap | .min | .max => true | _ => false
  | .convert .. => true
  | o => freeOp o

/-- Guards of which it is known how they came out. -/
abbrev Kn := List ((Nat × Bool) × Bool)
def lookKn (gd : Nat × Bool) : Kn → Option Bool
  | [] => none
  | (g, p) :: l => bif sameG g gd then some p else lookKn gd l
def freshKn (ops : Array Oper) (kn : Kn) (dst : Option Tmp) : Bool :=
  match dst with
  | none => true
  | some d => kn.all fun p => match gTmp ops p.1.1 with | some t => !(Nat.beq t d) | none => true

/-- What is known of a pick's condition. -/
def knVal (ops : Array Oper) (c : Operand) : Kn → Option Bool
  | [] => none
  | (g, p) :: l =>
    bif (match c, gTmp ops g.1 with | .tmp tc, some tg => Nat.beq tc tg | _, _ => false) then some (bif p then g.2 else !g.2) else knVal ops c l

/-- Is the place reckoned by an index (so that it may not be there)? -/
def byIndex (ops : Array Oper) (a : Operand) : Bool :=
  match a with
  | .tmp t => ops.toList.any fun o => (match o.dst with | some d => Nat.beq d t | none => false) && (match o.op with | .indexAddr .. => true | _ => false)
  | _ => false

/-- One operation, reckoned under a condition. -/
def specK (ops : Array Oper) (kn : Kn) (T : List AV) (cd : Cd) (gd : Option (Nat × Bool)) (φ : Option Bool) (H : AH) (o : Oper) (K : AV → AH → Prop) : Prop :=
  match o.op with
  | .pick c a b => match knVal ops c kn with
    | some u => readK ops T cd gd φ c (vK (ev P T c) fun c' => match c' with
      | .bool _ => readK ops T cd gd φ (bif u then a else b) (vK (ev P T (bif u then a else b)) fun v => K v H)
      | _ => False)
    | none => readK ops T cd gd φ c (pickK P (ops := ops) T cd φ c a b fun v => K v H)
  | .load t a => readK ops T cd gd φ a (vK (ev P T a) fun x => loadK X P (bif byIndex ops a then φ else none) H t x fun v => K v H)
  | op => readsK ops T cd gd φ op.operands.toList (opK X P φ (ev P T) H op o.type K)

/-- The guard's temporary, where it is known how it came out. -/
def knowT (ops : Array Oper) (cd : Cd) (g : Nat) (b : Bool) (T : List AV) : List AV :=
  match gTmp ops g with
  | some t => match cd.lookup t with
    | none => T.set t (.bool b)
    | some _ => T
  | none => T

/-- A region whose order is fixed. -/
def opsK (ops : Array Oper) : List Oper → List AV → Cd → Kn → AH → (List AV → Cd → AH → Prop) → Prop
  | [], T, cd, _, H, K => K T cd H
  | o :: l, T, cd, kn, H, K =>
    bif freshB ops cd o.dst && freshKn ops kn o.dst then
      match o.guard with
      | none =>
        bif isPick o.op then specK X P ops kn T cd none none H o fun v H' => opsK ops l (putT T o.dst v) cd kn H' K
        else readsK ops T cd none none o.op.operands.toList (stepK X P T H o fun v H' => opsK ops l (putT T o.dst v) cd kn H' K)
      | some gd =>
        match lookKn gd kn with
        | some true =>
          bif isPick o.op then specK X P ops kn T cd (some gd) none H o fun v H' => opsK ops l (putT T o.dst v) cd kn H' K
          else readsK ops T cd (some gd) none o.op.operands.toList (stepK X P T H o fun v H' => opsK ops l (putT T o.dst v) cd kn H' K)
        | some false => opsK ops l (putT T o.dst .undef) cd kn H K
        | none =>
        match phiS ops T cd 8 gd with
        | none => False
        | some p =>
          bif specOp o.op then
            bif (match o.dst, gTmp ops gd.1 with | some d, some t => !(Nat.beq d t) | _, _ => true) then
              specK X P ops kn T cd (some gd) (some p) H o fun v H' => opsK ops l (putT T o.dst v) (addCd o.dst gd cd) kn H' K
            else False
          else
            bif freshKn ops [(gd, true)] o.dst then
            cond p
              (readsK ops (knowT ops cd gd.1 gd.2 T) cd (some gd) none o.op.operands.toList
                (stepK X P (knowT ops cd gd.1 gd.2 T) H o fun v H' => opsK ops l (putT (knowT ops cd gd.1 gd.2 T) o.dst v) cd ((gd, true) :: kn) H' K))
              (match phiS ops T cd 1 gd with
                | some _ => opsK ops l (putT (knowT ops cd gd.1 (!gd.2) T) o.dst .undef) cd ((gd, false) :: kn) H K
                | none => opsK ops l (putT T o.dst .undef) cd ((gd, false) :: kn) H K)
            else False
    else False

end

section
variable {P : Program} {r : Option Nat} {ops : Array Oper}

theorem stepK_ok {T Ta : List AV} {H : AH} {o : Oper} {K : AV → AH → Prop} (he : ∀ x ∈ o.op.operands.toList, ev P Ta x = ev P T x) (h : stepK (real P r) P T H o K) : AOp P r o Ta H K := by
  unfold stepK at h
  split at h
  · rename_i f xs ts heq
    obtain ⟨fv, hf, h⟩ := vK_iff h
    obtain ⟨vs, hvs, h⟩ := evsK_iff h
    obtain ⟨dst, op, ty, pos, after, guard⟩ := o
    simp only at heq; subst heq
    have hf' : ev P Ta f = some fv := by rw [he f (by simp [Op.operands, Call.operands])]; exact hf
    have hx' : evs P Ta xs.toList = some vs := by
      rw [evs_congr (T' := T) fun y hy => he y (by simp [Op.operands, Call.operands]; right; simpa using hy), ← evsE_eq]; exact hvs
    unfold callK at h
    split at h
    · refine AOp.callee hf' hx' ?_
      have h' : ACallee P _ _ H _ := h
      rcases h' with ⟨h1, h2⟩ | h2
      · exact .inl ⟨h1, h2.mono fun v H' hk => gotK_k P hk⟩
      · refine .inr fun E B w args' hH ha => ?_
        obtain ⟨v, H', E', w', x, k1, k2, k3⟩ := h2 E B w args' hH ha
        exact ⟨v, H', E', w', x, k1, gotK_k P k2, k3⟩
    · exact AOp.mono (h _ _ _ _ _ _ _ _ Ta hf' hx') fun v H' hk => by obtain ⟨t, rfl, hk⟩ := hk; exact hk
    · exact h.elim
  · rename_i hn
    obtain ⟨v, H', h1, h2, h3⟩ := opK_ok h
    refine AOp.of_opV (v := v) (H' := H') ?_ h3
    rw [opV_congr (T' := T) H (fun x hx => he x (by simpa using hx)), ← opE_eq]
    exact h1 rfl

def KnR (ops : Array Oper) (kn : Kn) (Ta : List AV) : Prop := ∀ q ∈ kn, wantG ops Ta q.1 = some q.2

theorem sameG_eq {a b : Nat × Bool} (h : sameG a b = true) : a = b := by
  simp only [sameG, Bool.and_eq_true, beq_iff_eq] at h
  obtain ⟨a1, a2⟩ := a; obtain ⟨b1, b2⟩ := b
  simp only at h
  rw [Nat.eq_of_beq_eq_true h.1, h.2]

theorem lookKn_mem {gd : Nat × Bool} {p : Bool} : ∀ {kn : Kn}, lookKn gd kn = some p → (gd, p) ∈ kn
  | [], h => by cases h
  | (g, q) :: l, h => by
    simp only [lookKn] at h
    cases hb : sameG g gd with
    | true => rw [hb] at h; cases h; rw [sameG_eq hb]; simp
    | false => rw [hb] at h; exact List.mem_cons_of_mem _ (lookKn_mem h)

theorem KnR.put {kn : Kn} {Ta : List AV} (h : KnR ops kn Ta) {dst : Option Tmp} (hf : freshKn ops kn dst = true) (v : AV) : KnR ops kn (putT Ta dst v) := by
  intro q hq
  rw [wantG_put (fun d hd e => ?_)]
  · exact h q hq
  · subst hd
    have := List.all_eq_true.1 hf _ hq
    rw [e] at this
    simp at this

theorem KnR.add {kn : Kn} {Ta : List AV} (h : KnR ops kn Ta) {gd : Nat × Bool} {p : Bool} (hw : wantG ops Ta gd = some p) : KnR ops ((gd, p) :: kn) Ta := by
  intro q hq
  rcases List.mem_cons.1 hq with rfl | hq
  · exact hw
  · exact h q hq

theorem freshKn_add {kn : Kn} {gd : Nat × Bool} {p q : Bool} {dst : Option Tmp} (h : freshKn ops kn dst = true) (h1 : freshKn ops [(gd, q)] dst = true) : freshKn ops ((gd, p) :: kn) dst = true := by
  cases dst with
  | none => rfl
  | some d =>
    simp only [freshKn, List.all_cons, Bool.and_eq_true] at h h1 ⊢
    exact ⟨h1.1, h⟩

theorem knVal_ok {kn : Kn} {Ta : List AV} (hN : KnR ops kn Ta) {c : Operand} {u v : Bool} (hc : ev P Ta c = some (.bool v)) (h : knVal ops c kn = some u) : v = u := by
  have key : ∀ {l : Kn}, (∀ q ∈ l, wantG ops Ta q.1 = some q.2) → knVal ops c l = some u → v = u := by
    intro l
    induction l with
    | nil => intro _ h; cases h
    | cons q l ih =>
      intro hq h
      obtain ⟨g, p⟩ := q
      simp only [knVal] at h
      cases hb : (match c, gTmp ops g.1 with | .tmp tc, some tg => Nat.beq tc tg | _, _ => false) with
      | false => rw [hb] at h; exact ih (fun q hm => hq q (List.mem_cons_of_mem _ hm)) h
      | true =>
        rw [hb] at h
        simp only [cond_true, Option.some.injEq] at h
        have hw := hq _ (List.mem_cons_self ..)
        simp only at hw
        split at hb
        · rename_i tc tg hg
          obtain rfl := Nat.eq_of_beq_eq_true hb
          have hT : Ta[tc]? = some (.bool v) := by
            simp only [ev, Option.some.injEq] at hc
            cases hx : Ta[tc]? with
            | none => rw [hx] at hc; simp [AV.undef] at hc
            | some x => rw [hx] at hc; simp at hc; rw [hc]
          simp only [wantG, hg, Option.bind_some, hT, Option.some.injEq] at hw
          subst hw
          rw [← h]
          cases v <;> cases g.2 <;> rfl
        · cases hb
  exact key hN h

theorem specK_ok {T Ta : List AV} {cd : Cd} {kn : Kn} (hR : Rel ops T cd Ta) (hN : KnR ops kn Ta) {gd : Option (Nat × Bool)} {φ : Option Bool} (hg : φ.getD true = true → ∀ g, gd = some g → wantG ops Ta g = some true) {H : AH} {o : Oper} {K : AV → AH → Prop} (h : specK (real P r) P ops kn T cd gd φ H o K) :
    ∃ v H', (φ.getD true = true → opV P Ta H o = some (v, H')) ∧ (φ ≠ none → H' = H) ∧ K v H' := by
  obtain ⟨dst, op, ty, pos, after, guard⟩ := o
  unfold specK at h
  split at h
  · rename_i c a b heq
    simp only at heq; subst heq
    split at h
    · rename_i u hu
      obtain ⟨c', hc', hk⟩ := vK_iff (readK_k h)
      split at hk
      · rename_i b'
        obtain ⟨v, hv, hk2⟩ := vK_iff (readK_k hk)
        refine ⟨v, H, fun hφ => ?_, fun _ => rfl, hk2⟩
        have h1 := ((readK_ok P hR hφ (hg hφ) h).1).trans hc'
        have h2 := ((readK_ok P hR hφ (hg hφ) hk).1).trans hv
        obtain rfl := knVal_ok hN h1 hu
        cases b' with
        | true => simp only [opV, h1, Option.bind_some]; rw [show ev P Ta a = some v from h2]; rfl
        | false => simp only [opV, h1, Option.bind_some]; rw [show ev P Ta b = some v from h2]; rfl
      · exact hk.elim
    · obtain ⟨v, h1, h2⟩ := pickK_ok P hR (fun hφ => (readK_ok P hR hφ (hg hφ) h).1) (readK_k h) H
      exact ⟨v, H, fun hφ => by rw [← opE_eq]; exact h1 hφ, fun _ => rfl, h2⟩
  · rename_i t a heq
    simp only at heq; subst heq
    obtain ⟨x, hx, hl⟩ := vK_iff (readK_k h)
    obtain ⟨v, h1, h2⟩ := loadK_ok hl
    refine ⟨v, H, fun hφ => ?_, fun _ => rfl, h2⟩
    have hv : loadV P H t x = some v := h1 (by cases byIndex ops a <;> first | rfl | exact hφ)
    have hx' : ev P Ta a = some x := ((readK_ok P hR hφ (hg hφ) h).1).trans hx
    simp only [opV, hx', Option.bind_some, hv, Option.map_some]
  · rename_i hn
    obtain ⟨v, H', h1, h2, h3⟩ := opK_ok (readsK_k h)
    refine ⟨v, H', fun hφ => ?_, h2, h3⟩
    rw [opV_congr (T' := T) H (fun x hx => (readsK_ok P hR hφ (hg hφ) h).1 x (by simpa using hx)), ← opE_eq]
    exact h1 hφ

theorem Rel.know {T Ta : List AV} {cd : Cd} (_ : Rel ops T cd Ta) {d : Nat} {gd : Nat × Bool} {p : Bool} (hp : phiS ops T cd (d + 1) gd = some p) {b : Bool} (hb : ∀ u, gTmp ops gd.1 ≠ none → p = (u == gd.2) → u = b) : knowT ops cd gd.1 b T = T := by
  unfold knowT
  simp only [phiS] at hp
  split at hp
  · rename_i t ht
    rw [ht]
    simp only
    split at hp
    · rename_i u hu
      split at hp
      · rename_i hc
        rw [hc]
        cases hp
        have e := hb u (by rw [ht]; simp) rfl
        subst e
        apply List.ext_getElem?
        intro i
        rw [List.getElem?_set]
        split
        · rename_i e; subst e
          rw [hu]; simp [(List.getElem?_eq_some_iff.1 hu).1]
        · rfl
      · rename_i g2 hc
        rw [hc]
    · cases hp
  · cases hp

theorem opsK_ok {K : List AV → Cd → AH → Prop} : ∀ {l : List Oper} {T Ta : List AV} {cd : Cd} {kn : Kn} {H : AH}, opsK (real P r) P ops l T cd kn H K → Rel ops T cd Ta → KnR ops kn Ta →
    AOps P r ops (fun Ta' H' => ∃ T' cd', Rel ops T' cd' Ta' ∧ K T' cd' H') l Ta H
  | [], T, Ta, cd, kn, H, h, hR, hN => ⟨T, cd, hR, h⟩
  | o :: l, T, Ta, cd, kn, H, h, hR, hN => by
    simp only [opsK] at h
    obtain ⟨hff, h⟩ := bool_if h
    simp only [Bool.and_eq_true] at hff
    obtain ⟨hf, hfk⟩ := hff
    have doIt : ∀ (gd : Option (Nat × Bool)), (∀ g, gd = some g → wantG ops Ta g = some true) → wantedV ops Ta o = some true →
        (bif isPick o.op then specK (real P r) P ops kn T cd gd none H o fun v H' => opsK (real P r) P ops l (putT T o.dst v) cd kn H' K
          else readsK ops T cd gd none o.op.operands.toList (stepK (real P r) P T H o fun v H' => opsK (real P r) P ops l (putT T o.dst v) cd kn H' K)) →
        AOps P r ops (fun Ta' H' => ∃ T' cd', Rel ops T' cd' Ta' ∧ K T' cd' H') (o :: l) Ta H := by
      intro gd hg hw h
      cases hpk : isPick o.op with
      | true =>
        rw [hpk] at h
        have h' : specK (real P r) P ops kn T cd gd none H o fun v H' => opsK (real P r) P ops l (putT T o.dst v) cd kn H' K := h
        obtain ⟨v, H', h1, _, h3⟩ := specK_ok (gd := gd) (φ := none) hR hN (fun _ => hg) h'
        exact .inl ⟨hw, AOp.of_opV (h1 rfl) (opsK_ok h3 (hR.put hf v) (hN.put hfk v))⟩
      | false =>
        rw [hpk] at h
        have h' : readsK ops T cd gd none o.op.operands.toList (stepK (real P r) P T H o fun v H' => opsK (real P r) P ops l (putT T o.dst v) cd kn H' K) := h
        obtain ⟨he, hk⟩ := readsK_ok P hR (gd := gd) (φ := none) rfl hg h'
        exact .inl ⟨hw, (stepK_ok he hk).mono fun v H' hk => opsK_ok hk (hR.put hf v) (hN.put hfk v)⟩
    split at h
    · rename_i hgn
      exact doIt none (fun _ h => by cases h) (by rw [wantedV_eq, hgn]) h
    · rename_i gd hgd
      split at h
      · rename_i hkn
        have hwg := hN _ (lookKn_mem hkn)
        exact doIt (some gd) (fun g hgg => by cases hgg; exact hwg) (by rw [wantedV_eq, hgd]; exact hwg) h
      · rename_i hkn
        have hwg := hN _ (lookKn_mem hkn)
        exact .inr ⟨by rw [wantedV_eq, hgd]; exact hwg, opsK_ok h (hR.put hf .undef) (hN.put hfk .undef)⟩
      split at h
      · exact h.elim
      · rename_i p hp
        have hwg := phiS_ok hR hp
        have hw : wantedV ops Ta o = some p := by rw [wantedV_eq, hgd]; exact hwg
        cases hs : specOp o.op with
        | true =>
          rw [hs] at h
          obtain ⟨hd, h⟩ := bool_if (show bif (match o.dst, gTmp ops gd.1 with | some d, some t => !(Nat.beq d t) | _, _ => true) then _ else False from h)
          have hdg : ∀ d, o.dst = some d → gTmp ops gd.1 ≠ some d := fun d hdd e => by rw [hdd, e] at hd; simp at hd
          obtain ⟨v, H', h1, h2, h3⟩ := specK_ok hR hN (fun hφ g hgg => by cases hgg; rw [hwg]; exact congrArg some hφ) h
          obtain rfl : H' = H := h2 (by simp)
          have hR' := hR.putCd hf hdg hwg v
          cases p with
          | true => exact .inl ⟨hw, AOp.of_opV (h1 rfl) (opsK_ok h3 hR' (hN.put hfk v))⟩
          | false => exact .inr ⟨hw, opsK_ok h3 hR' (hN.put hfk .undef)⟩
        | false =>
          rw [hs] at h
          obtain ⟨hfg, h⟩ := bool_if (show bif freshKn ops [(gd, true)] o.dst then _ else False from h)
          have hN' : KnR ops ((gd, p) :: kn) Ta := hN.add hwg
          cases p with
          | true =>
            have hT : knowT ops cd gd.1 gd.2 T = T := hR.know hp (fun u _ e => by simpa using e)
            rw [hT] at h
            have h' : readsK ops T cd (some gd) none o.op.operands.toList (stepK (real P r) P T H o fun v H' => opsK (real P r) P ops l (putT T o.dst v) cd ((gd, true) :: kn) H' K) := h
            obtain ⟨he, hk⟩ := readsK_ok P hR (gd := some gd) (φ := none) rfl (fun g hgg => by cases hgg; exact hwg) h'
            exact .inl ⟨hw, (stepK_ok he hk).mono fun v H' hk => opsK_ok hk (hR.put hf v) (hN'.put (freshKn_add hfk hfg) v)⟩
          | false =>
            have h' : (match phiS ops T cd 1 gd with
                | some _ => opsK (real P r) P ops l (putT (knowT ops cd gd.1 (!gd.2) T) o.dst .undef) cd ((gd, false) :: kn) H K
                | none => opsK (real P r) P ops l (putT T o.dst .undef) cd ((gd, false) :: kn) H K) := h
            refine .inr ⟨hw, ?_⟩
            split at h'
            · rename_i q hq
              have e := phiS_ok hR hq
              rw [hwg] at e; cases e
              rw [hR.know hq (fun u _ e => by revert e; cases u <;> cases gd.2 <;> decide)] at h'
              exact opsK_ok h' (hR.put hf .undef) (hN'.put (freshKn_add hfk hfg) .undef)
            · exact opsK_ok h' (hR.put hf .undef) (hN'.put (freshKn_add hfk hfg) .undef)

end
end Go.Am

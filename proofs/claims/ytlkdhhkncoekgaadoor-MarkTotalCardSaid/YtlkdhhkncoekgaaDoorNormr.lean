/- The spans of a normal form are right, and tell how the signs look. -/
import Derived.Test.YtlkdhhkncoekgaaDoorNorml
import Derived.Test.YtlkdhhkncoekgaaDoorSortE
namespace Go.Am
open Go.Proofs.YtlkdhhkncoekgaaDoor

def fitsV (x : Spn) (n : Int) : Bool :=
  bif decide (x.f < 0) || decide (x.t > n) || decide (x.f ≥ x.t) || decide (x.k < 1) || decide (x.k > 5) then false
  else bif x.k == 5 then decide (x.v ≥ 0) && decide (x.v ≤ 16777215) else x.v == 0
def withinV (x y : Spn) : Bool := decide (x.f ≥ y.f) && decide (x.t ≤ y.t)
def crossV (x y : Spn) : Bool := decide (x.f < y.t) && decide (y.f < x.t) && !withinV x y && !withinV y x

theorem spans_fit {L : List Look} (hc : ∀ a ∈ L, 0 ≤ a.c ∧ a.c ≤ 16777216) {x : Spn} (hx : x ∈ spans L) : fitsV x L.length = true := by
  obtain ⟨k, a, b, h⟩ := spans_mem hx
  have h1 := h.k1
  have h5 := h.k5
  have hlt := h.lt
  have hle := h.le
  have hs := h.some
  unfold fitsV
  rw [h.eq]
  simp only
  have n : (decide ((a : Int) < 0) || decide ((b : Int) > (L.length : Int)) || decide ((a : Int) ≥ (b : Int)) || decide ((k : Int) < 1) || decide ((k : Int) > 5)) = false := by
    simp only [Bool.or_eq_false_iff, decide_eq_false_iff_not]; omega
  rw [n]
  simp only [cond_false]
  by_cases hk : (k : Int) = 5
  · have hk' : ((k : Int) == 5) = true := by rw [beq_iff_eq]; exact hk
    rw [if_pos hk, hk']
    simp only [cond_true, Bool.and_eq_true, decide_eq_true_eq]
    have ha : a < L.length := by omega
    have e : val L k a = (L[a]).c := by rw [val_at ha, hk]; rfl
    have := hc _ (List.getElem_mem ha)
    rw [e] at hs ⊢
    omega
  · have hk' : ((k : Int) == 5) = false := by rw [beq_eq_false_iff_ne]; exact hk
    rw [if_neg hk, hk']; rfl

theorem spans_cross {L : List Look} {x y : Spn} (hx : x ∈ spans L) (hy : y ∈ spans L) : crossV x y = false := by
  obtain ⟨k, a, b, h⟩ := spans_mem hx
  obtain ⟨l, c, d, g⟩ := spans_mem hy
  have h1 := h.lt
  have h2 := g.lt
  have key : b ≤ c ∨ d ≤ a ∨ (a ≤ c ∧ d ≤ b) ∨ (c ≤ a ∧ b ≤ d) := by
    rcases Nat.le_total k l with e | e
    · rcases h.nest g e with r | r | r
      · exact .inl r
      · exact .inr (.inl r)
      · exact .inr (.inr (.inl r))
    · rcases g.nest h e with r | r | r
      · exact .inr (.inl r)
      · exact .inl r
      · exact .inr (.inr (.inr r))
  rw [← Bool.not_eq_true]
  unfold crossV withinV
  rw [h.eq, g.eq]
  simp only [Bool.and_eq_true, Bool.not_eq_true', Bool.and_eq_false_iff, decide_eq_true_eq, decide_eq_false_iff_not]
  omega

theorem spans_apart (L : List Look) : Apart (spans L) := by
  refine List.Pairwise.imp_of_mem (fun {x y} hx hy h => ?_) (spans_pair L)
  obtain ⟨k, a, b, e⟩ := spans_mem hx
  have := e.lt
  have hlt : x.f < x.t := by rw [e.eq]; show (a : Int) < b; omega
  rw [ltS_iff, ltS_iff]
  by_cases hk : x.k = y.k
  · have := h hk
    left; left; omega
  · omega

def covers (x : Spn) (i : Int) : Bool := decide (x.f ≤ i) && decide (i < x.t)
def setL (a : Look) (x : Spn) : Look := if x.k = 1 then { a with b := true } else if x.k = 2 then { a with i := true } else if x.k = 3 then { a with u := true } else if x.k = 4 then { a with k := true } else { a with c := x.v + 1 }
def seenOf (a : Look) (l : List Spn) (i : Int) : Look := l.foldl (fun a x => bif covers x i then setL a x else a) a
def seen (l : List Spn) (i : Int) : Look := seenOf noLook l i
def isC (x : Spn) : Bool := !(x.k == 1) && !(x.k == 2) && !(x.k == 3) && !(x.k == 4)

theorem seenOf_cons (a : Look) (x : Spn) (l : List Spn) (i : Int) : seenOf a (x :: l) i = seenOf (bif covers x i then setL a x else a) l i := rfl

theorem seenOf_b (i : Int) : ∀ (l : List Spn) (a : Look), (seenOf a l i).b = (a.b || l.any fun x => covers x i && (x.k == 1))
  | [], a => by simp [seenOf]
  | x :: l, a => by
    rw [seenOf_cons, seenOf_b i l, List.any_cons, ← Bool.or_assoc]
    congr 1
    cases h : covers x i with
    | false => simp
    | true =>
      simp only [cond_true, Bool.true_and]
      unfold setL
      by_cases h1 : x.k = 1
      · rw [if_pos h1]; simp [h1]
      · rw [if_neg h1, beq_eq_false_iff_ne.2 h1]
        repeat' split
        all_goals simp
theorem seenOf_i (i : Int) : ∀ (l : List Spn) (a : Look), (seenOf a l i).i = (a.i || l.any fun x => covers x i && (x.k == 2))
  | [], a => by simp [seenOf]
  | x :: l, a => by
    rw [seenOf_cons, seenOf_i i l, List.any_cons, ← Bool.or_assoc]
    congr 1
    cases h : covers x i with
    | false => simp
    | true =>
      simp only [cond_true, Bool.true_and]
      unfold setL
      by_cases h1 : x.k = 2
      · rw [if_neg (by omega), if_pos h1]; simp [h1]
      · rw [beq_eq_false_iff_ne.2 h1]
        repeat' split
        all_goals first | simp | omega
theorem seenOf_u (i : Int) : ∀ (l : List Spn) (a : Look), (seenOf a l i).u = (a.u || l.any fun x => covers x i && (x.k == 3))
  | [], a => by simp [seenOf]
  | x :: l, a => by
    rw [seenOf_cons, seenOf_u i l, List.any_cons, ← Bool.or_assoc]
    congr 1
    cases h : covers x i with
    | false => simp
    | true =>
      simp only [cond_true, Bool.true_and]
      unfold setL
      by_cases h1 : x.k = 3
      · rw [if_neg (by omega), if_neg (by omega), if_pos h1]; simp [h1]
      · rw [beq_eq_false_iff_ne.2 h1]
        repeat' split
        all_goals first | simp | omega
theorem seenOf_k (i : Int) : ∀ (l : List Spn) (a : Look), (seenOf a l i).k = (a.k || l.any fun x => covers x i && (x.k == 4))
  | [], a => by simp [seenOf]
  | x :: l, a => by
    rw [seenOf_cons, seenOf_k i l, List.any_cons, ← Bool.or_assoc]
    congr 1
    cases h : covers x i with
    | false => simp
    | true =>
      simp only [cond_true, Bool.true_and]
      unfold setL
      by_cases h1 : x.k = 4
      · rw [if_neg (by omega), if_neg (by omega), if_neg (by omega), if_pos h1]; simp [h1]
      · rw [beq_eq_false_iff_ne.2 h1]
        repeat' split
        all_goals first | simp | omega
theorem setL_c (a : Look) (x : Spn) : (setL a x).c = bif isC x then x.v + 1 else a.c := by
  unfold setL isC
  by_cases h1 : x.k = 1
  · simp [h1]
  · by_cases h2 : x.k = 2
    · simp [h2]
    · by_cases h3 : x.k = 3
      · simp [h3]
      · by_cases h4 : x.k = 4
        · simp [h4]
        · rw [if_neg h1, if_neg h2, if_neg h3, if_neg h4, beq_eq_false_iff_ne.2 h1, beq_eq_false_iff_ne.2 h2, beq_eq_false_iff_ne.2 h3, beq_eq_false_iff_ne.2 h4]; rfl
theorem seenOf_c (i w : Int) : ∀ (l : List Spn) (a : Look), (∀ x ∈ l, covers x i = true → isC x = true → x.v + 1 = w) →
    (seenOf a l i).c = bif l.any (fun x => covers x i && isC x) then w else a.c
  | [], a, _ => by simp [seenOf]
  | x :: l, a, h => by
    rw [seenOf_cons, seenOf_c i w l _ (fun y hy => h y (List.mem_cons_of_mem _ hy)), List.any_cons]
    cases hl : l.any fun x => covers x i && isC x with
    | true => simp
    | false =>
      simp only [cond_false, Bool.or_false]
      cases hx : covers x i with
      | false => simp
      | true =>
        simp only [cond_true, Bool.true_and]
        rw [setL_c]
        cases hi : isC x with
        | false => rfl
        | true => simp only [cond_true]; exact h x List.mem_cons_self hx hi

theorem seen_spans {L : List Look} {so : List Spn} (h : ∀ x, x ∈ so ↔ x ∈ spans L) {i : Nat} (hi : i < L.length) : seen so i = L[i] := by
  have kind : ∀ k : Nat, 1 ≤ k → k ≤ 5 → (so.any fun x => covers x (i : Int) && (x.k == (k : Int))) = decide ((L[i]).get k ≠ 0) := by
    intro k h1 h5
    rw [Bool.eq_iff_iff, List.any_eq_true, decide_eq_true_iff, ← val_at hi]
    constructor
    · rintro ⟨x, hx, hy⟩
      simp only [covers, Bool.and_eq_true, decide_eq_true_eq, beq_iff_eq] at hy
      obtain ⟨j, a, b, g⟩ := spans_mem ((h x).1 hx)
      obtain ⟨e1, e2, _⟩ := g.tells hy.1.1 hy.1.2
      obtain rfl : j = k := by omega
      exact e2
    · intro hv
      obtain ⟨x, hx, e1, e2, e3⟩ := spans_cover h1 h5 hi hv
      refine ⟨x, (h x).2 hx, ?_⟩
      simp only [covers, Bool.and_eq_true, decide_eq_true_eq, beq_iff_eq]
      exact ⟨⟨e2, e3⟩, e1⟩
  have d01 : ∀ b : Bool, decide (one01 b ≠ 0) = b := fun b => by cases b <;> rfl
  have hC : ∀ x ∈ so, isC x = (x.k == 5) := by
    intro x hx
    obtain ⟨k, a, b, g⟩ := spans_mem ((h x).1 hx)
    have h1 := g.k1
    have h5 := g.k5
    unfold isC
    rw [g.eq]
    simp only
    match k, h1, h5 with
    | 1, _, _ => rfl
    | 2, _, _ => rfl
    | 3, _, _ => rfl
    | 4, _, _ => rfl
    | 5, _, _ => rfl
  have e1 : (seen so i).b = (L[i]).b := by
    have := kind 1 (by omega) (by omega)
    unfold seen; rw [seenOf_b]
    show (false || so.any fun x => covers x i && (x.k == ((1 : Nat) : Int))) = _
    rw [this, Bool.false_or]; exact d01 _
  have e2 : (seen so i).i = (L[i]).i := by
    have := kind 2 (by omega) (by omega)
    unfold seen; rw [seenOf_i]
    show (false || so.any fun x => covers x i && (x.k == ((2 : Nat) : Int))) = _
    rw [this, Bool.false_or]; exact d01 _
  have e3 : (seen so i).u = (L[i]).u := by
    have := kind 3 (by omega) (by omega)
    unfold seen; rw [seenOf_u]
    show (false || so.any fun x => covers x i && (x.k == ((3 : Nat) : Int))) = _
    rw [this, Bool.false_or]; exact d01 _
  have e4 : (seen so i).k = (L[i]).k := by
    have := kind 4 (by omega) (by omega)
    unfold seen; rw [seenOf_k]
    show (false || so.any fun x => covers x i && (x.k == ((4 : Nat) : Int))) = _
    rw [this, Bool.false_or]; exact d01 _
  have e5 : (seen so i).c = (L[i]).c := by
    unfold seen
    rw [seenOf_c i (L[i]).c]
    · have k5 := kind 5 (by omega) (by omega)
      have : (so.any fun x => covers x (i : Int) && isC x) = so.any fun x => covers x (i : Int) && (x.k == ((5 : Nat) : Int)) := by
        rw [Bool.eq_iff_iff, List.any_eq_true, List.any_eq_true]
        constructor
        · rintro ⟨x, hx, hy⟩; exact ⟨x, hx, by rw [hC x hx] at hy; exact hy⟩
        · rintro ⟨x, hx, hy⟩; exact ⟨x, hx, by rw [hC x hx]; exact hy⟩
      rw [this, k5]
      show (bif decide ((L[i]).c ≠ 0) then (L[i]).c else 0) = _
      by_cases h0 : (L[i]).c = 0
      · rw [h0]; rfl
      · rw [decide_eq_true h0]; rfl
    · intro x hx hc hi5
      rw [hC x hx, beq_iff_eq] at hi5
      simp only [covers, Bool.and_eq_true, decide_eq_true_eq] at hc
      obtain ⟨k, a, b, g⟩ := spans_mem ((h x).1 hx)
      obtain ⟨t1, _, _, t4⟩ := g.tells hc.1 hc.2
      have hk : (k : Int) = 5 := by omega
      rw [t4, if_pos hk, hk, val_at hi]
      show (L[i]).c - 1 + 1 = _
      omega
  have ext : ∀ {a b : Look}, a.b = b.b → a.i = b.i → a.u = b.u → a.k = b.k → a.c = b.c → a = b := by
    rintro ⟨_, _, _, _, _⟩ ⟨_, _, _, _, _⟩ rfl rfl rfl rfl rfl; rfl
  exact ext e1 e2 e3 e4 e5

theorem spans_one {L : List Look} {so : List Spn} (h : so.Perm (spans L)) {i : Int} {m n : Nat} (hm : m < so.length) (hn : n < so.length) (c1 : covers so[m] i = true) (c2 : covers so[n] i = true) (k1 : isC so[m] = true) (k2 : isC so[n] = true) : m = n := by
  have hp : so.Pairwise fun x y => x.k = y.k → x.t ≤ y.f ∨ y.t ≤ x.f := by
    refine (h.pairwise_iff ?_).2 ((spans_pair L).imp fun g e => .inl (g e))
    intro x y g e
    rcases g e.symm with r | r
    · exact .inr r
    · exact .inl r
  have five : ∀ x ∈ so, isC x = true → x.k = 5 := by
    intro x hx hc
    obtain ⟨k, a, b, g⟩ := spans_mem (h.mem_iff.1 hx)
    have h1 := g.k1
    have h5 := g.k5
    have e : x.k = (k : Int) := by rw [g.eq]
    unfold isC at hc
    simp only [Bool.and_eq_true, Bool.not_eq_true', beq_eq_false_iff_ne] at hc
    omega
  have k1' := five _ (List.getElem_mem hm) k1
  have k2' := five _ (List.getElem_mem hn) k2
  unfold covers at c1 c2
  simp only [Bool.and_eq_true, decide_eq_true_eq] at c1 c2
  rw [List.pairwise_iff_getElem] at hp
  rcases Nat.lt_trichotomy m n with g | g | g
  · have := hp m n hm hn g (by rw [k1', k2']); omega
  · exact g
  · have := hp n m hn hm g (by rw [k1', k2']); omega

theorem spans_spec (L : List Look) : (layAll (spans L)).Perm (spans L) := (layAll_spec (spans L)).2

/-! A span laid into a row in order, from behind -/
def backAt (l : List Spn) (x : Spn) : Nat → Nat
  | 0 => 0
  | n + 1 => match l[n]? with
    | some y => bif ltS x y then backAt l x n else n + 1
    | none => n + 1
def layB (l : List Spn) (x : Spn) : List Spn := l.take (backAt l x l.length) ++ x :: l.drop (backAt l x l.length)
theorem backAt_le (l : List Spn) (x : Spn) : ∀ n, backAt l x n ≤ n
  | 0 => Nat.le_refl _
  | n + 1 => by
    unfold backAt
    cases l[n]? with
    | none => exact Nat.le_refl _
    | some y =>
      simp only
      cases ltS x y with
      | true => have := backAt_le l x n; simp only [cond_true]; omega
      | false => exact Nat.le_refl _
theorem layL_at : ∀ {l : List Spn} {x : Spn} {m : Nat}, m ≤ l.length → (∀ j (h : j < l.length), j < m → ltS x l[j] = false) → (∀ h : m < l.length, ltS x l[m] = true) → layL l x = l.take m ++ x :: l.drop m
  | [], x, m, h, _, _ => by
    obtain rfl : m = 0 := by simp at h; exact h
    rfl
  | y :: l, x, 0, _, _, h => by
    unfold layL
    have h0 : ltS x y = true := h (by simp)
    rw [if_pos h0]; rfl
  | y :: l, x, m + 1, hm, h1, h2 => by
    have h0 := h1 0 (by simp) (by omega)
    simp only [List.getElem_cons_zero] at h0
    unfold layL
    rw [if_neg (by rw [h0]; exact Bool.false_ne_true), layL_at (m := m) (by simpa using hm) (fun j hj hjm => by have := h1 (j + 1) (by simpa using hj) (by omega); simpa using this) (fun hj => by have := h2 (by simpa using hj); simpa using this)]
    rfl
theorem layB_go {l : List Spn} {x : Spn} (ho : Ordered l) : ∀ n, n ≤ l.length → (∀ j (h : j < l.length), n ≤ j → ltS x l[j] = true) → l.take (backAt l x n) ++ x :: l.drop (backAt l x n) = layL l x
  | 0, hn, h => (layL_at (m := 0) hn (fun j _ hj => by omega) (fun hj => h 0 hj (Nat.le_refl _))).symm
  | n + 1, hn, h => by
    have e : l[n]? = some l[n] := List.getElem?_eq_getElem (by omega)
    unfold backAt
    rw [e]
    simp only
    cases hx : ltS x l[n] with
    | true =>
      simp only [cond_true]
      refine layB_go ho n (by omega) fun j hj hnj => ?_
      rcases Nat.lt_or_ge n j with g | g
      · exact h j hj (by omega)
      · obtain rfl : j = n := by omega
        exact hx
    | false =>
      simp only [cond_false]
      refine (layL_at hn (fun j hj hjm => ?_) (fun hj => h _ hj (Nat.le_refl _))).symm
      rcases Nat.lt_or_ge j n with g | g
      · have := (List.pairwise_iff_getElem.1 ho) j n hj (by omega) g
        exact ltS_trans hx this
      · obtain rfl : j = n := by omega
        exact hx
theorem layB_eq {l : List Spn} {x : Spn} (ho : Ordered l) : layB l x = layL l x := layB_go ho l.length (Nat.le_refl _) fun j h g => by omega
theorem layAll_append (a b : List Spn) : layAll (a ++ b) = b.foldl layL (layAll a) := by unfold layAll; rw [List.foldl_append]
theorem kinds_step (L : List Look) (k : Nat) : (kindsTo L (k + 1)).1 = (kindsTo L k).1 ++ spansAt (val L (k + 1 : Nat)) (kindsTo L k).2 L.length (k + 1 : Nat) 0 := rfl
theorem kinds_len_mono (L : List Look) {k m : Nat} (h : k ≤ m) : (kindsTo L k).1.length ≤ (kindsTo L m).1.length := by
  induction m with
  | zero => obtain rfl : k = 0 := by omega
            exact Nat.le_refl _
  | succ m ih =>
    rcases Nat.lt_or_ge k (m + 1) with g | g
    · have := ih (by omega)
      rw [kinds_step, List.length_append]; omega
    · obtain rfl : k = m + 1 := by omega
      exact Nat.le_refl _

/-! How the document tells the look of a sign: the innermost colour -/
def colStep (x : Spn) (st : Look × Option Spn) : Look × Option Spn :=
  match st.2 with
  | none => ({ st.1 with c := x.v + 1 }, some x)
  | some y => bif withinV x y then ({ st.1 with c := x.v + 1 }, some x) else st
def lkStep (i : Int) (st : Look × Option Spn) (x : Spn) : Look × Option Spn :=
  bif covers x i then (bif isC x then colStep x st else (setL st.1 x, st.2)) else st
def lookS (l : List Spn) (i : Int) : Look := (l.foldl (lkStep i) (noLook, none)).1
def Lone (i : Int) (l : List Spn) : Prop := l.Pairwise fun x y => ¬ (covers x i = true ∧ isC x = true ∧ covers y i = true ∧ isC y = true)
theorem setL_col {a : Look} {x : Spn} (h : isC x = true) : setL a x = { a with c := x.v + 1 } := by
  unfold isC at h
  simp only [Bool.and_eq_true, Bool.not_eq_true', beq_eq_false_iff_ne] at h
  unfold setL
  rw [if_neg h.1.1.1, if_neg h.1.1.2, if_neg h.1.2, if_neg h.2]
theorem lookS_go {i : Int} : ∀ {l : List Spn} {a : Look} {o : Option Spn}, Lone i l → (o = none ∨ ∀ x ∈ l, ¬ (covers x i = true ∧ isC x = true)) → (l.foldl (lkStep i) (a, o)).1 = seenOf a l i
  | [], a, o, _, _ => rfl
  | x :: l, a, o, h, ho => by
    have h' := List.pairwise_cons.1 h
    rw [List.foldl_cons, seenOf_cons]
    unfold lkStep
    cases hx : covers x i with
    | false =>
      simp only [cond_false]
      exact lookS_go h'.2 (ho.imp id fun k y hy => k y (List.mem_cons_of_mem _ hy))
    | true =>
      simp only [cond_true]
      cases hi : isC x with
      | false =>
        simp only [cond_false]
        exact lookS_go h'.2 (ho.imp id fun k y hy => k y (List.mem_cons_of_mem _ hy))
      | true =>
        simp only [cond_true]
        obtain rfl : o = none := by
          rcases ho with e | k
          · exact e
          · exact absurd ⟨hx, hi⟩ (k x List.mem_cons_self)
        unfold colStep
        simp only
        rw [setL_col hi]
        exact lookS_go h'.2 (.inr fun y hy k => h'.1 y hy ⟨hx, hi, k.1, k.2⟩)
theorem lookS_seen {i : Int} {l : List Spn} (h : Lone i l) : lookS l i = seen l i := lookS_go h (.inl rfl)
theorem spans_lone {L : List Look} {so : List Spn} (h : so.Perm (spans L)) (i : Int) : Lone i so := by
  unfold Lone
  rw [List.pairwise_iff_getElem]
  rintro m n hm hn hmn ⟨h1, h2, h3, h4⟩
  have := spans_one h hm hn h1 h3 h2 h4
  omega
theorem lookS_spans {L : List Look} {so : List Spn} (h : so.Perm (spans L)) {i : Nat} (hi : i < L.length) : lookS so i = L[i] := by
  rw [lookS_seen (spans_lone h _)]
  exact seen_spans (fun x => h.mem_iff) hi
theorem looks_all {L : List Look} {so : List Spn} (h : so.Perm (spans L)) : ((List.range L.length).map fun i : Nat => lookS so (i : Int)) = L := by
  apply List.ext_getElem
  · simp
  · intro i h1 h2
    simp only [List.getElem_map, List.getElem_range]
    exact lookS_spans h h2
end Go.Am

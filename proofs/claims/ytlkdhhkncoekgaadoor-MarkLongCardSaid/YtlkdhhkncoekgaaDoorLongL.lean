/- What mark.Parse makes of many forms. -/
import Derived.Test.YtlkdhhkncoekgaaDoorForms
import Derived.Test.YtlkdhhkncoekgaaDoorSeamL
namespace Go.Proofs.YtlkdhhkncoekgaaDoor
open Go.Am Go

/-- So many times. -/
def rep : Nat → List UInt8 → List UInt8
  | 0, _ => []
  | n + 1, t => t ++ rep n t
theorem rep_snoc (t : List UInt8) : ∀ n, rep n t ++ t = rep (n + 1) t
  | 0 => by simp [rep]
  | n + 1 => by
    have ih := rep_snoc t n
    show (t ++ rep n t) ++ t = t ++ rep (n + 1) t
    rw [List.append_assoc, ih]
theorem rep_length (t : List UInt8) : ∀ n, (rep n t).length = n * t.length
  | 0 => by simp [rep]
  | n + 1 => by simp only [rep, List.length_append, rep_length t n, Nat.add_mul, Nat.one_mul]; omega
theorem drop_rep (t u : List UInt8) : ∀ k m, (rep (k + m) t ++ u).drop (k * t.length) = rep m t ++ u
  | 0, m => by simp
  | k + 1, m => by
    rw [show k + 1 + m = (k + m) + 1 by omega, show (k + 1) * t.length = t.length + k * t.length by rw [Nat.add_mul, Nat.one_mul]; omega]
    simp only [rep, List.append_assoc]
    rw [← List.drop_drop, List.drop_left, drop_rep t u k m]

theorem of_drop {s r : List UInt8} {i : Nat} {c : UInt8} (h : s.drop i = c :: r) : s[i]?.getD 0 = c ∧ i < s.length ∧ s.drop (i + 1) = r := by
  have h1 : s[i]? = some c := by
    have := congrArg (·[0]?) h
    simp only [List.getElem?_drop, Nat.add_zero, List.getElem?_cons_zero] at this
    exact this
  refine ⟨by rw [h1]; rfl, (List.getElem?_eq_some_iff.1 h1).1, ?_⟩
  rw [← List.drop_drop, h]; rfl
theorem sgn_ascii {x : St} {c : UInt8} {r : List UInt8} (h : x.s.drop x.i = c :: r) (hc : c.toNat < 128) : x.sgn = [c] := by
  unfold St.sgn
  have h1 : rune1 x.s x.i 0 = c.toNat := by unfold rune1; rw [Nat.add_zero, (of_drop h).1]
  have e : decodeL x.s x.i = (c.toNat, 1) := by
    rcases decodeL_cases x.s x.i with ⟨_, g⟩ | ⟨g, _⟩
    · rw [g, h1]
    · omega
  rw [e, h]; rfl

/-- One kind: italic, or none. -/
def lookI (b : Bool) : Look := ⟨false, b, false, false, 0⟩
def opI (k : Nat) : Nat → Int := fun j => if j = 2 then (k : Int) else 0
theorem now_I {x : St} {k : Nat} (hd : x.d = 1 ∨ x.d = 2) (h1 : x.op = opI k) (h2 : x.cols = []) : x.now = lookI (decide (0 < k)) := by
  unfold St.now
  have : (x.d == 1 || x.d == 2) = true := by rcases hd with h | h <;> rw [h] <;> rfl
  rw [h1, h2, this]
  simp only [cond_true, lookI, opI]
  simp

theorem signs2 : SignsN [120, 121] 2 := ⟨by decide, fun j hj => by
  match j, hj with
  | 0, _ => decide
  | 1, _ => decide⟩
theorem signs3 : SignsN [120, 10, 121] 3 := ⟨by decide, fun j hj => by
  match j, hj with
  | 0, _ => decide
  | 1, _ => decide
  | 2, _ => decide⟩

/-- What the end asks. -/
theorem long_end {x : St} {b : Bool} (hps : x.ps = [([120], lookI b), ([121], noLook)]) : LaidOut x 0 [120, 121] (bif b then [⟨0, 1, 2, 0⟩] else []) := by
  have e : spans [lookI b, noLook] = (bif b then [⟨0, 1, 2, 0⟩] else []) := by cases b <;> rfl
  have h := laidOut_of (x := x) (by rw [hps]; intro p hp; simp at hp; rcases hp with rfl | rfl <;> simp) (by rw [hps]; simp) (by rw [hps]; exact signs2)
    (by rw [hps]; intro p hp; simp at hp; rcases hp with rfl | rfl <;> simp [lookI, noLook]) (by rw [hps]; show (spans [lookI b, noLook]).length ≤ 1; rw [e]; cases b <;> decide)
  rw [hps] at h
  have e2 : spans (List.map Prod.snd [(([120] : List UInt8), lookI b), ([121], noLook)]) = (bif b then [⟨0, 1, 2, 0⟩] else []) := e
  rw [e2] at h
  exact h
theorem long_end3 {x : St} {b : Bool} (hps : x.ps = [([120], lookI b), ([10], lookI b), ([121], noLook)]) : LaidOut x 0 [120, 10, 121] (bif b then [⟨0, 2, 2, 0⟩] else []) := by
  have e : spans [lookI b, lookI b, noLook] = (bif b then [⟨0, 2, 2, 0⟩] else []) := by cases b <;> rfl
  have h := laidOut_of (x := x) (by rw [hps]; intro p hp; simp at hp; rcases hp with rfl | rfl | rfl <;> simp) (by rw [hps]; simp) (by rw [hps]; exact signs3)
    (by rw [hps]; intro p hp; simp at hp; rcases hp with rfl | rfl | rfl <;> simp [lookI, noLook]) (by rw [hps]; show (spans [lookI b, lookI b, noLook]).length ≤ 1; rw [e]; cases b <;> decide)
  rw [hps] at h
  have e2 : spans (List.map Prod.snd [(([120] : List UInt8), lookI b), ([10], lookI b), ([121], noLook)]) = (bif b then [⟨0, 2, 2, 0⟩] else []) := e
  rw [e2] at h
  exact h

/-- What holds of the scanner all the time. -/
structure Base (d : Int) (s : List UInt8) (x : St) : Prop where
  d : x.d = d
  s : x.s = s
  cols : x.cols = []
  name : x.name = []
  side : x.side = 0

theorem fin_long {X : List UInt8} {S0 : List Spn} {H : AH} {v : AV} {H' : AH} (h : ∃ e S sp nm sd, (e = 0 ∧ S = X ∧ sp = S0 ∧ nm = [] ∧ sd = 0) ∧ MarkRes H S sp nm sd e v H') : MarkRes H X S0 [] 0 0 v H' := by
  obtain ⟨e, S, sp, nm, sd, ⟨rfl, rfl, rfl, rfl, rfl⟩, h⟩ := h
  exact h

/-! ### Tags -/
def angleS (n : Nat) : List UInt8 := rep n [60, 105, 62] ++ ([120] ++ (rep n [60, 47, 105, 62] ++ [121]))
theorem angle_len (n : Nat) : (angleS n).length = 7 * n + 2 := by
  unfold angleS
  simp only [List.length_append, rep_length, List.length_cons, List.length_nil]; omega
theorem angle_d1 (k m : Nat) : (angleS (k + (m + 1))).drop (3 * k) = 60 :: 105 :: 62 :: (rep m [60, 105, 62] ++ ([120] ++ (rep (k + (m + 1)) [60, 47, 105, 62] ++ [121]))) := by
  unfold angleS
  have := drop_rep [60, 105, 62] ([120] ++ (rep (k + (m + 1)) [60, 47, 105, 62] ++ [121])) k (m + 1)
  rw [show 3 * k = k * ([60, 105, 62] : List UInt8).length by simp; omega, this]
  rfl
theorem angle_d2 (n : Nat) : (angleS n).drop (3 * n) = 120 :: (rep n [60, 47, 105, 62] ++ [121]) := by
  unfold angleS
  have := drop_rep [60, 105, 62] ([120] ++ (rep n [60, 47, 105, 62] ++ [121])) n 0
  rw [show 3 * n = n * ([60, 105, 62] : List UInt8).length by simp; omega]
  exact this
theorem angle_d3 (k m : Nat) : (angleS (k + (m + 1))).drop (3 * (k + (m + 1)) + 1 + 4 * k) = 60 :: 47 :: 105 :: 62 :: (rep m [60, 47, 105, 62] ++ [121]) := by
  rw [← List.drop_drop, (of_drop (angle_d2 (k + (m + 1)))).2.2]
  have := drop_rep [60, 47, 105, 62] [121] k (m + 1)
  rw [show 4 * k = k * ([60, 47, 105, 62] : List UInt8).length by simp; omega, this]
  rfl
theorem angle_d4 (n : Nat) : (angleS n).drop (3 * n + 1 + 4 * n) = [121] := by
  rw [← List.drop_drop, (of_drop (angle_d2 n)).2.2]
  have := drop_rep [60, 47, 105, 62] [121] n 0
  rw [show 4 * n = n * ([60, 47, 105, 62] : List UInt8).length by simp; omega]
  exact this

theorem long_angle (d : Int) (hd : d = 1 ∨ d = 2) (n : Nat) (hn : n < 2000) (H : AH) :
    ACallee Tryd.prog 12 [.int .i64 d, .str (angleS n)] H (MarkRes H [120, 121] (bif decide (0 < n) then [⟨0, 1, 2, 0⟩] else []) [] 0 0) := by
  obtain ⟨s, hs⟩ : ∃ s, s = angleS n := ⟨_, rfl⟩
  have hlen : s.length = 7 * n + 2 := by rw [hs, angle_len]
  have hpre : pre s [60, 118, 32] = false := by
    refine pre_no 1 (by decide) ?_
    rw [hs]
    match n with
    | 0 => simp [angleS, rep]
    | n + 1 => simp [angleS, rep]
  rw [← hs]
  obtain ⟨RA, hRA⟩ : ∃ RA : St → Prop, RA = fun x => ∃ k, k ≤ n ∧ x.i = 3 * k ∧ x.so = [] ∧ x.ps = [] ∧ x.op = opI k := ⟨_, rfl⟩
  obtain ⟨RB, hRB⟩ : ∃ RB : St → Prop, RB = fun x => ∃ k, k ≤ n ∧ x.i = 3 * n + 1 + 4 * k ∧ x.so = [120] ∧ x.ps = [([120], lookI (decide (0 < n)))] ∧ x.op = opI (n - k) := ⟨_, rfl⟩
  obtain ⟨RC, hRC⟩ : ∃ RC : St → Prop, RC = fun x => x.i = 7 * n + 2 ∧ x.so = [120, 121] ∧ x.ps = [([120], lookI (decide (0 < n))), ([121], noLook)] := ⟨_, rfl⟩
  refine (Parse_S (fun x => Base d s x ∧ (RA x ∨ RB x ∨ RC x)) (fun e S sp nm sd => e = 0 ∧ S = [120, 121] ∧ sp = (bif decide (0 < n) then [⟨0, 1, 2, 0⟩] else []) ∧ nm = [] ∧ sd = 0) d s (by omega) (by omega) ?_ (fun _ => hpre) ?_ ?_ ?_ ?_ H).mono fun v H' h => fin_long h
  · rintro x ⟨hB, hx⟩
    refine ⟨hB.d, hB.s, ?_⟩
    rcases hx with hx | hx | hx
    · rw [hRA] at hx; obtain ⟨k, h1, h2, h3, h4, _⟩ := hx; rw [h3, h4]; exact ⟨by omega, by decide, by decide⟩
    · rw [hRB] at hx; obtain ⟨k, h1, h2, h3, h4, _⟩ := hx; rw [h3, h4]; exact ⟨by omega, by decide, by simp⟩
    · rw [hRC] at hx; obtain ⟨h2, h3, h4⟩ := hx; rw [h3, h4]; exact ⟨by omega, by decide, by simp⟩
  · refine ⟨⟨rfl, rfl, rfl, rfl, rfl⟩, .inl ?_⟩
    rw [hRA]
    refine ⟨0, Nat.zero_le _, rfl, rfl, rfl, ?_⟩
    show (fun _ => (0 : Int)) = opI 0
    funext j; unfold opI; split <;> rfl
  · rintro x ⟨hB, hx⟩ hl _
    rcases hx with hx | hx | hx
    · rw [hRA] at hx
      obtain ⟨k, h1, h2, h3, h4, h5⟩ := hx
      rcases Nat.lt_or_ge k n with g | g
      · obtain ⟨m, rfl⟩ : ∃ m, n = k + (m + 1) := ⟨n - k - 1, by omega⟩
        obtain ⟨r, hdr⟩ : ∃ r, x.s.drop x.i = 60 :: 105 :: 62 :: r := ⟨_, by rw [hB.s, hs, h2]; exact angle_d1 k m⟩
        refine turn_angle hd (by have := (of_drop hdr).1; rw [hB.s] at this; exact this) (past_open (c := 105) (k := 2) hdr (.inr (.inl ⟨rfl, rfl⟩)) (by rw [hB.s]; omega) (by rw [h3]; decide) (by rw [h5]; simp [opI]; omega) ?_)
        rw [h3, melts_nil_left]
        refine ⟨⟨hB.d, hB.s, hB.cols, hB.name, hB.side⟩, .inl ?_⟩
        rw [hRA]
        refine ⟨k + 1, by omega, by show x.i + 3 = _; omega, h3, h4, ?_⟩
        show (fun j => if j = 2 then x.op j + 1 else x.op j) = opI (k + 1)
        rw [h5]; funext j; unfold opI
        by_cases hj : j = 2
        · simp [hj]
        · simp [hj]
      · obtain rfl : k = n := by omega
        obtain ⟨r, hdr⟩ : ∃ r, x.s.drop x.i = 120 :: r := ⟨_, by rw [hB.s, hs, h2]; exact angle_d2 k⟩
        have hc := (of_drop hdr).1
        rw [hB.s] at hc
        refine turn_sign hd (by rw [hc]; decide) (by rw [hc]; decide) ⟨⟨hB.d, hB.s, hB.cols, hB.name, hB.side⟩, .inr (.inl ?_)⟩
        have hg := sgn_ascii hdr (by decide)
        have hnow := now_I (by rw [hB.d]; exact hd) h5 hB.cols
        rw [hRB]
        refine ⟨0, Nat.zero_le _, ?_, ?_, ?_, h5⟩
        · show x.i + x.sgn.length = _; rw [hg, h2]; rfl
        · show x.so ++ x.sgn = _; rw [h3, hg]; rfl
        · show x.ps ++ [(x.sgn, x.now)] = _; rw [h4, hg, hnow]; rfl
    · rw [hRB] at hx
      obtain ⟨k, h1, h2, h3, h4, h5⟩ := hx
      rcases Nat.lt_or_ge k n with g | g
      · obtain ⟨m, hm⟩ : ∃ m, n = k + (m + 1) := ⟨n - k - 1, by omega⟩
        have hdr : x.s.drop x.i = 60 :: 47 :: 105 :: 62 :: (rep m [60, 47, 105, 62] ++ [121]) := by rw [hB.s, hs, h2, hm]; exact angle_d3 k m
        refine turn_angle hd (by have := (of_drop hdr).1; rw [hB.s] at this; exact this) (past_close (c := 105) (k := 2) hdr (.inr (.inl ⟨rfl, rfl⟩)) (by rw [hB.s]; omega) (by rw [h3]; decide) (by rw [h5]; simp [opI]; omega) (by rw [h3]; exact melts_ascii_end fun c hc => by simp at hc; rw [← hc]; decide) ?_)
        refine ⟨⟨hB.d, hB.s, hB.cols, hB.name, hB.side⟩, .inr (.inl ?_)⟩
        rw [hRB]
        refine ⟨k + 1, by omega, by show x.i + 4 = _; omega, h3, h4, ?_⟩
        show (fun j => if j = 2 then x.op j + -1 else x.op j) = opI (n - (k + 1))
        rw [h5]; funext j; unfold opI
        by_cases hj : j = 2
        · simp only [hj, if_true]; omega
        · simp only [hj, if_false]
      · obtain rfl : k = n := by omega
        have hdr : x.s.drop x.i = 121 :: [] := by rw [hB.s, hs, h2]; exact angle_d4 k
        have hc := (of_drop hdr).1
        rw [hB.s] at hc
        refine turn_sign hd (by rw [hc]; decide) (by rw [hc]; decide) ⟨⟨hB.d, hB.s, hB.cols, hB.name, hB.side⟩, .inr (.inr ?_)⟩
        have hg := sgn_ascii hdr (by decide)
        have hnow := now_I (by rw [hB.d]; exact hd) h5 hB.cols
        rw [hRC]
        refine ⟨?_, ?_, ?_⟩
        · show x.i + x.sgn.length = _; rw [hg, h2]; simp only [List.length_cons, List.length_nil]; omega
        · show x.so ++ x.sgn = _; rw [h3, hg]; rfl
        · show x.ps ++ [(x.sgn, x.now)] = _; rw [h4, hg, hnow, Nat.sub_self]; rfl
    · exfalso
      rw [hRC] at hx; obtain ⟨h2, _⟩ := hx; omega
  · rintro x ⟨hB, hx⟩ hl h4
    exfalso
    rcases hx with hx | hx | hx
    · rw [hRA] at hx; obtain ⟨k, _, _, h3, _⟩ := hx; rw [h3] at h4; simp at h4
    · rw [hRB] at hx; obtain ⟨k, _, _, h3, _⟩ := hx; rw [h3] at h4; simp at h4
    · rw [hRC] at hx; obtain ⟨_, h3, _⟩ := hx; rw [h3] at h4; simp at h4
  · rintro x ⟨hB, hx⟩ hl
    rcases hx with hx | hx | hx
    · exfalso; rw [hRA] at hx; obtain ⟨k, h1, h2, _⟩ := hx; omega
    · exfalso; rw [hRB] at hx; obtain ⟨k, h1, h2, _⟩ := hx; omega
    · rw [hRC] at hx
      obtain ⟨h2, h3, h4⟩ := hx
      exact ⟨0, _, _, long_end h4, rfl, rfl, rfl, hB.name, hB.side⟩

/-! ### Lines' forms -/
theorem turn_plain {R : St → Prop} {d : Int} {s : List UInt8} {x : St} {c : UInt8} (hc : s[x.i]?.getD 0 = c) (h : c = 120 ∨ c = 121) (hR : R x.signed) : Turn R d s x := by
  unfold Turn
  rw [hc]
  have e : ∀ k : Int, k < 120 ∨ 121 < k → (((c.toNat : Nat) : Int) == k) = false := by
    intro k hk
    rw [beq_eq_false_iff_ne]
    rcases h with rfl | rfl
    · show (120 : Int) ≠ k; omega
    · show (121 : Int) ≠ k; omega
  rw [e 60 (by omega), e 38 (by omega), e 124 (by omega), e 123 (by omega), e 92 (by omega)]
  simp only [Bool.false_and, cond_false]
  exact hR
theorem turn3_bar {R : St → Prop} {s : List UInt8} {x : St} (hc : s[x.i]?.getD 0 = 124) (hR : R x.lined) : Turn R 3 s x := by
  unfold Turn
  rw [hc]
  exact hR
theorem turn3_form {R : St → Prop} {s : List UInt8} {x : St} (hc : s[x.i]?.getD 0 = 123) (hf : x.fr = true) (hR : Past R 26 x) : Turn R 3 s x := by
  unfold Turn
  rw [hc, hf]
  exact hR
theorem turn4_form {R : St → Prop} {s : List UInt8} {x : St} (hc : s[x.i]?.getD 0 = 123) (hR : Past R 28 x) : Turn R 4 s x := by
  unfold Turn
  rw [hc]
  cases x.fr <;> exact hR
theorem now_look {x : St} (hd : x.d = 3 ∨ x.d = 4) : x.now = x.look := by
  unfold St.now
  rcases hd with h | h <;> rw [h] <;> rfl

def pipeS (n : Nat) : List UInt8 := rep n iForm ++ [120, 124, 121]
theorem pipe_len (n : Nat) : (pipeS n).length = 5 * n + 3 := by
  unfold pipeS
  simp only [List.length_append, rep_length, iForm, List.length_cons, List.length_nil]; omega
theorem pipe_d1 (k m : Nat) : (pipeS (k + (m + 1))).drop (5 * k) = iForm ++ (rep m iForm ++ [120, 124, 121]) := by
  unfold pipeS
  have := drop_rep iForm [120, 124, 121] k (m + 1)
  rw [show 5 * k = k * iForm.length by simp [iForm]; omega, this]
  rfl
theorem pipe_d2 (n : Nat) : (pipeS n).drop (5 * n) = [120, 124, 121] := by
  unfold pipeS
  have := drop_rep iForm [120, 124, 121] n 0
  rw [show 5 * n = n * iForm.length by simp [iForm]; omega]
  exact this

theorem past_i {R : St → Prop} {x : St} {r : List UInt8} (ht : x.s.drop x.i = iForm ++ r) (hs : x.s.length ≤ 4194304) (ho : x.so.length ≤ 8192) (hm : melts x.so (x.s.drop (x.i + 5)) = false)
    (h : R (St.skip { x with look := { x.look with i := true } } 5)) : Past R 26 x := by
  refine ⟨5, { x with look := { x.look with i := true } }, fun H p qs qo qc cap hA => ?_, by decide, rfl, rfl, rfl, h⟩
  refine (pipe_i hA ht hs ho hm).mono ?_
  rintro v H' ⟨rfl, h1, h2, h3⟩
  exact ⟨rfl, ⟨qc, cap, h1⟩, h2, h3⟩

theorem long_pipe (n : Nat) (hn : n < 2000) (H : AH) :
    ACallee Tryd.prog 12 [.int .i64 3, .str (pipeS n)] H (MarkRes H [120, 10, 121] (bif decide (0 < n) then [⟨0, 2, 2, 0⟩] else []) [] 0 0) := by
  obtain ⟨s, hs⟩ : ∃ s, s = pipeS n := ⟨_, rfl⟩
  have hlen : s.length = 5 * n + 3 := by rw [hs, pipe_len]
  rw [← hs]
  obtain ⟨RA, hRA⟩ : ∃ RA : St → Prop, RA = fun x => ∃ k, k ≤ n ∧ x.i = 5 * k ∧ x.so = [] ∧ x.ps = [] ∧ x.look = lookI (decide (0 < k)) ∧ x.fr = true := ⟨_, rfl⟩
  obtain ⟨RB, hRB⟩ : ∃ RB : St → Prop, RB = fun x => x.i = 5 * n + 1 ∧ x.so = [120] ∧ x.ps = [([120], lookI (decide (0 < n)))] ∧ x.look = lookI (decide (0 < n)) := ⟨_, rfl⟩
  obtain ⟨RC, hRC⟩ : ∃ RC : St → Prop, RC = fun x => x.i = 5 * n + 2 ∧ x.so = [120, 10] ∧ x.ps = [([120], lookI (decide (0 < n))), ([10], lookI (decide (0 < n)))] ∧ x.look = noLook := ⟨_, rfl⟩
  obtain ⟨RD, hRD⟩ : ∃ RD : St → Prop, RD = fun x => x.i = 5 * n + 3 ∧ x.so = [120, 10, 121] ∧ x.ps = [([120], lookI (decide (0 < n))), ([10], lookI (decide (0 < n))), ([121], noLook)] := ⟨_, rfl⟩
  refine (Parse_S (fun x => Base 3 s x ∧ (RA x ∨ RB x ∨ RC x ∨ RD x)) (fun e S sp nm sd => e = 0 ∧ S = [120, 10, 121] ∧ sp = (bif decide (0 < n) then [⟨0, 2, 2, 0⟩] else []) ∧ nm = [] ∧ sd = 0) 3 s (by omega) (by omega) ?_ (fun h => by cases h) ?_ ?_ ?_ ?_ H).mono fun v H' h => fin_long h
  · rintro x ⟨hB, hx⟩
    refine ⟨hB.d, hB.s, ?_⟩
    rcases hx with hx | hx | hx | hx
    · rw [hRA] at hx; obtain ⟨k, h1, h2, h3, h4, _⟩ := hx; rw [h3, h4]; exact ⟨by omega, by decide, by decide⟩
    · rw [hRB] at hx; obtain ⟨h2, h3, h4, _⟩ := hx; rw [h3, h4]; exact ⟨by omega, by decide, by simp⟩
    · rw [hRC] at hx; obtain ⟨h2, h3, h4, _⟩ := hx; rw [h3, h4]; exact ⟨by omega, by decide, by simp⟩
    · rw [hRD] at hx; obtain ⟨h2, h3, h4⟩ := hx; rw [h3, h4]; exact ⟨by omega, by decide, by simp⟩
  · refine ⟨⟨rfl, rfl, rfl, rfl, rfl⟩, .inl ?_⟩
    rw [hRA]
    exact ⟨0, Nat.zero_le _, rfl, rfl, rfl, rfl, rfl⟩
  · rintro x ⟨hB, hx⟩ hl _
    have hd : x.d = 3 ∨ x.d = 4 := .inl hB.d
    have hnow := now_look hd
    rcases hx with hx | hx | hx | hx
    · rw [hRA] at hx
      obtain ⟨k, h1, h2, h3, h4, h5, h6⟩ := hx
      rcases Nat.lt_or_ge k n with g | g
      · obtain ⟨m, hm⟩ : ∃ m, n = k + (m + 1) := ⟨n - k - 1, by omega⟩
        obtain ⟨r, hdr⟩ : ∃ r, x.s.drop x.i = iForm ++ r := ⟨_, by rw [hB.s, hs, h2, hm]; exact pipe_d1 k m⟩
        refine turn3_form (by have := (of_drop (r := [121, 58, 105, 125] ++ r) (c := 123) hdr).1; rw [hB.s] at this; exact this) h6 (past_i hdr (by rw [hB.s]; omega) (by rw [h3]; decide) (by rw [h3]; exact melts_nil_left _) ?_)
        refine ⟨⟨hB.d, hB.s, hB.cols, hB.name, hB.side⟩, .inl ?_⟩
        rw [hRA]
        refine ⟨k + 1, by omega, by show x.i + 5 = _; omega, h3, h4, ?_, h6⟩
        show { x.look with i := true } = lookI (decide (0 < k + 1))
        rw [h5]; simp [lookI]
      · obtain rfl : k = n := by omega
        obtain ⟨r, hdr⟩ : ∃ r, x.s.drop x.i = 120 :: r := ⟨_, by rw [hB.s, hs, h2]; exact pipe_d2 k⟩
        have hc := (of_drop hdr).1
        rw [hB.s] at hc
        refine turn_plain hc (.inl rfl) ⟨⟨hB.d, hB.s, hB.cols, hB.name, hB.side⟩, .inr (.inl ?_)⟩
        have hg := sgn_ascii hdr (by decide)
        rw [hRB]
        refine ⟨?_, ?_, ?_, h5⟩
        · show x.i + x.sgn.length = _; rw [hg, h2]; rfl
        · show x.so ++ x.sgn = _; rw [h3, hg]; rfl
        · show x.ps ++ [(x.sgn, x.now)] = _; rw [h4, hg, hnow, h5]; rfl
    · rw [hRB] at hx
      obtain ⟨h2, h3, h4, h5⟩ := hx
      have hdr : x.s.drop x.i = 124 :: [121] := by rw [hB.s, hs, h2]; exact (of_drop (pipe_d2 n)).2.2
      have hc := (of_drop hdr).1
      rw [hB.s] at hc
      refine turn3_bar hc ⟨⟨hB.d, hB.s, hB.cols, hB.name, hB.side⟩, .inr (.inr (.inl ?_))⟩
      rw [hRC]
      refine ⟨?_, ?_, ?_, rfl⟩
      · show x.i + 1 = _; omega
      · show x.so ++ [10] = _; rw [h3]; rfl
      · show x.ps ++ [([10], x.now)] = _; rw [h4, hnow, h5]; rfl
    · rw [hRC] at hx
      obtain ⟨h2, h3, h4, h5⟩ := hx
      have hdr : x.s.drop x.i = 121 :: [] := by
        rw [hB.s, hs, h2]
        have h1 := (of_drop (pipe_d2 n)).2.2
        exact (of_drop h1).2.2
      have hc := (of_drop hdr).1
      rw [hB.s] at hc
      refine turn_plain hc (.inr rfl) ⟨⟨hB.d, hB.s, hB.cols, hB.name, hB.side⟩, .inr (.inr (.inr ?_))⟩
      have hg := sgn_ascii hdr (by decide)
      rw [hRD]
      refine ⟨?_, ?_, ?_⟩
      · show x.i + x.sgn.length = _; rw [hg, h2]; rfl
      · show x.so ++ x.sgn = _; rw [h3, hg]; rfl
      · show x.ps ++ [(x.sgn, x.now)] = _; rw [h4, hg, hnow, h5]; rfl
    · exfalso
      rw [hRD] at hx; obtain ⟨h2, _⟩ := hx; omega
  · rintro x ⟨hB, hx⟩ hl h4
    exfalso
    rcases hx with hx | hx | hx | hx
    · rw [hRA] at hx; obtain ⟨k, _, _, h3, _⟩ := hx; rw [h3] at h4; simp at h4
    · rw [hRB] at hx; obtain ⟨_, h3, _⟩ := hx; rw [h3] at h4; simp at h4
    · rw [hRC] at hx; obtain ⟨_, h3, _⟩ := hx; rw [h3] at h4; simp at h4
    · rw [hRD] at hx; obtain ⟨_, h3, _⟩ := hx; rw [h3] at h4; simp at h4
  · rintro x ⟨hB, hx⟩ hl
    rcases hx with hx | hx | hx | hx
    · exfalso; rw [hRA] at hx; obtain ⟨k, h1, h2, _⟩ := hx; omega
    · exfalso; rw [hRB] at hx; obtain ⟨h2, _⟩ := hx; omega
    · exfalso; rw [hRC] at hx; obtain ⟨h2, _⟩ := hx; omega
    · rw [hRD] at hx
      obtain ⟨h2, h3, h4⟩ := hx
      exact ⟨0, _, _, long_end3 h4, rfl, rfl, rfl, hB.name, hB.side⟩

/-! ### Orders -/
def repO : Nat → List (Bool × Bool)
  | 0 => []
  | n + 1 => (false, true) :: (true, true) :: (false, false) :: repO n
theorem repO_length : ∀ n, (repO n).length = 3 * n
  | 0 => rfl
  | n + 1 => by simp only [repO, List.length_cons, repO_length n]; omega
theorem repO_look : ∀ n b, (repO n).foldl ordL (lookI b) = lookI (b || decide (0 < n))
  | 0, b => by simp [repO]
  | n + 1, b => by
    show (repO n).foldl ordL (lookI true) = _
    rw [repO_look n true]; simp
theorem repO_bytes : ∀ n, ordsB (repO n) = rep n [92, 98, 49, 92, 105, 49, 92, 98, 48]
  | 0 => rfl
  | n + 1 => by
    show _ = [92, 98, 49, 92, 105, 49, 92, 98, 48] ++ rep n [92, 98, 49, 92, 105, 49, 92, 98, 48]
    rw [← repO_bytes n]; rfl

/-- What stands ahead of x: nothing, or a form of orders. -/
def braceH (n : Nat) : List UInt8 := bif decide (0 < n) then 123 :: (ordsB (repO n) ++ [125]) else []
def braceS (n : Nat) : List UInt8 := braceH n ++ (120 :: 123 :: (ordsB [(true, false)] ++ 125 :: [121]))

theorem past_ords {R : St → Prop} {x : St} {os : List (Bool × Bool)} (hne : os ≠ []) {r : List UInt8} (ht : x.s.drop x.i = 123 :: (ordsB os ++ 125 :: r)) (hs : x.s.length ≤ 4194304) (hol : 3 * os.length + 2 ≤ 4194304) (ho : x.so.length ≤ 8192) (hm : melts x.so (x.s.drop (x.i + (3 * os.length + 2))) = false)
    (h : R (St.skip { x with look := os.foldl ordL x.look } (3 * os.length + 2))) : Past R 28 x := by
  refine ⟨3 * os.length + 2, { x with look := os.foldl ordL x.look }, fun H p qs qo qc cap hA => ?_, hol, rfl, rfl, rfl, ?_⟩
  · refine (brace_ords hA hne ht hs ho hm).mono ?_
    rintro v H' ⟨rfl, h1, h2, h3⟩
    exact ⟨rfl, ⟨qc, cap, h1⟩, h2, h3⟩
  · have : decide (0 < 3 * os.length + 2) = true := by rw [decide_eq_true_iff]; omega
    rw [this]; exact h

theorem long_brace (n : Nat) (hn : n < 2000) (H : AH) :
    ACallee Tryd.prog 12 [.int .i64 4, .str (braceS n)] H (MarkRes H [120, 121] (bif decide (0 < n) then [⟨0, 1, 2, 0⟩] else []) [] 0 0) := by
  obtain ⟨s, hs⟩ : ∃ s, s = braceS n := ⟨_, rfl⟩
  obtain ⟨B, hBl⟩ : ∃ B, B = (braceH n).length := ⟨_, rfl⟩
  have hB9 : B ≤ 9 * n + 2 := by
    rw [hBl]
    unfold braceH
    cases decide (0 < n) with
    | true => simp only [cond_true, List.length_cons, List.length_append, ordsB_length, repO_length, List.length_nil]; omega
    | false => simp
  have hlen : s.length = B + 7 := by rw [hs, hBl]; unfold braceS; rw [List.length_append]; rfl
  have hbx : s.drop B = 120 :: 123 :: (ordsB [(true, false)] ++ 125 :: [121]) := by rw [hs, hBl]; exact List.drop_left ..
  rw [← hs]
  obtain ⟨RA, hRA⟩ : ∃ RA : St → Prop, RA = fun x => 0 < n ∧ x.i = 0 ∧ x.so = [] ∧ x.ps = [] ∧ x.look = noLook := ⟨_, rfl⟩
  obtain ⟨RB, hRB⟩ : ∃ RB : St → Prop, RB = fun x => x.i = B ∧ x.so = [] ∧ x.ps = [] ∧ x.look = lookI (decide (0 < n)) := ⟨_, rfl⟩
  obtain ⟨RC, hRC⟩ : ∃ RC : St → Prop, RC = fun x => x.i = B + 1 ∧ x.so = [120] ∧ x.ps = [([120], lookI (decide (0 < n)))] ∧ x.look = lookI (decide (0 < n)) := ⟨_, rfl⟩
  obtain ⟨RD, hRD⟩ : ∃ RD : St → Prop, RD = fun x => x.i = B + 6 ∧ x.so = [120] ∧ x.ps = [([120], lookI (decide (0 < n)))] ∧ x.look = noLook := ⟨_, rfl⟩
  obtain ⟨RE, hRE⟩ : ∃ RE : St → Prop, RE = fun x => x.i = B + 7 ∧ x.so = [120, 121] ∧ x.ps = [([120], lookI (decide (0 < n))), ([121], noLook)] := ⟨_, rfl⟩
  refine (Parse_S (fun x => Base 4 s x ∧ (RA x ∨ RB x ∨ RC x ∨ RD x ∨ RE x)) (fun e S sp nm sd => e = 0 ∧ S = [120, 121] ∧ sp = (bif decide (0 < n) then [⟨0, 1, 2, 0⟩] else []) ∧ nm = [] ∧ sd = 0) 4 s (by omega) (by omega) ?_ (fun h => by cases h) ?_ ?_ ?_ ?_ H).mono fun v H' h => fin_long h
  · rintro x ⟨hB, hx⟩
    refine ⟨hB.d, hB.s, ?_⟩
    rcases hx with hx | hx | hx | hx | hx
    · rw [hRA] at hx; obtain ⟨_, h2, h3, h4, _⟩ := hx; rw [h3, h4]; exact ⟨by omega, by decide, by decide⟩
    · rw [hRB] at hx; obtain ⟨h2, h3, h4, _⟩ := hx; rw [h3, h4]; exact ⟨by omega, by decide, by decide⟩
    · rw [hRC] at hx; obtain ⟨h2, h3, h4, _⟩ := hx; rw [h3, h4]; exact ⟨by omega, by decide, by simp⟩
    · rw [hRD] at hx; obtain ⟨h2, h3, h4, _⟩ := hx; rw [h3, h4]; exact ⟨by omega, by decide, by simp⟩
    · rw [hRE] at hx; obtain ⟨h2, h3, h4⟩ := hx; rw [h3, h4]; exact ⟨by omega, by decide, by simp⟩
  · refine ⟨⟨rfl, rfl, rfl, rfl, rfl⟩, ?_⟩
    by_cases h0 : 0 < n
    · left; rw [hRA]; exact ⟨h0, rfl, rfl, rfl, rfl⟩
    · right; left
      rw [hRB]
      obtain rfl : n = 0 := by omega
      exact ⟨by rw [hBl]; rfl, rfl, rfl, rfl⟩
  · rintro x ⟨hB, hx⟩ hl _
    have hd : x.d = 3 ∨ x.d = 4 := .inr hB.d
    have hnow := now_look hd
    rcases hx with hx | hx | hx | hx | hx
    · rw [hRA] at hx
      obtain ⟨h0, h2, h3, h4, h5⟩ := hx
      have hdt : decide (0 < n) = true := by rw [decide_eq_true_iff]; exact h0
      have hBe : B = 9 * n + 2 := by
        rw [hBl]; unfold braceH; rw [hdt]
        simp only [cond_true, List.length_cons, List.length_append, ordsB_length, repO_length, List.length_nil]; omega
      obtain ⟨r, hdr⟩ : ∃ r, x.s.drop x.i = 123 :: (ordsB (repO n) ++ 125 :: r) := by
        rw [hB.s, hs, h2, List.drop_zero]
        unfold braceS braceH
        rw [hdt]
        simp only [cond_true, List.cons_append, List.append_assoc, List.nil_append]
        exact ⟨_, rfl⟩
      have hne : repO n ≠ [] := by
        intro e; have := congrArg List.length e; rw [repO_length] at this; simp only [List.length_nil] at this; omega
      refine turn4_form (by have := (of_drop hdr).1; rw [hB.s] at this; exact this) (past_ords hne hdr (by rw [hB.s]; omega) (by rw [repO_length]; omega) (by rw [h3]; decide) (by rw [h3]; exact melts_nil_left _) ?_)
      refine ⟨⟨hB.d, hB.s, hB.cols, hB.name, hB.side⟩, .inr (.inl ?_)⟩
      rw [hRB]
      refine ⟨?_, h3, h4, ?_⟩
      · show x.i + (3 * (repO n).length + 2) = _; rw [repO_length]; omega
      · show (repO n).foldl ordL x.look = _
        rw [h5]
        exact (repO_look n false).trans (by simp)
    · rw [hRB] at hx
      obtain ⟨h2, h3, h4, h5⟩ := hx
      obtain ⟨r, hdr⟩ : ∃ r, x.s.drop x.i = 120 :: r := ⟨_, by rw [hB.s, h2]; exact hbx⟩
      have hc := (of_drop hdr).1
      rw [hB.s] at hc
      refine turn_plain hc (.inl rfl) ⟨⟨hB.d, hB.s, hB.cols, hB.name, hB.side⟩, .inr (.inr (.inl ?_))⟩
      have hg := sgn_ascii hdr (by decide)
      rw [hRC]
      refine ⟨?_, ?_, ?_, h5⟩
      · show x.i + x.sgn.length = _; rw [hg, h2]; rfl
      · show x.so ++ x.sgn = _; rw [h3, hg]; rfl
      · show x.ps ++ [(x.sgn, x.now)] = _; rw [h4, hg, hnow, h5]; rfl
    · rw [hRC] at hx
      obtain ⟨h2, h3, h4, h5⟩ := hx
      have hdr : x.s.drop x.i = 123 :: (ordsB [(true, false)] ++ 125 :: [121]) := by rw [hB.s, h2]; exact (of_drop hbx).2.2
      refine turn4_form (by have := (of_drop hdr).1; rw [hB.s] at this; exact this) (past_ords (by simp) hdr (by rw [hB.s]; omega) (by decide) (by rw [h3]; decide) (by rw [h3]; exact melts_ascii_end fun c hc => by simp at hc; rw [← hc]; decide) ?_)
      refine ⟨⟨hB.d, hB.s, hB.cols, hB.name, hB.side⟩, .inr (.inr (.inr (.inl ?_)))⟩
      rw [hRD]
      refine ⟨?_, h3, h4, ?_⟩
      · show x.i + 5 = _; omega
      · show ordL x.look (true, false) = _; rw [h5]; rfl
    · rw [hRD] at hx
      obtain ⟨h2, h3, h4, h5⟩ := hx
      have hdr : x.s.drop x.i = 121 :: [] := by
        rw [hB.s, h2, show B + 6 = B + 1 + 5 by omega, ← List.drop_drop, (of_drop hbx).2.2]; rfl
      have hc := (of_drop hdr).1
      rw [hB.s] at hc
      refine turn_plain hc (.inr rfl) ⟨⟨hB.d, hB.s, hB.cols, hB.name, hB.side⟩, .inr (.inr (.inr (.inr ?_)))⟩
      have hg := sgn_ascii hdr (by decide)
      rw [hRE]
      refine ⟨?_, ?_, ?_⟩
      · show x.i + x.sgn.length = _; rw [hg, h2]; rfl
      · show x.so ++ x.sgn = _; rw [h3, hg]; rfl
      · show x.ps ++ [(x.sgn, x.now)] = _; rw [h4, hg, hnow, h5]; rfl
    · exfalso
      rw [hRE] at hx; obtain ⟨h2, _⟩ := hx; omega
  · rintro x ⟨hB, hx⟩ hl h4
    exfalso
    rcases hx with hx | hx | hx | hx | hx
    · rw [hRA] at hx; obtain ⟨_, _, h3, _⟩ := hx; rw [h3] at h4; simp at h4
    · rw [hRB] at hx; obtain ⟨_, h3, _⟩ := hx; rw [h3] at h4; simp at h4
    · rw [hRC] at hx; obtain ⟨_, h3, _⟩ := hx; rw [h3] at h4; simp at h4
    · rw [hRD] at hx; obtain ⟨_, h3, _⟩ := hx; rw [h3] at h4; simp at h4
    · rw [hRE] at hx; obtain ⟨_, h3, _⟩ := hx; rw [h3] at h4; simp at h4
  · rintro x ⟨hB, hx⟩ hl
    rcases hx with hx | hx | hx | hx | hx
    · exfalso; rw [hRA] at hx; obtain ⟨_, h2, _⟩ := hx; omega
    · exfalso; rw [hRB] at hx; obtain ⟨h2, _⟩ := hx; omega
    · exfalso; rw [hRC] at hx; obtain ⟨h2, _⟩ := hx; omega
    · exfalso; rw [hRD] at hx; obtain ⟨h2, _⟩ := hx; omega
    · rw [hRE] at hx
      obtain ⟨h2, h3, h4⟩ := hx
      exact ⟨0, _, _, long_end h4, rfl, rfl, rfl, hB.name, hB.side⟩
end Go.Proofs.YtlkdhhkncoekgaaDoor

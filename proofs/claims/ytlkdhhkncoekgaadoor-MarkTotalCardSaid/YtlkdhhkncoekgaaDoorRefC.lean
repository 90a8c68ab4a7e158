/- How the signs of a text look, by the reference's functions. -/
import Derived.Test.YtlkdhhkncoekgaaDoorRefB

section
namespace Go.Proofs.YtlkdhhkncoekgaaDoor
open Go.Am Go

theorem wi64 (i : Nat) (h : i ≤ 1000000000) : IntKind.i64.wrap ((i : Int) + 1) = ((i + 1 : Nat) : Int) := by rw [wrap_i64 (by omega) (by omega)]; omega

set_option maxRecDepth 100000 in
theorem rLooks_S (s : List UInt8) {so : List Spn} (hl : so.length ≤ 1000000) (hv : ∀ x ∈ so, -1000000000 ≤ x.v ∧ x.v ≤ 1000000000) {H : AH} {q : Option Nat} (hq : TextAt H q so) (n : Int) :
    ACallee Tryd.prog 42 [.agg [.str s, sl q so.length], .int .i64 n] H fun v H' => v = .agg (lookS so n).cells ∧ H.n ≤ H'.n ∧ ∀ c, c < H.n → H'.get c = H.get c := by
  obtain ⟨Q, hQ⟩ : ∃ Q : AV → AH → Prop, Q = fun v H' => v = .agg (lookS so n).cells ∧ H.n ≤ H'.n ∧ ∀ c, c < H.n → H'.get c = H.get c := ⟨_, rfl⟩
  rw [← hQ]
  refine .inl ⟨goB_spec (by kernel_rfl), vcG_ok (anns := _) (rans := _) follows' (Eq.mpr (rLooks_vc (real Tryd.prog) (Iter Tryd.prog) s (q.map fun b => (b, 0)) so.length n H Q) ?_)⟩
  simp only [real_n, real_al, real_rd1, real_rdn, real_call, real_wr, real_wrap, AH.n_alloc]
  obtain ⟨A0, hA0⟩ : ∃ A, A = (((H.alloc (.cells [.str s, .slice (q.map fun b => (b, 0)) so.length so.length] 26 { whole := true })).alloc (.cells [.bool false, .bool false, .bool false, .bool false, .int .i64 0] 53 { whole := true })).alloc (.cells [.bool false, .bool false, .bool false, .bool false, .int .i64 0] 53 { whole := true })) := ⟨_, rfl⟩
  simp only [← hA0]
  obtain ⟨A, hA⟩ : ∃ A, A = A0.set (H.n + 2) (.cells noLook.cells 53 { whole := true }) := ⟨_, rfl⟩
  obtain ⟨G, hG⟩ : ∃ G : Look → AH → Prop, G = fun a K => H.n + 2 < K.n ∧ K.get H.n = some (.cells [.str s, .slice (q.map fun b => (b, 0)) so.length so.length] 26 { whole := true }) ∧ K.get (H.n + 1) = some (.cells noLook.cells 53 { whole := true }) ∧ K.get (H.n + 2) = some (.cells a.cells 53 { whole := true }) ∧ ∀ c, c < H.n → K.get c = H.get c := ⟨_, rfl⟩
  have g2 : A0.get (H.n + 2) = some (.cells noLook.cells 53 { whole := true }) := by rw [hA0, AH.get_alloc, if_pos (by simp)]; rfl
  have gA : G noLook A := by
    rw [hG, hA]
    refine ⟨by rw [hA0]; simp, ?_, ?_, by rw [AH.get_set, if_pos rfl], fun c hc => ?_⟩
    · rw [AH.get_set, if_neg (by omega), hA0, AH.get_alloc, if_neg (by simp only [AH.n_alloc]; omega), AH.get_alloc, if_neg (by simp only [AH.n_alloc]; omega), AH.get_alloc, if_pos rfl]
    · rw [AH.get_set, if_neg (by omega), hA0, AH.get_alloc, if_neg (by simp only [AH.n_alloc]; omega), AH.get_alloc, if_pos (by simp)]; rfl
    · rw [AH.get_set, if_neg (by omega), hA0, AH.get_alloc, if_neg (by simp only [AH.n_alloc]; omega), AH.get_alloc, if_neg (by simp only [AH.n_alloc]; omega), AH.get_alloc, if_neg (by omega)]
  have r1 : ∀ {a K}, G a K → K.read1 H.n 1 = some (.slice (q.map fun b => (b, 0)) so.length so.length) := fun {a K} h => by rw [hG] at h; unfold AH.read1; rw [h.2.1]; rfl
  have old : ∀ {a K}, G a K → ∀ c, c < H.n → K.get c = H.get c := fun {a K} h => by rw [hG] at h; exact h.2.2.2.2
  have gw : ∀ {a a' : Look} {K : AH} {i : Nat} {v : AV}, G a K → i < 5 → AV.one v = true → splice a.cells i [v] = a'.cells → ∃ K', K.write (H.n + 2) i [v] = some K' ∧ G a' K' ∧ K'.n = K.n ∧ ∀ c, c ≠ H.n + 2 → K'.get c = K.get c := fun {a a' K i v} hK hi hv hsp => by
    rw [hG] at hK
    refine ⟨K.set (H.n + 2) (.cells a'.cells 53 { whole := true }), ?_, ?_, rfl, fun c hc => by rw [AH.get_set, if_neg hc]⟩
    · unfold AH.write
      rw [hK.2.2.2.1]
      simp only
      rw [if_pos ⟨trivial, Nat.zero_le _, by rw [Look.cells_length]; simp only [List.length_cons, List.length_nil]; omega, by simp [hv]⟩, hsp]
    · rw [hG]
      exact ⟨hK.1, by rw [AH.get_set, if_neg (by omega)]; exact hK.2.1, by rw [AH.get_set, if_neg (by omega)]; exact hK.2.2.1, by rw [AH.get_set, if_pos rfl], fun c hc => by rw [AH.get_set, if_neg (by omega)]; exact hK.2.2.2.2 c hc⟩
  have gk : ∀ {a K K'}, G a K → K.n ≤ K'.n → (∀ b, b < K.n → K'.get b = K.get b) → G a K' := fun {a K K'} hK h1 h2 => by
    rw [hG] at hK ⊢
    exact ⟨by omega, by rw [h2 _ (by omega)]; exact hK.2.1, by rw [h2 _ (by omega)]; exact hK.2.2.1, by rw [h2 _ (by omega)]; exact hK.2.2.2.1, fun c hc => by rw [h2 c (by omega)]; exact hK.2.2.2.2 c hc⟩
  obtain ⟨I, hI⟩ : ∃ I : Option Spn → Int → Nat → Prop, I = fun o inn m => (o = none ∧ inn = -1) ∨ ∃ (j : Nat) (hj : j < so.length), j < m ∧ inn = (j : Int) ∧ o = some so[j] := ⟨_, rfl⟩
  refine ⟨(by trivial), by decide, A, by rw [hA]; unfold AH.write; rw [g2]; simp [splice, AV.one, noLook, Look.cells], fun y K k => ∃ (m : Nat) (a : Look) (o : Option Spn) (inn : Int), y = (H.n, H.n + 1, H.n + 2, inn, (m : Int)) ∧ m ≤ so.length ∧ (so.take m).foldl (lkStep n) (noLook, none) = (a, o) ∧ G a K ∧ I o inn m ∧ k = so.length - m,
    ⟨(H.n, H.n + 1, H.n + 2, -1, 0), so.length, rfl, 0, noLook, none, -1, rfl, Nat.zero_le _, rfl, gA, by rw [hI]; exact .inl ⟨rfl, rfl⟩, rfl⟩, ?_⟩
  rintro _ K _ ⟨m, a, o, inn, rfl, hm, hfold, hK, hin, rfl⟩
  simp only
  refine ⟨_, _, _, r1 hK, ?_⟩
  by_cases hmn : m < so.length
  · have d : decide ((m : Int) < (so.length : Int)) = true := by rw [decide_eq_true_iff]; omega
    simp only [d, cond_true]
    obtain ⟨x, hx⟩ : ∃ x, x = so[m] := ⟨_, rfl⟩
    have hxv := hv x (by rw [hx]; exact List.getElem_mem hmn)
    have hnext : (so.take (m + 1)).foldl (lkStep n) (noLook, none) = lkStep n (a, o) x := by
      rw [List.take_succ_eq_append_getElem hmn, List.foldl_append, hfold, hx]; rfl
    obtain ⟨b, hqb, hrd⟩ := hq.span (old hK) hmn
    obtain ⟨B, hB⟩ : ∃ B, B = (K.alloc (.cells [.int .i64 0, .int .i64 0, .int .i64 0, .int .i64 0] 41 { whole := true })).set K.n (.cells x.cells 41 { whole := true }) := ⟨_, rfl⟩
    have bg : B.get K.n = some (.cells x.cells 41 { whole := true }) := by rw [hB, AH.get_set, if_pos rfl]
    have bn : B.n = K.n + 1 := by rw [hB]; rfl
    have bo : ∀ c, c < K.n → B.get c = K.get c := fun c hc => by rw [hB, AH.get_set, if_neg (by omega), AH.get_alloc, if_neg (by omega)]
    have gB : G a B := gk hK (by omega) bo
    have hKn : H.n + 2 < K.n := by rw [hG] at hK; exact hK.1
    have rb : ∀ i : Nat, B.read1 K.n i = x.cells[i]? := fun i => by unfold AH.read1; rw [bg]
    refine ⟨fun y K' => ∃ (a' : Look) (o' : Option Spn) (inn' : Int), y = (H.n, H.n + 1, H.n + 2, inn', (m : Int)) ∧ lkStep n (a, o) x = (a', o') ∧ G a' K' ∧ I o' inn' (m + 1), ⟨_, _, _, r1 hK, b, 0, ⟨by rw [hqb]; rfl, by omega, by omega⟩, x.f, x.t, x.k, x.v, by rw [hx]; exact hrd, rfl, B, by rw [hB]; simp [AH.write, AH.get_alloc, splice, AV.one, Spn.cells], x.f, by rw [rb]; rfl, x.t, by rw [rb]; rfl, ?_⟩, ?_⟩
    · have hcov : (decide (n < x.f) || decide (n ≥ x.t)) = !covers x n := by
        unfold covers
        rw [Bool.not_and]
        congr 1
        · rw [← decide_not, decide_eq_decide]; omega
        · rw [← decide_not, decide_eq_decide]; omega
      have Imono : I o inn (m + 1) := by
        rw [hI] at hin ⊢
        rcases hin with h | ⟨j, hj, h1, h2⟩
        · exact .inl h
        · exact .inr ⟨j, hj, by omega, h2⟩
      rw [hcov]
      unfold lkStep
      cases hc : covers x n with
      | false =>
        simp only [Bool.not_false, cond_true, cond_false]
        exact ⟨(H.n, H.n + 1, H.n + 2, inn, (m : Int)), 0, trivial, rfl, a, o, inn, rfl, rfl, gB, Imono⟩
      | true =>
        simp only [Bool.not_true, cond_false, cond_true]
        refine ⟨x.k, by rw [rb]; rfl, ?_⟩
        by_cases h1 : x.k = 1
        · have e : (x.k == 1) = true := by rw [h1]; rfl
          have ic : isC x = false := by unfold isC; rw [e]; rfl
          simp only [e, ic, cond_true, cond_false]
          obtain ⟨K', w1, w2, _⟩ := gw (a' := { a with b := true }) gB (i := 0) (by decide) (v := .bool true) rfl (by simp [splice, Look.cells])
          exact ⟨(by trivial), K', w1, (H.n, H.n + 1, H.n + 2, inn, (m : Int)), 0, trivial, rfl, _, o, inn, rfl, by unfold setL; rw [if_pos h1], w2, Imono⟩
        have e1 : (x.k == 1) = false := beq_eq_false_iff_ne.2 h1
        simp only [e1, cond_false]
        by_cases h2 : x.k = 2
        · have e : (x.k == 2) = true := by rw [h2]; rfl
          have ic : isC x = false := by unfold isC; rw [e]; simp
          simp only [e, ic, cond_true, cond_false]
          obtain ⟨K', w1, w2, _⟩ := gw (a' := { a with i := true }) gB (i := 1) (by decide) (v := .bool true) rfl (by simp [splice, Look.cells])
          exact ⟨(by trivial), K', w1, (H.n, H.n + 1, H.n + 2, inn, (m : Int)), 0, trivial, rfl, _, o, inn, rfl, by unfold setL; rw [if_neg h1, if_pos h2], w2, Imono⟩
        have e2 : (x.k == 2) = false := beq_eq_false_iff_ne.2 h2
        simp only [e2, cond_false]
        by_cases h3 : x.k = 3
        · have e : (x.k == 3) = true := by rw [h3]; rfl
          have ic : isC x = false := by unfold isC; rw [e]; simp
          simp only [e, ic, cond_true, cond_false]
          obtain ⟨K', w1, w2, _⟩ := gw (a' := { a with u := true }) gB (i := 2) (by decide) (v := .bool true) rfl (by simp [splice, Look.cells])
          exact ⟨(by trivial), K', w1, (H.n, H.n + 1, H.n + 2, inn, (m : Int)), 0, trivial, rfl, _, o, inn, rfl, by unfold setL; rw [if_neg h1, if_neg h2, if_pos h3], w2, Imono⟩
        have e3 : (x.k == 3) = false := beq_eq_false_iff_ne.2 h3
        simp only [e3, cond_false]
        by_cases h4 : x.k = 4
        · have e : (x.k == 4) = true := by rw [h4]; rfl
          have ic : isC x = false := by unfold isC; rw [e]; simp
          simp only [e, ic, cond_true, cond_false]
          obtain ⟨K', w1, w2, _⟩ := gw (a' := { a with k := true }) gB (i := 3) (by decide) (v := .bool true) rfl (by simp [splice, Look.cells])
          exact ⟨(by trivial), K', w1, (H.n, H.n + 1, H.n + 2, inn, (m : Int)), 0, trivial, rfl, _, o, inn, rfl, by unfold setL; rw [if_neg h1, if_neg h2, if_neg h3, if_pos h4], w2, Imono⟩
        have e4 : (x.k == 4) = false := beq_eq_false_iff_ne.2 h4
        have ic : isC x = true := by unfold isC; rw [e1, e2, e3, e4]; rfl
        simp only [e4, ic, cond_true, cond_false]
        have ft : (false == false) = true := rfl
        have tf : (true == false) = false := rfl
        obtain ⟨T, hT⟩ : ∃ T : Bool, T = match o with
          | none => true
          | some y => withinV x y := ⟨_, rfl⟩
        have hcol : colStep x (a, o) = bif T then ({ a with c := x.v + 1 }, some x) else (a, o) := by
          rw [hT]; unfold colStep
          cases o <;> rfl
        rw [hcol]
        refine ⟨fun y K' => y = ((H.n, H.n + 1, H.n + 2, inn, (m : Int)), K.n, T) ∧ B = K', ?_, ?_⟩
        · rw [hI] at hin
          rcases hin with ⟨rfl, rfl⟩ | ⟨j, hj, hjm, rfl, rfl⟩
          · have d : decide ((-1 : Int) < 0) = true := by decide
            simp only [d, tf, cond_false]
            exact ⟨((H.n, H.n + 1, H.n + 2, -1, (m : Int)), K.n, true), 0, trivial, rfl, by rw [hT], (by trivial)⟩
          · have d : decide ((j : Int) < 0) = false := by rw [decide_eq_false_iff_not]; omega
            simp only [d, ft, cond_true]
            obtain ⟨b', e', hrd'⟩ := hq.span (old gB) hj
            refine ⟨x.f, x.t, x.k, x.v, by unfold AH.read; rw [bg]; rfl, _, _, _, r1 gB, b', 0, ⟨by rw [e']; rfl, by omega, by omega⟩, _, _, _, _, hrd', ?_⟩
            refine (rWithin_pure x so[j]).use1 ⟨_, rfl, ((H.n, H.n + 1, H.n + 2, (j : Int), (m : Int)), K.n, withinV x so[j]), 0, trivial, rfl, ?_, rfl⟩
            rw [hT]
        · rintro _ _ ⟨rfl, rfl⟩
          simp only
          have Inew : I (some x) (m : Int) (m + 1) := by
            rw [hI]; exact .inr ⟨m, hmn, by omega, rfl, by rw [hx]⟩
          cases T with
          | true =>
            simp only [cond_true]
            have w1 : IntKind.i64.wrap (x.v + 1) = x.v + 1 := wrap_i64 (by omega) (by omega)
            obtain ⟨K', w2, w3, _⟩ := gw (a' := { a with c := x.v + 1 }) gB (i := 4) (by decide) (v := .int .i64 (x.v + 1)) rfl (by simp [splice, Look.cells])
            exact ⟨x.v, by rw [rb]; rfl, rfl, K', by rw [w1]; exact w2, (H.n, H.n + 1, H.n + 2, (m : Int), (m : Int)), 0, trivial, rfl, _, _, (m : Int), rfl, rfl, w3, Inew⟩
          | false =>
            simp only [cond_false]
            exact ⟨(H.n, H.n + 1, H.n + 2, inn, (m : Int)), 0, trivial, rfl, a, o, inn, rfl, rfl, gB, Imono⟩
    · rintro _ K' ⟨a', o', inn', rfl, hst, hK', hI'⟩
      simp only
      exact ⟨(H.n, H.n + 1, H.n + 2, inn', ((m + 1 : Nat) : Int)), so.length - (m + 1), by omega, by rw [wi64 m (by omega)], m + 1, a', o', inn', rfl, by omega, by rw [hnext, hst], hK', hI', rfl⟩
  · obtain rfl : m = so.length := by omega
    have d : decide ((so.length : Int) < (so.length : Int)) = false := by rw [decide_eq_false_iff_not]; omega
    simp only [d, cond_false]
    rw [List.take_length] at hfold
    have ea : lookS so n = a := by unfold lookS; rw [hfold]
    rw [hG] at hK
    refine ⟨a.b, a.i, a.u, a.k, a.c, by unfold AH.read; rw [hK.2.2.2.1]; rfl, rfl, K.set (H.n + 1) (.cells a.cells 53 { whole := true }), ?_, a.b, a.i, a.u, a.k, a.c, ?_, ?_⟩
    · unfold AH.write
      rw [hK.2.2.1]
      simp [splice, AV.one, Look.cells, noLook]
    · simp [AH.read, AH.get_set, Look.cells]
    · rw [hQ, ea]
      exact ⟨rfl, by show H.n ≤ K.n; omega, fun c hc => by rw [AH.get_set, if_neg (by omega)]; exact hK.2.2.2.2 c hc⟩

set_option maxRecDepth 100000 in
theorem rAll_S (s : List UInt8) (n : Nat) (hn : SignsN s n) (hs : s.length ≤ 4096) {so : List Spn} (hl : so.length ≤ 1000000) (hv : ∀ x ∈ so, -1000000000 ≤ x.v ∧ x.v ≤ 1000000000) {H : AH} {q : Option Nat} (hq : TextAt H q so) :
    ACallee Tryd.prog 21 [.agg [.str s, sl q so.length]] H fun v H' =>
      ∃ q', v = sl q' n ∧ Lies H' q' n (flat Look.cells ((List.range n).map fun i : Nat => lookS so (i : Int))) 53 ∧ (∀ b, q' = some b → H.n ≤ b ∧ b < H'.n) ∧ H.n ≤ H'.n ∧ ∀ c, c < H.n → H'.get c = H.get c := by
  have hnl : n ≤ s.length := by have := place_ge hn.2; have := hn.1; omega
  refine .inl ⟨goB_spec (by kernel_rfl), vcG_ok (anns := _) (rans := _) follows' (Eq.mpr (rAll_vc (real Tryd.prog) (Iter Tryd.prog) s (q.map fun b => (b, 0)) so.length H _) ?_)⟩
  simp only [real_n, real_al, real_rd1, real_rdn, real_call, real_wrap, real_app]
  obtain ⟨A, hA⟩ : ∃ A, A = H.alloc (.cells [.str s, .slice (q.map fun b => (b, 0)) so.length so.length] 26 { whole := true }) := ⟨_, rfl⟩
  rw [← hA]
  obtain ⟨G, hG⟩ : ∃ G : AH → Prop, G = fun K => K.get H.n = some (.cells [.str s, .slice (q.map fun b => (b, 0)) so.length so.length] 26 { whole := true }) ∧ H.n < K.n ∧ ∀ c, c < H.n → K.get c = H.get c := ⟨_, rfl⟩
  have gA : G A := by
    rw [hG, hA]; exact ⟨by rw [AH.get_alloc, if_pos rfl], by simp, fun c hc => by rw [AH.get_alloc, if_neg (by omega)]⟩
  have gk : ∀ {K K'}, G K → K.n ≤ K'.n → (∀ b, b ≤ H.n → K'.get b = K.get b) → G K' := fun {K K'} hK h1 h2 => by
    rw [hG] at hK ⊢
    exact ⟨by rw [h2 _ (Nat.le_refl _)]; exact hK.1, by omega, fun c hc => by rw [h2 c (by omega)]; exact hK.2.2 c hc⟩
  obtain ⟨L, hL⟩ : ∃ L : Nat → List Look, L = fun m => (List.range m).map fun i : Nat => lookS so (i : Int) := ⟨_, rfl⟩
  have hLl : ∀ m, (L m).length = m := fun m => by rw [hL]; simp
  have hLs : ∀ m, L (m + 1) = L m ++ [lookS so (m : Int)] := fun m => by rw [hL]; simp [List.range_succ]
  have hLe : (List.range n).map (fun i : Nat => lookS so (i : Int)) = L n := by rw [hL]
  rw [hLe]
  have gA' := gA
  rw [hG] at gA'
  refine ⟨(by trivial), s, by unfold AH.read1; rw [gA'.1]; rfl, (rCount_S s n hn (by omega) A).mono ?_⟩
  rintro v B ⟨rfl, bn, bo⟩
  have gB : G B := gk gA bn fun b hb => bo b (by omega)
  refine ⟨n, rfl, fun y K k => ∃ (m : Nat) (q' : Option Nat), y = (H.n, (n : Int), (q'.map (fun b => (b, 0)), m), (m : Int)) ∧ m ≤ n ∧ G K ∧ Lies K q' m (flat Look.cells (L m)) 53 ∧ (∀ b, q' = some b → H.n < b ∧ b < K.n) ∧ k = n - m,
    ⟨(H.n, (n : Int), (none, 0), 0), n, rfl, 0, none, rfl, Nat.zero_le _, gB, ⟨rfl, by rw [hL]; rfl⟩, (fun b h => by cases h), rfl⟩, ?_⟩
  rintro _ K _ ⟨m, q', rfl, hm, hK, hl', hq', rfl⟩
  simp only
  have hK' := hK
  rw [hG] at hK'
  obtain ⟨k1, k2, k3⟩ := hK'
  by_cases hmn : m < n
  · have d : decide ((m : Int) < (n : Int)) = true := by rw [decide_eq_true_iff]; omega
    simp only [d, cond_true]
    refine ⟨s, _, _, _, by unfold AH.read; rw [k1]; rfl, ?_⟩
    refine (rLooks_S s hl hv (hq.keep (by omega) k3) (m : Int)).mono ?_
    rintro v K1 ⟨rfl, n1, o1⟩
    obtain ⟨a, ha⟩ : ∃ a, a = lookS so (m : Int) := ⟨_, rfl⟩
    rw [← ha]
    obtain ⟨C, hC⟩ : ∃ C, C = K1.alloc (.cells a.cells 53 { whole := true }) := ⟨_, rfl⟩
    have cg : C.get K1.n = some (.cells a.cells 53 { whole := true }) := by rw [hC, AH.get_alloc, if_pos rfl]
    have co : ∀ c, c < K1.n → C.get c = K1.get c := fun c hc => by rw [hC, AH.get_alloc, if_neg (by omega)]
    have cn : C.n = K1.n + 1 := by rw [hC]; rfl
    have hlC : Lies C q' (L m).length (flat Look.cells (L m)) 53 := by
      rw [hLl]
      exact hl'.same fun b hb => by have := hq' b hb; rw [co b (by omega), o1 b (by omega)]
    obtain ⟨H5, a1, a2, a3, a4⟩ := append_look (y := a) hlC cg (by rw [hLl]; omega)
    rw [hLl] at a1
    have al : (L m ++ [a]).length = m + 1 := by simp [hLl]
    rw [al] at a1 a3
    refine ⟨a.b, a.i, a.u, a.k, a.c, rfl, by decide, some (C.n, 0), m + 1, m + 1, H5, ?_, (H.n, (n : Int), (some (C.n, 0), m + 1), ((m + 1 : Nat) : Int)), n - (m + 1), by omega, by rw [wi64 m (by omega)], m + 1, some C.n, rfl, by omega, ?_, ?_, ?_, rfl⟩
    · rw [hC] at a1 ⊢; exact a1
    · refine gk hK (by omega) fun b hb => ?_
      rw [a4 _ (by omega) (fun e => by have := hq' _ e; omega), co _ (by omega), o1 _ (by omega)]
    · rw [hLs, ← ha]; exact a3
    · rintro b hb; cases hb; omega
  · obtain rfl : m = n := by omega
    have d : decide ((m : Int) < (m : Int)) = false := by rw [decide_eq_false_iff_not]; omega
    simp only [d, cond_false]
    exact ⟨q', rfl, hl', fun b hb => by have := hq' b hb; omega, by omega, k3⟩
end Go.Proofs.YtlkdhhkncoekgaaDoor
end

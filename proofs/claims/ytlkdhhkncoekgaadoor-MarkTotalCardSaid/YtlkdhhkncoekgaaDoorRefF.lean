/- A text in normal form is right, and its normal form is itself, by the reference's functions. -/
import Derived.Test.YtlkdhhkncoekgaaDoorRefE

section
namespace Go.Proofs.YtlkdhhkncoekgaaDoor
open Go.Am Go

theorem fits_v {x : Spn} {n : Int} (h : fitsV x n = true) : -1000000000 ≤ x.v ∧ x.v ≤ 1000000000 := by
  unfold fitsV at h
  cases h1 : (decide (x.f < 0) || decide (x.t > n) || decide (x.f ≥ x.t) || decide (x.k < 1) || decide (x.k > 5)) with
  | true => rw [h1] at h; cases h
  | false =>
    rw [h1] at h
    simp only [cond_false] at h
    cases h2 : (x.k == 5) with
    | true =>
      rw [h2] at h
      simp only [cond_true, Bool.and_eq_true, decide_eq_true_eq] at h
      omega
    | false =>
      rw [h2] at h
      simp only [cond_false, beq_iff_eq] at h
      omega

structure NormT (s : List UInt8) (L : List Look) (so : List Spn) : Prop where
  signs : SignsN s L.length
  len : s.length ≤ 4096
  c : ∀ a ∈ L, 0 ≤ a.c ∧ a.c ≤ 16777216
  eq : so = layAll (spans L)
  few : so.length ≤ 256
theorem NormT.perm {s : List UInt8} {L : List Look} {so : List Spn} (h : NormT s L so) : so.Perm (spans L) := by rw [h.eq]; exact spans_spec L
theorem NormT.fits {s : List UInt8} {L : List Look} {so : List Spn} (h : NormT s L so) : ∀ x ∈ so, fitsV x L.length = true := fun _ hx => spans_fit h.c (h.perm.mem_iff.1 hx)
theorem NormT.cross {s : List UInt8} {L : List Look} {so : List Spn} (h : NormT s L so) : ∀ x ∈ so, ∀ y ∈ so, crossV x y = false := fun _ hx _ hy => spans_cross (h.perm.mem_iff.1 hx) (h.perm.mem_iff.1 hy)
theorem NormT.v {s : List UInt8} {L : List Look} {so : List Spn} (h : NormT s L so) : ∀ x ∈ so, -1000000000 ≤ x.v ∧ x.v ≤ 1000000000 := fun x hx => fits_v (h.fits x hx)
theorem NormT.looks {s : List UInt8} {L : List Look} {so : List Spn} (h : NormT s L so) : L.length ≤ 4096 := by have := place_ge h.signs.2; have := h.signs.1; have := h.len; omega

theorem rRight_S {s : List UInt8} {L : List Look} {so : List Spn} (h : NormT s L so) {H : AH} {q : Option Nat} (hq : TextAt H q so) :
    ACallee Tryd.prog 14 [.agg [.str s, sl q so.length]] H fun v H' => v = .bool true ∧ H.n ≤ H'.n ∧ ∀ c, c < H.n → H'.get c = H.get c := by
  refine .inl ⟨goB_spec (by kernel_rfl), vcF_ok (anns := []) follows' ?_⟩
  show vcF _ _ _ _ [.agg [.str s, .slice (q.map fun b => (b, 0)) so.length so.length]] _ _
  rw [rRight_vc]
  simp only [real_n, real_al, real_rdn, real_call]
  obtain ⟨A, hA⟩ : ∃ A, A = H.alloc (.cells [.str s, .slice (q.map fun b => (b, 0)) so.length so.length] 26 { whole := true }) := ⟨_, rfl⟩
  rw [← hA]
  have ag : A.get H.n = some (.cells [.str s, .slice (q.map fun b => (b, 0)) so.length so.length] 26 { whole := true }) := by rw [hA, AH.get_alloc, if_pos rfl]
  have ao : ∀ c, c < H.n → A.get c = H.get c := fun c hc => by rw [hA, AH.get_alloc, if_neg (by omega)]
  have an : A.n = H.n + 1 := by rw [hA]; rfl
  refine ⟨(by trivial), s, q.map fun b => (b, 0), so.length, so.length, by unfold AH.read; rw [ag]; rfl, ?_⟩
  refine (rCheck_S s L.length h.signs h.len h.few h.fits h.cross (hq.keep (by omega) ao)).mono ?_
  rintro v B ⟨rfl, b1, b2⟩
  exact ⟨0, rfl, rfl, by omega, fun c hc => by rw [b2 c (by omega)]; exact ao c hc⟩

theorem rMade_S (s : List UInt8) (L : List Look) (hL : L.length ≤ 4096) (hc : ∀ a ∈ L, 0 ≤ a.c ∧ a.c ≤ 16777216) (h256 : (spans L).length ≤ 256) {H : AH} {q : Option Nat} (hq : LooksAt H q L) :
    ACallee Tryd.prog 32 [.str s, sl q L.length] H (TextRes H 0 s (layAll (spans L))) := by
  refine .inl ⟨goB_spec (by kernel_rfl), vcF_ok (anns := []) follows' ?_⟩
  show vcF _ _ _ _ [.str s, .slice (q.map fun b => (b, 0)) L.length L.length] _ _
  rw [rMade_vc]
  simp only [real_n, real_al, real_rdn, real_call, real_wr]
  have hq' : LooksAt (H.alloc (.cells [.str [], .slice none 0 0] 26 { whole := true })) q L := by
    cases q with
    | none => exact hq
    | some b => obtain ⟨h1, fl, h2⟩ := hq; exact ⟨by simp only [AH.n_alloc]; omega, fl, by rw [AH.get_alloc, if_neg (by omega)]; exact h2⟩
  refine (rNormal_S L hL hc h256 hq').mono ?_
  rintro v H1 ⟨q1, rfl, g1, g2, g3, g4⟩
  simp only [AH.n_alloc] at g2 g3 g4
  have g0 : H1.get H.n = some (.cells [.str [], .slice none 0 0] 26 { whole := true }) := by rw [g4 _ (by omega), AH.get_alloc, if_pos rfl]
  refine ⟨_, _, _, true, rfl, ?_⟩
  simp only [Bool.not_true, cond_false]
  refine ⟨rfl, H1.set H.n (.cells [.str s, .slice (q1.map fun b => (b, 0)) (layAll (spans L)).length (layAll (spans L)).length] 26 { whole := true }), by simp [AH.write, g0, splice, AV.one], s, q1.map fun b => (b, 0), (layAll (spans L)).length, (layAll (spans L)).length, by simp [AH.read, AH.get_set], q1, rfl, ?_, fun c hc => ?_, ?_, fun c hc => ?_⟩
  · exact g1.same fun b hb => by have := g2 b hb; rw [AH.get_set, if_neg (by omega)]
  · have := g2 c hc; simp only [AH.n_set]; omega
  · simp only [AH.n_set]; omega
  · rw [AH.get_set, if_neg (by omega), g4 c (by omega), AH.get_alloc, if_neg (by omega)]

theorem rNorm_S {s : List UInt8} {L : List Look} {so : List Spn} (h : NormT s L so) {H : AH} {q : Option Nat} (hq : TextAt H q so) :
    ACallee Tryd.prog 13 [.agg [.str s, sl q so.length]] H (TextRes H 0 s so) := by
  refine .inl ⟨goB_spec (by kernel_rfl), vcF_ok (anns := []) follows' ?_⟩
  show vcF _ _ _ _ [.agg [.str s, .slice (q.map fun b => (b, 0)) so.length so.length]] _ _
  rw [rNorm_vc]
  simp only [real_n, real_al, real_rd1, real_rdn, real_call, real_wr, AH.n_alloc]
  obtain ⟨A, hA⟩ : ∃ A, A = (H.alloc (.cells [.str s, .slice (q.map fun b => (b, 0)) so.length so.length] 26 { whole := true })).alloc (.cells [.str [], .slice none 0 0] 26 { whole := true }) := ⟨_, rfl⟩
  rw [← hA]
  have ag : A.get H.n = some (.cells [.str s, .slice (q.map fun b => (b, 0)) so.length so.length] 26 { whole := true }) := by rw [hA, AH.get_alloc, if_neg (by simp only [AH.n_alloc]; omega), AH.get_alloc, if_pos rfl]
  have ag1 : A.get (H.n + 1) = some (.cells [.str [], .slice none 0 0] 26 { whole := true }) := by rw [hA, AH.get_alloc, if_pos (by simp)]
  have ao : ∀ c, c < H.n → A.get c = H.get c := fun c hc => by rw [hA, AH.get_alloc, if_neg (by simp only [AH.n_alloc]; omega), AH.get_alloc, if_neg (by omega)]
  have an : A.n = H.n + 2 := by rw [hA]; simp
  refine ⟨(by trivial), s, q.map fun b => (b, 0), so.length, so.length, by unfold AH.read; rw [ag]; rfl, ?_⟩
  refine (rCheck_S s L.length h.signs h.len h.few h.fits h.cross (hq.keep (by omega) ao)).mono ?_
  rintro v B ⟨rfl, b1, b2⟩
  have bg : B.get H.n = _ := (b2 _ (by omega)).trans ag
  have bo : ∀ c, c < H.n → B.get c = H.get c := fun c hc => by rw [b2 c (by omega)]; exact ao c hc
  have n0 : ((0 : Int) != 0) = false := by decide
  refine ⟨0, rfl, ?_⟩
  simp only [n0, cond_false]
  refine ⟨s, by unfold AH.read1; rw [bg]; rfl, s, q.map fun b => (b, 0), so.length, so.length, by unfold AH.read; rw [bg]; rfl, ?_⟩
  have hsl : so.length ≤ 1000000 := by have := h.few; omega
  refine (rAll_S s L.length h.signs h.len hsl h.v (hq.keep (by omega) bo)).mono ?_
  rintro v C ⟨q', rfl, c1, c2, c3, c4⟩
  rw [looks_all h.perm] at c1
  have cg : C.get H.n = _ := (c4 _ (by omega)).trans bg
  have cg1 : C.get (H.n + 1) = _ := (c4 _ (by omega)).trans ((b2 _ (by omega)).trans ag1)
  refine ⟨q'.map fun b => (b, 0), L.length, L.length, rfl, ⟨s, by unfold AH.read1; rw [cg]; rfl, rfl⟩, ?_⟩
  have hla : LooksAt C q' L := by
    cases q' with
    | none => exact List.length_eq_zero_iff.1 c1.1
    | some b => exact ⟨(c2 b rfl).2, _, c1⟩
  have h256 : (spans L).length ≤ 256 := by rw [← layAll_length, ← h.eq]; exact h.few
  refine (rMade_S s L h.looks h.c h256 hla).mono ?_
  rw [← h.eq]
  rintro v D ⟨q2, rfl, d1, d2, d3, d4⟩
  have dg1 : D.get (H.n + 1) = _ := (d4 _ (by omega)).trans cg1
  refine ⟨s, q2.map fun b => (b, 0), so.length, so.length, 0, rfl, rfl, D.set (H.n + 1) (.cells [.str s, .slice (q2.map fun b => (b, 0)) so.length so.length] 26 { whole := true }), by simp [AH.write, dg1, splice, AV.one], s, q2.map fun b => (b, 0), so.length, so.length, by simp [AH.read, AH.get_set], q2, rfl, ?_, fun c hc => ?_, ?_, fun c hc => ?_⟩
  · exact d1.same fun b hb => by have := d2 b hb; rw [AH.get_set, if_neg (by omega)]
  · have := d2 c hc; simp only [AH.n_set]; omega
  · simp only [AH.n_set]; omega
  · rw [AH.get_set, if_neg (by omega), d4 c (by omega), c4 c (by omega)]; exact bo c hc

set_option maxRecDepth 100000 in
theorem rSame_S (s : List UInt8) {so : List Spn} (hl : so.length ≤ 1000000) {H : AH} {q r : Option Nat} (hq : TextAt H q so) (hr : TextAt H r so) :
    ACallee Tryd.prog 15 [.agg [.str s, sl q so.length], .agg [.str s, sl r so.length]] H fun v H' => v = .bool true ∧ H.n ≤ H'.n ∧ ∀ c, c < H.n → H'.get c = H.get c := by
  refine .inl ⟨goB_spec (by kernel_rfl), vcG_ok (anns := _) (rans := _) follows' (Eq.mpr (rSame_vc (real Tryd.prog) (Iter Tryd.prog) s s (q.map fun b => (b, 0)) (r.map fun b => (b, 0)) so.length so.length H _) ?_)⟩
  simp only [real_n, real_al, real_rd1, real_rdn, real_wrap, AH.n_alloc]
  obtain ⟨A, hA⟩ : ∃ A, A = (H.alloc (.cells [.str s, .slice (q.map fun b => (b, 0)) so.length so.length] 26 { whole := true })).alloc (.cells [.str s, .slice (r.map fun b => (b, 0)) so.length so.length] 26 { whole := true }) := ⟨_, rfl⟩
  simp only [← hA]
  have ag : A.get H.n = some (.cells [.str s, .slice (q.map fun b => (b, 0)) so.length so.length] 26 { whole := true }) := by rw [hA, AH.get_alloc, if_neg (by simp only [AH.n_alloc]; omega), AH.get_alloc, if_pos rfl]
  have ag1 : A.get (H.n + 1) = some (.cells [.str s, .slice (r.map fun b => (b, 0)) so.length so.length] 26 { whole := true }) := by rw [hA, AH.get_alloc, if_pos (by simp)]
  have ao : ∀ c, c < H.n → A.get c = H.get c := fun c hc => by rw [hA, AH.get_alloc, if_neg (by simp only [AH.n_alloc]; omega), AH.get_alloc, if_neg (by omega)]
  have an : A.n = H.n + 2 := by rw [hA]; simp
  have r1 : A.read1 H.n 1 = some (.slice (q.map fun b => (b, 0)) so.length so.length) := by unfold AH.read1; rw [ag]; rfl
  have r2 : A.read1 (H.n + 1) 1 = some (.slice (r.map fun b => (b, 0)) so.length so.length) := by unfold AH.read1; rw [ag1]; rfl
  refine ⟨(by trivial), (by trivial), s, by unfold AH.read1; rw [ag]; rfl, s, by unfold AH.read1; rw [ag1]; rfl, _, _, _, r1, _, _, _, r2, ?_⟩
  have e : (!s == s || (so.length : Int) != (so.length : Int)) = false := by simp
  simp only [e, cond_false]
  refine ⟨fun y K k => ∃ i : Nat, y = (H.n, H.n + 1, (i : Int)) ∧ i ≤ so.length ∧ A = K ∧ k = so.length - i, ⟨(H.n, H.n + 1, 0), so.length, rfl, 0, rfl, Nat.zero_le _, rfl, rfl⟩, ?_⟩
  rintro _ _ _ ⟨i, rfl, hi, rfl, rfl⟩
  simp only
  refine ⟨_, _, _, r1, ?_⟩
  by_cases hin : i < so.length
  · have d : decide ((i : Int) < (so.length : Int)) = true := by rw [decide_eq_true_iff]; omega
    simp only [d, cond_true]
    obtain ⟨b, hb, hrd⟩ := hq.span ao hin
    obtain ⟨b', hb', hrd'⟩ := hr.span ao hin
    refine ⟨_, _, _, r1, b, 0, ⟨by rw [hb]; rfl, by omega, by omega⟩, _, _, _, _, hrd, _, _, _, r2, b', 0, ⟨by rw [hb']; rfl, by omega, by omega⟩, _, _, _, _, hrd', ?_⟩
    simp only [BEq.rfl, Bool.and_self, Bool.not_true, cond_false]
    exact ⟨(H.n, H.n + 1, ((i + 1 : Nat) : Int)), so.length - (i + 1), by omega, by rw [wi64 i (by omega)], i + 1, rfl, by omega, (by trivial), rfl⟩
  · have d : decide ((i : Int) < (so.length : Int)) = false := by rw [decide_eq_false_iff_not]; omega
    simp only [d, cond_false]
    exact ⟨(by trivial), by omega, ao⟩
end Go.Proofs.YtlkdhhkncoekgaaDoor
end

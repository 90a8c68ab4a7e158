/- mark.Parse of a text without forms. -/
import Derived.Test.YtlkdhhkncoekgaaDoorPlainG
import Derived.Test.YtlkdhhkncoekgaaDoorParseVc
namespace Go.Proofs.YtlkdhhkncoekgaaDoor
open Go.Am Go

/-- What holds where mark.Parse has read m signs. -/
def Read (d : Int) (s : List UInt8) (m : Nat) (H : AH) : Prop :=
  ∃ ps fr qs qo, At H (3 + 1) d s (place s m : Int) (s.take (place s m)) ps fr qs qo ∧ ps.length = m ∧ ps.flatten = s.take (place s m) ∧ (∀ q ∈ ps, q ≠ []) ∧ (∀ j, j < m → place s j < s.length) ∧ place s m ≤ s.length ∧ (m = 0 → qo = none) ∧
    H.get 3 = some (.cells [.str [], .slice none 0 0, .str [], .int .i64 0] 28 { whole := true })

theorem Parse_plain (d : Int) (s : List UInt8) (hd : 1 ≤ d ∧ d ≤ 4) (hp : plainS s) (hl : s.length ≤ 4096) :
    Pure Tryd.prog 12 [.int .i64 d, .str s] (.tuple [.agg [.str s, .slice none 0 0, .str [], .int .i64 0], .int .i64 0]) := by
  obtain ⟨J1, hJ1⟩ : ∃ J1 : Int × Nat × Nat → AH → Nat → Prop, J1 = fun x H j => x.2 = (3, 3 + 1) ∧ ∃ m, Read d s m H ∧ j = 3 * (s.length - place s m) + 2 := ⟨_, rfl⟩
  obtain ⟨J2, hJ2⟩ : ∃ J2 : Int × Nat × Nat → AH → Nat → Prop, J2 = fun x H j => x.2 = (3, 3 + 1) ∧ ∃ m, Read d s m H ∧ place s m < s.length ∧ j = 3 * (s.length - place s m) + 1 := ⟨_, rfl⟩
  obtain ⟨J0, hJ0⟩ : ∃ J0 : Int × Nat × Nat → AH → Nat → Prop, J0 = fun x H _ => x.2 = (3, 3 + 1) ∧ ∃ m, Read d s m H ∧ place s m = s.length := ⟨_, rfl⟩
  refine PureR.of_vcG follows' [⟨100000, Int × Nat × Nat, [0, 1, 4, 5, 6, 7], fun x => [.int .i64 d, .str s, .ptr (some (x.2.1, 0)), .int .i64 0, .ptr (some (x.2.2, 0)), .int .i64 x.1], J0⟩,
    ⟨100001, Int × Nat × Nat, [0, 1, 4, 5, 6, 7], fun x => [.int .i64 d, .str s, .ptr (some (x.2.1, 0)), .int .i64 0, .ptr (some (x.2.2, 0)), .int .i64 x.1], J1⟩,
    ⟨100002, Int × Nat × Nat, [0, 1, 4, 5, 6, 7], fun x => [.int .i64 d, .str s, .ptr (some (x.2.1, 0)), .int .i64 0, .ptr (some (x.2.2, 0)), .int .i64 x.1], J2⟩] [] (by kernel_rfl) rfl (by rintro v rfl; rfl) ?_
  rw [Parse_vc]
  simp only [real_n, real_al, real_rd1, real_rdn, real_call, real_wr, real_wrap, AH.n_alloc, nG]
  have d1 : (decide (d < 1) || decide (d > 4)) = false := by rw [Bool.or_eq_false_iff, decide_eq_false_iff_not, decide_eq_false_iff_not]; omega
  have d2 : decide ((s.length : Int) > 4194304) = false := by rw [decide_eq_false_iff_not]; omega
  rw [d1, d2]
  simp only [cond_false]
  refine ⟨⟨trivial, ?_⟩, ?_, ?_, ?_⟩
  · -- the beginning
    obtain ⟨A, hA0⟩ : ∃ A, A = ((emptyH Tryd.prog).alloc (.cells [.str [], .slice none 0 0, .str [], .int .i64 0] 28 { whole := true })).alloc (.cells (scan d s 0 (.slice none 0 0) (.slice none 0 0) true) 60 { whole := true }) := ⟨_, rfl⟩
    have g1 : A.get (3 + 1) = some (.cells (scan d s 0 (.slice none 0 0) (.slice none 0 0) true) 60 { whole := true }) := by rw [hA0, AH.get_alloc, if_pos (by simp [nG])]
    have g0 : A.get 3 = some (.cells [.str [], .slice none 0 0, .str [], .int .i64 0] 28 { whole := true }) := by rw [hA0]; simp [AH.get_alloc, nG]
    have gn : A.n = 3 + 2 := by rw [hA0]; simp [nG]
    have start : ∀ K : AH, K.get (3 + 1) = some (.cells (scan d s 0 (.slice none 0 0) (.slice none 0 0) true) 60 { whole := true }) → K.get 3 = some (.cells [.str [], .slice none 0 0, .str [], .int .i64 0] 28 { whole := true }) → K.n = 3 + 2 → Read d s 0 K := by
      intro K k1 k0 kn
      exact ⟨[], true, none, none, ⟨k1, by omega, ⟨rfl, rfl⟩, ⟨rfl, rfl⟩, fun b h => (by cases h), fun b h => (by cases h), fun b h => (by cases h)⟩, rfl, rfl, fun q h => (by cases h), fun j h => absurd h (Nat.not_lt_zero j), Nat.zero_le _, fun _ => rfl, k0⟩
    cases hd2 : (d == (2 : Int)) with
    | true =>
      simp only [cond_true]
      show ACallee Tryd.prog 22 [.ptr (some (3 + 1, 0))] (((emptyH Tryd.prog).alloc (.cells [.str [], .slice none 0 0, .str [], .int .i64 0] 28 { whole := true })).alloc (.cells (scan d s 0 (.slice none 0 0) (.slice none 0 0) true) 60 { whole := true })) _
      rw [← hA0]
      obtain ⟨ps, fr, qs, qo, hA, _⟩ := start A g1 g0 gn
      refine (voice_at hA hp).mono ?_
      rintro v H' ⟨rfl, rfl⟩
      refine ⟨0, rfl, rfl, H'.set (3 + 1) (.cells (scan d s 0 (.slice none 0 0) (.slice none 0 0) true) 60 { whole := true }), ?_, (0, 3, 3 + 1), 3 * (s.length - place s 0) + 2, trivial, rfl, ?_⟩
      · unfold AH.write; rw [g1]; simp [splice, AV.one, scan]
      · rw [hJ1]
        refine ⟨rfl, 0, start _ ?_ ?_ gn, rfl⟩
        · rw [AH.get_set, if_pos rfl]
        · rw [AH.get_set, if_neg (by omega)]; exact g0
    | false =>
      simp only [cond_false]
      exact ⟨(0, 3, 3 + 1), 3 * (s.length - place s 0) + 2, trivial, rfl, by rw [hJ1]; exact ⟨rfl, 0, (by have := start A g1 g0 gn; rw [hA0] at this; exact this), rfl⟩⟩
  · -- where a sign may stand
    rintro x H j hx
    rw [hJ1] at hx
    obtain ⟨hx2, m, hR, rfl⟩ := hx
    obtain ⟨x1, x2, x3⟩ := x
    cases hx2
    have hR' := hR
    obtain ⟨ps, fr, qs, qo, hA, h1, h2, h3, h4, h5, h7, h6⟩ := hR'
    have rp : H.read1 (3 + 1) 2 = some (.int .i64 (place s m : Int)) := by simp [AH.read1, hA.cells, scan]
    refine ⟨place s m, rp, ?_⟩
    by_cases hm : (place s m : Int) ≥ (s.length : Int)
    · simp only [hm, decide_true, cond_true]
      exact ⟨(x1, 3, 3 + 1), 0, by omega, rfl, by rw [hJ0]; exact ⟨rfl, m, hR, by omega⟩⟩
    · simp only [hm, decide_false, cond_false]
      have hlt : place s m < s.length := by omega
      have hk : ¬ (((s.take (place s m)).length : Int) > 4096) := by rw [List.length_take]; omega
      refine ⟨qs.map fun b => (b, 0), (s.take (place s m)).length, (s.take (place s m)).length, by simp [AH.read1, hA.cells, scan, sl], ?_⟩
      simp only [hk, decide_false, cond_false]
      refine ⟨place s m, rp, ⟨by omega, by omega⟩, ?_⟩
      obtain ⟨q1, q2, q3, q4, q5⟩ := hp (place s m) hlt
      have hg : (s[(place s m : Int).toNat]?.getD 0) = s[place s m]'hlt := by
        rw [show (place s m : Int).toNat = place s m from rfl, List.getElem?_eq_getElem hlt]; rfl
      rw [hg]
      have ne : ∀ k : Int, (((s[place s m]'hlt).toNat : Nat) : Int) ≠ k → ((((s[place s m]'hlt).toNat : Nat) : Int) == k) = false := fun k hk => by rw [beq_eq_false_iff_ne]; exact hk
      have e1 := ne 60 (by omega)
      have e2 := ne 38 (by omega)
      have e3 := ne 124 (by omega)
      have e4 := ne 123 (by omega)
      have e5 := ne 92 (by omega)
      simp only [e1, e2, e3, e4, e5, Bool.false_and, cond_false]
      have ff : (false == true) = false := rfl
      refine ⟨fr, by simp [AH.read1, hA.cells, scan], place s m, rp, fun h => absurd h (by decide), ?_⟩
      simp only [ff, cond_false]
      exact ⟨(x1, 3, 3 + 1), 3 * (s.length - place s m) + 1, by omega, rfl, by rw [hJ2]; exact ⟨rfl, m, hR, hlt, rfl⟩⟩
  · -- a sign
    rintro x H j hx
    rw [hJ2] at hx
    obtain ⟨hx2, m, hR, hlt, rfl⟩ := hx
    obtain ⟨x1, x2, x3⟩ := x
    cases hx2
    obtain ⟨ps, fr, qs, qo, hA, h1, h2, h3, h4, h5, h7, h6⟩ := hR
    obtain ⟨z1', z2'⟩ := decodeL_size s _ hlt
    have z3 : (decodeL s (place s m)).2 ≤ 4 := by
      rcases decodeL_cases s (place s m) with ⟨_, h⟩ | ⟨_, _, _, h, _⟩
      · rw [h]; exact (by decide : 1 ≤ 4)
      · exact h
    have rp : H.read1 (3 + 1) 2 = some (.int .i64 (place s m : Int)) := by simp [AH.read1, hA.cells, scan]
    refine ⟨place s m, rp, place s m, rp, ?_⟩
    have w4 : IntKind.i64.wrap ((place s m : Int) + 4) = (place s m : Int) + 4 := wrap_i64 (by omega) (by omega)
    simp only [w4]
    have win : List.take ((if (place s m : Int) + 4 < (s.length : Int) then (place s m : Int) + 4 else (s.length : Int)) - (place s m : Int)).toNat (List.drop (place s m : Int).toNat s) = (s.drop (place s m)).take 4 := by
      show List.take _ (List.drop (place s m) s) = _
      by_cases h : (place s m : Int) + 4 < (s.length : Int)
      · rw [if_pos h]; congr 1; omega
      · rw [if_neg h, List.take_of_length_le (by rw [List.length_drop]; omega), List.take_of_length_le (by rw [List.length_drop]; omega)]
    rw [win]
    refine ⟨⟨by omega, by split <;> omega, by split <;> omega⟩, (signOf_pure _).use1 ⟨_, rfl, ?_⟩⟩
    rw [decodeL_window, List.take_take, Nat.min_eq_left z3]
    obtain ⟨t, ht⟩ : ∃ t, t = (s.drop (place s m)).take (decodeL s (place s m)).2 := ⟨_, rfl⟩
    rw [← ht]
    have tl : t.length = (decodeL s (place s m)).2 := by rw [ht, List.length_take, List.length_drop]; omega
    have hm := place_ge h4
    refine (put_at hA t (fun e => by rw [e] at tl; simp at tl; omega) (by rw [List.length_take]; omega) (by omega)).mono ?_
    rintro v H2 ⟨⟨qs', qo', hB⟩, hn2, old⟩
    have hso : s.take (place s m) ++ t = s.take (place s (m + 1)) := by rw [ht, ← List.take_add]; rfl
    have b2 := hB.cells
    have wi : IntKind.i64.wrap ((place s m : Int) + (t.length : Int)) = (place s (m + 1) : Int) := by rw [wrap_i64 (by omega) (by omega), tl]; rfl
    refine ⟨place s m, by simp [AH.read1, b2, scan], rfl, H2.set (3 + 1) (.cells (scan d s (place s (m + 1) : Int) (sl qs' (s.take (place s m) ++ t).length) (sl qo' (ps ++ [t]).length) fr) 60 { whole := true }), ?_, trivial,
      (H2.set (3 + 1) (.cells (scan d s (place s (m + 1) : Int) (sl qs' (s.take (place s m) ++ t).length) (sl qo' (ps ++ [t]).length) fr) 60 { whole := true })).set (3 + 1) (.cells (scan d s (place s (m + 1) : Int) (sl qs' (s.take (place s m) ++ t).length) (sl qo' (ps ++ [t]).length) false) 60 { whole := true }), ?_,
      (x1, 3, 3 + 1), 3 * (s.length - place s (m + 1)) + 2, ?_, rfl, ?_⟩
    · unfold AH.write; rw [b2]; simp [scan, splice, AV.one, wi]
    · unfold AH.write; rw [AH.get_set, if_pos rfl]; simp [scan, splice, AV.one]
    · have := place_next hlt; omega
    · rw [hJ1]
      refine ⟨rfl, m + 1, ⟨ps ++ [t], false, qs', qo', ⟨?_, hB.lt, ?_, ?_, hB.bound1, hB.bound2, hB.apart⟩, by simp [h1], ?_, ?_, ?_, (place_next hlt).2, fun h => by omega, ?_⟩, rfl⟩
      · rw [AH.get_set, if_pos rfl, hso]
      · have := hB.bytes.same (H' := (H2.set (3 + 1) (.cells (scan d s (place s (m + 1) : Int) (sl qs' (s.take (place s m) ++ t).length) (sl qo' (ps ++ [t]).length) fr) 60 { whole := true })).set (3 + 1) (.cells (scan d s (place s (m + 1) : Int) (sl qs' (s.take (place s m) ++ t).length) (sl qo' (ps ++ [t]).length) false) 60 { whole := true })) fun b hb => by
          have := hB.bound1 b hb
          rw [AH.get_set, if_neg (by omega), AH.get_set, if_neg (by omega)]
        rw [hso] at this ⊢; exact this
      · exact hB.pieces.same fun b hb => by
          have := hB.bound2 b hb
          rw [AH.get_set, if_neg (by omega), AH.get_set, if_neg (by omega)]
      · rw [List.flatten_append, h2, ← hso]; simp
      · intro q hq
        rcases List.mem_append.1 hq with hq | hq
        · exact h3 q hq
        · simp only [List.mem_singleton] at hq; rw [hq]; intro e; rw [e] at tl; simp at tl; omega
      · intro j hj
        rcases Nat.lt_or_ge j m with h | h
        · exact h4 j h
        · obtain rfl : j = m := by omega
          exact hlt
      · rw [AH.get_set, if_neg (by omega), AH.get_set, if_neg (by omega), old _ (by omega)]; exact h6
  · -- the end
    rintro x H j hx
    rw [hJ0] at hx
    obtain ⟨hx2, m, hR, hend⟩ := hx
    obtain ⟨x1, x2, x3⟩ := x
    cases hx2
    obtain ⟨ps, fr, qs, qo, hA, h1, h2, h3, h4, h5, h7, h6⟩ := hR
    rw [hend, List.take_length] at h2
    refine ⟨qo.map fun b => (b, 0), ps.length, ps.length, by simp [AH.read1, hA.cells, scan, sl], ?_⟩
    have hlaid : ACallee Tryd.prog 30 [.slice (qo.map fun b => (b, 0)) ps.length ps.length] H fun v H' => v = .tuple [.agg [.str s, .slice none 0 0], .int .i64 0] ∧ H' = H := by
      cases qo with
      | none =>
        have hp0 : ps = [] := hA.pieces.1 |> List.length_eq_zero_iff.1
        subst hp0
        rw [← h2]
        exact laid_nil H
      | some b =>
        have hpos : 0 < ps.length := by
          rcases Nat.eq_zero_or_pos ps.length with h | h
          · exact absurd (h7 (by omega)) (by simp)
          · exact h
        have := laid_ro ps hpos h3 (by rw [h2]; exact hl) (by rw [h2, h1]; exact ⟨hend, h4⟩) (H := H) (b := b) hA.pieces
        rw [h2] at this; exact this
    refine hlaid.mono ?_
    rintro v H' ⟨rfl, rfl⟩
    have hlt := hA.lt
    refine ⟨s, none, 0, 0, 0, rfl, rfl, (H'.alloc (.cells [.str [], .slice none 0 0] 26 { whole := true })).set H'.n (.cells [.str s, .slice none 0 0] 26 { whole := true }), ?_, ?_⟩
    · simp [AH.write, AH.get_alloc, splice, AV.one]
    have b0 : ((H'.alloc (.cells [.str [], .slice none 0 0] 26 { whole := true })).set H'.n (.cells [.str s, .slice none 0 0] 26 { whole := true })).get 3 = some (.cells [.str [], .slice none 0 0, .str [], .int .i64 0] 28 { whole := true }) := by
      rw [AH.get_set, if_neg (by omega), AH.get_alloc, if_neg (by omega)]; exact h6
    have b1 : ((H'.alloc (.cells [.str [], .slice none 0 0] 26 { whole := true })).set H'.n (.cells [.str s, .slice none 0 0] 26 { whole := true })).get (3 + 1) = H'.get (3 + 1) := by
      rw [AH.get_set, if_neg (by omega), AH.get_alloc, if_neg (by omega)]
    refine ⟨s, none, 0, 0, by simp [AH.read, AH.get_set], [], by unfold AH.read1; rw [b1, hA.cells]; simp [scan], 0, by unfold AH.read1; rw [b1, hA.cells]; simp [scan], rfl,
      ((H'.alloc (.cells [.str [], .slice none 0 0] 26 { whole := true })).set H'.n (.cells [.str s, .slice none 0 0] 26 { whole := true })).set 3 (.cells [.str s, .slice none 0 0, .str [], .int .i64 0] 28 { whole := true }), ?_, s, none, 0, 0, [], 0, ?_, rfl⟩
    · unfold AH.write; rw [b0]; simp [splice, AV.one]
    · simp [AH.read, AH.get_set]
end Go.Proofs.YtlkdhhkncoekgaaDoor

/- What FrmCans' functions hand back. -/
import Derived.Test.YtpgfknjchcingaaGreatDoorFrmCansVc
namespace Go.Proofs.YtpgfknjchcingaaGreatDoor
open Go.Am Go

theorem follows' : Tryz.prog.follows .mixedOrders = true := by kernel_rfl

theorem small_pure (n : Int) : Pure Tryz.prog 26 [.int .u64 n] (.agg [.int .u64 0, .int .u64 n]) :=
  Pure.of_vc follows' [] (by kernel_rfl) rfl rfl (by rw [small_vc]; simp [AH.read, AH.get_alloc, AH.get_set, AH.write, splice, AV.one, emptyH])

theorem Div64_pure (b c : Int) (hb : 0 ≤ b) (hc : 0 < c) (hb' : b < 18446744073709551616) : Pure Tryz.prog 62 [.int .u64 0, .int .u64 b, .int .u64 c] (.tuple [.int .u64 (b / c), .int .u64 (b % c)]) := by
  refine Pure.of_vc follows' [] (by kernel_rfl) rfl rfl ?_
  rw [Div64_vc]
  have h1 : b.tdiv c = b / c := Int.tdiv_eq_ediv_of_nonneg hb
  have h2 : b.tmod c = b % c := Int.tmod_eq_emod_of_nonneg hb
  have h3 : 0 ≤ b / c := Int.ediv_nonneg hb (by omega)
  have h4 : b / c ≤ b := Int.ediv_le_self _ hb
  have h5 : ¬ c = 0 := by omega
  simp [h1, h2, wrap_u64 h3 (by omega), h5, hc]

theorem over_pure (b d : Int) (hb : 0 ≤ b) (hd : 0 < d) (hb' : b < 18446744073709551616) : Pure Tryz.prog 40 [.agg [.int .u64 0, .int .u64 b], .agg [.int .u64 0, .int .u64 d]]
    (.tuple [.agg [.int .u64 0, .int .u64 (b / d)], .agg [.int .u64 0, .int .u64 (b % d)]]) := by
  refine Pure.of_vc follows' [] (by kernel_rfl) rfl rfl ?_
  rw [over_vc]
  have h5 : ¬ d = 0 := by omega
  have h6 : IntKind.u64.wrap 0 = 0 := by decide
  simp [AH.read1, AH.read, AH.get_alloc, AH.get_set, AH.write, splice, AV.one, emptyH, h5, h6, and_assoc]
  refine (Div64_pure b d hb hd hb').use1 ?_
  simp [AH.get_set, and_assoc]

theorem cmp_pure (b d : Int) : Pure Tryz.prog 41 [.agg [.int .u64 0, .int .u64 b], .agg [.int .u64 0, .int .u64 d]] (.int .i64 (if b = d then 0 else if b < d then -1 else 1)) := by
  refine Pure.of_vc follows' [] (by kernel_rfl) rfl rfl ?_
  rw [cmp_vc]
  by_cases h : b = d
  · simp [AH.read1, AH.read, AH.get_alloc, emptyH, h, and_assoc]
  · by_cases h2 : b < d
    · simp [AH.read1, AH.read, AH.get_alloc, emptyH, h, h2, and_assoc]
    · simp [AH.read1, AH.read, AH.get_alloc, emptyH, h, h2, and_assoc]
      omega

theorem size_pure (n : Int) (h : 0 ≤ n) (h' : n ≤ 9223372036854775807) : Pure Tryz.prog 27 [.int .i64 n] (.int .u64 n) := by
  refine Pure.of_vc follows' [] (by kernel_rfl) rfl rfl ?_
  rw [size_vc]
  have h5 : ¬ n < 0 := by omega
  simp [h5, wrap_u64 h (by omega)]

/-- The greatest common divisor, as both programs reckon it. -/
theorem gcd_step {a b : Int} (ha : 0 ≤ a) (hb : 0 < b) : Int.gcd b (a % b) = Int.gcd a b := by
  obtain ⟨m, rfl⟩ := Int.eq_ofNat_of_zero_le ha
  obtain ⟨n, rfl⟩ := Int.eq_ofNat_of_zero_le (Int.le_of_lt hb)
  rw [← Int.natCast_emod, Int.gcd_natCast_natCast, Int.gcd_natCast_natCast, Nat.gcd_comm m n, Nat.gcd_rec n m, Nat.gcd_comm]

theorem refCommon_pure (a b : Int) (ha : 0 ≤ a) (hb : 0 ≤ b) : Pure Tryz.prog 29 [.int .i64 a, .int .i64 b] (.int .i64 (Int.gcd a b)) := by
  refine Pure.of_vc follows' [⟨1, Int × Int, [0, 1], fun x => [.int .i64 x.1, .int .i64 x.2], fun x _ j => 0 ≤ x.1 ∧ 0 ≤ x.2 ∧ Int.gcd x.1 x.2 = Int.gcd a b ∧ j = x.2.toNat⟩] (by kernel_rfl) rfl rfl ?_
  rw [refCommon_vc]
  refine ⟨⟨(a, b), b.toNat, rfl, ha, hb, rfl, rfl⟩, ?_⟩
  rintro ⟨x, y⟩ H j ⟨h1, h2, h3, rfl⟩
  simp only at h1 h2 h3
  by_cases hy : y = 0
  · subst hy
    have : Int.gcd x 0 = x.toNat := by rw [Int.gcd_zero_right]; omega
    simp only [bne_self_eq_false, cond_false]
    rw [← h3, this]
    congr 1; omega
  · have hy' : 0 < y := by omega
    have : (y != 0) = true := by simpa using hy
    simp only [this, cond_true]
    rw [Int.tmod_eq_emod_of_nonneg h1]
    have hm := Int.emod_lt_of_pos x hy'
    have hm0 := Int.emod_nonneg x hy
    exact ⟨hy, (y, x % y), (x % y).toNat, by omega, rfl, h2, hm0, by rw [gcd_step h1 hy', h3], rfl⟩

/-! ### Rates -/

def dropOk (a b : Int) : Bool := b == 1001 && (a == 30000 || a == 60000)
/-- Is a rate one? -/
def rateOk (a b : Int) (c : Bool) : Bool :=
  decide (1 ≤ a) && decide (a ≤ 240000) && decide (1 ≤ b) && decide (b ≤ 1001) && Int.gcd a b == 1 && decide (b ≤ a) && decide (a ≤ 240 * b) && (!c || dropOk a b)

theorem drops_pure (a b : Int) : PureR Tryz.prog 25 [.agg [.int .i64 a, .int .i64 b]] fun v => ∃ n, v = .int .i64 n ∧ (n = 0 ↔ dropOk a b = false) := by
  refine PureR.of_vc follows' [] (by kernel_rfl) rfl (by rintro v ⟨n, rfl, _⟩; rfl) ?_
  rw [drops_vc]
  by_cases h1 : a = 30000 ∧ b = 1001
  · obtain ⟨rfl, rfl⟩ := h1
    simp [AH.read, AH.get_alloc, emptyH, and_assoc, dropOk]
  · by_cases h2 : a = 60000 ∧ b = 1001
    · obtain ⟨rfl, rfl⟩ := h2
      simp [AH.read, AH.get_alloc, emptyH, and_assoc, dropOk]
    · have e1 : (a == 30000 && b == 1001) = false := by simpa using h1
      have e2 : (a == 60000 && b == 1001) = false := by simpa using h2
      have e3 : dropOk a b = false := by
        unfold dropOk
        cases h : b == 1001 <;> simp_all
      simp [AH.read, AH.get_alloc, emptyH, and_assoc, e3]
      exact ⟨fun h h' => h1 ⟨h, h'⟩, fun h h' => h2 ⟨h, h'⟩⟩

theorem rateOk_iff {a b : Int} {c : Bool} : rateOk a b c = true ↔ (1 ≤ a ∧ a ≤ 240000 ∧ 1 ≤ b ∧ b ≤ 1001 ∧ Int.gcd a b = 1 ∧ b ≤ a ∧ a ≤ 240 * b ∧ (c = true → dropOk a b = true)) := by
  unfold rateOk
  simp only [Bool.and_eq_true, decide_eq_true_eq, beq_iff_eq, Bool.or_eq_true, Bool.not_eq_true', and_assoc]
  cases c <;> simp

theorem dropOk_iff {a b : Int} : dropOk a b = true ↔ b = 1001 ∧ (a = 30000 ∨ a = 60000) := by
  unfold dropOk; simp

/-- The error of a rate. -/
def rateE (a b : Int) (c : Bool) : Int := if rateOk a b c = true then 0 else 14
theorem rateE_ok {a b : Int} {c : Bool} (h : 1 ≤ a ∧ a ≤ 240000 ∧ 1 ≤ b ∧ b ≤ 1001 ∧ Int.gcd a b = 1 ∧ b ≤ a ∧ a ≤ 240 * b ∧ (c = true → dropOk a b = true)) : rateE a b c = 0 := if_pos (rateOk_iff.2 h)
theorem rateE_bad {a b : Int} {c : Bool} (h : ¬ (1 ≤ a ∧ a ≤ 240000 ∧ 1 ≤ b ∧ b ≤ 1001 ∧ Int.gcd a b = 1 ∧ b ≤ a ∧ a ≤ 240 * b ∧ (c = true → dropOk a b = true))) : rateE a b c = 14 := if_neg fun k => h (rateOk_iff.1 k)

theorem refCheck_pure (a b : Int) (c : Bool) : Pure Tryz.prog 19 [.agg [.int .i64 a, .int .i64 b, .bool c]] (.int .i64 (rateE a b c)) := by
  refine Pure.of_vc follows' [] (by kernel_rfl) rfl rfl ?_
  rw [refCheck_vc]
  simp [AH.read1, AH.get_alloc, emptyH, and_assoc]
  by_cases h1 : 1 ≤ a ∧ a ≤ 240000 ∧ 1 ≤ b ∧ b ≤ 1001
  · rw [if_pos h1]
    have hw : IntKind.i64.wrap (240 * b) = 240 * b := wrap_i64 (by omega) (by omega)
    refine (refCommon_pure a b (by omega) (by omega)).use1 ?_
    obtain ⟨h2, h3, h4, h5⟩ := h1
    by_cases h6 : Int.gcd a b = 1
    · by_cases h7 : b ≤ a
      · by_cases h8 : a ≤ 240 * b
        · have h9 : ¬ a < b := by omega
          have h10 : ¬ 240 * b < a := by omega
          cases c
          · simp [AH.get_alloc, hw, h6, h9, h10]
            exact (rateE_ok ⟨h2, h3, h4, h5, h6, h7, h8, fun h => by cases h⟩).symm
          · by_cases h11 : dropOk a b = true
            · have := dropOk_iff.1 h11
              simp [AH.get_alloc, hw, h6, h9, h10]
              rw [if_neg (by omega)]
              exact (rateE_ok ⟨h2, h3, h4, h5, h6, h7, h8, fun _ => h11⟩).symm
            · have h12 : ¬ (b = 1001 ∧ (a = 30000 ∨ a = 60000)) := fun h => h11 (dropOk_iff.2 h)
              simp [AH.get_alloc, hw, h6, h9, h10]
              rw [if_pos (by omega)]
              exact (rateE_bad fun h => h11 (h.2.2.2.2.2.2.2 rfl)).symm
        · have h10 : 240 * b < a := by omega
          simp [AH.get_alloc, hw, h6, h10]
          exact (rateE_bad fun h => by omega).symm
      · have h9 : a < b := by omega
        simp [AH.get_alloc, hw, h6, h9]
        exact (rateE_bad fun h => by omega).symm
    · have h6' : ¬ ((Int.gcd a b : Nat) : Int) = 1 := by omega
      simp [AH.get_alloc, h6']
      exact (rateE_bad fun h => h6 h.2.2.2.2.1).symm
  · rw [if_neg h1]
    exact (rateE_bad fun h => h1 ⟨h.1, h.2.1, h.2.2.1, h.2.2.2.1⟩).symm

theorem Check_pure (a b : Int) (c : Bool) : Pure Tryz.prog 17 [.agg [.int .i64 a, .int .i64 b, .bool c]] (.int .i64 (rateE a b c)) := by
  refine Pure.of_vc follows' [⟨4, Int × Int, [1, 3, 4], fun x => [.ptr (some ((real Tryz.prog none).n (emptyH Tryz.prog), 0)), .int .i64 x.1, .int .i64 x.2],
    fun x H j => H = (emptyH Tryz.prog).alloc (.cells [.int .i64 a, .int .i64 b, .bool c] 23 { whole := true }) ∧ 0 ≤ x.1 ∧ 0 ≤ x.2 ∧ Int.gcd x.1 x.2 = Int.gcd a b ∧ j = x.2.toNat⟩] (by kernel_rfl) rfl rfl ?_
  rw [Check_vc]
  simp [AH.read1, AH.get_alloc, emptyH, and_assoc]
  by_cases h1 : ((a < 1 ∨ 240000 < a) ∨ b < 1) ∨ 1001 < b
  · rw [if_pos h1]
    exact (rateE_bad fun h => by omega).symm
  · rw [if_neg h1]
    have hw : IntKind.i64.wrap (240 * b) = 240 * b := wrap_i64 (by omega) (by omega)
    refine ⟨by omega, by omega, ?_⟩
    rintro x y H j rfl h2 h3 h4 rfl
    by_cases hy : y = 0
    · subst hy
      have hx : x = Int.gcd a b := by rw [← h4, Int.gcd_zero_right]; omega
      by_cases h6 : x = 1
      · subst h6
        have h6' : Int.gcd a b = 1 := by omega
        by_cases h7 : b ≤ a
        · by_cases h8 : a ≤ 240 * b
          · have h9 : ¬ a < b := by omega
            have h10 : ¬ 240 * b < a := by omega
            cases c
            · simp [AH.get_alloc, hw, h9, h10]
              exact (rateE_ok ⟨by omega, by omega, by omega, by omega, h6', h7, h8, fun h => by cases h⟩).symm
            · simp [AH.get_alloc, hw, h7, h8]
              refine (drops_pure a b).use ?_
              rintro v ⟨n, rfl, hn⟩
              simp [h9, h10]
              by_cases h11 : n = 0
              · simp [h11]
                exact (rateE_bad fun h => by have := h.2.2.2.2.2.2.2 rfl; rw [hn.1 h11] at this; cases this).symm
              · simp [h11]
                exact (rateE_ok ⟨by omega, by omega, by omega, by omega, h6', h7, h8, fun _ => by simpa [h11] using hn⟩).symm
          · have h10 : 240 * b < a := by omega
            cases c <;> simp [AH.get_alloc, hw, h8, h10] <;> exact (rateE_bad fun h => by omega).symm
        · have h9 : a < b := by omega
          cases c <;> simp [AH.get_alloc, hw, h7, h9] <;> exact (rateE_bad fun h => by omega).symm
      · cases c <;> simp [AH.get_alloc, h6] <;> exact (rateE_bad fun h => by omega).symm
    · have hy' : 0 < y := by omega
      rw [if_neg hy, Int.tmod_eq_emod_of_nonneg h2]
      have hm := Int.emod_lt_of_pos x hy'
      have hm0 := Int.emod_nonneg x hy
      exact ⟨hy, y, x % y, (x % y).toNat, by omega, rfl, rfl, rfl, h3, hm0, by rw [gcd_step h2 hy', h4], rfl⟩

/-! ### Ratios of small numbers -/

theorem common_pure (a b : Int) (ha : 0 ≤ a) (hb : 0 ≤ b) (ha' : a < 18446744073709551616) (hb' : b < 18446744073709551616) :
    Pure Tryz.prog 39 [.agg [.int .u64 0, .int .u64 a], .agg [.int .u64 0, .int .u64 b]] (.agg [.int .u64 0, .int .u64 (Int.gcd a b)]) := by
  refine Pure.of_vc follows' [⟨1, Unit, [2, 3, 4], fun _ => [.ptr (some ((real Tryz.prog none).n (emptyH Tryz.prog), 0)), .ptr (some ((real Tryz.prog none).n ((real Tryz.prog none).al (emptyH Tryz.prog) (.cells [.int .u64 0, .int .u64 a] 76 { whole := true })), 0)), .ptr (some ((real Tryz.prog none).n ((real Tryz.prog none).al ((real Tryz.prog none).al (emptyH Tryz.prog) (.cells [.int .u64 0, .int .u64 a] 76 { whole := true })) (.cells [.int .u64 0, .int .u64 b] 76 { whole := true })), 0))],
    fun _ H j => ∃ x y, 0 ≤ x ∧ x < 18446744073709551616 ∧ 0 ≤ y ∧ y < 18446744073709551616 ∧ Int.gcd x y = Int.gcd a b ∧ j = y.toNat ∧ (emptyH Tryz.prog).n + 3 ≤ H.n ∧ H.get (emptyH Tryz.prog).n = some (.cells [.int .u64 0, .int .u64 x] 76 { whole := true }) ∧
      H.get ((emptyH Tryz.prog).n + 1) = some (.cells [.int .u64 0, .int .u64 y] 76 { whole := true }) ∧ H.get ((emptyH Tryz.prog).n + 2) = some (.cells [.int .u64 0, .int .u64 0] 76 { whole := true })⟩] (by kernel_rfl) rfl rfl ?_
  rw [common_vc]
  simp [AH.read, AH.get_alloc, AH.get_set, AH.write, splice, AV.one, emptyH, and_assoc]
  refine ⟨⟨b.toNat, a, ha, ha', b, hb, hb', rfl, rfl, rfl, rfl⟩, ?_⟩
  intro H j x h1 h2 y h3 h4 h5 h6 h7 h8 h9 h10
  have e1 : ¬ H.n = 5 := by omega
  have e2 : ¬ H.n = 4 := by omega
  have e3 : ¬ 5 = H.n := by omega
  have e4 : ¬ 6 = H.n := by omega
  have e5 : ¬ H.n = 6 := by omega
  have e6 : ¬ 7 = H.n := by omega
  have e7 : ¬ H.n + 1 = 5 := by omega
  have e8 : ¬ H.n + 1 = 6 := by omega
  have e9 : ¬ 5 = H.n + 1 := by omega
  have e10 : ¬ 6 = H.n + 1 := by omega
  have e11 : ¬ 7 = H.n + 1 := by omega
  by_cases hy : y = 0
  · subst hy
    have hx : ((Int.gcd a b : Nat) : Int) = x := by rw [← h5, Int.gcd_zero_right]; omega
    simp [AH.get_set, and_assoc, h8, h9, h10, hx]
  · have hy' : 0 < y := by omega
    simp [AH.get_set, and_assoc, h8, h9, h10, hy]
    refine (over_pure x y h1 hy' h2).use1 ?_
    have hm := Int.emod_lt_of_pos x hy'
    have hm0 := Int.emod_nonneg x hy
    simp [AH.get_alloc, AH.get_set, and_assoc, h8, h9, h10, e1, e2, e3, e4, e6, e7, e10, e11]
    exact ⟨(x % y).toNat, by omega, y, h3, h4, x % y, hm0, by omega, by rw [gcd_step h1 hy', h5], rfl, by omega, rfl, rfl⟩

theorem fit_pure (a b : Int) (ha : 0 ≤ a) (hb : 0 < b) (ha' : a ≤ 4611686018427387904) (hb' : b ≤ 2147483648) (hg : Int.gcd a b = 1) :
    Pure Tryz.prog 28 [.agg [.bool false, .int .u64 0, .int .u64 a, .int .u64 0, .int .u64 b]] (.tuple [.agg [.int .i64 a, .int .i64 b], .int .i64 0]) := by
  refine Pure.of_vc follows' [] (by kernel_rfl) rfl rfl ?_
  rw [fit_vc]
  simp [AH.read1, AH.read, AH.get_alloc, AH.get_set, AH.write, splice, AV.one, emptyH, and_assoc]
  refine (common_pure a b ha (by omega) (by omega) (by omega)).use1 ?_
  simp [AH.get_alloc, and_assoc, hg]
  refine (over_pure a 1 ha (by omega) (by omega)).use1 ?_
  simp [AH.get_alloc, AH.get_set, and_assoc]
  refine (over_pure b 1 (by omega) (by omega) (by omega)).use1 ?_
  simp [AH.get_set, and_assoc]
  refine (small_pure _).use1 ?_
  simp [AH.get_alloc, AH.get_set, and_assoc]
  refine (cmp_pure _ _).use1 ?_
  have c1 : (if a = 4611686018427387904 then (0 : Int) else if a < 4611686018427387904 then -1 else 1) ≤ 0 := by
    split
    · decide
    · rw [if_pos (by omega)]; decide
  have c2 : (if b = 2147483648 then (0 : Int) else if b < 2147483648 then -1 else 1) ≤ 0 := by
    split
    · decide
    · rw [if_pos (by omega)]; decide
  simp [AH.get_set, and_assoc, c1]
  refine (small_pure _).use1 ?_
  simp [AH.get_set, and_assoc]
  refine (cmp_pure _ _).use1 ?_
  simp [AH.get_alloc, AH.get_set, c2]
  exact ⟨wrap_i64 (by omega) (by omega), wrap_i64 (by omega) (by omega)⟩

theorem New_pure (a b : Int) (ha : 0 < a) (hb : 0 < b) (ha' : a ≤ 4611686018427387904) (hb' : b ≤ 2147483648) (hg : Int.gcd a b = 1) :
    Pure Tryz.prog 18 [.int .i64 a, .int .i64 b] (.tuple [.agg [.int .i64 a, .int .i64 b], .int .i64 0]) := by
  refine Pure.of_vc follows' [] (by kernel_rfl) rfl rfl ?_
  rw [New_vc]
  have h1 : ¬ b = 0 := by omega
  have h2 : ¬ a < 0 := by omega
  have h3 : ¬ b < 0 := by omega
  simp [AH.read, AH.get_alloc, AH.write, splice, AV.one, emptyH, and_assoc, h1, h2, h3]
  refine (size_pure a (by omega) (by omega)).use1 ?_
  simp []
  refine (small_pure _).use1 ?_
  simp [and_assoc]
  refine (size_pure b (by omega) (by omega)).use1 ?_
  simp []
  refine (small_pure _).use1 ?_
  simp [and_assoc]
  refine (fit_pure a b (by omega) hb ha' hb' hg).use1 ?_
  simp [AH.get_alloc, AH.get_set, and_assoc]

/-- A frame's time. -/
def gridV (a b : Int) (c : Bool) : AV := if rateOk a b c = true then .tuple [.agg [.int .i64 b, .int .i64 a], .int .i64 0] else .tuple [.agg [.int .i64 0, .int .i64 0], .int .i64 14]
theorem gridV_scal (a b : Int) (c : Bool) : (gridV a b c).scal = true := by unfold gridV; split <;> rfl

theorem Grid_pure (a b : Int) (c : Bool) : Pure Tryz.prog 9 [.agg [.int .i64 a, .int .i64 b, .bool c]] (gridV a b c) := by
  refine Pure.of_vc follows' [] (by kernel_rfl) rfl (gridV_scal a b c) ?_
  rw [Grid_vc]
  simp [AH.read1, AH.read, AH.get_alloc, AH.write, splice, AV.one, emptyH, and_assoc]
  refine (Check_pure a b c).use1 ?_
  unfold gridV rateE
  by_cases h : rateOk a b c = true
  · have h' := rateOk_iff.1 h
    simp [AH.get_alloc, AH.get_set, and_assoc, h]
    refine (New_pure b a (by omega) (by omega) (by omega) (by omega) (by rw [Int.gcd_comm]; omega)).use1 ?_
    simp [AH.get_alloc, AH.get_set, and_assoc]
  · simp [AH.get_alloc, AH.get_set, and_assoc, h]

theorem refGrid_pure (a b : Int) (c : Bool) : Pure Tryz.prog 10 [.agg [.int .i64 a, .int .i64 b, .bool c]] (gridV a b c) := by
  refine Pure.of_vc follows' [] (by kernel_rfl) rfl (gridV_scal a b c) ?_
  rw [refGrid_vc]
  simp [AH.read1, AH.read, AH.get_alloc, AH.write, splice, AV.one, emptyH, and_assoc]
  refine (refCheck_pure a b c).use1 ?_
  unfold gridV rateE
  by_cases h : rateOk a b c = true
  · simp [AH.get_alloc, AH.get_set, h]
  · simp [AH.get_alloc, AH.get_set, h]

def canV (a b : Int) (c : Bool) : AV :=
  if rateOk a b c = true then .tuple [.agg [.int .i64 3, .int .i64 b, .int .i64 a, .bool false, .bool false, .bool false, .bool true], .int .i64 0]
  else .tuple [.agg [.int .i64 0, .int .i64 0, .int .i64 0, .bool false, .bool false, .bool false, .bool false], .int .i64 14]
theorem canV_scal (a b : Int) (c : Bool) : (canV a b c).scal = true := by unfold canV; split <;> rfl

theorem Can_pure (a b : Int) (c : Bool) : Pure Tryz.prog 5 [.agg [.int .i64 a, .int .i64 b, .bool c]] (canV a b c) := by
  refine Pure.of_vc follows' [] (by kernel_rfl) rfl (canV_scal a b c) ?_
  rw [Can_vc]
  simp [AH.read, AH.get_alloc, AH.get_set, AH.write, splice, AV.one, emptyH, and_assoc]
  refine (Grid_pure a b c).use1 ?_
  unfold gridV canV
  by_cases h : rateOk a b c = true
  · simp [AH.get_alloc, AH.get_set, and_assoc, h]
  · simp [AH.get_alloc, AH.get_set, and_assoc, h]

theorem refCan_pure (a b : Int) (c : Bool) : Pure Tryz.prog 6 [.agg [.int .i64 a, .int .i64 b, .bool c]] (canV a b c) := by
  refine Pure.of_vc follows' [] (by kernel_rfl) rfl (canV_scal a b c) ?_
  rw [refCan_vc]
  simp [AH.read, AH.get_alloc, AH.get_set, AH.write, splice, AV.one, emptyH, and_assoc]
  refine (refGrid_pure a b c).use1 ?_
  unfold gridV canV
  by_cases h : rateOk a b c = true
  · simp [AH.get_alloc, AH.get_set, and_assoc, h]
  · simp [AH.get_alloc, AH.get_set, and_assoc, h]
end Go.Proofs.YtpgfknjchcingaaGreatDoor

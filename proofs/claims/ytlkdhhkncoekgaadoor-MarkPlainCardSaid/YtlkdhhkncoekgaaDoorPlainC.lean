/- Looks that all are none make no span. -/
import Derived.Test.YtlkdhhkncoekgaaDoorPlainB
namespace Go.Proofs.YtlkdhhkncoekgaaDoor
open Go.Am Go

/-- The look of a sign without any kind, as cells; so many of them. -/
def z1 : List AV := [.bool false, .bool false, .bool false, .bool false, .int .i64 0]
def zc : Nat → List AV
  | 0 => []
  | n + 1 => z1 ++ zc n

theorem zc_length : ∀ n, (zc n).length = n * 5
  | 0 => rfl
  | n + 1 => by simp only [zc, List.length_append, zc_length n]; simp only [z1, List.length_cons, List.length_nil]; omega
theorem zc_at : ∀ {n i : Nat}, i < n → ((zc n).drop (i * 5)).take 5 = z1
  | n + 1, 0, _ => by simp [zc, z1]
  | n + 1, i + 1, h => by
    have e : (i + 1) * 5 = 5 + i * 5 := by omega
    rw [e, ← List.drop_drop]
    have : (zc (n + 1)).drop 5 = zc n := by simp [zc, z1]
    rw [this]
    exact zc_at (by omega)
theorem read_zc {H : AH} {b n i : Nat} {e : TypeId} {fl : Fl} (h : H.get b = some (.cells (zc n) e fl)) (hi : i < n) : H.read b (0 + i * 5) 5 = some z1 := by
  unfold AH.read
  rw [h]
  have : 0 + i * 5 + 5 ≤ (zc n).length := by rw [zc_length]; omega
  simp only [Nat.zero_add] at this ⊢
  rw [if_pos this, zc_at hi]

theorem value_zero (n : Int) : Pure Tryd.prog 110 [.agg z1, .int .i64 n] (.int .i64 0) := by
  refine Pure.of_vc follows' [] (by kernel_rfl) rfl rfl ?_
  show vcF _ _ _ _ [.agg [.bool false, .bool false, .bool false, .bool false, .int .i64 0], .int .i64 n] _ _
  rw [value_vc]
  by_cases h5 : n = 5 <;> simp [AH.read1, AH.get_alloc, h5]

theorem sort_run : (runCallF Tryd.prog ext 300 99 [.slice none 0 0, .func (.func 111) [] []] (emptyH Tryd.prog)).map (·.1) = some (.tuple []) := by kernel_rfl
theorem sort_pure : Pure Tryd.prog 99 [.slice none 0 0, .func (.func 111) [] []] (.tuple []) :=
  PureR.of_call (ACall.of_run follows' ext_ok (by kernel_rfl) sort_run) (by kernel_rfl) rfl (by rintro v rfl; rfl)

theorem makeBools (H : AH) (k : Nat) (hk : k ≤ 5000) : makeSliceV Tryd.prog H 129 (.int .i64 k) (.int .i64 k) = some (.slice (some (H.n, 0)) k k, H.alloc (.cells (repCells [.bool false] k) 4 {})) := by
  unfold makeSliceV
  have t1 : Tryd.prog.underlying 129 = some (.slice 4) := by kernel_rfl
  have t2 : szOf Tryd.prog 4 = some 1 := by kernel_rfl
  have t3 : byOf Tryd.prog 4 = some 1 := by kernel_rfl
  have t4 : zeroOf Tryd.prog 4 = some (.bool false) := by kernel_rfl
  simp only [t1, t2, t3, t4]
  rw [if_pos]
  · simp [AV.cells]
  · refine ⟨by omega, by omega, ?_, ?_, rfl, by decide, rfl⟩ <;> omega
theorem bool_at {n i : Nat} (h : i < n) : (repCells [.bool false] n)[i]? = some (.bool false) := by
  induction n generalizing i with
  | zero => omega
  | succ n ih =>
    cases i with
    | zero => simp [repCells]
    | succ i => simp only [repCells, List.singleton_append, List.getElem?_cons_succ]; exact ih (by omega)

/-- A heap of looks that are to be read alone. -/
noncomputable def zH (n : Nat) : AH := (emptyH Tryd.prog).alloc (.cells (zc n) 53 { own := false, opn := true })

theorem made_zero (n : Nat) (h0 : 0 < n) (hn : n ≤ 4096) : ACall Tryd.prog 93 [.slice (some (3, 0)) n n] (zH n) fun v _ => v = .slice none 0 0 := by
  -- what every loop keeps
  obtain ⟨Z, hZ⟩ : ∃ Z : AH → Prop, Z = fun H => H.get 3 = some (.cells (zc n) 53 { own := false, opn := true }) ∧ H.get (3 + 1) = some (.cells (repCells [.bool false] (n + 1)) 4 {}) := ⟨_, rfl⟩
  refine vcG_ok (rans := []) (anns := [⟨4, Int × (Option (Nat × Nat) × Nat) × (Option (Nat × Nat) × Nat), [0, 3, 4, 5], fun x => [.slice (some (3, 0)) n n, .slice x.2.1.1 x.2.1.2 x.2.1.2, .slice x.2.2.1 x.2.2.2 x.2.2.2, .int .i64 x.1], fun _ _ _ => True⟩,
    ⟨8, (Int × (Option (Nat × Nat) × Nat) × (Option (Nat × Nat) × Nat)) × Int × Int, [0, 3, 4, 5, 6, 7], fun x => [.slice (some (3, 0)) n n, .slice x.1.2.1.1 x.1.2.1.2 x.1.2.1.2, .slice x.1.2.2.1 x.1.2.2.2 x.1.2.2.2, .int .i64 x.1.1, .int .i64 x.2.1, .int .i64 x.2.2], fun _ _ _ => True⟩,
    ⟨11, ((Int × (Option (Nat × Nat) × Nat) × (Option (Nat × Nat) × Nat)) × Int × Int) × Int × Int, [0, 3, 4, 5, 6, 7, 8, 9], fun x => [.slice (some (3, 0)) n n, .slice x.1.1.2.1.1 x.1.1.2.1.2 x.1.1.2.1.2, .slice x.1.1.2.2.1 x.1.1.2.2.2 x.1.1.2.2.2, .int .i64 x.1.1.1, .int .i64 x.1.2.1, .int .i64 x.1.2.2, .int .i64 x.2.1, .int .i64 x.2.2], fun _ _ _ => True⟩,
    ⟨20, (Int × (Option (Nat × Nat) × Nat) × (Option (Nat × Nat) × Nat)) × (Option (Nat × Nat) × Nat × Nat) × Int × Int, [0, 3, 4, 5, 76, 77, 78], fun x => [.slice (some (3, 0)) n n, .slice x.1.2.1.1 x.1.2.1.2 x.1.2.1.2, .slice x.1.2.2.1 x.1.2.2.2 x.1.2.2.2, .int .i64 x.1.1, .slice x.2.1.1 x.2.1.2.1 x.2.1.2.2, .int .i64 x.2.2.1, .int .i64 x.2.2.2], fun _ _ _ => True⟩]) follows' ?_
  rw [made_vc]
  simp only [real_n, real_al, real_rd1, real_rdn, real_call, real_wr, real_mks, real_wrap, real_slc, real_app]
  rw [wrap_i64 (by omega) (by omega)]
  have e1 : ((n : Int) + 1) = ((n + 1 : Nat) : Int) := by omega
  have rd : ∀ {H : AH} {i : Int}, Z H → 0 ≤ i → i < n → H.read 3 (0 + i.toNat * 5) 5 = some [.bool false, .bool false, .bool false, .bool false, .int .i64 0] := by
    intro H i hz h1 h2
    rw [hZ] at hz
    exact read_zc hz.1 (by omega)
  refine ⟨_, _, _, _, by rw [e1]; exact makeBools _ (n + 1) (by omega), ?_⟩
  refine ⟨fun x H j => Z H ∧ ∃ kd : Int, x = (kd, (some (3 + 1, 0), n + 1), (none, 0)) ∧ 1 ≤ kd ∧ kd ≤ 6 ∧ j = (6 - kd).toNat, ⟨(1, (some (3 + 1, 0), n + 1), (none, 0)), 5, by simp [zH, nG], ?_, 1, rfl, Int.le_refl 1, by decide, rfl⟩, ?_⟩
  · rw [hZ]; constructor
    · simp [zH, AH.get_alloc, nG]
    · simp [zH, AH.get_alloc, nG]
  rintro _ H j ⟨hz, kd, rfl, k1, k2, rfl⟩
  by_cases hk : kd ≤ 5
  · simp only [hk, decide_true, cond_true]
    refine ⟨fun x H j => Z H ∧ ∃ i : Int, x = ((kd, (some (3 + 1, 0), n + 1), (none, 0)), 0, i) ∧ 0 ≤ i ∧ i ≤ n ∧ j = (n - i).toNat, ⟨((kd, (some (3 + 1, 0), n + 1), (none, 0)), 0, 0), n, rfl, hz, 0, rfl, Int.le_refl 0, by omega, by omega⟩, ?_⟩
    rintro _ H2 j2 ⟨hz2, i, rfl, a1, a2, rfl⟩
    by_cases hi : i < n
    · simp only [hi, decide_true, cond_true]
      refine ⟨3, 0, ⟨rfl, a1, trivial⟩, false, false, false, false, 0, rd hz2 a1 hi, ?_⟩
      refine (value_zero kd).use1 ⟨0, rfl, ?_⟩
      rw [wrap_i64 (by omega) (by omega)]
      refine ⟨fun x H j => Z H ∧ ∃ jj : Int, x = (((kd, (some (3 + 1, 0), n + 1), (none, 0)), 0, i), 0, jj) ∧ i < jj ∧ jj ≤ n ∧ j = (n - jj).toNat, ⟨(((kd, (some (3 + 1, 0), n + 1), (none, 0)), 0, i), 0, i + 1), (n - (i + 1)).toNat, rfl, hz2, i + 1, rfl, by omega, by omega, rfl⟩, ?_⟩
      rintro _ H3 j3 ⟨hz3, jj, rfl, c1, c2, rfl⟩
      by_cases hj : jj < n
      · simp only [hj, decide_true, BEq.rfl, cond_true]
        refine ⟨3, 0, fun _ => ⟨rfl, by omega, trivial⟩, false, false, false, false, 0, fun _ => rd hz3 (by omega) hj, ?_⟩
        refine (value_zero kd).use1 ⟨0, rfl, 3 + 1, 0, fun _ => ⟨rfl, by omega, by omega⟩, false, fun _ => ?_, ?_⟩
        · rw [hZ] at hz3
          simp only [AH.read1, hz3.2]
          have := bool_at (n := n + 1) (i := jj.toNat) (by omega)
          simpa using this
        · refine ⟨(((kd, (some (3 + 1, 0), n + 1), (none, 0)), 0, i), 0, jj + 1), (n - (jj + 1)).toNat, by omega, ?_, hz3, jj + 1, rfl, by omega, by omega, rfl⟩
          rw [wrap_i64 (by omega) (by omega)]
      · simp only [hj, decide_false]
        refine ⟨0, 0, fun h => absurd h (by decide), false, false, false, false, 0, fun h => absurd h (by decide), ?_⟩
        refine ⟨0, 0, fun h => absurd h (by decide), false, fun h => absurd h (by decide), ?_⟩
        exact ⟨((kd, (some (3 + 1, 0), n + 1), (none, 0)), 0, jj), (n - jj).toNat, by omega, rfl, hz3, jj, rfl, by omega, c2, rfl⟩
    · simp only [hi, decide_false, cond_false]
      refine ⟨none, 0, 0, ?_, fun x H _ => Z H ∧ x = ((kd, (some (3 + 1, 0), n + 1), (none, 0)), (none, 0, 0), 0, 0), ⟨((kd, (some (3 + 1, 0), n + 1), (none, 0)), (none, 0, 0), 0, 0), 0, rfl, hz2, rfl⟩, ?_⟩
      · unfold sliceV
        have t1 : Tryd.prog.underlying 24 = some (.slice 41) := by kernel_rfl
        have t2 : szOf Tryd.prog 41 = some 4 := by kernel_rfl
        simp [t1, t2, idxV]
      rintro _ H4 j4 ⟨hz4, rfl⟩
      refine ⟨(kd + 1, (some (3 + 1, 0), n + 1), (none, 0)), (6 - (kd + 1)).toNat, by omega, ?_, hz4, kd + 1, rfl, by omega, by omega, rfl⟩
      have e2 := wrap_i64 (n := kd + 1) (by omega) (by omega)
      simp only [e2]
  · simp only [hk, decide_false, cond_false]
    exact sort_pure.use1 trivial
end Go.Proofs.YtlkdhhkncoekgaaDoor

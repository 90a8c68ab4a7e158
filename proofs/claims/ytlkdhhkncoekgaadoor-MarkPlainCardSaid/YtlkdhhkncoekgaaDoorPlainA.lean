/- What the functions about signs hand back: their lengths, how many there are, the first of them. -/
import Derived.Test.YtlkdhhkncoekgaaDoorPlainVc
import Derived.Test.YtlkdhhkncoekgaaDoorUtf
namespace Go.Proofs.YtlkdhhkncoekgaaDoor
open Go.Am Go

theorem follows' : Tryd.prog.follows .mixedOrders = true := by kernel_rfl

theorem dialects_pure (d : Int) : Pure Tryd.prog 11 [.int .i64 d] (.bool (decide (1 ≤ d) && decide (d ≤ 4))) :=
  Pure.of_vc follows' [] (by kernel_rfl) rfl rfl (by rw [dialects_vc])

theorem runeLen_pure (c : Int) : Pure Tryd.prog 78 [.int .i32 c] (.int .i64 (runeLen c)) := by
  refine Pure.of_vc follows' [] (by kernel_rfl) rfl rfl ?_
  rw [runeLen_vc]
  unfold runeLen
  by_cases h1 : c < 0
  · simp [h1]
  by_cases h2 : c ≤ 127
  · simp [h1, h2]
  by_cases h3 : c ≤ 2047
  · simp [h1, h2, h3]
  by_cases h4 : 55296 ≤ c ∧ c ≤ 57343
  · simp [h1, h2, h3, h4]
  by_cases h5 : c ≤ 65535
  · have : (decide (55296 ≤ c) && decide (c ≤ 57343)) = false := by rw [Bool.and_eq_false_iff]; simp only [decide_eq_false_iff_not]; omega
    simp [h1, h2, h3, h4, h5, this]
  have : (decide (55296 ≤ c) && decide (c ≤ 57343)) = false := by rw [Bool.and_eq_false_iff]; simp only [decide_eq_false_iff_not]; omega
  by_cases h6 : c ≤ 1114111
  · simp [h1, h2, h3, h4, h5, h6, this]
  · simp [h1, h2, h3, h4, h5, h6, this]

/-- Begins a text with another? -/
def pre (s t : List UInt8) : Bool := decide ((s.length : Int) ≥ t.length) && s.take t.length == t

theorem sHasPrefix_pure (s t : List UInt8) : Pure Tryd.prog 53 [.str s, .str t] (.bool (pre s t)) := by
  refine Pure.of_vc follows' [] (by kernel_rfl) rfl rfl ?_
  rw [sHasPrefix_vc]
  refine ⟨fun h => ?_, ?_⟩
  · simp only [beq_iff_eq, decide_eq_true_eq] at h; omega
  · have : ((t.length : Int) - 0).toNat = t.length := by omega
    rw [this]; rfl
theorem HasPrefix_pure (s t : List UInt8) : Pure Tryd.prog 27 [.str s, .str t] (.bool (pre s t)) := by
  refine Pure.of_vc follows' [] (by kernel_rfl) rfl rfl ?_
  rw [HasPrefix_vc]
  exact (sHasPrefix_pure s t).use1 ⟨_, rfl, rfl⟩
theorem sCutPrefix_no (s t : List UInt8) (h : pre s t = false) : Pure Tryd.prog 72 [.str s, .str t] (.tuple [.str s, .bool false]) := by
  refine Pure.of_vc follows' [] (by kernel_rfl) rfl rfl ?_
  rw [sCutPrefix_vc]
  refine (sHasPrefix_pure s t).use1 ⟨_, rfl, ?_⟩
  rw [h]; rfl
theorem CutPrefix_no (s t : List UInt8) (h : pre s t = false) : Pure Tryd.prog 43 [.str s, .str t] (.tuple [.str s, .bool false]) := by
  refine Pure.of_vc follows' [] (by kernel_rfl) rfl rfl ?_
  rw [CutPrefix_vc]
  exact (sCutPrefix_no s t h).use1 ⟨_, _, rfl, rfl⟩

theorem IndexByteString_pure (s : List UInt8) (c : Int) : Pure Tryd.prog 89 [.str s, .int .u8 c] (.int .i64 (Lib.indexByte s c.toNat.toUInt8)) :=
  Pure.ext ext_ok fun H => rfl
theorem sIndexByte_pure (s : List UInt8) (c : Int) : Pure Tryd.prog 73 [.str s, .int .u8 c] (.int .i64 (Lib.indexByte s c.toNat.toUInt8)) := by
  refine Pure.of_vc follows' [] (by kernel_rfl) rfl rfl ?_
  rw [sIndexByte_vc]
  exact (IndexByteString_pure s c).use1 ⟨_, rfl, rfl⟩
theorem IndexByte_pure (s : List UInt8) (c : Int) : Pure Tryd.prog 44 [.str s, .int .u8 c] (.int .i64 (Lib.indexByte s c.toNat.toUInt8)) := by
  refine Pure.of_vc follows' [] (by kernel_rfl) rfl rfl ?_
  rw [IndexByte_vc]
  exact (sIndexByte_pure s c).use1 ⟨_, rfl, rfl⟩

theorem Count_pure (s : List UInt8) (n : Nat) (hn : SignsN s n) (hs : s.length ≤ 9223372036854775807) : Pure Tryd.prog 62 [.str s] (.int .i64 n) := by
  refine Pure.of_vc follows' [⟨3, Int, [3, 5], fun i => [.int .i64 i, .ptr (some ((real Tryd.prog none).n (emptyH Tryd.prog), 0))],
    fun i H j => ∃ m : Nat, i = m ∧ H.get (emptyH Tryd.prog).n = some (.iter s (place s m)) ∧ j = s.length - place s m ∧ place s m ≤ s.length ∧ ∀ j, j < m → place s j < s.length⟩] (by kernel_rfl) rfl rfl ?_
  rw [Count_vc]
  refine ⟨⟨0, s.length, rfl, 0, rfl, by simp [AH.get_alloc, place], rfl, Nat.zero_le _, fun j h => absurd h (Nat.not_lt_zero j)⟩, ?_⟩
  rintro i H j ⟨m, rfl, h1, rfl, h2, h3⟩
  refine ⟨s, place s m, h1, fun hk => ?_, fun hk => ?_⟩
  · obtain ⟨g1, g2⟩ := place_next hk
    have hm := place_ge h3
    have g1' : place s m < place s m + (decodeL s (place s m)).2 := g1
    refine ⟨_, _, ?_, rfl, m + 1, ?_, by simp [AH.get_set, place], rfl, g2, fun j hj => ?_⟩
    · simp only [place]; simp only [place] at g2; omega
    · rw [real_wrap, wrap_i64 (by omega) (by omega)]; rfl
    · rcases Nat.lt_or_ge j m with h | h
      · exact h3 j h
      · obtain rfl : j = m := by omega
        exact hk
  · have : SignsN s m := ⟨by omega, h3⟩
    rw [this.uniq hn]

/-- A sign as the iterator hands it out: where it is, how long, its rune, whether it is none. -/
def signAt (s : List UInt8) (m : Nat) : Int × Int × Int × Bool :=
  (place s m, (decodeL s (place s m)).2, (decodeL s (place s m)).1, ((decodeL s (place s m)).1 : Int) == 65533 && ((decodeL s (place s m)).2 : Int) == 1)
def signAV (x : Int × Int × Int × Bool) : List AV := [.agg [.int .i64 x.1, .int .i64 x.2.1, .int .i32 x.2.2.1, .bool x.2.2.2]]

theorem ACfn.mono {P : Program} {r : Option Nat} {fv : AV} {vs : List AV} {H : AH} {K K' : AV → AH → Prop} (h : ACfn P r fv vs H K) (hk : ∀ v H, K v H → K' v H) : ACfn P r fv vs H K' :=
  fun dst f xs ts ty pos after guard T hf hx => (h dst f xs ts ty pos after guard T hf hx).mono hk

theorem signs1_iter (s : List UInt8) (n : Nat) (hn : SignsN s n) (p : Nat) :
    Iter Tryd.prog 77 [] [.ptr (some (p, 0))] (fun H => H.get p = some (.cells [.str s] 9 { whole := true })) (((List.range n).map (signAt s)).map signAV) := by
  intro b J D H0 hb s1 s2 s3 s4 hC h0 hstep
  have hlen : (((List.range n).map (signAt s)).map signAV).length = n := by simp
  refine vcF_ok (anns := [⟨1, Unit, [0, 1, 7], fun _ => [.yld b, .ptr (some (p, 0)), .ptr (some ((real Tryd.prog none).n H0, 0))],
    fun _ H j => ∃ m W, J m W H ∧ H0.n ∈ W ∧ (∀ c ∈ W, c < H.n) ∧ H.get H0.n = some (.iter s (place s m)) ∧ place s m ≤ s.length ∧ (∀ j, j < m → place s j < s.length) ∧ j = s.length - place s m⟩]) follows' ?_
  show vcF _ _ _ _ [.yld b, .ptr (some (p, 0))] _ _
  rw [signs1_vc]
  refine ⟨s, ?_, ⟨(), s.length, rfl, 0, [H0.n], s1 _ _ _ _ h0, by simp, by simp, by simp [AH.get_alloc, place], Nat.zero_le _, fun j h => absurd h (Nat.not_lt_zero j), rfl⟩, ?_⟩
  · simp [AH.read1, hC _ _ _ h0]
  rintro _ H1 j ⟨m, W, hJ, hW, hlt, h1, h2, h3, rfl⟩
  refine ⟨s, place s m, h1, fun hk => ?_, fun hk => ?_⟩
  · obtain ⟨g1, g2⟩ := place_next hk
    have hJ' : J m W (H1.set H0.n (.iter s (place s m + (decodeL s (place s m)).2))) := s2 _ _ _ _ _ hW hJ
    have hm : m < n := by
      rcases Nat.lt_or_ge m n with h | h
      · exact h
      · exfalso
        rcases Nat.lt_or_ge n m with h' | h'
        · have := h3 n h'; have := hn.1; omega
        · obtain rfl : m = n := by omega
          have := hn.1; omega
    have hx : (((List.range n).map (signAt s)).map signAV)[m]? = some (signAV (signAt s m)) := by simp [hm]
    have hy := hstep none m W _ _ hx hJ' (fun c hc => by simpa using hlt c hc)
    -- after the round
    have after : ∀ v H3, ((H1.set H0.n (.iter s (place s m + (decodeL s (place s m)).2))).n ≤ H3.n ∧ (∀ c ∈ W, H3.get c = (H1.set H0.n (.iter s (place s m + (decodeL s (place s m)).2))).get c) ∧ ((v = .bool true ∧ J (m + 1) W H3) ∨ (v = .bool false ∧ D W H3))) →
        ∃ b1, v = AV.bool b1 ∧ bif !b1 then (∃ W, J (((List.range n).map (signAt s)).map signAV).length W H3 ∨ D W H3) else
          ∃ (x3 : PUnit), ∃ (k4 : Nat), k4 < s.length - place s m ∧ [AV.yld b, AV.ptr (some (p, (0 : Nat))), AV.ptr (some ((real Tryd.prog none).n H0, (0 : Nat)))] = [AV.yld b, AV.ptr (some (p, (0 : Nat))), AV.ptr (some ((real Tryd.prog none).n H0, (0 : Nat)))] ∧
            ∃ m W, J m W H3 ∧ H0.n ∈ W ∧ (∀ c ∈ W, c < H3.n) ∧ H3.get H0.n = some (.iter s (place s m)) ∧ place s m ≤ s.length ∧ (∀ j, j < m → place s j < s.length) ∧ k4 = s.length - place s m := by
      rintro v H3 ⟨k1, k2, ⟨rfl, k3⟩ | ⟨rfl, k3⟩⟩
      · refine ⟨true, rfl, (), s.length - place s (m + 1), by omega, rfl, m + 1, W, k3, hW, fun c hc => ?_, ?_, g2, fun j hj => ?_, rfl⟩
        · have := hlt c hc; have k1' : H1.n ≤ H3.n := k1; omega
        · rw [k2 _ hW, AH.get_set, if_pos rfl]; rfl
        · rcases Nat.lt_or_ge j m with h | h
          · exact h3 j h
          · obtain rfl : j = m := by omega
            exact hk
      · exact ⟨false, rfl, W, .inr k3⟩
    by_cases hr : (decodeL s (place s m)).1 = 65533
    · have e1 : (((decodeL s (place s m)).1 : Int) != 65533) = false := by rw [hr]; rfl
      rw [e1]
      have hz := decode_bad hr
      refine ⟨s, ?_, ⟨by omega, by omega, by omega⟩, ?_⟩
      · have := hC _ _ _ hJ'
        simp only [real_rd1, real_set, real_n, AH.read1, this]; rfl
      have e2 : List.take ((s.length : Int) - (place s m : Int)).toNat (List.drop (place s m : Int).toNat s) = s.drop (place s m) := by
        rw [List.take_of_length_le]; rfl
        rw [List.length_drop]; omega
      rw [e2]
      refine (HasPrefix_pure _ _).use1 ⟨_, rfl, ?_⟩
      have e3 : pre (s.drop (place s m)) [239, 191, 189] = isBad3 (s.drop (place s m)) := rfl
      rw [e3]
      cases hb3 : isBad3 (s.drop (place s m)) with
      | true =>
        rw [hb3] at hz
        have hz' : (decodeL s (place s m)).2 = 3 := hz
        have ea : signAV (signAt s m) = [AV.agg [AV.int IntKind.i64 (place s m : Int), AV.int IntKind.i64 3, AV.int IntKind.i32 ((decodeL s (place s m)).1 : Int), AV.bool (((decodeL s (place s m)).1 : Int) == 65533 && (3 : Int) == 1)]] := by
          simp only [signAV, signAt, hz']; rfl
        rw [ea] at hy
        exact ACfn.mono hy after
      | false =>
        rw [hb3] at hz
        have hz' : (decodeL s (place s m)).2 = 1 := hz
        have ea : signAV (signAt s m) = [AV.agg [AV.int IntKind.i64 (place s m : Int), AV.int IntKind.i64 1, AV.int IntKind.i32 ((decodeL s (place s m)).1 : Int), AV.bool (((decodeL s (place s m)).1 : Int) == 65533 && (1 : Int) == 1)]] := by
          simp only [signAV, signAt, hz']; rfl
        rw [ea] at hy
        exact ACfn.mono hy after
    · have e1 : (((decodeL s (place s m)).1 : Int) != 65533) = true := by rw [bne_iff_ne]; omega
      rw [e1]
      refine (runeLen_pure _).use1 ⟨_, rfl, ?_⟩
      rw [decode_len hr]
      exact ACfn.mono hy after
  · have : SignsN s m := ⟨by omega, h3⟩
    rw [this.uniq hn] at hJ
    exact ⟨W, .inl (by rw [hlen]; exact hJ)⟩

theorem Signs_call (s : List UInt8) (H : AH) {K : AV → AH → Prop} (h : K (.func (.func 77) [] [.ptr (some (H.n, 0))]) (H.alloc (.cells [.str s] 9 { whole := true }))) : ACallee Tryd.prog 54 [.str s] H K :=
  .inl ⟨goB_spec (by kernel_rfl), vcF_ok follows' (anns := []) (by rw [Signs_vc]; exact ⟨rfl, h⟩)⟩
end Go.Proofs.YtlkdhhkncoekgaaDoor

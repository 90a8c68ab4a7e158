/- What MarkNames' functions hand back: names, by the program and by the document. -/
import Derived.Test.YtlkdhhkncoekgaaDoorMarkNamesVc
namespace Go.Proofs.YtlkdhhkncoekgaaDoor
open Go.Am Go

theorem follows' : Tryd.prog.follows .mixedOrders = true := by kernel_rfl

/-- Has it no byte below U+0020, from a place on? -/
def highFrom (s : List UInt8) (i : Nat) : Prop := ∀ k, i ≤ k → (h : k < s.length) → 32 ≤ (s[k]'h).toNat
def nameS (s : List UInt8) : Bool := decide (s.length ≤ 64) && s.all fun b => decide (32 ≤ b.toNat)

theorem nameS_iff {s : List UInt8} : nameS s = true ↔ s.length ≤ 64 ∧ highFrom s 0 := by
  unfold nameS highFrom
  simp only [Bool.and_eq_true, decide_eq_true_eq, List.all_eq_true]
  refine and_congr Iff.rfl ⟨fun h k _ hk => h _ (List.getElem_mem hk), fun h b hb => ?_⟩
  obtain ⟨k, hk, rfl⟩ := List.mem_iff_getElem.1 hb
  exact h k (Nat.zero_le _) hk

theorem low_pure (c : Int) : Pure Tryd.prog 60 [.int .i32 c] (.bool (decide (c < 32))) :=
  Pure.of_vc follows' [] (by kernel_rfl) rfl rfl (by rw [low_vc])

theorem indexFunc_pure (s : List UInt8) : PureR Tryd.prog 82 [.str s, .func (.func 60) [] [], .bool true] fun v => ∃ n, v = .int .i64 n ∧ (n < 0 ↔ highFrom s 0) := by
  refine PureR.of_vc follows' [⟨2, Nat, [1, 2, 10], fun _ => [.func (.func 60) [] [], .bool true, .ptr (some ((real Tryd.prog none).n (emptyH Tryd.prog), 0))],
    fun k H j => H.get (emptyH Tryd.prog).n = some (.iter s k) ∧ j = s.length - k ∧ k ≤ s.length ∧ ∀ i, i < k → (h : i < s.length) → 32 ≤ (s[i]'h).toNat⟩] (by kernel_rfl) rfl (by rintro v ⟨n, rfl, _⟩; rfl) ?_
  rw [indexFunc_vc]
  refine ⟨⟨0, s.length, rfl, by simp [AH.get_alloc], by simp, by simp, fun i h => absurd h (by omega)⟩, ?_⟩
  rintro k H j ⟨h1, rfl, h3, h4⟩
  refine ⟨s, k, h1, fun hk => ?_, fun hk => ⟨_, rfl, ?_⟩⟩
  · refine (low_pure _).use1 ⟨_, rfl, ?_⟩
    obtain ⟨g1, g2⟩ := decodeL_size s k hk
    by_cases hl : ((decodeL s k).1 : Int) < 32
    · simp only [hl, decide_true, BEq.rfl, cond_true]
      refine ⟨_, rfl, ⟨fun h => by omega, fun h => ?_⟩⟩
      have := h k (Nat.zero_le _) hk
      rcases decodeL_cases s k with ⟨d1, d2⟩ | ⟨d1, d2, _⟩
      · rw [d2, rune1_at (k := 0) hk] at hl; simp at hl; omega
      · omega
    · simp only [hl, decide_false]
      refine ⟨k + (decodeL s k).2, s.length - (k + (decodeL s k).2), by omega, trivial, by simp [AH.get_set], rfl, by omega, fun i hi h => ?_⟩
      by_cases hik : i < k
      · exact h4 i hik h
      · rcases decodeL_cases s k with ⟨d1, d2⟩ | ⟨d1, d2, d3, d4, d5⟩
        · rw [d2] at hi hl
          obtain rfl : i = k := by simp at hi; omega
          rw [rune1_at (k := 0) hk] at hl; simp at hl; omega
        · by_cases hik2 : i = k
          · subst hik2; rw [rune1_at (k := 0) hk] at d1; simp at d1; omega
          · have := (d5 (i - k) (by omega) (by omega)).2
            rw [rune1_at (by omega)] at this
            have e : k + (i - k) = i := by omega
            simp only [e] at this
            omega
  · refine ⟨fun _ i _ h => h4 i (by omega) h, fun _ => by decide⟩

theorem IndexFunc_pure (s : List UInt8) : PureR Tryd.prog 59 [.str s, .func (.func 60) [] []] fun v => ∃ n, v = .int .i64 n ∧ (n < 0 ↔ highFrom s 0) := by
  refine PureR.of_vc follows' [] (by kernel_rfl) rfl (by rintro v ⟨n, rfl, _⟩; rfl) ?_
  rw [IndexFunc_vc]
  refine (indexFunc_pure s).use ?_
  rintro v ⟨n, rfl, h⟩
  exact ⟨_, rfl, _, rfl, h⟩

theorem isName_pure (s : List UInt8) : Pure Tryd.prog 33 [.str s] (.bool (nameS s)) := by
  refine Pure.of_vc follows' [] (by kernel_rfl) rfl rfl ?_
  rw [isName_vc]
  by_cases hl : (s.length : Int) > 64
  · simp only [hl, decide_true, cond_true]
    have : ¬ (nameS s = true) := by rw [nameS_iff]; omega
    simp only [Bool.not_eq_true] at this
    rw [this]
  · simp only [hl, decide_false, cond_false]
    refine (IndexFunc_pure s).use ?_
    rintro v ⟨n, rfl, h⟩
    refine ⟨_, rfl, congrArg AV.bool ?_⟩
    rw [Bool.eq_iff_iff, nameS_iff, decide_eq_true_eq, h]
    exact ⟨fun h => ⟨by omega, h⟩, fun h => h.2⟩

theorem refIsName_pure (s : List UInt8) (hs : s.length ≤ 9223372036854775807) : Pure Tryd.prog 35 [.str s] (.bool (nameS s)) := by
  refine Pure.of_vc follows' [⟨2, Int, [0, 3], fun i => [.str s, .int .i64 i], fun i _ j => 0 ≤ i ∧ i ≤ s.length ∧ j = s.length - i.toNat ∧ ∀ k, k < i.toNat → (h : k < s.length) → 32 ≤ (s[k]'h).toNat⟩] (by kernel_rfl) rfl rfl ?_
  rw [refIsName_vc]
  refine ⟨⟨0, s.length, rfl, by simp, by simp, by simp, fun k hk => absurd hk (by simp)⟩, ?_⟩
  rintro i H j ⟨h1, h2, rfl, h4⟩
  by_cases hi : i < (s.length : Int)
  · simp only [hi, decide_true, cond_true]
    refine ⟨⟨h1, trivial⟩, ?_⟩
    have hlt : i.toNat < s.length := by omega
    have hg : (s[i.toNat]?).getD 0 = s[i.toNat] := by rw [List.getElem?_eq_getElem hlt]; rfl
    rw [hg]
    by_cases hb : ((s[i.toNat].toNat : Nat) : Int) < 32
    · simp only [hb, decide_true, cond_true]
      have : ¬ (nameS s = true) := by
        rw [nameS_iff]; intro h
        have := h.2 i.toNat (Nat.zero_le _) hlt; omega
      simp only [Bool.not_eq_true] at this
      rw [this]
    · simp only [hb, decide_false, cond_false, real_wrap]
      refine ⟨i + 1, s.length - (i + 1).toNat, by omega, ?_, by omega, by omega, rfl, fun k hk h => ?_⟩
      · rw [wrap_i64 (by omega) (by omega)]
      · by_cases e : k = i.toNat
        · subst e; omega
        · exact h4 k (by omega) h
  · simp only [hi, decide_false, cond_false]
    refine congrArg AV.bool ?_
    rw [Bool.eq_iff_iff, nameS_iff, decide_eq_true_eq]
    exact ⟨fun h => ⟨by omega, fun k _ hk => h4 k (by omega) hk⟩, fun h => by omega⟩

/-! ### A comma -/

theorem indexByte_contains (s : List UInt8) (c : UInt8) : (0 ≤ Lib.indexByte s c) ↔ c ∈ s := by
  induction s with
  | nil => simp [Lib.indexByte]
  | cons b l ih =>
    unfold Lib.indexByte
    by_cases hb : (b == c) = true
    · rw [if_pos hb]; simp only [beq_iff_eq] at hb; subst hb; simp
    · rw [if_neg hb]
      have hne : ¬ c = b := fun h => hb (by simp [h])
      simp only [List.mem_cons, hne, false_or]
      rw [← ih]
      have := Lib.indexByte_ge l c
      by_cases h1 : (Lib.indexByte l c == -1) = true
      · rw [if_pos h1]; simp only [beq_iff_eq] at h1; omega
      · rw [if_neg h1]; simp only [beq_iff_eq] at h1; omega

theorem IndexByteString_pure (s : List UInt8) (c : Int) : Pure Tryd.prog 89 [.str s, .int .u8 c] (.int .i64 (Lib.indexByte s c.toNat.toUInt8)) :=
  Pure.ext ext_ok fun _ => rfl

theorem IndexByte_pure (s : List UInt8) (c : Int) : Pure Tryd.prog 73 [.str s, .int .u8 c] (.int .i64 (Lib.indexByte s c.toNat.toUInt8)) := by
  refine Pure.of_vc follows' [] (by kernel_rfl) rfl rfl ?_
  rw [IndexByte_vc]
  exact (IndexByteString_pure s c).use1 ⟨_, rfl, rfl⟩

theorem sIndex_pure (s : List UInt8) : PureR Tryd.prog 83 [.str s, .str [44]] fun v => ∃ n, v = .int .i64 n ∧ (0 ≤ n ↔ 44 ∈ s) := by
  refine PureR.of_vc follows' [] (by kernel_rfl) rfl (by rintro v ⟨n, rfl, _⟩; rfl) ?_
  rw [sIndex_vc]
  by_cases h : [44] = s
  · subst h
    exact ⟨_, rfl, by simp⟩
  · have : ([44] == s) = false := by simpa using h
    simp only [this, Bool.or_false, cond_false]
    exact ⟨by decide, (IndexByte_pure s 44).use1 ⟨_, rfl, _, rfl, indexByte_contains s 44⟩⟩

theorem Index_pure (s : List UInt8) : PureR Tryd.prog 61 [.str s, .str [44]] fun v => ∃ n, v = .int .i64 n ∧ (0 ≤ n ↔ 44 ∈ s) := by
  refine PureR.of_vc follows' [] (by kernel_rfl) rfl (by rintro v ⟨n, rfl, _⟩; rfl) ?_
  rw [Index_vc]
  refine (sIndex_pure s).use ?_
  rintro v ⟨n, rfl, h⟩
  exact ⟨_, rfl, _, rfl, h⟩

theorem Contains_pure (s : List UInt8) : Pure Tryd.prog 34 [.str s, .str [44]] (.bool (decide (44 ∈ s))) := by
  refine Pure.of_vc follows' [] (by kernel_rfl) rfl rfl ?_
  rw [Contains_vc]
  refine (Index_pure s).use ?_
  rintro v ⟨n, rfl, h⟩
  refine ⟨_, rfl, congrArg AV.bool ?_⟩
  rw [decide_eq_decide]; exact h

/-! ### Name -/

def nameV (d : Int) (s : List UInt8) : AV :=
  if d < 1 ∨ d > 4 then .tuple [.str [], .bool false, .int .i64 5]
  else if nameS s = false then .tuple [.str [], .bool false, .int .i64 25]
  else if s = [] ∨ d = 2 ∨ (d = 4 ∧ 44 ∉ s) then .tuple [.str s, .bool false, .int .i64 0]
  else .tuple [.str [], .bool true, .int .i64 0]

theorem nameV_scal (d : Int) (s : List UInt8) : (nameV d s).scal = true := by
  unfold nameV; split
  · rfl
  · split
    · rfl
    · split <;> rfl

theorem Name_pure (d : Int) (s : List UInt8) : Pure Tryd.prog 18 [.int .i64 d, .str s] (nameV d s) := by
  refine Pure.of_vc follows' [] (by kernel_rfl) rfl (nameV_scal d s) ?_
  rw [Name_vc]
  unfold nameV
  by_cases h1 : d < 1 ∨ d > 4
  · have : (decide (d < 1) || decide (d > 4)) = true := by simpa using h1
    rw [this, if_pos h1]; rfl
  · have : (decide (d < 1) || decide (d > 4)) = false := by simpa using h1
    rw [this, if_neg h1, cond_false]
    refine (isName_pure s).use1 ⟨_, rfl, ?_⟩
    cases hn : nameS s with
    | false => rw [if_pos rfl]; rfl
    | true =>
      simp only [Bool.not_true, cond_false, Bool.true_eq_false, if_false]
      by_cases h2 : s = []
      · subst h2; simp
      · have : (s == []) = false := by simpa using h2
        simp only [this, cond_false]
        by_cases h3 : d = 2
        · subst h3; simp
        · have : (d == 2) = false := by simpa using h3
          simp only [this, cond_false]
          by_cases h4 : d = 4
          · subst h4
            simp only [BEq.rfl, cond_true]
            refine (Contains_pure s).use1 ⟨_, rfl, ?_⟩
            by_cases h5 : 44 ∈ s
            · simp [h5, h2]
            · simp [h5]
          · have : (d == 4) = false := by simpa using h4
            simp [this, h2, h3, h4]

theorem refName_pure (d : Int) (s : List UInt8) (hs : s.length ≤ 9223372036854775807) : Pure Tryd.prog 19 [.int .i64 d, .str s] (nameV d s) := by
  refine Pure.of_vc follows' [⟨9, Int × Bool, [1, 7, 8], fun x => [.str s, .bool x.2, .int .i64 x.1], fun x _ j => 0 ≤ x.1 ∧ x.1 ≤ s.length ∧ j = s.length - x.1.toNat ∧ (x.2 = true ↔ ∀ k, k < x.1.toNat → (h : k < s.length) → s[k]'h ≠ 44)⟩] (by kernel_rfl) rfl (nameV_scal d s) ?_
  rw [refName_vc]
  unfold nameV
  by_cases h1 : d < 1 ∨ d > 4
  · have : (decide (d < 1) || decide (d > 4)) = true := by simpa using h1
    rw [this, if_pos h1]; rfl
  · have : (decide (d < 1) || decide (d > 4)) = false := by simpa using h1
    rw [this, if_neg h1, cond_false]
    refine (refIsName_pure s hs).use1 ⟨_, rfl, ?_⟩
    cases hn : nameS s with
    | false => rw [if_pos rfl]; rfl
    | true =>
      simp only [Bool.not_true, cond_false, Bool.true_eq_false, if_false]
      by_cases h4 : d = 4
      · subst h4
        simp only [BEq.rfl, cond_true]
        refine ⟨⟨(0, true), s.length, rfl, by simp, by simp, by simp, by simp⟩, ?_⟩
        rintro ⟨i, b⟩ H j ⟨g1, g2, rfl, g4⟩
        simp only at g1 g2 g4
        by_cases hi : i < (s.length : Int)
        · simp only [hi, decide_true, cond_true, real_wrap]
          have hlt : i.toNat < s.length := by omega
          have hg : (s[i.toNat]?).getD 0 = s[i.toNat] := by rw [List.getElem?_eq_getElem hlt]; rfl
          refine ⟨fun _ => ⟨g1, trivial⟩, (i + 1, b && ((s[i.toNat].toNat : Nat) : Int) != 44), s.length - (i + 1).toNat, by omega, ?_, by simp only; omega, by simp only; omega, rfl, ?_⟩
          · rw [hg, wrap_i64 (by omega) (by omega)]
          · simp only [Bool.and_eq_true, bne_iff_ne, ne_eq, g4]
            constructor
            · rintro ⟨k1, k2⟩ k hk h
              by_cases e : k = i.toNat
              · subst e; intro he; rw [he] at k2; exact k2 rfl
              · exact k1 k (by omega) h
            · intro h
              refine ⟨fun k hk hk' => h k (by omega) hk', fun he => h i.toNat (by omega) hlt ?_⟩
              apply UInt8.toNat_inj.1
              show s[i.toNat].toNat = 44
              omega
        · simp only [hi, decide_false, cond_false]
          have : b = true ↔ 44 ∉ s := by
            rw [g4]
            constructor
            · intro h hm
              obtain ⟨k, hk, e⟩ := List.mem_iff_getElem.1 hm
              exact h k (by omega) hk e
            · intro h k _ hk e
              exact h (e ▸ List.getElem_mem hk)
          cases b with
          | true =>
            have h5 := this.1 rfl
            simp [h5]
          | false =>
            have h5 : 44 ∈ s := by
              by_cases h5 : 44 ∈ s
              · exact h5
              · exact absurd (this.2 h5) (by decide)
            have h6 : s ≠ [] := by rintro rfl; cases h5
            simp [h5, h6]
      · have : (d == 4) = false := by simpa using h4
        simp only [this, cond_false]
        by_cases h2 : s = []
        · subst h2; simp
        · have e2 : (s == []) = false := by simpa using h2
          by_cases h3 : d = 2
          · subst h3; simp
          · have e3 : (d == 2) = false := by simpa using h3
            simp [e2, e3, h2, h3, h4]
end Go.Proofs.YtlkdhhkncoekgaaDoor

/- The sign that begins at a place, as the document reads it, byte by byte. -/
import Derived.Test.YtlkdhhkncoekgaaDoorUtf
namespace Go.Am
theorem valid_iff {r : Nat} : Utf8.valid r = true ↔ (r < 55296 ∨ 57344 ≤ r) ∧ r ≤ 1114111 := by
  unfold Utf8.valid
  simp only [Bool.or_eq_true, Bool.and_eq_true, decide_eq_true_eq]
  omega

def longN (c : Nat) : Nat := if c < 128 then 1 else if 194 ≤ c ∧ c ≤ 223 then 2 else if 224 ≤ c ∧ c ≤ 239 then 3 else if 240 ≤ c ∧ c ≤ 244 then 4 else 0
def secondN (c d : Nat) : Bool :=
  if c = 224 then decide (160 ≤ d) && decide (d ≤ 191) else if c = 237 then decide (128 ≤ d) && decide (d ≤ 159) else if c = 240 then decide (144 ≤ d) && decide (d ≤ 191)
  else if c = 244 then decide (128 ≤ d) && decide (d ≤ 143) else decide (128 ≤ d) && decide (d ≤ 191)
def moreN (s : List UInt8) (i : Nat) : Bool := decide (i < s.length) && (decide (128 ≤ rune1 s i 0) && decide (rune1 s i 0 ≤ 191))

theorem rune1_lt (s : List UInt8) (i k : Nat) : rune1 s i k < 256 := by unfold rune1; exact UInt8.toNat_lt _

theorem one_none {s : List UInt8} {i : Nat} (h : longN (rune1 s i 0) = 0) : decodeL s i = (65533, 1) := by
  have h0 := rune1_lt s i 0
  unfold longN at h
  repeat' split at h
  all_goals first | omega | skip
  unfold decodeL
  simp only
  rw [if_neg (by omega)]
  split
  · rename_i g
    simp only [Bool.and_eq_true, beq_iff_eq, decide_eq_true_eq] at g
    rw [if_neg (by omega)]; rfl
  · split
    · rename_i g
      simp only [Bool.and_eq_true, beq_iff_eq, decide_eq_true_eq] at g
      omega
    · split
      · rename_i g
        simp only [Bool.and_eq_true, beq_iff_eq, decide_eq_true_eq] at g
        rw [if_neg (by simp only [Bool.and_eq_true, decide_eq_true_eq, valid_iff]; omega)]; rfl
      · rfl
theorem one_short {s : List UInt8} {i : Nat} (h : longN (rune1 s i 0) = 1) : decodeL s i = (rune1 s i 0, 1) := by
  unfold longN at h
  unfold decodeL
  simp only
  rw [if_pos]
  repeat' split at h
  all_goals omega
theorem one_second {s : List UInt8} {i : Nat} (h : 2 ≤ longN (rune1 s i 0)) (g : ¬ (i + 1 < s.length ∧ secondN (rune1 s i 0) (rune1 s i 1) = true)) : decodeL s i = (65533, 1) := by
  have h0 := rune1_lt s i 0
  have h1 := rune1_lt s i 1
  have h2 := rune1_lt s i 2
  have h3 := rune1_lt s i 3
  have g' : i + 1 < s.length → secondN (rune1 s i 0) (rune1 s i 1) = false := fun e => by
    rw [← Bool.not_eq_true]; exact fun k => g ⟨e, k⟩
  unfold longN at h
  unfold decodeL
  simp only
  unfold secondN at g'
  have : 194 ≤ rune1 s i 0 ∧ rune1 s i 0 ≤ 244 := by
    repeat' split at h
    all_goals omega
  clear h
  rw [if_neg (by omega)]
  split
  · rename_i k
    simp only [Bool.and_eq_true, beq_iff_eq, decide_eq_true_eq] at k
    have e := g' k.2.1
    rw [if_neg (by omega), if_neg (by omega), if_neg (by omega), if_neg (by omega)] at e
    simp only [Bool.and_eq_false_iff, decide_eq_false_iff_not] at e
    omega
  · split
    · rename_i k
      simp only [Bool.and_eq_true, beq_iff_eq, decide_eq_true_eq] at k
      have e := g' k.1.2.1
      rw [if_neg]
      · rfl
      simp only [Bool.and_eq_true, decide_eq_true_eq, valid_iff]
      repeat' split at e
      all_goals simp only [Bool.and_eq_false_iff, decide_eq_false_iff_not] at e
      all_goals omega
    · split
      · rename_i k
        simp only [Bool.and_eq_true, beq_iff_eq, decide_eq_true_eq] at k
        have e := g' k.1.1.2.1
        rw [if_neg]
        · rfl
        simp only [Bool.and_eq_true, decide_eq_true_eq, valid_iff]
        repeat' split at e
        all_goals simp only [Bool.and_eq_false_iff, decide_eq_false_iff_not] at e
        all_goals omega
      · rfl
theorem rune1_here (s : List UInt8) (i k : Nat) : rune1 s (i + k) 0 = rune1 s i k := by unfold rune1; rw [Nat.add_zero]
theorem one_more {s : List UInt8} {i k : Nat} (hk : 2 ≤ k) (h : k < longN (rune1 s i 0)) (g : moreN s (i + k) = false) : decodeL s i = (65533, 1) := by
  have h0 := rune1_lt s i 0
  have hl := rune1_lt s i k
  unfold moreN at g
  rw [rune1_here] at g
  simp only [Bool.and_eq_false_iff, decide_eq_false_iff_not] at g
  have hc : (decide (i + k < s.length) && rune1 s i k / 64 == 2) = false := by
    simp only [Bool.and_eq_false_iff, decide_eq_false_iff_not, beq_eq_false_iff_ne]
    omega
  unfold longN at h
  have hr : (224 ≤ rune1 s i 0 ∧ rune1 s i 0 ≤ 239 ∧ k = 2) ∨ (240 ≤ rune1 s i 0 ∧ rune1 s i 0 ≤ 244 ∧ (k = 2 ∨ k = 3)) := by
    repeat' split at h
    all_goals omega
  clear h g
  unfold decodeL
  simp only
  rw [if_neg (by omega)]
  have e6 : (rune1 s i 0 / 32 == 6) = false := by rw [beq_eq_false_iff_ne]; omega
  rw [e6]
  simp only [Bool.false_and, Bool.false_eq_true, if_false]
  rcases hr with ⟨a, b, rfl⟩ | ⟨a, b, rfl | rfl⟩
  · rw [hc]
    have e8 : (rune1 s i 0 / 8 == 30) = false := by rw [beq_eq_false_iff_ne]; omega
    rw [e8]
    simp only [Bool.and_false, Bool.false_and, Bool.false_eq_true, if_false]; rfl
  · rw [hc]
    simp only [Bool.and_false, Bool.false_and, Bool.false_eq_true, if_false]; rfl
  · have e16 : (rune1 s i 0 / 16 == 14) = false := by rw [beq_eq_false_iff_ne]; omega
    rw [e16, hc]
    simp only [Bool.and_false, Bool.false_and, Bool.false_eq_true, if_false]; rfl
theorem one_whole {s : List UInt8} {i : Nat} (h : 2 ≤ longN (rune1 s i 0)) (g1 : i + 1 < s.length) (g2 : secondN (rune1 s i 0) (rune1 s i 1) = true) (g : ∀ k, 2 ≤ k → k < longN (rune1 s i 0) → moreN s (i + k) = true) :
    decodeL s i = (if longN (rune1 s i 0) = 2 then (rune1 s i 1 - 128) + 64 * (rune1 s i 0 - 192) else if longN (rune1 s i 0) = 3 then (64 * (rune1 s i 1 - 128) + (rune1 s i 2 - 128)) + 4096 * (rune1 s i 0 - 224)
      else (64 * (64 * (rune1 s i 1 - 128) + (rune1 s i 2 - 128)) + (rune1 s i 3 - 128)) + 262144 * (rune1 s i 0 - 240), longN (rune1 s i 0)) ∧ 128 ≤ rune1 s i 1 ∧ (decodeL s i) ≠ (65533, 1) := by
  have h0 := rune1_lt s i 0
  have h1 := rune1_lt s i 1
  have c1 : 128 ≤ rune1 s i 1 ∧ rune1 s i 1 ≤ 191 ∧ (rune1 s i 0 = 224 → 160 ≤ rune1 s i 1) ∧ (rune1 s i 0 = 237 → rune1 s i 1 ≤ 159) ∧ (rune1 s i 0 = 240 → 144 ≤ rune1 s i 1) ∧ (rune1 s i 0 = 244 → rune1 s i 1 ≤ 143) := by
    unfold secondN at g2
    repeat' split at g2
    all_goals simp only [Bool.and_eq_true, decide_eq_true_eq] at g2
    all_goals omega
  have gk : ∀ k, 2 ≤ k → k < longN (rune1 s i 0) → i + k < s.length ∧ 128 ≤ rune1 s i k ∧ rune1 s i k ≤ 191 := by
    intro k a b
    have := g k a b
    unfold moreN at this
    rw [rune1_here] at this
    simp only [Bool.and_eq_true, decide_eq_true_eq] at this
    exact this
  have d1 : (decide (i + 1 < s.length) && rune1 s i 1 / 64 == 2) = true := by
    simp only [Bool.and_eq_true, decide_eq_true_eq, beq_iff_eq]; omega
  have hr : (longN (rune1 s i 0) = 2 ∧ 194 ≤ rune1 s i 0 ∧ rune1 s i 0 ≤ 223) ∨ (longN (rune1 s i 0) = 3 ∧ 224 ≤ rune1 s i 0 ∧ rune1 s i 0 ≤ 239) ∨ (longN (rune1 s i 0) = 4 ∧ 240 ≤ rune1 s i 0 ∧ rune1 s i 0 ≤ 244) := by
    unfold longN at h ⊢
    repeat' split at h
    all_goals first | omega | skip
    · rw [if_neg (by assumption), if_pos (by assumption)]; omega
    · rw [if_neg (by assumption), if_neg (by assumption), if_pos (by assumption)]; omega
    · rw [if_neg (by assumption), if_neg (by assumption), if_neg (by assumption), if_pos (by assumption)]; omega
  rcases hr with ⟨e, a, b⟩ | ⟨e, a, b⟩ | ⟨e, a, b⟩
  · rw [e, if_pos rfl]
    unfold decodeL
    simp only
    have e6 : (rune1 s i 0 / 32 == 6) = true := by rw [beq_iff_eq]; omega
    rw [if_neg (by omega), e6, d1]
    simp only [Bool.and_self, if_true]
    rw [if_pos (by omega)]
    refine ⟨Prod.ext (by simp only; omega) rfl, c1.1, fun k => ?_⟩
    have := congrArg Prod.snd k
    simp only at this; omega
  · obtain ⟨p1, p2, p3⟩ := gk 2 (by omega) (by omega)
    have d2 : (decide (i + 2 < s.length) && rune1 s i 2 / 64 == 2) = true := by
      simp only [Bool.and_eq_true, decide_eq_true_eq, beq_iff_eq]; omega
    rw [e, if_neg (by decide), if_pos rfl]
    unfold decodeL
    simp only
    have e6 : (rune1 s i 0 / 32 == 6) = false := by rw [beq_eq_false_iff_ne]; omega
    have e14 : (rune1 s i 0 / 16 == 14) = true := by rw [beq_iff_eq]; omega
    rw [if_neg (by omega), e6, e14, d1, d2]
    simp only [Bool.and_self, if_true, Bool.false_and, Bool.false_eq_true, if_false]
    rw [if_pos (by simp only [Bool.and_eq_true, decide_eq_true_eq, valid_iff]; omega)]
    refine ⟨Prod.ext (by simp only; omega) rfl, c1.1, fun k => ?_⟩
    have := congrArg Prod.snd k
    simp only at this; omega
  · obtain ⟨p1, p2, p3⟩ := gk 2 (by omega) (by omega)
    obtain ⟨q1, q2, q3⟩ := gk 3 (by omega) (by omega)
    have d2 : (decide (i + 2 < s.length) && rune1 s i 2 / 64 == 2) = true := by
      simp only [Bool.and_eq_true, decide_eq_true_eq, beq_iff_eq]; omega
    have d3 : (decide (i + 3 < s.length) && rune1 s i 3 / 64 == 2) = true := by
      simp only [Bool.and_eq_true, decide_eq_true_eq, beq_iff_eq]; omega
    rw [e, if_neg (by decide), if_neg (by decide)]
    unfold decodeL
    simp only
    have e6 : (rune1 s i 0 / 32 == 6) = false := by rw [beq_eq_false_iff_ne]; omega
    have e14 : (rune1 s i 0 / 16 == 14) = false := by rw [beq_eq_false_iff_ne]; omega
    have e30 : (rune1 s i 0 / 8 == 30) = true := by rw [beq_iff_eq]; omega
    rw [if_neg (by omega), e6, e14, e30, d1, d2, d3]
    simp only [Bool.and_self, if_true, Bool.false_and, Bool.false_eq_true, if_false]
    rw [if_pos (by simp only [Bool.and_eq_true, decide_eq_true_eq, valid_iff]; omega)]
    refine ⟨Prod.ext (by simp only; omega) rfl, c1.1, fun k => ?_⟩
    have := congrArg Prod.snd k
    simp only at this; omega
end Go.Am

/- The signs of a text: where each begins, how long it is. -/
import Derived.Test.YtlkdhhkncoekgaaDoorAmRo
namespace Go.Am

/-- What utf8.RuneLen says. -/
def runeLen (c : Int) : Int := if c < 0 then -1 else if c ≤ 127 then 1 else if c ≤ 2047 then 2 else if 55296 ≤ c ∧ c ≤ 57343 then -1 else if c ≤ 65535 then 3 else if c ≤ 1114111 then 4 else -1

theorem valid_spec {r : Nat} (h : Utf8.valid r = true) : (r < 55296 ∨ 57344 ≤ r) ∧ r ≤ 1114111 := by
  unfold Utf8.valid at h
  simp only [Bool.or_eq_true, Bool.and_eq_true, decide_eq_true_eq] at h
  omega

theorem decodeL_forms (s : List UInt8) (k : Nat) :
    ((decodeL s k).1 < 128 ∧ (decodeL s k).2 = 1) ∨ (128 ≤ (decodeL s k).1 ∧ (decodeL s k).1 < 2048 ∧ (decodeL s k).2 = 2) ∨
    (2048 ≤ (decodeL s k).1 ∧ (decodeL s k).1 < 65536 ∧ ((decodeL s k).1 < 55296 ∨ 57344 ≤ (decodeL s k).1) ∧ (decodeL s k).2 = 3 ∧
      (decodeL s k).1 = (rune1 s k 0 % 16) * 4096 + (rune1 s k 1 % 64) * 64 + rune1 s k 2 % 64 ∧ rune1 s k 0 / 16 = 14 ∧ rune1 s k 1 / 64 = 2 ∧ rune1 s k 2 / 64 = 2 ∧ k + 2 < s.length) ∨
    (65536 ≤ (decodeL s k).1 ∧ (decodeL s k).1 ≤ 1114111 ∧ (decodeL s k).2 = 4) ∨ ((decodeL s k).1 = 65533 ∧ (decodeL s k).2 = 1 ∧
      ¬ (rune1 s k 0 = 239 ∧ rune1 s k 1 = 191 ∧ rune1 s k 2 = 189 ∧ k + 2 < s.length)) := by
  unfold decodeL
  simp only
  have he : Utf8.runeError = 65533 := rfl
  split
  · exact .inl ⟨by assumption, rfl⟩
  · rename_i h0
    split
    · rename_i h1
      simp only [Bool.and_eq_true, beq_iff_eq, decide_eq_true_eq] at h1
      split
      · rename_i h2
        exact .inr (.inl ⟨h2, by simp only; omega, rfl⟩)
      · exact .inr (.inr (.inr (.inr ⟨he, rfl, fun h => by omega⟩)))
    · split
      · rename_i h1
        simp only [Bool.and_eq_true, beq_iff_eq, decide_eq_true_eq] at h1
        split
        · rename_i h2
          simp only [Bool.and_eq_true, decide_eq_true_eq] at h2
          have hv := valid_spec h2.2
          exact .inr (.inr (.inl ⟨h2.1, by simp only; omega, hv.1, rfl, rfl, h1.1.1, h1.1.2.2, h1.2.2, h1.2.1⟩))
        · rename_i h2
          refine .inr (.inr (.inr (.inr ⟨he, rfl, fun h => h2 ?_⟩)))
          have hx : (rune1 s k 0 % 16) * 4096 + (rune1 s k 1 % 64) * 64 + rune1 s k 2 % 64 = 65533 := by omega
          simp [hx, Utf8.valid]
      · rename_i hn
        have no : ¬ (rune1 s k 0 = 239 ∧ rune1 s k 1 = 191 ∧ rune1 s k 2 = 189 ∧ k + 2 < s.length) := by
          rintro ⟨h1, h2, h3, h4⟩
          apply hn
          rw [h1, h2, h3]
          simp only [Bool.and_eq_true, decide_eq_true_eq]
          exact ⟨⟨by decide, by omega, by decide⟩, by omega, by decide⟩
        split
        · rename_i h1
          simp only [Bool.and_eq_true, beq_iff_eq, decide_eq_true_eq] at h1
          split
          · rename_i h2
            simp only [Bool.and_eq_true, decide_eq_true_eq] at h2
            have hv := valid_spec h2.2
            exact .inr (.inr (.inr (.inl ⟨h2.1, hv.2, rfl⟩)))
          · exact .inr (.inr (.inr (.inr ⟨he, rfl, no⟩)))
        · exact .inr (.inr (.inr (.inr ⟨he, rfl, no⟩)))

theorem decode_len {s : List UInt8} {k : Nat} (h : (decodeL s k).1 ≠ 65533) : runeLen (decodeL s k).1 = ((decodeL s k).2 : Int) := by
  unfold runeLen
  rcases decodeL_forms s k with ⟨h1, h2⟩ | ⟨h1, h2, h3⟩ | ⟨h1, h2, h3, h4, _⟩ | ⟨h1, h2, h3⟩ | ⟨h1, _⟩
  · rw [h2, if_neg (by omega), if_pos (by omega)]; rfl
  · rw [h3, if_neg (by omega), if_neg (by omega), if_pos (by omega)]; rfl
  · rw [h4, if_neg (by omega), if_neg (by omega), if_neg (by omega), if_neg (by omega), if_pos (by omega)]; rfl
  · rw [h3, if_neg (by omega), if_neg (by omega), if_neg (by omega), if_neg (by omega), if_neg (by omega), if_pos (by omega)]; rfl
  · exact absurd h1 h

/-- Begins the text with U+FFFD as three bytes? -/
def isBad3 (t : List UInt8) : Bool := decide ((t.length : Int) ≥ 3) && t.take 3 == [239, 191, 189]

theorem isBad3_iff {s : List UInt8} {k : Nat} : isBad3 (s.drop k) = true ↔ (rune1 s k 0 = 239 ∧ rune1 s k 1 = 191 ∧ rune1 s k 2 = 189 ∧ k + 2 < s.length) := by
  unfold isBad3 rune1
  simp only [Bool.and_eq_true, decide_eq_true_eq, List.length_drop, beq_iff_eq]
  have e : ∀ j, s[k + j]? = (s.drop k)[j]? := fun j => by rw [List.getElem?_drop]
  rw [e 0, e 1, e 2]
  constructor
  · rintro ⟨h1, h2⟩
    have g : ∀ j, j < 3 → (s.drop k)[j]? = ([239, 191, 189] : List UInt8)[j]? := fun j hj => by rw [← h2, List.getElem?_take, if_pos hj]
    rw [g 0 (by omega), g 1 (by omega), g 2 (by omega)]
    exact ⟨rfl, rfl, rfl, by omega⟩
  · rintro ⟨h0, h1, h2, h3⟩
    refine ⟨by omega, ?_⟩
    have hl : 2 < (s.drop k).length := by rw [List.length_drop]; omega
    rw [List.getElem?_eq_getElem (by omega)] at h0 h1 h2
    simp only [Option.getD_some] at h0 h1 h2
    apply List.ext_getElem
    · simp only [List.length_take, List.length_cons, List.length_nil]; omega
    · intro i hi hi'
      rw [List.getElem_take]
      simp only [List.length_cons, List.length_nil] at hi'
      match i, hi' with
      | 0, _ => exact UInt8.toNat_inj.1 h0
      | 1, _ => exact UInt8.toNat_inj.1 h1
      | 2, _ => exact UInt8.toNat_inj.1 h2

theorem decode_bad {s : List UInt8} {k : Nat} (h : (decodeL s k).1 = 65533) : (decodeL s k).2 = if isBad3 (s.drop k) = true then 3 else 1 := by
  rcases decodeL_forms s k with ⟨h1, h2⟩ | ⟨h1, h2, h3⟩ | ⟨h1, h2, h3, h4, h5, h6, h7, h8, h9⟩ | ⟨h1, h2, h3⟩ | ⟨h1, h2, h3⟩
  · omega
  · omega
  · rw [if_pos (isBad3_iff.2 ?_), h4]
    rw [h] at h5
    refine ⟨?_, ?_, ?_, h9⟩ <;> omega
  · omega
  · rw [if_neg (fun h => h3 (isBad3_iff.1 h)), h2]

/-- Where the sign of a number begins. -/
def place (s : List UInt8) : Nat → Nat
  | 0 => 0
  | n + 1 => place s n + (decodeL s (place s n)).2

/-- The text has so many signs. -/
def SignsN (s : List UInt8) (n : Nat) : Prop := place s n = s.length ∧ ∀ j, j < n → place s j < s.length

theorem SignsN.uniq {s : List UInt8} {m n : Nat} (h : SignsN s m) (k : SignsN s n) : m = n := by
  rcases Nat.lt_trichotomy m n with hl | rfl | hl
  · have := k.2 m hl; have := h.1; omega
  · rfl
  · have := h.2 n hl; have := k.1; omega

theorem place_next {s : List UInt8} {n : Nat} (h : place s n < s.length) : place s n < place s (n + 1) ∧ place s (n + 1) ≤ s.length := by
  have := decodeL_size s _ h
  simp only [place]; omega

theorem SignsN.more {s : List UInt8} : ∀ (d m : Nat), d = s.length - place s m → (∀ j, j < m → place s j < s.length) → place s m ≤ s.length → ∃ n, SignsN s n := by
  intro d
  induction d using Nat.strongRecOn with
  | ind d ih =>
    intro m hd h hm
    rcases Nat.lt_or_ge (place s m) s.length with hl | hl
    · obtain ⟨g1, g2⟩ := place_next hl
      refine ih (s.length - place s (m + 1)) (by omega) (m + 1) rfl (fun j hj => ?_) g2
      rcases Nat.lt_or_ge j m with h' | h'
      · exact h j h'
      · obtain rfl : j = m := by omega
        exact hl
    · exact ⟨m, by omega, h⟩
theorem SignsN.ex (s : List UInt8) : ∃ n, SignsN s n := SignsN.more (s.length - place s 0) 0 rfl (fun j h => absurd h (Nat.not_lt_zero j)) (Nat.zero_le _)

theorem place_ge {s : List UInt8} : ∀ {n : Nat}, (∀ j, j < n → place s j < s.length) → n ≤ place s n
  | 0, _ => Nat.zero_le _
  | n + 1, h => by
    have h1 := place_ge (n := n) fun j hj => h j (by omega)
    have h2 := (place_next (h n (by omega))).1
    omega

theorem rune1_drop (s : List UInt8) (i k m : Nat) (h : k < m) : rune1 ((s.drop i).take m) 0 k = rune1 s i k := by
  unfold rune1
  rw [Nat.zero_add, List.getElem?_take, if_pos h, List.getElem?_drop]

theorem decodeL_window (s : List UInt8) (i : Nat) : decodeL ((s.drop i).take 4) 0 = decodeL s i := by
  have h0 := rune1_drop s i 0 4 (by decide)
  have h1 := rune1_drop s i 1 4 (by decide)
  have h2 := rune1_drop s i 2 4 (by decide)
  have h3 := rune1_drop s i 3 4 (by decide)
  have l : ∀ j, j < 4 → decide (0 + j < ((s.drop i).take 4).length) = decide (i + j < s.length) := by
    intro j hj
    rw [decide_eq_decide, List.length_take, List.length_drop]; omega
  unfold decodeL
  simp only
  simp only [h0, h1, h2, h3, l 1 (by decide), l 2 (by decide), l 3 (by decide)]
end Go.Am

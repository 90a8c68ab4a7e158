/- Rows of spans put in order: the order, rearrangements, what a merge of two ordered halves needs. -/
import Derived.Test.YtlkdhhkncoekgaaDoorUtf
namespace Go.Am
variable {α : Type}

def ltS (x y : Spn) : Bool := decide (x.f < y.f) || (x.f == y.f && (decide (y.t < x.t) || (x.t == y.t && decide (x.k < y.k))))
theorem ltS_iff {x y : Spn} : ltS x y = true ↔ x.f < y.f ∨ (x.f = y.f ∧ (y.t < x.t ∨ (x.t = y.t ∧ x.k < y.k))) := by
  unfold ltS; simp only [Bool.or_eq_true, Bool.and_eq_true, decide_eq_true_eq, beq_iff_eq]
theorem ltS_no {x y : Spn} : ltS x y = false ↔ ¬ (x.f < y.f ∨ (x.f = y.f ∧ (y.t < x.t ∨ (x.t = y.t ∧ x.k < y.k)))) := by
  rw [← ltS_iff, Bool.not_eq_true]
theorem ltS_irr (x : Spn) : ltS x x = false := by rw [ltS_no]; omega
theorem ltS_le {x y : Spn} (h : ltS x y = true) : ltS y x = false := by rw [ltS_iff] at h; rw [ltS_no]; omega
theorem ltS_trans {x y z : Spn} (h1 : ltS x y = false) (h2 : ltS y z = false) : ltS x z = false := by rw [ltS_no] at *; omega

def Srt (f : Nat → Spn) (a b : Nat) : Prop := ∀ i j, a ≤ i → i < j → j < b → ltS (f j) (f i) = false
theorem Srt.le {f : Nat → Spn} {a b : Nat} (h : Srt f a b) {i j : Nat} (h1 : a ≤ i) (h2 : i ≤ j) (h3 : j < b) : ltS (f j) (f i) = false := by
  rcases Nat.lt_or_ge i j with g | g
  · exact h i j h1 g h3
  · obtain rfl : i = j := by omega
    exact ltS_irr _
theorem Srt.sub {f : Nat → Spn} {a b c d : Nat} (h : Srt f a b) (h1 : a ≤ c) (h2 : d ≤ b) : Srt f c d := fun i j g1 g2 g3 => h i j (by omega) g2 (by omega)
theorem Srt.congr {f g : Nat → Spn} {a b : Nat} (h : Srt f a b) (e : ∀ i, a ≤ i → i < b → g i = f i) : Srt g a b := fun i j g1 g2 g3 => by rw [e i g1 (by omega), e j (by omega) g3]; exact h i j g1 g2 g3

def PermN (N : Nat) (f g : Nat → α) : Prop := ∃ σ τ : Nat → Nat, (∀ i, i < N → σ i < N ∧ τ (σ i) = i) ∧ (∀ i, i < N → τ i < N ∧ σ (τ i) = i) ∧ ∀ i, i < N → f i = g (σ i)
theorem PermN.refl (N : Nat) (f : Nat → α) : PermN N f f := ⟨id, id, fun _ h => ⟨h, rfl⟩, fun _ h => ⟨h, rfl⟩, fun _ _ => rfl⟩
theorem PermN.trans {N : Nat} {f g h : Nat → α} (h1 : PermN N f g) (h2 : PermN N g h) : PermN N f h := by
  obtain ⟨s, t, a1, a2, a3⟩ := h1
  obtain ⟨s', t', b1, b2, b3⟩ := h2
  refine ⟨fun i => s' (s i), fun i => t (t' i), fun i hi => ⟨(b1 _ (a1 i hi).1).1, ?_⟩, fun i hi => ⟨(a2 _ (b2 i hi).1).1, ?_⟩, fun i hi => ?_⟩
  · simp only [(b1 _ (a1 i hi).1).2, (a1 i hi).2]
  · simp only [(a2 _ (b2 i hi).1).2, (b2 i hi).2]
  · rw [a3 i hi, b3 _ (a1 i hi).1]
def swp (f : Nat → α) (i j x : Nat) : α := if x = i then f j else if x = j then f i else f x
def sw (i j x : Nat) : Nat := if x = i then j else if x = j then i else x
theorem sw_lt {N i j x : Nat} (hi : i < N) (hj : j < N) (hx : x < N) : sw i j x < N := by
  unfold sw; split
  · exact hj
  · split <;> assumption
theorem sw_sw (i j x : Nat) : sw i j (sw i j x) = x := by
  by_cases h1 : x = i
  · subst h1
    have e : sw x j x = j := by unfold sw; rw [if_pos rfl]
    rw [e]; unfold sw
    by_cases h : j = x
    · rw [if_pos h]; exact h
    · rw [if_neg h, if_pos rfl]
  · by_cases h2 : x = j
    · subst h2
      have e : sw i x x = i := by unfold sw; rw [if_neg h1, if_pos rfl]
      rw [e]; unfold sw; rw [if_pos rfl]
    · have e : sw i j x = x := by unfold sw; rw [if_neg h1, if_neg h2]
      rw [e, e]
theorem PermN.swp {N : Nat} {f : Nat → α} {i j : Nat} (hi : i < N) (hj : j < N) : PermN N (Go.Am.swp f i j) f := by
  refine ⟨sw i j, sw i j, fun x hx => ⟨sw_lt hi hj hx, sw_sw i j x⟩, fun x hx => ⟨sw_lt hi hj hx, sw_sw i j x⟩, fun x _ => ?_⟩
  unfold Go.Am.swp sw
  split
  · rfl
  · split <;> rfl
theorem PermN.congr {N : Nat} {f g h : Nat → α} (h1 : PermN N f g) (e : ∀ i, i < N → h i = f i) : PermN N h g := by
  obtain ⟨s, t, a1, a2, a3⟩ := h1
  exact ⟨s, t, a1, a2, fun i hi => by rw [e i hi]; exact a3 i hi⟩

def swapF (f : Nat → α) (a b m x : Nat) : α := if a ≤ x ∧ x < a + m then f (x - a + b) else if b ≤ x ∧ x < b + m then f (x - b + a) else f x
theorem swapF_zero (f : Nat → α) (a b : Nat) : swapF f a b 0 = f := by
  funext x; unfold swapF; rw [if_neg (by omega), if_neg (by omega)]
theorem swapF_succ {f : Nat → α} {a b m : Nat} (h : a + m < b) : swp (swapF f a b m) (a + m) (b + m) = swapF f a b (m + 1) := by
  funext x
  unfold swp swapF
  by_cases h1 : x = a + m
  · subst h1
    rw [if_pos rfl, if_neg (by omega), if_neg (by omega), if_pos (by omega)]
    congr 1; omega
  · rw [if_neg h1]
    by_cases h2 : x = b + m
    · subst h2
      rw [if_pos rfl, if_neg (by omega), if_neg (by omega), if_neg (by omega), if_pos (by omega)]
      congr 1; omega
    · rw [if_neg h2]
      by_cases h3 : a ≤ x ∧ x < a + m
      · rw [if_pos h3, if_pos (by omega)]
      · rw [if_neg h3, if_neg (c := a ≤ x ∧ x < a + (m + 1)) (by omega)]
        by_cases h4 : b ≤ x ∧ x < b + m
        · rw [if_pos h4, if_pos (by omega)]
        · rw [if_neg h4, if_neg (by omega)]

def rotF (f : Nat → α) (a m b x : Nat) : α := if a ≤ x ∧ x < a + (b - m) then f (x + (m - a)) else if a + (b - m) ≤ x ∧ x < b then f (x - (b - m)) else f x
theorem rot_eq {f : Nat → α} {m i : Nat} (h : i ≤ m) : swapF f (m - i) m i = rotF f (m - i) m (m + i) := by
  funext x
  unfold swapF rotF
  by_cases h1 : m - i ≤ x ∧ x < m - i + i
  · rw [if_pos h1, if_pos (by omega)]; congr 1; omega
  · rw [if_neg h1, if_neg (c := m - i ≤ x ∧ x < m - i + (m + i - m)) (by omega)]
    by_cases h2 : m ≤ x ∧ x < m + i
    · rw [if_pos h2, if_pos (by omega)]; congr 1; omega
    · rw [if_neg h2, if_neg (by omega)]
theorem rot_left {f : Nat → α} {m i j : Nat} (h : i ≤ m) (hj : j < i) : rotF (swapF f (m - i) m j) (m - (i - j)) m (m + j) = rotF f (m - i) m (m + j) := by
  funext x
  unfold rotF swapF
  by_cases h0 : x < m - i ∨ m + j ≤ x
  · rw [if_neg (by omega), if_neg (by omega), if_neg (by omega), if_neg (by omega), if_neg (by omega), if_neg (by omega)]
  · by_cases h1 : x < m - i + j
    · -- the part behind comes here
      rw [if_neg (c := m - (i - j) ≤ x ∧ _) (by omega), if_neg (by omega), if_pos (by omega), if_pos (by omega)]
      congr 1; omega
    · by_cases h2 : x < m - i + j + j
      · rw [if_pos (c := m - (i - j) ≤ x ∧ _) (by omega)]
        rw [if_neg (c := m - i ≤ x ∧ x < m - i + (m + j - m)) (by omega), if_pos (c := m - i + (m + j - m) ≤ x ∧ x < m + j) (by omega)]
        rw [if_neg (by omega), if_pos (by omega)]
        congr 1; omega
      · rw [if_neg (c := m - (i - j) ≤ x ∧ _) (by omega), if_pos (c := m - (i - j) + (m + j - m) ≤ x ∧ _) (by omega)]
        rw [if_neg (c := m - i ≤ x ∧ x < m - i + (m + j - m)) (by omega), if_pos (c := m - i + (m + j - m) ≤ x ∧ x < m + j) (by omega)]
        rw [if_neg (by omega), if_neg (by omega)]
theorem rot_right {f : Nat → α} {m i j : Nat} (h : i ≤ m) (hj : i < j) : rotF (swapF f (m - i) (m + j - i) i) (m - i) m (m + (j - i)) = rotF f (m - i) m (m + j) := by
  funext x
  unfold rotF swapF
  by_cases h0 : x < m - i ∨ m + j ≤ x
  · rw [if_neg (by omega), if_neg (by omega), if_neg (by omega), if_neg (by omega), if_neg (by omega), if_neg (by omega)]
  · by_cases h1 : x < m - i + (j - i)
    · rw [if_pos (c := m - i ≤ x ∧ x < m - i + (m + (j - i) - m)) (by omega), if_neg (by omega), if_neg (by omega), if_pos (by omega)]
    · by_cases h2 : x < m + (j - i)
      · rw [if_neg (c := m - i ≤ x ∧ x < m - i + (m + (j - i) - m)) (by omega), if_pos (c := m - i + (m + (j - i) - m) ≤ x ∧ x < m + (j - i)) (by omega)]
        rw [if_pos (by omega), if_pos (c := m - i ≤ x ∧ x < m - i + (m + j - m)) (by omega)]
        congr 1; omega
      · rw [if_neg (c := m - i ≤ x ∧ x < m - i + (m + (j - i) - m)) (by omega), if_neg (c := m - i + (m + (j - i) - m) ≤ x ∧ x < m + (j - i)) (by omega)]
        rw [if_neg (by omega), if_pos (by omega), if_neg (c := m - i ≤ x ∧ x < m - i + (m + j - m)) (by omega), if_pos (by omega)]
        congr 1; omega

theorem PermN.swapF {N : Nat} {f : Nat → α} {a b : Nat} : ∀ {m : Nat}, a + m ≤ b → b + m ≤ N → PermN N (Go.Am.swapF f a b m) f
  | 0, _, _ => by rw [swapF_zero]; exact PermN.refl N f
  | m + 1, h1, h2 => by
    rw [← swapF_succ (by omega)]
    exact (PermN.swp (by omega) (by omega)).trans (PermN.swapF (by omega) (by omega))

end Go.Am

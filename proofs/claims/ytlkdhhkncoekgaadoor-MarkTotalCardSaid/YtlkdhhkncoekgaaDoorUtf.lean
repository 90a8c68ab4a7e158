/- Signs of any bytes; what append does; rows of records that lie flat; when texts melt; the spans of a normal form. -/
import Derived.Test.YtlkdhhkncoekgaaDoorAmTri

/- The signs of a text: where each begins, how long it is. -/
section
namespace Go.Am

def runeLen (c : Int) : Int := if c < 0 then -1 else if c ≤ 127 then 1 else if c ≤ 2047 then 2 else if 55296 ≤ c ∧ c ≤ 57343 then -1 else if c ≤ 65535 then 3 else if c ≤ 1114111 then 4 else -1

theorem valid_spec {r : Nat} (h : Utf8.valid r = true) : (r < 55296 ∨ 57344 ≤ r) ∧ r ≤ 1114111 := by
  unfold Utf8.valid at h
  simp only [Bool.or_eq_true, Bool.and_eq_true, decide_eq_true_eq] at h
  omega

theorem decodeL_forms (s : List UInt8) (k : Nat) :
    ((decodeL s k).1 < 128 ∧ (decodeL s k).2 = 1) ∨ (128 ≤ (decodeL s k).1 ∧ (decodeL s k).1 < 2048 ∧ (decodeL s k).2 = 2) ∨
    (2048 ≤ (decodeL s k).1 ∧ (decodeL s k).1 < 65536 ∧ ((decodeL s k).1 < 55296 ∨ 57344 ≤ (decodeL s k).1) ∧ (decodeL s k).2 = 3 ∧
      (decodeL s k).1 = (rune1 s k 0 % 16) * 4096 + (rune1 s k 1 % 64) * 64 + rune1 s k 2 % 64 ∧ rune1 s k 0 / 16 = 14 ∧ rune1 s k 1 / 64 = 2 ∧ rune1 s k 2 / 64 = 2 ∧ k + 2 < s.length) ∨
    (65536 ≤ (decodeL s k).1 ∧ (decodeL s k).1 ≤ 1114111 ∧ (decodeL s k).2 = 4) ∨ ((decodeL s k).1 = 65533 ∧ (decodeL s k).2 = 1 ∧
      ¬ (rune1 s k 0 = 239 ∧ rune1 s k 1 = 191 ∧ rune1 s k 2 = 189 ∧ k + 2 < s.length)) := by
  unfold decodeL
  simp only
  have he : Utf8.runeError = 65533 := rfl
  split
  · exact .inl ⟨by assumption, rfl⟩
  · rename_i h0
    split
    · rename_i h1
      simp only [Bool.and_eq_true, beq_iff_eq, decide_eq_true_eq] at h1
      split
      · rename_i h2
        exact .inr (.inl ⟨h2, by simp only; omega, rfl⟩)
      · exact .inr (.inr (.inr (.inr ⟨he, rfl, fun h => by omega⟩)))
    · split
      · rename_i h1
        simp only [Bool.and_eq_true, beq_iff_eq, decide_eq_true_eq] at h1
        split
        · rename_i h2
          simp only [Bool.and_eq_true, decide_eq_true_eq] at h2
          have hv := valid_spec h2.2
          exact .inr (.inr (.inl ⟨h2.1, by simp only; omega, hv.1, rfl, rfl, h1.1.1, h1.1.2.2, h1.2.2, h1.2.1⟩))
        · rename_i h2
          refine .inr (.inr (.inr (.inr ⟨he, rfl, fun h => h2 ?_⟩)))
          have hx : (rune1 s k 0 % 16) * 4096 + (rune1 s k 1 % 64) * 64 + rune1 s k 2 % 64 = 65533 := by omega
          simp [hx, Utf8.valid]
      · rename_i hn
        have no : ¬ (rune1 s k 0 = 239 ∧ rune1 s k 1 = 191 ∧ rune1 s k 2 = 189 ∧ k + 2 < s.length) := by
          rintro ⟨h1, h2, h3, h4⟩
          apply hn
          rw [h1, h2, h3]
          simp only [Bool.and_eq_true, decide_eq_true_eq]
          exact ⟨⟨by decide, by omega, by decide⟩, by omega, by decide⟩
        split
        · rename_i h1
          simp only [Bool.and_eq_true, beq_iff_eq, decide_eq_true_eq] at h1
          split
          · rename_i h2
            simp only [Bool.and_eq_true, decide_eq_true_eq] at h2
            have hv := valid_spec h2.2
            exact .inr (.inr (.inr (.inl ⟨h2.1, hv.2, rfl⟩)))
          · exact .inr (.inr (.inr (.inr ⟨he, rfl, no⟩)))
        · exact .inr (.inr (.inr (.inr ⟨he, rfl, no⟩)))

theorem decode_len {s : List UInt8} {k : Nat} (h : (decodeL s k).1 ≠ 65533) : runeLen (decodeL s k).1 = ((decodeL s k).2 : Int) := by
  unfold runeLen
  rcases decodeL_forms s k with ⟨h1, h2⟩ | ⟨h1, h2, h3⟩ | ⟨h1, h2, h3, h4, _⟩ | ⟨h1, h2, h3⟩ | ⟨h1, _⟩
  · rw [h2, if_neg (by omega), if_pos (by omega)]; rfl
  · rw [h3, if_neg (by omega), if_neg (by omega), if_pos (by omega)]; rfl
  · rw [h4, if_neg (by omega), if_neg (by omega), if_neg (by omega), if_neg (by omega), if_pos (by omega)]; rfl
  · rw [h3, if_neg (by omega), if_neg (by omega), if_neg (by omega), if_neg (by omega), if_neg (by omega), if_pos (by omega)]; rfl
  · exact absurd h1 h

def isBad3 (t : List UInt8) : Bool := decide ((t.length : Int) ≥ 3) && t.take 3 == [239, 191, 189]

theorem isBad3_iff {s : List UInt8} {k : Nat} : isBad3 (s.drop k) = true ↔ (rune1 s k 0 = 239 ∧ rune1 s k 1 = 191 ∧ rune1 s k 2 = 189 ∧ k + 2 < s.length) := by
  unfold isBad3 rune1
  simp only [Bool.and_eq_true, decide_eq_true_eq, List.length_drop, beq_iff_eq]
  have e : ∀ j, s[k + j]? = (s.drop k)[j]? := fun j => by rw [List.getElem?_drop]
  rw [e 0, e 1, e 2]
  constructor
  · rintro ⟨h1, h2⟩
    have g : ∀ j, j < 3 → (s.drop k)[j]? = ([239, 191, 189] : List UInt8)[j]? := fun j hj => by rw [← h2, List.getElem?_take, if_pos hj]
    rw [g 0 (by omega), g 1 (by omega), g 2 (by omega)]
    exact ⟨rfl, rfl, rfl, by omega⟩
  · rintro ⟨h0, h1, h2, h3⟩
    refine ⟨by omega, ?_⟩
    have hl : 2 < (s.drop k).length := by rw [List.length_drop]; omega
    rw [List.getElem?_eq_getElem (by omega)] at h0 h1 h2
    simp only [Option.getD_some] at h0 h1 h2
    apply List.ext_getElem
    · simp only [List.length_take, List.length_cons, List.length_nil]; omega
    · intro i hi hi'
      rw [List.getElem_take]
      simp only [List.length_cons, List.length_nil] at hi'
      match i, hi' with
      | 0, _ => exact UInt8.toNat_inj.1 h0
      | 1, _ => exact UInt8.toNat_inj.1 h1
      | 2, _ => exact UInt8.toNat_inj.1 h2

theorem decode_bad {s : List UInt8} {k : Nat} (h : (decodeL s k).1 = 65533) : (decodeL s k).2 = if isBad3 (s.drop k) = true then 3 else 1 := by
  rcases decodeL_forms s k with ⟨h1, h2⟩ | ⟨h1, h2, h3⟩ | ⟨h1, h2, h3, h4, h5, h6, h7, h8, h9⟩ | ⟨h1, h2, h3⟩ | ⟨h1, h2, h3⟩
  · omega
  · omega
  · rw [if_pos (isBad3_iff.2 ?_), h4]
    rw [h] at h5
    refine ⟨?_, ?_, ?_, h9⟩ <;> omega
  · omega
  · rw [if_neg (fun h => h3 (isBad3_iff.1 h)), h2]

def place (s : List UInt8) : Nat → Nat
  | 0 => 0
  | n + 1 => place s n + (decodeL s (place s n)).2

def SignsN (s : List UInt8) (n : Nat) : Prop := place s n = s.length ∧ ∀ j, j < n → place s j < s.length

theorem SignsN.uniq {s : List UInt8} {m n : Nat} (h : SignsN s m) (k : SignsN s n) : m = n := by
  rcases Nat.lt_trichotomy m n with hl | rfl | hl
  · have := k.2 m hl; have := h.1; omega
  · rfl
  · have := h.2 n hl; have := k.1; omega

theorem place_next {s : List UInt8} {n : Nat} (h : place s n < s.length) : place s n < place s (n + 1) ∧ place s (n + 1) ≤ s.length := by
  have := decodeL_size s _ h
  simp only [place]; omega

theorem SignsN.more {s : List UInt8} : ∀ (d m : Nat), d = s.length - place s m → (∀ j, j < m → place s j < s.length) → place s m ≤ s.length → ∃ n, SignsN s n := by
  intro d
  induction d using Nat.strongRecOn with
  | ind d ih =>
    intro m hd h hm
    rcases Nat.lt_or_ge (place s m) s.length with hl | hl
    · obtain ⟨g1, g2⟩ := place_next hl
      refine ih (s.length - place s (m + 1)) (by omega) (m + 1) rfl (fun j hj => ?_) g2
      rcases Nat.lt_or_ge j m with h' | h'
      · exact h j h'
      · obtain rfl : j = m := by omega
        exact hl
    · exact ⟨m, by omega, h⟩
theorem SignsN.ex (s : List UInt8) : ∃ n, SignsN s n := SignsN.more (s.length - place s 0) 0 rfl (fun j h => absurd h (Nat.not_lt_zero j)) (Nat.zero_le _)

theorem place_ge {s : List UInt8} : ∀ {n : Nat}, (∀ j, j < n → place s j < s.length) → n ≤ place s n
  | 0, _ => Nat.zero_le _
  | n + 1, h => by
    have h1 := place_ge (n := n) fun j hj => h j (by omega)
    have h2 := (place_next (h n (by omega))).1
    omega

theorem rune1_drop (s : List UInt8) (i k m : Nat) (h : k < m) : rune1 ((s.drop i).take m) 0 k = rune1 s i k := by
  unfold rune1
  rw [Nat.zero_add, List.getElem?_take, if_pos h, List.getElem?_drop]

theorem decodeL_window (s : List UInt8) (i : Nat) : decodeL ((s.drop i).take 4) 0 = decodeL s i := by
  have h0 := rune1_drop s i 0 4 (by decide)
  have h1 := rune1_drop s i 1 4 (by decide)
  have h2 := rune1_drop s i 2 4 (by decide)
  have h3 := rune1_drop s i 3 4 (by decide)
  have l : ∀ j, j < 4 → decide (0 + j < ((s.drop i).take 4).length) = decide (i + j < s.length) := by
    intro j hj
    rw [decide_eq_decide, List.length_take, List.length_drop]; omega
  unfold decodeL
  simp only
  simp only [h0, h1, h2, h3, l 1 (by decide), l 2 (by decide), l 3 (by decide)]
end Go.Am
end

/- What append does to a slice that lies in a block of its own. -/
section
namespace Go.Am
open Go.RowKit
variable {P : Program}

def Lies (H : AH) (q : Option Nat) (m : Nat) (cs : List AV) (e : TypeId) : Prop :=
  match q with
  | none => m = 0 ∧ cs = []
  | some b => H.get b = some (.cells cs e { opn := true })

def sl (q : Option Nat) (m : Nat) : AV := .slice (q.map fun b => (b, 0)) m m

theorem Lies.same {H H' : AH} {q : Option Nat} {m : Nat} {cs : List AV} {e : TypeId} (h : Lies H q m cs e) (k : ∀ b, q = some b → H'.get b = H.get b) : Lies H' q m cs e := by
  cases q with
  | none => exact h
  | some b => exact (k b rfl).trans h

theorem append_lies {H : AH} {st xt e : TypeId} {xd : TypeDesc} {s by_ m n : Nat} {q : Option Nat} {old new : List AV} {y z : AV} (t1 : P.underlying st = some (.slice e)) (t2 : P.underlying xt = some xd) (t3 : ∀ k, xd ≠ .int k)
    (t4 : szOf P e = some s) (t5 : byOf P e = some by_) (t6 : zeroOf P e = some z) (t7 : z.cells.length = s) (hb : 0 < by_) (hs : srcV H s y = some (n, new)) (h1 : new.all AV.one = true) (hn : 0 < n)
    (hl : Lies H q m old e) (hm : old.length = m * s) (hsz : (2 * (m + n) + 1000) * by_ ≤ 2 ^ 48) :
    ∃ H', appendV P H st xt (sl q m) y = some (sl (some H.n) (m + n), H') ∧ H'.n = H.n + 1 ∧ Lies H' (some H.n) (m + n) (old ++ new) e ∧ ∀ c, c < H.n → q ≠ some c → H'.get c = H.get c := by
  have hx : (xd matches .int _) = false := by
    cases xd <;> first | rfl | exact absurd rfl (t3 _)
  unfold appendV sl
  simp only [t1, t2, t4, t5, t6, hs, Option.bind_some, Bool.false_eq_true, if_false, Option.map_some, t7]
  rw [if_neg (by omega), if_neg (by
    rintro (h | h | h | h)
    · omega
    · omega
    · rw [h1] at h; cases h
    · exact h rfl)]
  cases q with
  | none =>
    obtain ⟨rfl, rfl⟩ := hl
    refine ⟨_, by simp; rfl, rfl, ?_, fun c hc _ => ?_⟩
    · simp [Lies, AH.get_alloc]
    · rw [AH.get_alloc, if_neg (by omega)]
  | some b =>
    have hl' : H.get b = some (.cells old e { opn := true }) := hl
    simp only [Option.map_some, hl']
    refine ⟨(H.set b .dead).alloc (.cells (old ++ new) e { opn := true }), ?_, rfl, ?_, fun c hc hq => ?_⟩
    · have e1 : List.take (m * s) old = old := List.take_of_length_le (by omega)
      simp [hm, e1]
    · simp [Lies, AH.get_alloc]
    · rw [AH.get_alloc, if_neg (by simp only [AH.n_set]; omega), AH.get_set, if_neg (fun e => hq (by rw [e]))]

end Go.Am
end

/- Two texts melt where a sign of both behind one another lies over their seam; where they do not, their signs stand behind one another. -/
section
namespace Go.Am

theorem getElem?_short {s t : List UInt8} {i k : Nat} (h : s[i]? = t[k]?) : i < s.length ↔ k < t.length := by
  have a : s.length ≤ i ↔ t.length ≤ k := by rw [← List.getElem?_eq_none_iff, ← List.getElem?_eq_none_iff, h]
  omega

theorem decodeL_congr {s t : List UInt8} {i k : Nat} (h : ∀ j, j < 4 → s[i + j]? = t[k + j]?) : decodeL s i = decodeL t k := by
  have r : ∀ j, j < 4 → rune1 s i j = rune1 t k j := fun j hj => by unfold rune1; rw [h j hj]
  have l : ∀ j, j < 4 → decide (i + j < s.length) = decide (k + j < t.length) := fun j hj => by
    rw [decide_eq_decide]; exact getElem?_short (h j hj)
  unfold decodeL
  simp only [r 0 (by decide), r 1 (by decide), r 2 (by decide), r 3 (by decide), l 1 (by decide), l 2 (by decide), l 3 (by decide)]

theorem decodeL_lead {s : List UInt8} {i : Nat} (h : 1 < (decodeL s i).2) : 192 ≤ rune1 s i 0 := by
  revert h
  unfold decodeL
  simp only
  split
  · intro h; simp at h
  · split
    · rename_i h1
      simp only [Bool.and_eq_true, beq_iff_eq] at h1
      intro _; omega
    · split
      · rename_i h1
        simp only [Bool.and_eq_true, beq_iff_eq] at h1
        intro _; omega
      · split
        · rename_i h1
          simp only [Bool.and_eq_true, beq_iff_eq] at h1
          intro _; omega
        · intro h; simp at h

theorem decodeL_part {s t : List UInt8} {i k : Nat} (h1 : 1 < (decodeL s i).2) (h : ∀ j, j < (decodeL s i).2 → s[i + j]? = t[k + j]?) : decodeL t k = decodeL s i := by
  have key : ∀ n, (decodeL s i).2 = n → 1 < n → (∀ j, j < n → rune1 t k j = rune1 s i j) → (∀ j, j < n → i + j < s.length → k + j < t.length) → decodeL t k = decodeL s i := by
    intro n hn h1 r l
    have r0 := r 0 (by omega)
    have r1 := r 1 (by omega)
    have l1 := l 1 (by omega)
    revert hn
    rw [show decodeL t k = decodeL t k from rfl]
    unfold decodeL
    simp only [r0, r1]
    split
    · intro h; simp at h; omega
    · split
      · rename_i g1
        simp only [Bool.and_eq_true, beq_iff_eq, decide_eq_true_eq] at g1
        have c1 : (decide (k + 1 < t.length) && rune1 s i 1 / 64 == 2) = true := by simp [l1 g1.2.1, g1.2.2]
        have c0 : (rune1 s i 0 / 32 == 6) = true := by simp [g1.1]
        rw [c0, c1]
        intro _; rfl
      · rename_i g1
        split
        · rename_i g2
          split
          · intro hn
            simp only at hn
            subst hn
            simp only [Bool.and_eq_true, beq_iff_eq, decide_eq_true_eq] at g2
            have r2 := r 2 (by omega)
            have l2 := l 2 (by omega)
            have e0 : (rune1 s i 0 / 32 == 6) = false := by rw [beq_eq_false_iff_ne]; omega
            have c0 : (rune1 s i 0 / 16 == 14) = true := by simp [g2.1.1]
            have c1 : (decide (k + 1 < t.length) && rune1 s i 1 / 64 == 2) = true := by simp [l1 g2.1.2.1, g2.1.2.2]
            have c2 : (decide (k + 2 < t.length) && rune1 s i 2 / 64 == 2) = true := by simp [l2 g2.2.1, g2.2.2]
            rename_i g3
            rw [r2, e0, c0, c1, c2]
            simp only [Bool.false_and, Bool.and_self, Bool.false_eq_true, if_false, if_true, g3]
          · intro hn; simp only at hn; omega
        · split
          · rename_i g2 g4
            split
            · rename_i g3
              intro hn
              simp only at hn
              subst hn
              simp only [Bool.and_eq_true, beq_iff_eq, decide_eq_true_eq] at g4
              have r2 := r 2 (by omega)
              have l2 := l 2 (by omega)
              have r3 := r 3 (by omega)
              have l3 := l 3 (by omega)
              have e0 : (rune1 s i 0 / 32 == 6) = false := by rw [beq_eq_false_iff_ne]; omega
              have e1 : (rune1 s i 0 / 16 == 14) = false := by rw [beq_eq_false_iff_ne]; omega
              have c0 : (rune1 s i 0 / 8 == 30) = true := by simp [g4.1.1.1]
              have c1 : (decide (k + 1 < t.length) && rune1 s i 1 / 64 == 2) = true := by simp [l1 g4.1.1.2.1, g4.1.1.2.2]
              have c2 : (decide (k + 2 < t.length) && rune1 s i 2 / 64 == 2) = true := by simp [l2 g4.1.2.1, g4.1.2.2]
              have c3 : (decide (k + 3 < t.length) && rune1 s i 3 / 64 == 2) = true := by simp [l3 g4.2.1, g4.2.2]
              rw [r2, r3, e0, e1, c0, c1, c2, c3]
              simp only [Bool.false_and, Bool.and_self, Bool.false_eq_true, if_false, if_true, g3]
            · intro hn; simp only at hn; omega
          · intro hn; simp only at hn; omega
  refine key _ rfl h1 (fun j hj => ?_) (fun j hj hl => ?_)
  · unfold rune1; rw [h j hj]
  · exact (getElem?_short (h j hj)).1 hl

theorem decodeL_one {s : List UInt8} {i : Nat} (h : (decodeL s i).2 = 1) : (decodeL s i).1 = if rune1 s i 0 < 128 then rune1 s i 0 else 65533 := by
  rcases decodeL_cases s i with ⟨h1, h2⟩ | ⟨h1, h2, _⟩
  · rw [h2, if_pos h1]
  · rw [if_neg (by omega)]
    rcases decodeL_forms s i with ⟨g1, _⟩ | ⟨_, _, g⟩ | ⟨_, _, _, g, _⟩ | ⟨_, _, g⟩ | ⟨g, _⟩
    · omega
    · omega
    · omega
    · omega
    · exact g

theorem decodeL_le4 (s : List UInt8) (i : Nat) : 1 ≤ (decodeL s i).2 ∧ (decodeL s i).2 ≤ 4 := by
  rcases decodeL_cases s i with ⟨_, h⟩ | ⟨_, _, h1, h2, _⟩
  · rw [h]; exact ⟨Nat.le_refl 1, (by decide : 1 ≤ 4)⟩
  · exact ⟨h1, h2⟩

def melts (a b : List UInt8) : Bool := (List.range a.length).any fun p => decide (a.length < p + (decodeL (a ++ b) p).2)
theorem melts_iff {a b : List UInt8} : melts a b = true ↔ ∃ p, p < a.length ∧ a.length < p + (decodeL (a ++ b) p).2 := by
  unfold melts
  simp only [List.any_eq_true, List.mem_range, decide_eq_true_eq]

theorem get_left {a b : List UInt8} {j : Nat} (h : j < a.length) : (a ++ b)[j]? = a[j]? := by rw [List.getElem?_append_left h]
theorem get_right {a b : List UInt8} {j : Nat} : (a ++ b)[a.length + j]? = b[j]? := by rw [List.getElem?_append_right (by omega)]; congr 1; omega

theorem decodeL_front {a b : List UInt8} {p : Nat} (hp : p < a.length) (h : p + (decodeL (a ++ b) p).2 ≤ a.length) : decodeL a p = decodeL (a ++ b) p := by
  rcases Nat.lt_or_ge 1 (decodeL (a ++ b) p).2 with h1 | h1
  · exact decodeL_part h1 fun j hj => get_left (by omega)
  · have e1 : (decodeL (a ++ b) p).2 = 1 := by have := decodeL_le4 (a ++ b) p; omega
    have e2 : (decodeL a p).2 = 1 := by
      rcases Nat.lt_or_ge 1 (decodeL a p).2 with h2 | h2
      · have hs := decodeL_size a p hp
        have : decodeL (a ++ b) p = decodeL a p := decodeL_part h2 fun j hj => (get_left (by omega)).symm
        rw [this] at e1; exact e1
      · have := decodeL_le4 a p; omega
    have r : rune1 (a ++ b) p 0 = rune1 a p 0 := by unfold rune1; rw [get_left (by omega)]
    refine Prod.ext ?_ (by rw [e1, e2])
    rw [decodeL_one e1, decodeL_one e2, r]

theorem decodeL_back {a b : List UInt8} {p : Nat} : decodeL (a ++ b) (a.length + p) = decodeL b p :=
  decodeL_congr fun j _ => by rw [Nat.add_assoc, get_right]

theorem melts_no {a b : List UInt8} (h : melts a b = false) {p : Nat} (hp : p < a.length) : p + (decodeL (a ++ b) p).2 ≤ a.length := by
  rcases Nat.lt_or_ge a.length (p + (decodeL (a ++ b) p).2) with g | g
  · rw [melts_iff.2 ⟨p, hp, g⟩] at h; cases h
  · exact g

theorem melts_nil_left (b : List UInt8) : melts [] b = false := rfl

theorem melts_window (a b : List UInt8) : melts (a.drop (a.length - 4)) (b.take 4) = melts a b := by
  have hl : (a.drop (a.length - 4)).length = a.length - (a.length - 4) := List.length_drop
  have hd : ∀ q j, j < 4 → q < (a.drop (a.length - 4)).length → (a.drop (a.length - 4) ++ b.take 4)[q + j]? = (a ++ b)[a.length - 4 + q + j]? := by
    intro q j hj hq
    rcases Nat.lt_or_ge (q + j) (a.drop (a.length - 4)).length with h | h
    · rw [get_left h, List.getElem?_drop, get_left (by omega)]; congr 1; omega
    · rw [List.getElem?_append_right h, List.getElem?_append_right (by omega), List.getElem?_take, if_pos (by omega)]; congr 1; omega
  rw [Bool.eq_iff_iff, melts_iff, melts_iff]
  constructor
  · rintro ⟨p, h1, h2⟩
    refine ⟨a.length - 4 + p, by omega, ?_⟩
    rw [← decodeL_congr (s := a.drop (a.length - 4) ++ b.take 4) (i := p) (fun j hj => hd p j hj h1)]
    omega
  · rintro ⟨p, h1, h2⟩
    have := decodeL_le4 (a ++ b) p
    have hp : a.length - 4 ≤ p := by omega
    refine ⟨p - (a.length - 4), by omega, ?_⟩
    rw [decodeL_congr (t := a ++ b) (k := p) (fun j hj => ?_)]
    · omega
    · rw [hd _ j hj (by omega)]; congr 1; omega

theorem place_lead {s : List UInt8} {p : Nat} (hp : p < s.length) (h : 1 < (decodeL s p).2) : ∃ m, place s m = p ∧ ∀ j, j < m → place s j < s.length := by
  have key : ∀ n, (∃ m, m ≤ n ∧ place s m = p ∧ ∀ j, j < m → place s j < s.length) ∨ (place s n < p ∧ ∀ j, j ≤ n → place s j < s.length) := by
    intro n
    induction n with
    | zero =>
      rcases Nat.eq_zero_or_pos p with rfl | h0
      · exact .inl ⟨0, Nat.le_refl 0, rfl, fun j h => absurd h (Nat.not_lt_zero j)⟩
      · exact .inr ⟨h0, fun j hj => by obtain rfl : j = 0 := by omega
                                       show 0 < s.length; omega⟩
    | succ n ih =>
      rcases ih with ⟨m, h1, h2⟩ | ⟨h1, h2⟩
      · exact .inl ⟨m, by omega, h2⟩
      · rcases Nat.lt_trichotomy (place s (n + 1)) p with h3 | h3 | h3
        · refine .inr ⟨h3, fun j hj => ?_⟩
          rcases Nat.lt_or_ge j (n + 1) with h4 | h4
          · exact h2 j (by omega)
          · obtain rfl : j = n + 1 := by omega
            omega
        · exact .inl ⟨n + 1, Nat.le_refl _, h3, fun j hj => h2 j (by omega)⟩
        · exfalso
          have h4 : place s (n + 1) = place s n + (decodeL s (place s n)).2 := rfl
          rcases decodeL_cases s (place s n) with ⟨_, g⟩ | ⟨_, _, _, _, g⟩
          · rw [g] at h4; simp only at h4; omega
          · have g1 := (g (p - place s n) (by omega) (by omega)).2
            have g2 := decodeL_lead h
            have e : rune1 s (place s n) (p - place s n) = rune1 s p 0 := by unfold rune1; congr 3; omega
            rw [e] at g1; omega
  rcases key p with ⟨m, _, h1, h2⟩ | ⟨h1, h2⟩
  · exact ⟨m, h1, h2⟩
  · exfalso
    have := place_ge (s := s) (n := p) fun j hj => h2 j (by omega)
    omega

theorem place_step {s : List UInt8} {m : Nat} : place s (m + 1) = place s m + (decodeL s (place s m)).2 := rfl
theorem place_lt {s : List UInt8} {i j : Nat} (h : i < j) : place s i < place s j := by
  induction j with
  | zero => omega
  | succ j ih =>
    have := (decodeL_le4 s (place s j)).1
    have e : place s (j + 1) = _ := place_step
    rcases Nat.lt_or_ge i j with h' | h'
    · have := ih h'; omega
    · obtain rfl : i = j := by omega
      omega

theorem melts_over {a b : List UInt8} (h : melts a b = true) : ∃ m, place (a ++ b) m < a.length ∧ a.length < place (a ++ b) (m + 1) ∧ ∀ j, j < m → place (a ++ b) j < (a ++ b).length := by
  obtain ⟨p, h1, h2⟩ := melts_iff.1 h
  obtain ⟨m, e, h3⟩ := place_lead (s := a ++ b) (p := p) (by rw [List.length_append]; omega) (by omega)
  exact ⟨m, by omega, by rw [place_step, e]; omega, h3⟩
theorem melts_of_over {a b : List UInt8} {m : Nat} (h1 : place (a ++ b) m < a.length) (h2 : a.length < place (a ++ b) (m + 1)) : melts a b = true :=
  melts_iff.2 ⟨place (a ++ b) m, h1, h2⟩

theorem place_front {a b : List UInt8} (h : melts a b = false) : ∀ {j : Nat}, (∀ i, i < j → place a i < a.length) → place (a ++ b) j = place a j
  | 0, _ => rfl
  | j + 1, hj => by
    have ih := place_front h (j := j) fun i hi => hj i (by omega)
    have hlt := hj j (by omega)
    rw [place_step, place_step, ih, decodeL_front hlt (melts_no h hlt)]
theorem place_back {a b : List UInt8} {n : Nat} (hn : place (a ++ b) n = a.length) : ∀ j, place (a ++ b) (n + j) = a.length + place b j
  | 0 => by simp [place, hn]
  | j + 1 => by
    have ih := place_back hn j
    rw [← Nat.add_assoc, place_step, ih, decodeL_back, place_step]; omega
theorem SignsN.append {a b : List UInt8} {n m : Nat} (h : melts a b = false) (ha : SignsN a n) (hb : SignsN b m) : SignsN (a ++ b) (n + m) := by
  have h0 : place (a ++ b) n = a.length := by rw [place_front h ha.2, ha.1]
  refine ⟨by rw [place_back h0, hb.1, List.length_append], fun j hj => ?_⟩
  rw [List.length_append]
  rcases Nat.lt_or_ge j n with g | g
  · rw [place_front h fun i hi => ha.2 i (by omega)]; have := ha.2 j g; omega
  · obtain ⟨k, rfl⟩ : ∃ k, j = n + k := ⟨j - n, by omega⟩
    rw [place_back h0]; have := hb.2 k (by omega); omega

theorem SignsN.one {s : List UInt8} {p : Nat} (hp : p < s.length) : SignsN ((s.drop p).take (decodeL s p).2) 1 := by
  have hs := decodeL_size s p hp
  have hlen : ((s.drop p).take (decodeL s p).2).length = (decodeL s p).2 := by rw [List.length_take, List.length_drop]; omega
  have hb : (s.drop p) = (s.drop p).take (decodeL s p).2 ++ (s.drop p).drop (decodeL s p).2 := (List.take_append_drop _ _).symm
  have e : decodeL (s.drop p) 0 = decodeL s p := decodeL_congr fun j _ => by rw [List.getElem?_drop]; congr 1; omega
  have f : decodeL ((s.drop p).take (decodeL s p).2) 0 = decodeL s p := by
    have := decodeL_front (a := (s.drop p).take (decodeL s p).2) (b := (s.drop p).drop (decodeL s p).2) (p := 0) (by omega) (by rw [← hb, e]; omega)
    rw [this, ← hb, e]
  refine ⟨?_, fun j hj => ?_⟩
  · rw [place_step]; show 0 + (decodeL _ 0).2 = _; rw [f, hlen]; omega
  · obtain rfl : j = 0 := by omega
    show 0 < _; omega

end Go.Am
end

/- Rows of records that lie flat in a block: how they are read, written, lengthened. -/
section
namespace Go.Am
variable {α : Type} {P : Program}

def flat (f : α → List AV) : List α → List AV
  | [] => []
  | x :: l => f x ++ flat f l

theorem flat_append (f : α → List AV) : ∀ l m, flat f (l ++ m) = flat f l ++ flat f m
  | [], m => rfl
  | x :: l, m => by simp only [List.cons_append, flat, flat_append f l m, List.append_assoc]
theorem flat_one (f : α → List AV) (x : α) : flat f [x] = f x := by simp [flat]
theorem flat_length {f : α → List AV} {w : Nat} (hf : ∀ x, (f x).length = w) : ∀ l, (flat f l).length = l.length * w
  | [] => by simp [flat]
  | x :: l => by simp only [flat, List.length_append, hf, flat_length hf l, List.length_cons, Nat.add_mul, Nat.one_mul]; omega
theorem flat_cut {f : α → List AV} {w : Nat} (hf : ∀ x, (f x).length = w) : ∀ {l : List α} {i : Nat}, i ≤ l.length → (flat f l).take (i * w) = flat f (l.take i) ∧ (flat f l).drop (i * w) = flat f (l.drop i)
  | l, 0, _ => by simp [flat]
  | x :: l, i + 1, h => by
    have e : (i + 1) * w = (f x).length + i * w := by rw [hf]; simp only [Nat.add_mul, Nat.one_mul]; omega
    obtain ⟨h1, h2⟩ := flat_cut hf (l := l) (i := i) (by simpa using h)
    constructor
    · rw [e]; simp only [flat, List.take_succ_cons]; rw [List.take_length_add_append, h1]
    · rw [e]; simp only [flat, List.drop_succ_cons]; rw [List.drop_length_add_append, h2]
theorem flat_at {f : α → List AV} {w : Nat} (hf : ∀ x, (f x).length = w) {l : List α} {i : Nat} (h : i < l.length) : ((flat f l).drop (i * w)).take w = f l[i] := by
  rw [(flat_cut hf (Nat.le_of_lt h)).2, List.drop_eq_getElem_cons h]
  simp only [flat]
  rw [← hf l[i], List.take_left]
theorem flat_sub {f : α → List AV} {w : Nat} (hf : ∀ x, (f x).length = w) {l : List α} {i n : Nat} (h : i + n ≤ l.length) : ((flat f l).drop (i * w)).take (n * w) = flat f ((l.drop i).take n) := by
  rw [(flat_cut hf (by omega)).2, (flat_cut hf (by rw [List.length_drop]; omega)).1]

theorem le_mul {i n w : Nat} (h : i < n) : i * w + w ≤ n * w := by
  have : (i + 1) * w ≤ n * w := Nat.mul_le_mul_right w h
  simp only [Nat.add_mul, Nat.one_mul] at this; exact this

theorem read_flat {f : α → List AV} {w : Nat} (hf : ∀ x, (f x).length = w) {H : AH} {b i : Nat} {l : List α} {e : TypeId} {fl : Fl} (h : H.get b = some (.cells (flat f l) e fl)) (hi : i < l.length) : H.read b (0 + i * w) w = some (f l[i]) := by
  unfold AH.read
  rw [h]
  simp only [Nat.zero_add]
  rw [if_pos (by rw [flat_length hf]; exact le_mul hi), flat_at hf hi]
theorem read1_flat {f : α → List AV} {w : Nat} (hf : ∀ x, (f x).length = w) {H : AH} {b i k : Nat} {l : List α} {e : TypeId} {fl : Fl} (h : H.get b = some (.cells (flat f l) e fl)) (hi : i < l.length) (hk : k < w) : H.read1 b (0 + i * w + k) = (f l[i])[k]? := by
  unfold AH.read1
  rw [h]
  simp only [Nat.zero_add]
  rw [← flat_at hf hi, List.getElem?_take, if_pos hk, List.getElem?_drop]
theorem splice_flat {f : α → List AV} {w : Nat} (hf : ∀ x, (f x).length = w) {l : List α} {i k : Nat} {vs : List AV} {y : α} (hi : i < l.length) (hk : k + vs.length ≤ w) (hy : splice (f l[i]) k vs = f y) :
    splice (flat f l) (i * w + k) vs = flat f (l.set i y) := by
  have hl : l = l.take i ++ l[i] :: l.drop (i + 1) := by rw [← List.drop_eq_getElem_cons hi, List.take_append_drop]
  have hs : l.set i y = l.take i ++ y :: l.drop (i + 1) := List.set_eq_take_append_cons_drop ▸ by rw [if_pos hi]
  have h0 : (flat f (l.take i)).length = i * w := by rw [flat_length hf, List.length_take, Nat.min_eq_left (Nat.le_of_lt hi)]
  rw [hs]
  conv => lhs; rw [hl]
  simp only [flat_append, flat]
  rw [← hy]
  unfold splice
  have hx := hf l[i]
  rw [← h0, List.take_length_add_append, show (flat f (List.take i l)).length + k + vs.length = (flat f (List.take i l)).length + (k + vs.length) by omega, List.drop_length_add_append,
    List.take_append_of_le_length (by omega), List.drop_append_of_le_length (by omega)]
  simp only [List.append_assoc]
theorem write_flat {f : α → List AV} {w : Nat} (hf : ∀ x, (f x).length = w) {H : AH} {b i k : Nat} {l : List α} {e : TypeId} {fl : Fl} {vs : List AV} {y : α} (h : H.get b = some (.cells (flat f l) e fl)) (ho : fl.own = true) (hz : fl.fz = 0) (hi : i < l.length) (hk : k + vs.length ≤ w)
    (h1 : vs.all AV.one = true) (hy : splice (f l[i]) k vs = f y) : H.write b (0 + i * w + k) vs = some (H.set b (.cells (flat f (l.set i y)) e fl)) := by
  unfold AH.write
  rw [h]
  simp only [Nat.zero_add]
  have := le_mul (w := w) hi
  rw [if_pos ⟨ho, by omega, by rw [flat_length hf]; omega, h1⟩, splice_flat hf hi hk hy]

theorem flat_ones {f : α → List AV} (hf : ∀ x, (f x).all AV.one = true) : ∀ l, (flat f l).all AV.one = true
  | [] => rfl
  | x :: l => by rw [flat, List.all_append, hf, flat_ones hf l]; rfl

theorem append_rec {H : AH} {st e : TypeId} {s by_ : Nat} {q : Option Nat} {f : α → List AV} {l : List α} {x : α} {c : Nat} {fl : Fl} {z : AV} (t1 : P.underlying st = some (.slice e)) (t4 : szOf P e = some s) (t5 : byOf P e = some by_) (t6 : zeroOf P e = some z) (t7 : z.cells.length = s) (hb : 0 < by_)
    (hf : ∀ x, (f x).length = s) (ho : ∀ x, (f x).all AV.one = true) (hl : Lies H q l.length (flat f l) e) (hc : H.get c = some (.cells (f x) e fl)) (hsz : (2 * (l.length + 1) + 1000) * by_ ≤ 2 ^ 48) :
    ∃ H', appendV P H st st (sl q l.length) (.slice (some (c, 0)) 1 1) = some (sl (some H.n) (l ++ [x]).length, H') ∧ H'.n = H.n + 1 ∧ Lies H' (some H.n) (l ++ [x]).length (flat f (l ++ [x])) e ∧ ∀ c, c < H.n → q ≠ some c → H'.get c = H.get c := by
  have h := append_lies (P := P) (H := H) (st := st) (xt := st) (e := e) (xd := .slice e) (s := s) (by_ := by_) (m := l.length) (n := 1) (q := q) (old := flat f l) (new := f x) (y := .slice (some (c, 0)) 1 1) (z := z)
    t1 t1 (fun k h => by cases h) t4 t5 t6 t7 hb (by simp [srcV, AH.read, hc, hf]; rw [List.take_of_length_le (by rw [hf]; exact Nat.le_refl _)]) (ho x) (by decide) hl (flat_length hf l) hsz
  rw [← flat_one f x, ← flat_append] at h
  rw [List.length_append]
  exact h
end Go.Am
end

/- The spans of a text in normal form, told by how its signs look: kind by kind, the stretches that look alike, cut where a span of a kind ahead begins or ends. -/
section
namespace Go.Am

structure Look where
  b : Bool
  i : Bool
  u : Bool
  k : Bool
  c : Int

def Look.cells (a : Look) : List AV := [.bool a.b, .bool a.i, .bool a.u, .bool a.k, .int .i64 a.c]
def noLook : Look := ⟨false, false, false, false, 0⟩
theorem Look.cells_length (a : Look) : a.cells.length = 5 := rfl
theorem Look.cells_one (a : Look) : a.cells.all AV.one = true := by simp [Look.cells, AV.one]

def one01 (b : Bool) : Int := bif b then 1 else 0
def Look.get (a : Look) (kind : Int) : Int := if kind = 1 then one01 a.b else if kind = 2 then one01 a.i else if kind = 3 then one01 a.u else if kind = 4 then one01 a.k else if kind = 5 then a.c else 0

structure Spn where
  f : Int
  t : Int
  k : Int
  v : Int
def Spn.cells (x : Spn) : List AV := [.int .i64 x.f, .int .i64 x.t, .int .i64 x.k, .int .i64 x.v]
theorem Spn.cells_length (x : Spn) : x.cells.length = 4 := rfl
theorem Spn.cells_one (x : Spn) : x.cells.all AV.one = true := by simp [Spn.cells, AV.one]

def goOn (g : Nat → Bool) : Nat → Nat → Nat
  | 0, j => j
  | d + 1, j => bif g j then goOn g d (j + 1) else j
def upTo (g : Nat → Bool) (n j : Nat) : Nat := goOn g (n - j) j
theorem upTo_go {g : Nat → Bool} {n j : Nat} (h : j < n) (hg : g j = true) : upTo g n j = upTo g n (j + 1) := by
  unfold upTo
  obtain ⟨d, hd⟩ : ∃ d, n - j = d + 1 := ⟨n - j - 1, by omega⟩
  rw [hd, show n - (j + 1) = d by omega]
  simp [goOn, hg]
theorem upTo_stop {g : Nat → Bool} {n j : Nat} (h : j < n) (hg : g j = false) : upTo g n j = j := by
  unfold upTo
  obtain ⟨d, hd⟩ : ∃ d, n - j = d + 1 := ⟨n - j - 1, by omega⟩
  rw [hd]
  simp [goOn, hg]
theorem upTo_end {g : Nat → Bool} {n j : Nat} (h : n ≤ j) : upTo g n j = j := by
  unfold upTo
  rw [show n - j = 0 by omega]; rfl
theorem goOn_bounds {g : Nat → Bool} : ∀ {d j : Nat}, j ≤ goOn g d j ∧ goOn g d j ≤ j + d
  | 0, j => ⟨Nat.le_refl _, Nat.le_refl _⟩
  | d + 1, j => by
    simp only [goOn]
    cases g j with
    | false => exact ⟨Nat.le_refl _, by simp only [cond_false]; omega⟩
    | true => have := goOn_bounds (g := g) (d := d) (j := j + 1); simp only [cond_true]; omega
theorem upTo_bounds {g : Nat → Bool} {n j : Nat} (h : j ≤ n) : j ≤ upTo g n j ∧ upTo g n j ≤ n := by
  have := goOn_bounds (g := g) (d := n - j) (j := j)
  unfold upTo; omega

def alike (val : Nat → Int) (cut : Nat → Bool) (i j : Nat) : Bool := val j == val i && !cut j
def span1 (val : Nat → Int) (k : Int) (i j : Nat) : List Spn := if val i = 0 then [] else [⟨i, j, k, if k = 5 then val i - 1 else 0⟩]
def spansFrom (val : Nat → Int) (cut : Nat → Bool) (n : Nat) (k : Int) : Nat → Nat → List Spn
  | 0, _ => []
  | d + 1, i => if i < n then span1 val k i (upTo (alike val cut i) n (i + 1)) ++ spansFrom val cut n k d (upTo (alike val cut i) n (i + 1)) else []
theorem spansFrom_more {val : Nat → Int} {cut : Nat → Bool} {n : Nat} {k : Int} : ∀ {d e i : Nat}, n - i ≤ d → n - i ≤ e → spansFrom val cut n k d i = spansFrom val cut n k e i
  | 0, 0, _, _, _ => rfl
  | 0, e + 1, i, h, _ => by simp only [spansFrom]; rw [if_neg (by omega)]
  | d + 1, 0, i, _, h => by simp only [spansFrom]; rw [if_neg (by omega)]
  | d + 1, e + 1, i, h1, h2 => by
    simp only [spansFrom]
    by_cases h : i < n
    · have := (upTo_bounds (g := alike val cut i) (n := n) (j := i + 1) (by omega)).1
      rw [if_pos h, if_pos h, spansFrom_more (d := d) (e := e) (by omega) (by omega)]
    · rw [if_neg h, if_neg h]
def spansAt (val : Nat → Int) (cut : Nat → Bool) (n : Nat) (k : Int) (i : Nat) : List Spn := spansFrom val cut n k (n - i) i
theorem spansAt_end {val : Nat → Int} {cut : Nat → Bool} {n : Nat} {k : Int} {i : Nat} (h : n ≤ i) : spansAt val cut n k i = [] := by
  unfold spansAt; rw [show n - i = 0 by omega]; rfl
theorem spansAt_go {val : Nat → Int} {cut : Nat → Bool} {n : Nat} {k : Int} {i : Nat} (h : i < n) :
    spansAt val cut n k i = span1 val k i (upTo (alike val cut i) n (i + 1)) ++ spansAt val cut n k (upTo (alike val cut i) n (i + 1)) := by
  unfold spansAt
  have := (upTo_bounds (g := alike val cut i) (n := n) (j := i + 1) (by omega)).1
  rw [spansFrom_more (d := n - i) (e := (n - i - 1) + 1) (by omega) (by omega)]
  simp only [spansFrom]
  rw [if_pos h, spansFrom_more (d := n - i - 1) (e := n - upTo (alike val cut i) n (i + 1)) (by omega) (by omega)]

theorem spansAt_length {val : Nat → Int} {cut : Nat → Bool} {n : Nat} {k : Int} : ∀ (d : Nat) {i : Nat}, d = n - i → (spansAt val cut n k i).length ≤ n - i := by
  intro d
  induction d using Nat.strongRecOn with
  | ind d ih =>
    intro i hd
    rcases Nat.lt_or_ge i n with h | h
    · have := upTo_bounds (g := alike val cut i) (n := n) (j := i + 1) (by omega)
      rw [spansAt_go h, List.length_append]
      have g := ih (n - upTo (alike val cut i) n (i + 1)) (by omega) rfl
      have : (span1 val k i (upTo (alike val cut i) n (i + 1))).length ≤ 1 := by unfold span1; split <;> simp
      omega
    · rw [spansAt_end h]; simp
theorem spansAt_in {val : Nat → Int} {cut : Nat → Bool} {n : Nat} {k : Int} : ∀ (d : Nat) {i : Nat}, d = n - i → ∀ x ∈ spansAt val cut n k i, ∃ a b : Nat, x.f = a ∧ x.t = b ∧ i ≤ a ∧ a < b ∧ b ≤ n ∧ x.k = k := by
  intro d
  induction d using Nat.strongRecOn with
  | ind d ih =>
    intro i hd x hx
    rcases Nat.lt_or_ge i n with h | h
    · have hb := upTo_bounds (g := alike val cut i) (n := n) (j := i + 1) (by omega)
      rw [spansAt_go h] at hx
      rcases List.mem_append.1 hx with hx | hx
      · unfold span1 at hx
        split at hx
        · cases hx
        · simp only [List.mem_singleton] at hx
          subst hx
          exact ⟨i, _, rfl, rfl, Nat.le_refl _, by omega, hb.2, rfl⟩
      · obtain ⟨a, b, g1, g2, g3, g4⟩ := ih (n - upTo (alike val cut i) n (i + 1)) (by omega) rfl x hx
        exact ⟨a, b, g1, g2, by omega, g4⟩
    · rw [spansAt_end h] at hx; cases hx

def cutBy (cut : Nat → Bool) (l : List Spn) (j : Nat) : Bool := cut j || l.any fun x => x.f == (j : Int) || x.t == (j : Int)
def val (L : List Look) (k : Int) (i : Nat) : Int := ((L[i]?).getD noLook).get k
theorem val_at {L : List Look} {k : Int} {i : Nat} (h : i < L.length) : val L k i = (L[i]).get k := by
  unfold val; rw [List.getElem?_eq_getElem h]; rfl
def kindsTo (L : List Look) : Nat → List Spn × (Nat → Bool)
  | 0 => ([], fun _ => false)
  | k + 1 => ((kindsTo L k).1 ++ spansAt (val L (k + 1 : Nat)) (kindsTo L k).2 L.length (k + 1 : Nat) 0, cutBy (kindsTo L k).2 (spansAt (val L (k + 1 : Nat)) (kindsTo L k).2 L.length (k + 1 : Nat) 0))
def spans (L : List Look) : List Spn := (kindsTo L 5).1
theorem kindsTo_length (L : List Look) : ∀ k, (kindsTo L k).1.length ≤ k * L.length
  | 0 => by simp [kindsTo]
  | k + 1 => by
    have h1 := kindsTo_length L k
    have h2 := spansAt_length (val := val L (k + 1 : Nat)) (cut := (kindsTo L k).2) (n := L.length) (k := (k + 1 : Nat)) (L.length - 0) (i := 0) rfl
    simp only [kindsTo, List.length_append, Nat.add_mul, Nat.one_mul]; omega
end Go.Am
end

/- The sorting of spans: parts in one another's place, ones behind one another, one by one, halves merged. -/
import Derived.Test.YtlkdhhkncoekgaaDoorMadeA
import Derived.Test.YtlkdhhkncoekgaaDoorSortL
import Derived.Test.YtlkdhhkncoekgaaDoorSortVc
namespace Go.Proofs.YtlkdhhkncoekgaaDoor
open Go.Am Go

def Holds (H : AH) (bk : Nat) (f : Nat → Spn) (n : Nat) : Prop := H.get bk = some (.cells (flat Spn.cells ((List.range n).map f)) 41 { opn := true })
def upd (f : Nat → Spn) (i : Nat) (y : Spn) (x : Nat) : Spn := if x = i then y else f x
theorem map_upd {f : Nat → Spn} {n i : Nat} {y : Spn} (h : i < n) : ((List.range n).map f).set i y = (List.range n).map (upd f i y) := by
  apply List.ext_getElem?
  intro j
  rw [List.getElem?_set, List.length_map, List.length_range, List.getElem?_map, List.getElem?_map]
  by_cases e : i = j
  · subst e
    rw [if_pos rfl, if_pos h, List.getElem?_range h]
    simp [upd]
  · rw [if_neg e]
    by_cases hj : j < n
    · rw [List.getElem?_range hj]
      simp only [Option.map_some, upd]
      rw [if_neg (fun h => e h.symm)]
    · rw [List.getElem?_eq_none (by rw [List.length_range]; omega)]; rfl
theorem Holds.read {H : AH} {bk n i : Nat} {f : Nat → Spn} (h : Holds H bk f n) (hi : i < n) : H.read bk (0 + i * 4) 4 = some [.int .i64 (f i).f, .int .i64 (f i).t, .int .i64 (f i).k, .int .i64 (f i).v] := by
  have := read_flat Spn.cells_length h (i := i) (by rw [List.length_map, List.length_range]; exact hi)
  rw [List.getElem_map, List.getElem_range] at this
  exact this
theorem Holds.write {H : AH} {bk n i : Nat} {f : Nat → Spn} (h : Holds H bk f n) (hi : i < n) (y : Spn) : ∃ H', H.write bk (0 + i * 4) [.int .i64 y.f, .int .i64 y.t, .int .i64 y.k, .int .i64 y.v] = some H' ∧ Holds H' bk (upd f i y) n ∧ H'.n = H.n ∧ ∀ c, c ≠ bk → H'.get c = H.get c := by
  have := write_flat (f := Spn.cells) Spn.cells_length h rfl rfl (i := i) (k := 0) (vs := y.cells) (y := y) (by rw [List.length_map, List.length_range]; exact hi) (by simp [Spn.cells]) y.cells_one (by simp [splice, Spn.cells])
  rw [map_upd hi, Nat.add_zero] at this
  exact ⟨_, this, by show (AH.set _ _ _).get bk = _; rw [AH.get_set, if_pos rfl], rfl, fun c hc => by rw [AH.get_set, if_neg hc]⟩
theorem upd_swp (f : Nat → Spn) (i j : Nat) : upd (upd f i (f j)) j (f i) = swp f i j := by
  funext x
  unfold upd swp
  by_cases h1 : x = j
  · by_cases h2 : x = i
    · subst h1; subst h2; simp
    · rw [if_pos h1, if_neg h2, if_pos h1]
  · rw [if_neg h1]
    by_cases h2 : x = i
    · rw [if_pos h2, if_pos h2]
    · rw [if_neg h2, if_neg h2, if_neg h1]
theorem Holds.congr {H : AH} {bk n : Nat} {f g : Nat → Spn} (h : Holds H bk f n) (e : ∀ i, i < n → g i = f i) : Holds H bk g n := by
  have : (List.range n).map g = (List.range n).map f := List.map_congr_left fun i hi => e i (List.mem_range.1 hi)
  unfold Holds
  rw [this]; exact h

abbrev D (bk n : Nat) : AV := .slice (some (bk, 0)) n n
abbrev Fc : AV := .func (.func 111) [] []
def Left (H : AH) (bk n : Nat) (g : Nat → Spn) (v : AV) (H' : AH) : Prop := v = .tuple [] ∧ Holds H' bk g n ∧ H.n ≤ H'.n ∧ ∀ c, c < H.n → c ≠ bk → H'.get c = H.get c

set_option maxRecDepth 100000 in
theorem swapR_S {H : AH} {bk n a b m : Nat} {f : Nat → Spn} (h : Holds H bk f n) (hn : n ≤ 1000000) (h1 : a + m ≤ b) (h2 : b + m ≤ n) :
    ACallee Tryd.prog 119 [D bk n, .int .i64 a, .int .i64 b, .int .i64 m, Fc] H (Left H bk n (swapF f a b m)) := by
  refine .inl ⟨goB_spec (by kernel_rfl), vcG_ok (anns := _) (rans := _) follows' (Eq.mpr (swapR_vc (real Tryd.prog) (Iter Tryd.prog) bk n a b m H _) ?_)⟩
  simp only [real_rdn, real_wr, real_wrap]
  refine ⟨fun x H' j => ∃ i : Nat, x = i ∧ i ≤ m ∧ j = m - i ∧ Holds H' bk (swapF f a b i) n ∧ H'.n = H.n ∧ ∀ c, c ≠ bk → H'.get c = H.get c, ⟨0, m, rfl, 0, rfl, Nat.zero_le _, rfl, by rw [swapF_zero]; exact h, rfl, fun c _ => rfl⟩, ?_⟩
  rintro _ H1 _ ⟨i, rfl, hi, rfl, hz, hn1, ho⟩
  by_cases him : i < m
  · have d : decide ((i : Int) < (m : Int)) = true := by rw [decide_eq_true_iff]; omega
    have w1 : IntKind.i64.wrap ((b : Int) + (i : Int)) = ((b + i : Nat) : Int) := by rw [wrap_i64 (by omega) (by omega)]; omega
    have w2 : IntKind.i64.wrap ((a : Int) + (i : Int)) = ((a + i : Nat) : Int) := by rw [wrap_i64 (by omega) (by omega)]; omega
    simp only [d, cond_true, w1, w2]
    obtain ⟨H2, g1, g2, g3, g4⟩ := hz.write (i := a + i) (by omega) (swapF f a b i (b + i))
    obtain ⟨H3, u1, u2, u3, u4⟩ := g2.write (i := b + i) (by omega) (swapF f a b i (a + i))
    rw [upd_swp, swapF_succ (by omega)] at u2
    refine ⟨bk, 0, ⟨rfl, by omega, by omega⟩, _, _, _, _, hz.read (by omega), bk, 0, ⟨rfl, by omega, by omega⟩, _, _, _, _, hz.read (by omega), bk, 0, ⟨rfl, by omega, by omega⟩, rfl, H2, g1, bk, 0, ⟨rfl, by omega, by omega⟩, rfl, H3, u1,
      ((i + 1 : Nat) : Int), m - (i + 1), by omega, ?_, i + 1, rfl, by omega, rfl, u2, by omega, fun c hc => by rw [u4 c hc, g4 c hc]; exact ho c hc⟩
    rw [wrap_i64 (by omega) (by omega)]; rfl
  · have d : decide ((i : Int) < (m : Int)) = false := by rw [decide_eq_false_iff_not]; omega
    simp only [d, cond_false]
    obtain rfl : i = m := by omega
    exact ⟨rfl, hz, by omega, fun c _ hc => ho c hc⟩

set_option maxRecDepth 100000 in
theorem rotate_S {H : AH} {bk n a m b : Nat} {f : Nat → Spn} (h : Holds H bk f n) (hn : n ≤ 1000000) (h1 : a < m) (h2 : m < b) (h3 : b ≤ n) :
    ACallee Tryd.prog 118 [D bk n, .int .i64 a, .int .i64 m, .int .i64 b, Fc] H (fun v H' => Left H bk n (rotF f a m b) v H' ∧ PermN n (rotF f a m b) f) := by
  refine .inl ⟨goB_spec (by kernel_rfl), vcG_ok (anns := _) (rans := _) follows' (Eq.mpr (rotate_vc (real Tryd.prog) (Iter Tryd.prog) bk n a m b H _) ?_)⟩
  simp only [real_call, real_wrap]
  have w0 : IntKind.i64.wrap ((m : Int) - (a : Int)) = ((m - a : Nat) : Int) := by rw [wrap_i64 (by omega) (by omega)]; omega
  have w1 : IntKind.i64.wrap ((b : Int) - (m : Int)) = ((b - m : Nat) : Int) := by rw [wrap_i64 (by omega) (by omega)]; omega
  rw [w0, w1]
  refine ⟨fun x H' k => ∃ (i j : Nat) (g : Nat → Spn), x = ((i : Int), (j : Int)) ∧ 0 < i ∧ 0 < j ∧ a + i ≤ m ∧ m + j ≤ b ∧ k = i + j ∧ Holds H' bk g n ∧ rotF g (m - i) m (m + j) = rotF f a m b ∧ PermN n g f ∧ H.n ≤ H'.n ∧ ∀ c, c < H.n → c ≠ bk → H'.get c = H.get c,
    ⟨(((m - a : Nat) : Int), ((b - m : Nat) : Int)), (m - a) + (b - m), rfl, m - a, b - m, f, rfl, by omega, by omega, by omega, by omega, rfl, h, ?_, PermN.refl n f, Nat.le_refl _, fun c _ _ => rfl⟩, ?_⟩
  · rw [show m - (m - a) = a by omega, show m + (b - m) = b by omega]
  rintro _ H1 _ ⟨i, j, g, rfl, hi0, hj0, hi, hj, rfl, hz, hr, hp, hn1, ho⟩
  have wm : IntKind.i64.wrap ((m : Int) - (i : Int)) = ((m - i : Nat) : Int) := by rw [wrap_i64 (by omega) (by omega)]; omega
  by_cases hij : i = j
  · have d : ((i : Int) != (j : Int)) = false := by rw [hij]; simp
    simp only [d, cond_false, wm]
    refine (swapR_S (m := i) hz hn (by omega) (by omega)).mono ?_
    rintro v H2 ⟨rfl, g1, g2, g3⟩
    have e : swapF g (m - i) m i = rotF f a m b := by rw [rot_eq (by omega), ← hr, ← hij]
    rw [e] at g1
    refine ⟨⟨rfl, g1, by omega, fun c hc hb => by rw [g3 c (by omega) hb]; exact ho c hc hb⟩, ?_⟩
    rw [← e]
    exact (PermN.swapF (by omega) (by omega)).trans hp
  · have d : ((i : Int) != (j : Int)) = true := by rw [bne_iff_ne]; omega
    simp only [d, cond_true]
    by_cases hgt : j < i
    · have d2 : decide ((i : Int) > (j : Int)) = true := by rw [decide_eq_true_iff]; omega
      simp only [d2, cond_true, wm]
      refine (swapR_S (m := j) hz hn (by omega) (by omega)).mono ?_
      rintro v H2 ⟨rfl, g1, g2, g3⟩
      refine ⟨(((i - j : Nat) : Int), (j : Int)), (i - j) + j, by omega, ?_, i - j, j, swapF g (m - i) m j, rfl, by omega, hj0, by omega, hj, rfl, g1, ?_, (PermN.swapF (by omega) (by omega)).trans hp, by omega, fun c hc hb => by rw [g3 c (by omega) hb]; exact ho c hc hb⟩
      · have w : IntKind.i64.wrap ((i : Int) - (j : Int)) = ((i - j : Nat) : Int) := by rw [wrap_i64 (by omega) (by omega)]; omega
        rw [w]
      · rw [rot_left (by omega) hgt]; exact hr
    · have d2 : decide ((i : Int) > (j : Int)) = false := by rw [decide_eq_false_iff_not]; omega
      have wj : IntKind.i64.wrap (IntKind.i64.wrap ((m : Int) + (j : Int)) - (i : Int)) = ((m + j - i : Nat) : Int) := by rw [wrap_i64 (n := (m : Int) + (j : Int)) (by omega) (by omega), wrap_i64 (by omega) (by omega)]; omega
      simp only [d2, cond_false, wm, wj]
      refine (swapR_S (m := i) hz hn (by omega) (by omega)).mono ?_
      rintro v H2 ⟨rfl, g1, g2, g3⟩
      refine ⟨((i : Int), ((j - i : Nat) : Int)), i + (j - i), by omega, ?_, i, j - i, swapF g (m - i) (m + j - i) i, rfl, hi0, by omega, hi, by omega, rfl, g1, ?_, (PermN.swapF (by omega) (by omega)).trans hp, by omega, fun c hc hb => by rw [g3 c (by omega) hb]; exact ho c hc hb⟩
      · have w : IntKind.i64.wrap ((j : Int) - (i : Int)) = ((j - i : Nat) : Int) := by rw [wrap_i64 (by omega) (by omega)]; omega
        rw [w]
      · rw [rot_right (by omega) (by omega)]; exact hr
end Go.Proofs.YtlkdhhkncoekgaaDoor

/- The document's signs (chapter 1), by the reference's functions: where each begins, how long it is, its rune. -/
import Derived.Test.YtlkdhhkncoekgaaDoorOne
import Derived.Test.YtlkdhhkncoekgaaDoorMadeA
import Derived.Test.YtlkdhhkncoekgaaDoorRefVc

/- One sign. -/
section
namespace Go.Proofs.YtlkdhhkncoekgaaDoor
open Go.Am Go

set_option maxRecDepth 100000 in
theorem rLong_pure (c : Nat) : Pure Tryd.prog 103 [.int .u8 c] (.int .i64 (longN c)) := by
  refine Pure.of_vc follows' [] (by kernel_rfl) rfl rfl ?_
  rw [rLong_vc]
  unfold longN
  by_cases h1 : c < 128
  · simp only [show decide ((c : Int) < 128) = true from decide_eq_true (by omega), cond_true]; rw [if_pos h1]; rfl
  simp only [show decide ((c : Int) < 128) = false from decide_eq_false (by omega), cond_false]
  rw [if_neg h1]
  by_cases h2 : 194 ≤ c ∧ c ≤ 223
  · simp only [show decide ((c : Int) ≥ 194) = true from decide_eq_true (by omega), show decide ((c : Int) ≤ 223) = true from decide_eq_true (by omega), Bool.and_self, cond_true]; rw [if_pos h2]; rfl
  rw [show (decide ((c : Int) ≥ 194) && decide ((c : Int) ≤ 223)) = false by rw [Bool.and_eq_false_iff, decide_eq_false_iff_not, decide_eq_false_iff_not]; omega, cond_false, if_neg h2]
  by_cases h3 : 224 ≤ c ∧ c ≤ 239
  · simp only [show decide ((c : Int) ≥ 224) = true from decide_eq_true (by omega), show decide ((c : Int) ≤ 239) = true from decide_eq_true (by omega), Bool.and_self, cond_true]; rw [if_pos h3]; rfl
  rw [show (decide ((c : Int) ≥ 224) && decide ((c : Int) ≤ 239)) = false by rw [Bool.and_eq_false_iff, decide_eq_false_iff_not, decide_eq_false_iff_not]; omega, cond_false, if_neg h3]
  by_cases h4 : 240 ≤ c ∧ c ≤ 244
  · simp only [show decide ((c : Int) ≥ 240) = true from decide_eq_true (by omega), show decide ((c : Int) ≤ 244) = true from decide_eq_true (by omega), Bool.and_self, cond_true]; rw [if_pos h4]; rfl
  rw [show (decide ((c : Int) ≥ 240) && decide ((c : Int) ≤ 244)) = false by rw [Bool.and_eq_false_iff, decide_eq_false_iff_not, decide_eq_false_iff_not]; omega, cond_false, if_neg h4]
  rfl

theorem rSecond_pure (c d : Nat) : Pure Tryd.prog 104 [.int .u8 c, .int .u8 d] (.bool (secondN c d)) := by
  refine Pure.of_vc follows' [] (by kernel_rfl) rfl rfl ?_
  rw [rSecond_vc]
  have g : ∀ a b : Nat, (decide ((d : Int) ≥ (a : Int)) && decide ((d : Int) ≤ (b : Int))) = (decide (a ≤ d) && decide (d ≤ b)) := fun a b => by
    rw [show decide ((d : Int) ≥ (a : Int)) = decide (a ≤ d) by rw [decide_eq_decide]; omega, show decide ((d : Int) ≤ (b : Int)) = decide (d ≤ b) by rw [decide_eq_decide]; omega]
  have e : ∀ a : Nat, ((c : Int) == (a : Int)) = decide (c = a) := fun a => by rw [Bool.eq_iff_iff, beq_iff_eq, decide_eq_true_iff]; omega
  have g1 := g 160 191
  have g2 := g 128 159
  have g3 := g 144 191
  have g4 := g 128 143
  have g5 := g 128 191
  have e1 := e 224
  have e2 := e 237
  have e3 := e 240
  have e4 := e 244
  unfold secondN
  by_cases h1 : c = 224
  · subst h1
    rw [if_pos rfl]
    exact congrArg AV.bool g1
  rw [if_neg h1, show ((c : Int) == 224) = false from e1.trans (decide_eq_false h1), cond_false]
  by_cases h2 : c = 237
  · subst h2
    rw [if_pos rfl]
    exact congrArg AV.bool g2
  rw [if_neg h2, show ((c : Int) == 237) = false from e2.trans (decide_eq_false h2), cond_false]
  by_cases h3 : c = 240
  · subst h3
    rw [if_pos rfl]
    exact congrArg AV.bool g3
  rw [if_neg h3, show ((c : Int) == 240) = false from e3.trans (decide_eq_false h3), cond_false]
  by_cases h4 : c = 244
  · subst h4
    rw [if_pos rfl]
    exact congrArg AV.bool g4
  rw [if_neg h4, show ((c : Int) == 244) = false from e4.trans (decide_eq_false h4), cond_false]
  exact congrArg AV.bool g5

theorem byte_at {H : AH} {b : Nat} {s : List UInt8} {fl : Fl} (hb : H.get b = some (.cells (byteCellsA s) 5 fl)) {i : Nat} (hi : i < s.length) : H.read1 b (0 + i * 1) = some (.int .u8 (rune1 s i 0 : Nat)) := by
  unfold AH.read1 rune1
  rw [hb, Nat.zero_add, Nat.mul_one, Nat.add_zero]
  show (byteCellsA s)[i]? = _
  unfold byteCellsA
  rw [List.getElem?_map, List.getElem?_eq_getElem hi]; rfl

theorem rRest_S {H : AH} {b : Nat} {s : List UInt8} {fl : Fl} (hb : H.get b = some (.cells (byteCellsA s) 5 fl)) {i : Nat} (hi : i < s.length) :
    ACallee Tryd.prog 105 [.slice (some (b, 0)) s.length s.length, .int .i64 i] H fun v H' => v = .int .i64 ((rune1 s i 0 : Int) - 128) ∧ H' = H := by
  refine .inl ⟨goB_spec (by kernel_rfl), vcF_ok (anns := []) follows' ?_⟩
  rw [rRest_vc]
  have hc := rune1_lt s i 0
  refine ⟨b, 0, ⟨rfl, by omega, by omega⟩, (rune1 s i 0 : Nat), byte_at hb hi, ?_, rfl⟩
  simp only [real_wrap]
  rw [wrap_i64 (n := ((rune1 s i 0 : Nat) : Int)) (by omega) (by omega), wrap_i64 (by omega) (by omega)]

theorem rMore_S {H : AH} {b : Nat} {s : List UInt8} {fl : Fl} (hb : H.get b = some (.cells (byteCellsA s) 5 fl)) (i : Nat) :
    ACallee Tryd.prog 106 [.slice (some (b, 0)) s.length s.length, .int .i64 i] H fun v H' => v = .bool (moreN s i) ∧ H' = H := by
  refine .inl ⟨goB_spec (by kernel_rfl), vcF_ok (anns := []) follows' ?_⟩
  rw [rMore_vc]
  by_cases hi : i < s.length
  · have r := byte_at hb hi
    have e : decide ((i : Int) < (s.length : Int)) = decide (i < s.length) := by rw [decide_eq_decide]; omega
    refine ⟨b, 0, fun _ => ⟨rfl, by omega, by omega⟩, (rune1 s i 0 : Nat), fun _ => r, b, 0, fun _ => ⟨rfl, by omega, by omega⟩, (rune1 s i 0 : Nat), fun _ => r, ?_, rfl⟩
    unfold moreN
    rw [e, Bool.and_assoc]
    congr 3
    · rw [decide_eq_decide]; omega
    · rw [decide_eq_decide]; omega
  · have e : decide ((i : Int) < (s.length : Int)) = false := by rw [decide_eq_false_iff_not]; omega
    have e' : moreN s i = false := by unfold moreN; rw [decide_eq_false hi]; rfl
    rw [e, e']
    exact ⟨b, 0, (fun h => by cases h), 0, (fun h => by cases h), b, 0, (fun h => by cases h), 0, (fun h => by cases h), rfl, rfl⟩

def badN (s : List UInt8) (i : Nat) : Bool := decide (decodeL s i = (65533, 1))
def rAcc (s : List UInt8) (i : Nat) : Nat → Int
  | 0 => (rune1 s i 1 : Int) - 128
  | m + 1 => 64 * rAcc s i m + ((rune1 s i (m + 2) : Int) - 128)

set_option maxRecDepth 100000 in
theorem rOne_S {H : AH} {b : Nat} {s : List UInt8} {fl : Fl} (hb : H.get b = some (.cells (byteCellsA s) 5 fl)) (hbn : b < H.n) {i : Nat} (hi : i < s.length) (hs : s.length ≤ 4611686018427387904) :
    ACallee Tryd.prog 88 [.slice (some (b, 0)) s.length s.length, .int .i64 i] H fun v H' =>
      v = .agg [.int .i64 i, .int .i64 (decodeL s i).2, .int .i64 (decodeL s i).1, .bool (badN s i)] ∧ H.n ≤ H'.n ∧ ∀ c, c < H.n → H'.get c = H.get c := by
  obtain ⟨Q, hQ⟩ : ∃ Q : AV → AH → Prop, Q = fun v H' => v = .agg [.int .i64 i, .int .i64 (decodeL s i).2, .int .i64 (decodeL s i).1, .bool (badN s i)] ∧ H.n ≤ H'.n ∧ ∀ c, c < H.n → H'.get c = H.get c := ⟨_, rfl⟩
  rw [← hQ]
  refine .inl ⟨goB_spec (by kernel_rfl), vcG_ok (anns := _) (rans := _) follows' (Eq.mpr (rOne_vc (real Tryd.prog) (Iter Tryd.prog) b s.length i H Q) ?_)⟩
  simp only [real_n, real_al, real_rd1, real_rdn, real_call, real_wr, real_wrap]
  obtain ⟨z, hz⟩ : ∃ z : AObj, z = .cells [.int .i64 0, .int .i64 0, .int .i64 0, .bool false] 138 { whole := true } := ⟨_, rfl⟩
  simp only [← hz]
  have c0 := rune1_lt s i 0
  have hbA : (H.alloc z).get b = some (.cells (byteCellsA s) 5 fl) := by rw [AH.get_alloc, if_neg (by omega)]; exact hb
  obtain ⟨B, hB⟩ : ∃ B, B = ((H.alloc z).alloc z).set (H.n + 1) (.cells [.int .i64 i, .int .i64 1, .int .i64 65533, .bool true] 138 { whole := true }) := ⟨_, rfl⟩
  have g0 : B.get H.n = some z := by rw [hB, AH.get_set, if_neg (by omega), AH.get_alloc, if_neg (by simp), AH.get_alloc, if_pos rfl]
  have g1 : B.get (H.n + 1) = some (.cells [.int .i64 i, .int .i64 1, .int .i64 65533, .bool true] 138 { whole := true }) := by rw [hB, AH.get_set, if_pos rfl]
  have go : ∀ c, c < H.n → B.get c = H.get c := fun c hc => by rw [hB, AH.get_set, if_neg (by omega), AH.get_alloc, if_neg (by simp only [AH.n_alloc]; omega), AH.get_alloc, if_neg (by omega)]
  have gn : B.n = H.n + 2 := by rw [hB]; rfl
  have hbB : B.get b = some (.cells (byteCellsA s) 5 fl) := by rw [go b hbn]; exact hb
  have fin : ∀ (l r : Int) (bd : Bool), l = (decodeL s i).2 → r = (decodeL s i).1 → bd = badN s i → ∃ H3, B.write H.n 0 [.int .i64 i, .int .i64 l, .int .i64 r, .bool bd] = some H3 ∧ ∃ (n6 n7 n8 : Int) (b2 : Bool), H3.read H.n 0 4 = some [.int .i64 n6, .int .i64 n7, .int .i64 n8, .bool b2] ∧ Q (.agg [.int .i64 n6, .int .i64 n7, .int .i64 n8, .bool b2]) H3 := by
    rintro l r bd rfl rfl rfl
    refine ⟨B.set H.n (.cells [.int .i64 i, .int .i64 (decodeL s i).2, .int .i64 (decodeL s i).1, .bool (badN s i)] 138 { whole := true }), ?_, i, (decodeL s i).2, (decodeL s i).1, badN s i, ?_, ?_⟩
    · unfold AH.write
      rw [g0, hz]
      simp [splice, AV.one]
    · simp [AH.read, AH.get_set]
    · rw [hQ]
      exact ⟨rfl, by show H.n ≤ B.n; omega, fun c hc => by rw [AH.get_set, if_neg (by omega)]; exact go c hc⟩
  have bad : decodeL s i = (65533, 1) → ∃ (n3 n4 n5 : Int) (b1 : Bool), B.read (H.n + 1) 0 4 = some [.int .i64 n3, .int .i64 n4, .int .i64 n5, .bool b1] ∧ [AV.int .i64 n3, .int .i64 n4, .int .i64 n5, .bool b1].length = 4 ∧
      ∃ H3, B.write H.n 0 [.int .i64 n3, .int .i64 n4, .int .i64 n5, .bool b1] = some H3 ∧ ∃ (n6 n7 n8 : Int) (b2 : Bool), H3.read H.n 0 4 = some [.int .i64 n6, .int .i64 n7, .int .i64 n8, .bool b2] ∧ Q (.agg [.int .i64 n6, .int .i64 n7, .int .i64 n8, .bool b2]) H3 := by
    intro hd
    refine ⟨i, 1, 65533, true, by unfold AH.read; rw [g1]; rfl, rfl, ?_⟩
    exact fin 1 65533 true (by rw [hd]; rfl) (by rw [hd]; rfl) (by unfold badN; rw [decide_eq_true hd])
  refine ⟨b, 0, ⟨rfl, by omega, by omega⟩, (rune1 s i 0 : Nat), ?_, ?_⟩
  · rw [show ((i : Nat) : Int).toNat = i from rfl]; exact byte_at hbA hi
  refine (rLong_pure (rune1 s i 0)).use1 ⟨_, rfl, rfl, B, by rw [hB]; simp [AH.write, AH.get_alloc, hz, splice, AV.one], ?_⟩
  obtain ⟨L, hL⟩ : ∃ L, L = longN (rune1 s i 0) := ⟨_, rfl⟩
  have hL4 : L ≤ 4 := by
    rw [hL]
    unfold longN
    repeat' split
    all_goals omega
  rw [← hL]
  by_cases h0 : L = 0
  · have e : ((L : Int) == 0) = true := by rw [beq_iff_eq]; omega
    simp only [e, cond_true]
    exact bad (one_none (by rw [← hL]; exact h0))
  have e : ((L : Int) == 0) = false := by rw [beq_eq_false_iff_ne]; omega
  simp only [e, cond_false]
  by_cases h1 : L = 1
  · have e : ((L : Int) == 1) = true := by rw [beq_iff_eq]; omega
    simp only [e, cond_true]
    have hd := one_short (s := s) (i := i) (by rw [← hL]; exact h1)
    have c128 : rune1 s i 0 < 128 := by
      rw [hL] at h1
      unfold longN at h1
      repeat' split at h1
      all_goals omega
    refine ⟨b, 0, ⟨rfl, by omega, by omega⟩, (rune1 s i 0 : Nat), byte_at hbB hi, rfl, ?_⟩
    rw [wrap_i64 (by omega) (by omega)]
    refine fin 1 (rune1 s i 0 : Nat) false (by rw [hd]; rfl) (by rw [hd]) ?_
    unfold badN
    rw [hd, decide_eq_false]
    intro e
    have := congrArg Prod.fst e
    simp only at this; omega
  have e : ((L : Int) == 1) = false := by rw [beq_eq_false_iff_ne]; omega
  simp only [e, cond_false]
  have h2L : 2 ≤ L := by omega
  have w1 : IntKind.i64.wrap ((i : Int) + 1) = ((i + 1 : Nat) : Int) := by rw [wrap_i64 (by omega) (by omega)]; omega
  simp only [w1]
  refine ⟨fun y K => y.1 = H.n ∧ y.2.1 = (L : Int) ∧ y.2.2.1 = H.n + 1 ∧ B = K ∧ y.2.2.2 = !(decide (i + 1 < s.length) && secondN (rune1 s i 0) (rune1 s i 1)), ?_, ?_⟩
  · by_cases hi1 : i + 1 < s.length
    · have d : decide (((i + 1 : Nat) : Int) ≥ (s.length : Int)) = false := by rw [decide_eq_false_iff_not]; omega
      have ft : (false == false) = true := rfl
      simp only [d, ft, cond_true]
      refine ⟨b, 0, ⟨rfl, by omega, by omega⟩, (rune1 s i 0 : Nat), byte_at hbB hi, b, 0, ⟨rfl, by omega, by omega⟩, (rune1 s i 1 : Nat), ?_, ?_⟩
      · rw [show ((i + 1 : Nat) : Int).toNat = i + 1 from rfl, byte_at hbB hi1, rune1_here]
      · refine (rSecond_pure (rune1 s i 0) (rune1 s i 1)).use1 ⟨_, rfl, (H.n, (L : Int), H.n + 1, !secondN (rune1 s i 0) (rune1 s i 1)), 0, trivial, rfl, rfl, rfl, rfl, (by trivial), ?_⟩
        rw [decide_eq_true hi1, Bool.true_and]
    · have d : decide (((i + 1 : Nat) : Int) ≥ (s.length : Int)) = true := by rw [decide_eq_true_iff]; omega
      have tf : (true == false) = false := rfl
      simp only [d, tf, cond_false]
      refine ⟨(H.n, (L : Int), H.n + 1, true), 0, trivial, rfl, rfl, rfl, rfl, (by trivial), ?_⟩
      rw [decide_eq_false hi1]; rfl
  rintro ⟨p1, L1, p2, bb⟩ _ ⟨e1, e2, e3, rfl, e5⟩
  simp only at e1 e2 e3 e5 ⊢
  subst e1 e2 e3
  cases bb with
  | true =>
    simp only [cond_true]
    refine bad (one_second (by rw [← hL]; exact h2L) ?_)
    rintro ⟨k1, k2⟩
    rw [decide_eq_true k1, k2] at e5
    cases e5
  | false =>
  simp only [cond_false]
  have hsec : i + 1 < s.length ∧ secondN (rune1 s i 0) (rune1 s i 1) = true := by
    have : (decide (i + 1 < s.length) && secondN (rune1 s i 0) (rune1 s i 1)) = true := by
      cases hh : (decide (i + 1 < s.length) && secondN (rune1 s i 0) (rune1 s i 1)) with
      | true => rfl
      | false => rw [hh] at e5; cases e5
    simpa using this
  have hc1 : 128 ≤ rune1 s i 1 ∧ rune1 s i 1 ≤ 191 := by
    have := hsec.2
    unfold secondN at this
    repeat' split at this
    all_goals simp only [Bool.and_eq_true, decide_eq_true_eq] at this
    all_goals omega
  have acc : ∀ m, m ≤ 2 → (∀ k, 2 ≤ k → k < m + 2 → moreN s (i + k) = true) → 0 ≤ rAcc s i m ∧ rAcc s i m < 64 ^ (m + 1) := by
    intro m
    induction m with
    | zero => intro _ _; simp only [rAcc]; omega
    | succ m ih =>
      intro hm hk
      have := ih (by omega) fun k h1 h2 => hk k h1 (by omega)
      have mo := hk (m + 2) (by omega) (by omega)
      unfold moreN at mo
      rw [rune1_here] at mo
      simp only [Bool.and_eq_true, decide_eq_true_eq] at mo
      have p : (64 : Int) ^ (m + 1 + 1) = 64 ^ (m + 1) * 64 := Int.pow_succ ..
      simp only [rAcc]
      rw [p]
      omega
  refine (rRest_S hbB hsec.1).mono ?_
  rintro v K ⟨rfl, rfl⟩
  rw [rune1_here]
  refine ⟨_, rfl, fun y K' k => ∃ m : Nat, y = (H.n, (L : Int), H.n + 1, rAcc s i m, ((m + 2 : Nat) : Int)) ∧ m + 2 ≤ L ∧ (∀ k, 2 ≤ k → k < m + 2 → moreN s (i + k) = true) ∧ K = K' ∧ k = 4 - m, ⟨(H.n, (L : Int), H.n + 1, (rune1 s i 1 : Int) - 128, 2), 4, rfl, 0, rfl, by omega, fun k h1 h2 => by omega, rfl, rfl⟩, ?_⟩
  rintro _ _ _ ⟨m, rfl, hm, hk, rfl, rfl⟩
  simp only
  have hac := acc m (by omega) hk
  have hp : (64 : Int) ^ (m + 1) ≤ 262144 := by
    match m, (show m ≤ 2 by omega) with
    | 0, _ => decide
    | 1, _ => decide
    | 2, _ => decide
  by_cases hmL : m + 2 < L
  · have d : decide (((m + 2 : Nat) : Int) < (L : Int)) = true := by rw [decide_eq_true_iff]; omega
    simp only [d, cond_true]
    have w2 : IntKind.i64.wrap ((i : Int) + ((m + 2 : Nat) : Int)) = ((i + (m + 2) : Nat) : Int) := by rw [wrap_i64 (by omega) (by omega)]; omega
    rw [w2]
    refine (rMore_S hbB (i + (m + 2))).mono ?_
    rintro v K' ⟨rfl, rfl⟩
    refine ⟨_, rfl, ?_⟩
    cases hmo : moreN s (i + (m + 2)) with
    | false =>
      simp only [Bool.not_false, cond_true]
      exact bad (one_more (k := m + 2) (by omega) (by rw [← hL]; exact hmL) hmo)
    | true =>
      simp only [Bool.not_true, cond_false]
      have hil : i + (m + 2) < s.length := by
        unfold moreN at hmo
        simp only [Bool.and_eq_true, decide_eq_true_eq] at hmo
        exact hmo.1
      refine (rRest_S hbB hil).mono ?_
      rintro v K2 ⟨rfl, rfl⟩
      rw [rune1_here]
      have mo := hmo
      unfold moreN at mo
      rw [rune1_here] at mo
      simp only [Bool.and_eq_true, decide_eq_true_eq] at mo
      have w3 : IntKind.i64.wrap (64 * rAcc s i m) = 64 * rAcc s i m := wrap_i64 (by omega) (by omega)
      have w4 : IntKind.i64.wrap (64 * rAcc s i m + ((rune1 s i (m + 2) : Int) - 128)) = rAcc s i (m + 1) := by rw [wrap_i64 (by omega) (by omega)]; rfl
      have w5 : IntKind.i64.wrap (((m + 2 : Nat) : Int) + 1) = ((m + 1 + 2 : Nat) : Int) := by rw [wrap_i64 (by omega) (by omega)]; omega
      refine ⟨_, rfl, (H.n, (L : Int), H.n + 1, rAcc s i (m + 1), ((m + 1 + 2 : Nat) : Int)), 4 - (m + 1), by omega, ?_, m + 1, rfl, by omega, fun k k1 k2 => ?_, rfl, rfl⟩
      · rw [w3, w4, w5]
      · rcases Nat.lt_or_ge k (m + 2) with g | g
        · exact hk k k1 g
        · rw [show k = m + 2 by omega]; exact hmo
  · have d : decide (((m + 2 : Nat) : Int) < (L : Int)) = false := by rw [decide_eq_false_iff_not]; omega
    simp only [d, cond_false]
    have hLm : L = m + 2 := by omega
    obtain ⟨w1', w2', w3'⟩ := one_whole (s := s) (i := i) (by rw [← hL]; exact h2L) hsec.1 hsec.2 (fun k k1 k2 => hk k k1 (by rw [← hL] at k2; omega))
    rw [← hL] at w1'
    have hlen : (decodeL s i).2 = L := by rw [w1']
    have hbad : badN s i = false := by unfold badN; exact decide_eq_false w3'
    have h194 : (L = 2 → 192 ≤ rune1 s i 0) ∧ (L = 3 → 224 ≤ rune1 s i 0) ∧ (L = 4 → 240 ≤ rune1 s i 0) := by
      rw [hL]
      unfold longN
      repeat' split
      all_goals omega
    have gk : ∀ k, 2 ≤ k → k < m + 2 → 128 ≤ rune1 s i k := fun k k1 k2 => by
      have := hk k k1 k2
      unfold moreN at this
      rw [rune1_here] at this
      simp only [Bool.and_eq_true, decide_eq_true_eq] at this
      exact this.2.1
    have hrune := congrArg Prod.fst w1'
    simp only at hrune
    have wn : IntKind.i64.wrap ((rune1 s i 0 : Nat) : Int) = ((rune1 s i 0 : Nat) : Int) := wrap_i64 (by omega) (by omega)
    match m, (show m ≤ 2 by omega), hLm with
    | 0, _, hLm =>
      rw [hLm] at h194
      have h192 := h194.1 rfl
      rw [hLm, if_pos rfl] at hrune
      simp only [rAcc] at hac ⊢
      have e : ((L : Int) == 2) = true := by rw [hLm]; rfl
      simp only [e, cond_true]
      refine ⟨b, 0, ⟨rfl, by omega, by omega⟩, (rune1 s i 0 : Nat), byte_at hbB hi, rfl, ?_⟩
      rw [wn, wrap_i64 (n := ((rune1 s i 0 : Nat) : Int) - 192) (by omega) (by omega), wrap_i64 (n := 64 * (((rune1 s i 0 : Nat) : Int) - 192)) (by omega) (by omega), wrap_i64 (by omega) (by omega)]
      exact fin _ _ _ (by rw [hlen]) (by rw [hrune]; omega) hbad.symm
    | 1, _, hLm =>
      rw [hLm] at h194
      have h192 := h194.2.1 rfl
      have k2 := gk 2 (by omega) (by omega)
      rw [hLm, if_neg (by decide), if_pos rfl] at hrune
      have z1 : rAcc s i 1 = 64 * ((rune1 s i 1 : Int) - 128) + ((rune1 s i 2 : Int) - 128) := rfl
      rw [z1] at hac ⊢
      have e2 : ((L : Int) == 2) = false := by rw [hLm]; rfl
      have e : ((L : Int) == 3) = true := by rw [hLm]; rfl
      simp only [e2, e, cond_true, cond_false]
      refine ⟨b, 0, ⟨rfl, by omega, by omega⟩, (rune1 s i 0 : Nat), byte_at hbB hi, rfl, ?_⟩
      rw [wn, wrap_i64 (n := ((rune1 s i 0 : Nat) : Int) - 224) (by omega) (by omega), wrap_i64 (n := 4096 * (((rune1 s i 0 : Nat) : Int) - 224)) (by omega) (by omega), wrap_i64 (by omega) (by omega)]
      exact fin _ _ _ (by rw [hlen]) (by rw [hrune]; omega) hbad.symm
    | 2, _, hLm =>
      rw [hLm] at h194
      have h192 := h194.2.2 rfl
      have k2 := gk 2 (by omega) (by omega)
      have k3 := gk 3 (by omega) (by omega)
      rw [hLm, if_neg (by decide), if_neg (by decide)] at hrune
      have z1 : rAcc s i 2 = 64 * (64 * ((rune1 s i 1 : Int) - 128) + ((rune1 s i 2 : Int) - 128)) + ((rune1 s i 3 : Int) - 128) := rfl
      rw [z1] at hac ⊢
      have e2 : ((L : Int) == 2) = false := by rw [hLm]; rfl
      have e3 : ((L : Int) == 3) = false := by rw [hLm]; rfl
      have e : ((L : Int) == 4) = true := by rw [hLm]; rfl
      simp only [e2, e3, e, cond_true, cond_false]
      refine ⟨b, 0, ⟨rfl, by omega, by omega⟩, (rune1 s i 0 : Nat), byte_at hbB hi, rfl, ?_⟩
      rw [wn, wrap_i64 (n := ((rune1 s i 0 : Nat) : Int) - 240) (by omega) (by omega), wrap_i64 (n := 262144 * (((rune1 s i 0 : Nat) : Int) - 240)) (by omega) (by omega), wrap_i64 (by omega) (by omega)]
      exact fin _ _ _ (by rw [hlen]) (by rw [hrune]; omega) hbad.symm
end Go.Proofs.YtlkdhhkncoekgaaDoor
end

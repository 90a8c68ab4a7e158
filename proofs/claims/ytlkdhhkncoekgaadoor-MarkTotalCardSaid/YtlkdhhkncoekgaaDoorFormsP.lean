/- What the forms of mark do to a scanner of which Fine holds: colours, entities, tags. -/
import Derived.Test.YtlkdhhkncoekgaaDoorRunL
import Derived.Test.YtlkdhhkncoekgaaDoorFormVc

/- A colour of six digits. -/
section
namespace Go.Am
theorem toNat_and {a b : Int} (hb : 0 ≤ b) (hb2 : b < 9223372036854775808) : (BitVec.ofInt 64 a &&& BitVec.ofInt 64 b).toNat ≤ b.toNat := by
  rw [BitVec.toNat_and]
  refine Nat.le_trans Nat.and_le_right ?_
  rw [BitVec.toNat_ofInt]
  omega
theorem toNat_or {a b : Int} (n : Nat) (hn : n ≤ 62) (ha : 0 ≤ a) (ha2 : a.toNat < 2 ^ n) (hb : 0 ≤ b) (hb2 : b.toNat < 2 ^ n) : (BitVec.ofInt 64 a ||| BitVec.ofInt 64 b).toNat < 2 ^ n := by
  have hp : 2 ^ n ≤ 2 ^ 62 := Nat.pow_le_pow_right (by decide) hn
  have h62 : (2 : Nat) ^ 62 = 4611686018427387904 := by decide
  have e : ∀ x : Int, 0 ≤ x → x.toNat < 2 ^ n → (BitVec.ofInt 64 x).toNat = x.toNat := fun x h1 h2 => by
    rw [BitVec.toNat_ofInt]
    have : ((2 ^ 64 : Nat) : Int) = 18446744073709551616 := by decide
    rw [this]
    omega
  rw [BitVec.toNat_or, e a ha ha2, e b hb hb2]
  exact Nat.or_lt_two_pow ha2 hb2
theorem wrap_u8 {n : Int} (h : 0 ≤ n) (h' : n ≤ 255) : IntKind.u8.wrap n = n := by
  simp only [IntKind.wrap, IntKind.bits, IntKind.signed]
  have : n % (2 : Int) ^ 8 = n := Int.emod_eq_of_lt h (by omega)
  simp only [this, Bool.false_and]
  rfl
theorem pow16 {i : Nat} (h : i ≤ 6) : (16 : Int) ^ i ≤ 16777216 := by
  match i, h with
  | 0, _ => decide
  | 1, _ => decide
  | 2, _ => decide
  | 3, _ => decide
  | 4, _ => decide
  | 5, _ => decide
  | 6, _ => decide
end Go.Am
end

section
namespace Go.Proofs.YtlkdhhkncoekgaaDoor
open Go.Am Go

theorem bytes_read {s : List UInt8} {i : Nat} (h : i < s.length) : (byteCellsA s)[i]? = some (.int .u8 (s[i]).toNat) := by
  unfold byteCellsA
  rw [List.getElem?_map, List.getElem?_eq_getElem h]; rfl

set_option maxRecDepth 100000 in
theorem colour_S (s : List UInt8) (u : Bool) (H : AH) : ACallee Tryd.prog 50 [.str s, .bool u] H fun v H' =>
    ∃ (c : Int) (g : Bool), v = .tuple [.int .i64 c, .bool g] ∧ (g = true → 1 ≤ c ∧ c ≤ 16777216 ∧ 6 ≤ s.length) ∧ H.n ≤ H'.n ∧ ∀ b, b < H.n → H'.get b = H.get b := by
  obtain ⟨Q, hQ⟩ : ∃ Q : AV → AH → Prop, Q = fun v H' => ∃ (c : Int) (g : Bool), v = .tuple [.int .i64 c, .bool g] ∧ (g = true → 1 ≤ c ∧ c ≤ 16777216 ∧ 6 ≤ s.length) ∧ H.n ≤ H'.n ∧ ∀ b, b < H.n → H'.get b = H.get b := ⟨_, rfl⟩
  rw [← hQ]
  refine .inl ⟨goB_spec (by kernel_rfl), vcG_ok (anns := _) (rans := _) follows' (Eq.mpr (colour_vc (real Tryd.prog) (Iter Tryd.prog) s u H Q) ?_)⟩
  simp only [real_wrap, real_bs, real_rd1]
  have no : ∀ H' : AH, H.n ≤ H'.n → (∀ b, b < H.n → H'.get b = H.get b) → Q (.tuple [.int .i64 0, .bool false]) H' := fun H' h1 h2 => by
    rw [hQ]; exact ⟨0, false, rfl, (fun h => by cases h), h1, h2⟩
  by_cases h6 : (s.length : Int) < 6
  · simp only [h6, decide_true, cond_true]
    exact no H (Nat.le_refl _) fun b _ => rfl
  simp only [h6, decide_false, cond_false]
  have hl6 : (s.take 6).length = 6 := by rw [List.length_take]; omega
  obtain ⟨A, hA⟩ : ∃ A, A = H.alloc (.cells (byteCellsA (s.take 6)) 5 { opn := true, sish := true }) := ⟨_, rfl⟩
  have hconv : convV Tryd.prog H 9 39 (.str (s.take 6)) = some (.slice (some (H.n, 0)) 6 6, A) := by
    rw [hA]
    show some (AV.slice (some (H.n, 0)) (s.take 6).length (s.take 6).length, _) = _
    rw [hl6]
  refine ⟨by omega, _, _, _, A, hconv, fun x H' k => ∃ i : Nat, x.2 = (H.n, (i : Int)) ∧ i ≤ 6 ∧ 0 ≤ x.1 ∧ x.1 < 16 ^ i ∧ A = H' ∧ k = 6 - i, ⟨(0, H.n, 0), 6, rfl, 0, rfl, by omega, (show (0 : Int) ≤ 0 by decide), (show (0 : Int) < 16 ^ 0 by decide), rfl, rfl⟩, ?_⟩
  have an : A.n = H.n + 1 := by rw [hA]; rfl
  have ao : ∀ b, b < H.n → A.get b = H.get b := fun b hb => by rw [hA, AH.get_alloc, if_neg (by omega)]
  rintro ⟨v, b, i'⟩ _ _ ⟨i, e, hi, v0, v1, rfl, rfl⟩
  cases e
  simp only at v0 v1 ⊢
  have hp := pow16 hi
  by_cases hi6 : i < 6
  · have d : decide ((i : Int) < 6) = true := by rw [decide_eq_true_iff]; omega
    simp only [d, cond_true]
    obtain ⟨c, hc⟩ : ∃ c, c = (s.take 6)[i]'(by omega) := ⟨_, rfl⟩
    have hc0 : c.toNat < 256 := UInt8.toNat_lt c
    refine ⟨H.n, 0, ⟨rfl, by omega, by omega⟩, (c.toNat : Int), ?_, fun y H' => ∃ n : Int, y = ((v, H.n, (i : Int)), n) ∧ 0 ≤ n ∧ n ≤ 15 ∧ A = H', ?_, ?_⟩
    · have e0 : 0 + ((i : Int)).toNat * 1 = i := by omega
      have ag : A.get H.n = some (.cells (byteCellsA (s.take 6)) 5 { opn := true, sish := true }) := by rw [hA, AH.get_alloc, if_pos rfl]
      rw [e0]
      unfold AH.read1
      rw [ag, hc]
      exact bytes_read (by omega)
    · cases h1 : decide ((c.toNat : Int) ≥ 48) && decide ((c.toNat : Int) ≤ 57) with
      | true =>
        simp only [Bool.and_eq_true, decide_eq_true_eq] at h1
        simp only [cond_true]
        have w1 : IntKind.u8.wrap ((c.toNat : Int) - 48) = (c.toNat : Int) - 48 := wrap_u8 (by omega) (by omega)
        refine ⟨((v, H.n, (i : Int)), (c.toNat : Int) - 48), 0, trivial, ?_, _, rfl, by omega, by omega, (by trivial)⟩
        rw [w1, wrap_i64 (by omega) (by omega)]
      | false =>
        simp only [cond_false]
        obtain ⟨w, hw⟩ : ∃ w, w = IntKind.u8.wrap ((BitVec.ofInt IntKind.u8.bits (c.toNat : Int) ||| BitVec.ofInt IntKind.u8.bits 32).toNat : Int) := ⟨_, rfl⟩
        have hw' : IntKind.u8.wrap ((BitVec.ofInt 8 (c.toNat : Int) ||| BitVec.ofInt 8 32).toNat : Int) = w := hw.symm
        simp only [← hw, hw']
        cases h2 : decide (w ≥ 97) && decide (w ≤ 102) with
        | true =>
          simp only [Bool.and_eq_true, decide_eq_true_eq] at h2
          simp only [cond_true]
          have w1 : IntKind.u8.wrap (w - 97) = w - 97 := wrap_u8 (by omega) (by omega)
          refine ⟨((v, H.n, (i : Int)), w - 97 + 10), 0, trivial, ?_, _, rfl, by omega, by omega, (by trivial)⟩
          rw [w1, wrap_i64 (n := w - 97) (by omega) (by omega), wrap_i64 (by omega) (by omega)]
        | false =>
          simp only [cond_false]
          exact no A (by omega) ao
    · rintro _ _ ⟨n, rfl, n0, n1, rfl⟩
      have h16 : (16 : Int) ^ (i + 1) = 16 ^ i * 16 := Int.pow_succ ..
      have w1 : IntKind.i64.wrap (16 * v) = 16 * v := wrap_i64 (by omega) (by omega)
      have w2 : IntKind.i64.wrap (16 * v + n) = 16 * v + n := wrap_i64 (by omega) (by omega)
      have w3 : IntKind.i64.wrap ((i : Int) + 1) = ((i + 1 : Nat) : Int) := by rw [wrap_i64 (by omega) (by omega)]; omega
      refine ⟨(16 * v + n, H.n, ((i + 1 : Nat) : Int)), 6 - (i + 1), by omega, ?_, i + 1, rfl, by omega, by omega, by rw [h16]; omega, rfl, rfl⟩
      simp only [w1, w2, w3]
  · have d : decide ((i : Int) < 6) = false := by rw [decide_eq_false_iff_not]; omega
    simp only [d, cond_false]
    have hv : v < 16777216 := by omega
    cases u with
    | false =>
      simp only [cond_false]
      rw [hQ]
      refine ⟨v + 1, true, ?_, fun _ => ⟨by omega, by omega, by omega⟩, by omega, ao⟩
      rw [wrap_i64 (by omega) (by omega)]
    | true =>
      simp only [cond_true]
      refine ⟨by decide, by decide, ?_⟩
      have a1 := toNat_and (a := v) (b := 255) (by decide) (by decide)
      have a2 := toNat_and (a := v) (b := 65280) (by decide) (by decide)
      obtain ⟨x, hx⟩ : ∃ x, x = (BitVec.ofInt 64 v &&& BitVec.ofInt 64 255).toNat := ⟨_, rfl⟩
      obtain ⟨y, hy⟩ : ∃ y, y = (BitVec.ofInt 64 v &&& BitVec.ofInt 64 65280).toNat := ⟨_, rfl⟩
      rw [← hx] at a1
      rw [← hy] at a2
      have x1 : x ≤ 255 := by simpa using a1
      have y1 : y ≤ 65280 := by simpa using a2
      have wx : IntKind.i64.wrap (x : Int) = (x : Int) := wrap_i64 (by omega) (by omega)
      have wx2 : IntKind.i64.wrap ((x : Int) * 65536) = (x : Int) * 65536 := wrap_i64 (by omega) (by omega)
      have wy : IntKind.i64.wrap (y : Int) = (y : Int) := wrap_i64 (by omega) (by omega)
      have o1 := toNat_or (a := (x : Int) * 65536) (b := (y : Int)) 24 (by decide) (by omega) (by omega) (by omega) (by omega)
      obtain ⟨z, hz⟩ : ∃ z, z = (BitVec.ofInt 64 ((x : Int) * 65536) ||| BitVec.ofInt 64 (y : Int)).toNat := ⟨_, rfl⟩
      rw [← hz] at o1
      have z1 : z < 16777216 := o1
      have wz : IntKind.i64.wrap (z : Int) = (z : Int) := wrap_i64 (by omega) (by omega)
      have f1 : v.fdiv 65536 = v / 65536 := Int.fdiv_eq_ediv_of_nonneg v (by decide)
      have f2 : 0 ≤ v / 65536 ∧ v / 65536 < 256 := by omega
      have o2 := toNat_or (a := (z : Int)) (b := v.fdiv 65536) 24 (by decide) (by omega) (by omega) (by rw [f1]; omega) (by rw [f1]; omega)
      obtain ⟨t, ht⟩ : ∃ t, t = (BitVec.ofInt 64 (z : Int) ||| BitVec.ofInt 64 (v.fdiv 65536)).toNat := ⟨_, rfl⟩
      rw [← ht] at o2
      have t1 : t < 16777216 := o2
      simp only [← hx, ← hy, wx, wx2, wy, ← hz, wz, ← ht]
      rw [hQ]
      refine ⟨(t : Int) + 1, true, ?_, fun _ => ⟨by omega, by omega, by omega⟩, by omega, ao⟩
      rw [wrap_i64 (n := (t : Int)) (by omega) (by omega), wrap_i64 (by omega) (by omega)]
end Go.Proofs.YtlkdhhkncoekgaaDoor
end

/- What entities stand for. -/
section
namespace Go.Proofs.YtlkdhhkncoekgaaDoor
open Go.Am Go

def ecell (e : List UInt8 × List UInt8) : List AV := [.str e.1, .str e.2]

set_option maxRecDepth 100000 in
theorem entity_pure (s : List UInt8) : Pure Tryd.prog 24 [.str s] (.tuple [.str (entS s), .int .i64 (entN s)]) := by
  refine PureR.of_vcG follows' [⟨2, Nat × Int, [0, 12, 13, 14], fun x => [.str s, .slice (some (x.1, 0)) 6 6, .int .i64 6, .int .i64 x.2], fun _ _ _ => True⟩] [] (by kernel_rfl) rfl (by rintro v rfl; simp [AV.scal, AV.scals]) ?_
  rw [entity_vc]
  simp only [real_n, real_al, real_rd1, real_rdn, real_call, real_wr, real_wrap]
  obtain ⟨G, hG⟩ : ∃ G, G = emptyH Tryd.prog := ⟨_, rfl⟩
  rw [← hG]
  refine ⟨by decide, fun x H' k => ∃ i : Nat, x = (G.n, (i : Int)) ∧ i ≤ 6 ∧ (∀ j (h : j < entTab.length), j < i → pre s entTab[j].1 = false) ∧ H'.get G.n = some (.cells (flat ecell entTab) 99 { whole := true }) ∧ G.n < H'.n ∧ k = 6 - i,
    ⟨(G.n, 0), 6, rfl, 0, rfl, by omega, fun j _ h => absurd h (Nat.not_lt_zero j), by rw [AH.get_alloc, if_pos rfl]; rfl, by simp, rfl⟩, ?_⟩
  rintro _ H1 _ ⟨i, rfl, hi, hno, hg, hn, rfl⟩
  have tl : entTab.length = 6 := rfl
  by_cases hi6 : i < 6
  · have d : decide ((i : Int) < 6) = true := by rw [decide_eq_true_iff]; omega
    simp only [d, cond_true]
    obtain ⟨e, he⟩ : ∃ e, e = entTab[i] := ⟨_, rfl⟩
    have hr := read_flat (f := ecell) (w := 2) (fun _ => rfl) hg (i := i) (by omega)
    obtain ⟨A, hA⟩ : ∃ A, A = (H1.alloc (.cells [.str [], .str []] 99 { whole := true })).set H1.n (.cells [.str e.1, .str e.2] 99 { whole := true }) := ⟨_, rfl⟩
    have ag : A.get H1.n = some (.cells [.str e.1, .str e.2] 99 { whole := true }) := by rw [hA, AH.get_set, if_pos rfl]
    refine ⟨G.n, 0, ⟨rfl, by omega, by omega⟩, e.1, e.2, by rw [he]; exact hr, rfl, A, by rw [hA]; simp [AH.write, AH.get_alloc, splice, AV.one], ⟨by decide, by decide⟩, e.1, by unfold AH.read1; rw [ag]; rfl, ?_⟩
    refine (HasPrefix_pure s e.1).use1 ⟨_, rfl, ?_⟩
    cases hp : pre s e.1 with
    | true =>
      simp only [cond_true]
      refine ⟨⟨by decide, by decide⟩, e.2, by unfold AH.read1; rw [ag]; rfl, ⟨by decide, by decide⟩, e.1, by unfold AH.read1; rw [ag]; rfl, ?_⟩
      have hf : entOf s = some e := by
        unfold entOf
        rw [List.find?_eq_some_iff_getElem]
        refine ⟨hp, i, by omega, he.symm, fun j hj => ?_⟩
        rw [hno j (by omega) hj]; rfl
      have e1 : entS s = e.2 := by unfold entS; rw [hf]
      have e2 : entN s = e.1.length := by unfold entN; rw [hf]
      rw [e1, e2]
    | false =>
      simp only [cond_false]
      have w3 : IntKind.i64.wrap ((i : Int) + 1) = ((i + 1 : Nat) : Int) := by rw [wrap_i64 (by omega) (by omega)]; omega
      refine ⟨(G.n, ((i + 1 : Nat) : Int)), 6 - (i + 1), by omega, by rw [w3], i + 1, rfl, by omega, fun j hj hji => ?_, ?_, ?_, rfl⟩
      · rcases Nat.lt_or_ge j i with g | g
        · exact hno j hj g
        · obtain rfl : j = i := by omega
          rw [he] at hp; exact hp
      · rw [hA, AH.get_set, if_neg (by omega), AH.get_alloc, if_neg (by omega)]; exact hg
      · rw [hA]; simp only [AH.n_set, AH.n_alloc]; omega
  · have d : decide ((i : Int) < 6) = false := by rw [decide_eq_false_iff_not]; omega
    simp only [d, cond_false]
    have hf : entOf s = none := by
      unfold entOf
      rw [List.find?_eq_none]
      intro e he
      obtain ⟨j, hj, rfl⟩ := List.getElem_of_mem he
      rw [hno j hj (by omega)]; exact Bool.false_ne_true
    have e1 : entS s = [] := by unfold entS; rw [hf]
    have e2 : entN s = 0 := by unfold entN; rw [hf]
    rw [e1, e2]; rfl
end Go.Proofs.YtlkdhhkncoekgaaDoor
end

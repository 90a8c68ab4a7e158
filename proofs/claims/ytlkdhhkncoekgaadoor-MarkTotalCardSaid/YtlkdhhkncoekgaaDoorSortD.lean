/- Rows of spans of any length are put in order. -/
import Derived.Test.YtlkdhhkncoekgaaDoorSortC
namespace Go.Proofs.YtlkdhhkncoekgaaDoor
open Go.Am Go

set_option maxHeartbeats 1000000 in
set_option maxRecDepth 100000 in
theorem symMerge_S : ∀ (D0 : Nat) {H : AH} {bk n a m b : Nat} {f : Nat → Spn}, D0 = b - a → Holds H bk f n → n ≤ 1000000 → a < m → m < b → b ≤ n → Srt f a m → Srt f m b →
    ACallee Tryd.prog 117 [D bk n, .int .i64 a, .int .i64 m, .int .i64 b, Fc] H (fun v H' => ∃ g, Left H bk n g v H' ∧ Srt g a b ∧ Rearr n a b g f) := by
  intro D0
  induction D0 using Nat.strongRecOn with
  | ind D0 ih =>
  intro H bk n a m b f hD h hn h1 h2 hb s1 s2
  refine .inl ⟨goB_spec (by kernel_rfl), vcG_ok (anns := _) (rans := _) follows' (Eq.mpr (symMerge_vc (real Tryd.prog) (Iter Tryd.prog) bk n a m b H _) ?_)⟩
  simp only [real_rdn, real_wr, real_wrap, real_call]
  obtain ⟨Z, hZ⟩ : ∃ Z : (Nat → Spn) → AH → Prop, Z = fun g H' => Holds H' bk g n ∧ H.n ≤ H'.n ∧ ∀ c, c < H.n → c ≠ bk → H'.get c = H.get c := ⟨_, rfl⟩
  have z0 : Z f H := by rw [hZ]; exact ⟨h, Nat.le_refl _, fun c _ _ => rfl⟩
  have fin : ∀ {g : Nat → Spn} {H' : AH}, Z g H' → Srt g a b → Rearr n a b g f → ∃ g, Left H bk n g (.tuple []) H' ∧ Srt g a b ∧ Rearr n a b g f := fun {g H'} hz hs hr => by
    rw [hZ] at hz; exact ⟨g, ⟨rfl, hz.1, hz.2.1, hz.2.2⟩, hs, hr⟩
  have w1 : ∀ i : Nat, i ≤ 4000000 → IntKind.i64.wrap ((i : Int) + 1) = ((i + 1 : Nat) : Int) := fun i hi => by rw [wrap_i64 (by omega) (by omega)]; omega
  have wm1 : ∀ i : Nat, 0 < i → i ≤ 4000000 → IntKind.i64.wrap ((i : Int) - 1) = ((i - 1 : Nat) : Int) := fun i h0 hi => by rw [wrap_i64 (by omega) (by omega)]; omega
  have wma : IntKind.i64.wrap ((m : Int) - (a : Int)) = ((m - a : Nat) : Int) := by rw [wrap_i64 (by omega) (by omega)]; omega
  have wbm : IntKind.i64.wrap ((b : Int) - (m : Int)) = ((b - m : Nat) : Int) := by rw [wrap_i64 (by omega) (by omega)]; omega
  rw [wma]
  by_cases c1 : m = a + 1
  · have d1 : (((m - a : Nat) : Int) == 1) = true := by rw [beq_iff_eq]; omega
    simp only [d1, cond_true]
    subst c1
    refine ⟨fun x H' k => ∃ i j : Nat, x = ((i : Int), (j : Int)) ∧ a + 1 ≤ i ∧ i ≤ j ∧ j ≤ b ∧ H = H' ∧ (i = a + 1 ∨ ltS (f (i - 1)) (f a) = true) ∧ (j = b ∨ ltS (f j) (f a) = false) ∧ k = j - i,
      ⟨(((a + 1 : Nat) : Int), (b : Int)), b - (a + 1), rfl, a + 1, b, rfl, Nat.le_refl _, by omega, Nat.le_refl _, rfl, .inl rfl, .inl rfl, rfl⟩, ?_⟩
    rintro _ _ _ ⟨i, j, rfl, hi, hij, hjb, rfl, q1, q2, rfl⟩
    by_cases hlt : i < j
    · have d2 : decide ((i : Int) < (j : Int)) = true := by rw [decide_eq_true_iff]; omega
      have hmid := mid_eq i j (by omega)
      obtain ⟨c, hc⟩ : ∃ c, c = (i + j) / 2 := ⟨_, rfl⟩
      rw [← hc] at hmid
      have hcb : i ≤ c ∧ c < j := by omega
      simp only [d2, cond_true, hmid, w1 c (by omega)]
      refine ⟨by decide, bk, 0, ⟨rfl, by omega, by omega⟩, _, _, _, _, h.read (by omega), bk, 0, ⟨rfl, by omega, by omega⟩, _, _, _, _, h.read (by omega), ?_⟩
      refine (cmpS_pure (f c) (f a)).use1 ⟨_, rfl, ?_⟩
      rw [cmpI_lt]
      cases hl : ltS (f c) (f a) with
      | true =>
        simp only [cond_true]
        exact ⟨(((c + 1 : Nat) : Int), (j : Int)), j - (c + 1), by omega, rfl, c + 1, j, rfl, by omega, by omega, hjb, (by trivial), .inr hl, q2, rfl⟩
      | false =>
        simp only [cond_false]
        exact ⟨((i : Int), (c : Int)), c - i, by omega, rfl, i, c, rfl, hi, by omega, by omega, (by trivial), q1, .inr hl, rfl⟩
    · have d2 : decide ((i : Int) < (j : Int)) = false := by rw [decide_eq_false_iff_not]; omega
      simp only [d2, cond_false]
      obtain rfl : i = j := by omega
      refine ⟨fun x H' k => ∃ kk : Nat, x = ((i : Int), (kk : Int)) ∧ a ≤ kk ∧ kk + 1 ≤ i ∧ Z (rotF f a (a + 1) (kk + 1)) H' ∧ PermN n (rotF f a (a + 1) (kk + 1)) f ∧ k = i - 1 - kk,
        ⟨((i : Int), (a : Int)), i - 1 - a, rfl, a, rfl, Nat.le_refl _, by omega, ?_, ?_, rfl⟩, ?_⟩
      · rw [rot_none (.inr rfl) (by omega) (Nat.le_refl _)]; exact z0
      · rw [rot_none (.inr rfl) (by omega) (Nat.le_refl _)]; exact PermN.refl n f
      rintro _ H3 _ ⟨kk, rfl, hk1, hk2, hz, hp, rfl⟩
      have wmi := wm1 i (by omega) (by omega)
      by_cases hk : kk < i - 1
      · have d3 : decide ((kk : Int) < ((i - 1 : Nat) : Int)) = true := by rw [decide_eq_true_iff]; omega
        simp only [wmi, d3, cond_true, w1 kk (by omega)]
        have hz' := hz
        rw [hZ] at hz'
        obtain ⟨y1, y2, y3⟩ := hz'
        obtain ⟨H4, u1, u2, u3, u4⟩ := y1.write (i := kk) (by omega) (rotF f a (a + 1) (kk + 1) (kk + 1))
        obtain ⟨H5, v1, v2, v3, v4⟩ := u2.write (i := kk + 1) (by omega) (rotF f a (a + 1) (kk + 1) kk)
        rw [upd_swp, up_step hk1] at v2
        refine ⟨bk, 0, ⟨rfl, by omega, by omega⟩, _, _, _, _, y1.read (by omega), bk, 0, ⟨rfl, by omega, by omega⟩, _, _, _, _, y1.read (by omega), bk, 0, ⟨rfl, by omega, by omega⟩, rfl, H4, u1, bk, 0, ⟨rfl, by omega, by omega⟩, rfl, H5, v1, ((i : Int), ((kk + 1 : Nat) : Int)), i - 1 - (kk + 1), by omega, rfl, kk + 1, rfl, by omega, by omega, ?_, ?_, rfl⟩
        · rw [hZ]; exact ⟨v2, by omega, fun c hc hcb => by rw [v4 c hcb, u4 c hcb]; exact y3 c hc hcb⟩
        · rw [← up_step hk1]; exact (PermN.swp (by omega) (by omega)).trans hp
      · have d3 : decide ((kk : Int) < ((i - 1 : Nat) : Int)) = false := by rw [decide_eq_false_iff_not]; omega
        simp only [wmi, d3, cond_false]
        have e : kk + 1 = i := by omega
        rw [e] at hz hp
        exact fin hz (up_done s2 hi hjb q1 q2) (Rearr.rot hp (Nat.le_refl _) (by omega) hi hjb)
  · have d1 : (((m - a : Nat) : Int) == 1) = false := by rw [beq_eq_false_iff_ne]; omega
    simp only [d1, cond_false]
    rw [wbm]
    by_cases c2 : b = m + 1
    · have d2 : (((b - m : Nat) : Int) == 1) = true := by rw [beq_iff_eq]; omega
      simp only [d2, cond_true]
      subst c2
      refine ⟨fun x H' k => ∃ i j : Nat, x = ((i : Int), (j : Int)) ∧ a ≤ i ∧ i ≤ j ∧ j ≤ m ∧ H = H' ∧ (i = a ∨ ltS (f m) (f (i - 1)) = false) ∧ (j = m ∨ ltS (f m) (f j) = true) ∧ k = j - i,
        ⟨((a : Int), (m : Int)), m - a, rfl, a, m, rfl, Nat.le_refl _, by omega, Nat.le_refl _, rfl, .inl rfl, .inl rfl, rfl⟩, ?_⟩
      rintro _ _ _ ⟨i, j, rfl, hi, hij, hjm, rfl, q1, q2, rfl⟩
      by_cases hlt : i < j
      · have d3 : decide ((i : Int) < (j : Int)) = true := by rw [decide_eq_true_iff]; omega
        have hmid := mid_eq i j (by omega)
        obtain ⟨c, hc⟩ : ∃ c, c = (i + j) / 2 := ⟨_, rfl⟩
        rw [← hc] at hmid
        have hcb : i ≤ c ∧ c < j := by omega
        simp only [d3, cond_true, hmid, w1 c (by omega)]
        refine ⟨by decide, bk, 0, ⟨rfl, by omega, by omega⟩, _, _, _, _, h.read (by omega), bk, 0, ⟨rfl, by omega, by omega⟩, _, _, _, _, h.read (by omega), ?_⟩
        refine (cmpS_pure (f m) (f c)).use1 ⟨_, rfl, ?_⟩
        rw [cmpI_lt]
        cases hl : ltS (f m) (f c) with
        | false =>
          simp only [Bool.not_false, cond_true]
          exact ⟨(((c + 1 : Nat) : Int), (j : Int)), j - (c + 1), by omega, rfl, c + 1, j, rfl, by omega, by omega, hjm, (by trivial), .inr hl, q2, rfl⟩
        | true =>
          simp only [Bool.not_true, cond_false]
          exact ⟨((i : Int), (c : Int)), c - i, by omega, rfl, i, c, rfl, hi, by omega, by omega, (by trivial), q1, .inr hl, rfl⟩
      · have d3 : decide ((i : Int) < (j : Int)) = false := by rw [decide_eq_false_iff_not]; omega
        simp only [d3, cond_false]
        obtain rfl : i = j := by omega
        refine ⟨fun x H' k => ∃ kk : Nat, x = ((i : Int), (kk : Int)) ∧ i ≤ kk ∧ kk ≤ m ∧ Z (rotF f kk m (m + 1)) H' ∧ PermN n (rotF f kk m (m + 1)) f ∧ k = kk - i,
          ⟨((i : Int), (m : Int)), m - i, rfl, m, rfl, hjm, Nat.le_refl _, ?_, ?_, rfl⟩, ?_⟩
        · rw [rot_none (.inl rfl) (Nat.le_refl _) (by omega)]; exact z0
        · rw [rot_none (.inl rfl) (Nat.le_refl _) (by omega)]; exact PermN.refl n f
        rintro _ H3 _ ⟨kk, rfl, hk1, hk2, hz, hp, rfl⟩
        by_cases hk : i < kk
        · have d4 : decide ((kk : Int) > (i : Int)) = true := by rw [decide_eq_true_iff]; omega
          simp only [d4, cond_true, wm1 kk (by omega) (by omega)]
          have hz' := hz
          rw [hZ] at hz'
          obtain ⟨y1, y2, y3⟩ := hz'
          obtain ⟨H4, u1, u2, u3, u4⟩ := y1.write (i := kk) (by omega) (rotF f kk m (m + 1) (kk - 1))
          obtain ⟨H5, v1, v2, v3, v4⟩ := u2.write (i := kk - 1) (by omega) (rotF f kk m (m + 1) kk)
          rw [upd_swp, down_step hk2 (by omega)] at v2
          refine ⟨bk, 0, ⟨rfl, by omega, by omega⟩, _, _, _, _, y1.read (by omega), bk, 0, ⟨rfl, by omega, by omega⟩, _, _, _, _, y1.read (by omega), bk, 0, ⟨rfl, by omega, by omega⟩, rfl, H4, u1, bk, 0, ⟨rfl, by omega, by omega⟩, rfl, H5, v1, ((i : Int), ((kk - 1 : Nat) : Int)), kk - 1 - i, by omega, rfl, kk - 1, rfl, by omega, by omega, ?_, ?_, rfl⟩
          · rw [hZ]; exact ⟨v2, by omega, fun c hc hcb => by rw [v4 c hcb, u4 c hcb]; exact y3 c hc hcb⟩
          · rw [← down_step hk2 (by omega)]; exact (PermN.swp (by omega) (by omega)).trans hp
        · have d4 : decide ((kk : Int) > (i : Int)) = false := by rw [decide_eq_false_iff_not]; omega
          simp only [d4, cond_false]
          obtain rfl : kk = i := by omega
          exact fin hz (down_done s1 hi hjm q1 q2) (Rearr.rot hp hi hjm (by omega) (Nat.le_refl _))
    · have d2 : (((b - m : Nat) : Int) == 1) = false := by rw [beq_eq_false_iff_ne]; omega
      simp only [d2, cond_false]
      have hmid := mid_eq a b (by omega)
      obtain ⟨mid, hm⟩ : ∃ mid, mid = (a + b) / 2 := ⟨_, rfl⟩
      rw [← hm] at hmid
      have e2 : (2 : Int) ^ min (Int.toNat 1) IntKind.u64.bits = 2 := rfl
      have wnn : IntKind.i64.wrap ((mid : Int) + (m : Int)) = ((mid + m : Nat) : Int) := by rw [wrap_i64 (by omega) (by omega)]; omega
      have wnb : IntKind.i64.wrap (((mid + m : Nat) : Int) - (b : Int)) = ((mid + m : Nat) : Int) - (b : Int) := wrap_i64 (by omega) (by omega)
      simp only [e2, hmid, wnn, wnb]
      refine ⟨by decide, fun x H' => H = H' ∧ ∃ lo r : Nat, x = ((mid : Int), ((mid + m : Nat) : Int), (lo : Int), (r : Int)) ∧ ((mid < m ∧ lo = mid + m - b ∧ r = mid) ∨ (m ≤ mid ∧ lo = a ∧ r = m)), ?_, ?_⟩
      · by_cases hgt : mid < m
        · have d3 : decide ((m : Int) > (mid : Int)) = true := by rw [decide_eq_true_iff]; omega
          simp only [d3, cond_true]
          refine ⟨((mid : Int), ((mid + m : Nat) : Int), ((mid + m - b : Nat) : Int), (mid : Int)), 0, trivial, ?_, trivial, mid + m - b, mid, rfl, .inl ⟨hgt, rfl, rfl⟩⟩
          rw [show ((mid + m : Nat) : Int) - (b : Int) = ((mid + m - b : Nat) : Int) by omega]
        · have d3 : decide ((m : Int) > (mid : Int)) = false := by rw [decide_eq_false_iff_not]; omega
          simp only [d3, cond_false]
          exact ⟨((mid : Int), ((mid + m : Nat) : Int), (a : Int), (m : Int)), 0, trivial, rfl, trivial, a, m, rfl, .inr ⟨by omega, rfl, rfl⟩⟩
      rintro _ _ ⟨rfl, lo, r0, rfl, hlr⟩
      refine ⟨fun x H' k => H = H' ∧ ∃ s r : Nat, x = ((mid : Int), ((mid + m : Nat) : Int), (s : Int), (r : Int), ((mid + m - 1 : Nat) : Int)) ∧ lo ≤ s ∧ s ≤ r ∧ r ≤ r0 ∧ (s = lo ∨ ltS (f (mid + m - s)) (f (s - 1)) = false) ∧ (r = r0 ∨ ltS (f (mid + m - 1 - r)) (f r) = true) ∧ k = r - s,
        ⟨((mid : Int), ((mid + m : Nat) : Int), (lo : Int), (r0 : Int), ((mid + m - 1 : Nat) : Int)), r0 - lo, ?_, rfl, lo, r0, rfl, Nat.le_refl _, by omega, Nat.le_refl _, .inl rfl, .inl rfl, rfl⟩, ?_⟩
      · rw [wm1 (mid + m) (by omega) (by omega)]
      rintro _ _ _ ⟨rfl, s, r, rfl, hs1, hs2, hs3, q1, q2, rfl⟩
      by_cases hlt : s < r
      · have d3 : decide ((s : Int) < (r : Int)) = true := by rw [decide_eq_true_iff]; omega
        have hmc := mid_eq s r (by omega)
        obtain ⟨c, hc⟩ : ∃ c, c = (s + r) / 2 := ⟨_, rfl⟩
        rw [← hc] at hmc
        have hcb : s ≤ c ∧ c < r := by omega
        have wpc : IntKind.i64.wrap (((mid + m - 1 : Nat) : Int) - (c : Int)) = ((mid + m - 1 - c : Nat) : Int) := by rw [wrap_i64 (by omega) (by omega)]; omega
        simp only [d3, cond_true, hmc, wpc, w1 c (by omega)]
        refine ⟨by decide, bk, 0, ⟨rfl, by omega, by omega⟩, _, _, _, _, h.read (by omega), bk, 0, ⟨rfl, by omega, by omega⟩, _, _, _, _, h.read (by omega), ?_⟩
        refine (cmpS_pure (f (mid + m - 1 - c)) (f c)).use1 ⟨_, rfl, ?_⟩
        rw [cmpI_lt]
        cases hl : ltS (f (mid + m - 1 - c)) (f c) with
        | false =>
          simp only [Bool.not_false, cond_true]
          refine ⟨((mid : Int), ((mid + m : Nat) : Int), ((c + 1 : Nat) : Int), (r : Int), ((mid + m - 1 : Nat) : Int)), r - (c + 1), by omega, rfl, trivial, c + 1, r, rfl, by omega, by omega, hs3, .inr ?_, q2, rfl⟩
          rw [show mid + m - (c + 1) = mid + m - 1 - c by omega]; exact hl
        | true =>
          simp only [Bool.not_true, cond_false]
          exact ⟨((mid : Int), ((mid + m : Nat) : Int), (s : Int), (c : Int), ((mid + m - 1 : Nat) : Int)), c - s, by omega, rfl, trivial, s, c, rfl, hs1, by omega, by omega, q1, .inr hl, rfl⟩
      have d3 : decide ((s : Int) < (r : Int)) = false := by rw [decide_eq_false_iff_not]; omega
      simp only [d3, cond_false]
      obtain rfl : s = r := by omega
      obtain ⟨e, he⟩ : ∃ e, e = mid + m - s := ⟨_, rfl⟩
      have we : IntKind.i64.wrap (((mid + m : Nat) : Int) - (s : Int)) = (e : Int) := by rw [wrap_i64 (by omega) (by omega)]; omega
      have hsm : a ≤ s ∧ s ≤ m := by omega
      have hem : m ≤ e ∧ e ≤ b := by omega
      have hmd : mid = s + (e - m) := by omega
      obtain ⟨t1, t2, t3, t4, t5⟩ := turned (s := s) (e := e) s1 s2 hsm hem (by
        rcases q1 with q1 | q1
        · omega
        · right; right; rw [he]; exact q1) (by
        rcases q2 with q2 | q2
        · omega
        · right; right; rw [show e - 1 = mid + m - 1 - s by omega]; exact q2)
      rw [← hmd] at t2 t3 t5
      obtain ⟨G, hG⟩ : ∃ G, G = rotF f s m e := ⟨_, rfl⟩
      rw [← hG] at t1 t2 t3 t4 t5
      simp only [we]
      refine ⟨fun x H' => x = ((mid : Int), (s : Int), (e : Int)) ∧ Z G H' ∧ Rearr n a b G f, ?_, ?_⟩
      · by_cases hc : s < m ∧ m < e
        · have d4 : (decide ((s : Int) < (m : Int)) && decide ((m : Int) < (e : Int))) = true := by rw [Bool.and_eq_true, decide_eq_true_iff, decide_eq_true_iff]; omega
          simp only [d4, cond_true]
          refine (rotate_S h hn hc.1 hc.2 (by omega)).mono ?_
          rintro v H3 ⟨⟨rfl, g1, g2, g3⟩, hp⟩
          refine ⟨((mid : Int), (s : Int), (e : Int)), 0, trivial, rfl, rfl, ?_, ?_⟩
          · rw [hZ, hG]; exact ⟨g1, g2, g3⟩
          · rw [hG]; exact Rearr.rot hp hsm.1 hsm.2 hem.1 hem.2
        · have d4 : (decide ((s : Int) < (m : Int)) && decide ((m : Int) < (e : Int))) = false := by
            rw [Bool.and_eq_false_iff, decide_eq_false_iff_not, decide_eq_false_iff_not]; omega
          simp only [d4, cond_false]
          have eG : G = f := by rw [hG]; exact rot_none (by omega) hsm.2 hem.1
          refine ⟨((mid : Int), (s : Int), (e : Int)), 0, trivial, rfl, rfl, ?_, ?_⟩
          · rw [eG]; exact z0
          · rw [eG]; exact Rearr.refl n a b f
      rintro _ H4 ⟨rfl, hz4, hr4⟩
      refine ⟨fun x H' => x = ((mid : Int), (s : Int), (e : Int)) ∧ ∃ g1, Z g1 H' ∧ Rearr n a mid g1 G ∧ Srt g1 a mid, ?_, ?_⟩
      · by_cases hc : a < s ∧ s < mid
        · have d4 : (decide ((a : Int) < (s : Int)) && decide ((s : Int) < (mid : Int))) = true := by rw [Bool.and_eq_true, decide_eq_true_iff, decide_eq_true_iff]; omega
          simp only [d4, cond_true]
          have hz4' := hz4
          rw [hZ] at hz4'
          obtain ⟨y1, y2, y3⟩ := hz4'
          refine (ih (mid - a) (by omega) (a := a) (b := mid) rfl y1 hn hc.1 hc.2 (by omega) t1 t2).mono ?_
          rintro v H5 ⟨g, ⟨rfl, k1, k2, k3⟩, hsg, hrg⟩
          refine ⟨((mid : Int), (s : Int), (e : Int)), 0, trivial, rfl, rfl, g, ?_, hrg, hsg⟩
          rw [hZ]; exact ⟨k1, by omega, fun c hc hcb => by rw [k3 c (by omega) hcb]; exact y3 c hc hcb⟩
        · have d4 : (decide ((a : Int) < (s : Int)) && decide ((s : Int) < (mid : Int))) = false := by
            rw [Bool.and_eq_false_iff, decide_eq_false_iff_not, decide_eq_false_iff_not]; omega
          simp only [d4, cond_false]
          refine ⟨((mid : Int), (s : Int), (e : Int)), 0, trivial, rfl, rfl, G, hz4, Rearr.refl n a mid G, ?_⟩
          by_cases hsa : s = a
          · rw [← hsa]; exact t2
          · have : s = mid := by omega
            rw [← this]; exact t1
      rintro _ H5 ⟨rfl, g1, hz5, hr5, hs5⟩
      have o5 : ∀ x, mid ≤ x → g1 x = G x := fun x hx => hr5.out x (.inr hx)
      have u3 : Srt g1 mid e := t3.congr fun i hi _ => o5 i hi
      have u4 : Srt g1 e b := t4.congr fun i hi _ => o5 i (by omega)
      have last : ∀ {g2 : Nat → Spn} {H' : AH}, Z g2 H' → Rearr n mid b g2 g1 → Srt g2 mid b → ∃ g, Left H bk n g (.tuple []) H' ∧ Srt g a b ∧ Rearr n a b g f := by
        intro g2 H' hz hr hs
        exact fin hz (merged hr5 hr hs5 hs (by omega) t5) ((hr.sub (by omega) (Nat.le_refl _)).trans ((hr5.sub (Nat.le_refl _) (by omega)).trans hr4))
      by_cases hc : mid < e ∧ e < b
      · have d4 : (decide ((mid : Int) < (e : Int)) && decide ((e : Int) < (b : Int))) = true := by rw [Bool.and_eq_true, decide_eq_true_iff, decide_eq_true_iff]; omega
        simp only [d4, cond_true]
        have hz5' := hz5
        rw [hZ] at hz5'
        obtain ⟨y1, y2, y3⟩ := hz5'
        refine (ih (b - mid) (by omega) (a := mid) (b := b) rfl y1 hn hc.1 hc.2 hb u3 u4).mono ?_
        rintro v H6 ⟨g, ⟨rfl, k1, k2, k3⟩, hsg, hrg⟩
        refine last ?_ hrg hsg
        rw [hZ]; exact ⟨k1, by omega, fun c hc hcb => by rw [k3 c (by omega) hcb]; exact y3 c hc hcb⟩
      · have d4 : (decide ((mid : Int) < (e : Int)) && decide ((e : Int) < (b : Int))) = false := by
          rw [Bool.and_eq_false_iff, decide_eq_false_iff_not, decide_eq_false_iff_not]; omega
        simp only [d4, cond_false]
        refine last hz5 (Rearr.refl n mid b g1) ?_
        by_cases hme : e = mid
        · rw [← hme]; exact u4
        · have : e = b := by omega
          rw [← this]; exact u3
end Go.Proofs.YtlkdhhkncoekgaaDoor

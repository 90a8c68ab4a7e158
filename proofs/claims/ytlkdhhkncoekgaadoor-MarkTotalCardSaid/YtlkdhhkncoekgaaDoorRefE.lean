/- The spans of a normal form, by the reference's functions. -/
import Derived.Test.YtlkdhhkncoekgaaDoorRefD

section
namespace Go.Proofs.YtlkdhhkncoekgaaDoor
open Go.Am Go

theorem layAll_snoc (a : List Spn) (x : Spn) : layAll (a ++ [x]) = layL (layAll a) x := by rw [layAll_append]; rfl
theorem layAll_length (a : List Spn) : (layAll a).length = a.length := (layAll_spec a).2.length_eq

structure NZ (H H' : AH) (n : Nat) (cut : Nat → Bool) (qo : Option Nat) (out : List Spn) (qm : Option Nat) (mine : List Spn) : Prop where
  old : ∀ c, c < H.n → H'.get c = H.get c
  cut : H'.get H.n = some (.cells (bcells cut n) 4 {})
  lt : H.n < H'.n
  out : Lies H' qo out.length (flat Spn.cells out) 41
  bo : ∀ c, qo = some c → H.n < c ∧ c < H'.n
  mine : Lies H' qm mine.length (flat Spn.cells mine) 41
  bm : ∀ c, qm = some c → H.n < c ∧ c < H'.n ∧ qo ≠ some c
theorem NZ.keep {H H1 H2 : AH} {n : Nat} {cut : Nat → Bool} {qo : Option Nat} {out : List Spn} {qm : Option Nat} {mine : List Spn} (h : NZ H H1 n cut qo out qm mine) (hn : H1.n ≤ H2.n) (k : ∀ c, c < H1.n → H2.get c = H1.get c) : NZ H H2 n cut qo out qm mine := by
  have := h.lt
  exact ⟨fun c hc => by rw [k c (by omega)]; exact h.old c hc, by rw [k _ h.lt]; exact h.cut, by omega, h.out.same fun b hb => k b (h.bo b hb).2, fun c hc => by have := h.bo c hc; omega, h.mine.same fun b hb => k b (h.bm b hb).2.1, fun c hc => by have := h.bm c hc; exact ⟨this.1, by omega, this.2.2⟩⟩

set_option maxRecDepth 100000 in
theorem rNormal_S (L : List Look) (hL : L.length ≤ 4096) (hc : ∀ a ∈ L, 0 ≤ a.c ∧ a.c ≤ 16777216) (h256 : (spans L).length ≤ 256) {H : AH} {q : Option Nat} (hq : LooksAt H q L) :
    ACallee Tryd.prog 58 [sl q L.length] H fun v H' =>
      ∃ q', v = .tuple [sl q' (layAll (spans L)).length, .bool true] ∧ Lies H' q' (layAll (spans L)).length (flat Spn.cells (layAll (spans L))) 41 ∧ (∀ b, q' = some b → H.n ≤ b ∧ b < H'.n) ∧ H.n ≤ H'.n ∧ ∀ c, c < H.n → H'.get c = H.get c := by
  obtain ⟨Q, hQ⟩ : ∃ Q : AV → AH → Prop, Q = fun v H' => ∃ q', v = .tuple [sl q' (layAll (spans L)).length, .bool true] ∧ Lies H' q' (layAll (spans L)).length (flat Spn.cells (layAll (spans L))) 41 ∧ (∀ b, q' = some b → H.n ≤ b ∧ b < H'.n) ∧ H.n ≤ H'.n ∧ ∀ c, c < H.n → H'.get c = H.get c := ⟨_, rfl⟩
  rw [← hQ]
  obtain ⟨n, hn⟩ : ∃ n, n = L.length := ⟨_, rfl⟩
  refine .inl ⟨goB_spec (by kernel_rfl), vcG_ok (anns := _) (rans := _) follows' (Eq.mpr (rNormal_vc (real Tryd.prog) (Iter Tryd.prog) (q.map fun b => (b, 0)) L.length H Q) ?_)⟩
  simp only [real_n, real_al, real_rd1, real_rdn, real_call, real_wr, real_wrap, real_app, real_mks]
  rw [← hn] at hL ⊢
  have e1 : IntKind.i64.wrap ((n : Int) + 1) = ((n + 1 : Nat) : Int) := by rw [wrap_i64 (by omega) (by omega)]; omega
  rw [e1]
  have rd : ∀ {H' : AH} {i : Nat}, (∀ c, c < H.n → H'.get c = H.get c) → (h : i < L.length) → ∃ b, q = some b ∧ H'.read b (0 + i * 5) 5 = some L[i].cells := by
    intro H' i ho hi
    cases q with
    | none => rw [show L = [] from hq] at hi; cases hi
    | some b =>
      obtain ⟨h1, fl, h2⟩ := hq
      exact ⟨b, rfl, read_flat Look.cells_length (by rw [ho b h1]; exact h2) hi⟩
  refine ⟨_, _, _, _, makeBools H (n + 1) (by omega), ?_⟩
  have hz0 : NZ H (H.alloc (.cells (repCells [.bool false] (n + 1)) 4 {})) n (fun _ => false) none [] none [] :=
    ⟨fun c hc => by rw [AH.get_alloc, if_neg (by omega)], by rw [AH.get_alloc, if_pos rfl, bcells_zero], by simp, ⟨rfl, rfl⟩, (fun c h => by cases h), ⟨rfl, rfl⟩, (fun c h => by cases h)⟩
  refine ⟨fun x H' j => ∃ k qo, k ≤ 5 ∧ x = ((n : Int), (some (H.n, 0), n + 1), (qo.map (fun b => (b, 0)), (layAll (kindsTo L k).1).length), ((k + 1 : Nat) : Int)) ∧ NZ H H' n (kindsTo L k).2 qo (layAll (kindsTo L k).1) none [] ∧ j = 5 - k,
    ⟨((n : Int), (some (H.n, 0), n + 1), (none, 0), 1), 5, rfl, 0, none, by omega, rfl, hz0, rfl⟩, ?_⟩
  rintro _ H1 j1 ⟨k, qo, hk, rfl, hz, rfl⟩
  simp only
  by_cases hk5 : k < 5
  · have d1 : decide (((k + 1 : Nat) : Int) ≤ 5) = true := by rw [decide_eq_true_iff]; omega
    simp only [d1, cond_true]
    obtain ⟨K, hK⟩ : ∃ K, K = kindsTo L k := ⟨_, rfl⟩
    obtain ⟨kd, hkd⟩ : ∃ kd : Int, kd = ((k + 1 : Nat) : Int) := ⟨_, rfl⟩
    have kd1 : 1 ≤ kd ∧ kd ≤ 5 := by omega
    rw [← hK] at hz
    rw [← hK, ← hkd]
    obtain ⟨out, hout⟩ : ∃ out, out = layAll K.1 := ⟨_, rfl⟩
    have hol : out.length = K.1.length := by rw [hout, layAll_length]
    rw [← hout] at hz ⊢
    obtain ⟨S0, hS0⟩ : ∃ S0, S0 = spansAt (val L kd) K.2 n kd 0 := ⟨_, rfl⟩
    have hsum : K.1.length + S0.length ≤ 256 := by
      have h1 := kinds_len_mono L (show k + 1 ≤ 5 by omega)
      rw [kinds_step, List.length_append, ← hK, ← hn, ← hkd, ← hS0] at h1
      have h2 : (kindsTo L 5).1.length ≤ 256 := h256
      omega
    refine ⟨fun x H' j => ∃ (i : Nat) (done : List Spn) (qm : Option Nat), x = (((n : Int), (some (H.n, 0), n + 1), (qo.map (fun b => (b, 0)), out.length), kd), (qm.map (fun b => (b, 0)), done.length), (i : Int)) ∧ i ≤ n ∧
        done ++ spansAt (val L kd) K.2 n kd i = S0 ∧ NZ H H' n K.2 qo out qm done ∧ j = n - i,
      ⟨(((n : Int), (some (H.n, 0), n + 1), (qo.map (fun b => (b, 0)), out.length), kd), (none, 0), 0), n, rfl, 0, [], none, rfl, Nat.zero_le _, by rw [hS0]; rfl, hz, rfl⟩, ?_⟩
    rintro _ H2 j2 ⟨i, done, qm, rfl, hi, hsp, hz2, rfl⟩
    simp only
    have hdl : done.length ≤ S0.length := by
      have := congrArg List.length hsp
      rw [List.length_append] at this; omega
    by_cases hin : i < n
    · have d2 : decide ((i : Int) < (n : Int)) = true := by rw [decide_eq_true_iff]; omega
      simp only [d2, cond_true]
      obtain ⟨b, rfl, hrd⟩ := rd hz2.old (i := i) (by omega)
      have hv : L[i].get kd = val L kd i := (val_at (by omega)).symm
      obtain ⟨vc1, vc2⟩ := spansAt_c hc (k := kd) (i := i) (by omega)
      refine ⟨b, 0, ⟨rfl, by omega, by omega⟩, _, _, _, _, _, hrd, ?_⟩
      refine (rHas_pure L[i] kd kd1).use1 ⟨_, rfl, ?_⟩
      rw [hv]
      have w1 : IntKind.i64.wrap ((i : Int) + 1) = ((i + 1 : Nat) : Int) := wi64 i (by omega)
      rw [w1]
      obtain ⟨e, he⟩ : ∃ e, e = upTo (alike (val L kd) K.2 i) n (i + 1) := ⟨_, rfl⟩
      have heb : i < e ∧ e ≤ n := by
        have := upTo_bounds (g := alike (val L kd) K.2 i) (n := n) (j := i + 1) (by omega)
        rw [← he] at this; omega
      obtain ⟨base, hbase⟩ : ∃ base : (Int × (Option (Nat × Nat) × Nat) × (Option (Nat × Nat) × Nat) × Int) × (Option (Nat × Nat) × Nat) × Int, base = (((n : Int), (some (H.n, 0), n + 1), (qo.map (fun b => (b, 0)), out.length), kd), (qm.map (fun b => (b, 0)), done.length), (i : Int)) := ⟨_, rfl⟩
      refine ⟨fun x H' => x = (base, val L kd i, (e : Int)) ∧ H2 = H', ⟨?_, ?_⟩⟩
      · -- how far the stretch goes
        refine ⟨fun x H' j => ∃ jj : Nat, x = (base, val L kd i, (jj : Int)) ∧ H2 = H' ∧ i < jj ∧ jj ≤ n ∧ upTo (alike (val L kd) K.2 i) n jj = e ∧ j = n - jj,
          ⟨(base, val L kd i, ((i + 1 : Nat) : Int)), n - (i + 1), by rw [hbase], i + 1, rfl, rfl, by omega, by omega, he.symm, rfl⟩, ?_⟩
        rintro _ _ j3 ⟨jj, rfl, rfl, c1, c2, c3, rfl⟩
        rw [hbase]
        simp only
        by_cases hj : jj < n
        · have d3 : decide ((jj : Int) < (n : Int)) = true := by rw [decide_eq_true_iff]; omega
          simp only [d3, BEq.rfl, cond_true]
          obtain ⟨b', hb', hrd'⟩ := rd hz2.old (i := jj) (by omega)
          cases hb'
          have hv' : L[jj].get kd = val L kd jj := (val_at (by omega)).symm
          refine ⟨b, 0, fun _ => ⟨rfl, by omega, by omega⟩, L[jj].b, L[jj].i, L[jj].u, L[jj].k, L[jj].c, fun _ => hrd', ?_⟩
          refine (rHas_pure L[jj] kd kd1).use1 ⟨_, rfl, H.n, 0, fun _ => ⟨rfl, by omega, by omega⟩, K.2 jj, fun _ => ?_, ?_⟩
          · unfold AH.read1
            rw [hz2.cut]
            simp only
            rw [show 0 + ((jj : Int)).toNat * 1 = jj by omega, bcells_at, if_pos (by omega)]
          · rw [hv']
            have ea : (val L kd jj == val L kd i && !K.2 jj) = alike (val L kd) K.2 i jj := rfl
            rw [ea]
            cases ha : alike (val L kd) K.2 i jj with
            | true =>
              refine ⟨(base, val L kd i, ((jj + 1 : Nat) : Int)), n - (jj + 1), by omega, ?_, jj + 1, by rw [hbase], rfl, by omega, by omega, by rw [← c3, upTo_go hj ha], rfl⟩
              rw [hbase, wi64 jj (by omega)]
            | false =>
              have : jj = e := by rw [← c3, upTo_stop hj ha]
              subst this
              exact ⟨(base, val L kd i, (jj : Int)), 0, trivial, by rw [hbase], by rw [hbase], rfl⟩
        · have d3 : decide ((jj : Int) < (n : Int)) = false := by rw [decide_eq_false_iff_not]; omega
          have ff : (false == true) = false := rfl
          simp only [d3, ff, cond_false]
          have : jj = e := by rw [← c3, upTo_end (by omega)]
          subst this
          refine ⟨0, 0, (fun h => absurd h (by decide)), false, false, false, false, 0, (fun h => absurd h (by decide)), ?_⟩
          exact ⟨0, 0, (fun h => absurd h (by decide)), false, (fun h => absurd h (by decide)), (base, val L kd i, (jj : Int)), 0, trivial, by rw [hbase], by rw [hbase], (by trivial)⟩
      · rintro _ _ ⟨rfl, rfl⟩
        rw [hbase]
        simp only
        have hgo := spansAt_go (val := val L kd) (cut := K.2) (n := n) (k := kd) hin
        rw [← he] at hgo
        refine ⟨fun x H' => ∃ (qm' : Option Nat) (done' : List Spn), x = ((((n : Int), (some (H.n, 0), n + 1), (qo.map (fun b => (b, 0)), out.length), kd), (qm'.map (fun b => (b, 0)), done'.length), (i : Int)), (e : Int)) ∧ done' ++ spansAt (val L kd) K.2 n kd e = S0 ∧ NZ H H' n K.2 qo out qm' done', ⟨?_, ?_⟩⟩
        · by_cases hv0 : val L kd i = 0
          · have d4 : decide (val L kd i > 0) = false := by rw [decide_eq_false_iff_not]; omega
            simp only [d4, cond_false]
            refine ⟨((((n : Int), (some (H.n, 0), n + 1), (qo.map (fun b => (b, 0)), out.length), kd), (qm.map (fun b => (b, 0)), done.length), (i : Int)), (e : Int)), 0, trivial, rfl, qm, done, rfl, ?_, hz2⟩
            rw [← hsp, hgo]
            unfold span1
            rw [if_pos hv0]; rfl
          · have d4 : decide (val L kd i > 0) = true := by rw [decide_eq_true_iff]; omega
            simp only [d4, cond_true]
            obtain ⟨y, hy⟩ : ∃ y : Spn, y = ⟨i, e, kd, if kd = 5 then val L kd i - 1 else 0⟩ := ⟨_, rfl⟩
            have hs1 : span1 (val L kd) kd i e = [y] := by unfold span1; rw [if_neg hv0, hy]
            refine ⟨rfl, (H2.alloc (.cells [.int .i64 0, .int .i64 0, .int .i64 0, .int .i64 0] 41 { whole := true })).set H2.n (.cells [.int .i64 (i : Int), .int .i64 (e : Int), .int .i64 kd, .int .i64 0] 41 { whole := true }), by simp [AH.write, AH.get_alloc, splice, AV.one], ?_⟩
            refine ⟨fun x H' => x = ((((n : Int), (some (H.n, 0), n + 1), (qo.map (fun b => (b, 0)), out.length), kd), (qm.map (fun b => (b, 0)), done.length), (i : Int)), (e : Int), H2.n) ∧ H'.n = H2.n + 1 ∧ H'.get H2.n = some (.cells y.cells 41 { whole := true }) ∧ ∀ c, c < H2.n → H'.get c = H2.get c, ⟨?_, ?_⟩⟩
            · by_cases hk' : kd = 5
              · have d5 : (kd == (5 : Int)) = true := by rw [beq_iff_eq]; exact hk'
                simp only [d5, cond_true]
                have w2 : IntKind.i64.wrap (val L kd i - 1) = val L kd i - 1 := wrap_i64 (by omega) (by omega)
                rw [w2]
                refine ⟨rfl, ((H2.alloc (.cells [.int .i64 0, .int .i64 0, .int .i64 0, .int .i64 0] 41 { whole := true })).set H2.n (.cells [.int .i64 (i : Int), .int .i64 (e : Int), .int .i64 kd, .int .i64 0] 41 { whole := true })).set H2.n (.cells y.cells 41 { whole := true }), ?_, _, 0, trivial, rfl, rfl, rfl, by rw [AH.get_set, if_pos rfl], fun c hc => by rw [AH.get_set, if_neg (by omega), AH.get_set, if_neg (by omega), AH.get_alloc, if_neg (by omega)]⟩
                rw [hy, if_pos hk']
                unfold AH.write
                rw [AH.get_set, if_pos rfl]
                simp [splice, AV.one, Spn.cells]
              · have d5 : (kd == (5 : Int)) = false := by rw [beq_eq_false_iff_ne]; exact hk'
                simp only [d5, cond_false]
                refine ⟨_, 0, trivial, rfl, rfl, rfl, by rw [AH.get_set, if_pos rfl, hy, if_neg hk']; rfl, fun c hc => by rw [AH.get_set, if_neg (by omega), AH.get_alloc, if_neg (by omega)]⟩
            · rintro _ H5 ⟨rfl, n5, g5, o5⟩
              simp only
              have hz5 := hz2.keep (H2 := H5) (by omega) o5
              obtain ⟨H6, g1, g2, g3, g4⟩ := append_spn (H := H5.alloc (.cells y.cells 41 { whole := true })) (q := qm) (l := done) (y := y) (c := H5.n) (fl := { whole := true })
                (hz5.mine.same fun b hb => by have := hz5.bm b hb; rw [AH.get_alloc, if_neg (by omega)]) (by rw [AH.get_alloc, if_pos rfl]) (by omega)
              have hlt5 := hz5.lt
              have o6 : ∀ c, c < H5.n → qm ≠ some c → H6.get c = H5.get c := fun c hc hq => by rw [g4 c (by simp only [AH.n_alloc]; omega) hq, AH.get_alloc, if_neg (by omega)]
              have n6 : H6.n = H5.n + 2 := by rw [g2]; simp
              refine ⟨y.f, y.t, y.k, y.v, by simp [AH.read, g5, Spn.cells], by decide, _, _, _, H6, g1, ((((n : Int), (some (H.n, 0), n + 1), (qo.map (fun b => (b, 0)), out.length), kd), (some (H5.n + 1, 0), (done ++ [y]).length), (i : Int)), (e : Int)), 0, trivial, rfl, some (H5.n + 1), done ++ [y], rfl, ?_, ?_⟩
              · rw [← hsp, hgo, hs1, List.append_assoc]
              · refine ⟨fun c hc => ?_, ?_, by omega, ?_, fun c hc => ?_, g3, fun c hc => ?_⟩
                · rw [o6 c (by omega) (fun e => by have := hz5.bm c e; omega)]; exact hz5.old c hc
                · rw [o6 _ hlt5 (fun e => by have := hz5.bm _ e; omega)]; exact hz5.cut
                · exact hz5.out.same fun b hb => o6 b (hz5.bo b hb).2 fun e => (hz5.bm b e).2.2 hb
                · have := hz5.bo c hc; omega
                · cases hc; exact ⟨by omega, by omega, fun e => by have := hz5.bo _ e; omega⟩
        · rintro _ H6 ⟨qm', done', rfl, hsp', hz6⟩
          simp only
          have hdl' : done'.length ≤ S0.length := by
            have := congrArg List.length hsp'
            rw [List.length_append] at this; omega
          have w3 : IntKind.i64.wrap ((out.length : Int) + (done'.length : Int)) = (out.length : Int) + (done'.length : Int) := wrap_i64 (by omega) (by omega)
          have d : decide ((out.length : Int) + (done'.length : Int) > 256) = false := by rw [decide_eq_false_iff_not]; omega
          simp only [w3, d, cond_false]
          exact ⟨(((n : Int), (some (H.n, 0), n + 1), (qo.map (fun b => (b, 0)), out.length), kd), (qm'.map (fun b => (b, 0)), done'.length), (e : Int)), n - e, by omega, rfl, e, done', qm', rfl, heb.2, hsp', hz6, rfl⟩
    · have d2 : decide ((i : Int) < (n : Int)) = false := by rw [decide_eq_false_iff_not]; omega
      simp only [d2, cond_false]
      obtain rfl : n = i := by omega
      rw [spansAt_end (Nat.le_refl _), List.append_nil] at hsp
      have hkn : kindsTo L (k + 1) = (K.1 ++ done, cutBy K.2 done) := by
        show ((kindsTo L k).1 ++ spansAt (val L (k + 1 : Nat)) (kindsTo L k).2 L.length (k + 1 : Nat) 0, cutBy (kindsTo L k).2 (spansAt (val L (k + 1 : Nat)) (kindsTo L k).2 L.length (k + 1 : Nat) 0)) = _
        rw [← hK, ← hn, ← hkd, ← hS0, hsp]
      have hbd : ∀ x ∈ done, ∃ a b : Nat, x.f = a ∧ x.t = b ∧ a ≤ n ∧ b ≤ n := by
        intro x hx
        rw [hsp, hS0] at hx
        obtain ⟨a, b, g1, g2, g3, g4, g5, _⟩ := spansAt_in (n - 0) rfl x hx
        exact ⟨a, b, g1, g2, by omega, g5⟩
      refine ⟨fun x H' j => ∃ (r : Nat) (qp : Option Nat), x = (((n : Int), (some (H.n, 0), n + 1), (qp.map (fun b => (b, 0)), (layAll (K.1 ++ done.take r)).length), kd), (qm.map (fun b => (b, 0)), done.length), (r : Int)) ∧ r ≤ done.length ∧ NZ H H' n (cutBy K.2 (done.take r)) qp (layAll (K.1 ++ done.take r)) qm done ∧ j = done.length - r,
        ⟨(((n : Int), (some (H.n, 0), n + 1), (qo.map (fun b => (b, 0)), out.length), kd), (qm.map (fun b => (b, 0)), done.length), 0), done.length, rfl, 0, qo, by rw [List.take_zero, List.append_nil, ← hout]; rfl, Nat.zero_le _, ?_, rfl⟩, ?_⟩
      · rw [List.take_zero, List.append_nil, ← hout]
        refine ⟨hz2.old, ?_, hz2.lt, hz2.out, hz2.bo, hz2.mine, hz2.bm⟩
        rw [hz2.cut, bcells_congr (c := K.2)]
        intro j _
        simp [cutBy]
      rintro _ H3 j3 ⟨r, qp, rfl, hr, hz3, rfl⟩
      simp only
      by_cases hrl : r < done.length
      · have d6 : decide ((r : Int) < (done.length : Int)) = true := by rw [decide_eq_true_iff]; omega
        simp only [d6, cond_true]
        obtain ⟨bm, hbm⟩ : ∃ bm, qm = some bm := by
          have := hz3.mine
          cases qm with
          | some b => exact ⟨b, rfl⟩
          | none => rw [show done = [] from List.length_eq_zero_iff.1 this.1] at hrl; cases hrl
        have hmb : H3.get bm = some (.cells (flat Spn.cells done) 41 { opn := true }) := by have := hz3.mine; rw [hbm] at this; exact this
        have hmb1 := hz3.bm bm hbm
        obtain ⟨a, z, ha, hz', ha', hz''⟩ := hbd _ (List.getElem_mem hrl)
        have hlt3 := hz3.lt
        obtain ⟨A2, hA2⟩ : ∃ A2, A2 = H3.set H.n (.cells (bcells (fun j => cutBy K.2 (done.take r) j || j == a) n) 4 {}) := ⟨_, rfl⟩
        have a2c : A2.get H.n = some (.cells (bcells (fun j => cutBy K.2 (done.take r) j || j == a) n) 4 {}) := by rw [hA2, AH.get_set, if_pos rfl]
        have a2o : ∀ c, c ≠ H.n → A2.get c = H3.get c := fun c hc => by rw [hA2, AH.get_set, if_neg hc]
        obtain ⟨A3, hA3⟩ : ∃ A3, A3 = A2.set H.n (.cells (bcells (fun j => (cutBy K.2 (done.take r) j || j == a) || j == z) n) 4 {}) := ⟨_, rfl⟩
        have a3c : A3.get H.n = some (.cells (bcells (fun j => (cutBy K.2 (done.take r) j || j == a) || j == z) n) 4 {}) := by rw [hA3, AH.get_set, if_pos rfl]
        have a3o : ∀ c, c ≠ H.n → A3.get c = H3.get c := fun c hc => by rw [hA3, AH.get_set, if_neg hc, a2o c hc]
        have a3n : A3.n = H3.n := by rw [hA3, hA2]; rfl
        have rf : ∀ {K' : AH}, K'.get bm = H3.get bm → ∀ j, j < 4 → K'.read1 bm (0 + ((r : Nat) : Int).toNat * 4 + j) = (done[r].cells)[j]? := fun {K'} hk' j hj => by
          rw [Int.toNat_natCast]
          exact read1_flat Spn.cells_length (hk'.trans hmb) hrl hj
        have w1 : H3.write H.n (0 + ((a : Int)).toNat * 1) [.bool true] = some A2 := by
          unfold AH.write
          rw [hz3.cut]
          simp only
          rw [if_pos ⟨trivial, Nat.zero_le _, by rw [bcells_length]; simp only [List.length_cons, List.length_nil]; omega, by simp [AV.one]⟩, show 0 + ((a : Int)).toNat * 1 = a by omega, bcells_set ha', hA2]
        have w2 : A2.write H.n (0 + ((z : Int)).toNat * 1) [.bool true] = some A3 := by
          unfold AH.write
          rw [a2c]
          simp only
          rw [if_pos ⟨trivial, Nat.zero_le _, by rw [bcells_length]; simp only [List.length_cons, List.length_nil]; omega, by simp [AV.one]⟩, show 0 + ((z : Int)).toNat * 1 = z by omega, bcells_set hz'', hA3]
        have hrd : A3.read bm (0 + ((r : Nat) : Int).toNat * 4) 4 = some [.int .i64 done[r].f, .int .i64 done[r].t, .int .i64 done[r].k, .int .i64 done[r].v] := by
          rw [Int.toNat_natCast]
          exact read_flat Spn.cells_length ((a3o bm (by omega)).trans hmb) hrl
        have hcond : qm.map (fun b => (b, 0)) = some (bm, 0) ∧ (0 : Int) ≤ (r : Int) ∧ (r : Int) < (done.length : Int) := ⟨by rw [hbm]; rfl, by omega, by omega⟩
        obtain ⟨lay1, hlay1⟩ : ∃ lay1, lay1 = layAll (K.1 ++ done.take r) := ⟨_, rfl⟩
        have hlen1 : lay1.length ≤ 256 := by rw [hlay1, layAll_length, List.length_append, List.length_take]; omega
        have hord : Ordered lay1 := by rw [hlay1]; exact (layAll_spec _).1
        rw [← hlay1] at hz3 ⊢
        have hta : TextAt A3 qp lay1 := ⟨hz3.out.same fun b hb => a3o b (by have := hz3.bo b hb; omega), fun b hb => by have := hz3.bo b hb; omega⟩
        refine ⟨bm, 0, hcond, done[r].f, ?_, H.n, 0, ⟨rfl, by omega, by omega⟩, (by trivial), A2, by rw [ha]; exact w1, bm, 0, hcond, done[r].t, ?_, H.n, 0, ⟨rfl, by omega, by omega⟩, (by trivial), A3, by rw [hz']; exact w2, bm, 0, hcond, _, _, _, _, hrd, ?_⟩
        · exact rf rfl 0 (by decide)
        · exact rf (a2o bm (by omega)) 1 (by decide)
        refine (rLay_S hord (by omega) done[r] hta).mono ?_
        rintro v B ⟨q3, rfl, l1, l2, l3, l4⟩
        have hnext : layAll (K.1 ++ done.take (r + 1)) = layL lay1 done[r] := by
          rw [List.take_succ_eq_append_getElem hrl, ← List.append_assoc, layAll_snoc, ← hlay1]
        refine ⟨_, _, _, rfl, (((n : Int), (some (H.n, 0), n + 1), (q3.map (fun b => (b, 0)), (layL lay1 done[r]).length), kd), (qm.map (fun b => (b, 0)), done.length), ((r + 1 : Nat) : Int)), done.length - (r + 1), by omega, by rw [wi64 r (by omega)], r + 1, q3, by rw [hnext], by omega, ?_, rfl⟩
        rw [hnext]
        refine ⟨fun c hc => ?_, ?_, by omega, l1, fun c hc => by have := l2 c hc; omega, hz3.mine.same fun c hc => ?_, fun c hc => ?_⟩
        · rw [l4 c (by omega), a3o c (by omega)]; exact hz3.old c hc
        · rw [l4 _ (by omega), a3c, bcells_congr]
          intro j _
          rw [List.take_succ_eq_append_getElem hrl]
          unfold cutBy
          rw [List.any_append]
          simp only [List.any_cons, List.any_nil, Bool.or_false, ha, hz']
          have x1 : ((a : Int) == (j : Int)) = (j == a) := by rw [Bool.eq_iff_iff, beq_iff_eq, beq_iff_eq]; omega
          have x2 : ((z : Int) == (j : Int)) = (j == z) := by rw [Bool.eq_iff_iff, beq_iff_eq, beq_iff_eq]; omega
          rw [x1, x2]
          simp only [Bool.or_assoc]
        · have := hz3.bm c hc
          rw [l4 c (by omega), a3o c (by omega)]
        · have := hz3.bm c hc
          exact ⟨this.1, by omega, fun e => by have := l2 c e; omega⟩
      · have d6 : decide ((r : Int) < (done.length : Int)) = false := by rw [decide_eq_false_iff_not]; omega
        simp only [d6, cond_false]
        obtain rfl : r = done.length := by omega
        rw [List.take_length] at hz3 ⊢
        refine ⟨((n : Int), (some (H.n, 0), n + 1), (qp.map (fun b => (b, 0)), (layAll (K.1 ++ done)).length), ((k + 1 + 1 : Nat) : Int)), 5 - (k + 1), by omega, ?_, k + 1, qp, by omega, by rw [hkn], ?_, rfl⟩
        · rw [wrap_i64 (by omega) (by omega), hkd]; rfl
        · rw [hkn]
          exact ⟨hz3.old, hz3.cut, hz3.lt, hz3.out, hz3.bo, ⟨rfl, rfl⟩, (fun c h => by cases h)⟩
  · have d1 : decide (((k + 1 : Nat) : Int) ≤ 5) = false := by rw [decide_eq_false_iff_not]; omega
    simp only [d1, cond_false]
    obtain rfl : k = 5 := by omega
    have hlt := hz.lt
    rw [hQ]
    exact ⟨qo, rfl, hz.out, fun c hc => by have := hz.bo c hc; omega, by omega, hz.old⟩
end Go.Proofs.YtlkdhhkncoekgaaDoor
end

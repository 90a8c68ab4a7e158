/- What a form of orders does to a scanner of which Fine holds. -/
import Derived.Test.YtlkdhhkncoekgaaDoorFormsA

section
namespace Go.Proofs.YtlkdhhkncoekgaaDoor
open Go.Am Go

theorem idx_lt : ∀ (l : List UInt8) (c : UInt8), Lib.indexByte l c < l.length
  | [], _ => by simp [Lib.indexByte]
  | b :: l, c => by
    have ih := idx_lt l c
    simp only [Lib.indexByte, List.length_cons]
    split
    · omega
    · split <;> omega

theorem cut_any (s t : List UInt8) : ∃ (r : List UInt8) (b : Bool), Pure Tryd.prog 43 [.str s, .str t] (.tuple [.str r, .bool b]) ∧ (b = true → r.length + t.length = s.length) := by
  cases h : pre s t with
  | true =>
    have := pre_len h
    exact ⟨_, _, CutPrefix_yes s t h, fun _ => by rw [List.length_drop]; omega⟩
  | false => exact ⟨_, _, CutPrefix_no s t h, fun e => by cases e⟩

set_option maxRecDepth 100000 in
theorem brace_fine {d : Int} {s : List UInt8} {x : St} (hd : d = 4) (h : Fine d s x) (hl : x.i < s.length) (hr : x.so.length ≤ 4096) (hs : s.length ≤ 4194304) :
    Past (Fine d s) 28 x := by
  intro H p qs qo qc cap hA
  have hsg := h.signed hr hl
  have hxs := h.isS
  have hxd := h.isD
  have hle := h.le
  have hlt := hA.lt
  obtain ⟨t, ht⟩ : ∃ t, t = x.s.drop x.i := ⟨_, rfl⟩
  have tl : t.length = s.length - x.i := by rw [ht, List.length_drop, hxs]
  rw [← ht]
  obtain ⟨Q, hQ⟩ : ∃ Q, Q = PastK (Fine d s) x p H := ⟨_, rfl⟩
  rw [← hQ]
  have pass : ∀ {H' : AH} {qs qo qc : Option Nat} {cap : Nat}, AtS H' p x qs qo qc cap → ∀ n : Nat, x.i + n ≤ s.length → ACallee Tryd.prog 45 [.ptr (some (p, 0)), .int .i64 n] H' fun v H'' => v = .bool (!melts x.so (s.drop (x.i + n))) ∧ H'' = H' := by
    intro H' qs qo qc cap hA' n hn
    have := passes_S hA' n (by rw [hxs]; exact hn) (by rw [hxs]; exact hs) (by omega)
    rw [hxs] at this
    exact this
  have no : ∀ {H' : AH}, H.n ≤ H'.n → (∀ c, c < H.n → H'.get c = H.get c) → Q (.int .i64 0) H' := by
    intro H' h2 h3
    rw [hQ]
    exact PastK.no hsg ⟨_, _, _, _, hA.keep h2 fun c _ hc => h3 c hc⟩ h2 fun c hc => h3 c (by omega)
  refine .inl ⟨goB_spec (by kernel_rfl), vcG_ok (anns := _) (rans := _) follows' (Eq.mpr (brace_vc (real Tryd.prog) (Iter Tryd.prog) p t H Q) ?_)⟩
  simp only [real_n, real_al, real_rd1, real_rdn, real_call, real_wr, real_wrap]
  have tt : (true == true) = true := rfl
  have ff : (false == true) = false := rfl
  have ft : (false == false) = true := rfl
  have tf : (true == false) = false := rfl
  refine (IndexByte_pure t 125).use1 ⟨_, rfl, ?_⟩
  obtain ⟨E, hE⟩ : ∃ E, E = Lib.indexByte t ((125 : Int)).toNat.toUInt8 := ⟨_, rfl⟩
  have hEl := idx_lt t ((125 : Int)).toNat.toUInt8
  rw [← hE] at hEl ⊢
  have wE : 2 ≤ E → IntKind.i64.wrap (E + 1) = (((E + 1).toNat : Nat) : Int) := fun h2 => by rw [wrap_i64 (by omega) (by omega)]; omega
  refine ⟨fun y H' => y.1 = E ∧ H = H' ∧ (y.2 = false → 2 ≤ E ∧ melts x.so (s.drop (x.i + (E + 1).toNat)) = false), ?_, ?_⟩
  · cases hE2 : decide (E < 2) with
    | true =>
      simp only [tf, cond_false]
      exact ⟨(E, true), 0, trivial, rfl, rfl, (by trivial), fun e => by cases e⟩
    | false =>
      rw [decide_eq_false_iff_not] at hE2
      simp only [ft, cond_true]
      rw [wE (by omega)]
      refine (pass hA (E + 1).toNat (by omega)).mono ?_
      rintro v H' ⟨rfl, rfl⟩
      refine ⟨_, rfl, (E, _), 0, trivial, rfl, rfl, rfl, fun e => ⟨by omega, ?_⟩⟩
      revert e
      cases melts x.so (s.drop (x.i + (E + 1).toNat)) <;> simp
  rintro ⟨E', b⟩ _ ⟨e, rfl, hb⟩
  simp only at e hb ⊢
  subst e
  cases b with
  | true =>
    simp only [cond_true]
    exact no (Nat.le_refl _) fun c _ => rfl
  | false =>
  obtain ⟨h2, hm⟩ := hb rfl
  simp only [cond_false]
  have rL : ∀ K : AH, K.get p = H.get p → K.read p 11 5 = some x.look.cells := fun K hK => by unfold AH.read; rw [hK, hA.cells]; rfl
  have r18 : ∀ K : AH, K.get p = H.get p → K.read1 p 18 = some (.int .i64 x.side) := fun K hK => by unfold AH.read1; rw [hK, hA.cells]; rfl
  have r2 : ∀ K : AH, K.get p = H.get p → K.read1 p 2 = some (.int .i64 (x.i : Int)) := fun K hK => by unfold AH.read1; rw [hK, hA.cells]; rfl
  have a0 : (H.alloc (.cells [.bool false, .bool false, .bool false, .bool false, .int .i64 0] 53 { whole := true })).get p = H.get p := by rw [AH.get_alloc, if_neg (by omega)]
  obtain ⟨A, hA2⟩ : ∃ A, A = (H.alloc (.cells [.bool false, .bool false, .bool false, .bool false, .int .i64 0] 53 { whole := true })).set H.n (.cells x.look.cells 53 { whole := true }) := ⟨_, rfl⟩
  obtain ⟨G, hG⟩ : ∃ G : Look → AH → Prop, G = fun a K => H.n < K.n ∧ K.get H.n = some (.cells a.cells 53 { whole := true }) ∧ ∀ c, c < H.n → K.get c = H.get c := ⟨_, rfl⟩
  have gA : G x.look A := by
    rw [hG, hA2]
    exact ⟨by simp, by rw [AH.get_set, if_pos rfl], fun c hc => by rw [AH.get_set, if_neg (by omega), AH.get_alloc, if_neg (by omega)]⟩
  have gp : ∀ {a K}, G a K → K.get p = H.get p := fun {a K} hK => by rw [hG] at hK; exact hK.2.2 p hlt
  have gk : ∀ {a K K'}, G a K → K.n ≤ K'.n → (∀ b, b < K.n → K'.get b = K.get b) → G a K' := fun {a K K'} hK h1 h2 => by
    rw [hG] at hK ⊢
    exact ⟨by have := hK.1; omega, by rw [h2 _ hK.1]; exact hK.2.1, fun c hc => by rw [h2 c (by have := hK.1; omega)]; exact hK.2.2 c hc⟩
  have gw : ∀ {a a' : Look} {K : AH} {i : Nat} {v : AV}, G a K → i < 5 → AV.one v = true → splice a.cells i [v] = a'.cells → ∃ K', K.write H.n i [v] = some K' ∧ G a' K' := fun {a a' K i v} hK hi hv hsp => by
    rw [hG] at hK
    refine ⟨K.set H.n (.cells a'.cells 53 { whole := true }), ?_, ?_⟩
    · unfold AH.write
      rw [hK.2.1]
      simp only
      rw [if_pos ⟨trivial, Nat.zero_le _, by rw [Look.cells_length]; simp only [List.length_cons, List.length_nil]; omega, by simp [hv]⟩, hsp]
    · rw [hG]
      exact ⟨hK.1, by rw [AH.get_set, if_pos rfl], fun c hc => by rw [AH.get_set, if_neg (by omega)]; exact hK.2.2 c hc⟩
  refine ⟨x.look.b, x.look.i, x.look.u, x.look.k, x.look.c, rL _ rfl, x.side, r18 _ rfl, ⟨_, r18 _ a0, rfl⟩, ⟨x.look.b, x.look.i, x.look.u, x.look.k, x.look.c, rL _ a0, rfl⟩, rfl, A, by rw [hA2]; simp [AH.write, AH.get_alloc, splice, AV.one, Look.cells], ⟨_, r18 _ (gp gA), rfl⟩, by omega, ?_⟩
  obtain ⟨o0, ho0⟩ : ∃ o0, o0 = List.take (E' - 1).toNat (List.drop 1 t) := ⟨_, rfl⟩
  have ol : (o0.length : Int) = E' - 1 := by rw [ho0, List.length_take, List.length_drop]; omega
  rw [← ho0]
  have hside : x.side = 0 ∨ x.side = 1 := h.side.imp id fun e => e.1
  refine ⟨fun y H' k => ∃ (a : Look) (sd : Int) (o : List UInt8), y = (E', H.n, sd, o) ∧ okC a.c ∧ (sd = 0 ∨ sd = 1) ∧ G a H' ∧ k = o.length ∧ ((o.length : Int) = E' - 1 ∨ ((o.length : Int) ≤ E' - 1 ∧ 3 ≤ E')), ⟨(E', H.n, x.side, o0), o0.length, rfl, x.look, x.side, o0, rfl, h.lc, hside, gA, rfl, .inl ol⟩, ?_⟩
  rintro _ K _ ⟨a, sd, T, rfl, hac, hsd, hK, rfl, hT⟩
  simp only
  cases hT0 : (T == ([] : List UInt8)) with
  | true =>
    have eT : T = [] := by simpa using hT0
    subst eT
    simp only [Bool.not_true, cond_false]
    have hE3 : 3 ≤ E' := by simp only [List.length_nil] at hT; omega
    have hK' := hK
    rw [hG] at hK'
    obtain ⟨k1, k2, k3⟩ := hK'
    have hC : AtS K p x qs qo qc cap := hA.keep (by omega) fun c _ hc2 => k3 c hc2
    obtain ⟨H1, w1, w2, w3, w4⟩ := hC.write (y := { x with look := a }) rfl rfl rfl (o := 11) (vs := a.cells) (by simp [Look.cells]) (Look.cells_one _) (by simp [splice, St.cells, Look.cells])
    obtain ⟨H2, u1, u2, u3, u4⟩ := w2.write (y := { x with look := a, side := sd }) rfl rfl rfl (o := 18) (vs := [.int .i64 sd]) (by simp) (by simp [AV.one]) (by simp [splice, St.cells])
    refine ⟨_, _, _, _, _, by simp [AH.read, k2, Look.cells], rfl, H1, w1, rfl, H2, u1, ?_⟩
    rw [hQ]
    refine PastK.yes (x := x) (y := { x with look := a, side := sd }) (n := (E' + 1).toNat) (by omega) (by omega) (h.form (n := (E' + 1).toNat) (by omega) hm rfl rfl rfl rfl rfl (fun j => ?_) ⟨h.cols, ?_⟩ hac h.name (hsd.imp id fun e => ⟨e, hd⟩) (.inr (.inl (by omega)))) ⟨_, _, _, _, u2⟩ (by omega) (fun c hc => ?_) rfl rfl rfl (by rw [wE h2])
    · have := h.op j
      show 0 ≤ x.op j ∧ x.op j ≤ _
      omega
    · have := h.ncols
      show x.cols.length ≤ _
      omega
    · rw [u4 c (by omega), w4 c (by omega)]; exact k3 c (by omega)
  | false =>
    have hT1 : 1 ≤ T.length := by
      cases T with
      | nil => cases hT0
      | cons => simp
    simp only [Bool.not_false, cond_true]
    obtain ⟨Jn, hJ⟩ : ∃ Jn : (Int × Nat × Int × List UInt8) × Int → AH → Prop, Jn = fun y H' => ∃ (a : Look) (sd : Int) (n : Nat), y = ((E', H.n, sd, T), (n : Int)) ∧ (n = 0 ∨ (2 ≤ n ∧ n ≤ T.length)) ∧ okC a.c ∧ (sd = 0 ∨ sd = 1) ∧ G a H' := ⟨_, rfl⟩
    have mk : ∀ {a : Look} {sd : Int} {n : Nat} {K : AH}, (n = 0 ∨ (2 ≤ n ∧ n ≤ T.length)) → okC a.c → (sd = 0 ∨ sd = 1) → G a K → Jn ((E', H.n, sd, T), (n : Int)) K := fun {a sd n K} h1 h2 h3 h4 => by
      rw [hJ]; exact ⟨a, sd, n, rfl, h1, h2, h3, h4⟩
    refine ⟨Jn, ⟨fun y H' => Jn (y.1, y.2.1) H' ∧ (y.2.2 = true → 3 ≤ T.length), ⟨fun e => ?_, fun e => ?_, fun e => ?_, ((E', H.n, sd, T), 0, decide ((T.length : Int) ≥ 3) && (((T[0]?.getD 0).toNat : Nat) : Int) == 92 && ((((T[2]?.getD 0).toNat : Nat) : Int) == 48 || (((T[2]?.getD 0).toNat : Nat) : Int) == 49)), 0, trivial, rfl, mk (n := 0) (.inl rfl) hac hsd hK, fun e => ?_⟩, ?_⟩, ?_⟩
    · rw [beq_t, decide_eq_true_iff] at e; omega
    · rw [beq_t, Bool.and_eq_true, decide_eq_true_iff] at e; omega
    · rw [Bool.and_eq_true, beq_t, Bool.and_eq_true, decide_eq_true_iff] at e; omega
    · simp only [Bool.and_eq_true, decide_eq_true_eq] at e
      have := e.1.1
      omega
    · rintro ⟨y, n0, b⟩ K1 ⟨hj, hb⟩
      rw [hJ] at hj
      obtain ⟨a1, sd1, n, e, hn, hac1, hsd1, hK1⟩ := hj
      simp only at e hb
      cases e
      simp only
      cases b with
      | false =>
        simp only [cond_false]
        exact ⟨((E', H.n, sd1, T), (n : Int)), 0, trivial, rfl, mk hn hac1 hsd1 hK1⟩
      | true =>
        have h3 := hb rfl
        simp only [cond_true]
        refine ⟨by omega, by omega, ?_⟩
        obtain ⟨on, hon⟩ : ∃ on, on = ((((T[2]?.getD 0).toNat : Nat) : Int) == 49) := ⟨_, rfl⟩
        rw [← hon]
        cases c1 : ((((T[1]?.getD 0).toNat : Nat) : Int) == 98) with
        | true =>
          simp only [cond_true]
          obtain ⟨K', w1, w2⟩ := gw (a' := { a1 with b := on }) hK1 (i := 0) (by decide) (v := .bool on) rfl (by simp [splice, Look.cells])
          exact ⟨rfl, K', w1, ((E', H.n, sd1, T), 3), 0, trivial, rfl, mk (a := { a1 with b := on }) (n := 3) (.inr ⟨by decide, h3⟩) hac1 hsd1 w2⟩
        | false =>
        simp only [cond_false]
        cases c2 : ((((T[1]?.getD 0).toNat : Nat) : Int) == 105) with
        | true =>
          simp only [cond_true]
          obtain ⟨K', w1, w2⟩ := gw (a' := { a1 with i := on }) hK1 (i := 1) (by decide) (v := .bool on) rfl (by simp [splice, Look.cells])
          exact ⟨rfl, K', w1, ((E', H.n, sd1, T), 3), 0, trivial, rfl, mk (a := { a1 with i := on }) (n := 3) (.inr ⟨by decide, h3⟩) hac1 hsd1 w2⟩
        | false =>
        simp only [cond_false]
        cases c3 : ((((T[1]?.getD 0).toNat : Nat) : Int) == 117) with
        | true =>
          simp only [cond_true]
          obtain ⟨K', w1, w2⟩ := gw (a' := { a1 with u := on }) hK1 (i := 2) (by decide) (v := .bool on) rfl (by simp [splice, Look.cells])
          exact ⟨rfl, K', w1, ((E', H.n, sd1, T), 3), 0, trivial, rfl, mk (a := { a1 with u := on }) (n := 3) (.inr ⟨by decide, h3⟩) hac1 hsd1 w2⟩
        | false =>
        simp only [cond_false]
        cases c4 : ((((T[1]?.getD 0).toNat : Nat) : Int) == 115) with
        | true =>
          simp only [cond_true]
          obtain ⟨K', w1, w2⟩ := gw (a' := { a1 with k := on }) hK1 (i := 3) (by decide) (v := .bool on) rfl (by simp [splice, Look.cells])
          exact ⟨rfl, K', w1, ((E', H.n, sd1, T), 3), 0, trivial, rfl, mk (a := { a1 with k := on }) (n := 3) (.inr ⟨by decide, h3⟩) hac1 hsd1 w2⟩
        | false =>
          simp only [cond_false]
          exact ⟨((E', H.n, sd1, T), 0), 0, trivial, rfl, mk (n := 0) (.inl rfl) hac1 hsd1 hK1⟩
    rintro ⟨y, n0⟩ K1 hj
    rw [hJ] at hj
    obtain ⟨a1, sd1, n, e, hn, hac1, hsd1, hK1⟩ := hj
    cases e
    simp only
    refine ⟨Jn, ?_, ?_⟩
    · obtain ⟨u, b1, hcp, hu⟩ := cut_any T [92, 99, 38, 72]
      refine hcp.use1 ⟨u, b1, rfl, fun y H' => Jn (y.1, y.2.1) H' ∧ y.2.2.1 = u ∧ (y.2.2.2 = true → b1 = true), ⟨((E', H.n, sd1, T), (n : Int), u, b1 && ((n : Nat) : Int) == 0), 0, trivial, rfl, mk hn hac1 hsd1 hK1, rfl, fun e => ?_⟩, ?_⟩
      · simp only [Bool.and_eq_true] at e; exact e.1
      rintro ⟨y, n0, u', b⟩ K2 ⟨hj, e', hb⟩
      rw [hJ] at hj
      obtain ⟨a2, sd2, n2, e, hn2, hac2, hsd2, hK2⟩ := hj
      simp only at e e' hb
      subst e'
      cases e
      simp only
      cases b with
      | false =>
        simp only [cond_false]
        exact ⟨((E', H.n, sd2, T), (n2 : Int)), 0, trivial, rfl, mk hn2 hac2 hsd2 hK2⟩
      | true =>
        have hul := hu (hb rfl)
        simp only [List.length_cons, List.length_nil] at hul
        simp only [cond_true]
        refine (colour_S u' true K2).mono ?_
        rintro v K3 ⟨c, g, rfl, hg, g1, g2⟩
        have hK3 := gk hK2 g1 g2
        refine ⟨c, g, rfl, fun y H' => Jn (y.1, y.2.1) H' ∧ (y.2.2.2 = true → okC y.2.2.1 ∧ 11 ≤ T.length), ⟨fun e => ?_, ((E', H.n, sd2, T), (n2 : Int), c, g && decide ((u'.length : Int) > 6) && (((u'[6]?.getD 0).toNat : Nat) : Int) == 38), 0, trivial, rfl, mk hn2 hac2 hsd2 hK3, fun e => ?_⟩, ?_⟩
        · rw [beq_t, Bool.and_eq_true, decide_eq_true_iff] at e; omega
        · simp only [Bool.and_eq_true, decide_eq_true_eq] at e
          have := hg e.1.1
          exact ⟨⟨(by omega : 0 ≤ c), (by omega : c ≤ 16777216)⟩, by omega⟩
        rintro ⟨y, n0, c', b⟩ K4 ⟨hj, hb⟩
        rw [hJ] at hj
        obtain ⟨a3, sd3, n3, e, hn3, hac3, hsd3, hK4⟩ := hj
        simp only at e hb
        cases e
        simp only
        cases b with
        | false =>
          simp only [cond_false]
          exact ⟨((E', H.n, sd3, T), (n3 : Int)), 0, trivial, rfl, mk hn3 hac3 hsd3 hK4⟩
        | true =>
          obtain ⟨hc', h11⟩ := hb rfl
          simp only [cond_true]
          obtain ⟨K', w1, w2⟩ := gw (a' := { a3 with c := c' }) hK4 (i := 4) (by decide) (v := .int .i64 c') rfl (by simp [splice, Look.cells])
          exact ⟨rfl, K', w1, ((E', H.n, sd3, T), 11), 0, trivial, rfl, mk (a := { a3 with c := c' }) (n := 11) (.inr ⟨by decide, h11⟩) hc' hsd3 w2⟩
    rintro ⟨y, n0⟩ K2 hj
    rw [hJ] at hj
    obtain ⟨a2, sd2, n2, e, hn2, hac2, hsd2, hK2⟩ := hj
    cases e
    simp only
    refine ⟨Jn, ⟨fun y H' => Jn (y.1, y.2.1) H' ∧ (y.2.2 = true → 2 ≤ T.length), ?_, ?_⟩, ?_⟩
    · cases z : (((n2 : Nat) : Int) == 0) with
      | false =>
        simp only [ff, cond_false]
        exact ⟨((E', H.n, sd2, T), (n2 : Int), false), 0, trivial, rfl, mk hn2 hac2 hsd2 hK2, fun e => by cases e⟩
      | true =>
        simp only [tt, cond_true]
        refine (HasPrefix_pure T [92, 99]).use1 ⟨_, rfl, ((E', H.n, sd2, T), (n2 : Int), _), 0, trivial, rfl, mk hn2 hac2 hsd2 hK2, fun e => ?_⟩
        have := pre_len e
        simpa using this
    · rintro ⟨y, n0, b⟩ K3 ⟨hj, hb⟩
      rw [hJ] at hj
      obtain ⟨a3, sd3, n3, e, hn3, hac3, hsd3, hK3⟩ := hj
      simp only at e hb
      cases e
      simp only
      cases b with
      | false =>
        simp only [cond_false]
        exact ⟨((E', H.n, sd3, T), (n3 : Int)), 0, trivial, rfl, mk hn3 hac3 hsd3 hK3⟩
      | true =>
        have h2' := hb rfl
        simp only [cond_true]
        obtain ⟨K', w1, w2⟩ := gw (a' := { a3 with c := 0 }) hK3 (i := 4) (by decide) (v := .int .i64 0) rfl (by simp [splice, Look.cells])
        exact ⟨(by trivial), K', w1, ((E', H.n, sd3, T), 2), 0, trivial, rfl, mk (a := { a3 with c := 0 }) (n := 2) (.inr ⟨by decide, h2'⟩) ⟨Int.le_refl _, (by decide : (0 : Int) ≤ 16777216)⟩ hsd3 w2⟩
    rintro ⟨y, n0⟩ K3 hj
    rw [hJ] at hj
    obtain ⟨a3, sd3, n3, e, hn3, hac3, hsd3, hK3⟩ := hj
    cases e
    simp only
    refine ⟨Jn, ⟨fun y H' => Jn (y.1, y.2.1) H' ∧ (y.2.2 = true → 4 ≤ T.length), ⟨x.i, r2 _ (gp hK3), ?_⟩, ?_⟩, ?_⟩
    · cases z : (((n3 : Nat) : Int) == 0 && ((x.i : Nat) : Int) == 0) with
      | false =>
        simp only [ff, cond_false]
        exact ⟨((E', H.n, sd3, T), (n3 : Int), false), 0, trivial, rfl, mk hn3 hac3 hsd3 hK3, fun e => by cases e⟩
      | true =>
        simp only [tt, cond_true]
        refine (HasPrefix_pure T [92, 97, 110, 56]).use1 ⟨_, rfl, ((E', H.n, sd3, T), (n3 : Int), _), 0, trivial, rfl, mk hn3 hac3 hsd3 hK3, fun e => ?_⟩
        have := pre_len e
        simpa using this
    · rintro ⟨y, n0, b⟩ K4 ⟨hj, hb⟩
      rw [hJ] at hj
      obtain ⟨a4, sd4, n4, e, hn4, hac4, hsd4, hK4⟩ := hj
      simp only at e hb
      cases e
      simp only
      cases b with
      | false =>
        simp only [cond_false]
        exact ⟨((E', H.n, sd4, T), (n4 : Int)), 0, trivial, rfl, mk hn4 hac4 hsd4 hK4⟩
      | true =>
        have h4' := hb rfl
        simp only [cond_true]
        exact ⟨((E', H.n, 1, T), 4), 0, trivial, rfl, mk (n := 4) (.inr ⟨by decide, h4'⟩) hac4 (.inr rfl) hK4⟩
    rintro ⟨y, n0⟩ K4 hj
    rw [hJ] at hj
    obtain ⟨a4, sd4, n4, e, hn4, hac4, hsd4, hK4⟩ := hj
    cases e
    simp only
    rcases hn4 with rfl | ⟨n1, n2'⟩
    · simp only [show (((0 : Nat) : Int) == 0) = true from rfl, cond_true]
      have hK' := hK4
      rw [hG] at hK'
      exact no (by omega) hK'.2.2
    · have z : (((n4 : Nat) : Int) == 0) = false := by rw [beq_eq_false_iff_ne]; omega
      rw [z]
      simp only [cond_false]
      have el : List.take ((T.length : Int) - (n4 : Int)).toNat (List.drop ((n4 : Nat) : Int).toNat T) = T.drop n4 := by
        rw [Int.toNat_natCast, List.take_of_length_le (by rw [List.length_drop]; omega)]
      rw [el]
      have dl : (T.drop n4).length = T.length - n4 := List.length_drop
      exact ⟨by omega, (E', H.n, sd4, T.drop n4), (T.drop n4).length, by omega, rfl, a4, sd4, T.drop n4, rfl, hac4, hsd4, hK4, rfl, .inr (by omega)⟩
end Go.Proofs.YtlkdhhkncoekgaaDoor
end

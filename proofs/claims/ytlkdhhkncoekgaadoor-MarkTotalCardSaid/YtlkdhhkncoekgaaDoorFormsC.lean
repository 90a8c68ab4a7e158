/- What a line's form does to a scanner of which Fine holds. -/
import Derived.Test.YtlkdhhkncoekgaaDoorFormsB
import Derived.Test.YtlkdhhkncoekgaaDoorPipeVc

/- A text in parts, between commas. -/
section
namespace Go.Proofs.YtlkdhhkncoekgaaDoor
open Go.Am Go

def scell (s : List UInt8) : List AV := [.str s]
theorem rep_flat : ∀ n, repCells [.str []] n = flat scell (List.replicate n [])
  | 0 => rfl
  | n + 1 => by simp only [repCells, List.replicate_succ, flat]; rw [rep_flat n]; rfl
theorem makeStrs (H : AH) (n : Nat) (hn : n ≤ 8388608) : makeSliceV Tryd.prog H 102 (.int .i64 n) (.int .i64 n) = some (.slice (some (H.n, 0)) n n, H.alloc (.cells (flat scell (List.replicate n [])) 9 {})) := by
  unfold makeSliceV
  have t1 : Tryd.prog.underlying 102 = some (.slice 9) := by kernel_rfl
  have t2 : szOf Tryd.prog 9 = some 1 := by kernel_rfl
  have t3 : byOf Tryd.prog 9 = some 16 := by kernel_rfl
  have t4 : zeroOf Tryd.prog 9 = some (.str []) := by kernel_rfl
  simp only [t1, t2, t3, t4]
  rw [if_pos]
  · simp only [AV.cells, Int.toNat_natCast, rep_flat]
  · refine ⟨by omega, by omega, ?_, ?_, rfl, by decide, rfl⟩ <;> omega

theorem sIndex_some (s : List UInt8) : PureR Tryd.prog 83 [.str s, .str [44]] fun v => ∃ n : Int, v = .int .i64 n ∧ n < s.length := by
  refine PureR.of_vc follows' [] (by kernel_rfl) rfl (by rintro v ⟨n, rfl, _⟩; rfl) ?_
  rw [sIndex_vc]
  by_cases h : [44] = s
  · subst h
    exact ⟨_, rfl, by simp⟩
  · have : ([44] == s) = false := by simpa using h
    simp only [this, Bool.or_false, cond_false]
    exact ⟨by decide, (sIndexByte_pure s 44).use1 ⟨_, rfl, _, rfl, idx_lt s _⟩⟩
theorem Index_some (s : List UInt8) : PureR Tryd.prog 61 [.str s, .str [44]] fun v => ∃ n : Int, v = .int .i64 n ∧ n < s.length := by
  refine PureR.of_vc follows' [] (by kernel_rfl) rfl (by rintro v ⟨n, rfl, _⟩; rfl) ?_
  rw [Index_vc]
  refine (sIndex_some s).use ?_
  rintro v ⟨n, rfl, h⟩
  exact ⟨_, rfl, _, rfl, h⟩

def SplitRes (H : AH) (v : AV) (H' : AH) : Prop := ∃ (m c : Nat) (L : List (List UInt8)), v = .slice (some (H.n, 0)) m c ∧ (m ≤ L.length ∧ L.length ≤ 8388608) ∧ H'.get H.n = some (.cells (flat scell L) 9 {}) ∧ H.n < H'.n ∧ ∀ b, b < H.n → H'.get b = H.get b

set_option maxRecDepth 100000 in
theorem genSplit_S (s : List UInt8) (hs : s.length ≤ 4194304) (H : AH) : ACallee Tryd.prog 76 [.str s, .str [44], .int .i64 0, .int .i64 (-1)] H (SplitRes H) := by
  obtain ⟨Q, hQ⟩ : ∃ Q, Q = SplitRes H := ⟨_, rfl⟩
  rw [← hQ]
  refine .inl ⟨goB_spec (by kernel_rfl), vcG_ok (anns := _) (rans := _) follows' (Eq.mpr (genSplit_vc (real Tryd.prog) (Iter Tryd.prog) s H Q) ?_)⟩
  simp only [real_call, real_mks, real_wrap, real_wr, real_slc]
  refine (sCount_pure s).use1 ⟨_, rfl, ?_⟩
  obtain ⟨c, hc⟩ : ∃ c, c = Lib.countByte s 44 := ⟨_, rfl⟩
  have hcl : c ≤ s.length := by rw [hc]; exact List.count_le_length
  rw [← hc]
  have w1 : IntKind.i64.wrap ((c : Int) + 1) = (c : Int) + 1 := wrap_i64 (by omega) (by omega)
  have w2 : IntKind.i64.wrap ((s.length : Int) + 1) = (s.length : Int) + 1 := wrap_i64 (by omega) (by omega)
  have e1 : (if (s.length : Int) + 1 < (c : Int) + 1 then (s.length : Int) + 1 else (c : Int) + 1) = ((c + 1 : Nat) : Int) := by rw [if_neg (by omega)]; omega
  simp only [w1, w2, e1]
  have w3 : IntKind.i64.wrap (((c + 1 : Nat) : Int) - 1) = (c : Int) := by rw [wrap_i64 (by omega) (by omega)]; omega
  rw [w3]
  obtain ⟨G, hG⟩ : ∃ G : List (List UInt8) → AH → Prop, G = fun L K => L.length = c + 1 ∧ K.get H.n = some (.cells (flat scell L) 9 {}) ∧ H.n < K.n ∧ ∀ b, b < H.n → K.get b = H.get b := ⟨_, rfl⟩
  have u1 : Tryd.prog.underlying 102 = some (.slice 9) := by kernel_rfl
  have u2 : szOf Tryd.prog 9 = some 1 := by kernel_rfl
  have put : ∀ {L : List (List UInt8)} {K : AH} {i : Nat} (r : List UInt8), G L K → i < c + 1 → ∃ K', K.write H.n (0 + i * 1) [.str r] = some K' ∧ G (L.set i r) K' := fun {L K i} r hK hi => by
    rw [hG] at hK
    have := write_flat (f := scell) (w := 1) (fun _ => rfl) (k := 0) (vs := [.str r]) (y := r) hK.2.1 rfl rfl (i := i) (by omega) (by simp) (by simp [AV.one]) (by simp [splice, scell])
    rw [Nat.add_zero] at this
    refine ⟨_, this, ?_⟩
    rw [hG]
    exact ⟨by rw [List.length_set]; exact hK.1, by rw [AH.get_set, if_pos rfl], hK.2.2.1, fun b hb => by rw [AH.get_set, if_neg (by omega)]; exact hK.2.2.2 b hb⟩
  have cut : ∀ {L : List (List UInt8)} {K : AH} {i : Nat}, G L K → i < c + 1 → sliceV Tryd.prog K 102 (.slice (some (H.n, 0)) (c + 1) (c + 1)) none (some (.int .i64 (IntKind.i64.wrap ((i : Int) + 1)))) none = some (.slice (some (H.n, 0)) (i + 1) (c + 1)) ∧ Q (.slice (some (H.n, 0)) (i + 1) (c + 1)) K := fun {L K i} hK hi => by
    have w4 : IntKind.i64.wrap ((i : Int) + 1) = ((i + 1 : Nat) : Int) := by rw [wrap_i64 (by omega) (by omega)]; omega
    constructor
    · rw [w4]
      unfold sliceV
      simp only [u1, u2, idxV, Option.bind_some]
      rw [if_pos (Int.natCast_nonneg _), Int.toNat_natCast]
      simp only [Option.bind_some]
      rw [if_pos ⟨Nat.zero_le _, by omega, Nat.le_refl _, fun e => by cases e⟩]
      simp
    · rw [hQ]
      rw [hG] at hK
      exact ⟨i + 1, c + 1, L, rfl, ⟨by omega, by omega⟩, hK.2.1, hK.2.2.1, hK.2.2.2⟩
  refine ⟨_, _, _, _, makeStrs H (c + 1) (by omega), fun y K k => ∃ (r : List UInt8) (L : List (List UInt8)) (i : Nat), y = (r, (c : Int), (some (H.n, 0), c + 1), (i : Int)) ∧ i ≤ c ∧ r.length ≤ 4194304 ∧ G L K ∧ k = c - i,
    ⟨(s, (c : Int), (some (H.n, 0), c + 1), 0), c, rfl, s, List.replicate (c + 1) [], 0, rfl, Nat.zero_le _, hs, ?_, rfl⟩, ?_⟩
  · rw [hG]
    exact ⟨by simp, by rw [AH.get_alloc, if_pos rfl], by simp, fun b hb => by rw [AH.get_alloc, if_neg (by omega)]⟩
  rintro _ K _ ⟨r, L, i, rfl, hi, hr, hK, rfl⟩
  simp only
  by_cases hic : i < c
  · have d : decide ((i : Int) < (c : Int)) = true := by rw [decide_eq_true_iff]; omega
    simp only [d, cond_true]
    refine (Index_some r).use ?_
    rintro v ⟨n, rfl, hn⟩
    refine ⟨n, rfl, ?_⟩
    by_cases hn0 : n < 0
    · simp only [hn0, decide_true, cond_true]
      obtain ⟨K', w4, w5⟩ := put r hK (by omega : i < c + 1)
      obtain ⟨w6, w7⟩ := cut w5 (by omega : i < c + 1)
      exact ⟨H.n, 0, ⟨rfl, by omega, by omega⟩, rfl, K', w4, _, _, _, w6, w7⟩
    · simp only [hn0, decide_false, cond_false]
      have w4 : IntKind.i64.wrap (n + 0) = n := by rw [wrap_i64 (by omega) (by omega)]; omega
      have w5 : IntKind.i64.wrap (n + 1) = n + 1 := wrap_i64 (by omega) (by omega)
      have w6 : IntKind.i64.wrap ((i : Int) + 1) = ((i + 1 : Nat) : Int) := by rw [wrap_i64 (by omega) (by omega)]; omega
      simp only [w4, w5, w6]
      obtain ⟨K', w7, w8⟩ := put (List.take (n - 0).toNat (List.drop 0 r)) hK (by omega : i < c + 1)
      refine ⟨by omega, H.n, 0, ⟨rfl, by omega, by omega⟩, rfl, K', w7, by omega, (_, (c : Int), (some (H.n, 0), c + 1), ((i + 1 : Nat) : Int)), c - (i + 1), by omega, rfl, _, _, i + 1, rfl, by omega, ?_, w8, rfl⟩
      rw [List.length_take, List.length_drop]
      omega
  · have d : decide ((i : Int) < (c : Int)) = false := by rw [decide_eq_false_iff_not]; omega
    simp only [d, cond_false]
    obtain ⟨K', w4, w5⟩ := put r hK (by omega : i < c + 1)
    obtain ⟨w6, w7⟩ := cut w5 (by omega : i < c + 1)
    exact ⟨H.n, 0, ⟨rfl, by omega, by omega⟩, rfl, K', w4, _, _, _, w6, w7⟩
theorem Split_S (s : List UInt8) (hs : s.length ≤ 4194304) (H : AH) : ACallee Tryd.prog 52 [.str s, .str [44]] H (SplitRes H) := by
  refine .inl ⟨goB_spec (by kernel_rfl), vcF_ok (anns := []) follows' ?_⟩
  rw [Split_vc]
  refine (genSplit_S s hs H).mono ?_
  rintro v H' ⟨m, c, L, rfl, h⟩
  exact ⟨_, _, _, rfl, m, c, L, rfl, h⟩
end Go.Proofs.YtlkdhhkncoekgaaDoor
end

section
namespace Go.Proofs.YtlkdhhkncoekgaaDoor
open Go.Am Go

theorem cut_long (s t : List UInt8) : ∃ (r : List UInt8) (b : Bool), Pure Tryd.prog 43 [.str s, .str t] (.tuple [.str r, .bool b]) ∧ (b = true → t.length ≤ s.length) ∧ r.length ≤ s.length := by
  cases h : pre s t with
  | true =>
    have := pre_len h
    exact ⟨_, _, CutPrefix_yes s t h, fun _ => this, by rw [List.length_drop]; omega⟩
  | false => exact ⟨_, _, CutPrefix_no s t h, (fun e => by cases e), Nat.le_refl _⟩

set_option maxRecDepth 100000 in
theorem pipe_fine {d : Int} {s : List UInt8} {x : St} (_ : d = 3) (h : Fine d s x) (hl : x.i < s.length) (hr : x.so.length ≤ 4096) (hs : s.length ≤ 4194304) :
    Past (Fine d s) 26 x := by
  intro H p qs qo qc cap hA
  have hsg := h.signed hr hl
  have hxs := h.isS
  have hle := h.le
  have hlt := hA.lt
  obtain ⟨t, ht⟩ : ∃ t, t = x.s.drop x.i := ⟨_, rfl⟩
  have tl : t.length = s.length - x.i := by rw [ht, List.length_drop, hxs]
  rw [← ht]
  obtain ⟨Q, hQ⟩ : ∃ Q, Q = PastK (Fine d s) x p H := ⟨_, rfl⟩
  rw [← hQ]
  have pass : ∀ {H' : AH} {qs qo qc : Option Nat} {cap : Nat}, AtS H' p x qs qo qc cap → ∀ n : Nat, x.i + n ≤ s.length → ACallee Tryd.prog 45 [.ptr (some (p, 0)), .int .i64 n] H' fun v H'' => v = .bool (!melts x.so (s.drop (x.i + n))) ∧ H'' = H' := by
    intro H' qs qo qc cap hA' n hn
    have := passes_S hA' n (by rw [hxs]; exact hn) (by rw [hxs]; exact hs) (by omega)
    rw [hxs] at this
    exact this
  have no : ∀ {H' : AH}, H.n ≤ H'.n → (∀ c, c < H.n → H'.get c = H.get c) → Q (.int .i64 0) H' := by
    intro H' h2 h3
    rw [hQ]
    exact PastK.no hsg ⟨_, _, _, _, hA.keep h2 fun c _ hc => h3 c hc⟩ h2 fun c hc => h3 c (by omega)
  refine .inl ⟨goB_spec (by kernel_rfl), vcG_ok (anns := _) (rans := _) follows' (Eq.mpr (pipe2_vc (real Tryd.prog) (Iter Tryd.prog) p t H Q) ?_)⟩
  simp only [real_n, real_al, real_rd1, real_rdn, real_call, real_wr, real_wrap]
  have ft : (false == false) = true := rfl
  have tf : (true == false) = false := rfl
  refine (IndexByte_pure t 125).use1 ⟨_, rfl, ?_⟩
  obtain ⟨E, hE⟩ : ∃ E, E = Lib.indexByte t ((125 : Int)).toNat.toUInt8 := ⟨_, rfl⟩
  have hEl := idx_lt t ((125 : Int)).toNat.toUInt8
  rw [← hE] at hEl ⊢
  have wE : 0 ≤ E → IntKind.i64.wrap (E + 1) = (((E + 1).toNat : Nat) : Int) := fun h2 => by rw [wrap_i64 (by omega) (by omega)]; omega
  refine ⟨fun y H' => y.1 = E ∧ H = H' ∧ (y.2 = false → 0 ≤ E ∧ melts x.so (s.drop (x.i + (E + 1).toNat)) = false), ?_, ?_⟩
  · cases hE2 : decide (E < 0) with
    | true =>
      simp only [tf, cond_false]
      exact ⟨(E, true), 0, trivial, rfl, rfl, (by trivial), fun e => by cases e⟩
    | false =>
      rw [decide_eq_false_iff_not] at hE2
      simp only [ft, cond_true]
      rw [wE (by omega)]
      refine (pass hA (E + 1).toNat (by omega)).mono ?_
      rintro v H' ⟨rfl, rfl⟩
      refine ⟨_, rfl, (E, _), 0, trivial, rfl, rfl, rfl, fun e => ⟨by omega, ?_⟩⟩
      revert e
      cases melts x.so (s.drop (x.i + (E + 1).toNat)) <;> simp
  rintro ⟨E', b⟩ _ ⟨e, rfl, hb⟩
  simp only at e hb ⊢
  subst e
  cases b with
  | true =>
    simp only [cond_true]
    exact no (Nat.le_refl _) fun c _ => rfl
  | false =>
  obtain ⟨h0, hm⟩ := hb rfl
  simp only [cond_false]
  have tk : (List.take (E' - 0).toNat t).length = E'.toNat := by rw [List.length_take]; omega
  have fin : ∀ {y : St} {K : AH} {qs qo qc : Option Nat} {cap : Nat}, 3 ≤ E' → AtS K p y qs qo qc cap → H.n ≤ K.n → (∀ c, c < p → K.get c = H.get c) → y.d = x.d → y.s = x.s → y.i = x.i → y.so = x.so → y.ps = x.ps → y.op = x.op → y.cols = x.cols → okC y.look.c → y.name = x.name → y.side = x.side →
      Q (.int .i64 (IntKind.i64.wrap (E' + 1))) K := by
    intro y K qs qo qc cap h3 hAy hn ho e1 e2 e3 e4 e5 e6 e7 e8 e9 e10
    rw [hQ, wE h0]
    refine PastK.yes (x := x) (y := y) (n := (E' + 1).toNat) (by omega) (by omega) (h.form (n := (E' + 1).toNat) (by omega) hm e1 e2 ?_ e4 e5 (fun j => ?_) ⟨?_, ?_⟩ e8 ?_ ?_ (.inr (.inl (by omega)))) ⟨_, _, _, _, hAy⟩ hn ho e3 e1 e2 rfl
    · show y.i + _ = _
      rw [e3]
    · have := h.op j
      show 0 ≤ y.op j ∧ y.op j ≤ _
      rw [e6]; omega
    · show ∀ c ∈ y.cols, okC c
      rw [e7]; exact h.cols
    · show y.cols.length ≤ _
      have := h.ncols
      rw [e7]; omega
    · show y.name.length ≤ 64 ∧ (d ≠ 2 → y.name = [])
      rw [e9]; exact h.name
    · show y.side = 0 ∨ (y.side = 1 ∧ d = 4)
      rw [e10]; exact h.side
  refine ⟨by omega, ?_⟩
  obtain ⟨u, b1, hcp, hb1, hul⟩ := cut_long (List.take (E' - 0).toNat t) [123, 121, 58]
  refine hcp.use1 ⟨u, b1, rfl, ?_⟩
  cases b1 with
  | true =>
    have hE3 := hb1 rfl
    rw [tk] at hE3
    simp only [List.length_cons, List.length_nil] at hE3
    simp only [cond_true]
    obtain ⟨A, hA2⟩ : ∃ A, A = (H.alloc (.cells [.bool false, .bool false, .bool false, .bool false, .int .i64 0] 53 { whole := true })).set H.n (.cells x.look.cells 53 { whole := true }) := ⟨_, rfl⟩
    have an : A.n = H.n + 1 := by rw [hA2]; rfl
    have ao : ∀ c, c < H.n → A.get c = H.get c := fun c hc => by rw [hA2, AH.get_set, if_neg (by omega), AH.get_alloc, if_neg (by omega)]
    have ag : A.get H.n = some (.cells x.look.cells 53 { whole := true }) := by rw [hA2, AH.get_set, if_pos rfl]
    refine ⟨x.look.b, x.look.i, x.look.u, x.look.k, x.look.c, by unfold AH.read; rw [hA.cells]; rfl, rfl, A, by rw [hA2]; simp [AH.write, AH.get_alloc, splice, AV.one, Look.cells], ?_⟩
    refine (Split_S u (by rw [tk] at hul; omega) A).mono ?_
    rintro v B ⟨m, cp, L, rfl, hm1, b2, b3, b4⟩
    obtain ⟨G, hG⟩ : ∃ G : Look → AH → Prop, G = fun a K => A.n < K.n ∧ K.get H.n = some (.cells a.cells 53 { whole := true }) ∧ K.get A.n = some (.cells (flat scell L) 9 {}) ∧ ∀ c, c < H.n → K.get c = H.get c := ⟨_, rfl⟩
    have gB : G x.look B := by
      rw [hG]
      exact ⟨b3, by rw [b4 _ (by omega)]; exact ag, b2, fun c hc => by rw [b4 c (by omega)]; exact ao c hc⟩
    have gw : ∀ {a a' : Look} {K : AH} {i : Nat} {v : AV}, G a K → i < 5 → AV.one v = true → splice a.cells i [v] = a'.cells → ∃ K', K.write H.n i [v] = some K' ∧ G a' K' := fun {a a' K i v} hK hi hv hsp => by
      rw [hG] at hK
      refine ⟨K.set H.n (.cells a'.cells 53 { whole := true }), ?_, ?_⟩
      · unfold AH.write
        rw [hK.2.1]
        simp only
        rw [if_pos ⟨trivial, Nat.zero_le _, by rw [Look.cells_length]; simp only [List.length_cons, List.length_nil]; omega, by simp [hv]⟩, hsp]
      · rw [hG]
        exact ⟨hK.1, by rw [AH.get_set, if_pos rfl], by rw [AH.get_set, if_neg (by omega)]; exact hK.2.2.1, fun c hc => by rw [AH.get_set, if_neg (by omega)]; exact hK.2.2.2 c hc⟩
    obtain ⟨hml, hm8⟩ := hm1
    refine ⟨_, _, _, rfl, fun y K k => ∃ (a : Look) (i : Nat), y = (E', H.n, (some (A.n, 0), m, cp), (m : Int), (i : Int)) ∧ i ≤ m ∧ a.c = x.look.c ∧ G a K ∧ k = m - i, ⟨(E', H.n, (some (A.n, 0), m, cp), (m : Int), 0), m, rfl, x.look, 0, rfl, Nat.zero_le _, rfl, gB, rfl⟩, ?_⟩
    rintro _ K _ ⟨a, i, rfl, him, hac, hK, rfl⟩
    simp only
    have hK' := hK
    rw [hG] at hK'
    obtain ⟨k1, k2, k3, k4⟩ := hK'
    by_cases him' : i < m
    · have dm : decide ((i : Int) < (m : Int)) = true := by rw [decide_eq_true_iff]; omega
      simp only [dm, cond_true]
      obtain ⟨w, hw⟩ : ∃ w, w = L[i]'(by omega) := ⟨_, rfl⟩
      have hrd : K.read1 A.n (0 + ((i : Nat) : Int).toNat * 1) = some (.str w) := by
        have := read1_flat (f := scell) (w := 1) (fun _ => rfl) k3 (i := i) (k := 0) (by omega) (by decide)
        rw [Nat.add_zero] at this
        rw [Int.toNat_natCast, this, hw]; rfl
      refine ⟨A.n, 0, ⟨rfl, by omega, by omega⟩, w, hrd, ?_⟩
      have next : ∀ {a' : Look} {K' : AH}, a'.c = x.look.c → G a' K' → ∃ (z : Int × Nat × (Option (Nat × Nat) × Nat × Nat) × Int × Int) (k9 : Nat), k9 < m - i ∧
          [AV.ptr (some (p, 0)), .int .i64 E', .ptr (some (H.n, 0)), .slice (some (A.n, 0)) m cp, .int .i64 (m : Int), .int .i64 (IntKind.i64.wrap ((i : Int) + 1))] =
            [AV.ptr (some (p, 0)), .int .i64 z.1, .ptr (some (z.2.1, 0)), .slice z.2.2.1.1 z.2.2.1.2.1 z.2.2.1.2.2, .int .i64 z.2.2.2.1, .int .i64 z.2.2.2.2] ∧
          ∃ (a : Look) (i : Nat), z = (E', H.n, (some (A.n, 0), m, cp), (m : Int), (i : Int)) ∧ i ≤ m ∧ a.c = x.look.c ∧ G a K' ∧ k9 = m - i := by
        intro a' K' e1 e2
        have w6 : IntKind.i64.wrap ((i : Int) + 1) = ((i + 1 : Nat) : Int) := by rw [wrap_i64 (by omega) (by omega)]; omega
        exact ⟨(E', H.n, (some (A.n, 0), m, cp), (m : Int), ((i + 1 : Nat) : Int)), m - (i + 1), by omega, by rw [w6], a', i + 1, rfl, by omega, e1, e2, rfl⟩
      cases c1 : (w == [98]) with
      | true =>
        simp only [cond_true]
        obtain ⟨K', w1, w2⟩ := gw (a' := { a with b := true }) hK (i := 0) (by decide) (v := .bool true) rfl (by simp [splice, Look.cells])
        exact ⟨(by trivial), K', w1, next (a' := { a with b := true }) hac w2⟩
      | false =>
      simp only [cond_false]
      cases c2 : (w == [105]) with
      | true =>
        simp only [cond_true]
        obtain ⟨K', w1, w2⟩ := gw (a' := { a with i := true }) hK (i := 1) (by decide) (v := .bool true) rfl (by simp [splice, Look.cells])
        exact ⟨(by trivial), K', w1, next (a' := { a with i := true }) hac w2⟩
      | false =>
      simp only [cond_false]
      cases c3 : (w == [117]) with
      | true =>
        simp only [cond_true]
        obtain ⟨K', w1, w2⟩ := gw (a' := { a with u := true }) hK (i := 2) (by decide) (v := .bool true) rfl (by simp [splice, Look.cells])
        exact ⟨(by trivial), K', w1, next (a' := { a with u := true }) hac w2⟩
      | false =>
      simp only [cond_false]
      cases c4 : (w == [115]) with
      | true =>
        simp only [cond_true]
        obtain ⟨K', w1, w2⟩ := gw (a' := { a with k := true }) hK (i := 3) (by decide) (v := .bool true) rfl (by simp [splice, Look.cells])
        exact ⟨(by trivial), K', w1, next (a' := { a with k := true }) hac w2⟩
      | false =>
        simp only [cond_false]
        exact no (by omega) k4
    · have dm : decide ((i : Int) < (m : Int)) = false := by rw [decide_eq_false_iff_not]; omega
      simp only [dm, cond_false]
      have hC : AtS K p x qs qo qc cap := hA.keep (by omega) fun c _ hc2 => k4 c hc2
      obtain ⟨H1, w1, w2, w3, w4⟩ := hC.write (y := { x with look := a }) rfl rfl rfl (o := 11) (vs := a.cells) (by simp [Look.cells]) (Look.cells_one _) (by simp [splice, St.cells, Look.cells])
      refine ⟨_, _, _, _, _, by simp [AH.read, k2, Look.cells], rfl, H1, w1, ?_⟩
      exact fin (y := { x with look := a }) (by omega) w2 (by omega) (fun c hc => by rw [w4 c (by omega)]; exact k4 c (by omega)) rfl rfl rfl rfl rfl rfl rfl (by show okC a.c; rw [hac]; exact h.lc) rfl rfl
  | false =>
    simp only [cond_false]
    refine ⟨by omega, ?_⟩
    obtain ⟨u2, b2, hcp2, hb2, hul2⟩ := cut_long (List.take (E' - 0).toNat t) [123, 99, 58, 36]
    refine hcp2.use1 ⟨u2, b2, rfl, ?_⟩
    refine (colour_S u2 true H).mono ?_
    rintro v K ⟨c, g, rfl, hg, g1, g2⟩
    refine ⟨c, g, rfl, fun y K' => K = K' ∧ y.1 = E' ∧ y.2.1 = c ∧ (y.2.2 = false → b2 = true ∧ g = true), ⟨(E', c, !b2 || !g || (u2.length : Int) != 6), 0, trivial, rfl, rfl, rfl, rfl, fun e => ?_⟩, ?_⟩
    · simp only [Bool.or_eq_false_iff, Bool.not_eq_false'] at e
      exact e.1
    rintro ⟨E2, c2, b⟩ _ ⟨rfl, e1, e2, hb⟩
    simp only at e1 e2 hb ⊢
    subst e1 e2
    cases b with
    | true =>
      simp only [cond_true]
      exact no g1 g2
    | false =>
      obtain ⟨hb2', hg'⟩ := hb rfl
      obtain ⟨hc1, hc2, _⟩ := hg hg'
      have hE4 := hb2 hb2'
      rw [tk] at hE4
      simp only [List.length_cons, List.length_nil] at hE4
      simp only [cond_false]
      have hC : AtS K p x qs qo qc cap := hA.keep g1 fun c _ hc2 => g2 c hc2
      obtain ⟨H1, w1, w2, w3, w4⟩ := hC.write (y := { x with look := { x.look with c := c2 } }) rfl rfl rfl (o := 15) (vs := [.int .i64 c2]) (by simp) (by simp [AV.one]) (by simp [splice, St.cells])
      refine ⟨rfl, H1, w1, ?_⟩
      exact fin (y := { x with look := { x.look with c := c2 } }) (by omega) w2 (by omega) (fun c hc => by rw [w4 c (by omega)]; exact g2 c (by omega)) rfl rfl rfl rfl rfl rfl rfl (by show okC c2; exact ⟨by omega, hc2⟩) rfl rfl
end Go.Proofs.YtlkdhhkncoekgaaDoor
end

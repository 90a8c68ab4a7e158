/- The document's texts with spans (chapter 7), by the reference's functions: signs counted, right spans, how a sign looks. -/
import Derived.Test.YtlkdhhkncoekgaaDoorRefA
import Derived.Test.YtlkdhhkncoekgaaDoorNormr

/- The signs of a text. -/
section
namespace Go.Proofs.YtlkdhhkncoekgaaDoor
open Go.Am Go

def sgCells (x : Nat × Nat × Nat × Bool) : List AV := [.int .i64 x.1, .int .i64 x.2.1, .int .i64 x.2.2.1, .bool x.2.2.2]
def sgAt (s : List UInt8) (m : Nat) : Nat × Nat × Nat × Bool := (place s m, (decodeL s (place s m)).2, (decodeL s (place s m)).1, badN s (place s m))
def sgs (s : List UInt8) (n : Nat) : List (Nat × Nat × Nat × Bool) := (List.range n).map (sgAt s)
theorem sgs_length (s : List UInt8) (n : Nat) : (sgs s n).length = n := by simp [sgs]
theorem sgs_succ (s : List UInt8) (n : Nat) : sgs s (n + 1) = sgs s n ++ [sgAt s n] := by simp [sgs, List.range_succ]

theorem append_sg {H : AH} {q : Option Nat} {l : List (Nat × Nat × Nat × Bool)} {y : Nat × Nat × Nat × Bool} {c : Nat} {fl : Fl} (hl : Lies H q l.length (flat sgCells l) 138) (hc : H.get c = some (.cells (sgCells y) 138 fl)) (hm : l.length ≤ 1000000000) :
    ∃ H', appendV Tryd.prog H 121 121 (sl q l.length) (.slice (some (c, 0)) 1 1) = some (sl (some H.n) (l ++ [y]).length, H') ∧ H'.n = H.n + 1 ∧ Lies H' (some H.n) (l ++ [y]).length (flat sgCells (l ++ [y])) 138 ∧ ∀ c, c < H.n → q ≠ some c → H'.get c = H.get c :=
  append_rec (by_ := 32) (s := 4) (z := .agg [.int .i64 0, .int .i64 0, .int .i64 0, .bool false]) (by kernel_rfl) (by kernel_rfl) (by kernel_rfl) (by kernel_rfl) rfl (by decide) (fun _ => rfl) (fun x => by simp [sgCells, AV.one]) hl hc (by omega)

set_option maxRecDepth 100000 in
theorem rSigns_S (s : List UInt8) (n : Nat) (hn : SignsN s n) (hs : s.length ≤ 1000000000) (H : AH) : ACallee Tryd.prog 70 [.str s] H fun v H' =>
    ∃ q, v = sl q n ∧ Lies H' q n (flat sgCells (sgs s n)) 138 ∧ (∀ b, q = some b → H.n ≤ b ∧ b < H'.n) ∧ H.n ≤ H'.n ∧ ∀ c, c < H.n → H'.get c = H.get c := by
  have hnl : n ≤ s.length := by have := place_ge hn.2; have := hn.1; omega
  refine .inl ⟨goB_spec (by kernel_rfl), vcG_ok (anns := _) (rans := _) follows' (Eq.mpr (rSigns_vc (real Tryd.prog) (Iter Tryd.prog) s H _) ?_)⟩
  simp only [real_n, real_al, real_rd1, real_rdn, real_call, real_wr, real_wrap, real_app, real_bs]
  obtain ⟨A, hA⟩ : ∃ A, A = H.alloc (.cells (byteCellsA s) 5 { opn := true, sish := true }) := ⟨_, rfl⟩
  have hconv : convV Tryd.prog H 9 39 (.str s) = some (.slice (some (H.n, 0)) s.length s.length, A) := by rw [hA]; rfl
  obtain ⟨G, hG⟩ : ∃ G : AH → Prop, G = fun K => K.get H.n = some (.cells (byteCellsA s) 5 { opn := true, sish := true }) ∧ H.n < K.n ∧ ∀ c, c < H.n → K.get c = H.get c := ⟨_, rfl⟩
  have gA : G A := by
    rw [hG, hA]; exact ⟨by rw [AH.get_alloc, if_pos rfl], by simp, fun c hc => by rw [AH.get_alloc, if_neg (by omega)]⟩
  refine ⟨_, _, _, A, hconv, fun y K k => ∃ (m : Nat) (q : Option Nat), y = ((H.n, s.length), (q.map (fun b => (b, 0)), m), ((place s m : Nat) : Int)) ∧ m ≤ n ∧ G K ∧ Lies K q m (flat sgCells (sgs s m)) 138 ∧ (∀ b, q = some b → H.n < b ∧ b < K.n) ∧ k = n - m,
    ⟨((H.n, s.length), (none, 0), 0), n, rfl, 0, none, rfl, Nat.zero_le _, gA, ⟨rfl, rfl⟩, (fun b h => by cases h), rfl⟩, ?_⟩
  rintro _ K _ ⟨m, q, rfl, hm, hK, hl, hq, rfl⟩
  simp only
  have hK' := hK
  rw [hG] at hK'
  obtain ⟨k1, k2, k3⟩ := hK'
  by_cases hmn : m < n
  · have hp := hn.2 m hmn
    have d : decide (((place s m : Nat) : Int) < (s.length : Int)) = true := by rw [decide_eq_true_iff]; omega
    simp only [d, cond_true]
    refine (rOne_S k1 k2 hp (by omega)).mono ?_
    rintro v K1 ⟨rfl, n1, o1⟩
    have k1' : K1.get H.n = _ := (o1 _ k2).trans k1
    obtain ⟨x, hx⟩ : ∃ x, x = sgAt s m := ⟨_, rfl⟩
    obtain ⟨B, hB⟩ : ∃ B, B = (K1.alloc (.cells [.int .i64 0, .int .i64 0, .int .i64 0, .bool false] 138 { whole := true })).set K1.n (.cells (sgCells x) 138 { whole := true }) := ⟨_, rfl⟩
    have bg : B.get K1.n = some (.cells (sgCells x) 138 { whole := true }) := by rw [hB, AH.get_set, if_pos rfl]
    have bo : ∀ c, c < K1.n → B.get c = K1.get c := fun c hc => by rw [hB, AH.get_set, if_neg (by omega), AH.get_alloc, if_neg (by omega)]
    have bn : B.n = K1.n + 1 := by rw [hB]; rfl
    obtain ⟨C, hC⟩ : ∃ C, C = B.alloc (.cells (sgCells x) 138 { whole := true }) := ⟨_, rfl⟩
    have cg : C.get B.n = some (.cells (sgCells x) 138 { whole := true }) := by rw [hC, AH.get_alloc, if_pos rfl]
    have co : ∀ c, c < B.n → C.get c = B.get c := fun c hc => by rw [hC, AH.get_alloc, if_neg (by omega)]
    have cn : C.n = B.n + 1 := by rw [hC]; rfl
    have hlC : Lies C q (sgs s m).length (flat sgCells (sgs s m)) 138 := by
      rw [sgs_length]
      exact hl.same fun b hb => by have := hq b hb; rw [co b (by omega), bo b (by omega), o1 b (by omega)]
    obtain ⟨H5, a1, a2, a3, a4⟩ := append_sg (y := x) hlC cg (by rw [sgs_length]; omega)
    rw [sgs_length] at a1
    have al : (sgs s m ++ [x]).length = m + 1 := by simp [sgs_length]
    rw [al] at a1 a3
    refine ⟨_, _, _, _, rfl, rfl, B, by rw [hB, hx]; simp [AH.write, AH.get_alloc, splice, AV.one, sgCells, sgAt], x.1, x.2.1, x.2.2.1, x.2.2.2, by simp [AH.read, bg, sgCells], by decide, some (C.n, 0), m + 1, m + 1, H5, ?_, x.2.1, ?_, ((H.n, s.length), (some (C.n, 0), m + 1), ((place s (m + 1) : Nat) : Int)), n - (m + 1), by omega, ?_, m + 1, some C.n, rfl, by omega, ?_, ?_, ?_, rfl⟩
    · rw [hC] at a1 ⊢; exact a1
    · unfold AH.read1
      rw [a4 K1.n (by omega) (fun e => by have := hq _ e; omega), co _ (by omega), bg]; rfl
    · have hle := place_next hp
      have e : (place s m : Int) + (x.2.1 : Int) = ((place s (m + 1) : Nat) : Int) := by rw [hx]; show (place s m : Int) + ((decodeL s (place s m)).2 : Int) = ((place s m + (decodeL s (place s m)).2 : Nat) : Int); omega
      rw [e, wrap_i64 (by omega) (by omega)]
    · rw [hG]
      refine ⟨?_, by omega, fun c hc => ?_⟩
      · rw [a4 _ (by omega) (fun e => by have := hq _ e; omega), co _ (by omega), bo _ (by omega)]; exact k1'
      · rw [a4 _ (by omega) (fun e => by have := hq _ e; omega), co _ (by omega), bo _ (by omega), o1 _ (by omega)]; exact k3 c hc
    · rw [sgs_succ, ← hx]; exact a3
    · rintro b hb; cases hb; omega
  · obtain rfl : m = n := by omega
    have d : decide (((place s m : Nat) : Int) < (s.length : Int)) = false := by rw [decide_eq_false_iff_not]; have := hn.1; omega
    simp only [d, cond_false]
    exact ⟨q, rfl, hl, fun b hb => by have := hq b hb; omega, by omega, k3⟩
theorem rCount_S (s : List UInt8) (n : Nat) (hn : SignsN s n) (hs : s.length ≤ 1000000000) (H : AH) : ACallee Tryd.prog 41 [.str s] H fun v H' => v = .int .i64 n ∧ H.n ≤ H'.n ∧ ∀ c, c < H.n → H'.get c = H.get c := by
  refine .inl ⟨goB_spec (by kernel_rfl), vcF_ok (anns := []) follows' ?_⟩
  rw [rCount_vc]
  refine (rSigns_S s n hn hs H).mono ?_
  rintro v H' ⟨q, rfl, _, _, h1, h2⟩
  exact ⟨_, _, _, rfl, rfl, h1, h2⟩
end Go.Proofs.YtlkdhhkncoekgaaDoor
end

/- Spans: right ones, ones that cross. -/
section
namespace Go.Proofs.YtlkdhhkncoekgaaDoor
open Go.Am Go

theorem rWithin_pure (x y : Spn) : Pure Tryd.prog 71 [.agg x.cells, .agg y.cells] (.bool (withinV x y)) := by
  refine Pure.of_vc follows' [] (by kernel_rfl) (by simp [AV.scals, AV.scal, Spn.cells]) rfl ?_
  show vcF _ _ _ _ [.agg [.int .i64 x.f, .int .i64 x.t, .int .i64 x.k, .int .i64 x.v], .agg [.int .i64 y.f, .int .i64 y.t, .int .i64 y.k, .int .i64 y.v]] _ _
  rw [rWithin_vc]
  simp [AH.read1, AH.get_alloc, withinV]
theorem rCross_pure (x y : Spn) : Pure Tryd.prog 57 [.agg x.cells, .agg y.cells] (.bool (crossV x y)) := by
  refine Pure.of_vc follows' [] (by kernel_rfl) (by simp [AV.scals, AV.scal, Spn.cells]) rfl ?_
  show vcF _ _ _ _ [.agg [.int .i64 x.f, .int .i64 x.t, .int .i64 x.k, .int .i64 x.v], .agg [.int .i64 y.f, .int .i64 y.t, .int .i64 y.k, .int .i64 y.v]] _ _
  rw [rCross_vc]
  simp only [real_n, real_al, real_rd1, real_rdn, real_call]
  obtain ⟨A, hA⟩ : ∃ A, A = ((emptyH Tryd.prog).alloc (.cells [.int .i64 x.f, .int .i64 x.t, .int .i64 x.k, .int .i64 x.v] 41 { whole := true })).alloc (.cells [.int .i64 y.f, .int .i64 y.t, .int .i64 y.k, .int .i64 y.v] 41 { whole := true }) := ⟨_, rfl⟩
  have an : ((emptyH Tryd.prog).alloc (.cells [.int .i64 x.f, .int .i64 x.t, .int .i64 x.k, .int .i64 x.v] 41 { whole := true })).n = (emptyH Tryd.prog).n + 1 := rfl
  rw [← hA, an]
  have gx : A.get (emptyH Tryd.prog).n = some (.cells x.cells 41 { whole := true }) := by rw [hA, AH.get_alloc, if_neg (by simp only [AH.n_alloc]; omega), AH.get_alloc, if_pos rfl]; rfl
  have gy : A.get ((emptyH Tryd.prog).n + 1) = some (.cells y.cells 41 { whole := true }) := by rw [hA, AH.get_alloc, if_pos an.symm]; rfl
  have rx : A.read (emptyH Tryd.prog).n 0 4 = some [.int .i64 x.f, .int .i64 x.t, .int .i64 x.k, .int .i64 x.v] := by unfold AH.read; rw [gx]; rfl
  have ry : A.read ((emptyH Tryd.prog).n + 1) 0 4 = some [.int .i64 y.f, .int .i64 y.t, .int .i64 y.k, .int .i64 y.v] := by unfold AH.read; rw [gy]; rfl
  refine ⟨(by trivial), (by trivial), x.f, by unfold AH.read1; rw [gx]; rfl, y.t, by unfold AH.read1; rw [gy]; rfl, y.f, by unfold AH.read1; rw [gy]; rfl, x.t, by unfold AH.read1; rw [gx]; rfl, x.f, x.t, x.k, x.v, rx, y.f, y.t, y.k, y.v, ry, ?_⟩
  have tt : (true == true) = true := rfl
  have ff : (false == true) = false := rfl
  unfold crossV
  cases h1 : (decide (x.f < y.t) && decide (y.f < x.t)) with
  | false =>
    simp only [ff, cond_false]
    exact ⟨y.f, y.t, y.k, y.v, ry, x.f, x.t, x.k, x.v, rx, rfl⟩
  | true =>
    simp only [tt, cond_true]
    refine (rWithin_pure x y).use1 ⟨_, rfl, y.f, y.t, y.k, y.v, ry, x.f, x.t, x.k, x.v, rx, ?_⟩
    cases h2 : withinV x y with
    | true => rfl
    | false =>
      have nt : ((!false) == true) = true := rfl
      simp only [nt, cond_true]
      exact (rWithin_pure y x).use1 ⟨_, rfl, rfl⟩
theorem rFits_pure (x : Spn) (n : Int) : Pure Tryd.prog 56 [.agg x.cells, .int .i64 n] (.bool (fitsV x n)) := by
  refine Pure.of_vc follows' [] (by kernel_rfl) (by simp [AV.scals, AV.scal, Spn.cells]) rfl ?_
  show vcF _ _ _ _ [.agg [.int .i64 x.f, .int .i64 x.t, .int .i64 x.k, .int .i64 x.v], .int .i64 n] _ _
  rw [rFits_vc]
  simp only [real_n, real_al, real_rd1]
  obtain ⟨A, hA⟩ : ∃ A, A = (emptyH Tryd.prog).alloc (.cells [.int .i64 x.f, .int .i64 x.t, .int .i64 x.k, .int .i64 x.v] 41 { whole := true }) := ⟨_, rfl⟩
  rw [← hA]
  have gx : A.get (emptyH Tryd.prog).n = some (.cells x.cells 41 { whole := true }) := by rw [hA, AH.get_alloc, if_pos rfl]; rfl
  have r0 : A.read1 (emptyH Tryd.prog).n 0 = some (.int .i64 x.f) := by unfold AH.read1; rw [gx]; rfl
  have r1 : A.read1 (emptyH Tryd.prog).n 1 = some (.int .i64 x.t) := by unfold AH.read1; rw [gx]; rfl
  have r2 : A.read1 (emptyH Tryd.prog).n 2 = some (.int .i64 x.k) := by unfold AH.read1; rw [gx]; rfl
  have r3 : A.read1 (emptyH Tryd.prog).n 3 = some (.int .i64 x.v) := by unfold AH.read1; rw [gx]; rfl
  refine ⟨(by trivial), x.f, r0, x.t, r1, x.f, r0, x.t, r1, x.k, r2, x.k, r2, ?_⟩
  unfold fitsV
  cases h1 : (decide (x.f < 0) || decide (x.t > n) || decide (x.f ≥ x.t) || decide (x.k < 1) || decide (x.k > 5)) with
  | true => rfl
  | false =>
    simp only [cond_false]
    refine ⟨x.k, r2, ?_⟩
    cases h2 : (x.k == 5) with
    | true => exact ⟨x.v, r3, x.v, r3, rfl⟩
    | false => exact ⟨x.v, r3, rfl⟩

def TextAt (H : AH) (q : Option Nat) (so : List Spn) : Prop := Lies H q so.length (flat Spn.cells so) 41 ∧ ∀ b, q = some b → b < H.n
theorem TextAt.keep {H H' : AH} {q : Option Nat} {so : List Spn} (h : TextAt H q so) (hn : H.n ≤ H'.n) (k : ∀ c, c < H.n → H'.get c = H.get c) : TextAt H' q so :=
  ⟨h.1.same fun b hb => k b (h.2 b hb), fun b hb => by have := h.2 b hb; omega⟩
theorem TextAt.span {H : AH} {q : Option Nat} {so : List Spn} (h : TextAt H q so) {K : AH} (k : ∀ c, c < H.n → K.get c = H.get c) {i : Nat} (hi : i < so.length) : ∃ b, q = some b ∧ K.read b (0 + ((i : Nat) : Int).toNat * 4) 4 = some [.int .i64 so[i].f, .int .i64 so[i].t, .int .i64 so[i].k, .int .i64 so[i].v] := by
  cases q with
  | none => rw [List.length_eq_zero_iff.1 h.1.1] at hi; cases hi
  | some b =>
    have hb : H.get b = some (.cells (flat Spn.cells so) 41 { opn := true }) := h.1
    exact ⟨b, rfl, read_flat Spn.cells_length (by rw [k b (h.2 b rfl)]; exact hb) hi⟩

set_option maxRecDepth 100000 in
theorem rCheck_S (s : List UInt8) (n : Nat) (hn : SignsN s n) (hs : s.length ≤ 4096) {so : List Spn} (hl : so.length ≤ 256) (hf : ∀ x ∈ so, fitsV x n = true) (hx : ∀ x ∈ so, ∀ y ∈ so, crossV x y = false) {H : AH} {q : Option Nat} (hq : TextAt H q so) :
    ACallee Tryd.prog 31 [.agg [.str s, sl q so.length]] H fun v H' => v = .int .i64 0 ∧ H.n ≤ H'.n ∧ ∀ c, c < H.n → H'.get c = H.get c := by
  refine .inl ⟨goB_spec (by kernel_rfl), vcG_ok (anns := _) (rans := _) follows' (Eq.mpr (rCheck_vc (real Tryd.prog) (Iter Tryd.prog) s (q.map fun b => (b, 0)) so.length H _) ?_)⟩
  simp only [real_n, real_al, real_rd1, real_rdn, real_call, real_wrap]
  obtain ⟨A, hA⟩ : ∃ A, A = H.alloc (.cells [.str s, .slice (q.map fun b => (b, 0)) so.length so.length] 26 { whole := true }) := ⟨_, rfl⟩
  rw [← hA]
  obtain ⟨G, hG⟩ : ∃ G : AH → Prop, G = fun K => K.get H.n = some (.cells [.str s, .slice (q.map fun b => (b, 0)) so.length so.length] 26 { whole := true }) ∧ H.n < K.n ∧ ∀ c, c < H.n → K.get c = H.get c := ⟨_, rfl⟩
  have gA : G A := by
    rw [hG, hA]; exact ⟨by rw [AH.get_alloc, if_pos rfl], by simp, fun c hc => by rw [AH.get_alloc, if_neg (by omega)]⟩
  have r0 : ∀ {K}, G K → K.read1 H.n 0 = some (.str s) := fun {K} h => by rw [hG] at h; unfold AH.read1; rw [h.1]; rfl
  have r1 : ∀ {K}, G K → K.read1 H.n 1 = some (.slice (q.map fun b => (b, 0)) so.length so.length) := fun {K} h => by rw [hG] at h; unfold AH.read1; rw [h.1]; rfl
  have old : ∀ {K}, G K → ∀ c, c < H.n → K.get c = H.get c := fun {K} h => by rw [hG] at h; exact h.2.2
  have d1 : decide ((s.length : Int) > 4096) = false := by rw [decide_eq_false_iff_not]; omega
  have d2 : decide ((so.length : Int) > 256) = false := by rw [decide_eq_false_iff_not]; omega
  have w6 : ∀ i : Nat, i < so.length → IntKind.i64.wrap ((i : Int) + 1) = ((i + 1 : Nat) : Int) := fun i hi => by rw [wrap_i64 (by omega) (by omega)]; omega
  refine ⟨(by trivial), s, r0 gA, ?_⟩
  simp only [d1, cond_false]
  refine ⟨_, _, _, r1 gA, ?_⟩
  simp only [d2, cond_false]
  refine ⟨s, r0 gA, (rCount_S s n hn (by omega) A).mono ?_⟩
  rintro v B ⟨rfl, bn, bo⟩
  have gB : G B := by
    have hA1 := gA
    rw [hG] at hA1 ⊢
    exact ⟨by rw [bo _ hA1.2.1]; exact hA1.1, by omega, fun c hc => by rw [bo c (by omega)]; exact hA1.2.2 c hc⟩
  refine ⟨n, rfl, fun y K k => ∃ i : Nat, y = (H.n, (n : Int), (i : Int)) ∧ i ≤ so.length ∧ G K ∧ k = so.length - i, ⟨(H.n, (n : Int), 0), so.length, rfl, 0, rfl, Nat.zero_le _, gB, rfl⟩, ?_⟩
  rintro _ K _ ⟨i, rfl, hi, hK, rfl⟩
  simp only
  refine ⟨_, _, _, r1 hK, ?_⟩
  by_cases hin : i < so.length
  · have d : decide ((i : Int) < (so.length : Int)) = true := by rw [decide_eq_true_iff]; omega
    simp only [d, cond_true]
    obtain ⟨b, rfl, hrd⟩ := hq.span (old hK) hin
    refine ⟨_, _, _, r1 hK, b, 0, ⟨rfl, by omega, by omega⟩, _, _, _, _, hrd, ?_⟩
    refine (rFits_pure so[i] n).use1 ⟨_, rfl, ?_⟩
    rw [hf _ (List.getElem_mem hin)]
    simp only [Bool.not_true, cond_false]
    exact ⟨(H.n, (n : Int), ((i + 1 : Nat) : Int)), so.length - (i + 1), by omega, by rw [w6 i hin], i + 1, rfl, by omega, hK, rfl⟩
  · have d : decide ((i : Int) < (so.length : Int)) = false := by rw [decide_eq_false_iff_not]; omega
    simp only [d, cond_false]
    refine ⟨fun y K k => ∃ i : Nat, y = (H.n, (i : Int)) ∧ i ≤ so.length ∧ G K ∧ k = so.length - i, ⟨(H.n, 0), so.length, rfl, 0, rfl, Nat.zero_le _, hK, rfl⟩, ?_⟩
    clear hK hi hin d
    rintro _ K _ ⟨i, rfl, hi, hK, rfl⟩
    simp only
    refine ⟨_, _, _, r1 hK, ?_⟩
    by_cases hin : i < so.length
    · have d : decide ((i : Int) < (so.length : Int)) = true := by rw [decide_eq_true_iff]; omega
      simp only [d, cond_true]
      refine ⟨fun y K k => ∃ j : Nat, y = (H.n, (i : Int), (j : Int)) ∧ j ≤ i ∧ G K ∧ k = i - j, ⟨(H.n, (i : Int), 0), i, rfl, 0, rfl, Nat.zero_le _, hK, rfl⟩, ?_⟩
      clear hK
      rintro _ K _ ⟨j, rfl, hj, hK, rfl⟩
      simp only
      by_cases hji : j < i
      · have d : decide ((j : Int) < (i : Int)) = true := by rw [decide_eq_true_iff]; omega
        simp only [d, cond_true]
        obtain ⟨b, rfl, hrd⟩ := hq.span (old hK) hin
        obtain ⟨b', e, hrd'⟩ := hq.span (old hK) (show j < so.length by omega)
        cases e
        refine ⟨_, _, _, r1 hK, b, 0, ⟨rfl, by omega, by omega⟩, _, _, _, _, hrd, _, _, _, r1 hK, b, 0, ⟨rfl, by omega, by omega⟩, _, _, _, _, hrd', ?_⟩
        refine (rCross_pure so[i] so[j]).use1 ⟨_, rfl, ?_⟩
        rw [hx _ (List.getElem_mem hin) _ (List.getElem_mem _)]
        simp only [cond_false]
        exact ⟨(H.n, (i : Int), ((j + 1 : Nat) : Int)), i - (j + 1), by omega, by rw [w6 j (by omega)], j + 1, rfl, by omega, hK, rfl⟩
      · have d : decide ((j : Int) < (i : Int)) = false := by rw [decide_eq_false_iff_not]; omega
        simp only [d, cond_false]
        exact ⟨(H.n, ((i + 1 : Nat) : Int)), so.length - (i + 1), by omega, by rw [w6 i hin], i + 1, rfl, by omega, hK, rfl⟩
    · have d : decide ((i : Int) < (so.length : Int)) = false := by rw [decide_eq_false_iff_not]; omega
      simp only [d, cond_false]
      refine ⟨trivial, ?_, old hK⟩
      rw [hG] at hK
      omega
end Go.Proofs.YtlkdhhkncoekgaaDoor
end

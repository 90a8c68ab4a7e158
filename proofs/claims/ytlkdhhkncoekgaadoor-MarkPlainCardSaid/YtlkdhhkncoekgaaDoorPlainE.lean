/- Pieces without looks, laid together. -/
import Derived.Test.YtlkdhhkncoekgaaDoorPlainD
namespace Go.Proofs.YtlkdhhkncoekgaaDoor
open Go.Am Go

/-- Pieces without looks, as cells. -/
def pcs : List (List UInt8) → List AV
  | [] => []
  | p :: ps => (.str p :: z1) ++ pcs ps

theorem pcs_length : ∀ ps, (pcs ps).length = ps.length * 6
  | [] => rfl
  | p :: ps => by simp only [pcs, List.length_append, pcs_length ps]; simp only [z1, List.length_cons, List.length_nil]; omega
theorem pcs_at : ∀ {ps : List (List UInt8)} {i : Nat} (h : i < ps.length), ((pcs ps).drop (i * 6)).take 6 = .str ps[i] :: z1
  | p :: ps, 0, _ => by simp [pcs, z1]
  | p :: ps, i + 1, h => by
    have e : (i + 1) * 6 = 6 + i * 6 := by omega
    rw [e, ← List.drop_drop]
    have : (pcs (p :: ps)).drop 6 = pcs ps := by simp [pcs, z1]
    rw [this]
    exact pcs_at (by simpa using h)
theorem read_pcs {H : AH} {b i : Nat} {ps : List (List UInt8)} {e : TypeId} {fl : Fl} (h : H.get b = some (.cells (pcs ps) e fl)) (hi : i < ps.length) : H.read b (0 + i * 6) 6 = some (.str ps[i] :: z1) := by
  unfold AH.read
  rw [h]
  have : 0 + i * 6 + 6 ≤ (pcs ps).length := by rw [pcs_length]; omega
  simp only [Nat.zero_add] at this ⊢
  rw [if_pos this, pcs_at hi]
theorem pcs_scal : ∀ ps, AV.scals (pcs ps) = true
  | [] => by simp [pcs, AV.scals]
  | p :: ps => by rw [pcs, scals_append, pcs_scal ps]; simp [AV.scals, AV.scal, z1]
theorem pcs_snoc : ∀ (ps : List (List UInt8)) (p : List UInt8), pcs ps ++ (.str p :: z1) = pcs (ps ++ [p])
  | [], p => by simp [pcs]
  | q :: ps, p => by simp only [List.cons_append, pcs, List.append_assoc, ← pcs_snoc ps p]

theorem bytes_back : ∀ s : List UInt8, bytesOfCells (byteCellsA s) = some s
  | [] => rfl
  | b :: s => by
    have h := bytes_back s
    simp only [byteCellsA, List.map_cons] at h ⊢
    simp [bytesOfCells, h]

theorem append_str {H : AH} {q : Option Nat} {so s : List UInt8} (hl : Lies H q so.length (byteCellsA so) 5) (h0 : s ≠ []) (hm : so.length + s.length ≤ 8192) :
    ∃ H', appendV Tryd.prog H 39 9 (sl q so.length) (.str s) = some (sl (some H.n) (so ++ s).length, H') ∧ H'.n = H.n + 1 ∧ Lies H' (some H.n) (so ++ s).length (byteCellsA (so ++ s)) 5 ∧ ∀ c, c < H.n → q ≠ some c → H'.get c = H.get c := by
  have h := append_lies (P := Tryd.prog) (H := H) (st := 39) (xt := 9) (e := 5) (xd := .string) (s := 1) (by_ := 1) (m := so.length) (n := s.length) (q := q) (old := byteCellsA so) (new := byteCellsA s) (y := .str s) (z := .int .u8 0)
    (by kernel_rfl) (by kernel_rfl) (fun k h => by cases h) (by kernel_rfl) (by kernel_rfl) (by kernel_rfl) rfl (by decide) rfl (by simp [byteCellsA, AV.one]) (List.length_pos_iff.2 h0) hl (by simp [byteCellsA]) (by omega)
  rw [← List.length_append] at h
  have e : byteCellsA so ++ byteCellsA s = byteCellsA (so ++ s) := by simp [byteCellsA]
  rw [e] at h
  exact h

theorem run1_scal (n : Nat) : AV.scals (run1 n) = true := by simp [run1, z1, AV.scals, AV.scal]
theorem Make_ro (s : List UInt8) (n : Nat) (hs : SignsN s n) (h0 : 0 < n) (hl : s.length ≤ 4096) {H : AH} {b : Nat} {fl : Fl} (hb : H.get b = some (.cells (run1 n) 109 fl)) :
    ACallee Tryd.prog 55 [.str s, .slice (some (b, 0)) 1 1] H fun v H' => v = .tuple [.agg [.str s, .slice none 0 0], .int .i64 0] ∧ H' = H :=
  ACall.ro (Make_run s n hs h0 hl) (by kernel_rfl) (by rintro v rfl; rfl) _ (by simp [AV.rens, AV.ren, gs]) (Shows.one (run1_scal n) hb)

noncomputable def pH (ps : List (List UInt8)) : AH := (emptyH Tryd.prog).alloc (.cells (pcs ps) 79 { own := false, opn := true })

theorem append_run {H : AH} {c : Nat} {fl : Fl} (hc : H.get c = some (.cells (run1 1) 109 fl)) :
    ∃ H', appendV Tryd.prog H 107 107 (sl none 0) (.slice (some (c, 0)) 1 1) = some (sl (some H.n) 1, H') ∧ H'.n = H.n + 1 ∧ Lies H' (some H.n) 1 (run1 1) 109 ∧ ∀ c, c < H.n → H'.get c = H.get c := by
  obtain ⟨H', h1, h2, h3, h4⟩ := append_lies (P := Tryd.prog) (H := H) (st := 107) (xt := 107) (e := 109) (xd := .slice 109) (s := 7) (by_ := 32) (m := 0) (n := 1) (q := none) (old := []) (new := run1 1) (y := .slice (some (c, 0)) 1 1) (z := .agg (run1 0))
    (by kernel_rfl) (by kernel_rfl) (fun k h => by cases h) (by kernel_rfl) (by kernel_rfl) (by kernel_rfl) rfl (by decide) (by simp [srcV, AH.read, hc, run1, z1]) (by decide) (by decide) ⟨rfl, rfl⟩ rfl (by decide)
  exact ⟨H', h1, h2, h3, fun c hc => h4 c hc (fun e => by cases e)⟩

theorem laid_run (ps : List (List UInt8)) (h0 : 0 < ps.length) (hne : ∀ p ∈ ps, p ≠ []) (hl : ps.flatten.length ≤ 4096) (hs : SignsN ps.flatten ps.length) :
    ACall Tryd.prog 30 [.slice (some (3, 0)) ps.length ps.length] (pH ps) fun v _ => v = .tuple [.agg [.str ps.flatten, .slice none 0 0], .int .i64 0] := by
  have hk : ps.length ≤ 4096 := by have := place_ge hs.2; have := hs.1; omega
  have hrn : (pH ps).n = 3 + 1 := by show (emptyH Tryd.prog).n + 1 = _; rw [nG]
  obtain ⟨Z, hZ⟩ : ∃ Z : AH → Prop, Z = fun H => H.get 3 = some (.cells (pcs ps) 79 { own := false, opn := true }) ∧ H.get (3 + 1) = some (.cells [.str [], .slice none 0 0] 26 { whole := true }) ∧ 3 + 1 < H.n := ⟨_, rfl⟩
  obtain ⟨I1, hI1⟩ : ∃ I1 : Int × Option (Nat × Nat) × Nat → AH → Nat → Prop, I1 = fun x H j => Z H ∧ ∃ (i : Nat) (q : Option Nat), x = ((i : Int), q.map (fun b => (b, 0)), (ps.take i).flatten.length) ∧ i ≤ ps.length ∧
      Lies H q (ps.take i).flatten.length (byteCellsA (ps.take i).flatten) 5 ∧ (∀ b, q = some b → 3 + 1 < b ∧ b < H.n) ∧ j = ps.length - i := ⟨_, rfl⟩
  obtain ⟨I2, hI2⟩ : ∃ I2 : Int × (Option (Nat × Nat) × Nat) × (Option (Nat × Nat) × Nat) → AH → Nat → Prop, I2 = fun x H j => Z H ∧ ∃ (i : Nat) (q q7 : Option Nat), x = ((i : Int), (q.map (fun b => (b, 0)), ps.flatten.length), (q7.map (fun b => (b, 0)), if i = 0 then 0 else 1)) ∧ i ≤ ps.length ∧
      Lies H q ps.flatten.length (byteCellsA ps.flatten) 5 ∧ (∀ b, q = some b → 3 + 1 < b ∧ b < H.n) ∧ ((i = 0 ∧ q7 = none) ∨ ∃ b, 0 < i ∧ q7 = some b ∧ H.get b = some (.cells (run1 i) 109 { opn := true }) ∧ 3 + 1 < b ∧ b < H.n ∧ q ≠ some b) ∧ j = ps.length - i := ⟨_, rfl⟩
  refine vcF_ok (anns := [⟨3, Int × Option (Nat × Nat) × Nat, [0, 2, 3, 4, 11, 12, 13], fun x => [.slice (some (3, 0)) ps.length ps.length, .ptr (some ((real Tryd.prog none).n (pH ps), 0)), .int .i64 0, .slice x.2.1 x.2.2 x.2.2, .slice (some (3, 0)) ps.length ps.length, .int .i64 ps.length, .int .i64 x.1], I1⟩,
    ⟨11, Int × (Option (Nat × Nat) × Nat) × (Option (Nat × Nat) × Nat), [2, 3, 4, 7, 30, 31, 32], fun x => [.ptr (some ((real Tryd.prog none).n (pH ps), 0)), .int .i64 0, .slice x.2.1.1 x.2.1.2 x.2.1.2, .slice x.2.2.1 x.2.2.2 x.2.2.2, .slice (some (3, 0)) ps.length ps.length, .int .i64 ps.length, .int .i64 x.1], I2⟩]) follows' ?_
  rw [laid_vc]
  simp only [real_n, real_al, real_rd1, real_rdn, real_call, real_wr, real_wrap, real_app, real_str, hrn]
  have fresh : ∀ {H : AH} {o : AObj} {v : List AV} {c : Nat}, c < H.n → ((H.alloc o).set H.n (.cells v 79 { whole := true })).get c = H.get c := fun {H o v c} hc => by
    rw [AH.get_set, if_neg (by omega), AH.get_alloc, if_neg (by omega)]
  refine ⟨⟨(0, none, 0), ps.length, rfl, ?_⟩, ?_⟩
  · rw [hI1, hZ]
    refine ⟨⟨?_, ?_, ?_⟩, 0, none, rfl, Nat.zero_le _, ⟨rfl, rfl⟩, fun b h => (by cases h), rfl⟩
    · simp [pH, AH.get_alloc, nG]
    · rw [AH.get_alloc, if_pos hrn.symm]
    · simp [hrn]
  rintro x H1 j1 hx
  rw [hI1] at hx
  obtain ⟨hz, i, q, rfl, hi, hL, hq, rfl⟩ := hx
  have hz' := hz
  rw [hZ] at hz'
  obtain ⟨y1, y2, y3⟩ := hz'
  by_cases hik : (i : Int) < (ps.length : Int)
  · simp only [hik, decide_true, cond_true]
    have hik' : i < ps.length := by omega
    refine ⟨3, 0, ⟨rfl, by omega, trivial⟩, ps[i], false, false, false, false, 0, read_pcs y1 (by omega), rfl, (H1.alloc (.cells [.str [], .bool false, .bool false, .bool false, .bool false, .int .i64 0] 79 { whole := true })).set H1.n (.cells (.str ps[i] :: z1) 79 { whole := true }), by simp [AH.write, AH.get_alloc, splice, AV.one, z1], ps[i], by simp [AH.read1, AH.get_set], ?_⟩
    have ht : ps.take (i + 1) = ps.take i ++ [ps[i]] := (List.take_append_getElem hik').symm
    have hfl : (ps.take (i + 1)).flatten = (ps.take i).flatten ++ ps[i] := by rw [ht, List.flatten_append]; simp only [List.flatten_cons, List.flatten_nil, List.append_nil]
    have hle : (ps.take (i + 1)).flatten.length ≤ ps.flatten.length := by
      conv => rhs; rw [← List.take_append_drop (i + 1) ps, List.flatten_append, List.length_append]
      omega
    rw [hfl, List.length_append] at hle
    have c1 : ¬ (IntKind.i64.wrap (((ps.take i).flatten.length : Int) + (ps[i].length : Int)) > 4096) := by rw [wrap_i64 (by omega) (by omega)]; omega
    simp only [c1, decide_false, cond_false]
    obtain ⟨H3, g1, g2, g3, g4⟩ := append_str (H := (H1.alloc (.cells [.str [], .bool false, .bool false, .bool false, .bool false, .int .i64 0] 79 { whole := true })).set H1.n (.cells (.str ps[i] :: z1) 79 { whole := true })) (q := q) (so := (ps.take i).flatten) (s := ps[i])
      (hL.same fun b hb => fresh (hq b hb).2) (hne _ (List.getElem_mem hik')) (by omega)
    have hn3 : H3.n = H1.n + 2 := by rw [g2]; simp
    have old : ∀ c, c ≤ 3 + 1 → H3.get c = H1.get c := fun c hc => by
      rw [g4 c (by simp only [AH.n_set, AH.n_alloc]; omega) (fun e => by have := hq c e; omega), fresh (by omega)]
    refine ⟨ps[i], by simp [AH.read1, AH.get_set], _, _, _, H3, g1, ((i + 1 : Nat), some (H1.n + 1, 0), (ps.take (i + 1)).flatten.length), ps.length - (i + 1), by omega, ?_, ?_⟩
    · have e2 := wrap_i64 (n := (i : Int) + 1) (by omega) (by omega)
      simp only [e2, hfl]; rfl
    · rw [hI1, hZ]
      refine ⟨⟨by rw [old _ (by omega)]; exact y1, by rw [old _ (by omega)]; exact y2, by omega⟩, i + 1, some (H1.n + 1), rfl, by omega, ?_, ?_, rfl⟩
      · rw [hfl]; exact g3
      · intro b hb; cases hb; omega
  · simp only [hik, decide_false, cond_false]
    obtain rfl : i = ps.length := by omega
    rw [List.take_length] at hL
    refine ⟨⟨(0, (q.map (fun b => (b, 0)), ps.flatten.length), (none, 0)), ps.length, by rw [List.take_length], ?_⟩, ?_⟩
    · rw [hI2]; exact ⟨hz, 0, q, none, rfl, Nat.zero_le _, hL, hq, .inl ⟨rfl, rfl⟩, rfl⟩
    clear hz hL hq y1 y2 y3 hi hik
    rintro x H2 j2 hx
    rw [hI2] at hx
    obtain ⟨hz, i, q, q7, rfl, hi, hL, hq, h7, rfl⟩ := hx
    have hz' := hz
    rw [hZ] at hz'
    obtain ⟨y1, y2, y3⟩ := hz'
    by_cases hik : (i : Int) < (ps.length : Int)
    · simp only [hik, decide_true, cond_true]
      have hik' : i < ps.length := by omega
      refine ⟨3, 0, ⟨rfl, by omega, trivial⟩, ps[i], false, false, false, false, 0, read_pcs y1 (by omega), rfl, (H2.alloc (.cells [.str [], .bool false, .bool false, .bool false, .bool false, .int .i64 0] 79 { whole := true })).set H2.n (.cells (.str ps[i] :: z1) 79 { whole := true }), by simp [AH.write, AH.get_alloc, splice, AV.one, z1], ?_⟩
      have e2 := wrap_i64 (n := (i : Int) + 1) (by omega) (by omega)
      have rlook : ((H2.alloc (.cells [.str [], .bool false, .bool false, .bool false, .bool false, .int .i64 0] 79 { whole := true })).set H2.n (.cells (.str ps[i] :: z1) 79 { whole := true })).read H2.n 1 5 = some [.bool false, .bool false, .bool false, .bool false, .int .i64 0] := by
        simp [AH.read, AH.get_set, z1]
      rcases h7 with ⟨rfl, rfl⟩ | ⟨b, hi0, rfl, hb, hb1, hb2, hb3⟩
      · have c1 : (decide ((((if (0 : Nat) = 0 then 0 else 1) : Nat) : Int) > 0) == true) = false := by decide
        simp only [c1, cond_false]
        obtain ⟨H8, g1, g2, g3, g4⟩ := append_run (H := ((H2.alloc (.cells [.str [], .bool false, .bool false, .bool false, .bool false, .int .i64 0] 79 { whole := true })).set H2.n (.cells (.str ps[0] :: z1) 79 { whole := true })).alloc (.cells (run1 1) 109 { whole := true })) (c := H2.n + 1) (fl := { whole := true })
          (by rw [AH.get_alloc, if_pos (by simp)])
        have hn8 : H8.n = H2.n + 3 := by rw [g2]; simp
        have old : ∀ c, c < H2.n → H8.get c = H2.get c := fun c hc => by
          rw [g4 c (by simp only [AH.n_set, AH.n_alloc]; omega), AH.get_alloc, if_neg (by simp only [AH.n_set, AH.n_alloc]; omega), fresh hc]
        refine ⟨false, false, false, false, 0, rlook, by decide, some (H2.n + 2, 0), 1, 1, H8, ?_, (1, (q.map (fun b => (b, 0)), ps.flatten.length), (some (H2.n + 2, 0), 1)), ps.length - 1, by omega, ?_, ?_⟩
        · rw [e2]; exact g1
        · rw [e2]; rfl
        · rw [hI2, hZ]
          refine ⟨⟨by rw [old _ (by omega)]; exact y1, by rw [old _ (by omega)]; exact y2, by omega⟩, 1, q, some (H2.n + 2), rfl, by omega, hL.same fun b hb => old b (hq b hb).2, fun b hb => by have := hq b hb; omega, .inr ⟨H2.n + 2, by omega, rfl, g3, by omega, by omega, fun e => by have := hq _ e; omega⟩, rfl⟩
      · have e7 : (if i = 0 then 0 else 1) = 1 := if_neg (by omega)
        have c1 : (decide (((1 : Nat) : Int) > 0) == true) = true := by decide
        have w0 : IntKind.i64.wrap (((1 : Nat) : Int) - 1) = 0 := by rw [wrap_i64 (by omega) (by omega)]; rfl
        simp only [e7, c1, cond_true, w0]
        have hbg : ((H2.alloc (.cells [.str [], .bool false, .bool false, .bool false, .bool false, .int .i64 0] 79 { whole := true })).set H2.n (.cells (.str ps[i] :: z1) 79 { whole := true })).get b = some (.cells (run1 i) 109 { opn := true }) := by rw [fresh hb2]; exact hb
        refine ⟨b, 0, ⟨rfl, Int.le_refl 0, by omega⟩, false, false, false, false, 0, by unfold AH.read; rw [hbg]; simp [run1, z1], false, false, false, false, 0, rlook, ?_⟩
        simp only [BEq.rfl, Bool.and_self, cond_true]
        refine ⟨b, 0, ⟨rfl, Int.le_refl 0, by omega⟩, i, by unfold AH.read1; rw [hbg]; simp [run1], b, 0, ⟨rfl, Int.le_refl 0, by omega⟩, rfl, ((H2.alloc (.cells [.str [], .bool false, .bool false, .bool false, .bool false, .int .i64 0] 79 { whole := true })).set H2.n (.cells (.str ps[i] :: z1) 79 { whole := true })).set b (.cells (run1 (i + 1)) 109 { opn := true }), by unfold AH.write; rw [hbg]; simp [run1, splice, AV.one, z1, e2], ((i : Int) + 1, (q.map (fun b => (b, 0)), ps.flatten.length), (some (b, 0), 1)), ps.length - (i + 1), by omega, by rw [e2]; rfl, ?_⟩
        rw [hI2, hZ]
        refine ⟨⟨?_, ?_, ?_⟩, i + 1, q, some b, ?_, by omega, hL.same fun c hc => ?_, fun c hc => ?_, .inr ⟨b, by omega, rfl, ?_, by omega, ?_, hb3⟩, rfl⟩
        · rw [AH.get_set, if_neg (by omega), fresh (by omega)]; exact y1
        · rw [AH.get_set, if_neg (by omega), fresh (by omega)]; exact y2
        · simp only [AH.n_set, AH.n_alloc]; omega
        · simp
        · rw [AH.get_set, if_neg (fun e => hb3 (by rw [hc, e])), fresh (hq c hc).2]
        · have := hq c hc; simp only [AH.n_set, AH.n_alloc]; omega
        · rw [AH.get_set, if_pos rfl]
        · simp only [AH.n_set, AH.n_alloc]; omega
    · simp only [hik, decide_false, cond_false]
      obtain rfl : i = ps.length := by omega
      rcases h7 with ⟨h, _⟩ | ⟨b, hi0, rfl, hb, hb1, hb2, hb3⟩
      · omega
      have e7 : (if ps.length = 0 then 0 else 1) = 1 := if_neg (by omega)
      simp only [e7]
      have hby : bytesAt H2 (.slice (q.map (fun b => (b, 0))) ps.flatten.length ps.flatten.length) = some ps.flatten := by
        cases q with
        | none =>
          have : ps.flatten = [] := List.length_eq_zero_iff.1 hL.1
          rw [this]; rfl
        | some c =>
          have hc : H2.get c = some (.cells (byteCellsA ps.flatten) 5 { opn := true }) := hL
          have : (byteCellsA ps.flatten).length = ps.flatten.length := by unfold byteCellsA; rw [List.length_map]
          simp only [bytesAt, Option.map_some, AH.read, hc, Nat.zero_add, this, Nat.le_refl, if_true, List.drop_zero, Option.bind_some]
          rw [List.take_of_length_le (by omega)]; exact bytes_back _
      refine ⟨ps.flatten, hby, ?_⟩
      refine (Make_ro ps.flatten ps.length hs h0 hl hb).mono ?_
      rintro v H' ⟨rfl, rfl⟩
      refine ⟨ps.flatten, none, 0, 0, 0, rfl, rfl, H'.set (3 + 1) (.cells [.str ps.flatten, .slice none 0 0] 26 { whole := true }), ?_, ps.flatten, none, 0, 0, ?_, rfl⟩
      · simp [AH.write, y2, splice, AV.one]
      · simp [AH.read, AH.get_set]
end Go.Proofs.YtlkdhhkncoekgaaDoor

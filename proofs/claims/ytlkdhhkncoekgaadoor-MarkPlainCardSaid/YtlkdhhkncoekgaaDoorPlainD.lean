/- A text of one run without any look: no span. -/
import Derived.Test.YtlkdhhkncoekgaaDoorPlainC
import Derived.Test.YtlkdhhkncoekgaaDoorSlices
namespace Go.Proofs.YtlkdhhkncoekgaaDoor
open Go.Am Go

theorem z1_scal : AV.scals z1 = true := by decide
theorem scals_append : ∀ (a b : List AV), AV.scals (a ++ b) = (AV.scals a && AV.scals b)
  | [], b => by simp [AV.scals]
  | x :: a, b => by simp only [List.cons_append, AV.scals, scals_append a b, Bool.and_assoc]
theorem zc_scal : ∀ n, AV.scals (zc n) = true
  | 0 => by simp [zc, AV.scals]
  | n + 1 => by rw [zc, scals_append, z1_scal, zc_scal n]; rfl
theorem zc_snoc : ∀ n, zc n ++ z1 = zc (n + 1)
  | 0 => by simp [zc]
  | n + 1 => by
    have h := zc_snoc n
    calc zc (n + 1) ++ z1 = z1 ++ (zc n ++ z1) := by simp only [zc, List.append_assoc]
      _ = z1 ++ zc (n + 1) := by rw [h]
      _ = zc (n + 1 + 1) := rfl

theorem gs : Tryd.prog.globals.size = 3 := nG

theorem made_ro (n : Nat) (h0 : 0 < n) (hn : n ≤ 4096) {H : AH} {b : Nat} {fl : Fl} (hb : H.get b = some (.cells (zc n) 53 fl)) :
    ACallee Tryd.prog 93 [.slice (some (b, 0)) n n] H fun v H' => v = .slice none 0 0 ∧ H' = H :=
  ACall.ro (made_zero n h0 hn) (by kernel_rfl) (by rintro v rfl; rfl) _ (by simp [AV.rens, AV.ren, gs]) (Shows.one (zc_scal n) hb)

theorem text_zero (s : List UInt8) (n : Nat) (h0 : 0 < n) (hn : n ≤ 4096) : ACall Tryd.prog 79 [.str s, .slice (some (3, 0)) n n] (zH n) fun v _ => v = .tuple [.agg [.str s, .slice none 0 0], .int .i64 0] := by
  refine vcF_ok (anns := []) follows' ?_
  rw [text_vc]
  refine (made_ro n h0 hn (fl := { own := false, opn := true }) ?_).mono ?_
  · simp [zH, AH.get_alloc, nG]
  rintro v H' ⟨rfl, rfl⟩
  refine ⟨none, 0, 0, rfl, ?_⟩
  simp [zH, AH.write, AH.read, AH.get_alloc, AH.get_set, nG, splice, AV.one]
  exact ⟨s, none, 0, 0, ⟨rfl, rfl, rfl, rfl⟩, rfl, rfl, rfl, rfl⟩
theorem text_ro (s : List UInt8) (n : Nat) (h0 : 0 < n) (hn : n ≤ 4096) {H : AH} {b : Nat} {fl : Fl} (hb : H.get b = some (.cells (zc n) 53 fl)) :
    ACallee Tryd.prog 79 [.str s, .slice (some (b, 0)) n n] H fun v H' => v = .tuple [.agg [.str s, .slice none 0 0], .int .i64 0] ∧ H' = H :=
  ACall.ro (text_zero s n h0 hn) (by kernel_rfl) (by rintro v rfl; rfl) _ (by simp [AV.rens, AV.ren, gs]) (Shows.one (zc_scal n) hb)

/-- A run over all signs, without any look. -/
def run1 (n : Nat) : List AV := [.int .i64 0, .int .i64 n] ++ z1
noncomputable def rH (n : Nat) : AH := (emptyH Tryd.prog).alloc (.cells (run1 n) 109 { own := false, opn := true })

theorem append_attr {H : AH} {q : Option Nat} {m c : Nat} {fl : Fl} (hl : Lies H q m (zc m) 53) (hc : H.get c = some (.cells z1 53 fl)) (hm : m ≤ 4096) :
    ∃ H', appendV Tryd.prog H 50 50 (sl q m) (.slice (some (c, 0)) 1 1) = some (sl (some H.n) (m + 1), H') ∧ H'.n = H.n + 1 ∧ Lies H' (some H.n) (m + 1) (zc (m + 1)) 53 ∧ ∀ c, c < H.n → q ≠ some c → H'.get c = H.get c := by
  have h := append_lies (P := Tryd.prog) (H := H) (st := 50) (xt := 50) (e := 53) (xd := .slice 53) (s := 5) (by_ := 16) (m := m) (n := 1) (q := q) (old := zc m) (new := z1) (y := .slice (some (c, 0)) 1 1) (z := .agg z1)
    (by kernel_rfl) (by kernel_rfl) (fun k h => by cases h) (by kernel_rfl) (by kernel_rfl) (by kernel_rfl) rfl (by decide) (by simp [srcV, AH.read, hc, z1]) (by decide) (by decide) hl (zc_length m) (by omega)
  rw [zc_snoc] at h
  exact h

theorem Make_run (s : List UInt8) (n : Nat) (hs : SignsN s n) (h0 : 0 < n) (hl : s.length ≤ 4096) : ACall Tryd.prog 55 [.str s, .slice (some (3, 0)) 1 1] (rH n) fun v _ => v = .tuple [.agg [.str s, .slice none 0 0], .int .i64 0] := by
  have hn : n ≤ 4096 := by have := place_ge hs.2; have := hs.1; omega
  have hrn : (rH n).n = 3 + 1 := by show (emptyH Tryd.prog).n + 1 = _; rw [nG]
  refine vcG_ok (rans := []) (anns := [⟨6, Int × Int × Option (Nat × Nat) × Nat, [0, 4, 5, 6, 7, 16, 17, 18], fun x => [.str s, .ptr (some ((real Tryd.prog none).n (rH n), 0)), .int .i64 0, .slice x.2.2.1 x.2.2.2 x.2.2.2, .int .i64 x.2.1, .slice (some (3, 0)) 1 1, .int .i64 (1 : Nat), .int .i64 x.1], fun _ _ _ => True⟩,
    ⟨11, Int × Int × (Option (Nat × Nat) × Nat) × Nat × Int × Int, [0, 4, 5, 6, 7, 9, 16, 17, 18, 57, 58], fun x => [.str s, .ptr (some ((real Tryd.prog none).n (rH n), 0)), .int .i64 0, .slice x.2.2.1.1 x.2.2.1.2 x.2.2.1.2, .int .i64 x.2.1, .ptr (some (x.2.2.2.1, 0)), .slice (some (3, 0)) 1 1, .int .i64 (1 : Nat), .int .i64 x.1, .int .i64 x.2.2.2.2.1, .int .i64 x.2.2.2.2.2], fun _ _ _ => True⟩]) follows' ?_
  rw [Make_vc]
  simp only [real_n, real_al, real_rd1, real_rdn, real_call, real_wr, real_wrap, real_app]
  have hl' : ¬ ((s.length : Int) > 4096) := by omega
  simp only [hl', decide_false, cond_false, hrn]
  refine (Count_pure s n hs (by omega)).use1 ⟨n, rfl, ?_⟩
  -- what both loops keep: the run, the result
  obtain ⟨Z, hZ⟩ : ∃ Z : AH → Prop, Z = fun H => H.get 3 = some (.cells (run1 n) 109 { own := false, opn := true }) ∧ H.get (3 + 1) = some (.cells [.str [], .slice none 0 0] 26 { whole := true }) ∧ 3 + 1 < H.n := ⟨_, rfl⟩
  refine ⟨fun x H j => Z H ∧ ((x = (0, (n : Int), none, 0) ∧ j = 1) ∨ ∃ b, x = (1, (n : Int), some (b, 0), n) ∧ Lies H (some b) n (zc n) 53 ∧ j = 0), ⟨(0, (n : Int), none, 0), 1, rfl, ?_, .inl ⟨rfl, rfl⟩⟩, ?_⟩
  · rw [hZ]; refine ⟨?_, ?_, ?_⟩
    · simp [rH, AH.get_alloc, nG]
    · rw [AH.get_alloc, if_pos hrn.symm]
    · simp [hrn]
  rintro _ H1 j1 ⟨hz, ⟨rfl, rfl⟩ | ⟨b, rfl, hb, rfl⟩⟩
  · have hz' := hz
    rw [hZ] at hz'
    obtain ⟨y1, y2, y3⟩ := hz'
    show bif decide ((0 : Int) < (1 : Nat)) then _ else _
    have hlt : decide ((0 : Int) < ((1 : Nat) : Int)) = true := by decide
    rw [hlt]
    refine ⟨3, 0, ⟨rfl, Int.le_refl 0, Int.zero_lt_one⟩, 0, n, false, false, false, false, 0, ?_, rfl, (H1.alloc (.cells [.int .i64 0, .int .i64 0, .bool false, .bool false, .bool false, .bool false, .int .i64 0] 109 { whole := true })).set H1.n (.cells (run1 n) 109 { whole := true }), ?_, ?_⟩
    · simp [AH.read, y1, run1, z1]
    · simp [AH.write, AH.get_alloc, splice, AV.one, run1, z1]
    have r : ∀ i, ((H1.alloc (.cells [.int .i64 0, .int .i64 0, .bool false, .bool false, .bool false, .bool false, .int .i64 0] 109 { whole := true })).set H1.n (.cells (run1 n) 109 { whole := true })).read1 H1.n i = (run1 n)[i]? := fun i => by simp [AH.read1, AH.get_set]
    simp only [r]
    refine ⟨0, rfl, n, rfl, 0, rfl, n, rfl, 0, rfl, 0, rfl, ?_⟩
    have c1 : ((0 : Int) != ((0 : Nat) : Int) || decide ((n : Int) ≤ 0) || decide ((n : Int) > (n : Int)) || decide ((0 : Int) < 0) || decide ((0 : Int) > 16777216)) = false := by
      have : decide ((n : Int) ≤ 0) = false := by rw [decide_eq_false_iff_not]; omega
      rw [this]; simp
    simp only [c1, cond_false]
    refine ⟨n, rfl, 0, rfl, ?_⟩
    have c2 : IntKind.i64.wrap ((n : Int) - 0) = n := by rw [wrap_i64 (by omega) (by omega)]; omega
    rw [c2]
    refine ⟨fun x H j => Z H ∧ ∃ (m : Nat) (q : Option Nat), x = (0, (n : Int), (q.map (fun b => (b, 0)), m), H1.n, (n : Int), (m : Int)) ∧ m ≤ n ∧ Lies H q m (zc m) 53 ∧ H.get H1.n = some (.cells (run1 n) 109 { whole := true }) ∧ H1.n < H.n ∧
        (∀ b, q = some b → H1.n < b ∧ b < H.n) ∧ j = n - m, ⟨(0, (n : Int), (none, 0), H1.n, (n : Int), 0), n, rfl, ?_, 0, none, rfl, Nat.zero_le _, ⟨rfl, rfl⟩, ?_, ?_, ?_, rfl⟩, ?_⟩
    · rw [hZ]; refine ⟨?_, ?_, ?_⟩
      · rw [AH.get_set, if_neg (by omega), AH.get_alloc, if_neg (by omega)]; exact y1
      · rw [AH.get_set, if_neg (by omega), AH.get_alloc, if_neg (by omega)]; exact y2
      · simp only [AH.n_set, AH.n_alloc]; omega
    · rw [AH.get_set, if_pos rfl]
    · simp
    · intro b h; cases h
    rintro _ H2 j2 ⟨hz2, m, q, rfl, hm, hL, hr, hlt2, hq, rfl⟩
    rw [hZ] at hz2
    obtain ⟨w1, w2, w3⟩ := hz2
    by_cases hmn : (m : Int) < n
    · simp only [hmn, decide_true, cond_true]
      obtain ⟨H3, g1, g2, g3, g4⟩ := append_attr (H := H2.alloc (.cells z1 53 { whole := true })) (q := q) (m := m) (c := H2.n) (fl := { whole := true }) (hL.same fun b hb => by rw [AH.get_alloc, if_neg (by have := hq b hb; omega)]) (by rw [AH.get_alloc, if_pos rfl]) (by omega)
      refine ⟨false, false, false, false, 0, by simp [AH.read, hr, run1, z1], by decide, some (H2.n + 1, 0), m + 1, m + 1, H3, g1, (0, (n : Int), (some (H2.n + 1, 0), m + 1), H1.n, (n : Int), ((m + 1 : Nat) : Int)), n - (m + 1), by omega, ?_, ?_, m + 1, some (H2.n + 1), rfl, by omega, g3, ?_, ?_, ?_, rfl⟩
      · rw [wrap_i64 (by omega) (by omega)]; rfl
      · rw [hZ]
        have k : ∀ c, c ≤ H1.n → H3.get c = H2.get c := fun c hc => by
          rw [g4 c (by simp only [AH.n_alloc]; omega) (fun e => by have := hq c e; omega), AH.get_alloc, if_neg (by omega)]
        exact ⟨by rw [k _ (by omega)]; exact w1, by rw [k _ (by omega)]; exact w2, by rw [g2]; simp only [AH.n_alloc]; omega⟩
      · rw [g4 _ (by simp only [AH.n_alloc]; omega) (fun e => by have := hq _ e; omega), AH.get_alloc, if_neg (by omega)]; exact hr
      · rw [g2]; simp only [AH.n_alloc]; omega
      · intro b hb; cases hb; rw [g2]; simp only [AH.n_alloc]; omega
    · simp only [hmn, decide_false, cond_false]
      obtain rfl : m = n := by omega
      cases q with
      | none => obtain ⟨h, _⟩ := hL; omega
      | some b =>
        refine ⟨(1, (m : Int), some (b, 0), m), 0, by omega, ?_, ?_, .inr ⟨b, rfl, hL, rfl⟩⟩
        · rw [wrap_i64 (by omega) (by omega)]; rfl
        · rw [hZ]; exact ⟨w1, w2, w3⟩
  · show bif decide ((1 : Int) < (1 : Nat)) then _ else _
    have hlt : decide ((1 : Int) < ((1 : Nat) : Int)) = false := by decide
    rw [hlt]
    have hne : ((n : Int) != (n : Int)) = false := by simp
    simp only [hne, cond_false]
    refine (text_ro s n h0 hn hb).mono ?_
    rintro v H' ⟨rfl, rfl⟩
    rw [hZ] at hz
    refine ⟨s, none, 0, 0, 0, rfl, rfl, H'.set (3 + 1) (.cells [.str s, .slice none 0 0] 26 { whole := true }), ?_, s, none, 0, 0, ?_, rfl⟩
    · simp [AH.write, hz.2.1, splice, AV.one]
    · simp [AH.read, AH.get_set]
end Go.Proofs.YtlkdhhkncoekgaaDoor

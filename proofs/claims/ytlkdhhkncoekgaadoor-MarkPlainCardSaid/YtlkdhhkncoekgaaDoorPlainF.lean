/- The scanner's own functions, on a text without forms. -/
import Derived.Test.YtlkdhhkncoekgaaDoorPlainE
namespace Go.Proofs.YtlkdhhkncoekgaaDoor
open Go.Am Go

theorem laid_nil_run : (runCallF Tryd.prog ext 900 30 [.slice none 0 0] (emptyH Tryd.prog)).map (·.1) = some (.tuple [.agg [.str [], .slice none 0 0], .int .i64 0]) := by kernel_rfl
theorem laid_nil : Pure Tryd.prog 30 [.slice none 0 0] (.tuple [.agg [.str [], .slice none 0 0], .int .i64 0]) :=
  PureR.of_call (ACall.of_run follows' ext_ok (by kernel_rfl) laid_nil_run) (by kernel_rfl) rfl (by rintro v rfl; rfl)

/-- What a scanner holds that met no form: the dialect, the text, the place, the bytes and the pieces so far. -/
def scan (d : Int) (s : List UInt8) (i : Int) (so out : AV) (fr : Bool) : List AV :=
  [.int .i64 d, .str s, .int .i64 i, so, out, .int .i64 0, .int .i64 0, .int .i64 0, .int .i64 0, .int .i64 0, .slice none 0 0, .bool false, .bool false, .bool false, .bool false, .int .i64 0, .bool fr, .str [], .int .i64 0]

theorem now_at {d : Int} {s : List UInt8} {i : Int} {so out : AV} {fr : Bool} {H : AH} {p : Nat} {fl : Fl} (hp : H.get p = some (.cells (scan d s i so out fr) 60 fl)) (hlt : p < H.n) :
    ACallee Tryd.prog 51 [.ptr (some (p, 0))] H fun v H' => v = .agg z1 ∧ H.n ≤ H'.n ∧ ∀ c, c < H.n → H'.get c = H.get c := by
  refine .inl ⟨goB_spec (by kernel_rfl), vcF_ok (anns := []) follows' ?_⟩
  rw [now_vc]
  simp only [real_n, real_al, real_rd1, real_rdn, real_wr, real_wrap, AH.n_alloc]
  have n1 : p ≠ H.n := by omega
  have n2 : p ≠ H.n + 1 := by omega
  let o : AObj := .cells [.bool false, .bool false, .bool false, .bool false, .int .i64 0] 53 { whole := true }
  have g : ∀ (K : AH), K.get p = some (.cells (scan d s i so out fr) 60 fl) → K.read1 p 0 = some (.int .i64 d) ∧ K.read1 p 6 = some (.int .i64 0) ∧ K.read1 p 7 = some (.int .i64 0) ∧ K.read1 p 8 = some (.int .i64 0) ∧ K.read1 p 9 = some (.int .i64 0) ∧ K.read1 p 10 = some (.slice none 0 0) ∧
      K.read p 11 5 = some [.bool false, .bool false, .bool false, .bool false, .int .i64 0] := by
    intro K hK
    simp [AH.read1, AH.read, hK, scan]
  have wr : ∀ (K : AH) (b : Nat), K.get b = some o → K.write b 0 [.bool false, .bool false, .bool false, .bool false, .int .i64 0] = some (K.set b o) := by
    intro K b hK
    simp [AH.write, hK, o, splice, AV.one]
  have rd : ∀ (K : AH) (b : Nat), K.get b = some o → K.read b 0 5 = some [.bool false, .bool false, .bool false, .bool false, .int .i64 0] := by
    intro K b hK
    simp [AH.read, hK, o]
  have fin : ∀ K : AH, K.n = H.n + 2 → (∀ c, c < H.n → K.get c = H.get c) → (AV.agg [.bool false, .bool false, .bool false, .bool false, .int .i64 0] = .agg z1 ∧ H.n ≤ K.n ∧ ∀ c, c < H.n → K.get c = H.get c) := fun K h1 h2 => ⟨rfl, by omega, h2⟩
  have hA : ((H.alloc o).get p) = some (.cells (scan d s i so out fr) 60 fl) := by rw [AH.get_alloc, if_neg n1]; exact hp
  have h1n : (((H.alloc o).alloc o).set (H.n + 1) o).n = H.n + 2 := rfl
  have hB : ((((H.alloc o).alloc o).set (H.n + 1) o).get p) = some (.cells (scan d s i so out fr) 60 fl) := by
    rw [AH.get_set, if_neg n2, AH.get_alloc, if_neg (by simp only [AH.n_alloc]; omega)]; exact hA
  have hB1 : ((((H.alloc o).alloc o).set (H.n + 1) o).get (H.n + 1)) = some o := by rw [AH.get_set, if_pos rfl]
  have hB0 : ((((H.alloc o).alloc o).set (H.n + 1) o).get H.n) = some o := by
    rw [AH.get_set, if_neg (by omega), AH.get_alloc, if_neg (by simp only [AH.n_alloc]; omega), AH.get_alloc, if_pos rfl]
  have old : ∀ c, c < H.n → (((H.alloc o).alloc o).set (H.n + 1) o).get c = H.get c := fun c hc => by
    rw [AH.get_set, if_neg (by omega), AH.get_alloc, if_neg (by simp only [AH.n_alloc]; omega), AH.get_alloc, if_neg (by omega)]
  generalize hBe : ((H.alloc o).alloc o).set (H.n + 1) o = B at *
  obtain ⟨r0, r6, r7, r8, r9, r10, r11⟩ := g B hB
  refine ⟨false, false, false, false, 0, (g _ hA).2.2.2.2.2.2, rfl, B, ?_, d, r0, d, r0, ?_⟩
  · rw [← hBe]; exact wr _ _ (by rw [AH.get_alloc, if_pos (by simp)])
  cases hd : (d == (1 : Int) || d == (2 : Int)) with
  | true =>
    have hC1 : (B.set (H.n + 1) o).get (H.n + 1) = some o := by rw [AH.get_set, if_pos rfl]
    have hC0 : (B.set (H.n + 1) o).get H.n = some o := by rw [AH.get_set, if_neg (by omega)]; exact hB0
    have hCp : (B.set (H.n + 1) o).get p = some (.cells (scan d s i so out fr) 60 fl) := by rw [AH.get_set, if_neg n2]; exact hB
    refine ⟨by decide, 0, r6, by decide, 0, r7, by decide, 0, r8, by decide, 0, r9, rfl, B.set (H.n + 1) o, wr _ _ hB1, none, 0, 0, (g _ hCp).2.2.2.2.2.1, ?_⟩
    refine ⟨false, false, false, false, 0, rd _ _ hC1, rfl, (B.set (H.n + 1) o).set H.n o, wr _ _ hC0, false, false, false, false, 0, rd _ _ (by rw [AH.get_set, if_pos rfl]), ?_⟩
    exact fin _ h1n fun c hc => by rw [AH.get_set, if_neg (by omega), AH.get_set, if_neg (by omega)]; exact old c hc
  | false =>
    refine ⟨false, false, false, false, 0, rd _ _ hB1, rfl, B.set H.n o, wr _ _ hB0, false, false, false, false, 0, rd _ _ (by rw [AH.get_set, if_pos rfl]), ?_⟩
    exact fin _ h1n fun c hc => by rw [AH.get_set, if_neg (by omega)]; exact old c hc

theorem append_piece {H : AH} {q : Option Nat} {ps : List (List UInt8)} {t : List UInt8} {c : Nat} {fl : Fl} (hl : Lies H q ps.length (pcs ps) 79) (hc : H.get c = some (.cells (.str t :: z1) 79 fl)) (hm : ps.length ≤ 4096) :
    ∃ H', appendV Tryd.prog H 56 56 (sl q ps.length) (.slice (some (c, 0)) 1 1) = some (sl (some H.n) (ps ++ [t]).length, H') ∧ H'.n = H.n + 1 ∧ Lies H' (some H.n) (ps ++ [t]).length (pcs (ps ++ [t])) 79 ∧ ∀ c, c < H.n → q ≠ some c → H'.get c = H.get c := by
  have h := append_lies (P := Tryd.prog) (H := H) (st := 56) (xt := 56) (e := 79) (xd := .slice 79) (s := 6) (by_ := 32) (m := ps.length) (n := 1) (q := q) (old := pcs ps) (new := .str t :: z1) (y := .slice (some (c, 0)) 1 1) (z := .agg (.str [] :: z1))
    (by kernel_rfl) (by kernel_rfl) (fun k h => by cases h) (by kernel_rfl) (by kernel_rfl) (by kernel_rfl) rfl (by decide) (by simp [srcV, AH.read, hc, z1]) (by simp [z1, AV.one]) (by decide) hl (pcs_length ps) (by omega)
  rw [pcs_snoc] at h
  rw [List.length_append]
  exact h

/-- A scanner that met no form, at p: so are its bytes, ps its pieces. -/
structure At (H : AH) (p : Nat) (d : Int) (s : List UInt8) (i : Int) (so : List UInt8) (ps : List (List UInt8)) (fr : Bool) (qs qo : Option Nat) : Prop where
  cells : H.get p = some (.cells (scan d s i (sl qs so.length) (sl qo ps.length) fr) 60 { whole := true })
  lt : p < H.n
  bytes : Lies H qs so.length (byteCellsA so) 5
  pieces : Lies H qo ps.length (pcs ps) 79
  bound1 : ∀ b, qs = some b → p < b ∧ b < H.n
  bound2 : ∀ b, qo = some b → p < b ∧ b < H.n
  apart : ∀ b, qs = some b → qo ≠ some b

theorem put_at {H : AH} {p : Nat} {d : Int} {s : List UInt8} {i : Int} {so : List UInt8} {ps : List (List UInt8)} {fr : Bool} {qs qo : Option Nat} (h : At H p d s i so ps fr qs qo) (t : List UInt8) (h0 : t ≠ []) (hm : so.length + t.length ≤ 8192) (hk : ps.length ≤ 4096) :
    ACallee Tryd.prog 25 [.ptr (some (p, 0)), .str t] H fun _ H' => (∃ qs' qo', At H' p d s i (so ++ t) (ps ++ [t]) fr qs' qo') ∧ H.n ≤ H'.n ∧ ∀ c, c < p → H'.get c = H.get c := by
  obtain ⟨a1, a2, a3, a4, a5, a6, a7⟩ := h
  refine .inl ⟨goB_spec (by kernel_rfl), vcF_ok (anns := []) follows' ?_⟩
  rw [put_vc]
  simp only [real_n, real_al, real_rd1, real_call, real_wr, real_app]
  refine ⟨qo.map fun b => (b, 0), ps.length, ps.length, by simp [AH.read1, a1, scan, sl], ?_⟩
  refine (now_at a1 a2).mono ?_
  rintro v H1 ⟨rfl, hn1, old1⟩
  have b1 := (old1 p a2).trans a1
  obtain ⟨H2, g1, g2, g3, g4⟩ := append_piece (H := H1.alloc (.cells (.str t :: z1) 79 { whole := true })) (q := qo) (ps := ps) (t := t) (c := H1.n) (fl := { whole := true })
    (a4.same fun b hb => by have := a6 b hb; rw [AH.get_alloc, if_neg (by omega), old1 _ this.2]) (by rw [AH.get_alloc, if_pos rfl]) hk
  have old2 : ∀ c, c < H.n → qo ≠ some c → H2.get c = H.get c := fun c hc hq => by
    rw [g4 c (by simp only [AH.n_alloc]; omega) hq, AH.get_alloc, if_neg (by omega), old1 c hc]
  have b2 : H2.get p = some (.cells (scan d s i (sl qs so.length) (sl qo ps.length) fr) 60 { whole := true }) := by
    rw [old2 p a2 (fun e => by have := a6 p e; omega)]; exact a1
  have n2 : H2.n = H1.n + 2 := by rw [g2]; rfl
  refine ⟨false, false, false, false, 0, rfl, ⟨qo.map fun b => (b, 0), ps.length, ps.length, by simp [AH.read1, b1, scan, sl], rfl⟩, by decide, ⟨qo.map fun b => (b, 0), ps.length, ps.length, ?_, rfl⟩, _, _, _, H2, g1, rfl,
    H2.set p (.cells (scan d s i (sl qs so.length) (sl (some (H1.n + 1)) (ps ++ [t]).length) fr) 60 { whole := true }), ?_, ?_⟩
  · unfold AH.read1; rw [AH.get_alloc, if_neg (by omega), b1]; simp [scan, sl]
  · unfold AH.write; rw [b2]; simp [scan, splice, AV.one, sl]
  obtain ⟨H3, hH3⟩ : ∃ H3, H3 = H2.set p (.cells (scan d s i (sl qs so.length) (sl (some (H1.n + 1)) (ps ++ [t]).length) fr) 60 { whole := true }) := ⟨_, rfl⟩
  rw [← hH3]
  have n3 : H3.n = H1.n + 2 := by rw [hH3]; exact n2
  have b3 : H3.get p = some (.cells (scan d s i (sl qs so.length) (sl (some (H1.n + 1)) (ps ++ [t]).length) fr) 60 { whole := true }) := by rw [hH3, AH.get_set, if_pos rfl]
  have old3 : ∀ c, c ≠ p → H3.get c = H2.get c := fun c hc => by rw [hH3, AH.get_set, if_neg hc]
  obtain ⟨H4, k1, k2, k3, k4⟩ := append_str (H := H3) (q := qs) (so := so) (s := t) (a3.same fun b hb => by have := a5 b hb; rw [old3 _ (by omega), old2 _ this.2 (a7 b hb)]) h0 hm
  have b4 : H4.get p = some (.cells (scan d s i (sl qs so.length) (sl (some (H1.n + 1)) (ps ++ [t]).length) fr) 60 { whole := true }) := by
    rw [k4 p (by omega) (fun e => by have := a5 p e; omega)]; exact b3
  refine ⟨qs.map fun b => (b, 0), so.length, so.length, by unfold AH.read1; rw [b3]; simp [scan, sl], _, _, _, H4, k1, rfl,
    H4.set p (.cells (scan d s i (sl (some H3.n) (so ++ t).length) (sl (some (H1.n + 1)) (ps ++ [t]).length) fr) 60 { whole := true }), by unfold AH.write; rw [b4]; simp [scan, splice, AV.one, sl], ⟨some H3.n, some (H1.n + 1), ?_, ?_, ?_, ?_, ?_, ?_, ?_⟩, ?_, ?_⟩
  · rw [AH.get_set, if_pos rfl]
  · simp only [AH.n_set]; omega
  · exact k3.same fun b hb => by cases hb; rw [AH.get_set, if_neg (by omega)]
  · refine g3.same fun b hb => ?_
    cases hb
    simp only [AH.n_alloc]
    rw [AH.get_set, if_neg (by omega), k4 _ (by omega) (fun e => by have := a5 _ e; omega), old3 _ (by omega)]
  · intro b hb; cases hb; simp only [AH.n_set]; omega
  · intro b hb; cases hb; simp only [AH.n_set]; omega
  · intro b hb e; cases hb; have := Option.some.inj e; omega
  · simp only [AH.n_set]; omega
  · intro c hc
    rw [AH.get_set, if_neg (by omega), k4 c (by omega) (fun e => by have := a5 c e; omega), old3 c (by omega), old2 c (by omega) (fun e => by have := a6 c e; omega)]
end Go.Proofs.YtlkdhhkncoekgaaDoor

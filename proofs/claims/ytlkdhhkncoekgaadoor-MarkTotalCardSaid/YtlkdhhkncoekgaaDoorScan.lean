/- A scanner of mark in any state; what melts; what is passed over. -/
import Derived.Test.YtlkdhhkncoekgaaDoorPlainA
import Derived.Test.YtlkdhhkncoekgaaDoorUtf
import Derived.Test.YtlkdhhkncoekgaaDoorSeamVc

/- A scanner of mark in any state: how the next sign is to look, and how signs are laid down. -/
section
namespace Go.Proofs.YtlkdhhkncoekgaaDoor
open Go.Am Go

def pcell (p : List UInt8 × Look) : List AV := .str p.1 :: p.2.cells
theorem pcell_length (p : List UInt8 × Look) : (pcell p).length = 6 := rfl
theorem pcell_one (p : List UInt8 × Look) : (pcell p).all AV.one = true := by simp [pcell, Look.cells, AV.one]
def icell (n : Int) : List AV := [.int .i64 n]
theorem icell_length (n : Int) : (icell n).length = 1 := rfl

structure St where
  d : Int
  s : List UInt8
  i : Nat
  so : List UInt8
  ps : List (List UInt8 × Look)
  op : Nat → Int
  cols : List Int
  look : Look
  fr : Bool
  name : List UInt8
  side : Int

def St.cells (x : St) (so out col : AV) : List AV :=
  [.int .i64 x.d, .str x.s, .int .i64 x.i, so, out, .int .i64 (x.op 0), .int .i64 (x.op 1), .int .i64 (x.op 2), .int .i64 (x.op 3), .int .i64 (x.op 4), col, .bool x.look.b, .bool x.look.i, .bool x.look.u, .bool x.look.k, .int .i64 x.look.c, .bool x.fr, .str x.name, .int .i64 x.side]

def St.now (x : St) : Look := bif x.d == 1 || x.d == 2 then ⟨decide (x.op 1 > 0), decide (x.op 2 > 0), decide (x.op 3 > 0), decide (x.op 4 > 0), x.cols.getLast?.getD 0⟩ else x.look

def HasCols (H : AH) (qc : Option Nat) (cap : Nat) (cols : List Int) : Prop :=
  match qc with
  | none => cap = 0 ∧ cols = []
  | some b => ∃ rest, H.get b = some (.cells (flat icell (cols ++ rest)) 3 { opn := true }) ∧ cap = (cols ++ rest).length

structure AtS (H : AH) (p : Nat) (x : St) (qs qo qc : Option Nat) (cap : Nat) : Prop where
  cells : H.get p = some (.cells (x.cells (sl qs x.so.length) (sl qo x.ps.length) (.slice (qc.map fun b => (b, 0)) x.cols.length cap)) 60 { whole := true })
  lt : p < H.n
  bytes : Lies H qs x.so.length (byteCellsA x.so) 5
  pieces : Lies H qo x.ps.length (flat pcell x.ps) 79
  colours : HasCols H qc cap x.cols
  bs : ∀ b, qs = some b → p < b ∧ b < H.n
  bo : ∀ b, qo = some b → p < b ∧ b < H.n
  bc : ∀ b, qc = some b → p < b ∧ b < H.n
  ap : ∀ b, qs = some b → qo ≠ some b ∧ qc ≠ some b
  ao : ∀ b, qo = some b → qc ≠ some b
  few : x.cols.length ≤ 5000000

theorem HasCols.same {H H' : AH} {qc : Option Nat} {cap : Nat} {cols : List Int} (h : HasCols H qc cap cols) (k : ∀ b, qc = some b → H'.get b = H.get b) : HasCols H' qc cap cols := by
  cases qc with
  | none => exact h
  | some b => obtain ⟨rest, h1, h2⟩ := h; exact ⟨rest, (k b rfl).trans h1, h2⟩

theorem AtS.keep {H H' : AH} {p : Nat} {x : St} {qs qo qc : Option Nat} {cap : Nat} (h : AtS H p x qs qo qc cap) (hn : H.n ≤ H'.n) (k : ∀ c, p ≤ c → c < H.n → H'.get c = H.get c) : AtS H' p x qs qo qc cap := by
  obtain ⟨a1, a2, a3, a4, a5, a6, a7, a8, a9, a10, a11⟩ := h
  refine ⟨by rw [k p (Nat.le_refl p) a2]; exact a1, by omega, a3.same fun b hb => ?_, a4.same fun b hb => ?_, a5.same fun b hb => ?_, fun b hb => ?_, fun b hb => ?_, fun b hb => ?_, a9, a10, a11⟩
  · have := a6 b hb; exact k b (by omega) this.2
  · have := a7 b hb; exact k b (by omega) this.2
  · have := a8 b hb; exact k b (by omega) this.2
  · have := a6 b hb; omega
  · have := a7 b hb; omega
  · have := a8 b hb; omega

theorem AtS.put {H : AH} {p : Nat} {x y : St} {qs qo qc : Option Nat} {cap : Nat} (h : AtS H p x qs qo qc cap) (e1 : y.so = x.so) (e2 : y.ps = x.ps) (e3 : y.cols = x.cols) :
    AtS (H.set p (.cells (y.cells (sl qs x.so.length) (sl qo x.ps.length) (.slice (qc.map fun b => (b, 0)) x.cols.length cap)) 60 { whole := true })) p y qs qo qc cap := by
  obtain ⟨a1, a2, a3, a4, a5, a6, a7, a8, a9, a10, a11⟩ := h
  refine ⟨by rw [AH.get_set, if_pos rfl, e1, e2, e3], a2, ?_, ?_, ?_, a6, a7, a8, a9, a10, by rw [e3]; exact a11⟩
  · rw [e1]; exact a3.same fun b hb => by have := a6 b hb; rw [AH.get_set, if_neg (by omega)]
  · rw [e2]; exact a4.same fun b hb => by have := a7 b hb; rw [AH.get_set, if_neg (by omega)]
  · rw [e3]; exact a5.same fun b hb => by have := a8 b hb; rw [AH.get_set, if_neg (by omega)]

theorem now_S {H : AH} {p : Nat} {x : St} {qs qo qc : Option Nat} {cap : Nat} (h : AtS H p x qs qo qc cap) :
    ACallee Tryd.prog 51 [.ptr (some (p, 0))] H fun v H' => v = .agg x.now.cells ∧ H.n ≤ H'.n ∧ ∀ c, c < H.n → H'.get c = H.get c := by
  refine .inl ⟨goB_spec (by kernel_rfl), vcF_ok (anns := []) follows' ?_⟩
  rw [now_vc]
  simp only [real_n, real_al, real_rd1, real_rdn, real_wr, real_wrap, AH.n_alloc]
  obtain ⟨a1, a2, a3, a4, a5, a6, a7, a8, a9, a10, a11⟩ := h
  obtain ⟨C, hC⟩ : ∃ C, C = x.cells (sl qs x.so.length) (sl qo x.ps.length) (.slice (qc.map fun b => (b, 0)) x.cols.length cap) := ⟨_, rfl⟩
  rw [← hC] at a1
  obtain ⟨In, hIn⟩ : ∃ In : AH → List AV → Prop, In = fun K v => v.length = 5 ∧ v.all AV.one = true ∧ K.n = H.n + 2 ∧ K.get H.n = some (.cells [.bool false, .bool false, .bool false, .bool false, .int .i64 0] 53 { whole := true }) ∧ K.get (H.n + 1) = some (.cells v 53 { whole := true }) ∧ ∀ c, c < H.n → K.get c = H.get c := ⟨_, rfl⟩
  have st : ∀ {K v} (vs : List AV) (i : Nat), In K v → i + vs.length ≤ 5 → vs.all AV.one = true → (splice v i vs).all AV.one = true → ∃ K', K.write (H.n + 1) i vs = some K' ∧ In K' (splice v i vs) := by
    intro K v vs i hK h1 h2 h3
    rw [hIn] at hK ⊢
    obtain ⟨k1, k2, k3, k4, k5, k6⟩ := hK
    refine ⟨K.set (H.n + 1) (.cells (splice v i vs) 53 { whole := true }), ?_, ?_, h3, ?_, ?_, ?_, fun c hc => ?_⟩
    · unfold AH.write; rw [k5]; simp only; rw [if_pos ⟨trivial, Nat.zero_le _, by omega, h2⟩]
    · simp only [splice, List.length_append, List.length_take, List.length_drop]; omega
    · simp only [AH.n_set]; exact k3
    · rw [AH.get_set, if_neg (by omega)]; exact k4
    · rw [AH.get_set, if_pos rfl]
    · rw [AH.get_set, if_neg (by omega)]; exact k6 c hc
  have fin : ∀ {K : AH} {b i u k : Bool} {c : Int}, In K [.bool b, .bool i, .bool u, .bool k, .int .i64 c] → K.read (H.n + 1) 0 5 = some [.bool b, .bool i, .bool u, .bool k, .int .i64 c] ∧ ∃ K', K.write H.n 0 [.bool b, .bool i, .bool u, .bool k, .int .i64 c] = some K' ∧ K'.read H.n 0 5 = some [.bool b, .bool i, .bool u, .bool k, .int .i64 c] ∧ H.n ≤ K'.n ∧ ∀ c, c < H.n → K'.get c = H.get c := by
    intro K b i u k c hK
    rw [hIn] at hK
    obtain ⟨k1, k2, k3, k4, k5, k6⟩ := hK
    refine ⟨by simp [AH.read, k5], K.set H.n (.cells [.bool b, .bool i, .bool u, .bool k, .int .i64 c] 53 { whole := true }), by simp [AH.write, k4, splice, AV.one], by simp [AH.read, AH.get_set], by simp only [AH.n_set]; omega, fun c hc => ?_⟩
    rw [AH.get_set, if_neg (by omega)]; exact k6 c hc
  have rp : ∀ {K v}, In K v → ∀ i, K.read1 p i = C[i]? := by
    intro K v hK i
    rw [hIn] at hK
    unfold AH.read1
    rw [hK.2.2.2.2.2 p a2, a1]
  have h0 : In ((H.alloc (.cells [.bool false, .bool false, .bool false, .bool false, .int .i64 0] 53 { whole := true })).alloc (.cells [.bool false, .bool false, .bool false, .bool false, .int .i64 0] 53 { whole := true })) [.bool false, .bool false, .bool false, .bool false, .int .i64 0] := by
    rw [hIn]
    refine ⟨rfl, rfl, rfl, ?_, ?_, fun c hc => ?_⟩
    · rw [AH.get_alloc, if_neg (by simp only [AH.n_alloc]; omega), AH.get_alloc, if_pos rfl]
    · rw [AH.get_alloc, if_pos (by simp)]
    · rw [AH.get_alloc, if_neg (by simp only [AH.n_alloc]; omega), AH.get_alloc, if_neg (by omega)]
  have hr : (H.alloc (.cells [.bool false, .bool false, .bool false, .bool false, .int .i64 0] 53 { whole := true })).read p 11 5 = some x.look.cells := by
    unfold AH.read
    rw [AH.get_alloc, if_neg (by omega), a1, hC]; rfl
  obtain ⟨K1, w1, i1⟩ := st x.look.cells 0 h0 (Nat.le_refl _) x.look.cells_one (by simp [splice, Look.cells, AV.one])
  have i1' : In K1 x.look.cells := i1
  refine ⟨x.look.b, x.look.i, x.look.u, x.look.k, x.look.c, hr, rfl, K1, w1, x.d, by rw [rp i1, hC]; rfl, x.d, by rw [rp i1, hC]; rfl, ?_⟩
  unfold St.now
  cases hd : (x.d == (1 : Int) || x.d == (2 : Int)) with
  | true =>
    simp only [cond_true]
    obtain ⟨K2, w2, i2⟩ := st [.bool (decide (x.op 1 > 0)), .bool (decide (x.op 2 > 0)), .bool (decide (x.op 3 > 0)), .bool (decide (x.op 4 > 0)), .int .i64 0] 0 i1' (Nat.le_refl _) (by simp [AV.one]) (by simp [splice, Look.cells, AV.one])
    have i2' : In K2 [.bool (decide (x.op 1 > 0)), .bool (decide (x.op 2 > 0)), .bool (decide (x.op 3 > 0)), .bool (decide (x.op 4 > 0)), .int .i64 0] := i2
    refine ⟨by decide, x.op 1, by rw [rp i1, hC]; rfl, by decide, x.op 2, by rw [rp i1, hC]; rfl, by decide, x.op 3, by rw [rp i1, hC]; rfl, by decide, x.op 4, by rw [rp i1, hC]; rfl, rfl, K2, w2, qc.map fun b => (b, 0), x.cols.length, cap, by rw [rp i2, hC]; rfl, ?_⟩
    by_cases hk : x.cols = []
    · have e0 : decide (((x.cols.length : Nat) : Int) > 0) = false := by rw [hk]; rfl
      rw [e0]
      simp only [cond_false]
      obtain ⟨r, K3, w3, r3, n3, o3⟩ := fin i2'
      refine ⟨_, _, _, _, _, r, rfl, K3, w3, _, _, _, _, _, r3, ?_⟩
      rw [hk]
      exact ⟨rfl, n3, o3⟩
    · have hpos : 0 < x.cols.length := List.length_pos_iff.2 hk
      have e0 : decide (((x.cols.length : Nat) : Int) > 0) = true := by rw [decide_eq_true_iff]; omega
      rw [e0]
      simp only [cond_true]
      cases qc with
      | none => exact absurd a5.2 hk
      | some b =>
        obtain ⟨rest, hb, hcap⟩ := a5
        obtain ⟨b1, b2⟩ := a8 b rfl
        have wi : IntKind.i64.wrap ((x.cols.length : Int) - 1) = (x.cols.length : Int) - 1 := wrap_i64 (by omega) (by omega)
        have hb2 : K2.get b = some (.cells (flat icell (x.cols ++ rest)) 3 { opn := true }) := by rw [hIn] at i2; rw [i2.2.2.2.2.2 b b2]; exact hb
        have hlast : x.cols.getLast? = some (x.cols[x.cols.length - 1]'(by omega)) := by rw [List.getLast?_eq_getElem?, List.getElem?_eq_getElem (by omega)]
        have hrd : K2.read1 b (0 + ((x.cols.length : Int) - 1).toNat * 1) = some (.int .i64 (x.cols[x.cols.length - 1]'(by omega))) := by
          have := read1_flat icell_length (k := 0) hb2 (i := x.cols.length - 1) (by rw [List.length_append]; omega) (by decide)
          rw [show ((x.cols.length : Int) - 1).toNat = x.cols.length - 1 by omega]
          rw [Nat.add_zero] at this
          rw [this, List.getElem_append_left (by omega)]; rfl
        obtain ⟨K3, w3, i3⟩ := st [.int .i64 (x.cols[x.cols.length - 1]'(by omega))] 4 i2' (Nat.le_refl _) (by simp [AV.one]) (by simp [splice, AV.one])
        have i3' : In K3 [.bool (decide (x.op 1 > 0)), .bool (decide (x.op 2 > 0)), .bool (decide (x.op 3 > 0)), .bool (decide (x.op 4 > 0)), .int .i64 (x.cols[x.cols.length - 1]'(by omega))] := i3
        obtain ⟨r, K4, w4, r4, n4, o4⟩ := fin i3'
        rw [wi]
        refine ⟨some (b, 0), x.cols.length, cap, by rw [rp i2, hC]; rfl, b, 0, ⟨rfl, by omega, by omega⟩, _, hrd, rfl, K3, w3, _, _, _, _, _, r, rfl, K4, w4, _, _, _, _, _, r4, ?_⟩
        rw [hlast]
        exact ⟨rfl, n4, o4⟩
  | false =>
    simp only [cond_false]
    obtain ⟨r, K3, w3, r3, n3, o3⟩ := fin i1'
    exact ⟨_, _, _, _, _, r, rfl, K3, w3, _, _, _, _, _, r3, rfl, n3, o3⟩

theorem append_pcell {H : AH} {q : Option Nat} {ps : List (List UInt8 × Look)} {y : List UInt8 × Look} {c : Nat} {fl : Fl} (hl : Lies H q ps.length (flat pcell ps) 79) (hc : H.get c = some (.cells (pcell y) 79 fl)) (hm : ps.length ≤ 8192) :
    ∃ H', appendV Tryd.prog H 56 56 (sl q ps.length) (.slice (some (c, 0)) 1 1) = some (sl (some H.n) (ps ++ [y]).length, H') ∧ H'.n = H.n + 1 ∧ Lies H' (some H.n) (ps ++ [y]).length (flat pcell (ps ++ [y])) 79 ∧ ∀ c, c < H.n → q ≠ some c → H'.get c = H.get c :=
  append_rec (by_ := 32) (s := 6) (z := .agg (.str [] :: z1)) (by kernel_rfl) (by kernel_rfl) (by kernel_rfl) (by kernel_rfl) rfl (by decide) pcell_length pcell_one hl hc (by omega)

def St.laid (x : St) (t : List UInt8) : St := { x with so := x.so ++ t, ps := x.ps ++ [(t, x.now)] }

theorem put_S {H : AH} {p : Nat} {x : St} {qs qo qc : Option Nat} {cap : Nat} (h : AtS H p x qs qo qc cap) (t : List UInt8) (h0 : t ≠ []) (hm : x.so.length + t.length ≤ 8192) (hk : x.ps.length ≤ 8192) :
    ACallee Tryd.prog 25 [.ptr (some (p, 0)), .str t] H fun v H' => v = .tuple [] ∧ (∃ qs' qo', AtS H' p (x.laid t) qs' qo' qc cap) ∧ H.n ≤ H'.n ∧ ∀ c, c < p → H'.get c = H.get c := by
  have hnow := now_S h
  obtain ⟨a1, a2, a3, a4, a5, a6, a7, a8, a9, a10, a11⟩ := h
  refine .inl ⟨goB_spec (by kernel_rfl), vcF_ok (anns := []) follows' ?_⟩
  rw [put_vc]
  simp only [real_n, real_al, real_rd1, real_call, real_wr, real_app]
  obtain ⟨C, hC⟩ : ∃ C : AV → AV → List AV, C = fun so out => x.cells so out (.slice (qc.map fun b => (b, 0)) x.cols.length cap) := ⟨_, rfl⟩
  have a1' : H.get p = some (.cells (C (sl qs x.so.length) (sl qo x.ps.length)) 60 { whole := true }) := by rw [hC]; exact a1
  refine ⟨qo.map fun b => (b, 0), x.ps.length, x.ps.length, by simp [AH.read1, a1, St.cells, sl], ?_⟩
  refine hnow.mono ?_
  rintro v H1 ⟨rfl, hn1, old1⟩
  have b1 := (old1 p a2).trans a1
  obtain ⟨H2, g1, g2, g3, g4⟩ := append_pcell (H := H1.alloc (.cells (pcell (t, x.now)) 79 { whole := true })) (q := qo) (ps := x.ps) (y := (t, x.now)) (c := H1.n) (fl := { whole := true })
    (a4.same fun b hb => by have := a7 b hb; rw [AH.get_alloc, if_neg (by omega), old1 _ this.2]) (by rw [AH.get_alloc, if_pos rfl]) hk
  have old2 : ∀ c, c < H.n → qo ≠ some c → H2.get c = H.get c := fun c hc hq => by
    rw [g4 c (by simp only [AH.n_alloc]; omega) hq, AH.get_alloc, if_neg (by omega), old1 c hc]
  have b2 : H2.get p = some (.cells (C (sl qs x.so.length) (sl qo x.ps.length)) 60 { whole := true }) := by
    rw [old2 p a2 (fun e => by have := a7 p e; omega)]; exact a1'
  have n2 : H2.n = H1.n + 2 := by rw [g2]; rfl
  refine ⟨_, _, _, _, _, rfl, ⟨qo.map fun b => (b, 0), x.ps.length, x.ps.length, by simp [AH.read1, b1, St.cells, sl], rfl⟩, by decide, ⟨qo.map fun b => (b, 0), x.ps.length, x.ps.length, ?_, rfl⟩, _, _, _, H2, g1, rfl,
    H2.set p (.cells (C (sl qs x.so.length) (sl (some (H1.n + 1)) (x.ps ++ [(t, x.now)]).length)) 60 { whole := true }), ?_, ?_⟩
  · unfold AH.read1; rw [AH.get_alloc, if_neg (by omega), b1]; simp [St.cells, sl]
  · unfold AH.write; rw [b2, hC]; simp [St.cells, splice, AV.one, sl]
  obtain ⟨H3, hH3⟩ : ∃ H3, H3 = H2.set p (.cells (C (sl qs x.so.length) (sl (some (H1.n + 1)) (x.ps ++ [(t, x.now)]).length)) 60 { whole := true }) := ⟨_, rfl⟩
  rw [← hH3]
  have n3 : H3.n = H1.n + 2 := by rw [hH3]; exact n2
  have b3 : H3.get p = some (.cells (C (sl qs x.so.length) (sl (some (H1.n + 1)) (x.ps ++ [(t, x.now)]).length)) 60 { whole := true }) := by rw [hH3, AH.get_set, if_pos rfl]
  have old3 : ∀ c, c ≠ p → H3.get c = H2.get c := fun c hc => by rw [hH3, AH.get_set, if_neg hc]
  obtain ⟨H4, k1, k2, k3, k4⟩ := append_str (H := H3) (q := qs) (so := x.so) (s := t) (a3.same fun b hb => by have := a6 b hb; rw [old3 _ (by omega), old2 _ this.2 (a9 b hb).1]) h0 hm
  have b4 : H4.get p = some (.cells (C (sl qs x.so.length) (sl (some (H1.n + 1)) (x.ps ++ [(t, x.now)]).length)) 60 { whole := true }) := by
    rw [k4 p (by omega) (fun e => by have := a6 p e; omega)]; exact b3
  refine ⟨qs.map fun b => (b, 0), x.so.length, x.so.length, by unfold AH.read1; rw [b3, hC]; simp [St.cells, sl], _, _, _, H4, k1, rfl,
    H4.set p (.cells (C (sl (some H3.n) (x.so ++ t).length) (sl (some (H1.n + 1)) (x.ps ++ [(t, x.now)]).length)) 60 { whole := true }), by unfold AH.write; rw [b4, hC]; simp [St.cells, splice, AV.one, sl], trivial, ⟨some H3.n, some (H1.n + 1), ?_, ?_, ?_, ?_, ?_, ?_, ?_, ?_, ?_, ?_, a11⟩, ?_, ?_⟩
  · rw [AH.get_set, if_pos rfl, hC]; rfl
  · simp only [AH.n_set]; omega
  · exact k3.same fun b hb => by cases hb; rw [AH.get_set, if_neg (by omega)]
  · refine g3.same fun b hb => ?_
    cases hb
    simp only [AH.n_alloc]
    rw [AH.get_set, if_neg (by omega), k4 _ (by omega) (fun e => by have := a6 _ e; omega), old3 _ (by omega)]
  · refine a5.same fun b hb => ?_
    have := a8 b hb
    rw [AH.get_set, if_neg (by omega), k4 _ (by omega) (fun e => (a9 b e).2 hb), old3 _ (by omega), old2 _ (by omega) (fun e => a10 b e hb)]
  · intro b hb; cases hb; simp only [AH.n_set]; omega
  · intro b hb; cases hb; simp only [AH.n_set]; omega
  · intro b hb; have := a8 b hb; simp only [AH.n_set]; omega
  · intro b hb; cases hb
    refine ⟨fun e => ?_, fun e => ?_⟩
    · have := Option.some.inj e; omega
    · have := a8 _ e; omega
  · intro b hb; cases hb
    intro e; have := a8 _ e; omega
  · simp only [AH.n_set]; omega
  · intro c hc
    rw [AH.get_set, if_neg (by omega), k4 c (by omega) (fun e => by have := a6 c e; omega), old3 c (by omega), old2 c (by omega) (fun e => by have := a7 c e; omega)]
end Go.Proofs.YtlkdhhkncoekgaaDoor
end

/- utf.Melts says whether two texts melt. -/
section
namespace Go.Proofs.YtlkdhhkncoekgaaDoor
open Go.Am Go

def meInv (a s : List UInt8) (r : Bool) (W : List Nat) (H : AH) : Prop :=
  H.get 3 = some (.cells [.str a] 9 { whole := true }) ∧ H.get (3 + 1) = some (.cells [.bool r] 4 { whole := true }) ∧ H.get (3 + 2) = some (.cells [.str s] 9 { whole := true }) ∧ 3 + 4 < H.n ∧
  ∀ c, c < 3 + 3 → c ∉ W

theorem meInv.alloc {a s : List UInt8} {r : Bool} {W : List Nat} {H : AH} (h : meInv a s r W H) (o : AObj) : meInv a s r (H.n :: W) (H.alloc o) := by
  obtain ⟨h1, h2, h3, h4, h5⟩ := h
  refine ⟨?_, ?_, ?_, ?_, fun c hc hm => ?_⟩
  · rw [AH.get_alloc, if_neg (by omega)]; exact h1
  · rw [AH.get_alloc, if_neg (by omega)]; exact h2
  · rw [AH.get_alloc, if_neg (by omega)]; exact h3
  · show 3 + 4 < H.n + 1; omega
  · rcases List.mem_cons.1 hm with rfl | hm
    · omega
    · exact h5 c hc hm
theorem meInv.set {a s : List UInt8} {r : Bool} {W : List Nat} {H : AH} (h : meInv a s r W H) {c : Nat} (hc : c ∈ W) (o : AObj) : meInv a s r W (H.set c o) := by
  obtain ⟨h1, h2, h3, h4, h5⟩ := h
  have n : ∀ d, d < 3 + 3 → d ≠ c := fun d hd e => h5 d hd (e ▸ hc)
  refine ⟨?_, ?_, ?_, h4, h5⟩
  · rw [AH.get_set, if_neg (n _ (by omega))]; exact h1
  · rw [AH.get_set, if_neg (n _ (by omega))]; exact h2
  · rw [AH.get_set, if_neg (n _ (by omega))]; exact h3
theorem meInv.but {a s : List UInt8} {r : Bool} {W : List Nat} {H H' : AH} (h : meInv a s r W H) {b : Nat} (hb : 3 + 3 ≤ b) (k : But b H H') : meInv a s r W H' := by
  obtain ⟨h1, h2, h3, h4, h5⟩ := h
  obtain ⟨k1, k2⟩ := k
  refine ⟨?_, ?_, ?_, by omega, h5⟩
  · rw [k2 _ (by omega)]; exact h1
  · rw [k2 _ (by omega)]; exact h2
  · rw [k2 _ (by omega)]; exact h3

theorem melts_end {a b : List UInt8} {n : Nat} (hn : SignsN (a ++ b) n) (h : ∀ j, j < n → ¬ (place (a ++ b) j < a.length ∧ a.length < place (a ++ b) (j + 1))) : melts a b = false := by
  rw [← Bool.not_eq_true]
  intro hm
  obtain ⟨m, h1, h2, _⟩ := melts_over hm
  refine h m ?_ ⟨h1, h2⟩
  rcases Nat.lt_or_ge m n with g | g
  · exact g
  · exfalso
    have := hn.1
    rw [List.length_append] at this
    rcases Nat.lt_or_ge n m with g' | g'
    · have := place_lt (s := a ++ b) g'; omega
    · obtain rfl : m = n := by omega
      omega

theorem Melts_pure (a b : List UInt8) (hl : a.length + b.length ≤ 4611686018427387904) : Pure Tryd.prog 74 [.str a, .str b] (.bool (melts a b)) := by
  obtain ⟨n, hn⟩ := SignsN.ex (a ++ b)
  refine PureR.of_vcG follows' [] [⟨2, AV, Int × Int × Int × Bool, 77, fun z => ([], [z]), fun x => [.agg [.int .i64 x.1, .int .i64 x.2.1, .int .i32 x.2.2.1, .bool x.2.2.2]],
    fun _ => (List.range n).map (signAt (a ++ b)), fun z H => z = .ptr (some (3 + 2, 0)) ∧ H.get (3 + 2) = some (.cells [.str (a ++ b)] 9 { whole := true }),
    fun _ i W H => (∀ j, j < i → ¬ (place (a ++ b) j < a.length ∧ a.length < place (a ++ b) (j + 1))) ∧ meInv a (a ++ b) false W H, [.ret], fun _ _ W H => melts a b = true ∧ meInv a (a ++ b) true W H⟩] (by kernel_rfl) rfl (by rintro v rfl; rfl) ?_
  rw [Melts_vc]
  simp only [real_n, real_al, real_rd1, real_call, real_wr, real_tm, real_wrap]
  have hlen : (a ++ b).length = a.length + b.length := List.length_append
  refine ⟨trivial, a, by simp [AH.read1, AH.get_alloc], by omega, ?_⟩
  refine Signs_call (a ++ b) _ ⟨_, rfl, _, rfl, ?_, ?_, fun _ => rfl, ?_, ?_, ?_, ?_⟩
  · intro b' J D H0 hb s1 s2 s3 s4 hC
    exact signs1_iter (a ++ b) n hn _ b' J D H0 hb s1 s2 s3 s4 fun i W H h => (hC i W H h).2
  · exact ⟨fun i W H o h => ⟨h.1, h.2.alloc o⟩, fun i W H c o hc h => ⟨h.1, h.2.set hc o⟩, fun e W H o h => ⟨h.1, h.2.alloc o⟩, fun e W H c o hc h => ⟨h.1, h.2.set hc o⟩, fun i W H h => ⟨rfl, h.2.2.2.1⟩⟩
  · rintro H2 ⟨h1, h2⟩
    simp only [AH.n_alloc, nG] at h1 h2
    refine ⟨fun j h => absurd h (Nat.not_lt_zero j), ?_, ?_, ?_, by omega, fun c hc hm => ?_⟩
    · rw [h2 _ (by omega)]; simp [AH.get_alloc, nG]
    · rw [h2 _ (by omega)]; simp [AH.get_alloc, nG]
    · rw [h2 _ (by omega)]; simp [AH.get_alloc, nG]
    · simp only [AH.n_alloc, nG, List.mem_cons, List.mem_nil_iff, or_false] at hm; omega
  · rintro i W H1 x hx ⟨hno, hI⟩ hW hin
    simp only [AH.n_alloc, nG] at hin ⊢
    obtain ⟨rfl, hin2⟩ : x = signAt (a ++ b) i ∧ i < n := by
      rw [List.getElem?_map] at hx
      obtain ⟨m, hm, rfl⟩ := Option.map_eq_some_iff.1 hx
      obtain ⟨h1, h2⟩ := List.getElem?_eq_some_iff.1 hm
      simp only [List.getElem_range] at h2
      subst h2
      exact ⟨rfl, by simpa using h1⟩
    have hlt := hn.2 i hin2
    have hsz := decodeL_size (a ++ b) _ hlt
    have hbW := hW _ hin
    have hown : H1.n ∉ W := fun h => Nat.lt_irrefl _ (hW _ h)
    refine ⟨rfl, (H1.alloc (.cells [.int .i64 0, .int .i64 0, .int .i32 0, .bool false] 77 { whole := true })).set H1.n (.cells [.int .i64 (signAt (a ++ b) i).1, .int .i64 (signAt (a ++ b) i).2.1, .int .i32 (signAt (a ++ b) i).2.2.1, .bool (signAt (a ++ b) i).2.2.2] 77 { whole := true }),
      by simp [AH.write, AH.get_alloc, splice, AV.one], ⟨by simp, fun c hc => ?_⟩, ?_⟩
    · have : c ≠ H1.n := fun e => hown (e ▸ hc)
      rw [AH.get_set, if_neg this, AH.get_alloc, if_neg this]
    rintro H9 ⟨b1, b2⟩
    have hn9 : H9.n = H1.n + 1 := b1
    obtain ⟨i1, i2, i3, i4, i5⟩ := hI
    have old : ∀ c, c < 3 + 3 → H9.get c = H1.get c := fun c hc => by rw [b2 c (by omega), AH.get_set, if_neg (by omega), AH.get_alloc, if_neg (by omega)]
    have new : H9.get H1.n = some (.cells [.int .i64 (signAt (a ++ b) i).1, .int .i64 (signAt (a ++ b) i).2.1, .int .i32 (signAt (a ++ b) i).2.2.1, .bool (signAt (a ++ b) i).2.2.2] 77 { whole := true }) := by
      rw [b2 _ (by omega), AH.get_set, if_pos rfl]
    have e1 : (signAt (a ++ b) i).1 = (place (a ++ b) i : Int) := rfl
    have e2 : (signAt (a ++ b) i).2.1 = ((decodeL (a ++ b) (place (a ++ b) i)).2 : Int) := rfl
    have e3 : place (a ++ b) (i + 1) = _ := place_step
    have hp4 := decodeL_le4 (a ++ b) (place (a ++ b) i)
    have inv9 : meInv a (a ++ b) false W H9 := ⟨by rw [old _ (by omega)]; exact i1, by rw [old _ (by omega)]; exact i2, by rw [old _ (by omega)]; exact i3, by omega, i5⟩
    refine ⟨_, by simp only [AH.read1, new]; rfl, a, by simp only [AH.read1, old 3 (by omega), i1]; rfl, _, by simp only [AH.read1, new]; rfl, _, by simp only [AH.read1, new]; rfl, a, by simp only [AH.read1, old 3 (by omega), i1]; rfl, ?_⟩
    have w := wrap_i64 (n := (place (a ++ b) i : Int) + ((decodeL (a ++ b) (place (a ++ b) i)).2 : Int)) (by omega) (by omega)
    simp only [e1, e2, w]
    cases hc : (decide ((place (a ++ b) i : Int) < (a.length : Int)) && decide ((place (a ++ b) i : Int) + ((decodeL (a ++ b) (place (a ++ b) i)).2 : Int) > (a.length : Int))) with
    | true =>
      simp only [Bool.and_eq_true, decide_eq_true_eq] at hc
      have hm : melts a b = true := melts_of_over (m := i) (by omega) (by omega)
      refine ⟨trivial, H9.set (3 + 1) (.cells [.bool true] 4 { whole := true }), by simp [AH.write, old (3 + 1) (by omega), i2, splice, AV.one], ⟨by simp only [AH.n_set]; omega, fun c hc => ?_⟩, ?_⟩
      · rw [AH.get_set, if_neg (fun e => i5 c (by omega) hc)]
      · intro H11 hb
        refine ⟨hm, meInv.but (H := H9.set (3 + 1) (.cells [.bool true] 4 { whole := true })) ⟨?_, ?_, ?_, ?_, i5⟩ (by omega) hb⟩
        · rw [AH.get_set, if_neg (by omega), old _ (by omega)]; exact i1
        · rw [AH.get_set, if_pos rfl]
        · rw [AH.get_set, if_neg (by omega), old _ (by omega)]; exact i3
        · simp only [AH.n_set]; omega
    | false =>
      refine ⟨⟨by omega, fun c _ => rfl⟩, fun H11 hb => ⟨fun j hj => ?_, inv9.but (by omega) hb⟩⟩
      rcases Nat.lt_or_ge j i with g | g
      · exact hno j g
      · obtain rfl : j = i := by omega
        rintro ⟨g1, g2⟩
        rw [Bool.and_eq_false_iff, decide_eq_false_iff_not, decide_eq_false_iff_not] at hc
        omega
  · rintro W H1 H2 ⟨h0, hI⟩ hb hd
    simp only [AH.n_alloc, nG] at hb hd ⊢
    rw [List.length_map, List.length_range] at h0
    obtain ⟨i1, i2, i3, i4, i5⟩ := hI.but (by omega) hb
    refine ⟨trivial, H2.set (3 + 1) (.cells [.bool false] 4 { whole := true }), by simp [AH.write, i2, splice, AV.one], (H2.set (3 + 1) (.cells [.bool false] 4 { whole := true })).set (3 + 3) .dead, ?_, false, ?_, ?_⟩
    · refine tm1 ?_
      unfold Dfr at hd ⊢
      rw [AH.get_set, if_neg (by omega)]; exact hd
    · simp [AH.read1, AH.get_set]
    · rw [melts_end hn h0]
  · rintro W H1 H2 ⟨hm, hI⟩ hb hd
    simp only [AH.n_alloc, nG] at hb hd ⊢
    obtain ⟨i1, i2, i3, i4, i5⟩ := hI.but (by omega) hb
    refine ⟨H2.set (3 + 3) .dead, tm1 hd, true, ?_, by rw [hm]⟩
    simp [AH.read1, AH.get_set, i2]
end Go.Proofs.YtlkdhhkncoekgaaDoor
end

/- Whether a form may be passed over; a tag of one letter. -/
section
namespace Go.Proofs.YtlkdhhkncoekgaaDoor
open Go.Am Go

theorem bytes_tail {H : AH} {q : Option Nat} {so : List UInt8} (hl : Lies H q so.length (byteCellsA so) 5) {lo : Int} (h0 : 0 ≤ lo) (h1 : lo ≤ so.length) :
    ∃ q3 k5 k6, sliceV Tryd.prog H 39 (sl q so.length) (some (.int .i64 lo)) none none = some (.slice q3 k5 k6) ∧ bytesAt H (.slice q3 k5 k6) = some (so.drop lo.toNat) := by
  have t1 : Tryd.prog.underlying 39 = some (.slice 5) := by kernel_rfl
  have t2 : szOf Tryd.prog 5 = some 1 := by kernel_rfl
  cases q with
  | none =>
    have hz : so = [] := List.length_eq_zero_iff.1 hl.1
    subst hz
    have hlo : lo = 0 := by simp only [List.length_nil] at h1; omega
    subst hlo
    refine ⟨none, 0, 0, ?_, rfl⟩
    simp [sliceV, t1, t2, sl, idxV]
  | some b =>
    have hb : H.get b = some (.cells (byteCellsA so) 5 { opn := true }) := hl
    have hlen : (byteCellsA so).length = so.length := by unfold byteCellsA; rw [List.length_map]
    refine ⟨some (b, 0 + lo.toNat * 1), so.length - lo.toNat, so.length - lo.toNat, ?_, ?_⟩
    · have e : H.steps Tryd.prog b 1 = true := by unfold AH.steps; rw [hb]; simp [t2]
      simp only [sliceV, t1, t2, sl, idxV, Option.map_some, Option.bind_some, if_pos h0, e, or_true, if_true]
      rw [if_pos ⟨by omega, Nat.le_refl _, Nat.le_refl _, fun h => by cases h⟩]
    · have hdrop : (byteCellsA so).drop lo.toNat = byteCellsA (so.drop lo.toNat) := by unfold byteCellsA; rw [List.map_drop]
      have hl2 : (byteCellsA (so.drop lo.toNat)).length = so.length - lo.toNat := by unfold byteCellsA; rw [List.length_map, List.length_drop]
      simp only [bytesAt, AH.read, hb, Nat.zero_add, Nat.mul_one]
      rw [if_pos (by rw [hlen]; omega), hdrop, List.take_of_length_le (by rw [hl2]; exact Nat.le_refl _)]
      simp only [Option.bind_some]
      exact bytes_back _

theorem passes_S {H : AH} {p : Nat} {x : St} {qs qo qc : Option Nat} {cap : Nat} (h : AtS H p x qs qo qc cap) (n : Nat) (hn : x.i + n ≤ x.s.length) (hs : x.s.length ≤ 4194304) (ho : x.so.length ≤ 8192) :
    ACallee Tryd.prog 45 [.ptr (some (p, 0)), .int .i64 n] H fun v H' => v = .bool (!melts x.so (x.s.drop (x.i + n))) ∧ H' = H := by
  refine .inl ⟨goB_spec (by kernel_rfl), vcF_ok (anns := []) follows' ?_⟩
  rw [passes_vc]
  simp only [real_rd1, real_call, real_wrap, real_slc, real_str]
  have r3 : H.read1 p 3 = some (.slice (qs.map fun b => (b, 0)) x.so.length x.so.length) := by simp [AH.read1, h.cells, St.cells, sl]
  have r1 : H.read1 p 1 = some (.str x.s) := by simp [AH.read1, h.cells, St.cells]
  have r2 : H.read1 p 2 = some (.int .i64 (x.i : Int)) := by simp [AH.read1, h.cells, St.cells]
  have w1 : IntKind.i64.wrap ((x.so.length : Int) - 4) = (x.so.length : Int) - 4 := wrap_i64 (by omega) (by omega)
  have w2 : IntKind.i64.wrap ((x.i : Int) + (n : Int)) = (x.i : Int) + n := wrap_i64 (by omega) (by omega)
  have w3 : IntKind.i64.wrap ((x.i : Int) + (n : Int) + 4) = (x.i : Int) + n + 4 := wrap_i64 (by omega) (by omega)
  have e1 : (if (x.so.length : Int) - 4 > 0 then (x.so.length : Int) - 4 else 0) = ((x.so.length - 4 : Nat) : Int) := by
    rcases Nat.lt_or_ge 4 x.so.length with g | g
    · rw [if_pos (by omega)]; omega
    · rw [if_neg (by omega)]; omega
  have e2 : (if (x.i : Int) + n + 4 < (x.s.length : Int) then (x.i : Int) + n + 4 else (x.s.length : Int)) = ((min (x.i + n + 4) x.s.length : Nat) : Int) := by
    rcases Nat.lt_or_ge (x.i + n + 4) x.s.length with g | g
    · rw [if_pos (by omega), Nat.min_eq_left (by omega)]; omega
    · rw [if_neg (by omega), Nat.min_eq_right (by omega)]
  obtain ⟨q3, k5, k6, g1, g2⟩ := bytes_tail h.bytes (lo := ((x.so.length - 4 : Nat) : Int)) (by omega) (by omega)
  have bd : (0 : Int) ≤ (x.i : Int) + n ∧ (x.i : Int) + n ≤ ((min (x.i + n + 4) x.s.length : Nat) : Int) ∧ ((min (x.i + n + 4) x.s.length : Nat) : Int) ≤ (x.s.length : Int) := by omega
  have win : List.take (((min (x.i + n + 4) x.s.length : Nat) : Int) - ((x.i : Int) + n)).toNat (List.drop ((x.i : Int) + (n : Int)).toNat x.s) = (x.s.drop (x.i + n)).take 4 := by
    rw [show ((x.i : Int) + (n : Int)).toNat = x.i + n by omega]
    rcases Nat.lt_or_ge (x.i + n + 4) x.s.length with g | g
    · rw [show (((min (x.i + n + 4) x.s.length : Nat) : Int) - ((x.i : Int) + n)).toNat = 4 by rw [Nat.min_eq_left (by omega)]; omega]
    · rw [List.take_of_length_le (by rw [List.length_drop]; omega), List.take_of_length_le (by rw [List.length_drop]; omega)]
  refine ⟨_, _, _, r3, _, _, _, r3, q3, k5, k6, ?_, _, r1, _, r2, _, r1, _, r2, ?_⟩
  · simp only [w1, e1]; exact g1
  · simp only [w2, w3, e2, win]
    refine ⟨bd, _, g2, ⟨bd, trivial⟩, trivial, ⟨_, r2, rfl⟩, trivial, ⟨_, r1, rfl⟩, ⟨_, r2, rfl⟩, ⟨_, r1, rfl⟩, ?_⟩
    refine (Melts_pure _ _ ?_).use1 ⟨_, rfl, ?_⟩
    · rw [List.length_drop, List.length_take]; omega
    · rw [show (((x.so.length - 4 : Nat) : Int)).toNat = x.so.length - 4 by omega, melts_window]
      exact ⟨rfl, rfl⟩
end Go.Proofs.YtlkdhhkncoekgaaDoor
end

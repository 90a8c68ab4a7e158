/- mark.Parse, turn by turn; tags of one letter. -/
import Derived.Test.YtlkdhhkncoekgaaDoorMadeA
import Derived.Test.YtlkdhhkncoekgaaDoorScan
import Derived.Test.YtlkdhhkncoekgaaDoorParseVc

/- A row of one span at most is in order as it is; what a tag of one letter does to a scanner. -/
section
namespace Go.Proofs.YtlkdhhkncoekgaaDoor
open Go.Am Go


end Go.Proofs.YtlkdhhkncoekgaaDoor
end

/- What a tag of one letter does to a scanner: it is passed over, and a kind is open once more, unless what stands about it melts. -/
section
namespace Go.Proofs.YtlkdhhkncoekgaaDoor
open Go.Am Go

def St.opn (x : St) (k : Nat) (m : Int) : St := { x with op := fun j => if j = k then x.op j + m else x.op j }
def letter (c : UInt8) (k : Nat) : Prop := (c = 98 ∧ k = 1) ∨ (c = 105 ∧ k = 2) ∨ (c = 117 ∧ k = 3)


theorem AtS.write {H : AH} {p : Nat} {x y : St} {qs qo qc : Option Nat} {cap : Nat} (h : AtS H p x qs qo qc cap) (e1 : y.so = x.so) (e2 : y.ps = x.ps) (e3 : y.cols = x.cols) {o : Nat} {vs : List AV} (ho : o + vs.length ≤ 19) (h1 : vs.all AV.one = true)
    (hw : splice (x.cells (sl qs x.so.length) (sl qo x.ps.length) (.slice (qc.map fun b => (b, 0)) x.cols.length cap)) o vs = y.cells (sl qs x.so.length) (sl qo x.ps.length) (.slice (qc.map fun b => (b, 0)) x.cols.length cap)) :
    ∃ H', H.write p o vs = some H' ∧ AtS H' p y qs qo qc cap ∧ H'.n = H.n ∧ ∀ c, c ≠ p → H'.get c = H.get c := by
  refine ⟨H.set p (.cells (y.cells (sl qs x.so.length) (sl qo x.ps.length) (.slice (qc.map fun b => (b, 0)) x.cols.length cap)) 60 { whole := true }), ?_, h.put e1 e2 e3, rfl, fun c hc => by rw [AH.get_set, if_neg hc]⟩
  unfold AH.write
  rw [h.cells]
  simp only
  rw [if_pos ⟨trivial, Nat.zero_le _, by simpa [St.cells] using ho, h1⟩, hw]

end Go.Proofs.YtlkdhhkncoekgaaDoor
end

/- mark.Parse, told by what each of its turns does to the scanner: what holds at the beginning and is kept by each turn holds at the end. -/
section
namespace Go.Proofs.YtlkdhhkncoekgaaDoor
open Go.Am Go

def St.start (d : Int) (s : List UInt8) : St := ⟨d, s, 0, [], [], fun _ => 0, [], noLook, true, [], 0⟩
def St.skip (x : St) (n : Nat) : St := { x with i := x.i + n }
def St.sgn (x : St) : List UInt8 := (x.s.drop x.i).take (decodeL x.s x.i).2
def St.signed (x : St) : St := { x.laid x.sgn with i := x.i + x.sgn.length, fr := false }
def St.lined (x : St) : St := { x.laid [10] with look := noLook, fr := true, i := x.i + 1 }

def Form (f : FuncId) (x : St) (n : Nat) (y : St) : Prop := ∀ (H : AH) (p : Nat) (qs qo qc : Option Nat) (cap : Nat), AtS H p x qs qo qc cap →
  ACallee Tryd.prog f [.ptr (some (p, 0)), .str (x.s.drop x.i)] H fun v H' => v = .int .i64 n ∧ (∃ qc' cap', AtS H' p y qs qo qc' cap') ∧ H.n ≤ H'.n ∧ ∀ c, c < p → H'.get c = H.get c

def PastK (R : St → Prop) (x : St) (p : Nat) (H : AH) (v : AV) (H' : AH) : Prop := ∃ (n : Nat) (y : St), v = .int .i64 n ∧ (∃ qs qo qc cap, AtS H' p y qs qo qc cap) ∧ H.n ≤ H'.n ∧ (∀ c, c < p → H'.get c = H.get c) ∧
  n ≤ 4194304 ∧ y.i = x.i ∧ y.d = x.d ∧ y.s = x.s ∧ bif decide (0 < n) then R (y.skip n) else y = x ∧ R x.signed
def Past (R : St → Prop) (f : FuncId) (x : St) : Prop := ∀ (H : AH) (p : Nat) (qs qo qc : Option Nat) (cap : Nat), AtS H p x qs qo qc cap → ACallee Tryd.prog f [.ptr (some (p, 0)), .str (x.s.drop x.i)] H (PastK R x p H)
theorem Past.of {R : St → Prop} {f : FuncId} {x : St} (h : ∃ (n : Nat) (y : St), Form f x n y ∧ n ≤ 4194304 ∧ y.i = x.i ∧ y.d = x.d ∧ y.s = x.s ∧ bif decide (0 < n) then R (y.skip n) else y = x ∧ R x.signed) : Past R f x := by
  obtain ⟨n, y, hF, hn, e1, e2, e3, hc⟩ := h
  intro H p qs qo qc cap hA
  refine (hF H p qs qo qc cap hA).mono ?_
  rintro v H' ⟨rfl, ⟨qc', cap', h⟩, h1, h2⟩
  exact ⟨n, y, rfl, ⟨_, _, _, _, h⟩, h1, h2, hn, e1, e2, e3, hc⟩
def VoiceOk (R : St → Prop) (x : St) : Prop := ∀ (H : AH) (p : Nat), AtS H p x none none none 0 → ACallee Tryd.prog 22 [.ptr (some (p, 0))] H fun v H' =>
  ∃ (n : Nat) (y : St), v = .int .i64 n ∧ (∃ qs qo qc cap, AtS H' p y qs qo qc cap) ∧ H.n ≤ H'.n ∧ (∀ c, c < p → H'.get c = H.get c) ∧ R { y with i := n }

def Turn (R : St → Prop) (d : Int) (s : List UInt8) (x : St) : Prop :=
  bif (((s[x.i]?.getD 0).toNat : Nat) : Int) == 60 && (d == 1 || d == 2) then Past R 23 x
  else bif (((s[x.i]?.getD 0).toNat : Nat) : Int) == 38 && d == 2 then ∃ (t : List UInt8) (m : Nat), Pure Tryd.prog 24 [.str (s.drop x.i)] (.tuple [.str t, .int .i64 m]) ∧ m ≤ 4194304 ∧ bif decide (0 < m) then t ≠ [] ∧ t.length ≤ 4 ∧ R ((x.laid t).skip m) else R x.signed
  else bif (((s[x.i]?.getD 0).toNat : Nat) : Int) == 124 && d == 3 then R x.lined
  else bif (((s[x.i]?.getD 0).toNat : Nat) : Int) == 123 && d == 3 && x.fr then Past R 26 x
  else bif (((s[x.i]?.getD 0).toNat : Nat) : Int) == 92 && d == 4 then bif pre (s.drop x.i) [92, 78] then R ((x.laid [10]).skip 2) else R x.signed
  else bif (((s[x.i]?.getD 0).toNat : Nat) : Int) == 123 && d == 4 then Past R 28 x
  else R x.signed

def LaidOut (x : St) (e : Int) (S : List UInt8) (sp : List Spn) : Prop := ∀ (H : AH) (q : Option Nat), Lies H q x.ps.length (flat pcell x.ps) 79 → (∀ b, q = some b → b < H.n) →
  ACallee Tryd.prog 30 [sl q x.ps.length] H fun v H' => ∃ q', v = .tuple [.agg [.str S, sl q' sp.length], .int .i64 e] ∧ Lies H' q' sp.length (flat Spn.cells sp) 41 ∧ (∀ c, q' = some c → H.n ≤ c ∧ c < H'.n) ∧ H.n ≤ H'.n ∧ ∀ c, c < H.n → H'.get c = H.get c

def MarkRes (H : AH) (S : List UInt8) (sp : List Spn) (nm : List UInt8) (sd e : Int) (v : AV) (H' : AH) : Prop :=
  ∃ q, v = .tuple [.agg [.str S, sl q sp.length, .str nm, .int .i64 sd], .int .i64 e] ∧ Lies H' q sp.length (flat Spn.cells sp) 41 ∧ (∀ c, q = some c → H.n ≤ c ∧ c < H'.n) ∧ H.n ≤ H'.n ∧ ∀ c, c < H.n → H'.get c = H.get c



def PInv (H : AH) (x : St) (H' : AH) : Prop := (∃ qs qo qc cap, AtS H' (H.n + 1) x qs qo qc cap) ∧ H'.get H.n = some (.cells [.str [], .slice none 0 0, .str [], .int .i64 0] 28 { whole := true }) ∧ ∀ c, c < H.n → H'.get c = H.get c

set_option maxRecDepth 100000 in
theorem Parse_S (R : St → Prop) (W : Int → List UInt8 → List Spn → List UInt8 → Int → Prop) (d : Int) (s : List UInt8) (hd : 1 ≤ d ∧ d ≤ 4) (hs : s.length ≤ 4194304)
    (hb : ∀ x, R x → x.d = d ∧ x.s = s ∧ x.i ≤ 8388608 ∧ x.so.length ≤ 4100 ∧ x.ps.length ≤ 4100)
    (hv : d = 2 → VoiceOk R (St.start d s)) (h0 : R (St.start d s))
    (turn : ∀ x, R x → x.i < s.length → x.so.length ≤ 4096 → Turn R d s x)
    (hlong : ∀ x, R x → x.i < s.length → 4096 < x.so.length → W 3 [] [] [] 0)
    (hend : ∀ x, R x → s.length ≤ x.i → ∃ e S sp, LaidOut x e S sp ∧ (bif e != 0 then W e [] [] [] 0 else W 0 S sp x.name x.side)) (H : AH) :
    ACallee Tryd.prog 12 [.int .i64 d, .str s] H fun v H' => ∃ e S sp nm sd, W e S sp nm sd ∧ MarkRes H S sp nm sd e v H' := by
  obtain ⟨J1, hJ1⟩ : ∃ J1 : Int × Nat × Nat → AH → Nat → Prop, J1 = fun y H' j => y.2 = (H.n, H.n + 1) ∧ ∃ x, R x ∧ PInv H x H' ∧ j = 3 * (s.length - x.i) + 2 := ⟨_, rfl⟩
  obtain ⟨J2, hJ2⟩ : ∃ J2 : Int × Nat × Nat → AH → Nat → Prop, J2 = fun y H' j => y.2 = (H.n, H.n + 1) ∧ ∃ x, R x ∧ x.i < s.length ∧ R x.signed ∧ PInv H x H' ∧ j = 3 * (s.length - x.i) + 1 := ⟨_, rfl⟩
  obtain ⟨J0, hJ0⟩ : ∃ J0 : Int × Nat × Nat → AH → Nat → Prop, J0 = fun y H' _ => y.2 = (H.n, H.n + 1) ∧ ∃ x, R x ∧ s.length ≤ x.i ∧ PInv H x H' := ⟨_, rfl⟩
  obtain ⟨Q, hQ⟩ : ∃ Q : AV → AH → Prop, Q = fun v H' => ∃ e S sp nm sd, W e S sp nm sd ∧ MarkRes H S sp nm sd e v H' := ⟨_, rfl⟩
  rw [← hQ]
  refine .inl ⟨goB_spec (by kernel_rfl), vcG_ok (anns := _) (rans := _) follows' (Eq.mpr (Parse_vc (real Tryd.prog) (Iter Tryd.prog) d s H Q J0 J1 J2) ?_)⟩
  simp only [real_n, real_al, real_rd1, real_rdn, real_call, real_wr, real_wrap, AH.n_alloc]
  have d1 : (decide (d < 1) || decide (d > 4)) = false := by rw [Bool.or_eq_false_iff, decide_eq_false_iff_not, decide_eq_false_iff_not]; omega
  have d2 : decide ((s.length : Int) > 4194304) = false := by rw [decide_eq_false_iff_not]; omega
  rw [d1, d2]
  simp only [cond_false]
  have land1 : ∀ {H' : AH} {z : Int} {k : Nat} {x y : St}, R y → PInv H y H' → x.i < s.length → x.i < y.i → (k = 3 * (s.length - x.i) + 2 ∨ k = 3 * (s.length - x.i) + 1) → ∃ j, j < k ∧ J1 (z, H.n, H.n + 1) H' j := by
    intro H' z k x y hR hP hl hi hk
    exact ⟨3 * (s.length - y.i) + 2, by omega, by rw [hJ1]; exact ⟨rfl, y, hR, hP, rfl⟩⟩
  refine ⟨⟨trivial, ?_⟩, ?_, ?_, ?_⟩
  · -- the beginning
    obtain ⟨A, hA0⟩ : ∃ A, A = (H.alloc (.cells [.str [], .slice none 0 0, .str [], .int .i64 0] 28 { whole := true })).alloc (.cells ((St.start d s).cells (.slice none 0 0) (.slice none 0 0) (.slice none 0 0)) 60 { whole := true }) := ⟨_, rfl⟩
    have g1 : A.get (H.n + 1) = some (.cells ((St.start d s).cells (.slice none 0 0) (.slice none 0 0) (.slice none 0 0)) 60 { whole := true }) := by rw [hA0, AH.get_alloc, if_pos (by simp)]
    have g0 : A.get H.n = some (.cells [.str [], .slice none 0 0, .str [], .int .i64 0] 28 { whole := true }) := by rw [hA0, AH.get_alloc, if_neg (by simp only [AH.n_alloc]; omega), AH.get_alloc, if_pos rfl]
    have gn : A.n = H.n + 2 := by rw [hA0]; simp
    have go : ∀ c, c < H.n → A.get c = H.get c := fun c hc => by rw [hA0, AH.get_alloc, if_neg (by simp only [AH.n_alloc]; omega), AH.get_alloc, if_neg (by omega)]
    have st : ∀ K : AH, K.get (H.n + 1) = some (.cells ((St.start d s).cells (.slice none 0 0) (.slice none 0 0) (.slice none 0 0)) 60 { whole := true }) → K.get H.n = some (.cells [.str [], .slice none 0 0, .str [], .int .i64 0] 28 { whole := true }) → K.n = H.n + 2 → (∀ c, c < H.n → K.get c = H.get c) →
        AtS K (H.n + 1) (St.start d s) none none none 0 := by
      intro K k1 k0 kn ko
      exact ⟨k1, by omega, ⟨rfl, rfl⟩, ⟨rfl, rfl⟩, ⟨rfl, rfl⟩, (fun b h => by cases h), (fun b h => by cases h), (fun b h => by cases h), (fun b h => by cases h), (fun b h => by cases h), Nat.zero_le _⟩
    have jb : ∀ K : AH, K.get (H.n + 1) = some (.cells ((St.start d s).cells (.slice none 0 0) (.slice none 0 0) (.slice none 0 0)) 60 { whole := true }) → K.get H.n = some (.cells [.str [], .slice none 0 0, .str [], .int .i64 0] 28 { whole := true }) → K.n = H.n + 2 → (∀ c, c < H.n → K.get c = H.get c) →
        J1 (0, H.n, H.n + 1) K (3 * (s.length - 0) + 2) := by
      intro K k1 k0 kn ko
      rw [hJ1]
      exact ⟨rfl, St.start d s, h0, ⟨⟨_, _, _, _, st K k1 k0 kn ko⟩, k0, ko⟩, rfl⟩
    cases hd2 : (d == (2 : Int)) with
    | true =>
      simp only [cond_true]
      show ACallee Tryd.prog 22 [.ptr (some (H.n + 1, 0))] ((H.alloc (.cells [.str [], .slice none 0 0, .str [], .int .i64 0] 28 { whole := true })).alloc (.cells ((St.start d s).cells (.slice none 0 0) (.slice none 0 0) (.slice none 0 0)) 60 { whole := true })) _
      rw [← hA0]
      refine (hv (beq_iff_eq.1 hd2) _ _ (st A g1 g0 gn go)).mono ?_
      rintro v H' ⟨n, y, rfl, ⟨qs, qo, qc, cap, hA⟩, hn, ho, hR⟩
      obtain ⟨H8, w1, w2, w3, w4⟩ := hA.write (y := { y with i := n }) rfl rfl rfl (o := 2) (vs := [.int .i64 (n : Int)]) (by simp) (by simp [AV.one]) (by simp [splice, St.cells])
      refine ⟨(n : Int), rfl, rfl, H8, w1, (0, H.n, H.n + 1), 3 * (s.length - n) + 2, trivial, rfl, ?_⟩
      rw [hJ1]
      exact ⟨rfl, { y with i := n }, hR, ⟨⟨qs, qo, qc, cap, w2⟩, by rw [w4 _ (by omega), ho _ (by omega)]; exact g0, fun c hc => by rw [w4 _ (by omega), ho _ (by omega)]; exact go c hc⟩, rfl⟩
    | false =>
      simp only [cond_false]
      exact ⟨(0, H.n, H.n + 1), 3 * (s.length - 0) + 2, trivial, rfl, by have := jb A g1 g0 gn go; rw [hA0] at this; exact this⟩
  · -- where a sign may stand
    rintro y H1 j hy
    rw [hJ1] at hy
    obtain ⟨hy2, x, hR, hP, rfl⟩ := hy
    obtain ⟨z1, z2, z3⟩ := y
    cases hy2
    have hP' := hP
    obtain ⟨⟨qs, qo, qc, cap, hA⟩, p0, po⟩ := hP'
    obtain ⟨b1, b2, b3, b4, b5⟩ := hb x hR
    have rC : ∀ i, H1.read1 (H.n + 1) i = (x.cells (sl qs x.so.length) (sl qo x.ps.length) (.slice (qc.map fun b => (b, 0)) x.cols.length cap))[i]? := fun i => by unfold AH.read1; rw [hA.cells]
    have rp : H1.read1 (H.n + 1) 2 = some (.int .i64 (x.i : Int)) := by rw [rC]; rfl
    refine ⟨x.i, rp, ?_⟩
    by_cases hm : (x.i : Int) ≥ (s.length : Int)
    · simp only [hm, decide_true, cond_true]
      exact ⟨(z1, H.n, H.n + 1), 0, by omega, rfl, by rw [hJ0]; exact ⟨rfl, x, hR, by omega, hP⟩⟩
    · simp only [hm, decide_false, cond_false]
      have hlt : x.i < s.length := by omega
      refine ⟨qs.map fun b => (b, 0), x.so.length, x.so.length, by rw [rC]; rfl, ?_⟩
      by_cases hk : x.so.length ≤ 4096
      · have hk' : decide ((x.so.length : Int) > 4096) = false := by rw [decide_eq_false_iff_not]; omega
        simp only [hk', cond_false]
        refine ⟨x.i, rp, ⟨by omega, by omega⟩, ?_⟩
        rw [show ((x.i : Int)).toNat = x.i from rfl]
        have ht := turn x hR hlt hk
        unfold Turn at ht
        have sub : List.take ((s.length : Int) - (x.i : Int)).toNat (List.drop ((x.i : Int)).toNat s) = x.s.drop x.i := by
          rw [b2, show ((x.i : Int)).toNat = x.i from rfl, List.take_of_length_le (by rw [List.length_drop]; omega)]
        have bd : (0 : Int) ≤ (x.i : Int) ∧ (x.i : Int) ≤ (s.length : Int) ∧ (s.length : Int) ≤ (s.length : Int) := by omega
        have sign : R x.signed → ∃ y k, k < 3 * (s.length - x.i) + 2 ∧ [AV.int .i64 d, .str s, .ptr (some (H.n, 0)), .int .i64 0, .ptr (some (H.n + 1, 0)), .int .i64 z1] = [.int .i64 d, .str s, .ptr (some (y.2.1, 0)), .int .i64 0, .ptr (some (y.2.2, 0)), .int .i64 y.1] ∧ J2 y H1 k := by
          intro hsg
          exact ⟨(z1, H.n, H.n + 1), 3 * (s.length - x.i) + 1, by omega, rfl, by rw [hJ2]; exact ⟨rfl, x, hR, hlt, hsg, hP, rfl⟩⟩
        have past : ∀ {f : FuncId} {K : AV → AH → Prop}, Past R f x → (∀ v H7, (∃ n8 : Int, v = .int .i64 n8 ∧ bif decide (n8 > 0) then ∃ n9 : Int, H7.read1 (H.n + 1) 2 = some (.int .i64 n9) ∧ [AV.int .i64 (IntKind.i64.wrap (n9 + n8))].length = 1 ∧ ∃ H8, H7.write (H.n + 1) 2 [.int .i64 (IntKind.i64.wrap (n9 + n8))] = some H8 ∧
            ∃ (y : Int × Nat × Nat) (k : Nat), k < 3 * (s.length - x.i) + 2 ∧ [AV.int .i64 d, .str s, .ptr (some (H.n, 0)), .int .i64 0, .ptr (some (H.n + 1, 0)), .int .i64 n8] = [.int .i64 d, .str s, .ptr (some (y.2.1, 0)), .int .i64 0, .ptr (some (y.2.2, 0)), .int .i64 y.1] ∧ J1 y H8 k else
            ∃ (y : Int × Nat × Nat) (k : Nat), k < 3 * (s.length - x.i) + 2 ∧ [AV.int .i64 d, .str s, .ptr (some (H.n, 0)), .int .i64 0, .ptr (some (H.n + 1, 0)), .int .i64 n8] = [.int .i64 d, .str s, .ptr (some (y.2.1, 0)), .int .i64 0, .ptr (some (y.2.2, 0)), .int .i64 y.1] ∧ J2 y H7 k) → K v H7) →
            ACallee Tryd.prog f [.ptr (some (H.n + 1, 0)), .str (x.s.drop x.i)] H1 K := by
          rintro f K hF hK
          refine (hF H1 _ qs qo qc cap hA).mono ?_
          rintro v H7 ⟨n, y, rfl, ⟨qs', qo', qc', cap', hA7⟩, n7, o7, hn, e1, e2, e3, hc⟩
          refine hK _ _ ⟨n, rfl, ?_⟩
          have p7 : H7.get H.n = some (.cells [.str [], .slice none 0 0, .str [], .int .i64 0] 28 { whole := true }) := by rw [o7 _ (by omega)]; exact p0
          have po7 : ∀ c, c < H.n → H7.get c = H.get c := fun c hc => by rw [o7 c (by omega)]; exact po c hc
          by_cases hn0 : 0 < n
          · have h1 : decide ((n : Int) > 0) = true := by rw [decide_eq_true_iff]; omega
            have h2 : decide (0 < n) = true := by rw [decide_eq_true_iff]; exact hn0
            rw [h2] at hc
            rw [h1]
            simp only [cond_true] at hc ⊢
            obtain ⟨H8, w1, w2, w3, w4⟩ := hA7.write (y := y.skip n) rfl rfl rfl (o := 2) (vs := [.int .i64 ((y.i + n : Nat) : Int)]) (by simp) (by simp [AV.one]) (by simp [splice, St.cells, St.skip])
            refine ⟨y.i, by unfold AH.read1; rw [hA7.cells]; rfl, rfl, H8, ?_, ?_⟩
            · rw [wrap_i64 (by omega) (by omega)]; exact w1
            · obtain ⟨j', l1, l2⟩ := land1 (H' := H8) (z := (n : Int)) (x := x) hc ⟨⟨qs', qo', qc', cap', w2⟩, by rw [w4 _ (by omega)]; exact p7, fun c hc => by rw [w4 _ (by omega)]; exact po7 c hc⟩ hlt (by show x.i < y.i + n; omega) (.inl rfl)
              exact ⟨((n : Int), H.n, H.n + 1), j', l1, rfl, l2⟩
          · have h1 : decide ((n : Int) > 0) = false := by rw [decide_eq_false_iff_not]; omega
            have h2 : decide (0 < n) = false := by rw [decide_eq_false_iff_not]; exact hn0
            rw [h2] at hc
            rw [h1]
            simp only [cond_false] at hc ⊢
            obtain ⟨rfl, hsg⟩ := hc
            exact ⟨((n : Int), H.n, H.n + 1), 3 * (s.length - y.i) + 1, by omega, rfl, by rw [hJ2]; exact ⟨rfl, y, hR, hlt, hsg, ⟨⟨qs', qo', qc', cap', hA7⟩, p7, po7⟩, rfl⟩⟩
        have put : ∀ (t : List UInt8) (m : Nat), t ≠ [] → t.length ≤ 4 → 0 < m → m ≤ 4194304 → R ((x.laid t).skip m) → ∀ {K : AV → AH → Prop}, (∀ v H10, (∃ n12 : Int, H10.read1 (H.n + 1) 2 = some (.int .i64 n12) ∧ [AV.int .i64 (IntKind.i64.wrap (n12 + (m : Int)))].length = 1 ∧ ∃ H11, H10.write (H.n + 1) 2 [.int .i64 (IntKind.i64.wrap (n12 + (m : Int)))] = some H11 ∧
            ∃ (y : Int × Nat × Nat) (k : Nat), k < 3 * (s.length - x.i) + 2 ∧ [AV.int .i64 d, .str s, .ptr (some (H.n, 0)), .int .i64 0, .ptr (some (H.n + 1, 0)), .int .i64 z1] = [.int .i64 d, .str s, .ptr (some (y.2.1, 0)), .int .i64 0, .ptr (some (y.2.2, 0)), .int .i64 y.1] ∧ J1 y H11 k) → K v H10) →
            ACallee Tryd.prog 25 [.ptr (some (H.n + 1, 0)), .str t] H1 K := by
          intro t m ht0 ht4 hm0 hm4 hRt K hK
          refine (put_S hA t ht0 (by omega) (by omega)).mono ?_
          rintro v H10 ⟨rfl, ⟨qs', qo', hA10⟩, n10, o10⟩
          refine hK _ _ ⟨x.i, by unfold AH.read1; rw [hA10.cells]; rfl, rfl, ?_⟩
          obtain ⟨H8, w1, w2, w3, w4⟩ := hA10.write (y := (x.laid t).skip m) rfl rfl rfl (o := 2) (vs := [.int .i64 ((x.i + m : Nat) : Int)]) (by simp) (by simp [AV.one]) (by simp [splice, St.cells, St.skip, St.laid])
          obtain ⟨j', l1, l2⟩ := land1 (H' := H8) (z := z1) (x := x) hRt ⟨⟨qs', qo', qc, cap, w2⟩, by rw [w4 _ (by omega), o10 _ (by omega)]; exact p0, fun c hc => by rw [w4 _ (by omega), o10 _ (by omega)]; exact po c hc⟩ hlt (by show x.i < x.i + m; omega) (.inl rfl)
          refine ⟨H8, ?_, (z1, H.n, H.n + 1), j', l1, rfl, l2⟩
          rw [wrap_i64 (by omega) (by omega)]; exact w1
        cases c1 : ((((s[x.i]?.getD 0).toNat : Nat) : Int) == 60 && (d == 1 || d == 2)) with
        | true =>
          rw [c1] at ht
          simp only [cond_true] at ht ⊢
          refine ⟨x.i, rp, bd, ?_⟩
          rw [sub]
          exact past ht fun v H7 h => h
        | false =>
        rw [c1] at ht
        simp only [cond_false] at ht ⊢
        cases c2 : ((((s[x.i]?.getD 0).toNat : Nat) : Int) == 38 && d == 2) with
        | true =>
          rw [c2] at ht
          simp only [cond_true] at ht ⊢
          obtain ⟨t, m, e1, e2, e3⟩ := ht
          refine ⟨x.i, rp, bd, ?_⟩
          rw [sub, b2]
          refine e1.use1 ⟨t, m, rfl, ?_⟩
          by_cases hm0 : 0 < m
          · have h1 : ((m : Int) == 0) = false := by rw [beq_eq_false_iff_ne]; omega
            have h2 : decide (0 < m) = true := by rw [decide_eq_true_iff]; exact hm0
            rw [h2] at e3
            simp only [h1, cond_false, cond_true] at e3 ⊢
            exact put t m e3.1 e3.2.1 hm0 e2 e3.2.2 fun v H10 h => h
          · have h1 : ((m : Int) == 0) = true := by rw [beq_iff_eq]; omega
            have h2 : decide (0 < m) = false := by rw [decide_eq_false_iff_not]; exact hm0
            rw [h2] at e3
            simp only [h1, cond_false, cond_true] at e3 ⊢
            exact sign e3
        | false =>
        rw [c2] at ht
        simp only [cond_false] at ht ⊢
        cases c3 : ((((s[x.i]?.getD 0).toNat : Nat) : Int) == 124 && d == 3) with
        | true =>
          rw [c3] at ht
          simp only [cond_true] at ht ⊢
          refine (put_S hA [10] (by decide) (by simp only [List.length_cons, List.length_nil]; omega) (by omega)).mono ?_
          rintro v H10 ⟨rfl, ⟨qs', qo', hA10⟩, n10, o10⟩
          obtain ⟨H11, w1, w2, w3, w4⟩ := hA10.write (y := { x.laid [10] with look := noLook }) rfl rfl rfl (o := 11) (vs := noLook.cells) (by decide) (by simp [AV.one, noLook, Look.cells]) (by simp [splice, St.cells, St.laid, noLook, Look.cells])
          obtain ⟨H12, u1, u2, u3, u4⟩ := w2.write (y := { x.laid [10] with look := noLook, fr := true }) rfl rfl rfl (o := 16) (vs := [.bool true]) (by simp) (by simp [AV.one]) (by simp [splice, St.cells, St.laid])
          obtain ⟨H13, t1, t2, t3, t4⟩ := u2.write (y := x.lined) rfl rfl rfl (o := 2) (vs := [.int .i64 ((x.i + 1 : Nat) : Int)]) (by simp) (by simp [AV.one]) (by simp [splice, St.cells, St.laid, St.lined])
          obtain ⟨j', l1, l2⟩ := land1 (H' := H13) (z := z1) (x := x) ht ⟨⟨qs', qo', qc, cap, t2⟩, by rw [t4 _ (by omega), u4 _ (by omega), w4 _ (by omega), o10 _ (by omega)]; exact p0, fun c hc => by rw [t4 _ (by omega), u4 _ (by omega), w4 _ (by omega), o10 _ (by omega)]; exact po c hc⟩ hlt (by show x.i < x.i + 1; omega) (.inl rfl)
          refine ⟨rfl, H11, w1, (by trivial), H12, u1, x.i, by unfold AH.read1; rw [u2.cells]; rfl, rfl, H13, ?_, (z1, H.n, H.n + 1), j', l1, rfl, l2⟩
          rw [wrap_i64 (by omega) (by omega)]; exact t1
        | false =>
        rw [c3] at ht
        simp only [cond_false] at ht ⊢
        refine ⟨x.fr, by rw [rC]; rfl, ?_⟩
        cases c4 : ((((s[x.i]?.getD 0).toNat : Nat) : Int) == 123 && d == 3 && x.fr) with
        | true =>
          rw [c4] at ht
          simp only [cond_true] at ht ⊢
          refine ⟨x.i, rp, bd, ?_⟩
          rw [sub]
          exact past ht fun v H7 h => h
        | false =>
        rw [c4] at ht
        simp only [cond_false] at ht ⊢
        refine ⟨x.i, rp, fun _ => bd, ?_⟩
        cases c5 : ((((s[x.i]?.getD 0).toNat : Nat) : Int) == 92 && d == 4) with
        | true =>
          rw [c5] at ht
          have tt : (true == true) = true := rfl
          simp only [cond_true, tt] at ht ⊢
          rw [sub, b2]
          refine (HasPrefix_pure _ _).use1 ⟨_, rfl, ?_⟩
          cases hp : pre (s.drop x.i) [92, 78] with
          | true =>
            rw [hp] at ht
            simp only [cond_true] at ht ⊢
            exact put [10] 2 (by decide) (by decide) (by decide) (by decide) ht fun v H10 h => h
          | false =>
            rw [hp] at ht
            simp only [cond_false] at ht ⊢
            have c6 : ((((s[x.i]?.getD 0).toNat : Nat) : Int) == 123 && d == 4) = false := by
              simp only [Bool.and_eq_true, beq_iff_eq] at c5
              rw [Bool.and_eq_false_iff]; left; rw [beq_eq_false_iff_ne]; omega
            simp only [c6, cond_false]
            exact sign ht
        | false =>
        rw [c5] at ht
        have ff : (false == true) = false := rfl
        simp only [cond_false, ff] at ht ⊢
        cases c6 : ((((s[x.i]?.getD 0).toNat : Nat) : Int) == 123 && d == 4) with
        | true =>
          rw [c6] at ht
          simp only [cond_true] at ht ⊢
          refine ⟨x.i, rp, bd, ?_⟩
          rw [sub]
          exact past ht fun v H7 h => h
        | false =>
          rw [c6] at ht
          simp only [cond_false] at ht ⊢
          exact sign ht
      · have hk' : decide ((x.so.length : Int) > 4096) = true := by rw [decide_eq_true_iff]; omega
        simp only [hk', cond_true]
        have hlt1 := hA.lt
        refine ⟨rfl, H1.set H.n (.cells [.str [], .slice none 0 0, .str [], .int .i64 0] 28 { whole := true }), by simp [AH.write, p0, splice, AV.one], _, _, _, _, _, _, by simp [AH.read, AH.get_set]; exact ⟨rfl, ⟨rfl, rfl, rfl⟩, rfl, rfl⟩, ?_⟩
        rw [hQ]
        refine ⟨3, [], [], [], 0, hlong x hR hlt (by omega), none, rfl, ⟨rfl, rfl⟩, (fun c h => by cases h), by simp only [AH.n_set]; omega, fun c hc => ?_⟩
        rw [AH.get_set, if_neg (by omega)]; exact po c hc
  · -- a sign
    rintro y H1 j hy
    rw [hJ2] at hy
    obtain ⟨hy2, x, hR, hlt, hsg, hP, rfl⟩ := hy
    obtain ⟨z1, z2, z3⟩ := y
    cases hy2
    obtain ⟨⟨qs, qo, qc, cap, hA⟩, p0, po⟩ := hP
    obtain ⟨b1, b2, b3, b4, b5⟩ := hb x hR
    have hsz := decodeL_size s _ hlt
    have hle := decodeL_le4 s x.i
    have rp : H1.read1 (H.n + 1) 2 = some (.int .i64 (x.i : Int)) := by unfold AH.read1; rw [hA.cells]; rfl
    refine ⟨x.i, rp, x.i, rp, ?_⟩
    have w4 : IntKind.i64.wrap ((x.i : Int) + 4) = (x.i : Int) + 4 := wrap_i64 (by omega) (by omega)
    simp only [w4]
    have win : List.take ((if (x.i : Int) + 4 < (s.length : Int) then (x.i : Int) + 4 else (s.length : Int)) - (x.i : Int)).toNat (List.drop (x.i : Int).toNat s) = (s.drop x.i).take 4 := by
      show List.take _ (List.drop x.i s) = _
      by_cases h : (x.i : Int) + 4 < (s.length : Int)
      · rw [if_pos h]; congr 1; omega
      · rw [if_neg h, List.take_of_length_le (by rw [List.length_drop]; omega), List.take_of_length_le (by rw [List.length_drop]; omega)]
    rw [win]
    refine ⟨⟨by omega, by split <;> omega, by split <;> omega⟩, (signOf_pure _).use1 ⟨_, rfl, ?_⟩⟩
    rw [decodeL_window, List.take_take, Nat.min_eq_left hle.2]
    have hsgn : x.sgn = (s.drop x.i).take (decodeL s x.i).2 := by unfold St.sgn; rw [b2]
    rw [← hsgn]
    have tl : x.sgn.length = (decodeL s x.i).2 := by rw [hsgn, List.length_take, List.length_drop]; omega
    refine (put_S hA x.sgn (fun e => by rw [e] at tl; simp at tl; omega) (by omega) (by omega)).mono ?_
    rintro v H2 ⟨rfl, ⟨qs', qo', hB⟩, hn2, old⟩
    obtain ⟨H3, w1, w2, w3, w5⟩ := hB.write (y := (x.laid x.sgn).skip x.sgn.length) rfl rfl rfl (o := 2) (vs := [.int .i64 ((x.i + x.sgn.length : Nat) : Int)]) (by simp) (by simp [AV.one]) (by simp [splice, St.cells, St.skip, St.laid])
    obtain ⟨H4, u1, u2, u3, u4⟩ := w2.write (y := x.signed) rfl rfl rfl (o := 16) (vs := [.bool false]) (by simp) (by simp [AV.one]) (by simp [splice, St.cells, St.skip, St.laid, St.signed])
    obtain ⟨j', l1, l2⟩ := land1 (H' := H4) (z := z1) (x := x) hsg ⟨⟨qs', qo', qc, cap, u2⟩, by rw [u4 _ (by omega), w5 _ (by omega), old _ (by omega)]; exact p0, fun c hc => by rw [u4 _ (by omega), w5 _ (by omega), old _ (by omega)]; exact po c hc⟩ hlt (by show x.i < x.i + x.sgn.length; omega) (.inr rfl)
    refine ⟨x.i, by unfold AH.read1; rw [hB.cells]; rfl, rfl, H3, ?_, trivial, H4, u1, (z1, H.n, H.n + 1), j', l1, rfl, l2⟩
    rw [wrap_i64 (by omega) (by omega)]; exact w1
  · -- the end
    rintro y H1 j hy
    rw [hJ0] at hy
    obtain ⟨hy2, x, hR, hend', hP⟩ := hy
    obtain ⟨z1, z2, z3⟩ := y
    cases hy2
    obtain ⟨⟨qs, qo, qc, cap, hA⟩, p0, po⟩ := hP
    have hlt1 := hA.lt
    refine ⟨qo.map fun b => (b, 0), x.ps.length, x.ps.length, by unfold AH.read1; rw [hA.cells]; rfl, ?_⟩
    obtain ⟨e, S, sp, hl, hW⟩ := hend x hR hend'
    refine (hl H1 qo hA.pieces fun b hb => (hA.bo b hb).2).mono ?_
    rintro v H2 ⟨q', rfl, g1, g2, g3, g4⟩
    refine ⟨_, _, _, _, _, rfl, rfl, (H2.alloc (.cells [.str [], .slice none 0 0] 26 { whole := true })).set H2.n (.cells [.str S, .slice (q'.map fun b => (b, 0)) sp.length sp.length] 26 { whole := true }), by simp [AH.write, AH.get_alloc, splice, AV.one], ?_⟩
    obtain ⟨A, hA2⟩ : ∃ A, A = (H2.alloc (.cells [.str [], .slice none 0 0] 26 { whole := true })).set H2.n (.cells [.str S, .slice (q'.map fun b => (b, 0)) sp.length sp.length] 26 { whole := true }) := ⟨_, rfl⟩
    have an : A.n = H2.n + 1 := by rw [hA2]; rfl
    have ao : ∀ c, c < H2.n → A.get c = H2.get c := fun c hc => by rw [hA2, AH.get_set, if_neg (by omega), AH.get_alloc, if_neg (by omega)]
    have ag : A.get H2.n = some (.cells [.str S, .slice (q'.map fun b => (b, 0)) sp.length sp.length] 26 { whole := true }) := by rw [hA2, AH.get_set, if_pos rfl]
    rw [← hA2]
    have a0 : A.get H.n = some (.cells [.str [], .slice none 0 0, .str [], .int .i64 0] 28 { whole := true }) := by rw [ao _ (by omega), g4 _ (by omega)]; exact p0
    have a1 : A.get (H.n + 1) = _ := (ao _ (by omega)).trans ((g4 _ (by omega)).trans hA.cells)
    have aold : ∀ c, c < H.n → A.get c = H.get c := fun c hc => by rw [ao _ (by omega), g4 _ (by omega)]; exact po c hc
    cases he : (e != 0) with
    | true =>
      rw [he] at hW
      simp only [cond_true] at hW ⊢
      refine ⟨rfl, A.set H.n (.cells [.str [], .slice none 0 0, .str [], .int .i64 0] 28 { whole := true }), by simp [AH.write, a0, splice, AV.one], _, _, _, _, _, _, by simp [AH.read, AH.get_set]; exact ⟨rfl, ⟨rfl, rfl, rfl⟩, rfl, rfl⟩, ?_⟩
      rw [hQ]
      refine ⟨e, [], [], [], 0, hW, none, rfl, ⟨rfl, rfl⟩, (fun c h => by cases h), by simp only [AH.n_set]; omega, fun c hc => ?_⟩
      rw [AH.get_set, if_neg (by omega)]; exact aold c hc
    | false =>
      rw [he] at hW
      simp only [cond_false] at hW ⊢
      refine ⟨S, q'.map fun b => (b, 0), sp.length, sp.length, by simp [AH.read, ag], x.name, by unfold AH.read1; rw [a1]; rfl, x.side, by unfold AH.read1; rw [a1]; rfl, rfl, A.set H.n (.cells [.str S, .slice (q'.map fun b => (b, 0)) sp.length sp.length, .str x.name, .int .i64 x.side] 28 { whole := true }), by simp [AH.write, a0, splice, AV.one], S, q'.map fun b => (b, 0), sp.length, sp.length, x.name, x.side, by simp [AH.read, AH.get_set], ?_⟩
      rw [hQ]
      have he0 : e = 0 := by simpa using he
      subst he0
      refine ⟨0, S, sp, x.name, x.side, hW, q', rfl, g1.same fun b hb => ?_, fun c hc => ?_, by simp only [AH.n_set]; omega, fun c hc => ?_⟩
      · have := g2 b hb; rw [AH.get_set, if_neg (by omega), ao b this.2]
      · have := g2 c hc; simp only [AH.n_set]; omega
      · rw [AH.get_set, if_neg (by omega)]; exact aold c hc
end Go.Proofs.YtlkdhhkncoekgaaDoor
end

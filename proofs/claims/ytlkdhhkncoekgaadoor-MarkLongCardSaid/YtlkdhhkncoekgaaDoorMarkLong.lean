/- The law MarkLong (many forms: so many tags open in one another, and closed again; so many lines) returns true for every dialect and number; the row's list is its only condition. -/
import Derived.Test.YtlkdhhkncoekgaaDoorLongL
import Derived.Test.YtlkdhhkncoekgaaDoorKnown
import Derived.Test.YtlkdhhkncoekgaaDoorCards
import Derived.Test.YtlkdhhkncoekgaaDoorTie
import Derived.SevenTiedAt
namespace Go.Proofs.YtlkdhhkncoekgaaDoor.markLong
open Go.ChangeShapes Go.WideShapes Go.ChangeAt Go.RowKit Go.Am Go

theorem append_bytes {H : AH} {q : Option Nat} {so s : List UInt8} (hl : Lies H q so.length (byteCellsA so) 5) (h0 : s ≠ []) (hm : so.length + s.length ≤ 1000000) :
    ∃ H', appendV Tryd.prog H 39 9 (.slice (q.map fun b => (b, 0)) so.length so.length) (.str s) = some (sl (some H.n) (so ++ s).length, H') ∧ H'.n = H.n + 1 ∧ Lies H' (some H.n) (so ++ s).length (byteCellsA (so ++ s)) 5 ∧ ∀ c, c < H.n → q ≠ some c → H'.get c = H.get c := by
  have h := append_lies (P := Tryd.prog) (H := H) (st := 39) (xt := 9) (e := 5) (xd := .string) (s := 1) (by_ := 1) (m := so.length) (n := s.length) (q := q) (old := byteCellsA so) (new := byteCellsA s) (y := .str s) (z := .int .u8 0)
    (by kernel_rfl) (by kernel_rfl) (fun k h => by cases h) (by kernel_rfl) (by kernel_rfl) (by kernel_rfl) rfl (by decide) rfl (by simp [byteCellsA, AV.one]) (List.length_pos_iff.2 h0) hl (by simp [byteCellsA]) (by omega)
  rw [← List.length_append] at h
  have e : byteCellsA so ++ byteCellsA s = byteCellsA (so ++ s) := by simp [byteCellsA]
  rw [e] at h
  exact h
theorem append_byte {H : AH} {q : Option Nat} {so : List UInt8} {c : UInt8} (hl : Lies H q so.length (byteCellsA so) 5) (hq0 : ∀ b, q = some b → b < H.n) (hm : so.length ≤ 1000000) :
    ∃ H', appendV Tryd.prog (H.alloc (.cells [.int .u8 (c.toNat : Int)] 5 { whole := true })) 39 39 (.slice (q.map fun b => (b, 0)) so.length so.length) (.slice (some (H.n, 0)) 1 1) = some (sl (some (H.n + 1)) (so ++ [c]).length, H') ∧ H'.n = H.n + 2 ∧ Lies H' (some (H.n + 1)) (so ++ [c]).length (byteCellsA (so ++ [c])) 5 := by
  have hq : ∀ b, q = some b → b ≠ H.n := fun b hb => Nat.ne_of_lt (hq0 b hb)
  have h := append_lies (P := Tryd.prog) (H := H.alloc (.cells [.int .u8 (c.toNat : Int)] 5 { whole := true })) (st := 39) (xt := 39) (e := 5) (xd := .slice 5) (s := 1) (by_ := 1) (m := so.length) (n := 1) (q := q) (old := byteCellsA so) (new := byteCellsA [c]) (y := .slice (some (H.n, 0)) 1 1) (z := .int .u8 0)
    (by kernel_rfl) (by kernel_rfl) (fun k h => by cases h) (by kernel_rfl) (by kernel_rfl) (by kernel_rfl) rfl (by decide) (by simp [srcV, AH.read, AH.get_alloc, byteCellsA]) (by simp [byteCellsA, AV.one]) (by decide)
    (hl.same fun b hb => by rw [AH.get_alloc, if_neg (hq b hb)]) (by simp [byteCellsA]) (by omega)
  obtain ⟨H', h1, h2, h3, _⟩ := h
  have e : byteCellsA so ++ byteCellsA [c] = byteCellsA (so ++ [c]) := by simp [byteCellsA]
  rw [e] at h3
  rw [List.length_append]
  exact ⟨H', h1, h2, h3⟩

theorem cvs_same {K : AH} {b : Nat} {cs : List AV} (h : K.get b = some (.cells cs 5 { whole := true })) : convV Tryd.prog K 39 39 (.slice (some (b, 0)) 7 7) = some (.slice (some (b, 0)) 7 7, K.set b (.cells cs 5 { whole := true, sish := true })) := by
  have t1 : Tryd.prog.underlying 39 = some (.slice 5) := by kernel_rfl
  have t2 : Tryd.prog.underlying 5 = some (.int .u8) := by kernel_rfl
  unfold convV
  simp only [t1, t2, h]
  rfl

theorem within_pure (a : Int) : ∃ m : Nat, m < 2000 ∧ Pure Tryd.prog 17 [.int .i64 a, .int .i64 2000] (.int .i64 m) := by
  have h1 : -2000 < a.tmod 2000 := Int.lt_tmod_of_pos a (by decide)
  have h2 : a.tmod 2000 < 2000 := Int.tmod_lt_of_pos a (by decide)
  by_cases h : a.tmod 2000 < 0
  · refine ⟨(a.tmod 2000 + 2000).toNat, by omega, Pure.of_vc follows' [] (by kernel_rfl) rfl rfl ?_⟩
    rw [within_vc]
    have d : decide (a.tmod 2000 < 0) = true := by rw [decide_eq_true_iff]; exact h
    simp only [d, cond_true, real_wrap]
    refine ⟨by decide, ?_⟩
    rw [wrap_i64 (by omega) (by omega), Int.toNat_of_nonneg (by omega)]
  · refine ⟨(a.tmod 2000).toNat, by omega, Pure.of_vc follows' [] (by kernel_rfl) rfl rfl ?_⟩
    rw [within_vc]
    have d : decide (a.tmod 2000 < 0) = false := by rw [decide_eq_false_iff_not]; exact h
    simp only [d, cond_false]
    refine ⟨by decide, ?_⟩
    rw [Int.toNat_of_nonneg (by omega)]

/-- The text of a dialect. -/
def longS (d : Int) (n : Nat) : List UInt8 := bif d == 3 then pipeS n else bif d == 4 then braceS n else angleS n
def longX (d : Int) : List UInt8 := bif d == 3 then [120, 10, 121] else [120, 121]
def longP (d : Int) (n : Nat) : List Spn := bif decide (0 < n) then [⟨0, bif d == 3 then 2 else 1, 2, 0⟩] else []
theorem long_parse (d : Int) (hd : 1 ≤ d ∧ d ≤ 4) (n : Nat) (hn : n < 2000) (H : AH) : ACallee Tryd.prog 12 [.int .i64 d, .str (longS d n)] H (MarkRes H (longX d) (longP d n) [] 0 0) := by
  have : d = 1 ∨ d = 2 ∨ d = 3 ∨ d = 4 := by omega
  rcases this with rfl | rfl | rfl | rfl
  · exact long_angle 1 (.inl rfl) n hn H
  · exact long_angle 2 (.inr rfl) n hn H
  · exact long_pipe n hn H
  · exact long_brace n hn H

set_option maxRecDepth 100000 in
theorem law (e1 e2 : TypeId) (d n : Int) :
    ACall Tryd.prog 7 [.int .i64 d, .int .i64 n] (startH nGlob (startTabs e1 e2)) fun v _ => v = .bool true := by
  refine vcG_ok (anns := _) (rans := _) follows (Eq.mpr (long_vc (real Tryd.prog) (Iter Tryd.prog) d n _ _) ?_)
  simp only [real_n, real_al, real_rd1, real_rdn, real_call, real_wr, real_wrap, real_app, real_str, real_cvs]
  refine (known_pure e1 e2).use (startTabs_in e1 e2) ?_
  rintro v rfl
  refine ⟨true, rfl, ?_⟩
  simp only [Bool.not_true, cond_false]
  obtain ⟨m, hm, hw⟩ := within_pure n
  refine hw.use1 ⟨_, rfl, (dialects_pure d).use1 ⟨_, rfl, ?_⟩⟩
  cases hg : (!(decide (1 ≤ d) && decide (d ≤ 4))) with
  | true => simp only [cond_true]
  | false =>
    simp only [Bool.not_eq_false', Bool.and_eq_true, decide_eq_true_eq] at hg
    simp only [cond_false]
    refine ⟨fun y H' => ∃ q k, y = ((m : Int), (q, k), if 1 < (m : Int) then 1 else (m : Int)) ∧ bytesAt H' (.slice q k k) = some (longS d m), ?_, ?_⟩
    · have hd1 : d = 1 ∨ d = 2 ∨ d = 3 ∨ d = 4 := by omega
      have b11 : ((1 : Int) == 1) = true := rfl
      have b21 : ((2 : Int) == 1) = false := rfl
      have b22 : ((2 : Int) == 2) = true := rfl
      have b31 : ((3 : Int) == 1) = false := rfl
      have b32 : ((3 : Int) == 2) = false := rfl
      have b33 : ((3 : Int) == 3) = true := rfl
      have b41 : ((4 : Int) == 1) = false := rfl
      have b42 : ((4 : Int) == 2) = false := rfl
      have b43 : ((4 : Int) == 3) = false := rfl
      have b44 : ((4 : Int) == 4) = true := rfl
      rcases hd1 with rfl | rfl | rfl | rfl
      · -- tags
        simp only [b11, cond_true]
        refine ⟨fun y H' j => ∃ (i : Nat) (q : Option Nat), y = ((m : Int), (q.map (fun b => (b, 0)), (rep i [60, 105, 62]).length), (i : Int)) ∧ i ≤ m ∧ Lies H' q (rep i [60, 105, 62]).length (byteCellsA (rep i [60, 105, 62])) 5 ∧ (∀ b, q = some b → b < H'.n) ∧ j = m - i,
          ⟨((m : Int), (none, 0), 0), m, rfl, 0, none, rfl, Nat.zero_le _, ⟨rfl, rfl⟩, (fun b h => by cases h), rfl⟩, ?_⟩
        rintro _ H4 _ ⟨i, q, rfl, hi, hL, hqb, rfl⟩
        have hil := rep_length [60, 105, 62] i
        simp only [List.length_cons, List.length_nil] at hil
        by_cases him : i < m
        · have d1 : decide ((i : Int) < (m : Int)) = true := by rw [decide_eq_true_iff]; omega
          simp only [d1, cond_true]
          obtain ⟨H5, g1, g2, g3, g4⟩ := append_bytes hL (s := [60, 105, 62]) (by decide) (by simp only [List.length_cons, List.length_nil]; omega)
          rw [rep_snoc] at g1 g3
          refine ⟨_, _, _, H5, g1, ((m : Int), (some (H4.n, 0), (rep (i + 1) [60, 105, 62]).length), ((i + 1 : Nat) : Int)), m - (i + 1), by omega, ?_, i + 1, some H4.n, rfl, by omega, g3, (fun b h => by cases h; omega), rfl⟩
          rw [wrap_i64 (by omega) (by omega)]; rfl
        have d1 : decide ((i : Int) < (m : Int)) = false := by rw [decide_eq_false_iff_not]; omega
        simp only [d1, cond_false]
        obtain rfl : i = m := by omega
        obtain ⟨H5, g1, g2, g3⟩ := append_byte hL hqb (c := 120) (by omega)
        refine ⟨by decide, _, _, _, H5, g1, ?_⟩
        refine ⟨fun y H' j => ∃ (k : Nat) (q : Option Nat), y = ((i : Int), (q.map (fun b => (b, 0)), (rep i [60, 105, 62] ++ [120] ++ rep k [60, 47, 105, 62]).length), (k : Int)) ∧ k ≤ i ∧ Lies H' q (rep i [60, 105, 62] ++ [120] ++ rep k [60, 47, 105, 62]).length (byteCellsA (rep i [60, 105, 62] ++ [120] ++ rep k [60, 47, 105, 62])) 5 ∧ (∀ b, q = some b → b < H'.n) ∧ j = i - k,
          ⟨((i : Int), (some (H4.n + 1, 0), (rep i [60, 105, 62] ++ [120]).length), 0), i, rfl, 0, some (H4.n + 1), by simp [rep], Nat.zero_le _, by simp only [rep, List.append_nil]; exact g3, (fun b h => by cases h; omega), rfl⟩, ?_⟩
        rintro _ H6 _ ⟨k, q6, rfl, hk, hL6, hqb6, rfl⟩
        have hkl := rep_length [60, 47, 105, 62] k
        simp only [List.length_cons, List.length_nil] at hkl
        have hsl : (rep i [60, 105, 62] ++ [120] ++ rep k [60, 47, 105, 62]).length ≤ 20000 := by simp only [List.length_append, List.length_cons, List.length_nil]; omega
        by_cases hkm : k < i
        · have d2 : decide ((k : Int) < (i : Int)) = true := by rw [decide_eq_true_iff]; omega
          simp only [d2, cond_true]
          obtain ⟨H7, u1, u2, u3, u4⟩ := append_bytes hL6 (s := [60, 47, 105, 62]) (by decide) (by simp only [List.length_cons, List.length_nil]; omega)
          rw [List.append_assoc (rep i [60, 105, 62] ++ [120]), rep_snoc] at u1 u3
          refine ⟨_, _, _, H7, u1, ((i : Int), (some (H6.n, 0), (rep i [60, 105, 62] ++ [120] ++ rep (k + 1) [60, 47, 105, 62]).length), ((k + 1 : Nat) : Int)), i - (k + 1), by omega, ?_, k + 1, some H6.n, rfl, by omega, u3, (fun b h => by cases h; omega), rfl⟩
          rw [wrap_i64 (by omega) (by omega)]; rfl
        have d2 : decide ((k : Int) < (i : Int)) = false := by rw [decide_eq_false_iff_not]; omega
        simp only [d2, cond_false]
        obtain rfl : k = i := by omega
        obtain ⟨H7, u1, u2, u3⟩ := append_byte hL6 hqb6 (c := 121) (by omega)
        refine ⟨by decide, _, _, _, H7, u1, ((k : Int), (some (H6.n + 1, 0), (rep k [60, 105, 62] ++ [120] ++ rep k [60, 47, 105, 62] ++ [121]).length), if 1 < (k : Int) then 1 else (k : Int)), 0, trivial, rfl, some (H6.n + 1, 0), _, rfl, ?_⟩
        have := bytes_all u3
        refine this.trans ?_
        show some _ = some (angleS k)
        congr 1
        unfold angleS
        simp only [List.append_assoc]
      · -- tags
        simp only [b21, b22, cond_true, cond_false]
        refine ⟨fun y H' j => ∃ (i : Nat) (q : Option Nat), y = ((m : Int), (q.map (fun b => (b, 0)), (rep i [60, 105, 62]).length), (i : Int)) ∧ i ≤ m ∧ Lies H' q (rep i [60, 105, 62]).length (byteCellsA (rep i [60, 105, 62])) 5 ∧ (∀ b, q = some b → b < H'.n) ∧ j = m - i,
          ⟨((m : Int), (none, 0), 0), m, rfl, 0, none, rfl, Nat.zero_le _, ⟨rfl, rfl⟩, (fun b h => by cases h), rfl⟩, ?_⟩
        rintro _ H4 _ ⟨i, q, rfl, hi, hL, hqb, rfl⟩
        have hil := rep_length [60, 105, 62] i
        simp only [List.length_cons, List.length_nil] at hil
        by_cases him : i < m
        · have d1 : decide ((i : Int) < (m : Int)) = true := by rw [decide_eq_true_iff]; omega
          simp only [d1, cond_true]
          obtain ⟨H5, g1, g2, g3, g4⟩ := append_bytes hL (s := [60, 105, 62]) (by decide) (by simp only [List.length_cons, List.length_nil]; omega)
          rw [rep_snoc] at g1 g3
          refine ⟨_, _, _, H5, g1, ((m : Int), (some (H4.n, 0), (rep (i + 1) [60, 105, 62]).length), ((i + 1 : Nat) : Int)), m - (i + 1), by omega, ?_, i + 1, some H4.n, rfl, by omega, g3, (fun b h => by cases h; omega), rfl⟩
          rw [wrap_i64 (by omega) (by omega)]; rfl
        have d1 : decide ((i : Int) < (m : Int)) = false := by rw [decide_eq_false_iff_not]; omega
        simp only [d1, cond_false]
        obtain rfl : i = m := by omega
        obtain ⟨H5, g1, g2, g3⟩ := append_byte hL hqb (c := 120) (by omega)
        refine ⟨by decide, _, _, _, H5, g1, ?_⟩
        refine ⟨fun y H' j => ∃ (k : Nat) (q : Option Nat), y = ((i : Int), (q.map (fun b => (b, 0)), (rep i [60, 105, 62] ++ [120] ++ rep k [60, 47, 105, 62]).length), (k : Int)) ∧ k ≤ i ∧ Lies H' q (rep i [60, 105, 62] ++ [120] ++ rep k [60, 47, 105, 62]).length (byteCellsA (rep i [60, 105, 62] ++ [120] ++ rep k [60, 47, 105, 62])) 5 ∧ (∀ b, q = some b → b < H'.n) ∧ j = i - k,
          ⟨((i : Int), (some (H4.n + 1, 0), (rep i [60, 105, 62] ++ [120]).length), 0), i, rfl, 0, some (H4.n + 1), by simp [rep], Nat.zero_le _, by simp only [rep, List.append_nil]; exact g3, (fun b h => by cases h; omega), rfl⟩, ?_⟩
        rintro _ H6 _ ⟨k, q6, rfl, hk, hL6, hqb6, rfl⟩
        have hkl := rep_length [60, 47, 105, 62] k
        simp only [List.length_cons, List.length_nil] at hkl
        have hsl : (rep i [60, 105, 62] ++ [120] ++ rep k [60, 47, 105, 62]).length ≤ 20000 := by simp only [List.length_append, List.length_cons, List.length_nil]; omega
        by_cases hkm : k < i
        · have d2 : decide ((k : Int) < (i : Int)) = true := by rw [decide_eq_true_iff]; omega
          simp only [d2, cond_true]
          obtain ⟨H7, u1, u2, u3, u4⟩ := append_bytes hL6 (s := [60, 47, 105, 62]) (by decide) (by simp only [List.length_cons, List.length_nil]; omega)
          rw [List.append_assoc (rep i [60, 105, 62] ++ [120]), rep_snoc] at u1 u3
          refine ⟨_, _, _, H7, u1, ((i : Int), (some (H6.n, 0), (rep i [60, 105, 62] ++ [120] ++ rep (k + 1) [60, 47, 105, 62]).length), ((k + 1 : Nat) : Int)), i - (k + 1), by omega, ?_, k + 1, some H6.n, rfl, by omega, u3, (fun b h => by cases h; omega), rfl⟩
          rw [wrap_i64 (by omega) (by omega)]; rfl
        have d2 : decide ((k : Int) < (i : Int)) = false := by rw [decide_eq_false_iff_not]; omega
        simp only [d2, cond_false]
        obtain rfl : k = i := by omega
        obtain ⟨H7, u1, u2, u3⟩ := append_byte hL6 hqb6 (c := 121) (by omega)
        refine ⟨by decide, _, _, _, H7, u1, ((k : Int), (some (H6.n + 1, 0), (rep k [60, 105, 62] ++ [120] ++ rep k [60, 47, 105, 62] ++ [121]).length), if 1 < (k : Int) then 1 else (k : Int)), 0, trivial, rfl, some (H6.n + 1, 0), _, rfl, ?_⟩
        have := bytes_all u3
        refine this.trans ?_
        show some _ = some (angleS k)
        congr 1
        unfold angleS
        simp only [List.append_assoc]
      · -- lines' forms
        simp only [b31, b32, b33, cond_true, cond_false]
        refine ⟨fun y H' j => ∃ (i : Nat) (q : Option Nat), y = ((m : Int), (q.map (fun b => (b, 0)), (rep i iForm).length), (i : Int)) ∧ i ≤ m ∧ Lies H' q (rep i iForm).length (byteCellsA (rep i iForm)) 5 ∧ (∀ b, q = some b → b < H'.n) ∧ j = m - i,
          ⟨((m : Int), (none, 0), 0), m, rfl, 0, none, rfl, Nat.zero_le _, ⟨rfl, rfl⟩, (fun b h => by cases h), rfl⟩, ?_⟩
        rintro _ H4 _ ⟨i, q, rfl, hi, hL, hqb, rfl⟩
        have hil := rep_length iForm i
        simp only [iForm, List.length_cons, List.length_nil] at hil
        have hil' : (rep i iForm).length = i * 5 := hil
        by_cases him : i < m
        · have d1 : decide ((i : Int) < (m : Int)) = true := by rw [decide_eq_true_iff]; omega
          simp only [d1, cond_true]
          obtain ⟨H5, g1, g2, g3, g4⟩ := append_bytes hL (s := iForm) (by decide) (by simp only [iForm, List.length_cons, List.length_nil]; omega)
          rw [rep_snoc] at g1 g3
          refine ⟨_, _, _, H5, g1, ((m : Int), (some (H4.n, 0), (rep (i + 1) iForm).length), ((i + 1 : Nat) : Int)), m - (i + 1), by omega, ?_, i + 1, some H4.n, rfl, by omega, g3, (fun b h => by cases h; omega), rfl⟩
          rw [wrap_i64 (by omega) (by omega)]; rfl
        have d1 : decide ((i : Int) < (m : Int)) = false := by rw [decide_eq_false_iff_not]; omega
        simp only [d1, cond_false]
        obtain rfl : i = m := by omega
        obtain ⟨H5, g1, g2, g3, g4⟩ := append_bytes hL (s := [120, 124, 121]) (by decide) (by simp only [List.length_cons, List.length_nil]; omega)
        refine ⟨_, _, _, H5, g1, ((i : Int), (some (H4.n, 0), (rep i iForm ++ [120, 124, 121]).length), if 1 < (i : Int) then 1 else (i : Int)), 0, trivial, rfl, some (H4.n, 0), _, rfl, ?_⟩
        exact bytes_all g3
      · -- orders
        simp only [b41, b42, b43, b44, cond_true, cond_false]
        obtain ⟨H5, g1, g2, g3, g4⟩ := append_bytes (H := startH nGlob (startTabs e1 e2)) (q := none) (so := []) ⟨rfl, rfl⟩ (s := [123]) (by decide) (by decide)
        refine ⟨_, _, _, H5, g1, ?_⟩
        refine ⟨fun y H' j => ∃ (i : Nat) (q : Option Nat), y = ((m : Int), (q.map (fun b => (b, 0)), ([123] ++ rep i [92, 98, 49, 92, 105, 49, 92, 98, 48]).length), (i : Int)) ∧ i ≤ m ∧ Lies H' q ([123] ++ rep i [92, 98, 49, 92, 105, 49, 92, 98, 48]).length (byteCellsA ([123] ++ rep i [92, 98, 49, 92, 105, 49, 92, 98, 48])) 5 ∧ (∀ b, q = some b → b < H'.n) ∧ j = m - i,
          ⟨((m : Int), (some ((startH nGlob (startTabs e1 e2)).n, 0), 1), 0), m, rfl, 0, some (startH nGlob (startTabs e1 e2)).n, rfl, Nat.zero_le _, g3, (fun b h => by cases h; omega), rfl⟩, ?_⟩
        rintro _ H4 _ ⟨i, q, rfl, hi, hL, hqb, rfl⟩
        have hil := rep_length [92, 98, 49, 92, 105, 49, 92, 98, 48] i
        simp only [List.length_cons, List.length_nil] at hil
        have hsl : ([123] ++ rep i [92, 98, 49, 92, 105, 49, 92, 98, 48]).length ≤ 20000 := by simp only [List.length_append, List.length_cons, List.length_nil]; omega
        by_cases him : i < m
        · have d1 : decide ((i : Int) < (m : Int)) = true := by rw [decide_eq_true_iff]; omega
          simp only [d1, cond_true]
          obtain ⟨H6, u1, u2, u3, u4⟩ := append_bytes hL (s := [92, 98, 49, 92, 105, 49, 92, 98, 48]) (by decide) (by simp only [List.length_cons, List.length_nil]; omega)
          rw [List.append_assoc, rep_snoc] at u1 u3
          refine ⟨_, _, _, H6, u1, ((m : Int), (some (H4.n, 0), ([123] ++ rep (i + 1) [92, 98, 49, 92, 105, 49, 92, 98, 48]).length), ((i + 1 : Nat) : Int)), m - (i + 1), by omega, ?_, i + 1, some H4.n, rfl, by omega, u3, (fun b h => by cases h; omega), rfl⟩
          rw [wrap_i64 (by omega) (by omega)]; rfl
        have d1 : decide ((i : Int) < (m : Int)) = false := by rw [decide_eq_false_iff_not]; omega
        simp only [d1, cond_false]
        obtain rfl : i = m := by omega
        obtain ⟨H6, u1, u2, u3, u4⟩ := append_bytes hL (s := [125, 120, 123, 92, 105, 48, 125, 121]) (by decide) (by simp only [List.length_cons, List.length_nil]; omega)
        refine ⟨_, _, _, H6, u1, ?_⟩
        by_cases h0 : 0 < i
        · have d2 : ((i : Int) == 0) = false := by rw [beq_eq_false_iff_ne]; omega
          simp only [d2, cond_false]
          refine ⟨((i : Int), (some (H4.n, 0), ([123] ++ rep i [92, 98, 49, 92, 105, 49, 92, 98, 48] ++ [125, 120, 123, 92, 105, 48, 125, 121]).length), if 1 < (i : Int) then 1 else (i : Int)), 0, trivial, rfl, some (H4.n, 0), _, rfl, ?_⟩
          have hb := bytes_all u3
          rw [← repO_bytes] at hb
          have hS : longS 4 i = [123] ++ ordsB (repO i) ++ [125, 120, 123, 92, 105, 48, 125, 121] := by
            show braceS i = _
            unfold braceS braceH
            have : decide (0 < i) = true := by rw [decide_eq_true_iff]; exact h0
            rw [this]
            simp [ordsB, ordB]
          rw [hS]
          rw [← repO_bytes]
          exact hb
        · obtain rfl : i = 0 := by omega
          have d2 : (((0 : Nat) : Int) == 0) = true := rfl
          simp only [d2, cond_true]
          refine ⟨by decide, _, cvs_same (b := H6.n) (cs := byteCellsA [120, 123, 92, 105, 48, 125, 121]) (by rw [AH.get_alloc, if_pos rfl]; rfl), (((0 : Nat) : Int), (some (H6.n, 0), 7), 0), 0, trivial, rfl, some (H6.n, 0), 7, rfl, ?_⟩
          unfold bytesAt
          simp only [AH.read, AH.get_set, if_true]
          rfl
    · rintro _ H5 ⟨q, k, rfl, hb⟩
      refine ⟨_, hb, (long_parse d hg m hm H5).mono ?_⟩
      rintro v H6 ⟨q6, rfl, g1, g2, g3, g4⟩
      obtain ⟨A, hA⟩ : ∃ A, A = (H6.alloc (.cells [.str [], .slice none 0 0, .str [], .int .i64 0] 28 { whole := true })).set H6.n (.cells [.str (longX d), .slice (q6.map fun b => (b, 0)) (longP d m).length (longP d m).length, .str [], .int .i64 0] 28 { whole := true }) := ⟨_, rfl⟩
      have ag : A.get H6.n = some (.cells [.str (longX d), .slice (q6.map fun b => (b, 0)) (longP d m).length (longP d m).length, .str [], .int .i64 0] 28 { whole := true }) := by rw [hA, AH.get_set, if_pos rfl]
      have ao : ∀ c, c < H6.n → A.get c = H6.get c := fun c hc => by rw [hA, AH.get_set, if_neg (by omega), AH.get_alloc, if_neg (by omega)]
      have r0 : A.read1 H6.n 0 = some (.str (longX d)) := by unfold AH.read1; rw [ag]; rfl
      have r1 : A.read1 H6.n 1 = some (.slice (q6.map fun b => (b, 0)) (longP d m).length (longP d m).length) := by unfold AH.read1; rw [ag]; rfl
      refine ⟨_, _, _, _, _, _, _, rfl, rfl, A, by rw [hA]; simp [AH.write, AH.get_alloc, splice, AV.one], _, _, _, r1, ?_⟩
      have hl : ((longP d m).length : Int) = if 1 < (m : Int) then 1 else (m : Int) := by
        unfold longP
        by_cases h0 : 0 < m
        · have : decide (0 < m) = true := by rw [decide_eq_true_iff]; exact h0
          rw [this]
          by_cases h1 : 1 < (m : Int)
          · rw [if_pos h1]; rfl
          · rw [if_neg h1]
            obtain rfl : m = 1 := by omega
            rfl
        · obtain rfl : m = 0 := by omega
          rfl
      have c1 : ((0 : Int) != 0 || ((longP d m).length : Int) != if 1 < (m : Int) then 1 else (m : Int)) = false := by rw [hl]; simp
      simp only [c1, cond_false]
      -- the span
      have sp : 0 < m → ∃ b, q6 = some b ∧ A.read b (0 + 0) 4 = some [.int .i64 0, .int .i64 (bif d == 3 then 2 else 1), .int .i64 2, .int .i64 0] ∧ (longP d m).length = 1 := by
        intro h0
        have e : longP d m = [⟨0, bif d == 3 then 2 else 1, 2, 0⟩] := by
          unfold longP
          have : decide (0 < m) = true := by rw [decide_eq_true_iff]; exact h0
          rw [this]; rfl
        rw [e] at g1
        cases q6 with
        | none => exact absurd g1.1 (by simp)
        | some b =>
          have hb' : H6.get b = _ := g1
          refine ⟨b, rfl, ?_, by rw [e]; rfl⟩
          unfold AH.read
          rw [ao b (g2 b rfl).2, hb']
          simp [flat, Spn.cells]
      cases hd3 : (d == (3 : Int)) with
      | true =>
        simp only [cond_true]
        have hX : longX d = [120, 10, 121] := by unfold longX; rw [hd3]; rfl
        rw [hX] at r0
        refine ⟨_, r0, _, _, _, r1, ?_⟩
        by_cases h0 : 0 < m
        · obtain ⟨b, rfl, hr, hl1⟩ := sp h0
          rw [hd3] at hr
          exact ⟨b, 0, fun _ => ⟨rfl, by decide, by rw [hl1]; decide⟩, 0, 2, 2, 0, fun _ => hr, by simp⟩
        · obtain rfl : m = 0 := by omega
          exact ⟨0, 0, fun h => absurd h (by decide), 0, 0, 0, 0, fun h => absurd h (by decide), by simp⟩
      | false =>
        simp only [cond_false]
        have hX : longX d = [120, 121] := by unfold longX; rw [hd3]; rfl
        rw [hX] at r0
        refine ⟨_, r0, _, _, _, r1, ?_⟩
        by_cases h0 : 0 < m
        · obtain ⟨b, rfl, hr, hl1⟩ := sp h0
          rw [hd3] at hr
          exact ⟨b, 0, fun _ => ⟨rfl, by decide, by rw [hl1]; decide⟩, 0, 1, 2, 0, fun _ => hr, by simp⟩
        · obtain rfl : m = 0 := by omega
          exact ⟨0, 0, fun h => absurd h (by decide), 0, 0, 0, 0, fun h => absurd h (by decide), by simp⟩

theorem walk {W : World} (hL : laidMet Tryd.prog laidTabs W) (s t : Int) :
    Calls Tryd.prog 7 #[.int .i64 s, .int .i64 t] W fun e W' => e = .returned (.bool true) ∧ Go.RowKit.Below W.heap.size W W' := by
  obtain ⟨e1, e2, hH⟩ := start hL
  refine (law e1 e2 s t _ _ W #[.int .i64 s, .int .i64 t] hH ⟨_, _, rfl, rfl, _, _, rfl, rfl, rfl⟩).mono ?_
  rintro e W' ⟨v, H', E', x, rfl, rfl, _, _, hx, hb⟩
  obtain rfl : x = _ := hx
  exact ⟨rfl, hb.old⟩

theorem readable : (Tryd.f7.params.toList.all fun t => Tryd.prog.readableRec t && decide (t < Tryd.prog.types.size)) = true := by kernel_rfl
theorem results : Tryd.f7.resultTypes = #[4] := by kernel_rfl
theorem uInt : Tryd.prog.underlying 3 = some (.int .i64) := by kernel_rfl
theorem uBool : Tryd.prog.underlying 4 = some .bool := by kernel_rfl

set_option maxRecDepth 100000 in
theorem contract (H : Type) (enc : TypeId × Value → H) (W : World) (base : Nat) (args : Array Value) (ds gs : List (DataW H)) (before : List MemPlace)
    (hval : ∀ (j : Nat) t v, Tryd.f7.params[j]? = some t → args[j]? = some v → Value.okWide Tryd.prog W .any base t v)
    (hW : DataW.Whole enc Tryd.prog Tryd.f7.params.toList Rows.markLongSpec.vars false W args.toList ds gs before) (hL : laidMetH Tryd.prog Rows.markLongRow.laid W) :
    Calls Tryd.prog 7 args W fun e W' => ∃ v, e = .returned v ∧ Rows.markLongSpec.post enc Tryd.prog Tryd.f7 false true false false W args v W' := by
  have hW' := hW
  obtain ⟨p, q, hA0, hV, rfl, hfz, hnd⟩ := hW'
  have hA : DataW.TrodAll enc Tryd.prog W 0 (fun _ => true) true Tryd.f7.params.toList args.toList ds p := hA0
  rw [Tryd.params7] at hA hval
  obtain ⟨v0, v1, d0, d1, p0, p1, rfl, rfl, rfl, h0, h1⟩ := trodAll_two hA
  obtain ⟨rfl, rfl⟩ := trodVars_none hV
  obtain ⟨s, rfl, rfl, rfl, ws⟩ := open_int uInt (hval 0 3 v0 rfl rfl) h0
  obtain ⟨t, rfl, rfl, rfl, wt⟩ := open_int uInt (hval 1 3 v1 rfl rfl) h1
  refine (walk hL s t).mono fun e W' ⟨he, hb⟩ => ?_
  subst he
  exact ⟨_, rfl, post_law laidOut hW rfl readable hb rfl results uBool⟩

def wArgs : Array Value := #[.int .i64 0, .int .i64 0]
theorem laid_met (os : Os) : laidMet Tryd.prog Rows.markLongRow.laid ((laidWorld os).forCall (fun _ _ => 0) ⟨#[], wArgs, []⟩).memory :=
  laidMet_of_run3 8 (by kernel_rfl) (by kernel_rfl) (by kernel_rfl)
theorem reads (os : Os) {H : Type} (enc : TypeId × Value → H) : ∃ places, DataW.whole enc Tryd.prog ((laidWorld os).forCall (fun _ _ => 0) ⟨#[], wArgs, []⟩).memory Tryd.f7.params.toList Rows.markLongSpec.vars false wArgs.toList 8 = some ([.lit (.int .i64 0), .lit (.int .i64 0)], [], places) :=
  ⟨[], by kernel_rfl⟩

set_option maxRecDepth 100000 in
theorem lifted (os : Os) (started : os.Started) (H : Type) (enc : TypeId × Value → H) (F : Stop.Interp) :
    ReturnsInHanded {} Tryd.checked os 7 .any ((OpenSpec.ofChange Rows.markLongSpec).preRow enc Tryd.prog Tryd.f7 Rows.markLongRow.domain false Rows.markLongRow.laid) (((OpenSpec.ofChange Rows.markLongSpec).at F).post enc Tryd.prog Tryd.f7 false true false false) := by
  obtain ⟨places, hx⟩ := reads os enc
  refine returnsInHanded_of_row (C := Tryd.checked) (s := OpenSpec.ofChange Rows.markLongSpec) own started (by kernel_rfl) Tryd.func7
    (witness_row_at (enc := enc) (C := Tryd.checked) false (laidWorld os) wArgs rfl (by kernel_rfl) (by kernel_rfl) (by kernel_rfl)
      (OpenSpec.preRow_of_cond 8 hx (by kernel_rfl) (fun k hk => by cases hk) (by kernel_rfl) (laid_met os))) ?_
  intro W base args ds gs before hval hW _ _ _ hL _ _
  exact contract H enc W base args ds gs before hval hW hL

theorem said : Rows.MarkLongSaid :=
  OpenClaim.holds_of_cond 7 Tryd.f7 rfl rfl rfl rfl rfl rfl rfl ⟨rfl, rfl, rfl, rfl, rfl⟩ rfl rfl rfl rfl rfl (by kernel_rfl) Tryd.func7 (by kernel_rfl)
    (of_decide_eq_true (by kernel_rfl)) (by unfold Func.isWrapper; first | (rw [if_pos (by decide +kernel)]; kernel_rfl) | (rw [if_neg (by decide +kernel)]; exact ⟨rfl, rfl⟩))
    (fun os started H enc _ F => by rw [OpenClaim.pre_eq_preRow]; exact lifted os started H enc F)

theorem noStandInt : Tryd.pinned.checked.prog.wantsStandIn 3 = false := by kernel_rfl
theorem plain (f : FuncId) (fn : Func) (hf : Tryd.pinned.checked.prog.funcNamed "surtitle/surtitlelaw8.MarkLong" = some f) (hfn : Tryd.pinned.checked.prog.funcs[f]? = some fn) :
    false = Tryd.pinned.checked.prog.looks [] ∧ ∀ (j : Nat) t, fn.params[j]? = some t → Tryd.pinned.checked.prog.wantsStandIn t = false := by
  obtain rfl : f = 7 := Option.some.inj ((show Tryd.prog.funcNamed "surtitle/surtitlelaw8.MarkLong" = some 7 by kernel_rfl).symm.trans hf) |>.symm
  obtain rfl : fn = Tryd.f7 := (Option.some.inj (Tryd.func7.symm.trans hfn)).symm
  refine ⟨by kernel_rfl, fun j t ht => ?_⟩
  rw [Tryd.params7] at ht
  match j, ht with
  | 0, ht =>
    obtain rfl : 3 = t := by simpa using ht
    exact noStandInt
  | 1, ht =>
    obtain rfl : 3 = t := by simpa using ht
    exact noStandInt
  | j + 2, ht => simp at ht

/-- The card. -/
theorem card : Rows.MarkLongCardSaid :=
  Claim7.holds_tied_plain_at .later [] _ _ _ _ said (fun _ h => by cases h) (by kernel_rfl) (fun _ h => by cases h) markLong_row_tie rfl ⟨rfl, rfl⟩ (by kernel_rfl) rfl plain (by kernel_rfl)
end Go.Proofs.YtlkdhhkncoekgaaDoor.markLong

/- What the functions of MarkSeams ask -/
import Derived.Test.YtlkdhhkncoekgaaDoorAmTri
import Derived.Test.YtlkdhhkncoekgaaDoorTabs
namespace Go.Proofs.YtlkdhhkncoekgaaDoor
open Go.Am Go

theorem Melts_vc (X : Option Nat → Atoms) (It : FuncId → List AV → List AV → (AH → Prop) → List (List AV) → Prop) (a b : List UInt8) (H : AH) (Q : AV → AH → Prop) (xs : List (Int × Int × Int × Bool)) (cap : AV → AH → Prop) (I : Nat → List Nat → AH → Prop) (S : AEx → List Nat → AH → Prop) : (vcG X It Tryd.prog [] [⟨2, AV, Int × Int × Int × Bool, 77, fun z => ([], [z]), fun x => [.agg [.int .i64 x.1, .int .i64 x.2.1, .int .i32 x.2.2.1, .bool x.2.2.2]], fun _ => xs, cap, fun _ => I, [.ret], fun _ => S⟩] 74 [.str a, .str b] H Q) =
  (true = true ∧
  ∃ (s1 : List UInt8),
    (X none).rd1 ((X none).al ((X none).al H (AObj.cells [AV.str a] (9 : Nat) { whole := true })) (AObj.cells [AV.bool false] (4 : Nat) { whole := true })) ((X none).n H) (0 : Nat) = some (AV.str s1) ∧
      (↑(s1.length + b.length) : Int) ≤ (9223372036854775807 : Int) ∧
        (X none).call (54 : Nat) [AV.str (s1 ++ b)] ((X none).al ((X none).al H (AObj.cells [AV.str a] (9 : Nat) { whole := true })) (AObj.cells [AV.bool false] (4 : Nat) { whole := true })) fun (v1 : AV) (H1 : AH) =>
          ∃ (v2 : AV),
            v1 = v2 ∧
              ∃ (v3 : AV),
                v2 = AV.func (Fn.func (nat_lit 77)) [] [v3] ∧
                  It (nat_lit 77) [] [v3] (fun (H2 : AH) => cap v3 H2)
                      (List.map (fun (x : Int × Int × Int × Bool) => [AV.agg [AV.int IntKind.i64 x.fst, AV.int IntKind.i64 x.snd.fst, AV.int IntKind.i32 x.snd.snd.fst, AV.bool x.snd.snd.snd]]) xs) ∧
                    (RClosed (fun (k1 : Nat) (cs1 : List Nat) (H3 : AH) => I k1 cs1 H3) (fun (x1 : AEx) (cs2 : List Nat) (H4 : AH) => S x1 cs2 H4) fun (H5 : AH) => cap v3 H5) ∧
                      (∀ (x2 : Int × Int × Int × Bool), [AV.agg [AV.int IntKind.i64 x2.fst, AV.int IntKind.i64 x2.snd.fst, AV.int IntKind.i32 x2.snd.snd.fst, AV.bool x2.snd.snd.snd]].length = (1 : Nat)) ∧
                        (∀ (H6 : AH), RBegin H1 H6 → I (0 : Nat) [(X none).n H1 + (1 : Nat), (X none).n H1] H6) ∧
                          (∀ (k2 : Nat) (cs3 : List Nat) (H7 : AH) (x3 : Int × Int × Int × Bool),
                              xs[k2]? = some x3 →
                                I k2 cs3 H7 →
                                  AllLt cs3 H7 →
                                    InW ((X none).n H1 + (1 : Nat)) cs3 →
                                      [AV.int IntKind.i64 x3.fst, AV.int IntKind.i64 x3.snd.fst, AV.int IntKind.i32 x3.snd.snd.fst, AV.bool x3.snd.snd.snd].length = (4 : Nat) ∧
                                        ∃ (H8 : AH),
                                          (X (some ((X none).n H1 + (1 : Nat)))).wr
                                                ((X (some ((X none).n H1 + (1 : Nat)))).al H7
                                                  (AObj.cells [AV.int IntKind.i64 (0 : Int), AV.int IntKind.i64 (0 : Int), AV.int IntKind.i32 (0 : Int), AV.bool false] (77 : Nat) { whole := true }))
                                                ((X (some ((X none).n H1 + (1 : Nat)))).n H7) (0 : Nat) [AV.int IntKind.i64 x3.fst, AV.int IntKind.i64 x3.snd.fst, AV.int IntKind.i32 x3.snd.snd.fst, AV.bool x3.snd.snd.snd] =
                                              some H8 ∧
                                            Still cs3 H7 H7 H8 ∧
                                              ∀ (H9 : AH),
                                                But ((X none).n H1 + (1 : Nat)) H8 H9 →
                                                  ∃ (n1 : Int),
                                                    (X (some ((X none).n H1 + (1 : Nat)))).rd1 H9 ((X (some ((X none).n H1 + (1 : Nat)))).n H7) (0 : Nat) = some (AV.int IntKind.i64 n1) ∧
                                                      ∃ (s2 : List UInt8),
                                                        (X (some ((X none).n H1 + (1 : Nat)))).rd1 H9 ((X none).n H) (0 : Nat) = some (AV.str s2) ∧
                                                          ∃ (n2 : Int),
                                                            (X (some ((X none).n H1 + (1 : Nat)))).rd1 H9 ((X (some ((X none).n H1 + (1 : Nat)))).n H7) (0 : Nat) = some (AV.int IntKind.i64 n2) ∧
                                                              ∃ (n3 : Int),
                                                                (X (some ((X none).n H1 + (1 : Nat)))).rd1 H9 ((X (some ((X none).n H1 + (1 : Nat)))).n H7) (1 : Nat) = some (AV.int IntKind.i64 n3) ∧
                                                                  ∃ (s3 : List UInt8),
                                                                    (X (some ((X none).n H1 + (1 : Nat)))).rd1 H9 ((X none).n H) (0 : Nat) = some (AV.str s3) ∧
                                                                      bif decide (n1 < (↑s2.length : Int)) && decide ((X (some ((X none).n H1 + (1 : Nat)))).wrap IntKind.i64 (n2 + n3) > (↑s3.length : Int)) then
                                                                        (1 : Nat) = (1 : Nat) ∧
                                                                          ∃ (H10 : AH),
                                                                            (X (some ((X none).n H1 + (1 : Nat)))).wr H9 ((X none).n ((X none).al H (AObj.cells [AV.str a] (9 : Nat) { whole := true }))) (0 : Nat) [AV.bool true] = some H10 ∧
                                                                              Still cs3 H7 H9 H10 ∧ ∀ (H11 : AH), But ((X none).n H1 + (1 : Nat)) H10 H11 → S AEx.ret cs3 H11
                                                                      else Still cs3 H7 H9 H9 ∧ ∀ (H12 : AH), But ((X none).n H1 + (1 : Nat)) H9 H12 → I (k2 + (1 : Nat)) cs3 H12) ∧
                            (∀ (cs4 : List Nat) (H13 H14 : AH),
                                I xs.length cs4 H13 →
                                  But ((X none).n H1 + (1 : Nat)) H13 H14 →
                                    Dfr ((X none).n H1) H14 →
                                      (1 : Nat) = (1 : Nat) ∧
                                        ∃ (H15 : AH),
                                          (X none).wr H14 ((X none).n ((X none).al H (AObj.cells [AV.str a] (9 : Nat) { whole := true }))) (0 : Nat) [AV.bool false] = some H15 ∧
                                            ∃ (H16 : AH),
                                              (X none).tm [(X none).n H1] H15 = some H16 ∧
                                                ∃ (b1 : Bool), (X none).rd1 H16 ((X none).n ((X none).al H (AObj.cells [AV.str a] (9 : Nat) { whole := true }))) (0 : Nat) = some (AV.bool b1) ∧ Q (AV.bool b1) H16) ∧
                              ∀ (cs5 : List Nat) (H17 H18 : AH),
                                S AEx.ret cs5 H17 →
                                  But ((X none).n H1 + (1 : Nat)) H17 H18 →
                                    Dfr ((X none).n H1) H18 →
                                      ∃ (H19 : AH),
                                        (X none).tm [(X none).n H1] H18 = some H19 ∧
                                          ∃ (b2 : Bool), (X none).rd1 H19 ((X none).n ((X none).al H (AObj.cells [AV.str a] (9 : Nat) { whole := true }))) (0 : Nat) = some (AV.bool b2) ∧ Q (AV.bool b2) H19) := by kernel_rfl

theorem passes_vc (X : Atoms) (p : Nat) (n : Int) (H : AH) (Q : AV → AH → Prop) : (vcF X Tryd.prog [] 45 [.ptr (some (p, 0)), .int .i64 n] H Q) =
  (∃ (q1 : Option (Nat × Nat)),
  ∃ (k1 : Nat),
    ∃ (k2 : Nat),
      X.rd1 H p (3 : Nat) = some (AV.slice q1 k1 k2) ∧
        ∃ (q2 : Option (Nat × Nat)),
          ∃ (k3 : Nat),
            ∃ (k4 : Nat),
              X.rd1 H p (3 : Nat) = some (AV.slice q2 k3 k4) ∧
                ∃ (q3 : Option (Nat × Nat)),
                  ∃ (k5 : Nat),
                    ∃ (k6 : Nat),
                      X.slc (39 : Nat) (AV.slice q1 k1 k2) (some (AV.int IntKind.i64 (if X.wrap IntKind.i64 ((↑k3 : Int) - (4 : Int)) > (0 : Int) then X.wrap IntKind.i64 ((↑k3 : Int) - (4 : Int)) else (0 : Int)))) none none H =
                          some (AV.slice q3 k5 k6) ∧
                        ∃ (s1 : List UInt8),
                          X.rd1 H p (1 : Nat) = some (AV.str s1) ∧
                            ∃ (n1 : Int),
                              X.rd1 H p (2 : Nat) = some (AV.int IntKind.i64 n1) ∧
                                ∃ (s2 : List UInt8),
                                  X.rd1 H p (1 : Nat) = some (AV.str s2) ∧
                                    ∃ (n2 : Int),
                                      X.rd1 H p (2 : Nat) = some (AV.int IntKind.i64 n2) ∧
                                        ((0 : Int) ≤ X.wrap IntKind.i64 (n1 + n) ∧
                                            (X.wrap IntKind.i64 (n1 + n) ≤
                                                if X.wrap IntKind.i64 (X.wrap IntKind.i64 (n2 + n) + (4 : Int)) < (↑s2.length : Int) then X.wrap IntKind.i64 (X.wrap IntKind.i64 (n2 + n) + (4 : Int)) else (↑s2.length : Int)) ∧
                                              (if X.wrap IntKind.i64 (X.wrap IntKind.i64 (n2 + n) + (4 : Int)) < (↑s2.length : Int) then X.wrap IntKind.i64 (X.wrap IntKind.i64 (n2 + n) + (4 : Int)) else (↑s2.length : Int)) ≤
                                                (↑s1.length : Int)) ∧
                                          ∃ (s3 : List UInt8),
                                            X.str (AV.slice q3 k5 k6) H = some s3 ∧
                                              (((0 : Int) ≤ X.wrap IntKind.i64 (n1 + n) ∧
                                                    (X.wrap IntKind.i64 (n1 + n) ≤
                                                        if X.wrap IntKind.i64 (X.wrap IntKind.i64 (n2 + n) + (4 : Int)) < (↑s2.length : Int) then X.wrap IntKind.i64 (X.wrap IntKind.i64 (n2 + n) + (4 : Int)) else (↑s2.length : Int)) ∧
                                                      (if X.wrap IntKind.i64 (X.wrap IntKind.i64 (n2 + n) + (4 : Int)) < (↑s2.length : Int) then X.wrap IntKind.i64 (X.wrap IntKind.i64 (n2 + n) + (4 : Int)) else (↑s2.length : Int)) ≤
                                                        (↑s1.length : Int)) ∧
                                                  AV.str
                                                      (List.take
                                                        ((if X.wrap IntKind.i64 (X.wrap IntKind.i64 (n2 + n) + (4 : Int)) < (↑s2.length : Int) then X.wrap IntKind.i64 (X.wrap IntKind.i64 (n2 + n) + (4 : Int)) else (↑s2.length : Int)) -
                                                            X.wrap IntKind.i64 (n1 + n)).toNat
                                                        (List.drop (X.wrap IntKind.i64 (n1 + n)).toNat s1)) =
                                                    AV.str
                                                      (List.take
                                                        ((if X.wrap IntKind.i64 (X.wrap IntKind.i64 (n2 + n) + (4 : Int)) < (↑s2.length : Int) then X.wrap IntKind.i64 (X.wrap IntKind.i64 (n2 + n) + (4 : Int)) else (↑s2.length : Int)) -
                                                            X.wrap IntKind.i64 (n1 + n)).toNat
                                                        (List.drop (X.wrap IntKind.i64 (n1 + n)).toNat s1))) ∧
                                                AV.int IntKind.i64
                                                      (if X.wrap IntKind.i64 (X.wrap IntKind.i64 (n2 + n) + (4 : Int)) < (↑s2.length : Int) then X.wrap IntKind.i64 (X.wrap IntKind.i64 (n2 + n) + (4 : Int)) else (↑s2.length : Int)) =
                                                    AV.int IntKind.i64
                                                      (if X.wrap IntKind.i64 (X.wrap IntKind.i64 (n2 + n) + (4 : Int)) < (↑s2.length : Int) then X.wrap IntKind.i64 (X.wrap IntKind.i64 (n2 + n) + (4 : Int)) else (↑s2.length : Int)) ∧
                                                  (∃ (n3 : Int), X.rd1 H p (2 : Nat) = some (AV.int IntKind.i64 n3) ∧ AV.int IntKind.i64 n3 = AV.int IntKind.i64 n2) ∧
                                                    AV.int IntKind.i64 (↑s2.length : Int) = AV.int IntKind.i64 (↑s2.length : Int) ∧
                                                      (∃ (s4 : List UInt8), X.rd1 H p (1 : Nat) = some (AV.str s4) ∧ AV.str s4 = AV.str s2) ∧
                                                        (∃ (n4 : Int), X.rd1 H p (2 : Nat) = some (AV.int IntKind.i64 n4) ∧ AV.int IntKind.i64 n4 = AV.int IntKind.i64 n1) ∧
                                                          (∃ (s5 : List UInt8), X.rd1 H p (1 : Nat) = some (AV.str s5) ∧ AV.str s5 = AV.str s1) ∧
                                                            X.call (74 : Nat)
                                                              [AV.str s3,
                                                                AV.str
                                                                  (List.take
                                                                    ((if X.wrap IntKind.i64 (X.wrap IntKind.i64 (n2 + n) + (4 : Int)) < (↑s2.length : Int) then X.wrap IntKind.i64 (X.wrap IntKind.i64 (n2 + n) + (4 : Int))
                                                                        else (↑s2.length : Int)) -
                                                                        X.wrap IntKind.i64 (n1 + n)).toNat
                                                                    (List.drop (X.wrap IntKind.i64 (n1 + n)).toNat s1))]
                                                              H fun (v1 : AV) (H1 : AH) => ∃ (b1 : Bool), v1 = AV.bool b1 ∧ Q (AV.bool !b1) H1) := by kernel_rfl

theorem angle_vc (X : Option Nat → Atoms) (It : FuncId → List AV → List AV → (AH → Prop) → List (List AV) → Prop) (p : Nat) (t : List UInt8) (H : AH) (Q : AV → AH → Prop) : (vcG X It Tryd.prog [⟨200005, Bool × List UInt8, [0, 1, 5, 6], fun x => [.ptr (some (p, 0)), .str t, .bool x.1, .str x.2], fun _ _ _ => True⟩, ⟨200006, (Bool × List UInt8) × Bool, [0, 1, 5, 6, 42], fun x => [.ptr (some (p, 0)), .str t, .bool x.1.1, .str x.1.2, .bool x.2], fun _ _ _ => True⟩, ⟨200009, Bool × Bool, [0, 1, 5, 74], fun x => [.ptr (some (p, 0)), .str t, .bool x.1, .bool x.2], fun _ _ _ => True⟩, ⟨200011, Int × Bool, [0, 7, 88], fun x => [.ptr (some (p, 0)), .int .i64 x.1, .bool x.2], fun _ _ _ => True⟩, ⟨200017, List UInt8 × List UInt8 × List UInt8, [0, 1, 8, 9, 10], fun x => [.ptr (some (p, 0)), .str t, .str x.1, .str x.2.1, .str x.2.2], fun _ _ _ => True⟩, ⟨200022, Int × Int × Bool, [0, 13, 15, 129], fun x => [.ptr (some (p, 0)), .int .i64 x.1, .int .i64 x.2.1, .bool x.2.2], fun _ _ _ => True⟩, ⟨200026, List UInt8 × Bool, [0, 10, 157], fun x => [.ptr (some (p, 0)), .str x.1, .bool x.2], fun _ _ _ => True⟩] [] 23 [.ptr (some (p, 0)), .str t] H Q) =
  (∃ (n1 : Int),
  (X none).rd1 H p (0 : Nat) = some (AV.int IntKind.i64 n1) ∧
    ((0 : Int) ≤ (1 : Int) ∧ (1 : Int) ≤ (5 : Int) ∧ (5 : Int) ≤ (5 : Int)) ∧
      ∃ (x1 : Bool × List UInt8 → AH → Prop),
        (bif n1 == (2 : Int) then
            ((0 : Int) ≤ (1 : Int) ∧ (1 : Int) ≤ (4 : Int) ∧ (4 : Int) ≤ (5 : Int)) ∧
              ∃ (x2 : Bool × List UInt8),
                ∃ (_k1 : Nat),
                  True ∧ [AV.ptr (some (p, (0 : Nat))), AV.str t, AV.bool (n1 == (2 : Int)), AV.str [(98 : UInt8), (105 : UInt8), (117 : UInt8)]] = [AV.ptr (some (p, (0 : Nat))), AV.str t, AV.bool x2.fst, AV.str x2.snd] ∧ x1 x2 H
          else
            ∃ (x3 : Bool × List UInt8),
              ∃ (_k2 : Nat),
                True ∧
                  [AV.ptr (some (p, (0 : Nat))), AV.str t, AV.bool (n1 == (2 : Int)), AV.str [(98 : UInt8), (105 : UInt8), (117 : UInt8), (115 : UInt8)]] = [AV.ptr (some (p, (0 : Nat))), AV.str t, AV.bool x3.fst, AV.str x3.snd] ∧ x1 x3 H) ∧
          ∀ (x4 : Bool × List UInt8) (H1 : AH),
            x1 x4 H1 →
              ∃ (x5 : (Bool × List UInt8) × Bool → AH → Prop),
                (((decide ((↑t.length : Int) ≥ (3 : Int)) == true) = true → (0 : Int) ≤ (2 : Int) ∧ (2 : Int) < (↑t.length : Int)) ∧
                    (((decide ((↑t.length : Int) ≥ (3 : Int)) && (↑(t[(2 : Nat)]?.getD (0 : UInt8)).toNat : Int) == (62 : Int)) == true) = true → (0 : Int) ≤ (1 : Int) ∧ (1 : Int) < (↑t.length : Int)) ∧
                      bif (decide ((↑t.length : Int) ≥ (3 : Int)) && (↑(t[(2 : Nat)]?.getD (0 : UInt8)).toNat : Int) == (62 : Int)) == true then
                        (X none).call (44 : Nat) [AV.str x4.snd, AV.int IntKind.u8 (↑(t[(1 : Nat)]?.getD (0 : UInt8)).toNat : Int)] H1 fun (v1 : AV) (H2 : AH) =>
                          ∃ (n2 : Int),
                            v1 = AV.int IntKind.i64 n2 ∧
                              bif decide (n2 ≥ (0 : Int)) == true then
                                (X none).call (45 : Nat) [AV.ptr (some (p, (0 : Nat))), AV.int IntKind.i64 (3 : Int)] H2 fun (v2 : AV) (H3 : AH) =>
                                  ∃ (b1 : Bool),
                                    v2 = AV.bool b1 ∧
                                      ∃ (x6 : (Bool × List UInt8) × Bool),
                                        ∃ (_k3 : Nat),
                                          True ∧
                                            [AV.ptr (some (p, (0 : Nat))), AV.str t, AV.bool x4.fst, AV.str x4.snd, AV.bool b1] = [AV.ptr (some (p, (0 : Nat))), AV.str t, AV.bool x6.fst.fst, AV.str x6.fst.snd, AV.bool x6.snd] ∧ x5 x6 H3
                              else
                                ∃ (x7 : (Bool × List UInt8) × Bool),
                                  ∃ (_k4 : Nat),
                                    True ∧ [AV.ptr (some (p, (0 : Nat))), AV.str t, AV.bool x4.fst, AV.str x4.snd, AV.bool false] = [AV.ptr (some (p, (0 : Nat))), AV.str t, AV.bool x7.fst.fst, AV.str x7.fst.snd, AV.bool x7.snd] ∧ x5 x7 H2
                      else
                        ∃ (x8 : (Bool × List UInt8) × Bool),
                          ∃ (_k5 : Nat),
                            True ∧ [AV.ptr (some (p, (0 : Nat))), AV.str t, AV.bool x4.fst, AV.str x4.snd, AV.bool false] = [AV.ptr (some (p, (0 : Nat))), AV.str t, AV.bool x8.fst.fst, AV.str x8.fst.snd, AV.bool x8.snd] ∧ x5 x8 H1) ∧
                  ∀ (x9 : (Bool × List UInt8) × Bool) (H4 : AH),
                    x5 x9 H4 →
                      bif x9.snd then
                        ((0 : Int) ≤ (1 : Int) ∧ (1 : Int) < (↑t.length : Int)) ∧
                          (X none).call (44 : Nat) [AV.str [(32 : UInt8), (98 : UInt8), (105 : UInt8), (117 : UInt8), (115 : UInt8)], AV.int IntKind.u8 (↑(t[(1 : Nat)]?.getD (0 : UInt8)).toNat : Int)] H4 fun (v3 : AV) (H5 : AH) =>
                            ∃ (n3 : Int),
                              v3 = AV.int IntKind.i64 n3 ∧
                                ((0 : Int) ≤ n3 ∧ n3 < (5 : Int)) ∧
                                  ∃ (n4 : Int),
                                    (X none).rd1 H5 p ((5 : Nat) + n3.toNat * (1 : Nat)) = some (AV.int IntKind.i64 n4) ∧
                                      ((0 : Int) ≤ n3 ∧ n3 < (5 : Int)) ∧
                                        [AV.int IntKind.i64 ((X none).wrap IntKind.i64 (n4 + (1 : Int)))].length = (1 : Nat) ∧
                                          ∃ (H6 : AH), (X none).wr H5 p ((5 : Nat) + n3.toNat * (1 : Nat)) [AV.int IntKind.i64 ((X none).wrap IntKind.i64 (n4 + (1 : Int)))] = some H6 ∧ Q (AV.int IntKind.i64 (3 : Int)) H6
                      else
                        ∃ (x10 : Bool × Bool → AH → Prop),
                          (((decide ((↑t.length : Int) ≥ (4 : Int)) == true) = true → (0 : Int) ≤ (1 : Int) ∧ (1 : Int) < (↑t.length : Int)) ∧
                              (((decide ((↑t.length : Int) ≥ (4 : Int)) && (↑(t[(1 : Nat)]?.getD (0 : UInt8)).toNat : Int) == (47 : Int)) == true) = true → (0 : Int) ≤ (3 : Int) ∧ (3 : Int) < (↑t.length : Int)) ∧
                                (((decide ((↑t.length : Int) ≥ (4 : Int)) && (↑(t[(1 : Nat)]?.getD (0 : UInt8)).toNat : Int) == (47 : Int) && (↑(t[(3 : Nat)]?.getD (0 : UInt8)).toNat : Int) == (62 : Int)) == true) = true →
                                    (0 : Int) ≤ (2 : Int) ∧ (2 : Int) < (↑t.length : Int)) ∧
                                  bif (decide ((↑t.length : Int) ≥ (4 : Int)) && (↑(t[(1 : Nat)]?.getD (0 : UInt8)).toNat : Int) == (47 : Int) && (↑(t[(3 : Nat)]?.getD (0 : UInt8)).toNat : Int) == (62 : Int)) == true then
                                    (X none).call (44 : Nat) [AV.str x9.fst.snd, AV.int IntKind.u8 (↑(t[(2 : Nat)]?.getD (0 : UInt8)).toNat : Int)] H4 fun (v4 : AV) (H7 : AH) =>
                                      ∃ (n5 : Int),
                                        v4 = AV.int IntKind.i64 n5 ∧
                                          ∃ (x11 : Bool × Bool),
                                            ∃ (_k6 : Nat),
                                              True ∧ [AV.ptr (some (p, (0 : Nat))), AV.str t, AV.bool x9.fst.fst, AV.bool (decide (n5 ≥ (0 : Int)))] = [AV.ptr (some (p, (0 : Nat))), AV.str t, AV.bool x11.fst, AV.bool x11.snd] ∧ x10 x11 H7
                                  else
                                    ∃ (x12 : Bool × Bool),
                                      ∃ (_k7 : Nat), True ∧ [AV.ptr (some (p, (0 : Nat))), AV.str t, AV.bool x9.fst.fst, AV.bool false] = [AV.ptr (some (p, (0 : Nat))), AV.str t, AV.bool x12.fst, AV.bool x12.snd] ∧ x10 x12 H4) ∧
                            ∀ (x13 : Bool × Bool) (H8 : AH),
                              x10 x13 H8 →
                                bif x13.snd then
                                  ((0 : Int) ≤ (2 : Int) ∧ (2 : Int) < (↑t.length : Int)) ∧
                                    (X none).call (44 : Nat) [AV.str [(32 : UInt8), (98 : UInt8), (105 : UInt8), (117 : UInt8), (115 : UInt8)], AV.int IntKind.u8 (↑(t[(2 : Nat)]?.getD (0 : UInt8)).toNat : Int)] H8 fun (v5 : AV) (H9 : AH) =>
                                      ∃ (n6 : Int),
                                        v5 = AV.int IntKind.i64 n6 ∧
                                          ∃ (x14 : Int × Bool → AH → Prop),
                                            (((0 : Int) ≤ n6 ∧ n6 < (5 : Int)) ∧
                                                ∃ (n7 : Int),
                                                  (X none).rd1 H9 p ((5 : Nat) + n6.toNat * (1 : Nat)) = some (AV.int IntKind.i64 n7) ∧
                                                    bif decide (n7 > (0 : Int)) == true then
                                                      (X none).call (45 : Nat) [AV.ptr (some (p, (0 : Nat))), AV.int IntKind.i64 (4 : Int)] H9 fun (v6 : AV) (H10 : AH) =>
                                                        ∃ (b2 : Bool),
                                                          v6 = AV.bool b2 ∧
                                                            ∃ (x15 : Int × Bool),
                                                              ∃ (_k8 : Nat), True ∧ [AV.ptr (some (p, (0 : Nat))), AV.int IntKind.i64 n6, AV.bool b2] = [AV.ptr (some (p, (0 : Nat))), AV.int IntKind.i64 x15.fst, AV.bool x15.snd] ∧ x14 x15 H10
                                                    else
                                                      ∃ (x16 : Int × Bool),
                                                        ∃ (_k9 : Nat), True ∧ [AV.ptr (some (p, (0 : Nat))), AV.int IntKind.i64 n6, AV.bool false] = [AV.ptr (some (p, (0 : Nat))), AV.int IntKind.i64 x16.fst, AV.bool x16.snd] ∧ x14 x16 H9) ∧
                                              ∀ (x17 : Int × Bool) (H11 : AH),
                                                x14 x17 H11 →
                                                  bif x17.snd then
                                                    ((0 : Int) ≤ x17.fst ∧ x17.fst < (5 : Int)) ∧
                                                      ∃ (n8 : Int),
                                                        (X none).rd1 H11 p ((5 : Nat) + x17.fst.toNat * (1 : Nat)) = some (AV.int IntKind.i64 n8) ∧
                                                          ((0 : Int) ≤ x17.fst ∧ x17.fst < (5 : Int)) ∧
                                                            [AV.int IntKind.i64 ((X none).wrap IntKind.i64 (n8 - (1 : Int)))].length = (1 : Nat) ∧
                                                              ∃ (H12 : AH),
                                                                (X none).wr H11 p ((5 : Nat) + x17.fst.toNat * (1 : Nat)) [AV.int IntKind.i64 ((X none).wrap IntKind.i64 (n8 - (1 : Int)))] = some H12 ∧ Q (AV.int IntKind.i64 (4 : Int)) H12
                                                  else Q (AV.int IntKind.i64 (0 : Int)) H11
                                else
                                  ∃ (x18 : List UInt8 × List UInt8 × List UInt8 → AH → Prop),
                                    (bif x13.fst then
                                        ∃ (x19 : List UInt8 × List UInt8 × List UInt8),
                                          ∃ (_k10 : Nat),
                                            True ∧
                                              [AV.ptr (some (p, (0 : Nat))), AV.str t, AV.str [(60 : UInt8), (99 : UInt8), (46 : UInt8)], AV.str [(62 : UInt8)], AV.str [(60 : UInt8), (47 : UInt8), (99 : UInt8), (62 : UInt8)]] =
                                                  [AV.ptr (some (p, (0 : Nat))), AV.str t, AV.str x19.fst, AV.str x19.snd.fst, AV.str x19.snd.snd] ∧
                                                x18 x19 H8
                                      else
                                        ∃ (x20 : List UInt8 × List UInt8 × List UInt8),
                                          ∃ (_k11 : Nat),
                                            True ∧
                                              [AV.ptr (some (p, (0 : Nat))), AV.str t,
                                                    AV.str
                                                      [(60 : UInt8), (102 : UInt8), (111 : UInt8), (110 : UInt8), (116 : UInt8), (32 : UInt8), (99 : UInt8), (111 : UInt8), (108 : UInt8), (111 : UInt8), (114 : UInt8), (61 : UInt8),
                                                        (34 : UInt8), (35 : UInt8)],
                                                    AV.str [(34 : UInt8), (62 : UInt8)], AV.str [(60 : UInt8), (47 : UInt8), (102 : UInt8), (111 : UInt8), (110 : UInt8), (116 : UInt8), (62 : UInt8)]] =
                                                  [AV.ptr (some (p, (0 : Nat))), AV.str t, AV.str x20.fst, AV.str x20.snd.fst, AV.str x20.snd.snd] ∧
                                                x18 x20 H8) ∧
                                      ∀ (x21 : List UInt8 × List UInt8 × List UInt8) (H13 : AH),
                                        x18 x21 H13 →
                                          (X none).call (43 : Nat) [AV.str t, AV.str x21.fst] H13 fun (v7 : AV) (H14 : AH) =>
                                            ∃ (s1 : List UInt8),
                                              ∃ (b3 : Bool),
                                                v7 = AV.tuple [AV.str s1, AV.bool b3] ∧
                                                  bif b3 then
                                                    (X none).call (50 : Nat) [AV.str s1, AV.bool false] H14 fun (v8 : AV) (H15 : AH) =>
                                                      ∃ (n9 : Int),
                                                        ∃ (b4 : Bool),
                                                          v8 = AV.tuple [AV.int IntKind.i64 n9, AV.bool b4] ∧
                                                            ∃ (x22 : Int × Int × Bool → AH → Prop),
                                                              (((b4 == true) = true → (0 : Int) ≤ (6 : Int) ∧ (6 : Int) ≤ (↑s1.length : Int) ∧ (↑s1.length : Int) ≤ (↑s1.length : Int)) ∧
                                                                  bif b4 == true then
                                                                    (X none).call (27 : Nat) [AV.str (List.take ((↑s1.length : Int) - (6 : Int)).toNat (List.drop (6 : Nat) s1)), AV.str x21.snd.fst] H15 fun (v9 : AV) (H16 : AH) =>
                                                                      ∃ (b5 : Bool),
                                                                        v9 = AV.bool b5 ∧
                                                                          bif b5 == true then
                                                                            (X none).call (45 : Nat)
                                                                              [AV.ptr (some (p, (0 : Nat))),
                                                                                AV.int IntKind.i64 ((X none).wrap IntKind.i64 ((X none).wrap IntKind.i64 ((↑x21.fst.length : Int) + (6 : Int)) + (↑x21.snd.fst.length : Int)))]
                                                                              H16 fun (v10 : AV) (H17 : AH) =>
                                                                              ∃ (b6 : Bool),
                                                                                v10 = AV.bool b6 ∧
                                                                                  ∃ (x23 : Int × Int × Bool),
                                                                                    ∃ (_k12 : Nat),
                                                                                      True ∧
                                                                                        [AV.ptr (some (p, (0 : Nat))), AV.int IntKind.i64 n9,
                                                                                              AV.int IntKind.i64 ((X none).wrap IntKind.i64 ((X none).wrap IntKind.i64 ((↑x21.fst.length : Int) + (6 : Int)) + (↑x21.snd.fst.length : Int))),
                                                                                              AV.bool b6] =
                                                                                            [AV.ptr (some (p, (0 : Nat))), AV.int IntKind.i64 x23.fst, AV.int IntKind.i64 x23.snd.fst, AV.bool x23.snd.snd] ∧
                                                                                          x22 x23 H17
                                                                          else
                                                                            ∃ (x24 : Int × Int × Bool),
                                                                              ∃ (_k13 : Nat),
                                                                                True ∧
                                                                                  [AV.ptr (some (p, (0 : Nat))), AV.int IntKind.i64 n9,
                                                                                        AV.int IntKind.i64 ((X none).wrap IntKind.i64 ((X none).wrap IntKind.i64 ((↑x21.fst.length : Int) + (6 : Int)) + (↑x21.snd.fst.length : Int))),
                                                                                        AV.bool false] =
                                                                                      [AV.ptr (some (p, (0 : Nat))), AV.int IntKind.i64 x24.fst, AV.int IntKind.i64 x24.snd.fst, AV.bool x24.snd.snd] ∧
                                                                                    x22 x24 H16
                                                                  else
                                                                    ∃ (x25 : Int × Int × Bool),
                                                                      ∃ (_k14 : Nat),
                                                                        True ∧
                                                                          [AV.ptr (some (p, (0 : Nat))), AV.int IntKind.i64 n9,
                                                                                AV.int IntKind.i64 ((X none).wrap IntKind.i64 ((X none).wrap IntKind.i64 ((↑x21.fst.length : Int) + (6 : Int)) + (↑x21.snd.fst.length : Int))), AV.bool false] =
                                                                              [AV.ptr (some (p, (0 : Nat))), AV.int IntKind.i64 x25.fst, AV.int IntKind.i64 x25.snd.fst, AV.bool x25.snd.snd] ∧
                                                                            x22 x25 H15) ∧
                                                                ∀ (x26 : Int × Int × Bool) (H18 : AH),
                                                                  x22 x26 H18 →
                                                                    bif x26.snd.snd then
                                                                      ∃ (q1 : Option (Nat × Nat)),
                                                                        ∃ (k15 : Nat),
                                                                          ∃ (k16 : Nat),
                                                                            (X none).rd1 H18 p (10 : Nat) = some (AV.slice q1 k15 k16) ∧
                                                                              ((1 : Nat) ≤ (16777216 : Nat) ∧ (1 : Nat) = (1 : Nat) ∧ (0 : Nat) < (1 : Nat) ∧ true = true ∧ true = true) ∧
                                                                                ∃ (q2 : Option (Nat × Nat)),
                                                                                  ∃ (k17 : Nat),
                                                                                    ∃ (k18 : Nat),
                                                                                      ∃ (H19 : AH),
                                                                                        (X none).app (58 : Nat) (58 : Nat) (AV.slice q1 k15 k16) (AV.slice (some ((X none).n H18, (0 : Nat))) (1 : Nat) (1 : Nat))
                                                                                              ((X none).al H18 (AObj.cells [AV.int IntKind.i64 x26.fst] (3 : Nat) { whole := true })) =
                                                                                            some (AV.slice q2 k17 k18, H19) ∧
                                                                                          [AV.slice q2 k17 k18].length = (1 : Nat) ∧
                                                                                            ∃ (H20 : AH), (X none).wr H19 p (10 : Nat) [AV.slice q2 k17 k18] = some H20 ∧ Q (AV.int IntKind.i64 x26.snd.fst) H20
                                                                    else Q (AV.int IntKind.i64 (0 : Int)) H18
                                                  else
                                                    ∃ (x27 : List UInt8 × Bool → AH → Prop),
                                                      ((X none).call (27 : Nat) [AV.str t, AV.str x21.snd.snd] H14 fun (v11 : AV) (H21 : AH) =>
                                                          ∃ (b7 : Bool),
                                                            v11 = AV.bool b7 ∧
                                                              ∃ (q3 : Option (Nat × Nat)),
                                                                ∃ (k19 : Nat),
                                                                  ∃ (k20 : Nat),
                                                                    (X none).rd1 H21 p (10 : Nat) = some (AV.slice q3 k19 k20) ∧
                                                                      bif (b7 && decide ((↑k19 : Int) > (0 : Int))) == true then
                                                                        (X none).call (45 : Nat) [AV.ptr (some (p, (0 : Nat))), AV.int IntKind.i64 (↑x21.snd.snd.length : Int)] H21 fun (v12 : AV) (H22 : AH) =>
                                                                          ∃ (b8 : Bool),
                                                                            v12 = AV.bool b8 ∧
                                                                              ∃ (x28 : List UInt8 × Bool),
                                                                                ∃ (_k21 : Nat),
                                                                                  True ∧ [AV.ptr (some (p, (0 : Nat))), AV.str x21.snd.snd, AV.bool b8] = [AV.ptr (some (p, (0 : Nat))), AV.str x28.fst, AV.bool x28.snd] ∧ x27 x28 H22
                                                                      else
                                                                        ∃ (x29 : List UInt8 × Bool),
                                                                          ∃ (_k22 : Nat),
                                                                            True ∧ [AV.ptr (some (p, (0 : Nat))), AV.str x21.snd.snd, AV.bool false] = [AV.ptr (some (p, (0 : Nat))), AV.str x29.fst, AV.bool x29.snd] ∧ x27 x29 H21) ∧
                                                        ∀ (x30 : List UInt8 × Bool) (H23 : AH),
                                                          x27 x30 H23 →
                                                            bif x30.snd then
                                                              ∃ (q4 : Option (Nat × Nat)),
                                                                ∃ (k23 : Nat),
                                                                  ∃ (k24 : Nat),
                                                                    (X none).rd1 H23 p (10 : Nat) = some (AV.slice q4 k23 k24) ∧
                                                                      ∃ (q5 : Option (Nat × Nat)),
                                                                        ∃ (k25 : Nat),
                                                                          ∃ (k26 : Nat),
                                                                            (X none).rd1 H23 p (10 : Nat) = some (AV.slice q5 k25 k26) ∧
                                                                              ∃ (q6 : Option (Nat × Nat)),
                                                                                ∃ (k27 : Nat),
                                                                                  ∃ (k28 : Nat),
                                                                                    (X none).slc (58 : Nat) (AV.slice q4 k23 k24) none (some (AV.int IntKind.i64 ((X none).wrap IntKind.i64 ((↑k25 : Int) - (1 : Int))))) none H23 =
                                                                                        some (AV.slice q6 k27 k28) ∧
                                                                                      [AV.slice q6 k27 k28].length = (1 : Nat) ∧
                                                                                        ∃ (H24 : AH), (X none).wr H23 p (10 : Nat) [AV.slice q6 k27 k28] = some H24 ∧ Q (AV.int IntKind.i64 (↑x30.fst.length : Int)) H24
                                                            else Q (AV.int IntKind.i64 (0 : Int)) H23) := by kernel_rfl

theorem parted_vc (X : Option Nat → Atoms) (It : FuncId → List AV → List AV → (AH → Prop) → List (List AV) → Prop) (a b : List UInt8) (H : AH) (Q : AV → AH → Prop) : (vcG X It Tryd.prog [⟨4, Nat, [0, 1, 11], fun x => [.str a, .str b, .ptr (some (x, 0))], fun _ _ _ => True⟩] [] 16 [.str a, .str b] H Q) =
  (bif b == [] then Q (AV.bool true) H
else
  (↑(a.length + b.length) : Int) ≤ (9223372036854775807 : Int) ∧
    ∃ (x1 : Nat → AH → Nat → Prop),
      (∃ (k1 : Nat), ∃ (k2 : Nat), [AV.str a, AV.str b, AV.ptr (some ((X none).n H, (0 : Nat)))] = [AV.str a, AV.str b, AV.ptr (some (k1, (0 : Nat)))] ∧ x1 k1 ((X none).al H (AObj.iter (a ++ b) (0 : Nat))) k2) ∧
        ∀ (k3 : Nat) (H1 : AH) (k4 : Nat),
          x1 k3 H1 k4 →
            ∃ (s1 : List UInt8),
              ∃ (k5 : Nat),
                (X none).get H1 k3 = some (AObj.iter s1 k5) ∧
                  (k5 < s1.length →
                      bif (↑k5 : Int) == (↑a.length : Int) then Q (AV.bool true) ((X none).set H1 k3 (AObj.iter s1 (k5 + (decodeL s1 k5).snd)))
                      else
                        ∃ (k6 : Nat),
                          ∃ (k7 : Nat), k7 < k4 ∧ [AV.str a, AV.str b, AV.ptr (some (k3, (0 : Nat)))] = [AV.str a, AV.str b, AV.ptr (some (k6, (0 : Nat)))] ∧ x1 k6 ((X none).set H1 k3 (AObj.iter s1 (k5 + (decodeL s1 k5).snd))) k7) ∧
                    (¬k5 < s1.length → Q (AV.bool false) H1)) := by kernel_rfl

theorem seams_vc (X : Option Nat → Atoms) (It : FuncId → List AV → List AV → (AH → Prop) → List (List AV) → Prop) (a b : List UInt8) (H : AH) (Q : AV → AH → Prop) : (vcG X It Tryd.prog [⟨6, Int, [0, 1, 5], fun x => [.str a, .str b, .int .i64 x], fun _ _ _ => True⟩, ⟨11, Int, [0, 1, 6], fun x => [.str a, .str b, .int .i64 x], fun _ _ _ => True⟩, ⟨17, Int × Nat, [0, 1, 7, 56], fun x => [.str a, .str b, .int .i64 x.1, .ptr (some (x.2, 0))], fun _ _ _ => True⟩, ⟨20, Int × Nat, [0, 1, 7, 62], fun x => [.str a, .str b, .int .i64 x.1, .ptr (some (x.2, 0))], fun _ _ _ => True⟩, ⟨24, Int × Int × Nat, [0, 1, 7, 8, 70], fun x => [.str a, .str b, .int .i64 x.1, .int .i64 x.2.1, .ptr (some (x.2.2, 0))], fun _ _ _ => True⟩, ⟨200027, Bool, [0, 1, 9], fun x => [.str a, .str b, .bool x], fun _ _ _ => True⟩, ⟨28, Bool × Int, [0, 1, 9, 10], fun x => [.str a, .str b, .bool x.1, .int .i64 x.2], fun _ _ _ => True⟩] [] 6 [.str a, .str b] H Q) =
  ((X none).call (10 : Nat) [] H fun (v1 : AV) (H1 : AH) =>
  ∃ (b1 : Bool),
    v1 = AV.bool b1 ∧
      bif !b1 then Q (AV.bool false) H1
      else
        bif decide ((↑a.length : Int) > (1000 : Int)) || decide ((↑b.length : Int) > (1000 : Int)) then Q (AV.bool true) H1
        else
          ∃ (x1 : Int → AH → Nat → Prop),
            (∃ (n1 : Int), ∃ (k1 : Nat), [AV.str a, AV.str b, AV.int IntKind.i64 (0 : Int)] = [AV.str a, AV.str b, AV.int IntKind.i64 n1] ∧ x1 n1 H1 k1) ∧
              ∀ (n2 : Int) (H2 : AH) (k2 : Nat),
                x1 n2 H2 k2 →
                  bif decide (n2 < (↑a.length : Int)) then
                    ((0 : Int) ≤ n2 ∧ n2 < (↑a.length : Int)) ∧
                      ((((↑(a[n2.toNat]?.getD (0 : UInt8)).toNat : Int) == (60 : Int)) == false) = true → (0 : Int) ≤ n2 ∧ n2 < (↑a.length : Int)) ∧
                        bif (↑(a[n2.toNat]?.getD (0 : UInt8)).toNat : Int) == (60 : Int) || (↑(a[n2.toNat]?.getD (0 : UInt8)).toNat : Int) == (38 : Int) then Q (AV.bool true) H2
                        else ∃ (n3 : Int), ∃ (k3 : Nat), k3 < k2 ∧ [AV.str a, AV.str b, AV.int IntKind.i64 ((X none).wrap IntKind.i64 (n2 + (1 : Int)))] = [AV.str a, AV.str b, AV.int IntKind.i64 n3] ∧ x1 n3 H2 k3
                  else
                    ∃ (x2 : Int → AH → Nat → Prop),
                      (∃ (n4 : Int), ∃ (k4 : Nat), [AV.str a, AV.str b, AV.int IntKind.i64 (0 : Int)] = [AV.str a, AV.str b, AV.int IntKind.i64 n4] ∧ x2 n4 H2 k4) ∧
                        ∀ (n5 : Int) (H3 : AH) (k5 : Nat),
                          x2 n5 H3 k5 →
                            bif decide (n5 < (↑b.length : Int)) then
                              ((0 : Int) ≤ n5 ∧ n5 < (↑b.length : Int)) ∧
                                ((((↑(b[n5.toNat]?.getD (0 : UInt8)).toNat : Int) == (60 : Int)) == false) = true → (0 : Int) ≤ n5 ∧ n5 < (↑b.length : Int)) ∧
                                  bif (↑(b[n5.toNat]?.getD (0 : UInt8)).toNat : Int) == (60 : Int) || (↑(b[n5.toNat]?.getD (0 : UInt8)).toNat : Int) == (38 : Int) then Q (AV.bool true) H3
                                  else ∃ (n6 : Int), ∃ (k6 : Nat), k6 < k5 ∧ [AV.str a, AV.str b, AV.int IntKind.i64 ((X none).wrap IntKind.i64 (n5 + (1 : Int)))] = [AV.str a, AV.str b, AV.int IntKind.i64 n6] ∧ x2 n6 H3 k6
                            else
                              ∃ (x3 : Int × Nat → AH → Nat → Prop),
                                (∃ (x4 : Int × Nat),
                                    ∃ (k7 : Nat),
                                      [AV.str a, AV.str b, AV.int IntKind.i64 (0 : Int), AV.ptr (some ((X none).n H3, (0 : Nat)))] = [AV.str a, AV.str b, AV.int IntKind.i64 x4.fst, AV.ptr (some (x4.snd, (0 : Nat)))] ∧
                                        x3 x4 ((X none).al H3 (AObj.iter a (0 : Nat))) k7) ∧
                                  ∀ (x5 : Int × Nat) (H4 : AH) (k8 : Nat),
                                    x3 x5 H4 k8 →
                                      ∃ (s1 : List UInt8),
                                        ∃ (k9 : Nat),
                                          (X none).get H4 x5.snd = some (AObj.iter s1 k9) ∧
                                            (k9 < s1.length →
                                                ∃ (x6 : Int × Nat),
                                                  ∃ (k10 : Nat),
                                                    k10 < k8 ∧
                                                      [AV.str a, AV.str b, AV.int IntKind.i64 ((X none).wrap IntKind.i64 (x5.fst + (1 : Int))), AV.ptr (some (x5.snd, (0 : Nat)))] =
                                                          [AV.str a, AV.str b, AV.int IntKind.i64 x6.fst, AV.ptr (some (x6.snd, (0 : Nat)))] ∧
                                                        x3 x6 ((X none).set H4 x5.snd (AObj.iter s1 (k9 + (decodeL s1 k9).snd))) k10) ∧
                                              (¬k9 < s1.length →
                                                ∃ (x7 : Int × Nat → AH → Nat → Prop),
                                                  (∃ (x8 : Int × Nat),
                                                      ∃ (k11 : Nat),
                                                        [AV.str a, AV.str b, AV.int IntKind.i64 x5.fst, AV.ptr (some ((X none).n H4, (0 : Nat)))] = [AV.str a, AV.str b, AV.int IntKind.i64 x8.fst, AV.ptr (some (x8.snd, (0 : Nat)))] ∧
                                                          x7 x8 ((X none).al H4 (AObj.iter b (0 : Nat))) k11) ∧
                                                    ∀ (x9 : Int × Nat) (H5 : AH) (k12 : Nat),
                                                      x7 x9 H5 k12 →
                                                        ∃ (s2 : List UInt8),
                                                          ∃ (k13 : Nat),
                                                            (X none).get H5 x9.snd = some (AObj.iter s2 k13) ∧
                                                              (k13 < s2.length →
                                                                  ∃ (x10 : Int × Nat),
                                                                    ∃ (k14 : Nat),
                                                                      k14 < k12 ∧
                                                                        [AV.str a, AV.str b, AV.int IntKind.i64 ((X none).wrap IntKind.i64 (x9.fst + (1 : Int))), AV.ptr (some (x9.snd, (0 : Nat)))] =
                                                                            [AV.str a, AV.str b, AV.int IntKind.i64 x10.fst, AV.ptr (some (x10.snd, (0 : Nat)))] ∧
                                                                          x7 x10 ((X none).set H5 x9.snd (AObj.iter s2 (k13 + (decodeL s2 k13).snd))) k14) ∧
                                                                (¬k13 < s2.length →
                                                                  (↑(a.length + b.length) : Int) ≤ (9223372036854775807 : Int) ∧
                                                                    ∃ (x11 : Int × Int × Nat → AH → Nat → Prop),
                                                                      (∃ (x12 : Int × Int × Nat),
                                                                          ∃ (k15 : Nat),
                                                                            [AV.str a, AV.str b, AV.int IntKind.i64 x9.fst, AV.int IntKind.i64 (0 : Int), AV.ptr (some ((X none).n H5, (0 : Nat)))] =
                                                                                [AV.str a, AV.str b, AV.int IntKind.i64 x12.fst, AV.int IntKind.i64 x12.snd.fst, AV.ptr (some (x12.snd.snd, (0 : Nat)))] ∧
                                                                              x11 x12 ((X none).al H5 (AObj.iter (a ++ b) (0 : Nat))) k15) ∧
                                                                        ∀ (x13 : Int × Int × Nat) (H6 : AH) (k16 : Nat),
                                                                          x11 x13 H6 k16 →
                                                                            ∃ (s3 : List UInt8),
                                                                              ∃ (k17 : Nat),
                                                                                (X none).get H6 x13.snd.snd = some (AObj.iter s3 k17) ∧
                                                                                  (k17 < s3.length →
                                                                                      ∃ (x14 : Int × Int × Nat),
                                                                                        ∃ (k18 : Nat),
                                                                                          k18 < k16 ∧
                                                                                            [AV.str a, AV.str b, AV.int IntKind.i64 x13.fst, AV.int IntKind.i64 ((X none).wrap IntKind.i64 (x13.snd.fst + (1 : Int))),
                                                                                                  AV.ptr (some (x13.snd.snd, (0 : Nat)))] =
                                                                                                [AV.str a, AV.str b, AV.int IntKind.i64 x14.fst, AV.int IntKind.i64 x14.snd.fst, AV.ptr (some (x14.snd.snd, (0 : Nat)))] ∧
                                                                                              x11 x14 ((X none).set H6 x13.snd.snd (AObj.iter s3 (k17 + (decodeL s3 k17).snd))) k18) ∧
                                                                                    (¬k17 < s3.length →
                                                                                      ∃ (x15 : Bool → AH → Prop),
                                                                                        (bif (x13.fst != x13.snd.fst) == false then
                                                                                            (X none).call (16 : Nat) [AV.str a, AV.str b] H6 fun (v2 : AV) (H7 : AH) =>
                                                                                              ∃ (b2 : Bool),
                                                                                                v2 = AV.bool b2 ∧ ∃ (b3 : Bool), ∃ (_k19 : Nat), True ∧ [AV.str a, AV.str b, AV.bool !b2] = [AV.str a, AV.str b, AV.bool b3] ∧ x15 b3 H7
                                                                                          else ∃ (b4 : Bool), ∃ (_k20 : Nat), True ∧ [AV.str a, AV.str b, AV.bool true] = [AV.str a, AV.str b, AV.bool b4] ∧ x15 b4 H6) ∧
                                                                                          ∀ (b5 : Bool) (H8 : AH),
                                                                                            x15 b5 H8 →
                                                                                              ∃ (x16 : Bool × Int → AH → Nat → Prop),
                                                                                                (∃ (x17 : Bool × Int),
                                                                                                    ∃ (k21 : Nat),
                                                                                                      [AV.str a, AV.str b, AV.bool b5, AV.int IntKind.i64 (1 : Int)] = [AV.str a, AV.str b, AV.bool x17.fst, AV.int IntKind.i64 x17.snd] ∧
                                                                                                        x16 x17 H8 k21) ∧
                                                                                                  ∀ (x18 : Bool × Int) (H9 : AH) (k22 : Nat),
                                                                                                    x16 x18 H9 k22 →
                                                                                                      bif decide (x18.snd ≤ (2 : Int)) then
                                                                                                        (↑(a.length + (3 : Nat)) : Int) ≤ (9223372036854775807 : Int) ∧
                                                                                                          (↑((a ++ [(60 : UInt8), (98 : UInt8), (62 : UInt8)]).length + b.length) : Int) ≤ (9223372036854775807 : Int) ∧
                                                                                                            (X none).call (12 : Nat) [AV.int IntKind.i64 x18.snd, AV.str (a ++ [(60 : UInt8), (98 : UInt8), (62 : UInt8)] ++ b)] H9
                                                                                                              fun (v3 : AV) (H10 : AH) =>
                                                                                                              ∃ (s4 : List UInt8),
                                                                                                                ∃ (q1 : Option (Nat × Nat)),
                                                                                                                  ∃ (k23 : Nat),
                                                                                                                    ∃ (k24 : Nat),
                                                                                                                      ∃ (s5 : List UInt8),
                                                                                                                        ∃ (n7 : Int),
                                                                                                                          ∃ (n8 : Int),
                                                                                                                            v3 = AV.tuple [AV.agg [AV.str s4, AV.slice q1 k23 k24, AV.str s5, AV.int IntKind.i64 n7], AV.int IntKind.i64 n8] ∧
                                                                                                                              [AV.str s4, AV.slice q1 k23 k24, AV.str s5, AV.int IntKind.i64 n7].length = (4 : Nat) ∧
                                                                                                                                ∃ (H11 : AH),
                                                                                                                                  (X none).wr
                                                                                                                                        ((X none).al H10
                                                                                                                                          (AObj.cells [AV.str [], AV.slice none (0 : Nat) (0 : Nat), AV.str [], AV.int IntKind.i64 (0 : Int)]
                                                                                                                                            (28 : Nat) { whole := true }))
                                                                                                                                        ((X none).n H10) (0 : Nat) [AV.str s4, AV.slice q1 k23 k24, AV.str s5, AV.int IntKind.i64 n7] =
                                                                                                                                      some H11 ∧
                                                                                                                                    bif n8 != (0 : Int) then Q (AV.bool false) H11
                                                                                                                                    else
                                                                                                                                      ∃ (s6 : List UInt8),
                                                                                                                                        (X none).rd1 H11 ((X none).n H10) (0 : Nat) = some (AV.str s6) ∧
                                                                                                                                          ((x18.fst == true) = true → (↑(a.length + (3 : Nat)) : Int) ≤ (9223372036854775807 : Int)) ∧
                                                                                                                                            ((x18.fst == true) = true →
                                                                                                                                                (↑((a ++ [(60 : UInt8), (98 : UInt8), (62 : UInt8)]).length + b.length) : Int) ≤
                                                                                                                                                  (9223372036854775807 : Int)) ∧
                                                                                                                                              ∃ (s7 : List UInt8),
                                                                                                                                                (X none).rd1 H11 ((X none).n H10) (0 : Nat) = some (AV.str s7) ∧
                                                                                                                                                  (((x18.fst && !s6 == a ++ [(60 : UInt8), (98 : UInt8), (62 : UInt8)] ++ b) == false &&
                                                                                                                                                          (!x18.fst) == true) =
                                                                                                                                                        true →
                                                                                                                                                      (↑(a.length + b.length) : Int) ≤ (9223372036854775807 : Int)) ∧
                                                                                                                                                    bif
                                                                                                                                                        x18.fst && !s6 == a ++ [(60 : UInt8), (98 : UInt8), (62 : UInt8)] ++ b ||
                                                                                                                                                          !x18.fst && !s7 == a ++ b then
                                                                                                                                                      Q (AV.bool false) H11
                                                                                                                                                    else
                                                                                                                                                      ∃ (x19 : Bool × Int),
                                                                                                                                                        ∃ (k25 : Nat),
                                                                                                                                                          k25 < k22 ∧
                                                                                                                                                            [AV.str a, AV.str b, AV.bool x18.fst,
                                                                                                                                                                  AV.int IntKind.i64 ((X none).wrap IntKind.i64 (x18.snd + (1 : Int)))] =
                                                                                                                                                                [AV.str a, AV.str b, AV.bool x19.fst, AV.int IntKind.i64 x19.snd] ∧
                                                                                                                                                              x16 x19 H11 k25
                                                                                                      else Q (AV.bool true) H9)))) := by kernel_rfl

end Go.Proofs.YtlkdhhkncoekgaaDoor

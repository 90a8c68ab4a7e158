/- What the functions of MarkLong ask -/
import Derived.Test.YtlkdhhkncoekgaaDoorAmTri
import Derived.Test.YtlkdhhkncoekgaaDoorTabs
namespace Go.Proofs.YtlkdhhkncoekgaaDoor
open Go.Am Go

theorem brace_vc (X : Option Nat → Atoms) (It : FuncId → List AV → List AV → (AH → Prop) → List (List AV) → Prop) (p : Nat) (t : List UInt8) (H : AH) (Q : AV → AH → Prop) : (vcG X It Tryd.prog [⟨200003, Int × Bool, [0, 1, 5, 25], fun x => [.ptr (some (p, 0)), .str t, .int .i64 x.1, .bool x.2], fun _ _ _ => True⟩, ⟨6, Int × Nat × Int × List UInt8, [0, 5, 6, 7, 8], fun x => [.ptr (some (p, 0)), .int .i64 x.1, .ptr (some (x.2.1, 0)), .int .i64 x.2.2.1, .str x.2.2.2], fun _ _ _ => True⟩, ⟨200009, (Int × Nat × Int × List UInt8) × Int × Bool, [0, 5, 6, 7, 8, 9, 56], fun x => [.ptr (some (p, 0)), .int .i64 x.1.1, .ptr (some (x.1.2.1, 0)), .int .i64 x.1.2.2.1, .str x.1.2.2.2, .int .i64 x.2.1, .bool x.2.2], fun _ _ _ => True⟩, ⟨200021, (Int × Nat × Int × List UInt8) × Int, [0, 5, 6, 7, 8, 9], fun x => [.ptr (some (p, 0)), .int .i64 x.1.1, .ptr (some (x.1.2.1, 0)), .int .i64 x.1.2.2.1, .str x.1.2.2.2, .int .i64 x.2], fun _ _ _ => True⟩, ⟨200023, (Int × Nat × Int × List UInt8) × Int × List UInt8 × Bool, [0, 5, 6, 7, 8, 9, 11, 87], fun x => [.ptr (some (p, 0)), .int .i64 x.1.1, .ptr (some (x.1.2.1, 0)), .int .i64 x.1.2.2.1, .str x.1.2.2.2, .int .i64 x.2.1, .str x.2.2.1, .bool x.2.2.2], fun _ _ _ => True⟩, ⟨200025, (Int × Nat × Int × List UInt8) × Int × Int × Bool, [0, 5, 6, 7, 8, 9, 13, 103], fun x => [.ptr (some (p, 0)), .int .i64 x.1.1, .ptr (some (x.1.2.1, 0)), .int .i64 x.1.2.2.1, .str x.1.2.2.2, .int .i64 x.2.1, .int .i64 x.2.2.1, .bool x.2.2.2], fun _ _ _ => True⟩, ⟨200026, (Int × Nat × Int × List UInt8) × Int, [0, 5, 6, 7, 8, 9], fun x => [.ptr (some (p, 0)), .int .i64 x.1.1, .ptr (some (x.1.2.1, 0)), .int .i64 x.1.2.2.1, .str x.1.2.2.2, .int .i64 x.2], fun _ _ _ => True⟩, ⟨200027, (Int × Nat × Int × List UInt8) × Int × Bool, [0, 5, 6, 7, 8, 9, 111], fun x => [.ptr (some (p, 0)), .int .i64 x.1.1, .ptr (some (x.1.2.1, 0)), .int .i64 x.1.2.2.1, .str x.1.2.2.2, .int .i64 x.2.1, .bool x.2.2], fun _ _ _ => True⟩, ⟨200028, (Int × Nat × Int × List UInt8) × Int, [0, 5, 6, 7, 8, 9], fun x => [.ptr (some (p, 0)), .int .i64 x.1.1, .ptr (some (x.1.2.1, 0)), .int .i64 x.1.2.2.1, .str x.1.2.2.2, .int .i64 x.2], fun _ _ _ => True⟩, ⟨200029, (Int × Nat × Int × List UInt8) × Int × Bool, [0, 5, 6, 7, 8, 9, 125], fun x => [.ptr (some (p, 0)), .int .i64 x.1.1, .ptr (some (x.1.2.1, 0)), .int .i64 x.1.2.2.1, .str x.1.2.2.2, .int .i64 x.2.1, .bool x.2.2], fun _ _ _ => True⟩, ⟨200030, (Int × Nat × Int × List UInt8) × Int, [0, 5, 6, 7, 8, 9], fun x => [.ptr (some (p, 0)), .int .i64 x.1.1, .ptr (some (x.1.2.1, 0)), .int .i64 x.1.2.2.1, .str x.1.2.2.2, .int .i64 x.2], fun _ _ _ => True⟩] [] 28 [.ptr (some (p, 0)), .str t] H Q) =
  ((X none).call (44 : Nat) [AV.str t, AV.int IntKind.u8 (125 : Int)] H fun (v1 : AV) (H1 : AH) =>
  ∃ (n1 : Int),
    v1 = AV.int IntKind.i64 n1 ∧
      ∃ (x1 : Int × Bool → AH → Prop),
        (bif decide (n1 < (2 : Int)) == false then
            (X none).call (45 : Nat) [AV.ptr (some (p, (0 : Nat))), AV.int IntKind.i64 ((X none).wrap IntKind.i64 (n1 + (1 : Int)))] H1 fun (v2 : AV) (H2 : AH) =>
              ∃ (b1 : Bool),
                v2 = AV.bool b1 ∧
                  ∃ (x2 : Int × Bool), ∃ (_k1 : Nat), True ∧ [AV.ptr (some (p, (0 : Nat))), AV.str t, AV.int IntKind.i64 n1, AV.bool !b1] = [AV.ptr (some (p, (0 : Nat))), AV.str t, AV.int IntKind.i64 x2.fst, AV.bool x2.snd] ∧ x1 x2 H2
          else ∃ (x3 : Int × Bool), ∃ (_k2 : Nat), True ∧ [AV.ptr (some (p, (0 : Nat))), AV.str t, AV.int IntKind.i64 n1, AV.bool true] = [AV.ptr (some (p, (0 : Nat))), AV.str t, AV.int IntKind.i64 x3.fst, AV.bool x3.snd] ∧ x1 x3 H1) ∧
          ∀ (x4 : Int × Bool) (H3 : AH),
            x1 x4 H3 →
              bif x4.snd then Q (AV.int IntKind.i64 (0 : Int)) H3
              else
                ∃ (b2 : Bool),
                  ∃ (b3 : Bool),
                    ∃ (b4 : Bool),
                      ∃ (b5 : Bool),
                        ∃ (n2 : Int),
                          (X none).rdn H3 p (11 : Nat) (5 : Nat) = some [AV.bool b2, AV.bool b3, AV.bool b4, AV.bool b5, AV.int IntKind.i64 n2] ∧
                            ∃ (n3 : Int),
                              (X none).rd1 H3 p (18 : Nat) = some (AV.int IntKind.i64 n3) ∧
                                (∃ (n4 : Int),
                                    (X none).rd1 ((X none).al H3 (AObj.cells [AV.bool false, AV.bool false, AV.bool false, AV.bool false, AV.int IntKind.i64 (0 : Int)] (53 : Nat) { whole := true })) p (18 : Nat) =
                                        some (AV.int IntKind.i64 n4) ∧
                                      AV.int IntKind.i64 n4 = AV.int IntKind.i64 n3) ∧
                                  (∃ (b6 : Bool),
                                      ∃ (b7 : Bool),
                                        ∃ (b8 : Bool),
                                          ∃ (b9 : Bool),
                                            ∃ (n5 : Int),
                                              (X none).rdn ((X none).al H3 (AObj.cells [AV.bool false, AV.bool false, AV.bool false, AV.bool false, AV.int IntKind.i64 (0 : Int)] (53 : Nat) { whole := true })) p (11 : Nat) (5 : Nat) =
                                                  some [AV.bool b6, AV.bool b7, AV.bool b8, AV.bool b9, AV.int IntKind.i64 n5] ∧
                                                AV.agg [AV.bool b6, AV.bool b7, AV.bool b8, AV.bool b9, AV.int IntKind.i64 n5] = AV.agg [AV.bool b2, AV.bool b3, AV.bool b4, AV.bool b5, AV.int IntKind.i64 n2]) ∧
                                    [AV.bool b2, AV.bool b3, AV.bool b4, AV.bool b5, AV.int IntKind.i64 n2].length = (5 : Nat) ∧
                                      ∃ (H4 : AH),
                                        (X none).wr ((X none).al H3 (AObj.cells [AV.bool false, AV.bool false, AV.bool false, AV.bool false, AV.int IntKind.i64 (0 : Int)] (53 : Nat) { whole := true })) ((X none).n H3) (0 : Nat)
                                              [AV.bool b2, AV.bool b3, AV.bool b4, AV.bool b5, AV.int IntKind.i64 n2] =
                                            some H4 ∧
                                          (∃ (n6 : Int), (X none).rd1 H4 p (18 : Nat) = some (AV.int IntKind.i64 n6) ∧ AV.int IntKind.i64 n6 = AV.int IntKind.i64 n3) ∧
                                            ((0 : Int) ≤ (1 : Int) ∧ (1 : Int) ≤ x4.fst ∧ x4.fst ≤ (↑t.length : Int)) ∧
                                              ∃ (x5 : Int × Nat × Int × List UInt8 → AH → Nat → Prop),
                                                (∃ (x6 : Int × Nat × Int × List UInt8),
                                                    ∃ (k3 : Nat),
                                                      [AV.ptr (some (p, (0 : Nat))), AV.int IntKind.i64 x4.fst, AV.ptr (some ((X none).n H3, (0 : Nat))), AV.int IntKind.i64 n3,
                                                            AV.str (List.take (x4.fst - (1 : Int)).toNat (List.drop (1 : Nat) t))] =
                                                          [AV.ptr (some (p, (0 : Nat))), AV.int IntKind.i64 x6.fst, AV.ptr (some (x6.snd.fst, (0 : Nat))), AV.int IntKind.i64 x6.snd.snd.fst, AV.str x6.snd.snd.snd] ∧
                                                        x5 x6 H4 k3) ∧
                                                  ∀ (x7 : Int × Nat × Int × List UInt8) (H5 : AH) (k4 : Nat),
                                                    x5 x7 H5 k4 →
                                                      bif !x7.snd.snd.snd == [] then
                                                        ∃ (x8 : (Int × Nat × Int × List UInt8) × Int → AH → Prop),
                                                          (∃ (x9 : (Int × Nat × Int × List UInt8) × Int × Bool → AH → Prop),
                                                              (((decide ((↑x7.snd.snd.snd.length : Int) ≥ (3 : Int)) == true) = true → (0 : Int) ≤ (0 : Int) ∧ (0 : Int) < (↑x7.snd.snd.snd.length : Int)) ∧
                                                                  (((decide ((↑x7.snd.snd.snd.length : Int) ≥ (3 : Int)) && (↑(x7.snd.snd.snd[(0 : Nat)]?.getD (0 : UInt8)).toNat : Int) == (92 : Int)) == true) = true →
                                                                      (0 : Int) ≤ (2 : Int) ∧ (2 : Int) < (↑x7.snd.snd.snd.length : Int)) ∧
                                                                    (((decide ((↑x7.snd.snd.snd.length : Int) ≥ (3 : Int)) && (↑(x7.snd.snd.snd[(0 : Nat)]?.getD (0 : UInt8)).toNat : Int) == (92 : Int)) == true &&
                                                                            ((↑(x7.snd.snd.snd[(2 : Nat)]?.getD (0 : UInt8)).toNat : Int) == (48 : Int)) == false) =
                                                                          true →
                                                                        (0 : Int) ≤ (2 : Int) ∧ (2 : Int) < (↑x7.snd.snd.snd.length : Int)) ∧
                                                                      ∃ (x10 : (Int × Nat × Int × List UInt8) × Int × Bool),
                                                                        ∃ (_k5 : Nat),
                                                                          True ∧
                                                                            [AV.ptr (some (p, (0 : Nat))), AV.int IntKind.i64 x7.fst, AV.ptr (some (x7.snd.fst, (0 : Nat))), AV.int IntKind.i64 x7.snd.snd.fst, AV.str x7.snd.snd.snd,
                                                                                  AV.int IntKind.i64 (0 : Int),
                                                                                  AV.bool
                                                                                    (decide ((↑x7.snd.snd.snd.length : Int) ≥ (3 : Int)) && (↑(x7.snd.snd.snd[(0 : Nat)]?.getD (0 : UInt8)).toNat : Int) == (92 : Int) &&
                                                                                      ((↑(x7.snd.snd.snd[(2 : Nat)]?.getD (0 : UInt8)).toNat : Int) == (48 : Int) ||
                                                                                        (↑(x7.snd.snd.snd[(2 : Nat)]?.getD (0 : UInt8)).toNat : Int) == (49 : Int)))] =
                                                                                [AV.ptr (some (p, (0 : Nat))), AV.int IntKind.i64 x10.fst.fst, AV.ptr (some (x10.fst.snd.fst, (0 : Nat))), AV.int IntKind.i64 x10.fst.snd.snd.fst,
                                                                                  AV.str x10.fst.snd.snd.snd, AV.int IntKind.i64 x10.snd.fst, AV.bool x10.snd.snd] ∧
                                                                              x9 x10 H5) ∧
                                                                ∀ (x11 : (Int × Nat × Int × List UInt8) × Int × Bool) (H6 : AH),
                                                                  x9 x11 H6 →
                                                                    bif x11.snd.snd then
                                                                      ((0 : Int) ≤ (2 : Int) ∧ (2 : Int) < (↑x11.fst.snd.snd.snd.length : Int)) ∧
                                                                        ((0 : Int) ≤ (1 : Int) ∧ (1 : Int) < (↑x11.fst.snd.snd.snd.length : Int)) ∧
                                                                          bif (↑(x11.fst.snd.snd.snd[(1 : Nat)]?.getD (0 : UInt8)).toNat : Int) == (98 : Int) then
                                                                            [AV.bool ((↑(x11.fst.snd.snd.snd[(2 : Nat)]?.getD (0 : UInt8)).toNat : Int) == (49 : Int))].length = (1 : Nat) ∧
                                                                              ∃ (H7 : AH),
                                                                                (X none).wr H6 x11.fst.snd.fst (0 : Nat) [AV.bool ((↑(x11.fst.snd.snd.snd[(2 : Nat)]?.getD (0 : UInt8)).toNat : Int) == (49 : Int))] = some H7 ∧
                                                                                  ∃ (x12 : (Int × Nat × Int × List UInt8) × Int),
                                                                                    ∃ (_k6 : Nat),
                                                                                      True ∧
                                                                                        [AV.ptr (some (p, (0 : Nat))), AV.int IntKind.i64 x11.fst.fst, AV.ptr (some (x11.fst.snd.fst, (0 : Nat))), AV.int IntKind.i64 x11.fst.snd.snd.fst,
                                                                                              AV.str x11.fst.snd.snd.snd, AV.int IntKind.i64 (3 : Int)] =
                                                                                            [AV.ptr (some (p, (0 : Nat))), AV.int IntKind.i64 x12.fst.fst, AV.ptr (some (x12.fst.snd.fst, (0 : Nat))), AV.int IntKind.i64 x12.fst.snd.snd.fst,
                                                                                              AV.str x12.fst.snd.snd.snd, AV.int IntKind.i64 x12.snd] ∧
                                                                                          x8 x12 H7
                                                                          else
                                                                            bif (↑(x11.fst.snd.snd.snd[(1 : Nat)]?.getD (0 : UInt8)).toNat : Int) == (105 : Int) then
                                                                              [AV.bool ((↑(x11.fst.snd.snd.snd[(2 : Nat)]?.getD (0 : UInt8)).toNat : Int) == (49 : Int))].length = (1 : Nat) ∧
                                                                                ∃ (H8 : AH),
                                                                                  (X none).wr H6 x11.fst.snd.fst (1 : Nat) [AV.bool ((↑(x11.fst.snd.snd.snd[(2 : Nat)]?.getD (0 : UInt8)).toNat : Int) == (49 : Int))] = some H8 ∧
                                                                                    ∃ (x13 : (Int × Nat × Int × List UInt8) × Int),
                                                                                      ∃ (_k7 : Nat),
                                                                                        True ∧
                                                                                          [AV.ptr (some (p, (0 : Nat))), AV.int IntKind.i64 x11.fst.fst, AV.ptr (some (x11.fst.snd.fst, (0 : Nat))), AV.int IntKind.i64 x11.fst.snd.snd.fst,
                                                                                                AV.str x11.fst.snd.snd.snd, AV.int IntKind.i64 (3 : Int)] =
                                                                                              [AV.ptr (some (p, (0 : Nat))), AV.int IntKind.i64 x13.fst.fst, AV.ptr (some (x13.fst.snd.fst, (0 : Nat))), AV.int IntKind.i64 x13.fst.snd.snd.fst,
                                                                                                AV.str x13.fst.snd.snd.snd, AV.int IntKind.i64 x13.snd] ∧
                                                                                            x8 x13 H8
                                                                            else
                                                                              bif (↑(x11.fst.snd.snd.snd[(1 : Nat)]?.getD (0 : UInt8)).toNat : Int) == (117 : Int) then
                                                                                [AV.bool ((↑(x11.fst.snd.snd.snd[(2 : Nat)]?.getD (0 : UInt8)).toNat : Int) == (49 : Int))].length = (1 : Nat) ∧
                                                                                  ∃ (H9 : AH),
                                                                                    (X none).wr H6 x11.fst.snd.fst (2 : Nat) [AV.bool ((↑(x11.fst.snd.snd.snd[(2 : Nat)]?.getD (0 : UInt8)).toNat : Int) == (49 : Int))] = some H9 ∧
                                                                                      ∃ (x14 : (Int × Nat × Int × List UInt8) × Int),
                                                                                        ∃ (_k8 : Nat),
                                                                                          True ∧
                                                                                            [AV.ptr (some (p, (0 : Nat))), AV.int IntKind.i64 x11.fst.fst, AV.ptr (some (x11.fst.snd.fst, (0 : Nat))), AV.int IntKind.i64 x11.fst.snd.snd.fst,
                                                                                                  AV.str x11.fst.snd.snd.snd, AV.int IntKind.i64 (3 : Int)] =
                                                                                                [AV.ptr (some (p, (0 : Nat))), AV.int IntKind.i64 x14.fst.fst, AV.ptr (some (x14.fst.snd.fst, (0 : Nat))),
                                                                                                  AV.int IntKind.i64 x14.fst.snd.snd.fst, AV.str x14.fst.snd.snd.snd, AV.int IntKind.i64 x14.snd] ∧
                                                                                              x8 x14 H9
                                                                              else
                                                                                bif (↑(x11.fst.snd.snd.snd[(1 : Nat)]?.getD (0 : UInt8)).toNat : Int) == (115 : Int) then
                                                                                  [AV.bool ((↑(x11.fst.snd.snd.snd[(2 : Nat)]?.getD (0 : UInt8)).toNat : Int) == (49 : Int))].length = (1 : Nat) ∧
                                                                                    ∃ (H10 : AH),
                                                                                      (X none).wr H6 x11.fst.snd.fst (3 : Nat) [AV.bool ((↑(x11.fst.snd.snd.snd[(2 : Nat)]?.getD (0 : UInt8)).toNat : Int) == (49 : Int))] = some H10 ∧
                                                                                        ∃ (x15 : (Int × Nat × Int × List UInt8) × Int),
                                                                                          ∃ (_k9 : Nat),
                                                                                            True ∧
                                                                                              [AV.ptr (some (p, (0 : Nat))), AV.int IntKind.i64 x11.fst.fst, AV.ptr (some (x11.fst.snd.fst, (0 : Nat))), AV.int IntKind.i64 x11.fst.snd.snd.fst,
                                                                                                    AV.str x11.fst.snd.snd.snd, AV.int IntKind.i64 (3 : Int)] =
                                                                                                  [AV.ptr (some (p, (0 : Nat))), AV.int IntKind.i64 x15.fst.fst, AV.ptr (some (x15.fst.snd.fst, (0 : Nat))),
                                                                                                    AV.int IntKind.i64 x15.fst.snd.snd.fst, AV.str x15.fst.snd.snd.snd, AV.int IntKind.i64 x15.snd] ∧
                                                                                                x8 x15 H10
                                                                                else
                                                                                  ∃ (x16 : (Int × Nat × Int × List UInt8) × Int),
                                                                                    ∃ (_k10 : Nat),
                                                                                      True ∧
                                                                                        [AV.ptr (some (p, (0 : Nat))), AV.int IntKind.i64 x11.fst.fst, AV.ptr (some (x11.fst.snd.fst, (0 : Nat))), AV.int IntKind.i64 x11.fst.snd.snd.fst,
                                                                                              AV.str x11.fst.snd.snd.snd, AV.int IntKind.i64 (0 : Int)] =
                                                                                            [AV.ptr (some (p, (0 : Nat))), AV.int IntKind.i64 x16.fst.fst, AV.ptr (some (x16.fst.snd.fst, (0 : Nat))), AV.int IntKind.i64 x16.fst.snd.snd.fst,
                                                                                              AV.str x16.fst.snd.snd.snd, AV.int IntKind.i64 x16.snd] ∧
                                                                                          x8 x16 H6
                                                                    else
                                                                      ∃ (x17 : (Int × Nat × Int × List UInt8) × Int),
                                                                        ∃ (_k11 : Nat),
                                                                          True ∧
                                                                            [AV.ptr (some (p, (0 : Nat))), AV.int IntKind.i64 x11.fst.fst, AV.ptr (some (x11.fst.snd.fst, (0 : Nat))), AV.int IntKind.i64 x11.fst.snd.snd.fst,
                                                                                  AV.str x11.fst.snd.snd.snd, AV.int IntKind.i64 x11.snd.fst] =
                                                                                [AV.ptr (some (p, (0 : Nat))), AV.int IntKind.i64 x17.fst.fst, AV.ptr (some (x17.fst.snd.fst, (0 : Nat))), AV.int IntKind.i64 x17.fst.snd.snd.fst,
                                                                                  AV.str x17.fst.snd.snd.snd, AV.int IntKind.i64 x17.snd] ∧
                                                                              x8 x17 H6) ∧
                                                            ∀ (x18 : (Int × Nat × Int × List UInt8) × Int) (H11 : AH),
                                                              x8 x18 H11 →
                                                                ∃ (x19 : (Int × Nat × Int × List UInt8) × Int → AH → Prop),
                                                                  ((X none).call (43 : Nat) [AV.str x18.fst.snd.snd.snd, AV.str [(92 : UInt8), (99 : UInt8), (38 : UInt8), (72 : UInt8)]] H11 fun (v3 : AV) (H12 : AH) =>
                                                                      ∃ (s1 : List UInt8),
                                                                        ∃ (b10 : Bool),
                                                                          v3 = AV.tuple [AV.str s1, AV.bool b10] ∧
                                                                            ∃ (x20 : (Int × Nat × Int × List UInt8) × Int × List UInt8 × Bool → AH → Prop),
                                                                              (∃ (x21 : (Int × Nat × Int × List UInt8) × Int × List UInt8 × Bool),
                                                                                  ∃ (_k12 : Nat),
                                                                                    True ∧
                                                                                      [AV.ptr (some (p, (0 : Nat))), AV.int IntKind.i64 x18.fst.fst, AV.ptr (some (x18.fst.snd.fst, (0 : Nat))), AV.int IntKind.i64 x18.fst.snd.snd.fst,
                                                                                            AV.str x18.fst.snd.snd.snd, AV.int IntKind.i64 x18.snd, AV.str s1, AV.bool (b10 && x18.snd == (0 : Int))] =
                                                                                          [AV.ptr (some (p, (0 : Nat))), AV.int IntKind.i64 x21.fst.fst, AV.ptr (some (x21.fst.snd.fst, (0 : Nat))), AV.int IntKind.i64 x21.fst.snd.snd.fst,
                                                                                            AV.str x21.fst.snd.snd.snd, AV.int IntKind.i64 x21.snd.fst, AV.str x21.snd.snd.fst, AV.bool x21.snd.snd.snd] ∧
                                                                                        x20 x21 H12) ∧
                                                                                ∀ (x22 : (Int × Nat × Int × List UInt8) × Int × List UInt8 × Bool) (H13 : AH),
                                                                                  x20 x22 H13 →
                                                                                    bif x22.snd.snd.snd then
                                                                                      (X none).call (50 : Nat) [AV.str x22.snd.snd.fst, AV.bool true] H13 fun (v4 : AV) (H14 : AH) =>
                                                                                        ∃ (n7 : Int),
                                                                                          ∃ (b11 : Bool),
                                                                                            v4 = AV.tuple [AV.int IntKind.i64 n7, AV.bool b11] ∧
                                                                                              ∃ (x23 : (Int × Nat × Int × List UInt8) × Int × Int × Bool → AH → Prop),
                                                                                                ((((b11 && decide ((↑x22.snd.snd.fst.length : Int) > (6 : Int))) == true) = true →
                                                                                                      (0 : Int) ≤ (6 : Int) ∧ (6 : Int) < (↑x22.snd.snd.fst.length : Int)) ∧
                                                                                                    ∃ (x24 : (Int × Nat × Int × List UInt8) × Int × Int × Bool),
                                                                                                      ∃ (_k13 : Nat),
                                                                                                        True ∧
                                                                                                          [AV.ptr (some (p, (0 : Nat))), AV.int IntKind.i64 x22.fst.fst, AV.ptr (some (x22.fst.snd.fst, (0 : Nat))),
                                                                                                                AV.int IntKind.i64 x22.fst.snd.snd.fst, AV.str x22.fst.snd.snd.snd, AV.int IntKind.i64 x22.snd.fst, AV.int IntKind.i64 n7,
                                                                                                                AV.bool
                                                                                                                  (b11 && decide ((↑x22.snd.snd.fst.length : Int) > (6 : Int)) &&
                                                                                                                    (↑(x22.snd.snd.fst[(6 : Nat)]?.getD (0 : UInt8)).toNat : Int) == (38 : Int))] =
                                                                                                              [AV.ptr (some (p, (0 : Nat))), AV.int IntKind.i64 x24.fst.fst, AV.ptr (some (x24.fst.snd.fst, (0 : Nat))),
                                                                                                                AV.int IntKind.i64 x24.fst.snd.snd.fst, AV.str x24.fst.snd.snd.snd, AV.int IntKind.i64 x24.snd.fst,
                                                                                                                AV.int IntKind.i64 x24.snd.snd.fst, AV.bool x24.snd.snd.snd] ∧
                                                                                                            x23 x24 H14) ∧
                                                                                                  ∀ (x25 : (Int × Nat × Int × List UInt8) × Int × Int × Bool) (H15 : AH),
                                                                                                    x23 x25 H15 →
                                                                                                      bif x25.snd.snd.snd then
                                                                                                        [AV.int IntKind.i64 x25.snd.snd.fst].length = (1 : Nat) ∧
                                                                                                          ∃ (H16 : AH),
                                                                                                            (X none).wr H15 x25.fst.snd.fst (4 : Nat) [AV.int IntKind.i64 x25.snd.snd.fst] = some H16 ∧
                                                                                                              ∃ (x26 : (Int × Nat × Int × List UInt8) × Int),
                                                                                                                ∃ (_k14 : Nat),
                                                                                                                  True ∧
                                                                                                                    [AV.ptr (some (p, (0 : Nat))), AV.int IntKind.i64 x25.fst.fst, AV.ptr (some (x25.fst.snd.fst, (0 : Nat))),
                                                                                                                          AV.int IntKind.i64 x25.fst.snd.snd.fst, AV.str x25.fst.snd.snd.snd, AV.int IntKind.i64 (11 : Int)] =
                                                                                                                        [AV.ptr (some (p, (0 : Nat))), AV.int IntKind.i64 x26.fst.fst, AV.ptr (some (x26.fst.snd.fst, (0 : Nat))),
                                                                                                                          AV.int IntKind.i64 x26.fst.snd.snd.fst, AV.str x26.fst.snd.snd.snd, AV.int IntKind.i64 x26.snd] ∧
                                                                                                                      x19 x26 H16
                                                                                                      else
                                                                                                        ∃ (x27 : (Int × Nat × Int × List UInt8) × Int),
                                                                                                          ∃ (_k15 : Nat),
                                                                                                            True ∧
                                                                                                              [AV.ptr (some (p, (0 : Nat))), AV.int IntKind.i64 x25.fst.fst, AV.ptr (some (x25.fst.snd.fst, (0 : Nat))),
                                                                                                                    AV.int IntKind.i64 x25.fst.snd.snd.fst, AV.str x25.fst.snd.snd.snd, AV.int IntKind.i64 x25.snd.fst] =
                                                                                                                  [AV.ptr (some (p, (0 : Nat))), AV.int IntKind.i64 x27.fst.fst, AV.ptr (some (x27.fst.snd.fst, (0 : Nat))),
                                                                                                                    AV.int IntKind.i64 x27.fst.snd.snd.fst, AV.str x27.fst.snd.snd.snd, AV.int IntKind.i64 x27.snd] ∧
                                                                                                                x19 x27 H15
                                                                                    else
                                                                                      ∃ (x28 : (Int × Nat × Int × List UInt8) × Int),
                                                                                        ∃ (_k16 : Nat),
                                                                                          True ∧
                                                                                            [AV.ptr (some (p, (0 : Nat))), AV.int IntKind.i64 x22.fst.fst, AV.ptr (some (x22.fst.snd.fst, (0 : Nat))), AV.int IntKind.i64 x22.fst.snd.snd.fst,
                                                                                                  AV.str x22.fst.snd.snd.snd, AV.int IntKind.i64 x22.snd.fst] =
                                                                                                [AV.ptr (some (p, (0 : Nat))), AV.int IntKind.i64 x28.fst.fst, AV.ptr (some (x28.fst.snd.fst, (0 : Nat))),
                                                                                                  AV.int IntKind.i64 x28.fst.snd.snd.fst, AV.str x28.fst.snd.snd.snd, AV.int IntKind.i64 x28.snd] ∧
                                                                                              x19 x28 H13) ∧
                                                                    ∀ (x29 : (Int × Nat × Int × List UInt8) × Int) (H17 : AH),
                                                                      x19 x29 H17 →
                                                                        ∃ (x30 : (Int × Nat × Int × List UInt8) × Int → AH → Prop),
                                                                          (∃ (x31 : (Int × Nat × Int × List UInt8) × Int × Bool → AH → Prop),
                                                                              (bif (x29.snd == (0 : Int)) == true then
                                                                                  (X none).call (27 : Nat) [AV.str x29.fst.snd.snd.snd, AV.str [(92 : UInt8), (99 : UInt8)]] H17 fun (v5 : AV) (H18 : AH) =>
                                                                                    ∃ (b12 : Bool),
                                                                                      v5 = AV.bool b12 ∧
                                                                                        ∃ (x32 : (Int × Nat × Int × List UInt8) × Int × Bool),
                                                                                          ∃ (_k17 : Nat),
                                                                                            True ∧
                                                                                              [AV.ptr (some (p, (0 : Nat))), AV.int IntKind.i64 x29.fst.fst, AV.ptr (some (x29.fst.snd.fst, (0 : Nat))), AV.int IntKind.i64 x29.fst.snd.snd.fst,
                                                                                                    AV.str x29.fst.snd.snd.snd, AV.int IntKind.i64 x29.snd, AV.bool b12] =
                                                                                                  [AV.ptr (some (p, (0 : Nat))), AV.int IntKind.i64 x32.fst.fst, AV.ptr (some (x32.fst.snd.fst, (0 : Nat))),
                                                                                                    AV.int IntKind.i64 x32.fst.snd.snd.fst, AV.str x32.fst.snd.snd.snd, AV.int IntKind.i64 x32.snd.fst, AV.bool x32.snd.snd] ∧
                                                                                                x31 x32 H18
                                                                                else
                                                                                  ∃ (x33 : (Int × Nat × Int × List UInt8) × Int × Bool),
                                                                                    ∃ (_k18 : Nat),
                                                                                      True ∧
                                                                                        [AV.ptr (some (p, (0 : Nat))), AV.int IntKind.i64 x29.fst.fst, AV.ptr (some (x29.fst.snd.fst, (0 : Nat))), AV.int IntKind.i64 x29.fst.snd.snd.fst,
                                                                                              AV.str x29.fst.snd.snd.snd, AV.int IntKind.i64 x29.snd, AV.bool false] =
                                                                                            [AV.ptr (some (p, (0 : Nat))), AV.int IntKind.i64 x33.fst.fst, AV.ptr (some (x33.fst.snd.fst, (0 : Nat))), AV.int IntKind.i64 x33.fst.snd.snd.fst,
                                                                                              AV.str x33.fst.snd.snd.snd, AV.int IntKind.i64 x33.snd.fst, AV.bool x33.snd.snd] ∧
                                                                                          x31 x33 H17) ∧
                                                                                ∀ (x34 : (Int × Nat × Int × List UInt8) × Int × Bool) (H19 : AH),
                                                                                  x31 x34 H19 →
                                                                                    bif x34.snd.snd then
                                                                                      (1 : Nat) = (1 : Nat) ∧
                                                                                        ∃ (H20 : AH),
                                                                                          (X none).wr H19 x34.fst.snd.fst (4 : Nat) [AV.int IntKind.i64 (0 : Int)] = some H20 ∧
                                                                                            ∃ (x35 : (Int × Nat × Int × List UInt8) × Int),
                                                                                              ∃ (_k19 : Nat),
                                                                                                True ∧
                                                                                                  [AV.ptr (some (p, (0 : Nat))), AV.int IntKind.i64 x34.fst.fst, AV.ptr (some (x34.fst.snd.fst, (0 : Nat))),
                                                                                                        AV.int IntKind.i64 x34.fst.snd.snd.fst, AV.str x34.fst.snd.snd.snd, AV.int IntKind.i64 (2 : Int)] =
                                                                                                      [AV.ptr (some (p, (0 : Nat))), AV.int IntKind.i64 x35.fst.fst, AV.ptr (some (x35.fst.snd.fst, (0 : Nat))),
                                                                                                        AV.int IntKind.i64 x35.fst.snd.snd.fst, AV.str x35.fst.snd.snd.snd, AV.int IntKind.i64 x35.snd] ∧
                                                                                                    x30 x35 H20
                                                                                    else
                                                                                      ∃ (x36 : (Int × Nat × Int × List UInt8) × Int),
                                                                                        ∃ (_k20 : Nat),
                                                                                          True ∧
                                                                                            [AV.ptr (some (p, (0 : Nat))), AV.int IntKind.i64 x34.fst.fst, AV.ptr (some (x34.fst.snd.fst, (0 : Nat))), AV.int IntKind.i64 x34.fst.snd.snd.fst,
                                                                                                  AV.str x34.fst.snd.snd.snd, AV.int IntKind.i64 x34.snd.fst] =
                                                                                                [AV.ptr (some (p, (0 : Nat))), AV.int IntKind.i64 x36.fst.fst, AV.ptr (some (x36.fst.snd.fst, (0 : Nat))),
                                                                                                  AV.int IntKind.i64 x36.fst.snd.snd.fst, AV.str x36.fst.snd.snd.snd, AV.int IntKind.i64 x36.snd] ∧
                                                                                              x30 x36 H19) ∧
                                                                            ∀ (x37 : (Int × Nat × Int × List UInt8) × Int) (H21 : AH),
                                                                              x30 x37 H21 →
                                                                                ∃ (x38 : (Int × Nat × Int × List UInt8) × Int → AH → Prop),
                                                                                  (∃ (x39 : (Int × Nat × Int × List UInt8) × Int × Bool → AH → Prop),
                                                                                      (∃ (n8 : Int),
                                                                                          (X none).rd1 H21 p (2 : Nat) = some (AV.int IntKind.i64 n8) ∧
                                                                                            bif (x37.snd == (0 : Int) && n8 == (0 : Int)) == true then
                                                                                              (X none).call (27 : Nat) [AV.str x37.fst.snd.snd.snd, AV.str [(92 : UInt8), (97 : UInt8), (110 : UInt8), (56 : UInt8)]] H21
                                                                                                fun (v6 : AV) (H22 : AH) =>
                                                                                                ∃ (b13 : Bool),
                                                                                                  v6 = AV.bool b13 ∧
                                                                                                    ∃ (x40 : (Int × Nat × Int × List UInt8) × Int × Bool),
                                                                                                      ∃ (_k21 : Nat),
                                                                                                        True ∧
                                                                                                          [AV.ptr (some (p, (0 : Nat))), AV.int IntKind.i64 x37.fst.fst, AV.ptr (some (x37.fst.snd.fst, (0 : Nat))),
                                                                                                                AV.int IntKind.i64 x37.fst.snd.snd.fst, AV.str x37.fst.snd.snd.snd, AV.int IntKind.i64 x37.snd, AV.bool b13] =
                                                                                                              [AV.ptr (some (p, (0 : Nat))), AV.int IntKind.i64 x40.fst.fst, AV.ptr (some (x40.fst.snd.fst, (0 : Nat))),
                                                                                                                AV.int IntKind.i64 x40.fst.snd.snd.fst, AV.str x40.fst.snd.snd.snd, AV.int IntKind.i64 x40.snd.fst, AV.bool x40.snd.snd] ∧
                                                                                                            x39 x40 H22
                                                                                            else
                                                                                              ∃ (x41 : (Int × Nat × Int × List UInt8) × Int × Bool),
                                                                                                ∃ (_k22 : Nat),
                                                                                                  True ∧
                                                                                                    [AV.ptr (some (p, (0 : Nat))), AV.int IntKind.i64 x37.fst.fst, AV.ptr (some (x37.fst.snd.fst, (0 : Nat))),
                                                                                                          AV.int IntKind.i64 x37.fst.snd.snd.fst, AV.str x37.fst.snd.snd.snd, AV.int IntKind.i64 x37.snd, AV.bool false] =
                                                                                                        [AV.ptr (some (p, (0 : Nat))), AV.int IntKind.i64 x41.fst.fst, AV.ptr (some (x41.fst.snd.fst, (0 : Nat))),
                                                                                                          AV.int IntKind.i64 x41.fst.snd.snd.fst, AV.str x41.fst.snd.snd.snd, AV.int IntKind.i64 x41.snd.fst, AV.bool x41.snd.snd] ∧
                                                                                                      x39 x41 H21) ∧
                                                                                        ∀ (x42 : (Int × Nat × Int × List UInt8) × Int × Bool) (H23 : AH),
                                                                                          x39 x42 H23 →
                                                                                            bif x42.snd.snd then
                                                                                              ∃ (x43 : (Int × Nat × Int × List UInt8) × Int),
                                                                                                ∃ (_k23 : Nat),
                                                                                                  True ∧
                                                                                                    [AV.ptr (some (p, (0 : Nat))), AV.int IntKind.i64 x42.fst.fst, AV.ptr (some (x42.fst.snd.fst, (0 : Nat))), AV.int IntKind.i64 (1 : Int),
                                                                                                          AV.str x42.fst.snd.snd.snd, AV.int IntKind.i64 (4 : Int)] =
                                                                                                        [AV.ptr (some (p, (0 : Nat))), AV.int IntKind.i64 x43.fst.fst, AV.ptr (some (x43.fst.snd.fst, (0 : Nat))),
                                                                                                          AV.int IntKind.i64 x43.fst.snd.snd.fst, AV.str x43.fst.snd.snd.snd, AV.int IntKind.i64 x43.snd] ∧
                                                                                                      x38 x43 H23
                                                                                            else
                                                                                              ∃ (x44 : (Int × Nat × Int × List UInt8) × Int),
                                                                                                ∃ (_k24 : Nat),
                                                                                                  True ∧
                                                                                                    [AV.ptr (some (p, (0 : Nat))), AV.int IntKind.i64 x42.fst.fst, AV.ptr (some (x42.fst.snd.fst, (0 : Nat))),
                                                                                                          AV.int IntKind.i64 x42.fst.snd.snd.fst, AV.str x42.fst.snd.snd.snd, AV.int IntKind.i64 x42.snd.fst] =
                                                                                                        [AV.ptr (some (p, (0 : Nat))), AV.int IntKind.i64 x44.fst.fst, AV.ptr (some (x44.fst.snd.fst, (0 : Nat))),
                                                                                                          AV.int IntKind.i64 x44.fst.snd.snd.fst, AV.str x44.fst.snd.snd.snd, AV.int IntKind.i64 x44.snd] ∧
                                                                                                      x38 x44 H23) ∧
                                                                                    ∀ (x45 : (Int × Nat × Int × List UInt8) × Int) (H24 : AH),
                                                                                      x38 x45 H24 →
                                                                                        bif x45.snd == (0 : Int) then Q (AV.int IntKind.i64 (0 : Int)) H24
                                                                                        else
                                                                                          ((0 : Int) ≤ x45.snd ∧ x45.snd ≤ (↑x45.fst.snd.snd.snd.length : Int) ∧ (↑x45.fst.snd.snd.snd.length : Int) ≤ (↑x45.fst.snd.snd.snd.length : Int)) ∧
                                                                                            ∃ (x46 : Int × Nat × Int × List UInt8),
                                                                                              ∃ (k25 : Nat),
                                                                                                k25 < k4 ∧
                                                                                                  [AV.ptr (some (p, (0 : Nat))), AV.int IntKind.i64 x45.fst.fst, AV.ptr (some (x45.fst.snd.fst, (0 : Nat))),
                                                                                                        AV.int IntKind.i64 x45.fst.snd.snd.fst,
                                                                                                        AV.str (List.take ((↑x45.fst.snd.snd.snd.length : Int) - x45.snd).toNat (List.drop x45.snd.toNat x45.fst.snd.snd.snd))] =
                                                                                                      [AV.ptr (some (p, (0 : Nat))), AV.int IntKind.i64 x46.fst, AV.ptr (some (x46.snd.fst, (0 : Nat))), AV.int IntKind.i64 x46.snd.snd.fst,
                                                                                                        AV.str x46.snd.snd.snd] ∧
                                                                                                    x5 x46 H24 k25
                                                      else
                                                        ∃ (b14 : Bool),
                                                          ∃ (b15 : Bool),
                                                            ∃ (b16 : Bool),
                                                              ∃ (b17 : Bool),
                                                                ∃ (n9 : Int),
                                                                  (X none).rdn H5 x7.snd.fst (0 : Nat) (5 : Nat) = some [AV.bool b14, AV.bool b15, AV.bool b16, AV.bool b17, AV.int IntKind.i64 n9] ∧
                                                                    [AV.bool b14, AV.bool b15, AV.bool b16, AV.bool b17, AV.int IntKind.i64 n9].length = (5 : Nat) ∧
                                                                      ∃ (H25 : AH),
                                                                        (X none).wr H5 p (11 : Nat) [AV.bool b14, AV.bool b15, AV.bool b16, AV.bool b17, AV.int IntKind.i64 n9] = some H25 ∧
                                                                          [AV.int IntKind.i64 x7.snd.snd.fst].length = (1 : Nat) ∧
                                                                            ∃ (H26 : AH),
                                                                              (X none).wr H25 p (18 : Nat) [AV.int IntKind.i64 x7.snd.snd.fst] = some H26 ∧ Q (AV.int IntKind.i64 ((X none).wrap IntKind.i64 (x7.fst + (1 : Int)))) H26) := by kernel_rfl

theorem pipe_vc (X : Option Nat → Atoms) (It : FuncId → List AV → List AV → (AH → Prop) → List (List AV) → Prop) (p : Nat) (t : List UInt8) (H : AH) (Q : AV → AH → Prop) : (vcG X It Tryd.prog [⟨200003, Int × Bool, [0, 1, 5, 25], fun x => [.ptr (some (p, 0)), .str t, .int .i64 x.1, .bool x.2], fun _ _ _ => True⟩, ⟨8, Int × Nat × (Option (Nat × Nat) × Nat) × Int × Int, [0, 5, 8, 39, 40, 41], fun x => [.ptr (some (p, 0)), .int .i64 x.1, .ptr (some (x.2.1, 0)), .slice x.2.2.1.1 x.2.2.1.2 x.2.2.1.2, .int .i64 x.2.2.2.1, .int .i64 x.2.2.2.2], fun _ _ _ => True⟩, ⟨200026, Int × Int × Bool, [0, 5, 13, 87], fun x => [.ptr (some (p, 0)), .int .i64 x.1, .int .i64 x.2.1, .bool x.2.2], fun _ _ _ => True⟩] [] 26 [.ptr (some (p, 0)), .str t] H Q) =
  ((X none).call (44 : Nat) [AV.str t, AV.int IntKind.u8 (125 : Int)] H fun (v1 : AV) (H1 : AH) =>
  ∃ (n1 : Int),
    v1 = AV.int IntKind.i64 n1 ∧
      ∃ (x1 : Int × Bool → AH → Prop),
        (bif decide (n1 < (0 : Int)) == false then
            (X none).call (45 : Nat) [AV.ptr (some (p, (0 : Nat))), AV.int IntKind.i64 ((X none).wrap IntKind.i64 (n1 + (1 : Int)))] H1 fun (v2 : AV) (H2 : AH) =>
              ∃ (b1 : Bool),
                v2 = AV.bool b1 ∧
                  ∃ (x2 : Int × Bool), ∃ (_k1 : Nat), True ∧ [AV.ptr (some (p, (0 : Nat))), AV.str t, AV.int IntKind.i64 n1, AV.bool !b1] = [AV.ptr (some (p, (0 : Nat))), AV.str t, AV.int IntKind.i64 x2.fst, AV.bool x2.snd] ∧ x1 x2 H2
          else ∃ (x3 : Int × Bool), ∃ (_k2 : Nat), True ∧ [AV.ptr (some (p, (0 : Nat))), AV.str t, AV.int IntKind.i64 n1, AV.bool true] = [AV.ptr (some (p, (0 : Nat))), AV.str t, AV.int IntKind.i64 x3.fst, AV.bool x3.snd] ∧ x1 x3 H1) ∧
          ∀ (x4 : Int × Bool) (H3 : AH),
            x1 x4 H3 →
              bif x4.snd then Q (AV.int IntKind.i64 (0 : Int)) H3
              else
                ((0 : Int) ≤ (0 : Int) ∧ (0 : Int) ≤ x4.fst ∧ x4.fst ≤ (↑t.length : Int)) ∧
                  (X none).call (43 : Nat) [AV.str (List.take (x4.fst - (0 : Int)).toNat t), AV.str [(123 : UInt8), (121 : UInt8), (58 : UInt8)]] H3 fun (v3 : AV) (H4 : AH) =>
                    ∃ (s1 : List UInt8),
                      ∃ (b2 : Bool),
                        v3 = AV.tuple [AV.str s1, AV.bool b2] ∧
                          bif b2 then
                            ∃ (b3 : Bool),
                              ∃ (b4 : Bool),
                                ∃ (b5 : Bool),
                                  ∃ (b6 : Bool),
                                    ∃ (n2 : Int),
                                      (X none).rdn H4 p (11 : Nat) (5 : Nat) = some [AV.bool b3, AV.bool b4, AV.bool b5, AV.bool b6, AV.int IntKind.i64 n2] ∧
                                        [AV.bool b3, AV.bool b4, AV.bool b5, AV.bool b6, AV.int IntKind.i64 n2].length = (5 : Nat) ∧
                                          ∃ (H5 : AH),
                                            (X none).wr ((X none).al H4 (AObj.cells [AV.bool false, AV.bool false, AV.bool false, AV.bool false, AV.int IntKind.i64 (0 : Int)] (53 : Nat) { whole := true })) ((X none).n H4) (0 : Nat)
                                                  [AV.bool b3, AV.bool b4, AV.bool b5, AV.bool b6, AV.int IntKind.i64 n2] =
                                                some H5 ∧
                                              (X none).call (52 : Nat) [AV.str s1, AV.str [(44 : UInt8)]] H5 fun (v4 : AV) (H6 : AH) =>
                                                ∃ (q1 : Option (Nat × Nat)),
                                                  ∃ (k3 : Nat),
                                                    ∃ (k4 : Nat),
                                                      v4 = AV.slice q1 k3 k4 ∧
                                                        ∃ (x5 : Int × Nat × (Option (Nat × Nat) × Nat) × Int × Int → AH → Nat → Prop),
                                                          (∃ (x6 : Int × Nat × (Option (Nat × Nat) × Nat) × Int × Int),
                                                              ∃ (k5 : Nat),
                                                                [AV.ptr (some (p, (0 : Nat))), AV.int IntKind.i64 x4.fst, AV.ptr (some ((X none).n H4, (0 : Nat))), AV.slice q1 k3 k4, AV.int IntKind.i64 (↑k3 : Int),
                                                                      AV.int IntKind.i64 (0 : Int)] =
                                                                    [AV.ptr (some (p, (0 : Nat))), AV.int IntKind.i64 x6.fst, AV.ptr (some (x6.snd.fst, (0 : Nat))), AV.slice x6.snd.snd.fst.fst x6.snd.snd.fst.snd x6.snd.snd.fst.snd,
                                                                      AV.int IntKind.i64 x6.snd.snd.snd.fst, AV.int IntKind.i64 x6.snd.snd.snd.snd] ∧
                                                                  x5 x6 H6 k5) ∧
                                                            ∀ (x7 : Int × Nat × (Option (Nat × Nat) × Nat) × Int × Int) (H7 : AH) (k6 : Nat),
                                                              x5 x7 H7 k6 →
                                                                bif decide (x7.snd.snd.snd.snd < x7.snd.snd.snd.fst) then
                                                                  ∃ (k7 : Nat),
                                                                    ∃ (k8 : Nat),
                                                                      (x7.snd.snd.fst.fst = some (k7, k8) ∧ (0 : Int) ≤ x7.snd.snd.snd.snd ∧ x7.snd.snd.snd.snd < (↑x7.snd.snd.fst.snd : Int)) ∧
                                                                        ∃ (s2 : List UInt8),
                                                                          (X none).rd1 H7 k7 (k8 + x7.snd.snd.snd.snd.toNat * (1 : Nat)) = some (AV.str s2) ∧
                                                                            bif s2 == [(98 : UInt8)] then
                                                                              (1 : Nat) = (1 : Nat) ∧
                                                                                ∃ (H8 : AH),
                                                                                  (X none).wr H7 x7.snd.fst (0 : Nat) [AV.bool true] = some H8 ∧
                                                                                    ∃ (x8 : Int × Nat × (Option (Nat × Nat) × Nat) × Int × Int),
                                                                                      ∃ (k9 : Nat),
                                                                                        k9 < k6 ∧
                                                                                          [AV.ptr (some (p, (0 : Nat))), AV.int IntKind.i64 x7.fst, AV.ptr (some (x7.snd.fst, (0 : Nat))),
                                                                                                AV.slice x7.snd.snd.fst.fst x7.snd.snd.fst.snd x7.snd.snd.fst.snd, AV.int IntKind.i64 x7.snd.snd.snd.fst,
                                                                                                AV.int IntKind.i64 ((X none).wrap IntKind.i64 (x7.snd.snd.snd.snd + (1 : Int)))] =
                                                                                              [AV.ptr (some (p, (0 : Nat))), AV.int IntKind.i64 x8.fst, AV.ptr (some (x8.snd.fst, (0 : Nat))),
                                                                                                AV.slice x8.snd.snd.fst.fst x8.snd.snd.fst.snd x8.snd.snd.fst.snd, AV.int IntKind.i64 x8.snd.snd.snd.fst,
                                                                                                AV.int IntKind.i64 x8.snd.snd.snd.snd] ∧
                                                                                            x5 x8 H8 k9
                                                                            else
                                                                              bif s2 == [(105 : UInt8)] then
                                                                                (1 : Nat) = (1 : Nat) ∧
                                                                                  ∃ (H9 : AH),
                                                                                    (X none).wr H7 x7.snd.fst (1 : Nat) [AV.bool true] = some H9 ∧
                                                                                      ∃ (x9 : Int × Nat × (Option (Nat × Nat) × Nat) × Int × Int),
                                                                                        ∃ (k10 : Nat),
                                                                                          k10 < k6 ∧
                                                                                            [AV.ptr (some (p, (0 : Nat))), AV.int IntKind.i64 x7.fst, AV.ptr (some (x7.snd.fst, (0 : Nat))),
                                                                                                  AV.slice x7.snd.snd.fst.fst x7.snd.snd.fst.snd x7.snd.snd.fst.snd, AV.int IntKind.i64 x7.snd.snd.snd.fst,
                                                                                                  AV.int IntKind.i64 ((X none).wrap IntKind.i64 (x7.snd.snd.snd.snd + (1 : Int)))] =
                                                                                                [AV.ptr (some (p, (0 : Nat))), AV.int IntKind.i64 x9.fst, AV.ptr (some (x9.snd.fst, (0 : Nat))),
                                                                                                  AV.slice x9.snd.snd.fst.fst x9.snd.snd.fst.snd x9.snd.snd.fst.snd, AV.int IntKind.i64 x9.snd.snd.snd.fst,
                                                                                                  AV.int IntKind.i64 x9.snd.snd.snd.snd] ∧
                                                                                              x5 x9 H9 k10
                                                                              else
                                                                                bif s2 == [(117 : UInt8)] then
                                                                                  (1 : Nat) = (1 : Nat) ∧
                                                                                    ∃ (H10 : AH),
                                                                                      (X none).wr H7 x7.snd.fst (2 : Nat) [AV.bool true] = some H10 ∧
                                                                                        ∃ (x10 : Int × Nat × (Option (Nat × Nat) × Nat) × Int × Int),
                                                                                          ∃ (k11 : Nat),
                                                                                            k11 < k6 ∧
                                                                                              [AV.ptr (some (p, (0 : Nat))), AV.int IntKind.i64 x7.fst, AV.ptr (some (x7.snd.fst, (0 : Nat))),
                                                                                                    AV.slice x7.snd.snd.fst.fst x7.snd.snd.fst.snd x7.snd.snd.fst.snd, AV.int IntKind.i64 x7.snd.snd.snd.fst,
                                                                                                    AV.int IntKind.i64 ((X none).wrap IntKind.i64 (x7.snd.snd.snd.snd + (1 : Int)))] =
                                                                                                  [AV.ptr (some (p, (0 : Nat))), AV.int IntKind.i64 x10.fst, AV.ptr (some (x10.snd.fst, (0 : Nat))),
                                                                                                    AV.slice x10.snd.snd.fst.fst x10.snd.snd.fst.snd x10.snd.snd.fst.snd, AV.int IntKind.i64 x10.snd.snd.snd.fst,
                                                                                                    AV.int IntKind.i64 x10.snd.snd.snd.snd] ∧
                                                                                                x5 x10 H10 k11
                                                                                else
                                                                                  bif s2 == [(115 : UInt8)] then
                                                                                    (1 : Nat) = (1 : Nat) ∧
                                                                                      ∃ (H11 : AH),
                                                                                        (X none).wr H7 x7.snd.fst (3 : Nat) [AV.bool true] = some H11 ∧
                                                                                          ∃ (x11 : Int × Nat × (Option (Nat × Nat) × Nat) × Int × Int),
                                                                                            ∃ (k12 : Nat),
                                                                                              k12 < k6 ∧
                                                                                                [AV.ptr (some (p, (0 : Nat))), AV.int IntKind.i64 x7.fst, AV.ptr (some (x7.snd.fst, (0 : Nat))),
                                                                                                      AV.slice x7.snd.snd.fst.fst x7.snd.snd.fst.snd x7.snd.snd.fst.snd, AV.int IntKind.i64 x7.snd.snd.snd.fst,
                                                                                                      AV.int IntKind.i64 ((X none).wrap IntKind.i64 (x7.snd.snd.snd.snd + (1 : Int)))] =
                                                                                                    [AV.ptr (some (p, (0 : Nat))), AV.int IntKind.i64 x11.fst, AV.ptr (some (x11.snd.fst, (0 : Nat))),
                                                                                                      AV.slice x11.snd.snd.fst.fst x11.snd.snd.fst.snd x11.snd.snd.fst.snd, AV.int IntKind.i64 x11.snd.snd.snd.fst,
                                                                                                      AV.int IntKind.i64 x11.snd.snd.snd.snd] ∧
                                                                                                  x5 x11 H11 k12
                                                                                  else Q (AV.int IntKind.i64 (0 : Int)) H7
                                                                else
                                                                  ∃ (b7 : Bool),
                                                                    ∃ (b8 : Bool),
                                                                      ∃ (b9 : Bool),
                                                                        ∃ (b10 : Bool),
                                                                          ∃ (n3 : Int),
                                                                            (X none).rdn H7 x7.snd.fst (0 : Nat) (5 : Nat) = some [AV.bool b7, AV.bool b8, AV.bool b9, AV.bool b10, AV.int IntKind.i64 n3] ∧
                                                                              [AV.bool b7, AV.bool b8, AV.bool b9, AV.bool b10, AV.int IntKind.i64 n3].length = (5 : Nat) ∧
                                                                                ∃ (H12 : AH),
                                                                                  (X none).wr H7 p (11 : Nat) [AV.bool b7, AV.bool b8, AV.bool b9, AV.bool b10, AV.int IntKind.i64 n3] = some H12 ∧
                                                                                    Q (AV.int IntKind.i64 ((X none).wrap IntKind.i64 (x7.fst + (1 : Int)))) H12
                          else
                            ((0 : Int) ≤ (0 : Int) ∧ (0 : Int) ≤ x4.fst ∧ x4.fst ≤ (↑t.length : Int)) ∧
                              (X none).call (43 : Nat) [AV.str (List.take (x4.fst - (0 : Int)).toNat t), AV.str [(123 : UInt8), (99 : UInt8), (58 : UInt8), (36 : UInt8)]] H4 fun (v5 : AV) (H13 : AH) =>
                                ∃ (s3 : List UInt8),
                                  ∃ (b11 : Bool),
                                    v5 = AV.tuple [AV.str s3, AV.bool b11] ∧
                                      (X none).call (50 : Nat) [AV.str s3, AV.bool true] H13 fun (v6 : AV) (H14 : AH) =>
                                        ∃ (n4 : Int),
                                          ∃ (b12 : Bool),
                                            v6 = AV.tuple [AV.int IntKind.i64 n4, AV.bool b12] ∧
                                              ∃ (x12 : Int × Int × Bool → AH → Prop),
                                                (∃ (x13 : Int × Int × Bool),
                                                    ∃ (_k13 : Nat),
                                                      True ∧
                                                        [AV.ptr (some (p, (0 : Nat))), AV.int IntKind.i64 x4.fst, AV.int IntKind.i64 n4, AV.bool (!b11 || !b12 || (↑s3.length : Int) != (6 : Int))] =
                                                            [AV.ptr (some (p, (0 : Nat))), AV.int IntKind.i64 x13.fst, AV.int IntKind.i64 x13.snd.fst, AV.bool x13.snd.snd] ∧
                                                          x12 x13 H14) ∧
                                                  ∀ (x14 : Int × Int × Bool) (H15 : AH),
                                                    x12 x14 H15 →
                                                      bif x14.snd.snd then Q (AV.int IntKind.i64 (0 : Int)) H15
                                                      else
                                                        [AV.int IntKind.i64 x14.snd.fst].length = (1 : Nat) ∧
                                                          ∃ (H16 : AH), (X none).wr H15 p (15 : Nat) [AV.int IntKind.i64 x14.snd.fst] = some H16 ∧ Q (AV.int IntKind.i64 ((X none).wrap IntKind.i64 (x14.fst + (1 : Int)))) H16) := by kernel_rfl

theorem Split_vc (X : Atoms) (s t : List UInt8) (H : AH) (Q : AV → AH → Prop) : (vcF X Tryd.prog [] 52 [.str s, .str t] H Q) =
  (X.call (76 : Nat) [AV.str s, AV.str t, AV.int IntKind.i64 (0 : Int), AV.int IntKind.i64 (-1 : Int)] H fun (v1 : AV) (H1 : AH) => ∃ (q1 : Option (Nat × Nat)), ∃ (k1 : Nat), ∃ (k2 : Nat), v1 = AV.slice q1 k1 k2 ∧ Q (AV.slice q1 k1 k2) H1) := by kernel_rfl

theorem genSplit_vc (X : Option Nat → Atoms) (It : FuncId → List AV → List AV → (AH → Prop) → List (List AV) → Prop) (s : List UInt8) (H : AH) (Q : AV → AH → Prop) : (vcG X It Tryd.prog [⟨11, List UInt8 × Int × (Option (Nat × Nat) × Nat) × Int, [0, 1, 2, 3, 9, 10], fun x => [.str x.1, .str [44], .int .i64 0, .int .i64 x.2.1, .slice x.2.2.1.1 x.2.2.1.2 x.2.2.1.2, .int .i64 x.2.2.2], fun _ _ _ => True⟩] [] 76 [.str s, .str [44], .int .i64 0, .int .i64 (-1)] H Q) =
  ((X none).call (92 : Nat) [AV.str s, AV.str [(44 : UInt8)]] H fun (v1 : AV) (H1 : AH) =>
  ∃ (n1 : Int),
    v1 = AV.int IntKind.i64 n1 ∧
      ∃ (q1 : Option (Nat × Nat)),
        ∃ (k1 : Nat),
          ∃ (k2 : Nat),
            ∃ (H2 : AH),
              (X none).mks (102 : Nat)
                    (if (X none).wrap IntKind.i64 ((↑s.length : Int) + (1 : Int)) < (X none).wrap IntKind.i64 (n1 + (1 : Int)) then (X none).wrap IntKind.i64 ((↑s.length : Int) + (1 : Int)) else (X none).wrap IntKind.i64 (n1 + (1 : Int)))
                    (if (X none).wrap IntKind.i64 ((↑s.length : Int) + (1 : Int)) < (X none).wrap IntKind.i64 (n1 + (1 : Int)) then (X none).wrap IntKind.i64 ((↑s.length : Int) + (1 : Int)) else (X none).wrap IntKind.i64 (n1 + (1 : Int)))
                    H1 =
                  some (AV.slice q1 k1 k2, H2) ∧
                ∃ (x1 : List UInt8 × Int × (Option (Nat × Nat) × Nat) × Int → AH → Nat → Prop),
                  (∃ (x2 : List UInt8 × Int × (Option (Nat × Nat) × Nat) × Int),
                      ∃ (k3 : Nat),
                        [AV.str s, AV.str [(44 : UInt8)], AV.int IntKind.i64 (0 : Int),
                              AV.int IntKind.i64
                                ((X none).wrap IntKind.i64
                                  ((if (X none).wrap IntKind.i64 ((↑s.length : Int) + (1 : Int)) < (X none).wrap IntKind.i64 (n1 + (1 : Int)) then (X none).wrap IntKind.i64 ((↑s.length : Int) + (1 : Int))
                                    else (X none).wrap IntKind.i64 (n1 + (1 : Int))) -
                                    (1 : Int))),
                              AV.slice q1 k1 k2, AV.int IntKind.i64 (0 : Int)] =
                            [AV.str x2.fst, AV.str [(44 : UInt8)], AV.int IntKind.i64 (0 : Int), AV.int IntKind.i64 x2.snd.fst, AV.slice x2.snd.snd.fst.fst x2.snd.snd.fst.snd x2.snd.snd.fst.snd, AV.int IntKind.i64 x2.snd.snd.snd] ∧
                          x1 x2 H2 k3) ∧
                    ∀ (x3 : List UInt8 × Int × (Option (Nat × Nat) × Nat) × Int) (H3 : AH) (k4 : Nat),
                      x1 x3 H3 k4 →
                        bif decide (x3.snd.snd.snd < x3.snd.fst) then
                          (X none).call (61 : Nat) [AV.str x3.fst, AV.str [(44 : UInt8)]] H3 fun (v2 : AV) (H4 : AH) =>
                            ∃ (n2 : Int),
                              v2 = AV.int IntKind.i64 n2 ∧
                                bif decide (n2 < (0 : Int)) then
                                  ∃ (k5 : Nat),
                                    ∃ (k6 : Nat),
                                      (x3.snd.snd.fst.fst = some (k5, k6) ∧ (0 : Int) ≤ x3.snd.snd.snd ∧ x3.snd.snd.snd < (↑x3.snd.snd.fst.snd : Int)) ∧
                                        [AV.str x3.fst].length = (1 : Nat) ∧
                                          ∃ (H5 : AH),
                                            (X none).wr H4 k5 (k6 + x3.snd.snd.snd.toNat * (1 : Nat)) [AV.str x3.fst] = some H5 ∧
                                              ∃ (q2 : Option (Nat × Nat)),
                                                ∃ (k7 : Nat),
                                                  ∃ (k8 : Nat),
                                                    (X none).slc (102 : Nat) (AV.slice x3.snd.snd.fst.fst x3.snd.snd.fst.snd x3.snd.snd.fst.snd) none (some (AV.int IntKind.i64 ((X none).wrap IntKind.i64 (x3.snd.snd.snd + (1 : Int))))) none
                                                          H5 =
                                                        some (AV.slice q2 k7 k8) ∧
                                                      Q (AV.slice q2 k7 k8) H5
                                else
                                  ((0 : Int) ≤ (0 : Int) ∧ (0 : Int) ≤ (X none).wrap IntKind.i64 (n2 + (0 : Int)) ∧ (X none).wrap IntKind.i64 (n2 + (0 : Int)) ≤ (↑x3.fst.length : Int)) ∧
                                    ∃ (k9 : Nat),
                                      ∃ (k10 : Nat),
                                        (x3.snd.snd.fst.fst = some (k9, k10) ∧ (0 : Int) ≤ x3.snd.snd.snd ∧ x3.snd.snd.snd < (↑x3.snd.snd.fst.snd : Int)) ∧
                                          [AV.str (List.take ((X none).wrap IntKind.i64 (n2 + (0 : Int)) - (0 : Int)).toNat (List.drop (0 : Nat) x3.fst))].length = (1 : Nat) ∧
                                            ∃ (H6 : AH),
                                              (X none).wr H4 k9 (k10 + x3.snd.snd.snd.toNat * (1 : Nat)) [AV.str (List.take ((X none).wrap IntKind.i64 (n2 + (0 : Int)) - (0 : Int)).toNat (List.drop (0 : Nat) x3.fst))] = some H6 ∧
                                                ((0 : Int) ≤ (X none).wrap IntKind.i64 (n2 + (1 : Int)) ∧ (X none).wrap IntKind.i64 (n2 + (1 : Int)) ≤ (↑x3.fst.length : Int) ∧ (↑x3.fst.length : Int) ≤ (↑x3.fst.length : Int)) ∧
                                                  ∃ (x4 : List UInt8 × Int × (Option (Nat × Nat) × Nat) × Int),
                                                    ∃ (k11 : Nat),
                                                      k11 < k4 ∧
                                                        [AV.str (List.take ((↑x3.fst.length : Int) - (X none).wrap IntKind.i64 (n2 + (1 : Int))).toNat (List.drop ((X none).wrap IntKind.i64 (n2 + (1 : Int))).toNat x3.fst)),
                                                              AV.str [(44 : UInt8)], AV.int IntKind.i64 (0 : Int), AV.int IntKind.i64 x3.snd.fst, AV.slice x3.snd.snd.fst.fst x3.snd.snd.fst.snd x3.snd.snd.fst.snd,
                                                              AV.int IntKind.i64 ((X none).wrap IntKind.i64 (x3.snd.snd.snd + (1 : Int)))] =
                                                            [AV.str x4.fst, AV.str [(44 : UInt8)], AV.int IntKind.i64 (0 : Int), AV.int IntKind.i64 x4.snd.fst, AV.slice x4.snd.snd.fst.fst x4.snd.snd.fst.snd x4.snd.snd.fst.snd,
                                                              AV.int IntKind.i64 x4.snd.snd.snd] ∧
                                                          x1 x4 H6 k11
                        else
                          ∃ (k12 : Nat),
                            ∃ (k13 : Nat),
                              (x3.snd.snd.fst.fst = some (k12, k13) ∧ (0 : Int) ≤ x3.snd.snd.snd ∧ x3.snd.snd.snd < (↑x3.snd.snd.fst.snd : Int)) ∧
                                [AV.str x3.fst].length = (1 : Nat) ∧
                                  ∃ (H7 : AH),
                                    (X none).wr H3 k12 (k13 + x3.snd.snd.snd.toNat * (1 : Nat)) [AV.str x3.fst] = some H7 ∧
                                      ∃ (q3 : Option (Nat × Nat)),
                                        ∃ (k14 : Nat),
                                          ∃ (k15 : Nat),
                                            (X none).slc (102 : Nat) (AV.slice x3.snd.snd.fst.fst x3.snd.snd.fst.snd x3.snd.snd.fst.snd) none (some (AV.int IntKind.i64 ((X none).wrap IntKind.i64 (x3.snd.snd.snd + (1 : Int))))) none H7 =
                                                some (AV.slice q3 k14 k15) ∧
                                              Q (AV.slice q3 k14 k15) H7) := by kernel_rfl

theorem sCount_vc (X : Option Nat → Atoms) (It : FuncId → List AV → List AV → (AH → Prop) → List (List AV) → Prop) (s : List UInt8) (H : AH) (Q : AV → AH → Prop) : (vcG X It Tryd.prog [⟨6, List UInt8 × Int, [0, 1, 5], fun x => [.str x.1, .str [44], .int .i64 x.2], fun _ _ _ => True⟩] [] 92 [.str s, .str [44]] H Q) =
  (((0 : Int) ≤ (0 : Int) ∧ (0 : Int) < (1 : Int)) ∧ (X none).call (109 : Nat) [AV.str s, AV.int IntKind.u8 (44 : Int)] H fun (v1 : AV) (H1 : AH) => ∃ (n1 : Int), v1 = AV.int IntKind.i64 n1 ∧ Q (AV.int IntKind.i64 n1) H1) := by kernel_rfl

theorem within_vc (X : Atoms) (a n : Int) (H : AH) (Q : AV → AH → Prop) : (vcF X Tryd.prog [] 17 [.int .i64 a, .int .i64 n] H Q) =
  (n ≠ (0 : Int) ∧ bif decide (a.tmod n < (0 : Int)) then Q (AV.int IntKind.i64 (X.wrap IntKind.i64 (a.tmod n + n))) H else Q (AV.int IntKind.i64 (a.tmod n)) H) := by kernel_rfl

theorem long_vc (X : Option Nat → Atoms) (It : FuncId → List AV → List AV → (AH → Prop) → List (List AV) → Prop) (d n : Int) (H : AH) (Q : AV → AH → Prop) : (vcG X It Tryd.prog [⟨12, Int × (Option (Nat × Nat) × Nat) × Int, [0, 1, 5, 6, 7], fun x => [.int .i64 d, .int .i64 x.1, .slice x.2.1.1 x.2.1.2 x.2.1.2, .int .i64 0, .int .i64 x.2.2], fun _ _ _ => True⟩, ⟨17, Int × (Option (Nat × Nat) × Nat) × Int, [0, 1, 5, 6, 8], fun x => [.int .i64 d, .int .i64 x.1, .slice x.2.1.1 x.2.1.2 x.2.1.2, .int .i64 0, .int .i64 x.2.2], fun _ _ _ => True⟩, ⟨24, Int × (Option (Nat × Nat) × Nat) × Int, [0, 1, 5, 6, 9], fun x => [.int .i64 d, .int .i64 x.1, .slice x.2.1.1 x.2.1.2 x.2.1.2, .int .i64 0, .int .i64 x.2.2], fun _ _ _ => True⟩, ⟨32, Int × (Option (Nat × Nat) × Nat) × Int, [0, 1, 5, 6, 10], fun x => [.int .i64 d, .int .i64 x.1, .slice x.2.1.1 x.2.1.2 x.2.1.2, .int .i64 0, .int .i64 x.2.2], fun _ _ _ => True⟩, ⟨200039, Int × (Option (Nat × Nat) × Nat) × Int, [0, 1, 5, 6], fun x => [.int .i64 d, .int .i64 x.1, .slice x.2.1.1 x.2.1.2 x.2.1.2, .int .i64 x.2.2], fun _ _ _ => True⟩] [] 7 [.int .i64 d, .int .i64 n] H Q) =
  ((X none).call (10 : Nat) [] H fun (v1 : AV) (H1 : AH) =>
  ∃ (b1 : Bool),
    v1 = AV.bool b1 ∧
      bif !b1 then Q (AV.bool false) H1
      else
        (X none).call (17 : Nat) [AV.int IntKind.i64 n, AV.int IntKind.i64 (2000 : Int)] H1 fun (v2 : AV) (H2 : AH) =>
          ∃ (n1 : Int),
            v2 = AV.int IntKind.i64 n1 ∧
              (X none).call (11 : Nat) [AV.int IntKind.i64 d] H2 fun (v3 : AV) (H3 : AH) =>
                ∃ (b2 : Bool),
                  v3 = AV.bool b2 ∧
                    bif !b2 then Q (AV.bool true) H3
                    else
                      ∃ (x1 : Int × (Option (Nat × Nat) × Nat) × Int → AH → Prop),
                        (bif d == (1 : Int) then
                            bif d == (1 : Int) then
                              ∃ (x2 : Int × (Option (Nat × Nat) × Nat) × Int → AH → Nat → Prop),
                                (∃ (x3 : Int × (Option (Nat × Nat) × Nat) × Int),
                                    ∃ (k1 : Nat),
                                      [AV.int IntKind.i64 d, AV.int IntKind.i64 n1, AV.slice none (0 : Nat) (0 : Nat), AV.int IntKind.i64 (0 : Int), AV.int IntKind.i64 (0 : Int)] =
                                          [AV.int IntKind.i64 d, AV.int IntKind.i64 x3.fst, AV.slice x3.snd.fst.fst x3.snd.fst.snd x3.snd.fst.snd, AV.int IntKind.i64 (0 : Int), AV.int IntKind.i64 x3.snd.snd] ∧
                                        x2 x3 H3 k1) ∧
                                  ∀ (x4 : Int × (Option (Nat × Nat) × Nat) × Int) (H4 : AH) (k2 : Nat),
                                    x2 x4 H4 k2 →
                                      bif decide (x4.snd.snd < x4.fst) then
                                        ∃ (q1 : Option (Nat × Nat)),
                                          ∃ (k3 : Nat),
                                            ∃ (k4 : Nat),
                                              ∃ (H5 : AH),
                                                (X none).app (39 : Nat) (9 : Nat) (AV.slice x4.snd.fst.fst x4.snd.fst.snd x4.snd.fst.snd) (AV.str [(60 : UInt8), (105 : UInt8), (62 : UInt8)]) H4 = some (AV.slice q1 k3 k4, H5) ∧
                                                  ∃ (x5 : Int × (Option (Nat × Nat) × Nat) × Int),
                                                    ∃ (k5 : Nat),
                                                      k5 < k2 ∧
                                                        [AV.int IntKind.i64 d, AV.int IntKind.i64 x4.fst, AV.slice q1 k3 k4, AV.int IntKind.i64 (0 : Int), AV.int IntKind.i64 ((X none).wrap IntKind.i64 (x4.snd.snd + (1 : Int)))] =
                                                            [AV.int IntKind.i64 d, AV.int IntKind.i64 x5.fst, AV.slice x5.snd.fst.fst x5.snd.fst.snd x5.snd.fst.snd, AV.int IntKind.i64 (0 : Int), AV.int IntKind.i64 x5.snd.snd] ∧
                                                          x2 x5 H5 k5
                                      else
                                        ((1 : Nat) ≤ (16777216 : Nat) ∧ (1 : Nat) = (1 : Nat) ∧ (0 : Nat) < (1 : Nat) ∧ true = true ∧ true = true) ∧
                                          ∃ (q2 : Option (Nat × Nat)),
                                            ∃ (k6 : Nat),
                                              ∃ (k7 : Nat),
                                                ∃ (H6 : AH),
                                                  (X none).app (39 : Nat) (39 : Nat) (AV.slice x4.snd.fst.fst x4.snd.fst.snd x4.snd.fst.snd) (AV.slice (some ((X none).n H4, (0 : Nat))) (1 : Nat) (1 : Nat))
                                                        ((X none).al H4 (AObj.cells [AV.int IntKind.u8 (120 : Int)] (5 : Nat) { whole := true })) =
                                                      some (AV.slice q2 k6 k7, H6) ∧
                                                    ∃ (x6 : Int × (Option (Nat × Nat) × Nat) × Int → AH → Nat → Prop),
                                                      (∃ (x7 : Int × (Option (Nat × Nat) × Nat) × Int),
                                                          ∃ (k8 : Nat),
                                                            [AV.int IntKind.i64 d, AV.int IntKind.i64 x4.fst, AV.slice q2 k6 k7, AV.int IntKind.i64 (0 : Int), AV.int IntKind.i64 (0 : Int)] =
                                                                [AV.int IntKind.i64 d, AV.int IntKind.i64 x7.fst, AV.slice x7.snd.fst.fst x7.snd.fst.snd x7.snd.fst.snd, AV.int IntKind.i64 (0 : Int), AV.int IntKind.i64 x7.snd.snd] ∧
                                                              x6 x7 H6 k8) ∧
                                                        ∀ (x8 : Int × (Option (Nat × Nat) × Nat) × Int) (H7 : AH) (k9 : Nat),
                                                          x6 x8 H7 k9 →
                                                            bif decide (x8.snd.snd < x8.fst) then
                                                              ∃ (q3 : Option (Nat × Nat)),
                                                                ∃ (k10 : Nat),
                                                                  ∃ (k11 : Nat),
                                                                    ∃ (H8 : AH),
                                                                      (X none).app (39 : Nat) (9 : Nat) (AV.slice x8.snd.fst.fst x8.snd.fst.snd x8.snd.fst.snd) (AV.str [(60 : UInt8), (47 : UInt8), (105 : UInt8), (62 : UInt8)]) H7 =
                                                                          some (AV.slice q3 k10 k11, H8) ∧
                                                                        ∃ (x9 : Int × (Option (Nat × Nat) × Nat) × Int),
                                                                          ∃ (k12 : Nat),
                                                                            k12 < k9 ∧
                                                                              [AV.int IntKind.i64 d, AV.int IntKind.i64 x8.fst, AV.slice q3 k10 k11, AV.int IntKind.i64 (0 : Int),
                                                                                    AV.int IntKind.i64 ((X none).wrap IntKind.i64 (x8.snd.snd + (1 : Int)))] =
                                                                                  [AV.int IntKind.i64 d, AV.int IntKind.i64 x9.fst, AV.slice x9.snd.fst.fst x9.snd.fst.snd x9.snd.fst.snd, AV.int IntKind.i64 (0 : Int),
                                                                                    AV.int IntKind.i64 x9.snd.snd] ∧
                                                                                x6 x9 H8 k12
                                                            else
                                                              ((1 : Nat) ≤ (16777216 : Nat) ∧ (1 : Nat) = (1 : Nat) ∧ (0 : Nat) < (1 : Nat) ∧ true = true ∧ true = true) ∧
                                                                ∃ (q4 : Option (Nat × Nat)),
                                                                  ∃ (k13 : Nat),
                                                                    ∃ (k14 : Nat),
                                                                      ∃ (H9 : AH),
                                                                        (X none).app (39 : Nat) (39 : Nat) (AV.slice x8.snd.fst.fst x8.snd.fst.snd x8.snd.fst.snd) (AV.slice (some ((X none).n H7, (0 : Nat))) (1 : Nat) (1 : Nat))
                                                                              ((X none).al H7 (AObj.cells [AV.int IntKind.u8 (121 : Int)] (5 : Nat) { whole := true })) =
                                                                            some (AV.slice q4 k13 k14, H9) ∧
                                                                          ∃ (x10 : Int × (Option (Nat × Nat) × Nat) × Int),
                                                                            ∃ (_k15 : Nat),
                                                                              True ∧
                                                                                [AV.int IntKind.i64 d, AV.int IntKind.i64 x8.fst, AV.slice q4 k13 k14, AV.int IntKind.i64 (if (1 : Int) < x8.fst then (1 : Int) else x8.fst)] =
                                                                                    [AV.int IntKind.i64 d, AV.int IntKind.i64 x10.fst, AV.slice x10.snd.fst.fst x10.snd.fst.snd x10.snd.fst.snd, AV.int IntKind.i64 x10.snd.snd] ∧
                                                                                  x1 x10 H9
                            else
                              bif d == (3 : Int) then
                                ∃ (x11 : Int × (Option (Nat × Nat) × Nat) × Int → AH → Nat → Prop),
                                  (∃ (x12 : Int × (Option (Nat × Nat) × Nat) × Int),
                                      ∃ (k16 : Nat),
                                        [AV.int IntKind.i64 d, AV.int IntKind.i64 n1, AV.slice none (0 : Nat) (0 : Nat), AV.int IntKind.i64 (0 : Int), AV.int IntKind.i64 (0 : Int)] =
                                            [AV.int IntKind.i64 d, AV.int IntKind.i64 x12.fst, AV.slice x12.snd.fst.fst x12.snd.fst.snd x12.snd.fst.snd, AV.int IntKind.i64 (0 : Int), AV.int IntKind.i64 x12.snd.snd] ∧
                                          x11 x12 H3 k16) ∧
                                    ∀ (x13 : Int × (Option (Nat × Nat) × Nat) × Int) (H10 : AH) (k17 : Nat),
                                      x11 x13 H10 k17 →
                                        bif decide (x13.snd.snd < x13.fst) then
                                          ∃ (q5 : Option (Nat × Nat)),
                                            ∃ (k18 : Nat),
                                              ∃ (k19 : Nat),
                                                ∃ (H11 : AH),
                                                  (X none).app (39 : Nat) (9 : Nat) (AV.slice x13.snd.fst.fst x13.snd.fst.snd x13.snd.fst.snd) (AV.str [(123 : UInt8), (121 : UInt8), (58 : UInt8), (105 : UInt8), (125 : UInt8)]) H10 =
                                                      some (AV.slice q5 k18 k19, H11) ∧
                                                    ∃ (x14 : Int × (Option (Nat × Nat) × Nat) × Int),
                                                      ∃ (k20 : Nat),
                                                        k20 < k17 ∧
                                                          [AV.int IntKind.i64 d, AV.int IntKind.i64 x13.fst, AV.slice q5 k18 k19, AV.int IntKind.i64 (0 : Int), AV.int IntKind.i64 ((X none).wrap IntKind.i64 (x13.snd.snd + (1 : Int)))] =
                                                              [AV.int IntKind.i64 d, AV.int IntKind.i64 x14.fst, AV.slice x14.snd.fst.fst x14.snd.fst.snd x14.snd.fst.snd, AV.int IntKind.i64 (0 : Int), AV.int IntKind.i64 x14.snd.snd] ∧
                                                            x11 x14 H11 k20
                                        else
                                          ∃ (q6 : Option (Nat × Nat)),
                                            ∃ (k21 : Nat),
                                              ∃ (k22 : Nat),
                                                ∃ (H12 : AH),
                                                  (X none).app (39 : Nat) (9 : Nat) (AV.slice x13.snd.fst.fst x13.snd.fst.snd x13.snd.fst.snd) (AV.str [(120 : UInt8), (124 : UInt8), (121 : UInt8)]) H10 = some (AV.slice q6 k21 k22, H12) ∧
                                                    ∃ (x15 : Int × (Option (Nat × Nat) × Nat) × Int),
                                                      ∃ (_k23 : Nat),
                                                        True ∧
                                                          [AV.int IntKind.i64 d, AV.int IntKind.i64 x13.fst, AV.slice q6 k21 k22, AV.int IntKind.i64 (if (1 : Int) < x13.fst then (1 : Int) else x13.fst)] =
                                                              [AV.int IntKind.i64 d, AV.int IntKind.i64 x15.fst, AV.slice x15.snd.fst.fst x15.snd.fst.snd x15.snd.fst.snd, AV.int IntKind.i64 x15.snd.snd] ∧
                                                            x1 x15 H12
                              else
                                bif d == (4 : Int) then
                                  ∃ (q7 : Option (Nat × Nat)),
                                    ∃ (k24 : Nat),
                                      ∃ (k25 : Nat),
                                        ∃ (H13 : AH),
                                          (X none).app (39 : Nat) (9 : Nat) (AV.slice none (0 : Nat) (0 : Nat)) (AV.str [(123 : UInt8)]) H3 = some (AV.slice q7 k24 k25, H13) ∧
                                            ∃ (x16 : Int × (Option (Nat × Nat) × Nat) × Int → AH → Nat → Prop),
                                              (∃ (x17 : Int × (Option (Nat × Nat) × Nat) × Int),
                                                  ∃ (k26 : Nat),
                                                    [AV.int IntKind.i64 d, AV.int IntKind.i64 n1, AV.slice q7 k24 k25, AV.int IntKind.i64 (0 : Int), AV.int IntKind.i64 (0 : Int)] =
                                                        [AV.int IntKind.i64 d, AV.int IntKind.i64 x17.fst, AV.slice x17.snd.fst.fst x17.snd.fst.snd x17.snd.fst.snd, AV.int IntKind.i64 (0 : Int), AV.int IntKind.i64 x17.snd.snd] ∧
                                                      x16 x17 H13 k26) ∧
                                                ∀ (x18 : Int × (Option (Nat × Nat) × Nat) × Int) (H14 : AH) (k27 : Nat),
                                                  x16 x18 H14 k27 →
                                                    bif decide (x18.snd.snd < x18.fst) then
                                                      ∃ (q8 : Option (Nat × Nat)),
                                                        ∃ (k28 : Nat),
                                                          ∃ (k29 : Nat),
                                                            ∃ (H15 : AH),
                                                              (X none).app (39 : Nat) (9 : Nat) (AV.slice x18.snd.fst.fst x18.snd.fst.snd x18.snd.fst.snd)
                                                                    (AV.str [(92 : UInt8), (98 : UInt8), (49 : UInt8), (92 : UInt8), (105 : UInt8), (49 : UInt8), (92 : UInt8), (98 : UInt8), (48 : UInt8)]) H14 =
                                                                  some (AV.slice q8 k28 k29, H15) ∧
                                                                ∃ (x19 : Int × (Option (Nat × Nat) × Nat) × Int),
                                                                  ∃ (k30 : Nat),
                                                                    k30 < k27 ∧
                                                                      [AV.int IntKind.i64 d, AV.int IntKind.i64 x18.fst, AV.slice q8 k28 k29, AV.int IntKind.i64 (0 : Int),
                                                                            AV.int IntKind.i64 ((X none).wrap IntKind.i64 (x18.snd.snd + (1 : Int)))] =
                                                                          [AV.int IntKind.i64 d, AV.int IntKind.i64 x19.fst, AV.slice x19.snd.fst.fst x19.snd.fst.snd x19.snd.fst.snd, AV.int IntKind.i64 (0 : Int),
                                                                            AV.int IntKind.i64 x19.snd.snd] ∧
                                                                        x16 x19 H15 k30
                                                    else
                                                      ∃ (q9 : Option (Nat × Nat)),
                                                        ∃ (k31 : Nat),
                                                          ∃ (k32 : Nat),
                                                            ∃ (H16 : AH),
                                                              (X none).app (39 : Nat) (9 : Nat) (AV.slice x18.snd.fst.fst x18.snd.fst.snd x18.snd.fst.snd)
                                                                    (AV.str [(125 : UInt8), (120 : UInt8), (123 : UInt8), (92 : UInt8), (105 : UInt8), (48 : UInt8), (125 : UInt8), (121 : UInt8)]) H14 =
                                                                  some (AV.slice q9 k31 k32, H16) ∧
                                                                bif x18.fst == (0 : Int) then
                                                                  ((7 : Nat) ≤ (16777216 : Nat) ∧ (1 : Nat) = (1 : Nat) ∧ (0 : Nat) < (1 : Nat) ∧ true = true ∧ true = true) ∧
                                                                    ∃ (H17 : AH),
                                                                      (X none).cvs (39 : Nat) (39 : Nat) (AV.slice (some ((X none).n H16, (0 : Nat))) (7 : Nat) (7 : Nat))
                                                                            ((X none).al H16
                                                                              (AObj.cells
                                                                                [AV.int IntKind.u8 (120 : Int), AV.int IntKind.u8 (123 : Int), AV.int IntKind.u8 (92 : Int), AV.int IntKind.u8 (105 : Int), AV.int IntKind.u8 (48 : Int),
                                                                                  AV.int IntKind.u8 (125 : Int), AV.int IntKind.u8 (121 : Int)]
                                                                                (5 : Nat) { whole := true })) =
                                                                          some (AV.slice (some ((X none).n H16, (0 : Nat))) (7 : Nat) (7 : Nat), H17) ∧
                                                                        ∃ (x20 : Int × (Option (Nat × Nat) × Nat) × Int),
                                                                          ∃ (_k33 : Nat),
                                                                            True ∧
                                                                              [AV.int IntKind.i64 d, AV.int IntKind.i64 x18.fst, AV.slice (some ((X none).n H16, (0 : Nat))) (7 : Nat) (7 : Nat),
                                                                                    AV.int IntKind.i64 (if (1 : Int) < x18.fst then (1 : Int) else x18.fst)] =
                                                                                  [AV.int IntKind.i64 d, AV.int IntKind.i64 x20.fst, AV.slice x20.snd.fst.fst x20.snd.fst.snd x20.snd.fst.snd, AV.int IntKind.i64 x20.snd.snd] ∧
                                                                                x1 x20 H17
                                                                else
                                                                  ∃ (x21 : Int × (Option (Nat × Nat) × Nat) × Int),
                                                                    ∃ (_k34 : Nat),
                                                                      True ∧
                                                                        [AV.int IntKind.i64 d, AV.int IntKind.i64 x18.fst, AV.slice q9 k31 k32, AV.int IntKind.i64 (if (1 : Int) < x18.fst then (1 : Int) else x18.fst)] =
                                                                            [AV.int IntKind.i64 d, AV.int IntKind.i64 x21.fst, AV.slice x21.snd.fst.fst x21.snd.fst.snd x21.snd.fst.snd, AV.int IntKind.i64 x21.snd.snd] ∧
                                                                          x1 x21 H16
                                else
                                  ∃ (x22 : Int × (Option (Nat × Nat) × Nat) × Int),
                                    ∃ (_k35 : Nat),
                                      True ∧
                                        [AV.int IntKind.i64 d, AV.int IntKind.i64 n1, AV.slice none (0 : Nat) (0 : Nat), AV.int IntKind.i64 (0 : Int)] =
                                            [AV.int IntKind.i64 d, AV.int IntKind.i64 x22.fst, AV.slice x22.snd.fst.fst x22.snd.fst.snd x22.snd.fst.snd, AV.int IntKind.i64 x22.snd.snd] ∧
                                          x1 x22 H3
                          else
                            bif d == (2 : Int) then
                              ∃ (x23 : Int × (Option (Nat × Nat) × Nat) × Int → AH → Nat → Prop),
                                (∃ (x24 : Int × (Option (Nat × Nat) × Nat) × Int),
                                    ∃ (k36 : Nat),
                                      [AV.int IntKind.i64 d, AV.int IntKind.i64 n1, AV.slice none (0 : Nat) (0 : Nat), AV.int IntKind.i64 (0 : Int), AV.int IntKind.i64 (0 : Int)] =
                                          [AV.int IntKind.i64 d, AV.int IntKind.i64 x24.fst, AV.slice x24.snd.fst.fst x24.snd.fst.snd x24.snd.fst.snd, AV.int IntKind.i64 (0 : Int), AV.int IntKind.i64 x24.snd.snd] ∧
                                        x23 x24 H3 k36) ∧
                                  ∀ (x25 : Int × (Option (Nat × Nat) × Nat) × Int) (H18 : AH) (k37 : Nat),
                                    x23 x25 H18 k37 →
                                      bif decide (x25.snd.snd < x25.fst) then
                                        ∃ (q10 : Option (Nat × Nat)),
                                          ∃ (k38 : Nat),
                                            ∃ (k39 : Nat),
                                              ∃ (H19 : AH),
                                                (X none).app (39 : Nat) (9 : Nat) (AV.slice x25.snd.fst.fst x25.snd.fst.snd x25.snd.fst.snd) (AV.str [(60 : UInt8), (105 : UInt8), (62 : UInt8)]) H18 = some (AV.slice q10 k38 k39, H19) ∧
                                                  ∃ (x26 : Int × (Option (Nat × Nat) × Nat) × Int),
                                                    ∃ (k40 : Nat),
                                                      k40 < k37 ∧
                                                        [AV.int IntKind.i64 d, AV.int IntKind.i64 x25.fst, AV.slice q10 k38 k39, AV.int IntKind.i64 (0 : Int), AV.int IntKind.i64 ((X none).wrap IntKind.i64 (x25.snd.snd + (1 : Int)))] =
                                                            [AV.int IntKind.i64 d, AV.int IntKind.i64 x26.fst, AV.slice x26.snd.fst.fst x26.snd.fst.snd x26.snd.fst.snd, AV.int IntKind.i64 (0 : Int), AV.int IntKind.i64 x26.snd.snd] ∧
                                                          x23 x26 H19 k40
                                      else
                                        ((1 : Nat) ≤ (16777216 : Nat) ∧ (1 : Nat) = (1 : Nat) ∧ (0 : Nat) < (1 : Nat) ∧ true = true ∧ true = true) ∧
                                          ∃ (q11 : Option (Nat × Nat)),
                                            ∃ (k41 : Nat),
                                              ∃ (k42 : Nat),
                                                ∃ (H20 : AH),
                                                  (X none).app (39 : Nat) (39 : Nat) (AV.slice x25.snd.fst.fst x25.snd.fst.snd x25.snd.fst.snd) (AV.slice (some ((X none).n H18, (0 : Nat))) (1 : Nat) (1 : Nat))
                                                        ((X none).al H18 (AObj.cells [AV.int IntKind.u8 (120 : Int)] (5 : Nat) { whole := true })) =
                                                      some (AV.slice q11 k41 k42, H20) ∧
                                                    ∃ (x27 : Int × (Option (Nat × Nat) × Nat) × Int → AH → Nat → Prop),
                                                      (∃ (x28 : Int × (Option (Nat × Nat) × Nat) × Int),
                                                          ∃ (k43 : Nat),
                                                            [AV.int IntKind.i64 d, AV.int IntKind.i64 x25.fst, AV.slice q11 k41 k42, AV.int IntKind.i64 (0 : Int), AV.int IntKind.i64 (0 : Int)] =
                                                                [AV.int IntKind.i64 d, AV.int IntKind.i64 x28.fst, AV.slice x28.snd.fst.fst x28.snd.fst.snd x28.snd.fst.snd, AV.int IntKind.i64 (0 : Int), AV.int IntKind.i64 x28.snd.snd] ∧
                                                              x27 x28 H20 k43) ∧
                                                        ∀ (x29 : Int × (Option (Nat × Nat) × Nat) × Int) (H21 : AH) (k44 : Nat),
                                                          x27 x29 H21 k44 →
                                                            bif decide (x29.snd.snd < x29.fst) then
                                                              ∃ (q12 : Option (Nat × Nat)),
                                                                ∃ (k45 : Nat),
                                                                  ∃ (k46 : Nat),
                                                                    ∃ (H22 : AH),
                                                                      (X none).app (39 : Nat) (9 : Nat) (AV.slice x29.snd.fst.fst x29.snd.fst.snd x29.snd.fst.snd) (AV.str [(60 : UInt8), (47 : UInt8), (105 : UInt8), (62 : UInt8)]) H21 =
                                                                          some (AV.slice q12 k45 k46, H22) ∧
                                                                        ∃ (x30 : Int × (Option (Nat × Nat) × Nat) × Int),
                                                                          ∃ (k47 : Nat),
                                                                            k47 < k44 ∧
                                                                              [AV.int IntKind.i64 d, AV.int IntKind.i64 x29.fst, AV.slice q12 k45 k46, AV.int IntKind.i64 (0 : Int),
                                                                                    AV.int IntKind.i64 ((X none).wrap IntKind.i64 (x29.snd.snd + (1 : Int)))] =
                                                                                  [AV.int IntKind.i64 d, AV.int IntKind.i64 x30.fst, AV.slice x30.snd.fst.fst x30.snd.fst.snd x30.snd.fst.snd, AV.int IntKind.i64 (0 : Int),
                                                                                    AV.int IntKind.i64 x30.snd.snd] ∧
                                                                                x27 x30 H22 k47
                                                            else
                                                              ((1 : Nat) ≤ (16777216 : Nat) ∧ (1 : Nat) = (1 : Nat) ∧ (0 : Nat) < (1 : Nat) ∧ true = true ∧ true = true) ∧
                                                                ∃ (q13 : Option (Nat × Nat)),
                                                                  ∃ (k48 : Nat),
                                                                    ∃ (k49 : Nat),
                                                                      ∃ (H23 : AH),
                                                                        (X none).app (39 : Nat) (39 : Nat) (AV.slice x29.snd.fst.fst x29.snd.fst.snd x29.snd.fst.snd) (AV.slice (some ((X none).n H21, (0 : Nat))) (1 : Nat) (1 : Nat))
                                                                              ((X none).al H21 (AObj.cells [AV.int IntKind.u8 (121 : Int)] (5 : Nat) { whole := true })) =
                                                                            some (AV.slice q13 k48 k49, H23) ∧
                                                                          ∃ (x31 : Int × (Option (Nat × Nat) × Nat) × Int),
                                                                            ∃ (_k50 : Nat),
                                                                              True ∧
                                                                                [AV.int IntKind.i64 d, AV.int IntKind.i64 x29.fst, AV.slice q13 k48 k49, AV.int IntKind.i64 (if (1 : Int) < x29.fst then (1 : Int) else x29.fst)] =
                                                                                    [AV.int IntKind.i64 d, AV.int IntKind.i64 x31.fst, AV.slice x31.snd.fst.fst x31.snd.fst.snd x31.snd.fst.snd, AV.int IntKind.i64 x31.snd.snd] ∧
                                                                                  x1 x31 H23
                            else
                              bif d == (3 : Int) then
                                ∃ (x32 : Int × (Option (Nat × Nat) × Nat) × Int → AH → Nat → Prop),
                                  (∃ (x33 : Int × (Option (Nat × Nat) × Nat) × Int),
                                      ∃ (k51 : Nat),
                                        [AV.int IntKind.i64 d, AV.int IntKind.i64 n1, AV.slice none (0 : Nat) (0 : Nat), AV.int IntKind.i64 (0 : Int), AV.int IntKind.i64 (0 : Int)] =
                                            [AV.int IntKind.i64 d, AV.int IntKind.i64 x33.fst, AV.slice x33.snd.fst.fst x33.snd.fst.snd x33.snd.fst.snd, AV.int IntKind.i64 (0 : Int), AV.int IntKind.i64 x33.snd.snd] ∧
                                          x32 x33 H3 k51) ∧
                                    ∀ (x34 : Int × (Option (Nat × Nat) × Nat) × Int) (H24 : AH) (k52 : Nat),
                                      x32 x34 H24 k52 →
                                        bif decide (x34.snd.snd < x34.fst) then
                                          ∃ (q14 : Option (Nat × Nat)),
                                            ∃ (k53 : Nat),
                                              ∃ (k54 : Nat),
                                                ∃ (H25 : AH),
                                                  (X none).app (39 : Nat) (9 : Nat) (AV.slice x34.snd.fst.fst x34.snd.fst.snd x34.snd.fst.snd) (AV.str [(123 : UInt8), (121 : UInt8), (58 : UInt8), (105 : UInt8), (125 : UInt8)]) H24 =
                                                      some (AV.slice q14 k53 k54, H25) ∧
                                                    ∃ (x35 : Int × (Option (Nat × Nat) × Nat) × Int),
                                                      ∃ (k55 : Nat),
                                                        k55 < k52 ∧
                                                          [AV.int IntKind.i64 d, AV.int IntKind.i64 x34.fst, AV.slice q14 k53 k54, AV.int IntKind.i64 (0 : Int), AV.int IntKind.i64 ((X none).wrap IntKind.i64 (x34.snd.snd + (1 : Int)))] =
                                                              [AV.int IntKind.i64 d, AV.int IntKind.i64 x35.fst, AV.slice x35.snd.fst.fst x35.snd.fst.snd x35.snd.fst.snd, AV.int IntKind.i64 (0 : Int), AV.int IntKind.i64 x35.snd.snd] ∧
                                                            x32 x35 H25 k55
                                        else
                                          ∃ (q15 : Option (Nat × Nat)),
                                            ∃ (k56 : Nat),
                                              ∃ (k57 : Nat),
                                                ∃ (H26 : AH),
                                                  (X none).app (39 : Nat) (9 : Nat) (AV.slice x34.snd.fst.fst x34.snd.fst.snd x34.snd.fst.snd) (AV.str [(120 : UInt8), (124 : UInt8), (121 : UInt8)]) H24 = some (AV.slice q15 k56 k57, H26) ∧
                                                    ∃ (x36 : Int × (Option (Nat × Nat) × Nat) × Int),
                                                      ∃ (_k58 : Nat),
                                                        True ∧
                                                          [AV.int IntKind.i64 d, AV.int IntKind.i64 x34.fst, AV.slice q15 k56 k57, AV.int IntKind.i64 (if (1 : Int) < x34.fst then (1 : Int) else x34.fst)] =
                                                              [AV.int IntKind.i64 d, AV.int IntKind.i64 x36.fst, AV.slice x36.snd.fst.fst x36.snd.fst.snd x36.snd.fst.snd, AV.int IntKind.i64 x36.snd.snd] ∧
                                                            x1 x36 H26
                              else
                                bif d == (4 : Int) then
                                  ∃ (q16 : Option (Nat × Nat)),
                                    ∃ (k59 : Nat),
                                      ∃ (k60 : Nat),
                                        ∃ (H27 : AH),
                                          (X none).app (39 : Nat) (9 : Nat) (AV.slice none (0 : Nat) (0 : Nat)) (AV.str [(123 : UInt8)]) H3 = some (AV.slice q16 k59 k60, H27) ∧
                                            ∃ (x37 : Int × (Option (Nat × Nat) × Nat) × Int → AH → Nat → Prop),
                                              (∃ (x38 : Int × (Option (Nat × Nat) × Nat) × Int),
                                                  ∃ (k61 : Nat),
                                                    [AV.int IntKind.i64 d, AV.int IntKind.i64 n1, AV.slice q16 k59 k60, AV.int IntKind.i64 (0 : Int), AV.int IntKind.i64 (0 : Int)] =
                                                        [AV.int IntKind.i64 d, AV.int IntKind.i64 x38.fst, AV.slice x38.snd.fst.fst x38.snd.fst.snd x38.snd.fst.snd, AV.int IntKind.i64 (0 : Int), AV.int IntKind.i64 x38.snd.snd] ∧
                                                      x37 x38 H27 k61) ∧
                                                ∀ (x39 : Int × (Option (Nat × Nat) × Nat) × Int) (H28 : AH) (k62 : Nat),
                                                  x37 x39 H28 k62 →
                                                    bif decide (x39.snd.snd < x39.fst) then
                                                      ∃ (q17 : Option (Nat × Nat)),
                                                        ∃ (k63 : Nat),
                                                          ∃ (k64 : Nat),
                                                            ∃ (H29 : AH),
                                                              (X none).app (39 : Nat) (9 : Nat) (AV.slice x39.snd.fst.fst x39.snd.fst.snd x39.snd.fst.snd)
                                                                    (AV.str [(92 : UInt8), (98 : UInt8), (49 : UInt8), (92 : UInt8), (105 : UInt8), (49 : UInt8), (92 : UInt8), (98 : UInt8), (48 : UInt8)]) H28 =
                                                                  some (AV.slice q17 k63 k64, H29) ∧
                                                                ∃ (x40 : Int × (Option (Nat × Nat) × Nat) × Int),
                                                                  ∃ (k65 : Nat),
                                                                    k65 < k62 ∧
                                                                      [AV.int IntKind.i64 d, AV.int IntKind.i64 x39.fst, AV.slice q17 k63 k64, AV.int IntKind.i64 (0 : Int),
                                                                            AV.int IntKind.i64 ((X none).wrap IntKind.i64 (x39.snd.snd + (1 : Int)))] =
                                                                          [AV.int IntKind.i64 d, AV.int IntKind.i64 x40.fst, AV.slice x40.snd.fst.fst x40.snd.fst.snd x40.snd.fst.snd, AV.int IntKind.i64 (0 : Int),
                                                                            AV.int IntKind.i64 x40.snd.snd] ∧
                                                                        x37 x40 H29 k65
                                                    else
                                                      ∃ (q18 : Option (Nat × Nat)),
                                                        ∃ (k66 : Nat),
                                                          ∃ (k67 : Nat),
                                                            ∃ (H30 : AH),
                                                              (X none).app (39 : Nat) (9 : Nat) (AV.slice x39.snd.fst.fst x39.snd.fst.snd x39.snd.fst.snd)
                                                                    (AV.str [(125 : UInt8), (120 : UInt8), (123 : UInt8), (92 : UInt8), (105 : UInt8), (48 : UInt8), (125 : UInt8), (121 : UInt8)]) H28 =
                                                                  some (AV.slice q18 k66 k67, H30) ∧
                                                                bif x39.fst == (0 : Int) then
                                                                  ((7 : Nat) ≤ (16777216 : Nat) ∧ (1 : Nat) = (1 : Nat) ∧ (0 : Nat) < (1 : Nat) ∧ true = true ∧ true = true) ∧
                                                                    ∃ (H31 : AH),
                                                                      (X none).cvs (39 : Nat) (39 : Nat) (AV.slice (some ((X none).n H30, (0 : Nat))) (7 : Nat) (7 : Nat))
                                                                            ((X none).al H30
                                                                              (AObj.cells
                                                                                [AV.int IntKind.u8 (120 : Int), AV.int IntKind.u8 (123 : Int), AV.int IntKind.u8 (92 : Int), AV.int IntKind.u8 (105 : Int), AV.int IntKind.u8 (48 : Int),
                                                                                  AV.int IntKind.u8 (125 : Int), AV.int IntKind.u8 (121 : Int)]
                                                                                (5 : Nat) { whole := true })) =
                                                                          some (AV.slice (some ((X none).n H30, (0 : Nat))) (7 : Nat) (7 : Nat), H31) ∧
                                                                        ∃ (x41 : Int × (Option (Nat × Nat) × Nat) × Int),
                                                                          ∃ (_k68 : Nat),
                                                                            True ∧
                                                                              [AV.int IntKind.i64 d, AV.int IntKind.i64 x39.fst, AV.slice (some ((X none).n H30, (0 : Nat))) (7 : Nat) (7 : Nat),
                                                                                    AV.int IntKind.i64 (if (1 : Int) < x39.fst then (1 : Int) else x39.fst)] =
                                                                                  [AV.int IntKind.i64 d, AV.int IntKind.i64 x41.fst, AV.slice x41.snd.fst.fst x41.snd.fst.snd x41.snd.fst.snd, AV.int IntKind.i64 x41.snd.snd] ∧
                                                                                x1 x41 H31
                                                                else
                                                                  ∃ (x42 : Int × (Option (Nat × Nat) × Nat) × Int),
                                                                    ∃ (_k69 : Nat),
                                                                      True ∧
                                                                        [AV.int IntKind.i64 d, AV.int IntKind.i64 x39.fst, AV.slice q18 k66 k67, AV.int IntKind.i64 (if (1 : Int) < x39.fst then (1 : Int) else x39.fst)] =
                                                                            [AV.int IntKind.i64 d, AV.int IntKind.i64 x42.fst, AV.slice x42.snd.fst.fst x42.snd.fst.snd x42.snd.fst.snd, AV.int IntKind.i64 x42.snd.snd] ∧
                                                                          x1 x42 H30
                                else
                                  ∃ (x43 : Int × (Option (Nat × Nat) × Nat) × Int),
                                    ∃ (_k70 : Nat),
                                      True ∧
                                        [AV.int IntKind.i64 d, AV.int IntKind.i64 n1, AV.slice none (0 : Nat) (0 : Nat), AV.int IntKind.i64 (0 : Int)] =
                                            [AV.int IntKind.i64 d, AV.int IntKind.i64 x43.fst, AV.slice x43.snd.fst.fst x43.snd.fst.snd x43.snd.fst.snd, AV.int IntKind.i64 x43.snd.snd] ∧
                                          x1 x43 H3) ∧
                          ∀ (x44 : Int × (Option (Nat × Nat) × Nat) × Int) (H32 : AH),
                            x1 x44 H32 →
                              ∃ (s1 : List UInt8),
                                (X none).str (AV.slice x44.snd.fst.fst x44.snd.fst.snd x44.snd.fst.snd) H32 = some s1 ∧
                                  (X none).call (12 : Nat) [AV.int IntKind.i64 d, AV.str s1] H32 fun (v4 : AV) (H33 : AH) =>
                                    ∃ (s2 : List UInt8),
                                      ∃ (q19 : Option (Nat × Nat)),
                                        ∃ (k71 : Nat),
                                          ∃ (k72 : Nat),
                                            ∃ (s3 : List UInt8),
                                              ∃ (n2 : Int),
                                                ∃ (n3 : Int),
                                                  v4 = AV.tuple [AV.agg [AV.str s2, AV.slice q19 k71 k72, AV.str s3, AV.int IntKind.i64 n2], AV.int IntKind.i64 n3] ∧
                                                    [AV.str s2, AV.slice q19 k71 k72, AV.str s3, AV.int IntKind.i64 n2].length = (4 : Nat) ∧
                                                      ∃ (H34 : AH),
                                                        (X none).wr ((X none).al H33 (AObj.cells [AV.str [], AV.slice none (0 : Nat) (0 : Nat), AV.str [], AV.int IntKind.i64 (0 : Int)] (28 : Nat) { whole := true })) ((X none).n H33)
                                                              (0 : Nat) [AV.str s2, AV.slice q19 k71 k72, AV.str s3, AV.int IntKind.i64 n2] =
                                                            some H34 ∧
                                                          ∃ (q20 : Option (Nat × Nat)),
                                                            ∃ (k73 : Nat),
                                                              ∃ (k74 : Nat),
                                                                (X none).rd1 H34 ((X none).n H33) (1 : Nat) = some (AV.slice q20 k73 k74) ∧
                                                                  bif n3 != (0 : Int) || (↑k73 : Int) != x44.snd.snd then Q (AV.bool false) H34
                                                                  else
                                                                    bif d == (3 : Int) then
                                                                      ∃ (s4 : List UInt8),
                                                                        (X none).rd1 H34 ((X none).n H33) (0 : Nat) = some (AV.str s4) ∧
                                                                          ∃ (q21 : Option (Nat × Nat)),
                                                                            ∃ (k75 : Nat),
                                                                              ∃ (k76 : Nat),
                                                                                (X none).rd1 H34 ((X none).n H33) (1 : Nat) = some (AV.slice q21 k75 k76) ∧
                                                                                  ∃ (k77 : Nat),
                                                                                    ∃ (k78 : Nat),
                                                                                      (((s4 == [(120 : UInt8), (10 : UInt8), (121 : UInt8)]) == true && (x44.fst == (0 : Int)) == false) = true →
                                                                                          q21 = some (k77, k78) ∧ (0 : Int) ≤ (0 : Int) ∧ (0 : Int) < (↑k75 : Int)) ∧
                                                                                        ∃ (n4 : Int),
                                                                                          ∃ (n5 : Int),
                                                                                            ∃ (n6 : Int),
                                                                                              ∃ (n7 : Int),
                                                                                                (((s4 == [(120 : UInt8), (10 : UInt8), (121 : UInt8)]) == true && (x44.fst == (0 : Int)) == false) = true →
                                                                                                    (X none).rdn H34 k77 (k78 + (0 : Nat)) (4 : Nat) =
                                                                                                      some [AV.int IntKind.i64 n4, AV.int IntKind.i64 n5, AV.int IntKind.i64 n6, AV.int IntKind.i64 n7]) ∧
                                                                                                  Q
                                                                                                    (AV.bool
                                                                                                      (s4 == [(120 : UInt8), (10 : UInt8), (121 : UInt8)] &&
                                                                                                        (x44.fst == (0 : Int) || n4 == (0 : Int) && (n5 == (2 : Int) && (n6 == (2 : Int) && (n7 == (0 : Int) && true))))))
                                                                                                    H34
                                                                    else
                                                                      ∃ (s5 : List UInt8),
                                                                        (X none).rd1 H34 ((X none).n H33) (0 : Nat) = some (AV.str s5) ∧
                                                                          ∃ (q22 : Option (Nat × Nat)),
                                                                            ∃ (k79 : Nat),
                                                                              ∃ (k80 : Nat),
                                                                                (X none).rd1 H34 ((X none).n H33) (1 : Nat) = some (AV.slice q22 k79 k80) ∧
                                                                                  ∃ (k81 : Nat),
                                                                                    ∃ (k82 : Nat),
                                                                                      (((s5 == [(120 : UInt8), (121 : UInt8)]) == true && (x44.fst == (0 : Int)) == false) = true →
                                                                                          q22 = some (k81, k82) ∧ (0 : Int) ≤ (0 : Int) ∧ (0 : Int) < (↑k79 : Int)) ∧
                                                                                        ∃ (n8 : Int),
                                                                                          ∃ (n9 : Int),
                                                                                            ∃ (n10 : Int),
                                                                                              ∃ (n11 : Int),
                                                                                                (((s5 == [(120 : UInt8), (121 : UInt8)]) == true && (x44.fst == (0 : Int)) == false) = true →
                                                                                                    (X none).rdn H34 k81 (k82 + (0 : Nat)) (4 : Nat) =
                                                                                                      some [AV.int IntKind.i64 n8, AV.int IntKind.i64 n9, AV.int IntKind.i64 n10, AV.int IntKind.i64 n11]) ∧
                                                                                                  Q
                                                                                                    (AV.bool
                                                                                                      (s5 == [(120 : UInt8), (121 : UInt8)] &&
                                                                                                        (x44.fst == (0 : Int) || n8 == (0 : Int) && (n9 == (1 : Int) && (n10 == (2 : Int) && (n11 == (0 : Int) && true))))))
                                                                                                    H34) := by kernel_rfl

end Go.Proofs.YtlkdhhkncoekgaaDoor

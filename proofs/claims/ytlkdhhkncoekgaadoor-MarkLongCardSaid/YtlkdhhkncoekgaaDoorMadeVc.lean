/- What the making of spans asks -/
import Derived.Test.YtlkdhhkncoekgaaDoorAmTri
import Derived.Test.YtlkdhhkncoekgaaDoorTabs
namespace Go.Proofs.YtlkdhhkncoekgaaDoor
open Go.Am Go

theorem made2_vc (X : Option Nat → Atoms) (It : FuncId → List AV → List AV → (AH → Prop) → List (List AV) → Prop) (q : Option (Nat × Nat)) (k : Nat) (H : AH) (Q : AV → AH → Prop) : (vcG X It Tryd.prog [⟨4, Int × (Option (Nat × Nat) × Nat) × (Option (Nat × Nat) × Nat), [0, 3, 4, 5], fun x => [.slice q k k, .slice x.2.1.1 x.2.1.2 x.2.1.2, .slice x.2.2.1 x.2.2.2 x.2.2.2, .int .i64 x.1], fun _ _ _ => True⟩, ⟨8, (Int × (Option (Nat × Nat) × Nat) × (Option (Nat × Nat) × Nat)) × Int × Int, [0, 3, 4, 5, 6, 7], fun x => [.slice q k k, .slice x.1.2.1.1 x.1.2.1.2 x.1.2.1.2, .slice x.1.2.2.1 x.1.2.2.2 x.1.2.2.2, .int .i64 x.1.1, .int .i64 x.2.1, .int .i64 x.2.2], fun _ _ _ => True⟩, ⟨11, ((Int × (Option (Nat × Nat) × Nat) × (Option (Nat × Nat) × Nat)) × Int × Int) × Int × Int, [0, 3, 4, 5, 6, 7, 8, 9], fun x => [.slice q k k, .slice x.1.1.2.1.1 x.1.1.2.1.2 x.1.1.2.1.2, .slice x.1.1.2.2.1 x.1.1.2.2.2 x.1.1.2.2.2, .int .i64 x.1.1.1, .int .i64 x.1.2.1, .int .i64 x.1.2.2, .int .i64 x.2.1, .int .i64 x.2.2], fun _ _ _ => True⟩, ⟨200013, ((Int × (Option (Nat × Nat) × Nat) × (Option (Nat × Nat) × Nat)) × Int × Int) × Int × Int, [0, 3, 4, 5, 6, 7, 8, 9], fun x => [.slice q k k, .slice x.1.1.2.1.1 x.1.1.2.1.2 x.1.1.2.1.2, .slice x.1.1.2.2.1 x.1.1.2.2.2 x.1.1.2.2.2, .int .i64 x.1.1.1, .int .i64 x.1.2.1, .int .i64 x.1.2.2, .int .i64 x.2.1, .int .i64 x.2.2], fun _ _ _ => True⟩, ⟨200017, ((Int × (Option (Nat × Nat) × Nat) × (Option (Nat × Nat) × Nat)) × Int × Int) × Nat, [0, 3, 4, 5, 6, 9, 10], fun x => [.slice q k k, .slice x.1.1.2.1.1 x.1.1.2.1.2 x.1.1.2.1.2, .slice x.1.1.2.2.1 x.1.1.2.2.2 x.1.1.2.2.2, .int .i64 x.1.1.1, .int .i64 x.1.2.1, .int .i64 x.1.2.2, .ptr (some (x.2, 0))], fun _ _ _ => True⟩, ⟨200018, (Int × (Option (Nat × Nat) × Nat) × (Option (Nat × Nat) × Nat)) × Int × Int, [0, 3, 4, 5, 6, 9], fun x => [.slice q k k, .slice x.1.2.1.1 x.1.2.1.2 x.1.2.1.2, .slice x.1.2.2.1 x.1.2.2.2 x.1.2.2.2, .int .i64 x.1.1, .int .i64 x.2.1, .int .i64 x.2.2], fun _ _ _ => True⟩, ⟨20, (Int × (Option (Nat × Nat) × Nat) × (Option (Nat × Nat) × Nat)) × (Option (Nat × Nat) × Nat × Nat) × Int × Int, [0, 3, 4, 5, 76, 77, 78], fun x => [.slice q k k, .slice x.1.2.1.1 x.1.2.1.2 x.1.2.1.2, .slice x.1.2.2.1 x.1.2.2.2 x.1.2.2.2, .int .i64 x.1.1, .slice x.2.1.1 x.2.1.2.1 x.2.1.2.2, .int .i64 x.2.2.1, .int .i64 x.2.2.2], fun _ _ _ => True⟩] [] 93 [.slice q k k] H Q) =
  (∃ (q1 : Option (Nat × Nat)),
  ∃ (k1 : Nat),
    ∃ (k2 : Nat),
      ∃ (H1 : AH),
        (X none).mks (129 : Nat) ((X none).wrap IntKind.i64 ((↑k : Int) + (1 : Int))) ((X none).wrap IntKind.i64 ((↑k : Int) + (1 : Int))) H = some (AV.slice q1 k1 k2, H1) ∧
          ∃ (x1 : Int × (Option (Nat × Nat) × Nat) × Option (Nat × Nat) × Nat → AH → Nat → Prop),
            (∃ (x2 : Int × (Option (Nat × Nat) × Nat) × Option (Nat × Nat) × Nat),
                ∃ (k3 : Nat),
                  [AV.slice q k k, AV.slice q1 k1 k2, AV.slice none (0 : Nat) (0 : Nat), AV.int IntKind.i64 (1 : Int)] =
                      [AV.slice q k k, AV.slice x2.snd.fst.fst x2.snd.fst.snd x2.snd.fst.snd, AV.slice x2.snd.snd.fst x2.snd.snd.snd x2.snd.snd.snd, AV.int IntKind.i64 x2.fst] ∧
                    x1 x2 H1 k3) ∧
              ∀ (x3 : Int × (Option (Nat × Nat) × Nat) × Option (Nat × Nat) × Nat) (H2 : AH) (k4 : Nat),
                x1 x3 H2 k4 →
                  bif decide (x3.fst ≤ (5 : Int)) then
                    ∃ (x4 : (Int × (Option (Nat × Nat) × Nat) × Option (Nat × Nat) × Nat) × Int × Int → AH → Nat → Prop),
                      (∃ (x5 : (Int × (Option (Nat × Nat) × Nat) × Option (Nat × Nat) × Nat) × Int × Int),
                          ∃ (k5 : Nat),
                            [AV.slice q k k, AV.slice x3.snd.fst.fst x3.snd.fst.snd x3.snd.fst.snd, AV.slice x3.snd.snd.fst x3.snd.snd.snd x3.snd.snd.snd, AV.int IntKind.i64 x3.fst, AV.int IntKind.i64 (↑x3.snd.snd.snd : Int),
                                  AV.int IntKind.i64 (0 : Int)] =
                                [AV.slice q k k, AV.slice x5.fst.snd.fst.fst x5.fst.snd.fst.snd x5.fst.snd.fst.snd, AV.slice x5.fst.snd.snd.fst x5.fst.snd.snd.snd x5.fst.snd.snd.snd, AV.int IntKind.i64 x5.fst.fst,
                                  AV.int IntKind.i64 x5.snd.fst, AV.int IntKind.i64 x5.snd.snd] ∧
                              x4 x5 H2 k5) ∧
                        ∀ (x6 : (Int × (Option (Nat × Nat) × Nat) × Option (Nat × Nat) × Nat) × Int × Int) (H3 : AH) (k6 : Nat),
                          x4 x6 H3 k6 →
                            bif decide (x6.snd.snd < (↑k : Int)) then
                              ∃ (k7 : Nat),
                                ∃ (k8 : Nat),
                                  (q = some (k7, k8) ∧ (0 : Int) ≤ x6.snd.snd ∧ x6.snd.snd < (↑k : Int)) ∧
                                    ∃ (b1 : Bool),
                                      ∃ (b2 : Bool),
                                        ∃ (b3 : Bool),
                                          ∃ (b4 : Bool),
                                            ∃ (n1 : Int),
                                              (X none).rdn H3 k7 (k8 + x6.snd.snd.toNat * (5 : Nat)) (5 : Nat) = some [AV.bool b1, AV.bool b2, AV.bool b3, AV.bool b4, AV.int IntKind.i64 n1] ∧
                                                (X none).call (110 : Nat) [AV.agg [AV.bool b1, AV.bool b2, AV.bool b3, AV.bool b4, AV.int IntKind.i64 n1], AV.int IntKind.i64 x6.fst.fst] H3 fun (v1 : AV) (H4 : AH) =>
                                                  ∃ (n2 : Int),
                                                    v1 = AV.int IntKind.i64 n2 ∧
                                                      ∃ (x7 : ((Int × (Option (Nat × Nat) × Nat) × Option (Nat × Nat) × Nat) × Int × Int) × Int × Int → AH → Prop),
                                                        (∃ (x8 : ((Int × (Option (Nat × Nat) × Nat) × Option (Nat × Nat) × Nat) × Int × Int) × Int × Int → AH → Nat → Prop),
                                                            (∃ (x9 : ((Int × (Option (Nat × Nat) × Nat) × Option (Nat × Nat) × Nat) × Int × Int) × Int × Int),
                                                                ∃ (k9 : Nat),
                                                                  [AV.slice q k k, AV.slice x6.fst.snd.fst.fst x6.fst.snd.fst.snd x6.fst.snd.fst.snd, AV.slice x6.fst.snd.snd.fst x6.fst.snd.snd.snd x6.fst.snd.snd.snd,
                                                                        AV.int IntKind.i64 x6.fst.fst, AV.int IntKind.i64 x6.snd.fst, AV.int IntKind.i64 x6.snd.snd, AV.int IntKind.i64 n2,
                                                                        AV.int IntKind.i64 ((X none).wrap IntKind.i64 (x6.snd.snd + (1 : Int)))] =
                                                                      [AV.slice q k k, AV.slice x9.fst.fst.snd.fst.fst x9.fst.fst.snd.fst.snd x9.fst.fst.snd.fst.snd,
                                                                        AV.slice x9.fst.fst.snd.snd.fst x9.fst.fst.snd.snd.snd x9.fst.fst.snd.snd.snd, AV.int IntKind.i64 x9.fst.fst.fst, AV.int IntKind.i64 x9.fst.snd.fst,
                                                                        AV.int IntKind.i64 x9.fst.snd.snd, AV.int IntKind.i64 x9.snd.fst, AV.int IntKind.i64 x9.snd.snd] ∧
                                                                    x8 x9 H4 k9) ∧
                                                              ∀ (x10 : ((Int × (Option (Nat × Nat) × Nat) × Option (Nat × Nat) × Nat) × Int × Int) × Int × Int) (H5 : AH) (k10 : Nat),
                                                                x8 x10 H5 k10 →
                                                                  ∃ (k11 : Nat),
                                                                    ∃ (k12 : Nat),
                                                                      ((decide (x10.snd.snd < (↑k : Int)) == true) = true → q = some (k11, k12) ∧ (0 : Int) ≤ x10.snd.snd ∧ x10.snd.snd < (↑k : Int)) ∧
                                                                        ∃ (b5 : Bool),
                                                                          ∃ (b6 : Bool),
                                                                            ∃ (b7 : Bool),
                                                                              ∃ (b8 : Bool),
                                                                                ∃ (n3 : Int),
                                                                                  ((decide (x10.snd.snd < (↑k : Int)) == true) = true →
                                                                                      (X none).rdn H5 k11 (k12 + x10.snd.snd.toNat * (5 : Nat)) (5 : Nat) = some [AV.bool b5, AV.bool b6, AV.bool b7, AV.bool b8, AV.int IntKind.i64 n3]) ∧
                                                                                    bif decide (x10.snd.snd < (↑k : Int)) == true then
                                                                                      (X none).call (110 : Nat) [AV.agg [AV.bool b5, AV.bool b6, AV.bool b7, AV.bool b8, AV.int IntKind.i64 n3], AV.int IntKind.i64 x10.fst.fst.fst] H5
                                                                                        fun (v2 : AV) (H6 : AH) =>
                                                                                        ∃ (n4 : Int),
                                                                                          v2 = AV.int IntKind.i64 n4 ∧
                                                                                            ∃ (k13 : Nat),
                                                                                              ∃ (k14 : Nat),
                                                                                                (((n4 == x10.snd.fst) == true) = true →
                                                                                                    x10.fst.fst.snd.fst.fst = some (k13, k14) ∧ (0 : Int) ≤ x10.snd.snd ∧ x10.snd.snd < (↑x10.fst.fst.snd.fst.snd : Int)) ∧
                                                                                                  ∃ (b9 : Bool),
                                                                                                    (((n4 == x10.snd.fst) == true) = true → (X none).rd1 H6 k13 (k14 + x10.snd.snd.toNat * (1 : Nat)) = some (AV.bool b9)) ∧
                                                                                                      bif n4 == x10.snd.fst && !b9 then
                                                                                                        ∃ (x11 : ((Int × (Option (Nat × Nat) × Nat) × Option (Nat × Nat) × Nat) × Int × Int) × Int × Int),
                                                                                                          ∃ (k15 : Nat),
                                                                                                            k15 < k10 ∧
                                                                                                              [AV.slice q k k, AV.slice x10.fst.fst.snd.fst.fst x10.fst.fst.snd.fst.snd x10.fst.fst.snd.fst.snd,
                                                                                                                    AV.slice x10.fst.fst.snd.snd.fst x10.fst.fst.snd.snd.snd x10.fst.fst.snd.snd.snd, AV.int IntKind.i64 x10.fst.fst.fst,
                                                                                                                    AV.int IntKind.i64 x10.fst.snd.fst, AV.int IntKind.i64 x10.fst.snd.snd, AV.int IntKind.i64 x10.snd.fst,
                                                                                                                    AV.int IntKind.i64 ((X none).wrap IntKind.i64 (x10.snd.snd + (1 : Int)))] =
                                                                                                                  [AV.slice q k k, AV.slice x11.fst.fst.snd.fst.fst x11.fst.fst.snd.fst.snd x11.fst.fst.snd.fst.snd,
                                                                                                                    AV.slice x11.fst.fst.snd.snd.fst x11.fst.fst.snd.snd.snd x11.fst.fst.snd.snd.snd, AV.int IntKind.i64 x11.fst.fst.fst,
                                                                                                                    AV.int IntKind.i64 x11.fst.snd.fst, AV.int IntKind.i64 x11.fst.snd.snd, AV.int IntKind.i64 x11.snd.fst,
                                                                                                                    AV.int IntKind.i64 x11.snd.snd] ∧
                                                                                                                x8 x11 H6 k15
                                                                                                      else
                                                                                                        ∃ (x12 : ((Int × (Option (Nat × Nat) × Nat) × Option (Nat × Nat) × Nat) × Int × Int) × Int × Int),
                                                                                                          ∃ (_k16 : Nat),
                                                                                                            True ∧
                                                                                                              [AV.slice q k k, AV.slice x10.fst.fst.snd.fst.fst x10.fst.fst.snd.fst.snd x10.fst.fst.snd.fst.snd,
                                                                                                                    AV.slice x10.fst.fst.snd.snd.fst x10.fst.fst.snd.snd.snd x10.fst.fst.snd.snd.snd, AV.int IntKind.i64 x10.fst.fst.fst,
                                                                                                                    AV.int IntKind.i64 x10.fst.snd.fst, AV.int IntKind.i64 x10.fst.snd.snd, AV.int IntKind.i64 x10.snd.fst,
                                                                                                                    AV.int IntKind.i64 x10.snd.snd] =
                                                                                                                  [AV.slice q k k, AV.slice x12.fst.fst.snd.fst.fst x12.fst.fst.snd.fst.snd x12.fst.fst.snd.fst.snd,
                                                                                                                    AV.slice x12.fst.fst.snd.snd.fst x12.fst.fst.snd.snd.snd x12.fst.fst.snd.snd.snd, AV.int IntKind.i64 x12.fst.fst.fst,
                                                                                                                    AV.int IntKind.i64 x12.fst.snd.fst, AV.int IntKind.i64 x12.fst.snd.snd, AV.int IntKind.i64 x12.snd.fst,
                                                                                                                    AV.int IntKind.i64 x12.snd.snd] ∧
                                                                                                                x7 x12 H6
                                                                                    else
                                                                                      ∃ (k17 : Nat),
                                                                                        ∃ (k18 : Nat),
                                                                                          (false = true → x10.fst.fst.snd.fst.fst = some (k17, k18) ∧ (0 : Int) ≤ x10.snd.snd ∧ x10.snd.snd < (↑x10.fst.fst.snd.fst.snd : Int)) ∧
                                                                                            ∃ (b10 : Bool),
                                                                                              (false = true → (X none).rd1 H5 k17 (k18 + x10.snd.snd.toNat * (1 : Nat)) = some (AV.bool b10)) ∧
                                                                                                ∃ (x13 : ((Int × (Option (Nat × Nat) × Nat) × Option (Nat × Nat) × Nat) × Int × Int) × Int × Int),
                                                                                                  ∃ (_k19 : Nat),
                                                                                                    True ∧
                                                                                                      [AV.slice q k k, AV.slice x10.fst.fst.snd.fst.fst x10.fst.fst.snd.fst.snd x10.fst.fst.snd.fst.snd,
                                                                                                            AV.slice x10.fst.fst.snd.snd.fst x10.fst.fst.snd.snd.snd x10.fst.fst.snd.snd.snd, AV.int IntKind.i64 x10.fst.fst.fst,
                                                                                                            AV.int IntKind.i64 x10.fst.snd.fst, AV.int IntKind.i64 x10.fst.snd.snd, AV.int IntKind.i64 x10.snd.fst,
                                                                                                            AV.int IntKind.i64 x10.snd.snd] =
                                                                                                          [AV.slice q k k, AV.slice x13.fst.fst.snd.fst.fst x13.fst.fst.snd.fst.snd x13.fst.fst.snd.fst.snd,
                                                                                                            AV.slice x13.fst.fst.snd.snd.fst x13.fst.fst.snd.snd.snd x13.fst.fst.snd.snd.snd, AV.int IntKind.i64 x13.fst.fst.fst,
                                                                                                            AV.int IntKind.i64 x13.fst.snd.fst, AV.int IntKind.i64 x13.fst.snd.snd, AV.int IntKind.i64 x13.snd.fst,
                                                                                                            AV.int IntKind.i64 x13.snd.snd] ∧
                                                                                                        x7 x13 H5) ∧
                                                          ∀ (x14 : ((Int × (Option (Nat × Nat) × Nat) × Option (Nat × Nat) × Nat) × Int × Int) × Int × Int) (H7 : AH),
                                                            x7 x14 H7 →
                                                              ∃ (x15 : (Int × (Option (Nat × Nat) × Nat) × Option (Nat × Nat) × Nat) × Int × Int → AH → Prop),
                                                                (bif x14.snd.fst != (0 : Int) then
                                                                    [AV.int IntKind.i64 x14.fst.snd.snd, AV.int IntKind.i64 x14.snd.snd, AV.int IntKind.i64 x14.fst.fst.fst, AV.int IntKind.i64 (0 : Int)].length = (4 : Nat) ∧
                                                                      ∃ (H8 : AH),
                                                                        (X none).wr
                                                                              ((X none).al H7
                                                                                (AObj.cells [AV.int IntKind.i64 (0 : Int), AV.int IntKind.i64 (0 : Int), AV.int IntKind.i64 (0 : Int), AV.int IntKind.i64 (0 : Int)] (41 : Nat)
                                                                                  { whole := true }))
                                                                              ((X none).n H7) (0 : Nat) [AV.int IntKind.i64 x14.fst.snd.snd, AV.int IntKind.i64 x14.snd.snd, AV.int IntKind.i64 x14.fst.fst.fst, AV.int IntKind.i64 (0 : Int)] =
                                                                            some H8 ∧
                                                                          ∃ (x16 : ((Int × (Option (Nat × Nat) × Nat) × Option (Nat × Nat) × Nat) × Int × Int) × Nat → AH → Prop),
                                                                            (bif x14.fst.fst.fst == (5 : Int) then
                                                                                [AV.int IntKind.i64 ((X none).wrap IntKind.i64 (x14.snd.fst - (1 : Int)))].length = (1 : Nat) ∧
                                                                                  ∃ (H9 : AH),
                                                                                    (X none).wr H8 ((X none).n H7) (3 : Nat) [AV.int IntKind.i64 ((X none).wrap IntKind.i64 (x14.snd.fst - (1 : Int)))] = some H9 ∧
                                                                                      ∃ (x17 : ((Int × (Option (Nat × Nat) × Nat) × Option (Nat × Nat) × Nat) × Int × Int) × Nat),
                                                                                        ∃ (_k20 : Nat),
                                                                                          True ∧
                                                                                            [AV.slice q k k, AV.slice x14.fst.fst.snd.fst.fst x14.fst.fst.snd.fst.snd x14.fst.fst.snd.fst.snd,
                                                                                                  AV.slice x14.fst.fst.snd.snd.fst x14.fst.fst.snd.snd.snd x14.fst.fst.snd.snd.snd, AV.int IntKind.i64 x14.fst.fst.fst,
                                                                                                  AV.int IntKind.i64 x14.fst.snd.fst, AV.int IntKind.i64 x14.snd.snd, AV.ptr (some ((X none).n H7, (0 : Nat)))] =
                                                                                                [AV.slice q k k, AV.slice x17.fst.fst.snd.fst.fst x17.fst.fst.snd.fst.snd x17.fst.fst.snd.fst.snd,
                                                                                                  AV.slice x17.fst.fst.snd.snd.fst x17.fst.fst.snd.snd.snd x17.fst.fst.snd.snd.snd, AV.int IntKind.i64 x17.fst.fst.fst,
                                                                                                  AV.int IntKind.i64 x17.fst.snd.fst, AV.int IntKind.i64 x17.fst.snd.snd, AV.ptr (some (x17.snd, (0 : Nat)))] ∧
                                                                                              x16 x17 H9
                                                                              else
                                                                                ∃ (x18 : ((Int × (Option (Nat × Nat) × Nat) × Option (Nat × Nat) × Nat) × Int × Int) × Nat),
                                                                                  ∃ (_k21 : Nat),
                                                                                    True ∧
                                                                                      [AV.slice q k k, AV.slice x14.fst.fst.snd.fst.fst x14.fst.fst.snd.fst.snd x14.fst.fst.snd.fst.snd,
                                                                                            AV.slice x14.fst.fst.snd.snd.fst x14.fst.fst.snd.snd.snd x14.fst.fst.snd.snd.snd, AV.int IntKind.i64 x14.fst.fst.fst,
                                                                                            AV.int IntKind.i64 x14.fst.snd.fst, AV.int IntKind.i64 x14.snd.snd, AV.ptr (some ((X none).n H7, (0 : Nat)))] =
                                                                                          [AV.slice q k k, AV.slice x18.fst.fst.snd.fst.fst x18.fst.fst.snd.fst.snd x18.fst.fst.snd.fst.snd,
                                                                                            AV.slice x18.fst.fst.snd.snd.fst x18.fst.fst.snd.snd.snd x18.fst.fst.snd.snd.snd, AV.int IntKind.i64 x18.fst.fst.fst,
                                                                                            AV.int IntKind.i64 x18.fst.snd.fst, AV.int IntKind.i64 x18.fst.snd.snd, AV.ptr (some (x18.snd, (0 : Nat)))] ∧
                                                                                        x16 x18 H8) ∧
                                                                              ∀ (x19 : ((Int × (Option (Nat × Nat) × Nat) × Option (Nat × Nat) × Nat) × Int × Int) × Nat) (H10 : AH),
                                                                                x16 x19 H10 →
                                                                                  ∃ (n5 : Int),
                                                                                    ∃ (n6 : Int),
                                                                                      ∃ (n7 : Int),
                                                                                        ∃ (n8 : Int),
                                                                                          (X none).rdn H10 x19.snd (0 : Nat) (4 : Nat) = some [AV.int IntKind.i64 n5, AV.int IntKind.i64 n6, AV.int IntKind.i64 n7, AV.int IntKind.i64 n8] ∧
                                                                                            ((4 : Nat) ≤ (16777216 : Nat) ∧ (4 : Nat) = (4 : Nat) ∧ (0 : Nat) < (4 : Nat) ∧ true = true ∧ true = true) ∧
                                                                                              ∃ (q2 : Option (Nat × Nat)),
                                                                                                ∃ (k22 : Nat),
                                                                                                  ∃ (k23 : Nat),
                                                                                                    ∃ (H11 : AH),
                                                                                                      (X none).app (24 : Nat) (24 : Nat) (AV.slice x19.fst.fst.snd.snd.fst x19.fst.fst.snd.snd.snd x19.fst.fst.snd.snd.snd)
                                                                                                            (AV.slice (some ((X none).n H10, (0 : Nat))) (1 : Nat) (1 : Nat))
                                                                                                            ((X none).al H10
                                                                                                              (AObj.cells [AV.int IntKind.i64 n5, AV.int IntKind.i64 n6, AV.int IntKind.i64 n7, AV.int IntKind.i64 n8] (41 : Nat)
                                                                                                                { whole := true })) =
                                                                                                          some (AV.slice q2 k22 k23, H11) ∧
                                                                                                        ∃ (x20 : (Int × (Option (Nat × Nat) × Nat) × Option (Nat × Nat) × Nat) × Int × Int),
                                                                                                          ∃ (_k24 : Nat),
                                                                                                            True ∧
                                                                                                              [AV.slice q k k, AV.slice x19.fst.fst.snd.fst.fst x19.fst.fst.snd.fst.snd x19.fst.fst.snd.fst.snd, AV.slice q2 k22 k23,
                                                                                                                    AV.int IntKind.i64 x19.fst.fst.fst, AV.int IntKind.i64 x19.fst.snd.fst, AV.int IntKind.i64 x19.fst.snd.snd] =
                                                                                                                  [AV.slice q k k, AV.slice x20.fst.snd.fst.fst x20.fst.snd.fst.snd x20.fst.snd.fst.snd,
                                                                                                                    AV.slice x20.fst.snd.snd.fst x20.fst.snd.snd.snd x20.fst.snd.snd.snd, AV.int IntKind.i64 x20.fst.fst,
                                                                                                                    AV.int IntKind.i64 x20.snd.fst, AV.int IntKind.i64 x20.snd.snd] ∧
                                                                                                                x15 x20 H11
                                                                  else
                                                                    ∃ (x21 : (Int × (Option (Nat × Nat) × Nat) × Option (Nat × Nat) × Nat) × Int × Int),
                                                                      ∃ (_k25 : Nat),
                                                                        True ∧
                                                                          [AV.slice q k k, AV.slice x14.fst.fst.snd.fst.fst x14.fst.fst.snd.fst.snd x14.fst.fst.snd.fst.snd,
                                                                                AV.slice x14.fst.fst.snd.snd.fst x14.fst.fst.snd.snd.snd x14.fst.fst.snd.snd.snd, AV.int IntKind.i64 x14.fst.fst.fst, AV.int IntKind.i64 x14.fst.snd.fst,
                                                                                AV.int IntKind.i64 x14.snd.snd] =
                                                                              [AV.slice q k k, AV.slice x21.fst.snd.fst.fst x21.fst.snd.fst.snd x21.fst.snd.fst.snd, AV.slice x21.fst.snd.snd.fst x21.fst.snd.snd.snd x21.fst.snd.snd.snd,
                                                                                AV.int IntKind.i64 x21.fst.fst, AV.int IntKind.i64 x21.snd.fst, AV.int IntKind.i64 x21.snd.snd] ∧
                                                                            x15 x21 H7) ∧
                                                                  ∀ (x22 : (Int × (Option (Nat × Nat) × Nat) × Option (Nat × Nat) × Nat) × Int × Int) (H12 : AH),
                                                                    x15 x22 H12 →
                                                                      ∃ (x23 : (Int × (Option (Nat × Nat) × Nat) × Option (Nat × Nat) × Nat) × Int × Int),
                                                                        ∃ (k26 : Nat),
                                                                          k26 < k6 ∧
                                                                            [AV.slice q k k, AV.slice x22.fst.snd.fst.fst x22.fst.snd.fst.snd x22.fst.snd.fst.snd, AV.slice x22.fst.snd.snd.fst x22.fst.snd.snd.snd x22.fst.snd.snd.snd,
                                                                                  AV.int IntKind.i64 x22.fst.fst, AV.int IntKind.i64 x22.snd.fst, AV.int IntKind.i64 x22.snd.snd] =
                                                                                [AV.slice q k k, AV.slice x23.fst.snd.fst.fst x23.fst.snd.fst.snd x23.fst.snd.fst.snd, AV.slice x23.fst.snd.snd.fst x23.fst.snd.snd.snd x23.fst.snd.snd.snd,
                                                                                  AV.int IntKind.i64 x23.fst.fst, AV.int IntKind.i64 x23.snd.fst, AV.int IntKind.i64 x23.snd.snd] ∧
                                                                              x4 x23 H12 k26
                            else
                              ∃ (q3 : Option (Nat × Nat)),
                                ∃ (k27 : Nat),
                                  ∃ (k28 : Nat),
                                    (X none).slc (24 : Nat) (AV.slice x6.fst.snd.snd.fst x6.fst.snd.snd.snd x6.fst.snd.snd.snd) (some (AV.int IntKind.i64 x6.snd.fst)) none none H3 = some (AV.slice q3 k27 k28) ∧
                                      ∃ (x24 : (Int × (Option (Nat × Nat) × Nat) × Option (Nat × Nat) × Nat) × (Option (Nat × Nat) × Nat × Nat) × Int × Int → AH → Nat → Prop),
                                        (∃ (x25 : (Int × (Option (Nat × Nat) × Nat) × Option (Nat × Nat) × Nat) × (Option (Nat × Nat) × Nat × Nat) × Int × Int),
                                            ∃ (k29 : Nat),
                                              [AV.slice q k k, AV.slice x6.fst.snd.fst.fst x6.fst.snd.fst.snd x6.fst.snd.fst.snd, AV.slice x6.fst.snd.snd.fst x6.fst.snd.snd.snd x6.fst.snd.snd.snd, AV.int IntKind.i64 x6.fst.fst,
                                                    AV.slice q3 k27 k28, AV.int IntKind.i64 (↑k27 : Int), AV.int IntKind.i64 (0 : Int)] =
                                                  [AV.slice q k k, AV.slice x25.fst.snd.fst.fst x25.fst.snd.fst.snd x25.fst.snd.fst.snd, AV.slice x25.fst.snd.snd.fst x25.fst.snd.snd.snd x25.fst.snd.snd.snd, AV.int IntKind.i64 x25.fst.fst,
                                                    AV.slice x25.snd.fst.fst x25.snd.fst.snd.fst x25.snd.fst.snd.snd, AV.int IntKind.i64 x25.snd.snd.fst, AV.int IntKind.i64 x25.snd.snd.snd] ∧
                                                x24 x25 H3 k29) ∧
                                          ∀ (x26 : (Int × (Option (Nat × Nat) × Nat) × Option (Nat × Nat) × Nat) × (Option (Nat × Nat) × Nat × Nat) × Int × Int) (H13 : AH) (k30 : Nat),
                                            x24 x26 H13 k30 →
                                              bif decide (x26.snd.snd.snd < x26.snd.snd.fst) then
                                                ∃ (k31 : Nat),
                                                  ∃ (k32 : Nat),
                                                    (x26.snd.fst.fst = some (k31, k32) ∧ (0 : Int) ≤ x26.snd.snd.snd ∧ x26.snd.snd.snd < (↑x26.snd.fst.snd.fst : Int)) ∧
                                                      ∃ (n9 : Int),
                                                        ∃ (n10 : Int),
                                                          ∃ (n11 : Int),
                                                            ∃ (n12 : Int),
                                                              (X none).rdn H13 k31 (k32 + x26.snd.snd.snd.toNat * (4 : Nat)) (4 : Nat) = some [AV.int IntKind.i64 n9, AV.int IntKind.i64 n10, AV.int IntKind.i64 n11, AV.int IntKind.i64 n12] ∧
                                                                [AV.int IntKind.i64 n9, AV.int IntKind.i64 n10, AV.int IntKind.i64 n11, AV.int IntKind.i64 n12].length = (4 : Nat) ∧
                                                                  ∃ (H14 : AH),
                                                                    (X none).wr
                                                                          ((X none).al H13
                                                                            (AObj.cells [AV.int IntKind.i64 (0 : Int), AV.int IntKind.i64 (0 : Int), AV.int IntKind.i64 (0 : Int), AV.int IntKind.i64 (0 : Int)] (41 : Nat) { whole := true }))
                                                                          ((X none).n H13) (0 : Nat) [AV.int IntKind.i64 n9, AV.int IntKind.i64 n10, AV.int IntKind.i64 n11, AV.int IntKind.i64 n12] =
                                                                        some H14 ∧
                                                                      ∃ (n13 : Int),
                                                                        (X none).rd1 H14 ((X none).n H13) (0 : Nat) = some (AV.int IntKind.i64 n13) ∧
                                                                          ∃ (n14 : Int),
                                                                            (X none).rd1 H14 ((X none).n H13) (1 : Nat) = some (AV.int IntKind.i64 n14) ∧
                                                                              ∃ (k33 : Nat),
                                                                                ∃ (k34 : Nat),
                                                                                  (x26.fst.snd.fst.fst = some (k33, k34) ∧ (0 : Int) ≤ n13 ∧ n13 < (↑x26.fst.snd.fst.snd : Int)) ∧
                                                                                    (1 : Nat) = (1 : Nat) ∧
                                                                                      ∃ (H15 : AH),
                                                                                        (X none).wr H14 k33 (k34 + n13.toNat * (1 : Nat)) [AV.bool true] = some H15 ∧
                                                                                          (∃ (n15 : Int), (X none).rd1 H15 ((X none).n H13) (1 : Nat) = some (AV.int IntKind.i64 n15) ∧ AV.int IntKind.i64 n15 = AV.int IntKind.i64 n14) ∧
                                                                                            ∃ (k35 : Nat),
                                                                                              ∃ (k36 : Nat),
                                                                                                (x26.fst.snd.fst.fst = some (k35, k36) ∧ (0 : Int) ≤ n14 ∧ n14 < (↑x26.fst.snd.fst.snd : Int)) ∧
                                                                                                  (1 : Nat) = (1 : Nat) ∧
                                                                                                    ∃ (H16 : AH),
                                                                                                      (X none).wr H15 k35 (k36 + n14.toNat * (1 : Nat)) [AV.bool true] = some H16 ∧
                                                                                                        ∃ (x27 : (Int × (Option (Nat × Nat) × Nat) × Option (Nat × Nat) × Nat) × (Option (Nat × Nat) × Nat × Nat) × Int × Int),
                                                                                                          ∃ (k37 : Nat),
                                                                                                            k37 < k30 ∧
                                                                                                              [AV.slice q k k, AV.slice x26.fst.snd.fst.fst x26.fst.snd.fst.snd x26.fst.snd.fst.snd,
                                                                                                                    AV.slice x26.fst.snd.snd.fst x26.fst.snd.snd.snd x26.fst.snd.snd.snd, AV.int IntKind.i64 x26.fst.fst,
                                                                                                                    AV.slice x26.snd.fst.fst x26.snd.fst.snd.fst x26.snd.fst.snd.snd, AV.int IntKind.i64 x26.snd.snd.fst,
                                                                                                                    AV.int IntKind.i64 ((X none).wrap IntKind.i64 (x26.snd.snd.snd + (1 : Int)))] =
                                                                                                                  [AV.slice q k k, AV.slice x27.fst.snd.fst.fst x27.fst.snd.fst.snd x27.fst.snd.fst.snd,
                                                                                                                    AV.slice x27.fst.snd.snd.fst x27.fst.snd.snd.snd x27.fst.snd.snd.snd, AV.int IntKind.i64 x27.fst.fst,
                                                                                                                    AV.slice x27.snd.fst.fst x27.snd.fst.snd.fst x27.snd.fst.snd.snd, AV.int IntKind.i64 x27.snd.snd.fst,
                                                                                                                    AV.int IntKind.i64 x27.snd.snd.snd] ∧
                                                                                                                x24 x27 H16 k37
                                              else
                                                ∃ (x28 : Int × (Option (Nat × Nat) × Nat) × Option (Nat × Nat) × Nat),
                                                  ∃ (k38 : Nat),
                                                    k38 < k4 ∧
                                                      [AV.slice q k k, AV.slice x26.fst.snd.fst.fst x26.fst.snd.fst.snd x26.fst.snd.fst.snd, AV.slice x26.fst.snd.snd.fst x26.fst.snd.snd.snd x26.fst.snd.snd.snd,
                                                            AV.int IntKind.i64 ((X none).wrap IntKind.i64 (x26.fst.fst + (1 : Int)))] =
                                                          [AV.slice q k k, AV.slice x28.snd.fst.fst x28.snd.fst.snd x28.snd.fst.snd, AV.slice x28.snd.snd.fst x28.snd.snd.snd x28.snd.snd.snd, AV.int IntKind.i64 x28.fst] ∧
                                                        x1 x28 H13 k38
                  else (X none).call (99 : Nat) [AV.slice x3.snd.snd.fst x3.snd.snd.snd x3.snd.snd.snd, AV.func (Fn.func (111 : Nat)) [] []] H2 fun (_v3 : AV) (H17 : AH) => Q (AV.slice x3.snd.snd.fst x3.snd.snd.snd x3.snd.snd.snd) H17) := by kernel_rfl

end Go.Proofs.YtlkdhhkncoekgaaDoor

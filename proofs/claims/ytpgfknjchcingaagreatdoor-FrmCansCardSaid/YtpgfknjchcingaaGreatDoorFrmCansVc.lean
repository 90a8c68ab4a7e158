/- What the functions of FrmCans ask, by program. -/
import Derived.Test.YtpgfknjchcingaaGreatDoorAmY
import Derived.Test.YtpgfknjchcingaaGreatDoorTabs
namespace Go.Proofs.YtpgfknjchcingaaGreatDoor
open Go.Am Go

theorem law_vc (X : Atoms) (a b : Int) (c : Bool) (H : AH) (Q : AV → AH → Prop) : (vcF X Tryz.prog [] 3 [.agg [.int .i64 a, .int .i64 b, .bool c]] H Q) =
  (true = true ∧
  ∃ (n1 : Int),
    ∃ (n2 : Int),
      ∃ (b1 : Bool),
        X.rdn (X.al H (AObj.cells [AV.int IntKind.i64 a, AV.int IntKind.i64 b, AV.bool c] (23 : Nat) { whole := true })) (X.n H) (0 : Nat) (3 : Nat) = some [AV.int IntKind.i64 n1, AV.int IntKind.i64 n2, AV.bool b1] ∧
          X.call (5 : Nat) [AV.agg [AV.int IntKind.i64 n1, AV.int IntKind.i64 n2, AV.bool b1]] (X.al H (AObj.cells [AV.int IntKind.i64 a, AV.int IntKind.i64 b, AV.bool c] (23 : Nat) { whole := true })) fun (v1 : AV) (H1 : AH) =>
            ∃ (n3 : Int),
              ∃ (n4 : Int),
                ∃ (n5 : Int),
                  ∃ (b2 : Bool),
                    ∃ (b3 : Bool),
                      ∃ (b4 : Bool),
                        ∃ (b5 : Bool),
                          ∃ (n6 : Int),
                            v1 = AV.tuple [AV.agg [AV.int IntKind.i64 n3, AV.int IntKind.i64 n4, AV.int IntKind.i64 n5, AV.bool b2, AV.bool b3, AV.bool b4, AV.bool b5], AV.int IntKind.i64 n6] ∧
                              [AV.int IntKind.i64 n3, AV.int IntKind.i64 n4, AV.int IntKind.i64 n5, AV.bool b2, AV.bool b3, AV.bool b4, AV.bool b5].length = (7 : Nat) ∧
                                ∃ (H2 : AH),
                                  X.wr
                                        (X.al H1
                                          (AObj.cells [AV.int IntKind.i64 (0 : Int), AV.int IntKind.i64 (0 : Int), AV.int IntKind.i64 (0 : Int), AV.bool false, AV.bool false, AV.bool false, AV.bool false] (27 : Nat) { whole := true }))
                                        (X.n H1) (0 : Nat) [AV.int IntKind.i64 n3, AV.int IntKind.i64 n4, AV.int IntKind.i64 n5, AV.bool b2, AV.bool b3, AV.bool b4, AV.bool b5] =
                                      some H2 ∧
                                    ∃ (n7 : Int),
                                      ∃ (n8 : Int),
                                        ∃ (b6 : Bool),
                                          X.rdn H2 (X.n H) (0 : Nat) (3 : Nat) = some [AV.int IntKind.i64 n7, AV.int IntKind.i64 n8, AV.bool b6] ∧
                                            X.call (6 : Nat) [AV.agg [AV.int IntKind.i64 n7, AV.int IntKind.i64 n8, AV.bool b6]] H2 fun (v2 : AV) (H3 : AH) =>
                                              ∃ (n9 : Int),
                                                ∃ (n10 : Int),
                                                  ∃ (n11 : Int),
                                                    ∃ (b7 : Bool),
                                                      ∃ (b8 : Bool),
                                                        ∃ (b9 : Bool),
                                                          ∃ (b10 : Bool),
                                                            ∃ (n12 : Int),
                                                              v2 = AV.tuple [AV.agg [AV.int IntKind.i64 n9, AV.int IntKind.i64 n10, AV.int IntKind.i64 n11, AV.bool b7, AV.bool b8, AV.bool b9, AV.bool b10], AV.int IntKind.i64 n12] ∧
                                                                [AV.int IntKind.i64 n9, AV.int IntKind.i64 n10, AV.int IntKind.i64 n11, AV.bool b7, AV.bool b8, AV.bool b9, AV.bool b10].length = (7 : Nat) ∧
                                                                  ∃ (H4 : AH),
                                                                    X.wr
                                                                          (X.al H3
                                                                            (AObj.cells [AV.int IntKind.i64 (0 : Int), AV.int IntKind.i64 (0 : Int), AV.int IntKind.i64 (0 : Int), AV.bool false, AV.bool false, AV.bool false, AV.bool false]
                                                                              (27 : Nat) { whole := true }))
                                                                          (X.n H3) (0 : Nat) [AV.int IntKind.i64 n9, AV.int IntKind.i64 n10, AV.int IntKind.i64 n11, AV.bool b7, AV.bool b8, AV.bool b9, AV.bool b10] =
                                                                        some H4 ∧
                                                                      ∃ (n13 : Int),
                                                                        ∃ (n14 : Int),
                                                                          ∃ (n15 : Int),
                                                                            ∃ (b11 : Bool),
                                                                              ∃ (b12 : Bool),
                                                                                ∃ (b13 : Bool),
                                                                                  ∃ (b14 : Bool),
                                                                                    X.rdn H4 (X.n H1) (0 : Nat) (7 : Nat) =
                                                                                        some [AV.int IntKind.i64 n13, AV.int IntKind.i64 n14, AV.int IntKind.i64 n15, AV.bool b11, AV.bool b12, AV.bool b13, AV.bool b14] ∧
                                                                                      ∃ (n16 : Int),
                                                                                        ∃ (n17 : Int),
                                                                                          ∃ (n18 : Int),
                                                                                            ∃ (b15 : Bool),
                                                                                              ∃ (b16 : Bool),
                                                                                                ∃ (b17 : Bool),
                                                                                                  ∃ (b18 : Bool),
                                                                                                    X.rdn H4 (X.n H3) (0 : Nat) (7 : Nat) =
                                                                                                        some [AV.int IntKind.i64 n16, AV.int IntKind.i64 n17, AV.int IntKind.i64 n18, AV.bool b15, AV.bool b16, AV.bool b17, AV.bool b18] ∧
                                                                                                      bif
                                                                                                          (n13 == n16 && (n14 == n17 && (n15 == n18 && true) && (b11 == b15 && (b12 == b16 && (b13 == b17 && (b14 == b18 && true))))) &&
                                                                                                              n6 == n12) ==
                                                                                                            true then
                                                                                                        X.call (7 : Nat) [] H4 fun (v3 : AV) (H5 : AH) => ∃ (b19 : Bool), v3 = AV.bool b19 ∧ Q (AV.bool b19) H5
                                                                                                      else Q (AV.bool false) H4) := by kernel_rfl

theorem Can_vc (X : Atoms) (a b : Int) (c : Bool) (H : AH) (Q : AV → AH → Prop) : (vcF X Tryz.prog [] 5 [.agg [.int .i64 a, .int .i64 b, .bool c]] H Q) =
  (true = true ∧
  ∃ (n1 : Int),
    ∃ (n2 : Int),
      ∃ (b1 : Bool),
        X.rdn
              (X.al (X.al H (AObj.cells [AV.int IntKind.i64 a, AV.int IntKind.i64 b, AV.bool c] (23 : Nat) { whole := true }))
                (AObj.cells [AV.int IntKind.i64 (0 : Int), AV.int IntKind.i64 (0 : Int), AV.int IntKind.i64 (0 : Int), AV.bool false, AV.bool false, AV.bool false, AV.bool false] (27 : Nat) { whole := true }))
              (X.n H) (0 : Nat) (3 : Nat) =
            some [AV.int IntKind.i64 n1, AV.int IntKind.i64 n2, AV.bool b1] ∧
          X.call (9 : Nat) [AV.agg [AV.int IntKind.i64 n1, AV.int IntKind.i64 n2, AV.bool b1]]
            (X.al (X.al H (AObj.cells [AV.int IntKind.i64 a, AV.int IntKind.i64 b, AV.bool c] (23 : Nat) { whole := true }))
              (AObj.cells [AV.int IntKind.i64 (0 : Int), AV.int IntKind.i64 (0 : Int), AV.int IntKind.i64 (0 : Int), AV.bool false, AV.bool false, AV.bool false, AV.bool false] (27 : Nat) { whole := true }))
            fun (v1 : AV) (H1 : AH) =>
            ∃ (n3 : Int),
              ∃ (n4 : Int),
                ∃ (n5 : Int),
                  v1 = AV.tuple [AV.agg [AV.int IntKind.i64 n3, AV.int IntKind.i64 n4], AV.int IntKind.i64 n5] ∧
                    [AV.int IntKind.i64 n3, AV.int IntKind.i64 n4].length = (2 : Nat) ∧
                      ∃ (H2 : AH),
                        X.wr (X.al H1 (AObj.cells [AV.int IntKind.i64 (0 : Int), AV.int IntKind.i64 (0 : Int)] (25 : Nat) { whole := true })) (X.n H1) (0 : Nat) [AV.int IntKind.i64 n3, AV.int IntKind.i64 n4] = some H2 ∧
                          bif n5 != (0 : Int) then
                            [AV.int IntKind.i64 (0 : Int), AV.int IntKind.i64 (0 : Int), AV.int IntKind.i64 (0 : Int), AV.bool false, AV.bool false, AV.bool false, AV.bool false].length = (7 : Nat) ∧
                              ∃ (H3 : AH),
                                X.wr H2 (X.n (X.al H (AObj.cells [AV.int IntKind.i64 a, AV.int IntKind.i64 b, AV.bool c] (23 : Nat) { whole := true }))) (0 : Nat)
                                      [AV.int IntKind.i64 (0 : Int), AV.int IntKind.i64 (0 : Int), AV.int IntKind.i64 (0 : Int), AV.bool false, AV.bool false, AV.bool false, AV.bool false] =
                                    some H3 ∧
                                  ∃ (n6 : Int),
                                    ∃ (n7 : Int),
                                      ∃ (n8 : Int),
                                        ∃ (b2 : Bool),
                                          ∃ (b3 : Bool),
                                            ∃ (b4 : Bool),
                                              ∃ (b5 : Bool),
                                                X.rdn H3 (X.n (X.al H (AObj.cells [AV.int IntKind.i64 a, AV.int IntKind.i64 b, AV.bool c] (23 : Nat) { whole := true }))) (0 : Nat) (7 : Nat) =
                                                    some [AV.int IntKind.i64 n6, AV.int IntKind.i64 n7, AV.int IntKind.i64 n8, AV.bool b2, AV.bool b3, AV.bool b4, AV.bool b5] ∧
                                                  Q (AV.tuple [AV.agg [AV.int IntKind.i64 n6, AV.int IntKind.i64 n7, AV.int IntKind.i64 n8, AV.bool b2, AV.bool b3, AV.bool b4, AV.bool b5], AV.int IntKind.i64 n5]) H3
                          else
                            ∃ (n9 : Int),
                              ∃ (n10 : Int),
                                X.rdn H2 (X.n H1) (0 : Nat) (2 : Nat) = some [AV.int IntKind.i64 n9, AV.int IntKind.i64 n10] ∧
                                  [AV.int IntKind.i64 (3 : Int), AV.int IntKind.i64 n9, AV.int IntKind.i64 n10, AV.bool false, AV.bool false, AV.bool false, AV.bool true].length = (7 : Nat) ∧
                                    ∃ (H4 : AH),
                                      X.wr H2 (X.n (X.al H (AObj.cells [AV.int IntKind.i64 a, AV.int IntKind.i64 b, AV.bool c] (23 : Nat) { whole := true }))) (0 : Nat)
                                            [AV.int IntKind.i64 (3 : Int), AV.int IntKind.i64 n9, AV.int IntKind.i64 n10, AV.bool false, AV.bool false, AV.bool false, AV.bool true] =
                                          some H4 ∧
                                        ∃ (n11 : Int),
                                          ∃ (n12 : Int),
                                            ∃ (n13 : Int),
                                              ∃ (b6 : Bool),
                                                ∃ (b7 : Bool),
                                                  ∃ (b8 : Bool),
                                                    ∃ (b9 : Bool),
                                                      X.rdn H4 (X.n (X.al H (AObj.cells [AV.int IntKind.i64 a, AV.int IntKind.i64 b, AV.bool c] (23 : Nat) { whole := true }))) (0 : Nat) (7 : Nat) =
                                                          some [AV.int IntKind.i64 n11, AV.int IntKind.i64 n12, AV.int IntKind.i64 n13, AV.bool b6, AV.bool b7, AV.bool b8, AV.bool b9] ∧
                                                        Q (AV.tuple [AV.agg [AV.int IntKind.i64 n11, AV.int IntKind.i64 n12, AV.int IntKind.i64 n13, AV.bool b6, AV.bool b7, AV.bool b8, AV.bool b9], AV.int IntKind.i64 (0 : Int)]) H4) := by kernel_rfl

theorem refCan_vc (X : Atoms) (a b : Int) (c : Bool) (H : AH) (Q : AV → AH → Prop) : (vcF X Tryz.prog [] 6 [.agg [.int .i64 a, .int .i64 b, .bool c]] H Q) =
  (true = true ∧
  ∃ (n1 : Int),
    ∃ (n2 : Int),
      ∃ (b1 : Bool),
        X.rdn
              (X.al (X.al H (AObj.cells [AV.int IntKind.i64 a, AV.int IntKind.i64 b, AV.bool c] (23 : Nat) { whole := true }))
                (AObj.cells [AV.int IntKind.i64 (0 : Int), AV.int IntKind.i64 (0 : Int), AV.int IntKind.i64 (0 : Int), AV.bool false, AV.bool false, AV.bool false, AV.bool false] (27 : Nat) { whole := true }))
              (X.n H) (0 : Nat) (3 : Nat) =
            some [AV.int IntKind.i64 n1, AV.int IntKind.i64 n2, AV.bool b1] ∧
          X.call (10 : Nat) [AV.agg [AV.int IntKind.i64 n1, AV.int IntKind.i64 n2, AV.bool b1]]
            (X.al (X.al H (AObj.cells [AV.int IntKind.i64 a, AV.int IntKind.i64 b, AV.bool c] (23 : Nat) { whole := true }))
              (AObj.cells [AV.int IntKind.i64 (0 : Int), AV.int IntKind.i64 (0 : Int), AV.int IntKind.i64 (0 : Int), AV.bool false, AV.bool false, AV.bool false, AV.bool false] (27 : Nat) { whole := true }))
            fun (v1 : AV) (H1 : AH) =>
            ∃ (n3 : Int),
              ∃ (n4 : Int),
                ∃ (n5 : Int),
                  v1 = AV.tuple [AV.agg [AV.int IntKind.i64 n3, AV.int IntKind.i64 n4], AV.int IntKind.i64 n5] ∧
                    [AV.int IntKind.i64 n3, AV.int IntKind.i64 n4].length = (2 : Nat) ∧
                      ∃ (H2 : AH),
                        X.wr (X.al H1 (AObj.cells [AV.int IntKind.i64 (0 : Int), AV.int IntKind.i64 (0 : Int)] (25 : Nat) { whole := true })) (X.n H1) (0 : Nat) [AV.int IntKind.i64 n3, AV.int IntKind.i64 n4] = some H2 ∧
                          bif n5 != (0 : Int) then
                            [AV.int IntKind.i64 (0 : Int), AV.int IntKind.i64 (0 : Int), AV.int IntKind.i64 (0 : Int), AV.bool false, AV.bool false, AV.bool false, AV.bool false].length = (7 : Nat) ∧
                              ∃ (H3 : AH),
                                X.wr H2 (X.n (X.al H (AObj.cells [AV.int IntKind.i64 a, AV.int IntKind.i64 b, AV.bool c] (23 : Nat) { whole := true }))) (0 : Nat)
                                      [AV.int IntKind.i64 (0 : Int), AV.int IntKind.i64 (0 : Int), AV.int IntKind.i64 (0 : Int), AV.bool false, AV.bool false, AV.bool false, AV.bool false] =
                                    some H3 ∧
                                  ∃ (n6 : Int),
                                    ∃ (n7 : Int),
                                      ∃ (n8 : Int),
                                        ∃ (b2 : Bool),
                                          ∃ (b3 : Bool),
                                            ∃ (b4 : Bool),
                                              ∃ (b5 : Bool),
                                                X.rdn H3 (X.n (X.al H (AObj.cells [AV.int IntKind.i64 a, AV.int IntKind.i64 b, AV.bool c] (23 : Nat) { whole := true }))) (0 : Nat) (7 : Nat) =
                                                    some [AV.int IntKind.i64 n6, AV.int IntKind.i64 n7, AV.int IntKind.i64 n8, AV.bool b2, AV.bool b3, AV.bool b4, AV.bool b5] ∧
                                                  Q (AV.tuple [AV.agg [AV.int IntKind.i64 n6, AV.int IntKind.i64 n7, AV.int IntKind.i64 n8, AV.bool b2, AV.bool b3, AV.bool b4, AV.bool b5], AV.int IntKind.i64 n5]) H3
                          else
                            ∃ (n9 : Int),
                              ∃ (n10 : Int),
                                X.rdn H2 (X.n H1) (0 : Nat) (2 : Nat) = some [AV.int IntKind.i64 n9, AV.int IntKind.i64 n10] ∧
                                  [AV.int IntKind.i64 (3 : Int), AV.int IntKind.i64 n9, AV.int IntKind.i64 n10, AV.bool false, AV.bool false, AV.bool false, AV.bool true].length = (7 : Nat) ∧
                                    ∃ (H4 : AH),
                                      X.wr H2 (X.n (X.al H (AObj.cells [AV.int IntKind.i64 a, AV.int IntKind.i64 b, AV.bool c] (23 : Nat) { whole := true }))) (0 : Nat)
                                            [AV.int IntKind.i64 (3 : Int), AV.int IntKind.i64 n9, AV.int IntKind.i64 n10, AV.bool false, AV.bool false, AV.bool false, AV.bool true] =
                                          some H4 ∧
                                        ∃ (n11 : Int),
                                          ∃ (n12 : Int),
                                            ∃ (n13 : Int),
                                              ∃ (b6 : Bool),
                                                ∃ (b7 : Bool),
                                                  ∃ (b8 : Bool),
                                                    ∃ (b9 : Bool),
                                                      X.rdn H4 (X.n (X.al H (AObj.cells [AV.int IntKind.i64 a, AV.int IntKind.i64 b, AV.bool c] (23 : Nat) { whole := true }))) (0 : Nat) (7 : Nat) =
                                                          some [AV.int IntKind.i64 n11, AV.int IntKind.i64 n12, AV.int IntKind.i64 n13, AV.bool b6, AV.bool b7, AV.bool b8, AV.bool b9] ∧
                                                        Q (AV.tuple [AV.agg [AV.int IntKind.i64 n11, AV.int IntKind.i64 n12, AV.int IntKind.i64 n13, AV.bool b6, AV.bool b7, AV.bool b8, AV.bool b9], AV.int IntKind.i64 (0 : Int)]) H4) := by kernel_rfl

theorem Grid_vc (X : Atoms) (a b : Int) (c : Bool) (H : AH) (Q : AV → AH → Prop) : (vcF X Tryz.prog [] 9 [.agg [.int .i64 a, .int .i64 b, .bool c]] H Q) =
  (true = true ∧
  ∃ (n1 : Int),
    ∃ (n2 : Int),
      ∃ (b1 : Bool),
        X.rdn (X.al (X.al H (AObj.cells [AV.int IntKind.i64 a, AV.int IntKind.i64 b, AV.bool c] (23 : Nat) { whole := true })) (AObj.cells [AV.int IntKind.i64 (0 : Int), AV.int IntKind.i64 (0 : Int)] (25 : Nat) { whole := true })) (X.n H)
              (0 : Nat) (3 : Nat) =
            some [AV.int IntKind.i64 n1, AV.int IntKind.i64 n2, AV.bool b1] ∧
          X.call (17 : Nat) [AV.agg [AV.int IntKind.i64 n1, AV.int IntKind.i64 n2, AV.bool b1]]
            (X.al (X.al H (AObj.cells [AV.int IntKind.i64 a, AV.int IntKind.i64 b, AV.bool c] (23 : Nat) { whole := true })) (AObj.cells [AV.int IntKind.i64 (0 : Int), AV.int IntKind.i64 (0 : Int)] (25 : Nat) { whole := true }))
            fun (v1 : AV) (H1 : AH) =>
            ∃ (n3 : Int),
              v1 = AV.int IntKind.i64 n3 ∧
                bif n3 != (0 : Int) then
                  [AV.int IntKind.i64 (0 : Int), AV.int IntKind.i64 (0 : Int)].length = (2 : Nat) ∧
                    ∃ (H2 : AH),
                      X.wr H1 (X.n (X.al H (AObj.cells [AV.int IntKind.i64 a, AV.int IntKind.i64 b, AV.bool c] (23 : Nat) { whole := true }))) (0 : Nat) [AV.int IntKind.i64 (0 : Int), AV.int IntKind.i64 (0 : Int)] = some H2 ∧
                        ∃ (n4 : Int),
                          ∃ (n5 : Int),
                            X.rdn H2 (X.n (X.al H (AObj.cells [AV.int IntKind.i64 a, AV.int IntKind.i64 b, AV.bool c] (23 : Nat) { whole := true }))) (0 : Nat) (2 : Nat) = some [AV.int IntKind.i64 n4, AV.int IntKind.i64 n5] ∧
                              Q (AV.tuple [AV.agg [AV.int IntKind.i64 n4, AV.int IntKind.i64 n5], AV.int IntKind.i64 n3]) H2
                else
                  ∃ (n6 : Int),
                    X.rd1 H1 (X.n H) (1 : Nat) = some (AV.int IntKind.i64 n6) ∧
                      ∃ (n7 : Int),
                        X.rd1 H1 (X.n H) (0 : Nat) = some (AV.int IntKind.i64 n7) ∧
                          X.call (18 : Nat) [AV.int IntKind.i64 n6, AV.int IntKind.i64 n7] H1 fun (v2 : AV) (H3 : AH) =>
                            ∃ (n8 : Int),
                              ∃ (n9 : Int),
                                ∃ (n10 : Int),
                                  v2 = AV.tuple [AV.agg [AV.int IntKind.i64 n8, AV.int IntKind.i64 n9], AV.int IntKind.i64 n10] ∧
                                    [AV.int IntKind.i64 n8, AV.int IntKind.i64 n9].length = (2 : Nat) ∧
                                      ∃ (H4 : AH),
                                        X.wr H3 (X.n (X.al H (AObj.cells [AV.int IntKind.i64 a, AV.int IntKind.i64 b, AV.bool c] (23 : Nat) { whole := true }))) (0 : Nat) [AV.int IntKind.i64 n8, AV.int IntKind.i64 n9] = some H4 ∧
                                          ∃ (n11 : Int),
                                            ∃ (n12 : Int),
                                              X.rdn H4 (X.n (X.al H (AObj.cells [AV.int IntKind.i64 a, AV.int IntKind.i64 b, AV.bool c] (23 : Nat) { whole := true }))) (0 : Nat) (2 : Nat) =
                                                  some [AV.int IntKind.i64 n11, AV.int IntKind.i64 n12] ∧
                                                Q (AV.tuple [AV.agg [AV.int IntKind.i64 n11, AV.int IntKind.i64 n12], AV.int IntKind.i64 n10]) H4) := by kernel_rfl

theorem refGrid_vc (X : Atoms) (a b : Int) (c : Bool) (H : AH) (Q : AV → AH → Prop) : (vcF X Tryz.prog [] 10 [.agg [.int .i64 a, .int .i64 b, .bool c]] H Q) =
  (true = true ∧
  ∃ (n1 : Int),
    ∃ (n2 : Int),
      ∃ (b1 : Bool),
        X.rdn (X.al (X.al H (AObj.cells [AV.int IntKind.i64 a, AV.int IntKind.i64 b, AV.bool c] (23 : Nat) { whole := true })) (AObj.cells [AV.int IntKind.i64 (0 : Int), AV.int IntKind.i64 (0 : Int)] (25 : Nat) { whole := true })) (X.n H)
              (0 : Nat) (3 : Nat) =
            some [AV.int IntKind.i64 n1, AV.int IntKind.i64 n2, AV.bool b1] ∧
          X.call (19 : Nat) [AV.agg [AV.int IntKind.i64 n1, AV.int IntKind.i64 n2, AV.bool b1]]
            (X.al (X.al H (AObj.cells [AV.int IntKind.i64 a, AV.int IntKind.i64 b, AV.bool c] (23 : Nat) { whole := true })) (AObj.cells [AV.int IntKind.i64 (0 : Int), AV.int IntKind.i64 (0 : Int)] (25 : Nat) { whole := true }))
            fun (v1 : AV) (H1 : AH) =>
            ∃ (n3 : Int),
              v1 = AV.int IntKind.i64 n3 ∧
                bif n3 != (0 : Int) then
                  [AV.int IntKind.i64 (0 : Int), AV.int IntKind.i64 (0 : Int)].length = (2 : Nat) ∧
                    ∃ (H2 : AH),
                      X.wr H1 (X.n (X.al H (AObj.cells [AV.int IntKind.i64 a, AV.int IntKind.i64 b, AV.bool c] (23 : Nat) { whole := true }))) (0 : Nat) [AV.int IntKind.i64 (0 : Int), AV.int IntKind.i64 (0 : Int)] = some H2 ∧
                        ∃ (n4 : Int),
                          ∃ (n5 : Int),
                            X.rdn H2 (X.n (X.al H (AObj.cells [AV.int IntKind.i64 a, AV.int IntKind.i64 b, AV.bool c] (23 : Nat) { whole := true }))) (0 : Nat) (2 : Nat) = some [AV.int IntKind.i64 n4, AV.int IntKind.i64 n5] ∧
                              Q (AV.tuple [AV.agg [AV.int IntKind.i64 n4, AV.int IntKind.i64 n5], AV.int IntKind.i64 (14 : Int)]) H2
                else
                  ∃ (n6 : Int),
                    X.rd1 H1 (X.n H) (1 : Nat) = some (AV.int IntKind.i64 n6) ∧
                      ∃ (n7 : Int),
                        X.rd1 H1 (X.n H) (0 : Nat) = some (AV.int IntKind.i64 n7) ∧
                          [AV.int IntKind.i64 n6, AV.int IntKind.i64 n7].length = (2 : Nat) ∧
                            ∃ (H3 : AH),
                              X.wr H1 (X.n (X.al H (AObj.cells [AV.int IntKind.i64 a, AV.int IntKind.i64 b, AV.bool c] (23 : Nat) { whole := true }))) (0 : Nat) [AV.int IntKind.i64 n6, AV.int IntKind.i64 n7] = some H3 ∧
                                ∃ (n8 : Int),
                                  ∃ (n9 : Int),
                                    X.rdn H3 (X.n (X.al H (AObj.cells [AV.int IntKind.i64 a, AV.int IntKind.i64 b, AV.bool c] (23 : Nat) { whole := true }))) (0 : Nat) (2 : Nat) = some [AV.int IntKind.i64 n8, AV.int IntKind.i64 n9] ∧
                                      Q (AV.tuple [AV.agg [AV.int IntKind.i64 n8, AV.int IntKind.i64 n9], AV.int IntKind.i64 (0 : Int)]) H3) := by kernel_rfl

theorem refCheck_vc (X : Atoms) (a b : Int) (c : Bool) (H : AH) (Q : AV → AH → Prop) : (vcF X Tryz.prog [] 19 [.agg [.int .i64 a, .int .i64 b, .bool c]] H Q) =
  (true = true ∧
  ∃ (n1 : Int),
    X.rd1 (X.al H (AObj.cells [AV.int IntKind.i64 a, AV.int IntKind.i64 b, AV.bool c] (23 : Nat) { whole := true })) (X.n H) (0 : Nat) = some (AV.int IntKind.i64 n1) ∧
      ∃ (n2 : Int),
        X.rd1 (X.al H (AObj.cells [AV.int IntKind.i64 a, AV.int IntKind.i64 b, AV.bool c] (23 : Nat) { whole := true })) (X.n H) (0 : Nat) = some (AV.int IntKind.i64 n2) ∧
          ∃ (n3 : Int),
            X.rd1 (X.al H (AObj.cells [AV.int IntKind.i64 a, AV.int IntKind.i64 b, AV.bool c] (23 : Nat) { whole := true })) (X.n H) (1 : Nat) = some (AV.int IntKind.i64 n3) ∧
              ∃ (n4 : Int),
                X.rd1 (X.al H (AObj.cells [AV.int IntKind.i64 a, AV.int IntKind.i64 b, AV.bool c] (23 : Nat) { whole := true })) (X.n H) (1 : Nat) = some (AV.int IntKind.i64 n4) ∧
                  ∃ (n5 : Int),
                    X.rd1 (X.al H (AObj.cells [AV.int IntKind.i64 a, AV.int IntKind.i64 b, AV.bool c] (23 : Nat) { whole := true })) (X.n H) (0 : Nat) = some (AV.int IntKind.i64 n5) ∧
                      ∃ (n6 : Int),
                        X.rd1 (X.al H (AObj.cells [AV.int IntKind.i64 a, AV.int IntKind.i64 b, AV.bool c] (23 : Nat) { whole := true })) (X.n H) (1 : Nat) = some (AV.int IntKind.i64 n6) ∧
                          bif (decide (n1 < (1 : Int)) || decide (n2 > (240000 : Int)) || decide (n3 < (1 : Int)) || decide (n4 > (1001 : Int))) == false then
                            X.call (29 : Nat) [AV.int IntKind.i64 n5, AV.int IntKind.i64 n6] (X.al H (AObj.cells [AV.int IntKind.i64 a, AV.int IntKind.i64 b, AV.bool c] (23 : Nat) { whole := true })) fun (v1 : AV) (H1 : AH) =>
                              ∃ (n7 : Int),
                                v1 = AV.int IntKind.i64 n7 ∧
                                  bif n7 != (1 : Int) then Q (AV.int IntKind.i64 (14 : Int)) H1
                                  else
                                    ∃ (n8 : Int),
                                      X.rd1 H1 (X.n H) (0 : Nat) = some (AV.int IntKind.i64 n8) ∧
                                        ∃ (n9 : Int),
                                          X.rd1 H1 (X.n H) (1 : Nat) = some (AV.int IntKind.i64 n9) ∧
                                            ∃ (n10 : Int),
                                              X.rd1 H1 (X.n H) (0 : Nat) = some (AV.int IntKind.i64 n10) ∧
                                                ∃ (n11 : Int),
                                                  X.rd1 H1 (X.n H) (1 : Nat) = some (AV.int IntKind.i64 n11) ∧
                                                    bif decide (n8 < n9) || decide (n10 > X.wrap IntKind.i64 ((240 : Int) * n11)) then Q (AV.int IntKind.i64 (14 : Int)) H1
                                                    else
                                                      ∃ (b1 : Bool),
                                                        X.rd1 H1 (X.n H) (2 : Nat) = some (AV.bool b1) ∧
                                                          ∃ (n12 : Int),
                                                            X.rd1 H1 (X.n H) (1 : Nat) = some (AV.int IntKind.i64 n12) ∧
                                                              ∃ (n13 : Int),
                                                                X.rd1 H1 (X.n H) (0 : Nat) = some (AV.int IntKind.i64 n13) ∧
                                                                  ∃ (n14 : Int),
                                                                    X.rd1 H1 (X.n H) (0 : Nat) = some (AV.int IntKind.i64 n14) ∧
                                                                      bif b1 && !(n12 == (1001 : Int) && (n13 == (30000 : Int) || n14 == (60000 : Int))) then Q (AV.int IntKind.i64 (14 : Int)) H1 else Q (AV.int IntKind.i64 (0 : Int)) H1
                          else Q (AV.int IntKind.i64 (14 : Int)) (X.al H (AObj.cells [AV.int IntKind.i64 a, AV.int IntKind.i64 b, AV.bool c] (23 : Nat) { whole := true }))) := by kernel_rfl

theorem refCommon_vc (X : Atoms) (a b : Int) (H : AH) (Q : AV → AH → Prop) (I : Int × Int → AH → Nat → Prop) : (vcF X Tryz.prog [⟨1, Int × Int, [0, 1], fun x => [.int .i64 x.1, .int .i64 x.2], I⟩] 29 [.int .i64 a, .int .i64 b] H Q) =
  ((∃ (x1 : Int × Int), ∃ (k1 : Nat), [AV.int IntKind.i64 a, AV.int IntKind.i64 b] = [AV.int IntKind.i64 x1.fst, AV.int IntKind.i64 x1.snd] ∧ I x1 H k1) ∧
  ∀ (x2 : Int × Int) (H1 : AH) (k2 : Nat),
    I x2 H1 k2 →
      bif x2.snd != (0 : Int) then x2.snd ≠ (0 : Int) ∧ ∃ (x3 : Int × Int), ∃ (k3 : Nat), k3 < k2 ∧ [AV.int IntKind.i64 x2.snd, AV.int IntKind.i64 (x2.fst.tmod x2.snd)] = [AV.int IntKind.i64 x3.fst, AV.int IntKind.i64 x3.snd] ∧ I x3 H1 k3
      else Q (AV.int IntKind.i64 x2.fst) H1) := by kernel_rfl

theorem Check_vc (X : Atoms) (a b : Int) (c : Bool) (H : AH) (Q : AV → AH → Prop) (I : Int × Int → AH → Nat → Prop) : (vcF X Tryz.prog [⟨4, Int × Int, [1, 3, 4], fun x => [.ptr (some (X.n H, 0)), .int .i64 x.1, .int .i64 x.2], I⟩] 17 [.agg [.int .i64 a, .int .i64 b, .bool c]] H Q) =
  (true = true ∧
  ∃ (n1 : Int),
    X.rd1 (X.al H (AObj.cells [AV.int IntKind.i64 a, AV.int IntKind.i64 b, AV.bool c] (23 : Nat) { whole := true })) (X.n H) (0 : Nat) = some (AV.int IntKind.i64 n1) ∧
      ∃ (n2 : Int),
        X.rd1 (X.al H (AObj.cells [AV.int IntKind.i64 a, AV.int IntKind.i64 b, AV.bool c] (23 : Nat) { whole := true })) (X.n H) (0 : Nat) = some (AV.int IntKind.i64 n2) ∧
          ∃ (n3 : Int),
            X.rd1 (X.al H (AObj.cells [AV.int IntKind.i64 a, AV.int IntKind.i64 b, AV.bool c] (23 : Nat) { whole := true })) (X.n H) (1 : Nat) = some (AV.int IntKind.i64 n3) ∧
              ∃ (n4 : Int),
                X.rd1 (X.al H (AObj.cells [AV.int IntKind.i64 a, AV.int IntKind.i64 b, AV.bool c] (23 : Nat) { whole := true })) (X.n H) (1 : Nat) = some (AV.int IntKind.i64 n4) ∧
                  bif decide (n1 < (1 : Int)) || decide (n2 > (240000 : Int)) || decide (n3 < (1 : Int)) || decide (n4 > (1001 : Int)) then
                    Q (AV.int IntKind.i64 (14 : Int)) (X.al H (AObj.cells [AV.int IntKind.i64 a, AV.int IntKind.i64 b, AV.bool c] (23 : Nat) { whole := true }))
                  else
                    ∃ (n5 : Int),
                      X.rd1 (X.al H (AObj.cells [AV.int IntKind.i64 a, AV.int IntKind.i64 b, AV.bool c] (23 : Nat) { whole := true })) (X.n H) (0 : Nat) = some (AV.int IntKind.i64 n5) ∧
                        ∃ (n6 : Int),
                          X.rd1 (X.al H (AObj.cells [AV.int IntKind.i64 a, AV.int IntKind.i64 b, AV.bool c] (23 : Nat) { whole := true })) (X.n H) (1 : Nat) = some (AV.int IntKind.i64 n6) ∧
                            (∃ (x1 : Int × Int),
                                ∃ (k1 : Nat),
                                  [AV.ptr (some (X.n H, (0 : Nat))), AV.int IntKind.i64 n5, AV.int IntKind.i64 n6] = [AV.ptr (some (X.n H, (0 : Nat))), AV.int IntKind.i64 x1.fst, AV.int IntKind.i64 x1.snd] ∧
                                    I x1 (X.al H (AObj.cells [AV.int IntKind.i64 a, AV.int IntKind.i64 b, AV.bool c] (23 : Nat) { whole := true })) k1) ∧
                              ∀ (x2 : Int × Int) (H1 : AH) (k2 : Nat),
                                I x2 H1 k2 →
                                  bif x2.snd != (0 : Int) then
                                    x2.snd ≠ (0 : Int) ∧
                                      ∃ (x3 : Int × Int),
                                        ∃ (k3 : Nat),
                                          k3 < k2 ∧
                                            [AV.ptr (some (X.n H, (0 : Nat))), AV.int IntKind.i64 x2.snd, AV.int IntKind.i64 (x2.fst.tmod x2.snd)] = [AV.ptr (some (X.n H, (0 : Nat))), AV.int IntKind.i64 x3.fst, AV.int IntKind.i64 x3.snd] ∧
                                              I x3 H1 k3
                                  else
                                    ∃ (n7 : Int),
                                      X.rd1 H1 (X.n H) (0 : Nat) = some (AV.int IntKind.i64 n7) ∧
                                        ∃ (n8 : Int),
                                          X.rd1 H1 (X.n H) (1 : Nat) = some (AV.int IntKind.i64 n8) ∧
                                            ∃ (n9 : Int),
                                              X.rd1 H1 (X.n H) (0 : Nat) = some (AV.int IntKind.i64 n9) ∧
                                                ∃ (n10 : Int),
                                                  X.rd1 H1 (X.n H) (1 : Nat) = some (AV.int IntKind.i64 n10) ∧
                                                    ∃ (b1 : Bool),
                                                      X.rd1 H1 (X.n H) (2 : Nat) = some (AV.bool b1) ∧
                                                        ∃ (n11 : Int),
                                                          X.rd1 H1 (X.n H) (0 : Nat) = some (AV.int IntKind.i64 n11) ∧
                                                            ∃ (n12 : Int),
                                                              X.rd1 H1 (X.n H) (1 : Nat) = some (AV.int IntKind.i64 n12) ∧
                                                                bif (x2.fst != (1 : Int) || decide (n7 < n8) || decide (n9 > X.wrap IntKind.i64 ((240 : Int) * n10))) == false && b1 == true then
                                                                  X.call (25 : Nat) [AV.agg [AV.int IntKind.i64 n11, AV.int IntKind.i64 n12]] H1 fun (v1 : AV) (H2 : AH) =>
                                                                    ∃ (n13 : Int),
                                                                      v1 = AV.int IntKind.i64 n13 ∧
                                                                        bif x2.fst != (1 : Int) || decide (n7 < n8) || decide (n9 > X.wrap IntKind.i64 ((240 : Int) * n10)) || n13 == (0 : Int) then Q (AV.int IntKind.i64 (14 : Int)) H2
                                                                        else Q (AV.int IntKind.i64 (0 : Int)) H2
                                                                else
                                                                  bif x2.fst != (1 : Int) || decide (n7 < n8) || decide (n9 > X.wrap IntKind.i64 ((240 : Int) * n10)) || false then Q (AV.int IntKind.i64 (14 : Int)) H1
                                                                  else Q (AV.int IntKind.i64 (0 : Int)) H1) := by kernel_rfl

theorem drops_vc (X : Atoms) (a b : Int) (H : AH) (Q : AV → AH → Prop) : (vcF X Tryz.prog [] 25 [.agg [.int .i64 a, .int .i64 b]] H Q) =
  (true = true ∧
  ∃ (n1 : Int),
    ∃ (n2 : Int),
      X.rdn (X.al H (AObj.cells [AV.int IntKind.i64 a, AV.int IntKind.i64 b] (68 : Nat) { whole := true })) (X.n H) (0 : Nat) (2 : Nat) = some [AV.int IntKind.i64 n1, AV.int IntKind.i64 n2] ∧
        bif n1 == (30000 : Int) && (n2 == (1001 : Int) && true) then Q (AV.int IntKind.i64 (2 : Int)) (X.al H (AObj.cells [AV.int IntKind.i64 a, AV.int IntKind.i64 b] (68 : Nat) { whole := true }))
        else
          ∃ (n3 : Int),
            ∃ (n4 : Int),
              X.rdn (X.al H (AObj.cells [AV.int IntKind.i64 a, AV.int IntKind.i64 b] (68 : Nat) { whole := true })) (X.n H) (0 : Nat) (2 : Nat) = some [AV.int IntKind.i64 n3, AV.int IntKind.i64 n4] ∧
                bif n3 == (60000 : Int) && (n4 == (1001 : Int) && true) then Q (AV.int IntKind.i64 (4 : Int)) (X.al H (AObj.cells [AV.int IntKind.i64 a, AV.int IntKind.i64 b] (68 : Nat) { whole := true }))
                else Q (AV.int IntKind.i64 (0 : Int)) (X.al H (AObj.cells [AV.int IntKind.i64 a, AV.int IntKind.i64 b] (68 : Nat) { whole := true }))) := by kernel_rfl

theorem New_vc (X : Atoms) (a b : Int) (H : AH) (Q : AV → AH → Prop) : (vcF X Tryz.prog [] 18 [.int .i64 a, .int .i64 b] H Q) =
  (bif b == (0 : Int) then
  [AV.int IntKind.i64 (0 : Int), AV.int IntKind.i64 (0 : Int)].length = (2 : Nat) ∧
    ∃ (H1 : AH),
      X.wr (X.al H (AObj.cells [AV.int IntKind.i64 (0 : Int), AV.int IntKind.i64 (0 : Int)] (25 : Nat) { whole := true })) (X.n H) (0 : Nat) [AV.int IntKind.i64 (0 : Int), AV.int IntKind.i64 (0 : Int)] = some H1 ∧
        ∃ (n1 : Int), ∃ (n2 : Int), X.rdn H1 (X.n H) (0 : Nat) (2 : Nat) = some [AV.int IntKind.i64 n1, AV.int IntKind.i64 n2] ∧ Q (AV.tuple [AV.agg [AV.int IntKind.i64 n1, AV.int IntKind.i64 n2], AV.int IntKind.i64 (11 : Int)]) H1
else
  X.call (27 : Nat) [AV.int IntKind.i64 a] (X.al H (AObj.cells [AV.int IntKind.i64 (0 : Int), AV.int IntKind.i64 (0 : Int)] (25 : Nat) { whole := true })) fun (v1 : AV) (H2 : AH) =>
    ∃ (n3 : Int),
      v1 = AV.int IntKind.u64 n3 ∧
        X.call (26 : Nat) [AV.int IntKind.u64 n3] H2 fun (v2 : AV) (H3 : AH) =>
          ∃ (n4 : Int),
            ∃ (n5 : Int),
              v2 = AV.agg [AV.int IntKind.u64 n4, AV.int IntKind.u64 n5] ∧
                X.call (27 : Nat) [AV.int IntKind.i64 b] H3 fun (v3 : AV) (H4 : AH) =>
                  ∃ (n6 : Int),
                    v3 = AV.int IntKind.u64 n6 ∧
                      X.call (26 : Nat) [AV.int IntKind.u64 n6] H4 fun (v4 : AV) (H5 : AH) =>
                        ∃ (n7 : Int),
                          ∃ (n8 : Int),
                            v4 = AV.agg [AV.int IntKind.u64 n7, AV.int IntKind.u64 n8] ∧
                              X.call (28 : Nat) [AV.agg [AV.bool !decide (a < (0 : Int)) == decide (b < (0 : Int)), AV.int IntKind.u64 n4, AV.int IntKind.u64 n5, AV.int IntKind.u64 n7, AV.int IntKind.u64 n8]] H5 fun (v5 : AV) (H6 : AH) =>
                                ∃ (n9 : Int),
                                  ∃ (n10 : Int),
                                    ∃ (n11 : Int),
                                      v5 = AV.tuple [AV.agg [AV.int IntKind.i64 n9, AV.int IntKind.i64 n10], AV.int IntKind.i64 n11] ∧
                                        [AV.int IntKind.i64 n9, AV.int IntKind.i64 n10].length = (2 : Nat) ∧
                                          ∃ (H7 : AH),
                                            X.wr H6 (X.n H) (0 : Nat) [AV.int IntKind.i64 n9, AV.int IntKind.i64 n10] = some H7 ∧
                                              ∃ (n12 : Int),
                                                ∃ (n13 : Int),
                                                  X.rdn H7 (X.n H) (0 : Nat) (2 : Nat) = some [AV.int IntKind.i64 n12, AV.int IntKind.i64 n13] ∧
                                                    Q (AV.tuple [AV.agg [AV.int IntKind.i64 n12, AV.int IntKind.i64 n13], AV.int IntKind.i64 n11]) H7) := by kernel_rfl

theorem small_vc (X : Atoms) (a : Int) (H : AH) (Q : AV → AH → Prop) : (vcF X Tryz.prog [] 26 [.int .u64 a] H Q) =
  ([AV.int IntKind.u64 (0 : Int), AV.int IntKind.u64 a].length = (2 : Nat) ∧
  ∃ (H1 : AH),
    X.wr (X.al H (AObj.cells [AV.int IntKind.u64 (0 : Int), AV.int IntKind.u64 (0 : Int)] (76 : Nat) { whole := true })) (X.n H) (0 : Nat) [AV.int IntKind.u64 (0 : Int), AV.int IntKind.u64 a] = some H1 ∧
      ∃ (n1 : Int), ∃ (n2 : Int), X.rdn H1 (X.n H) (0 : Nat) (2 : Nat) = some [AV.int IntKind.u64 n1, AV.int IntKind.u64 n2] ∧ Q (AV.agg [AV.int IntKind.u64 n1, AV.int IntKind.u64 n2]) H1) := by kernel_rfl

theorem size_vc (X : Atoms) (a : Int) (H : AH) (Q : AV → AH → Prop) : (vcF X Tryz.prog [] 27 [.int .i64 a] H Q) =
  (bif decide (a < (0 : Int)) then Q (AV.int IntKind.u64 (X.wrap IntKind.u64 (X.wrap IntKind.u64 (X.wrap IntKind.i64 ((0 : Int) - X.wrap IntKind.i64 (a + (1 : Int)))) + (1 : Int)))) H else Q (AV.int IntKind.u64 (X.wrap IntKind.u64 a)) H) := by kernel_rfl

theorem fit_vc (X : Atoms) (g : Bool) (a b c d : Int) (H : AH) (Q : AV → AH → Prop) : (vcF X Tryz.prog [] 28 [.agg [.bool g, .int .u64 a, .int .u64 b, .int .u64 c, .int .u64 d]] H Q) =
  (true = true ∧
  ∃ (n1 : Int),
    ∃ (n2 : Int),
      X.rdn
            (X.al (X.al H (AObj.cells [AV.bool g, AV.int IntKind.u64 a, AV.int IntKind.u64 b, AV.int IntKind.u64 c, AV.int IntKind.u64 d] (80 : Nat) { whole := true }))
              (AObj.cells [AV.int IntKind.i64 (0 : Int), AV.int IntKind.i64 (0 : Int)] (25 : Nat) { whole := true }))
            (X.n H) (1 : Nat) (2 : Nat) =
          some [AV.int IntKind.u64 n1, AV.int IntKind.u64 n2] ∧
        ∃ (n3 : Int),
          ∃ (n4 : Int),
            X.rdn
                  (X.al (X.al H (AObj.cells [AV.bool g, AV.int IntKind.u64 a, AV.int IntKind.u64 b, AV.int IntKind.u64 c, AV.int IntKind.u64 d] (80 : Nat) { whole := true }))
                    (AObj.cells [AV.int IntKind.i64 (0 : Int), AV.int IntKind.i64 (0 : Int)] (25 : Nat) { whole := true }))
                  (X.n H) (3 : Nat) (2 : Nat) =
                some [AV.int IntKind.u64 n3, AV.int IntKind.u64 n4] ∧
              X.call (39 : Nat) [AV.agg [AV.int IntKind.u64 n1, AV.int IntKind.u64 n2], AV.agg [AV.int IntKind.u64 n3, AV.int IntKind.u64 n4]]
                (X.al (X.al H (AObj.cells [AV.bool g, AV.int IntKind.u64 a, AV.int IntKind.u64 b, AV.int IntKind.u64 c, AV.int IntKind.u64 d] (80 : Nat) { whole := true }))
                  (AObj.cells [AV.int IntKind.i64 (0 : Int), AV.int IntKind.i64 (0 : Int)] (25 : Nat) { whole := true }))
                fun (v1 : AV) (H1 : AH) =>
                ∃ (n5 : Int),
                  ∃ (n6 : Int),
                    v1 = AV.agg [AV.int IntKind.u64 n5, AV.int IntKind.u64 n6] ∧
                      [AV.int IntKind.u64 n5, AV.int IntKind.u64 n6].length = (2 : Nat) ∧
                        ∃ (H2 : AH),
                          X.wr (X.al H1 (AObj.cells [AV.int IntKind.u64 (0 : Int), AV.int IntKind.u64 (0 : Int)] (76 : Nat) { whole := true })) (X.n H1) (0 : Nat) [AV.int IntKind.u64 n5, AV.int IntKind.u64 n6] = some H2 ∧
                            ∃ (n7 : Int),
                              ∃ (n8 : Int),
                                X.rdn H2 (X.n H) (1 : Nat) (2 : Nat) = some [AV.int IntKind.u64 n7, AV.int IntKind.u64 n8] ∧
                                  ∃ (n9 : Int),
                                    ∃ (n10 : Int),
                                      X.rdn H2 (X.n H1) (0 : Nat) (2 : Nat) = some [AV.int IntKind.u64 n9, AV.int IntKind.u64 n10] ∧
                                        X.call (40 : Nat) [AV.agg [AV.int IntKind.u64 n7, AV.int IntKind.u64 n8], AV.agg [AV.int IntKind.u64 n9, AV.int IntKind.u64 n10]] H2 fun (v2 : AV) (H3 : AH) =>
                                          ∃ (n11 : Int),
                                            ∃ (n12 : Int),
                                              ∃ (n13 : Int),
                                                ∃ (n14 : Int),
                                                  v2 = AV.tuple [AV.agg [AV.int IntKind.u64 n11, AV.int IntKind.u64 n12], AV.agg [AV.int IntKind.u64 n13, AV.int IntKind.u64 n14]] ∧
                                                    [AV.int IntKind.u64 n11, AV.int IntKind.u64 n12].length = (2 : Nat) ∧
                                                      ∃ (H4 : AH),
                                                        X.wr
                                                              (X.al (X.al H3 (AObj.cells [AV.int IntKind.u64 (0 : Int), AV.int IntKind.u64 (0 : Int)] (76 : Nat) { whole := true }))
                                                                (AObj.cells [AV.int IntKind.u64 (0 : Int), AV.int IntKind.u64 (0 : Int)] (76 : Nat) { whole := true }))
                                                              (X.n H3) (0 : Nat) [AV.int IntKind.u64 n11, AV.int IntKind.u64 n12] =
                                                            some H4 ∧
                                                          [AV.int IntKind.u64 n13, AV.int IntKind.u64 n14].length = (2 : Nat) ∧
                                                            ∃ (H5 : AH),
                                                              X.wr H4 (X.n (X.al H3 (AObj.cells [AV.int IntKind.u64 (0 : Int), AV.int IntKind.u64 (0 : Int)] (76 : Nat) { whole := true }))) (0 : Nat)
                                                                    [AV.int IntKind.u64 n13, AV.int IntKind.u64 n14] =
                                                                  some H5 ∧
                                                                ∃ (n15 : Int),
                                                                  ∃ (n16 : Int),
                                                                    X.rdn H5 (X.n H) (3 : Nat) (2 : Nat) = some [AV.int IntKind.u64 n15, AV.int IntKind.u64 n16] ∧
                                                                      ∃ (n17 : Int),
                                                                        ∃ (n18 : Int),
                                                                          X.rdn H5 (X.n H1) (0 : Nat) (2 : Nat) = some [AV.int IntKind.u64 n17, AV.int IntKind.u64 n18] ∧
                                                                            X.call (40 : Nat) [AV.agg [AV.int IntKind.u64 n15, AV.int IntKind.u64 n16], AV.agg [AV.int IntKind.u64 n17, AV.int IntKind.u64 n18]] H5 fun (v3 : AV) (H6 : AH) =>
                                                                              ∃ (n19 : Int),
                                                                                ∃ (n20 : Int),
                                                                                  ∃ (n21 : Int),
                                                                                    ∃ (n22 : Int),
                                                                                      v3 = AV.tuple [AV.agg [AV.int IntKind.u64 n19, AV.int IntKind.u64 n20], AV.agg [AV.int IntKind.u64 n21, AV.int IntKind.u64 n22]] ∧
                                                                                        [AV.int IntKind.u64 n19, AV.int IntKind.u64 n20].length = (2 : Nat) ∧
                                                                                          ∃ (H7 : AH),
                                                                                            X.wr
                                                                                                  (X.al (X.al H6 (AObj.cells [AV.int IntKind.u64 (0 : Int), AV.int IntKind.u64 (0 : Int)] (76 : Nat) { whole := true }))
                                                                                                    (AObj.cells [AV.int IntKind.u64 (0 : Int), AV.int IntKind.u64 (0 : Int)] (76 : Nat) { whole := true }))
                                                                                                  (X.n H6) (0 : Nat) [AV.int IntKind.u64 n19, AV.int IntKind.u64 n20] =
                                                                                                some H7 ∧
                                                                                              [AV.int IntKind.u64 n21, AV.int IntKind.u64 n22].length = (2 : Nat) ∧
                                                                                                ∃ (H8 : AH),
                                                                                                  X.wr H7 (X.n (X.al H6 (AObj.cells [AV.int IntKind.u64 (0 : Int), AV.int IntKind.u64 (0 : Int)] (76 : Nat) { whole := true }))) (0 : Nat)
                                                                                                        [AV.int IntKind.u64 n21, AV.int IntKind.u64 n22] =
                                                                                                      some H8 ∧
                                                                                                    ∃ (n23 : Int),
                                                                                                      ∃ (n24 : Int),
                                                                                                        X.rdn H8 (X.n H3) (0 : Nat) (2 : Nat) = some [AV.int IntKind.u64 n23, AV.int IntKind.u64 n24] ∧
                                                                                                          X.call (26 : Nat) [AV.int IntKind.u64 (4611686018427387904 : Int)] H8 fun (v4 : AV) (H9 : AH) =>
                                                                                                            ∃ (n25 : Int),
                                                                                                              ∃ (n26 : Int),
                                                                                                                v4 = AV.agg [AV.int IntKind.u64 n25, AV.int IntKind.u64 n26] ∧
                                                                                                                  (∃ (n27 : Int),
                                                                                                                      ∃ (n28 : Int),
                                                                                                                        X.rdn H9 (X.n H3) (0 : Nat) (2 : Nat) = some [AV.int IntKind.u64 n27, AV.int IntKind.u64 n28] ∧
                                                                                                                          AV.agg [AV.int IntKind.u64 n27, AV.int IntKind.u64 n28] = AV.agg [AV.int IntKind.u64 n23, AV.int IntKind.u64 n24]) ∧
                                                                                                                    X.call (41 : Nat)
                                                                                                                      [AV.agg [AV.int IntKind.u64 n23, AV.int IntKind.u64 n24], AV.agg [AV.int IntKind.u64 n25, AV.int IntKind.u64 n26]] H9
                                                                                                                      fun (v5 : AV) (H10 : AH) =>
                                                                                                                      ∃ (n29 : Int),
                                                                                                                        v5 = AV.int IntKind.i64 n29 ∧
                                                                                                                          bif decide (n29 > (0 : Int)) == false then
                                                                                                                            ∃ (n30 : Int),
                                                                                                                              ∃ (n31 : Int),
                                                                                                                                X.rdn H10 (X.n H6) (0 : Nat) (2 : Nat) = some [AV.int IntKind.u64 n30, AV.int IntKind.u64 n31] ∧
                                                                                                                                  X.call (26 : Nat) [AV.int IntKind.u64 (2147483648 : Int)] H10 fun (v6 : AV) (H11 : AH) =>
                                                                                                                                    ∃ (n32 : Int),
                                                                                                                                      ∃ (n33 : Int),
                                                                                                                                        v6 = AV.agg [AV.int IntKind.u64 n32, AV.int IntKind.u64 n33] ∧
                                                                                                                                          (∃ (n34 : Int),
                                                                                                                                              ∃ (n35 : Int),
                                                                                                                                                X.rdn H11 (X.n H6) (0 : Nat) (2 : Nat) = some [AV.int IntKind.u64 n34, AV.int IntKind.u64 n35] ∧
                                                                                                                                                  AV.agg [AV.int IntKind.u64 n34, AV.int IntKind.u64 n35] =
                                                                                                                                                    AV.agg [AV.int IntKind.u64 n30, AV.int IntKind.u64 n31]) ∧
                                                                                                                                            X.call (41 : Nat)
                                                                                                                                              [AV.agg [AV.int IntKind.u64 n30, AV.int IntKind.u64 n31],
                                                                                                                                                AV.agg [AV.int IntKind.u64 n32, AV.int IntKind.u64 n33]]
                                                                                                                                              H11 fun (v7 : AV) (H12 : AH) =>
                                                                                                                                              ∃ (n36 : Int),
                                                                                                                                                v7 = AV.int IntKind.i64 n36 ∧
                                                                                                                                                  bif decide (n36 > (0 : Int)) then
                                                                                                                                                    [AV.int IntKind.i64 (0 : Int), AV.int IntKind.i64 (0 : Int)].length = (2 : Nat) ∧
                                                                                                                                                      ∃ (H13 : AH),
                                                                                                                                                        X.wr H12
                                                                                                                                                              (X.n
                                                                                                                                                                (X.al H
                                                                                                                                                                  (AObj.cells
                                                                                                                                                                    [AV.bool g, AV.int IntKind.u64 a, AV.int IntKind.u64 b,
                                                                                                                                                                      AV.int IntKind.u64 c, AV.int IntKind.u64 d]
                                                                                                                                                                    (80 : Nat) { whole := true })))
                                                                                                                                                              (0 : Nat) [AV.int IntKind.i64 (0 : Int), AV.int IntKind.i64 (0 : Int)] =
                                                                                                                                                            some H13 ∧
                                                                                                                                                          ∃ (n37 : Int),
                                                                                                                                                            ∃ (n38 : Int),
                                                                                                                                                              X.rdn H13
                                                                                                                                                                    (X.n
                                                                                                                                                                      (X.al H
                                                                                                                                                                        (AObj.cells
                                                                                                                                                                          [AV.bool g, AV.int IntKind.u64 a, AV.int IntKind.u64 b,
                                                                                                                                                                            AV.int IntKind.u64 c, AV.int IntKind.u64 d]
                                                                                                                                                                          (80 : Nat) { whole := true })))
                                                                                                                                                                    (0 : Nat) (2 : Nat) =
                                                                                                                                                                  some [AV.int IntKind.i64 n37, AV.int IntKind.i64 n38] ∧
                                                                                                                                                                Q
                                                                                                                                                                  (AV.tuple
                                                                                                                                                                    [AV.agg [AV.int IntKind.i64 n37, AV.int IntKind.i64 n38],
                                                                                                                                                                      AV.int IntKind.i64 (12 : Int)])
                                                                                                                                                                  H13
                                                                                                                                                  else
                                                                                                                                                    ∃ (n39 : Int),
                                                                                                                                                      X.rd1 H12 (X.n H3) (1 : Nat) = some (AV.int IntKind.u64 n39) ∧
                                                                                                                                                        ∃ (n40 : Int),
                                                                                                                                                          X.rd1 H12 (X.n H6) (1 : Nat) = some (AV.int IntKind.u64 n40) ∧
                                                                                                                                                            [AV.int IntKind.i64 (X.wrap IntKind.i64 n39),
                                                                                                                                                                    AV.int IntKind.i64 (X.wrap IntKind.i64 n40)].length =
                                                                                                                                                                (2 : Nat) ∧
                                                                                                                                                              ∃ (H14 : AH),
                                                                                                                                                                X.wr
                                                                                                                                                                      (X.al H12
                                                                                                                                                                        (AObj.cells [AV.int IntKind.i64 (0 : Int), AV.int IntKind.i64 (0 : Int)]
                                                                                                                                                                          (25 : Nat) { whole := true }))
                                                                                                                                                                      (X.n H12) (0 : Nat)
                                                                                                                                                                      [AV.int IntKind.i64 (X.wrap IntKind.i64 n39),
                                                                                                                                                                        AV.int IntKind.i64 (X.wrap IntKind.i64 n40)] =
                                                                                                                                                                    some H14 ∧
                                                                                                                                                                  ∃ (b1 : Bool),
                                                                                                                                                                    X.rd1 H14 (X.n H) (0 : Nat) = some (AV.bool b1) ∧
                                                                                                                                                                      bif b1 then
                                                                                                                                                                        ∃ (n41 : Int),
                                                                                                                                                                          X.rd1 H14 (X.n H12) (0 : Nat) = some (AV.int IntKind.i64 n41) ∧
                                                                                                                                                                            [AV.int IntKind.i64 (X.wrap IntKind.i64 ((0 : Int) - n41))].length =
                                                                                                                                                                                (1 : Nat) ∧
                                                                                                                                                                              ∃ (H15 : AH),
                                                                                                                                                                                X.wr H14 (X.n H12) (0 : Nat)
                                                                                                                                                                                      [AV.int IntKind.i64
                                                                                                                                                                                          (X.wrap IntKind.i64 ((0 : Int) - n41))] =
                                                                                                                                                                                    some H15 ∧
                                                                                                                                                                                  ∃ (n42 : Int),
                                                                                                                                                                                    ∃ (n43 : Int),
                                                                                                                                                                                      X.rdn H15 (X.n H12) (0 : Nat) (2 : Nat) =
                                                                                                                                                                                          some
                                                                                                                                                                                            [AV.int IntKind.i64 n42, AV.int IntKind.i64 n43] ∧
                                                                                                                                                                                        [AV.int IntKind.i64 n42,
                                                                                                                                                                                                AV.int IntKind.i64 n43].length =
                                                                                                                                                                                            (2 : Nat) ∧
                                                                                                                                                                                          ∃ (H16 : AH),
                                                                                                                                                                                            X.wr H15
                                                                                                                                                                                                  (X.n
                                                                                                                                                                                                    (X.al H
                                                                                                                                                                                                      (AObj.cells
                                                                                                                                                                                                        [AV.bool g, AV.int IntKind.u64 a,
                                                                                                                                                                                                          AV.int IntKind.u64 b,
                                                                                                                                                                                                          AV.int IntKind.u64 c,
                                                                                                                                                                                                          AV.int IntKind.u64 d]
                                                                                                                                                                                                        (80 : Nat) { whole := true })))
                                                                                                                                                                                                  (0 : Nat)
                                                                                                                                                                                                  [AV.int IntKind.i64 n42,
                                                                                                                                                                                                    AV.int IntKind.i64 n43] =
                                                                                                                                                                                                some H16 ∧
                                                                                                                                                                                              ∃ (n44 : Int),
                                                                                                                                                                                                ∃ (n45 : Int),
                                                                                                                                                                                                  X.rdn H16
                                                                                                                                                                                                        (X.n
                                                                                                                                                                                                          (X.al H
                                                                                                                                                                                                            (AObj.cells
                                                                                                                                                                                                              [AV.bool g, AV.int IntKind.u64 a,
                                                                                                                                                                                                                AV.int IntKind.u64 b,
                                                                                                                                                                                                                AV.int IntKind.u64 c,
                                                                                                                                                                                                                AV.int IntKind.u64 d]
                                                                                                                                                                                                              (80 : Nat) { whole := true })))
                                                                                                                                                                                                        (0 : Nat) (2 : Nat) =
                                                                                                                                                                                                      some
                                                                                                                                                                                                        [AV.int IntKind.i64 n44,
                                                                                                                                                                                                          AV.int IntKind.i64 n45] ∧
                                                                                                                                                                                                    Q
                                                                                                                                                                                                      (AV.tuple
                                                                                                                                                                                                        [AV.agg
                                                                                                                                                                                                            [AV.int IntKind.i64 n44,
                                                                                                                                                                                                              AV.int IntKind.i64 n45],
                                                                                                                                                                                                          AV.int IntKind.i64 (0 : Int)])
                                                                                                                                                                                                      H16
                                                                                                                                                                      else
                                                                                                                                                                        ∃ (n46 : Int),
                                                                                                                                                                          ∃ (n47 : Int),
                                                                                                                                                                            X.rdn H14 (X.n H12) (0 : Nat) (2 : Nat) =
                                                                                                                                                                                some [AV.int IntKind.i64 n46, AV.int IntKind.i64 n47] ∧
                                                                                                                                                                              [AV.int IntKind.i64 n46, AV.int IntKind.i64 n47].length =
                                                                                                                                                                                  (2 : Nat) ∧
                                                                                                                                                                                ∃ (H17 : AH),
                                                                                                                                                                                  X.wr H14
                                                                                                                                                                                        (X.n
                                                                                                                                                                                          (X.al H
                                                                                                                                                                                            (AObj.cells
                                                                                                                                                                                              [AV.bool g, AV.int IntKind.u64 a,
                                                                                                                                                                                                AV.int IntKind.u64 b, AV.int IntKind.u64 c,
                                                                                                                                                                                                AV.int IntKind.u64 d]
                                                                                                                                                                                              (80 : Nat) { whole := true })))
                                                                                                                                                                                        (0 : Nat)
                                                                                                                                                                                        [AV.int IntKind.i64 n46, AV.int IntKind.i64 n47] =
                                                                                                                                                                                      some H17 ∧
                                                                                                                                                                                    ∃ (n48 : Int),
                                                                                                                                                                                      ∃ (n49 : Int),
                                                                                                                                                                                        X.rdn H17
                                                                                                                                                                                              (X.n
                                                                                                                                                                                                (X.al H
                                                                                                                                                                                                  (AObj.cells
                                                                                                                                                                                                    [AV.bool g, AV.int IntKind.u64 a,
                                                                                                                                                                                                      AV.int IntKind.u64 b,
                                                                                                                                                                                                      AV.int IntKind.u64 c,
                                                                                                                                                                                                      AV.int IntKind.u64 d]
                                                                                                                                                                                                    (80 : Nat) { whole := true })))
                                                                                                                                                                                              (0 : Nat) (2 : Nat) =
                                                                                                                                                                                            some
                                                                                                                                                                                              [AV.int IntKind.i64 n48, AV.int IntKind.i64 n49] ∧
                                                                                                                                                                                          Q
                                                                                                                                                                                            (AV.tuple
                                                                                                                                                                                              [AV.agg
                                                                                                                                                                                                  [AV.int IntKind.i64 n48,
                                                                                                                                                                                                    AV.int IntKind.i64 n49],
                                                                                                                                                                                                AV.int IntKind.i64 (0 : Int)])
                                                                                                                                                                                            H17
                                                                                                                          else
                                                                                                                            [AV.int IntKind.i64 (0 : Int), AV.int IntKind.i64 (0 : Int)].length = (2 : Nat) ∧
                                                                                                                              ∃ (H18 : AH),
                                                                                                                                X.wr H10
                                                                                                                                      (X.n
                                                                                                                                        (X.al H
                                                                                                                                          (AObj.cells
                                                                                                                                            [AV.bool g, AV.int IntKind.u64 a, AV.int IntKind.u64 b, AV.int IntKind.u64 c, AV.int IntKind.u64 d]
                                                                                                                                            (80 : Nat) { whole := true })))
                                                                                                                                      (0 : Nat) [AV.int IntKind.i64 (0 : Int), AV.int IntKind.i64 (0 : Int)] =
                                                                                                                                    some H18 ∧
                                                                                                                                  ∃ (n50 : Int),
                                                                                                                                    ∃ (n51 : Int),
                                                                                                                                      X.rdn H18
                                                                                                                                            (X.n
                                                                                                                                              (X.al H
                                                                                                                                                (AObj.cells
                                                                                                                                                  [AV.bool g, AV.int IntKind.u64 a, AV.int IntKind.u64 b, AV.int IntKind.u64 c,
                                                                                                                                                    AV.int IntKind.u64 d]
                                                                                                                                                  (80 : Nat) { whole := true })))
                                                                                                                                            (0 : Nat) (2 : Nat) =
                                                                                                                                          some [AV.int IntKind.i64 n50, AV.int IntKind.i64 n51] ∧
                                                                                                                                        Q (AV.tuple [AV.agg [AV.int IntKind.i64 n50, AV.int IntKind.i64 n51], AV.int IntKind.i64 (12 : Int)])
                                                                                                                                          H18) := by kernel_rfl

theorem over_vc (X : Atoms) (a b c d : Int) (H : AH) (Q : AV → AH → Prop) : (vcF X Tryz.prog [] 40 [.agg [.int .u64 a, .int .u64 b], .agg [.int .u64 c, .int .u64 d]] H Q) =
  (true = true ∧
  true = true ∧
    ∃ (n1 : Int),
      X.rd1
            (X.al
              (X.al (X.al (X.al H (AObj.cells [AV.int IntKind.u64 a, AV.int IntKind.u64 b] (76 : Nat) { whole := true })) (AObj.cells [AV.int IntKind.u64 c, AV.int IntKind.u64 d] (76 : Nat) { whole := true }))
                (AObj.cells [AV.int IntKind.u64 (0 : Int), AV.int IntKind.u64 (0 : Int)] (76 : Nat) { whole := true }))
              (AObj.cells [AV.int IntKind.u64 (0 : Int), AV.int IntKind.u64 (0 : Int)] (76 : Nat) { whole := true }))
            (X.n (X.al H (AObj.cells [AV.int IntKind.u64 a, AV.int IntKind.u64 b] (76 : Nat) { whole := true }))) (0 : Nat) =
          some (AV.int IntKind.u64 n1) ∧
        bif n1 == (0 : Int) then
          ∃ (n2 : Int),
            X.rd1
                  (X.al
                    (X.al (X.al (X.al H (AObj.cells [AV.int IntKind.u64 a, AV.int IntKind.u64 b] (76 : Nat) { whole := true })) (AObj.cells [AV.int IntKind.u64 c, AV.int IntKind.u64 d] (76 : Nat) { whole := true }))
                      (AObj.cells [AV.int IntKind.u64 (0 : Int), AV.int IntKind.u64 (0 : Int)] (76 : Nat) { whole := true }))
                    (AObj.cells [AV.int IntKind.u64 (0 : Int), AV.int IntKind.u64 (0 : Int)] (76 : Nat) { whole := true }))
                  (X.n H) (0 : Nat) =
                some (AV.int IntKind.u64 n2) ∧
              ∃ (n3 : Int),
                X.rd1
                      (X.al
                        (X.al (X.al (X.al H (AObj.cells [AV.int IntKind.u64 a, AV.int IntKind.u64 b] (76 : Nat) { whole := true })) (AObj.cells [AV.int IntKind.u64 c, AV.int IntKind.u64 d] (76 : Nat) { whole := true }))
                          (AObj.cells [AV.int IntKind.u64 (0 : Int), AV.int IntKind.u64 (0 : Int)] (76 : Nat) { whole := true }))
                        (AObj.cells [AV.int IntKind.u64 (0 : Int), AV.int IntKind.u64 (0 : Int)] (76 : Nat) { whole := true }))
                      (X.n (X.al H (AObj.cells [AV.int IntKind.u64 a, AV.int IntKind.u64 b] (76 : Nat) { whole := true }))) (1 : Nat) =
                    some (AV.int IntKind.u64 n3) ∧
                  n3 ≠ (0 : Int) ∧
                    ∃ (n4 : Int),
                      X.rd1
                            (X.al
                              (X.al (X.al (X.al H (AObj.cells [AV.int IntKind.u64 a, AV.int IntKind.u64 b] (76 : Nat) { whole := true })) (AObj.cells [AV.int IntKind.u64 c, AV.int IntKind.u64 d] (76 : Nat) { whole := true }))
                                (AObj.cells [AV.int IntKind.u64 (0 : Int), AV.int IntKind.u64 (0 : Int)] (76 : Nat) { whole := true }))
                              (AObj.cells [AV.int IntKind.u64 (0 : Int), AV.int IntKind.u64 (0 : Int)] (76 : Nat) { whole := true }))
                            (X.n H) (0 : Nat) =
                          some (AV.int IntKind.u64 n4) ∧
                        ∃ (n5 : Int),
                          X.rd1
                                (X.al
                                  (X.al (X.al (X.al H (AObj.cells [AV.int IntKind.u64 a, AV.int IntKind.u64 b] (76 : Nat) { whole := true })) (AObj.cells [AV.int IntKind.u64 c, AV.int IntKind.u64 d] (76 : Nat) { whole := true }))
                                    (AObj.cells [AV.int IntKind.u64 (0 : Int), AV.int IntKind.u64 (0 : Int)] (76 : Nat) { whole := true }))
                                  (AObj.cells [AV.int IntKind.u64 (0 : Int), AV.int IntKind.u64 (0 : Int)] (76 : Nat) { whole := true }))
                                (X.n (X.al H (AObj.cells [AV.int IntKind.u64 a, AV.int IntKind.u64 b] (76 : Nat) { whole := true }))) (1 : Nat) =
                              some (AV.int IntKind.u64 n5) ∧
                            n5 ≠ (0 : Int) ∧
                              [AV.int IntKind.u64 (X.wrap IntKind.u64 (n2.tdiv n3))].length = (1 : Nat) ∧
                                ∃ (H1 : AH),
                                  X.wr
                                        (X.al
                                          (X.al (X.al (X.al H (AObj.cells [AV.int IntKind.u64 a, AV.int IntKind.u64 b] (76 : Nat) { whole := true })) (AObj.cells [AV.int IntKind.u64 c, AV.int IntKind.u64 d] (76 : Nat) { whole := true }))
                                            (AObj.cells [AV.int IntKind.u64 (0 : Int), AV.int IntKind.u64 (0 : Int)] (76 : Nat) { whole := true }))
                                          (AObj.cells [AV.int IntKind.u64 (0 : Int), AV.int IntKind.u64 (0 : Int)] (76 : Nat) { whole := true }))
                                        (X.n (X.al (X.al H (AObj.cells [AV.int IntKind.u64 a, AV.int IntKind.u64 b] (76 : Nat) { whole := true })) (AObj.cells [AV.int IntKind.u64 c, AV.int IntKind.u64 d] (76 : Nat) { whole := true })))
                                        (0 : Nat) [AV.int IntKind.u64 (X.wrap IntKind.u64 (n2.tdiv n3))] =
                                      some H1 ∧
                                    (∃ (n6 : Int),
                                        X.rd1 H1 (X.n (X.al H (AObj.cells [AV.int IntKind.u64 a, AV.int IntKind.u64 b] (76 : Nat) { whole := true }))) (1 : Nat) = some (AV.int IntKind.u64 n6) ∧
                                          AV.int IntKind.u64 n6 = AV.int IntKind.u64 n5) ∧
                                      (∃ (n7 : Int), X.rd1 H1 (X.n H) (0 : Nat) = some (AV.int IntKind.u64 n7) ∧ AV.int IntKind.u64 n7 = AV.int IntKind.u64 n4) ∧
                                        [AV.int IntKind.u64 (n4.tmod n5)].length = (1 : Nat) ∧
                                          ∃ (H2 : AH),
                                            X.wr H1
                                                  (X.n
                                                    (X.al
                                                      (X.al (X.al H (AObj.cells [AV.int IntKind.u64 a, AV.int IntKind.u64 b] (76 : Nat) { whole := true }))
                                                        (AObj.cells [AV.int IntKind.u64 c, AV.int IntKind.u64 d] (76 : Nat) { whole := true }))
                                                      (AObj.cells [AV.int IntKind.u64 (0 : Int), AV.int IntKind.u64 (0 : Int)] (76 : Nat) { whole := true })))
                                                  (1 : Nat) [AV.int IntKind.u64 (n4.tmod n5)] =
                                                some H2 ∧
                                              ∃ (n8 : Int),
                                                X.rd1 H2
                                                      (X.n
                                                        (X.al
                                                          (X.al (X.al H (AObj.cells [AV.int IntKind.u64 a, AV.int IntKind.u64 b] (76 : Nat) { whole := true }))
                                                            (AObj.cells [AV.int IntKind.u64 c, AV.int IntKind.u64 d] (76 : Nat) { whole := true }))
                                                          (AObj.cells [AV.int IntKind.u64 (0 : Int), AV.int IntKind.u64 (0 : Int)] (76 : Nat) { whole := true })))
                                                      (1 : Nat) =
                                                    some (AV.int IntKind.u64 n8) ∧
                                                  ∃ (n9 : Int),
                                                    X.rd1 H2 (X.n H) (1 : Nat) = some (AV.int IntKind.u64 n9) ∧
                                                      ∃ (n10 : Int),
                                                        X.rd1 H2 (X.n (X.al H (AObj.cells [AV.int IntKind.u64 a, AV.int IntKind.u64 b] (76 : Nat) { whole := true }))) (1 : Nat) = some (AV.int IntKind.u64 n10) ∧
                                                          X.call (62 : Nat) [AV.int IntKind.u64 n8, AV.int IntKind.u64 n9, AV.int IntKind.u64 n10] H2 fun (v1 : AV) (H3 : AH) =>
                                                            ∃ (n11 : Int),
                                                              ∃ (n12 : Int),
                                                                v1 = AV.tuple [AV.int IntKind.u64 n11, AV.int IntKind.u64 n12] ∧
                                                                  [AV.int IntKind.u64 n11].length = (1 : Nat) ∧
                                                                    ∃ (H4 : AH),
                                                                      X.wr H3
                                                                            (X.n
                                                                              (X.al (X.al H (AObj.cells [AV.int IntKind.u64 a, AV.int IntKind.u64 b] (76 : Nat) { whole := true }))
                                                                                (AObj.cells [AV.int IntKind.u64 c, AV.int IntKind.u64 d] (76 : Nat) { whole := true })))
                                                                            (1 : Nat) [AV.int IntKind.u64 n11] =
                                                                          some H4 ∧
                                                                        [AV.int IntKind.u64 n12].length = (1 : Nat) ∧
                                                                          ∃ (H5 : AH),
                                                                            X.wr H4
                                                                                  (X.n
                                                                                    (X.al
                                                                                      (X.al (X.al H (AObj.cells [AV.int IntKind.u64 a, AV.int IntKind.u64 b] (76 : Nat) { whole := true }))
                                                                                        (AObj.cells [AV.int IntKind.u64 c, AV.int IntKind.u64 d] (76 : Nat) { whole := true }))
                                                                                      (AObj.cells [AV.int IntKind.u64 (0 : Int), AV.int IntKind.u64 (0 : Int)] (76 : Nat) { whole := true })))
                                                                                  (1 : Nat) [AV.int IntKind.u64 n12] =
                                                                                some H5 ∧
                                                                              ∃ (n13 : Int),
                                                                                ∃ (n14 : Int),
                                                                                  X.rdn H5
                                                                                        (X.n
                                                                                          (X.al (X.al H (AObj.cells [AV.int IntKind.u64 a, AV.int IntKind.u64 b] (76 : Nat) { whole := true }))
                                                                                            (AObj.cells [AV.int IntKind.u64 c, AV.int IntKind.u64 d] (76 : Nat) { whole := true })))
                                                                                        (0 : Nat) (2 : Nat) =
                                                                                      some [AV.int IntKind.u64 n13, AV.int IntKind.u64 n14] ∧
                                                                                    ∃ (n15 : Int),
                                                                                      ∃ (n16 : Int),
                                                                                        X.rdn H5
                                                                                              (X.n
                                                                                                (X.al
                                                                                                  (X.al (X.al H (AObj.cells [AV.int IntKind.u64 a, AV.int IntKind.u64 b] (76 : Nat) { whole := true }))
                                                                                                    (AObj.cells [AV.int IntKind.u64 c, AV.int IntKind.u64 d] (76 : Nat) { whole := true }))
                                                                                                  (AObj.cells [AV.int IntKind.u64 (0 : Int), AV.int IntKind.u64 (0 : Int)] (76 : Nat) { whole := true })))
                                                                                              (0 : Nat) (2 : Nat) =
                                                                                            some [AV.int IntKind.u64 n15, AV.int IntKind.u64 n16] ∧
                                                                                          [AV.int IntKind.u64 n13, AV.int IntKind.u64 n14].length = (2 : Nat) ∧
                                                                                            ∃ (H6 : AH),
                                                                                              X.wr H5
                                                                                                    (X.n
                                                                                                      (X.al (X.al H (AObj.cells [AV.int IntKind.u64 a, AV.int IntKind.u64 b] (76 : Nat) { whole := true }))
                                                                                                        (AObj.cells [AV.int IntKind.u64 c, AV.int IntKind.u64 d] (76 : Nat) { whole := true })))
                                                                                                    (0 : Nat) [AV.int IntKind.u64 n13, AV.int IntKind.u64 n14] =
                                                                                                  some H6 ∧
                                                                                                (∃ (n17 : Int),
                                                                                                    ∃ (n18 : Int),
                                                                                                      X.rdn H6
                                                                                                            (X.n
                                                                                                              (X.al
                                                                                                                (X.al (X.al H (AObj.cells [AV.int IntKind.u64 a, AV.int IntKind.u64 b] (76 : Nat) { whole := true }))
                                                                                                                  (AObj.cells [AV.int IntKind.u64 c, AV.int IntKind.u64 d] (76 : Nat) { whole := true }))
                                                                                                                (AObj.cells [AV.int IntKind.u64 (0 : Int), AV.int IntKind.u64 (0 : Int)] (76 : Nat) { whole := true })))
                                                                                                            (0 : Nat) (2 : Nat) =
                                                                                                          some [AV.int IntKind.u64 n17, AV.int IntKind.u64 n18] ∧
                                                                                                        AV.agg [AV.int IntKind.u64 n17, AV.int IntKind.u64 n18] = AV.agg [AV.int IntKind.u64 n15, AV.int IntKind.u64 n16]) ∧
                                                                                                  [AV.int IntKind.u64 n15, AV.int IntKind.u64 n16].length = (2 : Nat) ∧
                                                                                                    ∃ (H7 : AH),
                                                                                                      X.wr H6
                                                                                                            (X.n
                                                                                                              (X.al
                                                                                                                (X.al (X.al H (AObj.cells [AV.int IntKind.u64 a, AV.int IntKind.u64 b] (76 : Nat) { whole := true }))
                                                                                                                  (AObj.cells [AV.int IntKind.u64 c, AV.int IntKind.u64 d] (76 : Nat) { whole := true }))
                                                                                                                (AObj.cells [AV.int IntKind.u64 (0 : Int), AV.int IntKind.u64 (0 : Int)] (76 : Nat) { whole := true })))
                                                                                                            (0 : Nat) [AV.int IntKind.u64 n15, AV.int IntKind.u64 n16] =
                                                                                                          some H7 ∧
                                                                                                        ∃ (n19 : Int),
                                                                                                          ∃ (n20 : Int),
                                                                                                            X.rdn H7
                                                                                                                  (X.n
                                                                                                                    (X.al (X.al H (AObj.cells [AV.int IntKind.u64 a, AV.int IntKind.u64 b] (76 : Nat) { whole := true }))
                                                                                                                      (AObj.cells [AV.int IntKind.u64 c, AV.int IntKind.u64 d] (76 : Nat) { whole := true })))
                                                                                                                  (0 : Nat) (2 : Nat) =
                                                                                                                some [AV.int IntKind.u64 n19, AV.int IntKind.u64 n20] ∧
                                                                                                              ∃ (n21 : Int),
                                                                                                                ∃ (n22 : Int),
                                                                                                                  X.rdn H7
                                                                                                                        (X.n
                                                                                                                          (X.al
                                                                                                                            (X.al (X.al H (AObj.cells [AV.int IntKind.u64 a, AV.int IntKind.u64 b] (76 : Nat) { whole := true }))
                                                                                                                              (AObj.cells [AV.int IntKind.u64 c, AV.int IntKind.u64 d] (76 : Nat) { whole := true }))
                                                                                                                            (AObj.cells [AV.int IntKind.u64 (0 : Int), AV.int IntKind.u64 (0 : Int)] (76 : Nat) { whole := true })))
                                                                                                                        (0 : Nat) (2 : Nat) =
                                                                                                                      some [AV.int IntKind.u64 n21, AV.int IntKind.u64 n22] ∧
                                                                                                                    Q
                                                                                                                      (AV.tuple
                                                                                                                        [AV.agg [AV.int IntKind.u64 n19, AV.int IntKind.u64 n20], AV.agg [AV.int IntKind.u64 n21, AV.int IntKind.u64 n22]])
                                                                                                                      H7
        else False) := by kernel_rfl

theorem common_vc (X : Atoms) (a b c d : Int) (H : AH) (Q : AV → AH → Prop) (I : Unit → AH → Nat → Prop) : (vcF X Tryz.prog [⟨1, Unit, [2, 3, 4], fun _ => [.ptr (some (X.n H, 0)), .ptr (some (X.n (X.al H (.cells [.int .u64 a, .int .u64 b] 76 { whole := true })), 0)), .ptr (some (X.n (X.al (X.al H (.cells [.int .u64 a, .int .u64 b] 76 { whole := true })) (.cells [.int .u64 c, .int .u64 d] 76 { whole := true })), 0))], I⟩] 39 [.agg [.int .u64 a, .int .u64 b], .agg [.int .u64 c, .int .u64 d]] H Q) =
  (true = true ∧
  true = true ∧
    (∃ (x1 : PUnit),
        ∃ (k1 : Nat),
          [AV.ptr (some (X.n H, (0 : Nat))), AV.ptr (some (X.n (X.al H (AObj.cells [AV.int IntKind.u64 a, AV.int IntKind.u64 b] (76 : Nat) { whole := true })), (0 : Nat))),
                AV.ptr (some (X.n (X.al (X.al H (AObj.cells [AV.int IntKind.u64 a, AV.int IntKind.u64 b] (76 : Nat) { whole := true })) (AObj.cells [AV.int IntKind.u64 c, AV.int IntKind.u64 d] (76 : Nat) { whole := true })), (0 : Nat)))] =
              [AV.ptr (some (X.n H, (0 : Nat))), AV.ptr (some (X.n (X.al H (AObj.cells [AV.int IntKind.u64 a, AV.int IntKind.u64 b] (76 : TypeId) { whole := true })), (0 : Nat))),
                AV.ptr
                  (some (X.n (X.al (X.al H (AObj.cells [AV.int IntKind.u64 a, AV.int IntKind.u64 b] (76 : TypeId) { whole := true })) (AObj.cells [AV.int IntKind.u64 c, AV.int IntKind.u64 d] (76 : TypeId) { whole := true })), (0 : Nat)))] ∧
            I x1
              (X.al (X.al (X.al H (AObj.cells [AV.int IntKind.u64 a, AV.int IntKind.u64 b] (76 : Nat) { whole := true })) (AObj.cells [AV.int IntKind.u64 c, AV.int IntKind.u64 d] (76 : Nat) { whole := true }))
                (AObj.cells [AV.int IntKind.u64 (0 : Int), AV.int IntKind.u64 (0 : Int)] (76 : Nat) { whole := true }))
              k1) ∧
      ∀ (x2 : PUnit) (H1 : AH) (k2 : Nat),
        I x2 H1 k2 →
          ∃ (n1 : Int),
            ∃ (n2 : Int),
              X.rdn H1 (X.n (X.al H (AObj.cells [AV.int IntKind.u64 a, AV.int IntKind.u64 b] (76 : TypeId) { whole := true }))) (0 : Nat) (2 : Nat) = some [AV.int IntKind.u64 n1, AV.int IntKind.u64 n2] ∧
                bif !(n1 == (0 : Int) && (n2 == (0 : Int) && true)) then
                  ∃ (n3 : Int),
                    ∃ (n4 : Int),
                      X.rdn H1 (X.n H) (0 : Nat) (2 : Nat) = some [AV.int IntKind.u64 n3, AV.int IntKind.u64 n4] ∧
                        ∃ (n5 : Int),
                          ∃ (n6 : Int),
                            X.rdn H1 (X.n (X.al H (AObj.cells [AV.int IntKind.u64 a, AV.int IntKind.u64 b] (76 : TypeId) { whole := true }))) (0 : Nat) (2 : Nat) = some [AV.int IntKind.u64 n5, AV.int IntKind.u64 n6] ∧
                              X.call (40 : Nat) [AV.agg [AV.int IntKind.u64 n3, AV.int IntKind.u64 n4], AV.agg [AV.int IntKind.u64 n5, AV.int IntKind.u64 n6]] H1 fun (v1 : AV) (H2 : AH) =>
                                ∃ (n7 : Int),
                                  ∃ (n8 : Int),
                                    ∃ (n9 : Int),
                                      ∃ (n10 : Int),
                                        v1 = AV.tuple [AV.agg [AV.int IntKind.u64 n7, AV.int IntKind.u64 n8], AV.agg [AV.int IntKind.u64 n9, AV.int IntKind.u64 n10]] ∧
                                          [AV.int IntKind.u64 n7, AV.int IntKind.u64 n8].length = (2 : Nat) ∧
                                            ∃ (H3 : AH),
                                              X.wr
                                                    (X.al (X.al H2 (AObj.cells [AV.int IntKind.u64 (0 : Int), AV.int IntKind.u64 (0 : Int)] (76 : Nat) { whole := true }))
                                                      (AObj.cells [AV.int IntKind.u64 (0 : Int), AV.int IntKind.u64 (0 : Int)] (76 : Nat) { whole := true }))
                                                    (X.n H2) (0 : Nat) [AV.int IntKind.u64 n7, AV.int IntKind.u64 n8] =
                                                  some H3 ∧
                                                [AV.int IntKind.u64 n9, AV.int IntKind.u64 n10].length = (2 : Nat) ∧
                                                  ∃ (H4 : AH),
                                                    X.wr H3 (X.n (X.al H2 (AObj.cells [AV.int IntKind.u64 (0 : Int), AV.int IntKind.u64 (0 : Int)] (76 : Nat) { whole := true }))) (0 : Nat) [AV.int IntKind.u64 n9, AV.int IntKind.u64 n10] =
                                                        some H4 ∧
                                                      ∃ (n11 : Int),
                                                        ∃ (n12 : Int),
                                                          X.rdn H4 (X.n (X.al H (AObj.cells [AV.int IntKind.u64 a, AV.int IntKind.u64 b] (76 : TypeId) { whole := true }))) (0 : Nat) (2 : Nat) =
                                                              some [AV.int IntKind.u64 n11, AV.int IntKind.u64 n12] ∧
                                                            ∃ (n13 : Int),
                                                              ∃ (n14 : Int),
                                                                X.rdn H4 (X.n (X.al H2 (AObj.cells [AV.int IntKind.u64 (0 : Int), AV.int IntKind.u64 (0 : Int)] (76 : Nat) { whole := true }))) (0 : Nat) (2 : Nat) =
                                                                    some [AV.int IntKind.u64 n13, AV.int IntKind.u64 n14] ∧
                                                                  [AV.int IntKind.u64 n11, AV.int IntKind.u64 n12].length = (2 : Nat) ∧
                                                                    ∃ (H5 : AH),
                                                                      X.wr H4 (X.n H) (0 : Nat) [AV.int IntKind.u64 n11, AV.int IntKind.u64 n12] = some H5 ∧
                                                                        (∃ (n15 : Int),
                                                                            ∃ (n16 : Int),
                                                                              X.rdn H5 (X.n (X.al H2 (AObj.cells [AV.int IntKind.u64 (0 : Int), AV.int IntKind.u64 (0 : Int)] (76 : Nat) { whole := true }))) (0 : Nat) (2 : Nat) =
                                                                                  some [AV.int IntKind.u64 n15, AV.int IntKind.u64 n16] ∧
                                                                                AV.agg [AV.int IntKind.u64 n15, AV.int IntKind.u64 n16] = AV.agg [AV.int IntKind.u64 n13, AV.int IntKind.u64 n14]) ∧
                                                                          [AV.int IntKind.u64 n13, AV.int IntKind.u64 n14].length = (2 : Nat) ∧
                                                                            ∃ (H6 : AH),
                                                                              X.wr H5 (X.n (X.al H (AObj.cells [AV.int IntKind.u64 a, AV.int IntKind.u64 b] (76 : TypeId) { whole := true }))) (0 : Nat)
                                                                                    [AV.int IntKind.u64 n13, AV.int IntKind.u64 n14] =
                                                                                  some H6 ∧
                                                                                ∃ (x3 : PUnit),
                                                                                  ∃ (k3 : Nat),
                                                                                    k3 < k2 ∧
                                                                                      [AV.ptr (some (X.n H, (0 : Nat))),
                                                                                            AV.ptr (some (X.n (X.al H (AObj.cells [AV.int IntKind.u64 a, AV.int IntKind.u64 b] (76 : TypeId) { whole := true })), (0 : Nat))),
                                                                                            AV.ptr
                                                                                              (some
                                                                                                (X.n
                                                                                                    (X.al (X.al H (AObj.cells [AV.int IntKind.u64 a, AV.int IntKind.u64 b] (76 : TypeId) { whole := true }))
                                                                                                      (AObj.cells [AV.int IntKind.u64 c, AV.int IntKind.u64 d] (76 : TypeId) { whole := true })),
                                                                                                  (0 : Nat)))] =
                                                                                          [AV.ptr (some (X.n H, (0 : Nat))),
                                                                                            AV.ptr (some (X.n (X.al H (AObj.cells [AV.int IntKind.u64 a, AV.int IntKind.u64 b] (76 : TypeId) { whole := true })), (0 : Nat))),
                                                                                            AV.ptr
                                                                                              (some
                                                                                                (X.n
                                                                                                    (X.al (X.al H (AObj.cells [AV.int IntKind.u64 a, AV.int IntKind.u64 b] (76 : TypeId) { whole := true }))
                                                                                                      (AObj.cells [AV.int IntKind.u64 c, AV.int IntKind.u64 d] (76 : TypeId) { whole := true })),
                                                                                                  (0 : Nat)))] ∧
                                                                                        I x3 H6 k3
                else
                  ∃ (n17 : Int),
                    ∃ (n18 : Int),
                      X.rdn H1 (X.n H) (0 : Nat) (2 : Nat) = some [AV.int IntKind.u64 n17, AV.int IntKind.u64 n18] ∧
                        [AV.int IntKind.u64 n17, AV.int IntKind.u64 n18].length = (2 : Nat) ∧
                          ∃ (H7 : AH),
                            X.wr H1 (X.n (X.al (X.al H (AObj.cells [AV.int IntKind.u64 a, AV.int IntKind.u64 b] (76 : TypeId) { whole := true })) (AObj.cells [AV.int IntKind.u64 c, AV.int IntKind.u64 d] (76 : TypeId) { whole := true })))
                                  (0 : Nat) [AV.int IntKind.u64 n17, AV.int IntKind.u64 n18] =
                                some H7 ∧
                              ∃ (n19 : Int),
                                ∃ (n20 : Int),
                                  X.rdn H7
                                        (X.n
                                          (X.al (X.al H (AObj.cells [AV.int IntKind.u64 a, AV.int IntKind.u64 b] (76 : TypeId) { whole := true })) (AObj.cells [AV.int IntKind.u64 c, AV.int IntKind.u64 d] (76 : TypeId) { whole := true })))
                                        (0 : Nat) (2 : Nat) =
                                      some [AV.int IntKind.u64 n19, AV.int IntKind.u64 n20] ∧
                                    Q (AV.agg [AV.int IntKind.u64 n19, AV.int IntKind.u64 n20]) H7) := by kernel_rfl

theorem cmp_vc (X : Atoms) (a b c d : Int) (H : AH) (Q : AV → AH → Prop) : (vcF X Tryz.prog [] 41 [.agg [.int .u64 a, .int .u64 b], .agg [.int .u64 c, .int .u64 d]] H Q) =
  (true = true ∧
  true = true ∧
    ∃ (n1 : Int),
      ∃ (n2 : Int),
        X.rdn (X.al (X.al H (AObj.cells [AV.int IntKind.u64 a, AV.int IntKind.u64 b] (76 : Nat) { whole := true })) (AObj.cells [AV.int IntKind.u64 c, AV.int IntKind.u64 d] (76 : Nat) { whole := true })) (X.n H) (0 : Nat) (2 : Nat) =
            some [AV.int IntKind.u64 n1, AV.int IntKind.u64 n2] ∧
          ∃ (n3 : Int),
            ∃ (n4 : Int),
              X.rdn (X.al (X.al H (AObj.cells [AV.int IntKind.u64 a, AV.int IntKind.u64 b] (76 : Nat) { whole := true })) (AObj.cells [AV.int IntKind.u64 c, AV.int IntKind.u64 d] (76 : Nat) { whole := true }))
                    (X.n (X.al H (AObj.cells [AV.int IntKind.u64 a, AV.int IntKind.u64 b] (76 : Nat) { whole := true }))) (0 : Nat) (2 : Nat) =
                  some [AV.int IntKind.u64 n3, AV.int IntKind.u64 n4] ∧
                bif n1 == n3 && (n2 == n4 && true) then
                  Q (AV.int IntKind.i64 (0 : Int)) (X.al (X.al H (AObj.cells [AV.int IntKind.u64 a, AV.int IntKind.u64 b] (76 : Nat) { whole := true })) (AObj.cells [AV.int IntKind.u64 c, AV.int IntKind.u64 d] (76 : Nat) { whole := true }))
                else
                  ∃ (n5 : Int),
                    X.rd1 (X.al (X.al H (AObj.cells [AV.int IntKind.u64 a, AV.int IntKind.u64 b] (76 : Nat) { whole := true })) (AObj.cells [AV.int IntKind.u64 c, AV.int IntKind.u64 d] (76 : Nat) { whole := true })) (X.n H) (0 : Nat) =
                        some (AV.int IntKind.u64 n5) ∧
                      ∃ (n6 : Int),
                        X.rd1 (X.al (X.al H (AObj.cells [AV.int IntKind.u64 a, AV.int IntKind.u64 b] (76 : Nat) { whole := true })) (AObj.cells [AV.int IntKind.u64 c, AV.int IntKind.u64 d] (76 : Nat) { whole := true }))
                              (X.n (X.al H (AObj.cells [AV.int IntKind.u64 a, AV.int IntKind.u64 b] (76 : Nat) { whole := true }))) (0 : Nat) =
                            some (AV.int IntKind.u64 n6) ∧
                          ∃ (n7 : Int),
                            X.rd1 (X.al (X.al H (AObj.cells [AV.int IntKind.u64 a, AV.int IntKind.u64 b] (76 : Nat) { whole := true })) (AObj.cells [AV.int IntKind.u64 c, AV.int IntKind.u64 d] (76 : Nat) { whole := true })) (X.n H)
                                  (0 : Nat) =
                                some (AV.int IntKind.u64 n7) ∧
                              ∃ (n8 : Int),
                                X.rd1 (X.al (X.al H (AObj.cells [AV.int IntKind.u64 a, AV.int IntKind.u64 b] (76 : Nat) { whole := true })) (AObj.cells [AV.int IntKind.u64 c, AV.int IntKind.u64 d] (76 : Nat) { whole := true }))
                                      (X.n (X.al H (AObj.cells [AV.int IntKind.u64 a, AV.int IntKind.u64 b] (76 : Nat) { whole := true }))) (0 : Nat) =
                                    some (AV.int IntKind.u64 n8) ∧
                                  ∃ (n9 : Int),
                                    X.rd1 (X.al (X.al H (AObj.cells [AV.int IntKind.u64 a, AV.int IntKind.u64 b] (76 : Nat) { whole := true })) (AObj.cells [AV.int IntKind.u64 c, AV.int IntKind.u64 d] (76 : Nat) { whole := true })) (X.n H)
                                          (1 : Nat) =
                                        some (AV.int IntKind.u64 n9) ∧
                                      ∃ (n10 : Int),
                                        X.rd1 (X.al (X.al H (AObj.cells [AV.int IntKind.u64 a, AV.int IntKind.u64 b] (76 : Nat) { whole := true })) (AObj.cells [AV.int IntKind.u64 c, AV.int IntKind.u64 d] (76 : Nat) { whole := true }))
                                              (X.n (X.al H (AObj.cells [AV.int IntKind.u64 a, AV.int IntKind.u64 b] (76 : Nat) { whole := true }))) (1 : Nat) =
                                            some (AV.int IntKind.u64 n10) ∧
                                          bif decide (n5 < n6) || n7 == n8 && decide (n9 < n10) then
                                            Q (AV.int IntKind.i64 (-1 : Int))
                                              (X.al (X.al H (AObj.cells [AV.int IntKind.u64 a, AV.int IntKind.u64 b] (76 : Nat) { whole := true })) (AObj.cells [AV.int IntKind.u64 c, AV.int IntKind.u64 d] (76 : Nat) { whole := true }))
                                          else
                                            Q (AV.int IntKind.i64 (1 : Int))
                                              (X.al (X.al H (AObj.cells [AV.int IntKind.u64 a, AV.int IntKind.u64 b] (76 : Nat) { whole := true })) (AObj.cells [AV.int IntKind.u64 c, AV.int IntKind.u64 d] (76 : Nat) { whole := true }))) := by kernel_rfl

theorem Div64_vc (X : Atoms) (b c : Int) (H : AH) (Q : AV → AH → Prop) : (vcF X Tryz.prog [] 62 [.int .u64 0, .int .u64 b, .int .u64 c] H Q) =
  (bif c == (0 : Int) then ∃ (v1 : AV), X.rd1 H (0 : Nat) (0 : Nat) = some v1 ∧ False
else bif decide (c ≤ (0 : Int)) then ∃ (v2 : AV), X.rd1 H (1 : Nat) (0 : Nat) = some v2 ∧ False else c ≠ (0 : Int) ∧ c ≠ (0 : Int) ∧ Q (AV.tuple [AV.int IntKind.u64 (X.wrap IntKind.u64 (b.tdiv c)), AV.int IntKind.u64 (b.tmod c)]) H) := by kernel_rfl

end Go.Proofs.YtpgfknjchcingaaGreatDoor

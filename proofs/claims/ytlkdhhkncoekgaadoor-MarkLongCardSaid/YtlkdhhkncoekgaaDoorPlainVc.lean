/- What the functions of MarkPlain ask -/
import Derived.Test.YtlkdhhkncoekgaaDoorAmTri
import Derived.Test.YtlkdhhkncoekgaaDoorTabs
namespace Go.Proofs.YtlkdhhkncoekgaaDoor
open Go.Am Go

theorem signOf_vc (X : Option Nat → Atoms) (It : FuncId → List AV → List AV → (AH → Prop) → List (List AV) → Prop) (s : List UInt8) (H : AH) (Q : AV → AH → Prop) (xs : List (Int × Int × Int × Bool)) (cap : AV → AH → Prop) (I : Nat → List Nat → AH → Prop) (S : AEx → List Nat → AH → Prop) : (vcG X It Tryd.prog [] [⟨2, AV, Int × Int × Int × Bool, 77, fun z => ([], [z]), fun x => [.agg [.int .i64 x.1, .int .i64 x.2.1, .int .i32 x.2.2.1, .bool x.2.2.2]], fun _ => xs, cap, fun _ => I, [.ret], fun _ => S⟩] 29 [.str s] H Q) =
  (true = true ∧
  ∃ (s1 : List UInt8),
    (X none).rd1 ((X none).al ((X none).al H (AObj.cells [AV.str s] (9 : Nat) { whole := true })) (AObj.cells [AV.str []] (9 : Nat) { whole := true })) ((X none).n H) (0 : Nat) = some (AV.str s1) ∧
      (X none).call (54 : Nat) [AV.str s1] ((X none).al ((X none).al H (AObj.cells [AV.str s] (9 : Nat) { whole := true })) (AObj.cells [AV.str []] (9 : Nat) { whole := true })) fun (v1 : AV) (H1 : AH) =>
        ∃ (v2 : AV),
          v1 = v2 ∧
            ∃ (v3 : AV),
              v2 = AV.func (Fn.func (nat_lit 77)) [] [v3] ∧
                It (nat_lit 77) [] [v3] (fun (H2 : AH) => cap v3 H2)
                    (List.map (fun (x : Int × Int × Int × Bool) => [AV.agg [AV.int IntKind.i64 x.fst, AV.int IntKind.i64 x.snd.fst, AV.int IntKind.i32 x.snd.snd.fst, AV.bool x.snd.snd.snd]]) xs) ∧
                  (RClosed (fun (k1 : Nat) (cs1 : List Nat) (H3 : AH) => I k1 cs1 H3) (fun (x1 : AEx) (cs2 : List Nat) (H4 : AH) => S x1 cs2 H4) fun (H5 : AH) => cap v3 H5) ∧
                    (∀ (x2 : Int × Int × Int × Bool), [AV.agg [AV.int IntKind.i64 x2.fst, AV.int IntKind.i64 x2.snd.fst, AV.int IntKind.i32 x2.snd.snd.fst, AV.bool x2.snd.snd.snd]].length = (1 : Nat)) ∧
                      (∀ (H6 : AH), RBegin H1 H6 → I (0 : Nat) [(X none).n H1 + (1 : Nat), (X none).n H1] H6) ∧
                        (∀ (k2 : Nat) (cs3 : List Nat) (H7 : AH) (x3 : Int × Int × Int × Bool),
                            xs[k2]? = some x3 →
                              I k2 cs3 H7 →
                                AllLt cs3 H7 →
                                  InW ((X none).n H1 + (1 : Nat)) cs3 →
                                    [AV.int IntKind.i64 x3.fst, AV.int IntKind.i64 x3.snd.fst, AV.int IntKind.i32 x3.snd.snd.fst, AV.bool x3.snd.snd.snd].length = (4 : Nat) ∧
                                      ∃ (H8 : AH),
                                        (X (some ((X none).n H1 + (1 : Nat)))).wr
                                              ((X (some ((X none).n H1 + (1 : Nat)))).al H7 (AObj.cells [AV.int IntKind.i64 (0 : Int), AV.int IntKind.i64 (0 : Int), AV.int IntKind.i32 (0 : Int), AV.bool false] (77 : Nat) { whole := true }))
                                              ((X (some ((X none).n H1 + (1 : Nat)))).n H7) (0 : Nat) [AV.int IntKind.i64 x3.fst, AV.int IntKind.i64 x3.snd.fst, AV.int IntKind.i32 x3.snd.snd.fst, AV.bool x3.snd.snd.snd] =
                                            some H8 ∧
                                          Still cs3 H7 H7 H8 ∧
                                            ∀ (H9 : AH),
                                              But ((X none).n H1 + (1 : Nat)) H8 H9 →
                                                ∃ (s2 : List UInt8),
                                                  (X (some ((X none).n H1 + (1 : Nat)))).rd1 H9 ((X none).n H) (0 : Nat) = some (AV.str s2) ∧
                                                    ∃ (n1 : Int),
                                                      (X (some ((X none).n H1 + (1 : Nat)))).rd1 H9 ((X (some ((X none).n H1 + (1 : Nat)))).n H7) (1 : Nat) = some (AV.int IntKind.i64 n1) ∧
                                                        ((0 : Int) ≤ (0 : Int) ∧ (0 : Int) ≤ n1 ∧ n1 ≤ (↑s2.length : Int)) ∧
                                                          [AV.str (List.take (n1 - (0 : Int)).toNat s2)].length = (1 : Nat) ∧
                                                            ∃ (H10 : AH),
                                                              (X (some ((X none).n H1 + (1 : Nat)))).wr H9 ((X none).n ((X none).al H (AObj.cells [AV.str s] (9 : Nat) { whole := true }))) (0 : Nat)
                                                                    [AV.str (List.take (n1 - (0 : Int)).toNat s2)] =
                                                                  some H10 ∧
                                                                Still cs3 H7 H9 H10 ∧ ∀ (H11 : AH), But ((X none).n H1 + (1 : Nat)) H10 H11 → S AEx.ret cs3 H11) ∧
                          (∀ (cs4 : List Nat) (H12 H13 : AH),
                              I xs.length cs4 H12 →
                                But ((X none).n H1 + (1 : Nat)) H12 H13 →
                                  Dfr ((X none).n H1) H13 →
                                    (1 : Nat) = (1 : Nat) ∧
                                      ∃ (H14 : AH),
                                        (X none).wr H13 ((X none).n ((X none).al H (AObj.cells [AV.str s] (9 : Nat) { whole := true }))) (0 : Nat) [AV.str []] = some H14 ∧
                                          ∃ (H15 : AH),
                                            (X none).tm [(X none).n H1] H14 = some H15 ∧
                                              ∃ (s3 : List UInt8), (X none).rd1 H15 ((X none).n ((X none).al H (AObj.cells [AV.str s] (9 : Nat) { whole := true }))) (0 : Nat) = some (AV.str s3) ∧ Q (AV.str s3) H15) ∧
                            ∀ (cs5 : List Nat) (H16 H17 : AH),
                              S AEx.ret cs5 H16 →
                                But ((X none).n H1 + (1 : Nat)) H16 H17 →
                                  Dfr ((X none).n H1) H17 →
                                    ∃ (H18 : AH),
                                      (X none).tm [(X none).n H1] H17 = some H18 ∧
                                        ∃ (s4 : List UInt8), (X none).rd1 H18 ((X none).n ((X none).al H (AObj.cells [AV.str s] (9 : Nat) { whole := true }))) (0 : Nat) = some (AV.str s4) ∧ Q (AV.str s4) H18) := by kernel_rfl

theorem dialects_vc (X : Atoms) (d : Int) (H : AH) (Q : AV → AH → Prop) : (vcF X Tryd.prog [] 11 [.int .i64 d] H Q) =
  (Q (AV.bool (decide (d ≥ (1 : Int)) && decide (d ≤ (4 : Int)))) H) := by kernel_rfl

theorem runeLen_vc (X : Atoms) (c : Int) (H : AH) (Q : AV → AH → Prop) : (vcF X Tryd.prog [] 78 [.int .i32 c] H Q) =
  (bif decide (c < (0 : Int)) then Q (AV.int IntKind.i64 (-1 : Int)) H
else
  bif decide (c ≤ (127 : Int)) then Q (AV.int IntKind.i64 (1 : Int)) H
  else
    bif decide (c ≤ (2047 : Int)) then Q (AV.int IntKind.i64 (2 : Int)) H
    else
      bif decide ((55296 : Int) ≤ c) && decide (c ≤ (57343 : Int)) then Q (AV.int IntKind.i64 (-1 : Int)) H
      else bif decide (c ≤ (65535 : Int)) then Q (AV.int IntKind.i64 (3 : Int)) H else bif decide (c ≤ (1114111 : Int)) then Q (AV.int IntKind.i64 (4 : Int)) H else Q (AV.int IntKind.i64 (-1 : Int)) H) := by kernel_rfl

theorem sHasPrefix_vc (X : Atoms) (s t : List UInt8) (H : AH) (Q : AV → AH → Prop) : (vcF X Tryd.prog [] 53 [.str s, .str t] H Q) =
  (((decide ((↑s.length : Int) ≥ (↑t.length : Int)) == true) = true → (0 : Int) ≤ (0 : Int) ∧ (0 : Int) ≤ (↑t.length : Int) ∧ (↑t.length : Int) ≤ (↑s.length : Int)) ∧
  Q (AV.bool (decide ((↑s.length : Int) ≥ (↑t.length : Int)) && List.take ((↑t.length : Int) - (0 : Int)).toNat s == t)) H) := by kernel_rfl

theorem HasPrefix_vc (X : Atoms) (s t : List UInt8) (H : AH) (Q : AV → AH → Prop) : (vcF X Tryd.prog [] 27 [.str s, .str t] H Q) =
  (X.call (53 : Nat) [AV.str s, AV.str t] H fun (v1 : AV) (H1 : AH) => ∃ (b1 : Bool), v1 = AV.bool b1 ∧ Q (AV.bool b1) H1) := by kernel_rfl

theorem sCutPrefix_vc (X : Atoms) (s t : List UInt8) (H : AH) (Q : AV → AH → Prop) : (vcF X Tryd.prog [] 72 [.str s, .str t] H Q) =
  (X.call (53 : Nat) [AV.str s, AV.str t] H fun (v1 : AV) (H1 : AH) =>
  ∃ (b1 : Bool),
    v1 = AV.bool b1 ∧
      bif !b1 then Q (AV.tuple [AV.str s, AV.bool false]) H1
      else
        ((0 : Int) ≤ (↑t.length : Int) ∧ (↑t.length : Int) ≤ (↑s.length : Int) ∧ (↑s.length : Int) ≤ (↑s.length : Int)) ∧
          Q (AV.tuple [AV.str (List.take ((↑s.length : Int) - (↑t.length : Int)).toNat (List.drop (↑t.length : Int).toNat s)), AV.bool true]) H1) := by kernel_rfl

theorem CutPrefix_vc (X : Atoms) (s t : List UInt8) (H : AH) (Q : AV → AH → Prop) : (vcF X Tryd.prog [] 43 [.str s, .str t] H Q) =
  (X.call (72 : Nat) [AV.str s, AV.str t] H fun (v1 : AV) (H1 : AH) => ∃ (s1 : List UInt8), ∃ (b1 : Bool), v1 = AV.tuple [AV.str s1, AV.bool b1] ∧ Q (AV.tuple [AV.str s1, AV.bool b1]) H1) := by kernel_rfl

theorem sIndexByte_vc (X : Atoms) (s : List UInt8) (c : Int) (H : AH) (Q : AV → AH → Prop) : (vcF X Tryd.prog [] 73 [.str s, .int .u8 c] H Q) =
  (X.call (89 : Nat) [AV.str s, AV.int IntKind.u8 c] H fun (v1 : AV) (H1 : AH) => ∃ (n1 : Int), v1 = AV.int IntKind.i64 n1 ∧ Q (AV.int IntKind.i64 n1) H1) := by kernel_rfl

theorem IndexByte_vc (X : Atoms) (s : List UInt8) (c : Int) (H : AH) (Q : AV → AH → Prop) : (vcF X Tryd.prog [] 44 [.str s, .int .u8 c] H Q) =
  (X.call (73 : Nat) [AV.str s, AV.int IntKind.u8 c] H fun (v1 : AV) (H1 : AH) => ∃ (n1 : Int), v1 = AV.int IntKind.i64 n1 ∧ Q (AV.int IntKind.i64 n1) H1) := by kernel_rfl

theorem value_vc (X : Atoms) (b i u k : Bool) (c n : Int) (H : AH) (Q : AV → AH → Prop) : (vcF X Tryd.prog [] 110 [.agg [.bool b, .bool i, .bool u, .bool k, .int .i64 c], .int .i64 n] H Q) =
  (true = true ∧
  ∃ (b1 : Bool),
    X.rd1 (X.al H (AObj.cells [AV.bool b, AV.bool i, AV.bool u, AV.bool k, AV.int IntKind.i64 c] (53 : Nat) { whole := true })) (X.n H) (0 : Nat) = some (AV.bool b1) ∧
      bif n == (1 : Int) && b1 then
        bif n == (1 : Int) && b1 then Q (AV.int IntKind.i64 (1 : Int)) (X.al H (AObj.cells [AV.bool b, AV.bool i, AV.bool u, AV.bool k, AV.int IntKind.i64 c] (53 : Nat) { whole := true }))
        else
          bif n == (5 : Int) then
            ∃ (n1 : Int),
              X.rd1 (X.al H (AObj.cells [AV.bool b, AV.bool i, AV.bool u, AV.bool k, AV.int IntKind.i64 c] (53 : Nat) { whole := true })) (X.n H) (4 : Nat) = some (AV.int IntKind.i64 n1) ∧
                Q (AV.int IntKind.i64 n1) (X.al H (AObj.cells [AV.bool b, AV.bool i, AV.bool u, AV.bool k, AV.int IntKind.i64 c] (53 : Nat) { whole := true }))
          else Q (AV.int IntKind.i64 (0 : Int)) (X.al H (AObj.cells [AV.bool b, AV.bool i, AV.bool u, AV.bool k, AV.int IntKind.i64 c] (53 : Nat) { whole := true }))
      else
        ∃ (b2 : Bool),
          X.rd1 (X.al H (AObj.cells [AV.bool b, AV.bool i, AV.bool u, AV.bool k, AV.int IntKind.i64 c] (53 : Nat) { whole := true })) (X.n H) (1 : Nat) = some (AV.bool b2) ∧
            bif n == (2 : Int) && b2 then
              bif n == (2 : Int) && b2 then Q (AV.int IntKind.i64 (1 : Int)) (X.al H (AObj.cells [AV.bool b, AV.bool i, AV.bool u, AV.bool k, AV.int IntKind.i64 c] (53 : Nat) { whole := true }))
              else
                bif n == (5 : Int) then
                  ∃ (n2 : Int),
                    X.rd1 (X.al H (AObj.cells [AV.bool b, AV.bool i, AV.bool u, AV.bool k, AV.int IntKind.i64 c] (53 : Nat) { whole := true })) (X.n H) (4 : Nat) = some (AV.int IntKind.i64 n2) ∧
                      Q (AV.int IntKind.i64 n2) (X.al H (AObj.cells [AV.bool b, AV.bool i, AV.bool u, AV.bool k, AV.int IntKind.i64 c] (53 : Nat) { whole := true }))
                else Q (AV.int IntKind.i64 (0 : Int)) (X.al H (AObj.cells [AV.bool b, AV.bool i, AV.bool u, AV.bool k, AV.int IntKind.i64 c] (53 : Nat) { whole := true }))
            else
              ∃ (b3 : Bool),
                X.rd1 (X.al H (AObj.cells [AV.bool b, AV.bool i, AV.bool u, AV.bool k, AV.int IntKind.i64 c] (53 : Nat) { whole := true })) (X.n H) (2 : Nat) = some (AV.bool b3) ∧
                  bif n == (3 : Int) && b3 then
                    bif n == (3 : Int) && b3 then Q (AV.int IntKind.i64 (1 : Int)) (X.al H (AObj.cells [AV.bool b, AV.bool i, AV.bool u, AV.bool k, AV.int IntKind.i64 c] (53 : Nat) { whole := true }))
                    else
                      bif n == (5 : Int) then
                        ∃ (n3 : Int),
                          X.rd1 (X.al H (AObj.cells [AV.bool b, AV.bool i, AV.bool u, AV.bool k, AV.int IntKind.i64 c] (53 : Nat) { whole := true })) (X.n H) (4 : Nat) = some (AV.int IntKind.i64 n3) ∧
                            Q (AV.int IntKind.i64 n3) (X.al H (AObj.cells [AV.bool b, AV.bool i, AV.bool u, AV.bool k, AV.int IntKind.i64 c] (53 : Nat) { whole := true }))
                      else Q (AV.int IntKind.i64 (0 : Int)) (X.al H (AObj.cells [AV.bool b, AV.bool i, AV.bool u, AV.bool k, AV.int IntKind.i64 c] (53 : Nat) { whole := true }))
                  else
                    ∃ (b4 : Bool),
                      X.rd1 (X.al H (AObj.cells [AV.bool b, AV.bool i, AV.bool u, AV.bool k, AV.int IntKind.i64 c] (53 : Nat) { whole := true })) (X.n H) (3 : Nat) = some (AV.bool b4) ∧
                        bif n == (4 : Int) && b4 then Q (AV.int IntKind.i64 (1 : Int)) (X.al H (AObj.cells [AV.bool b, AV.bool i, AV.bool u, AV.bool k, AV.int IntKind.i64 c] (53 : Nat) { whole := true }))
                        else
                          bif n == (5 : Int) then
                            ∃ (n4 : Int),
                              X.rd1 (X.al H (AObj.cells [AV.bool b, AV.bool i, AV.bool u, AV.bool k, AV.int IntKind.i64 c] (53 : Nat) { whole := true })) (X.n H) (4 : Nat) = some (AV.int IntKind.i64 n4) ∧
                                Q (AV.int IntKind.i64 n4) (X.al H (AObj.cells [AV.bool b, AV.bool i, AV.bool u, AV.bool k, AV.int IntKind.i64 c] (53 : Nat) { whole := true }))
                          else Q (AV.int IntKind.i64 (0 : Int)) (X.al H (AObj.cells [AV.bool b, AV.bool i, AV.bool u, AV.bool k, AV.int IntKind.i64 c] (53 : Nat) { whole := true }))) := by kernel_rfl

theorem Count_vc (X : Atoms) (s : List UInt8) (H : AH) (Q : AV → AH → Prop) (I : Int → AH → Nat → Prop) : (vcF X Tryd.prog [⟨3, Int, [3, 5], fun i => [.int .i64 i, .ptr (some (X.n H, 0))], I⟩] 62 [.str s] H Q) =
  ((∃ (n1 : Int), ∃ (k1 : Nat), [AV.int IntKind.i64 (0 : Int), AV.ptr (some (X.n H, (0 : Nat)))] = [AV.int IntKind.i64 n1, AV.ptr (some (X.n H, (0 : Nat)))] ∧ I n1 (X.al H (AObj.iter s (0 : Nat))) k1) ∧
  ∀ (n2 : Int) (H1 : AH) (k2 : Nat),
    I n2 H1 k2 →
      ∃ (s1 : List UInt8),
        ∃ (k3 : Nat),
          X.get H1 (X.n H) = some (AObj.iter s1 k3) ∧
            (k3 < s1.length →
                ∃ (n3 : Int),
                  ∃ (k4 : Nat),
                    k4 < k2 ∧
                      [AV.int IntKind.i64 (X.wrap IntKind.i64 (n2 + (1 : Int))), AV.ptr (some (X.n H, (0 : Nat)))] = [AV.int IntKind.i64 n3, AV.ptr (some (X.n H, (0 : Nat)))] ∧
                        I n3 (X.set H1 (X.n H) (AObj.iter s1 (k3 + (decodeL s1 k3).snd))) k4) ∧
              (¬k3 < s1.length → Q (AV.int IntKind.i64 n2) H1)) := by kernel_rfl

theorem Signs_vc (X : Atoms) (s : List UInt8) (H : AH) (Q : AV → AH → Prop) : (vcF X Tryd.prog [] 54 [.str s] H Q) =
  (true = true ∧ Q (AV.func (Fn.func (77 : Nat)) [] [AV.ptr (some (X.n H, (0 : Nat)))]) (X.al H (AObj.cells [AV.str s] (9 : Nat) { whole := true }))) := by kernel_rfl

theorem now_vc (X : Atoms) (p : Nat) (H : AH) (Q : AV → AH → Prop) : (vcF X Tryd.prog [] 51 [.ptr (some (p, 0))] H Q) =
  (∃ (b1 : Bool),
  ∃ (b2 : Bool),
    ∃ (b3 : Bool),
      ∃ (b4 : Bool),
        ∃ (n1 : Int),
          X.rdn (X.al H (AObj.cells [AV.bool false, AV.bool false, AV.bool false, AV.bool false, AV.int IntKind.i64 (0 : Int)] (53 : Nat) { whole := true })) p (11 : Nat) (5 : Nat) =
              some [AV.bool b1, AV.bool b2, AV.bool b3, AV.bool b4, AV.int IntKind.i64 n1] ∧
            [AV.bool b1, AV.bool b2, AV.bool b3, AV.bool b4, AV.int IntKind.i64 n1].length = (5 : Nat) ∧
              ∃ (H1 : AH),
                X.wr
                      (X.al (X.al H (AObj.cells [AV.bool false, AV.bool false, AV.bool false, AV.bool false, AV.int IntKind.i64 (0 : Int)] (53 : Nat) { whole := true }))
                        (AObj.cells [AV.bool false, AV.bool false, AV.bool false, AV.bool false, AV.int IntKind.i64 (0 : Int)] (53 : Nat) { whole := true }))
                      (X.n (X.al H (AObj.cells [AV.bool false, AV.bool false, AV.bool false, AV.bool false, AV.int IntKind.i64 (0 : Int)] (53 : Nat) { whole := true }))) (0 : Nat)
                      [AV.bool b1, AV.bool b2, AV.bool b3, AV.bool b4, AV.int IntKind.i64 n1] =
                    some H1 ∧
                  ∃ (n2 : Int),
                    X.rd1 H1 p (0 : Nat) = some (AV.int IntKind.i64 n2) ∧
                      ∃ (n3 : Int),
                        X.rd1 H1 p (0 : Nat) = some (AV.int IntKind.i64 n3) ∧
                          bif n2 == (1 : Int) || n3 == (2 : Int) then
                            ((0 : Int) ≤ (1 : Int) ∧ (1 : Int) < (5 : Int)) ∧
                              ∃ (n4 : Int),
                                X.rd1 H1 p (6 : Nat) = some (AV.int IntKind.i64 n4) ∧
                                  ((0 : Int) ≤ (2 : Int) ∧ (2 : Int) < (5 : Int)) ∧
                                    ∃ (n5 : Int),
                                      X.rd1 H1 p (7 : Nat) = some (AV.int IntKind.i64 n5) ∧
                                        ((0 : Int) ≤ (3 : Int) ∧ (3 : Int) < (5 : Int)) ∧
                                          ∃ (n6 : Int),
                                            X.rd1 H1 p (8 : Nat) = some (AV.int IntKind.i64 n6) ∧
                                              ((0 : Int) ≤ (4 : Int) ∧ (4 : Int) < (5 : Int)) ∧
                                                ∃ (n7 : Int),
                                                  X.rd1 H1 p (9 : Nat) = some (AV.int IntKind.i64 n7) ∧
                                                    [AV.bool (decide (n4 > (0 : Int))), AV.bool (decide (n5 > (0 : Int))), AV.bool (decide (n6 > (0 : Int))), AV.bool (decide (n7 > (0 : Int))), AV.int IntKind.i64 (0 : Int)].length =
                                                        (5 : Nat) ∧
                                                      ∃ (H2 : AH),
                                                        X.wr H1 (X.n (X.al H (AObj.cells [AV.bool false, AV.bool false, AV.bool false, AV.bool false, AV.int IntKind.i64 (0 : Int)] (53 : Nat) { whole := true }))) (0 : Nat)
                                                              [AV.bool (decide (n4 > (0 : Int))), AV.bool (decide (n5 > (0 : Int))), AV.bool (decide (n6 > (0 : Int))), AV.bool (decide (n7 > (0 : Int))), AV.int IntKind.i64 (0 : Int)] =
                                                            some H2 ∧
                                                          ∃ (q1 : Option (Nat × Nat)),
                                                            ∃ (k1 : Nat),
                                                              ∃ (k2 : Nat),
                                                                X.rd1 H2 p (10 : Nat) = some (AV.slice q1 k1 k2) ∧
                                                                  bif decide ((↑k1 : Int) > (0 : Int)) then
                                                                    ∃ (q2 : Option (Nat × Nat)),
                                                                      ∃ (k3 : Nat),
                                                                        ∃ (k4 : Nat),
                                                                          X.rd1 H2 p (10 : Nat) = some (AV.slice q2 k3 k4) ∧
                                                                            ∃ (k5 : Nat),
                                                                              ∃ (k6 : Nat),
                                                                                (q2 = some (k5, k6) ∧ (0 : Int) ≤ X.wrap IntKind.i64 ((↑k1 : Int) - (1 : Int)) ∧ X.wrap IntKind.i64 ((↑k1 : Int) - (1 : Int)) < (↑k3 : Int)) ∧
                                                                                  ∃ (n8 : Int),
                                                                                    X.rd1 H2 k5 (k6 + (X.wrap IntKind.i64 ((↑k1 : Int) - (1 : Int))).toNat * (1 : Nat)) = some (AV.int IntKind.i64 n8) ∧
                                                                                      [AV.int IntKind.i64 n8].length = (1 : Nat) ∧
                                                                                        ∃ (H3 : AH),
                                                                                          X.wr H2
                                                                                                (X.n
                                                                                                  (X.al H (AObj.cells [AV.bool false, AV.bool false, AV.bool false, AV.bool false, AV.int IntKind.i64 (0 : Int)] (53 : Nat) { whole := true })))
                                                                                                (4 : Nat) [AV.int IntKind.i64 n8] =
                                                                                              some H3 ∧
                                                                                            ∃ (b5 : Bool),
                                                                                              ∃ (b6 : Bool),
                                                                                                ∃ (b7 : Bool),
                                                                                                  ∃ (b8 : Bool),
                                                                                                    ∃ (n9 : Int),
                                                                                                      X.rdn H3
                                                                                                            (X.n
                                                                                                              (X.al H
                                                                                                                (AObj.cells [AV.bool false, AV.bool false, AV.bool false, AV.bool false, AV.int IntKind.i64 (0 : Int)] (53 : Nat)
                                                                                                                  { whole := true })))
                                                                                                            (0 : Nat) (5 : Nat) =
                                                                                                          some [AV.bool b5, AV.bool b6, AV.bool b7, AV.bool b8, AV.int IntKind.i64 n9] ∧
                                                                                                        [AV.bool b5, AV.bool b6, AV.bool b7, AV.bool b8, AV.int IntKind.i64 n9].length = (5 : Nat) ∧
                                                                                                          ∃ (H4 : AH),
                                                                                                            X.wr H3 (X.n H) (0 : Nat) [AV.bool b5, AV.bool b6, AV.bool b7, AV.bool b8, AV.int IntKind.i64 n9] = some H4 ∧
                                                                                                              ∃ (b9 : Bool),
                                                                                                                ∃ (b10 : Bool),
                                                                                                                  ∃ (b11 : Bool),
                                                                                                                    ∃ (b12 : Bool),
                                                                                                                      ∃ (n10 : Int),
                                                                                                                        X.rdn H4 (X.n H) (0 : Nat) (5 : Nat) =
                                                                                                                            some [AV.bool b9, AV.bool b10, AV.bool b11, AV.bool b12, AV.int IntKind.i64 n10] ∧
                                                                                                                          Q (AV.agg [AV.bool b9, AV.bool b10, AV.bool b11, AV.bool b12, AV.int IntKind.i64 n10]) H4
                                                                  else
                                                                    ∃ (b13 : Bool),
                                                                      ∃ (b14 : Bool),
                                                                        ∃ (b15 : Bool),
                                                                          ∃ (b16 : Bool),
                                                                            ∃ (n11 : Int),
                                                                              X.rdn H2 (X.n (X.al H (AObj.cells [AV.bool false, AV.bool false, AV.bool false, AV.bool false, AV.int IntKind.i64 (0 : Int)] (53 : Nat) { whole := true })))
                                                                                    (0 : Nat) (5 : Nat) =
                                                                                  some [AV.bool b13, AV.bool b14, AV.bool b15, AV.bool b16, AV.int IntKind.i64 n11] ∧
                                                                                [AV.bool b13, AV.bool b14, AV.bool b15, AV.bool b16, AV.int IntKind.i64 n11].length = (5 : Nat) ∧
                                                                                  ∃ (H5 : AH),
                                                                                    X.wr H2 (X.n H) (0 : Nat) [AV.bool b13, AV.bool b14, AV.bool b15, AV.bool b16, AV.int IntKind.i64 n11] = some H5 ∧
                                                                                      ∃ (b17 : Bool),
                                                                                        ∃ (b18 : Bool),
                                                                                          ∃ (b19 : Bool),
                                                                                            ∃ (b20 : Bool),
                                                                                              ∃ (n12 : Int),
                                                                                                X.rdn H5 (X.n H) (0 : Nat) (5 : Nat) = some [AV.bool b17, AV.bool b18, AV.bool b19, AV.bool b20, AV.int IntKind.i64 n12] ∧
                                                                                                  Q (AV.agg [AV.bool b17, AV.bool b18, AV.bool b19, AV.bool b20, AV.int IntKind.i64 n12]) H5
                          else
                            ∃ (b21 : Bool),
                              ∃ (b22 : Bool),
                                ∃ (b23 : Bool),
                                  ∃ (b24 : Bool),
                                    ∃ (n13 : Int),
                                      X.rdn H1 (X.n (X.al H (AObj.cells [AV.bool false, AV.bool false, AV.bool false, AV.bool false, AV.int IntKind.i64 (0 : Int)] (53 : Nat) { whole := true }))) (0 : Nat) (5 : Nat) =
                                          some [AV.bool b21, AV.bool b22, AV.bool b23, AV.bool b24, AV.int IntKind.i64 n13] ∧
                                        [AV.bool b21, AV.bool b22, AV.bool b23, AV.bool b24, AV.int IntKind.i64 n13].length = (5 : Nat) ∧
                                          ∃ (H6 : AH),
                                            X.wr H1 (X.n H) (0 : Nat) [AV.bool b21, AV.bool b22, AV.bool b23, AV.bool b24, AV.int IntKind.i64 n13] = some H6 ∧
                                              ∃ (b25 : Bool),
                                                ∃ (b26 : Bool),
                                                  ∃ (b27 : Bool),
                                                    ∃ (b28 : Bool),
                                                      ∃ (n14 : Int),
                                                        X.rdn H6 (X.n H) (0 : Nat) (5 : Nat) = some [AV.bool b25, AV.bool b26, AV.bool b27, AV.bool b28, AV.int IntKind.i64 n14] ∧
                                                          Q (AV.agg [AV.bool b25, AV.bool b26, AV.bool b27, AV.bool b28, AV.int IntKind.i64 n14]) H6) := by kernel_rfl

theorem put_vc (X : Atoms) (p : Nat) (s : List UInt8) (H : AH) (Q : AV → AH → Prop) : (vcF X Tryd.prog [] 25 [.ptr (some (p, 0)), .str s] H Q) =
  (∃ (q1 : Option (Nat × Nat)),
  ∃ (k1 : Nat),
    ∃ (k2 : Nat),
      X.rd1 H p (4 : Nat) = some (AV.slice q1 k1 k2) ∧
        X.call (51 : Nat) [AV.ptr (some (p, (0 : Nat)))] H fun (v1 : AV) (H1 : AH) =>
          ∃ (b1 : Bool),
            ∃ (b2 : Bool),
              ∃ (b3 : Bool),
                ∃ (b4 : Bool),
                  ∃ (n1 : Int),
                    v1 = AV.agg [AV.bool b1, AV.bool b2, AV.bool b3, AV.bool b4, AV.int IntKind.i64 n1] ∧
                      (∃ (q2 : Option (Nat × Nat)), ∃ (k3 : Nat), ∃ (k4 : Nat), X.rd1 H1 p (4 : Nat) = some (AV.slice q2 k3 k4) ∧ AV.slice q2 k3 k4 = AV.slice q1 k1 k2) ∧
                        ((6 : Nat) ≤ (16777216 : Nat) ∧ (6 : Nat) = (6 : Nat) ∧ (0 : Nat) < (6 : Nat) ∧ true = true ∧ true = true) ∧
                          (∃ (q3 : Option (Nat × Nat)),
                              ∃ (k5 : Nat),
                                ∃ (k6 : Nat),
                                  X.rd1 (X.al H1 (AObj.cells [AV.str s, AV.bool b1, AV.bool b2, AV.bool b3, AV.bool b4, AV.int IntKind.i64 n1] (79 : Nat) { whole := true })) p (4 : Nat) = some (AV.slice q3 k5 k6) ∧
                                    AV.slice q3 k5 k6 = AV.slice q1 k1 k2) ∧
                            ∃ (q4 : Option (Nat × Nat)),
                              ∃ (k7 : Nat),
                                ∃ (k8 : Nat),
                                  ∃ (H2 : AH),
                                    X.app (56 : Nat) (56 : Nat) (AV.slice q1 k1 k2) (AV.slice (some (X.n H1, (0 : Nat))) (1 : Nat) (1 : Nat))
                                          (X.al H1 (AObj.cells [AV.str s, AV.bool b1, AV.bool b2, AV.bool b3, AV.bool b4, AV.int IntKind.i64 n1] (79 : Nat) { whole := true })) =
                                        some (AV.slice q4 k7 k8, H2) ∧
                                      [AV.slice q4 k7 k8].length = (1 : Nat) ∧
                                        ∃ (H3 : AH),
                                          X.wr H2 p (4 : Nat) [AV.slice q4 k7 k8] = some H3 ∧
                                            ∃ (q5 : Option (Nat × Nat)),
                                              ∃ (k9 : Nat),
                                                ∃ (k10 : Nat),
                                                  X.rd1 H3 p (3 : Nat) = some (AV.slice q5 k9 k10) ∧
                                                    ∃ (q6 : Option (Nat × Nat)),
                                                      ∃ (k11 : Nat),
                                                        ∃ (k12 : Nat),
                                                          ∃ (H4 : AH),
                                                            X.app (39 : Nat) (9 : Nat) (AV.slice q5 k9 k10) (AV.str s) H3 = some (AV.slice q6 k11 k12, H4) ∧
                                                              [AV.slice q6 k11 k12].length = (1 : Nat) ∧ ∃ (H5 : AH), X.wr H4 p (3 : Nat) [AV.slice q6 k11 k12] = some H5 ∧ Q (AV.tuple []) H5) := by kernel_rfl

theorem text_vc (X : Atoms) (s : List UInt8) (q : Option (Nat × Nat)) (k : Nat) (H : AH) (Q : AV → AH → Prop) : (vcF X Tryd.prog [] 79 [.str s, .slice q k k] H Q) =
  (X.call (93 : Nat) [AV.slice q k k] (X.al H (AObj.cells [AV.str [], AV.slice none (0 : Nat) (0 : Nat)] (26 : Nat) { whole := true })) fun (v1 : AV) (H1 : AH) =>
  ∃ (q1 : Option (Nat × Nat)),
    ∃ (k1 : Nat),
      ∃ (k2 : Nat),
        v1 = AV.slice q1 k1 k2 ∧
          bif decide ((↑k1 : Int) > (256 : Int)) then
            [AV.str [], AV.slice none (0 : Nat) (0 : Nat)].length = (2 : Nat) ∧
              ∃ (H2 : AH),
                X.wr H1 (X.n H) (0 : Nat) [AV.str [], AV.slice none (0 : Nat) (0 : Nat)] = some H2 ∧
                  ∃ (s1 : List UInt8),
                    ∃ (q2 : Option (Nat × Nat)), ∃ (k3 : Nat), ∃ (k4 : Nat), X.rdn H2 (X.n H) (0 : Nat) (2 : Nat) = some [AV.str s1, AV.slice q2 k3 k4] ∧ Q (AV.tuple [AV.agg [AV.str s1, AV.slice q2 k3 k4], AV.int IntKind.i64 (2 : Int)]) H2
          else
            [AV.str s, AV.slice q1 k1 k2].length = (2 : Nat) ∧
              ∃ (H3 : AH),
                X.wr H1 (X.n H) (0 : Nat) [AV.str s, AV.slice q1 k1 k2] = some H3 ∧
                  ∃ (s2 : List UInt8),
                    ∃ (q3 : Option (Nat × Nat)), ∃ (k5 : Nat), ∃ (k6 : Nat), X.rdn H3 (X.n H) (0 : Nat) (2 : Nat) = some [AV.str s2, AV.slice q3 k5 k6] ∧ Q (AV.tuple [AV.agg [AV.str s2, AV.slice q3 k5 k6], AV.int IntKind.i64 (0 : Int)]) H3) := by kernel_rfl

theorem laid_vc (X : Atoms) (q : Option (Nat × Nat)) (k : Nat) (H : AH) (Q : AV → AH → Prop) (I1 : Int × Option (Nat × Nat) × Nat → AH → Nat → Prop) (I2 : Int × (Option (Nat × Nat) × Nat) × (Option (Nat × Nat) × Nat) → AH → Nat → Prop) : (vcF X Tryd.prog [⟨3, Int × Option (Nat × Nat) × Nat, [0, 2, 3, 4, 11, 12, 13], fun x => [.slice q k k, .ptr (some (X.n H, 0)), .int .i64 0, .slice x.2.1 x.2.2 x.2.2, .slice q k k, .int .i64 k, .int .i64 x.1], I1⟩, ⟨11, Int × (Option (Nat × Nat) × Nat) × (Option (Nat × Nat) × Nat), [2, 3, 4, 7, 30, 31, 32], fun x => [.ptr (some (X.n H, 0)), .int .i64 0, .slice x.2.1.1 x.2.1.2 x.2.1.2, .slice x.2.2.1 x.2.2.2 x.2.2.2, .slice q k k, .int .i64 k, .int .i64 x.1], I2⟩] 30 [.slice q k k] H Q) =
  ((∃ (x1 : Int × Option (Nat × Nat) × Nat),
    ∃ (k1 : Nat),
      [AV.slice q k k, AV.ptr (some (X.n H, (0 : Nat))), AV.int IntKind.i64 (0 : Int), AV.slice none (0 : Nat) (0 : Nat), AV.slice q k k, AV.int IntKind.i64 (↑k : Int), AV.int IntKind.i64 (0 : Int)] =
          [AV.slice q k k, AV.ptr (some (X.n H, (0 : Nat))), AV.int IntKind.i64 (0 : Int), AV.slice x1.snd.fst x1.snd.snd x1.snd.snd, AV.slice q k k, AV.int IntKind.i64 (↑k : Int), AV.int IntKind.i64 x1.fst] ∧
        I1 x1 (X.al H (AObj.cells [AV.str [], AV.slice none (0 : Nat) (0 : Nat)] (26 : Nat) { whole := true })) k1) ∧
  ∀ (x2 : Int × Option (Nat × Nat) × Nat) (H1 : AH) (k2 : Nat),
    I1 x2 H1 k2 →
      bif decide (x2.fst < (↑k : Int)) then
        ∃ (k3 : Nat),
          ∃ (k4 : Nat),
            (q = some (k3, k4) ∧ (0 : Int) ≤ x2.fst ∧ x2.fst < (↑k : Int)) ∧
              ∃ (s1 : List UInt8),
                ∃ (b1 : Bool),
                  ∃ (b2 : Bool),
                    ∃ (b3 : Bool),
                      ∃ (b4 : Bool),
                        ∃ (n1 : Int),
                          X.rdn H1 k3 (k4 + x2.fst.toNat * (6 : Nat)) (6 : Nat) = some [AV.str s1, AV.bool b1, AV.bool b2, AV.bool b3, AV.bool b4, AV.int IntKind.i64 n1] ∧
                            [AV.str s1, AV.bool b1, AV.bool b2, AV.bool b3, AV.bool b4, AV.int IntKind.i64 n1].length = (6 : Nat) ∧
                              ∃ (H2 : AH),
                                X.wr (X.al H1 (AObj.cells [AV.str [], AV.bool false, AV.bool false, AV.bool false, AV.bool false, AV.int IntKind.i64 (0 : Int)] (79 : Nat) { whole := true })) (X.n H1) (0 : Nat)
                                      [AV.str s1, AV.bool b1, AV.bool b2, AV.bool b3, AV.bool b4, AV.int IntKind.i64 n1] =
                                    some H2 ∧
                                  ∃ (s2 : List UInt8),
                                    X.rd1 H2 (X.n H1) (0 : Nat) = some (AV.str s2) ∧
                                      bif decide (X.wrap IntKind.i64 ((↑x2.snd.snd : Int) + (↑s2.length : Int)) > (4096 : Int)) then
                                        [AV.str [], AV.slice none (0 : Nat) (0 : Nat)].length = (2 : Nat) ∧
                                          ∃ (H3 : AH),
                                            X.wr H2 (X.n H) (0 : Nat) [AV.str [], AV.slice none (0 : Nat) (0 : Nat)] = some H3 ∧
                                              ∃ (s3 : List UInt8),
                                                ∃ (q1 : Option (Nat × Nat)),
                                                  ∃ (k5 : Nat), ∃ (k6 : Nat), X.rdn H3 (X.n H) (0 : Nat) (2 : Nat) = some [AV.str s3, AV.slice q1 k5 k6] ∧ Q (AV.tuple [AV.agg [AV.str s3, AV.slice q1 k5 k6], AV.int IntKind.i64 (3 : Int)]) H3
                                      else
                                        ∃ (s4 : List UInt8),
                                          X.rd1 H2 (X.n H1) (0 : Nat) = some (AV.str s4) ∧
                                            ∃ (q2 : Option (Nat × Nat)),
                                              ∃ (k7 : Nat),
                                                ∃ (k8 : Nat),
                                                  ∃ (H4 : AH),
                                                    X.app (39 : Nat) (9 : Nat) (AV.slice x2.snd.fst x2.snd.snd x2.snd.snd) (AV.str s4) H2 = some (AV.slice q2 k7 k8, H4) ∧
                                                      ∃ (x3 : Int × Option (Nat × Nat) × Nat),
                                                        ∃ (k9 : Nat),
                                                          k9 < k2 ∧
                                                            [AV.slice q k k, AV.ptr (some (X.n H, (0 : Nat))), AV.int IntKind.i64 (0 : Int), AV.slice q2 k7 k8, AV.slice q k k, AV.int IntKind.i64 (↑k : Int),
                                                                  AV.int IntKind.i64 (X.wrap IntKind.i64 (x2.fst + (1 : Int)))] =
                                                                [AV.slice q k k, AV.ptr (some (X.n H, (0 : Nat))), AV.int IntKind.i64 (0 : Int), AV.slice x3.snd.fst x3.snd.snd x3.snd.snd, AV.slice q k k, AV.int IntKind.i64 (↑k : Int),
                                                                  AV.int IntKind.i64 x3.fst] ∧
                                                              I1 x3 H4 k9
      else
        (∃ (x4 : Int × (Option (Nat × Nat) × Nat) × Option (Nat × Nat) × Nat),
            ∃ (k10 : Nat),
              [AV.ptr (some (X.n H, (0 : Nat))), AV.int IntKind.i64 (0 : Int), AV.slice x2.snd.fst x2.snd.snd x2.snd.snd, AV.slice none (0 : Nat) (0 : Nat), AV.slice q k k, AV.int IntKind.i64 (↑k : Int), AV.int IntKind.i64 (0 : Int)] =
                  [AV.ptr (some (X.n H, (0 : Nat))), AV.int IntKind.i64 (0 : Int), AV.slice x4.snd.fst.fst x4.snd.fst.snd x4.snd.fst.snd, AV.slice x4.snd.snd.fst x4.snd.snd.snd x4.snd.snd.snd, AV.slice q k k, AV.int IntKind.i64 (↑k : Int),
                    AV.int IntKind.i64 x4.fst] ∧
                I2 x4 H1 k10) ∧
          ∀ (x5 : Int × (Option (Nat × Nat) × Nat) × Option (Nat × Nat) × Nat) (H5 : AH) (k11 : Nat),
            I2 x5 H5 k11 →
              bif decide (x5.fst < (↑k : Int)) then
                ∃ (k12 : Nat),
                  ∃ (k13 : Nat),
                    (q = some (k12, k13) ∧ (0 : Int) ≤ x5.fst ∧ x5.fst < (↑k : Int)) ∧
                      ∃ (s5 : List UInt8),
                        ∃ (b5 : Bool),
                          ∃ (b6 : Bool),
                            ∃ (b7 : Bool),
                              ∃ (b8 : Bool),
                                ∃ (n2 : Int),
                                  X.rdn H5 k12 (k13 + x5.fst.toNat * (6 : Nat)) (6 : Nat) = some [AV.str s5, AV.bool b5, AV.bool b6, AV.bool b7, AV.bool b8, AV.int IntKind.i64 n2] ∧
                                    [AV.str s5, AV.bool b5, AV.bool b6, AV.bool b7, AV.bool b8, AV.int IntKind.i64 n2].length = (6 : Nat) ∧
                                      ∃ (H6 : AH),
                                        X.wr (X.al H5 (AObj.cells [AV.str [], AV.bool false, AV.bool false, AV.bool false, AV.bool false, AV.int IntKind.i64 (0 : Int)] (79 : Nat) { whole := true })) (X.n H5) (0 : Nat)
                                              [AV.str s5, AV.bool b5, AV.bool b6, AV.bool b7, AV.bool b8, AV.int IntKind.i64 n2] =
                                            some H6 ∧
                                          bif decide ((↑x5.snd.snd.snd : Int) > (0 : Int)) == true then
                                            ∃ (k14 : Nat),
                                              ∃ (k15 : Nat),
                                                (x5.snd.snd.fst = some (k14, k15) ∧ (0 : Int) ≤ X.wrap IntKind.i64 ((↑x5.snd.snd.snd : Int) - (1 : Int)) ∧ X.wrap IntKind.i64 ((↑x5.snd.snd.snd : Int) - (1 : Int)) < (↑x5.snd.snd.snd : Int)) ∧
                                                  ∃ (b9 : Bool),
                                                    ∃ (b10 : Bool),
                                                      ∃ (b11 : Bool),
                                                        ∃ (b12 : Bool),
                                                          ∃ (n3 : Int),
                                                            X.rdn H6 k14 (k15 + (X.wrap IntKind.i64 ((↑x5.snd.snd.snd : Int) - (1 : Int))).toNat * (7 : Nat) + (2 : Nat)) (5 : Nat) =
                                                                some [AV.bool b9, AV.bool b10, AV.bool b11, AV.bool b12, AV.int IntKind.i64 n3] ∧
                                                              ∃ (b13 : Bool),
                                                                ∃ (b14 : Bool),
                                                                  ∃ (b15 : Bool),
                                                                    ∃ (b16 : Bool),
                                                                      ∃ (n4 : Int),
                                                                        X.rdn H6 (X.n H5) (1 : Nat) (5 : Nat) = some [AV.bool b13, AV.bool b14, AV.bool b15, AV.bool b16, AV.int IntKind.i64 n4] ∧
                                                                          bif b9 == b13 && (b10 == b14 && (b11 == b15 && (b12 == b16 && (n3 == n4 && true)))) then
                                                                            ∃ (k16 : Nat),
                                                                              ∃ (k17 : Nat),
                                                                                (x5.snd.snd.fst = some (k16, k17) ∧
                                                                                    (0 : Int) ≤ X.wrap IntKind.i64 ((↑x5.snd.snd.snd : Int) - (1 : Int)) ∧ X.wrap IntKind.i64 ((↑x5.snd.snd.snd : Int) - (1 : Int)) < (↑x5.snd.snd.snd : Int)) ∧
                                                                                  ∃ (n5 : Int),
                                                                                    X.rd1 H6 k16 (k17 + (X.wrap IntKind.i64 ((↑x5.snd.snd.snd : Int) - (1 : Int))).toNat * (7 : Nat) + (1 : Nat)) = some (AV.int IntKind.i64 n5) ∧
                                                                                      ∃ (k18 : Nat),
                                                                                        ∃ (k19 : Nat),
                                                                                          (x5.snd.snd.fst = some (k18, k19) ∧
                                                                                              (0 : Int) ≤ X.wrap IntKind.i64 ((↑x5.snd.snd.snd : Int) - (1 : Int)) ∧
                                                                                                X.wrap IntKind.i64 ((↑x5.snd.snd.snd : Int) - (1 : Int)) < (↑x5.snd.snd.snd : Int)) ∧
                                                                                            [AV.int IntKind.i64 (X.wrap IntKind.i64 (n5 + (1 : Int)))].length = (1 : Nat) ∧
                                                                                              ∃ (H7 : AH),
                                                                                                X.wr H6 k18 (k19 + (X.wrap IntKind.i64 ((↑x5.snd.snd.snd : Int) - (1 : Int))).toNat * (7 : Nat) + (1 : Nat))
                                                                                                      [AV.int IntKind.i64 (X.wrap IntKind.i64 (n5 + (1 : Int)))] =
                                                                                                    some H7 ∧
                                                                                                  ∃ (x6 : Int × (Option (Nat × Nat) × Nat) × Option (Nat × Nat) × Nat),
                                                                                                    ∃ (k20 : Nat),
                                                                                                      k20 < k11 ∧
                                                                                                        [AV.ptr (some (X.n H, (0 : Nat))), AV.int IntKind.i64 (0 : Int), AV.slice x5.snd.fst.fst x5.snd.fst.snd x5.snd.fst.snd,
                                                                                                              AV.slice x5.snd.snd.fst x5.snd.snd.snd x5.snd.snd.snd, AV.slice q k k, AV.int IntKind.i64 (↑k : Int),
                                                                                                              AV.int IntKind.i64 (X.wrap IntKind.i64 (x5.fst + (1 : Int)))] =
                                                                                                            [AV.ptr (some (X.n H, (0 : Nat))), AV.int IntKind.i64 (0 : Int), AV.slice x6.snd.fst.fst x6.snd.fst.snd x6.snd.fst.snd,
                                                                                                              AV.slice x6.snd.snd.fst x6.snd.snd.snd x6.snd.snd.snd, AV.slice q k k, AV.int IntKind.i64 (↑k : Int), AV.int IntKind.i64 x6.fst] ∧
                                                                                                          I2 x6 H7 k20
                                                                          else
                                                                            ∃ (b17 : Bool),
                                                                              ∃ (b18 : Bool),
                                                                                ∃ (b19 : Bool),
                                                                                  ∃ (b20 : Bool),
                                                                                    ∃ (n6 : Int),
                                                                                      X.rdn H6 (X.n H5) (1 : Nat) (5 : Nat) = some [AV.bool b17, AV.bool b18, AV.bool b19, AV.bool b20, AV.int IntKind.i64 n6] ∧
                                                                                        ((7 : Nat) ≤ (16777216 : Nat) ∧ (7 : Nat) = (7 : Nat) ∧ (0 : Nat) < (7 : Nat) ∧ true = true ∧ true = true) ∧
                                                                                          ∃ (q3 : Option (Nat × Nat)),
                                                                                            ∃ (k21 : Nat),
                                                                                              ∃ (k22 : Nat),
                                                                                                ∃ (H8 : AH),
                                                                                                  X.app (107 : Nat) (107 : Nat) (AV.slice x5.snd.snd.fst x5.snd.snd.snd x5.snd.snd.snd)
                                                                                                        (AV.slice (some (X.n H6, (0 : Nat))) (1 : Nat) (1 : Nat))
                                                                                                        (X.al H6
                                                                                                          (AObj.cells
                                                                                                            [AV.int IntKind.i64 x5.fst, AV.int IntKind.i64 (X.wrap IntKind.i64 (x5.fst + (1 : Int))), AV.bool b17, AV.bool b18, AV.bool b19,
                                                                                                              AV.bool b20, AV.int IntKind.i64 n6]
                                                                                                            (109 : Nat) { whole := true })) =
                                                                                                      some (AV.slice q3 k21 k22, H8) ∧
                                                                                                    ∃ (x7 : Int × (Option (Nat × Nat) × Nat) × Option (Nat × Nat) × Nat),
                                                                                                      ∃ (k23 : Nat),
                                                                                                        k23 < k11 ∧
                                                                                                          [AV.ptr (some (X.n H, (0 : Nat))), AV.int IntKind.i64 (0 : Int), AV.slice x5.snd.fst.fst x5.snd.fst.snd x5.snd.fst.snd,
                                                                                                                AV.slice q3 k21 k22, AV.slice q k k, AV.int IntKind.i64 (↑k : Int),
                                                                                                                AV.int IntKind.i64 (X.wrap IntKind.i64 (x5.fst + (1 : Int)))] =
                                                                                                              [AV.ptr (some (X.n H, (0 : Nat))), AV.int IntKind.i64 (0 : Int), AV.slice x7.snd.fst.fst x7.snd.fst.snd x7.snd.fst.snd,
                                                                                                                AV.slice x7.snd.snd.fst x7.snd.snd.snd x7.snd.snd.snd, AV.slice q k k, AV.int IntKind.i64 (↑k : Int),
                                                                                                                AV.int IntKind.i64 x7.fst] ∧
                                                                                                            I2 x7 H8 k23
                                          else
                                            ∃ (b21 : Bool),
                                              ∃ (b22 : Bool),
                                                ∃ (b23 : Bool),
                                                  ∃ (b24 : Bool),
                                                    ∃ (n7 : Int),
                                                      X.rdn H6 (X.n H5) (1 : Nat) (5 : Nat) = some [AV.bool b21, AV.bool b22, AV.bool b23, AV.bool b24, AV.int IntKind.i64 n7] ∧
                                                        ((7 : Nat) ≤ (16777216 : Nat) ∧ (7 : Nat) = (7 : Nat) ∧ (0 : Nat) < (7 : Nat) ∧ true = true ∧ true = true) ∧
                                                          ∃ (q4 : Option (Nat × Nat)),
                                                            ∃ (k24 : Nat),
                                                              ∃ (k25 : Nat),
                                                                ∃ (H9 : AH),
                                                                  X.app (107 : Nat) (107 : Nat) (AV.slice x5.snd.snd.fst x5.snd.snd.snd x5.snd.snd.snd) (AV.slice (some (X.n H6, (0 : Nat))) (1 : Nat) (1 : Nat))
                                                                        (X.al H6
                                                                          (AObj.cells
                                                                            [AV.int IntKind.i64 x5.fst, AV.int IntKind.i64 (X.wrap IntKind.i64 (x5.fst + (1 : Int))), AV.bool b21, AV.bool b22, AV.bool b23, AV.bool b24, AV.int IntKind.i64 n7]
                                                                            (109 : Nat) { whole := true })) =
                                                                      some (AV.slice q4 k24 k25, H9) ∧
                                                                    ∃ (x8 : Int × (Option (Nat × Nat) × Nat) × Option (Nat × Nat) × Nat),
                                                                      ∃ (k26 : Nat),
                                                                        k26 < k11 ∧
                                                                          [AV.ptr (some (X.n H, (0 : Nat))), AV.int IntKind.i64 (0 : Int), AV.slice x5.snd.fst.fst x5.snd.fst.snd x5.snd.fst.snd, AV.slice q4 k24 k25, AV.slice q k k,
                                                                                AV.int IntKind.i64 (↑k : Int), AV.int IntKind.i64 (X.wrap IntKind.i64 (x5.fst + (1 : Int)))] =
                                                                              [AV.ptr (some (X.n H, (0 : Nat))), AV.int IntKind.i64 (0 : Int), AV.slice x8.snd.fst.fst x8.snd.fst.snd x8.snd.fst.snd,
                                                                                AV.slice x8.snd.snd.fst x8.snd.snd.snd x8.snd.snd.snd, AV.slice q k k, AV.int IntKind.i64 (↑k : Int), AV.int IntKind.i64 x8.fst] ∧
                                                                            I2 x8 H9 k26
              else
                ∃ (s6 : List UInt8),
                  X.str (AV.slice x5.snd.fst.fst x5.snd.fst.snd x5.snd.fst.snd) H5 = some s6 ∧
                    X.call (55 : Nat) [AV.str s6, AV.slice x5.snd.snd.fst x5.snd.snd.snd x5.snd.snd.snd] H5 fun (v1 : AV) (H10 : AH) =>
                      ∃ (s7 : List UInt8),
                        ∃ (q5 : Option (Nat × Nat)),
                          ∃ (k27 : Nat),
                            ∃ (k28 : Nat),
                              ∃ (n8 : Int),
                                v1 = AV.tuple [AV.agg [AV.str s7, AV.slice q5 k27 k28], AV.int IntKind.i64 n8] ∧
                                  [AV.str s7, AV.slice q5 k27 k28].length = (2 : Nat) ∧
                                    ∃ (H11 : AH),
                                      X.wr H10 (X.n H) (0 : Nat) [AV.str s7, AV.slice q5 k27 k28] = some H11 ∧
                                        ∃ (s8 : List UInt8),
                                          ∃ (q6 : Option (Nat × Nat)),
                                            ∃ (k29 : Nat), ∃ (k30 : Nat), X.rdn H11 (X.n H) (0 : Nat) (2 : Nat) = some [AV.str s8, AV.slice q6 k29 k30] ∧ Q (AV.tuple [AV.agg [AV.str s8, AV.slice q6 k29 k30], AV.int IntKind.i64 n8]) H11) := by kernel_rfl

theorem Make_vc (X : Option Nat → Atoms) (It : FuncId → List AV → List AV → (AH → Prop) → List (List AV) → Prop) (s : List UInt8) (q : Option (Nat × Nat)) (k : Nat) (H : AH) (Q : AV → AH → Prop) : (vcG X It Tryd.prog [⟨6, Int × Int × Option (Nat × Nat) × Nat, [0, 4, 5, 6, 7, 16, 17, 18], fun x => [.str s, .ptr (some ((X none).n H, 0)), .int .i64 0, .slice x.2.2.1 x.2.2.2 x.2.2.2, .int .i64 x.2.1, .slice q k k, .int .i64 k, .int .i64 x.1], fun _ _ _ => True⟩, ⟨11, Int × Int × (Option (Nat × Nat) × Nat) × Nat × Int × Int, [0, 4, 5, 6, 7, 9, 16, 17, 18, 57, 58], fun x => [.str s, .ptr (some ((X none).n H, 0)), .int .i64 0, .slice x.2.2.1.1 x.2.2.1.2 x.2.2.1.2, .int .i64 x.2.1, .ptr (some (x.2.2.2.1, 0)), .slice q k k, .int .i64 k, .int .i64 x.1, .int .i64 x.2.2.2.2.1, .int .i64 x.2.2.2.2.2], fun _ _ _ => True⟩] [] 55 [.str s, .slice q k k] H Q) =
  (bif decide ((↑s.length : Int) > (4096 : Int)) then
  [AV.str [], AV.slice none (0 : Nat) (0 : Nat)].length = (2 : Nat) ∧
    ∃ (H1 : AH),
      (X none).wr ((X none).al H (AObj.cells [AV.str [], AV.slice none (0 : Nat) (0 : Nat)] (26 : Nat) { whole := true })) ((X none).n H) (0 : Nat) [AV.str [], AV.slice none (0 : Nat) (0 : Nat)] = some H1 ∧
        ∃ (s1 : List UInt8),
          ∃ (q1 : Option (Nat × Nat)),
            ∃ (k1 : Nat), ∃ (k2 : Nat), (X none).rdn H1 ((X none).n H) (0 : Nat) (2 : Nat) = some [AV.str s1, AV.slice q1 k1 k2] ∧ Q (AV.tuple [AV.agg [AV.str s1, AV.slice q1 k1 k2], AV.int IntKind.i64 (3 : Int)]) H1
else
  (X none).call (62 : Nat) [AV.str s] ((X none).al H (AObj.cells [AV.str [], AV.slice none (0 : Nat) (0 : Nat)] (26 : Nat) { whole := true })) fun (v1 : AV) (H2 : AH) =>
    ∃ (n1 : Int),
      v1 = AV.int IntKind.i64 n1 ∧
        ∃ (x1 : Int × Int × Option (Nat × Nat) × Nat → AH → Nat → Prop),
          (∃ (x2 : Int × Int × Option (Nat × Nat) × Nat),
              ∃ (k3 : Nat),
                [AV.str s, AV.ptr (some ((X none).n H, (0 : Nat))), AV.int IntKind.i64 (0 : Int), AV.slice none (0 : Nat) (0 : Nat), AV.int IntKind.i64 n1, AV.slice q k k, AV.int IntKind.i64 (↑k : Int), AV.int IntKind.i64 (0 : Int)] =
                    [AV.str s, AV.ptr (some ((X none).n H, (0 : Nat))), AV.int IntKind.i64 (0 : Int), AV.slice x2.snd.snd.fst x2.snd.snd.snd x2.snd.snd.snd, AV.int IntKind.i64 x2.snd.fst, AV.slice q k k, AV.int IntKind.i64 (↑k : Int),
                      AV.int IntKind.i64 x2.fst] ∧
                  x1 x2 H2 k3) ∧
            ∀ (x3 : Int × Int × Option (Nat × Nat) × Nat) (H3 : AH) (k4 : Nat),
              x1 x3 H3 k4 →
                bif decide (x3.fst < (↑k : Int)) then
                  ∃ (k5 : Nat),
                    ∃ (k6 : Nat),
                      (q = some (k5, k6) ∧ (0 : Int) ≤ x3.fst ∧ x3.fst < (↑k : Int)) ∧
                        ∃ (n2 : Int),
                          ∃ (n3 : Int),
                            ∃ (b1 : Bool),
                              ∃ (b2 : Bool),
                                ∃ (b3 : Bool),
                                  ∃ (b4 : Bool),
                                    ∃ (n4 : Int),
                                      (X none).rdn H3 k5 (k6 + x3.fst.toNat * (7 : Nat)) (7 : Nat) = some [AV.int IntKind.i64 n2, AV.int IntKind.i64 n3, AV.bool b1, AV.bool b2, AV.bool b3, AV.bool b4, AV.int IntKind.i64 n4] ∧
                                        [AV.int IntKind.i64 n2, AV.int IntKind.i64 n3, AV.bool b1, AV.bool b2, AV.bool b3, AV.bool b4, AV.int IntKind.i64 n4].length = (7 : Nat) ∧
                                          ∃ (H4 : AH),
                                            (X none).wr
                                                  ((X none).al H3
                                                    (AObj.cells [AV.int IntKind.i64 (0 : Int), AV.int IntKind.i64 (0 : Int), AV.bool false, AV.bool false, AV.bool false, AV.bool false, AV.int IntKind.i64 (0 : Int)] (109 : Nat)
                                                      { whole := true }))
                                                  ((X none).n H3) (0 : Nat) [AV.int IntKind.i64 n2, AV.int IntKind.i64 n3, AV.bool b1, AV.bool b2, AV.bool b3, AV.bool b4, AV.int IntKind.i64 n4] =
                                                some H4 ∧
                                              ∃ (n5 : Int),
                                                (X none).rd1 H4 ((X none).n H3) (0 : Nat) = some (AV.int IntKind.i64 n5) ∧
                                                  ∃ (n6 : Int),
                                                    (X none).rd1 H4 ((X none).n H3) (1 : Nat) = some (AV.int IntKind.i64 n6) ∧
                                                      ∃ (n7 : Int),
                                                        (X none).rd1 H4 ((X none).n H3) (0 : Nat) = some (AV.int IntKind.i64 n7) ∧
                                                          ∃ (n8 : Int),
                                                            (X none).rd1 H4 ((X none).n H3) (1 : Nat) = some (AV.int IntKind.i64 n8) ∧
                                                              ∃ (n9 : Int),
                                                                (X none).rd1 H4 ((X none).n H3) (6 : Nat) = some (AV.int IntKind.i64 n9) ∧
                                                                  ∃ (n10 : Int),
                                                                    (X none).rd1 H4 ((X none).n H3) (6 : Nat) = some (AV.int IntKind.i64 n10) ∧
                                                                      bif n5 != (↑x3.snd.snd.snd : Int) || decide (n6 ≤ n7) || decide (n8 > x3.snd.fst) || decide (n9 < (0 : Int)) || decide (n10 > (16777216 : Int)) then
                                                                        [AV.str [], AV.slice none (0 : Nat) (0 : Nat)].length = (2 : Nat) ∧
                                                                          ∃ (H5 : AH),
                                                                            (X none).wr H4 ((X none).n H) (0 : Nat) [AV.str [], AV.slice none (0 : Nat) (0 : Nat)] = some H5 ∧
                                                                              ∃ (s2 : List UInt8),
                                                                                ∃ (q2 : Option (Nat × Nat)),
                                                                                  ∃ (k7 : Nat),
                                                                                    ∃ (k8 : Nat),
                                                                                      (X none).rdn H5 ((X none).n H) (0 : Nat) (2 : Nat) = some [AV.str s2, AV.slice q2 k7 k8] ∧
                                                                                        Q (AV.tuple [AV.agg [AV.str s2, AV.slice q2 k7 k8], AV.int IntKind.i64 (1 : Int)]) H5
                                                                      else
                                                                        ∃ (n11 : Int),
                                                                          (X none).rd1 H4 ((X none).n H3) (1 : Nat) = some (AV.int IntKind.i64 n11) ∧
                                                                            ∃ (n12 : Int),
                                                                              (X none).rd1 H4 ((X none).n H3) (0 : Nat) = some (AV.int IntKind.i64 n12) ∧
                                                                                ∃ (x4 : Int × Int × (Option (Nat × Nat) × Nat) × Nat × Int × Int → AH → Nat → Prop),
                                                                                  (∃ (x5 : Int × Int × (Option (Nat × Nat) × Nat) × Nat × Int × Int),
                                                                                      ∃ (k9 : Nat),
                                                                                        [AV.str s, AV.ptr (some ((X none).n H, (0 : Nat))), AV.int IntKind.i64 (0 : Int), AV.slice x3.snd.snd.fst x3.snd.snd.snd x3.snd.snd.snd,
                                                                                              AV.int IntKind.i64 x3.snd.fst, AV.ptr (some ((X none).n H3, (0 : Nat))), AV.slice q k k, AV.int IntKind.i64 (↑k : Int), AV.int IntKind.i64 x3.fst,
                                                                                              AV.int IntKind.i64 ((X none).wrap IntKind.i64 (n11 - n12)), AV.int IntKind.i64 (0 : Int)] =
                                                                                            [AV.str s, AV.ptr (some ((X none).n H, (0 : Nat))), AV.int IntKind.i64 (0 : Int), AV.slice x5.snd.snd.fst.fst x5.snd.snd.fst.snd x5.snd.snd.fst.snd,
                                                                                              AV.int IntKind.i64 x5.snd.fst, AV.ptr (some (x5.snd.snd.snd.fst, (0 : Nat))), AV.slice q k k, AV.int IntKind.i64 (↑k : Int),
                                                                                              AV.int IntKind.i64 x5.fst, AV.int IntKind.i64 x5.snd.snd.snd.snd.fst, AV.int IntKind.i64 x5.snd.snd.snd.snd.snd] ∧
                                                                                          x4 x5 H4 k9) ∧
                                                                                    ∀ (x6 : Int × Int × (Option (Nat × Nat) × Nat) × Nat × Int × Int) (H6 : AH) (k10 : Nat),
                                                                                      x4 x6 H6 k10 →
                                                                                        bif decide (x6.snd.snd.snd.snd.snd < x6.snd.snd.snd.snd.fst) then
                                                                                          ∃ (b5 : Bool),
                                                                                            ∃ (b6 : Bool),
                                                                                              ∃ (b7 : Bool),
                                                                                                ∃ (b8 : Bool),
                                                                                                  ∃ (n13 : Int),
                                                                                                    (X none).rdn H6 x6.snd.snd.snd.fst (2 : Nat) (5 : Nat) = some [AV.bool b5, AV.bool b6, AV.bool b7, AV.bool b8, AV.int IntKind.i64 n13] ∧
                                                                                                      ((5 : Nat) ≤ (16777216 : Nat) ∧ (5 : Nat) = (5 : Nat) ∧ (0 : Nat) < (5 : Nat) ∧ true = true ∧ true = true) ∧
                                                                                                        ∃ (q3 : Option (Nat × Nat)),
                                                                                                          ∃ (k11 : Nat),
                                                                                                            ∃ (k12 : Nat),
                                                                                                              ∃ (H7 : AH),
                                                                                                                (X none).app (50 : Nat) (50 : Nat) (AV.slice x6.snd.snd.fst.fst x6.snd.snd.fst.snd x6.snd.snd.fst.snd)
                                                                                                                      (AV.slice (some ((X none).n H6, (0 : Nat))) (1 : Nat) (1 : Nat))
                                                                                                                      ((X none).al H6
                                                                                                                        (AObj.cells [AV.bool b5, AV.bool b6, AV.bool b7, AV.bool b8, AV.int IntKind.i64 n13] (53 : Nat) { whole := true })) =
                                                                                                                    some (AV.slice q3 k11 k12, H7) ∧
                                                                                                                  ∃ (x7 : Int × Int × (Option (Nat × Nat) × Nat) × Nat × Int × Int),
                                                                                                                    ∃ (k13 : Nat),
                                                                                                                      k13 < k10 ∧
                                                                                                                        [AV.str s, AV.ptr (some ((X none).n H, (0 : Nat))), AV.int IntKind.i64 (0 : Int), AV.slice q3 k11 k12,
                                                                                                                              AV.int IntKind.i64 x6.snd.fst, AV.ptr (some (x6.snd.snd.snd.fst, (0 : Nat))), AV.slice q k k,
                                                                                                                              AV.int IntKind.i64 (↑k : Int), AV.int IntKind.i64 x6.fst, AV.int IntKind.i64 x6.snd.snd.snd.snd.fst,
                                                                                                                              AV.int IntKind.i64 ((X none).wrap IntKind.i64 (x6.snd.snd.snd.snd.snd + (1 : Int)))] =
                                                                                                                            [AV.str s, AV.ptr (some ((X none).n H, (0 : Nat))), AV.int IntKind.i64 (0 : Int),
                                                                                                                              AV.slice x7.snd.snd.fst.fst x7.snd.snd.fst.snd x7.snd.snd.fst.snd, AV.int IntKind.i64 x7.snd.fst,
                                                                                                                              AV.ptr (some (x7.snd.snd.snd.fst, (0 : Nat))), AV.slice q k k, AV.int IntKind.i64 (↑k : Int),
                                                                                                                              AV.int IntKind.i64 x7.fst, AV.int IntKind.i64 x7.snd.snd.snd.snd.fst, AV.int IntKind.i64 x7.snd.snd.snd.snd.snd] ∧
                                                                                                                          x4 x7 H7 k13
                                                                                        else
                                                                                          ∃ (x8 : Int × Int × Option (Nat × Nat) × Nat),
                                                                                            ∃ (k14 : Nat),
                                                                                              k14 < k4 ∧
                                                                                                [AV.str s, AV.ptr (some ((X none).n H, (0 : Nat))), AV.int IntKind.i64 (0 : Int),
                                                                                                      AV.slice x6.snd.snd.fst.fst x6.snd.snd.fst.snd x6.snd.snd.fst.snd, AV.int IntKind.i64 x6.snd.fst, AV.slice q k k,
                                                                                                      AV.int IntKind.i64 (↑k : Int), AV.int IntKind.i64 ((X none).wrap IntKind.i64 (x6.fst + (1 : Int)))] =
                                                                                                    [AV.str s, AV.ptr (some ((X none).n H, (0 : Nat))), AV.int IntKind.i64 (0 : Int), AV.slice x8.snd.snd.fst x8.snd.snd.snd x8.snd.snd.snd,
                                                                                                      AV.int IntKind.i64 x8.snd.fst, AV.slice q k k, AV.int IntKind.i64 (↑k : Int), AV.int IntKind.i64 x8.fst] ∧
                                                                                                  x1 x8 H6 k14
                else
                  bif (↑x3.snd.snd.snd : Int) != x3.snd.fst then
                    [AV.str [], AV.slice none (0 : Nat) (0 : Nat)].length = (2 : Nat) ∧
                      ∃ (H8 : AH),
                        (X none).wr H3 ((X none).n H) (0 : Nat) [AV.str [], AV.slice none (0 : Nat) (0 : Nat)] = some H8 ∧
                          ∃ (s3 : List UInt8),
                            ∃ (q4 : Option (Nat × Nat)),
                              ∃ (k15 : Nat), ∃ (k16 : Nat), (X none).rdn H8 ((X none).n H) (0 : Nat) (2 : Nat) = some [AV.str s3, AV.slice q4 k15 k16] ∧ Q (AV.tuple [AV.agg [AV.str s3, AV.slice q4 k15 k16], AV.int IntKind.i64 (1 : Int)]) H8
                  else
                    (X none).call (79 : Nat) [AV.str s, AV.slice x3.snd.snd.fst x3.snd.snd.snd x3.snd.snd.snd] H3 fun (v2 : AV) (H9 : AH) =>
                      ∃ (s4 : List UInt8),
                        ∃ (q5 : Option (Nat × Nat)),
                          ∃ (k17 : Nat),
                            ∃ (k18 : Nat),
                              ∃ (n14 : Int),
                                v2 = AV.tuple [AV.agg [AV.str s4, AV.slice q5 k17 k18], AV.int IntKind.i64 n14] ∧
                                  [AV.str s4, AV.slice q5 k17 k18].length = (2 : Nat) ∧
                                    ∃ (H10 : AH),
                                      (X none).wr H9 ((X none).n H) (0 : Nat) [AV.str s4, AV.slice q5 k17 k18] = some H10 ∧
                                        ∃ (s5 : List UInt8),
                                          ∃ (q6 : Option (Nat × Nat)),
                                            ∃ (k19 : Nat),
                                              ∃ (k20 : Nat), (X none).rdn H10 ((X none).n H) (0 : Nat) (2 : Nat) = some [AV.str s5, AV.slice q6 k19 k20] ∧ Q (AV.tuple [AV.agg [AV.str s5, AV.slice q6 k19 k20], AV.int IntKind.i64 n14]) H10) := by kernel_rfl

theorem made_vc (X : Option Nat → Atoms) (It : FuncId → List AV → List AV → (AH → Prop) → List (List AV) → Prop) (q : Option (Nat × Nat)) (k : Nat) (H : AH) (Q : AV → AH → Prop) : (vcG X It Tryd.prog [⟨4, Int × (Option (Nat × Nat) × Nat) × (Option (Nat × Nat) × Nat), [0, 3, 4, 5], fun x => [.slice q k k, .slice x.2.1.1 x.2.1.2 x.2.1.2, .slice x.2.2.1 x.2.2.2 x.2.2.2, .int .i64 x.1], fun _ _ _ => True⟩, ⟨8, (Int × (Option (Nat × Nat) × Nat) × (Option (Nat × Nat) × Nat)) × Int × Int, [0, 3, 4, 5, 6, 7], fun x => [.slice q k k, .slice x.1.2.1.1 x.1.2.1.2 x.1.2.1.2, .slice x.1.2.2.1 x.1.2.2.2 x.1.2.2.2, .int .i64 x.1.1, .int .i64 x.2.1, .int .i64 x.2.2], fun _ _ _ => True⟩, ⟨11, ((Int × (Option (Nat × Nat) × Nat) × (Option (Nat × Nat) × Nat)) × Int × Int) × Int × Int, [0, 3, 4, 5, 6, 7, 8, 9], fun x => [.slice q k k, .slice x.1.1.2.1.1 x.1.1.2.1.2 x.1.1.2.1.2, .slice x.1.1.2.2.1 x.1.1.2.2.2 x.1.1.2.2.2, .int .i64 x.1.1.1, .int .i64 x.1.2.1, .int .i64 x.1.2.2, .int .i64 x.2.1, .int .i64 x.2.2], fun _ _ _ => True⟩, ⟨20, (Int × (Option (Nat × Nat) × Nat) × (Option (Nat × Nat) × Nat)) × (Option (Nat × Nat) × Nat × Nat) × Int × Int, [0, 3, 4, 5, 76, 77, 78], fun x => [.slice q k k, .slice x.1.2.1.1 x.1.2.1.2 x.1.2.1.2, .slice x.1.2.2.1 x.1.2.2.2 x.1.2.2.2, .int .i64 x.1.1, .slice x.2.1.1 x.2.1.2.1 x.2.1.2.2, .int .i64 x.2.2.1, .int .i64 x.2.2.2], fun _ _ _ => True⟩] [] 93 [.slice q k k] H Q) =
  (∃ (q1 : Option (Nat × Nat)),
  ∃ (k1 : Nat),
    ∃ (k2 : Nat),
      ∃ (H1 : AH),
        (X none).mks (129 : Nat) ((X none).wrap IntKind.i64 ((↑k : Int) + (1 : Int))) ((X none).wrap IntKind.i64 ((↑k : Int) + (1 : Int))) H = some (AV.slice q1 k1 k2, H1) ∧
          ∃ (x1 : Int × (Option (Nat × Nat) × Nat) × Option (Nat × Nat) × Nat → AH → Nat → Prop),
            (∃ (x2 : Int × (Option (Nat × Nat) × Nat) × Option (Nat × Nat) × Nat),
                ∃ (k3 : Nat),
                  [AV.slice q k k, AV.slice q1 k1 k2, AV.slice none (0 : Nat) (0 : Nat), AV.int IntKind.i64 (1 : Int)] =
                      [AV.slice q k k, AV.slice x2.snd.fst.fst x2.snd.fst.snd x2.snd.fst.snd, AV.slice x2.snd.snd.fst x2.snd.snd.snd x2.snd.snd.snd, AV.int IntKind.i64 x2.fst] ∧
                    x1 x2 H1 k3) ∧
              ∀ (x3 : Int × (Option (Nat × Nat) × Nat) × Option (Nat × Nat) × Nat) (H2 : AH) (k4 : Nat),
                x1 x3 H2 k4 →
                  bif decide (x3.fst ≤ (5 : Int)) then
                    ∃ (x4 : (Int × (Option (Nat × Nat) × Nat) × Option (Nat × Nat) × Nat) × Int × Int → AH → Nat → Prop),
                      (∃ (x5 : (Int × (Option (Nat × Nat) × Nat) × Option (Nat × Nat) × Nat) × Int × Int),
                          ∃ (k5 : Nat),
                            [AV.slice q k k, AV.slice x3.snd.fst.fst x3.snd.fst.snd x3.snd.fst.snd, AV.slice x3.snd.snd.fst x3.snd.snd.snd x3.snd.snd.snd, AV.int IntKind.i64 x3.fst, AV.int IntKind.i64 (↑x3.snd.snd.snd : Int),
                                  AV.int IntKind.i64 (0 : Int)] =
                                [AV.slice q k k, AV.slice x5.fst.snd.fst.fst x5.fst.snd.fst.snd x5.fst.snd.fst.snd, AV.slice x5.fst.snd.snd.fst x5.fst.snd.snd.snd x5.fst.snd.snd.snd, AV.int IntKind.i64 x5.fst.fst,
                                  AV.int IntKind.i64 x5.snd.fst, AV.int IntKind.i64 x5.snd.snd] ∧
                              x4 x5 H2 k5) ∧
                        ∀ (x6 : (Int × (Option (Nat × Nat) × Nat) × Option (Nat × Nat) × Nat) × Int × Int) (H3 : AH) (k6 : Nat),
                          x4 x6 H3 k6 →
                            bif decide (x6.snd.snd < (↑k : Int)) then
                              ∃ (k7 : Nat),
                                ∃ (k8 : Nat),
                                  (q = some (k7, k8) ∧ (0 : Int) ≤ x6.snd.snd ∧ x6.snd.snd < (↑k : Int)) ∧
                                    ∃ (b1 : Bool),
                                      ∃ (b2 : Bool),
                                        ∃ (b3 : Bool),
                                          ∃ (b4 : Bool),
                                            ∃ (n1 : Int),
                                              (X none).rdn H3 k7 (k8 + x6.snd.snd.toNat * (5 : Nat)) (5 : Nat) = some [AV.bool b1, AV.bool b2, AV.bool b3, AV.bool b4, AV.int IntKind.i64 n1] ∧
                                                (X none).call (110 : Nat) [AV.agg [AV.bool b1, AV.bool b2, AV.bool b3, AV.bool b4, AV.int IntKind.i64 n1], AV.int IntKind.i64 x6.fst.fst] H3 fun (v1 : AV) (H4 : AH) =>
                                                  ∃ (n2 : Int),
                                                    v1 = AV.int IntKind.i64 n2 ∧
                                                      ∃ (x7 : ((Int × (Option (Nat × Nat) × Nat) × Option (Nat × Nat) × Nat) × Int × Int) × Int × Int → AH → Nat → Prop),
                                                        (∃ (x8 : ((Int × (Option (Nat × Nat) × Nat) × Option (Nat × Nat) × Nat) × Int × Int) × Int × Int),
                                                            ∃ (k9 : Nat),
                                                              [AV.slice q k k, AV.slice x6.fst.snd.fst.fst x6.fst.snd.fst.snd x6.fst.snd.fst.snd, AV.slice x6.fst.snd.snd.fst x6.fst.snd.snd.snd x6.fst.snd.snd.snd,
                                                                    AV.int IntKind.i64 x6.fst.fst, AV.int IntKind.i64 x6.snd.fst, AV.int IntKind.i64 x6.snd.snd, AV.int IntKind.i64 n2,
                                                                    AV.int IntKind.i64 ((X none).wrap IntKind.i64 (x6.snd.snd + (1 : Int)))] =
                                                                  [AV.slice q k k, AV.slice x8.fst.fst.snd.fst.fst x8.fst.fst.snd.fst.snd x8.fst.fst.snd.fst.snd, AV.slice x8.fst.fst.snd.snd.fst x8.fst.fst.snd.snd.snd x8.fst.fst.snd.snd.snd,
                                                                    AV.int IntKind.i64 x8.fst.fst.fst, AV.int IntKind.i64 x8.fst.snd.fst, AV.int IntKind.i64 x8.fst.snd.snd, AV.int IntKind.i64 x8.snd.fst, AV.int IntKind.i64 x8.snd.snd] ∧
                                                                x7 x8 H4 k9) ∧
                                                          ∀ (x9 : ((Int × (Option (Nat × Nat) × Nat) × Option (Nat × Nat) × Nat) × Int × Int) × Int × Int) (H5 : AH) (k10 : Nat),
                                                            x7 x9 H5 k10 →
                                                              ∃ (k11 : Nat),
                                                                ∃ (k12 : Nat),
                                                                  ((decide (x9.snd.snd < (↑k : Int)) == true) = true → q = some (k11, k12) ∧ (0 : Int) ≤ x9.snd.snd ∧ x9.snd.snd < (↑k : Int)) ∧
                                                                    ∃ (b5 : Bool),
                                                                      ∃ (b6 : Bool),
                                                                        ∃ (b7 : Bool),
                                                                          ∃ (b8 : Bool),
                                                                            ∃ (n3 : Int),
                                                                              ((decide (x9.snd.snd < (↑k : Int)) == true) = true →
                                                                                  (X none).rdn H5 k11 (k12 + x9.snd.snd.toNat * (5 : Nat)) (5 : Nat) = some [AV.bool b5, AV.bool b6, AV.bool b7, AV.bool b8, AV.int IntKind.i64 n3]) ∧
                                                                                bif decide (x9.snd.snd < (↑k : Int)) == true then
                                                                                  (X none).call (110 : Nat) [AV.agg [AV.bool b5, AV.bool b6, AV.bool b7, AV.bool b8, AV.int IntKind.i64 n3], AV.int IntKind.i64 x9.fst.fst.fst] H5
                                                                                    fun (v2 : AV) (H6 : AH) =>
                                                                                    ∃ (n4 : Int),
                                                                                      v2 = AV.int IntKind.i64 n4 ∧
                                                                                        ∃ (k13 : Nat),
                                                                                          ∃ (k14 : Nat),
                                                                                            (((n4 == x9.snd.fst) == true) = true →
                                                                                                x9.fst.fst.snd.fst.fst = some (k13, k14) ∧ (0 : Int) ≤ x9.snd.snd ∧ x9.snd.snd < (↑x9.fst.fst.snd.fst.snd : Int)) ∧
                                                                                              ∃ (b9 : Bool),
                                                                                                (((n4 == x9.snd.fst) == true) = true → (X none).rd1 H6 k13 (k14 + x9.snd.snd.toNat * (1 : Nat)) = some (AV.bool b9)) ∧
                                                                                                  bif n4 == x9.snd.fst && !b9 then
                                                                                                    ∃ (x10 : ((Int × (Option (Nat × Nat) × Nat) × Option (Nat × Nat) × Nat) × Int × Int) × Int × Int),
                                                                                                      ∃ (k15 : Nat),
                                                                                                        k15 < k10 ∧
                                                                                                          [AV.slice q k k, AV.slice x9.fst.fst.snd.fst.fst x9.fst.fst.snd.fst.snd x9.fst.fst.snd.fst.snd,
                                                                                                                AV.slice x9.fst.fst.snd.snd.fst x9.fst.fst.snd.snd.snd x9.fst.fst.snd.snd.snd, AV.int IntKind.i64 x9.fst.fst.fst,
                                                                                                                AV.int IntKind.i64 x9.fst.snd.fst, AV.int IntKind.i64 x9.fst.snd.snd, AV.int IntKind.i64 x9.snd.fst,
                                                                                                                AV.int IntKind.i64 ((X none).wrap IntKind.i64 (x9.snd.snd + (1 : Int)))] =
                                                                                                              [AV.slice q k k, AV.slice x10.fst.fst.snd.fst.fst x10.fst.fst.snd.fst.snd x10.fst.fst.snd.fst.snd,
                                                                                                                AV.slice x10.fst.fst.snd.snd.fst x10.fst.fst.snd.snd.snd x10.fst.fst.snd.snd.snd, AV.int IntKind.i64 x10.fst.fst.fst,
                                                                                                                AV.int IntKind.i64 x10.fst.snd.fst, AV.int IntKind.i64 x10.fst.snd.snd, AV.int IntKind.i64 x10.snd.fst,
                                                                                                                AV.int IntKind.i64 x10.snd.snd] ∧
                                                                                                            x7 x10 H6 k15
                                                                                                  else
                                                                                                    bif x9.snd.fst != (0 : Int) then
                                                                                                      [AV.int IntKind.i64 x9.fst.snd.snd, AV.int IntKind.i64 x9.snd.snd, AV.int IntKind.i64 x9.fst.fst.fst,
                                                                                                              AV.int IntKind.i64 (0 : Int)].length =
                                                                                                          (4 : Nat) ∧
                                                                                                        ∃ (H7 : AH),
                                                                                                          (X none).wr
                                                                                                                ((X none).al H6
                                                                                                                  (AObj.cells
                                                                                                                    [AV.int IntKind.i64 (0 : Int), AV.int IntKind.i64 (0 : Int), AV.int IntKind.i64 (0 : Int), AV.int IntKind.i64 (0 : Int)]
                                                                                                                    (41 : Nat) { whole := true }))
                                                                                                                ((X none).n H6) (0 : Nat)
                                                                                                                [AV.int IntKind.i64 x9.fst.snd.snd, AV.int IntKind.i64 x9.snd.snd, AV.int IntKind.i64 x9.fst.fst.fst,
                                                                                                                  AV.int IntKind.i64 (0 : Int)] =
                                                                                                              some H7 ∧
                                                                                                            bif x9.fst.fst.fst == (5 : Int) then
                                                                                                              [AV.int IntKind.i64 ((X none).wrap IntKind.i64 (x9.snd.fst - (1 : Int)))].length = (1 : Nat) ∧
                                                                                                                ∃ (H8 : AH),
                                                                                                                  (X none).wr H7 ((X none).n H6) (3 : Nat) [AV.int IntKind.i64 ((X none).wrap IntKind.i64 (x9.snd.fst - (1 : Int)))] = some H8 ∧
                                                                                                                    ∃ (n5 : Int),
                                                                                                                      ∃ (n6 : Int),
                                                                                                                        ∃ (n7 : Int),
                                                                                                                          ∃ (n8 : Int),
                                                                                                                            (X none).rdn H8 ((X none).n H6) (0 : Nat) (4 : Nat) =
                                                                                                                                some [AV.int IntKind.i64 n5, AV.int IntKind.i64 n6, AV.int IntKind.i64 n7, AV.int IntKind.i64 n8] ∧
                                                                                                                              ((4 : Nat) ≤ (16777216 : Nat) ∧ (4 : Nat) = (4 : Nat) ∧ (0 : Nat) < (4 : Nat) ∧ true = true ∧ true = true) ∧
                                                                                                                                ∃ (q2 : Option (Nat × Nat)),
                                                                                                                                  ∃ (k16 : Nat),
                                                                                                                                    ∃ (k17 : Nat),
                                                                                                                                      ∃ (H9 : AH),
                                                                                                                                        (X none).app (24 : Nat) (24 : Nat)
                                                                                                                                              (AV.slice x9.fst.fst.snd.snd.fst x9.fst.fst.snd.snd.snd x9.fst.fst.snd.snd.snd)
                                                                                                                                              (AV.slice (some ((X none).n H8, (0 : Nat))) (1 : Nat) (1 : Nat))
                                                                                                                                              ((X none).al H8
                                                                                                                                                (AObj.cells
                                                                                                                                                  [AV.int IntKind.i64 n5, AV.int IntKind.i64 n6, AV.int IntKind.i64 n7, AV.int IntKind.i64 n8]
                                                                                                                                                  (41 : Nat) { whole := true })) =
                                                                                                                                            some (AV.slice q2 k16 k17, H9) ∧
                                                                                                                                          ∃ (x11 : (Int × (Option (Nat × Nat) × Nat) × Option (Nat × Nat) × Nat) × Int × Int),
                                                                                                                                            ∃ (k18 : Nat),
                                                                                                                                              k18 < k6 ∧
                                                                                                                                                [AV.slice q k k, AV.slice x9.fst.fst.snd.fst.fst x9.fst.fst.snd.fst.snd x9.fst.fst.snd.fst.snd,
                                                                                                                                                      AV.slice q2 k16 k17, AV.int IntKind.i64 x9.fst.fst.fst, AV.int IntKind.i64 x9.fst.snd.fst,
                                                                                                                                                      AV.int IntKind.i64 x9.snd.snd] =
                                                                                                                                                    [AV.slice q k k, AV.slice x11.fst.snd.fst.fst x11.fst.snd.fst.snd x11.fst.snd.fst.snd,
                                                                                                                                                      AV.slice x11.fst.snd.snd.fst x11.fst.snd.snd.snd x11.fst.snd.snd.snd,
                                                                                                                                                      AV.int IntKind.i64 x11.fst.fst, AV.int IntKind.i64 x11.snd.fst,
                                                                                                                                                      AV.int IntKind.i64 x11.snd.snd] ∧
                                                                                                                                                  x4 x11 H9 k18
                                                                                                            else
                                                                                                              ∃ (n9 : Int),
                                                                                                                ∃ (n10 : Int),
                                                                                                                  ∃ (n11 : Int),
                                                                                                                    ∃ (n12 : Int),
                                                                                                                      (X none).rdn H7 ((X none).n H6) (0 : Nat) (4 : Nat) =
                                                                                                                          some [AV.int IntKind.i64 n9, AV.int IntKind.i64 n10, AV.int IntKind.i64 n11, AV.int IntKind.i64 n12] ∧
                                                                                                                        ((4 : Nat) ≤ (16777216 : Nat) ∧ (4 : Nat) = (4 : Nat) ∧ (0 : Nat) < (4 : Nat) ∧ true = true ∧ true = true) ∧
                                                                                                                          ∃ (q3 : Option (Nat × Nat)),
                                                                                                                            ∃ (k19 : Nat),
                                                                                                                              ∃ (k20 : Nat),
                                                                                                                                ∃ (H10 : AH),
                                                                                                                                  (X none).app (24 : Nat) (24 : Nat)
                                                                                                                                        (AV.slice x9.fst.fst.snd.snd.fst x9.fst.fst.snd.snd.snd x9.fst.fst.snd.snd.snd)
                                                                                                                                        (AV.slice (some ((X none).n H7, (0 : Nat))) (1 : Nat) (1 : Nat))
                                                                                                                                        ((X none).al H7
                                                                                                                                          (AObj.cells
                                                                                                                                            [AV.int IntKind.i64 n9, AV.int IntKind.i64 n10, AV.int IntKind.i64 n11, AV.int IntKind.i64 n12]
                                                                                                                                            (41 : Nat) { whole := true })) =
                                                                                                                                      some (AV.slice q3 k19 k20, H10) ∧
                                                                                                                                    ∃ (x12 : (Int × (Option (Nat × Nat) × Nat) × Option (Nat × Nat) × Nat) × Int × Int),
                                                                                                                                      ∃ (k21 : Nat),
                                                                                                                                        k21 < k6 ∧
                                                                                                                                          [AV.slice q k k, AV.slice x9.fst.fst.snd.fst.fst x9.fst.fst.snd.fst.snd x9.fst.fst.snd.fst.snd,
                                                                                                                                                AV.slice q3 k19 k20, AV.int IntKind.i64 x9.fst.fst.fst, AV.int IntKind.i64 x9.fst.snd.fst,
                                                                                                                                                AV.int IntKind.i64 x9.snd.snd] =
                                                                                                                                              [AV.slice q k k, AV.slice x12.fst.snd.fst.fst x12.fst.snd.fst.snd x12.fst.snd.fst.snd,
                                                                                                                                                AV.slice x12.fst.snd.snd.fst x12.fst.snd.snd.snd x12.fst.snd.snd.snd,
                                                                                                                                                AV.int IntKind.i64 x12.fst.fst, AV.int IntKind.i64 x12.snd.fst,
                                                                                                                                                AV.int IntKind.i64 x12.snd.snd] ∧
                                                                                                                                            x4 x12 H10 k21
                                                                                                    else
                                                                                                      ∃ (x13 : (Int × (Option (Nat × Nat) × Nat) × Option (Nat × Nat) × Nat) × Int × Int),
                                                                                                        ∃ (k22 : Nat),
                                                                                                          k22 < k6 ∧
                                                                                                            [AV.slice q k k, AV.slice x9.fst.fst.snd.fst.fst x9.fst.fst.snd.fst.snd x9.fst.fst.snd.fst.snd,
                                                                                                                  AV.slice x9.fst.fst.snd.snd.fst x9.fst.fst.snd.snd.snd x9.fst.fst.snd.snd.snd, AV.int IntKind.i64 x9.fst.fst.fst,
                                                                                                                  AV.int IntKind.i64 x9.fst.snd.fst, AV.int IntKind.i64 x9.snd.snd] =
                                                                                                                [AV.slice q k k, AV.slice x13.fst.snd.fst.fst x13.fst.snd.fst.snd x13.fst.snd.fst.snd,
                                                                                                                  AV.slice x13.fst.snd.snd.fst x13.fst.snd.snd.snd x13.fst.snd.snd.snd, AV.int IntKind.i64 x13.fst.fst,
                                                                                                                  AV.int IntKind.i64 x13.snd.fst, AV.int IntKind.i64 x13.snd.snd] ∧
                                                                                                              x4 x13 H6 k22
                                                                                else
                                                                                  ∃ (k23 : Nat),
                                                                                    ∃ (k24 : Nat),
                                                                                      (false = true → x9.fst.fst.snd.fst.fst = some (k23, k24) ∧ (0 : Int) ≤ x9.snd.snd ∧ x9.snd.snd < (↑x9.fst.fst.snd.fst.snd : Int)) ∧
                                                                                        ∃ (b10 : Bool),
                                                                                          (false = true → (X none).rd1 H5 k23 (k24 + x9.snd.snd.toNat * (1 : Nat)) = some (AV.bool b10)) ∧
                                                                                            bif x9.snd.fst != (0 : Int) then
                                                                                              [AV.int IntKind.i64 x9.fst.snd.snd, AV.int IntKind.i64 x9.snd.snd, AV.int IntKind.i64 x9.fst.fst.fst, AV.int IntKind.i64 (0 : Int)].length =
                                                                                                  (4 : Nat) ∧
                                                                                                ∃ (H11 : AH),
                                                                                                  (X none).wr
                                                                                                        ((X none).al H5
                                                                                                          (AObj.cells [AV.int IntKind.i64 (0 : Int), AV.int IntKind.i64 (0 : Int), AV.int IntKind.i64 (0 : Int), AV.int IntKind.i64 (0 : Int)]
                                                                                                            (41 : Nat) { whole := true }))
                                                                                                        ((X none).n H5) (0 : Nat)
                                                                                                        [AV.int IntKind.i64 x9.fst.snd.snd, AV.int IntKind.i64 x9.snd.snd, AV.int IntKind.i64 x9.fst.fst.fst, AV.int IntKind.i64 (0 : Int)] =
                                                                                                      some H11 ∧
                                                                                                    bif x9.fst.fst.fst == (5 : Int) then
                                                                                                      [AV.int IntKind.i64 ((X none).wrap IntKind.i64 (x9.snd.fst - (1 : Int)))].length = (1 : Nat) ∧
                                                                                                        ∃ (H12 : AH),
                                                                                                          (X none).wr H11 ((X none).n H5) (3 : Nat) [AV.int IntKind.i64 ((X none).wrap IntKind.i64 (x9.snd.fst - (1 : Int)))] = some H12 ∧
                                                                                                            ∃ (n13 : Int),
                                                                                                              ∃ (n14 : Int),
                                                                                                                ∃ (n15 : Int),
                                                                                                                  ∃ (n16 : Int),
                                                                                                                    (X none).rdn H12 ((X none).n H5) (0 : Nat) (4 : Nat) =
                                                                                                                        some [AV.int IntKind.i64 n13, AV.int IntKind.i64 n14, AV.int IntKind.i64 n15, AV.int IntKind.i64 n16] ∧
                                                                                                                      ((4 : Nat) ≤ (16777216 : Nat) ∧ (4 : Nat) = (4 : Nat) ∧ (0 : Nat) < (4 : Nat) ∧ true = true ∧ true = true) ∧
                                                                                                                        ∃ (q4 : Option (Nat × Nat)),
                                                                                                                          ∃ (k25 : Nat),
                                                                                                                            ∃ (k26 : Nat),
                                                                                                                              ∃ (H13 : AH),
                                                                                                                                (X none).app (24 : Nat) (24 : Nat)
                                                                                                                                      (AV.slice x9.fst.fst.snd.snd.fst x9.fst.fst.snd.snd.snd x9.fst.fst.snd.snd.snd)
                                                                                                                                      (AV.slice (some ((X none).n H12, (0 : Nat))) (1 : Nat) (1 : Nat))
                                                                                                                                      ((X none).al H12
                                                                                                                                        (AObj.cells
                                                                                                                                          [AV.int IntKind.i64 n13, AV.int IntKind.i64 n14, AV.int IntKind.i64 n15, AV.int IntKind.i64 n16]
                                                                                                                                          (41 : Nat) { whole := true })) =
                                                                                                                                    some (AV.slice q4 k25 k26, H13) ∧
                                                                                                                                  ∃ (x14 : (Int × (Option (Nat × Nat) × Nat) × Option (Nat × Nat) × Nat) × Int × Int),
                                                                                                                                    ∃ (k27 : Nat),
                                                                                                                                      k27 < k6 ∧
                                                                                                                                        [AV.slice q k k, AV.slice x9.fst.fst.snd.fst.fst x9.fst.fst.snd.fst.snd x9.fst.fst.snd.fst.snd,
                                                                                                                                              AV.slice q4 k25 k26, AV.int IntKind.i64 x9.fst.fst.fst, AV.int IntKind.i64 x9.fst.snd.fst,
                                                                                                                                              AV.int IntKind.i64 x9.snd.snd] =
                                                                                                                                            [AV.slice q k k, AV.slice x14.fst.snd.fst.fst x14.fst.snd.fst.snd x14.fst.snd.fst.snd,
                                                                                                                                              AV.slice x14.fst.snd.snd.fst x14.fst.snd.snd.snd x14.fst.snd.snd.snd,
                                                                                                                                              AV.int IntKind.i64 x14.fst.fst, AV.int IntKind.i64 x14.snd.fst, AV.int IntKind.i64 x14.snd.snd] ∧
                                                                                                                                          x4 x14 H13 k27
                                                                                                    else
                                                                                                      ∃ (n17 : Int),
                                                                                                        ∃ (n18 : Int),
                                                                                                          ∃ (n19 : Int),
                                                                                                            ∃ (n20 : Int),
                                                                                                              (X none).rdn H11 ((X none).n H5) (0 : Nat) (4 : Nat) =
                                                                                                                  some [AV.int IntKind.i64 n17, AV.int IntKind.i64 n18, AV.int IntKind.i64 n19, AV.int IntKind.i64 n20] ∧
                                                                                                                ((4 : Nat) ≤ (16777216 : Nat) ∧ (4 : Nat) = (4 : Nat) ∧ (0 : Nat) < (4 : Nat) ∧ true = true ∧ true = true) ∧
                                                                                                                  ∃ (q5 : Option (Nat × Nat)),
                                                                                                                    ∃ (k28 : Nat),
                                                                                                                      ∃ (k29 : Nat),
                                                                                                                        ∃ (H14 : AH),
                                                                                                                          (X none).app (24 : Nat) (24 : Nat) (AV.slice x9.fst.fst.snd.snd.fst x9.fst.fst.snd.snd.snd x9.fst.fst.snd.snd.snd)
                                                                                                                                (AV.slice (some ((X none).n H11, (0 : Nat))) (1 : Nat) (1 : Nat))
                                                                                                                                ((X none).al H11
                                                                                                                                  (AObj.cells [AV.int IntKind.i64 n17, AV.int IntKind.i64 n18, AV.int IntKind.i64 n19, AV.int IntKind.i64 n20]
                                                                                                                                    (41 : Nat) { whole := true })) =
                                                                                                                              some (AV.slice q5 k28 k29, H14) ∧
                                                                                                                            ∃ (x15 : (Int × (Option (Nat × Nat) × Nat) × Option (Nat × Nat) × Nat) × Int × Int),
                                                                                                                              ∃ (k30 : Nat),
                                                                                                                                k30 < k6 ∧
                                                                                                                                  [AV.slice q k k, AV.slice x9.fst.fst.snd.fst.fst x9.fst.fst.snd.fst.snd x9.fst.fst.snd.fst.snd,
                                                                                                                                        AV.slice q5 k28 k29, AV.int IntKind.i64 x9.fst.fst.fst, AV.int IntKind.i64 x9.fst.snd.fst,
                                                                                                                                        AV.int IntKind.i64 x9.snd.snd] =
                                                                                                                                      [AV.slice q k k, AV.slice x15.fst.snd.fst.fst x15.fst.snd.fst.snd x15.fst.snd.fst.snd,
                                                                                                                                        AV.slice x15.fst.snd.snd.fst x15.fst.snd.snd.snd x15.fst.snd.snd.snd, AV.int IntKind.i64 x15.fst.fst,
                                                                                                                                        AV.int IntKind.i64 x15.snd.fst, AV.int IntKind.i64 x15.snd.snd] ∧
                                                                                                                                    x4 x15 H14 k30
                                                                                            else
                                                                                              ∃ (x16 : (Int × (Option (Nat × Nat) × Nat) × Option (Nat × Nat) × Nat) × Int × Int),
                                                                                                ∃ (k31 : Nat),
                                                                                                  k31 < k6 ∧
                                                                                                    [AV.slice q k k, AV.slice x9.fst.fst.snd.fst.fst x9.fst.fst.snd.fst.snd x9.fst.fst.snd.fst.snd,
                                                                                                          AV.slice x9.fst.fst.snd.snd.fst x9.fst.fst.snd.snd.snd x9.fst.fst.snd.snd.snd, AV.int IntKind.i64 x9.fst.fst.fst,
                                                                                                          AV.int IntKind.i64 x9.fst.snd.fst, AV.int IntKind.i64 x9.snd.snd] =
                                                                                                        [AV.slice q k k, AV.slice x16.fst.snd.fst.fst x16.fst.snd.fst.snd x16.fst.snd.fst.snd,
                                                                                                          AV.slice x16.fst.snd.snd.fst x16.fst.snd.snd.snd x16.fst.snd.snd.snd, AV.int IntKind.i64 x16.fst.fst, AV.int IntKind.i64 x16.snd.fst,
                                                                                                          AV.int IntKind.i64 x16.snd.snd] ∧
                                                                                                      x4 x16 H5 k31
                            else
                              ∃ (q6 : Option (Nat × Nat)),
                                ∃ (k32 : Nat),
                                  ∃ (k33 : Nat),
                                    (X none).slc (24 : Nat) (AV.slice x6.fst.snd.snd.fst x6.fst.snd.snd.snd x6.fst.snd.snd.snd) (some (AV.int IntKind.i64 x6.snd.fst)) none none H3 = some (AV.slice q6 k32 k33) ∧
                                      ∃ (x17 : (Int × (Option (Nat × Nat) × Nat) × Option (Nat × Nat) × Nat) × (Option (Nat × Nat) × Nat × Nat) × Int × Int → AH → Nat → Prop),
                                        (∃ (x18 : (Int × (Option (Nat × Nat) × Nat) × Option (Nat × Nat) × Nat) × (Option (Nat × Nat) × Nat × Nat) × Int × Int),
                                            ∃ (k34 : Nat),
                                              [AV.slice q k k, AV.slice x6.fst.snd.fst.fst x6.fst.snd.fst.snd x6.fst.snd.fst.snd, AV.slice x6.fst.snd.snd.fst x6.fst.snd.snd.snd x6.fst.snd.snd.snd, AV.int IntKind.i64 x6.fst.fst,
                                                    AV.slice q6 k32 k33, AV.int IntKind.i64 (↑k32 : Int), AV.int IntKind.i64 (0 : Int)] =
                                                  [AV.slice q k k, AV.slice x18.fst.snd.fst.fst x18.fst.snd.fst.snd x18.fst.snd.fst.snd, AV.slice x18.fst.snd.snd.fst x18.fst.snd.snd.snd x18.fst.snd.snd.snd, AV.int IntKind.i64 x18.fst.fst,
                                                    AV.slice x18.snd.fst.fst x18.snd.fst.snd.fst x18.snd.fst.snd.snd, AV.int IntKind.i64 x18.snd.snd.fst, AV.int IntKind.i64 x18.snd.snd.snd] ∧
                                                x17 x18 H3 k34) ∧
                                          ∀ (x19 : (Int × (Option (Nat × Nat) × Nat) × Option (Nat × Nat) × Nat) × (Option (Nat × Nat) × Nat × Nat) × Int × Int) (H15 : AH) (k35 : Nat),
                                            x17 x19 H15 k35 →
                                              bif decide (x19.snd.snd.snd < x19.snd.snd.fst) then
                                                ∃ (k36 : Nat),
                                                  ∃ (k37 : Nat),
                                                    (x19.snd.fst.fst = some (k36, k37) ∧ (0 : Int) ≤ x19.snd.snd.snd ∧ x19.snd.snd.snd < (↑x19.snd.fst.snd.fst : Int)) ∧
                                                      ∃ (n21 : Int),
                                                        ∃ (n22 : Int),
                                                          ∃ (n23 : Int),
                                                            ∃ (n24 : Int),
                                                              (X none).rdn H15 k36 (k37 + x19.snd.snd.snd.toNat * (4 : Nat)) (4 : Nat) = some [AV.int IntKind.i64 n21, AV.int IntKind.i64 n22, AV.int IntKind.i64 n23, AV.int IntKind.i64 n24] ∧
                                                                [AV.int IntKind.i64 n21, AV.int IntKind.i64 n22, AV.int IntKind.i64 n23, AV.int IntKind.i64 n24].length = (4 : Nat) ∧
                                                                  ∃ (H16 : AH),
                                                                    (X none).wr
                                                                          ((X none).al H15
                                                                            (AObj.cells [AV.int IntKind.i64 (0 : Int), AV.int IntKind.i64 (0 : Int), AV.int IntKind.i64 (0 : Int), AV.int IntKind.i64 (0 : Int)] (41 : Nat) { whole := true }))
                                                                          ((X none).n H15) (0 : Nat) [AV.int IntKind.i64 n21, AV.int IntKind.i64 n22, AV.int IntKind.i64 n23, AV.int IntKind.i64 n24] =
                                                                        some H16 ∧
                                                                      ∃ (n25 : Int),
                                                                        (X none).rd1 H16 ((X none).n H15) (0 : Nat) = some (AV.int IntKind.i64 n25) ∧
                                                                          ∃ (n26 : Int),
                                                                            (X none).rd1 H16 ((X none).n H15) (1 : Nat) = some (AV.int IntKind.i64 n26) ∧
                                                                              ∃ (k38 : Nat),
                                                                                ∃ (k39 : Nat),
                                                                                  (x19.fst.snd.fst.fst = some (k38, k39) ∧ (0 : Int) ≤ n25 ∧ n25 < (↑x19.fst.snd.fst.snd : Int)) ∧
                                                                                    (1 : Nat) = (1 : Nat) ∧
                                                                                      ∃ (H17 : AH),
                                                                                        (X none).wr H16 k38 (k39 + n25.toNat * (1 : Nat)) [AV.bool true] = some H17 ∧
                                                                                          (∃ (n27 : Int), (X none).rd1 H17 ((X none).n H15) (1 : Nat) = some (AV.int IntKind.i64 n27) ∧ AV.int IntKind.i64 n27 = AV.int IntKind.i64 n26) ∧
                                                                                            ∃ (k40 : Nat),
                                                                                              ∃ (k41 : Nat),
                                                                                                (x19.fst.snd.fst.fst = some (k40, k41) ∧ (0 : Int) ≤ n26 ∧ n26 < (↑x19.fst.snd.fst.snd : Int)) ∧
                                                                                                  (1 : Nat) = (1 : Nat) ∧
                                                                                                    ∃ (H18 : AH),
                                                                                                      (X none).wr H17 k40 (k41 + n26.toNat * (1 : Nat)) [AV.bool true] = some H18 ∧
                                                                                                        ∃ (x20 : (Int × (Option (Nat × Nat) × Nat) × Option (Nat × Nat) × Nat) × (Option (Nat × Nat) × Nat × Nat) × Int × Int),
                                                                                                          ∃ (k42 : Nat),
                                                                                                            k42 < k35 ∧
                                                                                                              [AV.slice q k k, AV.slice x19.fst.snd.fst.fst x19.fst.snd.fst.snd x19.fst.snd.fst.snd,
                                                                                                                    AV.slice x19.fst.snd.snd.fst x19.fst.snd.snd.snd x19.fst.snd.snd.snd, AV.int IntKind.i64 x19.fst.fst,
                                                                                                                    AV.slice x19.snd.fst.fst x19.snd.fst.snd.fst x19.snd.fst.snd.snd, AV.int IntKind.i64 x19.snd.snd.fst,
                                                                                                                    AV.int IntKind.i64 ((X none).wrap IntKind.i64 (x19.snd.snd.snd + (1 : Int)))] =
                                                                                                                  [AV.slice q k k, AV.slice x20.fst.snd.fst.fst x20.fst.snd.fst.snd x20.fst.snd.fst.snd,
                                                                                                                    AV.slice x20.fst.snd.snd.fst x20.fst.snd.snd.snd x20.fst.snd.snd.snd, AV.int IntKind.i64 x20.fst.fst,
                                                                                                                    AV.slice x20.snd.fst.fst x20.snd.fst.snd.fst x20.snd.fst.snd.snd, AV.int IntKind.i64 x20.snd.snd.fst,
                                                                                                                    AV.int IntKind.i64 x20.snd.snd.snd] ∧
                                                                                                                x17 x20 H18 k42
                                              else
                                                ∃ (x21 : Int × (Option (Nat × Nat) × Nat) × Option (Nat × Nat) × Nat),
                                                  ∃ (k43 : Nat),
                                                    k43 < k4 ∧
                                                      [AV.slice q k k, AV.slice x19.fst.snd.fst.fst x19.fst.snd.fst.snd x19.fst.snd.fst.snd, AV.slice x19.fst.snd.snd.fst x19.fst.snd.snd.snd x19.fst.snd.snd.snd,
                                                            AV.int IntKind.i64 ((X none).wrap IntKind.i64 (x19.fst.fst + (1 : Int)))] =
                                                          [AV.slice q k k, AV.slice x21.snd.fst.fst x21.snd.fst.snd x21.snd.fst.snd, AV.slice x21.snd.snd.fst x21.snd.snd.snd x21.snd.snd.snd, AV.int IntKind.i64 x21.fst] ∧
                                                        x1 x21 H15 k43
                  else (X none).call (99 : Nat) [AV.slice x3.snd.snd.fst x3.snd.snd.snd x3.snd.snd.snd, AV.func (Fn.func (111 : Nat)) [] []] H2 fun (_v3 : AV) (H19 : AH) => Q (AV.slice x3.snd.snd.fst x3.snd.snd.snd x3.snd.snd.snd) H19) := by kernel_rfl

theorem signs1_vc (X : Atoms) (b p : Nat) (H : AH) (Q : AV → AH → Prop) (I : Unit → AH → Nat → Prop) : (vcF X Tryd.prog [⟨1, Unit, [0, 1, 7], fun _ => [.yld b, .ptr (some (p, 0)), .ptr (some (X.n H, 0))], I⟩] 77 [.yld b, .ptr (some (p, 0))] H Q) =
  (∃ (s1 : List UInt8),
  X.rd1 H p (0 : Nat) = some (AV.str s1) ∧
    (∃ (x1 : PUnit), ∃ (k1 : Nat), [AV.yld b, AV.ptr (some (p, (0 : Nat))), AV.ptr (some (X.n H, (0 : Nat)))] = [AV.yld b, AV.ptr (some (p, (0 : Nat))), AV.ptr (some (X.n H, (0 : Nat)))] ∧ I x1 (X.al H (AObj.iter s1 (0 : Nat))) k1) ∧
      ∀ (x2 : PUnit) (H1 : AH) (k2 : Nat),
        I x2 H1 k2 →
          ∃ (s2 : List UInt8),
            ∃ (k3 : Nat),
              X.get H1 (X.n H) = some (AObj.iter s2 k3) ∧
                (k3 < s2.length →
                    bif (↑(decodeL s2 k3).fst : Int) != (65533 : Int) then
                      X.call (78 : Nat) [AV.int IntKind.i32 (↑(decodeL s2 k3).fst : Int)] (X.set H1 (X.n H) (AObj.iter s2 (k3 + (decodeL s2 k3).snd))) fun (v1 : AV) (H2 : AH) =>
                        ∃ (n1 : Int),
                          v1 = AV.int IntKind.i64 n1 ∧
                            X.yld b [AV.agg [AV.int IntKind.i64 (↑k3 : Int), AV.int IntKind.i64 n1, AV.int IntKind.i32 (↑(decodeL s2 k3).fst : Int), AV.bool ((↑(decodeL s2 k3).fst : Int) == (65533 : Int) && n1 == (1 : Int))]] H2
                              fun (v2 : AV) (H3 : AH) =>
                              ∃ (b1 : Bool),
                                v2 = AV.bool b1 ∧
                                  bif !b1 then Q (AV.tuple []) H3
                                  else
                                    ∃ (x3 : PUnit), ∃ (k4 : Nat), k4 < k2 ∧ [AV.yld b, AV.ptr (some (p, (0 : Nat))), AV.ptr (some (X.n H, (0 : Nat)))] = [AV.yld b, AV.ptr (some (p, (0 : Nat))), AV.ptr (some (X.n H, (0 : Nat)))] ∧ I x3 H3 k4
                    else
                      ∃ (s3 : List UInt8),
                        X.rd1 (X.set H1 (X.n H) (AObj.iter s2 (k3 + (decodeL s2 k3).snd))) p (0 : Nat) = some (AV.str s3) ∧
                          ((0 : Int) ≤ (↑k3 : Int) ∧ (↑k3 : Int) ≤ (↑s3.length : Int) ∧ (↑s3.length : Int) ≤ (↑s3.length : Int)) ∧
                            X.call (27 : Nat) [AV.str (List.take ((↑s3.length : Int) - (↑k3 : Int)).toNat (List.drop (↑k3 : Int).toNat s3)), AV.str [(239 : UInt8), (191 : UInt8), (189 : UInt8)]]
                              (X.set H1 (X.n H) (AObj.iter s2 (k3 + (decodeL s2 k3).snd))) fun (v3 : AV) (H4 : AH) =>
                              ∃ (b2 : Bool),
                                v3 = AV.bool b2 ∧
                                  bif b2 then
                                    X.yld b [AV.agg [AV.int IntKind.i64 (↑k3 : Int), AV.int IntKind.i64 (3 : Int), AV.int IntKind.i32 (↑(decodeL s2 k3).fst : Int), AV.bool ((↑(decodeL s2 k3).fst : Int) == (65533 : Int) && false)]] H4
                                      fun (v4 : AV) (H5 : AH) =>
                                      ∃ (b3 : Bool),
                                        v4 = AV.bool b3 ∧
                                          bif !b3 then Q (AV.tuple []) H5
                                          else
                                            ∃ (x4 : PUnit),
                                              ∃ (k5 : Nat), k5 < k2 ∧ [AV.yld b, AV.ptr (some (p, (0 : Nat))), AV.ptr (some (X.n H, (0 : Nat)))] = [AV.yld b, AV.ptr (some (p, (0 : Nat))), AV.ptr (some (X.n H, (0 : Nat)))] ∧ I x4 H5 k5
                                  else
                                    X.yld b [AV.agg [AV.int IntKind.i64 (↑k3 : Int), AV.int IntKind.i64 (1 : Int), AV.int IntKind.i32 (↑(decodeL s2 k3).fst : Int), AV.bool ((↑(decodeL s2 k3).fst : Int) == (65533 : Int) && true)]] H4
                                      fun (v5 : AV) (H6 : AH) =>
                                      ∃ (b4 : Bool),
                                        v5 = AV.bool b4 ∧
                                          bif !b4 then Q (AV.tuple []) H6
                                          else
                                            ∃ (x5 : PUnit),
                                              ∃ (k6 : Nat), k6 < k2 ∧ [AV.yld b, AV.ptr (some (p, (0 : Nat))), AV.ptr (some (X.n H, (0 : Nat)))] = [AV.yld b, AV.ptr (some (p, (0 : Nat))), AV.ptr (some (X.n H, (0 : Nat)))] ∧ I x5 H6 k6) ∧
                  (¬k3 < s2.length → Q (AV.tuple []) H1)) := by kernel_rfl

theorem voice_vc (X : Atoms) (p : Nat) (H : AH) (Q : AV → AH → Prop) (I : List UInt8 × Nat × List UInt8 × Int → AH → Nat → Prop) : (vcF X Tryd.prog [⟨7, List UInt8 × Nat × List UInt8 × Int, [0, 3, 5, 6, 7], fun x => [.ptr (some (p, 0)), .str x.2.2.1, .int .i64 x.2.2.2, .ptr (some (x.2.1, 0)), .str x.1], I⟩] 22 [.ptr (some (p, 0))] H Q) =
  (∃ (s1 : List UInt8),
  X.rd1 H p (1 : Nat) = some (AV.str s1) ∧
    X.call (43 : Nat) [AV.str s1, AV.str [(60 : UInt8), (118 : UInt8), (32 : UInt8)]] H fun (v1 : AV) (H1 : AH) =>
      ∃ (s2 : List UInt8),
        ∃ (b1 : Bool),
          v1 = AV.tuple [AV.str s2, AV.bool b1] ∧
            X.call (44 : Nat) [AV.str s2, AV.int IntKind.u8 (62 : Int)] H1 fun (v2 : AV) (H2 : AH) =>
              ∃ (n1 : Int),
                v2 = AV.int IntKind.i64 n1 ∧
                  bif (!b1 || decide (n1 < (0 : Int))) == false then
                    X.call (45 : Nat) [AV.ptr (some (p, (0 : Nat))), AV.int IntKind.i64 (X.wrap IntKind.i64 (X.wrap IntKind.i64 ((3 : Int) + n1) + (1 : Int)))] H2 fun (v3 : AV) (H3 : AH) =>
                      ∃ (b2 : Bool),
                        v3 = AV.bool b2 ∧
                          bif !b2 then Q (AV.int IntKind.i64 (0 : Int)) H3
                          else
                            ((0 : Int) ≤ (0 : Int) ∧ (0 : Int) ≤ n1 ∧ n1 ≤ (↑s2.length : Int)) ∧
                              (∃ (x1 : List UInt8 × Nat × List UInt8 × Int),
                                  ∃ (k1 : Nat),
                                    [AV.ptr (some (p, (0 : Nat))), AV.str s2, AV.int IntKind.i64 n1, AV.ptr (some (X.n H3, (0 : Nat))), AV.str (List.take (n1 - (0 : Int)).toNat s2)] =
                                        [AV.ptr (some (p, (0 : Nat))), AV.str x1.snd.snd.fst, AV.int IntKind.i64 x1.snd.snd.snd, AV.ptr (some (x1.snd.fst, (0 : Nat))), AV.str x1.fst] ∧
                                      I x1 (X.al H3 (AObj.cells [AV.ptr none, AV.slice none (0 : Nat) (0 : Nat)] (90 : Nat) { whole := true })) k1) ∧
                                ∀ (x2 : List UInt8 × Nat × List UInt8 × Int) (H4 : AH) (k2 : Nat),
                                  I x2 H4 k2 →
                                    bif !x2.fst == [] then
                                      X.call (24 : Nat) [AV.str x2.fst] H4 fun (v4 : AV) (H5 : AH) =>
                                        ∃ (s3 : List UInt8),
                                          ∃ (n2 : Int),
                                            v4 = AV.tuple [AV.str s3, AV.int IntKind.i64 n2] ∧
                                              bif decide (n2 > (0 : Int)) then
                                                X.call (46 : Nat) [AV.ptr (some (x2.snd.fst, (0 : Nat))), AV.str s3] H5 fun (v5 : AV) (H6 : AH) =>
                                                  ∃ (n3 : Int),
                                                    ∃ (v6 : AV),
                                                      v5 = AV.tuple [AV.int IntKind.i64 n3, v6] ∧
                                                        ((0 : Int) ≤ n2 ∧ n2 ≤ (↑x2.fst.length : Int) ∧ (↑x2.fst.length : Int) ≤ (↑x2.fst.length : Int)) ∧
                                                          ∃ (x3 : List UInt8 × Nat × List UInt8 × Int),
                                                            ∃ (k3 : Nat),
                                                              k3 < k2 ∧
                                                                [AV.ptr (some (p, (0 : Nat))), AV.str x2.snd.snd.fst, AV.int IntKind.i64 x2.snd.snd.snd, AV.ptr (some (x2.snd.fst, (0 : Nat))),
                                                                      AV.str (List.take ((↑x2.fst.length : Int) - n2).toNat (List.drop n2.toNat x2.fst))] =
                                                                    [AV.ptr (some (p, (0 : Nat))), AV.str x3.snd.snd.fst, AV.int IntKind.i64 x3.snd.snd.snd, AV.ptr (some (x3.snd.fst, (0 : Nat))), AV.str x3.fst] ∧
                                                                  I x3 H6 k3
                                              else
                                                ((0 : Int) ≤ (0 : Int) ∧ (0 : Int) < (↑x2.fst.length : Int)) ∧
                                                  X.call (47 : Nat) [AV.ptr (some (x2.snd.fst, (0 : Nat))), AV.int IntKind.u8 (↑(x2.fst[(0 : Nat)]?.getD (0 : UInt8)).toNat : Int)] H5 fun (v7 : AV) (H7 : AH) =>
                                                    ∃ (v8 : AV),
                                                      v7 = v8 ∧
                                                        ((0 : Int) ≤ (1 : Int) ∧ (1 : Int) ≤ (↑x2.fst.length : Int) ∧ (↑x2.fst.length : Int) ≤ (↑x2.fst.length : Int)) ∧
                                                          ∃ (x4 : List UInt8 × Nat × List UInt8 × Int),
                                                            ∃ (k4 : Nat),
                                                              k4 < k2 ∧
                                                                [AV.ptr (some (p, (0 : Nat))), AV.str x2.snd.snd.fst, AV.int IntKind.i64 x2.snd.snd.snd, AV.ptr (some (x2.snd.fst, (0 : Nat))),
                                                                      AV.str (List.take ((↑x2.fst.length : Int) - (1 : Int)).toNat (List.drop (1 : Nat) x2.fst))] =
                                                                    [AV.ptr (some (p, (0 : Nat))), AV.str x4.snd.snd.fst, AV.int IntKind.i64 x4.snd.snd.snd, AV.ptr (some (x4.snd.fst, (0 : Nat))), AV.str x4.fst] ∧
                                                                  I x4 H7 k4
                                    else
                                      X.call (48 : Nat) [AV.ptr (some (x2.snd.fst, (0 : Nat)))] H4 fun (v9 : AV) (H8 : AH) =>
                                        ∃ (n4 : Int),
                                          v9 = AV.int IntKind.i64 n4 ∧
                                            bif (n4 == (0 : Int)) == false then
                                              X.call (49 : Nat) [AV.ptr (some (x2.snd.fst, (0 : Nat)))] H8 fun (v10 : AV) (H9 : AH) =>
                                                ∃ (s4 : List UInt8),
                                                  v10 = AV.str s4 ∧
                                                    X.call (33 : Nat) [AV.str s4] H9 fun (v11 : AV) (H10 : AH) =>
                                                      ∃ (b3 : Bool),
                                                        v11 = AV.bool b3 ∧
                                                          bif !b3 then Q (AV.int IntKind.i64 (0 : Int)) H10
                                                          else
                                                            X.call (49 : Nat) [AV.ptr (some (x2.snd.fst, (0 : Nat)))] H10 fun (v12 : AV) (H11 : AH) =>
                                                              ∃ (s5 : List UInt8),
                                                                v12 = AV.str s5 ∧
                                                                  [AV.str s5].length = (1 : Nat) ∧
                                                                    ∃ (H12 : AH), X.wr H11 p (17 : Nat) [AV.str s5] = some H12 ∧ Q (AV.int IntKind.i64 (X.wrap IntKind.i64 (X.wrap IntKind.i64 ((3 : Int) + x2.snd.snd.snd) + (1 : Int)))) H12
                                            else Q (AV.int IntKind.i64 (0 : Int)) H8
                  else Q (AV.int IntKind.i64 (0 : Int)) H2) := by kernel_rfl

theorem law_vc (X : Atoms) (d : Int) (s : List UInt8) (H : AH) (Q : AV → AH → Prop) (I : Int → AH → Nat → Prop) : (vcF X Tryd.prog [⟨6, Int, [0, 1, 5], fun i => [.int .i64 d, .str s, .int .i64 i], I⟩] 4 [.int .i64 d, .str s] H Q) =
  (X.call (10 : Nat) [] H fun (v1 : AV) (H1 : AH) =>
  ∃ (b1 : Bool),
    v1 = AV.bool b1 ∧
      bif !b1 then Q (AV.bool false) H1
      else
        X.call (11 : Nat) [AV.int IntKind.i64 d] H1 fun (v2 : AV) (H2 : AH) =>
          ∃ (b2 : Bool),
            v2 = AV.bool b2 ∧
              bif !b2 || decide ((↑s.length : Int) > (4096 : Int)) then Q (AV.bool true) H2
              else
                (∃ (n1 : Int), ∃ (k1 : Nat), [AV.int IntKind.i64 d, AV.str s, AV.int IntKind.i64 (0 : Int)] = [AV.int IntKind.i64 d, AV.str s, AV.int IntKind.i64 n1] ∧ I n1 H2 k1) ∧
                  ∀ (n2 : Int) (H3 : AH) (k2 : Nat),
                    I n2 H3 k2 →
                      bif decide (n2 < (↑s.length : Int)) then
                        ((0 : Int) ≤ n2 ∧ n2 < (↑s.length : Int)) ∧
                          ((((↑(s[n2.toNat]?.getD (0 : UInt8)).toNat : Int) == (60 : Int)) == false) = true → (0 : Int) ≤ n2 ∧ n2 < (↑s.length : Int)) ∧
                            ((((↑(s[n2.toNat]?.getD (0 : UInt8)).toNat : Int) == (60 : Int) || (↑(s[n2.toNat]?.getD (0 : UInt8)).toNat : Int) == (38 : Int)) == false) = true → (0 : Int) ≤ n2 ∧ n2 < (↑s.length : Int)) ∧
                              ((((↑(s[n2.toNat]?.getD (0 : UInt8)).toNat : Int) == (60 : Int) || (↑(s[n2.toNat]?.getD (0 : UInt8)).toNat : Int) == (38 : Int) || (↑(s[n2.toNat]?.getD (0 : UInt8)).toNat : Int) == (124 : Int)) == false) =
                                    true →
                                  (0 : Int) ≤ n2 ∧ n2 < (↑s.length : Int)) ∧
                                ((((↑(s[n2.toNat]?.getD (0 : UInt8)).toNat : Int) == (60 : Int) || (↑(s[n2.toNat]?.getD (0 : UInt8)).toNat : Int) == (38 : Int) || (↑(s[n2.toNat]?.getD (0 : UInt8)).toNat : Int) == (124 : Int) ||
                                          (↑(s[n2.toNat]?.getD (0 : UInt8)).toNat : Int) == (123 : Int)) ==
                                        false) =
                                      true →
                                    (0 : Int) ≤ n2 ∧ n2 < (↑s.length : Int)) ∧
                                  bif
                                      (↑(s[n2.toNat]?.getD (0 : UInt8)).toNat : Int) == (60 : Int) || (↑(s[n2.toNat]?.getD (0 : UInt8)).toNat : Int) == (38 : Int) || (↑(s[n2.toNat]?.getD (0 : UInt8)).toNat : Int) == (124 : Int) ||
                                          (↑(s[n2.toNat]?.getD (0 : UInt8)).toNat : Int) == (123 : Int) ||
                                        (↑(s[n2.toNat]?.getD (0 : UInt8)).toNat : Int) == (92 : Int) then
                                    Q (AV.bool true) H3
                                  else ∃ (n3 : Int), ∃ (k3 : Nat), k3 < k2 ∧ [AV.int IntKind.i64 d, AV.str s, AV.int IntKind.i64 (X.wrap IntKind.i64 (n2 + (1 : Int)))] = [AV.int IntKind.i64 d, AV.str s, AV.int IntKind.i64 n3] ∧ I n3 H3 k3
                      else
                        X.call (12 : Nat) [AV.int IntKind.i64 d, AV.str s] H3 fun (v3 : AV) (H4 : AH) =>
                          ∃ (s1 : List UInt8),
                            ∃ (q1 : Option (Nat × Nat)),
                              ∃ (k4 : Nat),
                                ∃ (k5 : Nat),
                                  ∃ (s2 : List UInt8),
                                    ∃ (n4 : Int),
                                      ∃ (n5 : Int),
                                        v3 = AV.tuple [AV.agg [AV.str s1, AV.slice q1 k4 k5, AV.str s2, AV.int IntKind.i64 n4], AV.int IntKind.i64 n5] ∧
                                          [AV.str s1, AV.slice q1 k4 k5, AV.str s2, AV.int IntKind.i64 n4].length = (4 : Nat) ∧
                                            ∃ (H5 : AH),
                                              X.wr (X.al H4 (AObj.cells [AV.str [], AV.slice none (0 : Nat) (0 : Nat), AV.str [], AV.int IntKind.i64 (0 : Int)] (28 : Nat) { whole := true })) (X.n H4) (0 : Nat)
                                                    [AV.str s1, AV.slice q1 k4 k5, AV.str s2, AV.int IntKind.i64 n4] =
                                                  some H5 ∧
                                                ∃ (s3 : List UInt8),
                                                  X.rd1 H5 (X.n H4) (0 : Nat) = some (AV.str s3) ∧
                                                    ∃ (q2 : Option (Nat × Nat)),
                                                      ∃ (k6 : Nat),
                                                        ∃ (k7 : Nat),
                                                          X.rd1 H5 (X.n H4) (1 : Nat) = some (AV.slice q2 k6 k7) ∧
                                                            ∃ (s4 : List UInt8),
                                                              X.rd1 H5 (X.n H4) (2 : Nat) = some (AV.str s4) ∧
                                                                ∃ (n6 : Int),
                                                                  X.rd1 H5 (X.n H4) (3 : Nat) = some (AV.int IntKind.i64 n6) ∧ Q (AV.bool (n5 == (0 : Int) && s3 == s && (↑k6 : Int) == (0 : Int) && s4 == [] && n6 == (0 : Int))) H5) := by kernel_rfl

end Go.Proofs.YtlkdhhkncoekgaaDoor

/- What the functions of MarkNames ask, by program. -/
import Derived.Test.YtlkdhhkncoekgaaDoorAmY
import Derived.Test.YtlkdhhkncoekgaaDoorTabs
namespace Go.Proofs.YtlkdhhkncoekgaaDoor
open Go.Am Go

theorem low_vc (X : Atoms) (c : Int) (H : AH) (Q : AV → AH → Prop) : (vcF X Tryd.prog [] 60 [.int .i32 c] H Q) =
  (Q (AV.bool (decide (c < (32 : Int)))) H) := by kernel_rfl

theorem indexFunc_vc (X : Atoms) (s : List UInt8) (H : AH) (Q : AV → AH → Prop) (I : Nat → AH → Nat → Prop) : (vcF X Tryd.prog [⟨2, Nat, [1, 2, 10], fun _ => [.func (.func 60) [] [], .bool true, .ptr (some (X.n H, 0))], I⟩] 82 [.str s, .func (.func 60) [] [], .bool true] H Q) =
  ((∃ (k1 : Nat),
    ∃ (k2 : Nat),
      [AV.func (Fn.func (60 : FuncId)) [] [], AV.bool true, AV.ptr (some (X.n H, (0 : Nat)))] = [AV.func (Fn.func (60 : FuncId)) [] [], AV.bool true, AV.ptr (some (X.n H, (0 : Nat)))] ∧ I k1 (X.al H (AObj.iter s (0 : Nat))) k2) ∧
  ∀ (k3 : Nat) (H1 : AH) (k4 : Nat),
    I k3 H1 k4 →
      ∃ (s1 : List UInt8),
        ∃ (k5 : Nat),
          X.get H1 (X.n H) = some (AObj.iter s1 k5) ∧
            (k5 < s1.length →
                X.call (60 : FuncId) [AV.int IntKind.i32 (↑(decodeL s1 k5).fst : Int)] (X.set H1 (X.n H) (AObj.iter s1 (k5 + (decodeL s1 k5).snd))) fun (v1 : AV) (H2 : AH) =>
                  ∃ (b1 : Bool),
                    v1 = AV.bool b1 ∧
                      bif b1 == true then Q (AV.int IntKind.i64 (↑k5 : Int)) H2
                      else
                        ∃ (k6 : Nat),
                          ∃ (k7 : Nat),
                            k7 < k4 ∧ [AV.func (Fn.func (60 : FuncId)) [] [], AV.bool true, AV.ptr (some (X.n H, (0 : Nat)))] = [AV.func (Fn.func (60 : FuncId)) [] [], AV.bool true, AV.ptr (some (X.n H, (0 : Nat)))] ∧ I k6 H2 k7) ∧
              (¬k5 < s1.length → Q (AV.int IntKind.i64 (-1 : Int)) H1)) := by kernel_rfl

theorem IndexFunc_vc (X : Atoms) (s : List UInt8) (H : AH) (Q : AV → AH → Prop) : (vcF X Tryd.prog [] 59 [.str s, .func (.func 60) [] []] H Q) =
  (X.call (82 : Nat) [AV.str s, AV.func (Fn.func (60 : FuncId)) [] [], AV.bool true] H fun (v1 : AV) (H1 : AH) => ∃ (n1 : Int), v1 = AV.int IntKind.i64 n1 ∧ Q (AV.int IntKind.i64 n1) H1) := by kernel_rfl

theorem isName_vc (X : Atoms) (s : List UInt8) (H : AH) (Q : AV → AH → Prop) : (vcF X Tryd.prog [] 33 [.str s] H Q) =
  (bif decide ((↑s.length : Int) > (64 : Int)) then Q (AV.bool false) H
else X.call (59 : Nat) [AV.str s, AV.func (Fn.func (60 : Nat)) [] []] H fun (v1 : AV) (H1 : AH) => ∃ (n1 : Int), v1 = AV.int IntKind.i64 n1 ∧ Q (AV.bool (decide (n1 < (0 : Int)))) H1) := by kernel_rfl

theorem sIndex_vc (X : Atoms) (s : List UInt8) (H : AH) (Q : AV → AH → Prop) : (vcF X Tryd.prog [] 83 [.str s, .str [44]] H Q) =
  (bif false || [(44 : UInt8)] == s then Q (AV.int IntKind.i64 (0 : Int)) H
else ((0 : Int) ≤ (0 : Int) ∧ (0 : Int) < (1 : Int)) ∧ X.call (73 : Nat) [AV.str s, AV.int IntKind.u8 (44 : Int)] H fun (v1 : AV) (H1 : AH) => ∃ (n1 : Int), v1 = AV.int IntKind.i64 n1 ∧ Q (AV.int IntKind.i64 n1) H1) := by kernel_rfl

theorem IndexByte_vc (X : Atoms) (s : List UInt8) (c : Int) (H : AH) (Q : AV → AH → Prop) : (vcF X Tryd.prog [] 73 [.str s, .int .u8 c] H Q) =
  (X.call (89 : Nat) [AV.str s, AV.int IntKind.u8 c] H fun (v1 : AV) (H1 : AH) => ∃ (n1 : Int), v1 = AV.int IntKind.i64 n1 ∧ Q (AV.int IntKind.i64 n1) H1) := by kernel_rfl

theorem Index_vc (X : Atoms) (s t : List UInt8) (H : AH) (Q : AV → AH → Prop) : (vcF X Tryd.prog [] 61 [.str s, .str t] H Q) =
  (X.call (83 : Nat) [AV.str s, AV.str t] H fun (v1 : AV) (H1 : AH) => ∃ (n1 : Int), v1 = AV.int IntKind.i64 n1 ∧ Q (AV.int IntKind.i64 n1) H1) := by kernel_rfl

theorem Contains_vc (X : Atoms) (s t : List UInt8) (H : AH) (Q : AV → AH → Prop) : (vcF X Tryd.prog [] 34 [.str s, .str t] H Q) =
  (X.call (61 : Nat) [AV.str s, AV.str t] H fun (v1 : AV) (H1 : AH) => ∃ (n1 : Int), v1 = AV.int IntKind.i64 n1 ∧ Q (AV.bool (decide (n1 ≥ (0 : Int)))) H1) := by kernel_rfl

theorem Name_vc (X : Atoms) (d : Int) (s : List UInt8) (H : AH) (Q : AV → AH → Prop) : (vcF X Tryd.prog [] 18 [.int .i64 d, .str s] H Q) =
  (bif decide (d < (1 : Int)) || decide (d > (4 : Int)) then Q (AV.tuple [AV.str [], AV.bool false, AV.int IntKind.i64 (5 : Int)]) H
else
  X.call (33 : Nat) [AV.str s] H fun (v1 : AV) (H1 : AH) =>
    ∃ (b1 : Bool),
      v1 = AV.bool b1 ∧
        bif !b1 then Q (AV.tuple [AV.str [], AV.bool false, AV.int IntKind.i64 (25 : Int)]) H1
        else
          bif s == [] then bif s == [] then Q (AV.tuple [AV.str s, AV.bool false, AV.int IntKind.i64 (0 : Int)]) H1 else Q (AV.tuple [AV.str [], AV.bool true, AV.int IntKind.i64 (0 : Int)]) H1
          else
            bif d == (2 : Int) then bif d == (2 : Int) then Q (AV.tuple [AV.str s, AV.bool false, AV.int IntKind.i64 (0 : Int)]) H1 else Q (AV.tuple [AV.str [], AV.bool true, AV.int IntKind.i64 (0 : Int)]) H1
            else
              bif (d == (4 : Int)) == true then
                X.call (34 : Nat) [AV.str s, AV.str [(44 : UInt8)]] H1 fun (v2 : AV) (H2 : AH) =>
                  ∃ (b2 : Bool), v2 = AV.bool b2 ∧ bif true && !b2 then Q (AV.tuple [AV.str s, AV.bool false, AV.int IntKind.i64 (0 : Int)]) H2 else Q (AV.tuple [AV.str [], AV.bool true, AV.int IntKind.i64 (0 : Int)]) H2
              else (false = true → False) ∧ (false = false → Q (AV.tuple [AV.str [], AV.bool true, AV.int IntKind.i64 (0 : Int)]) H1)) := by kernel_rfl

theorem refIsName_vc (X : Atoms) (s : List UInt8) (H : AH) (Q : AV → AH → Prop) (I : Int → AH → Nat → Prop) : (vcF X Tryd.prog [⟨2, Int, [0, 3], fun i => [.str s, .int .i64 i], I⟩] 35 [.str s] H Q) =
  ((∃ (n1 : Int), ∃ (k1 : Nat), [AV.str s, AV.int IntKind.i64 (0 : Int)] = [AV.str s, AV.int IntKind.i64 n1] ∧ I n1 H k1) ∧
  ∀ (n2 : Int) (H1 : AH) (k2 : Nat),
    I n2 H1 k2 →
      bif decide (n2 < (↑s.length : Int)) then
        ((0 : Int) ≤ n2 ∧ n2 < (↑s.length : Int)) ∧
          bif decide ((↑(s[n2.toNat]?.getD (0 : UInt8)).toNat : Int) < (32 : Int)) then Q (AV.bool false) H1
          else ∃ (n3 : Int), ∃ (k3 : Nat), k3 < k2 ∧ [AV.str s, AV.int IntKind.i64 (X.wrap IntKind.i64 (n2 + (1 : Int)))] = [AV.str s, AV.int IntKind.i64 n3] ∧ I n3 H1 k3
      else Q (AV.bool (decide ((↑s.length : Int) ≤ (64 : Int)))) H1) := by kernel_rfl

theorem refName_vc (X : Atoms) (d : Int) (s : List UInt8) (H : AH) (Q : AV → AH → Prop) (I : Int × Bool → AH → Nat → Prop) : (vcF X Tryd.prog [⟨9, Int × Bool, [1, 7, 8], fun x => [.str s, .bool x.2, .int .i64 x.1], I⟩] 19 [.int .i64 d, .str s] H Q) =
  (bif decide (d < (1 : Int)) || decide (d > (4 : Int)) then Q (AV.tuple [AV.str [], AV.bool false, AV.int IntKind.i64 (5 : Int)]) H
else
  X.call (35 : Nat) [AV.str s] H fun (v1 : AV) (H1 : AH) =>
    ∃ (b1 : Bool),
      v1 = AV.bool b1 ∧
        bif !b1 then Q (AV.tuple [AV.str [], AV.bool false, AV.int IntKind.i64 (25 : Int)]) H1
        else
          bif d == (4 : Int) then
            (∃ (x1 : Int × Bool), ∃ (k1 : Nat), [AV.str s, AV.bool true, AV.int IntKind.i64 (0 : Int)] = [AV.str s, AV.bool x1.snd, AV.int IntKind.i64 x1.fst] ∧ I x1 H1 k1) ∧
              ∀ (x2 : Int × Bool) (H2 : AH) (k2 : Nat),
                I x2 H2 k2 →
                  bif decide (x2.fst < (↑s.length : Int)) then
                    ((x2.snd == true) = true → (0 : Int) ≤ x2.fst ∧ x2.fst < (↑s.length : Int)) ∧
                      ∃ (x3 : Int × Bool),
                        ∃ (k3 : Nat),
                          k3 < k2 ∧
                            [AV.str s, AV.bool (x2.snd && (↑(s[x2.fst.toNat]?.getD (0 : UInt8)).toNat : Int) != (44 : Int)), AV.int IntKind.i64 (X.wrap IntKind.i64 (x2.fst + (1 : Int)))] =
                                [AV.str s, AV.bool x3.snd, AV.int IntKind.i64 x3.fst] ∧
                              I x3 H2 k3
                  else bif x2.snd then Q (AV.tuple [AV.str s, AV.bool false, AV.int IntKind.i64 (0 : Int)]) H2 else Q (AV.tuple [AV.str [], AV.bool true, AV.int IntKind.i64 (0 : Int)]) H2
          else bif s == [] || d == (2 : Int) then Q (AV.tuple [AV.str s, AV.bool false, AV.int IntKind.i64 (0 : Int)]) H1 else Q (AV.tuple [AV.str [], AV.bool true, AV.int IntKind.i64 (0 : Int)]) H1) := by kernel_rfl

theorem law_vc (X : Atoms) (d : Int) (s : List UInt8) (H : AH) (Q : AV → AH → Prop) : (vcF X Tryd.prog [] 8 [.int .i64 d, .str s] H Q) =
  (X.call (10 : Nat) [] H fun (v1 : AV) (H1 : AH) =>
  ∃ (b1 : Bool),
    v1 = AV.bool b1 ∧
      bif !b1 then Q (AV.bool false) H1
      else
        X.call (18 : Nat) [AV.int IntKind.i64 d, AV.str s] H1 fun (v2 : AV) (H2 : AH) =>
          ∃ (s1 : List UInt8),
            ∃ (b2 : Bool),
              ∃ (n1 : Int),
                v2 = AV.tuple [AV.str s1, AV.bool b2, AV.int IntKind.i64 n1] ∧
                  X.call (19 : Nat) [AV.int IntKind.i64 d, AV.str s] H2 fun (v3 : AV) (H3 : AH) =>
                    ∃ (s2 : List UInt8), ∃ (b3 : Bool), ∃ (n2 : Int), v3 = AV.tuple [AV.str s2, AV.bool b3, AV.int IntKind.i64 n2] ∧ Q (AV.bool (s1 == s2 && b2 == b3 && n1 == n2)) H3) := by kernel_rfl

end Go.Proofs.YtlkdhhkncoekgaaDoor

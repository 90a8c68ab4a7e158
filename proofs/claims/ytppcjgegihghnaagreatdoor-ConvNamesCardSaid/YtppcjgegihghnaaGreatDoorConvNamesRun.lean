/- The run of ConvNames, reckoned by the kernel, cut into calls that are reckoned each in a heap of its own. -/
import Derived.Test.YtppcjgegihghnaaGreatDoorTabsM
namespace Go.Proofs.YtppcjgegihghnaaGreatDoor.convNames
open Go.Am Go
set_option maxRecDepth 100000

def flW : Fl := { own := true, whole := true }
def flO : Fl := { own := true, opn := true }
def flN : Fl := { own := true }
def flG : Fl := { own := false }

/-- (*surtitle/srt.parser).times -/
def s0 (b : ML) : Sum := { f := 128, args := [.ptr (some (22, 0)), .str [48, 48, 58, 48, 48, 58, 48, 49, 44, 48, 48, 48, 32, 45, 45, 62, 32, 48, 48, 58, 48, 48, 58, 48, 50, 44, 53, 48, 48]], n := 44, pre := [(0, .cells [mlen b] 3 flG), (22, .cells [.slice (some (41, 0)) 4 4, .int .i64 (0), .int .i64 (2), .slice none 0 0] 102 flW), (41, .cells [.str [49], .str [48, 48, 58, 48, 48, 58, 48, 49, 44, 48, 48, 48, 32, 45, 45, 62, 32, 48, 48, 58, 48, 48, 58, 48, 50, 44, 53, 48, 48], .str [60, 105, 62, 72, 105, 60, 47, 105, 62], .str []] 9 flO)], v := .agg [.int .i64 (1), .int .i64 (1), .int .i64 (5), .int .i64 (2), .int .i64 (0), .int .i64 (0), .str [], .str [], .slice none 0 0], n' := 234, post := [(0, .cells [mlen b] 3 flG), (22, .cells [.slice (some (41, 0)) 4 4, .int .i64 (0), .int .i64 (2), .slice none 0 0] 102 flW), (41, .cells [.str [49], .str [48, 48, 58, 48, 48, 58, 48, 49, 44, 48, 48, 48, 32, 45, 45, 62, 32, 48, 48, 58, 48, 48, 58, 48, 50, 44, 53, 48, 48], .str [60, 105, 62, 72, 105, 60, 47, 105, 62], .str []] 9 flO)] }
theorem s0_ok : ∀ b, (s0 b).Ok Tryz.prog
  | .m5 => Sum.of_run (X := sumExt ext []) (n := 20000) follows (sumExt_ok ext_ok .nil) (by kernel_rfl)
  | .m4 => Sum.of_run (X := sumExt ext []) (n := 20000) follows (sumExt_ok ext_ok .nil) (by kernel_rfl)
  | .m3 => Sum.of_run (X := sumExt ext []) (n := 20000) follows (sumExt_ok ext_ok .nil) (by kernel_rfl)
  | .m0 => Sum.of_run (X := sumExt ext []) (n := 20000) follows (sumExt_ok ext_ok .nil) (by kernel_rfl)

/-- surtitle/srt.Parse -/
def s1 (b : ML) : Sum := { f := 24, args := [.slice (some (8, 0)) 43 43], n := 20, pre := [(0, .cells [mlen b] 3 flG), (8, .cells [.int .u8 (49), .int .u8 (10), .int .u8 (48), .int .u8 (48), .int .u8 (58), .int .u8 (48), .int .u8 (48), .int .u8 (58), .int .u8 (48), .int .u8 (49), .int .u8 (44), .int .u8 (48), .int .u8 (48), .int .u8 (48), .int .u8 (32), .int .u8 (45), .int .u8 (45), .int .u8 (62), .int .u8 (32), .int .u8 (48), .int .u8 (48), .int .u8 (58), .int .u8 (48), .int .u8 (48), .int .u8 (58), .int .u8 (48), .int .u8 (50), .int .u8 (44), .int .u8 (53), .int .u8 (48), .int .u8 (48), .int .u8 (10), .int .u8 (60), .int .u8 (105), .int .u8 (62), .int .u8 (72), .int .u8 (105), .int .u8 (60), .int .u8 (47), .int .u8 (105), .int .u8 (62), .int .u8 (10), .int .u8 (10)] 5 { own := true, opn := false, fz := 0, sish := true, whole := true })], v := .tuple [.agg [.slice (some (316, 0)) 1 1], .agg [.int .i64 (0), .int .i64 (0), .int .i64 (0)]], n' := 319, post := [(0, .cells [mlen b] 3 flG), (8, .cells [.int .u8 (49), .int .u8 (10), .int .u8 (48), .int .u8 (48), .int .u8 (58), .int .u8 (48), .int .u8 (48), .int .u8 (58), .int .u8 (48), .int .u8 (49), .int .u8 (44), .int .u8 (48), .int .u8 (48), .int .u8 (48), .int .u8 (32), .int .u8 (45), .int .u8 (45), .int .u8 (62), .int .u8 (32), .int .u8 (48), .int .u8 (48), .int .u8 (58), .int .u8 (48), .int .u8 (48), .int .u8 (58), .int .u8 (48), .int .u8 (50), .int .u8 (44), .int .u8 (53), .int .u8 (48), .int .u8 (48), .int .u8 (10), .int .u8 (60), .int .u8 (105), .int .u8 (62), .int .u8 (72), .int .u8 (105), .int .u8 (60), .int .u8 (47), .int .u8 (105), .int .u8 (62), .int .u8 (10), .int .u8 (10)] 5 { own := true, opn := false, fz := 0, sish := true, whole := true }), (305, .cells [.int .i64 (0), .int .i64 (2), .int .i64 (2), .int .i64 (0)] 173 flO), (316, .cells [.int .i64 (1), .int .i64 (1), .int .i64 (5), .int .i64 (2), .int .i64 (0), .int .i64 (0), .str [], .str [72, 105], .slice (some (305, 0)) 1 1] 89 flO)] }
theorem s1_ok : ∀ b, (s1 b).Ok Tryz.prog
  | .m5 => Sum.of_run (X := sumExt ext [s0 .m5]) (n := 20000) follows (sumExt_ok ext_ok (.cons (s0_ok .m5) .nil)) (by kernel_rfl)
  | .m4 => Sum.of_run (X := sumExt ext [s0 .m4]) (n := 20000) follows (sumExt_ok ext_ok (.cons (s0_ok .m4) .nil)) (by kernel_rfl)
  | .m3 => Sum.of_run (X := sumExt ext [s0 .m3]) (n := 20000) follows (sumExt_ok ext_ok (.cons (s0_ok .m3) .nil)) (by kernel_rfl)
  | .m0 => Sum.of_run (X := sumExt ext [s0 .m0]) (n := 20000) follows (sumExt_ok ext_ok (.cons (s0_ok .m0) .nil)) (by kernel_rfl)

/-- surtitle/cue.snap -/
def s2 : Sum := { f := 192, args := [.agg [.int .i64 (5), .int .i64 (2)], .agg [.int .i64 (1), .int .i64 (1000)]], n := 743, pre := [], v := .tuple [.agg [.int .i64 (5), .int .i64 (2)], .int .i64 (0)], n' := 998, post := [] }
theorem s2_ok : s2.Ok Tryz.prog := Sum.of_run (X := sumExt ext []) (n := 20000) follows (sumExt_ok ext_ok .nil) (by kernel_rfl)

/-- surtitle/cue.grid -/
def s3 : Sum := { f := 153, args := [.agg [.int .i64 (1), .int .i64 (1), .int .i64 (5), .int .i64 (2), .int .i64 (0), .int .i64 (0), .str [], .str [72, 105], .slice (some (305, 0)) 1 1], .agg [.int .i64 (1), .int .i64 (1000)]], n := 497, pre := [(305, .cells [.int .i64 (0), .int .i64 (2), .int .i64 (2), .int .i64 (0)] 173 flO)], v := .tuple [.agg [.int .i64 (1), .int .i64 (1), .int .i64 (5), .int .i64 (2), .int .i64 (0), .int .i64 (0), .str [], .str [72, 105], .slice (some (305, 0)) 1 1], .int .i64 (0)], n' := 1004, post := [(305, .cells [.int .i64 (0), .int .i64 (2), .int .i64 (2), .int .i64 (0)] 173 flO)] }
theorem s3_ok : s3.Ok Tryz.prog := Sum.of_run (X := sumExt ext [s2]) (n := 20000) follows (sumExt_ok ext_ok (.cons s2_ok .nil)) (by kernel_rfl)

/-- surtitle/cue.Keep -/
def s4 : Sum := { f := 67, args := [.agg [.slice (some (316, 0)) 1 1], .agg [.int .i64 (2), .int .i64 (1), .int .i64 (1000), .bool false, .bool true, .bool true, .bool false]], n := 326, pre := [(305, .cells [.int .i64 (0), .int .i64 (2), .int .i64 (2), .int .i64 (0)] 173 flO), (316, .cells [.int .i64 (1), .int .i64 (1), .int .i64 (5), .int .i64 (2), .int .i64 (0), .int .i64 (0), .str [], .str [72, 105], .slice (some (305, 0)) 1 1] 89 flO)], v := .tuple [.agg [.slice (some (1136, 0)) 1 1], .slice none 0 0, .nilIface], n' := 1137, post := [(305, .cells [.int .i64 (0), .int .i64 (2), .int .i64 (2), .int .i64 (0)] 173 flO), (316, .cells [.int .i64 (1), .int .i64 (1), .int .i64 (5), .int .i64 (2), .int .i64 (0), .int .i64 (0), .str [], .str [72, 105], .slice (some (305, 0)) 1 1] 89 flO), (1134, .cells [.int .i64 (0), .int .i64 (2), .int .i64 (2), .int .i64 (0)] 173 flO), (1136, .cells [.int .i64 (1), .int .i64 (1), .int .i64 (5), .int .i64 (2), .int .i64 (0), .int .i64 (0), .str [], .str [72, 105], .slice (some (1134, 0)) 1 1] 89 flO)] }
theorem s4_ok : s4.Ok Tryz.prog := Sum.of_run (X := sumExt ext [s3]) (n := 20000) follows (sumExt_ok ext_ok (.cons s3_ok .nil)) (by kernel_rfl)

/-- surtitle/mark.Print -/
def s5 : Sum := { f := 46, args := [.int .i64 (2), .agg [.str [72, 105], .slice (some (1134, 0)) 1 1, .str [], .int .i64 (0)]], n := 1237, pre := [(1134, .cells [.int .i64 (0), .int .i64 (2), .int .i64 (2), .int .i64 (0)] 173 flO)], v := .tuple [.str [60, 105, 62, 72, 105, 60, 47, 105, 62], .int .i64 (0)], n' := 1446, post := [(1134, .cells [.int .i64 (0), .int .i64 (2), .int .i64 (2), .int .i64 (0)] 173 flO)] }
theorem s5_ok : s5.Ok Tryz.prog := Sum.of_run (X := sumExt ext []) (n := 20000) follows (sumExt_ok ext_ok .nil) (by kernel_rfl)

/-- (*surtitle/vtt.reading).times -/
def s6 (b : ML) : Sum := { f := 138, args := [.ptr (some (1461, 0)), .str [48, 48, 58, 48, 48, 58, 48, 49, 46, 48, 48, 48, 32, 45, 45, 62, 32, 48, 48, 58, 48, 48, 58, 48, 50, 46, 53, 48, 48], .int .i64 (3)], n := 1475, pre := [(0, .cells [mlen b] 3 flG), (1461, .cells [.func (.func 83) [.ptr (some (1461, 0))] [], .int .i64 (0), .int .i64 (0), .int .i64 (0), .int .i64 (0), .int .i64 (0), .int .i64 (0), .str [], .str [], .slice none 0 0, .int .i64 (0), .slice none 0 0, .bool false, .bool false, .slice none 0 0, .int .i64 (0), .int .i64 (0), .int .i64 (0)] 110 flW)], v := .tuple [], n' := 1665, post := [(0, .cells [mlen b] 3 flG), (1461, .cells [.func (.func 183) [.ptr (some (1461, 0))] [], .int .i64 (1), .int .i64 (1), .int .i64 (5), .int .i64 (2), .int .i64 (0), .int .i64 (0), .str [], .str [], .slice none 0 0, .int .i64 (4), .slice none 0 0, .bool true, .bool false, .slice none 0 0, .int .i64 (0), .int .i64 (0), .int .i64 (0)] 110 flW)] }
theorem s6_ok : ∀ b, (s6 b).Ok Tryz.prog
  | .m5 => Sum.of_run (X := sumExt ext []) (n := 20000) follows (sumExt_ok ext_ok .nil) (by kernel_rfl)
  | .m4 => Sum.of_run (X := sumExt ext []) (n := 20000) follows (sumExt_ok ext_ok .nil) (by kernel_rfl)
  | .m3 => Sum.of_run (X := sumExt ext []) (n := 20000) follows (sumExt_ok ext_ok .nil) (by kernel_rfl)
  | .m0 => Sum.of_run (X := sumExt ext []) (n := 20000) follows (sumExt_ok ext_ok .nil) (by kernel_rfl)

/-- surtitle/vtt.Parse -/
def s7 (b : ML) : Sum := { f := 27, args := [.slice (some (1447, 0)) 48 48], n := 1459, pre := [(0, .cells [mlen b] 3 flG), (1447, .cells [.int .u8 (87), .int .u8 (69), .int .u8 (66), .int .u8 (86), .int .u8 (84), .int .u8 (84), .int .u8 (10), .int .u8 (10), .int .u8 (48), .int .u8 (48), .int .u8 (58), .int .u8 (48), .int .u8 (48), .int .u8 (58), .int .u8 (48), .int .u8 (49), .int .u8 (46), .int .u8 (48), .int .u8 (48), .int .u8 (48), .int .u8 (32), .int .u8 (45), .int .u8 (45), .int .u8 (62), .int .u8 (32), .int .u8 (48), .int .u8 (48), .int .u8 (58), .int .u8 (48), .int .u8 (48), .int .u8 (58), .int .u8 (48), .int .u8 (50), .int .u8 (46), .int .u8 (53), .int .u8 (48), .int .u8 (48), .int .u8 (10), .int .u8 (60), .int .u8 (105), .int .u8 (62), .int .u8 (72), .int .u8 (105), .int .u8 (60), .int .u8 (47), .int .u8 (105), .int .u8 (62), .int .u8 (10)] 5 { own := true, opn := false, fz := 0, sish := true, whole := true })], v := .tuple [.agg [.slice (some (1748, 0)) 1 1], .agg [.int .i64 (0), .int .i64 (0), .int .i64 (0)]], n' := 1749, post := [(0, .cells [mlen b] 3 flG), (1447, .cells [.int .u8 (87), .int .u8 (69), .int .u8 (66), .int .u8 (86), .int .u8 (84), .int .u8 (84), .int .u8 (10), .int .u8 (10), .int .u8 (48), .int .u8 (48), .int .u8 (58), .int .u8 (48), .int .u8 (48), .int .u8 (58), .int .u8 (48), .int .u8 (49), .int .u8 (46), .int .u8 (48), .int .u8 (48), .int .u8 (48), .int .u8 (32), .int .u8 (45), .int .u8 (45), .int .u8 (62), .int .u8 (32), .int .u8 (48), .int .u8 (48), .int .u8 (58), .int .u8 (48), .int .u8 (48), .int .u8 (58), .int .u8 (48), .int .u8 (50), .int .u8 (46), .int .u8 (53), .int .u8 (48), .int .u8 (48), .int .u8 (10), .int .u8 (60), .int .u8 (105), .int .u8 (62), .int .u8 (72), .int .u8 (105), .int .u8 (60), .int .u8 (47), .int .u8 (105), .int .u8 (62), .int .u8 (10)] 5 { own := true, opn := false, fz := 0, sish := true, whole := true }), (1737, .cells [.int .i64 (0), .int .i64 (2), .int .i64 (2), .int .i64 (0)] 173 flO), (1748, .cells [.int .i64 (1), .int .i64 (1), .int .i64 (5), .int .i64 (2), .int .i64 (0), .int .i64 (0), .str [], .str [72, 105], .slice (some (1737, 0)) 1 1] 89 flO)] }
theorem s7_ok : ∀ b, (s7 b).Ok Tryz.prog
  | .m5 => Sum.of_run (X := sumExt ext [s6 .m5]) (n := 20000) follows (sumExt_ok ext_ok (.cons (s6_ok .m5) .nil)) (by kernel_rfl)
  | .m4 => Sum.of_run (X := sumExt ext [s6 .m4]) (n := 20000) follows (sumExt_ok ext_ok (.cons (s6_ok .m4) .nil)) (by kernel_rfl)
  | .m3 => Sum.of_run (X := sumExt ext [s6 .m3]) (n := 20000) follows (sumExt_ok ext_ok (.cons (s6_ok .m3) .nil)) (by kernel_rfl)
  | .m0 => Sum.of_run (X := sumExt ext [s6 .m0]) (n := 20000) follows (sumExt_ok ext_ok (.cons (s6_ok .m0) .nil)) (by kernel_rfl)

/-- surtitle/cue.snap -/
def s8 : Sum := { f := 192, args := [.agg [.int .i64 (5), .int .i64 (2)], .agg [.int .i64 (1), .int .i64 (1000)]], n := 2173, pre := [], v := .tuple [.agg [.int .i64 (5), .int .i64 (2)], .int .i64 (0)], n' := 2428, post := [] }
theorem s8_ok : s8.Ok Tryz.prog := Sum.of_run (X := sumExt ext []) (n := 20000) follows (sumExt_ok ext_ok .nil) (by kernel_rfl)

/-- surtitle/cue.grid -/
def s9 : Sum := { f := 153, args := [.agg [.int .i64 (1), .int .i64 (1), .int .i64 (5), .int .i64 (2), .int .i64 (0), .int .i64 (0), .str [], .str [72, 105], .slice (some (1737, 0)) 1 1], .agg [.int .i64 (1), .int .i64 (1000)]], n := 1927, pre := [(1737, .cells [.int .i64 (0), .int .i64 (2), .int .i64 (2), .int .i64 (0)] 173 flO)], v := .tuple [.agg [.int .i64 (1), .int .i64 (1), .int .i64 (5), .int .i64 (2), .int .i64 (0), .int .i64 (0), .str [], .str [72, 105], .slice (some (1737, 0)) 1 1], .int .i64 (0)], n' := 2434, post := [(1737, .cells [.int .i64 (0), .int .i64 (2), .int .i64 (2), .int .i64 (0)] 173 flO)] }
theorem s9_ok : s9.Ok Tryz.prog := Sum.of_run (X := sumExt ext [s8]) (n := 20000) follows (sumExt_ok ext_ok (.cons s8_ok .nil)) (by kernel_rfl)

/-- surtitle/cue.Keep -/
def s10 : Sum := { f := 67, args := [.agg [.slice (some (1748, 0)) 1 1], .agg [.int .i64 (1), .int .i64 (1), .int .i64 (1000), .bool false, .bool false, .bool false, .bool false]], n := 1756, pre := [(1737, .cells [.int .i64 (0), .int .i64 (2), .int .i64 (2), .int .i64 (0)] 173 flO), (1748, .cells [.int .i64 (1), .int .i64 (1), .int .i64 (5), .int .i64 (2), .int .i64 (0), .int .i64 (0), .str [], .str [72, 105], .slice (some (1737, 0)) 1 1] 89 flO)], v := .tuple [.agg [.slice (some (2566, 0)) 1 1], .slice none 0 0, .nilIface], n' := 2567, post := [(1737, .cells [.int .i64 (0), .int .i64 (2), .int .i64 (2), .int .i64 (0)] 173 flO), (1748, .cells [.int .i64 (1), .int .i64 (1), .int .i64 (5), .int .i64 (2), .int .i64 (0), .int .i64 (0), .str [], .str [72, 105], .slice (some (1737, 0)) 1 1] 89 flO), (2564, .cells [.int .i64 (0), .int .i64 (2), .int .i64 (2), .int .i64 (0)] 173 flO), (2566, .cells [.int .i64 (1), .int .i64 (1), .int .i64 (5), .int .i64 (2), .int .i64 (0), .int .i64 (0), .str [], .str [72, 105], .slice (some (2564, 0)) 1 1] 89 flO)] }
theorem s10_ok : s10.Ok Tryz.prog := Sum.of_run (X := sumExt ext [s9]) (n := 20000) follows (sumExt_ok ext_ok (.cons s9_ok .nil)) (by kernel_rfl)

/-- surtitle/mark.Print -/
def s11 : Sum := { f := 46, args := [.int .i64 (1), .agg [.str [72, 105], .slice (some (2564, 0)) 1 1, .str [], .int .i64 (0)]], n := 2668, pre := [(2564, .cells [.int .i64 (0), .int .i64 (2), .int .i64 (2), .int .i64 (0)] 173 flO)], v := .tuple [.str [60, 105, 62, 72, 105, 60, 47, 105, 62], .int .i64 (0)], n' := 2849, post := [(2564, .cells [.int .i64 (0), .int .i64 (2), .int .i64 (2), .int .i64 (0)] 173 flO)] }
theorem s11_ok : s11.Ok Tryz.prog := Sum.of_run (X := sumExt ext []) (n := 20000) follows (sumExt_ok ext_ok .nil) (by kernel_rfl)

/-- surtitle/surtitlelaw18.known -/
def s12 (b : ML) : Sum := { f := 4, args := [], n := 8, pre := [(0, .cells [mlen b] 3 flG), (3, .cells tabPow 298 flG)], v := .bool true, n' := 2865, post := [(0, .cells [mlen b] 3 flG), (3, .cells tabPow 298 flG)] }
theorem s12_ok : ∀ b, (s12 b).Ok Tryz.prog
  | .m5 => Sum.of_run (X := sumExt ext [s1 .m5, s4, s5, s7 .m5, s10, s11]) (n := 20000) follows (sumExt_ok ext_ok (.cons (s1_ok .m5) (.cons s4_ok (.cons s5_ok (.cons (s7_ok .m5) (.cons s10_ok (.cons s11_ok .nil))))))) (by kernel_rfl)
  | .m4 => Sum.of_run (X := sumExt ext [s1 .m4, s4, s5, s7 .m4, s10, s11]) (n := 20000) follows (sumExt_ok ext_ok (.cons (s1_ok .m4) (.cons s4_ok (.cons s5_ok (.cons (s7_ok .m4) (.cons s10_ok (.cons s11_ok .nil))))))) (by kernel_rfl)
  | .m3 => Sum.of_run (X := sumExt ext [s1 .m3, s4, s5, s7 .m3, s10, s11]) (n := 20000) follows (sumExt_ok ext_ok (.cons (s1_ok .m3) (.cons s4_ok (.cons s5_ok (.cons (s7_ok .m3) (.cons s10_ok (.cons s11_ok .nil))))))) (by kernel_rfl)
  | .m0 => Sum.of_run (X := sumExt ext [s1 .m0, s4, s5, s7 .m0, s10, s11]) (n := 20000) follows (sumExt_ok ext_ok (.cons (s1_ok .m0) (.cons s4_ok (.cons s5_ok (.cons (s7_ok .m0) (.cons s10_ok (.cons s11_ok .nil))))))) (by kernel_rfl)

def known (b : ML) : List Sum := [s12 b]
theorem known_ok (b : ML) : AllOk Tryz.prog (known b) := (.cons (s12_ok b) .nil)
theorem ext_ok' (b : ML) : ExtOk Tryz.prog (sumExt ext (known b)) := sumExt_ok ext_ok (known_ok b)
theorem reckoned : ∀ b, (runCallF Tryz.prog (sumExt ext (known b)) 20000 3 [] (startH nGlob (startTabs b))).map (·.1) = some (.bool true)
  | .m5 => by kernel_rfl
  | .m4 => by kernel_rfl
  | .m3 => by kernel_rfl
  | .m0 => by kernel_rfl
end Go.Proofs.YtppcjgegihghnaaGreatDoor.convNames

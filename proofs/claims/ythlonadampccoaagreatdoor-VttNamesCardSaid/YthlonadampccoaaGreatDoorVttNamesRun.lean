/- The run of VttNames, reckoned by the kernel, cut into calls that are reckoned each in a heap of its own. -/
import Derived.Test.YthlonadampccoaaGreatDoorTabsM
namespace Go.Proofs.YthlonadampccoaaGreatDoor.vttNames
open Go.Am Go
set_option maxRecDepth 100000

def flW : Fl := { own := true, whole := true }
def flO : Fl := { own := true, opn := true }
def flN : Fl := { own := true }
def flG : Fl := { own := false }

/-- (*surtitle/vtt.reading).times -/
def s0 (b : ML) : Sum := { f := 51, args := [.ptr (some (11, 0)), .str [48, 48, 58, 48, 49, 46, 48, 48, 48, 32, 45, 45, 62, 32, 48, 48, 58, 48, 50, 46, 53, 48, 48, 32, 108, 105, 110, 101, 58, 48], .int .i64 (3)], n := 25, pre := [(0, .cells [mlen b] 3 flG), (11, .cells [.func (.func 27) [.ptr (some (11, 0))] [], .int .i64 (0), .int .i64 (0), .int .i64 (0), .int .i64 (0), .int .i64 (0), .int .i64 (0), .str [], .str [], .slice none 0 0, .int .i64 (0), .slice none 0 0, .bool false, .bool false, .slice none 0 0, .int .i64 (0), .int .i64 (0), .int .i64 (0)] 51 flW)], v := .tuple [], n' := 213, post := [(0, .cells [mlen b] 3 flG), (11, .cells [.func (.func 89) [.ptr (some (11, 0))] [], .int .i64 (1), .int .i64 (1), .int .i64 (5), .int .i64 (2), .int .i64 (0), .int .i64 (1), .str [], .str [], .slice none 0 0, .int .i64 (4), .slice none 0 0, .bool true, .bool false, .slice none 0 0, .int .i64 (0), .int .i64 (0), .int .i64 (0)] 51 flW)] }
theorem s0_ok : ∀ b, (s0 b).Ok Tryz.prog
  | .m5 => Sum.of_run (X := sumExt ext []) (n := 20000) follows (sumExt_ok ext_ok .nil) (by kernel_rfl)
  | .m4 => Sum.of_run (X := sumExt ext []) (n := 20000) follows (sumExt_ok ext_ok .nil) (by kernel_rfl)
  | .m3 => Sum.of_run (X := sumExt ext []) (n := 20000) follows (sumExt_ok ext_ok .nil) (by kernel_rfl)
  | .m0 => Sum.of_run (X := sumExt ext []) (n := 20000) follows (sumExt_ok ext_ok .nil) (by kernel_rfl)

/-- surtitle/mark.Parse -/
def s1 : Sum := { f := 25, args := [.int .i64 (2), .str [60, 118, 32, 65, 110, 110, 62, 72, 105, 32, 38, 97, 109, 112, 59, 32, 98, 121, 101]], n := 217, pre := [], v := .tuple [.agg [.str [72, 105, 32, 38, 32, 98, 121, 101], .slice none 0 0, .str [65, 110, 110], .int .i64 (0)], .int .i64 (0)], n' := 440, post := [] }
theorem s1_ok : s1.Ok Tryz.prog := Sum.of_run (X := sumExt ext []) (n := 20000) follows (sumExt_ok ext_ok .nil) (by kernel_rfl)

/-- surtitle/cue.snap -/
def s2 : Sum := { f := 142, args := [.agg [.int .i64 (5), .int .i64 (2)], .agg [.int .i64 (1), .int .i64 (1000)]], n := 868, pre := [], v := .tuple [.agg [.int .i64 (5), .int .i64 (2)], .int .i64 (0)], n' := 1123, post := [] }
theorem s2_ok : s2.Ok Tryz.prog := Sum.of_run (X := sumExt ext []) (n := 20000) follows (sumExt_ok ext_ok .nil) (by kernel_rfl)

/-- surtitle/cue.grid -/
def s3 : Sum := { f := 96, args := [.agg [.int .i64 (1), .int .i64 (1), .int .i64 (5), .int .i64 (2), .int .i64 (0), .int .i64 (1), .str [65, 110, 110], .str [72, 105, 32, 38, 32, 98, 121, 101], .slice none 0 0], .agg [.int .i64 (1), .int .i64 (1000)]], n := 622, pre := [], v := .tuple [.agg [.int .i64 (1), .int .i64 (1), .int .i64 (5), .int .i64 (2), .int .i64 (0), .int .i64 (1), .str [65, 110, 110], .str [72, 105, 32, 38, 32, 98, 121, 101], .slice none 0 0], .int .i64 (0)], n' := 1129, post := [] }
theorem s3_ok : s3.Ok Tryz.prog := Sum.of_run (X := sumExt ext [s2]) (n := 20000) follows (sumExt_ok ext_ok (.cons s2_ok .nil)) (by kernel_rfl)

/-- surtitle/mark.Keep -/
def s4 : Sum := { f := 64, args := [.int .i64 (2), .agg [.str [72, 105, 32, 38, 32, 98, 121, 101], .slice none 0 0], .bool false], n := 1182, pre := [], v := .tuple [.agg [.str [72, 105, 32, 38, 32, 98, 121, 101], .slice none 0 0], .int .i64 (0), .int .i64 (0), .int .i64 (0), .int .i64 (0)], n' := 1372, post := [] }
theorem s4_ok : s4.Ok Tryz.prog := Sum.of_run (X := sumExt ext []) (n := 20000) follows (sumExt_ok ext_ok .nil) (by kernel_rfl)

/-- surtitle/cue.Keep -/
def s5 : Sum := { f := 28, args := [.agg [.slice (some (442, 0)) 1 1], .agg [.int .i64 (2), .int .i64 (1), .int .i64 (1000), .bool false, .bool true, .bool true, .bool false]], n := 450, pre := [(442, .cells [.int .i64 (1), .int .i64 (1), .int .i64 (5), .int .i64 (2), .int .i64 (0), .int .i64 (1), .str [65, 110, 110], .str [72, 105, 32, 38, 32, 98, 121, 101], .slice none 0 0] 39 flO)], v := .tuple [.agg [.slice (some (1380, 0)) 1 1], .slice none 0 0, .nilIface], n' := 1381, post := [(442, .cells [.int .i64 (1), .int .i64 (1), .int .i64 (5), .int .i64 (2), .int .i64 (0), .int .i64 (1), .str [65, 110, 110], .str [72, 105, 32, 38, 32, 98, 121, 101], .slice none 0 0] 39 flO), (1380, .cells [.int .i64 (1), .int .i64 (1), .int .i64 (5), .int .i64 (2), .int .i64 (0), .int .i64 (1), .str [65, 110, 110], .str [72, 105, 32, 38, 32, 98, 121, 101], .slice none 0 0] 39 flO)] }
theorem s5_ok : s5.Ok Tryz.prog := Sum.of_run (X := sumExt ext [s3, s4]) (n := 20000) follows (sumExt_ok ext_ok (.cons s3_ok (.cons s4_ok .nil))) (by kernel_rfl)

/-- surtitle/mark.Keep -/
def s6 : Sum := { f := 64, args := [.int .i64 (2), .agg [.str [72, 105, 32, 38, 32, 98, 121, 101], .slice none 0 0], .bool true], n := 1485, pre := [], v := .tuple [.agg [.str [72, 105, 32, 38, 32, 98, 121, 101], .slice none 0 0], .int .i64 (0), .int .i64 (0), .int .i64 (0), .int .i64 (0)], n' := 1675, post := [] }
theorem s6_ok : s6.Ok Tryz.prog := Sum.of_run (X := sumExt ext []) (n := 20000) follows (sumExt_ok ext_ok .nil) (by kernel_rfl)

/-- surtitle/mark.tags -/
def s7 : Sum := { f := 67, args := [.int .i64 (2), .agg [.str [72, 105, 32, 38, 32, 98, 121, 101], .slice none 0 0, .str [65, 110, 110], .int .i64 (0)]], n := 1676, pre := [], v := .str [60, 118, 32, 65, 110, 110, 62, 72, 105, 32, 38, 97, 109, 112, 59, 32, 98, 121, 101], n' := 1990, post := [] }
theorem s7_ok : s7.Ok Tryz.prog := Sum.of_run (X := sumExt ext []) (n := 20000) follows (sumExt_ok ext_ok .nil) (by kernel_rfl)

/-- surtitle/surtitlelaw15.known -/
def s8 (b : ML) : Sum := { f := 4, args := [], n := 8, pre := [(0, .cells [mlen b] 3 flG), (1, .cells tabPow 249 flG)], v := .bool true, n' := 1991, post := [(0, .cells [mlen b] 3 flG), (1, .cells tabPow 249 flG)] }
theorem s8_ok : ∀ b, (s8 b).Ok Tryz.prog
  | .m5 => Sum.of_run (X := sumExt ext [s0 .m5, s1, s5, s6, s7]) (n := 20000) follows (sumExt_ok ext_ok (.cons (s0_ok .m5) (.cons s1_ok (.cons s5_ok (.cons s6_ok (.cons s7_ok .nil)))))) (by kernel_rfl)
  | .m4 => Sum.of_run (X := sumExt ext [s0 .m4, s1, s5, s6, s7]) (n := 20000) follows (sumExt_ok ext_ok (.cons (s0_ok .m4) (.cons s1_ok (.cons s5_ok (.cons s6_ok (.cons s7_ok .nil)))))) (by kernel_rfl)
  | .m3 => Sum.of_run (X := sumExt ext [s0 .m3, s1, s5, s6, s7]) (n := 20000) follows (sumExt_ok ext_ok (.cons (s0_ok .m3) (.cons s1_ok (.cons s5_ok (.cons s6_ok (.cons s7_ok .nil)))))) (by kernel_rfl)
  | .m0 => Sum.of_run (X := sumExt ext [s0 .m0, s1, s5, s6, s7]) (n := 20000) follows (sumExt_ok ext_ok (.cons (s0_ok .m0) (.cons s1_ok (.cons s5_ok (.cons s6_ok (.cons s7_ok .nil)))))) (by kernel_rfl)

def known (b : ML) : List Sum := [s8 b]
theorem known_ok (b : ML) : AllOk Tryz.prog (known b) := (.cons (s8_ok b) .nil)
theorem ext_ok' (b : ML) : ExtOk Tryz.prog (sumExt ext (known b)) := sumExt_ok ext_ok (known_ok b)
theorem reckoned : ∀ b, (runCallF Tryz.prog (sumExt ext (known b)) 20000 3 [] (startH nGlob (startTabs b))).map (·.1) = some (.bool true)
  | .m5 => by kernel_rfl
  | .m4 => by kernel_rfl
  | .m3 => by kernel_rfl
  | .m0 => by kernel_rfl
end Go.Proofs.YthlonadampccoaaGreatDoor.vttNames

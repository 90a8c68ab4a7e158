/-
  NARROWER THAN 'FOR EVERY INPUT', by the rows' own cells (each row's printed sentence says how): MarkNumbers: laid · MarkPlain: laid · MarkTotal: laid · MarkSeams: laid · MarkLong: laid · MarkNames: laid · MarkCounts: laid.
  DERIVED. THE GIVEN ROWS OF THIS SEAT. 7 by the template 'for every input the law returns true; each argument reads behind the call as it read before'; 0 by the template 'total and deterministic' (their statements: YtlkdhhkncoekgaaDoorTotals.lean).
  GIVEN WITH THE SEED: the statements are not yours to turn. If you find one false, say at which input.
  Laid BY PROGRAM, IN A SANDBOX (cutbox-rows.mjs): the forced cells as the released guide's own fill.sh prints them over the translation 89775da27ea3a7a8… (all of the seat's roots in one cut). By AI agents, Wed Nov 11 2026. No macro, syntax, notation, axiom, sorry.
-/
import Derived.Test.YtlkdhhkncoekgaaDoorChecked
import GoSem.PinnedTables
import GoSem.Claim
import GoSem.ClaimJoined
import GoSem.ClaimMapViews
import Derived.JoinedTies
import Derived.KernelRfl
namespace Go.Proofs.YtlkdhhkncoekgaaDoor
/- THE CELL 'sum', in the pinned program and in every row, IS THE sha256 OF THE DUMP (.gsa) THAT YtlkdhhkncoekgaaDoorProg.lean LOADS. Nothing in Lean hashes anything: it is a label: what it is worth is what the hold of that sum in a sandbox is worth. -/
noncomputable def Tryd.pinned : Pinned := { name := "ytlkdhhkncoekgaadoor", sum := "89775da27ea3a7a878ea0a55f92126c290645720c4aaaefa659c91a3c803bb41", checked := Tryd.checked }
namespace Rows
def none {H : Type} : Left H := { results := [], args := [] }

/- WHAT THE LISTED PACKAGE-LEVEL VARIABLES READ AS WHEN THE CALL BEGINS. Each datum BY PROGRAM (the guide's laid-datum.mjs) off the statement by which the dump's own 'gosem.cut.vars' lays the variable. In a bare row this is a premise. The card (YtlkdhhkncoekgaaDoorCards.lean) ties it to the program's text. -/
def laid_unicode_utf8_acceptRanges {H : Type} : DataW H := .agg [.agg [.lit (.int .u8 128), .lit (.int .u8 191)], .agg [.lit (.int .u8 160), .lit (.int .u8 191)], .agg [.lit (.int .u8 128), .lit (.int .u8 159)], .agg [.lit (.int .u8 144), .lit (.int .u8 191)], .agg [.lit (.int .u8 128), .lit (.int .u8 143)], .agg [.lit (.int .u8 0), .lit (.int .u8 0)], .agg [.lit (.int .u8 0), .lit (.int .u8 0)], .agg [.lit (.int .u8 0), .lit (.int .u8 0)], .agg [.lit (.int .u8 0), .lit (.int .u8 0)], .agg [.lit (.int .u8 0), .lit (.int .u8 0)], .agg [.lit (.int .u8 0), .lit (.int .u8 0)], .agg [.lit (.int .u8 0), .lit (.int .u8 0)], .agg [.lit (.int .u8 0), .lit (.int .u8 0)], .agg [.lit (.int .u8 0), .lit (.int .u8 0)], .agg [.lit (.int .u8 0), .lit (.int .u8 0)], .agg [.lit (.int .u8 0), .lit (.int .u8 0)]]
/-- One of Go's own tables, pinned by name: the form's constant. -/
def laid_unicode_utf8_first : DataW Unit := Go.Pinned.utf8First

/-- 'surtitlelaw8.MarkNumbers': WHATEVER THE INPUT: true; the input reads as it did. -/
def markNumbersSpec : ChangeSpec := { name := "markNumbers", fn := fun _ => fun
  | [] => { results := [.lit (.bool true)], args := [] }
  | _ => none }
def markNumbersRow : OpenClaim := { program := "ytlkdhhkncoekgaadoor", sum := "89775da27ea3a7a878ea0a55f92126c290645720c4aaaefa659c91a3c803bb41", func := "surtitle/surtitlelaw8.MarkNumbers", spec := "markNumbers", inPlace := ["internal/bytealg.IndexByteString", "internal/abi.NoEscape", "internal/bytealg.CountString", "internal/bytealg.IndexString"], unfollowed := true, recurses := true, named := ["unicode/utf8.first", "unicode/utf8.acceptRanges", "internal/bytealg.MaxLen"], apart := false, laid := [("unicode/utf8.acceptRanges", laid_unicode_utf8_acceptRanges), ("unicode/utf8.first", laid_unicode_utf8_first)] }
def MarkNumbersSaid : Prop := markNumbersRow.holds Tryd.pinned (OpenSpec.ofChange markNumbersSpec)

/-- ITS FALSE NEIGHBOUR: 'it returns false'. Refute it at one input. -/
def markNumbersWrong : ChangeSpec := { name := "markNumbers", fn := fun _ => fun
  | [] => { results := [.lit (.bool false)], args := [] }
  | _ => none }
def MarkNumbersWrongFalsely : Prop := markNumbersRow.holds Tryd.pinned (OpenSpec.ofChange markNumbersWrong)

/-- 'surtitlelaw8.MarkPlain': WHATEVER THE INPUT: true; the input reads as it did. -/
def markPlainSpec : ChangeSpec := { name := "markPlain", fn := fun _ => fun
  | [d1, d2] => { results := [.lit (.bool true)], args := [d1, d2] }
  | _ => none }
def markPlainRow : OpenClaim := { program := "ytlkdhhkncoekgaadoor", sum := "89775da27ea3a7a878ea0a55f92126c290645720c4aaaefa659c91a3c803bb41", func := "surtitle/surtitlelaw8.MarkPlain", spec := "markPlain", inPlace := ["internal/bytealg.IndexByteString", "internal/abi.NoEscape", "internal/bytealg.CountString", "internal/bytealg.IndexString"], unfollowed := true, recurses := true, named := ["unicode/utf8.first", "unicode/utf8.acceptRanges", "internal/bytealg.MaxLen"], apart := false, laid := [("unicode/utf8.acceptRanges", laid_unicode_utf8_acceptRanges), ("unicode/utf8.first", laid_unicode_utf8_first)] }
def MarkPlainSaid : Prop := markPlainRow.holds Tryd.pinned (OpenSpec.ofChange markPlainSpec)

/-- ITS FALSE NEIGHBOUR: 'it returns false'. Refute it at one input. -/
def markPlainWrong : ChangeSpec := { name := "markPlain", fn := fun _ => fun
  | [d1, d2] => { results := [.lit (.bool false)], args := [d1, d2] }
  | _ => none }
def MarkPlainWrongFalsely : Prop := markPlainRow.holds Tryd.pinned (OpenSpec.ofChange markPlainWrong)

/-- 'surtitlelaw8.MarkTotal': WHATEVER THE INPUT: true; the input reads as it did. -/
def markTotalSpec : ChangeSpec := { name := "markTotal", fn := fun _ => fun
  | [d1, d2] => { results := [.lit (.bool true)], args := [d1, d2] }
  | _ => none }
def markTotalRow : OpenClaim := { program := "ytlkdhhkncoekgaadoor", sum := "89775da27ea3a7a878ea0a55f92126c290645720c4aaaefa659c91a3c803bb41", func := "surtitle/surtitlelaw8.MarkTotal", spec := "markTotal", inPlace := ["internal/bytealg.IndexByteString", "internal/abi.NoEscape", "internal/bytealg.CountString", "internal/bytealg.IndexString"], unfollowed := true, recurses := true, named := ["unicode/utf8.first", "unicode/utf8.acceptRanges", "internal/bytealg.MaxLen"], apart := false, laid := [("unicode/utf8.acceptRanges", laid_unicode_utf8_acceptRanges), ("unicode/utf8.first", laid_unicode_utf8_first)] }
def MarkTotalSaid : Prop := markTotalRow.holds Tryd.pinned (OpenSpec.ofChange markTotalSpec)

/-- ITS FALSE NEIGHBOUR: 'it returns false'. Refute it at one input. -/
def markTotalWrong : ChangeSpec := { name := "markTotal", fn := fun _ => fun
  | [d1, d2] => { results := [.lit (.bool false)], args := [d1, d2] }
  | _ => none }
def MarkTotalWrongFalsely : Prop := markTotalRow.holds Tryd.pinned (OpenSpec.ofChange markTotalWrong)

/-- 'surtitlelaw8.MarkSeams': WHATEVER THE INPUT: true; the input reads as it did. -/
def markSeamsSpec : ChangeSpec := { name := "markSeams", fn := fun _ => fun
  | [d1, d2] => { results := [.lit (.bool true)], args := [d1, d2] }
  | _ => none }
def markSeamsRow : OpenClaim := { program := "ytlkdhhkncoekgaadoor", sum := "89775da27ea3a7a878ea0a55f92126c290645720c4aaaefa659c91a3c803bb41", func := "surtitle/surtitlelaw8.MarkSeams", spec := "markSeams", inPlace := ["internal/bytealg.IndexByteString", "internal/abi.NoEscape", "internal/bytealg.CountString", "internal/bytealg.IndexString"], unfollowed := true, recurses := true, named := ["unicode/utf8.first", "unicode/utf8.acceptRanges", "internal/bytealg.MaxLen"], apart := false, laid := [("unicode/utf8.acceptRanges", laid_unicode_utf8_acceptRanges), ("unicode/utf8.first", laid_unicode_utf8_first)] }
def MarkSeamsSaid : Prop := markSeamsRow.holds Tryd.pinned (OpenSpec.ofChange markSeamsSpec)

/-- ITS FALSE NEIGHBOUR: 'it returns false'. Refute it at one input. -/
def markSeamsWrong : ChangeSpec := { name := "markSeams", fn := fun _ => fun
  | [d1, d2] => { results := [.lit (.bool false)], args := [d1, d2] }
  | _ => none }
def MarkSeamsWrongFalsely : Prop := markSeamsRow.holds Tryd.pinned (OpenSpec.ofChange markSeamsWrong)

/-- 'surtitlelaw8.MarkLong': WHATEVER THE INPUT: true; the input reads as it did. -/
def markLongSpec : ChangeSpec := { name := "markLong", fn := fun _ => fun
  | [d1, d2] => { results := [.lit (.bool true)], args := [d1, d2] }
  | _ => none }
def markLongRow : OpenClaim := { program := "ytlkdhhkncoekgaadoor", sum := "89775da27ea3a7a878ea0a55f92126c290645720c4aaaefa659c91a3c803bb41", func := "surtitle/surtitlelaw8.MarkLong", spec := "markLong", inPlace := ["internal/bytealg.IndexByteString", "internal/abi.NoEscape", "internal/bytealg.CountString", "internal/bytealg.IndexString"], unfollowed := true, recurses := true, named := ["unicode/utf8.first", "unicode/utf8.acceptRanges", "internal/bytealg.MaxLen"], apart := false, laid := [("unicode/utf8.acceptRanges", laid_unicode_utf8_acceptRanges), ("unicode/utf8.first", laid_unicode_utf8_first)] }
def MarkLongSaid : Prop := markLongRow.holds Tryd.pinned (OpenSpec.ofChange markLongSpec)

/-- ITS FALSE NEIGHBOUR: 'it returns false'. Refute it at one input. -/
def markLongWrong : ChangeSpec := { name := "markLong", fn := fun _ => fun
  | [d1, d2] => { results := [.lit (.bool false)], args := [d1, d2] }
  | _ => none }
def MarkLongWrongFalsely : Prop := markLongRow.holds Tryd.pinned (OpenSpec.ofChange markLongWrong)

/-- 'surtitlelaw8.MarkNames': WHATEVER THE INPUT: true; the input reads as it did. -/
def markNamesSpec : ChangeSpec := { name := "markNames", fn := fun _ => fun
  | [d1, d2] => { results := [.lit (.bool true)], args := [d1, d2] }
  | _ => none }
def markNamesRow : OpenClaim := { program := "ytlkdhhkncoekgaadoor", sum := "89775da27ea3a7a878ea0a55f92126c290645720c4aaaefa659c91a3c803bb41", func := "surtitle/surtitlelaw8.MarkNames", spec := "markNames", inPlace := ["internal/bytealg.IndexByteString", "internal/abi.NoEscape", "internal/bytealg.CountString", "internal/bytealg.IndexString"], unfollowed := true, recurses := true, named := ["unicode/utf8.first", "unicode/utf8.acceptRanges", "internal/bytealg.MaxLen"], apart := false, laid := [("unicode/utf8.acceptRanges", laid_unicode_utf8_acceptRanges), ("unicode/utf8.first", laid_unicode_utf8_first)] }
def MarkNamesSaid : Prop := markNamesRow.holds Tryd.pinned (OpenSpec.ofChange markNamesSpec)

/-- ITS FALSE NEIGHBOUR: 'it returns false'. Refute it at one input. -/
def markNamesWrong : ChangeSpec := { name := "markNames", fn := fun _ => fun
  | [d1, d2] => { results := [.lit (.bool false)], args := [d1, d2] }
  | _ => none }
def MarkNamesWrongFalsely : Prop := markNamesRow.holds Tryd.pinned (OpenSpec.ofChange markNamesWrong)

/-- 'surtitlelaw8.MarkCounts': WHATEVER THE INPUT: true; the input reads as it did. -/
def markCountsSpec : ChangeSpec := { name := "markCounts", fn := fun _ => fun
  | [d1, d2, d3] => { results := [.lit (.bool true)], args := [d1, d2, d3] }
  | _ => none }
def markCountsRow : OpenClaim := { program := "ytlkdhhkncoekgaadoor", sum := "89775da27ea3a7a878ea0a55f92126c290645720c4aaaefa659c91a3c803bb41", func := "surtitle/surtitlelaw8.MarkCounts", spec := "markCounts", inPlace := ["internal/bytealg.IndexByteString", "internal/abi.NoEscape", "internal/bytealg.CountString", "internal/bytealg.IndexString"], unfollowed := true, recurses := true, named := ["unicode/utf8.first", "unicode/utf8.acceptRanges", "internal/bytealg.MaxLen"], apart := false, laid := [("unicode/utf8.acceptRanges", laid_unicode_utf8_acceptRanges), ("unicode/utf8.first", laid_unicode_utf8_first)] }
def MarkCountsSaid : Prop := markCountsRow.holds Tryd.pinned (OpenSpec.ofChange markCountsSpec)

/-- ITS FALSE NEIGHBOUR: 'it returns false'. Refute it at one input. -/
def markCountsWrong : ChangeSpec := { name := "markCounts", fn := fun _ => fun
  | [d1, d2, d3] => { results := [.lit (.bool false)], args := [d1, d2, d3] }
  | _ => none }
def MarkCountsWrongFalsely : Prop := markCountsRow.holds Tryd.pinned (OpenSpec.ofChange markCountsWrong)

/- THE SECOND FORM. 'bulk': how many values and letters a reading holds, each counted each time it is reached (what is shared counts as often as it is met; a slice's spare places count too). A statement '..UptoSaid' is the law's where the arguments, and the package variables that the reading takes, are together of bulk at most 1048576: NARROWER than '..Said'. Prove '..Said' where nothing that the law and all that it calls make is longer than what came in: it says more and counts as full. Else prove '..UptoSaid'. A law counts once. -/
mutual
def uptoBulk {H : Type} : DataW H → Nat
  | .lit (.string bytes) => bytes.length + 1
  | .lit _ => 1
  | .nil => 1
  | .ptr d => uptoBulk d + 1
  | .slice elems spare => uptoBulkAll elems + uptoBulkAll spare + 1
  | .agg parts => uptoBulkAll parts + 1
  | .iface _ d => uptoBulk d + 1
  | .map entries => uptoBulkEntries entries + 1
  | .held _ => 1
def uptoBulkAll {H : Type} : List (DataW H) → Nat
  | [] => 0
  | d :: r => uptoBulk d + uptoBulkAll r
def uptoBulkEntries {H : Type} : List (Lit × DataW H) → Nat
  | [] => 0
  | x :: r => uptoBulkEntry x + uptoBulkEntries r
def uptoBulkEntry {H : Type} : Lit × DataW H → Nat
  | (.string bytes, d) => bytes.length + uptoBulk d + 1
  | (_, d) => uptoBulk d + 1
 end
def uptoSmall : (H : Type) → List (DataW H) → Bool := fun _ ds => decide (uptoBulkAll ds ≤ 1048576)
def OpenSpec.upto (s : _root_.Go.ChangeSpec) : _root_.Go.OpenSpec := { _root_.Go.OpenSpec.ofChange s with cond := some uptoSmall }

/-- 'surtitlelaw8.MarkNumbers', WHERE WHAT IT READS IS OF BULK AT MOST 1048576: true; the input reads as it did. -/
def markNumbersUptoRow : OpenClaim := { program := "ytlkdhhkncoekgaadoor", sum := "89775da27ea3a7a878ea0a55f92126c290645720c4aaaefa659c91a3c803bb41", func := "surtitle/surtitlelaw8.MarkNumbers", spec := "markNumbers", inPlace := ["internal/bytealg.IndexByteString", "internal/abi.NoEscape", "internal/bytealg.CountString", "internal/bytealg.IndexString"], unfollowed := true, recurses := true, named := ["unicode/utf8.first", "unicode/utf8.acceptRanges", "internal/bytealg.MaxLen"], apart := false, laid := [("unicode/utf8.acceptRanges", laid_unicode_utf8_acceptRanges), ("unicode/utf8.first", laid_unicode_utf8_first)], narrowed := true }
def MarkNumbersUptoSaid : Prop := markNumbersUptoRow.holds Tryd.pinned (OpenSpec.upto markNumbersSpec)

/-- 'surtitlelaw8.MarkPlain', WHERE WHAT IT READS IS OF BULK AT MOST 1048576: true; the input reads as it did. -/
def markPlainUptoRow : OpenClaim := { program := "ytlkdhhkncoekgaadoor", sum := "89775da27ea3a7a878ea0a55f92126c290645720c4aaaefa659c91a3c803bb41", func := "surtitle/surtitlelaw8.MarkPlain", spec := "markPlain", inPlace := ["internal/bytealg.IndexByteString", "internal/abi.NoEscape", "internal/bytealg.CountString", "internal/bytealg.IndexString"], unfollowed := true, recurses := true, named := ["unicode/utf8.first", "unicode/utf8.acceptRanges", "internal/bytealg.MaxLen"], apart := false, laid := [("unicode/utf8.acceptRanges", laid_unicode_utf8_acceptRanges), ("unicode/utf8.first", laid_unicode_utf8_first)], narrowed := true }
def MarkPlainUptoSaid : Prop := markPlainUptoRow.holds Tryd.pinned (OpenSpec.upto markPlainSpec)

/-- 'surtitlelaw8.MarkTotal', WHERE WHAT IT READS IS OF BULK AT MOST 1048576: true; the input reads as it did. -/
def markTotalUptoRow : OpenClaim := { program := "ytlkdhhkncoekgaadoor", sum := "89775da27ea3a7a878ea0a55f92126c290645720c4aaaefa659c91a3c803bb41", func := "surtitle/surtitlelaw8.MarkTotal", spec := "markTotal", inPlace := ["internal/bytealg.IndexByteString", "internal/abi.NoEscape", "internal/bytealg.CountString", "internal/bytealg.IndexString"], unfollowed := true, recurses := true, named := ["unicode/utf8.first", "unicode/utf8.acceptRanges", "internal/bytealg.MaxLen"], apart := false, laid := [("unicode/utf8.acceptRanges", laid_unicode_utf8_acceptRanges), ("unicode/utf8.first", laid_unicode_utf8_first)], narrowed := true }
def MarkTotalUptoSaid : Prop := markTotalUptoRow.holds Tryd.pinned (OpenSpec.upto markTotalSpec)

/-- 'surtitlelaw8.MarkSeams', WHERE WHAT IT READS IS OF BULK AT MOST 1048576: true; the input reads as it did. -/
def markSeamsUptoRow : OpenClaim := { program := "ytlkdhhkncoekgaadoor", sum := "89775da27ea3a7a878ea0a55f92126c290645720c4aaaefa659c91a3c803bb41", func := "surtitle/surtitlelaw8.MarkSeams", spec := "markSeams", inPlace := ["internal/bytealg.IndexByteString", "internal/abi.NoEscape", "internal/bytealg.CountString", "internal/bytealg.IndexString"], unfollowed := true, recurses := true, named := ["unicode/utf8.first", "unicode/utf8.acceptRanges", "internal/bytealg.MaxLen"], apart := false, laid := [("unicode/utf8.acceptRanges", laid_unicode_utf8_acceptRanges), ("unicode/utf8.first", laid_unicode_utf8_first)], narrowed := true }
def MarkSeamsUptoSaid : Prop := markSeamsUptoRow.holds Tryd.pinned (OpenSpec.upto markSeamsSpec)

/-- 'surtitlelaw8.MarkLong', WHERE WHAT IT READS IS OF BULK AT MOST 1048576: true; the input reads as it did. -/
def markLongUptoRow : OpenClaim := { program := "ytlkdhhkncoekgaadoor", sum := "89775da27ea3a7a878ea0a55f92126c290645720c4aaaefa659c91a3c803bb41", func := "surtitle/surtitlelaw8.MarkLong", spec := "markLong", inPlace := ["internal/bytealg.IndexByteString", "internal/abi.NoEscape", "internal/bytealg.CountString", "internal/bytealg.IndexString"], unfollowed := true, recurses := true, named := ["unicode/utf8.first", "unicode/utf8.acceptRanges", "internal/bytealg.MaxLen"], apart := false, laid := [("unicode/utf8.acceptRanges", laid_unicode_utf8_acceptRanges), ("unicode/utf8.first", laid_unicode_utf8_first)], narrowed := true }
def MarkLongUptoSaid : Prop := markLongUptoRow.holds Tryd.pinned (OpenSpec.upto markLongSpec)

/-- 'surtitlelaw8.MarkNames', WHERE WHAT IT READS IS OF BULK AT MOST 1048576: true; the input reads as it did. -/
def markNamesUptoRow : OpenClaim := { program := "ytlkdhhkncoekgaadoor", sum := "89775da27ea3a7a878ea0a55f92126c290645720c4aaaefa659c91a3c803bb41", func := "surtitle/surtitlelaw8.MarkNames", spec := "markNames", inPlace := ["internal/bytealg.IndexByteString", "internal/abi.NoEscape", "internal/bytealg.CountString", "internal/bytealg.IndexString"], unfollowed := true, recurses := true, named := ["unicode/utf8.first", "unicode/utf8.acceptRanges", "internal/bytealg.MaxLen"], apart := false, laid := [("unicode/utf8.acceptRanges", laid_unicode_utf8_acceptRanges), ("unicode/utf8.first", laid_unicode_utf8_first)], narrowed := true }
def MarkNamesUptoSaid : Prop := markNamesUptoRow.holds Tryd.pinned (OpenSpec.upto markNamesSpec)

/-- 'surtitlelaw8.MarkCounts', WHERE WHAT IT READS IS OF BULK AT MOST 1048576: true; the input reads as it did. -/
def markCountsUptoRow : OpenClaim := { program := "ytlkdhhkncoekgaadoor", sum := "89775da27ea3a7a878ea0a55f92126c290645720c4aaaefa659c91a3c803bb41", func := "surtitle/surtitlelaw8.MarkCounts", spec := "markCounts", inPlace := ["internal/bytealg.IndexByteString", "internal/abi.NoEscape", "internal/bytealg.CountString", "internal/bytealg.IndexString"], unfollowed := true, recurses := true, named := ["unicode/utf8.first", "unicode/utf8.acceptRanges", "internal/bytealg.MaxLen"], apart := false, laid := [("unicode/utf8.acceptRanges", laid_unicode_utf8_acceptRanges), ("unicode/utf8.first", laid_unicode_utf8_first)], narrowed := true }
def MarkCountsUptoSaid : Prop := markCountsUptoRow.holds Tryd.pinned (OpenSpec.upto markCountsSpec)

end Rows
end Go.Proofs.YtlkdhhkncoekgaaDoor

/- The two tables of utf8, as a law's row lists them, and the heap where its call begins. -/
import Derived.Test.YtlkdhhkncoekgaaDoorAmTwo
import Derived.Test.YtlkdhhkncoekgaaDoorRows
import Derived.KernelRfl
import Derived.Deep.DeepLaidRun
namespace Go.Proofs.YtlkdhhkncoekgaaDoor
open Go.Am Go

def zsFirst : List Int := Pinned.utf8FirstZ.map Int.ofNat
def accPairs : List (Int × Int) := [(128, 191), (160, 191), (128, 159), (144, 191), (128, 143), (0, 0), (0, 0), (0, 0), (0, 0), (0, 0), (0, 0), (0, 0), (0, 0), (0, 0), (0, 0), (0, 0)]
def tabFirst : List AV := intsAV .u8 zsFirst
def tabAccept : List AV := intsAV .u8 (accPairs.flatMap fun z => [z.1, z.2])
def startTabs (e1 e2 : TypeId) : Tabs := [(1, e1, tabFirst), (2, e2, tabAccept)]

theorem own : ownKnob Tryd.prog.godebug = none := by kernel_rfl
theorem laidOut : laidOutB Tryd.prog = true := by kernel_rfl
abbrev nGlob : Nat := 3
theorem nGlobals : Tryd.prog.globals.size = nGlob := by kernel_rfl
theorem gFirst : Tryd.prog.globalNamed "unicode/utf8.first" = some 1 := by kernel_rfl
theorem gAccept : Tryd.prog.globalNamed "unicode/utf8.acceptRanges" = some 2 := by kernel_rfl
theorem tFirst : (Tryd.prog.globals[1]?).map (·.type) = some 161 := by kernel_rfl
theorem tAccept : (Tryd.prog.globals[2]?).map (·.type) = some 164 := by kernel_rfl
theorem uFirst : Tryd.prog.underlying 161 = some (.array 256 5) := by kernel_rfl
theorem uAccept : Tryd.prog.underlying 164 = some (.array 16 163) := by kernel_rfl
theorem uU8 : Tryd.prog.underlying 5 = some (.int .u8) := by kernel_rfl
theorem cFirst : Tryd.prog.cellsOf 161 = 256 := by kernel_rfl
theorem cAccept : Tryd.prog.cellsOf 164 = 16 * 2 := by kernel_rfl
theorem cRange : Tryd.prog.cellsOf 163 = 2 := by kernel_rfl
theorem cU8 : Tryd.prog.cellsOf 5 = 1 := by kernel_rfl
noncomputable def rangeOk : Bool :=
  match Tryd.prog.underlying 163 with
  | some (.struct ⟨[f0, f1]⟩) => f0.type == 5 && f1.type == 5 && f0.offset == 0 && f1.offset == 1
  | _ => false
theorem rangeOk_true : rangeOk = true := by kernel_rfl
theorem uRange : ∃ f0 f1 : Field, Tryd.prog.underlying 163 = some (.struct #[f0, f1]) ∧ f0.type = 5 ∧ f1.type = 5 ∧ f0.offset = 0 ∧ f1.offset = 1 := by
  have h := rangeOk_true
  unfold rangeOk at h
  split at h
  · rename_i f0 f1 e
    simp only [Bool.and_eq_true, beq_iff_eq] at h
    exact ⟨f0, f1, e, h.1.1.1, h.1.1.2, h.1.2, h.2⟩
  · cases h
theorem eFirst : Rows.laid_unicode_utf8_first = (Lib.tabData .u8 zsFirst : DataW Unit) := by kernel_rfl

def laidTabs : List (String × DataW Unit) := [("unicode/utf8.acceptRanges", Rows.laid_unicode_utf8_acceptRanges), ("unicode/utf8.first", Rows.laid_unicode_utf8_first)]

theorem start {W : World} (h : laidMet Tryd.prog laidTabs W) : ∃ e1 e2, HR Tryd.prog (startE Tryd.prog nGlob (startTabs e1 e2)) (Bnd.up W.heap.size) (startH nGlob (startTabs e1 e2)) W := by
  obtain ⟨ps, ⟨g, t, cs, fuel, p, q, hg, ht, hv, hd, ⟨g2, t2, cs2, fuel2, p2, q2, hg2, ht2, hv2, hd2, _, _⟩, _⟩, _⟩ := h
  obtain rfl := Option.some.inj (gAccept.symm.trans hg)
  obtain rfl := Option.some.inj (tAccept.symm.trans ht)
  obtain rfl := Option.some.inj (gFirst.symm.trans hg2)
  obtain rfl := Option.some.inj (tFirst.symm.trans ht2)
  obtain ⟨f0, f1, hu, k0, k1, k2, k3⟩ := uRange
  have c1 : cs.toList = accPairs.flatMap fun z => [Value.int .u8 z.1, .int .u8 z.2] :=
    cells_of_pairs (zs := accPairs) uAccept hu (by rw [k0]; exact uU8) (by rw [k1]; exact uU8) k2 k3 (by rw [k0]; exact cU8) (by rw [k1]; exact cU8) cRange cAccept hd
  have c2 : cs2.toList = zsFirst.map fun z => Value.int .u8 z := by
    rw [eFirst] at hd2
    exact Lib.cells_of_tab uFirst uU8 cU8 cFirst hd2
  obtain ⟨e2, h2⟩ := tab_of_cells gAccept hv (vs := tabAccept) (fun E => by rw [c1]; exact intsAV_sim .u8 (accPairs.flatMap fun z => [z.1, z.2]) E) (intsAV_one _ _)
  obtain ⟨e1, h1⟩ := tab_of_cells gFirst hv2 (vs := tabFirst) (fun E => by rw [c2]; exact intsAV_sim _ _ E) (intsAV_one _ _)
  refine ⟨e1, e2, ?_⟩
  have := HR.start (P := Tryd.prog) (W := W) (l := startTabs e1 e2) (by
    intro t ht
    rw [nGlobals]
    simp only [startTabs, List.mem_cons, List.mem_nil_iff, or_false] at ht
    rcases ht with rfl | rfl
    · exact ⟨(show 1 < nGlob by decide), h1⟩
    · exact ⟨(show 2 < nGlob by decide), h2⟩)
  rwa [nGlobals] at this

def holdCells (cs : List Value) : Obj → Obj
  | .cells _ t frozen => .cells cs.toArray t frozen
  | o => o
noncomputable def laidWorld (os : Os) : World :=
  { World.holding Tryd.prog os ⟨#[], #[], []⟩ with
    heap := ((World.holding Tryd.prog os ⟨#[], #[], []⟩).heap.modify 1 (holdCells (zsFirst.map (Value.int .u8)))).modify 2 (holdCells ((accPairs.flatMap fun z => [z.1, z.2]).map (Value.int .u8))) }

theorem follows : Tryd.prog.follows .mixedOrders = true := by kernel_rfl

theorem xIndexByte : XOk Tryd.prog 89 .indexByte := by
  refine ⟨fun args w => ?_, trivial⟩
  exact run_callFunc_extern Tryd.func89 (by kernel_rfl) (by kernel_rfl) (by kernel_rfl) (by kernel_rfl) args w
theorem xSame : XOk Tryd.prog 90 .same := by
  refine ⟨fun args w => ?_, trivial⟩
  exact run_callFunc_extern Tryd.func90 (by kernel_rfl) (by kernel_rfl) (by kernel_rfl) (by kernel_rfl) args w
theorem xCount : XOk Tryd.prog 109 .countByte := by
  refine ⟨fun args w => ?_, trivial⟩
  exact run_callFunc_extern Tryd.func109 (by kernel_rfl) (by kernel_rfl) (by kernel_rfl) (by kernel_rfl) args w

def ext : Ext := extOf [(89, .indexByte), (90, .same), (109, .countByte)]
theorem ext_ok : ExtOk Tryd.prog ext := extOf_ok (by
  intro p hp
  simp only [List.mem_cons, List.mem_nil_iff, or_false] at hp
  rcases hp with rfl | rfl | rfl
  · exact xIndexByte
  · exact xSame
  · exact xCount)
end Go.Proofs.YtlkdhhkncoekgaaDoor

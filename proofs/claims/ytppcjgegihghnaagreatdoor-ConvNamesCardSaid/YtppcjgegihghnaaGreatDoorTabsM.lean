/- The listed tables that a closed law reads (utf8's two, strconv's powers of ten), bytealg's MaxLen of which only 'five at least' is asked, and the heap where its call begins. -/
import Derived.Test.YtppcjgegihghnaaGreatDoorAmTwo
import Derived.Test.YtppcjgegihghnaaGreatDoorRows
import Derived.KernelRfl
import Derived.Deep.DeepLaidRun
import Derived.Shelf.Vars
namespace Go.Proofs.YtppcjgegihghnaaGreatDoor
open Go.Am Go

def zsFirst : List Int := Pinned.utf8FirstZ.map Int.ofNat
def accPairs : List (Int × Int) := [(128, 191), (160, 191), (128, 159), (144, 191), (128, 143), (0, 0), (0, 0), (0, 0), (0, 0), (0, 0), (0, 0), (0, 0), (0, 0), (0, 0), (0, 0), (0, 0)]
def zsPow : List Int := [1, 10, 100, 1000, 10000, 100000, 1000000, 10000000, 100000000, 1000000000, 10000000000, 100000000000, 1000000000000, 10000000000000, 100000000000000, 1000000000000000, 10000000000000000, 100000000000000000, 1000000000000000000, 10000000000000000000]
def zs32 : List Int := [0, 1, 28, 2, 29, 14, 24, 3, 30, 22, 20, 15, 25, 17, 4, 8, 31, 27, 13, 23, 21, 19, 16, 7, 26, 12, 18, 6, 11, 5, 10, 9]
def zs64 : List Int := [0, 1, 56, 2, 57, 49, 28, 3, 61, 58, 42, 50, 38, 29, 17, 4, 62, 47, 59, 36, 45, 43, 51, 22, 53, 39, 33, 30, 24, 18, 12, 5, 63, 55, 48, 27, 60, 41, 37, 16, 46, 35, 44, 21, 52, 32, 23, 11, 54, 26, 40, 15, 34, 20, 31, 10, 25, 14, 19, 9, 13, 8, 7, 6]
def tabFirst : List AV := intsAV .u8 zsFirst
def tabAccept : List AV := intsAV .u8 (accPairs.flatMap fun z => [z.1, z.2])
def tabPow : List AV := intsAV .u64 zsPow
/-- What is known of MaxLen: five at least; four; three; less than three. -/
inductive ML where
  | m5 | m4 | m3 | m0
def mlen : ML → AV
  | .m5 => .half 5 true
  | .m4 => .int .i64 4
  | .m3 => .int .i64 3
  | .m0 => .half 3 false
def startTabs (b : ML) : Tabs := [(1, 223, tabFirst), (2, 226, tabAccept), (3, 298, tabPow), (0, 3, [mlen b])]

theorem own : ownKnob Tryz.prog.godebug = none := by kernel_rfl
theorem laidOut : laidOutB Tryz.prog = true := by kernel_rfl
abbrev nGlob : Nat := 8
theorem nGlobals : Tryz.prog.globals.size = nGlob := by kernel_rfl
theorem gFirst : Tryz.prog.globalNamed "unicode/utf8.first" = some 1 := by kernel_rfl
theorem gAccept : Tryz.prog.globalNamed "unicode/utf8.acceptRanges" = some 2 := by kernel_rfl
theorem gPow : Tryz.prog.globalNamed "internal/strconv.uint64pow10" = some 3 := by kernel_rfl
theorem tFirst : (Tryz.prog.globals[1]?).map (·.type) = some 223 := by kernel_rfl
theorem tAccept : (Tryz.prog.globals[2]?).map (·.type) = some 226 := by kernel_rfl
theorem tPow : (Tryz.prog.globals[3]?).map (·.type) = some 298 := by kernel_rfl
theorem uFirst : Tryz.prog.underlying 223 = some (.array 256 5) := by kernel_rfl
theorem uAccept : Tryz.prog.underlying 226 = some (.array 16 225) := by kernel_rfl
theorem uPow : Tryz.prog.underlying 298 = some (.array 20 169) := by kernel_rfl
theorem uU8 : Tryz.prog.underlying 5 = some (.int .u8) := by kernel_rfl
theorem uU64 : Tryz.prog.underlying 169 = some (.int .u64) := by kernel_rfl
theorem uInt : Tryz.prog.underlying 3 = some (.int .i64) := by kernel_rfl
theorem cFirst : Tryz.prog.cellsOf 223 = 256 := by kernel_rfl
theorem cAccept : Tryz.prog.cellsOf 226 = 16 * 2 := by kernel_rfl
theorem cPow : Tryz.prog.cellsOf 298 = 20 := by kernel_rfl
theorem cRange : Tryz.prog.cellsOf 225 = 2 := by kernel_rfl
theorem cU8 : Tryz.prog.cellsOf 5 = 1 := by kernel_rfl
theorem cU64 : Tryz.prog.cellsOf 169 = 1 := by kernel_rfl
noncomputable def rangeOk : Bool :=
  match Tryz.prog.underlying 225 with
  | some (.struct ⟨[f0, f1]⟩) => f0.type == 5 && f1.type == 5 && f0.offset == 0 && f1.offset == 1
  | _ => false
theorem rangeOk_true : rangeOk = true := by kernel_rfl
theorem uRange : ∃ f0 f1 : Field, Tryz.prog.underlying 225 = some (.struct #[f0, f1]) ∧ f0.type = 5 ∧ f1.type = 5 ∧ f0.offset = 0 ∧ f1.offset = 1 := by
  have h := rangeOk_true
  unfold rangeOk at h
  split at h
  · rename_i f0 f1 e
    simp only [Bool.and_eq_true, beq_iff_eq] at h
    exact ⟨f0, f1, e, h.1.1.1, h.1.1.2, h.1.2, h.2⟩
  · cases h
theorem eFirst : Rows.laid_unicode_utf8_first = (Lib.tabData .u8 zsFirst : DataW Unit) := by kernel_rfl
theorem ePow : Rows.laid_internal_strconv_uint64pow10 = (Lib.tabData .u64 zsPow : DataW Unit) := by kernel_rfl

theorem laid_pick {P : Program} {w : World} {n : String} {d : DataW Unit} : ∀ {l : List (String × DataW Unit)} {ps : List MemPlace}, DataW.LaidVars P w l ps → (n, d) ∈ l →
    ∃ g t cs fuel p, P.globalNamed n = some g ∧ (P.globals[g]?).map (·.type) = some t ∧ w.var? P n = some cs ∧ DataW.trod (fun _ => ()) P w 0 (fun _ => true) false fuel t cs.toList = some (d, p)
  | [], _, _, h => by cases h
  | (m, c) :: l, ps, h, hm => by
    obtain ⟨g, t, cs, fuel, p, q, h1, h2, h3, h4, h5, h6⟩ := h
    rcases List.mem_cons.1 hm with e | hm
    · cases e; exact ⟨g, t, cs, fuel, p, h1, h2, h3, h4⟩
    · exact laid_pick h5 hm

theorem elem_of {W : World} (h : W.ShapedOpen Tryz.prog) {g : Nat} {t e : TypeId} {vs : List AV} (hg : g < Tryz.prog.globals.size) (h0 : (((begin Tryz.prog (fun _ _ => 0) default).world.heap[g]?).bind Obj.row?).map (·.2) = some t) (ht : TabAt W g e vs) : TabAt W g t vs := by
  obtain ⟨⟨zero, t'⟩, hz, rfl⟩ := Option.map_eq_some_iff.1 h0
  obtain ⟨cs, hh, _⟩ := h.1 _ _ _ hg hz
  obtain ⟨X, fr, hX, h2⟩ := ht
  rw [hX] at hh
  cases hh
  exact ⟨_, _, hX, h2⟩

/-- MaxLen's cell holds some number. -/
theorem maxLen {W : World} (h : W.ShapedOpen Tryz.prog) : ∃ b, TabAt W 0 3 [mlen b] := by
  have h0 : ((begin Tryz.prog (fun _ _ => 0) default).world.heap[0]?).bind Obj.row? = some (#[.int .i64 0], 3) := by kernel_rfl
  have hg : 0 < Tryz.prog.globals.size := by rw [nGlobals]; decide
  obtain ⟨m, hm⟩ := cell_of_shapedOpen_int (P := Tryz.prog) (g := 0) (t := 3) (zero := #[.int .i64 0]) h hg h0 rfl (by kernel_rfl) (by kernel_rfl) uInt
  obtain ⟨cs, hh, hs, _⟩ := h.1 _ _ _ hg h0
  have h1 : cs.size = 1 := hs
  obtain ⟨b, hb⟩ : ∃ b, ∀ E, VR E (mlen b) (.int .i64 m) := by
    by_cases h5 : 5 ≤ m
    · exact ⟨.m5, fun E => ⟨m, rfl, by simpa using h5⟩⟩
    by_cases h4 : m = 4
    · exact ⟨.m4, fun E => by rw [h4]; rfl⟩
    by_cases h3 : m = 3
    · exact ⟨.m3, fun E => by rw [h3]; rfl⟩
    · exact ⟨.m0, fun E => ⟨m, rfl, by simp; omega⟩⟩
  refine ⟨b, cs, _, hh, h1.symm, fun E => ?_, by cases b <;> simp [mlen, AV.one]⟩
  have hc : cs[0]'(by omega) = .int .i64 m := by
    simp [World.cell?, hh, h1] at hm
    exact hm
  have hcs : cs = #[.int .i64 m] := by
    apply Array.ext
    · simpa using h1
    · intro i hi _
      obtain rfl : i = 0 := by omega
      simpa using hc
  have : cs.toList = [.int .i64 m] := by rw [hcs]
  rw [this]
  exact ⟨_, _, rfl, hb E, rfl⟩

/-- Where a row's list is met, the call's heap is as it is told here. -/
theorem start {W : World} {l : List (String × DataW Unit)} (h : laidMet Tryz.prog l W) (hs : W.ShapedOpen Tryz.prog)
    (m1 : ("unicode/utf8.first", Rows.laid_unicode_utf8_first) ∈ l) (m2 : ("unicode/utf8.acceptRanges", Rows.laid_unicode_utf8_acceptRanges) ∈ l) (m3 : ("internal/strconv.uint64pow10", Rows.laid_internal_strconv_uint64pow10) ∈ l) :
    ∃ b, HR Tryz.prog (startE Tryz.prog nGlob (startTabs b)) (Bnd.up W.heap.size) (startH nGlob (startTabs b)) W := by
  obtain ⟨ps, hl, _⟩ := h
  obtain ⟨g, t, cs, fuel, p, hg, ht, hv, hd⟩ := laid_pick hl m2
  obtain ⟨g2, t2, cs2, fuel2, p2, hg2, ht2, hv2, hd2⟩ := laid_pick hl m1
  obtain ⟨g3, t3, cs3, fuel3, p3, hg3, ht3, hv3, hd3⟩ := laid_pick hl m3
  obtain rfl := Option.some.inj (gAccept.symm.trans hg)
  obtain rfl := Option.some.inj (tAccept.symm.trans ht)
  obtain rfl := Option.some.inj (gFirst.symm.trans hg2)
  obtain rfl := Option.some.inj (tFirst.symm.trans ht2)
  obtain rfl := Option.some.inj (gPow.symm.trans hg3)
  obtain rfl := Option.some.inj (tPow.symm.trans ht3)
  obtain ⟨f0, f1, hu, k0, k1, k2, k3⟩ := uRange
  have c1 : cs.toList = accPairs.flatMap fun z => [Value.int .u8 z.1, .int .u8 z.2] :=
    cells_of_pairs (zs := accPairs) uAccept hu (by rw [k0]; exact uU8) (by rw [k1]; exact uU8) k2 k3 (by rw [k0]; exact cU8) (by rw [k1]; exact cU8) cRange cAccept hd
  have c2 : cs2.toList = zsFirst.map fun z => Value.int .u8 z := by
    rw [eFirst] at hd2
    exact Lib.cells_of_tab uFirst uU8 cU8 cFirst hd2
  have c3 : cs3.toList = zsPow.map fun z => Value.int .u64 z := by
    rw [ePow] at hd3
    exact Lib.cells_of_tab uPow uU64 cU64 cPow hd3
  obtain ⟨e2, h2⟩ := tab_of_cells gAccept hv (vs := tabAccept) (fun E => by rw [c1]; exact intsAV_sim .u8 (accPairs.flatMap fun z => [z.1, z.2]) E) (intsAV_one _ _)
  obtain ⟨e1, h1⟩ := tab_of_cells gFirst hv2 (vs := tabFirst) (fun E => by rw [c2]; exact intsAV_sim _ _ E) (intsAV_one _ _)
  obtain ⟨e3, h3⟩ := tab_of_cells gPow hv3 (vs := tabPow) (fun E => by rw [c3]; exact intsAV_sim _ _ E) (intsAV_one _ _)
  obtain ⟨b, h4⟩ := maxLen hs
  refine ⟨b, ?_⟩
  have h1 := elem_of hs (t := 223) (by rw [nGlobals]; decide) (by kernel_rfl) h1
  have h2 := elem_of hs (t := 226) (by rw [nGlobals]; decide) (by kernel_rfl) h2
  have h3 := elem_of hs (t := 298) (by rw [nGlobals]; decide) (by kernel_rfl) h3
  have := HR.start (P := Tryz.prog) (W := W) (l := startTabs b) (by
    intro t ht
    rw [nGlobals]
    simp only [startTabs, List.mem_cons, List.mem_nil_iff, or_false] at ht
    rcases ht with rfl | rfl | rfl | rfl
    · exact ⟨(show 1 < nGlob by decide), h1⟩
    · exact ⟨(show 2 < nGlob by decide), h2⟩
    · exact ⟨(show 3 < nGlob by decide), h3⟩
    · exact ⟨(show 0 < nGlob by decide), h4⟩)
  rwa [nGlobals] at this

def holdCells (cs : List Value) : Obj → Obj
  | .cells _ t frozen => .cells cs.toArray t frozen
  | o => o
/-- A world for the witness: the settled one, the tables holding what their text lays. -/
noncomputable def laidWorld (os : Os) : World :=
  { World.holding Tryz.prog os ⟨#[], #[], []⟩ with
    heap := (((((World.holding Tryz.prog os ⟨#[], #[], []⟩).heap.modify 1 (holdCells (zsFirst.map (Value.int .u8)))).modify 2 (holdCells ((accPairs.flatMap fun z => [z.1, z.2]).map (Value.int .u8)))).modify
      3 (holdCells (zsPow.map (Value.int .u64)))).modify 4 (holdCells (zs32.map (Value.int .u8)))).modify 5 (holdCells (zs64.map (Value.int .u8))) }

theorem follows : Tryz.prog.follows .mixedOrders = true := by kernel_rfl

theorem xIndexByte : XOk Tryz.prog 187 .indexByte := by
  refine ⟨fun args w => ?_, trivial⟩
  exact run_callFunc_extern Tryz.func187 (by kernel_rfl) (by kernel_rfl) (by kernel_rfl) (by kernel_rfl) args w
theorem xSame : XOk Tryz.prog 184 .same := by
  refine ⟨fun args w => ?_, trivial⟩
  exact run_callFunc_extern Tryz.func184 (by kernel_rfl) (by kernel_rfl) (by kernel_rfl) (by kernel_rfl) args w
theorem xCount : XOk Tryz.prog 241 .countByte := by
  refine ⟨fun args w => ?_, trivial⟩
  exact run_callFunc_extern Tryz.func241 (by kernel_rfl) (by kernel_rfl) (by kernel_rfl) (by kernel_rfl) args w
theorem xIndex : XOk Tryz.prog 93 (.indexString 0) := by
  refine ⟨fun args w => ?_, (show Tryz.prog.globals.findIdx? (·.name == "internal/bytealg.MaxLen") = some 0 by kernel_rfl)⟩
  exact run_callFunc_extern Tryz.func93 (by kernel_rfl) (by kernel_rfl) (by kernel_rfl) (by kernel_rfl) args w
theorem xNoZero : XOk Tryz.prog 185 (.makeNoZero #[3] 25 5) := by
  refine ⟨fun args w => ?_, ⟨by kernel_rfl, cU8⟩⟩
  exact run_callFunc_extern Tryz.func185 (by kernel_rfl) (by kernel_rfl) (by kernel_rfl) (by kernel_rfl) args w
theorem xAdd : XOk Tryz.prog 247 .add64 := by
  refine ⟨fun args w => ?_, trivial⟩
  exact run_callFunc_extern Tryz.func247 (by kernel_rfl) (by kernel_rfl) (by kernel_rfl) (by kernel_rfl) args w
theorem xSub : XOk Tryz.prog 248 .sub64 := by
  refine ⟨fun args w => ?_, trivial⟩
  exact run_callFunc_extern Tryz.func248 (by kernel_rfl) (by kernel_rfl) (by kernel_rfl) (by kernel_rfl) args w

theorem xLoad : XOk Tryz.prog 254 (.aLoad .u32) := by
  refine ⟨fun args w => ?_, trivial⟩
  exact run_callFunc_extern Tryz.func254 (by kernel_rfl) (by kernel_rfl) (by kernel_rfl) (by kernel_rfl) args w
theorem xStore : XOk Tryz.prog 269 .aStore := by
  refine ⟨fun args w => ?_, trivial⟩
  exact run_callFunc_extern Tryz.func269 (by kernel_rfl) (by kernel_rfl) (by kernel_rfl) (by kernel_rfl) args w
theorem xAddI : XOk Tryz.prog 280 (.aAdd .i32) := by
  refine ⟨fun args w => ?_, trivial⟩
  exact run_callFunc_extern Tryz.func280 (by kernel_rfl) (by kernel_rfl) (by kernel_rfl) (by kernel_rfl) args w
theorem xCas : XOk Tryz.prog 275 (.aCas .i32) := by
  refine ⟨fun args w => ?_, trivial⟩
  exact run_callFunc_extern Tryz.func275 (by kernel_rfl) (by kernel_rfl) (by kernel_rfl) (by kernel_rfl) args w
theorem xDisable : XOk Tryz.prog 274 (.quiet false) := by
  refine ⟨fun args w => ?_, trivial⟩
  exact run_callFunc_extern Tryz.func274 (by kernel_rfl) (by kernel_rfl) (by kernel_rfl) (by kernel_rfl) args w
theorem xEnable : XOk Tryz.prog 276 (.quiet true) := by
  refine ⟨fun args w => ?_, trivial⟩
  exact run_callFunc_extern Tryz.func276 (by kernel_rfl) (by kernel_rfl) (by kernel_rfl) (by kernel_rfl) args w
theorem xAcquire : XOk Tryz.prog 277 (.race true) := by
  refine ⟨fun args w => ?_, trivial⟩
  exact run_callFunc_extern Tryz.func277 (by kernel_rfl) (by kernel_rfl) (by kernel_rfl) (by kernel_rfl) args w
theorem xRelease : XOk Tryz.prog 279 (.race false) := by
  refine ⟨fun args w => ?_, trivial⟩
  exact run_callFunc_extern Tryz.func279 (by kernel_rfl) (by kernel_rfl) (by kernel_rfl) (by kernel_rfl) args w

def ext : Ext := extOf [(187, .indexByte), (184, .same), (241, .countByte), (93, .indexString 0),
  (185, .makeNoZero #[3] 25 5), (247, .add64), (248, .sub64),
  (254, (.aLoad .u32)), (269, .aStore), (280, (.aAdd .i32)), (275, (.aCas .i32)), (274, (.quiet false)), (276, (.quiet true)), (277, (.race true)), (279, (.race false))]
theorem ext_ok : ExtOk Tryz.prog ext := extOf_ok (by
  intro p hp
  simp only [List.mem_cons, List.mem_nil_iff, or_false] at hp
  rcases hp with rfl | rfl | rfl | rfl | rfl | rfl | rfl | rfl | rfl | rfl | rfl | rfl | rfl | rfl | rfl
  · exact xIndexByte
  · exact xSame
  · exact xCount
  · exact xIndex
  · exact xNoZero
  · exact xAdd
  · exact xSub
  · exact xLoad
  · exact xStore
  · exact xAddI
  · exact xCas
  · exact xDisable
  · exact xEnable
  · exact xAcquire
  · exact xRelease)
end Go.Proofs.YtppcjgegihghnaaGreatDoor

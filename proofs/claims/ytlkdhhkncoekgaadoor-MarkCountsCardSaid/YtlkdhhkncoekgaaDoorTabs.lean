/- The two tables of utf8, as a law's row lists them, and the heap where its call begins. -/
import Derived.Test.YtlkdhhkncoekgaaDoorAmTwo
import Derived.Test.YtlkdhhkncoekgaaDoorRows
import Derived.KernelRfl
import Derived.Deep.DeepLaidRun
namespace Go.Proofs.YtlkdhhkncoekgaaDoor
open Go.Am Go
def rT:List Int:=Pinned.utf8FirstZ.map Int.ofNat
def mg:List (Int×Int):=[(128,191),(160,191),(128,159),(144,191),(128,143),(0,0),(0,0),(0,0),(0,0),(0,0),(0,0),(0,0),(0,0),(0,0),(0,0),(0,0)]
def y5:List AV:=tN .u8 rT
def vp:List AV:=tN .u8 (mg.flatMap fun z=>[z.1,z.2])
def bG (e1 e2:TypeId):nZ:=[(1,e1,y5),(2,e2,vp)]
theorem own:ownKnob Tryd.prog.godebug=none:=by kernel_rfl
theorem laidOut:laidOutB Tryd.prog=true:=by kernel_rfl
abbrev kG:Nat:=3
theorem jD:Tryd.prog.globals.size=kG:=by kernel_rfl
theorem IE:Tryd.prog.globalNamed "unicode/utf8.first" = some 1:=by kernel_rfl
theorem DL:Tryd.prog.globalNamed "unicode/utf8.acceptRanges" = some 2:=by kernel_rfl
theorem Nc:(Tryd.prog.globals[1]?).map (·.type)=some 161:=by kernel_rfl
theorem JP:(Tryd.prog.globals[2]?).map (·.type)=some 164:=by kernel_rfl
theorem M9:Tryd.prog.underlying 161=some (.array 256 5):=by kernel_rfl
theorem JN:Tryd.prog.underlying 164=some (.array 16 163):=by kernel_rfl
theorem Tf:Tryd.prog.underlying 5=some (.int .u8):=by kernel_rfl
theorem Ox:Tryd.prog.cellsOf 161=256:=by kernel_rfl
theorem LC:Tryd.prog.cellsOf 164=16*2:=by kernel_rfl
theorem Ow:Tryd.prog.cellsOf 163=2:=by kernel_rfl
theorem Vf:Tryd.prog.cellsOf 5=1:=by kernel_rfl
noncomputable def Dd:Bool :=
 match Tryd.prog.underlying 163 with
 | some (.struct ⟨[f0,f1]⟩)=>f0.type == 5 && f1.type == 5 && f0.offset == 0 && f1.offset == 1
 | _=>false
theorem xu:Dd=true:=by kernel_rfl
theorem M8 : ∃f0 f1:Field,Tryd.prog.underlying 163=some (.struct #[f0,f1])∧f0.type=5∧f1.type=5∧f0.offset=0∧f1.offset=1:=by
 have h:=xu
 unfold Dd at h
 split at h
 ·rename_i f0 f1 e
  simp only [Bool.and_eq_true,beq_iff_eq] at h
  exact ⟨f0,f1,e,h.1.1.1,h.1.1.2,h.1.2,h.2⟩
 ·cases h
theorem Om:Rows.laid_unicode_utf8_first=(Lib.tabData .u8 rT:DataW Unit):=by kernel_rfl
def Ai:List (String×DataW Unit):=[("unicode/utf8.acceptRanges",Rows.laid_unicode_utf8_acceptRanges),("unicode/utf8.first",Rows.laid_unicode_utf8_first)]
theorem start {W:World} (h:laidMet Tryd.prog Ai W) : ∃e1 e2,HR Tryd.prog (wX Tryd.prog kG (bG e1 e2)) (eS.up W.heap.size) (fA kG (bG e1 e2)) W:=by
 obtain ⟨ps,⟨g,t,cs,fuel,p,q,hg,ht,hv,hd,⟨g2,t2,RB,Xr,p2,q2,Sz,TX,YB,N5,_,_⟩,_⟩,_⟩:=h
 obtain rfl:=Option.some.inj (DL.symm.trans hg)
 obtain rfl:=Option.some.inj (JP.symm.trans ht)
 obtain rfl:=Option.some.inj (IE.symm.trans Sz)
 obtain rfl:=Option.some.inj (Nc.symm.trans TX)
 obtain ⟨f0,f1,hu,k0,k1,k2,k3⟩:=M8
 have c1:cs.toList=mg.flatMap fun z=>[Value.int .u8 z.1,.int .u8 z.2] :=
  um (zs:=mg) JN hu (by rw [k0];exact Tf) (by rw [k1];exact Tf) k2 k3 (by rw [k0];exact Vf) (by rw [k1];exact Vf) Ow LC hd
 have c2:RB.toList=rT.map fun z=>Value.int .u8 z:=by
  rw [Om] at N5
  exact Lib.cells_of_tab M9 Tf Vf Ox N5
 obtain ⟨e2,h2⟩:=ou DL hv (vs:=vp) (fun E=>by rw [c1];exact tL .u8 (mg.flatMap fun z=>[z.1,z.2]) E) (tM _ _)
 obtain ⟨e1,h1⟩:=ou IE YB (vs:=y5) (fun E=>by rw [c2];exact tL _ _ E) (tM _ _)
 refine ⟨e1,e2,?_⟩
 have:=HR.start (P:=Tryd.prog) (W:=W) (l:=bG e1 e2) (by
  intro t ht
  rw [jD]
  simp only [bG,List.mem_cons,List.mem_nil_iff,or_false] at ht
  rcases ht with rfl | rfl
  ·exact ⟨(show 1<kG by decide),h1⟩
  ·exact ⟨(show 2<kG by decide),h2⟩)
 rwa [jD] at this
def vW (cs:List Value):Obj→Obj
 | .cells _ t frozen=>.cells cs.toArray t frozen
 | o=>o
noncomputable def p4 (os:Os):World :=
 { World.holding Tryd.prog os ⟨#[],#[],[]⟩ with
  heap:=((World.holding Tryd.prog os ⟨#[],#[],[]⟩).heap.modify 1 (vW (rT.map (Value.int .u8)))).modify 2 (vW ((mg.flatMap fun z=>[z.1,z.2]).map (Value.int .u8))) }
theorem follows:Tryd.prog.follows .mixedOrders=true:=by kernel_rfl
theorem Bm:S6 Tryd.prog 89 .indexByte:=by
 refine ⟨fun args w=>?_,trivial⟩
 exact run_callFunc_extern Tryd.func89 (by kernel_rfl) (by kernel_rfl) (by kernel_rfl) (by kernel_rfl) args w
theorem Pf:S6 Tryd.prog 90 .same:=by
 refine ⟨fun args w=>?_,trivial⟩
 exact run_callFunc_extern Tryd.func90 (by kernel_rfl) (by kernel_rfl) (by kernel_rfl) (by kernel_rfl) args w
theorem M4:S6 Tryd.prog 109 .countByte:=by
 refine ⟨fun args w=>?_,trivial⟩
 exact run_callFunc_extern Tryd.func109 (by kernel_rfl) (by kernel_rfl) (by kernel_rfl) (by kernel_rfl) args w
def ext:Ext:=MJ [(89,.indexByte),(90,.same),(109,.countByte)]
theorem CJ:jg Tryd.prog ext:=IJ (by
 intro p hp
 simp only [List.mem_cons,List.mem_nil_iff,or_false] at hp
 rcases hp with rfl | rfl | rfl
 ·exact Bm
 ·exact Pf
 ·exact M4)
end Go.Proofs.YtlkdhhkncoekgaaDoor

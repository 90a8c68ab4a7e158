/- The two tables of utf8, as a law's row lists them, and the heap where its call begins. -/
import Derived.Test.YtlkdhhkncoekgaaGreatDoorAmTwo
import Derived.Test.YtlkdhhkncoekgaaGreatDoorRows
import Derived.KernelRfl
import Derived.Deep.DeepLaidRun
namespace Go.Proofs.YtlkdhhkncoekgaaGreatDoor
open Go.Am Go
def sM:List Int:=Pinned.utf8FirstZ.map Int.ofNat
def mN:List (Int×Int):=[(128,191),(160,191),(128,159),(144,191),(128,143),(0,0),(0,0),(0,0),(0,0),(0,0),(0,0),(0,0),(0,0),(0,0),(0,0),(0,0)]
def zU:List AV:=uA .u8 sM
def vZ:List AV:=uA .u8 (mN.flatMap fun z=>[z.1,z.2])
def bO (e1 e2:TypeId):oF:=[(1,e1,zU),(2,e2,vZ)]
theorem own:ownKnob Tryz.prog.godebug=none:=by kernel_rfl
theorem laidOut:laidOutB Tryz.prog=true:=by kernel_rfl
abbrev lu:Nat:=3
theorem j5:Tryz.prog.globals.size=lu:=by kernel_rfl
theorem Jl:Tryz.prog.globalNamed "unicode/utf8.first" = some 1:=by kernel_rfl
theorem Ek:Tryz.prog.globalNamed "unicode/utf8.acceptRanges" = some 2:=by kernel_rfl
theorem NR:(Tryz.prog.globals[1]?).map (·.type)=some 227:=by kernel_rfl
theorem Kv:(Tryz.prog.globals[2]?).map (·.type)=some 250:=by kernel_rfl
theorem NO:Tryz.prog.underlying 227=some (.array 256 5):=by kernel_rfl
theorem Ks:Tryz.prog.underlying 250=some (.array 16 249):=by kernel_rfl
theorem T8:Tryz.prog.underlying 5=some (.int .u8):=by kernel_rfl
theorem Pf:Tryz.prog.cellsOf 227=256:=by kernel_rfl
theorem Mj:Tryz.prog.cellsOf 250=16*2:=by kernel_rfl
theorem Pe:Tryz.prog.cellsOf 249=2:=by kernel_rfl
theorem V4:Tryz.prog.cellsOf 5=1:=by kernel_rfl
noncomputable def DN:Bool :=
 match Tryz.prog.underlying 249 with
 | some (.struct ⟨[f0,f1]⟩)=>f0.type == 5 && f1.type == 5 && f0.offset == 0 && f1.offset == 1
 | _=>false
theorem yg:DN=true:=by kernel_rfl
theorem NN : ∃f0 f1:Field,Tryz.prog.underlying 249=some (.struct #[f0,f1])∧f0.type=5∧f1.type=5∧f0.offset=0∧f1.offset=1:=by
 have h:=yg
 unfold DN at h
 split at h
 ·rename_i f0 f1 e
  simp only [Bool.and_eq_true,beq_iff_eq] at h
  exact ⟨f0,f1,e,h.1.1.1,h.1.1.2,h.1.2,h.2⟩
 ·cases h
theorem O7:Rows.laid_unicode_utf8_first=(Lib.tabData .u8 sM:DataW Unit):=by kernel_rfl
def AY:List (String×DataW Unit):=[("unicode/utf8.acceptRanges",Rows.laid_unicode_utf8_acceptRanges),("unicode/utf8.first",Rows.laid_unicode_utf8_first)]
theorem start {W:World} (h:laidMet Tryz.prog AY W) : ∃e1 e2,HR Tryz.prog (xQ Tryz.prog lu (bO e1 e2)) (eZ.up W.heap.size) (fH lu (bO e1 e2)) W:=by
 obtain ⟨ps,⟨g,t,cs,fuel,p,q,hg,ht,hv,hd,⟨g2,t2,Sr,Yj,p2,q2,Tt,UM,Zz,OS,_,_⟩,_⟩,_⟩:=h
 obtain rfl:=Option.some.inj (Ek.symm.trans hg)
 obtain rfl:=Option.some.inj (Kv.symm.trans ht)
 obtain rfl:=Option.some.inj (Jl.symm.trans Tt)
 obtain rfl:=Option.some.inj (NR.symm.trans UM)
 obtain ⟨f0,f1,hu,k0,k1,k2,k3⟩:=NN
 have c1:cs.toList=mN.flatMap fun z=>[Value.int .u8 z.1,.int .u8 z.2] :=
  u0 (zs:=mN) Ks hu (by rw [k0];exact T8) (by rw [k1];exact T8) k2 k3 (by rw [k0];exact V4) (by rw [k1];exact V4) Pe Mj hd
 have c2:Sr.toList=sM.map fun z=>Value.int .u8 z:=by
  rw [O7] at OS
  exact Lib.cells_of_tab NO T8 V4 Pf OS
 obtain ⟨e2,h2⟩:=oP Ek hv (vs:=vZ) (fun E=>by rw [c1];exact uy .u8 (mN.flatMap fun z=>[z.1,z.2]) E) (uz _ _)
 obtain ⟨e1,h1⟩:=oP Jl Zz (vs:=zU) (fun E=>by rw [c2];exact uy _ _ E) (uz _ _)
 refine ⟨e1,e2,?_⟩
 have:=HR.start (P:=Tryz.prog) (W:=W) (l:=bO e1 e2) (by
  intro t ht
  rw [j5]
  simp only [bO,List.mem_cons,List.mem_nil_iff,or_false] at ht
  rcases ht with rfl | rfl
  ·exact ⟨(show 1<lu by decide),h1⟩
  ·exact ⟨(show 2<lu by decide),h2⟩)
 rwa [j5] at this
def wU (cs:List Value):Obj→Obj
 | .cells _ t frozen=>.cells cs.toArray t frozen
 | o=>o
noncomputable def qy (os:Os):World :=
 { World.holding Tryz.prog os ⟨#[],#[],[]⟩ with
  heap:=((World.holding Tryz.prog os ⟨#[],#[],[]⟩).heap.modify 1 (wU (sM.map (Value.int .u8)))).modify 2 (wU ((mN.flatMap fun z=>[z.1,z.2]).map (Value.int .u8))) }
theorem follows:Tryz.prog.follows .mixedOrders=true:=by kernel_rfl
theorem BY:TV Tryz.prog 141 .indexByte:=by
 refine ⟨fun args w=>?_,trivial⟩
 exact run_callFunc_extern Tryz.func141 (by kernel_rfl) (by kernel_rfl) (by kernel_rfl) (by kernel_rfl) args w
theorem P5:TV Tryz.prog 134 .same:=by
 refine ⟨fun args w=>?_,trivial⟩
 exact run_callFunc_extern Tryz.func134 (by kernel_rfl) (by kernel_rfl) (by kernel_rfl) (by kernel_rfl) args w
theorem NJ:TV Tryz.prog 159 .countByte:=by
 refine ⟨fun args w=>?_,trivial⟩
 exact run_callFunc_extern Tryz.func159 (by kernel_rfl) (by kernel_rfl) (by kernel_rfl) (by kernel_rfl) args w
def ext:Ext:=Nr [(141,.indexByte),(134,.same),(159,.countByte)]
theorem Di:jF Tryz.prog ext:=Jo (by
 intro p hp
 simp only [List.mem_cons,List.mem_nil_iff,or_false] at hp
 rcases hp with rfl | rfl | rfl
 ·exact BY
 ·exact P5
 ·exact NJ)
end Go.Proofs.YtlkdhhkncoekgaaGreatDoor

/- The document's signs (chapter 1), by the reference's functions: where each begins, how long it is, its rune. -/
import Derived.Test.YtlkdhhkncoekgaaDoorOne
import Derived.Test.YtlkdhhkncoekgaaDoorMadeA
import Derived.Test.YtlkdhhkncoekgaaDoorRefVc
/- One sign. -/
section
namespace Go.Proofs.YtlkdhhkncoekgaaDoor
open Go.Am Go
set_option maxRecDepth 100000 in
theorem BX (c:Nat):Pure Tryd.prog 103 [.int .u8 c] (.int .i64 (dy c)):=by
 refine Pure.fU au [] (by kernel_rfl) rfl rfl ?_
 rw [Hq]
 unfold dy
 by_cases h1:c<128
 ·simp only [show decide ((c:Int)<128)=true from decide_eq_true (by omega),cond_true];rw [if_pos h1];rfl
 simp only [show decide ((c:Int)<128)=false from decide_eq_false (by omega),cond_false]
 rw [if_neg h1]
 by_cases h2:194≤c∧c≤223
 ·simp only [show decide ((c:Int)≥194)=true from decide_eq_true (by omega),show decide ((c:Int)≤223)=true from decide_eq_true (by omega),Bool.and_self,cond_true];rw [if_pos h2];rfl
 rw [show (decide ((c:Int)≥194) && decide ((c:Int)≤223))=false by rw [Bool.and_eq_false_iff,decide_eq_false_iff_not,decide_eq_false_iff_not];omega,cond_false,if_neg h2]
 by_cases h3:224≤c∧c≤239
 ·simp only [show decide ((c:Int)≥224)=true from decide_eq_true (by omega),show decide ((c:Int)≤239)=true from decide_eq_true (by omega),Bool.and_self,cond_true];rw [if_pos h3];rfl
 rw [show (decide ((c:Int)≥224) && decide ((c:Int)≤239))=false by rw [Bool.and_eq_false_iff,decide_eq_false_iff_not,decide_eq_false_iff_not];omega,cond_false,if_neg h3]
 by_cases h4:240≤c∧c≤244
 ·simp only [show decide ((c:Int)≥240)=true from decide_eq_true (by omega),show decide ((c:Int)≤244)=true from decide_eq_true (by omega),Bool.and_self,cond_true];rw [if_pos h4];rfl
 rw [show (decide ((c:Int)≥240) && decide ((c:Int)≤244))=false by rw [Bool.and_eq_false_iff,decide_eq_false_iff_not,decide_eq_false_iff_not];omega,cond_false,if_neg h4]
 rfl
theorem xy (c d:Nat):Pure Tryd.prog 104 [.int .u8 c,.int .u8 d] (.bool (dV c d)):=by
 refine Pure.fU au [] (by kernel_rfl) rfl rfl ?_
 rw [BW]
 have g : ∀a b:Nat,(decide ((d:Int)≥(a:Int)) && decide ((d:Int)≤(b:Int)))=(decide (a≤d) && decide (d≤b)):=fun a b=>by
  rw [show decide ((d:Int)≥(a:Int))=decide (a≤d) by rw [decide_eq_decide];omega,show decide ((d:Int)≤(b:Int))=decide (d≤b) by rw [decide_eq_decide];omega]
 have e : ∀a:Nat,((c:Int) == (a:Int))=decide (c=a):=fun a=>by rw [Bool.eq_iff_iff,beq_iff_eq,decide_eq_true_iff];omega
 have g1:=g 160 191
 have g2:=g 128 159
 have g3:=g 144 191
 have g4:=g 128 143
 have g5:=g 128 191
 have e1:=e 224
 have e2:=e 237
 have e3:=e 240
 have e4:=e 244
 unfold dV
 by_cases h1:c=224
 ·subst h1
  rw [if_pos rfl]
  exact congrArg AV.bool g1
 rw [if_neg h1,show ((c:Int) == 224)=false from e1.trans (decide_eq_false h1),cond_false]
 by_cases h2:c=237
 ·subst h2
  rw [if_pos rfl]
  exact congrArg AV.bool g2
 rw [if_neg h2,show ((c:Int) == 237)=false from e2.trans (decide_eq_false h2),cond_false]
 by_cases h3:c=240
 ·subst h3
  rw [if_pos rfl]
  exact congrArg AV.bool g3
 rw [if_neg h3,show ((c:Int) == 240)=false from e3.trans (decide_eq_false h3),cond_false]
 by_cases h4:c=244
 ·subst h4
  rw [if_pos rfl]
  exact congrArg AV.bool g4
 rw [if_neg h4,show ((c:Int) == 244)=false from e4.trans (decide_eq_false h4),cond_false]
 exact congrArg AV.bool g5
theorem gU {H:AH} {b:Nat} {s:List UInt8} {fl:Fl} (hb:H.get b=some (.cells (av s) 5 fl)) {i:Nat} (hi:i<s.length):H.ak b (0+i*1)=some (.int .u8 (ai s i 0:Nat)):=by
 unfold AH.ak ai
 rw [hb,Nat.zero_add,Nat.mul_one,Nat.add_zero]
 show (av s)[i]? = _
 unfold av
 rw [List.getElem?_map,List.getElem?_eq_getElem hi];rfl
theorem De {H:AH} {b:Nat} {s:List UInt8} {fl:Fl} (hb:H.get b=some (.cells (av s) 5 fl)) {i:Nat} (hi:i<s.length) :
  az Tryd.prog 105 [.slice (some (b,0)) s.length s.length,.int .i64 i] H fun v H'=>v=.int .i64 ((ai s i 0:Int) - 128)∧H'=H:=by
 refine .inl ⟨aB (by kernel_rfl),ew (aT:=[]) au ?_⟩
 rw [Hl]
 have hc:=dH s i 0
 refine ⟨b,0,⟨rfl,by omega,by omega⟩,(ai s i 0:Nat),gU hb hi,?_,rfl⟩
 simp only [aL]
 rw [wrap_i64 (n:=((ai s i 0:Nat):Int)) (by omega) (by omega),wrap_i64 (by omega) (by omega)]
theorem J9 {H:AH} {b:Nat} {s:List UInt8} {fl:Fl} (hb:H.get b=some (.cells (av s) 5 fl)) (i:Nat) :
  az Tryd.prog 106 [.slice (some (b,0)) s.length s.length,.int .i64 i] H fun v H'=>v=.bool (iw s i)∧H'=H:=by
 refine .inl ⟨aB (by kernel_rfl),ew (aT:=[]) au ?_⟩
 rw [Ho]
 by_cases hi:i<s.length
 ·have r:=gU hb hi
  have e:decide ((i:Int)<(s.length:Int))=decide (i<s.length):=by rw [decide_eq_decide];omega
  refine ⟨b,0,fun _=>⟨rfl,by omega,by omega⟩,(ai s i 0:Nat),fun _=>r,b,0,fun _=>⟨rfl,by omega,by omega⟩,(ai s i 0:Nat),fun _=>r,?_,rfl⟩
  unfold iw
  rw [e,Bool.and_assoc]
  congr 3
  ·rw [decide_eq_decide];omega
  ·rw [decide_eq_decide];omega
 ·have e:decide ((i:Int)<(s.length:Int))=false:=by rw [decide_eq_false_iff_not];omega
  have e' : iw s i=false:=by unfold iw;rw [decide_eq_false hi];rfl
  rw [e,e']
  exact ⟨b,0,(fun h=>by cases h),0,(fun h=>by cases h),b,0,(fun h=>by cases h),0,(fun h=>by cases h),rfl,rfl⟩
def vk (s:List UInt8) (i:Nat):Bool:=decide (ah s i=(65533,1))
def oG (s:List UInt8) (i:Nat):Nat→Int
 | 0=>(ai s i 1:Int) - 128
 | m+1=>64*oG s i m+((ai s i (m+2):Int) - 128)
set_option maxRecDepth 100000 in
theorem Nm {H:AH} {b:Nat} {s:List UInt8} {fl:Fl} (hb:H.get b=some (.cells (av s) 5 fl)) (Xa:b<H.n) {i:Nat} (hi:i<s.length) (hs:s.length≤4611686018427387904) :
  az Tryd.prog 88 [.slice (some (b,0)) s.length s.length,.int .i64 i] H fun v H' =>
   v=.agg [.int .i64 i,.int .i64 (ah s i).2,.int .i64 (ah s i).1,.bool (vk s i)]∧H.n≤H'.n∧∀c,c<H.n→H'.get c=H.get c:=by
 obtain ⟨Q,hQ⟩ : ∃Q:AV→AH→Prop,Q=fun v H'=>v=.agg [.int .i64 i,.int .i64 (ah s i).2,.int .i64 (ah s i).1,.bool (vk s i)]∧H.n≤H'.n∧∀c,c<H.n→H'.get c=H.get c:=⟨_,rfl⟩
 rw [← hQ]
 refine .inl ⟨aB (by kernel_rfl),ck (aT:=_) (dY:=_) au (Eq.mpr (J8 (real Tryd.prog) (Iter Tryd.prog) b s.length i H Q) ?_)⟩
 simp only [bL,bq,aY,bh,aJ,cm,aL]
 obtain ⟨z,hz⟩ : ∃z:aS,z=.cells [.int .i64 0,.int .i64 0,.int .i64 0,.bool false] 138 { whole:=true }:=⟨_,rfl⟩
 simp only [← hz]
 have c0:=dH s i 0
 have ZC:(H.alloc z).get b=some (.cells (av s) 5 fl):=by rw [AH.aa,if_neg (by omega)];exact hb
 obtain ⟨B,hB⟩ : ∃B,B=((H.alloc z).alloc z).set (H.n+1) (.cells [.int .i64 i,.int .i64 1,.int .i64 65533,.bool true] 138 { whole:=true }):=⟨_,rfl⟩
 have g0:B.get H.n=some z:=by rw [hB,AH.af,if_neg (by omega),AH.aa,if_neg (by simp),AH.aa,if_pos rfl]
 have g1:B.get (H.n+1)=some (.cells [.int .i64 i,.int .i64 1,.int .i64 65533,.bool true] 138 { whole:=true }):=by rw [hB,AH.af,if_pos rfl]
 have go : ∀c,c<H.n→B.get c=H.get c:=fun c hc=>by rw [hB,AH.af,if_neg (by omega),AH.aa,if_neg (by simp only [AH.aC];omega),AH.aa,if_neg (by omega)]
 have gn:B.n=H.n+2:=by rw [hB];rfl
 have Gq:B.get b=some (.cells (av s) 5 fl):=by rw [go b Xa];exact hb
 have fin : ∀(l r:Int) (bd:Bool),l=(ah s i).2→r=(ah s i).1→bd=vk s i→∃H3,B.write H.n 0 [.int .i64 i,.int .i64 l,.int .i64 r,.bool bd]=some H3∧∃(n6 n7 n8:Int) (b2:Bool),H3.read H.n 0 4=some [.int .i64 n6,.int .i64 n7,.int .i64 n8,.bool b2]∧Q (.agg [.int .i64 n6,.int .i64 n7,.int .i64 n8,.bool b2]) H3:=by
  rintro l r bd rfl rfl rfl
  refine ⟨B.set H.n (.cells [.int .i64 i,.int .i64 (ah s i).2,.int .i64 (ah s i).1,.bool (vk s i)] 138 { whole:=true }),?_,i,(ah s i).2,(ah s i).1,vk s i,?_,?_⟩
  ·unfold AH.write
   rw [g0,hz]
   simp [ax,AV.one]
  ·simp [AH.read,AH.af]
  ·rw [hQ]
   exact ⟨rfl,by show H.n≤B.n;omega,fun c hc=>by rw [AH.af,if_neg (by omega)];exact go c hc⟩
 have bad:ah s i=(65533,1)→∃(n3 n4 n5:Int) (b1:Bool),B.read (H.n+1) 0 4=some [.int .i64 n3,.int .i64 n4,.int .i64 n5,.bool b1]∧[AV.int .i64 n3,.int .i64 n4,.int .i64 n5,.bool b1].length=4 ∧
   ∃H3,B.write H.n 0 [.int .i64 n3,.int .i64 n4,.int .i64 n5,.bool b1]=some H3∧∃(n6 n7 n8:Int) (b2:Bool),H3.read H.n 0 4=some [.int .i64 n6,.int .i64 n7,.int .i64 n8,.bool b2]∧Q (.agg [.int .i64 n6,.int .i64 n7,.int .i64 n8,.bool b2]) H3:=by
  intro hd
  refine ⟨i,1,65533,true,by unfold AH.read;rw [g1];rfl,rfl,?_⟩
  exact fin 1 65533 true (by rw [hd];rfl) (by rw [hd];rfl) (by unfold vk;rw [decide_eq_true hd])
 refine ⟨b,0,⟨rfl,by omega,by omega⟩,(ai s i 0:Nat),?_,?_⟩
 ·rw [show ((i:Nat):Int).toNat=i from rfl];exact gU ZC hi
 refine (BX (ai s i 0)).dS ⟨_,rfl,rfl,B,by rw [hB];simp [AH.write,AH.aa,hz,ax,AV.one],?_⟩
 obtain ⟨L,hL⟩ : ∃L,L=dy (ai s i 0):=⟨_,rfl⟩
 have hL4:L≤4:=by
  rw [hL]
  unfold dy
  repeat' split
  all_goals omega
 rw [← hL]
 by_cases h0:L=0
 ·have e:((L:Int) == 0)=true:=by rw [beq_iff_eq];omega
  simp only [e,cond_true]
  exact bad (HB (by rw [← hL];exact h0))
 have e:((L:Int) == 0)=false:=by rw [beq_eq_false_iff_ne];omega
 simp only [e,cond_false]
 by_cases h1:L=1
 ·have e:((L:Int) == 1)=true:=by rw [beq_iff_eq];omega
  simp only [e,cond_true]
  have hd:=EU (s:=s) (i:=i) (by rw [← hL];exact h1)
  have aae:ai s i 0<128:=by
   rw [hL] at h1
   unfold dy at h1
   repeat' split at h1
   all_goals omega
  refine ⟨b,0,⟨rfl,by omega,by omega⟩,(ai s i 0:Nat),gU Gq hi,rfl,?_⟩
  rw [wrap_i64 (by omega) (by omega)]
  refine fin 1 (ai s i 0:Nat) false (by rw [hd];rfl) (by rw [hd]) ?_
  unfold vk
  rw [hd,decide_eq_false]
  intro e
  have:=congrArg Prod.fst e
  simp only at this;omega
 have e:((L:Int) == 1)=false:=by rw [beq_eq_false_iff_ne];omega
 simp only [e,cond_false]
 have Xo:2≤L:=by omega
 have w1:IntKind.i64.wrap ((i:Int)+1)=((i+1:Nat):Int):=by rw [wrap_i64 (by omega) (by omega)];omega
 simp only [w1]
 refine ⟨fun y K=>y.1=H.n∧y.2.1=(L:Int)∧y.2.2.1=H.n+1∧B=K∧y.2.2.2 = !(decide (i+1<s.length) && dV (ai s i 0) (ai s i 1)),?_,?_⟩
 ·by_cases N1:i+1<s.length
  ·have d:decide (((i+1:Nat):Int)≥(s.length:Int))=false:=by rw [decide_eq_false_iff_not];omega
   have ft:(false == false)=true:=rfl
   simp only [d,ft,cond_true]
   refine ⟨b,0,⟨rfl,by omega,by omega⟩,(ai s i 0:Nat),gU Gq hi,b,0,⟨rfl,by omega,by omega⟩,(ai s i 1:Nat),?_,?_⟩
   ·rw [show ((i+1:Nat):Int).toNat=i+1 from rfl,gU Gq N1,dI]
   ·refine (xy (ai s i 0) (ai s i 1)).dS ⟨_,rfl,(H.n,(L:Int),H.n+1,!dV (ai s i 0) (ai s i 1)),0,trivial,rfl,rfl,rfl,rfl,(by trivial),?_⟩
    rw [decide_eq_true N1,Bool.true_and]
  ·have d:decide (((i+1:Nat):Int)≥(s.length:Int))=true:=by rw [decide_eq_true_iff];omega
   have tf:(true == false)=false:=rfl
   simp only [d,tf,cond_false]
   refine ⟨(H.n,(L:Int),H.n+1,true),0,trivial,rfl,rfl,rfl,rfl,(by trivial),?_⟩
   rw [decide_eq_false N1];rfl
 rintro ⟨p1,L1,p2,bb⟩ _ ⟨e1,e2,e3,rfl,e5⟩
 simp only at e1 e2 e3 e5 ⊢
 subst e1 e2 e3
 cases bb with
 | true =>
  simp only [cond_true]
  refine bad (B4 (by rw [← hL];exact Xo) ?_)
  rintro ⟨k1,k2⟩
  rw [decide_eq_true k1,k2] at e5
  cases e5
 | false =>
 simp only [cond_false]
 have KH:i+1<s.length∧dV (ai s i 0) (ai s i 1)=true:=by
  have:(decide (i+1<s.length) && dV (ai s i 0) (ai s i 1))=true:=by
   cases hh:(decide (i+1<s.length) && dV (ai s i 0) (ai s i 1)) with
   | true=>rfl
   | false=>rw [hh] at e5;cases e5
  simpa using this
 have MC:128≤ai s i 1∧ai s i 1≤191:=by
  have:=KH.2
  unfold dV at this
  repeat' split at this
  all_goals simp only [Bool.and_eq_true,decide_eq_true_eq] at this
  all_goals omega
 have acc : ∀m,m≤2→(∀k,2≤k→k<m+2→iw s (i+k)=true)→0≤oG s i m∧oG s i m<64 ^ (m+1):=by
  intro m
  induction m with
  | zero=>intro _ _;simp only [oG];omega
  | succ m ih =>
   intro hm hk
   have:=ih (by omega) fun k h1 h2=>hk k h1 (by omega)
   have mo:=hk (m+2) (by omega) (by omega)
   unfold iw at mo
   rw [dI] at mo
   simp only [Bool.and_eq_true,decide_eq_true_eq] at mo
   have p:(64:Int) ^ (m+1+1)=64 ^ (m+1)*64:=Int.pow_succ ..
   simp only [oG]
   rw [p]
   omega
 refine (De Gq KH.1).mono ?_
 rintro v K ⟨rfl,rfl⟩
 rw [dI]
 refine ⟨_,rfl,fun y K' k=>∃m:Nat,y=(H.n,(L:Int),H.n+1,oG s i m,((m+2:Nat):Int))∧m+2≤L∧(∀k,2≤k→k<m+2→iw s (i+k)=true)∧K=K'∧k=4 - m,⟨(H.n,(L:Int),H.n+1,(ai s i 1:Int) - 128,2),4,rfl,0,rfl,by omega,fun k h1 h2=>by omega,rfl,rfl⟩,?_⟩
 rintro _ _ _ ⟨m,rfl,hm,hk,rfl,rfl⟩
 simp only
 have O1:=acc m (by omega) hk
 have hp:(64:Int) ^ (m+1)≤262144:=by
  match m,(show m≤2 by omega) with
  | 0,_=>decide
  | 1,_=>decide
  | 2,_=>decide
 by_cases Y2:m+2<L
 ·have d:decide (((m+2:Nat):Int)<(L:Int))=true:=by rw [decide_eq_true_iff];omega
  simp only [d,cond_true]
  have w2:IntKind.i64.wrap ((i:Int)+((m+2:Nat):Int))=((i+(m+2):Nat):Int):=by rw [wrap_i64 (by omega) (by omega)];omega
  rw [w2]
  refine (J9 Gq (i+(m+2))).mono ?_
  rintro v K' ⟨rfl,rfl⟩
  refine ⟨_,rfl,?_⟩
  cases OW:iw s (i+(m+2)) with
  | false =>
   simp only [Bool.not_false,cond_true]
   exact bad (HC (k:=m+2) (by omega) (by rw [← hL];exact Y2) OW)
  | true =>
   simp only [Bool.not_true,cond_false]
   have N0:i+(m+2)<s.length:=by
    unfold iw at OW
    simp only [Bool.and_eq_true,decide_eq_true_eq] at OW
    exact OW.1
   refine (De Gq N0).mono ?_
   rintro v K2 ⟨rfl,rfl⟩
   rw [dI]
   have mo:=OW
   unfold iw at mo
   rw [dI] at mo
   simp only [Bool.and_eq_true,decide_eq_true_eq] at mo
   have w3:IntKind.i64.wrap (64*oG s i m)=64*oG s i m:=wrap_i64 (by omega) (by omega)
   have w4:IntKind.i64.wrap (64*oG s i m+((ai s i (m+2):Int) - 128))=oG s i (m+1):=by rw [wrap_i64 (by omega) (by omega)];rfl
   have w5:IntKind.i64.wrap (((m+2:Nat):Int)+1)=((m+1+2:Nat):Int):=by rw [wrap_i64 (by omega) (by omega)];omega
   refine ⟨_,rfl,(H.n,(L:Int),H.n+1,oG s i (m+1),((m+1+2:Nat):Int)),4 - (m+1),by omega,?_,m+1,rfl,by omega,fun k k1 k2=>?_,rfl,rfl⟩
   ·rw [w3,w4,w5]
   ·rcases Nat.lt_or_ge k (m+2) with g | g
    ·exact hk k k1 g
    ·rw [show k=m+2 by omega];exact OW
 ·have d:decide (((m+2:Nat):Int)<(L:Int))=false:=by rw [decide_eq_false_iff_not];omega
  simp only [d,cond_false]
  have Bh:L=m+2:=by omega
  obtain ⟨Td,w2',X4⟩:=ET (s:=s) (i:=i) (by rw [← hL];exact Xo) KH.1 KH.2 (fun k k1 k2=>hk k k1 (by rw [← hL] at k2;omega))
  rw [← hL] at Td
  have hlen:(ah s i).2=L:=by rw [Td]
  have N8:vk s i=false:=by unfold vk;exact decide_eq_false X4
  have Fw:(L=2→192≤ai s i 0)∧(L=3→224≤ai s i 0)∧(L=4→240≤ai s i 0):=by
   rw [hL]
   unfold dy
   repeat' split
   all_goals omega
  have gk : ∀k,2≤k→k<m+2→128≤ai s i k:=fun k k1 k2=>by
   have:=hk k k1 k2
   unfold iw at this
   rw [dI] at this
   simp only [Bool.and_eq_true,decide_eq_true_eq] at this
   exact this.2.1
  have tQ:=congrArg Prod.fst Td
  simp only at tQ
  have wn:IntKind.i64.wrap ((ai s i 0:Nat):Int)=((ai s i 0:Nat):Int):=wrap_i64 (by omega) (by omega)
  match m,(show m≤2 by omega),Bh with
  | 0,_,Bh =>
   rw [Bh] at Fw
   have Rr:=Fw.1 rfl
   rw [Bh,if_pos rfl] at tQ
   simp only [oG] at O1 ⊢
   have e:((L:Int) == 2)=true:=by rw [Bh];rfl
   simp only [e,cond_true]
   refine ⟨b,0,⟨rfl,by omega,by omega⟩,(ai s i 0:Nat),gU Gq hi,rfl,?_⟩
   rw [wn,wrap_i64 (n:=((ai s i 0:Nat):Int) - 192) (by omega) (by omega),wrap_i64 (n:=64*(((ai s i 0:Nat):Int) - 192)) (by omega) (by omega),wrap_i64 (by omega) (by omega)]
   exact fin _ _ _ (by rw [hlen]) (by rw [tQ];omega) N8.symm
  | 1,_,Bh =>
   rw [Bh] at Fw
   have Rr:=Fw.2.1 rfl
   have k2:=gk 2 (by omega) (by omega)
   rw [Bh,if_neg (by decide),if_pos rfl] at tQ
   have z1:oG s i 1=64*((ai s i 1:Int) - 128)+((ai s i 2:Int) - 128):=rfl
   rw [z1] at O1 ⊢
   have e2:((L:Int) == 2)=false:=by rw [Bh];rfl
   have e:((L:Int) == 3)=true:=by rw [Bh];rfl
   simp only [e2,e,cond_true,cond_false]
   refine ⟨b,0,⟨rfl,by omega,by omega⟩,(ai s i 0:Nat),gU Gq hi,rfl,?_⟩
   rw [wn,wrap_i64 (n:=((ai s i 0:Nat):Int) - 224) (by omega) (by omega),wrap_i64 (n:=4096*(((ai s i 0:Nat):Int) - 224)) (by omega) (by omega),wrap_i64 (by omega) (by omega)]
   exact fin _ _ _ (by rw [hlen]) (by rw [tQ];omega) N8.symm
  | 2,_,Bh =>
   rw [Bh] at Fw
   have Rr:=Fw.2.2 rfl
   have k2:=gk 2 (by omega) (by omega)
   have k3:=gk 3 (by omega) (by omega)
   rw [Bh,if_neg (by decide),if_neg (by decide)] at tQ
   have z1:oG s i 2=64*(64*((ai s i 1:Int) - 128)+((ai s i 2:Int) - 128))+((ai s i 3:Int) - 128):=rfl
   rw [z1] at O1 ⊢
   have e2:((L:Int) == 2)=false:=by rw [Bh];rfl
   have e3:((L:Int) == 3)=false:=by rw [Bh];rfl
   have e:((L:Int) == 4)=true:=by rw [Bh];rfl
   simp only [e2,e3,e,cond_true,cond_false]
   refine ⟨b,0,⟨rfl,by omega,by omega⟩,(ai s i 0:Nat),gU Gq hi,rfl,?_⟩
   rw [wn,wrap_i64 (n:=((ai s i 0:Nat):Int) - 240) (by omega) (by omega),wrap_i64 (n:=262144*(((ai s i 0:Nat):Int) - 240)) (by omega) (by omega),wrap_i64 (by omega) (by omega)]
   exact fin _ _ _ (by rw [hlen]) (by rw [tQ];omega) N8.symm
end Go.Proofs.YtlkdhhkncoekgaaDoor
end

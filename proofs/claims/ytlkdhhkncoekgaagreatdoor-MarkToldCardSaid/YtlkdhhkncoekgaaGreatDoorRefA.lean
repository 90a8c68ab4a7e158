/- The document's signs (chapter 1), by the reference's functions: where each begins, how long it is, its rune. -/
import Derived.Test.YtlkdhhkncoekgaaGreatDoorOne
import Derived.Test.YtlkdhhkncoekgaaGreatDoorMadeA
import Derived.Test.YtlkdhhkncoekgaaGreatDoorRefVc
/- One sign. -/
section
namespace Go.Proofs.YtlkdhhkncoekgaaGreatDoor
open Go.Am Go
set_option maxRecDepth 100000 in
theorem CB (c:Nat):Pure Tryz.prog 148 [.int .u8 c] (.int .i64 (dH c)):=by
 refine Pure.fB aq [] (by kernel_rfl) rfl rfl ?_
 rw [Ia]
 unfold dH
 by_cases h1:c<128
 ·simp only [show decide ((c:Int)<128)=true from decide_eq_true (by omega),cond_true];rw [if_pos h1];rfl
 simp only [show decide ((c:Int)<128)=false from decide_eq_false (by omega),cond_false]
 rw [if_neg h1]
 by_cases h2:194≤c∧c≤223
 ·simp only [show decide ((c:Int)≥194)=true from decide_eq_true (by omega),show decide ((c:Int)≤223)=true from decide_eq_true (by omega),Bool.and_self,cond_true];rw [if_pos h2];rfl
 rw [show (decide ((c:Int)≥194) && decide ((c:Int)≤223))=false by rw [Bool.and_eq_false_iff,decide_eq_false_iff_not,decide_eq_false_iff_not];omega,cond_false,if_neg h2]
 by_cases h3:224≤c∧c≤239
 ·simp only [show decide ((c:Int)≥224)=true from decide_eq_true (by omega),show decide ((c:Int)≤239)=true from decide_eq_true (by omega),Bool.and_self,cond_true];rw [if_pos h3];rfl
 rw [show (decide ((c:Int)≥224) && decide ((c:Int)≤239))=false by rw [Bool.and_eq_false_iff,decide_eq_false_iff_not,decide_eq_false_iff_not];omega,cond_false,if_neg h3]
 by_cases h4:240≤c∧c≤244
 ·simp only [show decide ((c:Int)≥240)=true from decide_eq_true (by omega),show decide ((c:Int)≤244)=true from decide_eq_true (by omega),Bool.and_self,cond_true];rw [if_pos h4];rfl
 rw [show (decide ((c:Int)≥240) && decide ((c:Int)≤244))=false by rw [Bool.and_eq_false_iff,decide_eq_false_iff_not,decide_eq_false_iff_not];omega,cond_false,if_neg h4]
 rfl
theorem yl (c d:Nat):Pure Tryz.prog 149 [.int .u8 c,.int .u8 d] (.bool (ew c d)):=by
 refine Pure.fB aq [] (by kernel_rfl) rfl rfl ?_
 rw [Cz]
 have g : ∀a b:Nat,(decide ((d:Int)≥(a:Int)) && decide ((d:Int)≤(b:Int)))=(decide (a≤d) && decide (d≤b)):=fun a b=>by
  rw [show decide ((d:Int)≥(a:Int))=decide (a≤d) by rw [decide_eq_decide];omega,show decide ((d:Int)≤(b:Int))=decide (d≤b) by rw [decide_eq_decide];omega]
 have e : ∀a:Nat,((c:Int) == (a:Int))=decide (c=a):=fun a=>by rw [Bool.eq_iff_iff,beq_iff_eq,decide_eq_true_iff];omega
 have g1:=g 160 191
 have g2:=g 128 159
 have g3:=g 144 191
 have g4:=g 128 143
 have g5:=g 128 191
 have e1:=e 224
 have e2:=e 237
 have e3:=e 240
 have e4:=e 244
 unfold ew
 by_cases h1:c=224
 ·subst h1
  rw [if_pos rfl]
  exact congrArg AV.bool g1
 rw [if_neg h1,show ((c:Int) == 224)=false from e1.trans (decide_eq_false h1),cond_false]
 by_cases h2:c=237
 ·subst h2
  rw [if_pos rfl]
  exact congrArg AV.bool g2
 rw [if_neg h2,show ((c:Int) == 237)=false from e2.trans (decide_eq_false h2),cond_false]
 by_cases h3:c=240
 ·subst h3
  rw [if_pos rfl]
  exact congrArg AV.bool g3
 rw [if_neg h3,show ((c:Int) == 240)=false from e3.trans (decide_eq_false h3),cond_false]
 by_cases h4:c=244
 ·subst h4
  rw [if_pos rfl]
  exact congrArg AV.bool g4
 rw [if_neg h4,show ((c:Int) == 244)=false from e4.trans (decide_eq_false h4),cond_false]
 exact congrArg AV.bool g5
theorem iy {H:AH} {b:Nat} {s:List UInt8} {fl:Fl} (hb:H.get b=some (.cells (aC s) 5 fl)) {i:Nat} (hi:i<s.length):H.ak b (0+i*1)=some (.int .u8 (ai s i 0:Nat)):=by
 unfold AH.ak ai
 rw [hb,Nat.zero_add,Nat.mul_one,Nat.add_zero]
 show (aC s)[i]? = _
 unfold aC
 rw [List.getElem?_map,List.getElem?_eq_getElem hi];rfl
theorem DO {H:AH} {b:Nat} {s:List UInt8} {fl:Fl} (hb:H.get b=some (.cells (aC s) 5 fl)) {i:Nat} (hi:i<s.length) :
  aD Tryz.prog 150 [.slice (some (b,0)) s.length s.length,.int .i64 i] H fun v H'=>v=.int .i64 ((ai s i 0:Int) - 128)∧H'=H:=by
 refine .inl ⟨aB (by kernel_rfl),c6 (aS:=[]) aq ?_⟩
 rw [HV]
 have hc:=dV s i 0
 refine ⟨b,0,⟨rfl,by omega,by omega⟩,(ai s i 0:Nat),iy hb hi,?_,rfl⟩
 simp only [aK]
 rw [wrap_i64 (n:=((ai s i 0:Nat):Int)) (by omega) (by omega),wrap_i64 (by omega) (by omega)]
theorem KP {H:AH} {b:Nat} {s:List UInt8} {fl:Fl} (hb:H.get b=some (.cells (aC s) 5 fl)) (i:Nat) :
  aD Tryz.prog 151 [.slice (some (b,0)) s.length s.length,.int .i64 i] H fun v H'=>v=.bool (iQ s i)∧H'=H:=by
 refine .inl ⟨aB (by kernel_rfl),c6 (aS:=[]) aq ?_⟩
 rw [HX]
 by_cases hi:i<s.length
 ·have r:=iy hb hi
  have e:decide ((i:Int)<(s.length:Int))=decide (i<s.length):=by rw [decide_eq_decide];omega
  refine ⟨b,0,fun _=>⟨rfl,by omega,by omega⟩,(ai s i 0:Nat),fun _=>r,b,0,fun _=>⟨rfl,by omega,by omega⟩,(ai s i 0:Nat),fun _=>r,?_,rfl⟩
  unfold iQ
  rw [e,Bool.and_assoc]
  congr 3
  ·rw [decide_eq_decide];omega
  ·rw [decide_eq_decide];omega
 ·have e:decide ((i:Int)<(s.length:Int))=false:=by rw [decide_eq_false_iff_not];omega
  have e' : iQ s i=false:=by unfold iQ;rw [decide_eq_false hi];rfl
  rw [e,e']
  exact ⟨b,0,(fun h=>by cases h),0,(fun h=>by cases h),b,0,(fun h=>by cases h),0,(fun h=>by cases h),rfl,rfl⟩
def vU (s:List UInt8) (i:Nat):Bool:=decide (ah s i=(65533,1))
def oZ (s:List UInt8) (i:Nat):Nat→Int
 | 0=>(ai s i 1:Int) - 128
 | m+1=>64*oZ s i m+((ai s i (m+2):Int) - 128)
set_option maxRecDepth 100000 in
theorem N2 {H:AH} {b:Nat} {s:List UInt8} {fl:Fl} (hb:H.get b=some (.cells (aC s) 5 fl)) (X0:b<H.n) {i:Nat} (hi:i<s.length) (hs:s.length≤4611686018427387904) :
  aD Tryz.prog 132 [.slice (some (b,0)) s.length s.length,.int .i64 i] H fun v H' =>
   v=.agg [.int .i64 i,.int .i64 (ah s i).2,.int .i64 (ah s i).1,.bool (vU s i)]∧H.n≤H'.n∧∀c,c<H.n→H'.get c=H.get c:=by
 obtain ⟨Q,hQ⟩ : ∃Q:AV→AH→Prop,Q=fun v H'=>v=.agg [.int .i64 i,.int .i64 (ah s i).2,.int .i64 (ah s i).1,.bool (vU s i)]∧H.n≤H'.n∧∀c,c<H.n→H'.get c=H.get c:=⟨_,rfl⟩
 rw [← hQ]
 refine .inl ⟨aB (by kernel_rfl),bP (aS:=_) (c9:=_) aq (Eq.mpr (KN (real Tryz.prog) (Iter Tryz.prog) b s.length i H Q) ?_)⟩
 simp only [bu,aU,aQ,aP,aF,bU,aK]
 obtain ⟨z,hz⟩ : ∃z:aY,z=.cells [.int .i64 0,.int .i64 0,.int .i64 0,.bool false] 183 { whole:=true }:=⟨_,rfl⟩
 simp only [← hz]
 have c0:=dV s i 0
 have VB:(H.alloc z).get b=some (.cells (aC s) 5 fl):=by rw [AH.aa,if_neg (by omega)];exact hb
 obtain ⟨B,hB⟩ : ∃B,B=((H.alloc z).alloc z).set (H.n+1) (.cells [.int .i64 i,.int .i64 1,.int .i64 65533,.bool true] 183 { whole:=true }):=⟨_,rfl⟩
 have g0:B.get H.n=some z:=by rw [hB,AH.af,if_neg (by omega),AH.aa,if_neg (by simp),AH.aa,if_pos rfl]
 have g1:B.get (H.n+1)=some (.cells [.int .i64 i,.int .i64 1,.int .i64 65533,.bool true] 183 { whole:=true }):=by rw [hB,AH.af,if_pos rfl]
 have go : ∀c,c<H.n→B.get c=H.get c:=fun c hc=>by rw [hB,AH.af,if_neg (by omega),AH.aa,if_neg (by simp only [AH.az];omega),AH.aa,if_neg (by omega)]
 have gn:B.n=H.n+2:=by rw [hB];rfl
 have GS:B.get b=some (.cells (aC s) 5 fl):=by rw [go b X0];exact hb
 have fin : ∀(l r:Int) (bd:Bool),l=(ah s i).2→r=(ah s i).1→bd=vU s i→∃H3,B.write H.n 0 [.int .i64 i,.int .i64 l,.int .i64 r,.bool bd]=some H3∧∃(n6 n7 n8:Int) (b2:Bool),H3.read H.n 0 4=some [.int .i64 n6,.int .i64 n7,.int .i64 n8,.bool b2]∧Q (.agg [.int .i64 n6,.int .i64 n7,.int .i64 n8,.bool b2]) H3:=by
  rintro l r bd rfl rfl rfl
  refine ⟨B.set H.n (.cells [.int .i64 i,.int .i64 (ah s i).2,.int .i64 (ah s i).1,.bool (vU s i)] 183 { whole:=true }),?_,i,(ah s i).2,(ah s i).1,vU s i,?_,?_⟩
  ·unfold AH.write
   rw [g0,hz]
   simp [aA,AV.one]
  ·simp [AH.read,AH.af]
  ·rw [hQ]
   exact ⟨rfl,by show H.n≤B.n;omega,fun c hc=>by rw [AH.af,if_neg (by omega)];exact go c hc⟩
 have bad:ah s i=(65533,1)→∃(n3 n4 n5:Int) (b1:Bool),B.read (H.n+1) 0 4=some [.int .i64 n3,.int .i64 n4,.int .i64 n5,.bool b1]∧[AV.int .i64 n3,.int .i64 n4,.int .i64 n5,.bool b1].length=4 ∧
   ∃H3,B.write H.n 0 [.int .i64 n3,.int .i64 n4,.int .i64 n5,.bool b1]=some H3∧∃(n6 n7 n8:Int) (b2:Bool),H3.read H.n 0 4=some [.int .i64 n6,.int .i64 n7,.int .i64 n8,.bool b2]∧Q (.agg [.int .i64 n6,.int .i64 n7,.int .i64 n8,.bool b2]) H3:=by
  intro hd
  refine ⟨i,1,65533,true,by unfold AH.read;rw [g1];rfl,rfl,?_⟩
  exact fin 1 65533 true (by rw [hd];rfl) (by rw [hd];rfl) (by unfold vU;rw [decide_eq_true hd])
 refine ⟨b,0,⟨rfl,by omega,by omega⟩,(ai s i 0:Nat),?_,?_⟩
 ·rw [show ((i:Nat):Int).toNat=i from rfl];exact iy VB hi
 refine (CB (ai s i 0)).c7 ⟨_,rfl,rfl,B,by rw [hB];simp [AH.write,AH.aa,hz,aA,AV.one],?_⟩
 obtain ⟨L,hL⟩ : ∃L,L=dH (ai s i 0):=⟨_,rfl⟩
 have hL4:L≤4:=by
  rw [hL]
  unfold dH
  repeat' split
  all_goals omega
 rw [← hL]
 by_cases h0:L=0
 ·have e:((L:Int) == 0)=true:=by rw [beq_iff_eq];omega
  simp only [e,cond_true]
  exact bad (Il (by rw [← hL];exact h0))
 have e:((L:Int) == 0)=false:=by rw [beq_eq_false_iff_ne];omega
 simp only [e,cond_false]
 by_cases h1:L=1
 ·have e:((L:Int) == 1)=true:=by rw [beq_iff_eq];omega
  simp only [e,cond_true]
  have hd:=Fz (s:=s) (i:=i) (by rw [← hL];exact h1)
  have abe:ai s i 0<128:=by
   rw [hL] at h1
   unfold dH at h1
   repeat' split at h1
   all_goals omega
  refine ⟨b,0,⟨rfl,by omega,by omega⟩,(ai s i 0:Nat),iy GS hi,rfl,?_⟩
  rw [wrap_i64 (by omega) (by omega)]
  refine fin 1 (ai s i 0:Nat) false (by rw [hd];rfl) (by rw [hd]) ?_
  unfold vU
  rw [hd,decide_eq_false]
  intro e
  have:=congrArg Prod.fst e
  simp only at this;omega
 have e:((L:Int) == 1)=false:=by rw [beq_eq_false_iff_ne];omega
 simp only [e,cond_false]
 have Yf:2≤L:=by omega
 have w1:IntKind.i64.wrap ((i:Int)+1)=((i+1:Nat):Int):=by rw [wrap_i64 (by omega) (by omega)];omega
 simp only [w1]
 refine ⟨fun y K=>y.1=H.n∧y.2.1=(L:Int)∧y.2.2.1=H.n+1∧B=K∧y.2.2.2 = !(decide (i+1<s.length) && ew (ai s i 0) (ai s i 1)),?_,?_⟩
 ·by_cases ON:i+1<s.length
  ·have d:decide (((i+1:Nat):Int)≥(s.length:Int))=false:=by rw [decide_eq_false_iff_not];omega
   have ft:(false == false)=true:=rfl
   simp only [d,ft,cond_true]
   refine ⟨b,0,⟨rfl,by omega,by omega⟩,(ai s i 0:Nat),iy GS hi,b,0,⟨rfl,by omega,by omega⟩,(ai s i 1:Nat),?_,?_⟩
   ·rw [show ((i+1:Nat):Int).toNat=i+1 from rfl,iy GS ON,dW]
   ·refine (yl (ai s i 0) (ai s i 1)).c7 ⟨_,rfl,(H.n,(L:Int),H.n+1,!ew (ai s i 0) (ai s i 1)),0,trivial,rfl,rfl,rfl,rfl,(by trivial),?_⟩
    rw [decide_eq_true ON,Bool.true_and]
  ·have d:decide (((i+1:Nat):Int)≥(s.length:Int))=true:=by rw [decide_eq_true_iff];omega
   have tf:(true == false)=false:=rfl
   simp only [d,tf,cond_false]
   refine ⟨(H.n,(L:Int),H.n+1,true),0,trivial,rfl,rfl,rfl,rfl,(by trivial),?_⟩
   rw [decide_eq_false ON];rfl
 rintro ⟨p1,L1,p2,bb⟩ _ ⟨e1,e2,e3,rfl,e5⟩
 simp only at e1 e2 e3 e5 ⊢
 subst e1 e2 e3
 cases bb with
 | true =>
  simp only [cond_true]
  refine bad (CI (by rw [← hL];exact Yf) ?_)
  rintro ⟨k1,k2⟩
  rw [decide_eq_true k1,k2] at e5
  cases e5
 | false =>
 simp only [cond_false]
 have LA:i+1<s.length∧ew (ai s i 0) (ai s i 1)=true:=by
  have:(decide (i+1<s.length) && ew (ai s i 0) (ai s i 1))=true:=by
   cases hh:(decide (i+1<s.length) && ew (ai s i 0) (ai s i 1)) with
   | true=>rfl
   | false=>rw [hh] at e5;cases e5
  simpa using this
 have Nk:128≤ai s i 1∧ai s i 1≤191:=by
  have:=LA.2
  unfold ew at this
  repeat' split at this
  all_goals simp only [Bool.and_eq_true,decide_eq_true_eq] at this
  all_goals omega
 have acc : ∀m,m≤2→(∀k,2≤k→k<m+2→iQ s (i+k)=true)→0≤oZ s i m∧oZ s i m<64 ^ (m+1):=by
  intro m
  induction m with
  | zero=>intro _ _;simp only [oZ];omega
  | succ m ih =>
   intro hm hk
   have:=ih (by omega) fun k h1 h2=>hk k h1 (by omega)
   have mo:=hk (m+2) (by omega) (by omega)
   unfold iQ at mo
   rw [dW] at mo
   simp only [Bool.and_eq_true,decide_eq_true_eq] at mo
   have p:(64:Int) ^ (m+1+1)=64 ^ (m+1)*64:=Int.pow_succ ..
   simp only [oZ]
   rw [p]
   omega
 refine (DO GS LA.1).mono ?_
 rintro v K ⟨rfl,rfl⟩
 rw [dW]
 refine ⟨_,rfl,fun y K' k=>∃m:Nat,y=(H.n,(L:Int),H.n+1,oZ s i m,((m+2:Nat):Int))∧m+2≤L∧(∀k,2≤k→k<m+2→iQ s (i+k)=true)∧K=K'∧k=4 - m,⟨(H.n,(L:Int),H.n+1,(ai s i 1:Int) - 128,2),4,rfl,0,rfl,by omega,fun k h1 h2=>by omega,rfl,rfl⟩,?_⟩
 rintro _ _ _ ⟨m,rfl,hm,hk,rfl,rfl⟩
 simp only
 have PR:=acc m (by omega) hk
 have hp:(64:Int) ^ (m+1)≤262144:=by
  match m,(show m≤2 by omega) with
  | 0,_=>decide
  | 1,_=>decide
  | 2,_=>decide
 by_cases Z0:m+2<L
 ·have d:decide (((m+2:Nat):Int)<(L:Int))=true:=by rw [decide_eq_true_iff];omega
  simp only [d,cond_true]
  have w2:IntKind.i64.wrap ((i:Int)+((m+2:Nat):Int))=((i+(m+2):Nat):Int):=by rw [wrap_i64 (by omega) (by omega)];omega
  rw [w2]
  refine (KP GS (i+(m+2))).mono ?_
  rintro v K' ⟨rfl,rfl⟩
  refine ⟨_,rfl,?_⟩
  cases PE:iQ s (i+(m+2)) with
  | false =>
   simp only [Bool.not_false,cond_true]
   exact bad (Im (k:=m+2) (by omega) (by rw [← hL];exact Z0) PE)
  | true =>
   simp only [Bool.not_true,cond_false]
   have OM:i+(m+2)<s.length:=by
    unfold iQ at PE
    simp only [Bool.and_eq_true,decide_eq_true_eq] at PE
    exact PE.1
   refine (DO GS OM).mono ?_
   rintro v K2 ⟨rfl,rfl⟩
   rw [dW]
   have mo:=PE
   unfold iQ at mo
   rw [dW] at mo
   simp only [Bool.and_eq_true,decide_eq_true_eq] at mo
   have w3:IntKind.i64.wrap (64*oZ s i m)=64*oZ s i m:=wrap_i64 (by omega) (by omega)
   have w4:IntKind.i64.wrap (64*oZ s i m+((ai s i (m+2):Int) - 128))=oZ s i (m+1):=by rw [wrap_i64 (by omega) (by omega)];rfl
   have w5:IntKind.i64.wrap (((m+2:Nat):Int)+1)=((m+1+2:Nat):Int):=by rw [wrap_i64 (by omega) (by omega)];omega
   refine ⟨_,rfl,(H.n,(L:Int),H.n+1,oZ s i (m+1),((m+1+2:Nat):Int)),4 - (m+1),by omega,?_,m+1,rfl,by omega,fun k k1 k2=>?_,rfl,rfl⟩
   ·rw [w3,w4,w5]
   ·rcases Nat.lt_or_ge k (m+2) with g | g
    ·exact hk k k1 g
    ·rw [show k=m+2 by omega];exact PE
 ·have d:decide (((m+2:Nat):Int)<(L:Int))=false:=by rw [decide_eq_false_iff_not];omega
  simp only [d,cond_false]
  have BV:L=m+2:=by omega
  obtain ⟨T6,w2',YX⟩:=Fy (s:=s) (i:=i) (by rw [← hL];exact Yf) LA.1 LA.2 (fun k k1 k2=>hk k k1 (by rw [← hL] at k2;omega))
  rw [← hL] at T6
  have hlen:(ah s i).2=L:=by rw [T6]
  have OV:vU s i=false:=by unfold vU;exact decide_eq_false YX
  have F6:(L=2→192≤ai s i 0)∧(L=3→224≤ai s i 0)∧(L=4→240≤ai s i 0):=by
   rw [hL]
   unfold dH
   repeat' split
   all_goals omega
  have gk : ∀k,2≤k→k<m+2→128≤ai s i k:=fun k k1 k2=>by
   have:=hk k k1 k2
   unfold iQ at this
   rw [dW] at this
   simp only [Bool.and_eq_true,decide_eq_true_eq] at this
   exact this.2.1
  have uE:=congrArg Prod.fst T6
  simp only at uE
  have wn:IntKind.i64.wrap ((ai s i 0:Nat):Int)=((ai s i 0:Nat):Int):=wrap_i64 (by omega) (by omega)
  match m,(show m≤2 by omega),BV with
  | 0,_,BV =>
   rw [BV] at F6
   have Sh:=F6.1 rfl
   rw [BV,if_pos rfl] at uE
   simp only [oZ] at PR ⊢
   have e:((L:Int) == 2)=true:=by rw [BV];rfl
   simp only [e,cond_true]
   refine ⟨b,0,⟨rfl,by omega,by omega⟩,(ai s i 0:Nat),iy GS hi,rfl,?_⟩
   rw [wn,wrap_i64 (n:=((ai s i 0:Nat):Int) - 192) (by omega) (by omega),wrap_i64 (n:=64*(((ai s i 0:Nat):Int) - 192)) (by omega) (by omega),wrap_i64 (by omega) (by omega)]
   exact fin _ _ _ (by rw [hlen]) (by rw [uE];omega) OV.symm
  | 1,_,BV =>
   rw [BV] at F6
   have Sh:=F6.2.1 rfl
   have k2:=gk 2 (by omega) (by omega)
   rw [BV,if_neg (by decide),if_pos rfl] at uE
   have z1:oZ s i 1=64*((ai s i 1:Int) - 128)+((ai s i 2:Int) - 128):=rfl
   rw [z1] at PR ⊢
   have e2:((L:Int) == 2)=false:=by rw [BV];rfl
   have e:((L:Int) == 3)=true:=by rw [BV];rfl
   simp only [e2,e,cond_true,cond_false]
   refine ⟨b,0,⟨rfl,by omega,by omega⟩,(ai s i 0:Nat),iy GS hi,rfl,?_⟩
   rw [wn,wrap_i64 (n:=((ai s i 0:Nat):Int) - 224) (by omega) (by omega),wrap_i64 (n:=4096*(((ai s i 0:Nat):Int) - 224)) (by omega) (by omega),wrap_i64 (by omega) (by omega)]
   exact fin _ _ _ (by rw [hlen]) (by rw [uE];omega) OV.symm
  | 2,_,BV =>
   rw [BV] at F6
   have Sh:=F6.2.2 rfl
   have k2:=gk 2 (by omega) (by omega)
   have k3:=gk 3 (by omega) (by omega)
   rw [BV,if_neg (by decide),if_neg (by decide)] at uE
   have z1:oZ s i 2=64*(64*((ai s i 1:Int) - 128)+((ai s i 2:Int) - 128))+((ai s i 3:Int) - 128):=rfl
   rw [z1] at PR ⊢
   have e2:((L:Int) == 2)=false:=by rw [BV];rfl
   have e3:((L:Int) == 3)=false:=by rw [BV];rfl
   have e:((L:Int) == 4)=true:=by rw [BV];rfl
   simp only [e2,e3,e,cond_true,cond_false]
   refine ⟨b,0,⟨rfl,by omega,by omega⟩,(ai s i 0:Nat),iy GS hi,rfl,?_⟩
   rw [wn,wrap_i64 (n:=((ai s i 0:Nat):Int) - 240) (by omega) (by omega),wrap_i64 (n:=262144*(((ai s i 0:Nat):Int) - 240)) (by omega) (by omega),wrap_i64 (by omega) (by omega)]
   exact fin _ _ _ (by rw [hlen]) (by rw [uE];omega) OV.symm
end Go.Proofs.YtlkdhhkncoekgaaGreatDoor
end

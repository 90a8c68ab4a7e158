/- What holds of a scanner of mark at each turn: its signs, its looks, and that it has read as many bytes as it wants spans. -/
import Derived.Test.YtlkdhhkncoekgaaDoorParseS
import Derived.Test.YtlkdhhkncoekgaaDoorNormr
/- Signs that are laid down: what melts. -/
section
namespace Go.Am
theorem kf {a b:List UInt8} (h : ∀c,b[0]? = some c→c.toNat / 64 ≠ 2):cG a b=false:=by
 rw [← Bool.not_eq_true,dZ]
 rintro ⟨p,h1,h2⟩
 rcases cM (a ++ b) p with ⟨_,g⟩ | ⟨_,_,_,g0,g⟩
 ·rw [g] at h2;simp only at h2;omega
 ·have g1:=g (a.length - p) (by omega) (by omega)
  have e:ai (a ++ b) p (a.length - p)=(b[0]?.getD 0).toNat:=by
   unfold ai
   rw [show p+(a.length - p)=a.length+0 by omega,qe]
  rw [e] at g1
  cases hb:b[0]? with
  | none=>rw [hb] at g1;simp at g1
  | some c=>rw [hb] at g1;have:=h c hb;simp only [Option.getD_some] at g1;omega
theorem iV {a t r:List UInt8} (h:cG a (t ++ r)=false) (ht:(ah (t ++ r) 0).2=t.length):cG (a ++ t) r=false:=by
 rw [← Bool.not_eq_true,dZ]
 rintro ⟨p,h1,h2⟩
 rw [List.length_append] at h1 h2
 rw [List.append_assoc] at h2
 rcases Nat.lt_or_ge p a.length with g | g
 ·have:=iy h g;omega
 ·obtain ⟨q,rfl⟩ : ∃q,p=a.length+q:=⟨p - a.length,by omega⟩
  rw [kB] at h2
  rcases Nat.eq_zero_or_pos q with rfl | hq
  ·rw [ht] at h2;omega
  ·have hl:1<(ah (t ++ r) q).2:=by omega
   have g2:=yC hl
   rcases cM (t ++ r) 0 with ⟨_,g⟩ | ⟨_,_,_,_,g⟩
   ·rw [g] at ht;simp only at ht;omega
   ·have:=(g q hq (by omega)).2
    have e:ai (t ++ r) 0 q=ai (t ++ r) q 0:=by unfold ai;rw [Nat.zero_add,Nat.add_zero]
    rw [e] at this;omega
theorem aD.snoc {a t:List UInt8} {n:Nat} (ha:aD a n) (h:cG a t=false) (ht:aD t 1):aD (a ++ t) (n+1):=aD.append h ha ht
end Go.Am
end
/- Looks: how many kinds; what is wanted. -/
section
namespace Go.Am
def cW (a b:aj):Bool:=a.b == b.b && a.i == b.i && a.u == b.u && a.k == b.k && a.c == b.c
theorem dW {a b:aj}:cW a b=true↔a=b:=by
 unfold cW
 simp only [Bool.and_eq_true,beq_iff_eq]
 constructor
 ·rintro ⟨⟨⟨⟨h1,h2⟩,h3⟩,h4⟩,h5⟩
  obtain ⟨a1,a2,a3,a4,a5⟩:=a
  obtain ⟨b1,b2,b3,b4,b5⟩:=b
  simp only at h1 h2 h3 h4 h5
  rw [h1,h2,h3,h4,h5]
 ·rintro rfl;exact ⟨⟨⟨⟨rfl,rfl⟩,rfl⟩,rfl⟩,rfl⟩
def vI (a:aj):Nat:=(bif a.b then 1 else 0)+(bif a.i then 1 else 0)+(bif a.u then 1 else 0)+(bif a.k then 1 else 0)+(if a.c=0 then 0 else 1)
theorem Ns (a:aj):HD a 5=vI a:=by
 have o : ∀b:Bool,(if jC b=0 then 0 else 1)=(bif b then 1 else 0:Nat):=fun b=>by cases b <;> rfl
 show 0+oL a 1+oL a 2+oL a 3+oL a 4+oL a 5=_
 have h1:oL a 1=(bif a.b then 1 else 0):=o a.b
 have h2:oL a 2=(bif a.i then 1 else 0):=o a.i
 have h3:oL a 3=(bif a.u then 1 else 0):=o a.u
 have h4:oL a 4=(bif a.k then 1 else 0):=o a.k
 have h5:oL a 5=(if a.c=0 then 0 else 1):=rfl
 rw [h1,h2,h3,h4,h5]
 unfold vI;omega
theorem B5 (a:aj):vI a≤5:=by
 obtain ⟨b,i,u,k,c⟩:=a
 unfold vI
 simp only
 cases b <;> cases i <;> cases u <;> cases k <;> simp only [cond_true,cond_false] <;> split <;> omega
def ld (o:Nat):Nat:=if o=3∨o=4 then 1 else 0
def oP (o:Nat):Nat:=if o≤1 then 0 else if o=2 then 1 else if o=3 then 3 else 4
def cost (a b:aj):Nat:=bif cW a b then ld (vI a) else oP (vI b)
theorem mK (a:aj):cost a a=ld (vI a):=by unfold cost;rw [dW.2 rfl];rfl
theorem Lu (a b:aj):cost a b≤4:=by
 unfold cost ld oP
 cases cW a b <;> simp only [cond_true,cond_false] <;> repeat' split
 all_goals omega
theorem wF (a:aj):cost a aH=0:=by
 unfold cost
 cases h:cW a aH with
 | true=>rw [dW.1 h];rfl
 | false=>rfl
theorem Bq {L:List aj} {a b:aj} {i m:Nat} (h:(bN L).length+cost (dL L) a≤i) (hm:1≤m) (hb:b=a∨b=aH) :
  (bN (L ++ [a])).length+cost (dL (L ++ [a])) b≤i+m:=by
 have hl:dL (L ++ [a])=a:=by unfold dL;rw [List.getLast?_concat];rfl
 obtain ⟨h1,h2⟩:=Br L a
 rw [hl]
 rw [Ns] at h1
 have ho:=B5 a
 have hc:cost a b≤ld (vI a):=by
  rcases hb with rfl | rfl
  ·rw [mK];exact Nat.le_refl _
  ·rw [wF];exact Nat.zero_le _
 cases he:cW (dL L) a with
 | true =>
  have e:=dW.1 he
  have:=h2 e
  rw [e,mK] at h
  omega
 | false =>
  have:cost (dL L) a=oP (vI a):=by unfold cost;rw [he];rfl
  rw [this] at h
  have:vI a+ld (vI a)≤oP (vI a)+1:=by
   obtain ⟨o,Qy⟩ : ∃o,o=vI a:=⟨_,rfl⟩
   rw [← Qy] at ho ⊢
   unfold ld oP
   match o,ho with
   | 0,_=>decide
   | 1,_=>decide
   | 2,_=>decide
   | 3,_=>decide
   | 4,_=>decide
   | 5,_=>decide
  omega
theorem FJ {a b c:aj} {n:Nat} (h:c=b∨4≤n∨(3≤n∧vI c=vI b+1)):cost a c≤cost a b+n:=by
 rcases h with rfl | h | ⟨h,ho⟩
 ·omega
 ·have:=Lu a c;omega
 ·have hb:=B5 b
  have hc:=B5 c
  obtain ⟨o,Qy⟩ : ∃o,o=vI b:=⟨_,rfl⟩
  cases h1:cW a c with
  | true =>
   have e:=dW.1 h1
   subst e
   rw [mK]
   unfold ld
   split <;> omega
  | false =>
   have e1:cost a c=oP (vI c):=by unfold cost;rw [h1];rfl
   rw [e1,ho]
   rw [ho] at hc
   cases h2:cW a b with
   | true =>
    have e:=dW.1 h2
    subst e
    rw [mK]
    rw [← Qy] at hc ⊢
    unfold ld oP
    match o,(show o≤4 by omega) with
    | 0,_=>simp
    | 1,_=>simp;omega
    | 2,_=>simp;omega
    | 3,_=>simp;omega
    | 4,_=>simp;omega
   | false =>
    have e2:cost a b=oP (vI b):=by unfold cost;rw [h2];rfl
    rw [e2,← Qy]
    rw [← Qy] at hc
    unfold oP
    match o,(show o≤4 by omega) with
    | 0,_=>simp
    | 1,_=>simp;omega
    | 2,_=>simp;omega
    | 3,_=>simp;omega
    | 4,_=>simp
end Go.Am
end
/- What holds of a scanner at each turn. -/
section
namespace Go.Proofs.YtlkdhhkncoekgaaDoor
open Go.Am Go
def St.looks (x:St):List aj:=x.ps.map Prod.snd
def xG (c:Int):Prop:=0≤c∧c≤16777216
structure kV (d:Int) (s:List UInt8) (x:St):Prop where
 Wn:x.d=d
 TJ:x.s=s
 le:x.i≤s.length
 so:x.so=(x.ps.map Prod.fst).flatten
 ne : ∀p ∈ x.ps,p.1 ≠ []
 ep:aD x.so x.ps.length
 apart:cG x.so (s.drop x.i)=false
 Jx:x.so.length≤x.i
 room:x.so.length≤4100
 c : ∀p ∈ x.ps,xG p.2.c
 lc:xG x.look.c
 eX : ∀c ∈ x.eX,xG c
 PN:x.eX.length≤x.i
 op : ∀k,0≤x.op k∧x.op k≤x.i
 name:x.name.length≤64∧(d ≠ 2→x.name=[])
 side:x.side=0∨(x.side=1∧d=4)
 cost:(bN x.looks).length+cost (dL x.looks) x.now≤x.i
theorem kV.PM {d:Int} {s:List UInt8} {x:St} (h:kV d s x):xG x.now.c:=by
 unfold St.now
 cases x.d == 1 || x.d == 2 with
 | true =>
  simp only [cond_true]
  cases hl:x.eX.getLast? with
  | none=>exact ⟨by decide,by decide⟩
  | some c=>exact h.eX c (List.mem_of_getLast? hl)
 | false=>exact h.lc
theorem kV.pieces {d:Int} {s:List UInt8} {x:St} (h:kV d s x):x.ps.length≤x.so.length:=by
 have h1:=dJ h.ep.2
 have h2:=h.ep.1
 omega
theorem kV.lay {d:Int} {s:List UInt8} {x y:St} (h:kV d s x) (hr:x.so.length≤4096) {t:List UInt8} {m:Nat} (h0:t ≠ []) (h4:t.length≤4) (ht:aD t 1) (hm:t.length≤m) (hi:x.i+m≤s.length)
  (QB:cG x.so t=false) (OX:cG (x.so ++ t) (s.drop (x.i+m))=false)
  (e1:y.d=x.d) (e2:y.s=x.s) (e3:y.i=x.i+m) (e4:y.so=x.so ++ t) (e5:y.ps=x.ps ++ [(t,x.now)]) (e6:y.op=x.op) (e7:y.eX=x.eX) (e8:y.look=x.look∨(y.look=aH∧x.d=3)) (e9:y.name=x.name) (Rx:y.side=x.side):kV d s y:=by
 have Sn:1≤t.length:=by
  cases t with
  | nil=>exact absurd rfl h0
  | cons=>simp
 have Un:y.now=x.now∨y.now=aH:=by
  rcases e8 with e | ⟨e,ed⟩
  ·left;unfold St.now;rw [e1,e6,e7,e]
  ·right;unfold St.now;rw [e1,ed,e];rfl
 refine ⟨by rw [e1];exact h.Wn,by rw [e2];exact h.TJ,by rw [e3];exact hi,?_,fun p hp=>?_,?_,by rw [e4,e3];exact OX,?_,?_,fun p hp=>?_,?_,by rw [e7];exact h.eX,?_,fun k=>?_,by rw [e9];exact h.name,by rw [Rx];exact h.side,?_⟩
 ·rw [e4,e5,h.so];simp
 ·rw [e5] at hp
  rcases List.mem_append.1 hp with hp | hp
  ·exact h.ne p hp
  ·rw [List.mem_singleton.1 hp];exact h0
 ·rw [e4,e5,List.length_append];exact h.ep.snoc QB ht
 ·have:=h.Jx;rw [e4,e3,List.length_append];omega
 ·rw [e4,List.length_append];omega
 ·rw [e5] at hp
  rcases List.mem_append.1 hp with hp | hp
  ·exact h.c p hp
  ·rw [List.mem_singleton.1 hp];exact h.PM
 ·rcases e8 with e | ⟨e,_⟩
  ·rw [e];exact h.lc
  ·rw [e];exact ⟨by decide,by decide⟩
 ·have:=h.PN;rw [e7,e3];omega
 ·have:=h.op k;rw [e6,e3];omega
 ·have e:y.looks=x.looks ++ [x.now]:=by unfold St.looks;rw [e5];simp
  rw [e,e3]
  exact Bq h.cost (by omega) Un
theorem kV.form {d:Int} {s:List UInt8} {x y:St} (h:kV d s x) {n:Nat} (hi:x.i+n≤s.length) (hm:cG x.so (s.drop (x.i+n))=false)
  (e1:y.d=x.d) (e2:y.s=x.s) (e3:y.i=x.i+n) (e4:y.so=x.so) (e5:y.ps=x.ps) (e6 : ∀k,0≤y.op k∧y.op k≤x.i+n) (e7:(∀c ∈ y.eX,xG c)∧y.eX.length≤x.i+n) (e8:xG y.look.c) (e9:y.name.length≤64∧(d ≠ 2→y.name=[]))
  (Rx:y.side=0∨(y.side=1∧d=4)) (Z8:y.now=x.now∨4≤n∨(3≤n∧vI y.now=vI x.now+1)):kV d s y:=by
 refine ⟨by rw [e1];exact h.Wn,by rw [e2];exact h.TJ,by rw [e3];exact hi,by rw [e4,e5];exact h.so,by rw [e5];exact h.ne,by rw [e4,e5];exact h.ep,by rw [e4,e3];exact hm,?_,by rw [e4];exact h.room,by rw [e5];exact h.c,e8,e7.1,by rw [e3];exact e7.2,fun k=>by rw [e3];exact e6 k,e9,Rx,?_⟩
 ·have:=h.Jx;rw [e4,e3];omega
 ·have e:y.looks=x.looks:=by unfold St.looks;rw [e5]
  rw [e,e3]
  have:=h.cost
  have:=FJ (a:=dL x.looks) Z8
  omega
theorem kV.start (d:Int) (s:List UInt8):kV d s (St.start d s):=by
 refine ⟨rfl,rfl,Nat.zero_le _,rfl,(fun p h=>by cases h),⟨rfl,fun j h=>absurd h (Nat.not_lt_zero j)⟩,fF _,Nat.le_refl _,Nat.zero_le _,(fun p h=>by cases h),⟨Int.le_refl _,(by decide:(0:Int)≤16777216)⟩,(fun c h=>by cases h),Nat.le_refl _,fun k=>⟨Int.le_refl _,Int.le_refl _⟩,⟨Nat.zero_le _,fun _=>rfl⟩,.inl rfl,?_⟩
 have:(St.start d s).now=aH:=by
  unfold St.now St.start
  cases d == 1 || d == 2 <;> rfl
 rw [this,wF]
 exact Nat.le_refl 0
theorem kV.signed {d:Int} {s:List UInt8} {x:St} (h:kV d s x) (hr:x.so.length≤4096) (hl:x.i<s.length):kV d s x.signed:=by
 have hs:=h.TJ
 have jn:=ct s x.i hl
 have hle:=jc s x.i
 have hg:x.Bb=(s.drop x.i).take (ah s x.i).2:=by unfold St.Bb;rw [hs]
 have hlen:x.Bb.length=(ah s x.i).2:=by rw [hg,List.length_take,List.length_drop];omega
 have Iu:s.drop x.i=x.Bb ++ s.drop (x.i+x.Bb.length):=by
  rw [hlen,← List.drop_drop,hg,List.take_append_drop]
 have hd:(ah (x.Bb ++ s.drop (x.i+x.Bb.length)) 0).2=x.Bb.length:=by
  rw [← Iu,hlen]
  congr 1
  exact eO fun j _=>by rw [List.getElem?_drop,Nat.zero_add]
 have ha:=h.apart
 rw [Iu] at ha
 have ga:aD x.Bb 1:=by rw [hg];exact aD.one hl
 have OX:=iV ha hd
 have QB:cG x.so x.Bb=false:=by
  rw [← Bool.not_eq_true,dZ]
  rintro ⟨p,h1,h2⟩
  have h3:ah (x.so ++ (x.Bb ++ s.drop (x.i+x.Bb.length))) p=ah (x.so ++ x.Bb) p:=by
   have h4:=ct (x.so ++ x.Bb) p (by rw [List.length_append];omega)
   rw [← List.append_assoc]
   refine ec (by omega) fun j hj=>?_
   exact (dN (by omega)).symm
  have:=iy ha h1
  rw [h3] at this
  omega
 refine h.lay hr (fun e=>by rw [e] at hlen;simp at hlen;omega) (by omega) ga (Nat.le_refl _) (by omega) QB OX rfl rfl rfl rfl rfl rfl rfl (.inl rfl) rfl rfl
theorem kV.put {d:Int} {s:List UInt8} {x y:St} (h:kV d s x) (hr:x.so.length≤4096) {t:List UInt8} {m:Nat} (ga:aD t 1) (Mv : ∀c,t[0]? = some c→c.toNat / 64 ≠ 2) (h0:t ≠ []) (h4:t.length≤4) (hm:t.length≤m) (hi:x.i+m≤s.length) (Cp:ah t 0 ≠ (65533,1))
  (e1:y.d=x.d) (e2:y.s=x.s) (e3:y.i=x.i+m) (e4:y.so=x.so ++ t) (e5:y.ps=x.ps ++ [(t,x.now)]) (e6:y.op=x.op) (e7:y.eX=x.eX) (e8:y.look=x.look∨(y.look=aH∧x.d=3)) (e9:y.name=x.name) (Rx:y.side=x.side):kV d s y:=by
 have hlen:(ah t 0).2=t.length:=by
  have:=ga.1
  have e:place t 1=0+(ah t 0).2:=rfl
  omega
 have QB:cG x.so t=false:=kf Mv
 refine h.lay hr h0 h4 ga hm hi QB (iV (kf fun c hc=>?_) ?_) e1 e2 e3 e4 e5 e6 e7 e8 e9 Rx
 ·rw [dN (by cases t with
   | nil=>exact absurd rfl h0
   | cons=>simp)] at hc
  exact Mv c hc
 ·rcases Nat.lt_or_ge 1 t.length with g | g
  ·rw [← hlen]
   have:=ec (s:=t) (i:=0) (t:=t ++ s.drop (x.i+m)) (k:=0) (by omega) fun j hj=>by rw [Nat.zero_add,dN (by omega)]
   rw [this]
  ·have h1:t.length=1:=by
    cases t with
    | nil=>exact absurd rfl h0
    | cons=>simp only [List.length_cons] at g ⊢;omega
   have h2:(ah t 0).2=1:=by omega
   have h3:=jb h2
   have r:ai (t ++ s.drop (x.i+m)) 0 0=ai t 0 0:=by unfold ai;rw [dN (by omega)]
   have h5:ai t 0 0<128:=by
    rcases Nat.lt_or_ge (ai t 0 0) 128 with g5 | g5
    ·exact g5
    ·rw [if_neg (by omega)] at h3
     exact absurd (Prod.ext h3 h2) Cp
   rw [h1]
   unfold ah
   simp only [r]
   rw [if_pos h5]
end Go.Proofs.YtlkdhhkncoekgaaDoor
end
/- What entities stand for. -/
section
namespace Go.Proofs.YtlkdhhkncoekgaaDoor
open Go.Am Go
theorem nC {t:List UInt8} (h:(ah t 0).2=t.length) (h0:0<t.length):aD t 1:=by
 refine ⟨by show 0+(ah t 0).2=_;omega,fun j hj=>?_⟩
 obtain rfl:j=0:=by omega
 exact h0
structure XX (e:List UInt8×List UInt8):Prop where
 one:aD e.2 1
 lead : ∀c,e.2[0]? = some c→c.toNat / 64 ≠ 2
 ne:e.2 ≠ []
 four:e.2.length≤4
 less:e.2.length≤e.1.length
 six:e.1.length≤6
 small:ah e.2 0 ≠ (65533,1)
end Go.Proofs.YtlkdhhkncoekgaaDoor
end

/- What holds of a scanner of mark at each turn: its signs, its looks, and that it has read as many bytes as it wants spans. -/
import Derived.Test.YtlkdhhkncoekgaaGreatDoorParseS
import Derived.Test.YtlkdhhkncoekgaaGreatDoorNormr
/- Signs that are laid down: what melts. -/
section
namespace Go.Am
theorem kP {a b:List UInt8} (h : ∀c,b[0]? = some c→c.toNat / 64 ≠ 2):cM a b=false:=by
 rw [← Bool.not_eq_true,ez]
 rintro ⟨p,h1,h2⟩
 rcases cR (a ++ b) p with ⟨_,g⟩ | ⟨_,_,_,g0,g⟩
 ·rw [g] at h2;simp only at h2;omega
 ·have g1:=g (a.length - p) (by omega) (by omega)
  have e:ai (a ++ b) p (a.length - p)=(b[0]?.getD 0).toNat:=by
   unfold ai
   rw [show p+(a.length - p)=a.length+0 by omega,qK]
  rw [e] at g1
  cases hb:b[0]? with
  | none=>rw [hb] at g1;simp at g1
  | some c=>rw [hb] at g1;have:=h c hb;simp only [Option.getD_some] at g1;omega
theorem jn {a t r:List UInt8} (h:cM a (t ++ r)=false) (ht:(ah (t ++ r) 0).2=t.length):cM (a ++ t) r=false:=by
 rw [← Bool.not_eq_true,ez]
 rintro ⟨p,h1,h2⟩
 rw [List.length_append] at h1 h2
 rw [List.append_assoc] at h2
 rcases Nat.lt_or_ge p a.length with g | g
 ·have:=iR h g;omega
 ·obtain ⟨q,rfl⟩ : ∃q,p=a.length+q:=⟨p - a.length,by omega⟩
  rw [kY] at h2
  rcases Nat.eq_zero_or_pos q with rfl | hq
  ·rw [ht] at h2;omega
  ·have hl:1<(ah (t ++ r) q).2:=by omega
   have g2:=zm hl
   rcases cR (t ++ r) 0 with ⟨_,g⟩ | ⟨_,_,_,_,g⟩
   ·rw [g] at ht;simp only at ht;omega
   ·have:=(g q hq (by omega)).2
    have e:ai (t ++ r) 0 q=ai (t ++ r) q 0:=by unfold ai;rw [Nat.zero_add,Nat.add_zero]
    rw [e] at this;omega
theorem aE.snoc {a t:List UInt8} {n:Nat} (ha:aE a n) (h:cM a t=false) (ht:aE t 1):aE (a ++ t) (n+1):=aE.append h ha ht
end Go.Am
end
/- Looks: how many kinds; what is wanted. -/
section
namespace Go.Am
def dF (a b:aj):Bool:=a.b == b.b && a.i == b.i && a.u == b.u && a.k == b.k && a.c == b.c
theorem cB {a b:aj}:dF a b=true↔a=b:=by
 unfold dF
 simp only [Bool.and_eq_true,beq_iff_eq]
 constructor
 ·rintro ⟨⟨⟨⟨h1,h2⟩,h3⟩,h4⟩,h5⟩
  obtain ⟨a1,a2,a3,a4,a5⟩:=a
  obtain ⟨b1,b2,b3,b4,b5⟩:=b
  simp only at h1 h2 h3 h4 h5
  rw [h1,h2,h3,h4,h5]
 ·rintro rfl;exact ⟨⟨⟨⟨rfl,rfl⟩,rfl⟩,rfl⟩,rfl⟩
def wH (a:aj):Nat:=(bif a.b then 1 else 0)+(bif a.i then 1 else 0)+(bif a.u then 1 else 0)+(bif a.k then 1 else 0)+(if a.c=0 then 0 else 1)
theorem N9 (a:aj):Io a 5=wH a:=by
 have o : ∀b:Bool,(if gJ b=0 then 0 else 1)=(bif b then 1 else 0:Nat):=fun b=>by cases b <;> rfl
 show 0+pq a 1+pq a 2+pq a 3+pq a 4+pq a 5=_
 have h1:pq a 1=(bif a.b then 1 else 0):=o a.b
 have h2:pq a 2=(bif a.i then 1 else 0):=o a.i
 have h3:pq a 3=(bif a.u then 1 else 0):=o a.u
 have h4:pq a 4=(bif a.k then 1 else 0):=o a.k
 have h5:pq a 5=(if a.c=0 then 0 else 1):=rfl
 rw [h1,h2,h3,h4,h5]
 unfold wH;omega
theorem CJ (a:aj):wH a≤5:=by
 obtain ⟨b,i,u,k,c⟩:=a
 unfold wH
 simp only
 cases b <;> cases i <;> cases u <;> cases k <;> simp only [cond_true,cond_false] <;> split <;> omega
def lQ (o:Nat):Nat:=if o=3∨o=4 then 1 else 0
def pG (o:Nat):Nat:=if o≤1 then 0 else if o=2 then 1 else if o=3 then 3 else 4
def cost (a b:aj):Nat:=bif dF a b then lQ (wH a) else pG (wH b)
theorem ni (a:aj):cost a a=lQ (wH a):=by unfold cost;rw [cB.2 rfl];rfl
theorem Mb (a b:aj):cost a b≤4:=by
 unfold cost lQ pG
 cases dF a b <;> simp only [cond_true,cond_false] <;> repeat' split
 all_goals omega
theorem xu (a:aj):cost a aI=0:=by
 unfold cost
 cases h:dF a aI with
 | true=>rw [cB.1 h];rfl
 | false=>rfl
theorem B2 {L:List aj} {a b:aj} {i m:Nat} (h:(bt L).length+cost (dX L) a≤i) (hm:1≤m) (hb:b=a∨b=aI) :
  (bt (L ++ [a])).length+cost (dX (L ++ [a])) b≤i+m:=by
 have hl:dX (L ++ [a])=a:=by unfold dX;rw [List.getLast?_concat];rfl
 obtain ⟨h1,h2⟩:=B3 L a
 rw [hl]
 rw [N9] at h1
 have ho:=CJ a
 have hc:cost a b≤lQ (wH a):=by
  rcases hb with rfl | rfl
  ·rw [ni];exact Nat.le_refl _
  ·rw [xu];exact Nat.zero_le _
 cases he:dF (dX L) a with
 | true =>
  have e:=cB.1 he
  have:=h2 e
  rw [e,ni] at h
  omega
 | false =>
  have:cost (dX L) a=pG (wH a):=by unfold cost;rw [he];rfl
  rw [this] at h
  have:wH a+lQ (wH a)≤pG (wH a)+1:=by
   obtain ⟨o,Rs⟩ : ∃o,o=wH a:=⟨_,rfl⟩
   rw [← Rs] at ho ⊢
   unfold lQ pG
   match o,ho with
   | 0,_=>decide
   | 1,_=>decide
   | 2,_=>decide
   | 3,_=>decide
   | 4,_=>decide
   | 5,_=>decide
  omega
theorem Gh {a b c:aj} {n:Nat} (h:c=b∨4≤n∨(3≤n∧wH c=wH b+1)):cost a c≤cost a b+n:=by
 rcases h with rfl | h | ⟨h,ho⟩
 ·omega
 ·have:=Mb a c;omega
 ·have hb:=CJ b
  have hc:=CJ c
  obtain ⟨o,Rs⟩ : ∃o,o=wH b:=⟨_,rfl⟩
  cases h1:dF a c with
  | true =>
   have e:=cB.1 h1
   subst e
   rw [ni]
   unfold lQ
   split <;> omega
  | false =>
   have e1:cost a c=pG (wH c):=by unfold cost;rw [h1];rfl
   rw [e1,ho]
   rw [ho] at hc
   cases h2:dF a b with
   | true =>
    have e:=cB.1 h2
    subst e
    rw [ni]
    rw [← Rs] at hc ⊢
    unfold lQ pG
    match o,(show o≤4 by omega) with
    | 0,_=>simp
    | 1,_=>simp;omega
    | 2,_=>simp;omega
    | 3,_=>simp;omega
    | 4,_=>simp;omega
   | false =>
    have e2:cost a b=pG (wH b):=by unfold cost;rw [h2];rfl
    rw [e2,← Rs]
    rw [← Rs] at hc
    unfold pG
    match o,(show o≤4 by omega) with
    | 0,_=>simp
    | 1,_=>simp;omega
    | 2,_=>simp;omega
    | 3,_=>simp;omega
    | 4,_=>simp
end Go.Am
end
/- What holds of a scanner at each turn. -/
section
namespace Go.Proofs.YtlkdhhkncoekgaaGreatDoor
open Go.Am Go
def St.looks (x:St):List aj:=x.ps.map Prod.snd
def yA (c:Int):Prop:=0≤c∧c≤16777216
structure lH (d:Int) (s:List UInt8) (x:St):Prop where
 Xi:x.d=d
 Uz:x.s=s
 le:x.i≤s.length
 so:x.so=(x.ps.map Prod.fst).flatten
 ne : ∀p ∈ x.ps,p.1 ≠ []
 cW:aE x.so x.ps.length
 apart:cM x.so (s.drop x.i)=false
 Dh:x.so.length≤x.i
 room:x.so.length≤4100
 c : ∀p ∈ x.ps,yA p.2.c
 lc:yA x.look.c
 fk : ∀c ∈ x.fk,yA c
 QA:x.fk.length≤x.i
 op : ∀k,0≤x.op k∧x.op k≤x.i
 name:x.name.length≤64∧(d ≠ 2→x.name=[])
 side:x.side=0∨(x.side=1∧d=4)
 cost:(bt x.looks).length+cost (dX x.looks) x.now≤x.i
theorem lH.Qz {d:Int} {s:List UInt8} {x:St} (h:lH d s x):yA x.now.c:=by
 unfold St.now
 cases x.d == 1 || x.d == 2 with
 | true =>
  simp only [cond_true]
  cases hl:x.fk.getLast? with
  | none=>exact ⟨by decide,by decide⟩
  | some c=>exact h.fk c (List.mem_of_getLast? hl)
 | false=>exact h.lc
theorem lH.pieces {d:Int} {s:List UInt8} {x:St} (h:lH d s x):x.ps.length≤x.so.length:=by
 have h1:=dr h.cW.2
 have h2:=h.cW.1
 omega
theorem lH.lay {d:Int} {s:List UInt8} {x y:St} (h:lH d s x) (hr:x.so.length≤4096) {t:List UInt8} {m:Nat} (h0:t ≠ []) (h4:t.length≤4) (ht:aE t 1) (hm:t.length≤m) (hi:x.i+m≤s.length)
  (Ru:cM x.so t=false) (PG:cM (x.so ++ t) (s.drop (x.i+m))=false)
  (e1:y.d=x.d) (e2:y.s=x.s) (e3:y.i=x.i+m) (e4:y.so=x.so ++ t) (e5:y.ps=x.ps ++ [(t,x.now)]) (e6:y.op=x.op) (e7:y.fk=x.fk) (e8:y.look=x.look∨(y.look=aI∧x.d=3)) (e9:y.name=x.name) (Sn:y.side=x.side):lH d s y:=by
 have Rb:1≤t.length:=by
  cases t with
  | nil=>exact absurd rfl h0
  | cons=>simp
 have U8:y.now=x.now∨y.now=aI:=by
  rcases e8 with e | ⟨e,ed⟩
  ·left;unfold St.now;rw [e1,e6,e7,e]
  ·right;unfold St.now;rw [e1,ed,e];rfl
 refine ⟨by rw [e1];exact h.Xi,by rw [e2];exact h.Uz,by rw [e3];exact hi,?_,fun p hp=>?_,?_,by rw [e4,e3];exact PG,?_,?_,fun p hp=>?_,?_,by rw [e7];exact h.fk,?_,fun k=>?_,by rw [e9];exact h.name,by rw [Sn];exact h.side,?_⟩
 ·rw [e4,e5,h.so];simp
 ·rw [e5] at hp
  rcases List.mem_append.1 hp with hp | hp
  ·exact h.ne p hp
  ·rw [List.mem_singleton.1 hp];exact h0
 ·rw [e4,e5,List.length_append];exact h.cW.snoc Ru ht
 ·have:=h.Dh;rw [e4,e3,List.length_append];omega
 ·rw [e4,List.length_append];omega
 ·rw [e5] at hp
  rcases List.mem_append.1 hp with hp | hp
  ·exact h.c p hp
  ·rw [List.mem_singleton.1 hp];exact h.Qz
 ·rcases e8 with e | ⟨e,_⟩
  ·rw [e];exact h.lc
  ·rw [e];exact ⟨by decide,by decide⟩
 ·have:=h.QA;rw [e7,e3];omega
 ·have:=h.op k;rw [e6,e3];omega
 ·have e:y.looks=x.looks ++ [x.now]:=by unfold St.looks;rw [e5];simp
  rw [e,e3]
  exact B2 h.cost (by omega) U8
theorem lH.form {d:Int} {s:List UInt8} {x y:St} (h:lH d s x) {n:Nat} (hi:x.i+n≤s.length) (hm:cM x.so (s.drop (x.i+n))=false)
  (e1:y.d=x.d) (e2:y.s=x.s) (e3:y.i=x.i+n) (e4:y.so=x.so) (e5:y.ps=x.ps) (e6 : ∀k,0≤y.op k∧y.op k≤x.i+n) (e7:(∀c ∈ y.fk,yA c)∧y.fk.length≤x.i+n) (e8:yA y.look.c) (e9:y.name.length≤64∧(d ≠ 2→y.name=[]))
  (Sn:y.side=0∨(y.side=1∧d=4)) (e11:y.now=x.now∨4≤n∨(3≤n∧wH y.now=wH x.now+1)):lH d s y:=by
 refine ⟨by rw [e1];exact h.Xi,by rw [e2];exact h.Uz,by rw [e3];exact hi,by rw [e4,e5];exact h.so,by rw [e5];exact h.ne,by rw [e4,e5];exact h.cW,by rw [e4,e3];exact hm,?_,by rw [e4];exact h.room,by rw [e5];exact h.c,e8,e7.1,by rw [e3];exact e7.2,fun k=>by rw [e3];exact e6 k,e9,Sn,?_⟩
 ·have:=h.Dh;rw [e4,e3];omega
 ·have e:y.looks=x.looks:=by unfold St.looks;rw [e5]
  rw [e,e3]
  have:=h.cost
  have:=Gh (a:=dX x.looks) e11
  omega
theorem lH.start (d:Int) (s:List UInt8):lH d s (St.start d s):=by
 refine ⟨rfl,rfl,Nat.zero_le _,rfl,(fun p h=>by cases h),⟨rfl,fun j h=>absurd h (Nat.not_lt_zero j)⟩,fL _,Nat.le_refl _,Nat.zero_le _,(fun p h=>by cases h),⟨Int.le_refl _,(by decide:(0:Int)≤16777216)⟩,(fun c h=>by cases h),Nat.le_refl _,fun k=>⟨Int.le_refl _,Int.le_refl _⟩,⟨Nat.zero_le _,fun _=>rfl⟩,.inl rfl,?_⟩
 have:(St.start d s).now=aI:=by
  unfold St.now St.start
  cases d == 1 || d == 2 <;> rfl
 rw [this,xu]
 exact Nat.le_refl 0
theorem lH.signed {d:Int} {s:List UInt8} {x:St} (h:lH d s x) (hr:x.so.length≤4096) (hl:x.i<s.length):lH d s x.signed:=by
 have hs:=h.Uz
 have jN:=cw s x.i hl
 have hle:=jy s x.i
 have hg:x.BO=(s.drop x.i).take (ah s x.i).2:=by unfold St.BO;rw [hs]
 have hlen:x.BO.length=(ah s x.i).2:=by rw [hg,List.length_take,List.length_drop];omega
 have I9:s.drop x.i=x.BO ++ s.drop (x.i+x.BO.length):=by
  rw [hlen,← List.drop_drop,hg,List.take_append_drop]
 have hd:(ah (x.BO ++ s.drop (x.i+x.BO.length)) 0).2=x.BO.length:=by
  rw [← I9,hlen]
  congr 1
  exact eV fun j _=>by rw [List.getElem?_drop,Nat.zero_add]
 have ha:=h.apart
 rw [I9] at ha
 have gh:aE x.BO 1:=by rw [hg];exact aE.one hl
 have PG:=jn ha hd
 have Ru:cM x.so x.BO=false:=by
  rw [← Bool.not_eq_true,ez]
  rintro ⟨p,h1,h2⟩
  have h3:ah (x.so ++ (x.BO ++ s.drop (x.i+x.BO.length))) p=ah (x.so ++ x.BO) p:=by
   have h4:=cw (x.so ++ x.BO) p (by rw [List.length_append];omega)
   rw [← List.append_assoc]
   refine eD (by omega) fun j hj=>?_
   exact (dZ (by omega)).symm
  have:=iR ha h1
  rw [h3] at this
  omega
 refine h.lay hr (fun e=>by rw [e] at hlen;simp at hlen;omega) (by omega) gh (Nat.le_refl _) (by omega) Ru PG rfl rfl rfl rfl rfl rfl rfl (.inl rfl) rfl rfl
theorem lH.put {d:Int} {s:List UInt8} {x y:St} (h:lH d s x) (hr:x.so.length≤4096) {t:List UInt8} {m:Nat} (gh:aE t 1) (Nb : ∀c,t[0]? = some c→c.toNat / 64 ≠ 2) (h0:t ≠ []) (h4:t.length≤4) (hm:t.length≤m) (hi:x.i+m≤s.length) (C1:ah t 0 ≠ (65533,1))
  (e1:y.d=x.d) (e2:y.s=x.s) (e3:y.i=x.i+m) (e4:y.so=x.so ++ t) (e5:y.ps=x.ps ++ [(t,x.now)]) (e6:y.op=x.op) (e7:y.fk=x.fk) (e8:y.look=x.look∨(y.look=aI∧x.d=3)) (e9:y.name=x.name) (Sn:y.side=x.side):lH d s y:=by
 have hlen:(ah t 0).2=t.length:=by
  have:=gh.1
  have e:place t 1=0+(ah t 0).2:=rfl
  omega
 have Ru:cM x.so t=false:=kP Nb
 refine h.lay hr h0 h4 gh hm hi Ru (jn (kP fun c hc=>?_) ?_) e1 e2 e3 e4 e5 e6 e7 e8 e9 Sn
 ·rw [dZ (by cases t with
   | nil=>exact absurd rfl h0
   | cons=>simp)] at hc
  exact Nb c hc
 ·rcases Nat.lt_or_ge 1 t.length with g | g
  ·rw [← hlen]
   have:=eD (s:=t) (i:=0) (t:=t ++ s.drop (x.i+m)) (k:=0) (by omega) fun j hj=>by rw [Nat.zero_add,dZ (by omega)]
   rw [this]
  ·have h1:t.length=1:=by
    cases t with
    | nil=>exact absurd rfl h0
    | cons=>simp only [List.length_cons] at g ⊢;omega
   have h2:(ah t 0).2=1:=by omega
   have h3:=gQ h2
   have r:ai (t ++ s.drop (x.i+m)) 0 0=ai t 0 0:=by unfold ai;rw [dZ (by omega)]
   have h5:ai t 0 0<128:=by
    rcases Nat.lt_or_ge (ai t 0 0) 128 with g5 | g5
    ·exact g5
    ·rw [if_neg (by omega)] at h3
     exact absurd (Prod.ext h3 h2) C1
   rw [h1]
   unfold ah
   simp only [r]
   rw [if_pos h5]
end Go.Proofs.YtlkdhhkncoekgaaGreatDoor
end
/- What entities stand for. -/
section
namespace Go.Proofs.YtlkdhhkncoekgaaGreatDoor
open Go.Am Go
theorem oa {t:List UInt8} (h:(ah t 0).2=t.length) (h0:0<t.length):aE t 1:=by
 refine ⟨by show 0+(ah t 0).2=_;omega,fun j hj=>?_⟩
 obtain rfl:j=0:=by omega
 exact h0
structure YQ (e:List UInt8×List UInt8):Prop where
 one:aE e.2 1
 lead : ∀c,e.2[0]? = some c→c.toNat / 64 ≠ 2
 ne:e.2 ≠ []
 four:e.2.length≤4
 less:e.2.length≤e.1.length
 six:e.1.length≤6
 small:ah e.2 0 ≠ (65533,1)
end Go.Proofs.YtlkdhhkncoekgaaGreatDoor
end

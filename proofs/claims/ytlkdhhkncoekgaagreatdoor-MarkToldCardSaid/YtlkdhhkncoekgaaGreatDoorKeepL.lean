/- What a dialect can say of signs: look-alikes, empty lines left out, lines painted alike; the signs stay what they are. -/
import Derived.Test.YtlkdhhkncoekgaaGreatDoorRunL
namespace Go.Am
open Go.Proofs.YtlkdhhkncoekgaaGreatDoor
abbrev cT:=List (List UInt8×aj)
def aH (l:cT):List UInt8:=(l.map Prod.fst).flatten
theorem xg:aH []=[]:=rfl
theorem fj (l:cT) (p:List UInt8×aj):aH (l ++ [p])=aH l ++ p.1:=by simp [aH]
def gM (d r:Int):Option (List UInt8) :=
 bif decide (r<32) && r != 10 then some [32]
 else bif d == 1 then (bif r == 60 || r == 62 then some (cE (r+65248)) else none)
 else bif d == 3 then (bif r == 123 || r == 124 || r == 125 then some (cE (r+65248)) else none)
 else bif d == 4 then (bif r == 123 || r == 92 || r == 125 then some (cE (r+65248)) else none)
 else none
structure zE (r:Int) (u:List UInt8):Prop where
 one:aE u 1
 lead : ∀c,u[0]? = some c→c.toNat / 64 ≠ 2
 small:(ah u 0).2=u.length
 ne:u ≠ []
 three:u.length≤3
 qV:ah u 0 ≠ (65533,1)
 nl:u ≠ [10]
 is:((ah u 0).1:Int) ≠ r∧(((ah u 0).1:Int)=32∨(65280≤((ah u 0).1:Int)∧((ah u 0).1:Int)≤65519))
theorem Lj {r:Int} (h:r<32):zE r [32]:=by
 have e:ah [32] 0=(32,1):=by decide
 exact ⟨oa (by rw [e];rfl) (by decide),fun c h=>by simp at h;subst h;decide,by rw [e];rfl,by simp,by simp,by rw [e];decide,by decide,by rw [e];simp;omega⟩
theorem FI {r:Int} (h:r=60∨r=62∨r=123∨r=124∨r=125∨r=92):zE r (cE (r+65248)):=by
 rcases h with rfl | rfl | rfl | rfl | rfl | rfl
 all_goals
  refine ⟨oa (by decide) (by decide),fun c h=>?_,by decide,by decide,by decide,by decide,by decide,by decide⟩
 all_goals
  first
  | (rw [show cE (60+65248)=[239,188,156] by decide] at h;simp at h;subst h;decide)
  | (rw [show cE (62+65248)=[239,188,158] by decide] at h;simp at h;subst h;decide)
  | (rw [show cE (123+65248)=[239,189,155] by decide] at h;simp at h;subst h;decide)
  | (rw [show cE (124+65248)=[239,189,156] by decide] at h;simp at h;subst h;decide)
  | (rw [show cE (125+65248)=[239,189,157] by decide] at h;simp at h;subst h;decide)
  | (rw [show cE (92+65248)=[239,188,188] by decide] at h;simp at h;subst h;decide)
theorem yS {d r:Int} {u:List UInt8} (h:gM d r=some u):zE r u:=by
 unfold gM at h
 cases h1:(decide (r<32) && r != 10) with
 | true =>
  rw [h1] at h
  simp only [cond_true,Option.some.injEq] at h
  subst h
  simp only [Bool.and_eq_true,decide_eq_true_eq] at h1
  exact Lj h1.1
 | false =>
  rw [h1] at h
  simp only [cond_false] at h
  have fin : ∀ {b:Bool},(b=true→r=60∨r=62∨r=123∨r=124∨r=125∨r=92)→(bif b then some (cE (r+65248)) else none)=some u→zE r u:=by
   intro b hb hu
   cases b with
   | false=>cases hu
   | true =>
    simp only [cond_true,Option.some.injEq] at hu
    subst hu
    exact FI (hb rfl)
  cases h2:d == 1 with
  | true=>rw [h2] at h;exact fin (fun h=>by simp only [Bool.or_eq_true,beq_iff_eq] at h;omega) h
  | false =>
   rw [h2] at h
   simp only [cond_false] at h
   cases h3:d == 3 with
   | true=>rw [h3] at h;exact fin (fun h=>by simp only [Bool.or_eq_true,beq_iff_eq] at h;omega) h
   | false =>
    rw [h3] at h
    simp only [cond_false] at h
    cases h4:d == 4 with
    | true=>rw [h4] at h;exact fin (fun h=>by simp only [Bool.or_eq_true,beq_iff_eq] at h;omega) h
    | false=>rw [h4] at h;cases h
def qg (s:List UInt8) (m:Nat):List UInt8:=(s.drop (place s m)).take (ah s (place s m)).2
def ig (s:List UInt8) (m:Nat):Int:=((ah s (place s m)).1:Int)
def bJ (d:Int) (s:List UInt8) (m:Nat):List UInt8:=(gM d (ig s m)).getD (qg s m)
def bI (l:cT):Bool:=match l.getLast? with | some p=>p.1 == [10] | none=>false
structure EF where
 l:cT
 sg:Nat
 en:Nat
def mj (d:Int) (bl:Bool) (s:List UInt8) (L:Nat→aj) (x:EF) (m:Nat):EF :=
 bif bJ d s m == [10] && !bl && (x.l.isEmpty || bI x.l) then ⟨x.l,x.sg+(if (gM d (ig s m)).isSome then 1 else 0),x.en+1⟩
 else ⟨x.l ++ [(bJ d s m,L m)],x.sg+(if (gM d (ig s m)).isSome then 1 else 0),x.en⟩
def eC (d:Int) (bl:Bool) (s:List UInt8) (L:Nat→aj):Nat→EF
 | 0=>⟨[],0,0⟩
 | m+1=>mj d bl s L (eC d bl s L m) m
def dB (bl:Bool) (x:EF):EF:=bif decide (0<x.l.length) && !bl && bI x.l then ⟨x.l.dropLast,x.sg,x.en+1⟩ else x
theorem mR {s:List UInt8} {m:Nat} (h:place s m<s.length):s.drop (place s m)=qg s m ++ s.drop (place s (m+1))∧(qg s m).length=(ah s (place s m)).2∧1≤(qg s m).length∧(qg s m).length≤4∧aE (qg s m) 1 ∧
  (ah (qg s m ++ s.drop (place s (m+1))) 0).2=(qg s m).length∧place s (m+1)=place s m+(qg s m).length:=by
 have jN:=cw s _ h
 have hle:=jy s (place s m)
 have hlen:(qg s m).length=(ah s (place s m)).2:=by unfold qg;rw [List.length_take,List.length_drop];omega
 have hp:place s (m+1)=place s m+(ah s (place s m)).2:=rfl
 have I9:s.drop (place s m)=qg s m ++ s.drop (place s (m+1)):=by
  rw [hp,← List.drop_drop];unfold qg;rw [List.take_append_drop]
 refine ⟨I9,hlen,by omega,by omega,aE.one h,?_,by omega⟩
 rw [← I9,hlen]
 congr 1
 exact eV fun j _=>by rw [List.getElem?_drop,Nat.zero_add]
theorem zl {t r:List UInt8} (hlen:(ah t 0).2=t.length) (h0:t ≠ []) (C1:ah t 0 ≠ (65533,1)):ah (t ++ r) 0=ah t 0:=by
 have hp:0<t.length:=List.length_pos_iff.2 h0
 rcases Nat.lt_or_ge 1 t.length with g | g
 ·exact eD (s:=t) (i:=0) (t:=t ++ r) (k:=0) (by omega) fun j hj=>by rw [Nat.zero_add,dZ (by omega)]
 ·have h2:(ah t 0).2=1:=by omega
  have h3:=gQ h2
  have e:ai (t ++ r) 0 0=ai t 0 0:=by unfold ai;rw [dZ (by omega)]
  have h5:ai t 0 0<128:=by
   rcases Nat.lt_or_ge (ai t 0 0) 128 with g5 | g5
   ·exact g5
   ·rw [if_neg (by omega)] at h3
    exact absurd (Prod.ext h3 h2) C1
  unfold ah
  simp only [e]
  rw [if_pos h5,if_pos h5]
theorem qu {a t r:List UInt8} (h:cM a (t ++ r)=false):cM a t=false:=by
 rw [← Bool.not_eq_true,ez]
 rintro ⟨p,h1,h2⟩
 have h3:ah (a ++ (t ++ r)) p=ah (a ++ t) p:=by
  have h4:=cw (a ++ t) p (by rw [List.length_append];omega)
  rw [← List.append_assoc]
  refine eD (by omega) fun j hj=>?_
  exact (dZ (by omega)).symm
 have:=iR h h1
 rw [h3] at this
 omega
theorem CO {a b c:List UInt8} (h:cM a b=false) (h' : cM (a ++ b) c=false):cM a (b ++ c)=false:=by
 rw [← Bool.not_eq_true,ez]
 rintro ⟨p,h1,h2⟩
 rw [← List.append_assoc] at h2
 have h3:=iR h' (p:=p) (by rw [List.length_append];omega)
 have h4:=eU (a:=a ++ b) (b:=c) (p:=p) (by rw [List.length_append];omega) h3
 have h5:=iR h h1
 rw [h4] at h5
 omega
theorem fP (l m:cT):aH (l ++ m)=aH l ++ aH m:=by simp [aH]
structure Pos (l:cT):Prop where
 apart : ∀j,j≤l.length→cM (aH (l.take j)) (aH (l.drop j))=false
 one : ∀p ∈ l,aE p.1 1
theorem Pos.nil:Pos []:=⟨fun j _=>by simp only [List.take_nil,xg];exact fL _,fun p h=>by cases h⟩
theorem Pos.snoc {l:cT} {p:List UInt8×aj} (h:Pos l) (hm:cM (aH l) p.1=false) (h1:aE p.1 1):Pos (l ++ [p]):=by
 refine ⟨fun j hj=>?_,fun q hq=>?_⟩
 ·rw [List.length_append,List.length_singleton] at hj
  rcases Nat.lt_or_ge l.length j with g | g
  ·rw [List.drop_eq_nil_of_le (by rw [List.length_append,List.length_singleton];omega)];exact sy _
  ·rw [List.take_append_of_le_length g,List.drop_append_of_le_length g,fP]
   refine CO (h.apart j g) ?_
   rw [← fP,List.take_append_drop,show aH [p]=p.1 by simp [aH]]
   exact hm
 ·rcases List.mem_append.1 hq with hq | hq
  ·exact h.one q hq
  ·rw [List.mem_singleton.1 hq];exact h1
theorem Pos.init {l m:cT} (h:Pos (l ++ m)):Pos l:=by
 refine ⟨fun j hj=>?_,fun q hq=>h.one q (List.mem_append_left _ hq)⟩
 have:=h.apart j (by rw [List.length_append];omega)
 rw [List.take_append_of_le_length hj,List.drop_append_of_le_length hj,fP] at this
 exact qu this
theorem Pos.congr {l m:cT} (h:Pos l) (e:m.map Prod.fst=l.map Prod.fst):Pos m:=by
 have hl:m.length=l.length:=by have:=congrArg List.length e;simpa using this
 have ht : ∀j,aH (m.take j)=aH (l.take j):=fun j=>by unfold aH;rw [List.map_take,List.map_take,e]
 have hd : ∀j,aH (m.drop j)=aH (l.drop j):=fun j=>by unfold aH;rw [List.map_drop,List.map_drop,e]
 refine ⟨fun j hj=>by rw [ht,hd];exact h.apart j (by omega),fun q hq=>?_⟩
 have:q.1 ∈ m.map Prod.fst:=List.mem_map_of_mem hq
 rw [e] at this
 obtain ⟨r,h1,h2⟩:=List.mem_map.1 this
 rw [← h2];exact h.one r h1
theorem Pos.cut {l:cT} {j:Nat} (hj:j<l.length):aH (l.take (j+1))=aH (l.take j) ++ l[j].1∧aH (l.drop j)=l[j].1 ++ aH (l.drop (j+1)):=by
 refine ⟨by rw [List.take_succ_eq_append_getElem hj,fj],?_⟩
 rw [List.drop_eq_getElem_cons hj];rfl
theorem Pos.part {l:cT} (h:Pos l) : ∀ {j:Nat},j≤l.length→aE (aH (l.take j)) j
 | 0,_=>⟨rfl,fun j h=>absurd h (Nat.not_lt_zero j)⟩
 | j+1,hj=>by
  have h1:=h.part (j:=j) (by omega)
  have h2:=h.apart j (by omega)
  have hc:=Pos.cut (l:=l) (j:=j) (by omega)
  rw [hc.2] at h2
  rw [hc.1]
  exact h1.snoc (qu h2) (h.one _ (List.getElem_mem (by omega)))
theorem Pos.cW {l:cT} (h:Pos l):aE (aH l) l.length:=by have:=h.part (Nat.le_refl _);rwa [List.take_length] at this
theorem Pos.place {l:cT} (h:Pos l) {j:Nat} (hj:j≤l.length):Go.Am.place (aH l) j=(aH (l.take j)).length:=by
 have h1:=h.part hj
 have h2:=jm (h.apart j hj) (j:=j) h1.2
 rw [← fP,List.take_append_drop] at h2
 rw [h2];exact h1.1
theorem Pos.dec {l:cT} (h:Pos l) {j:Nat} (hj:j<l.length):ah (aH l) (Go.Am.place (aH l) j)=ah l[j].1 0∧(ah l[j].1 0).2=l[j].1.length:=by
 have hc:=Pos.cut hj
 have e0:aH l=aH (l.take j) ++ (l[j].1 ++ aH (l.drop (j+1))):=by rw [← hc.2,← fP,List.take_append_drop]
 have h1:=h.one _ (List.getElem_mem hj)
 have hlen:(ah l[j].1 0).2=l[j].1.length:=by have:=h1.1;simpa [Go.Am.place] using this
 refine ⟨?_,hlen⟩
 rw [h.place (by omega)]
 have hb:=kY (a:=aH (l.take j)) (b:=l[j].1 ++ aH (l.drop (j+1))) (p:=0)
 rw [← e0,Nat.add_zero] at hb
 rw [hb]
 have h0:0<l[j].1.length:=h1.2 0 (by omega)
 have h4:=h.apart (j+1) (by omega)
 rw [hc.1] at h4
 have h5:=iR h4 (p:=(aH (l.take j)).length) (by rw [List.length_append];omega)
 rw [List.append_assoc,← e0,hb,List.length_append] at h5
 exact (eU (a:=l[j].1) (b:=aH (l.drop (j+1))) (p:=0) h0 (by omega)).symm
structure KI (d:Int) (bl:Bool) (s:List UInt8) (L:Nat→aj) (m:Nat) (x:EF):Prop where
 cW:aE (aH x.l) x.l.length
 apart:cM (aH x.l) (s.drop (place s m))=false
 ne : ∀p ∈ x.l,p.1 ≠ []
 size:(aH x.l).length≤3*place s m
 from_ : ∀p ∈ x.l,∃j,j<m∧p.2=L j
 count:x.l.length+x.en=m
 Ac:x.sg≤m
 pos:Pos x.l
theorem L5 {l:cT} (h:bI l=true) : ∀c,(aH l).getLast? = some c→c.toNat<128:=by
 unfold bI at h
 cases hl:l.getLast? with
 | none=>rw [hl] at h;cases h
 | some p =>
  rw [hl] at h
  have hp:p.1=[10]:=by simpa using h
  obtain ⟨l0,rfl⟩:=List.getLast?_eq_some_iff.1 hl
  intro c hc
  rw [fj,hp,List.getLast?_append] at hc
  simp at hc
  subst hc;decide
theorem KI.next {d:Int} {bl:Bool} {s:List UInt8} {L:Nat→aj} {m:Nat} {x:EF} (h:KI d bl s L m x) (hm:place s m<s.length):KI d bl s L (m+1) (mj d bl s L x m):=by
 obtain ⟨f1,f2,f3,f4,f5,f6,f7⟩:=mR hm
 have Lx:x.sg+(if (gM d (ig s m)).isSome then 1 else 0)≤m+1:=by have:=h.Ac;split <;> omega
 unfold mj
 cases hc:(bJ d s m == [10] && !bl && (x.l.isEmpty || bI x.l)) with
 | true =>
  simp only [cond_true]
  simp only [Bool.and_eq_true,beq_iff_eq,Bool.or_eq_true] at hc
  refine ⟨h.cW,?_,h.ne,by have:=h.size;simp only;omega,fun p hp=>?_,by have:=h.count;simp only;omega,Lx,h.pos⟩
  ·rcases hc.2 with e | e
   ·have:x.l=[]:=List.isEmpty_iff.1 e
    simp only [this,xg];exact fL _
   ·exact sA (L5 e)
  ·obtain ⟨j,h1,h2⟩:=h.from_ p hp;exact ⟨j,by omega,h2⟩
 | false =>
  simp only [cond_false]
  have core:bJ d s m ≠ []∧(bJ d s m).length≤3*(qg s m).length∧cM (aH x.l) (bJ d s m)=false∧aE (bJ d s m) 1∧cM (aH x.l ++ bJ d s m) (s.drop (place s (m+1)))=false:=by
   unfold bJ
   cases hk:gM d (ig s m) with
   | none =>
    rw [Option.getD_none]
    have ha:=h.apart
    rw [f1] at ha
    exact ⟨fun e=>by rw [e] at f3;simp at f3,by omega,qu ha,f5,jn ha f6⟩
   | some u =>
    rw [Option.getD_some]
    have hu:=yS hk
    refine ⟨hu.ne,by have:=hu.three;omega,kP hu.lead,hu.one,jn (kP ?_) ?_⟩
    ·intro c hc
     refine hu.lead c ?_
     rw [List.getElem?_append_left (List.length_pos_iff.2 hu.ne)] at hc
     exact hc
    ·rw [zl hu.small hu.ne hu.qV];exact hu.small
  obtain ⟨c1,c2,c3,c4,c5⟩:=core
  refine ⟨?_,?_,fun p hp=>?_,?_,fun p hp=>?_,?_,Lx,h.pos.snoc c3 c4⟩
  ·simp only [fj,List.length_append,List.length_singleton]
   exact h.cW.snoc c3 c4
  ·simp only [fj];exact c5
  ·rcases List.mem_append.1 hp with hp | hp
   ·exact h.ne p hp
   ·rw [List.mem_singleton.1 hp];exact c1
  ·have:=h.size
   simp only [fj,List.length_append];omega
  ·rcases List.mem_append.1 hp with hp | hp
   ·obtain ⟨j,h1,h2⟩:=h.from_ p hp;exact ⟨j,by omega,h2⟩
   ·rw [List.mem_singleton.1 hp];exact ⟨m,by omega,rfl⟩
  ·have:=h.count
   simp only [List.length_append,List.length_singleton];omega
theorem KI.start (d:Int) (bl:Bool) (s:List UInt8) (L:Nat→aj):KI d bl s L 0 (eC d bl s L 0) :=
 ⟨⟨rfl,fun j h=>absurd h (Nat.not_lt_zero j)⟩,fL _,(fun p h=>by cases h),Nat.zero_le _,(fun p h=>by cases h),rfl,Nat.le_refl _,Pos.nil⟩
theorem KI.all {d:Int} {bl:Bool} {s:List UInt8} {L:Nat→aj} {n:Nat} (hn:aE s n) : ∀ {m:Nat},m≤n→KI d bl s L m (eC d bl s L m)
 | 0,_=>KI.start d bl s L
 | m+1,h=>(KI.all hn (m:=m) (by omega)).next (hn.2 m (by omega))
structure KE (s:List UInt8) (L:Nat→aj) (n:Nat) (x:EF):Prop where
 cW:aE (aH x.l) x.l.length
 ne : ∀p ∈ x.l,p.1 ≠ []
 size:(aH x.l).length≤3*s.length
 from_ : ∀p ∈ x.l,∃j,j<n∧p.2=L j
 count:x.l.length+x.en=n
 Ac:x.sg≤n
 pos:Pos x.l
theorem KI.last {d:Int} {bl:Bool} {s:List UInt8} {L:Nat→aj} {n:Nat} (hn:aE s n) {x:EF} (h:KI d bl s L n x):KE s L n (dB bl x):=by
 have jN:=h.size
 rw [hn.1] at jN
 unfold dB
 cases hc:(decide (0<x.l.length) && !bl && bI x.l) with
 | false=>exact ⟨h.cW,h.ne,jN,h.from_,h.count,h.Ac,h.pos⟩
 | true =>
  simp only [cond_true]
  simp only [Bool.and_eq_true,decide_eq_true_eq] at hc
  obtain ⟨⟨h0,_⟩,hl⟩:=hc
  have lE : ∀p ∈ x.l.dropLast,p ∈ x.l:=fun p hp=>List.dropLast_sublist x.l |>.subset hp
  unfold bI at hl
  cases hg:x.l.getLast? with
  | none=>rw [hg] at hl;cases hl
  | some p =>
   rw [hg] at hl
   have hp:p.1=[10]:=by simpa using hl
   obtain ⟨l0,wX⟩:=List.getLast?_eq_some_iff.1 hg
   have hd:x.l.dropLast=l0:=by rw [wX,List.dropLast_concat]
   have hlen:x.l.length=l0.length+1:=by rw [wX];simp
   have GP:aH x.l=aH l0 ++ [10]:=by rw [wX,fj,hp]
   refine ⟨?_,fun q hq=>h.ne q (lE q hq),?_,fun q hq=>h.from_ q (lE q hq),?_,h.Ac,by rw [hd];have:=h.pos;rw [wX] at this;exact this.init⟩
   ·obtain ⟨k,hk⟩:=aE.ex (aH l0)
    have h1:=aE.append (AL (a:=aH l0) (b:=[10]) (fun c hc=>by simp at hc;subst hc;decide)) hk (oa (t:=[10]) (by decide) (by decide))
    rw [← GP] at h1
    have:=h1.uniq h.cW
    rw [hd,show l0.length=k by omega];exact hk
   ·rw [hd]
    rw [GP,List.length_append] at jN
    simp only;omega
   ·have:=h.count
    simp only [hd];omega
theorem mm {d:Int} {bl:Bool} {s:List UInt8} {L:Nat→aj} {n:Nat} (hn:aE s n):KE s L n (dB bl (eC d bl s L n)):=(KI.all hn (Nat.le_refl n)).last hn
/-! Lines -/
def aX (l:cT):Nat→List (Nat×Nat)×Nat
 | 0=>([],0)
 | i+1=>match l[i]? with
  | some p=>bif p.1 == [10] then ((aX l i).1 ++ [((aX l i).2,i+1)],i+1) else aX l i
  | none=>aX l i
def parts (l:cT):List (Nat×Nat):=(aX l l.length).1 ++ [((aX l l.length).2,l.length)]
def nV:Nat→List (Nat×Nat)→Nat→Prop
 | a,[],b=>a=b
 | a,p :: ps,b=>p.1=a∧p.1≤p.2∧nV p.2 ps b
theorem oC : ∀ {ps:List (Nat×Nat)} {a b c:Nat},nV a ps b→b≤c→nV a (ps ++ [(b,c)]) c
 | [],a,b,c,h,hc=>by cases h;exact ⟨rfl,hc,rfl⟩
 | p :: ps,a,b,c,h,hc=>⟨h.1,h.2.1,oC h.2.2 hc⟩
theorem uZ : ∀ {ps:List (Nat×Nat)} {a b:Nat},nV a ps b→a≤b
 | [],a,b,h=>by cases h;exact Nat.le_refl _
 | p :: ps,a,b,h=>by have:=uZ h.2.2;have:=h.1;have:=h.2.1;omega
theorem fM (l:cT) : ∀i,nV 0 (aX l i).1 (aX l i).2∧(aX l i).2≤i
 | 0=>⟨rfl,Nat.le_refl _⟩
 | i+1=>by
  obtain ⟨h1,h2⟩:=fM l i
  unfold aX
  cases l[i]? with
  | none=>exact ⟨h1,by simp only;omega⟩
  | some p =>
   simp only
   cases p.1 == [10] with
   | true=>exact ⟨oC h1 (by omega),Nat.le_refl _⟩
   | false=>exact ⟨h1,by simp only [cond_false];omega⟩
theorem rK (l:cT):nV 0 (parts l) l.length:=oC (fM l _).1 (fM l _).2
theorem yu (l:cT):(parts l).length≤l.length+1:=by
 have : ∀i,(aX l i).1.length≤i:=by
  intro i
  induction i with
  | zero=>exact Nat.le_refl _
  | succ i ih =>
   unfold aX
   cases l[i]? with
   | none=>simp only;omega
   | some p =>
    simp only
    cases p.1 == [10] with
    | true=>simp only [cond_true,List.length_append,List.length_singleton];omega
    | false=>simp only [cond_false];omega
 have:=this l.length
 unfold parts;rw [List.length_append,List.length_singleton];omega
/-! Looks of lines -/
def meet (a b:aj):aj:=⟨a.b && b.b,a.i && b.i,a.u && b.u,a.k && b.k,if a.c=b.c then a.c else 0⟩
def ga (l:cT) (i:Nat):aj:=((l[i]?).map Prod.snd).getD aI
def fW (l:cT) (a:Nat):Nat→aj
 | 0=>ga l a
 | m+1=>meet (fW l a m) (ga l (a+m+1))
def sL (l:cT) (a e:Nat):aj:=if a=e then aI else fW l a (e - a - 1)
def bX (d:Int) (al c:aj):aj:=bif d == 2 then { c with k:=false } else bif d == 3 then al else c
def pg (d:Int) (al:aj) (x:cT×Nat) (i:Nat):cT×Nat :=
 match x.1[i]? with
 | some p=>(x.1.set i (p.1,bX d al p.2),x.2+(if dF (bX d al p.2) p.2 then 0 else 1))
 | none=>x
def o9 (d:Int) (al:aj) (a:Nat) (x:cT×Nat):Nat→cT×Nat
 | 0=>x
 | i+1=>pg d al (o9 d al a x i) (a+i)
def fZ (d:Int) (x:cT×Nat) (p:Nat×Nat):cT×Nat:=o9 d (sL x.1 p.1 p.2) p.1 x (p.2 - p.1)
def iO (d:Int) (l:cT):cT×Nat:=(parts l).foldl (fZ d) (l,0)
theorem mZ {l:cT} {i:Nat} (h:i<l.length):ga l i=l[i].2:=by unfold ga;rw [List.getElem?_eq_getElem h];rfl
theorem Ew (l:cT) (a:Nat) : ∀m,(fW l a m).c=0∨(fW l a m).c=(ga l a).c
 | 0=>.inr rfl
 | m+1=>by
  unfold fW meet
  simp only
  split
  ·exact Ew l a m
  ·exact .inl rfl
theorem Lh {l:cT} (h : ∀p ∈ l,yA p.2.c) (i:Nat):yA (ga l i).c:=by
 rcases Nat.lt_or_ge i l.length with g | g
 ·rw [mZ g];exact h _ (List.getElem_mem g)
 ·unfold ga;rw [List.getElem?_eq_none g];exact ⟨by decide,by decide⟩
theorem Ex {l:cT} (h : ∀p ∈ l,yA p.2.c) (a e:Nat):yA (sL l a e).c:=by
 unfold sL
 split
 ·exact ⟨by decide,by decide⟩
 ·rcases Ew l a (e - a - 1) with g | g
  ·rw [g];exact ⟨by decide,by decide⟩
  ·rw [g];exact Lh h a
theorem p4 (p:Nat→Bool) (n:Nat):cnt p (n+1)=cnt p n+bif p n then 1 else 0:=rfl
structure PI (l:cT) (m:Nat) (x:cT×Nat):Prop where
 len:x.1.length=l.length
 fst:x.1.map Prod.fst=l.map Prod.fst
 same : ∀i,m≤i→x.1[i]? = l[i]?
 num:x.2=cnt (fun i=>!dF (ga l i) (ga x.1 i)) m
 ok:(∀p ∈ l,yA p.2.c)→∀p ∈ x.1,yA p.2.c
theorem PI.step {l:cT} {m:Nat} {x:cT×Nat} (h:PI l m x) (hm:m<l.length) (d:Int) {al:aj} (Bj:(∀p ∈ l,yA p.2.c)→yA al.c):PI l (m+1) (pg d al x m):=by
 have UE:m<x.1.length:=by rw [h.len];exact hm
 have hg:x.1[m]? = some x.1[m]:=List.getElem?_eq_getElem UE
 have Z4:x.1[m]=l[m]:=by
  have:=h.same m (Nat.le_refl m)
  rw [hg,List.getElem?_eq_getElem hm] at this
  exact Option.some.inj this
 unfold pg
 rw [hg]
 simp only
 refine ⟨by rw [List.length_set];exact h.len,?_,fun i hi=>?_,?_,fun oJ p hp=>?_⟩
 ·rw [List.map_set]
  have:(x.1.map Prod.fst).set m x.1[m].1=x.1.map Prod.fst:=by
   apply List.ext_getElem
   ·simp
   ·intro i h1 h2
    rw [List.getElem_set]
    split
    ·rename_i e;subst e;rw [List.getElem_map]
    ·rfl
  rw [this];exact h.fst
 ·rw [List.getElem?_set,if_neg (by omega)];exact h.same i (by omega)
 ·have e1:Go.Am.cnt (fun i=>!dF (ga l i) (ga (x.1.set m (x.1[m].1,bX d al x.1[m].2)) i)) m=Go.Am.cnt (fun i=>!dF (ga l i) (ga x.1 i)) m:=by
   refine qS fun i hi=>?_
   have:ga (x.1.set m (x.1[m].1,bX d al x.1[m].2)) i=ga x.1 i:=by unfold ga;rw [List.getElem?_set,if_neg (by omega)]
   rw [this]
  have e2:ga (x.1.set m (x.1[m].1,bX d al x.1[m].2)) m=bX d al x.1[m].2:=by
   unfold ga;rw [List.getElem?_set,if_pos rfl,if_pos UE];rfl
  rw [p4,e1,e2,mZ hm,h.num,Z4]
  have UN : ∀a b:aj,dF a b=dF b a:=by
   intro a b
   rw [Bool.eq_iff_iff,cB,cB];exact eq_comm
  rw [UN]
  cases dF l[m].2 (bX d al l[m].2) <;> simp
 ·rcases List.mem_or_eq_of_mem_set hp with hp | rfl
  ·exact h.ok oJ p hp
  ·simp only
   have h0:=h.ok oJ _ (List.getElem_mem UE)
   unfold bX
   cases d == 2 with
   | true=>exact h0
   | false =>
    cases d == 3 with
    | true=>exact Bj oJ
    | false=>exact h0
theorem PI.to {l:cT} {x:cT×Nat} {a:Nat} (h:PI l a x) (d:Int) {al:aj} (Bj:(∀p ∈ l,yA p.2.c)→yA al.c) : ∀ {m:Nat},a+m≤l.length→PI l (a+m) (o9 d al a x m)
 | 0,_=>h
 | m+1,hm=>(PI.to h d Bj (m:=m) (by omega)).step (by omega) d Bj
theorem PI.line {l:cT} {x:cT×Nat} {p:Nat×Nat} (h:PI l p.1 x) (d:Int) (h1:p.1≤p.2) (h2:p.2≤l.length):PI l p.2 (fZ d x p):=by
 have:=h.to d (al:=sL x.1 p.1 p.2) (fun oJ=>Ex (h.ok oJ) _ _) (m:=p.2 - p.1) (by omega)
 rw [show p.1+(p.2 - p.1)=p.2 by omega] at this
 exact this
theorem PI.lines {l:cT} (d:Int) : ∀ {ps:List (Nat×Nat)} {a b:Nat} {x:cT×Nat},nV a ps b→b≤l.length→PI l a x→PI l b (ps.foldl (fZ d) x)
 | [],a,b,x,h,_,hx=>by cases h;exact hx
 | p :: ps,a,b,x,h,hb,hx=>by
  have h1:=h.1
  have hle:=uZ h.2.2
  subst h1
  exact PI.lines d (x:=fZ d x p) h.2.2 hb (hx.line d h.2.1 (by omega))
theorem PI.start (l:cT):PI l 0 (l,0):=⟨rfl,rfl,fun _ _=>rfl,rfl,fun h=>h⟩
theorem jZ (d:Int) (l:cT):PI l l.length (iO d l):=PI.lines d (rK l) (Nat.le_refl _) (PI.start l)
end Go.Am

/- What a dialect can say of signs: look-alikes, empty lines left out, lines painted alike; the signs stay what they are. -/
import Derived.Test.YtlkdhhkncoekgaaDoorRunL
namespace Go.Am
open Go.Proofs.YtlkdhhkncoekgaaDoor
abbrev cN:=List (List UInt8×aj)
def aF (l:cN):List UInt8:=(l.map Prod.fst).flatten
theorem wu:aF []=[]:=rfl
theorem c8 (l:cN) (p:List UInt8×aj):aF (l ++ [p])=aF l ++ p.1:=by simp [aF]
def jF (d r:Int):Option (List UInt8) :=
 bif decide (r<32) && r != 10 then some [32]
 else bif d == 1 then (bif r == 60 || r == 62 then some (cB (r+65248)) else none)
 else bif d == 3 then (bif r == 123 || r == 124 || r == 125 then some (cB (r+65248)) else none)
 else bif d == 4 then (bif r == 123 || r == 92 || r == 125 then some (cB (r+65248)) else none)
 else none
structure yM (r:Int) (u:List UInt8):Prop where
 one:aD u 1
 lead : ∀c,u[0]? = some c→c.toNat / 64 ≠ 2
 small:(ah u 0).2=u.length
 ne:u ≠ []
 three:u.length≤3
 wJ:ah u 0 ≠ (65533,1)
 nl:u ≠ [10]
 is:((ah u 0).1:Int) ≠ r∧(((ah u 0).1:Int)=32∨(65280≤((ah u 0).1:Int)∧((ah u 0).1:Int)≤65519))
theorem Kt {r:Int} (h:r<32):yM r [32]:=by
 have e:ah [32] 0=(32,1):=by decide
 exact ⟨nC (by rw [e];rfl) (by decide),fun c h=>by simp at h;subst h;decide,by rw [e];rfl,by simp,by simp,by rw [e];decide,by decide,by rw [e];simp;omega⟩
theorem E7 {r:Int} (h:r=60∨r=62∨r=123∨r=124∨r=125∨r=92):yM r (cB (r+65248)):=by
 rcases h with rfl | rfl | rfl | rfl | rfl | rfl
 all_goals
  refine ⟨nC (by decide) (by decide),fun c h=>?_,by decide,by decide,by decide,by decide,by decide,by decide⟩
 all_goals
  first
  | (rw [show cB (60+65248)=[239,188,156] by decide] at h;simp at h;subst h;decide)
  | (rw [show cB (62+65248)=[239,188,158] by decide] at h;simp at h;subst h;decide)
  | (rw [show cB (123+65248)=[239,189,155] by decide] at h;simp at h;subst h;decide)
  | (rw [show cB (124+65248)=[239,189,156] by decide] at h;simp at h;subst h;decide)
  | (rw [show cB (125+65248)=[239,189,157] by decide] at h;simp at h;subst h;decide)
  | (rw [show cB (92+65248)=[239,188,188] by decide] at h;simp at h;subst h;decide)
theorem Dw {d r:Int} {u:List UInt8} (h:jF d r=some u):yM r u:=by
 unfold jF at h
 cases h1:(decide (r<32) && r != 10) with
 | true =>
  rw [h1] at h
  simp only [cond_true,Option.some.injEq] at h
  subst h
  simp only [Bool.and_eq_true,decide_eq_true_eq] at h1
  exact Kt h1.1
 | false =>
  rw [h1] at h
  simp only [cond_false] at h
  have fin : ∀ {b:Bool},(b=true→r=60∨r=62∨r=123∨r=124∨r=125∨r=92)→(bif b then some (cB (r+65248)) else none)=some u→yM r u:=by
   intro b hb hu
   cases b with
   | false=>cases hu
   | true =>
    simp only [cond_true,Option.some.injEq] at hu
    subst hu
    exact E7 (hb rfl)
  cases h2:d == 1 with
  | true=>rw [h2] at h;exact fin (fun h=>by simp only [Bool.or_eq_true,beq_iff_eq] at h;omega) h
  | false =>
   rw [h2] at h
   simp only [cond_false] at h
   cases h3:d == 3 with
   | true=>rw [h3] at h;exact fin (fun h=>by simp only [Bool.or_eq_true,beq_iff_eq] at h;omega) h
   | false =>
    rw [h3] at h
    simp only [cond_false] at h
    cases h4:d == 4 with
    | true=>rw [h4] at h;exact fin (fun h=>by simp only [Bool.or_eq_true,beq_iff_eq] at h;omega) h
    | false=>rw [h4] at h;cases h
def uK (s:List UInt8) (m:Nat):List UInt8:=(s.drop (place s m)).take (ah s (place s m)).2
def gq (s:List UInt8) (m:Nat):Int:=((ah s (place s m)).1:Int)
def bO (d:Int) (s:List UInt8) (m:Nat):List UInt8:=(jF d (gq s m)).getD (uK s m)
def cj (l:cN):Bool:=match l.getLast? with | some p=>p.1 == [10] | none=>false
structure GA where
 l:cN
 sg:Nat
 en:Nat
def ng (d:Int) (bl:Bool) (s:List UInt8) (L:Nat→aj) (x:GA) (m:Nat):GA :=
 bif bO d s m == [10] && !bl && (x.l.isEmpty || cj x.l) then ⟨x.l,x.sg+(if (jF d (gq s m)).isSome then 1 else 0),x.en+1⟩
 else ⟨x.l ++ [(bO d s m,L m)],x.sg+(if (jF d (gq s m)).isSome then 1 else 0),x.en⟩
def eE (d:Int) (bl:Bool) (s:List UInt8) (L:Nat→aj):Nat→GA
 | 0=>⟨[],0,0⟩
 | m+1=>ng d bl s L (eE d bl s L m) m
def eL (bl:Bool) (x:GA):GA:=bif decide (0<x.l.length) && !bl && cj x.l then ⟨x.l.dropLast,x.sg,x.en+1⟩ else x
theorem vq {s:List UInt8} {m:Nat} (h:place s m<s.length):s.drop (place s m)=uK s m ++ s.drop (place s (m+1))∧(uK s m).length=(ah s (place s m)).2∧1≤(uK s m).length∧(uK s m).length≤4∧aD (uK s m) 1 ∧
  (ah (uK s m ++ s.drop (place s (m+1))) 0).2=(uK s m).length∧place s (m+1)=place s m+(uK s m).length:=by
 have jn:=ct s _ h
 have hle:=jc s (place s m)
 have hlen:(uK s m).length=(ah s (place s m)).2:=by unfold uK;rw [List.length_take,List.length_drop];omega
 have hp:place s (m+1)=place s m+(ah s (place s m)).2:=rfl
 have Iu:s.drop (place s m)=uK s m ++ s.drop (place s (m+1)):=by
  rw [hp,← List.drop_drop];unfold uK;rw [List.take_append_drop]
 refine ⟨Iu,hlen,by omega,by omega,aD.one h,?_,by omega⟩
 rw [← Iu,hlen]
 congr 1
 exact eO fun j _=>by rw [List.getElem?_drop,Nat.zero_add]
theorem yA {t r:List UInt8} (hlen:(ah t 0).2=t.length) (h0:t ≠ []) (Cp:ah t 0 ≠ (65533,1)):ah (t ++ r) 0=ah t 0:=by
 have hp:0<t.length:=List.length_pos_iff.2 h0
 rcases Nat.lt_or_ge 1 t.length with g | g
 ·exact ec (s:=t) (i:=0) (t:=t ++ r) (k:=0) (by omega) fun j hj=>by rw [Nat.zero_add,dN (by omega)]
 ·have h2:(ah t 0).2=1:=by omega
  have h3:=jb h2
  have e:ai (t ++ r) 0 0=ai t 0 0:=by unfold ai;rw [dN (by omega)]
  have h5:ai t 0 0<128:=by
   rcases Nat.lt_or_ge (ai t 0 0) 128 with g5 | g5
   ·exact g5
   ·rw [if_neg (by omega)] at h3
    exact absurd (Prod.ext h3 h2) Cp
  unfold ah
  simp only [e]
  rw [if_pos h5,if_pos h5]
theorem pX {a t r:List UInt8} (h:cG a (t ++ r)=false):cG a t=false:=by
 rw [← Bool.not_eq_true,dZ]
 rintro ⟨p,h1,h2⟩
 have h3:ah (a ++ (t ++ r)) p=ah (a ++ t) p:=by
  have h4:=ct (a ++ t) p (by rw [List.length_append];omega)
  rw [← List.append_assoc]
  refine ec (by omega) fun j hj=>?_
  exact (dN (by omega)).symm
 have:=iy h h1
 rw [h3] at this
 omega
theorem Cb {a b c:List UInt8} (h:cG a b=false) (h' : cG (a ++ b) c=false):cG a (b ++ c)=false:=by
 rw [← Bool.not_eq_true,dZ]
 rintro ⟨p,h1,h2⟩
 rw [← List.append_assoc] at h2
 have h3:=iy h' (p:=p) (by rw [List.length_append];omega)
 have h4:=eN (a:=a ++ b) (b:=c) (p:=p) (by rw [List.length_append];omega) h3
 have h5:=iy h h1
 rw [h4] at h5
 omega
theorem fH (l m:cN):aF (l ++ m)=aF l ++ aF m:=by simp [aF]
structure Pos (l:cN):Prop where
 apart : ∀j,j≤l.length→cG (aF (l.take j)) (aF (l.drop j))=false
 one : ∀p ∈ l,aD p.1 1
theorem Pos.nil:Pos []:=⟨fun j _=>by simp only [List.take_nil,wu];exact fF _,fun p h=>by cases h⟩
theorem Pos.snoc {l:cN} {p:List UInt8×aj} (h:Pos l) (hm:cG (aF l) p.1=false) (h1:aD p.1 1):Pos (l ++ [p]):=by
 refine ⟨fun j hj=>?_,fun q hq=>?_⟩
 ·rw [List.length_append,List.length_singleton] at hj
  rcases Nat.lt_or_ge l.length j with g | g
  ·rw [List.drop_eq_nil_of_le (by rw [List.length_append,List.length_singleton];omega)];exact rG _
  ·rw [List.take_append_of_le_length g,List.drop_append_of_le_length g,fH]
   refine Cb (h.apart j g) ?_
   rw [← fH,List.take_append_drop,show aF [p]=p.1 by simp [aF]]
   exact hm
 ·rcases List.mem_append.1 hq with hq | hq
  ·exact h.one q hq
  ·rw [List.mem_singleton.1 hq];exact h1
theorem Pos.init {l m:cN} (h:Pos (l ++ m)):Pos l:=by
 refine ⟨fun j hj=>?_,fun q hq=>h.one q (List.mem_append_left _ hq)⟩
 have:=h.apart j (by rw [List.length_append];omega)
 rw [List.take_append_of_le_length hj,List.drop_append_of_le_length hj,fH] at this
 exact pX this
theorem Pos.congr {l m:cN} (h:Pos l) (e:m.map Prod.fst=l.map Prod.fst):Pos m:=by
 have hl:m.length=l.length:=by have:=congrArg List.length e;simpa using this
 have ht : ∀j,aF (m.take j)=aF (l.take j):=fun j=>by unfold aF;rw [List.map_take,List.map_take,e]
 have hd : ∀j,aF (m.drop j)=aF (l.drop j):=fun j=>by unfold aF;rw [List.map_drop,List.map_drop,e]
 refine ⟨fun j hj=>by rw [ht,hd];exact h.apart j (by omega),fun q hq=>?_⟩
 have:q.1 ∈ m.map Prod.fst:=List.mem_map_of_mem hq
 rw [e] at this
 obtain ⟨r,h1,h2⟩:=List.mem_map.1 this
 rw [← h2];exact h.one r h1
theorem Pos.cut {l:cN} {j:Nat} (hj:j<l.length):aF (l.take (j+1))=aF (l.take j) ++ l[j].1∧aF (l.drop j)=l[j].1 ++ aF (l.drop (j+1)):=by
 refine ⟨by rw [List.take_succ_eq_append_getElem hj,c8],?_⟩
 rw [List.drop_eq_getElem_cons hj];rfl
theorem Pos.part {l:cN} (h:Pos l) : ∀ {j:Nat},j≤l.length→aD (aF (l.take j)) j
 | 0,_=>⟨rfl,fun j h=>absurd h (Nat.not_lt_zero j)⟩
 | j+1,hj=>by
  have h1:=h.part (j:=j) (by omega)
  have h2:=h.apart j (by omega)
  have hc:=Pos.cut (l:=l) (j:=j) (by omega)
  rw [hc.2] at h2
  rw [hc.1]
  exact h1.snoc (pX h2) (h.one _ (List.getElem_mem (by omega)))
theorem Pos.ep {l:cN} (h:Pos l):aD (aF l) l.length:=by have:=h.part (Nat.le_refl _);rwa [List.take_length] at this
theorem Pos.place {l:cN} (h:Pos l) {j:Nat} (hj:j≤l.length):Go.Am.place (aF l) j=(aF (l.take j)).length:=by
 have h1:=h.part hj
 have h2:=iU (h.apart j hj) (j:=j) h1.2
 rw [← fH,List.take_append_drop] at h2
 rw [h2];exact h1.1
theorem Pos.dec {l:cN} (h:Pos l) {j:Nat} (hj:j<l.length):ah (aF l) (Go.Am.place (aF l) j)=ah l[j].1 0∧(ah l[j].1 0).2=l[j].1.length:=by
 have hc:=Pos.cut hj
 have e0:aF l=aF (l.take j) ++ (l[j].1 ++ aF (l.drop (j+1))):=by rw [← hc.2,← fH,List.take_append_drop]
 have h1:=h.one _ (List.getElem_mem hj)
 have hlen:(ah l[j].1 0).2=l[j].1.length:=by have:=h1.1;simpa [Go.Am.place] using this
 refine ⟨?_,hlen⟩
 rw [h.place (by omega)]
 have hb:=kB (a:=aF (l.take j)) (b:=l[j].1 ++ aF (l.drop (j+1))) (p:=0)
 rw [← e0,Nat.add_zero] at hb
 rw [hb]
 have h0:0<l[j].1.length:=h1.2 0 (by omega)
 have h4:=h.apart (j+1) (by omega)
 rw [hc.1] at h4
 have h5:=iy h4 (p:=(aF (l.take j)).length) (by rw [List.length_append];omega)
 rw [List.append_assoc,← e0,hb,List.length_append] at h5
 exact (eN (a:=l[j].1) (b:=aF (l.drop (j+1))) (p:=0) h0 (by omega)).symm
structure KI (d:Int) (bl:Bool) (s:List UInt8) (L:Nat→aj) (m:Nat) (x:GA):Prop where
 ep:aD (aF x.l) x.l.length
 apart:cG (aF x.l) (s.drop (place s m))=false
 ne : ∀p ∈ x.l,p.1 ≠ []
 size:(aF x.l).length≤3*place s m
 from_ : ∀p ∈ x.l,∃j,j<m∧p.2=L j
 count:x.l.length+x.en=m
 yP:x.sg≤m
 pos:Pos x.l
theorem Ln {l:cN} (h:cj l=true) : ∀c,(aF l).getLast? = some c→c.toNat<128:=by
 unfold cj at h
 cases hl:l.getLast? with
 | none=>rw [hl] at h;cases h
 | some p =>
  rw [hl] at h
  have hp:p.1=[10]:=by simpa using h
  obtain ⟨l0,rfl⟩:=List.getLast?_eq_some_iff.1 hl
  intro c hc
  rw [c8,hp,List.getLast?_append] at hc
  simp at hc
  subst hc;decide
theorem KI.next {d:Int} {bl:Bool} {s:List UInt8} {L:Nat→aj} {m:Nat} {x:GA} (h:KI d bl s L m x) (hm:place s m<s.length):KI d bl s L (m+1) (ng d bl s L x m):=by
 obtain ⟨f1,f2,f3,f4,f5,f6,f7⟩:=vq hm
 have OS:x.sg+(if (jF d (gq s m)).isSome then 1 else 0)≤m+1:=by have:=h.yP;split <;> omega
 unfold ng
 cases hc:(bO d s m == [10] && !bl && (x.l.isEmpty || cj x.l)) with
 | true =>
  simp only [cond_true]
  simp only [Bool.and_eq_true,beq_iff_eq,Bool.or_eq_true] at hc
  refine ⟨h.ep,?_,h.ne,by have:=h.size;simp only;omega,fun p hp=>?_,by have:=h.count;simp only;omega,OS,h.pos⟩
  ·rcases hc.2 with e | e
   ·have:x.l=[]:=List.isEmpty_iff.1 e
    simp only [this,wu];exact fF _
   ·exact rI (Ln e)
  ·obtain ⟨j,h1,h2⟩:=h.from_ p hp;exact ⟨j,by omega,h2⟩
 | false =>
  simp only [cond_false]
  have core:bO d s m ≠ []∧(bO d s m).length≤3*(uK s m).length∧cG (aF x.l) (bO d s m)=false∧aD (bO d s m) 1∧cG (aF x.l ++ bO d s m) (s.drop (place s (m+1)))=false:=by
   unfold bO
   cases hk:jF d (gq s m) with
   | none =>
    rw [Option.getD_none]
    have ha:=h.apart
    rw [f1] at ha
    exact ⟨fun e=>by rw [e] at f3;simp at f3,by omega,pX ha,f5,iV ha f6⟩
   | some u =>
    rw [Option.getD_some]
    have hu:=Dw hk
    refine ⟨hu.ne,by have:=hu.three;omega,kf hu.lead,hu.one,iV (kf ?_) ?_⟩
    ·intro c hc
     refine hu.lead c ?_
     rw [List.getElem?_append_left (List.length_pos_iff.2 hu.ne)] at hc
     exact hc
    ·rw [yA hu.small hu.ne hu.wJ];exact hu.small
  obtain ⟨c1,c2,c3,c4,c5⟩:=core
  refine ⟨?_,?_,fun p hp=>?_,?_,fun p hp=>?_,?_,OS,h.pos.snoc c3 c4⟩
  ·simp only [c8,List.length_append,List.length_singleton]
   exact h.ep.snoc c3 c4
  ·simp only [c8];exact c5
  ·rcases List.mem_append.1 hp with hp | hp
   ·exact h.ne p hp
   ·rw [List.mem_singleton.1 hp];exact c1
  ·have:=h.size
   simp only [c8,List.length_append];omega
  ·rcases List.mem_append.1 hp with hp | hp
   ·obtain ⟨j,h1,h2⟩:=h.from_ p hp;exact ⟨j,by omega,h2⟩
   ·rw [List.mem_singleton.1 hp];exact ⟨m,by omega,rfl⟩
  ·have:=h.count
   simp only [List.length_append,List.length_singleton];omega
theorem KI.start (d:Int) (bl:Bool) (s:List UInt8) (L:Nat→aj):KI d bl s L 0 (eE d bl s L 0) :=
 ⟨⟨rfl,fun j h=>absurd h (Nat.not_lt_zero j)⟩,fF _,(fun p h=>by cases h),Nat.zero_le _,(fun p h=>by cases h),rfl,Nat.le_refl _,Pos.nil⟩
theorem KI.all {d:Int} {bl:Bool} {s:List UInt8} {L:Nat→aj} {n:Nat} (hn:aD s n) : ∀ {m:Nat},m≤n→KI d bl s L m (eE d bl s L m)
 | 0,_=>KI.start d bl s L
 | m+1,h=>(KI.all hn (m:=m) (by omega)).next (hn.2 m (by omega))
structure KE (s:List UInt8) (L:Nat→aj) (n:Nat) (x:GA):Prop where
 ep:aD (aF x.l) x.l.length
 ne : ∀p ∈ x.l,p.1 ≠ []
 size:(aF x.l).length≤3*s.length
 from_ : ∀p ∈ x.l,∃j,j<n∧p.2=L j
 count:x.l.length+x.en=n
 yP:x.sg≤n
 pos:Pos x.l
theorem KI.last {d:Int} {bl:Bool} {s:List UInt8} {L:Nat→aj} {n:Nat} (hn:aD s n) {x:GA} (h:KI d bl s L n x):KE s L n (eL bl x):=by
 have jn:=h.size
 rw [hn.1] at jn
 unfold eL
 cases hc:(decide (0<x.l.length) && !bl && cj x.l) with
 | false=>exact ⟨h.ep,h.ne,jn,h.from_,h.count,h.yP,h.pos⟩
 | true =>
  simp only [cond_true]
  simp only [Bool.and_eq_true,decide_eq_true_eq] at hc
  obtain ⟨⟨h0,_⟩,hl⟩:=hc
  have kS : ∀p ∈ x.l.dropLast,p ∈ x.l:=fun p hp=>List.dropLast_sublist x.l |>.subset hp
  unfold cj at hl
  cases hg:x.l.getLast? with
  | none=>rw [hg] at hl;cases hl
  | some p =>
   rw [hg] at hl
   have hp:p.1=[10]:=by simpa using hl
   obtain ⟨l0,vZ⟩:=List.getLast?_eq_some_iff.1 hg
   have hd:x.l.dropLast=l0:=by rw [vZ,List.dropLast_concat]
   have hlen:x.l.length=l0.length+1:=by rw [vZ];simp
   have Gl:aF x.l=aF l0 ++ [10]:=by rw [vZ,c8,hp]
   refine ⟨?_,fun q hq=>h.ne q (kS q hq),?_,fun q hq=>h.from_ q (kS q hq),?_,h.yP,by rw [hd];have:=h.pos;rw [vZ] at this;exact this.init⟩
   ·obtain ⟨k,hk⟩:=aD.ex (aF l0)
    have h1:=aD.append (z6 (a:=aF l0) (b:=[10]) (fun c hc=>by simp at hc;subst hc;decide)) hk (nC (t:=[10]) (by decide) (by decide))
    rw [← Gl] at h1
    have:=h1.uniq h.ep
    rw [hd,show l0.length=k by omega];exact hk
   ·rw [hd]
    rw [Gl,List.length_append] at jn
    simp only;omega
   ·have:=h.count
    simp only [hd];omega
theorem tG {d:Int} {bl:Bool} {s:List UInt8} {L:Nat→aj} {n:Nat} (hn:aD s n):KE s L n (eL bl (eE d bl s L n)):=(KI.all hn (Nat.le_refl n)).last hn
/-! Lines -/
def aU (l:cN):Nat→List (Nat×Nat)×Nat
 | 0=>([],0)
 | i+1=>match l[i]? with
  | some p=>bif p.1 == [10] then ((aU l i).1 ++ [((aU l i).2,i+1)],i+1) else aU l i
  | none=>aU l i
def parts (l:cN):List (Nat×Nat):=(aU l l.length).1 ++ [((aU l l.length).2,l.length)]
def nw:Nat→List (Nat×Nat)→Nat→Prop
 | a,[],b=>a=b
 | a,p :: ps,b=>p.1=a∧p.1≤p.2∧nw p.2 ps b
theorem nX : ∀ {ps:List (Nat×Nat)} {a b c:Nat},nw a ps b→b≤c→nw a (ps ++ [(b,c)]) c
 | [],a,b,c,h,hc=>by cases h;exact ⟨rfl,hc,rfl⟩
 | p :: ps,a,b,c,h,hc=>⟨h.1,h.2.1,nX h.2.2 hc⟩
theorem uk : ∀ {ps:List (Nat×Nat)} {a b:Nat},nw a ps b→a≤b
 | [],a,b,h=>by cases h;exact Nat.le_refl _
 | p :: ps,a,b,h=>by have:=uk h.2.2;have:=h.1;have:=h.2.1;omega
theorem fG (l:cN) : ∀i,nw 0 (aU l i).1 (aU l i).2∧(aU l i).2≤i
 | 0=>⟨rfl,Nat.le_refl _⟩
 | i+1=>by
  obtain ⟨h1,h2⟩:=fG l i
  unfold aU
  cases l[i]? with
  | none=>exact ⟨h1,by simp only;omega⟩
  | some p =>
   simp only
   cases p.1 == [10] with
   | true=>exact ⟨nX h1 (by omega),Nat.le_refl _⟩
   | false=>exact ⟨h1,by simp only [cond_false];omega⟩
theorem qI (l:cN):nw 0 (parts l) l.length:=nX (fG l _).1 (fG l _).2
theorem xC (l:cN):(parts l).length≤l.length+1:=by
 have : ∀i,(aU l i).1.length≤i:=by
  intro i
  induction i with
  | zero=>exact Nat.le_refl _
  | succ i ih =>
   unfold aU
   cases l[i]? with
   | none=>simp only;omega
   | some p =>
    simp only
    cases p.1 == [10] with
    | true=>simp only [cond_true,List.length_append,List.length_singleton];omega
    | false=>simp only [cond_false];omega
 have:=this l.length
 unfold parts;rw [List.length_append,List.length_singleton];omega
/-! Looks of lines -/
def meet (a b:aj):aj:=⟨a.b && b.b,a.i && b.i,a.u && b.u,a.k && b.k,if a.c=b.c then a.c else 0⟩
def fZ (l:cN) (i:Nat):aj:=((l[i]?).map Prod.snd).getD aH
def fV (l:cN) (a:Nat):Nat→aj
 | 0=>fZ l a
 | m+1=>meet (fV l a m) (fZ l (a+m+1))
def rR (l:cN) (a e:Nat):aj:=if a=e then aH else fV l a (e - a - 1)
def bQ (d:Int) (al c:aj):aj:=bif d == 2 then { c with k:=false } else bif d == 3 then al else c
def oJ (d:Int) (al:aj) (x:cN×Nat) (i:Nat):cN×Nat :=
 match x.1[i]? with
 | some p=>(x.1.set i (p.1,bQ d al p.2),x.2+(if cW (bQ d al p.2) p.2 then 0 else 1))
 | none=>x
def oI (d:Int) (al:aj) (a:Nat) (x:cN×Nat):Nat→cN×Nat
 | 0=>x
 | i+1=>oJ d al (oI d al a x i) (a+i)
def fY (d:Int) (x:cN×Nat) (p:Nat×Nat):cN×Nat:=oI d (rR x.1 p.1 p.2) p.1 x (p.2 - p.1)
def dK (d:Int) (l:cN):cN×Nat:=(parts l).foldl (fY d) (l,0)
theorem mE {l:cN} {i:Nat} (h:i<l.length):fZ l i=l[i].2:=by unfold fZ;rw [List.getElem?_eq_getElem h];rfl
theorem DX (l:cN) (a:Nat) : ∀m,(fV l a m).c=0∨(fV l a m).c=(fZ l a).c
 | 0=>.inr rfl
 | m+1=>by
  unfold fV meet
  simp only
  split
  ·exact DX l a m
  ·exact .inl rfl
theorem Kr {l:cN} (h : ∀p ∈ l,xG p.2.c) (i:Nat):xG (fZ l i).c:=by
 rcases Nat.lt_or_ge i l.length with g | g
 ·rw [mE g];exact h _ (List.getElem_mem g)
 ·unfold fZ;rw [List.getElem?_eq_none g];exact ⟨by decide,by decide⟩
theorem DY {l:cN} (h : ∀p ∈ l,xG p.2.c) (a e:Nat):xG (rR l a e).c:=by
 unfold rR
 split
 ·exact ⟨by decide,by decide⟩
 ·rcases DX l a (e - a - 1) with g | g
  ·rw [g];exact ⟨by decide,by decide⟩
  ·rw [g];exact Kr h a
theorem gG (p:Nat→Bool) (n:Nat):cnt p (n+1)=cnt p n+bif p n then 1 else 0:=rfl
structure PI (l:cN) (m:Nat) (x:cN×Nat):Prop where
 len:x.1.length=l.length
 fst:x.1.map Prod.fst=l.map Prod.fst
 same : ∀i,m≤i→x.1[i]? = l[i]?
 num:x.2=cnt (fun i=>!cW (fZ l i) (fZ x.1 i)) m
 ok:(∀p ∈ l,xG p.2.c)→∀p ∈ x.1,xG p.2.c
theorem PI.step {l:cN} {m:Nat} {x:cN×Nat} (h:PI l m x) (hm:m<l.length) (d:Int) {al:aj} (Ay:(∀p ∈ l,xG p.2.c)→xG al.c):PI l (m+1) (oJ d al x m):=by
 have TQ:m<x.1.length:=by rw [h.len];exact hm
 have hg:x.1[m]? = some x.1[m]:=List.getElem?_eq_getElem TQ
 have Y6:x.1[m]=l[m]:=by
  have:=h.same m (Nat.le_refl m)
  rw [hg,List.getElem?_eq_getElem hm] at this
  exact Option.some.inj this
 unfold oJ
 rw [hg]
 simp only
 refine ⟨by rw [List.length_set];exact h.len,?_,fun i hi=>?_,?_,fun od p hp=>?_⟩
 ·rw [List.map_set]
  have:(x.1.map Prod.fst).set m x.1[m].1=x.1.map Prod.fst:=by
   apply List.ext_getElem
   ·simp
   ·intro i h1 h2
    rw [List.getElem_set]
    split
    ·rename_i e;subst e;rw [List.getElem_map]
    ·rfl
  rw [this];exact h.fst
 ·rw [List.getElem?_set,if_neg (by omega)];exact h.same i (by omega)
 ·have e1:Go.Am.cnt (fun i=>!cW (fZ l i) (fZ (x.1.set m (x.1[m].1,bQ d al x.1[m].2)) i)) m=Go.Am.cnt (fun i=>!cW (fZ l i) (fZ x.1 i)) m:=by
   refine g9 fun i hi=>?_
   have:fZ (x.1.set m (x.1[m].1,bQ d al x.1[m].2)) i=fZ x.1 i:=by unfold fZ;rw [List.getElem?_set,if_neg (by omega)]
   rw [this]
  have e2:fZ (x.1.set m (x.1[m].1,bQ d al x.1[m].2)) m=bQ d al x.1[m].2:=by
   unfold fZ;rw [List.getElem?_set,if_pos rfl,if_pos TQ];rfl
  rw [gG,e1,e2,mE hm,h.num,Y6]
  have TY : ∀a b:aj,cW a b=cW b a:=by
   intro a b
   rw [Bool.eq_iff_iff,dW,dW];exact eq_comm
  rw [TY]
  cases cW l[m].2 (bQ d al l[m].2) <;> simp
 ·rcases List.mem_or_eq_of_mem_set hp with hp | rfl
  ·exact h.ok od p hp
  ·simp only
   have h0:=h.ok od _ (List.getElem_mem TQ)
   unfold bQ
   cases d == 2 with
   | true=>exact h0
   | false =>
    cases d == 3 with
    | true=>exact Ay od
    | false=>exact h0
theorem PI.to {l:cN} {x:cN×Nat} {a:Nat} (h:PI l a x) (d:Int) {al:aj} (Ay:(∀p ∈ l,xG p.2.c)→xG al.c) : ∀ {m:Nat},a+m≤l.length→PI l (a+m) (oI d al a x m)
 | 0,_=>h
 | m+1,hm=>(PI.to h d Ay (m:=m) (by omega)).step (by omega) d Ay
theorem PI.line {l:cN} {x:cN×Nat} {p:Nat×Nat} (h:PI l p.1 x) (d:Int) (h1:p.1≤p.2) (h2:p.2≤l.length):PI l p.2 (fY d x p):=by
 have:=h.to d (al:=rR x.1 p.1 p.2) (fun od=>DY (h.ok od) _ _) (m:=p.2 - p.1) (by omega)
 rw [show p.1+(p.2 - p.1)=p.2 by omega] at this
 exact this
theorem PI.lines {l:cN} (d:Int) : ∀ {ps:List (Nat×Nat)} {a b:Nat} {x:cN×Nat},nw a ps b→b≤l.length→PI l a x→PI l b (ps.foldl (fY d) x)
 | [],a,b,x,h,_,hx=>by cases h;exact hx
 | p :: ps,a,b,x,h,hb,hx=>by
  have h1:=h.1
  have hle:=uk h.2.2
  subst h1
  exact PI.lines d (x:=fY d x p) h.2.2 hb (hx.line d h.2.1 (by omega))
theorem PI.start (l:cN):PI l 0 (l,0):=⟨rfl,rfl,fun _ _=>rfl,rfl,fun h=>h⟩
theorem jA (d:Int) (l:cN):PI l l.length (dK d l):=PI.lines d (qI l) (Nat.le_refl _) (PI.start l)
end Go.Am

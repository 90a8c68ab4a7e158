/- What is kept, compared with the text: nothing is told just where both are alike; which signs are others; no line is empty. -/
import Derived.Test.YtlkdhhkncoekgaaGreatDoorKeepL
namespace Go.Am
open Go.Proofs.YtlkdhhkncoekgaaGreatDoor
theorem sP {s:List UInt8} {m:Nat} (h:place s m<s.length):ah (qg s m) 0=ah s (place s m):=by
 obtain ⟨f1,f2,f3,f4,f5,f6,f7⟩:=mR h
 have h1:=eU (a:=qg s m) (b:=s.drop (place s (m+1))) (p:=0) (by omega) (by omega)
 rw [h1,← f1]
 exact eV fun j _=>by rw [List.getElem?_drop,Nat.zero_add]
def lz (d:Int) (s:List UInt8) (m:Nat):Int:=((ah (bJ d s m) 0).1:Int)
theorem ov {d:Int} {s:List UInt8} {m:Nat} (h:place s m<s.length) (hk:gM d (ig s m)=none):bJ d s m=qg s m∧lz d s m=ig s m:=by
 have e:bJ d s m=qg s m:=by unfold bJ;rw [hk];rfl
 refine ⟨e,?_⟩
 unfold lz ig
 rw [e,sP h]
theorem ou {d:Int} {s:List UInt8} {m:Nat} {u:List UInt8} (hk:gM d (ig s m)=some u):bJ d s m=u∧lz d s m ≠ ig s m∧(lz d s m=32∨(65280≤lz d s m∧lz d s m≤65519)):=by
 have e:bJ d s m=u:=by unfold bJ;rw [hk];rfl
 have:=(yS hk).is
 unfold lz
 rw [e]
 exact ⟨rfl,this.1,this.2⟩
theorem Iy {d r:Int} (h:r<32) (Ka:r ≠ 10):gM d r=some [32]:=by
 unfold gM
 have:(decide (r<32) && r != 10)=true:=by rw [Bool.and_eq_true,decide_eq_true_eq,bne_iff_ne];exact ⟨h,Ka⟩
 rw [this];rfl
theorem ID {d:Int} {s:List UInt8} {m:Nat} (h:place s m<s.length):lz d s m=10∨32≤lz d s m:=by
 cases hk:gM d (ig s m) with
 | none =>
  rw [(ov h hk).2]
  by_cases h1:ig s m<32
  ·by_cases h2:ig s m=10
   ·exact .inl h2
   ·rw [Iy h1 h2] at hk;cases hk
  ·exact .inr (by omega)
 | some u=>have:=(ou hk).2.2;omega
theorem NT {s:List UInt8} {m:Nat} (h:place s m<s.length):qg s m=[10]↔ig s m=10:=by
 obtain ⟨f1,f2,f3,f4,f5,f6,f7⟩:=mR h
 constructor
 ·intro e
  have:=sP h
  rw [e] at this
  unfold ig
  rw [← this];decide
 ·intro e
  have h1:(ah (qg s m) 0).1=10:=by rw [sP h];unfold ig at e;omega
  have h2:(ah (qg s m) 0).2=1:=by
   rcases gE (qg s m) 0 with g | g | g | g | g <;> omega
  have h3:=gQ h2
  have h4:(qg s m).length=1:=by rw [f2,← sP h];exact h2
  obtain ⟨c,hc⟩:=List.length_eq_one_iff.1 h4
  rw [hc] at h1 h3 ⊢
  have h5:ai [c] 0 0=c.toNat:=by have:=HE (s:=[c]) (i:=0) (k:=0) (by simp);simpa using this
  rw [h5,h1] at h3
  have h6:c.toNat=10:=by
   by_cases g:c.toNat<128
   ·rw [if_pos g] at h3;exact h3.symm
   ·rw [if_neg g] at h3;omega
  rw [show c=10 from UInt8.toNat_inj.1 h6]
theorem IE {d:Int} {s:List UInt8} {m:Nat} (h:place s m<s.length):bJ d s m=[10]↔lz d s m=10:=by
 cases hk:gM d (ig s m) with
 | none=>obtain ⟨h1,h2⟩:=ov h hk;rw [h1,h2];exact NT h
 | some u =>
  obtain ⟨h1,h2,h3⟩:=ou hk
  rw [h1]
  have:=(yS hk).nl
  exact ⟨fun e=>absurd e this,fun e=>by omega⟩
/-! Signs that are others -/
def Fv (d:Int) (s:List UInt8) (m:Nat):Bool:=(gM d (ig s m)).isSome
theorem IF (d:Int) (bl:Bool) (s:List UInt8) (L:Nat→aj) : ∀m,(eC d bl s L m).sg=cnt (Fv d s) m
 | 0=>rfl
 | m+1=>by
  have:=IF d bl s L m
  have e:(if (gM d (ig s m)).isSome then 1 else 0)=(bif Fv d s m then 1 else 0):=by unfold Fv;cases (gM d (ig s m)).isSome <;> rfl
  unfold eC mj
  rw [p4,← this]
  cases (bJ d s m == [10] && !bl && ((eC d bl s L m).l.isEmpty || bI (eC d bl s L m).l)) <;> simp only [cond_true,cond_false,e]
theorem Lq (bl:Bool) (x:EF):(dB bl x).sg=x.sg:=by
 unfold dB
 cases (decide (0<x.l.length) && !bl && bI x.l) <;> rfl
def oE (d:Int) (s:List UInt8) (L:Nat→aj) (m:Nat):cT:=(List.range m).map fun j=>(bJ d s j,L j)
theorem xC (d:Int) (s:List UInt8) (L:Nat→aj) (m:Nat):oE d s L (m+1)=oE d s L m ++ [(bJ d s m,L m)]:=by unfold oE;rw [List.range_succ,List.map_append];rfl
theorem se (d:Int) (s:List UInt8) (L:Nat→aj) (m:Nat):(oE d s L m).length=m:=by unfold oE;rw [List.length_map,List.length_range]
theorem Ey {d:Int} {s:List UInt8} {L:Nat→aj} {m j:Nat} (h:j<(oE d s L m).length):(oE d s L m)[j]=(bJ d s j,L j):=by simp only [oE,List.getElem_map,List.getElem_range]
theorem Ec {d:Int} {bl:Bool} {s:List UInt8} {L:Nat→aj} : ∀ {m:Nat},(eC d bl s L m).en=0→(eC d bl s L m).l=oE d s L m
 | 0,_=>rfl
 | m+1,h=>by
  rw [xC]
  unfold eC mj at h ⊢
  cases hc:(bJ d s m == [10] && !bl && ((eC d bl s L m).l.isEmpty || bI (eC d bl s L m).l)) with
  | true=>rw [hc] at h;simp only [cond_true] at h;omega
  | false =>
   rw [hc] at h
   simp only [cond_false] at h ⊢
   rw [Ec (m:=m) h]
theorem A6 (d:Int) (s:List UInt8) (L:Nat→aj) : ∀m,(eC d true s L m).en=0
 | 0=>rfl
 | m+1=>by
  unfold eC mj
  have:(bJ d s m == [10] && !true && ((eC d true s L m).l.isEmpty || bI (eC d true s L m).l))=false:=by simp
  rw [this];exact A6 d s L m
theorem FM (x:EF):dB true x=x:=by
 unfold dB
 have:(decide (0<x.l.length) && !true && bI x.l)=false:=by simp
 rw [this];rfl
theorem A7 {d:Int} {bl:Bool} {s:List UInt8} {L:Nat→aj} {n:Nat} (h:(dB bl (eC d bl s L n)).en=0):(dB bl (eC d bl s L n)).l=oE d s L n:=by
 unfold dB at h ⊢
 cases hc:(decide (0<(eC d bl s L n).l.length) && !bl && bI (eC d bl s L n).l) with
 | true=>rw [hc] at h;simp only [cond_true] at h;omega
 | false=>rw [hc] at h;simp only [cond_false] at h ⊢;exact Ec h
theorem CF (d:Int) (l:cT):aH (iO d l).1=aH l:=by unfold aH;rw [(jZ d l).fst]
theorem Bo {d:Int} {s:List UInt8} {L:Nat→aj} {n:Nat} (hn:aE s n) (h : ∀j,j<n→gM d (ig s j)=none) : ∀m,m≤n→aH (oE d s L m)=s.take (place s m)
 | 0,_=>by simp [oE,aH,place]
 | m+1,hm=>by
  have h1:=hn.2 m (by omega)
  obtain ⟨f1,f2,f3,f4,f5,f6,f7⟩:=mR h1
  rw [xC,fj,Bo hn h m (by omega),(ov h1 (h m (by omega))).1,f7,List.take_add]
  rw [f2]
  rfl
theorem ku {p:Nat→Bool} : ∀ {n:Nat},cnt p n=0↔∀i,i<n→p i=false
 | 0=>⟨fun _ i h=>absurd h (Nat.not_lt_zero i),fun _=>rfl⟩
 | n+1=>by
  rw [p4]
  constructor
  ·intro h i hi
   have h1:cnt p n=0:=by omega
   rcases Nat.lt_or_ge i n with g | g
   ·exact ku.1 h1 i g
   ·have:i=n:=by omega
    subst this
    cases hp:p i with
    | false=>rfl
    | true=>rw [hp] at h;simp at h
  ·intro h
   rw [ku.2 fun i hi=>h i (by omega),h n (by omega)];rfl
theorem FL {d:Int} {s:List UInt8} {L:Nat→aj} {n j:Nat} (hp:Pos (oE d s L n)) (hj:j<n):ig (aH (oE d s L n)) j=lz d s j:=by
 have h:=(hp.dec (j:=j) (by rw [se];exact hj)).1
 unfold ig lz
 rw [h,Ey]
theorem G9 {d:Int} {bl:Bool} {s:List UInt8} {L:Nat→aj} {n:Nat} (hn:aE s n) (x:EF) (hx:x=dB bl (eC d bl s L n)) :
  (x.sg=0∧x.en=0∧(iO d x.l).2=0)↔(aH x.l=s∧∀i,i<n→ga (iO d x.l).1 i=L i):=by
 have hE:KE s L n x:=by rw [hx];exact mm hn
 have Lx:x.sg=cnt (Fv d s) n:=by rw [hx,Lq,IF]
 have hP:=jZ d x.l
 have key:x.en=0→x.l=oE d s L n:=fun h=>by rw [hx] at h ⊢;exact A7 h
 have lk:x.en=0→∀i,i<n→ga x.l i=L i:=fun h i hi=>by
  have e:=key h
  have h1:i<x.l.length:=by rw [e,se];exact hi
  rw [mZ h1]
  simp only [e,Ey]
 have len:x.en=0→x.l.length=n:=fun h=>by have:=hE.count;omega
 constructor
 ·rintro ⟨h1,h2,h3⟩
  rw [Lx,ku] at h1
  have h0 : ∀j,j<n→gM d (ig s j)=none:=fun j hj=>by
   have:=h1 j hj
   unfold Fv at this
   cases hl:gM d (ig s j) with
   | none=>rfl
   | some u=>rw [hl] at this;cases this
  refine ⟨?_,fun i hi=>?_⟩
  ·rw [key h2,Bo hn h0 n (Nat.le_refl n),hn.1,List.take_length]
  ·rw [hP.num,ku] at h3
   have:=h3 i (by rw [len h2];exact hi)
   rw [Bool.not_eq_false',cB] at this
   rw [← this];exact lk h2 i hi
 ·rintro ⟨h1,h2⟩
  have hs:=hE.cW
  rw [h1] at hs
  have h3:x.en=0:=by have:=hs.uniq hn;have:=hE.count;omega
  have hK:=key h3
  have Rp:=hE.pos
  refine ⟨?_,h3,?_⟩
  ·rw [Lx,ku]
   intro j hj
   have hr:=FL (d:=d) (s:=s) (L:=L) (n:=n) (j:=j) (by rw [← hK];exact Rp) hj
   rw [← hK,h1] at hr
   unfold Fv
   cases hl:gM d (ig s j) with
   | none=>rfl
   | some u=>exact absurd hr.symm (ou hl).2.1
  ·rw [hP.num,ku]
   intro i hi
   rw [len h3] at hi
   rw [Bool.not_eq_false',cB,lk h3 i hi,h2 i hi]
/-! Lines -/
def NB (l:cT):Prop:=∀j (h:j<l.length),l[j].1=[10]→∃h0:0<j,l[j - 1].1 ≠ [10]
theorem NB.snoc {l:cT} {p:List UInt8×aj} (h:NB l) (hp:p.1=[10]→l ≠ []∧bI l=false):NB (l ++ [p]):=by
 intro j hj he
 rw [List.length_append,List.length_singleton] at hj
 rcases Nat.lt_or_ge j l.length with g | g
 ·rw [List.getElem_append_left g] at he
  obtain ⟨h0,h1⟩:=h j g he
  refine ⟨h0,?_⟩
  rw [List.getElem_append_left (by omega)];exact h1
 ·have:j=l.length:=by omega
  subst this
  rw [List.getElem_append_right (Nat.le_refl _)] at he
  simp only [Nat.sub_self,List.getElem_cons_zero] at he
  obtain ⟨h1,h2⟩:=hp he
  have h0:0<l.length:=List.length_pos_iff.2 h1
  refine ⟨h0,?_⟩
  rw [List.getElem_append_left (by omega)]
  unfold bI at h2
  rw [List.getLast?_eq_getElem?,List.getElem?_eq_getElem (by omega)] at h2
  simpa using h2
theorem IG (d:Int) (s:List UInt8) (L:Nat→aj) : ∀m,NB (eC d false s L m).l
 | 0=>fun j h=>absurd h (Nat.not_lt_zero j)
 | m+1=>by
  have ih:=IG d s L m
  unfold eC mj
  cases hc:(bJ d s m == [10] && !false && ((eC d false s L m).l.isEmpty || bI (eC d false s L m).l)) with
  | true=>exact ih
  | false =>
   simp only [cond_false]
   refine ih.snoc fun he=>?_
   have e1:(bJ d s m == [10])=true:=by simp only at he;rw [he];rfl
   rw [e1] at hc
   simp only [Bool.not_false,Bool.and_true,Bool.true_and,Bool.or_eq_false_iff] at hc
   refine ⟨fun e=>?_,hc.2⟩
   rw [e] at hc;cases hc.1
theorem NB.init {l m:cT} (h:NB (l ++ m)):NB l:=by
 intro j hj he
 obtain ⟨h0,h1⟩:=h j (by rw [List.length_append];omega) (by rw [List.getElem_append_left hj];exact he)
 refine ⟨h0,?_⟩
 rw [List.getElem_append_left (by omega)] at h1;exact h1
theorem Ed (d:Int) (s:List UInt8) (L:Nat→aj) (n:Nat):NB (dB false (eC d false s L n)).l∧bI (dB false (eC d false s L n)).l=false:=by
 have h:=IG d s L n
 unfold dB
 cases hc:(decide (0<(eC d false s L n).l.length) && !false && bI (eC d false s L n).l) with
 | false =>
  refine ⟨h,?_⟩
  simp only [cond_false]
  cases hl:bI (eC d false s L n).l with
  | false=>rfl
  | true =>
   have:0<(eC d false s L n).l.length:=by
    rcases Nat.eq_zero_or_pos (eC d false s L n).l.length with e | e
    ·rw [List.length_eq_zero_iff.1 e] at hl;cases hl
    ·exact e
   rw [hl] at hc
   simp [this] at hc
 | true =>
  simp only [cond_true]
  simp only [Bool.and_eq_true,decide_eq_true_eq] at hc
  obtain ⟨⟨h0,_⟩,hl⟩:=hc
  obtain ⟨l,OJ⟩ : ∃l,l=(eC d false s L n).l:=⟨_,rfl⟩
  rw [← OJ] at h h0 hl ⊢
  have yZ:=List.dropLast_concat_getLast (List.length_pos_iff.1 h0)
  have hd:NB l.dropLast:=by rw [← yZ] at h;exact h.init
  refine ⟨hd,?_⟩
  unfold bI at hl ⊢
  rw [List.getLast?_eq_getElem?,List.getElem?_eq_getElem (by omega)] at hl
  have J7:l[l.length - 1].1=[10]:=by simpa using hl
  obtain ⟨g0,g1⟩:=h (l.length - 1) (by omega) J7
  rw [List.getLast?_eq_getElem?,List.getElem?_eq_getElem (by rw [List.length_dropLast];omega)]
  simp only [List.getElem_dropLast,List.length_dropLast]
  simpa using g1
structure Runes (bl:Bool) (S:List UInt8) (N:Nat):Prop where
 cW:aE S N
 low : ∀j,j<N→ig S j=10∨32≤ig S j
 line:bl=false→∀j,j<N→ig S j=10→0<j∧ig S (j - 1) ≠ 10
 last:bl=false→0<N→ig S (N - 1) ≠ 10
theorem ur (d:Int) (bl:Bool) (s:List UInt8) (L:Nat→aj) : ∀m,∀p ∈ (eC d bl s L m).l,∃j,j<m∧p.1=bJ d s j
 | 0=>fun p h=>by cases h
 | m+1=>fun p hp=>by
  unfold eC mj at hp
  cases hc:(bJ d s m == [10] && !bl && ((eC d bl s L m).l.isEmpty || bI (eC d bl s L m).l)) with
  | true =>
   rw [hc] at hp
   obtain ⟨j,h1,h2⟩:=ur d bl s L m p hp
   exact ⟨j,by omega,h2⟩
  | false =>
   rw [hc] at hp
   simp only [cond_false] at hp
   rcases List.mem_append.1 hp with hp | hp
   ·obtain ⟨j,h1,h2⟩:=ur d bl s L m p hp
    exact ⟨j,by omega,h2⟩
   ·rw [List.mem_singleton.1 hp];exact ⟨m,by omega,rfl⟩
theorem II (bl:Bool) (x:EF) : ∀p ∈ (dB bl x).l,p ∈ x.l:=by
 unfold dB
 cases (decide (0<x.l.length) && !bl && bI x.l) with
 | false=>exact fun p h=>h
 | true=>exact fun p hp=>List.dropLast_sublist x.l |>.subset hp
theorem CW {d:Int} {bl:Bool} {s:List UInt8} {L:Nat→aj} {n:Nat} (hn:aE s n) (x:EF) (hx:x=dB bl (eC d bl s L n)):Runes bl (aH x.l) x.l.length:=by
 have hE:KE s L n x:=by rw [hx];exact mm hn
 have hp:=hE.pos
 have rn : ∀j (h:j<x.l.length),ig (aH x.l) j=((ah x.l[j].1 0).1:Int):=fun j h=>by
  unfold ig;rw [(hp.dec h).1]
 have fr : ∀p ∈ x.l,∃j,j<n∧p.1=bJ d s j:=fun p h=>by
  rw [hx] at h;exact ur d bl s L n p (II _ _ p h)
 have nl : ∀j (h:j<x.l.length),x.l[j].1=[10]↔ig (aH x.l) j=10:=fun j h=>by
  obtain ⟨i,h1,h2⟩:=fr _ (List.getElem_mem h)
  rw [rn j h,h2]
  exact IE (hn.2 i h1)
 refine ⟨hE.cW,fun j hj=>?_,fun hb j hj Ka=>?_,fun hb h0 Ka=>?_⟩
 ·obtain ⟨i,h1,h2⟩:=fr _ (List.getElem_mem hj)
  rw [rn j hj,h2]
  exact ID (hn.2 i h1)
 ·subst hb
  have OE:=(Ed d s L n).1
  rw [← hx] at OE
  obtain ⟨h0,h1⟩:=OE j hj ((nl j hj).2 Ka)
  exact ⟨h0,fun e=>h1 ((nl (j - 1) (by omega)).2 e)⟩
 ·subst hb
  have hl:=(Ed d s L n).2
  rw [← hx] at hl
  have:=(nl (x.l.length - 1) (by omega)).2 Ka
  unfold bI at hl
  rw [List.getLast?_eq_getElem?,List.getElem?_eq_getElem (by omega)] at hl
  simp only [this] at hl
  cases hl
end Go.Am

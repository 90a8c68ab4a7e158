/- The spans of a normal form are right, and tell how the signs look. -/
import Derived.Test.YtlkdhhkncoekgaaDoorNorml
import Derived.Test.YtlkdhhkncoekgaaDoorSortE
namespace Go.Am
open Go.Proofs.YtlkdhhkncoekgaaDoor
def dO (x:ay) (n:Int):Bool :=
 bif decide (x.f<0) || decide (x.t > n) || decide (x.f≥x.t) || decide (x.k<1) || decide (x.k > 5) then false
 else bif x.k == 5 then decide (x.v≥0) && decide (x.v≤16777215) else x.v == 0
def bw (x y:ay):Bool:=decide (x.f≥y.f) && decide (x.t≤y.t)
def bu (x y:ay):Bool:=decide (x.f<y.t) && decide (y.f<x.t) && !bw x y && !bw y x
theorem Ei {L:List aj} (hc : ∀a ∈ L,0≤a.c∧a.c≤16777216) {x:ay} (hx:x ∈ bN L):dO x L.length=true:=by
 obtain ⟨k,a,b,h⟩:=fe hx
 have h1:=h.k1
 have h5:=h.k5
 have cv:=h.lt
 have hle:=h.le
 have hs:=h.some
 unfold dO
 rw [h.eq]
 simp only
 have n:(decide ((a:Int)<0) || decide ((b:Int) > (L.length:Int)) || decide ((a:Int)≥(b:Int)) || decide ((k:Int)<1) || decide ((k:Int) > 5))=false:=by
  simp only [Bool.or_eq_false_iff,decide_eq_false_iff_not];omega
 rw [n]
 simp only [cond_false]
 by_cases hk:(k:Int)=5
 ·have Gk:((k:Int) == 5)=true:=by rw [beq_iff_eq];exact hk
  rw [if_pos hk,Gk]
  simp only [cond_true,Bool.and_eq_true,decide_eq_true_eq]
  have ha:a<L.length:=by omega
  have e:val L k a=(L[a]).c:=by rw [pM ha,hk];rfl
  have:=hc _ (List.getElem_mem ha)
  rw [e] at hs ⊢
  omega
 ·have Gk:((k:Int) == 5)=false:=by rw [beq_eq_false_iff_ne];exact hk
  rw [if_neg hk,Gk];rfl
theorem ze {L:List aj} {x y:ay} (hx:x ∈ bN L) (hy:y ∈ bN L):bu x y=false:=by
 obtain ⟨k,a,b,h⟩:=fe hx
 obtain ⟨l,c,d,g⟩:=fe hy
 have h1:=h.lt
 have h2:=g.lt
 have key:b≤c∨d≤a∨(a≤c∧d≤b)∨(c≤a∧b≤d):=by
  rcases Nat.le_total k l with e | e
  ·rcases h.nest g e with r | r | r
   ·exact .inl r
   ·exact .inr (.inl r)
   ·exact .inr (.inr (.inl r))
  ·rcases g.nest h e with r | r | r
   ·exact .inr (.inl r)
   ·exact .inl r
   ·exact .inr (.inr (.inr r))
 rw [← Bool.not_eq_true]
 unfold bu bw
 rw [h.eq,g.eq]
 simp only [Bool.and_eq_true,Bool.not_eq_true',Bool.and_eq_false_iff,decide_eq_true_eq,decide_eq_false_iff_not]
 omega
theorem zg (L:List aj):Ji (bN L):=by
 refine List.Pairwise.imp_of_mem (fun {x y} hx hy h=>?_) (sL L)
 obtain ⟨k,a,b,e⟩:=fe hx
 have:=e.lt
 have cv:x.f<x.t:=by rw [e.eq];show (a:Int)<b;omega
 rw [oR,oR]
 by_cases hk:x.k=y.k
 ·have:=h hk
  left;left;omega
 ·omega
def aE (x:ay) (i:Int):Bool:=decide (x.f≤i) && decide (i<x.t)
def eJ (a:aj) (x:ay):aj:=if x.k=1 then { a with b:=true } else if x.k=2 then { a with i:=true } else if x.k=3 then { a with u:=true } else if x.k=4 then { a with k:=true } else { a with c:=x.v+1 }
def cZ (a:aj) (l:List ay) (i:Int):aj:=l.foldl (fun a x=>bif aE x i then eJ a x else a) a
def seen (l:List ay) (i:Int):aj:=cZ aH l i
def iI (x:ay):Bool:=!(x.k == 1) && !(x.k == 2) && !(x.k == 3) && !(x.k == 4)
theorem fk (a:aj) (x:ay) (l:List ay) (i:Int):cZ a (x :: l) i=cZ (bif aE x i then eJ a x else a) l i:=rfl
theorem sR (i:Int) : ∀(l:List ay) (a:aj),(cZ a l i).b=(a.b || l.any fun x=>aE x i && (x.k == 1))
 | [],a=>by simp [cZ]
 | x :: l,a=>by
  rw [fk,sR i l,List.any_cons,← Bool.or_assoc]
  congr 1
  cases h:aE x i with
  | false=>simp
  | true =>
   simp only [cond_true,Bool.true_and]
   unfold eJ
   by_cases h1:x.k=1
   ·rw [if_pos h1];simp [h1]
   ·rw [if_neg h1,beq_eq_false_iff_ne.2 h1]
    repeat' split
    all_goals simp
theorem sQ (i:Int) : ∀(l:List ay) (a:aj),(cZ a l i).i=(a.i || l.any fun x=>aE x i && (x.k == 2))
 | [],a=>by simp [cZ]
 | x :: l,a=>by
  rw [fk,sQ i l,List.any_cons,← Bool.or_assoc]
  congr 1
  cases h:aE x i with
  | false=>simp
  | true =>
   simp only [cond_true,Bool.true_and]
   unfold eJ
   by_cases h1:x.k=2
   ·rw [if_neg (by omega),if_pos h1];simp [h1]
   ·rw [beq_eq_false_iff_ne.2 h1]
    repeat' split
    all_goals first | simp | omega
theorem sO (i:Int) : ∀(l:List ay) (a:aj),(cZ a l i).u=(a.u || l.any fun x=>aE x i && (x.k == 3))
 | [],a=>by simp [cZ]
 | x :: l,a=>by
  rw [fk,sO i l,List.any_cons,← Bool.or_assoc]
  congr 1
  cases h:aE x i with
  | false=>simp
  | true =>
   simp only [cond_true,Bool.true_and]
   unfold eJ
   by_cases h1:x.k=3
   ·rw [if_neg (by omega),if_neg (by omega),if_pos h1];simp [h1]
   ·rw [beq_eq_false_iff_ne.2 h1]
    repeat' split
    all_goals first | simp | omega
theorem sP (i:Int) : ∀(l:List ay) (a:aj),(cZ a l i).k=(a.k || l.any fun x=>aE x i && (x.k == 4))
 | [],a=>by simp [cZ]
 | x :: l,a=>by
  rw [fk,sP i l,List.any_cons,← Bool.or_assoc]
  congr 1
  cases h:aE x i with
  | false=>simp
  | true =>
   simp only [cond_true,Bool.true_and]
   unfold eJ
   by_cases h1:x.k=4
   ·rw [if_neg (by omega),if_neg (by omega),if_neg (by omega),if_pos h1];simp [h1]
   ·rw [beq_eq_false_iff_ne.2 h1]
    repeat' split
    all_goals first | simp | omega
theorem w7 (a:aj) (x:ay):(eJ a x).c=bif iI x then x.v+1 else a.c:=by
 unfold eJ iI
 by_cases h1:x.k=1
 ·simp [h1]
 ·by_cases h2:x.k=2
  ·simp [h2]
  ·by_cases h3:x.k=3
   ·simp [h3]
   ·by_cases h4:x.k=4
    ·simp [h4]
    ·rw [if_neg h1,if_neg h2,if_neg h3,if_neg h4,beq_eq_false_iff_ne.2 h1,beq_eq_false_iff_ne.2 h2,beq_eq_false_iff_ne.2 h3,beq_eq_false_iff_ne.2 h4];rfl
theorem zl (i w:Int) : ∀(l:List ay) (a:aj),(∀x ∈ l,aE x i=true→iI x=true→x.v+1=w) →
  (cZ a l i).c=bif l.any (fun x=>aE x i && iI x) then w else a.c
 | [],a,_=>by simp [cZ]
 | x :: l,a,h=>by
  rw [fk,zl i w l _ (fun y hy=>h y (List.mem_cons_of_mem _ hy)),List.any_cons]
  cases hl:l.any fun x=>aE x i && iI x with
  | true=>simp
  | false =>
   simp only [cond_false,Bool.or_false]
   cases hx:aE x i with
   | false=>simp
   | true =>
    simp only [cond_true,Bool.true_and]
    rw [w7]
    cases hi:iI x with
    | false=>rfl
    | true=>simp only [cond_true];exact h x List.mem_cons_self hx hi
theorem BA {L:List aj} {so:List ay} (h : ∀x,x ∈ so↔x ∈ bN L) {i:Nat} (hi:i<L.length):seen so i=L[i]:=by
 have kind : ∀k:Nat,1≤k→k≤5→(so.any fun x=>aE x (i:Int) && (x.k == (k:Int)))=decide ((L[i]).get k ≠ 0):=by
  intro k h1 h5
  rw [Bool.eq_iff_iff,List.any_eq_true,decide_eq_true_iff,← pM hi]
  constructor
  ·rintro ⟨x,hx,hy⟩
   simp only [aE,Bool.and_eq_true,decide_eq_true_eq,beq_iff_eq] at hy
   obtain ⟨j,a,b,g⟩:=fe ((h x).1 hx)
   obtain ⟨e1,e2,_⟩:=g.LV hy.1.1 hy.1.2
   obtain rfl:j=k:=by omega
   exact e2
  ·intro hv
   obtain ⟨x,hx,e1,e2,e3⟩:=zf h1 h5 hi hv
   refine ⟨x,(h x).2 hx,?_⟩
   simp only [aE,Bool.and_eq_true,decide_eq_true_eq,beq_iff_eq]
   exact ⟨⟨e2,e3⟩,e1⟩
 have SV : ∀b:Bool,decide (jC b ≠ 0)=b:=fun b=>by cases b <;> rfl
 have hC : ∀x ∈ so,iI x=(x.k == 5):=by
  intro x hx
  obtain ⟨k,a,b,g⟩:=fe ((h x).1 hx)
  have h1:=g.k1
  have h5:=g.k5
  unfold iI
  rw [g.eq]
  simp only
  match k,h1,h5 with
  | 1,_,_=>rfl
  | 2,_,_=>rfl
  | 3,_,_=>rfl
  | 4,_,_=>rfl
  | 5,_,_=>rfl
 have e1:(seen so i).b=(L[i]).b:=by
  have:=kind 1 (by omega) (by omega)
  unfold seen;rw [sR]
  show (false || so.any fun x=>aE x i && (x.k == ((1:Nat):Int)))=_
  rw [this,Bool.false_or];exact SV _
 have e2:(seen so i).i=(L[i]).i:=by
  have:=kind 2 (by omega) (by omega)
  unfold seen;rw [sQ]
  show (false || so.any fun x=>aE x i && (x.k == ((2:Nat):Int)))=_
  rw [this,Bool.false_or];exact SV _
 have e3:(seen so i).u=(L[i]).u:=by
  have:=kind 3 (by omega) (by omega)
  unfold seen;rw [sO]
  show (false || so.any fun x=>aE x i && (x.k == ((3:Nat):Int)))=_
  rw [this,Bool.false_or];exact SV _
 have e4:(seen so i).k=(L[i]).k:=by
  have:=kind 4 (by omega) (by omega)
  unfold seen;rw [sP]
  show (false || so.any fun x=>aE x i && (x.k == ((4:Nat):Int)))=_
  rw [this,Bool.false_or];exact SV _
 have e5:(seen so i).c=(L[i]).c:=by
  unfold seen
  rw [zl i (L[i]).c]
  ·have k5:=kind 5 (by omega) (by omega)
   have:(so.any fun x=>aE x (i:Int) && iI x)=so.any fun x=>aE x (i:Int) && (x.k == ((5:Nat):Int)):=by
    rw [Bool.eq_iff_iff,List.any_eq_true,List.any_eq_true]
    constructor
    ·rintro ⟨x,hx,hy⟩;exact ⟨x,hx,by rw [hC x hx] at hy;exact hy⟩
    ·rintro ⟨x,hx,hy⟩;exact ⟨x,hx,by rw [hC x hx];exact hy⟩
   rw [this,k5]
   show (bif decide ((L[i]).c ≠ 0) then (L[i]).c else 0)=_
   by_cases h0:(L[i]).c=0
   ·rw [h0];rfl
   ·rw [decide_eq_true h0];rfl
  ·intro x hx hc Zb
   rw [hC x hx,beq_iff_eq] at Zb
   simp only [aE,Bool.and_eq_true,decide_eq_true_eq] at hc
   obtain ⟨k,a,b,g⟩:=fe ((h x).1 hx)
   obtain ⟨t1,_,_,t4⟩:=g.LV hc.1 hc.2
   have hk:(k:Int)=5:=by omega
   rw [t4,if_pos hk,hk,pM hi]
   show (L[i]).c - 1+1=_
   omega
 have ext : ∀ {a b:aj},a.b=b.b→a.i=b.i→a.u=b.u→a.k=b.k→a.c=b.c→a=b:=by
  rintro ⟨_,_,_,_,_⟩ ⟨_,_,_,_,_⟩ rfl rfl rfl rfl rfl;rfl
 exact ext e1 e2 e3 e4 e5
theorem Eh {L:List aj} {so:List ay} (h:so.Perm (bN L)) {i:Int} {m n:Nat} (hm:m<so.length) (hn:n<so.length) (c1:aE so[m] i=true) (c2:aE so[n] i=true) (k1:iI so[m]=true) (k2:iI so[n]=true):m=n:=by
 have hp:so.Pairwise fun x y=>x.k=y.k→x.t≤y.f∨y.t≤x.f:=by
  refine (h.pairwise_iff ?_).2 ((sL L).imp fun g e=>.inl (g e))
  intro x y g e
  rcases g e.symm with r | r
  ·exact .inr r
  ·exact .inl r
 have Ru : ∀x ∈ so,iI x=true→x.k=5:=by
  intro x hx hc
  obtain ⟨k,a,b,g⟩:=fe (h.mem_iff.1 hx)
  have h1:=g.k1
  have h5:=g.k5
  have e:x.k=(k:Int):=by rw [g.eq]
  unfold iI at hc
  simp only [Bool.and_eq_true,Bool.not_eq_true',beq_eq_false_iff_ne] at hc
  omega
 have ND:=Ru _ (List.getElem_mem hm) k1
 have Sf:=Ru _ (List.getElem_mem hn) k2
 unfold aE at c1 c2
 simp only [Bool.and_eq_true,decide_eq_true_eq] at c1 c2
 rw [List.pairwise_iff_getElem] at hp
 rcases Nat.lt_trichotomy m n with g | g | g
 ·have:=hp m n hm hn g (by rw [ND,Sf]);omega
 ·exact g
 ·have:=hp n m hn hm g (by rw [ND,Sf]);omega
theorem Bp (L:List aj):(cq (bN L)).Perm (bN L):=(qM (bN L)).2
/-! A span laid into a row in order, from behind -/
/-! How the document tells the look of a sign: the innermost colour -/
def mM (x:ay) (st:aj×Option ay):aj×Option ay :=
 match st.2 with
 | none=>({ st.1 with c:=x.v+1 },some x)
 | some y=>bif bw x y then ({ st.1 with c:=x.v+1 },some x) else st
def cL (i:Int) (st:aj×Option ay) (x:ay):aj×Option ay :=
 bif aE x i then (bif iI x then mM x st else (eJ st.1 x,st.2)) else st
def bt (l:List ay) (i:Int):aj:=(l.foldl (cL i) (aH,none)).1
def Lone (i:Int) (l:List ay):Prop:=l.Pairwise fun x y=>¬ (aE x i=true∧iI x=true∧aE y i=true∧iI y=true)
theorem GS {a:aj} {x:ay} (h:iI x=true):eJ a x = { a with c:=x.v+1 }:=by
 unfold iI at h
 simp only [Bool.and_eq_true,Bool.not_eq_true',beq_eq_false_iff_ne] at h
 unfold eJ
 rw [if_neg h.1.1.1,if_neg h.1.1.2,if_neg h.1.2,if_neg h.2]
theorem oS {i:Int} : ∀ {l:List ay} {a:aj} {o:Option ay},Lone i l→(o=none∨∀x ∈ l,¬ (aE x i=true∧iI x=true))→(l.foldl (cL i) (a,o)).1=cZ a l i
 | [],a,o,_,_=>rfl
 | x :: l,a,o,h,ho=>by
  have h':=List.pairwise_cons.1 h
  rw [List.foldl_cons,fk]
  unfold cL
  cases hx:aE x i with
  | false =>
   simp only [cond_false]
   exact oS h'.2 (ho.imp id fun k y hy=>k y (List.mem_cons_of_mem _ hy))
  | true =>
   simp only [cond_true]
   cases hi:iI x with
   | false =>
    simp only [cond_false]
    exact oS h'.2 (ho.imp id fun k y hy=>k y (List.mem_cons_of_mem _ hy))
   | true =>
    simp only [cond_true]
    obtain rfl:o=none:=by
     rcases ho with e | k
     ·exact e
     ·exact absurd ⟨hx,hi⟩ (k x List.mem_cons_self)
    unfold mM
    simp only
    rw [GS hi]
    exact oS h'.2 (.inr fun y hy k=>h'.1 y hy ⟨hx,hi,k.1,k.2⟩)
theorem Cf {i:Int} {l:List ay} (h:Lone i l):bt l i=seen l i:=oS h (.inl rfl)
theorem Bs {L:List aj} {so:List ay} (h:so.Perm (bN L)) (i:Int):Lone i so:=by
 unfold Lone
 rw [List.pairwise_iff_getElem]
 rintro m n hm hn At ⟨h1,h2,h3,h4⟩
 have:=Eh h hm hn h1 h3 h2 h4
 omega
theorem Ac {L:List aj} {so:List ay} (h:so.Perm (bN L)) {i:Nat} (hi:i<L.length):bt so i=L[i]:=by
 rw [Cf (Bs h _)]
 exact BA (fun x=>h.mem_iff) hi
end Go.Am

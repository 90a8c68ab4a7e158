/- The spans of a normal form are right, and tell how the signs look. -/
import Derived.Test.YtlkdhhkncoekgaaGreatDoorNorml
import Derived.Test.YtlkdhhkncoekgaaGreatDoorSortE
namespace Go.Am
open Go.Proofs.YtlkdhhkncoekgaaGreatDoor
def dJ (x:av) (n:Int):Bool :=
 bif decide (x.f<0) || decide (x.t > n) || decide (x.f≥x.t) || decide (x.k<1) || decide (x.k > 5) then false
 else bif x.k == 5 then decide (x.v≥0) && decide (x.v≤16777215) else x.v == 0
def bE (x y:av):Bool:=decide (x.f≥y.f) && decide (x.t≤y.t)
def bA (x y:av):Bool:=decide (x.f<y.t) && decide (y.f<x.t) && !bE x y && !bE y x
theorem EO {L:List aj} (hc : ∀a ∈ L,0≤a.c∧a.c≤16777216) {x:av} (hx:x ∈ bt L):dJ x L.length=true:=by
 obtain ⟨k,a,b,h⟩:=fu hx
 have h1:=h.k1
 have h5:=h.k5
 have cu:=h.lt
 have hle:=h.le
 have hs:=h.some
 unfold dJ
 rw [h.eq]
 simp only
 have n:(decide ((a:Int)<0) || decide ((b:Int) > (L.length:Int)) || decide ((a:Int)≥(b:Int)) || decide ((k:Int)<1) || decide ((k:Int) > 5))=false:=by
  simp only [Bool.or_eq_false_iff,decide_eq_false_iff_not];omega
 rw [n]
 simp only [cond_false]
 by_cases hk:(k:Int)=5
 ·have yX:((k:Int) == 5)=true:=by rw [beq_iff_eq];exact hk
  rw [if_pos hk,yX]
  simp only [cond_true,Bool.and_eq_true,decide_eq_true_eq]
  have ha:a<L.length:=by omega
  have e:val L k a=(L[a]).c:=by rw [lO ha,hk];rfl
  have:=hc _ (List.getElem_mem ha)
  rw [e] at hs ⊢
  omega
 ·have yX:((k:Int) == 5)=false:=by rw [beq_eq_false_iff_ne];exact hk
  rw [if_neg hk,yX];rfl
theorem z6 {L:List aj} {x y:av} (hx:x ∈ bt L) (hy:y ∈ bt L):bA x y=false:=by
 obtain ⟨k,a,b,h⟩:=fu hx
 obtain ⟨l,c,d,g⟩:=fu hy
 have h1:=h.lt
 have h2:=g.lt
 have key:b≤c∨d≤a∨(a≤c∧d≤b)∨(c≤a∧b≤d):=by
  rcases Nat.le_total k l with e | e
  ·rcases h.nest g e with r | r | r
   ·exact .inl r
   ·exact .inr (.inl r)
   ·exact .inr (.inr (.inl r))
  ·rcases g.nest h e with r | r | r
   ·exact .inr (.inl r)
   ·exact .inl r
   ·exact .inr (.inr (.inr r))
 rw [← Bool.not_eq_true]
 unfold bA bE
 rw [h.eq,g.eq]
 simp only [Bool.and_eq_true,Bool.not_eq_true',Bool.and_eq_false_iff,decide_eq_true_eq,decide_eq_false_iff_not]
 omega
theorem z8 (L:List aj):JR (bt L):=by
 refine List.Pairwise.imp_of_mem (fun {x y} hx hy h=>?_) (tH L)
 obtain ⟨k,a,b,e⟩:=fu hx
 have:=e.lt
 have cu:x.f<x.t:=by rw [e.eq];show (a:Int)<b;omega
 rw [pK,pK]
 by_cases hk:x.k=y.k
 ·have:=h hk
  left;left;omega
 ·omega
def aG (x:av) (i:Int):Bool:=decide (x.f≤i) && decide (i<x.t)
def eO (a:aj) (x:av):aj:=if x.k=1 then { a with b:=true } else if x.k=2 then { a with i:=true } else if x.k=3 then { a with u:=true } else if x.k=4 then { a with k:=true } else { a with c:=x.v+1 }
def c8 (a:aj) (l:List av) (i:Int):aj:=l.foldl (fun a x=>bif aG x i then eO a x else a) a
def seen (l:List av) (i:Int):aj:=c8 aI l i
def jc (x:av):Bool:=!(x.k == 1) && !(x.k == 2) && !(x.k == 3) && !(x.k == 4)
theorem fA (a:aj) (x:av) (l:List av) (i:Int):c8 a (x :: l) i=c8 (bif aG x i then eO a x else a) l i:=rfl
theorem tN (i:Int) : ∀(l:List av) (a:aj),(c8 a l i).b=(a.b || l.any fun x=>aG x i && (x.k == 1))
 | [],a=>by simp [c8]
 | x :: l,a=>by
  rw [fA,tN i l,List.any_cons,← Bool.or_assoc]
  congr 1
  cases h:aG x i with
  | false=>simp
  | true =>
   simp only [cond_true,Bool.true_and]
   unfold eO
   by_cases h1:x.k=1
   ·rw [if_pos h1];simp [h1]
   ·rw [if_neg h1,beq_eq_false_iff_ne.2 h1]
    repeat' split
    all_goals simp
theorem tM (i:Int) : ∀(l:List av) (a:aj),(c8 a l i).i=(a.i || l.any fun x=>aG x i && (x.k == 2))
 | [],a=>by simp [c8]
 | x :: l,a=>by
  rw [fA,tM i l,List.any_cons,← Bool.or_assoc]
  congr 1
  cases h:aG x i with
  | false=>simp
  | true =>
   simp only [cond_true,Bool.true_and]
   unfold eO
   by_cases h1:x.k=2
   ·rw [if_neg (by omega),if_pos h1];simp [h1]
   ·rw [beq_eq_false_iff_ne.2 h1]
    repeat' split
    all_goals first | simp | omega
theorem tK (i:Int) : ∀(l:List av) (a:aj),(c8 a l i).u=(a.u || l.any fun x=>aG x i && (x.k == 3))
 | [],a=>by simp [c8]
 | x :: l,a=>by
  rw [fA,tK i l,List.any_cons,← Bool.or_assoc]
  congr 1
  cases h:aG x i with
  | false=>simp
  | true =>
   simp only [cond_true,Bool.true_and]
   unfold eO
   by_cases h1:x.k=3
   ·rw [if_neg (by omega),if_neg (by omega),if_pos h1];simp [h1]
   ·rw [beq_eq_false_iff_ne.2 h1]
    repeat' split
    all_goals first | simp | omega
theorem tL (i:Int) : ∀(l:List av) (a:aj),(c8 a l i).k=(a.k || l.any fun x=>aG x i && (x.k == 4))
 | [],a=>by simp [c8]
 | x :: l,a=>by
  rw [fA,tL i l,List.any_cons,← Bool.or_assoc]
  congr 1
  cases h:aG x i with
  | false=>simp
  | true =>
   simp only [cond_true,Bool.true_and]
   unfold eO
   by_cases h1:x.k=4
   ·rw [if_neg (by omega),if_neg (by omega),if_neg (by omega),if_pos h1];simp [h1]
   ·rw [beq_eq_false_iff_ne.2 h1]
    repeat' split
    all_goals first | simp | omega
theorem xT (a:aj) (x:av):(eO a x).c=bif jc x then x.v+1 else a.c:=by
 unfold eO jc
 by_cases h1:x.k=1
 ·simp [h1]
 ·by_cases h2:x.k=2
  ·simp [h2]
  ·by_cases h3:x.k=3
   ·simp [h3]
   ·by_cases h4:x.k=4
    ·simp [h4]
    ·rw [if_neg h1,if_neg h2,if_neg h3,if_neg h4,beq_eq_false_iff_ne.2 h1,beq_eq_false_iff_ne.2 h2,beq_eq_false_iff_ne.2 h3,beq_eq_false_iff_ne.2 h4];rfl
theorem Ae (i w:Int) : ∀(l:List av) (a:aj),(∀x ∈ l,aG x i=true→jc x=true→x.v+1=w) →
  (c8 a l i).c=bif l.any (fun x=>aG x i && jc x) then w else a.c
 | [],a,_=>by simp [c8]
 | x :: l,a,h=>by
  rw [fA,Ae i w l _ (fun y hy=>h y (List.mem_cons_of_mem _ hy)),List.any_cons]
  cases hl:l.any fun x=>aG x i && jc x with
  | true=>simp
  | false =>
   simp only [cond_false,Bool.or_false]
   cases hx:aG x i with
   | false=>simp
   | true =>
    simp only [cond_true,Bool.true_and]
    rw [xT]
    cases hi:jc x with
    | false=>rfl
    | true=>simp only [cond_true];exact h x List.mem_cons_self hx hi
theorem Cc {L:List aj} {so:List av} (h : ∀x,x ∈ so↔x ∈ bt L) {i:Nat} (hi:i<L.length):seen so i=L[i]:=by
 have kind : ∀k:Nat,1≤k→k≤5→(so.any fun x=>aG x (i:Int) && (x.k == (k:Int)))=decide ((L[i]).get k ≠ 0):=by
  intro k h1 h5
  rw [Bool.eq_iff_iff,List.any_eq_true,decide_eq_true_iff,← lO hi]
  constructor
  ·rintro ⟨x,hx,hy⟩
   simp only [aG,Bool.and_eq_true,decide_eq_true_eq,beq_iff_eq] at hy
   obtain ⟨j,a,b,g⟩:=fu ((h x).1 hx)
   obtain ⟨e1,e2,_⟩:=g.MB hy.1.1 hy.1.2
   obtain rfl:j=k:=by omega
   exact e2
  ·intro hv
   obtain ⟨x,hx,e1,e2,e3⟩:=z7 h1 h5 hi hv
   refine ⟨x,(h x).2 hx,?_⟩
   simp only [aG,Bool.and_eq_true,decide_eq_true_eq,beq_iff_eq]
   exact ⟨⟨e2,e3⟩,e1⟩
 have TL : ∀b:Bool,decide (gJ b ≠ 0)=b:=fun b=>by cases b <;> rfl
 have hC : ∀x ∈ so,jc x=(x.k == 5):=by
  intro x hx
  obtain ⟨k,a,b,g⟩:=fu ((h x).1 hx)
  have h1:=g.k1
  have h5:=g.k5
  unfold jc
  rw [g.eq]
  simp only
  match k,h1,h5 with
  | 1,_,_=>rfl
  | 2,_,_=>rfl
  | 3,_,_=>rfl
  | 4,_,_=>rfl
  | 5,_,_=>rfl
 have e1:(seen so i).b=(L[i]).b:=by
  have:=kind 1 (by omega) (by omega)
  unfold seen;rw [tN]
  show (false || so.any fun x=>aG x i && (x.k == ((1:Nat):Int)))=_
  rw [this,Bool.false_or];exact TL _
 have e2:(seen so i).i=(L[i]).i:=by
  have:=kind 2 (by omega) (by omega)
  unfold seen;rw [tM]
  show (false || so.any fun x=>aG x i && (x.k == ((2:Nat):Int)))=_
  rw [this,Bool.false_or];exact TL _
 have e3:(seen so i).u=(L[i]).u:=by
  have:=kind 3 (by omega) (by omega)
  unfold seen;rw [tK]
  show (false || so.any fun x=>aG x i && (x.k == ((3:Nat):Int)))=_
  rw [this,Bool.false_or];exact TL _
 have e4:(seen so i).k=(L[i]).k:=by
  have:=kind 4 (by omega) (by omega)
  unfold seen;rw [tL]
  show (false || so.any fun x=>aG x i && (x.k == ((4:Nat):Int)))=_
  rw [this,Bool.false_or];exact TL _
 have e5:(seen so i).c=(L[i]).c:=by
  unfold seen
  rw [Ae i (L[i]).c]
  ·have k5:=kind 5 (by omega) (by omega)
   have:(so.any fun x=>aG x (i:Int) && jc x)=so.any fun x=>aG x (i:Int) && (x.k == ((5:Nat):Int)):=by
    rw [Bool.eq_iff_iff,List.any_eq_true,List.any_eq_true]
    constructor
    ·rintro ⟨x,hx,hy⟩;exact ⟨x,hx,by rw [hC x hx] at hy;exact hy⟩
    ·rintro ⟨x,hx,hy⟩;exact ⟨x,hx,by rw [hC x hx];exact hy⟩
   rw [this,k5]
   show (bif decide ((L[i]).c ≠ 0) then (L[i]).c else 0)=_
   by_cases h0:(L[i]).c=0
   ·rw [h0];rfl
   ·rw [decide_eq_true h0];rfl
  ·intro x hx hc hi5
   rw [hC x hx,beq_iff_eq] at hi5
   simp only [aG,Bool.and_eq_true,decide_eq_true_eq] at hc
   obtain ⟨k,a,b,g⟩:=fu ((h x).1 hx)
   obtain ⟨t1,_,_,t4⟩:=g.MB hc.1 hc.2
   have hk:(k:Int)=5:=by omega
   rw [t4,if_pos hk,hk,lO hi]
   show (L[i]).c - 1+1=_
   omega
 have ext : ∀ {a b:aj},a.b=b.b→a.i=b.i→a.u=b.u→a.k=b.k→a.c=b.c→a=b:=by
  rintro ⟨_,_,_,_,_⟩ ⟨_,_,_,_,_⟩ rfl rfl rfl rfl rfl;rfl
 exact ext e1 e2 e3 e4 e5
theorem EN {L:List aj} {so:List av} (h:so.Perm (bt L)) {i:Int} {m n:Nat} (hm:m<so.length) (hn:n<so.length) (c1:aG so[m] i=true) (c2:aG so[n] i=true) (k1:jc so[m]=true) (k2:jc so[n]=true):m=n:=by
 have hp:so.Pairwise fun x y=>x.k=y.k→x.t≤y.f∨y.t≤x.f:=by
  refine (h.pairwise_iff ?_).2 ((tH L).imp fun g e=>.inl (g e))
  intro x y g e
  rcases g e.symm with r | r
  ·exact .inr r
  ·exact .inl r
 have Sk : ∀x ∈ so,jc x=true→x.k=5:=by
  intro x hx hc
  obtain ⟨k,a,b,g⟩:=fu (h.mem_iff.1 hx)
  have h1:=g.k1
  have h5:=g.k5
  have e:x.k=(k:Int):=by rw [g.eq]
  unfold jc at hc
  simp only [Bool.and_eq_true,Bool.not_eq_true',beq_eq_false_iff_ne] at hc
  omega
 have Oi:=Sk _ (List.getElem_mem hm) k1
 have Tb:=Sk _ (List.getElem_mem hn) k2
 unfold aG at c1 c2
 simp only [Bool.and_eq_true,decide_eq_true_eq] at c1 c2
 rw [List.pairwise_iff_getElem] at hp
 rcases Nat.lt_trichotomy m n with g | g | g
 ·have:=hp m n hm hn g (by rw [Oi,Tb]);omega
 ·exact g
 ·have:=hp n m hn hm g (by rw [Oi,Tb]);omega
theorem B1 (L:List aj):(aR (bt L)).Perm (bt L):=(jo (bt L)).2
/-! A span laid into a row in order, from behind -/
def iZ (l:List av) (x:av):Nat→Nat
 | 0=>0
 | n+1=>match l[n]? with
  | some y=>bif nK x y then iZ l x n else n+1
  | none=>n+1
def QH (l:List av) (x:av):List av:=l.take (iZ l x l.length) ++ x :: l.drop (iZ l x l.length)
theorem xz (l:List av) (x:av) : ∀n,iZ l x n≤n
 | 0=>Nat.le_refl _
 | n+1=>by
  unfold iZ
  cases l[n]? with
  | none=>exact Nat.le_refl _
  | some y =>
   simp only
   cases nK x y with
   | true=>have:=xz l x n;simp only [cond_true];omega
   | false=>exact Nat.le_refl _
theorem yU : ∀ {l:List av} {x:av} {m:Nat},m≤l.length→(∀j (h:j<l.length),j<m→nK x l[j]=false)→(∀h:m<l.length,nK x l[m]=true)→gb l x=l.take m ++ x :: l.drop m
 | [],x,m,h,_,_=>by
  obtain rfl:m=0:=by simp at h;exact h
  rfl
 | y :: l,x,0,_,_,h=>by
  unfold gb
  have h0:nK x y=true:=h (by simp)
  rw [if_pos h0];rfl
 | y :: l,x,m+1,hm,h1,h2=>by
  have h0:=h1 0 (by simp) (by omega)
  simp only [List.getElem_cons_zero] at h0
  unfold gb
  rw [if_neg (by rw [h0];exact Bool.false_ne_true),yU (m:=m) (by simpa using hm) (fun j hj OK=>by have:=h1 (j+1) (by simpa using hj) (by omega);simpa using this) (fun hj=>by have:=h2 (by simpa using hj);simpa using this)]
  rfl
theorem Ea {l:List av} {x:av} (ho:Ordered l) : ∀n,n≤l.length→(∀j (h:j<l.length),n≤j→nK x l[j]=true)→l.take (iZ l x n) ++ x :: l.drop (iZ l x n)=gb l x
 | 0,hn,h=>(yU (m:=0) hn (fun j _ hj=>by omega) (fun hj=>h 0 hj (Nat.le_refl _))).symm
 | n+1,hn,h=>by
  have e:l[n]? = some l[n]:=List.getElem?_eq_getElem (by omega)
  unfold iZ
  rw [e]
  simp only
  cases hx:nK x l[n] with
  | true =>
   simp only [cond_true]
   refine Ea ho n (by omega) fun j hj hnj=>?_
   rcases Nat.lt_or_ge n j with g | g
   ·exact h j hj (by omega)
   ·obtain rfl:j=n:=by omega
    exact hx
  | false =>
   simp only [cond_false]
   refine (yU hn (fun j hj OK=>?_) (fun hj=>h _ hj (Nat.le_refl _))).symm
   rcases Nat.lt_or_ge j n with g | g
   ·have:=(List.pairwise_iff_getElem.1 ho) j n hj (by omega) g
    exact qv hx this
   ·obtain rfl:j=n:=by omega
    exact hx
theorem Lm {l:List av} {x:av} (ho:Ordered l):QH l x=gb l x:=Ea ho l.length (Nat.le_refl _) fun j h g=>by omega
theorem vI (a b:List av):aR (a ++ b)=b.foldl gb (aR a):=by unfold aR;rw [List.foldl_append]
theorem uk (L:List aj) (k:Nat):(ax L (k+1)).1=(ax L k).1 ++ bB (val L (k+1:Nat)) (ax L k).2 L.length (k+1:Nat) 0:=rfl
theorem uq (L:List aj) {k m:Nat} (h:k≤m):(ax L k).1.length≤(ax L m).1.length:=by
 induction m with
 | zero =>
  obtain rfl:k=0:=(by omega);exact Nat.le_refl _
 | succ m ih =>
  rcases Nat.lt_or_ge k (m+1) with g | g
  ·have:=ih (by omega)
   rw [uk,List.length_append];omega
  ·obtain rfl:k=m+1:=by omega
   exact Nat.le_refl _
/-! How the document tells the look of a sign: the innermost colour -/
def nk (x:av) (st:aj×Option av):aj×Option av :=
 match st.2 with
 | none=>({ st.1 with c:=x.v+1 },some x)
 | some y=>bif bE x y then ({ st.1 with c:=x.v+1 },some x) else st
def cQ (i:Int) (st:aj×Option av) (x:av):aj×Option av :=
 bif aG x i then (bif jc x then nk x st else (eO st.1 x,st.2)) else st
def bw (l:List av) (i:Int):aj:=(l.foldl (cQ i) (aI,none)).1
def Lone (i:Int) (l:List av):Prop:=l.Pairwise fun x y=>¬ (aG x i=true∧jc x=true∧aG y i=true∧jc y=true)
theorem Hu {a:aj} {x:av} (h:jc x=true):eO a x = { a with c:=x.v+1 }:=by
 unfold jc at h
 simp only [Bool.and_eq_true,Bool.not_eq_true',beq_eq_false_iff_ne] at h
 unfold eO
 rw [if_neg h.1.1.1,if_neg h.1.1.2,if_neg h.1.2,if_neg h.2]
theorem pL {i:Int} : ∀ {l:List av} {a:aj} {o:Option av},Lone i l→(o=none∨∀x ∈ l,¬ (aG x i=true∧jc x=true))→(l.foldl (cQ i) (a,o)).1=c8 a l i
 | [],a,o,_,_=>rfl
 | x :: l,a,o,h,ho=>by
  have h':=List.pairwise_cons.1 h
  rw [List.foldl_cons,fA]
  unfold cQ
  cases hx:aG x i with
  | false =>
   simp only [cond_false]
   exact pL h'.2 (ho.imp id fun k y hy=>k y (List.mem_cons_of_mem _ hy))
  | true =>
   simp only [cond_true]
   cases hi:jc x with
   | false =>
    simp only [cond_false]
    exact pL h'.2 (ho.imp id fun k y hy=>k y (List.mem_cons_of_mem _ hy))
   | true =>
    simp only [cond_true]
    obtain rfl:o=none:=by
     rcases ho with e | k
     ·exact e
     ·exact absurd ⟨hx,hi⟩ (k x List.mem_cons_self)
    unfold nk
    simp only
    rw [Hu hi]
    exact pL h'.2 (.inr fun y hy k=>h'.1 y hy ⟨hx,hi,k.1,k.2⟩)
theorem CR {i:Int} {l:List av} (h:Lone i l):bw l i=seen l i:=pL h (.inl rfl)
theorem B4 {L:List aj} {so:List av} (h:so.Perm (bt L)) (i:Int):Lone i so:=by
 unfold Lone
 rw [List.pairwise_iff_getElem]
 rintro m n hm hn F1 ⟨h1,h2,h3,h4⟩
 have:=EN h hm hn h1 h3 h2 h4
 omega
theorem rO {L:List aj} {so:List av} (h:so.Perm (bt L)) {i:Nat} (hi:i<L.length):bw so i=L[i]:=by
 rw [CR (B4 h _)]
 exact Cc (fun x=>h.mem_iff) hi
theorem FH {L:List aj} {so:List av} (h:so.Perm (bt L)):((List.range L.length).map fun i:Nat=>bw so (i:Int))=L:=by
 apply List.ext_getElem
 ·simp
 ·intro i h1 h2
  simp only [List.getElem_map,List.getElem_range]
  exact rO h h2
end Go.Am

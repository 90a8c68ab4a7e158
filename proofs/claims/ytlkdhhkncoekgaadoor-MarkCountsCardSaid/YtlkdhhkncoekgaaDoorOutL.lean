/- How signs look: from the outermost spans to the innermost is the same as the document's way. -/
import Derived.Test.YtlkdhhkncoekgaaDoorNormr
namespace Go.Am
def Nx (x y:ay):Bool:=decide (x.f<y.f) || (x.f == y.f && decide (y.t<x.t))
theorem se {x y:ay}:Nx x y=true↔x.f<y.f∨(x.f=y.f∧y.t<x.t):=by
 unfold Nx;simp only [Bool.or_eq_true,Bool.and_eq_true,decide_eq_true_eq,beq_iff_eq]
theorem Ce {x y:ay}:Nx x y=false↔¬ (x.f<y.f∨(x.f=y.f∧y.t<x.t)):=by rw [← se,Bool.not_eq_true]
def bf (so:List ay) (i:Nat):ay:=(so[i]?).getD ⟨0,0,0,0⟩
def Kg (so:List ay):Ordr where
 sp:=bf so
 z9:=Nx
 SZ:=fun {x y} h=>by rw [se] at h;rw [Ce];omega
 nt:=fun {x y z} h1 h2=>by rw [Ce] at *;omega
theorem fB {so:List ay} {i:Nat} (h:i<so.length):bf so i=so[i]:=by unfold bf;rw [List.getElem?_eq_getElem h];rfl
/-! The flags -/
theorem By (a:aj) (x:ay):(eJ a x).b=(a.b || x.k == 1)∧(eJ a x).i=(a.i || x.k == 2)∧(eJ a x).u=(a.u || x.k == 3)∧(eJ a x).k=(a.k || x.k == 4):=by
 unfold eJ
 by_cases h1:x.k=1
 ·rw [if_pos h1,h1];simp
 ·rw [if_neg h1]
  by_cases h2:x.k=2
  ·rw [if_pos h2,h2];simp
  ·rw [if_neg h2]
   by_cases h3:x.k=3
   ·rw [if_pos h3,h3];simp
   ·rw [if_neg h3]
    by_cases h4:x.k=4
    ·rw [if_pos h4,h4];simp
    ·rw [if_neg h4];simp [h1,h2,h3,h4]
theorem xW (i:Int) (st:aj×Option ay) (x:ay):(cL i st x).1.b=(st.1.b || (aE x i && x.k == 1))∧(cL i st x).1.i=(st.1.i || (aE x i && x.k == 2))∧(cL i st x).1.u=(st.1.u || (aE x i && x.k == 3))∧(cL i st x).1.k=(st.1.k || (aE x i && x.k == 4)):=by
 unfold cL
 cases aE x i with
 | false=>simp
 | true =>
  simp only [cond_true,Bool.true_and]
  cases hc:iI x with
  | false=>exact By st.1 x
  | true =>
   simp only [cond_true]
   unfold iI at hc
   simp only [Bool.and_eq_true,Bool.not_eq_true'] at hc
   obtain ⟨⟨⟨h1,h2⟩,h3⟩,h4⟩:=hc
   rw [h1,h2,h3,h4]
   simp only [Bool.or_false]
   unfold mM
   cases st.2 with
   | none=>simp
   | some y=>simp only;cases bw x y <;> simp
theorem lM (i:Int) : ∀(l:List ay) (st:aj×Option ay),(l.foldl (cL i) st).1.b=(st.1.b || l.any fun x=>aE x i && (x.k == 1))∧(l.foldl (cL i) st).1.i=(st.1.i || l.any fun x=>aE x i && (x.k == 2)) ∧
  (l.foldl (cL i) st).1.u=(st.1.u || l.any fun x=>aE x i && (x.k == 3))∧(l.foldl (cL i) st).1.k=(st.1.k || l.any fun x=>aE x i && (x.k == 4))
 | [],st=>by simp
 | x :: l,st=>by
  rw [List.foldl_cons]
  obtain ⟨a1,a2,a3,a4⟩:=lM i l (cL i st x)
  obtain ⟨b1,b2,b3,b4⟩:=xW i st x
  simp only [List.any_cons]
  rw [a1,a2,a3,a4,b1,b2,b3,b4]
  simp only [Bool.or_assoc,and_self]
/-! The colour -/
structure Ba (l:List ay) (i:Int) (m:Nat):Prop where
 lt:m<l.length
 Ls:aE (bf l m) i=true
 IS:iI (bf l m)=true
 kY : ∀n,n<l.length→aE (bf l n) i=true→iI (bf l n)=true→bw (bf l m) (bf l n)=true∧(m<n→bw (bf l n) (bf l m)=false)
theorem Ba.uniq {l:List ay} {i:Int} {m n:Nat} (h:Ba l i m) (g:Ba l i n):m=n:=by
 rcases Nat.lt_trichotomy m n with c | c | c
 ·have:=(h.kY n g.lt g.Ls g.IS).2 c
  rw [(g.kY m h.lt h.Ls h.IS).1] at this;cases this
 ·exact c
 ·have:=(g.kY m h.lt h.Ls h.IS).2 c
  rw [(h.kY n g.lt g.Ls g.IS).1] at this;cases this
def yL (l:List ay) (i:Int):Prop:=∀n,n<l.length→aE (bf l n) i=true→iI (bf l n)=false
theorem Ba.some {l:List ay} {i:Int} {m:Nat} (h:Ba l i m) : ¬ yL l i:=fun g=>by
 have:=g m h.lt h.Ls
 rw [h.IS] at this;cases this
theorem eU {x y:ay}:bw x y=true↔y.f≤x.f∧x.t≤y.t:=by
 unfold bw;simp only [Bool.and_eq_true,decide_eq_true_eq,ge_iff_le]
theorem Ec {x y:ay}:bw x y=false↔¬ (y.f≤x.f∧x.t≤y.t):=by rw [← eU,Bool.not_eq_true]
theorem nW {x:ay} {i:Int}:aE x i=true↔x.f≤i∧i<x.t:=by
 unfold aE;simp only [Bool.and_eq_true,decide_eq_true_eq]
theorem nested {x y:ay} {i:Int} (h:bu x y=false) (h1:aE x i=true) (h2:aE y i=true):bw x y=true∨bw y x=true:=by
 rw [nW] at h1 h2
 unfold bu at h
 cases a:bw x y with
 | true=>exact .inl rfl
 | false =>
  cases b:bw y x with
  | true=>exact .inr rfl
  | false =>
   rw [a,b,decide_eq_true (by omega),decide_eq_true (by omega)] at h;cases h
theorem aX {l:List ay} {x:ay} {n:Nat} (h:n<l.length):bf (l ++ [x]) n=bf l n:=by
 unfold bf;rw [List.getElem?_append_left h]
theorem bF {l:List ay} {x:ay}:bf (l ++ [x]) l.length=x:=by
 unfold bf;rw [List.getElem?_append_right (Nat.le_refl _),Nat.sub_self];rfl
def Mem (l:List ay) (i:Int) (st:aj×Option ay):Prop:=(yL l i∧st.1.c=0∧st.2=none)∨∃m,Ba l i m∧st.2=some (bf l m)∧st.1.c=(bf l m).v+1
theorem Mem.same {l:List ay} {i:Int} {st LZ:aj×Option ay} {x:ay} (h:Mem l i st) (hx:aE x i=true→iI x=false) (h1:LZ.1.c=st.1.c) (h2:LZ.2=st.2):Mem (l ++ [x]) i LZ:=by
 have hl:(l ++ [x]).length=l.length+1:=by simp
 have at' : ∀n,n<(l ++ [x]).length→aE (bf (l ++ [x]) n) i=true→iI (bf (l ++ [x]) n)=true→n<l.length:=by
  intro n hn c1 c2
  rcases Nat.lt_or_ge n l.length with h | h
  ·exact h
  ·obtain rfl:n=l.length:=by omega
   rw [bF] at c1 c2
   rw [hx c1] at c2;cases c2
 rcases h with ⟨g1,g2,g3⟩ | ⟨m,g1,g2,g3⟩
 ·refine .inl ⟨fun n hn c1=>?_,h1.trans g2,h2.trans g3⟩
  cases c2:iI (bf (l ++ [x]) n) with
  | false=>rfl
  | true =>
   have Il:=at' n hn c1 c2
   rw [aX Il] at c1 c2
   rw [g1 n Il c1] at c2;cases c2
 ·refine .inr ⟨m,⟨by have:=g1.lt;omega,by rw [aX g1.lt];exact g1.Ls,by rw [aX g1.lt];exact g1.IS,fun n hn c1 c2=>?_⟩,?_,?_⟩
  ·have Il:=at' n hn c1 c2
   rw [aX Il] at c1 c2 ⊢
   rw [aX g1.lt]
   exact g1.kY n Il c1 c2
  ·rw [h2,g2,aX g1.lt]
  ·rw [h1,g3,aX g1.lt]
theorem Mem.step {l:List ay} {i:Int} {st:aj×Option ay} {x:ay} (h:Mem l i st) (hx : ∀n,n<l.length→bu x (bf l n)=false):Mem (l ++ [x]) i (cL i st x):=by
 unfold cL
 cases hc:aE x i with
 | false=>exact h.same (fun e=>by rw [hc] at e;cases e) rfl rfl
 | true =>
  simp only [cond_true]
  cases hi:iI x with
  | false =>
   refine h.same (fun _=>hi) ?_ rfl
   rw [cond_false,w7,hi];rfl
  | true =>
   simp only [cond_true]
   have hl:(l ++ [x]).length=l.length+1:=by simp
   unfold mM
   rcases h with ⟨g1,g2,g3⟩ | ⟨m,g1,g2,g3⟩
   ·rw [g3]
    refine .inr ⟨l.length,⟨by omega,by rw [bF];exact hc,by rw [bF];exact hi,fun n hn c1 c2=>?_⟩,by rw [bF],by rw [bF]⟩
    rcases Nat.lt_or_ge n l.length with h | h
    ·rw [aX h] at c1 c2
     rw [g1 n h c1] at c2;cases c2
    ·obtain rfl:n=l.length:=by omega
     exact ⟨eU.2 ⟨Int.le_refl _,Int.le_refl _⟩,fun h=>absurd h (Nat.lt_irrefl _)⟩
   ·rw [g2]
    simp only
    cases hw:bw x (bf l m) with
    | true =>
     simp only [cond_true]
     refine .inr ⟨l.length,⟨by omega,by rw [bF];exact hc,by rw [bF];exact hi,fun n hn c1 c2=>?_⟩,by rw [bF],by rw [bF]⟩
     rcases Nat.lt_or_ge n l.length with h | h
     ·rw [bF]
      rw [aX h] at c1 c2 ⊢
      have:=(g1.kY n h c1 c2).1
      rw [eU] at this hw ⊢
      exact ⟨by omega,fun e=>by omega⟩
     ·obtain rfl:n=l.length:=by omega
      exact ⟨eU.2 ⟨Int.le_refl _,Int.le_refl _⟩,fun h=>absurd h (Nat.lt_irrefl _)⟩
    | false =>
     simp only [cond_false]
     refine .inr ⟨m,⟨by have:=g1.lt;omega,by rw [aX g1.lt];exact g1.Ls,by rw [aX g1.lt];exact g1.IS,fun n hn c1 c2=>?_⟩,by rw [aX g1.lt];exact g2,by rw [aX g1.lt];exact g3⟩
     rw [aX g1.lt]
     rcases Nat.lt_or_ge n l.length with h | h
     ·rw [aX h] at c1 c2 ⊢
      exact g1.kY n h c1 c2
     ·obtain rfl:n=l.length:=by omega
      rw [bF]
      refine ⟨?_,fun _=>hw⟩
      rcases nested (hx m g1.lt) hc g1.Ls with e | e
      ·rw [hw] at e;cases e
      ·exact e
theorem zY {i:Int} : ∀(r l:List ay) (st:aj×Option ay),(∀x ∈ l ++ r,∀y ∈ l ++ r,bu x y=false)→Mem l i st→Mem (l ++ r) i (r.foldl (cL i) st)
 | [],l,st,_,h=>by rw [List.append_nil];exact h
 | x :: r,l,st,hx,h=>by
  rw [List.foldl_cons,show l ++ x :: r=(l ++ [x]) ++ r by simp]
  refine zY r (l ++ [x]) _ (by rw [List.append_assoc];exact hx) (h.step fun n hn=>hx x (by simp) _ ?_)
  rw [fB hn]
  exact List.mem_append_left _ (List.getElem_mem hn)
theorem pY {so:List ay} (hx : ∀x ∈ so,∀y ∈ so,bu x y=false) (i:Int):(yL so i∧(bt so i).c=0)∨∃m,Ba so i m∧(bt so i).c=(bf so m).v+1:=by
 have:=zY (i:=i) so [] (aH,none) hx (.inl ⟨fun n hn=>by simp at hn,rfl,rfl⟩)
 rw [List.nil_append] at this
 rcases this with ⟨h1,h2,_⟩ | ⟨m,h1,_,h3⟩
 ·exact .inl ⟨h1,h2⟩
 ·exact .inr ⟨m,h1,h3⟩
def uD (i:Int) (l:List ay):Prop:=(yL l i∧(seen l i).c=0)∨∃m,m<l.length∧aE (bf l m) i=true∧iI (bf l m)=true∧(∀n,n<l.length→m<n→aE (bf l n) i=true→iI (bf l n)=false)∧(seen l i).c=(bf l m).v+1
theorem uD.step {i:Int} {l:List ay} (h:uD i l) (x:ay):uD i (l ++ [x]):=by
 have hl:(l ++ [x]).length=l.length+1:=by simp
 have hs:seen (l ++ [x]) i=bif aE x i then eJ (seen l i) x else seen l i:=by unfold seen cZ;rw [List.foldl_append];rfl
 by_cases hc:aE x i=true∧iI x=true
 ·refine .inr ⟨l.length,by omega,by rw [bF];exact hc.1,by rw [bF];exact hc.2,fun n hn h=>by omega,?_⟩
  rw [hs,hc.1,cond_true,w7,hc.2,bF];rfl
 ·have T9:(seen (l ++ [x]) i).c=(seen l i).c:=by
   rw [hs]
   cases h1:aE x i with
   | false=>rfl
   | true =>
    rw [cond_true,w7]
    cases h2:iI x with
    | false=>rfl
    | true=>exact absurd ⟨h1,h2⟩ hc
  have vY:aE (bf (l ++ [x]) l.length) i=true→iI (bf (l ++ [x]) l.length)=false:=by
   rw [bF]
   intro h1
   cases h2:iI x with
   | false=>rfl
   | true=>exact absurd ⟨h1,h2⟩ hc
  unfold uD
  rw [T9]
  rcases h with ⟨g1,g2⟩ | ⟨m,g1,g2,g3,g4,g5⟩
  ·refine .inl ⟨fun n hn c1=>?_,g2⟩
   rcases Nat.lt_or_ge n l.length with h' | h'
   ·rw [aX h'] at c1 ⊢;exact g1 n h' c1
   ·obtain rfl:n=l.length:=by omega
    exact vY c1
  ·refine .inr ⟨m,by omega,by rw [aX g1];exact g2,by rw [aX g1];exact g3,fun n hn At c1=>?_,by rw [aX g1];exact g5⟩
   rcases Nat.lt_or_ge n l.length with h' | h'
   ·rw [aX h'] at c1 ⊢;exact g4 n h' At c1
   ·obtain rfl:n=l.length:=by omega
    exact vY c1
theorem vQ {i:Int} : ∀(r l:List ay),uD i l→uD i (l ++ r)
 | [],l,h=>by rw [List.append_nil];exact h
 | x :: r,l,h=>by
  rw [show l ++ x :: r=(l ++ [x]) ++ r by simp]
  exact vQ r _ (h.step x)
theorem Er (i:Int) (l:List ay):uD i l:=by
 have:=vQ (i:=i) l [] (.inl ⟨fun n hn=>by simp at hn,rfl⟩)
 rwa [List.nil_append] at this
def nI (so:List ay) (p:Nat→Nat):List ay:=(List.range so.length).map fun j=>bf so (p j)
theorem gu (so:List ay) (p:Nat→Nat):(nI so p).length=so.length:=by simp [nI]
theorem xD {so:List ay} {p:Nat→Nat} {j:Nat} (h:j<so.length):bf (nI so p) j=bf so (p j):=by
 rw [fB (by rw [gu];exact h)]
 unfold nI
 rw [List.getElem_map,List.getElem_range]
theorem GU {so:List ay} (hx : ∀x ∈ so,∀y ∈ so,bu x y=false) {p:Nat→Nat} (hp:bE so.length p fun i=>i) (hs:jv (Kg so) p 0 so.length) (i:Int):seen (nI so p) i=bt so i:=by
 obtain ⟨s,t,a1,a2,a3⟩:=hp
 have Tw : ∀j,j<so.length→p j<so.length:=fun j hj=>by rw [a3 j hj];exact (a1 j hj).1
 have pt : ∀m,m<so.length→t m<so.length∧p (t m)=m:=fun m hm=>⟨(a2 m hm).1,by rw [a3 _ (a2 m hm).1];exact (a2 m hm).2⟩
 have LJ : ∀f:ay→Bool,(nI so p).any f=so.any f:=by
  intro f
  rw [Bool.eq_iff_iff,List.any_eq_true,List.any_eq_true]
  constructor
  ·rintro ⟨x,hx,hf⟩
   obtain ⟨j,hj,rfl⟩:=List.mem_map.1 hx
   have KR:=List.mem_range.1 hj
   exact ⟨_,by rw [fB (Tw j KR)];exact List.getElem_mem _,hf⟩
  ·rintro ⟨x,hx,hf⟩
   obtain ⟨m,hm,rfl⟩:=List.getElem_of_mem hx
   refine ⟨so[m],?_,hf⟩
   refine List.mem_map.2 ⟨t m,List.mem_range.2 (pt m hm).1,?_⟩
   show bf so (p (t m))=_
   rw [(pt m hm).2,fB hm]
 have e1:(seen (nI so p) i).b=(bt so i).b:=by unfold seen bt;rw [sR,(lM i so (aH,none)).1,LJ]
 have e2:(seen (nI so p) i).i=(bt so i).i:=by unfold seen bt;rw [sQ,(lM i so (aH,none)).2.1,LJ]
 have e3:(seen (nI so p) i).u=(bt so i).u:=by unfold seen bt;rw [sO,(lM i so (aH,none)).2.2.1,LJ]
 have e4:(seen (nI so p) i).k=(bt so i).k:=by unfold seen bt;rw [sP,(lM i so (aH,none)).2.2.2,LJ]
 have e5:(seen (nI so p) i).c=(bt so i).c:=by
  rcases Er i (nI so p) with ⟨g1,g2⟩ | ⟨j,g1,g2,g3,g4,g5⟩
  ·rcases pY hx i with ⟨_,h2⟩ | ⟨m,h1,_⟩
   ·rw [g2,h2]
   ·exfalso
    obtain ⟨q1,q2⟩:=pt m h1.lt
    have:=g1 (t m) (by rw [gu];exact q1)
    rw [xD q1,q2] at this
    have h3:=h1.IS
    rw [this h1.Ls] at h3;cases h3
  ·rw [gu] at g1
   rw [xD g1] at g2 g3 g5
   have hb:Ba so i (p j):=by
    refine ⟨Tw j g1,g2,g3,fun n hn c1 c2=>?_⟩
    obtain ⟨q1,q2⟩:=pt n hn
    have hle:t n≤j:=by
     rcases Nat.lt_or_ge j (t n) with h | h
     ·have:=g4 (t n) (by rw [gu];exact q1) h
      rw [xD q1,q2] at this
      rw [this c1] at c2;cases c2
     ·exact h
    have cv:(Kg so).lt (p j) n=false:=by
     have:=hs.le (i:=t n) (j:=j) (Nat.zero_le _) hle g1
     rw [q2] at this;exact this
    rw [Ordr.z8] at cv
    obtain ⟨l1,l2⟩:=cv
    have Yg:Nx (bf so (p j)) (bf so n)=false:=l1
    have PX:Nx (bf so n) (bf so (p j))=true∨¬ p j<n:=l2
    have Gi:=nested (hx (bf so (p j)) (by rw [fB (Tw j g1)];exact List.getElem_mem _) (bf so n) (by rw [fB hn];exact List.getElem_mem _)) g2 c1
    rw [Ce] at Yg
    rw [eU,eU] at Gi
    refine ⟨eU.2 (by omega),fun Ut=>Ec.2 ?_⟩
    rcases PX with PX | PX
    ·rw [se] at PX;omega
    ·exact absurd Ut PX
   rcases pY hx i with ⟨h1,_⟩ | ⟨m,h1,h2⟩
   ·exact absurd h1 hb.some
   ·rw [g5,h2,hb.uniq h1]
 cases h1:seen (nI so p) i
 cases h2:bt so i
 rw [h1,h2] at e1 e2 e3 e4 e5
 simp only at e1 e2 e3 e4 e5
 rw [e1,e2,e3,e4,e5]
end Go.Am

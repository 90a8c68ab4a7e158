/- How signs look: from the outermost spans to the innermost is the same as the document's way. -/
import Derived.Test.YtlkdhhkncoekgaaGreatDoorNormr
namespace Go.Am
def Oe (x y:av):Bool:=decide (x.f<y.f) || (x.f == y.f && decide (y.t<x.t))
theorem sZ {x y:av}:Oe x y=true↔x.f<y.f∨(x.f=y.f∧y.t<x.t):=by
 unfold Oe;simp only [Bool.or_eq_true,Bool.and_eq_true,decide_eq_true_eq,beq_iff_eq]
theorem CQ {x y:av}:Oe x y=false↔¬ (x.f<y.f∨(x.f=y.f∧y.t<x.t)):=by rw [← sZ,Bool.not_eq_true]
def br (so:List av) (i:Nat):av:=(so[i]?).getD ⟨0,0,0,0⟩
def KY (so:List av):Ordr where
 sp:=br so
 AO:=Oe
 TP:=fun {x y} h=>by rw [sZ] at h;rw [CQ];omega
 nt:=fun {x y z} h1 h2=>by rw [CQ] at *;omega
theorem fI {so:List av} {i:Nat} (h:i<so.length):br so i=so[i]:=by unfold br;rw [List.getElem?_eq_getElem h];rfl
/-! The flags -/
theorem Ca (a:aj) (x:av):(eO a x).b=(a.b || x.k == 1)∧(eO a x).i=(a.i || x.k == 2)∧(eO a x).u=(a.u || x.k == 3)∧(eO a x).k=(a.k || x.k == 4):=by
 unfold eO
 by_cases h1:x.k=1
 ·rw [if_pos h1,h1];simp
 ·rw [if_neg h1]
  by_cases h2:x.k=2
  ·rw [if_pos h2,h2];simp
  ·rw [if_neg h2]
   by_cases h3:x.k=3
   ·rw [if_pos h3,h3];simp
   ·rw [if_neg h3]
    by_cases h4:x.k=4
    ·rw [if_pos h4,h4];simp
    ·rw [if_neg h4];simp [h1,h2,h3,h4]
theorem yR (i:Int) (st:aj×Option av) (x:av):(cQ i st x).1.b=(st.1.b || (aG x i && x.k == 1))∧(cQ i st x).1.i=(st.1.i || (aG x i && x.k == 2))∧(cQ i st x).1.u=(st.1.u || (aG x i && x.k == 3))∧(cQ i st x).1.k=(st.1.k || (aG x i && x.k == 4)):=by
 unfold cQ
 cases aG x i with
 | false=>simp
 | true =>
  simp only [cond_true,Bool.true_and]
  cases hc:jc x with
  | false=>exact Ca st.1 x
  | true =>
   simp only [cond_true]
   unfold jc at hc
   simp only [Bool.and_eq_true,Bool.not_eq_true'] at hc
   obtain ⟨⟨⟨h1,h2⟩,h3⟩,h4⟩:=hc
   rw [h1,h2,h3,h4]
   simp only [Bool.or_false]
   unfold nk
   cases st.2 with
   | none=>simp
   | some y=>simp only;cases bE x y <;> simp
theorem mc (i:Int) : ∀(l:List av) (st:aj×Option av),(l.foldl (cQ i) st).1.b=(st.1.b || l.any fun x=>aG x i && (x.k == 1))∧(l.foldl (cQ i) st).1.i=(st.1.i || l.any fun x=>aG x i && (x.k == 2)) ∧
  (l.foldl (cQ i) st).1.u=(st.1.u || l.any fun x=>aG x i && (x.k == 3))∧(l.foldl (cQ i) st).1.k=(st.1.k || l.any fun x=>aG x i && (x.k == 4))
 | [],st=>by simp
 | x :: l,st=>by
  rw [List.foldl_cons]
  obtain ⟨a1,a2,a3,a4⟩:=mc i l (cQ i st x)
  obtain ⟨b1,b2,b3,b4⟩:=yR i st x
  simp only [List.any_cons]
  rw [a1,a2,a3,a4,b1,b2,b3,b4]
  simp only [Bool.or_assoc,and_self]
/-! The colour -/
structure BN (l:List av) (i:Int) (m:Nat):Prop where
 lt:m<l.length
 Ma:aG (br l m) i=true
 Jw:jc (br l m)=true
 lM : ∀n,n<l.length→aG (br l n) i=true→jc (br l n)=true→bE (br l m) (br l n)=true∧(m<n→bE (br l n) (br l m)=false)
theorem BN.uniq {l:List av} {i:Int} {m n:Nat} (h:BN l i m) (g:BN l i n):m=n:=by
 rcases Nat.lt_trichotomy m n with c | c | c
 ·have:=(h.lM n g.lt g.Ma g.Jw).2 c
  rw [(g.lM m h.lt h.Ma h.Jw).1] at this;cases this
 ·exact c
 ·have:=(g.lM m h.lt h.Ma h.Jw).2 c
  rw [(h.lM n g.lt g.Ma g.Jw).1] at this;cases this
def zC (l:List av) (i:Int):Prop:=∀n,n<l.length→aG (br l n) i=true→jc (br l n)=false
theorem BN.some {l:List av} {i:Int} {m:Nat} (h:BN l i m) : ¬ zC l i:=fun g=>by
 have:=g m h.lt h.Ma
 rw [h.Jw] at this;cases this
theorem fe {x y:av}:bE x y=true↔y.f≤x.f∧x.t≤y.t:=by
 unfold bE;simp only [Bool.and_eq_true,decide_eq_true_eq,ge_iff_le]
theorem EI {x y:av}:bE x y=false↔¬ (y.f≤x.f∧x.t≤y.t):=by rw [← fe,Bool.not_eq_true]
theorem oB {x:av} {i:Int}:aG x i=true↔x.f≤i∧i<x.t:=by
 unfold aG;simp only [Bool.and_eq_true,decide_eq_true_eq]
theorem nested {x y:av} {i:Int} (h:bA x y=false) (h1:aG x i=true) (h2:aG y i=true):bE x y=true∨bE y x=true:=by
 rw [oB] at h1 h2
 unfold bA at h
 cases a:bE x y with
 | true=>exact .inl rfl
 | false =>
  cases b:bE y x with
  | true=>exact .inr rfl
  | false =>
   rw [a,b,decide_eq_true (by omega),decide_eq_true (by omega)] at h;cases h
theorem bh {l:List av} {x:av} {n:Nat} (h:n<l.length):br (l ++ [x]) n=br l n:=by
 unfold br;rw [List.getElem?_append_left h]
theorem bN {l:List av} {x:av}:br (l ++ [x]) l.length=x:=by
 unfold br;rw [List.getElem?_append_right (Nat.le_refl _),Nat.sub_self];rfl
def Mem (l:List av) (i:Int) (st:aj×Option av):Prop:=(zC l i∧st.1.c=0∧st.2=none)∨∃m,BN l i m∧st.2=some (br l m)∧st.1.c=(br l m).v+1
theorem Mem.same {l:List av} {i:Int} {st MF:aj×Option av} {x:av} (h:Mem l i st) (hx:aG x i=true→jc x=false) (h1:MF.1.c=st.1.c) (h2:MF.2=st.2):Mem (l ++ [x]) i MF:=by
 have hl:(l ++ [x]).length=l.length+1:=by simp
 have at' : ∀n,n<(l ++ [x]).length→aG (br (l ++ [x]) n) i=true→jc (br (l ++ [x]) n)=true→n<l.length:=by
  intro n hn c1 c2
  rcases Nat.lt_or_ge n l.length with h | h
  ·exact h
  ·obtain rfl:n=l.length:=by omega
   rw [bN] at c1 c2
   rw [hx c1] at c2;cases c2
 rcases h with ⟨g1,g2,g3⟩ | ⟨m,g1,g2,g3⟩
 ·refine .inl ⟨fun n hn c1=>?_,h1.trans g2,h2.trans g3⟩
  cases c2:jc (br (l ++ [x]) n) with
  | false=>rfl
  | true =>
   have I3:=at' n hn c1 c2
   rw [bh I3] at c1 c2
   rw [g1 n I3 c1] at c2;cases c2
 ·refine .inr ⟨m,⟨by have:=g1.lt;omega,by rw [bh g1.lt];exact g1.Ma,by rw [bh g1.lt];exact g1.Jw,fun n hn c1 c2=>?_⟩,?_,?_⟩
  ·have I3:=at' n hn c1 c2
   rw [bh I3] at c1 c2 ⊢
   rw [bh g1.lt]
   exact g1.lM n I3 c1 c2
  ·rw [h2,g2,bh g1.lt]
  ·rw [h1,g3,bh g1.lt]
theorem Mem.step {l:List av} {i:Int} {st:aj×Option av} {x:av} (h:Mem l i st) (hx : ∀n,n<l.length→bA x (br l n)=false):Mem (l ++ [x]) i (cQ i st x):=by
 unfold cQ
 cases hc:aG x i with
 | false=>exact h.same (fun e=>by rw [hc] at e;cases e) rfl rfl
 | true =>
  simp only [cond_true]
  cases hi:jc x with
  | false =>
   refine h.same (fun _=>hi) ?_ rfl
   rw [cond_false,xT,hi];rfl
  | true =>
   simp only [cond_true]
   have hl:(l ++ [x]).length=l.length+1:=by simp
   unfold nk
   rcases h with ⟨g1,g2,g3⟩ | ⟨m,g1,g2,g3⟩
   ·rw [g3]
    refine .inr ⟨l.length,⟨by omega,by rw [bN];exact hc,by rw [bN];exact hi,fun n hn c1 c2=>?_⟩,by rw [bN],by rw [bN]⟩
    rcases Nat.lt_or_ge n l.length with h | h
    ·rw [bh h] at c1 c2
     rw [g1 n h c1] at c2;cases c2
    ·obtain rfl:n=l.length:=by omega
     exact ⟨fe.2 ⟨Int.le_refl _,Int.le_refl _⟩,fun h=>absurd h (Nat.lt_irrefl _)⟩
   ·rw [g2]
    simp only
    cases hw:bE x (br l m) with
    | true =>
     simp only [cond_true]
     refine .inr ⟨l.length,⟨by omega,by rw [bN];exact hc,by rw [bN];exact hi,fun n hn c1 c2=>?_⟩,by rw [bN],by rw [bN]⟩
     rcases Nat.lt_or_ge n l.length with h | h
     ·rw [bN]
      rw [bh h] at c1 c2 ⊢
      have:=(g1.lM n h c1 c2).1
      rw [fe] at this hw ⊢
      exact ⟨by omega,fun e=>by omega⟩
     ·obtain rfl:n=l.length:=by omega
      exact ⟨fe.2 ⟨Int.le_refl _,Int.le_refl _⟩,fun h=>absurd h (Nat.lt_irrefl _)⟩
    | false =>
     simp only [cond_false]
     refine .inr ⟨m,⟨by have:=g1.lt;omega,by rw [bh g1.lt];exact g1.Ma,by rw [bh g1.lt];exact g1.Jw,fun n hn c1 c2=>?_⟩,by rw [bh g1.lt];exact g2,by rw [bh g1.lt];exact g3⟩
     rw [bh g1.lt]
     rcases Nat.lt_or_ge n l.length with h | h
     ·rw [bh h] at c1 c2 ⊢
      exact g1.lM n h c1 c2
     ·obtain rfl:n=l.length:=by omega
      rw [bN]
      refine ⟨?_,fun _=>hw⟩
      rcases nested (hx m g1.lt) hc g1.Ma with e | e
      ·rw [hw] at e;cases e
      ·exact e
theorem AJ {i:Int} : ∀(r l:List av) (st:aj×Option av),(∀x ∈ l ++ r,∀y ∈ l ++ r,bA x y=false)→Mem l i st→Mem (l ++ r) i (r.foldl (cQ i) st)
 | [],l,st,_,h=>by rw [List.append_nil];exact h
 | x :: r,l,st,hx,h=>by
  rw [List.foldl_cons,show l ++ x :: r=(l ++ [x]) ++ r by simp]
  refine AJ r (l ++ [x]) _ (by rw [List.append_assoc];exact hx) (h.step fun n hn=>hx x (by simp) _ ?_)
  rw [fI hn]
  exact List.mem_append_left _ (List.getElem_mem hn)
theorem qw {so:List av} (hx : ∀x ∈ so,∀y ∈ so,bA x y=false) (i:Int):(zC so i∧(bw so i).c=0)∨∃m,BN so i m∧(bw so i).c=(br so m).v+1:=by
 have:=AJ (i:=i) so [] (aI,none) hx (.inl ⟨fun n hn=>by simp at hn,rfl,rfl⟩)
 rw [List.nil_append] at this
 rcases this with ⟨h1,h2,_⟩ | ⟨m,h1,_,h3⟩
 ·exact .inl ⟨h1,h2⟩
 ·exact .inr ⟨m,h1,h3⟩
def vl (i:Int) (l:List av):Prop:=(zC l i∧(seen l i).c=0)∨∃m,m<l.length∧aG (br l m) i=true∧jc (br l m)=true∧(∀n,n<l.length→m<n→aG (br l n) i=true→jc (br l n)=false)∧(seen l i).c=(br l m).v+1
theorem vl.step {i:Int} {l:List av} (h:vl i l) (x:av):vl i (l ++ [x]):=by
 have hl:(l ++ [x]).length=l.length+1:=by simp
 have hs:seen (l ++ [x]) i=bif aG x i then eO (seen l i) x else seen l i:=by unfold seen c8;rw [List.foldl_append];rfl
 by_cases hc:aG x i=true∧jc x=true
 ·refine .inr ⟨l.length,by omega,by rw [bN];exact hc.1,by rw [bN];exact hc.2,fun n hn h=>by omega,?_⟩
  rw [hs,hc.1,cond_true,xT,hc.2,bN];rfl
 ·have UR:(seen (l ++ [x]) i).c=(seen l i).c:=by
   rw [hs]
   cases h1:aG x i with
   | false=>rfl
   | true =>
    rw [cond_true,xT]
    cases h2:jc x with
    | false=>rfl
    | true=>exact absurd ⟨h1,h2⟩ hc
  have wW:aG (br (l ++ [x]) l.length) i=true→jc (br (l ++ [x]) l.length)=false:=by
   rw [bN]
   intro h1
   cases h2:jc x with
   | false=>rfl
   | true=>exact absurd ⟨h1,h2⟩ hc
  unfold vl
  rw [UR]
  rcases h with ⟨g1,g2⟩ | ⟨m,g1,g2,g3,g4,g5⟩
  ·refine .inl ⟨fun n hn c1=>?_,g2⟩
   rcases Nat.lt_or_ge n l.length with h' | h'
   ·rw [bh h'] at c1 ⊢;exact g1 n h' c1
   ·obtain rfl:n=l.length:=by omega
    exact wW c1
  ·refine .inr ⟨m,by omega,by rw [bh g1];exact g2,by rw [bh g1];exact g3,fun n hn F1 c1=>?_,by rw [bh g1];exact g5⟩
   rcases Nat.lt_or_ge n l.length with h' | h'
   ·rw [bh h'] at c1 ⊢;exact g4 n h' F1 c1
   ·obtain rfl:n=l.length:=by omega
    exact wW c1
theorem wO {i:Int} : ∀(r l:List av),vl i l→vl i (l ++ r)
 | [],l,h=>by rw [List.append_nil];exact h
 | x :: r,l,h=>by
  rw [show l ++ x :: r=(l ++ [x]) ++ r by simp]
  exact wO r _ (h.step x)
theorem EW (i:Int) (l:List av):vl i l:=by
 have:=wO (i:=i) l [] (.inl ⟨fun n hn=>by simp at hn,rfl⟩)
 rwa [List.nil_append] at this
def oh (so:List av) (p:Nat→Nat):List av:=(List.range so.length).map fun j=>br so (p j)
theorem gI (so:List av) (p:Nat→Nat):(oh so p).length=so.length:=by simp [oh]
theorem yw {so:List av} {p:Nat→Nat} {j:Nat} (h:j<so.length):br (oh so p) j=br so (p j):=by
 rw [fI (by rw [gI];exact h)]
 unfold oh
 rw [List.getElem_map,List.getElem_range]
theorem Hv {so:List av} (hx : ∀x ∈ so,∀y ∈ so,bA x y=false) {p:Nat→Nat} (hp:bM so.length p fun i=>i) (hs:jS (KY so) p 0 so.length) (i:Int):seen (oh so p) i=bw so i:=by
 obtain ⟨s,t,a1,a2,a3⟩:=hp
 have Uo : ∀j,j<so.length→p j<so.length:=fun j hj=>by rw [a3 j hj];exact (a1 j hj).1
 have pt : ∀m,m<so.length→t m<so.length∧p (t m)=m:=fun m hm=>⟨(a2 m hm).1,by rw [a3 _ (a2 m hm).1];exact (a2 m hm).2⟩
 have Mq : ∀f:av→Bool,(oh so p).any f=so.any f:=by
  intro f
  rw [Bool.eq_iff_iff,List.any_eq_true,List.any_eq_true]
  constructor
  ·rintro ⟨x,hx,hf⟩
   obtain ⟨j,hj,rfl⟩:=List.mem_map.1 hx
   have LK:=List.mem_range.1 hj
   exact ⟨_,by rw [fI (Uo j LK)];exact List.getElem_mem _,hf⟩
  ·rintro ⟨x,hx,hf⟩
   obtain ⟨m,hm,rfl⟩:=List.getElem_of_mem hx
   refine ⟨so[m],?_,hf⟩
   refine List.mem_map.2 ⟨t m,List.mem_range.2 (pt m hm).1,?_⟩
   show br so (p (t m))=_
   rw [(pt m hm).2,fI hm]
 have e1:(seen (oh so p) i).b=(bw so i).b:=by unfold seen bw;rw [tN,(mc i so (aI,none)).1,Mq]
 have e2:(seen (oh so p) i).i=(bw so i).i:=by unfold seen bw;rw [tM,(mc i so (aI,none)).2.1,Mq]
 have e3:(seen (oh so p) i).u=(bw so i).u:=by unfold seen bw;rw [tK,(mc i so (aI,none)).2.2.1,Mq]
 have e4:(seen (oh so p) i).k=(bw so i).k:=by unfold seen bw;rw [tL,(mc i so (aI,none)).2.2.2,Mq]
 have e5:(seen (oh so p) i).c=(bw so i).c:=by
  rcases EW i (oh so p) with ⟨g1,g2⟩ | ⟨j,g1,g2,g3,g4,g5⟩
  ·rcases qw hx i with ⟨_,h2⟩ | ⟨m,h1,_⟩
   ·rw [g2,h2]
   ·exfalso
    obtain ⟨q1,q2⟩:=pt m h1.lt
    have:=g1 (t m) (by rw [gI];exact q1)
    rw [yw q1,q2] at this
    have h3:=h1.Jw
    rw [this h1.Ma] at h3;cases h3
  ·rw [gI] at g1
   rw [yw g1] at g2 g3 g5
   have hb:BN so i (p j):=by
    refine ⟨Uo j g1,g2,g3,fun n hn c1 c2=>?_⟩
    obtain ⟨q1,q2⟩:=pt n hn
    have hle:t n≤j:=by
     rcases Nat.lt_or_ge j (t n) with h | h
     ·have:=g4 (t n) (by rw [gI];exact q1) h
      rw [yw q1,q2] at this
      rw [this c1] at c2;cases c2
     ·exact h
    have cu:(KY so).lt (p j) n=false:=by
     have:=hs.le (i:=t n) (j:=j) (Nat.zero_le _) hle g1
     rw [q2] at this;exact this
    rw [Ordr.AN] at cu
    obtain ⟨l1,l2⟩:=cu
    have Zc:Oe (br so (p j)) (br so n)=false:=l1
    have QI:Oe (br so n) (br so (p j))=true∨¬ p j<n:=l2
    have GN:=nested (hx (br so (p j)) (by rw [fI (Uo j g1)];exact List.getElem_mem _) (br so n) (by rw [fI hn];exact List.getElem_mem _)) g2 c1
    rw [CQ] at Zc
    rw [fe,fe] at GN
    refine ⟨fe.2 (by omega),fun Vb=>EI.2 ?_⟩
    rcases QI with QI | QI
    ·rw [sZ] at QI;omega
    ·exact absurd Vb QI
   rcases qw hx i with ⟨h1,_⟩ | ⟨m,h1,h2⟩
   ·exact absurd h1 hb.some
   ·rw [g5,h2,hb.uniq h1]
 cases h1:seen (oh so p) i
 cases h2:bw so i
 rw [h1,h2] at e1 e2 e3 e4 e5
 simp only at e1 e2 e3 e4 e5
 rw [e1,e2,e3,e4,e5]
end Go.Am

/- The spans of a normal form: where they begin and end, that they do not cross, how many a sign more makes. -/
import Derived.Test.YtlkdhhkncoekgaaDoorUtf
namespace Go.Am
theorem wq {g:Nat→Bool} : ∀ {d j:Nat},(∀i,j≤i→i<qd g d j→g i=true)∧(qd g d j<j+d→g (qd g d j)=false)
 | 0,j=>⟨fun i h1 h2=>by simp only [qd] at h2;omega,fun h=>by simp only [qd] at h;omega⟩
 | d+1,j=>by
  simp only [qd]
  cases hg:g j with
  | false=>exact ⟨fun i h1 h2=>by simp only [cond_false] at h2;omega,fun _=>hg⟩
  | true =>
   simp only [cond_true]
   obtain ⟨h1,h2⟩:=wq (g:=g) (d:=d) (j:=j+1)
   refine ⟨fun i h3 h4=>?_,fun h=>h2 (by omega)⟩
   rcases Nat.lt_or_ge j i with h5 | h5
   ·exact h1 i (by omega) h4
   ·obtain rfl:i=j:=by omega
    exact hg
theorem Ee {g:Nat→Bool} {n j:Nat} (h:j≤n):(∀i,j≤i→i<cT g n j→g i=true)∧(cT g n j<n→g (cT g n j)=false):=by
 unfold cT
 obtain ⟨h1,h2⟩:=wq (g:=g) (d:=n - j) (j:=j)
 exact ⟨h1,fun h3=>h2 (by omega)⟩
def AT (val:Nat→Int) (cut:Nat→Bool) (n i:Nat):Prop:=i=0∨n≤i∨cut i=true∨val (i - 1) ≠ val i
theorem rV {val:Nat→Int} {cut:Nat→Bool} {n i:Nat} (h:i<n) :
  (∀j,i<j→j<cT (alike val cut i) n (i+1)→¬ AT val cut n j∧val j=val i)∧AT val cut n (cT (alike val cut i) n (i+1))∧i<cT (alike val cut i) n (i+1)∧cT (alike val cut i) n (i+1)≤n:=by
 obtain ⟨b,hb⟩ : ∃b,b=cT (alike val cut i) n (i+1):=⟨_,rfl⟩
 have h0:=fc (g:=alike val cut i) (n:=n) (j:=i+1) (by omega)
 obtain ⟨h1,h2⟩:=Ee (g:=alike val cut i) (n:=n) (j:=i+1) (by omega)
 rw [← hb] at h0 h1 h2 ⊢
 have same : ∀j,i≤j→j<b→val j=val i:=by
  intro j g1 g2
  rcases Nat.lt_or_ge i j with g3 | g3
  ·have:=h1 j (by omega) g2
   unfold alike at this
   simp only [Bool.and_eq_true,beq_iff_eq] at this
   exact this.1
  ·obtain rfl:j=i:=by omega
   rfl
 refine ⟨fun j g1 g2=>⟨?_,same j (by omega) g2⟩,?_,by omega,h0.2⟩
 ·have:=h1 j (by omega) g2
  unfold alike at this
  simp only [Bool.and_eq_true,beq_iff_eq,Bool.not_eq_true'] at this
  rintro (g | g | g | g)
  ·omega
  ·omega
  ·rw [this.2] at g;cases g
  ·exact g (by rw [same (j - 1) (by omega) (by omega),same j (by omega) g2])
 ·rcases Nat.lt_or_ge b n with g | g
  ·have:=h2 g
   unfold alike at this
   simp only [Bool.and_eq_false_iff,beq_eq_false_iff_ne,Bool.not_eq_false'] at this
   rcases this with g3 | g3
   ·refine .inr (.inr (.inr ?_))
    rw [same (b - 1) (by omega) (by omega)]
    exact fun e=>g3 e.symm
   ·exact .inr (.inr (.inl g3))
  ·exact .inr (.inl g)
theorem iQ {val:Nat→Int} {cut:Nat→Bool} {n:Nat} {k:Int} : ∀(d:Nat) {i:Nat},d=n - i→AT val cut n i→∀x ∈ bV val cut n k i,
  ∃a b:Nat,x=⟨a,b,k,if k=5 then val a - 1 else 0⟩∧i≤a∧a<b∧b≤n∧val a ≠ 0∧AT val cut n a∧AT val cut n b∧∀j,a<j→j<b→¬ AT val cut n j∧val j=val a:=by
 intro d
 induction d using Nat.strongRecOn with
 | ind d ih =>
  intro i hd hi x hx
  rcases Nat.lt_or_ge i n with h | h
  ·obtain ⟨g1,g2,g3,g4⟩:=rV (val:=val) (cut:=cut) h
   rw [eV h] at hx
   rcases List.mem_append.1 hx with hx | hx
   ·unfold iR at hx
    split at hx
    ·cases hx
    ·rename_i hv
     simp only [List.mem_singleton] at hx
     exact ⟨i,_,hx,Nat.le_refl _,g3,g4,hv,hi,g2,g1⟩
   ·obtain ⟨a,b,e,k1,k2⟩:=ih (n - cT (alike val cut i) n (i+1)) (by omega) rfl g2 x hx
    exact ⟨a,b,e,by omega,k2⟩
  ·rw [fj h] at hx;cases hx
theorem ji {val:Nat→Int} {cut:Nat→Bool} {n:Nat} {k:Int} : ∀(d:Nat) {i:Nat},d=n - i→∀m,i≤m→m<n→val m ≠ 0→∃x ∈ bV val cut n k i,x.f≤(m:Int)∧(m:Int)<x.t:=by
 intro d
 induction d using Nat.strongRecOn with
 | ind d ih =>
  intro i hd m h1 h2 h3
  obtain ⟨g1,g2,g3,g4⟩:=rV (val:=val) (cut:=cut) (i:=i) (n:=n) (by omega)
  rw [eV (by omega)]
  rcases Nat.lt_or_ge m (cT (alike val cut i) n (i+1)) with h | h
  ·have hv:val i ≠ 0:=by
    rcases Nat.lt_or_ge i m with h4 | h4
    ·rw [← (g1 m h4 h).2];exact h3
    ·obtain rfl:m=i:=by omega
     exact h3
   refine ⟨⟨i,(cT (alike val cut i) n (i+1):Nat),k,if k=5 then val i - 1 else 0⟩,List.mem_append_left _ ?_,?_,?_⟩
   ·unfold iR;rw [if_neg hv];exact List.mem_singleton.2 rfl
   ·show (i:Int)≤m;omega
   ·show (m:Int)<(cT (alike val cut i) n (i+1):Nat);omega
  ·obtain ⟨x,hx,hy⟩:=ih (n - cT (alike val cut i) n (i+1)) (by omega) rfl m h h2 h3
   exact ⟨x,List.mem_append_right _ hx,hy⟩
theorem wY {val:Nat→Int} {cut:Nat→Bool} {n:Nat} {k:Int} : ∀(d:Nat) {i:Nat},d=n - i→(bV val cut n k i).Pairwise fun x y=>x.t≤y.f:=by
 intro d
 induction d using Nat.strongRecOn with
 | ind d ih =>
  intro i hd
  rcases Nat.lt_or_ge i n with h | h
  ·obtain ⟨g1,g2,g3,g4⟩:=rV (val:=val) (cut:=cut) h
   rw [eV h]
   refine List.pairwise_append.2 ⟨?_,ih (n - cT (alike val cut i) n (i+1)) (by omega) rfl,fun x hx y hy=>?_⟩
   ·unfold iR
    split
    ·exact List.Pairwise.nil
    ·exact List.pairwise_singleton ..
   ·obtain ⟨a,b,e1,e2,e3,_⟩:=jW (n - cT (alike val cut i) n (i+1)) rfl y hy
    unfold iR at hx
    split at hx
    ·cases hx
    ·simp only [List.mem_singleton] at hx
     rw [hx,e1]
     show ((cT (alike val cut i) n (i+1):Nat):Int)≤a;omega
  ·rw [fj h];exact List.Pairwise.nil
def cnt (p:Nat→Bool):Nat→Nat
 | 0=>0
 | n+1=>cnt p n+bif p n then 1 else 0
theorem g9 {p q:Nat→Bool} : ∀ {n:Nat},(∀i,i<n→p i=q i)→cnt p n=cnt q n
 | 0,_=>rfl
 | n+1,h=>by simp only [cnt];rw [g9 (n:=n) (fun i hi=>h i (by omega)),h n (by omega)]
theorem AO {p:Nat→Bool} {a:Nat} : ∀ {b:Nat},a≤b→(∀i,a≤i→i<b→p i=false)→cnt p b=cnt p a
 | 0,h,_=>by
  obtain rfl:a=0:=(by omega);rfl
 | b+1,h,k=>by
  rcases Nat.lt_or_ge a (b+1) with g | g
  ·simp only [cnt]
   rw [AO (a:=a) (b:=b) (by omega) (fun i h1 h2=>k i h1 (by omega)),k b (by omega) (by omega)];rfl
  ·obtain rfl:a=b+1:=by omega
   rfl
def fJ (val:Nat→Int) (cut:Nat→Bool) (i:Nat):Bool:=decide (val i ≠ 0) && (i == 0 || cut i || decide (val (i - 1) ≠ val i))
theorem kE {val:Nat→Int} {cut:Nat→Bool} {n i:Nat} (h:i<n):fJ val cut i=true↔val i ≠ 0∧AT val cut n i:=by
 unfold fJ AT
 simp only [Bool.and_eq_true,Bool.or_eq_true,decide_eq_true_eq,beq_iff_eq]
 constructor
 ·rintro ⟨h1,(h2 | h2) | h2⟩
  ·exact ⟨h1,.inl h2⟩
  ·exact ⟨h1,.inr (.inr (.inl h2))⟩
  ·exact ⟨h1,.inr (.inr (.inr h2))⟩
 ·rintro ⟨h1,h2 | h2 | h2 | h2⟩
  ·exact ⟨h1,.inl (.inl h2)⟩
  ·omega
  ·exact ⟨h1,.inl (.inr h2)⟩
  ·exact ⟨h1,.inr h2⟩
theorem mZ {val:Nat→Int} {cut:Nat→Bool} {n:Nat} {k:Int} : ∀(d:Nat) {i:Nat},d=n - i→i≤n→AT val cut n i→(bV val cut n k i).length+cnt (fJ val cut) i=cnt (fJ val cut) n:=by
 intro d
 induction d using Nat.strongRecOn with
 | ind d ih =>
  intro i hd iX hi
  rcases Nat.lt_or_ge i n with h | h
  ·obtain ⟨g1,g2,g3,g4⟩:=rV (val:=val) (cut:=cut) h
   rw [eV h,List.length_append]
   have h1:=ih (n - cT (alike val cut i) n (i+1)) (by omega) rfl g4 g2
   have h2:cnt (fJ val cut) (cT (alike val cut i) n (i+1))=cnt (fJ val cut) (i+1):=by
    refine AO (by omega) fun j e1 e2=>?_
    rw [← Bool.not_eq_true]
    intro e
    exact (g1 j (by omega) e2).1 ((kE (n:=n) (by omega)).1 e).2
   have h3:cnt (fJ val cut) (i+1)=cnt (fJ val cut) i+(iR val k i (cT (alike val cut i) n (i+1))).length:=by
    simp only [cnt]
    congr 1
    unfold iR
    by_cases hv:val i=0
    ·have:fJ val cut i=false:=by
      rw [← Bool.not_eq_true]
      exact fun e=>((kE (n:=n) h).1 e).1 hv
     rw [this,if_pos hv];rfl
    ·rw [(kE (n:=n) h).2 ⟨hv,hi⟩,if_neg hv];rfl
   omega
  ·obtain rfl:i=n:=by omega
   rw [fj h];simp
def IX (L:List aj) (k:Nat) (i:Nat):Bool:=decide ((if i=0 then 0 else val L k (i - 1)) ≠ val L k i)
def vi (L:List aj) (k:Nat) (i:Nat):Prop:=∃j,1≤j∧j≤k∧IX L j i=true
theorem IC (k:Int):aH.get k=0:=by unfold aj.get aH jC;simp
theorem wS {L:List aj} {k:Int} {i:Nat} (h:L.length≤i):val L k i=0:=by
 unfold val;rw [List.getElem?_eq_none h];exact IC k
theorem mN {L:List aj} {k m i:Nat} (h:vi L k i) (hk:k≤m):vi L m i:=by
 obtain ⟨j,h1,h2,h3⟩:=h;exact ⟨j,h1,by omega,h3⟩
theorem gJ {L:List aj} {k:Nat} {cut:Nat→Bool} (hc : ∀i,cut i=true↔vi L k i) {i:Nat} (hn:i≤L.length) (hv:(i<L.length∧val L (k+1:Nat) i ≠ 0)∨(0<i∧val L (k+1:Nat) (i - 1) ≠ 0)) :
  AT (val L (k+1:Nat)) cut L.length i↔vi L (k+1) i:=by
 have here:IX L (k+1) i=true→vi L (k+1) i:=fun h=>⟨k+1,by omega,by omega,h⟩
 constructor
 ·rintro (h | h | h | h)
  ·subst h
   apply here
   unfold IX
   rw [if_pos rfl,decide_eq_true_iff]
   rcases hv with ⟨_,h⟩ | ⟨h,_⟩
   ·exact fun e=>h e.symm
   ·omega
  ·apply here
   unfold IX
   rw [decide_eq_true_iff]
   rcases hv with ⟨h1,_⟩ | ⟨h1,h2⟩
   ·omega
   ·rw [if_neg (by omega),wS (i:=i) h];exact h2
  ·exact mN ((hc i).1 h) (by omega)
  ·by_cases h0:i=0
   ·subst h0;exact absurd rfl h
   ·apply here
    unfold IX
    rw [decide_eq_true_iff,if_neg h0];exact h
 ·rintro ⟨j,h1,h2,h3⟩
  rcases Nat.lt_or_ge j (k+1) with h | h
  ·exact .inr (.inr (.inl ((hc i).2 ⟨j,h1,by omega,h3⟩)))
  ·obtain rfl:j=k+1:=by omega
   by_cases h0:i=0
   ·exact .inl h0
   ·unfold IX at h3
    rw [decide_eq_true_iff,if_neg h0] at h3
    exact .inr (.inr (.inr h3))
theorem pz (L:List aj) : ∀k i,(aA L k).2 i=true↔vi L k i
 | 0,i=>by
  simp only [aA]
  constructor
  ·intro h;cases h
  ·rintro ⟨j,h1,h2,_⟩;omega
 | k+1,i=>by
  have ih:=pz L k
  have CC:AT (val L (k+1:Nat)) (aA L k).2 L.length 0:=.inl rfl
  show kL (aA L k).2 (bV (val L (k+1:Nat)) (aA L k).2 L.length (k+1:Nat) 0) i=true↔_
  unfold kL
  rw [Bool.or_eq_true,List.any_eq_true]
  constructor
  ·rintro (h | ⟨x,hx,h⟩)
   ·exact mN ((ih i).1 h) (by omega)
   ·obtain ⟨a,b,rfl,_,e2,e3,e4,e5,e6,e7⟩:=iQ (L.length - 0) rfl CC x hx
    simp only [Bool.or_eq_true,beq_iff_eq] at h
    rcases h with h | h
    ·obtain rfl:a=i:=by omega
     exact (gJ ih (by omega) (.inl ⟨by omega,e4⟩)).1 e5
    ·obtain rfl:b=i:=by omega
     refine (gJ ih e3 (.inr ⟨by omega,?_⟩)).1 e6
     rcases Nat.lt_or_ge a (b - 1) with g | g
     ·rw [(e7 (b - 1) g (by omega)).2];exact e4
     ·rw [show b - 1=a by omega];exact e4
  ·rintro ⟨j,h1,h2,h3⟩
   rcases Nat.lt_or_ge j (k+1) with h | h
   ·exact .inl ((ih i).2 ⟨j,h1,by omega,h3⟩)
   ·obtain rfl:j=k+1:=by omega
    right
    have Xn:=h3
    unfold IX at h3
    rw [decide_eq_true_iff] at h3
    by_cases hv:val L (k+1:Nat) i=0
    ·
     have h0:i ≠ 0:=fun e=>by subst e;rw [if_pos rfl,hv] at h3;exact h3 rfl
     rw [if_neg h0,hv] at h3
     have hl:i - 1<L.length:=by
      rcases Nat.lt_or_ge (i - 1) L.length with g | g
      ·exact g
      ·exact absurd (wS g) h3
     obtain ⟨x,hx,g1,g2⟩:=ji (val:=val L (k+1:Nat)) (cut:=(aA L k).2) (k:=(k+1:Nat)) (L.length - 0) rfl (i - 1) (Nat.zero_le _) hl h3
     refine ⟨x,hx,?_⟩
     obtain ⟨a,b,rfl,_,e2,e3,e4,e5,e6,e7⟩:=iQ (L.length - 0) rfl CC x hx
     simp only at g1 g2
     rcases Nat.lt_or_ge i b with g | g
     ·exact absurd ((gJ ih (by omega) (.inr ⟨by omega,h3⟩)).2 ⟨k+1,by omega,by omega,Xn⟩) (e7 i (by omega) g).1
     ·obtain rfl:b=i:=by omega
      simp
    ·have hl:i<L.length:=by
      rcases Nat.lt_or_ge i L.length with g | g
      ·exact g
      ·exact absurd (wS g) hv
     obtain ⟨x,hx,g1,g2⟩:=ji (val:=val L (k+1:Nat)) (cut:=(aA L k).2) (k:=(k+1:Nat)) (L.length - 0) rfl i (Nat.zero_le _) hl hv
     refine ⟨x,hx,?_⟩
     obtain ⟨a,b,rfl,_,e2,e3,e4,e5,e6,e7⟩:=iQ (L.length - 0) rfl CC x hx
     simp only at g1 g2
     rcases Nat.lt_or_ge a i with g | g
     ·exact absurd ((gJ ih (by omega) (.inl ⟨hl,hv⟩)).2 ⟨k+1,by omega,by omega,Xn⟩) (e7 i g (by omega)).1
     ·obtain rfl:a=i:=by omega
      simp
structure oa (L:List aj) (x:ay) (k a b:Nat):Prop where
 eq:x=⟨a,b,k,if (k:Int)=5 then val L k a - 1 else 0⟩
 k1:1≤k
 k5:k≤5
 lt:a<b
 le:b≤L.length
 some:val L k a ≠ 0
 from_:vi L k a
 to_:vi L k b
 within : ∀j,a<j→j<b→¬ vi L k j∧val L k j=val L k a
theorem p5 (L:List aj) : ∀ {k:Nat},k≤5→∀x ∈ (aA L k).1,∃j a b,j≤k∧oa L x j a b
 | 0,_,x,hx=>by simp [aA] at hx
 | k+1,h5,x,hx=>by
  simp only [aA] at hx
  rcases List.mem_append.1 hx with hx | hx
  ·obtain ⟨j,a,b,h1,h2⟩:=p5 L (by omega) x hx
   exact ⟨j,a,b,by omega,h2⟩
  ·obtain ⟨a,b,e0,_,e2,e3,e4,e5,e6,e7⟩:=iQ (L.length - 0) rfl (.inl rfl) x hx
   have ih:=pz L k
   have vb : ∀j,a≤j→j<b→val L (k+1:Nat) j ≠ 0:=fun j g1 g2=>by
    rcases Nat.lt_or_ge a j with g | g
    ·rw [(e7 j g g2).2];exact e4
    ·rw [show j=a by omega];exact e4
   refine ⟨k+1,a,b,Nat.le_refl _,e0,by omega,h5,e2,e3,e4,?_,?_,fun j g1 g2=>⟨?_,(e7 j g1 g2).2⟩⟩
   ·exact (gJ ih (by omega) (.inl ⟨by omega,e4⟩)).1 e5
   ·exact (gJ ih e3 (.inr ⟨by omega,vb _ (by omega) (by omega)⟩)).1 e6
   ·exact fun e=>(e7 j g1 g2).1 ((gJ ih (by omega) (.inl ⟨by omega,vb j (by omega) g2⟩)).2 e)
theorem fe {L:List aj} {x:ay} (hx:x ∈ bN L) : ∃k a b,oa L x k a b:=by
 obtain ⟨k,a,b,_,h⟩:=p5 L (Nat.le_refl 5) x hx
 exact ⟨k,a,b,h⟩
theorem qO (L:List aj) : ∀ {k:Nat},∀ {j:Nat},1≤j→j≤k→∀ {i:Nat},i<L.length→val L j i ≠ 0→∃x ∈ (aA L k).1,x.k=(j:Int)∧x.f≤(i:Int)∧(i:Int)<x.t
 | 0,j,h1,h2,_,_,_=>by omega
 | k+1,j,h1,h2,i,hi,hv=>by
  simp only [aA]
  rcases Nat.lt_or_ge j (k+1) with h | h
  ·obtain ⟨x,hx,hy⟩:=qO L (k:=k) h1 (by omega) hi hv
   exact ⟨x,List.mem_append_left _ hx,hy⟩
  ·obtain rfl:j=k+1:=by omega
   obtain ⟨x,hx,hy⟩:=ji (val:=val L (k+1:Nat)) (cut:=(aA L k).2) (k:=(k+1:Nat)) (L.length - 0) rfl i (Nat.zero_le _) hi hv
   refine ⟨x,List.mem_append_right _ hx,?_,hy⟩
   obtain ⟨a,b,_,_,_,_,_,e⟩:=jW (L.length - 0) rfl x hx
   exact e
theorem tC (L:List aj) : ∀ {k:Nat},k≤5→(aA L k).1.Pairwise fun x y=>x.k=y.k→x.t≤y.f
 | 0,_=>List.Pairwise.nil
 | k+1,h5=>by
  simp only [aA]
  refine List.pairwise_append.2 ⟨tC L (by omega),List.Pairwise.imp (fun {a b} h (_:a.k=b.k)=>h) (wY (L.length - 0) rfl),fun x hx y hy e=>?_⟩
  obtain ⟨j,a,b,h1,h2⟩:=p5 L (by omega) x hx
  obtain ⟨_,_,_,_,_,_,_,e2⟩:=jW (L.length - 0) rfl y hy
  have e3:x.k=(j:Int):=by rw [h2.eq]
  omega
theorem sL (L:List aj):(bN L).Pairwise fun x y=>x.k=y.k→x.t≤y.f:=tC L (Nat.le_refl 5)
theorem zf {L:List aj} {k i:Nat} (h1:1≤k) (h5:k≤5) (hi:i<L.length) (hv:val L k i ≠ 0) : ∃x ∈ bN L,x.k=(k:Int)∧x.f≤(i:Int)∧(i:Int)<x.t :=
 qO L h1 h5 hi hv
theorem oa.nest {L:List aj} {x y:ay} {k a b l c d:Nat} (h:oa L x k a b) (g:oa L y l c d) (hk:k≤l):b≤c∨d≤a∨(a≤c∧d≤b):=by
 rcases Nat.lt_or_ge c b with h1 | h1
 ·rcases Nat.lt_or_ge a d with h2 | h2
  ·right;right
   constructor
   ·rcases Nat.lt_or_ge c a with h3 | h3
    ·exact absurd (mN h.from_ hk) (g.within a h3 h2).1
    ·exact h3
   ·rcases Nat.lt_or_ge b d with h3 | h3
    ·exact absurd (mN h.to_ hk) (g.within b h1 h3).1
    ·exact h3
  ·exact .inr (.inl h2)
 ·exact .inl h1
theorem oa.LV {L:List aj} {x:ay} {k a b:Nat} (h:oa L x k a b) {i:Nat} (h1:x.f≤(i:Int)) (h2:(i:Int)<x.t):x.k=(k:Int)∧val L k i ≠ 0∧i<L.length∧x.v=if (k:Int)=5 then val L k i - 1 else 0:=by
 have hle:=h.le
 have hw:=h.within
 have hs:=h.some
 rw [h.eq] at h1 h2 ⊢
 simp only at h1 h2 ⊢
 have e:val L k i=val L k a:=by
  rcases Nat.lt_or_ge a i with g | g
  ·exact (hw i g (by omega)).2
  ·rw [show i=a by omega]
 exact ⟨trivial,by rw [e];exact hs,by omega,by rw [e]⟩
/-! How many spans a sign more makes -/
def oL (a:aj) (k:Nat):Nat:=if a.get k=0 then 0 else 1
def HD (a:aj):Nat→Nat
 | 0=>0
 | k+1=>HD a k+oL a (k+1)
def dL (L:List aj):aj:=L.getLast?.getD aH
theorem tD (L:List aj) (a:aj) : ∀k,(aA (L ++ [a]) k).1.length≤(aA L k).1.length+HD a k∧(dL L=a→(aA (L ++ [a]) k).1.length≤(aA L k).1.length)
 | 0=>⟨Nat.zero_le _,fun _=>Nat.zero_le _⟩
 | k+1=>by
  obtain ⟨ih1,Yq⟩:=tD L a k
  have Wu : ∀i,i<L.length→val (L ++ [a]) (k+1:Nat) i=val L (k+1:Nat) i:=fun i hi=>by unfold val;rw [List.getElem?_append_left hi]
  have Sl : ∀ {j:Nat},val (L ++ [a]) j L.length=a.get j:=fun {j}=>by unfold val;rw [List.getElem?_append_right (Nat.le_refl _),Nat.sub_self];rfl
  have Zu : ∀i,i<L.length→(aA (L ++ [a]) k).2 i=(aA L k).2 i:=fun i hi=>by
   rw [Bool.eq_iff_iff,pz,pz]
   have e : ∀j,IX (L ++ [a]) j i=IX L j i:=fun j=>by
    unfold IX val
    rw [List.getElem?_append_left hi,List.getElem?_append_left (by omega)]
   unfold vi
   simp only [e]
  have c1:=mZ (val:=val (L ++ [a]) (k+1:Nat)) (cut:=(aA (L ++ [a]) k).2) (n:=(L ++ [a]).length) (k:=(k+1:Nat)) ((L ++ [a]).length - 0) (i:=0) rfl (Nat.zero_le _) (.inl rfl)
  have c2:=mZ (val:=val L (k+1:Nat)) (cut:=(aA L k).2) (n:=L.length) (k:=(k+1:Nat)) (L.length - 0) (i:=0) rfl (Nat.zero_le _) (.inl rfl)
  have c3:cnt (fJ (val (L ++ [a]) (k+1:Nat)) (aA (L ++ [a]) k).2) L.length=cnt (fJ (val L (k+1:Nat)) (aA L k).2) L.length :=
   g9 fun i hi=>by unfold fJ;rw [Wu i hi,Zu i hi,Wu (i - 1) (by omega)]
  have hl:(L ++ [a]).length=L.length+1:=by simp
  obtain ⟨N,hN⟩ : ∃N,N=(bV (val (L ++ [a]) (k+1:Nat)) (aA (L ++ [a]) k).2 (L ++ [a]).length (k+1:Nat) 0).length:=⟨_,rfl⟩
  obtain ⟨M,hM⟩ : ∃M,M=(bV (val L (k+1:Nat)) (aA L k).2 L.length (k+1:Nat) 0).length:=⟨_,rfl⟩
  have e1:(aA (L ++ [a]) (k+1)).1.length=(aA (L ++ [a]) k).1.length+N:=by rw [hN];simp only [aA,List.length_append]
  have e2:(aA L (k+1)).1.length=(aA L k).1.length+M:=by rw [hM];simp only [aA,List.length_append]
  rw [← hN,hl] at c1
  rw [← hM] at c2
  simp only [cnt,Nat.add_zero] at c1 c2
  rw [c3] at c1
  obtain ⟨B,hB⟩ : ∃B,B=fJ (val (L ++ [a]) (k+1:Nat)) (aA (L ++ [a]) k).2 L.length:=⟨_,rfl⟩
  rw [← hB] at c1
  rw [e1,e2]
  constructor
  ·show _≤_+(HD a k+oL a (k+1))
   have:(bif B then 1 else 0)≤oL a (k+1):=by
    unfold oL
    by_cases h0:a.get (k+1:Nat)=0
    ·have:B=false:=by
      rw [hB];unfold fJ;rw [Sl];simp only [h0,ne_eq,not_true,decide_false,Bool.false_and]
     rw [this];exact Nat.zero_le _
    ·rw [if_neg h0];cases B <;> decide
   omega
  ·intro QH
   have:=Yq QH
   have ZX:B=false:=by
    rw [hB,← Bool.not_eq_true,kE (n:=(L ++ [a]).length) (by omega)]
    rintro ⟨h1,h2⟩
    obtain ⟨j,j1,j2,j3⟩:=(gJ (pz (L ++ [a]) k) (by omega) (.inl ⟨by omega,h1⟩)).1 h2
    unfold IX at j3
    rw [decide_eq_true_iff,Sl] at j3
    apply j3
    rw [← QH]
    unfold dL
    rw [List.getLast?_eq_getElem?]
    by_cases h0:L.length=0
    ·rw [if_pos h0,List.getElem?_eq_none (by omega)];exact (IC _).symm
    ·rw [if_neg h0]
     unfold val
     rw [List.getElem?_append_left (by omega)]
   rw [ZX] at c1
   simp only [cond_false] at c1
   omega
theorem Br (L:List aj) (a:aj):(bN (L ++ [a])).length≤(bN L).length+HD a 5∧(dL L=a→(bN (L ++ [a])).length≤(bN L).length):=tD L a 5
end Go.Am

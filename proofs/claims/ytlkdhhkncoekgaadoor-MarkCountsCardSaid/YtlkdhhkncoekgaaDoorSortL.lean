/- Rows of spans put in order: the order, rearrangements, what a merge of two ordered halves needs. -/
import Derived.Test.YtlkdhhkncoekgaaDoorUtf
namespace Go.Am
variable {α:Type}
def uM (x y:ay):Bool:=decide (x.f<y.f) || (x.f == y.f && (decide (y.t<x.t) || (x.t == y.t && decide (x.k<y.k))))
theorem oR {x y:ay}:uM x y=true↔x.f<y.f∨(x.f=y.f∧(y.t<x.t∨(x.t=y.t∧x.k<y.k))):=by
 unfold uM;simp only [Bool.or_eq_true,Bool.and_eq_true,decide_eq_true_eq,beq_iff_eq]
theorem Cc {x y:ay}:uM x y=false↔¬ (x.f<y.f∨(x.f=y.f∧(y.t<x.t∨(x.t=y.t∧x.k<y.k)))):=by
 rw [← oR,Bool.not_eq_true]
theorem Dv (x:ay):uM x x=false:=by rw [Cc];omega
theorem xU {x y:ay} (h:uM x y=true):uM y x=false:=by rw [oR] at h;rw [Cc];omega
theorem vM {x y z:ay} (h1:uM x y=false) (h2:uM y z=false):uM x z=false:=by rw [Cc] at *;omega
structure Ordr where
 sp:Nat→ay
 z9:ay→ay→Bool
 SZ : ∀ {x y:ay},z9 x y=true→z9 y x=false
 nt : ∀ {x y z:ay},z9 x y=false→z9 y z=false→z9 x z=false
def Ordr.lt (L:Ordr) (i j:Nat):Bool:=L.z9 (L.sp i) (L.sp j) || (!L.z9 (L.sp j) (L.sp i) && decide (i<j))
section
variable {L:Ordr}
theorem Ordr.z8 {i j:Nat}:L.lt i j=false↔L.z9 (L.sp i) (L.sp j)=false∧(L.z9 (L.sp j) (L.sp i)=true∨¬ i<j):=by
 unfold Ordr.lt
 rw [Bool.or_eq_false_iff,Bool.and_eq_false_iff,decide_eq_false_iff_not,Bool.not_eq_false']
theorem Ordr.Nv {i j:Nat}:L.lt i j=true↔L.z9 (L.sp i) (L.sp j)=true∨(L.z9 (L.sp j) (L.sp i)=false∧i<j):=by
 unfold Ordr.lt
 rw [Bool.or_eq_true,Bool.and_eq_true,decide_eq_true_eq,Bool.not_eq_true']
theorem Ordr.Nw (i:Nat):L.lt i i=false:=by
 rw [Ordr.z8]
 refine ⟨?_,.inr (Nat.lt_irrefl i)⟩
 cases h:L.z9 (L.sp i) (L.sp i) with
 | false=>rfl
 | true=>rw [L.SZ h] at h;cases h
theorem Ordr.Du {i j:Nat} (h:L.lt i j=true):L.lt j i=false:=by
 rw [Ordr.Nv] at h
 rw [Ordr.z8]
 rcases h with h | ⟨h,h'⟩
 ·exact ⟨L.SZ h,.inl h⟩
 ·exact ⟨h,.inr (by omega)⟩
theorem Ordr.lt_trans {i j k:Nat} (h1:L.lt i j=false) (h2:L.lt j k=false):L.lt i k=false:=by
 rw [Ordr.z8] at *
 obtain ⟨a1,a2⟩:=h1
 obtain ⟨b1,b2⟩:=h2
 refine ⟨L.nt a1 b1,?_⟩
 cases h:L.z9 (L.sp k) (L.sp i) with
 | true=>exact .inl rfl
 | false =>
  rcases a2 with a2 | a2
  ·rw [L.nt b1 h] at a2;cases a2
  ·rcases b2 with b2 | b2
   ·rw [L.nt h a1] at b2;cases b2
   ·exact .inr (by omega)
theorem Ordr.mC {i j:Nat} (h:j<i):L.lt i j=L.z9 (L.sp i) (L.sp j):=by
 unfold Ordr.lt
 rw [decide_eq_false (by omega),Bool.and_false,Bool.or_false]
def jv (L:Ordr) (f:Nat→Nat) (a b:Nat):Prop:=∀i j,a≤i→i<j→j<b→L.lt (f j) (f i)=false
theorem jv.le {f:Nat→Nat} {a b:Nat} (h:jv L f a b) {i j:Nat} (h1:a≤i) (h2:i≤j) (h3:j<b):L.lt (f j) (f i)=false:=by
 rcases Nat.lt_or_ge i j with g | g
 ·exact h i j h1 g h3
 ·obtain rfl:i=j:=by omega
  exact Ordr.Nw _
theorem jv.sub {f:Nat→Nat} {a b c d:Nat} (h:jv L f a b) (h1:a≤c) (h2:d≤b):jv L f c d:=fun i j g1 g2 g3=>h i j (by omega) g2 (by omega)
theorem jv.congr {f g:Nat→Nat} {a b:Nat} (h:jv L f a b) (e : ∀i,a≤i→i<b→g i=f i):jv L g a b:=fun i j g1 g2 g3=>by rw [e i g1 (by omega),e j (by omega) g3];exact h i j g1 g2 g3
def LQ (f:Nat→Nat) (a m b:Nat):Prop:=∀x y,a≤x→x<m→m≤y→y<b→f x<f y
end
def bE (N:Nat) (f g:Nat→α):Prop:=∃σ τ:Nat→Nat,(∀i,i<N→σ i<N∧τ (σ i)=i)∧(∀i,i<N→τ i<N∧σ (τ i)=i)∧∀i,i<N→f i=g (σ i)
theorem bE.refl (N:Nat) (f:Nat→α):bE N f f:=⟨id,id,fun _ h=>⟨h,rfl⟩,fun _ h=>⟨h,rfl⟩,fun _ _=>rfl⟩
theorem bE.trans {N:Nat} {f g h:Nat→α} (h1:bE N f g) (h2:bE N g h):bE N f h:=by
 obtain ⟨s,t,a1,a2,a3⟩:=h1
 obtain ⟨s',t',b1,b2,b3⟩:=h2
 refine ⟨fun i=>s' (s i),fun i=>t (t' i),fun i hi=>⟨(b1 _ (a1 i hi).1).1,?_⟩,fun i hi=>⟨(a2 _ (b2 i hi).1).1,?_⟩,fun i hi=>?_⟩
 ·simp only [(b1 _ (a1 i hi).1).2,(a1 i hi).2]
 ·simp only [(a2 _ (b2 i hi).1).2,(b2 i hi).2]
 ·rw [a3 i hi,b3 _ (a1 i hi).1]
def mm (f:Nat→α) (i j x:Nat):α:=if x=i then f j else if x=j then f i else f x
def sw (i j x:Nat):Nat:=if x=i then j else if x=j then i else x
theorem LX {N i j x:Nat} (hi:i<N) (hj:j<N) (hx:x<N):sw i j x<N:=by
 unfold sw;split
 ·exact hj
 ·split <;> assumption
theorem LW (i j x:Nat):sw i j (sw i j x)=x:=by
 by_cases h1:x=i
 ·subst h1
  have e:sw x j x=j:=by unfold sw;rw [if_pos rfl]
  rw [e];unfold sw
  by_cases h:j=x
  ·rw [if_pos h];exact h
  ·rw [if_neg h,if_pos rfl]
 ·by_cases h2:x=j
  ·subst h2
   have e:sw i x x=i:=by unfold sw;rw [if_neg h1,if_pos rfl]
   rw [e];unfold sw;rw [if_pos rfl]
  ·have e:sw i j x=x:=by unfold sw;rw [if_neg h1,if_neg h2]
   rw [e,e]
theorem bE.mm {N:Nat} {f:Nat→α} {i j:Nat} (hi:i<N) (hj:j<N):bE N (Go.Am.mm f i j) f:=by
 refine ⟨sw i j,sw i j,fun x hx=>⟨LX hi hj hx,LW i j x⟩,fun x hx=>⟨LX hi hj hx,LW i j x⟩,fun x _=>?_⟩
 unfold Go.Am.mm sw
 split
 ·rfl
 ·split <;> rfl
theorem bE.congr {N:Nat} {f g h:Nat→α} (h1:bE N f g) (e : ∀i,i<N→h i=f i):bE N h g:=by
 obtain ⟨s,t,a1,a2,a3⟩:=h1
 exact ⟨s,t,a1,a2,fun i hi=>by rw [e i hi];exact a3 i hi⟩
def dw (f:Nat→α) (a b m x:Nat):α:=if a≤x∧x<a+m then f (x - a+b) else if b≤x∧x<b+m then f (x - b+a) else f x
theorem sF (f:Nat→α) (a b:Nat):dw f a b 0=f:=by
 funext x;unfold dw;rw [if_neg (by omega),if_neg (by omega)]
theorem sG {f:Nat→α} {a b m:Nat} (h:a+m<b):mm (dw f a b m) (a+m) (b+m)=dw f a b (m+1):=by
 funext x
 unfold mm dw
 by_cases h1:x=a+m
 ·subst h1
  rw [if_pos rfl,if_neg (by omega),if_neg (by omega),if_pos (by omega)]
  congr 1;omega
 ·rw [if_neg h1]
  by_cases h2:x=b+m
  ·subst h2
   rw [if_pos rfl,if_neg (by omega),if_neg (by omega),if_neg (by omega),if_pos (by omega)]
   congr 1;omega
  ·rw [if_neg h2]
   by_cases h3:a≤x∧x<a+m
   ·rw [if_pos h3,if_pos (by omega)]
   ·rw [if_neg h3,if_neg (c:=a≤x∧x<a+(m+1)) (by omega)]
    by_cases h4:b≤x∧x<b+m
    ·rw [if_pos h4,if_pos (by omega)]
    ·rw [if_neg h4,if_neg (by omega)]
def cD (f:Nat→α) (a m b x:Nat):α:=if a≤x∧x<a+(b - m) then f (x+(m - a)) else if a+(b - m)≤x∧x<b then f (x - (b - m)) else f x
theorem Nk {f:Nat→α} {m i:Nat} (h:i≤m):dw f (m - i) m i=cD f (m - i) m (m+i):=by
 funext x
 unfold dw cD
 by_cases h1:m - i≤x∧x<m - i+i
 ·rw [if_pos h1,if_pos (by omega)];congr 1;omega
 ·rw [if_neg h1,if_neg (c:=m - i≤x∧x<m - i+(m+i - m)) (by omega)]
  by_cases h2:m≤x∧x<m+i
  ·rw [if_pos h2,if_pos (by omega)];congr 1;omega
  ·rw [if_neg h2,if_neg (by omega)]
theorem G9 {f:Nat→α} {m i j:Nat} (h:i≤m) (hj:j<i):cD (dw f (m - i) m j) (m - (i - j)) m (m+j)=cD f (m - i) m (m+j):=by
 funext x
 unfold cD dw
 by_cases h0:x<m - i∨m+j≤x
 ·rw [if_neg (by omega),if_neg (by omega),if_neg (by omega),if_neg (by omega),if_neg (by omega),if_neg (by omega)]
 ·by_cases h1:x<m - i+j
  ·
   rw [if_neg (c:=m - (i - j)≤x∧_) (by omega),if_neg (by omega),if_pos (by omega),if_pos (by omega)]
   congr 1;omega
  ·by_cases h2:x<m - i+j+j
   ·rw [if_pos (c:=m - (i - j)≤x∧_) (by omega)]
    rw [if_neg (c:=m - i≤x∧x<m - i+(m+j - m)) (by omega),if_pos (c:=m - i+(m+j - m)≤x∧x<m+j) (by omega)]
    rw [if_neg (by omega),if_pos (by omega)]
    congr 1;omega
   ·rw [if_neg (c:=m - (i - j)≤x∧_) (by omega),if_pos (c:=m - (i - j)+(m+j - m)≤x∧_) (by omega)]
    rw [if_neg (c:=m - i≤x∧x<m - i+(m+j - m)) (by omega),if_pos (c:=m - i+(m+j - m)≤x∧x<m+j) (by omega)]
    rw [if_neg (by omega),if_neg (by omega)]
theorem EF {f:Nat→α} {m i j:Nat} (h:i≤m) (hj:i<j):cD (dw f (m - i) (m+j - i) i) (m - i) m (m+(j - i))=cD f (m - i) m (m+j):=by
 funext x
 unfold cD dw
 by_cases h0:x<m - i∨m+j≤x
 ·rw [if_neg (by omega),if_neg (by omega),if_neg (by omega),if_neg (by omega),if_neg (by omega),if_neg (by omega)]
 ·by_cases h1:x<m - i+(j - i)
  ·rw [if_pos (c:=m - i≤x∧x<m - i+(m+(j - i) - m)) (by omega),if_neg (by omega),if_neg (by omega),if_pos (by omega)]
  ·by_cases h2:x<m+(j - i)
   ·rw [if_neg (c:=m - i≤x∧x<m - i+(m+(j - i) - m)) (by omega),if_pos (c:=m - i+(m+(j - i) - m)≤x∧x<m+(j - i)) (by omega)]
    rw [if_pos (by omega),if_pos (c:=m - i≤x∧x<m - i+(m+j - m)) (by omega)]
    congr 1;omega
   ·rw [if_neg (c:=m - i≤x∧x<m - i+(m+(j - i) - m)) (by omega),if_neg (c:=m - i+(m+(j - i) - m)≤x∧x<m+(j - i)) (by omega)]
    rw [if_neg (by omega),if_pos (by omega),if_neg (c:=m - i≤x∧x<m - i+(m+j - m)) (by omega),if_pos (by omega)]
    congr 1;omega
theorem bE.dw {N:Nat} {f:Nat→α} {a b:Nat} : ∀ {m:Nat},a+m≤b→b+m≤N→bE N (Go.Am.dw f a b m) f
 | 0,_,_=>by rw [sF];exact bE.refl N f
 | m+1,h1,h2=>by
  rw [← sG (by omega)]
  exact (bE.mm (by omega) (by omega)).trans (bE.dw (by omega) (by omega))
end Go.Am

/- The order that the sorting is handed; rows put in order one by one. -/
import Derived.Test.YtlkdhhkncoekgaaDoorSortA
namespace Go.Proofs.YtlkdhhkncoekgaaDoor
open Go.Am Go
/-! The order -/
set_option maxRecDepth 100000 in
theorem tH (a:Int):Pure Tryd.prog 114 [.int .i64 a] (.bool false):=by
 refine gR.B6 au _ _ (by kernel_rfl) rfl (by rintro v rfl;rfl) (Eq.mpr (HV (real Tryd.prog) (Iter Tryd.prog) a _ _) ?_)
 simp
def pE (a b:Int):Int:=if a<b then -1 else if a > b then 1 else 0
set_option maxRecDepth 100000 in
theorem fI (a b:Int):Pure Tryd.prog 102 [.int .i64 a,.int .i64 b] (.int .i64 (pE a b)):=by
 refine gR.B6 au _ _ (by kernel_rfl) rfl (by rintro v rfl;rfl) (Eq.mpr (CU (real Tryd.prog) (Iter Tryd.prog) a b _ _) ?_)
 simp only [aJ]
 refine (tH a).dS ⟨false,rfl,(tH b).dS ⟨false,rfl,?_⟩⟩
 simp only [cond_false]
 unfold pE
 by_cases h1:a<b
 ·rw [if_pos h1,decide_eq_true h1];rfl
 ·rw [if_neg h1,decide_eq_false h1]
  by_cases h2:a > b
  ·rw [if_pos h2,decide_eq_true h2];rfl
  ·rw [if_neg h2,decide_eq_false h2];rfl
def R7 (a b c:Int):Int:=if a=0 then if b=0 then c else b else a
set_option maxRecDepth 100000 in
theorem Lw {H:AH} {bk:Nat} {a b c:Int} {fl:Fl} (h:H.get bk=some (.cells [.int .i64 a,.int .i64 b,.int .i64 c] 3 fl)):az Tryd.prog 101 [.slice (some (bk,0)) 3 3] H fun v H'=>v=.int .i64 (R7 a b c)∧H'=H:=by
 refine .inl ⟨aB (by kernel_rfl),ck (aT:=_) (dY:=_) au (Eq.mpr (IU (real Tryd.prog) (Iter Tryd.prog) bk H _) ?_)⟩
 simp only [aY,aL]
 have r : ∀i,H.ak bk i=([.int .i64 a,.int .i64 b,.int .i64 c]:List AV)[i]?:=fun i=>by unfold AH.ak;rw [h]
 refine ⟨fun x H' j=>H=H'∧((x=0∧j=3)∨(x=1∧j=2∧a=0)∨(x=2∧j=1∧a=0∧b=0)∨(x=3∧j=0∧a=0∧b=0∧c=0)),⟨0,3,rfl,rfl,.inl ⟨rfl,rfl⟩⟩,?_⟩
 have w : ∀k:Int,0≤k→k<4→IntKind.i64.wrap (k+1)=k+1:=fun k h1 h2=>wrap_i64 (by omega) (by omega)
 rintro x _ j ⟨rfl,h⟩
 unfold R7
 rcases h with ⟨rfl,rfl⟩ | ⟨rfl,rfl,ha⟩ | ⟨rfl,rfl,ha,hb⟩ | ⟨rfl,rfl,ha,hb,hc⟩
 ·have d:decide ((0:Int)<3)=true:=by decide
  simp only [d,cond_true]
  refine ⟨bk,0,⟨rfl,by omega,by omega⟩,a,by rw [r];rfl,?_⟩
  cases hz:(a != 0) with
  | true =>
   simp only [cond_true]
   have:a ≠ 0:=by simpa using hz
   rw [if_neg this];exact ⟨by trivial,by trivial⟩
  | false =>
   simp only [cond_false]
   have ha:a=0:=by simpa using hz
   exact ⟨1,2,by omega,by rw [w 0 (by omega) (by omega)];rfl,trivial,.inr (.inl ⟨rfl,rfl,ha⟩)⟩
 ·have d:decide ((1:Int)<3)=true:=by decide
  simp only [d,cond_true]
  refine ⟨bk,0,⟨rfl,by omega,by omega⟩,b,by rw [r];rfl,?_⟩
  rw [if_pos ha]
  cases hz:(b != 0) with
  | true =>
   simp only [cond_true]
   have:b ≠ 0:=by simpa using hz
   rw [if_neg this];exact ⟨by trivial,by trivial⟩
  | false =>
   simp only [cond_false]
   have hb:b=0:=by simpa using hz
   exact ⟨2,1,by omega,by rw [w 1 (by omega) (by omega)];rfl,trivial,.inr (.inr (.inl ⟨rfl,rfl,ha,hb⟩))⟩
 ·have d:decide ((2:Int)<3)=true:=by decide
  simp only [d,cond_true]
  refine ⟨bk,0,⟨rfl,by omega,by omega⟩,c,by rw [r];rfl,?_⟩
  rw [if_pos ha,if_pos hb]
  cases hz:(c != 0) with
  | true=>simp only [cond_true];exact ⟨by trivial,by trivial⟩
  | false =>
   simp only [cond_false]
   have hc:c=0:=by simpa using hz
   exact ⟨3,0,by omega,by rw [w 2 (by omega) (by omega)];rfl,trivial,.inr (.inr (.inr ⟨rfl,rfl,ha,hb,hc⟩))⟩
 ·have d:decide ((3:Int)<3)=false:=by decide
  simp only [d,cond_false]
  rw [if_pos ha,if_pos hb,hc];exact ⟨by trivial,by trivial⟩
def LA (x y:ay):Int:=R7 (pE x.f y.f) (pE y.t x.t) (pE x.k y.k)
theorem Lz (x y:ay):decide (LA x y<0)=uM x y:=by
 rw [Bool.eq_iff_iff,decide_eq_true_iff,oR]
 have c0 : ∀a b:Int,pE a b=0↔a=b:=by
  intro a b;unfold pE;split <;> (try split) <;> omega
 have cn : ∀a b:Int,pE a b<0↔a<b:=by
  intro a b;unfold pE;split <;> (try split) <;> omega
 unfold LA R7
 by_cases h1:pE x.f y.f=0
 ·rw [if_pos h1]
  have e1:=(c0 _ _).1 h1
  by_cases h2:pE y.t x.t=0
  ·rw [if_pos h2,cn]
   have e2:=(c0 _ _).1 h2
   omega
  ·rw [if_neg h2,cn]
   have e2:y.t ≠ x.t:=fun e=>h2 ((c0 _ _).2 e)
   omega
 ·rw [if_neg h1,cn]
  have e1:x.f ≠ y.f:=fun e=>h1 ((c0 _ _).2 e)
  omega
set_option maxRecDepth 100000 in
theorem FL (x y:ay):Pure Tryd.prog 111 [.agg [.int .i64 x.f,.int .i64 x.t,.int .i64 x.k,.int .i64 x.v],.agg [.int .i64 y.f,.int .i64 y.t,.int .i64 y.k,.int .i64 y.v]] (.int .i64 (LA x y)):=by
 refine gR.B6 au _ _ (by kernel_rfl) rfl (by rintro v rfl;rfl) (Eq.mpr (Lv (real Tryd.prog) (Iter Tryd.prog) x.f x.t x.k x.v y.f y.t y.k y.v _ _) ?_)
 simp only [bL,bq,aY,aJ,AH.aC,nG]
 obtain ⟨A,hA⟩ : ∃A,A=((aR Tryd.prog).alloc (.cells [.int .i64 x.f,.int .i64 x.t,.int .i64 x.k,.int .i64 x.v] 41 { whole:=true })).alloc (.cells [.int .i64 y.f,.int .i64 y.t,.int .i64 y.k,.int .i64 y.v] 41 { whole:=true }):=⟨_,rfl⟩
 rw [← hA]
 have g0:A.get 3=some (.cells [.int .i64 x.f,.int .i64 x.t,.int .i64 x.k,.int .i64 x.v] 41 { whole:=true }):=by rw [hA];simp [AH.aa,nG]
 have g1:A.get (3+1)=some (.cells [.int .i64 y.f,.int .i64 y.t,.int .i64 y.k,.int .i64 y.v] 41 { whole:=true }):=by rw [hA];simp [AH.aa,nG]
 have r0 : ∀i,A.ak 3 i=([.int .i64 x.f,.int .i64 x.t,.int .i64 x.k,.int .i64 x.v]:List AV)[i]?:=fun i=>by unfold AH.ak;rw [g0]
 have r1 : ∀i,A.ak (3+1) i=([.int .i64 y.f,.int .i64 y.t,.int .i64 y.k,.int .i64 y.v]:List AV)[i]?:=fun i=>by unfold AH.ak;rw [g1]
 refine ⟨trivial,trivial,x.f,by rw [r0];rfl,y.f,by rw [r1];rfl,y.t,by rw [r1];rfl,x.t,by rw [r0];rfl,x.k,by rw [r0];rfl,y.k,by rw [r1];rfl,?_⟩
 refine (fI _ _).dS ⟨_,rfl,⟨_,by rw [r1];rfl,rfl⟩,⟨_,by rw [r0];rfl,rfl⟩,⟨_,by rw [r0];rfl,rfl⟩,⟨_,by rw [r1];rfl,rfl⟩,?_⟩
 refine (fI _ _).dS ⟨_,rfl,⟨_,by rw [r1];rfl,rfl⟩,⟨_,by rw [r0];rfl,rfl⟩,?_⟩
 refine (fI _ _).dS ⟨_,rfl,by decide,?_⟩
 refine (Lw (fl:={ whole:=true }) (by rw [AH.aa,if_pos rfl])).mono ?_
 rintro v H' ⟨rfl,_⟩
 exact ⟨_,rfl,rfl⟩
/-! Rearrangements of a part -/
section
variable {L:vm}
structure bT (n a b:Nat) (g f:Nat→Nat):Prop where
 perm:bE n g f
 out : ∀x,x<a∨b≤x→g x=f x
 kY : ∀x,a≤x→x<b→∃y,a≤y∧y<b∧g x=f y
theorem bT.refl (n a b:Nat) (f:Nat→Nat):bT n a b f f:=⟨bE.refl n f,fun _ _=>rfl,fun x h1 h2=>⟨x,h1,h2,rfl⟩⟩
theorem bT.trans {n a b:Nat} {g f h:Nat→Nat} (h1:bT n a b g f) (h2:bT n a b f h):bT n a b g h:=by
 refine ⟨h1.perm.trans h2.perm,fun x hx=>by rw [h1.out x hx,h2.out x hx],fun x g1 g2=>?_⟩
 obtain ⟨y,y1,y2,e1⟩:=h1.kY x g1 g2
 obtain ⟨z,z1,z2,e2⟩:=h2.kY y y1 y2
 exact ⟨z,z1,z2,by rw [e1,e2]⟩
theorem bT.sub {n a b c d:Nat} {g f:Nat→Nat} (h:bT n c d g f) (h1:a≤c) (h2:d≤b):bT n a b g f:=by
 refine ⟨h.perm,fun x hx=>h.out x (by omega),fun x g1 g2=>?_⟩
 rcases Nat.lt_or_ge x c with e | e
 ·exact ⟨x,g1,g2,h.out x (.inl e)⟩
 ·rcases Nat.lt_or_ge x d with e' | e'
  ·obtain ⟨y,y1,y2,ey⟩:=h.kY x e e'
   exact ⟨y,by omega,by omega,ey⟩
  ·exact ⟨x,g1,g2,h.out x (.inr e')⟩
theorem bT.mm {n a b i j:Nat} {f:Nat→Nat} (h1:a≤i∧i<b) (h2:a≤j∧j<b) (hb:b≤n):bT n a b (mm f i j) f:=by
 refine ⟨bE.mm (by omega) (by omega),fun x hx=>?_,fun x g1 g2=>?_⟩
 ·unfold Go.Am.mm;rw [if_neg (by omega),if_neg (by omega)]
 ·unfold Go.Am.mm
  by_cases e1:x=i
  ·exact ⟨j,h2.1,h2.2,by rw [if_pos e1]⟩
  ·by_cases e2:x=j
   ·exact ⟨i,h1.1,h1.2,by rw [if_neg e1,if_pos e2]⟩
   ·exact ⟨x,g1,g2,by rw [if_neg e1,if_neg e2]⟩
theorem An {g:Nat→Nat} {a i j:Nat} (h : ∀p q,a≤p→p<q→q≤i→q ≠ j→L.lt (g q) (g p)=false) (hj:a<j) (yT:j≤i) (hl:L.lt (g j) (g (j - 1))=true) :
  ∀p q,a≤p→p<q→q≤i→q ≠ j - 1→L.lt (mm g j (j - 1) q) (mm g j (j - 1) p)=false:=by
 intro p q h1 h2 h3 h4
 unfold mm
 by_cases q1:q=j
 ·rw [if_pos q1]
  by_cases p2:p=j - 1
  ·rw [if_neg (by omega),if_pos p2];exact Ordr.Du hl
  ·rw [if_neg (by omega),if_neg p2];exact h p (j - 1) h1 (by omega) (by omega) (by omega)
 ·rw [if_neg q1,if_neg h4]
  by_cases p1:p=j
  ·rw [if_pos p1];exact h (j - 1) q (by omega) (by omega) h3 q1
  ·rw [if_neg p1]
   by_cases p2:p=j - 1
   ·rw [if_pos p2];exact h j q (by omega) (by omega) h3 q1
   ·rw [if_neg p2];exact h p q h1 h2 h3 q1
theorem Ao {g:Nat→Nat} {a i j:Nat} (h : ∀p q,a≤p→p<q→q≤i→q ≠ j→L.lt (g q) (g p)=false) (yT:j≤i) (hd:j≤a∨L.lt (g j) (g (j - 1))=false):jv L.toOrdr g a (i+1):=by
 intro p q h1 h2 h3
 by_cases e:q=j
 ·subst e
  rcases hd with hd | hd
  ·omega
  ·by_cases e2:p=q - 1
   ·rw [e2];exact hd
   ·exact Ordr.lt_trans hd (h p (q - 1) h1 (by omega) (by omega) (by omega))
 ·exact h p q h1 h2 (by omega) e
theorem IY {g:Nat→Nat} {a i j:Nat} (h : ∀x,a≤x→x≤i→x ≠ j→g x<g j) (hj:a<j) (yT:j≤i) : ∀x,a≤x→x≤i→x ≠ j - 1→mm g j (j - 1) x<mm g j (j - 1) (j - 1):=by
 intro x h1 h2 h3
 have e:mm g j (j - 1) (j - 1)=g j:=by unfold mm;rw [if_neg (by omega),if_pos rfl]
 rw [e]
 unfold mm
 by_cases c:x=j
 ·rw [if_pos c];exact h (j - 1) (by omega) (by omega) (by omega)
 ·rw [if_neg c,if_neg h3];exact h x h1 h2 c
theorem EG {g:Nat→Nat} {a b i j:Nat} (h : ∀x y,a≤x→x<y→i+1≤y→y<b→g x<g y) (hj:a<j) (yT:j≤i) : ∀x y,a≤x→x<y→i+1≤y→y<b→mm g j (j - 1) x<mm g j (j - 1) y:=by
 intro x y h1 h2 h3 h4
 have e:mm g j (j - 1) y=g y:=by unfold mm;rw [if_neg (by omega),if_neg (by omega)]
 rw [e]
 unfold mm
 by_cases c:x=j
 ·rw [if_pos c];exact h (j - 1) y (by omega) (by omega) h3 h4
 ·rw [if_neg c]
  by_cases c2:x=j - 1
  ·rw [if_pos c2];exact h j y (by omega) (by omega) h3 h4
  ·rw [if_neg c2];exact h x y h1 h2 h3 h4
set_option maxRecDepth 100000 in
theorem Ap {H:AH} {bk n a b:Nat} {f:Nat→Nat} (h:fq L H bk f n) (hn:n≤1000000) (hb:b≤n) (ha:a≤n) (UB : ∀x y,a≤x→x<y→y<b→f x<f y) :
  az Tryd.prog 116 [D bk n,.int .i64 a,.int .i64 b,Fc L] H (fun v H'=>∃g,Left L H bk n g v H'∧jv L.toOrdr g a b∧bT n a b g f):=by
 refine .inl ⟨aB (by kernel_rfl),ck (aT:=_) (dY:=_) au (Eq.mpr (Fg (real Tryd.prog) (Iter Tryd.prog) bk n a b L.g L.hg H _) ?_)⟩
 simp only [bh,cm,aL,aJ]
 have w0:IntKind.i64.wrap ((a:Int)+1)=((a+1:Nat):Int):=by rw [wrap_i64 (by omega) (by omega)];omega
 rw [w0]
 obtain ⟨Z,hZ⟩ : ∃Z:(Nat→Nat)→AH→Prop,Z=fun g H'=>fq L H' bk g n∧H.n≤H'.n∧∀c,c<H.n→c ≠ bk→H'.get c=H.get c:=⟨_,rfl⟩
 have z0:Z f H:=by rw [hZ];exact ⟨h,Nat.le_refl _,fun c _ _=>rfl⟩
 refine ⟨fun x H' k=>∃(i:Nat) (g:Nat→Nat),x=i∧a+1≤i∧(i≤b∨i=a+1)∧Z g H'∧jv L.toOrdr g a i∧bT n a b g f∧(∀x y,a≤x→x<y→i≤y→y<b→g x<g y)∧k=b - i,⟨((a+1:Nat):Int),b - (a+1),rfl,a+1,f,rfl,Nat.le_refl _,.inr rfl,z0,fun p q h1 h2 h3=>by omega,bT.refl n a b f,fun x y h1 h2 _ h4=>UB x y h1 h2 h4,rfl⟩,?_⟩
 rintro _ H1 _ ⟨i,g,rfl,hi,QN,hz,hs,hr,iX,rfl⟩
 by_cases cv:i<b
 ·have d:decide ((i:Int)<(b:Int))=true:=by rw [decide_eq_true_iff];omega
  simp only [d,cond_true]
  refine ⟨fun x H' k=>∃(j:Nat) (g:Nat→Nat),x=((i:Int),(j:Int))∧a≤j∧j≤i∧Z g H'∧(∀p q,a≤p→p<q→q≤i→q ≠ j→L.lt (g q) (g p)=false)∧bT n a b g f∧(∀x,a≤x→x≤i→x ≠ j→g x<g j)∧(∀x y,a≤x→x<y→i+1≤y→y<b→g x<g y)∧j=k,⟨((i:Int),(i:Int)),i,rfl,i,g,rfl,by omega,Nat.le_refl _,hz,fun p q h1 h2 h3 h4=>hs p q h1 h2 (by omega),hr,fun x h1 h2 h3=>iX x i h1 (by omega) (Nat.le_refl i) cv,fun x y h1 h2 h3 h4=>iX x y h1 h2 (by omega) h4,rfl⟩,?_⟩
  rintro _ H2 _ ⟨j,g2,rfl,hja,yT,nQ,hinv,yd,Q5,DD,rfl⟩
  have wi:IntKind.i64.wrap ((i:Int)+1)=((i+1:Nat):Int):=by rw [wrap_i64 (by omega) (by omega)];omega
  have done : ∀ {H3:AH},Z g2 H3→(j≤a∨L.lt (g2 j) (g2 (j - 1))=false)→∃vL oV,oV<b - i∧[D bk n,.int .i64 (a:Int),.int .i64 (b:Int),Fc L,.int .i64 (IntKind.i64.wrap ((i:Int)+1))]=[D bk n,.int .i64 (a:Int),.int .i64 (b:Int),Fc L,.int .i64 vL] ∧
    ∃(i:Nat) (g:Nat→Nat),vL=(i:Int)∧a+1≤i∧(i≤b∨i=a+1)∧Z g H3∧jv L.toOrdr g a i∧bT n a b g f∧(∀x y,a≤x→x<y→i≤y→y<b→g x<g y)∧oV=b - i:=by
   intro H3 DC hd
   exact ⟨((i+1:Nat):Int),b - (i+1),by omega,by rw [wi],i+1,g2,rfl,by omega,.inl (by omega),DC,Ao hinv yT hd,yd,DD,rfl⟩
  by_cases hj:a<j
  ·have d2:(decide ((j:Int) > (a:Int)) == true)=true:=by rw [beq_iff_eq,decide_eq_true_iff];omega
   have wj:IntKind.i64.wrap ((j:Int) - 1)=((j - 1:Nat):Int):=by rw [wrap_i64 (by omega) (by omega)];omega
   simp only [d2,cond_true,wj]
   have HX:=nQ
   rw [hZ] at HX
   obtain ⟨y1,y2,y3⟩:=HX
   refine ⟨bk,0,⟨rfl,by omega,by omega⟩,_,_,_,_,y1.read (by omega),bk,0,⟨rfl,by omega,by omega⟩,_,_,_,_,y1.read (by omega),?_⟩
   refine (L.pure (L.sp (g2 j)) (L.sp (g2 (j - 1)))).dS ⟨_,rfl,?_⟩
   have Y9:=Q5 (j - 1) (by omega) (by omega) (by omega)
   rw [L.dec,← Ordr.mC Y9]
   cases hl:L.lt (g2 j) (g2 (j - 1)) with
   | true =>
    simp only [cond_true]
    obtain ⟨H4,u1,u2,u3,u4⟩:=y1.write (i:=j) (by omega) (g2 (j - 1))
    obtain ⟨H5,v1,v2,v3,v4⟩:=u2.write (i:=j - 1) (by omega) (g2 j)
    rw [rU] at v2
    refine ⟨bk,0,⟨rfl,by omega,by omega⟩,_,_,_,_,y1.read (by omega),bk,0,⟨rfl,by omega,by omega⟩,_,_,_,_,y1.read (by omega),bk,0,⟨rfl,by omega,by omega⟩,rfl,H4,u1,bk,0,⟨rfl,by omega,by omega⟩,rfl,H5,v1,((i:Int),((j - 1:Nat):Int)),j - 1,by omega,rfl,j - 1,mm g2 j (j - 1),rfl,by omega,by omega,?_,An hinv hj yT hl,(bT.mm (by omega) (by omega) hb).trans yd,IY Q5 hj yT,EG DD hj yT,rfl⟩
    rw [hZ]
    exact ⟨v2,by omega,fun c hc tT=>by rw [v4 c tT,u4 c tT];exact y3 c hc tT⟩
   | false =>
    simp only [cond_false]
    exact done nQ (.inr hl)
  ·have d2:(decide ((j:Int) > (a:Int)) == true)=false:=by rw [beq_eq_false_iff_ne];simp only [ne_eq,decide_eq_true_eq];omega
   simp only [d2,cond_false]
   exact done nQ (.inl (by omega))
 ·have d:decide ((i:Int)<(b:Int))=false:=by rw [decide_eq_false_iff_not];omega
  simp only [d,cond_false]
  rw [hZ] at hz
  exact ⟨g,⟨rfl,hz.1,hz.2.1,hz.2.2⟩,hs.sub (Nat.le_refl a) (by omega),hr⟩
end
end Go.Proofs.YtlkdhhkncoekgaaDoor

/- What a dialect says of a sign; the lines of pieces; the look that the pieces of a line share. -/
import Derived.Test.YtlkdhhkncoekgaaDoorKeepD
import Derived.Test.YtlkdhhkncoekgaaDoorKeepL
namespace Go.Proofs.YtlkdhhkncoekgaaDoor
open Go.Am Go
theorem Es (d r:Int):Pure Tryd.prog 38 [.int .i64 d,.int .i32 r] (.tuple [.str ((jF d r).getD []),.bool (jF d r).isNone]):=by
 refine Pure.fU au [] (by kernel_rfl) rfl (by cases h:jF d r <;> rfl) ?_
 rw [JX]
 simp only [aL]
 have wr : ∀ {x:Int},x=60∨x=62∨x=123∨x=124∨x=125∨x=92→IntKind.i32.wrap (IntKind.i32.wrap (x - 32)+65280)=x+65248:=by
  rintro x (rfl | rfl | rfl | rfl | rfl | rfl) <;> decide
 unfold jF
 cases h1:(decide (r<32) && r != 10) with
 | true=>rfl
 | false =>
  simp only [cond_false]
  cases h2:d == 1 with
  | true =>
   simp only [cond_true]
   cases h:(r == 60 || r == 62) with
   | true=>simp only [Bool.or_eq_true,beq_iff_eq] at h;rw [wr (by omega)];rfl
   | false=>rfl
  | false =>
   simp only [cond_false]
   cases h3:d == 3 with
   | true =>
    simp only [cond_true]
    cases h:(r == 123 || r == 124 || r == 125) with
    | true=>simp only [Bool.or_eq_true,beq_iff_eq] at h;rw [wr (by omega)];rfl
    | false=>rfl
   | false =>
    simp only [cond_false]
    cases h4:d == 4 with
    | true =>
     simp only [cond_true]
     cases h:(r == 123 || r == 92 || r == 125) with
     | true=>simp only [Bool.or_eq_true,beq_iff_eq] at h;rw [wr (by omega)];rfl
     | false=>rfl
    | false=>rfl
def F4 (H:AH) (q:Option Nat) (k:Nat) (l0:cN):Prop :=
 match q with
 | none=>l0=[]∧k=0
 | some b=>H.get b=some (.cells (flat br l0) 79 { fT:=true })∧k≤l0.length∧b<H.n
theorem F4.gM {H H' : AH} {q:Option Nat} {k:Nat} {l0:cN} (h:F4 H q k l0) (hn:H.n≤H'.n) (g : ∀c,c<H.n→H'.get c=H.get c):F4 H' q k l0:=by
 cases q with
 | none=>exact h
 | some b=>exact ⟨by rw [g b h.2.2];exact h.1,h.2.1,by have:=h.2.2;omega⟩
theorem F4.le {H:AH} {q:Option Nat} {k:Nat} {l0:cN} (h:F4 H q k l0):k≤l0.length:=by
 cases q with
 | none=>rw [h.2];exact Nat.zero_le _
 | some b=>exact h.2.1
theorem F4.piece {H:AH} {q:Option Nat} {k:Nat} {l0:cN} (h:F4 H q k l0) {i:Nat} (hi:i<l0.length) : ∃b,q=some b∧H.read b (0+i*6) 6=some (br l0[i]):=by
 cases q with
 | none=>rw [h.1] at hi;cases hi
 | some b=>exact ⟨b,rfl,dr cF h.1 hi⟩
abbrev L3:=Option (Nat×Nat)×Nat×Nat
def ez (x:L3):List AV:=[.slice x.1 x.2.1 x.2.2]
theorem uX (x:L3):(ez x).length=1:=rfl
theorem Bx (x:L3):(ez x).all AV.one=true:=rfl
theorem wK {H:AH} {q:Option Nat} {l:List L3} {y:L3} {c:Nat} {fl:Fl} (hl:bI H q l.length (flat ez l) 56) (hc:H.get c=some (.cells (ez y) 56 fl)) (hm:l.length≤1000000) :
  ∃H',bZ Tryd.prog H 82 82 (sl q l.length) (.slice (some (c,0)) 1 1)=some (sl (some H.n) (l ++ [y]).length,H')∧H'.n=H.n+1∧bI H' (some H.n) (l ++ [y]).length (flat ez (l ++ [y])) 56∧∀c,c<H.n→q ≠ some c→H'.get c=H.get c :=
 eZ (mT:=24) (s:=1) (z:=.slice none 0 0) (by kernel_rfl) (by kernel_rfl) (by kernel_rfl) (by kernel_rfl) rfl (by decide) (fun _=>rfl) Bx hl hc (by omega)
def GP (q:Option Nat) (p:Nat×Nat) (c:Nat):L3:=(q.map fun b=>(b,p.1*6),p.2 - p.1,c)
def bA (q:Option Nat) (l:cN) (i:Nat):List L3:=(aU l i).1.map fun p=>GP q p (p.2 - p.1)
def gl (q:Option Nat) (l:cN) (c:Nat):List L3:=bA q l l.length ++ [GP q ((aU l l.length).2,l.length) (c - (aU l l.length).2)]
theorem lN (q:Option Nat) (l:cN) (c:Nat):(gl q l c).length=(parts l).length:=by simp [gl,bA,parts]
theorem Cg (q:Option Nat) (l:cN) (c:Nat) {j:Nat} {p:Nat×Nat} (h:(parts l)[j]? = some p) : ∃cp,(gl q l c)[j]? = some (GP q p cp)∧(l.length≤c→p.2 - p.1≤cp):=by
 have hle:=(fG l l.length).2
 unfold parts at h
 have hlen:(bA q l l.length).length=(aU l l.length).1.length:=by simp [bA]
 rcases Nat.lt_or_ge j (aU l l.length).1.length with hj | hj
 ·rw [List.getElem?_append_left hj] at h
  refine ⟨p.2 - p.1,?_,fun _=>Nat.le_refl _⟩
  unfold gl
  rw [List.getElem?_append_left (by rw [hlen];exact hj)]
  unfold bA
  rw [List.getElem?_map,h];rfl
 ·rw [List.getElem?_append_right hj] at h
  obtain ⟨h1,h2⟩:=List.getElem?_eq_some_iff.1 h
  simp only [List.length_singleton] at h1
  simp only [List.getElem_singleton] at h2
  subst h2
  refine ⟨c - (aU l l.length).2,?_,fun hc=>by simp only;omega⟩
  unfold gl
  rw [List.getElem?_append_right (by rw [hlen];exact hj),hlen,show j - (aU l l.length).1.length=0 by omega];rfl
theorem Bv (K:AH) (q:Option Nat) (k c a e m:Nat) (h1:a≤e) (h2:e≤m) (h3:m≤c) (hs : ∀b,q=some b→K.steps Tryd.prog b 6=true) (hi:q=none→a=0∧e=0∧m=0) (ha:a≤9000∧e≤9000∧m≤9000) (he:e≤k∨True) :
  cJ Tryd.prog K 56 (.slice (q.map fun b=>(b,0)) k c) (some (.int .i64 (a:Int))) (some (.int .i64 (e:Int))) (some (.int .i64 (m:Int)))=some (.slice (GP q (a,e) (m - a)).1 (e - a) (m - a)):=by
 have t1:Tryd.prog.underlying 56=some (.slice 79):=by kernel_rfl
 have t2:bX Tryd.prog 79=some 6:=by kernel_rfl
 unfold cJ
 simp only [t1,t2,fR,Option.bind_some,Option.map_some]
 rw [if_pos (Int.natCast_nonneg _),if_pos (Int.natCast_nonneg _),if_pos (Int.natCast_nonneg _)]
 simp only [Int.toNat_natCast,Option.bind_some]
 rw [if_pos ⟨h1,h2,h3,fun _=>rfl⟩]
 cases q with
 | none=>obtain ⟨rfl,rfl,rfl⟩:=hi rfl;rfl
 | some b=>simp [GP,hs b rfl]
theorem Bu (K:AH) (q:Option Nat) (k c a:Nat) (h1:a≤k) (h2:k≤c) (hs : ∀b,q=some b→K.steps Tryd.prog b 6=true) (hi:q=none→a=0∧k=0) :
  cJ Tryd.prog K 56 (.slice (q.map fun b=>(b,0)) k c) (some (.int .i64 (a:Int))) none none=some (.slice (GP q (a,k) (c - a)).1 (k - a) (c - a)):=by
 have t1:Tryd.prog.underlying 56=some (.slice 79):=by kernel_rfl
 have t2:bX Tryd.prog 79=some 6:=by kernel_rfl
 unfold cJ
 simp only [t1,t2,fR,Option.bind_some,Option.map_some]
 rw [if_pos (Int.natCast_nonneg _)]
 simp only [Int.toNat_natCast,Option.bind_some]
 rw [if_pos ⟨h1,h2,Nat.le_refl _,fun e=>by cases e⟩]
 cases q with
 | none=>obtain ⟨rfl,rfl⟩:=hi rfl;rfl
 | some b=>simp [GP,hs b rfl]
theorem F4.steps {H:AH} {q:Option Nat} {k:Nat} {l0:cN} (h:F4 H q k l0) : ∀b,q=some b→H.steps Tryd.prog b 6=true:=by
 rintro b rfl
 have t2:bX Tryd.prog 79=some 6:=by kernel_rfl
 unfold AH.steps;rw [h.1];simp [t2]
theorem F4.none {H:AH} {q:Option Nat} {k:Nat} {l0:cN} (h:F4 H q k l0) (e:q=Option.none):l0=[]∧k=0:=by subst e;exact h
set_option maxRecDepth 100000 in
theorem Ks {H:AH} {q:Option Nat} {l0 l:cN} {c:Nat} (hP:F4 H q l.length l0) (hl:l=l0.take l.length) (hc:l.length≤c) (hcn:q=none→c=0) (h9:l.length≤8000) :
  az Tryd.prog 39 [.slice (q.map fun b=>(b,0)) l.length c] H fun v H'=>∃r,v=sl r (parts l).length∧bI H' r (parts l).length (flat ez (gl q l c)) 56∧(∀b,r=some b→H.n≤b∧b<H'.n)∧H.n≤H'.n∧∀c,c<H.n→H'.get c=H.get c:=by
 refine .inl ⟨aB (by kernel_rfl),ck (aT:=_) (dY:=_) au (Eq.mpr (HL (real Tryd.prog) (Iter Tryd.prog) (q.map fun b=>(b,0)) l.length c H _) ?_)⟩
 simp only [bL,bq,aY,bh,aJ,cm,aL,fD,lA]
 have at_ : ∀i (h:i<l.length),∃h0:i<l0.length,l[i]=l0[i]:=fun i h=>by
  have:=hP.le
  refine ⟨by omega,?_⟩
  conv=>lhs;rw [List.getElem_of_eq hl]
  rw [List.getElem_take]
 have V5 : ∀i,(bA q l i).length≤i:=by
  intro i
  unfold bA
  rw [List.length_map]
  induction i with
  | zero=>exact Nat.le_refl _
  | succ i ih =>
   unfold aU
   cases l[i]? with
   | none=>simp only;omega
   | some p =>
    simp only
    cases p.1 == [10] with
    | true=>simp only [cond_true,List.length_append,List.length_singleton];omega
    | false=>simp only [cond_false];omega
 obtain ⟨G,hG⟩ : ∃G:Nat→Option Nat→AH→Prop,G=fun i r K=>bI K r (bA q l i).length (flat ez (bA q l i)) 56∧(∀b,r=some b→H.n≤b∧b<K.n)∧H.n≤K.n∧∀c,c<H.n→K.get c=H.get c:=⟨_,rfl⟩
 have g0:G 0 none H:=by rw [hG];exact ⟨⟨rfl,rfl⟩,(fun b h=>by cases h),Nat.le_refl _,fun _ _=>rfl⟩
 refine ⟨fun y K k=>∃(i:Nat) (r:Option Nat),y=((r.map (fun b=>(b,0)),(bA q l i).length),((aU l i).2:Int),(i:Int))∧i≤l.length∧G i r K∧k=l.length - i,
  ⟨((none,0),0,0),l.length,rfl,0,none,rfl,Nat.zero_le _,g0,rfl⟩,?_⟩
 rintro _ K _ ⟨i,r,rfl,hi,hK,rfl⟩
 simp only
 have N6:=fG l i
 by_cases iX:i<l.length
 ·have d:decide ((i:Int)<(l.length:Int))=true:=by rw [decide_eq_true_iff];omega
  have w1:IntKind.i64.wrap ((i:Int)+1)=((i+1:Nat):Int):=by rw [wrap_i64 (by omega) (by omega)];rfl
  simp only [d,cond_true,w1]
  have v9:=hK
  rw [hG] at v9
  obtain ⟨k1,k2,k3,k4⟩:=v9
  have SF:=hP.gM k3 k4
  obtain ⟨h0,e0⟩:=at_ i iX
  obtain ⟨b,rfl,kR⟩:=SF.piece h0
  rw [← e0] at kR
  obtain ⟨A,hA⟩ : ∃A,A=(K.alloc (.cells [.str [],.bool false,.bool false,.bool false,.bool false,.int .i64 0] 79 { whole:=true })).set K.n (.cells (br l[i]) 79 { whole:=true }):=⟨_,rfl⟩
  have ag:A.get K.n=some (.cells (br l[i]) 79 { whole:=true }):=by rw [hA,AH.af,if_pos rfl]
  have ao : ∀c,c<K.n→A.get c=K.get c:=fun c hc=>by rw [hA,AH.af,if_neg (by omega),AH.aa,if_neg (by omega)]
  have an:A.n=K.n+1:=by rw [hA];simp
  have jH:(aU l (i+1))=bif l[i].1 == [10] then ((aU l i).1 ++ [((aU l i).2,i+1)],i+1) else aU l i:=by
   conv=>lhs;unfold aU
   rw [List.getElem?_eq_getElem iX]
  refine ⟨fun y K2=>∃r',y=((r'.map (fun b=>(b,0)),(bA (some b) l (i+1)).length),((aU l (i+1)).2:Int),(i:Int))∧G (i+1) r' K2,⟨b,0,⟨rfl,by omega,by omega⟩,l[i].1,l[i].2.b,l[i].2.i,l[i].2.u,l[i].2.k,l[i].2.c,by rw [Int.toNat_natCast];exact kR,rfl,A,by rw [hA];simp [AH.write,AH.aa,ax,AV.one,br,aj.cells],l[i].1,by unfold AH.ak;rw [ag];rfl,?_⟩,?_⟩
  ·cases Ct:l[i].1 == [10] with
   | true =>
    simp only [cond_true]
    rw [Ct,cond_true] at jH
    have U2:=SF.gM (H':=A) (by omega) ao
    have KC:=Bv A (some b) l.length c (aU l i).2 (i+1) (i+1) (by have:=N6.2;omega) (Nat.le_refl _) (by omega) U2.steps (fun e=>by cases e) (by have:=N6.2;omega) (.inr trivial)
    refine ⟨_,_,_,KC,⟨by decide,by decide,by decide,by decide,by decide⟩,?_⟩
    obtain ⟨y,hy⟩ : ∃y,y=GP (some b) ((aU l i).2,i+1) (i+1 - (aU l i).2):=⟨_,rfl⟩
    have TO:ez y=[.slice (GP (some b) ((aU l i).2,i+1) (i+1 - (aU l i).2)).1 (i+1 - (aU l i).2) (i+1 - (aU l i).2)]:=by rw [hy];rfl
    rw [← TO]
    obtain ⟨C,hC⟩ : ∃C,C=A.alloc (.cells (ez y) 56 { whole:=true }):=⟨_,rfl⟩
    rw [← hC]
    have cg:C.get A.n=some (.cells (ez y) 56 { whole:=true }):=by rw [hC,AH.aa,if_pos rfl]
    have co : ∀c,c<A.n→C.get c=A.get c:=fun c hc=>by rw [hC,AH.aa,if_neg (by omega)]
    have cn:C.n=A.n+1:=by rw [hC];rfl
    have NX:bI C r (bA (some b) l i).length (flat ez (bA (some b) l i)) 56:=k1.same fun b' eu=>by have:=k2 b' eu;rw [co b' (by omega)];exact ao b' this.2
    obtain ⟨E,a1,a2,a3,a4⟩:=wK (y:=y) NX cg (by have:=V5 i;omega)
    have cv:bA (some b) l (i+1)=bA (some b) l i ++ [y]:=by unfold bA;rw [jH,List.map_append,hy];rfl
    refine ⟨_,_,_,E,a1,((some (C.n,0),(bA (some b) l i ++ [y]).length),((i+1:Nat):Int),(i:Int)),0,trivial,rfl,some C.n,by rw [cv,jH];rfl,?_⟩
    rw [hG]
    simp only
    rw [cv]
    refine ⟨a3,fun b' eu=>by cases eu;omega,by omega,fun c hc=>?_⟩
    rw [a4 c (by omega) (fun e=>by have:=k2 c e;omega),co c (by omega),ao c (by omega)];exact k4 c hc
   | false =>
    simp only [cond_false]
    rw [Ct,cond_false] at jH
    have cv:bA (some b) l (i+1)=bA (some b) l i:=by unfold bA;rw [jH]
    refine ⟨((r.map (fun b=>(b,0)),(bA (some b) l i).length),((aU l i).2:Int),(i:Int)),0,trivial,rfl,r,by rw [cv,jH],?_⟩
    rw [hG]
    simp only
    rw [cv]
    exact ⟨k1.same fun b' eu=>ao b' (k2 b' eu).2,fun b' eu=>by have:=k2 b' eu;omega,by omega,fun c hc=>by rw [ao c (by omega)];exact k4 c hc⟩
  ·rintro _ K2 ⟨r',rfl,DI⟩
   exact ⟨((r'.map (fun b=>(b,0)),(bA (some b) l (i+1)).length),((aU l (i+1)).2:Int),((i+1:Nat):Int)),l.length - (i+1),by omega,by simp only [w1],i+1,r',rfl,by omega,DI,rfl⟩
 ·have d:decide ((i:Int)<(l.length:Int))=false:=by rw [decide_eq_false_iff_not];omega
  simp only [d,cond_false]
  obtain rfl:i=l.length:=by omega
  rw [hG] at hK
  obtain ⟨k1,k2,k3,k4⟩:=hK
  have SF:=hP.gM k3 k4
  have KC:=Bu K q l.length c (aU l l.length).2 N6.2 hc SF.steps (fun e=>by have:=hP.none e;omega)
  refine ⟨_,_,_,KC,⟨by decide,by decide,by decide,by decide,by decide⟩,?_⟩
  obtain ⟨y,hy⟩ : ∃y,y=GP q ((aU l l.length).2,l.length) (c - (aU l l.length).2):=⟨_,rfl⟩
  have TO:ez y=[.slice (GP q ((aU l l.length).2,l.length) (c - (aU l l.length).2)).1 (l.length - (aU l l.length).2) (c - (aU l l.length).2)]:=by rw [hy];rfl
  rw [← TO]
  obtain ⟨C,hC⟩ : ∃C,C=K.alloc (.cells (ez y) 56 { whole:=true }):=⟨_,rfl⟩
  rw [← hC]
  have cg:C.get K.n=some (.cells (ez y) 56 { whole:=true }):=by rw [hC,AH.aa,if_pos rfl]
  have co : ∀c,c<K.n→C.get c=K.get c:=fun c hc=>by rw [hC,AH.aa,if_neg (by omega)]
  have cn:C.n=K.n+1:=by rw [hC];rfl
  have NX:bI C r (bA q l l.length).length (flat ez (bA q l l.length)) 56:=k1.same fun b' eu=>by have:=k2 b' eu;exact co b' this.2
  obtain ⟨E,a1,a2,a3,a4⟩:=wK (y:=y) NX cg (by have:=V5 l.length;omega)
  have Gj:gl q l c=bA q l l.length ++ [y]:=by unfold gl;rw [hy]
  have Y5:(bA q l l.length ++ [y]).length=(parts l).length:=by rw [← Gj,lN]
  rw [Y5] at a1 a3
  refine ⟨_,_,_,E,a1,some C.n,rfl,by rw [Gj];exact a3,fun b' eu=>by cases eu;omega,by omega,fun c hc=>?_⟩
  rw [a4 c (by omega) (fun e=>by have:=k2 c e;omega),co c (by omega)];exact k4 c hc
def gi (H:AH) (b:Nat) (a:aj):Prop:=H.get b=some (.cells a.cells 53 { whole:=true })
theorem gi.wr {H:AH} {b:Nat} {a:aj} (h:gi H b a) (k:Nat) (v:AV) (a' : aj) (hk:k<5) (h1:v.one=true) (hs:ax a.cells k [v]=a'.cells):H.write b k [v]=some (H.set b (.cells a'.cells 53 { whole:=true })):=by
 unfold AH.write
 rw [h]
 simp only
 rw [if_pos ⟨by trivial,Nat.zero_le _,by rw [aj.aG];simp;omega,by simp [h1]⟩,hs]
theorem gi.rd {H:AH} {b:Nat} {a:aj} (h:gi H b a) (k:Nat):H.ak b k=a.cells[k]?:=by unfold AH.ak;rw [h]
theorem gi.all {H:AH} {b:Nat} {a:aj} (h:gi H b a):H.read b 0 5=some a.cells:=by unfold AH.read;rw [h];rfl
set_option maxRecDepth 100000 in
theorem RM {H:AH} {b a m c:Nat} {l:cN} {q:Option (Nat×Nat)} (hb:m ≠ 0→H.get b=some (.cells (flat br l) 79 { fT:=true })∧b<H.n∧q=some (b,a*6)) (ham:a+m≤l.length) (h9:l.length≤8000) (hc:m≤c) :
  az Tryd.prog 40 [.slice q m c] H fun v H'=>v=.agg (rR l a (a+m)).cells∧H.n≤H'.n∧∀c,c<H.n→H'.get c=H.get c:=by
 refine .inl ⟨aB (by kernel_rfl),ck (aT:=_) (dY:=_) au (Eq.mpr (OA (real Tryd.prog) (Iter Tryd.prog) q m c H _) ?_)⟩
 simp only [bL,bq,aY,bh,cm,aL,lA,AH.aC]
 by_cases h0:m=0
 ·subst h0
  have d:(((0:Nat):Int) == 0)=true:=by decide
  rw [d]
  simp only [cond_true]
  refine ⟨(by trivial),(H.alloc (.cells aH.cells 53 { whole:=true })).set H.n (.cells aH.cells 53 { whole:=true }),by simp [AH.write,AH.aa,ax,AV.one,aH,aj.cells],false,false,false,false,0,by simp [AH.read,AH.af,aH,aj.cells],?_,by simp,fun c hc=>by rw [AH.af,if_neg (by omega),AH.aa,if_neg (by omega)]⟩
  unfold rR
  rw [if_pos (by omega)];rfl
 obtain ⟨Fv,Fu,rfl⟩:=hb h0
 have d:((m:Int) == 0)=false:=by rw [beq_eq_false_iff_ne];omega
 rw [d]
 simp only [cond_false]
 obtain ⟨A,hA⟩ : ∃A,A=H.alloc (.cells aH.cells 53 { whole:=true }):=⟨_,rfl⟩
 have Z0:H.alloc (.cells [.bool false,.bool false,.bool false,.bool false,.int .i64 0] 53 { whole:=true })=A:=hA.symm
 rw [Z0]
 have ao : ∀c,c<H.n→A.get c=H.get c:=fun c hc=>by rw [hA,AH.aa,if_neg (by omega)]
 have an:A.n=H.n+1:=by rw [hA];rfl
 have ag:gi A H.n aH:=by unfold gi;rw [hA,AH.aa,if_pos rfl]
 have la:a<l.length:=by omega
 have Ya : ∀ {K:AH},K.get b=some (.cells (flat br l) 79 { fT:=true })→∀ {i:Nat} (hi:i<l.length),K.read b (i*6+1) 5=some l[i].2.cells:=by
  intro K hK i hi
  have:=ig cF hK hi (k:=1) (m:=5) (by decide)
  rw [Nat.zero_add] at this
  exact this
 obtain ⟨B,hB⟩ : ∃B,B=(A.alloc (.cells [.bool false,.bool false,.bool false,.bool false,.int .i64 0] 53 { whole:=true })).set (H.n+1) (.cells l[a].2.cells 53 { whole:=true }):=⟨_,rfl⟩
 have bg:gi B (H.n+1) l[a].2:=by unfold gi;rw [hB,AH.af,if_pos rfl]
 have bo : ∀c,c<H.n+1→B.get c=A.get c:=fun c hc=>by rw [hB,AH.af,if_neg (by omega),AH.aa,if_neg (by omega)]
 have bn:B.n=H.n+2:=by rw [hB];simp only [AH.aZ,AH.aC];omega
 have t1:Tryd.prog.underlying 56=some (.slice 79):=by kernel_rfl
 have t2:bX Tryd.prog 79=some 6:=by kernel_rfl
 have eF:B.steps Tryd.prog b 6=true:=by unfold AH.steps;rw [bo b (by omega),ao b Fu,Fv];simp [t2]
 have KC:cJ Tryd.prog B 56 (.slice (some (b,a*6)) m c) (some (.int .i64 1)) none none=some (.slice (some (b,a*6+6)) (m - 1) (c - 1)):=by
  unfold cJ
  simp only [t1,t2,fR,Option.bind_some,Option.map_some]
  rw [if_pos (by decide)]
  simp only [show (1:Int).toNat=1 from rfl,Option.bind_some]
  rw [if_pos ⟨by omega,hc,Nat.le_refl _,fun e=>by cases e⟩]
  simp [eF]
 obtain ⟨G,hG⟩ : ∃G:aj→AH→Prop,G=fun x K=>gi K H.n aH∧gi K (H.n+1) x∧H.n+1<K.n∧∀c,c<H.n→K.get c=H.get c:=⟨_,rfl⟩
 have gB:G (fV l a 0) B:=by
  rw [hG]
  refine ⟨by unfold gi;rw [bo _ (by omega)];exact ag,?_,by omega,fun c hc=>by rw [bo c (by omega)];exact ao c hc⟩
  unfold fV;rw [mE la];exact bg
 refine ⟨b,a*6,⟨rfl,by decide,by omega⟩,l[a].2.b,l[a].2.i,l[a].2.u,l[a].2.k,l[a].2.c,by rw [Nat.add_zero];exact Ya (by rw [ao b Fu];exact Fv) la,rfl,B,by rw [hB,← an];simp [AH.write,AH.aa,ax,AV.one,aj.cells],_,_,_,KC,?_⟩
 refine ⟨fun y K k=>∃i:Nat,y=(H.n,H.n+1,(some (b,a*6+6),m - 1,c - 1),((m - 1:Nat):Int),(i:Int))∧i≤m - 1∧G (fV l a i) K∧k=m - 1 - i,
  ⟨(H.n,H.n+1,(some (b,a*6+6),m - 1,c - 1),((m - 1:Nat):Int),0),m - 1,rfl,0,rfl,Nat.zero_le _,gB,rfl⟩,?_⟩
 rintro _ K _ ⟨i,rfl,hi,hK,rfl⟩
 simp only
 by_cases UC:i<m - 1
 ·have d2:decide ((i:Int)<((m - 1:Nat):Int))=true:=by rw [decide_eq_true_iff];omega
  simp only [d2,cond_true]
  have v9:=hK
  rw [hG] at v9
  obtain ⟨k1,k2,k3,k4⟩:=v9
  have Av:a+i+1<l.length:=by omega
  have w1:IntKind.i64.wrap ((i:Int)+1)=((i+1:Nat):Int):=by rw [wrap_i64 (by omega) (by omega)];rfl
  have ZP:K.get b=_:=(k4 b Fu).trans Fv
  obtain ⟨x,hx⟩ : ∃x,x=fV l a i:=⟨_,rfl⟩
  rw [← hx] at k2
  obtain ⟨p,hp⟩ : ∃p,p=l[a+i+1]:=⟨_,rfl⟩
  obtain ⟨D,hD⟩ : ∃D,D=(K.alloc (.cells [.str [],.bool false,.bool false,.bool false,.bool false,.int .i64 0] 79 { whole:=true })).set K.n (.cells (br p) 79 { whole:=true }):=⟨_,rfl⟩
  have dg:D.get K.n=some (.cells (br p) 79 { whole:=true }):=by rw [hD,AH.af,if_pos rfl]
  have Lq : ∀c,c<K.n→D.get c=K.get c:=fun c hc=>by rw [hD,AH.af,if_neg (by omega),AH.aa,if_neg (by omega)]
  have dn:D.n=K.n+1:=by rw [hD];simp
  have e0:gi D (H.n+1) x:=by unfold gi;rw [Lq _ k3];exact k2
  obtain ⟨x1,uO⟩ : ∃x1:aj,x1 = { x with b:=x.b && p.2.b }:=⟨_,rfl⟩
  obtain ⟨x2,Gf⟩ : ∃x2:aj,x2 = { x1 with i:=x.i && p.2.i }:=⟨_,rfl⟩
  obtain ⟨x3,Qf⟩ : ∃x3:aj,x3 = { x2 with u:=x.u && p.2.u }:=⟨_,rfl⟩
  obtain ⟨x4,Sj⟩ : ∃x4:aj,x4 = { x3 with k:=x.k && p.2.k }:=⟨_,rfl⟩
  obtain ⟨D1,SQ⟩ : ∃D1,D1=D.set (H.n+1) (.cells x1.cells 53 { whole:=true }):=⟨_,rfl⟩
  obtain ⟨D2,SP⟩ : ∃D2,D2=D1.set (H.n+1) (.cells x2.cells 53 { whole:=true }):=⟨_,rfl⟩
  obtain ⟨D3,SO⟩ : ∃D3,D3=D2.set (H.n+1) (.cells x3.cells 53 { whole:=true }):=⟨_,rfl⟩
  obtain ⟨D4,SN⟩ : ∃D4,D4=D3.set (H.n+1) (.cells x4.cells 53 { whole:=true }):=⟨_,rfl⟩
  have e1:gi D1 (H.n+1) x1:=by unfold gi;rw [SQ,AH.af,if_pos rfl]
  have e2:gi D2 (H.n+1) x2:=by unfold gi;rw [SP,AH.af,if_pos rfl]
  have e3:gi D3 (H.n+1) x3:=by unfold gi;rw [SO,AH.af,if_pos rfl]
  have e4:gi D4 (H.n+1) x4:=by unfold gi;rw [SN,AH.af,if_pos rfl]
  have o1 : ∀c,c ≠ H.n+1→D1.get c=D.get c:=fun c hc=>by rw [SQ,AH.af,if_neg hc]
  have o2 : ∀c,c ≠ H.n+1→D2.get c=D.get c:=fun c hc=>by rw [SP,AH.af,if_neg hc];exact o1 c hc
  have o3 : ∀c,c ≠ H.n+1→D3.get c=D.get c:=fun c hc=>by rw [SO,AH.af,if_neg hc];exact o2 c hc
  have o4 : ∀c,c ≠ H.n+1→D4.get c=D.get c:=fun c hc=>by rw [SN,AH.af,if_neg hc];exact o3 c hc
  have n4:D4.n=D.n:=by rw [SN,SO,SP,SQ];rfl
  have pr : ∀ {E:AH},E.get K.n=D.get K.n→∀j,E.ak K.n j=(br p)[j]?:=fun {E} hE j=>by unfold AH.ak;rw [hE,dg]
  have Sd:K.n ≠ H.n+1:=by omega
  have lT:fV l a (i+1)=meet x p.2:=by
   show meet (fV l a i) (fZ l (a+i+1))=_
   rw [← hx,mE Av,hp]
  have land : ∀ {E:AH} {y:aj},gi E (H.n+1) y→(∀c,c ≠ H.n+1→E.get c=D.get c)→E.n=D.n→y=fV l a (i+1)→G (fV l a (i+1)) E:=by
   intro E y h1 h2 h3 h4
   rw [hG]
   refine ⟨by unfold gi;rw [h2 _ (by omega),Lq _ (by omega)];exact k1,by rw [← h4];exact h1,by omega,fun c hc=>by rw [h2 c (by omega),Lq c (by omega)];exact k4 c hc⟩
  refine ⟨fun y E=>y=(H.n,H.n+1,(some (b,a*6+6),m - 1,c - 1),((m - 1:Nat):Int),(i:Int))∧G (fV l a (i+1)) E,?_,?_⟩
  ·refine ⟨b,a*6+6,⟨rfl,by omega,by omega⟩,p.1,p.2.b,p.2.i,p.2.u,p.2.k,p.2.c,?_,rfl,D,by rw [hD];simp [AH.write,AH.aa,ax,AV.one,br,aj.cells],?_⟩
   ·rw [Int.toNat_natCast,show a*6+6+i*6=0+(a+i+1)*6 by omega,hp]
    exact dr cF ZP Av
   refine ⟨x.b,by rw [e0.rd];rfl,p.2.b,by rw [pr rfl];rfl,rfl,D1,by rw [SQ,uO];exact e0.wr 0 _ _ (by decide) rfl rfl,
    x.i,by rw [e1.rd,uO];rfl,p.2.i,by rw [pr (o1 _ Sd)];rfl,rfl,D2,by rw [SP,Gf];exact e1.wr 1 _ _ (by decide) rfl rfl,
    x.u,by rw [e2.rd,Gf,uO];rfl,p.2.u,by rw [pr (o2 _ Sd)];rfl,rfl,D3,by rw [SO,Qf];exact e2.wr 2 _ _ (by decide) rfl rfl,
    x.k,by rw [e3.rd,Qf,Gf,uO];rfl,p.2.k,by rw [pr (o3 _ Sd)];rfl,rfl,D4,by rw [SN,Sj];exact e3.wr 3 _ _ (by decide) rfl rfl,
    x.c,by rw [e4.rd,Sj,Qf,Gf,uO];rfl,p.2.c,by rw [pr (o4 _ Sd)];rfl,?_⟩
   cases oW:x.c != p.2.c with
   | true =>
    simp only [cond_true]
    have cU:x.c ≠ p.2.c:=by simpa using oW
    obtain ⟨x5,Wt⟩ : ∃x5:aj,x5 = { x4 with c:=0 }:=⟨_,rfl⟩
    refine ⟨by trivial,D4.set (H.n+1) (.cells x5.cells 53 { whole:=true }),by rw [Wt];exact e4.wr 4 _ _ (by decide) rfl rfl,_,0,trivial,rfl,rfl,?_⟩
    refine land (y:=x5) (by unfold gi;rw [AH.af,if_pos rfl]) (fun c hc=>by rw [AH.af,if_neg hc];exact o4 c hc) (by simp [n4]) ?_
    rw [lT]
    unfold meet
    rw [if_neg cU,Wt,Sj,Qf,Gf,uO]
   | false =>
    simp only [cond_false]
    have heq:x.c=p.2.c:=by simpa using oW
    refine ⟨_,0,trivial,rfl,rfl,land (y:=x4) e4 o4 n4 ?_⟩
    rw [lT]
    unfold meet
    rw [if_pos heq,Sj,Qf,Gf,uO]
  ·rintro _ E ⟨rfl,hE⟩
   exact ⟨(H.n,H.n+1,(some (b,a*6+6),m - 1,c - 1),((m - 1:Nat):Int),((i+1:Nat):Int)),m - 1 - (i+1),by omega,by simp only [w1],i+1,rfl,by omega,hE,rfl⟩
 ·have d2:decide ((i:Int)<((m - 1:Nat):Int))=false:=by rw [decide_eq_false_iff_not];omega
  simp only [d2,cond_false]
  obtain rfl:i=m - 1:=by omega
  rw [hG] at hK
  obtain ⟨k1,k2,k3,k4⟩:=hK
  obtain ⟨x,hx⟩ : ∃x,x=fV l a (m - 1):=⟨_,rfl⟩
  rw [← hx] at k2
  refine ⟨x.b,x.i,x.u,x.k,x.c,k2.all,rfl,K.set H.n (.cells x.cells 53 { whole:=true }),?_,x.b,x.i,x.u,x.k,x.c,by unfold AH.read;rw [AH.af,if_pos rfl];rfl,?_,by simp only [AH.aZ];omega,fun c hc=>by rw [AH.af,if_neg (by omega)];exact k4 c hc⟩
  ·unfold AH.write
   rw [k1]
   simp [ax,AV.one,aH,aj.cells]
  ·unfold rR
   rw [if_neg (by omega),show a+m - a - 1=m - 1 by omega,← hx];rfl
end Go.Proofs.YtlkdhhkncoekgaaDoor

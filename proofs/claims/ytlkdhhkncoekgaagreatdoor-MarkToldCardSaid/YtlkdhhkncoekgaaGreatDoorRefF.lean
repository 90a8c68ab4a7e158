/- A text in normal form is right, and its normal form is itself, by the reference's functions. -/
import Derived.Test.YtlkdhhkncoekgaaGreatDoorRefE
section
namespace Go.Proofs.YtlkdhhkncoekgaaGreatDoor
open Go.Am Go
structure jD (s:List UInt8) (L:List aj) (so:List av):Prop where
 cW:aE s L.length
 len:s.length≤4096
 c : ∀a ∈ L,0≤a.c∧a.c≤16777216
 eq:so=aR (bt L)
 Dh:so.length≤256
theorem jD.perm {s:List UInt8} {L:List aj} {so:List av} (h:jD s L so):so.Perm (bt L):=by rw [h.eq];exact B1 L
theorem jD.fits {s:List UInt8} {L:List aj} {so:List av} (h:jD s L so) : ∀x ∈ so,dJ x L.length=true:=fun _ hx=>EO h.c (h.perm.mem_iff.1 hx)
theorem jD.uW {s:List UInt8} {L:List aj} {so:List av} (h:jD s L so) : ∀x ∈ so,∀y ∈ so,bA x y=false:=fun _ hx _ hy=>z6 (h.perm.mem_iff.1 hx) (h.perm.mem_iff.1 hy)
theorem jD.v {s:List UInt8} {L:List aj} {so:List av} (h:jD s L so) : ∀x ∈ so,-1000000000≤x.v∧x.v≤1000000000:=fun x hx=>ze (h.fits x hx)
theorem jD.looks {s:List UInt8} {L:List aj} {so:List av} (h:jD s L so):L.length≤4096:=by have:=dr h.cW.2;have:=h.cW.1;have:=h.len;omega
theorem HU {s:List UInt8} {L:List aj} {so:List av} (h:jD s L so) {H:AH} {q:Option Nat} {cp:Nat} (hq:fE H q cp so) :
  aD Tryz.prog 15 [.agg [.str s,.slice (q.map fun b=>(b,0)) so.length cp]] H fun v H'=>v=.bool true∧H.n≤H'.n∧∀c,c<H.n→H'.get c=H.get c:=by
 refine .inl ⟨aB (by kernel_rfl),c6 (aS:=[]) aq ?_⟩
 show fG _ _ _ _ [.agg [.str s,.slice (q.map fun b=>(b,0)) so.length cp]] _ _
 rw [wz]
 simp only [bu,aU,aP,aF]
 obtain ⟨A,hA⟩ : ∃A,A=H.alloc (.cells [.str s,.slice (q.map fun b=>(b,0)) so.length cp] 24 { whole:=true }):=⟨_,rfl⟩
 rw [← hA]
 have ag:A.get H.n=some (.cells [.str s,.slice (q.map fun b=>(b,0)) so.length cp] 24 { whole:=true }):=by rw [hA,AH.aa,if_pos rfl]
 have ao : ∀c,c<H.n→A.get c=H.get c:=fun c hc=>by rw [hA,AH.aa,if_neg (by omega)]
 have an:A.n=H.n+1:=by rw [hA];rfl
 refine ⟨(by trivial),s,q.map fun b=>(b,0),so.length,cp,by unfold AH.read;rw [ag];rfl,?_⟩
 refine (Ay s L.length h.cW h.len h.Dh h.fits h.uW (hq.eA (by omega) ao)).mono ?_
 rintro v B ⟨rfl,b1,b2⟩
 exact ⟨0,rfl,rfl,by omega,fun c hc=>by rw [b2 c (by omega)];exact ao c hc⟩
theorem KQ (s:List UInt8) (L:List aj) (hL:L.length≤4096) (hc : ∀a ∈ L,0≤a.c∧a.c≤16777216) (y6:(bt L).length≤256) {H:AH} {q:Option Nat} (hq:jE H q L) :
  aD Tryz.prog 36 [.str s,sl q L.length] H (jB H 0 s (aR (bt L))):=by
 refine .inl ⟨aB (by kernel_rfl),c6 (aS:=[]) aq ?_⟩
 show fG _ _ _ _ [.str s,.slice (q.map fun b=>(b,0)) L.length L.length] _ _
 rw [HY]
 simp only [bu,aU,aP,aF,bU]
 have uH:jE (H.alloc (.cells [.str [],.slice none 0 0] 24 { whole:=true })) q L:=by
  cases q with
  | none=>exact hq
  | some b=>obtain ⟨h1,fl,h2⟩:=hq;exact ⟨by simp only [AH.az];omega,fl,by rw [AH.aa,if_neg (by omega)];exact h2⟩
 refine (Fo L hL hc y6 uH).mono ?_
 rintro v H1 ⟨q1,rfl,g1,g2,g3,g4⟩
 simp only [AH.az] at g2 g3 g4
 have g0:H1.get H.n=some (.cells [.str [],.slice none 0 0] 24 { whole:=true }):=by rw [g4 _ (by omega),AH.aa,if_pos rfl]
 refine ⟨_,_,_,true,rfl,?_⟩
 simp only [Bool.not_true,cond_false]
 refine ⟨rfl,H1.set H.n (.cells [.str s,.slice (q1.map fun b=>(b,0)) (aR (bt L)).length (aR (bt L)).length] 24 { whole:=true }),by simp [AH.write,g0,aA,AV.one],s,q1.map fun b=>(b,0),(aR (bt L)).length,(aR (bt L)).length,by simp [AH.read,AH.af],q1,rfl,?_,fun c hc=>?_,?_,fun c hc=>?_⟩
 ·exact g1.same fun b hb=>by have:=g2 b hb;rw [AH.af,if_neg (by omega)]
 ·have:=g2 c hc;simp only [AH.bq];omega
 ·simp only [AH.bq];omega
 ·rw [AH.af,if_neg (by omega),g4 c (by omega),AH.aa,if_neg (by omega)]
theorem KO {s:List UInt8} {L:List aj} {so:List av} (h:jD s L so) {H:AH} {q:Option Nat} {cp:Nat} (hq:fE H q cp so) :
  aD Tryz.prog 17 [.agg [.str s,.slice (q.map fun b=>(b,0)) so.length cp]] H (jB H 0 s so):=by
 refine .inl ⟨aB (by kernel_rfl),c6 (aS:=[]) aq ?_⟩
 show fG _ _ _ _ [.agg [.str s,.slice (q.map fun b=>(b,0)) so.length cp]] _ _
 rw [HW]
 simp only [bu,aU,aQ,aP,aF,bU,AH.az]
 obtain ⟨A,hA⟩ : ∃A,A=(H.alloc (.cells [.str s,.slice (q.map fun b=>(b,0)) so.length cp] 24 { whole:=true })).alloc (.cells [.str [],.slice none 0 0] 24 { whole:=true }):=⟨_,rfl⟩
 rw [← hA]
 have ag:A.get H.n=some (.cells [.str s,.slice (q.map fun b=>(b,0)) so.length cp] 24 { whole:=true }):=by rw [hA,AH.aa,if_neg (by simp only [AH.az];omega),AH.aa,if_pos rfl]
 have TQ:A.get (H.n+1)=some (.cells [.str [],.slice none 0 0] 24 { whole:=true }):=by rw [hA,AH.aa,if_pos (by simp)]
 have ao : ∀c,c<H.n→A.get c=H.get c:=fun c hc=>by rw [hA,AH.aa,if_neg (by simp only [AH.az];omega),AH.aa,if_neg (by omega)]
 have an:A.n=H.n+2:=by rw [hA];simp
 refine ⟨(by trivial),s,q.map fun b=>(b,0),so.length,cp,by unfold AH.read;rw [ag];rfl,?_⟩
 refine (Ay s L.length h.cW h.len h.Dh h.fits h.uW (hq.eA (by omega) ao)).mono ?_
 rintro v B ⟨rfl,b1,b2⟩
 have bg:B.get H.n=_:=(b2 _ (by omega)).trans ag
 have bo : ∀c,c<H.n→B.get c=H.get c:=fun c hc=>by rw [b2 c (by omega)];exact ao c hc
 have n0:((0:Int) != 0)=false:=by decide
 refine ⟨0,rfl,?_⟩
 simp only [n0,cond_false]
 refine ⟨s,by unfold AH.ak;rw [bg];rfl,s,q.map fun b=>(b,0),so.length,cp,by unfold AH.read;rw [bg];rfl,?_⟩
 have IW:so.length≤1000000:=by have:=h.Dh;omega
 refine (CC s L.length h.cW h.len IW h.v (hq.eA (by omega) bo)).mono ?_
 rintro v C ⟨q',rfl,c1,c2,c3,c4⟩
 rw [FH h.perm] at c1
 have cg:C.get H.n=_:=(c4 _ (by omega)).trans bg
 have cg1:C.get (H.n+1)=_:=(c4 _ (by omega)).trans ((b2 _ (by omega)).trans TQ)
 refine ⟨q'.map fun b=>(b,0),L.length,L.length,rfl,⟨s,by unfold AH.ak;rw [cg];rfl,rfl⟩,?_⟩
 have Tl:jE C q' L:=by
  cases q' with
  | none=>exact List.length_eq_zero_iff.1 c1.1
  | some b=>exact ⟨(c2 b rfl).2,_,c1⟩
 have y6:(bt L).length≤256:=by rw [← jL,← h.eq];exact h.Dh
 refine (KQ s L h.looks h.c y6 Tl).mono ?_
 rw [← h.eq]
 rintro v D ⟨q2,rfl,d1,d2,d3,d4⟩
 have dg1:D.get (H.n+1)=_:=(d4 _ (by omega)).trans cg1
 refine ⟨s,q2.map fun b=>(b,0),so.length,so.length,0,rfl,rfl,D.set (H.n+1) (.cells [.str s,.slice (q2.map fun b=>(b,0)) so.length so.length] 24 { whole:=true }),by simp [AH.write,dg1,aA,AV.one],s,q2.map fun b=>(b,0),so.length,so.length,by simp [AH.read,AH.af],q2,rfl,?_,fun c hc=>?_,?_,fun c hc=>?_⟩
 ·exact d1.same fun b hb=>by have:=d2 b hb;rw [AH.af,if_neg (by omega)]
 ·have:=d2 c hc;simp only [AH.bq];omega
 ·simp only [AH.bq];omega
 ·rw [AH.af,if_neg (by omega),d4 c (by omega),c4 c (by omega)];exact bo c hc
set_option maxRecDepth 100000 in
theorem KL (s:List UInt8) {so:List av} (hl:so.length≤1000000) {H:AH} {q r:Option Nat} {cp cq:Nat} (hq:fE H q cp so) (hr:fE H r cq so) :
  aD Tryz.prog 13 [.agg [.str s,.slice (q.map fun b=>(b,0)) so.length cp],.agg [.str s,.slice (r.map fun b=>(b,0)) so.length cq]] H fun v H'=>v=.bool true∧H.n≤H'.n∧∀c,c<H.n→H'.get c=H.get c:=by
 refine .inl ⟨aB (by kernel_rfl),bP (aS:=_) (c9:=_) aq (Eq.mpr (HS (real Tryz.prog) (Iter Tryz.prog) s s (q.map fun b=>(b,0)) (r.map fun b=>(b,0)) so.length cp so.length cq H _) ?_)⟩
 simp only [bu,aU,aQ,aP,aK,AH.az]
 obtain ⟨A,hA⟩ : ∃A,A=(H.alloc (.cells [.str s,.slice (q.map fun b=>(b,0)) so.length cp] 24 { whole:=true })).alloc (.cells [.str s,.slice (r.map fun b=>(b,0)) so.length cq] 24 { whole:=true }):=⟨_,rfl⟩
 simp only [← hA]
 have ag:A.get H.n=some (.cells [.str s,.slice (q.map fun b=>(b,0)) so.length cp] 24 { whole:=true }):=by rw [hA,AH.aa,if_neg (by simp only [AH.az];omega),AH.aa,if_pos rfl]
 have TQ:A.get (H.n+1)=some (.cells [.str s,.slice (r.map fun b=>(b,0)) so.length cq] 24 { whole:=true }):=by rw [hA,AH.aa,if_pos (by simp)]
 have ao : ∀c,c<H.n→A.get c=H.get c:=fun c hc=>by rw [hA,AH.aa,if_neg (by simp only [AH.az];omega),AH.aa,if_neg (by omega)]
 have an:A.n=H.n+2:=by rw [hA];simp
 have r1:A.ak H.n 1=some (.slice (q.map fun b=>(b,0)) so.length cp):=by unfold AH.ak;rw [ag];rfl
 have r2:A.ak (H.n+1) 1=some (.slice (r.map fun b=>(b,0)) so.length cq):=by unfold AH.ak;rw [TQ];rfl
 refine ⟨(by trivial),(by trivial),s,by unfold AH.ak;rw [ag];rfl,s,by unfold AH.ak;rw [TQ];rfl,_,_,_,r1,_,_,_,r2,?_⟩
 have e:(!s == s || (so.length:Int) != (so.length:Int))=false:=by simp
 simp only [e,cond_false]
 refine ⟨fun y K k=>∃i:Nat,y=(H.n,H.n+1,(i:Int))∧i≤so.length∧A=K∧k=so.length - i,⟨(H.n,H.n+1,0),so.length,rfl,0,rfl,Nat.zero_le _,rfl,rfl⟩,?_⟩
 rintro _ _ _ ⟨i,rfl,hi,rfl,rfl⟩
 simp only
 refine ⟨_,_,_,r1,?_⟩
 by_cases fO:i<so.length
 ·have d:decide ((i:Int)<(so.length:Int))=true:=by rw [decide_eq_true_iff];omega
  simp only [d,cond_true]
  obtain ⟨b,hb,iu⟩:=hq.span ao fO
  obtain ⟨b',dM,uG⟩:=hr.span ao fO
  refine ⟨_,_,_,r1,b,0,⟨by rw [hb];rfl,by omega,by omega⟩,_,_,_,_,iu,_,_,_,r2,b',0,⟨by rw [dM];rfl,by omega,by omega⟩,_,_,_,_,uG,?_⟩
  simp only [BEq.rfl,Bool.and_self,Bool.not_true,cond_false]
  exact ⟨(H.n,H.n+1,((i+1:Nat):Int)),so.length - (i+1),by omega,by rw [EJ i (by omega)],i+1,rfl,by omega,(by trivial),rfl⟩
 ·have d:decide ((i:Int)<(so.length:Int))=false:=by rw [decide_eq_false_iff_not];omega
  simp only [d,cond_false]
  exact ⟨(by trivial),by omega,ao⟩
end Go.Proofs.YtlkdhhkncoekgaaGreatDoor
end

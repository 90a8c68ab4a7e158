/- What the functions about signs and looks hand back. -/
import Derived.Test.YtlkdhhkncoekgaaDoorPlainVc
import Derived.Test.YtlkdhhkncoekgaaDoorUtf
/- What the functions about signs hand back: their lengths, how many there are, the first of them. -/
section
namespace Go.Proofs.YtlkdhhkncoekgaaDoor
open Go.Am Go
theorem au:Tryd.prog.follows .mixedOrders=true:=by kernel_rfl
theorem vg (d:Int):Pure Tryd.prog 11 [.int .i64 d] (.bool (decide (1≤d) && decide (d≤4))) :=
 Pure.fU au [] (by kernel_rfl) rfl rfl (by rw [AG])
theorem xh (c:Int):Pure Tryd.prog 78 [.int .i32 c] (.int .i64 (rY c)):=by
 refine Pure.fU au [] (by kernel_rfl) rfl rfl ?_
 rw [BH]
 unfold rY
 by_cases h1:c<0
 ·simp [h1]
 by_cases h2:c≤127
 ·simp [h1,h2]
 by_cases h3:c≤2047
 ·simp [h1,h2,h3]
 by_cases h4:55296≤c∧c≤57343
 ·simp [h1,h2,h3,h4]
 by_cases h5:c≤65535
 ·have:(decide (55296≤c) && decide (c≤57343))=false:=by rw [Bool.and_eq_false_iff];simp only [decide_eq_false_iff_not];omega
  simp [h1,h2,h3,h4,h5,this]
 have:(decide (55296≤c) && decide (c≤57343))=false:=by rw [Bool.and_eq_false_iff];simp only [decide_eq_false_iff_not];omega
 by_cases h6:c≤1114111
 ·simp [h1,h2,h3,h4,h5,h6,this]
 ·simp [h1,h2,h3,h4,h5,h6,this]
def pre (s t:List UInt8):Bool:=decide ((s.length:Int)≥t.length) && s.take t.length == t
theorem rC (s t:List UInt8):Pure Tryd.prog 53 [.str s,.str t] (.bool (pre s t)):=by
 refine Pure.fU au [] (by kernel_rfl) rfl rfl ?_
 rw [uY]
 refine ⟨fun h=>?_,?_⟩
 ·simp only [beq_iff_eq,decide_eq_true_eq] at h;omega
 ·have:((t.length:Int) - 0).toNat=t.length:=by omega
  rw [this];rfl
theorem uE (s t:List UInt8):Pure Tryd.prog 27 [.str s,.str t] (.bool (pre s t)):=by
 refine Pure.fU au [] (by kernel_rfl) rfl rfl ?_
 rw [yN]
 exact (rC s t).dS ⟨_,rfl,rfl⟩
theorem oc (s:List UInt8) (n:Nat) (hn:aD s n) (hs:s.length≤9223372036854775807):Pure Tryd.prog 62 [.str s] (.int .i64 n):=by
 refine Pure.fU au [⟨3,Int,[3,5],fun i=>[.int .i64 i,.ptr (some ((real Tryd.prog none).n (aR Tryd.prog),0))],
  fun i H j=>∃m:Nat,i=m∧H.get (aR Tryd.prog).n=some (.iter s (place s m))∧j=s.length - place s m∧place s m≤s.length∧∀j,j<m→place s j<s.length⟩] (by kernel_rfl) rfl rfl ?_
 rw [Jh]
 refine ⟨⟨0,s.length,rfl,0,rfl,by simp [AH.aa,place],rfl,Nat.zero_le _,fun j h=>absurd h (Nat.not_lt_zero j)⟩,?_⟩
 rintro i H j ⟨m,rfl,h1,rfl,h2,h3⟩
 refine ⟨s,place s m,h1,fun hk=>?_,fun hk=>?_⟩
 ·obtain ⟨g1,g2⟩:=iq hk
  have hm:=dJ h3
  have g1' : place s m<place s m+(ah s (place s m)).2:=g1
  refine ⟨_,_,?_,rfl,m+1,?_,by simp [AH.af,place],rfl,g2,fun j hj=>?_⟩
  ·simp only [place];simp only [place] at g2;omega
  ·rw [aL,wrap_i64 (by omega) (by omega)];rfl
  ·rcases Nat.lt_or_ge j m with h | h
   ·exact h3 j h
   ·obtain rfl:j=m:=by omega
    exact hk
 ·have:aD s m:=⟨by omega,h3⟩
  rw [this.uniq hn]
def eA (s:List UInt8) (m:Nat):Int×Int×Int×Bool :=
 (place s m,(ah s (place s m)).2,(ah s (place s m)).1,((ah s (place s m)).1:Int) == 65533 && ((ah s (place s m)).2:Int) == 1)
def jX (x:Int×Int×Int×Bool):List AV:=[.agg [.int .i64 x.1,.int .i64 x.2.1,.int .i32 x.2.2.1,.bool x.2.2.2]]
theorem uI.mono {P:Program} {r:Option Nat} {fv:AV} {vs:List AV} {H:AH} {K K' : AV→AH→Prop} (h:uI P r fv vs H K) (hk : ∀v H,K v H→K' v H):uI P r fv vs H K' :=
 fun dst f xs ts ty pos after guard T hf hx=>(h dst f xs ts ty pos after guard T hf hx).mono hk
theorem zj (s:List UInt8) (n:Nat) (hn:aD s n) (p:Nat) :
  Iter Tryd.prog 77 [] [.ptr (some (p,0))] (fun H=>H.get p=some (.cells [.str s] 9 { whole:=true })) (((List.range n).map (eA s)).map jX):=by
 intro b J D H0 hb s1 s2 s3 s4 hC h0 jH
 have hlen:(((List.range n).map (eA s)).map jX).length=n:=by simp
 refine ew (aT:=[⟨1,Unit,[0,1,7],fun _=>[.cV b,.ptr (some (p,0)),.ptr (some ((real Tryd.prog none).n H0,0))],
  fun _ H j=>∃m W,J m W H∧H0.n ∈ W∧(∀c ∈ W,c<H.n)∧H.get H0.n=some (.iter s (place s m))∧place s m≤s.length∧(∀j,j<m→place s j<s.length)∧j=s.length - place s m⟩]) au ?_
 show gP _ _ _ _ [.cV b,.ptr (some (p,0))] _ _
 rw [Ep]
 refine ⟨s,?_,⟨(),s.length,rfl,0,[H0.n],s1 _ _ _ _ h0,by simp,by simp,by simp [AH.aa,place],Nat.zero_le _,fun j h=>absurd h (Nat.not_lt_zero j),rfl⟩,?_⟩
 ·simp [AH.ak,hC _ _ _ h0]
 rintro _ H1 j ⟨m,W,hJ,hW,cv,h1,h2,h3,rfl⟩
 refine ⟨s,place s m,h1,fun hk=>?_,fun hk=>?_⟩
 ·obtain ⟨g1,g2⟩:=iq hk
  have MF:J m W (H1.set H0.n (.iter s (place s m+(ah s (place s m)).2))):=s2 _ _ _ _ _ hW hJ
  have hm:m<n:=by
   rcases Nat.lt_or_ge m n with h | h
   ·exact h
   ·exfalso
    rcases Nat.lt_or_ge n m with h' | h'
    ·have:=h3 n h';have:=hn.1;omega
    ·obtain rfl:m=n:=by omega
     have:=hn.1;omega
  have hx:(((List.range n).map (eA s)).map jX)[m]? = some (jX (eA s m)):=by simp [hm]
  have hy:=jH none m W _ _ hx MF (fun c hc=>by simpa using cv c hc)
  have after : ∀v H3,((H1.set H0.n (.iter s (place s m+(ah s (place s m)).2))).n≤H3.n∧(∀c ∈ W,H3.get c=(H1.set H0.n (.iter s (place s m+(ah s (place s m)).2))).get c)∧((v=.bool true∧J (m+1) W H3)∨(v=.bool false∧D W H3))) →
    ∃b1,v=AV.bool b1∧bif !b1 then (∃W,J (((List.range n).map (eA s)).map jX).length W H3∨D W H3) else
     ∃(x3:PUnit),∃(k4:Nat),k4<s.length - place s m∧[AV.cV b,AV.ptr (some (p,(0:Nat))),AV.ptr (some ((real Tryd.prog none).n H0,(0:Nat)))]=[AV.cV b,AV.ptr (some (p,(0:Nat))),AV.ptr (some ((real Tryd.prog none).n H0,(0:Nat)))] ∧
      ∃m W,J m W H3∧H0.n ∈ W∧(∀c ∈ W,c<H3.n)∧H3.get H0.n=some (.iter s (place s m))∧place s m≤s.length∧(∀j,j<m→place s j<s.length)∧k4=s.length - place s m:=by
   rintro v H3 ⟨k1,k2,⟨rfl,k3⟩ | ⟨rfl,k3⟩⟩
   ·refine ⟨true,rfl,(),s.length - place s (m+1),by omega,rfl,m+1,W,k3,hW,fun c hc=>?_,?_,g2,fun j hj=>?_,rfl⟩
    ·have:=cv c hc;have ND:H1.n≤H3.n:=k1;omega
    ·rw [k2 _ hW,AH.af,if_pos rfl];rfl
    ·rcases Nat.lt_or_ge j m with h | h
     ·exact h3 j h
     ·obtain rfl:j=m:=by omega
      exact hk
   ·exact ⟨false,rfl,W,.inr k3⟩
  by_cases hr:(ah s (place s m)).1=65533
  ·have e1:(((ah s (place s m)).1:Int) != 65533)=false:=by rw [hr];rfl
   rw [e1]
   have hz:=CS hr
   refine ⟨s,?_,⟨by omega,by omega,by omega⟩,?_⟩
   ·have:=hC _ _ _ MF
    simp only [aY,zL,bL,AH.ak,this];rfl
   have e2:List.take ((s.length:Int) - (place s m:Int)).toNat (List.drop (place s m:Int).toNat s)=s.drop (place s m):=by
    rw [List.take_of_length_le];rfl
    rw [List.length_drop];omega
   rw [e2]
   refine (uE _ _).dS ⟨_,rfl,?_⟩
   have e3:pre (s.drop (place s m)) [239,191,189]=tK (s.drop (place s m)):=rfl
   rw [e3]
   cases OZ:tK (s.drop (place s m)) with
   | true =>
    rw [OZ] at hz
    have iM:(ah s (place s m)).2=3:=hz
    have ea:jX (eA s m)=[AV.agg [AV.int IntKind.i64 (place s m:Int),AV.int IntKind.i64 3,AV.int IntKind.i32 ((ah s (place s m)).1:Int),AV.bool (((ah s (place s m)).1:Int) == 65533 && (3:Int) == 1)]]:=by
     simp only [jX,eA,iM];rfl
    rw [ea] at hy
    exact uI.mono hy after
   | false =>
    rw [OZ] at hz
    have iM:(ah s (place s m)).2=1:=hz
    have ea:jX (eA s m)=[AV.agg [AV.int IntKind.i64 (place s m:Int),AV.int IntKind.i64 1,AV.int IntKind.i32 ((ah s (place s m)).1:Int),AV.bool (((ah s (place s m)).1:Int) == 65533 && (1:Int) == 1)]]:=by
     simp only [jX,eA,iM];rfl
    rw [ea] at hy
    exact uI.mono hy after
  ·have e1:(((ah s (place s m)).1:Int) != 65533)=true:=by rw [bne_iff_ne];omega
   rw [e1]
   refine (xh _).dS ⟨_,rfl,?_⟩
   rw [CR hr]
   exact uI.mono hy after
 ·have:aD s m:=⟨by omega,h3⟩
  rw [this.uniq hn] at hJ
  exact ⟨W,.inl (by rw [hlen];exact hJ)⟩
theorem CZ (s:List UInt8) (H:AH) {K:AV→AH→Prop} (h:K (.func (.func 77) [] [.ptr (some (H.n,0))]) (H.alloc (.cells [.str s] 9 { whole:=true }))):az Tryd.prog 54 [.str s] H K :=
 .inl ⟨aB (by kernel_rfl),ew au (aT:=[]) (by rw [Jb];exact ⟨rfl,h⟩)⟩
end Go.Proofs.YtlkdhhkncoekgaaDoor
end
/- The first sign of a text. -/
section
namespace Go.Proofs.YtlkdhhkncoekgaaDoor
open Go.Am Go
theorem nG:(aR Tryd.prog).n=3:=by kernel_rfl
def oy (s r:List UInt8) (W:List Nat) (H:AH):Prop :=
 H.get 3=some (.cells [.str s] 9 { whole:=true })∧H.get (3+1)=some (.cells [.str r] 9 { whole:=true })∧H.get (3+2)=some (.cells [.str s] 9 { whole:=true })∧3+4<H.n ∧
 ∀c,c<3+3→c ∉ W
theorem oy.alloc {s r:List UInt8} {W:List Nat} {H:AH} (h:oy s r W H) (o:aS):oy s r (H.n :: W) (H.alloc o):=by
 obtain ⟨h1,h2,h3,h4,h5⟩:=h
 refine ⟨?_,?_,?_,?_,fun c hc hm=>?_⟩
 ·rw [AH.aa,if_neg (by omega)];exact h1
 ·rw [AH.aa,if_neg (by omega)];exact h2
 ·rw [AH.aa,if_neg (by omega)];exact h3
 ·show 3+4<H.n+1;omega
 ·rcases List.mem_cons.1 hm with rfl | hm
  ·omega
  ·exact h5 c hc hm
theorem oy.set {s r:List UInt8} {W:List Nat} {H:AH} (h:oy s r W H) {c:Nat} (hc:c ∈ W) (o:aS):oy s r W (H.set c o):=by
 obtain ⟨h1,h2,h3,h4,h5⟩:=h
 have n : ∀d,d<3+3→d ≠ c:=fun d hd e=>h5 d hd (e ▸ hc)
 refine ⟨?_,?_,?_,h4,h5⟩
 ·rw [AH.af,if_neg (n _ (by omega))];exact h1
 ·rw [AH.af,if_neg (n _ (by omega))];exact h2
 ·rw [AH.af,if_neg (n _ (by omega))];exact h3
theorem oy.but {s r:List UInt8} {W:List Nat} {H H' : AH} (h:oy s r W H) {b:Nat} (hb:3+3≤b) (k:qv b H H'):oy s r W H':=by
 obtain ⟨h1,h2,h3,h4,h5⟩:=h
 obtain ⟨k1,k2⟩:=k
 refine ⟨?_,?_,?_,by omega,h5⟩
 ·rw [k2 _ (by omega)];exact h1
 ·rw [k2 _ (by omega)];exact h2
 ·rw [k2 _ (by omega)];exact h3
theorem VG {m:Nat} {H:AH} (h:GC m H):bM [.mark m] H=some (H.set m .dead):=by
 unfold bM;rw [h];rfl
end Go.Proofs.YtlkdhhkncoekgaaDoor
end
/- Looks that all are none make no span. -/
section
namespace Go.Proofs.YtlkdhhkncoekgaaDoor
open Go.Am Go
def z1:List AV:=[.bool false,.bool false,.bool false,.bool false,.int .i64 0]
def zc:Nat→List AV
 | 0=>[]
 | n+1=>z1 ++ zc n
theorem GM:(jz Tryd.prog ext 300 99 [.slice none 0 0,.func (.func 111) [] []] (aR Tryd.prog)).map (·.1)=some (.tuple []):=by kernel_rfl
theorem Em:Pure Tryd.prog 99 [.slice none 0 0,.func (.func 111) [] []] (.tuple []) :=
 gR.oM (bH.of_run au CJ (by kernel_rfl) GM) (by kernel_rfl) rfl (by rintro v rfl;rfl)
theorem E6 (H:AH) (k:Nat) (hk:k≤5000):cK Tryd.prog H 129 (.int .i64 k) (.int .i64 k)=some (.slice (some (H.n,0)) k k,H.alloc (.cells (cR [.bool false] k) 4 {})):=by
 unfold cK
 have t1:Tryd.prog.underlying 129=some (.slice 4):=by kernel_rfl
 have t2:bX Tryd.prog 4=some 1:=by kernel_rfl
 have t3:vj Tryd.prog 4=some 1:=by kernel_rfl
 have t4:zeroOf Tryd.prog 4=some (.bool false):=by kernel_rfl
 simp only [t1,t2,t3,t4]
 rw [if_pos]
 ·simp [AV.cells]
 ·refine ⟨by omega,by omega,?_,?_,rfl,by decide,rfl⟩ <;> omega
noncomputable def zH (n:Nat):AH:=(aR Tryd.prog).alloc (.cells (zc n) 53 { own:=false,fT:=true })
end Go.Proofs.YtlkdhhkncoekgaaDoor
end
/- A text of one run without any look: no span. -/
section
namespace Go.Proofs.YtlkdhhkncoekgaaDoor
open Go.Am Go
theorem gs:Tryd.prog.globals.size=3:=nG
def Pw (n:Nat):List AV:=[.int .i64 0,.int .i64 n] ++ z1
noncomputable def rH (n:Nat):AH:=(aR Tryd.prog).alloc (.cells (Pw n) 109 { own:=false,fT:=true })
end Go.Proofs.YtlkdhhkncoekgaaDoor
end
/- Pieces without looks, laid together. -/
section
namespace Go.Proofs.YtlkdhhkncoekgaaDoor
open Go.Am Go
def V2:List (List UInt8)→List AV
 | []=>[]
 | p :: ps=>(.str p :: z1) ++ V2 ps
theorem uv : ∀s:List UInt8,cu (av s)=some s
 | []=>rfl
 | b :: s=>by
  have h:=uv s
  simp only [av,List.map_cons] at h ⊢
  simp [cu,h]
theorem CX {H:AH} {q:Option Nat} {so s:List UInt8} (hl:bI H q so.length (av so) 5) (h0:s ≠ []) (hm:so.length+s.length≤8192) :
  ∃H',bZ Tryd.prog H 39 9 (sl q so.length) (.str s)=some (sl (some H.n) (so ++ s).length,H')∧H'.n=H.n+1∧bI H' (some H.n) (so ++ s).length (av (so ++ s)) 5∧∀c,c<H.n→q ≠ some c→H'.get c=H.get c:=by
 have h:=rj (P:=Tryd.prog) (H:=H) (st:=39) (xt:=9) (e:=5) (xd:=.string) (s:=1) (mT:=1) (m:=so.length) (n:=s.length) (q:=q) (old:=av so) (new:=av s) (y:=.str s) (z:=.int .u8 0)
  (by kernel_rfl) (by kernel_rfl) (fun k h=>by cases h) (by kernel_rfl) (by kernel_rfl) (by kernel_rfl) rfl (by decide) rfl (by simp [av,AV.one]) (List.length_pos_iff.2 h0) hl (by simp [av]) (by omega)
 rw [← List.length_append] at h
 have e:av so ++ av s=av (so ++ s):=by simp [av]
 rw [e] at h
 exact h
noncomputable def pH (ps:List (List UInt8)):AH:=(aR Tryd.prog).alloc (.cells (V2 ps) 79 { own:=false,fT:=true })
end Go.Proofs.YtlkdhhkncoekgaaDoor
end

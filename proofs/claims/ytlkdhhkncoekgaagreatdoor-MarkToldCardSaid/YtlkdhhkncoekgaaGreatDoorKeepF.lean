/- mark.Keep: what is kept of a right text, how many signs, line ends, looks are not. -/
import Derived.Test.YtlkdhhkncoekgaaGreatDoorKeepE
namespace Go.Proofs.YtlkdhhkncoekgaaGreatDoor
open Go.Am Go
abbrev dw (v:AV) (e:TypeId):aY:=.cells [v] e { whole:=true }
structure KS (h t e:Nat) (R:AH) (l:cT) (sg en:Nat) (q:Option Nat) (cs:List Nat) (K:AH):Prop where
 sg:K.get (h+4)=some (dw (.int .i64 (sg:Int)) 3)
 en:K.get (h+5)=some (dw (.int .i64 (en:Int)) 3)
 tl:K.get t=some (dw (sl q l.length) 56)
 tn:K.get (t+1)=some (dw (.int .i64 (l.length:Int)) 3)
 yT:bQ K q l.length (flat bz l) 65
 qb : ∀b,q=some b→e≤b∧b<K.n∧b ∉ cs
 qV:e+2≤K.n
 cs : ∀c ∈ cs,e≤c
 old : ∀c,c<e→c ≠ h+4→c ≠ h+5→c ≠ t→c ≠ t+1→K.get c=R.get c
section
variable {h t e:Nat} {R:AH} {l:cT} {sg en:Nat} {q:Option Nat} {cs:List Nat} {K K' : AH}
theorem KS.ext (x:KS h t e R l sg en q cs K) (ht:h+5<t∧t+1<e) (hn:K.n≤K'.n) (g : ∀c,c<K.n→c ∉ cs→K'.get c=K.get c):KS h t e R l sg en q cs K':=by
 have lo : ∀c,c<e→K'.get c=K.get c:=fun c hc=>g c (by have:=x.qV;omega) fun hm=>by have:=x.cs c hm;omega
 refine ⟨by rw [lo _ (by omega)];exact x.sg,by rw [lo _ (by omega)];exact x.en,by rw [lo _ (by omega)];exact x.tl,by rw [lo _ (by omega)];exact x.tn,x.yT.same fun b hb=>g b (x.qb b hb).2.1 (x.qb b hb).2.2,fun b hb=>?_,by have:=x.qV;omega,x.cs,fun c h1 h2 h3 h4 h5=>by rw [lo c h1];exact x.old c h1 h2 h3 h4 h5⟩
 have:=x.qb b hb
 exact ⟨this.1,by omega,this.2.2⟩
theorem KS.more (x:KS h t e R l sg en q cs K) {c0:Nat} (h1:e≤c0) (h2 : ∀b,q=some b→b ≠ c0):KS h t e R l sg en q (c0 :: cs) K:=by
 refine ⟨x.sg,x.en,x.tl,x.tn,x.yT,fun b hb=>⟨(x.qb b hb).1,(x.qb b hb).2.1,fun hm=>?_⟩,x.qV,fun c hc=>?_,x.old⟩
 ·rcases List.mem_cons.1 hm with e | hm
  ·exact h2 b hb e
  ·exact (x.qb b hb).2.2 hm
 ·rcases List.mem_cons.1 hc with rfl | hc
  ·exact h1
  ·exact x.cs c hc
theorem KS.Qg (x:KS h t e R l sg en q cs K) (ht:h+5<t∧t+1<e) (m:Nat):KS h t e R l m en q cs (K.set (h+4) (dw (.int .i64 (m:Int)) 3)):=by
 refine ⟨by rw [AH.af,if_pos rfl],by rw [AH.af,if_neg (by omega)];exact x.en,by rw [AH.af,if_neg (by omega)];exact x.tl,by rw [AH.af,if_neg (by omega)];exact x.tn,x.yT.same fun b hb=>by have:=x.qb b hb;rw [AH.af,if_neg (by omega)],by simpa using x.qb,by simpa using x.qV,x.cs,fun c h1 h2 h3 h4 h5=>by rw [AH.af,if_neg h2];exact x.old c h1 h2 h3 h4 h5⟩
theorem KS.Qh (x:KS h t e R l sg en q cs K) (ht:h+5<t∧t+1<e) (m:Nat):KS h t e R l sg m q cs (K.set (h+5) (dw (.int .i64 (m:Int)) 3)):=by
 refine ⟨by rw [AH.af,if_neg (by omega)];exact x.sg,by rw [AH.af,if_pos rfl],by rw [AH.af,if_neg (by omega)];exact x.tl,by rw [AH.af,if_neg (by omega)];exact x.tn,x.yT.same fun b hb=>by have:=x.qb b hb;rw [AH.af,if_neg (by omega)],by simpa using x.qb,by simpa using x.qV,x.cs,fun c h1 h2 h3 h4 h5=>by rw [AH.af,if_neg h3];exact x.old c h1 h2 h3 h4 h5⟩
end
theorem jG {K:AH} {b:Nat} {v w:AV} {e:TypeId} (h:K.get b=some (dw v e)) (hw:w.one=true):K.write b 0 [w]=some (K.set b (dw w e)):=by
 unfold AH.write
 rw [h]
 simp [aA,hw]
theorem cG {K:AH} {b:Nat} {v:AV} {e:TypeId} (h:K.get b=some (dw v e)):K.ak b 0=some v:=by unfold AH.ak;rw [h];rfl
theorem Ky (b:List UInt8) (bl:Bool) (l:cT) (xX:List UInt8) (h:l ≠ []→bI l=(xX == [10])):(b == [10] && !bl && (((l.length:Nat):Int) == 0 || xX == [10]))=(b == [10] && !bl && (l.isEmpty || bI l)):=by
 cases l with
 | nil=>rfl
 | cons p l =>
  have e1:((((p :: l).length:Nat):Int) == 0)=false:=by rw [beq_eq_false_iff_ne];simp;omega
  rw [e1,h (by simp)];rfl
theorem wP {l:cT} (h:0<l.length):bI l=(l[l.length - 1].1 == [10]):=by
 unfold bI
 rw [List.getLast?_eq_getElem?,List.getElem?_eq_getElem (by omega)]
theorem wN {K:AH} {b:Nat} {l:cT} (hb:K.get b=some (.cells (flat bz l) 65 { fD:=true })) (h:0<l.length) (hl:l.length≤8000):K.ak b (0+(IntKind.i64.wrap ((l.length:Int) - 1)).toNat*6+0)=some (.str l[l.length - 1].1):=by
 rw [wrap_i64 (by omega) (by omega),show (((l.length:Int) - 1).toNat)=l.length - 1 by omega]
 have:=kG cL hb (i:=l.length - 1) (k:=0) (by omega) (by decide)
 rw [this];rfl
theorem EP (L:List aj) (h:L.length≤100000):xD (bt L) (aR (bt L)):=by
 refine ER ?_ (z8 L)
 have:=iS L 5
 show (ax L 5).1.length≤_
 omega
theorem AR {so:List av} {n:Int} (hf : ∀x ∈ so,dJ x n=true) (hx : ∀x ∈ so,∀y ∈ so,bA x y=false) (i:Int):yA (bw so i).c:=by
 rcases qw hx i with ⟨_,h⟩ | ⟨m,h1,h2⟩
 ·rw [h];exact ⟨by decide,by decide⟩
 ·rw [h2]
  have:=hf (br so m) (by rw [fI h1.lt];exact List.getElem_mem _)
  have hc:=h1.Jw
  unfold dJ at this
  unfold jc at hc
  simp only [Bool.and_eq_true,Bool.not_eq_true',beq_eq_false_iff_ne] at hc
  obtain ⟨⟨⟨c1,c2⟩,c3⟩,c4⟩:=hc
  cases h3:(decide ((br so m).f<0) || decide ((br so m).t > n) || decide ((br so m).f≥(br so m).t) || decide ((br so m).k<1) || decide ((br so m).k > 5)) with
  | true=>rw [h3] at this;cases this
  | false =>
   rw [h3] at this
   simp only [Bool.or_eq_false_iff,decide_eq_false_iff_not] at h3
   have h5:((br so m).k == 5)=true:=by rw [beq_iff_eq];omega
   rw [h5] at this
   simp only [cond_false,cond_true,Bool.and_eq_true,decide_eq_true_eq] at this
   exact ⟨by omega,by omega⟩
def EE (H:AH) (x:cT×Nat) (sg en:Nat) (v:AV) (H' : AH):Prop :=
 ∃(er:Int) (S:List UInt8) (sp:List av) (q:Option Nat),v=.tuple [.agg [.str S,sl q sp.length],.int .i64 (bif er == 0 then (sg:Int) else 0),.int .i64 (bif er == 0 then (en:Int) else 0),.int .i64 (bif er == 0 then (x.2:Int) else 0),.int .i64 er] ∧
  ((4096<(aH x.1).length∧er=3∧S=[]∧sp=[])∨((aH x.1).length≤4096∧er=Jr (aR (bt (x.1.map Prod.snd)))∧S=Ci (aR (bt (x.1.map Prod.snd))) (aH x.1)∧sp=lS (aR (bt (x.1.map Prod.snd))))) ∧
  bQ H' q sp.length (flat av.cells sp) 54∧(∀c,q=some c→H.n≤c∧c<H'.n)∧H.n≤H'.n∧∀c,c<H.n→H'.get c=H.get c
structure NF (h:Nat) (d:Int) (bl:Bool) (s:List UInt8) (q2:Option (Nat×Nat)) (k c:Nat) (R:AH):Prop where
 d:R.get h=some (dw (.int .i64 d) 3)
 tx:R.get (h+1)=some (.cells [.str s,.slice q2 k c] 24 { whole:=true })
 bl:R.get (h+2)=some (dw (.bool bl) 4)
 kept:R.get (h+3)=some (.cells [.str [],.slice none 0 0] 24 { whole:=true })
section
variable (h:Nat) (d:Int) (bl:Bool) (s:List UInt8) (q2:Option (Nat×Nat)) (k c:Nat) (L:Nat→aj) (n:Nat)
def SM (t:Nat) (R:AH) (z1 z2:AV):Prop:=∃p r b,z1=.ptr (some (p,0))∧z2=.ptr (some (r,0))∧EC s q2 k c L n p r b R∧(t+2≤p∧p<R.n)∧(t+2≤r∧r<R.n)∧(t+2≤b∧b<R.n)
def Po (z:AV×AV×Nat×AH) (K:AH):Prop:=∃p r b,z.1=.ptr (some (p,0))∧z.2.1=.ptr (some (r,0))∧z.2.2.2.get r=some (.cells [.slice (some (b,0)) n n] 83 { whole:=true })∧EC s q2 k c L n p r b K
def DC (z:AV×AV×Nat×AH) (i:Nat) (cs:List Nat) (K:AH):Prop :=
 (z.2.2.2.n+1 ∈ cs∧z.2.2.2.n ∈ cs)∧SM s q2 k c L n z.2.2.1 z.2.2.2 z.1 z.2.1∧(h+5<z.2.2.1∧z.2.2.1+1<z.2.2.2.n)∧NF h d bl s q2 k c z.2.2.2∧∃q,KS h z.2.2.1 z.2.2.2.n z.2.2.2 (eC d bl s L i).l (eC d bl s L i).sg (eC d bl s L i).en q cs K
end
section
variable {h:Nat} {d:Int} {bl:Bool} {s:List UInt8} {q2:Option (Nat×Nat)} {k c:Nat} {L:Nat→aj} {n:Nat}
theorem DC.cap {z:AV×AV×Nat×AH} {i:Nat} {cs:List Nat} {K:AH} (x:DC h d bl s q2 k c L n z i cs K):Po s q2 k c L n z K:=by
 obtain ⟨_,⟨p,r,b,e1,e2,⟨g1,g2,g3⟩,l1,l2,l3⟩,hh,hb,q,y⟩:=x
 have old : ∀c,z.2.2.1+2≤c→c<z.2.2.2.n→K.get c=z.2.2.2.get c:=fun c h1 h2=>y.old c h2 (by omega) (by omega) (by omega) (by omega)
 exact ⟨p,r,b,e1,e2,g2,(old p l1.1 l1.2).trans g1,(old r l2.1 l2.2).trans g2,(old b l3.1 l3.2).trans g3⟩
theorem DC.closed (z:AV×AV×Nat×AH):tq (DC h d bl s q2 k c L n z) (fun _ _ _=>False) (Po s q2 k c L n z) where
 s1:=fun i W K o x=>by
  obtain ⟨h0,h1,hh,hb,q,y⟩:=x
  have y2:KS h z.2.2.1 z.2.2.2.n z.2.2.2 (eC d bl s L i).l (eC d bl s L i).sg (eC d bl s L i).en q W (K.alloc o):=y.ext hh (by simp) fun c hc _=>by rw [AH.aa,if_neg (by omega)]
  exact ⟨⟨List.mem_cons_of_mem _ h0.1,List.mem_cons_of_mem _ h0.2⟩,h1,hh,hb,q,y2.more (by have:=y.qV;omega) fun b hb=>by have:=y.qb b hb;omega⟩
 s2:=fun i W K c o hc x=>by
  obtain ⟨h0,h1,hh,hb,q,y⟩:=x
  exact ⟨h0,h1,hh,hb,q,y.ext hh (by simp) fun b _ hb=>by rw [AH.af,if_neg (fun e=>hb (by rw [e];exact hc))]⟩
 s3:=fun _ _ _ _ x=>x.elim
 s4:=fun _ _ _ _ _ _ x=>x.elim
 cap:=fun i W K x=>x.cap
end
theorem Iter.less {P:Program} {gf:FuncId} {x y:List AV} {Cap SS:AH→Prop} {xs:List (List AV)} (h:Iter P gf x y Cap xs) (hc : ∀K,SS K→Cap K):Iter P gf x y SS xs :=
 fun b J D H0 hb a1 a2 a3 a4 hC=>h b J D H0 hb a1 a2 a3 a4 fun i W H hJ=>hc _ (hC i W H hJ)
theorem BJ (x t:cT) (a e:Nat) (hae:a≤e) (h:e≤x.length):sL (x ++ t) a e=sL x a e:=by
 have lk : ∀i,i<x.length→ga (x ++ t) i=ga x i:=fun i hi=>by unfold ga;rw [List.getElem?_append_left hi]
 have tt : ∀m,a+m<x.length→fW (x ++ t) a m=fW x a m:=by
  intro m
  induction m with
  | zero=>intro hm;exact lk a (by omega)
  | succ m ih =>
   intro hm
   unfold fW
   rw [ih (by omega),lk _ (by omega)]
 unfold sL
 by_cases he:a=e
 ·rw [if_pos he,if_pos he]
 ·rw [if_neg he,if_neg he,tt _ (by omega)]
theorem xS (K:AH) (q:Option Nat) (i k c:Nat) (h:i≤k) (hc:k≤c):bZ Tryz.prog K 56 (.slice (q.map fun b=>(b,0)) k c) none (some (.int .i64 (i:Int))) none=some (.slice (q.map fun b=>(b,0)) i c):=by
 have t1:Tryz.prog.underlying 56=some (.slice 65):=by kernel_rfl
 have t2:bY Tryz.prog 65=some 6:=by kernel_rfl
 unfold bZ
 simp only [t1,t2,eS,Option.bind_some,Option.map_some]
 rw [if_pos (Int.natCast_nonneg _),Int.toNat_natCast]
 simp only [Option.bind_some]
 rw [if_pos ⟨Nat.zero_le _,by omega,by omega,fun e=>by cases e⟩]
 cases q <;> simp
theorem KV {K:AH} {b a i:Nat} {y:cT} {fl:Fl} (h:K.get b=some (.cells (flat bz y) 65 fl)) (hi:a+i<y.length):K.read b (a*6+((i:Nat):Int).toNat*6+1) 5=some y[a+i].2.cells:=by
 have:=iL cL h hi (k:=1) (m:=5) (by decide)
 rw [Int.toNat_natCast,show a*6+i*6+1=0+(a+i)*6+1 by omega,this]
 rfl
theorem Ig {K:AH} {b a i:Nat} {y:cT} (h:K.get b=some (.cells (flat bz y) 65 { fD:=true })) (hi:a+i<y.length) (c:aj):K.write b (a*6+((i:Nat):Int).toNat*6+1) c.cells=some (K.set b (.cells (flat bz (y.set (a+i) (y[a+i].1,c))) 65 { fD:=true })):=by
 have:=kA cL h rfl rfl hi (k:=1) (vs:=c.cells) (y:=(y[a+i].1,c)) (by rw [aj.ay];decide) c.dz (by simp [aA,bz,aj.cells])
 rw [Int.toNat_natCast,show a*6+i*6+1=0+(a+i)*6+1 by omega,this]
theorem uY : ∀ {ps:List (Nat×Nat)} {a b:Nat} (j:Nat),nV a ps b→j≤ps.length→∃m,nV a (ps.take j) m∧nV m (ps.drop j) b
 | _,a,_,0,h,_=>⟨a,rfl,h⟩
 | p :: ps,a,b,j+1,h,hj=>by
  obtain ⟨m,h1,h2⟩:=uY j h.2.2 (by simpa using hj)
  exact ⟨m,⟨h.1,h.2.1,h1⟩,h2⟩
theorem Jx (p:Nat→Bool) : ∀n,cnt p n≤n
 | 0=>Nat.le_refl _
 | n+1=>by rw [p4];have:=Jx p n;cases p n <;> simp only [cond_true,cond_false] <;> omega
theorem Hw (a b:aj):(a.b == b.b && (a.i == b.i && (a.u == b.u && (a.k == b.k && (a.c == b.c && true)))))=dF a b:=by unfold dF;simp [Bool.and_assoc]
theorem KX {l:cT} {j:Nat} (d:Int) (hj:j<(parts l).length):(parts l)[j].1≤(parts l)[j].2∧(parts l)[j].2≤l.length∧PI l (parts l)[j].1 (((parts l).take j).foldl (fZ d) (l,0)):=by
 obtain ⟨m,h1,h2⟩:=uY j (rK l) (by omega)
 rw [List.drop_eq_getElem_cons hj] at h2
 obtain ⟨e1,e2,e3⟩:=h2
 have:=uZ e3
 refine ⟨e2,by omega,?_⟩
 rw [e1]
 exact PI.lines d h1 (by omega) (PI.start l)
set_option maxHeartbeats 2000000 in
set_option maxRecDepth 100000 in
theorem Pn (d:Int) (hd:1≤d∧d≤4) (s:List UInt8) (n:Nat) (hn:aE s n) (hs:s.length≤4096) {so:List av} (hl:so.length≤256) (hf : ∀x ∈ so,dJ x n=true) (hx : ∀x ∈ so,∀y ∈ so,bA x y=false) (bl:Bool) {H:AH} {q:Option Nat} {cp:Nat} (hq:fE H q cp so) :
  aD Tryz.prog 10 [.int .i64 d,.agg [.str s,.slice (q.map fun b=>(b,0)) so.length cp],.bool bl] H fun v H' =>
   EE H (iO d (dB bl (eC d bl s (fun i:Nat=>bw so (i:Int)) n)).l) (dB bl (eC d bl s (fun i:Nat=>bw so (i:Int)) n)).sg (dB bl (eC d bl s (fun i:Nat=>bw so (i:Int)) n)).en v H':=by
 have C4:n≤s.length:=by have:=dr hn.2;have:=hn.1;omega
 obtain ⟨L,hL⟩ : ∃L:Nat→aj,L=fun i:Nat=>bw so (i:Int):=⟨_,rfl⟩
 rw [← hL]
 obtain ⟨Q,hQ⟩ : ∃Q:AV→AH→Prop,Q=fun v H'=>EE H (iO d (dB bl (eC d bl s L n)).l) (dB bl (eC d bl s L n)).sg (dB bl (eC d bl s L n)).en v H':=⟨_,rfl⟩
 rw [← hQ]
 obtain ⟨E0,De⟩ : ∃E0,E0=(((((H.alloc (.cells [.int .i64 d] 3 { whole:=true })).alloc (.cells [.str s,.slice (q.map fun b=>(b,0)) so.length cp] 24 { whole:=true })).alloc (.cells [.bool bl] 4 { whole:=true })).alloc (.cells [.str [],.slice none 0 0] 24 { whole:=true })).alloc (.cells [.int .i64 0] 3 { whole:=true })).alloc (.cells [.int .i64 0] 3 { whole:=true }):=⟨_,rfl⟩
 have en:E0.n=H.n+6:=by rw [De];simp only [AH.az]
 have eo : ∀c,c<H.n→E0.get c=H.get c:=fun c hc=>by
  rw [De]
  simp only [AH.aa,AH.az]
  repeat rw [if_neg (by omega)]
 have e0:E0.get H.n=some (dw (.int .i64 d) 3):=by
  rw [De];simp only [AH.aa,AH.az]
  rw [if_neg (by omega),if_neg (by omega),if_neg (by omega),if_neg (by omega),if_neg (by omega),if_pos trivial]
 have e1:E0.get (H.n+1)=some (.cells [.str s,.slice (q.map fun b=>(b,0)) so.length cp] 24 { whole:=true }):=by
  rw [De];simp only [AH.aa,AH.az]
  rw [if_neg (by omega),if_neg (by omega),if_neg (by omega),if_neg (by omega),if_pos trivial]
 have e2:E0.get (H.n+2)=some (dw (.bool bl) 4):=by
  rw [De];simp only [AH.aa,AH.az]
  rw [if_neg (by omega),if_neg (by omega),if_neg (by omega),if_pos trivial]
 have e3:E0.get (H.n+3)=some (.cells [.str [],.slice none 0 0] 24 { whole:=true }):=by
  rw [De];simp only [AH.aa,AH.az]
  rw [if_neg (by omega),if_neg (by omega),if_pos trivial]
 have e4:E0.get (H.n+4)=some (dw (.int .i64 0) 3):=by
  rw [De];simp only [AH.aa,AH.az]
  rw [if_neg (by omega),if_pos trivial]
 have e5:E0.get (H.n+5)=some (dw (.int .i64 0) 3):=by
  rw [De];simp only [AH.aa,AH.az]
  rw [if_pos trivial]
 have dd:(decide (d<1) || decide (d > 4))=false:=by rw [Bool.or_eq_false_iff,decide_eq_false_iff_not,decide_eq_false_iff_not];omega
 have Q2:(Jq s L n).length=n:=by unfold Jq;rw [List.length_map,List.length_range]
 have Zu : ∀i x,(Jq s L n)[i]? = some x→i<n∧x=(eH s i,S7 (L i)):=fun i x hx=>by
  have hi:i<(Jq s L n).length:=by rw [List.getElem?_eq_some_iff] at hx;exact hx.1
  rw [List.getElem?_eq_getElem hi] at hx
  refine ⟨by omega,(Option.some.inj hx).symm.trans ?_⟩
  simp only [Jq,List.getElem_map,List.getElem_range]
 refine .inl ⟨aB (by kernel_rfl),bP (aS:=_) (c9:=_) aq (Eq.mpr (Lp (real Tryz.prog) (Iter Tryz.prog) d s (q.map fun b=>(b,0)) so.length cp bl H Q (Jq s L n) (Po s (q.map fun b=>(b,0)) so.length cp L n) (DC H.n d bl s (q.map fun b=>(b,0)) so.length cp L n) (fun _ _ _ _=>False)) ?_)⟩
 simp only [bu,aU,aQ,aP,aF,aK,bU,eR,jY,DM,AH.az,Nat.add_assoc,Nat.reduceAdd]
 simp only [← De]
 have WI:E0.ak H.n 0=some (.int .i64 d):=cG e0
 refine ⟨(by trivial),(by trivial),(by trivial),d,WI,d,WI,?_⟩
 rw [dd]
 simp only [cond_false]
 have Xv:fE E0 q cp so:=hq.eA (by omega) eo
 refine ⟨s,q.map fun b=>(b,0),so.length,cp,by unfold AH.read;rw [e1];rfl,?_⟩
 refine (Ah s n hn hs hl hf hx Xv).mono ?_
 rintro v B ⟨rfl,bn,bo⟩
 refine ⟨0,rfl,?_⟩
 have n0:((0:Int) != 0)=false:=by decide
 simp only [n0,cond_false]
 obtain ⟨C,hC⟩ : ∃C,C=((B.alloc (.cells [.slice none 0 0] 56 { whole:=true })).alloc (.cells [.int .i64 0] 3 { whole:=true })).set (B.n+1) (.cells [.int .i64 0] 3 { whole:=true }):=⟨_,rfl⟩
 have cn:C.n=B.n+2:=by rw [hC];simp only [AH.bq,AH.az]
 have co : ∀c,c<B.n→C.get c=B.get c:=fun c hc=>by rw [hC,AH.af,if_neg (by omega),AH.aa,if_neg (by simp only [AH.az];omega),AH.aa,if_neg (by omega)]
 have c0:C.get B.n=some (dw (.slice none 0 0) 56):=by rw [hC,AH.af,if_neg (by omega),AH.aa,if_neg (by simp only [AH.az];omega),AH.aa,if_pos rfl]
 have c1:C.get (B.n+1)=some (dw (.int .i64 0) 3):=by rw [hC,AH.af,if_pos rfl]
 have ce : ∀c,c<E0.n→C.get c=E0.get c:=fun c hc=>(co c (by omega)).trans (bo c hc)
 refine ⟨(by trivial),C,by rw [hC];simp [AH.write,AH.aa,aA,AV.one],s,q.map fun b=>(b,0),so.length,cp,by unfold AH.read;rw [ce _ (by omega),e1];rfl,?_⟩
 refine (Hy s n hn hs hl hf hx (Xv.eA (by omega) ce)).mono ?_
 rintro v D ⟨p,r,b,rfl,VL,lp,lr,lb,dn,L8⟩
 rw [← hL] at VL
 have de : ∀c,c<E0.n→D.get c=E0.get c:=fun c hc=>(L8 c (by omega)).trans (ce c hc)
 have dI:NF H.n d bl s (q.map fun b=>(b,0)) so.length cp D:=⟨by rw [de _ (by omega)];exact e0,by rw [de _ (by omega)];exact e1,by rw [de _ (by omega)];exact e2,by rw [de _ (by omega)];exact e3⟩
 refine ⟨_,rfl,(.ptr (some (p,0)),.ptr (some (r,0)),B.n,D),rfl,?_,DC.closed _,fun _=>rfl,?_,?_,?_,?_⟩
 ·refine Iter.less (xV s n hn hs (q.map fun b=>(b,0)) so.length cp L p r b) ?_
  rintro K ⟨p',r',b',x1,x2,x3,x4⟩
  cases x1;cases x2
  have x5:=VL.2.1.symm.trans x3
  cases x5
  exact x4
 ·rintro K ⟨kn,kg,_⟩
  exact ⟨⟨List.mem_cons_self,List.mem_cons_of_mem _ List.mem_cons_self⟩,⟨p,r,b,rfl,rfl,VL,⟨by show B.n+2≤p;omega,lp.2⟩,⟨by show B.n+2≤r;omega,lr.2⟩,⟨by show B.n+2≤b;omega,lb.2⟩⟩,⟨by show H.n+5<B.n;omega,by show B.n+1<D.n;omega⟩,dI,none,
   ⟨by rw [kg _ (by omega),de _ (by omega)];exact e4,by rw [kg _ (by omega),de _ (by omega)];exact e5,by rw [kg _ (by simp only;omega),L8 _ (by simp only;omega)];exact c0,by rw [kg _ (by simp only;omega),L8 _ (by simp only;omega)];exact c1,⟨rfl,rfl⟩,(fun b hb=>by cases hb),by simp only;omega,
    (fun c hc=>by simp only [List.mem_cons,List.mem_nil_iff,or_false] at hc;simp only;omega),fun c hc _ _ _ _=>kg c hc⟩⟩
 ·
  rintro i cs K x hx ⟨lE,hh,cu,_,q',PU⟩ OZ hIn
  obtain ⟨hi,rfl⟩:=Zu i x hx
  simp only at cu PU
  have Xx:=hn.2 i hi
  have jN:=cw s _ Xx
  obtain ⟨P,hP⟩ : ∃P,P=place s i:=⟨_,rfl⟩
  obtain ⟨Z,hZ⟩ : ∃Z,Z=(ah s (place s i)).2:=⟨_,rfl⟩
  simp only [eH,S7]
  rw [← hP] at Xx jN ⊢
  rw [← hP] at hZ
  rw [← hZ] at jN ⊢
  have hDn:D.n+1<K.n:=OZ _ hIn
  obtain ⟨F,hF⟩ : ∃F,F=(K.alloc (.cells [.int .i64 0,.int .i64 0,.int .i32 0,.bool false] 61 { whole:=true })).set K.n (.cells [.int .i64 P,.int .i64 Z,.int .i32 (ah s P).1,.bool (((ah s P).1:Int) == 65533 && (Z:Int) == 1)] 61 { whole:=true }):=⟨_,rfl⟩
  obtain ⟨G,hG⟩ : ∃G,G=(F.alloc (.cells [.bool false,.bool false,.bool false,.bool false,.int .i64 0] 63 { whole:=true })).set F.n (.cells (L i).cells 63 { whole:=true }):=⟨_,rfl⟩
  have fn:F.n=K.n+1:=by rw [hF];simp only [AH.bq,AH.az]
  have gn:G.n=K.n+2:=by rw [hG];simp only [AH.bq,AH.az];omega
  have fo : ∀c,c<K.n→F.get c=K.get c:=fun c hc=>by rw [hF,AH.af,if_neg (by omega),AH.aa,if_neg (by omega)]
  have go : ∀c,c<K.n→G.get c=K.get c:=fun c hc=>by rw [hG,AH.af,if_neg (by omega),AH.aa,if_neg (by omega),fo c hc]
  have g0:G.get K.n=some (.cells [.int .i64 P,.int .i64 Z,.int .i32 (ah s P).1,.bool (((ah s P).1:Int) == 65533 && (Z:Int) == 1)] 61 { whole:=true }):=by rw [hG,AH.af,if_neg (by omega),AH.aa,if_neg (by omega),hF,AH.af,if_pos rfl]
  have g1:G.get (K.n+1)=some (.cells (L i).cells 63 { whole:=true }):=by rw [hG,AH.af,if_pos (by omega)]
  refine ⟨rfl,F,by rw [hF];simp [AH.write,AH.aa,aA,AV.one],rfl,G,by rw [hG];simp [AH.write,AH.aa,aA,AV.one,aj.cells],⟨by omega,fun c hc=>go c (OZ c hc)⟩,?_⟩
  intro M hM
  have mn:M.n=K.n+2:=hM.n.trans gn
  have mo : ∀c,c<K.n→c ≠ D.n+1→M.get c=K.get c:=fun c hc dm=>(hM.get c dm).trans (go c hc)
  have m0:M.get K.n=_:=(hM.get _ (by omega)).trans g0
  have m1:M.get (K.n+1)=_:=(hM.get _ (by omega)).trans g1
  have R9:KS H.n B.n D.n D (eC d bl s L i).l (eC d bl s L i).sg (eC d bl s L i).en q' cs M:=PU.ext (by omega) (by omega) fun c hc XD=>mo c hc fun e=>XD (by rw [e];exact hIn)
  have mD : ∀c,c<H.n+4→M.get c=D.get c:=fun c hc=>R9.old c (by omega) (by omega) (by omega) (by omega) (by omega)
  have mt:M.get (H.n+1)=_:=(mD _ (by omega)).trans dI.tx
  have md:M.get H.n=_:=(mD _ (by omega)).trans dI.d
  have mb:M.get (H.n+2)=_:=(mD _ (by omega)).trans dI.bl
  have w:IntKind.i64.wrap ((P:Int)+(Z:Int))=((P+Z:Nat):Int):=by rw [wrap_i64 (by omega) (by omega)];omega
  have hB:List.take (((P+Z:Nat):Int) - (P:Int)).toNat (List.drop ((P:Int)).toNat s)=qg s i:=by
   rw [show (((P+Z:Nat):Int) - (P:Int)).toNat=Z by omega,Int.toNat_natCast,hZ,hP];rfl
  have rs:M.ak (H.n+1) 0=some (.str s):=by unfold AH.ak;rw [mt];rfl
  have rp:M.ak K.n 0=some (.int .i64 P):=by unfold AH.ak;rw [m0];rfl
  have rz:M.ak K.n 1=some (.int .i64 Z):=by unfold AH.ak;rw [m0];rfl
  have rl:M.read F.n 0 5=some (L i).cells:=by rw [fn];unfold AH.read;rw [m1];rfl
  obtain ⟨M2,TA⟩ : ∃M2,M2=M.alloc (.cells [.str [],.bool false,.bool false,.bool false,.bool false,.int .i64 0] 65 { whole:=true }):=⟨_,rfl⟩
  have o2 : ∀c,c<M.n→M2.get c=M.get c:=fun c hc=>by rw [TA,AH.aa,if_neg (by omega)]
  have Y5:M2.ak (H.n+1) 0=some (.str s):=by unfold AH.ak;rw [o2 _ (by omega),mt];rfl
  have WC:M2.ak K.n 0=some (.int .i64 P):=by unfold AH.ak;rw [o2 _ (by omega),m0];rfl
  have Y2:M2.ak K.n 1=some (.int .i64 Z):=by unfold AH.ak;rw [o2 _ (by omega),m0];rfl
  have Y6:M2.read F.n 0 5=some (L i).cells:=by rw [fn];unfold AH.read;rw [o2 _ (by omega),m1];rfl
  rw [← TA]
  refine ⟨s,rs,P,rp,P,rp,Z,rz,?_⟩
  rw [w]
  have bd:(0:Int)≤(P:Int)∧(P:Int)≤((P+Z:Nat):Int)∧((P+Z:Nat):Int)≤(s.length:Int):=by omega
  refine ⟨bd,(L i).b,(L i).i,(L i).u,(L i).k,(L i).c,rl,⟨_,_,_,_,_,Y6,rfl⟩,⟨bd,(by trivial)⟩,⟨_,Y2,rfl⟩,⟨_,WC,rfl⟩,⟨_,WC,rfl⟩,⟨_,Y5,rfl⟩,rfl,?_⟩
  rw [hB]
  have OW:=KI.all (d:=d) (bl:=bl) (L:=L) hn (m:=i) (by omega)
  obtain ⟨X,hX⟩ : ∃X,X=eC d bl s L i:=⟨_,rfl⟩
  rw [← hX] at R9 OW
  have Vv:=OW.count
  have UQ:=OW.Ac
  obtain ⟨NU,Lw⟩ : ∃NU,NU=X.sg+(if (gM d (ig s i)).isSome then 1 else 0):=⟨_,rfl⟩
  obtain ⟨N,hN⟩ : ∃N,N=M2.set M.n (.cells (bz (qg s i,L i)) 65 { whole:=true }):=⟨_,rfl⟩
  have nn:N.n=K.n+3:=by rw [hN,TA];simp only [AH.bq,AH.az];omega
  have no : ∀c,c<M.n→N.get c=M.get c:=fun c hc=>by rw [hN,AH.af,if_neg (by omega),o2 c hc]
  have WV:N.get M.n=some (.cells (bz (qg s i,L i)) 65 { whole:=true }):=by rw [hN,AH.af,if_pos rfl]
  have hKN:KS H.n B.n D.n D X.l X.sg X.en q' cs N:=R9.ext (by omega) (by omega) fun c hc _=>no c hc
  have TM : ∀c ∈ cs,c<M.n:=fun c hc=>by have:=OZ c hc;omega
  have TN : ∀c ∈ cs,D.n≤c:=R9.cs
  refine ⟨N,by rw [hN,TA];simp [AH.write,AH.aa,aA,AV.one,bz,aj.cells],fun y K'=>y=(H.n+2,H.n+5,B.n,B.n+1,M.n)∧M.n<K'.n∧K'.get M.n=some (.cells (bz (bJ d s i,L i)) 65 { whole:=true })∧KS H.n B.n D.n D X.l NU X.en q' cs K'∧(∀c ∈ cs,K'.get c=M.get c),
   ⟨d,by unfold AH.ak;rw [no _ (by omega),md];rfl,(ah s P).1,by unfold AH.ak;rw [no _ (by omega),m0];rfl,?_⟩,?_⟩
  ·refine (EX d (ah s P).1).c7 ⟨_,_,rfl,?_⟩
   have hr:((ah s P).1:Int)=ig s i:=by rw [hP];rfl
   rw [hr]
   cases hk:gM d (ig s i) with
   | none =>
    have Vc:bJ d s i=qg s i:=by unfold bJ;rw [hk];rfl
    have:NU=X.sg:=by rw [Lw,hk];rfl
    simp only [Option.isNone_none,Bool.not_true,cond_false]
    exact ⟨(H.n+2,H.n+5,B.n,B.n+1,M.n),0,trivial,rfl,rfl,by omega,by rw [Vc];exact WV,by rw [this];exact hKN,fun c hc=>no c (TM c hc)⟩
   | some u =>
    have Vc:bJ d s i=u:=by unfold bJ;rw [hk];rfl
    have GK:NU=X.sg+1:=by rw [Lw,hk];rfl
    simp only [Option.isNone_some,Option.getD_some,Bool.not_false,cond_true]
    obtain ⟨N3,Tz⟩ : ∃N3,N3=N.set M.n (.cells (bz (u,L i)) 65 { whole:=true }):=⟨_,rfl⟩
    have n3:N3.get M.n=some (.cells (bz (u,L i)) 65 { whole:=true }):=by rw [Tz,AH.af,if_pos rfl]
    have WU : ∀c,c<M.n→N3.get c=M.get c:=fun c hc=>by rw [Tz,AH.af,if_neg (by omega),no c hc]
    have n3n:N3.n=K.n+3:=by rw [Tz];simp only [AH.bq];omega
    have VP:KS H.n B.n D.n D X.l X.sg X.en q' cs N3:=R9.ext (by omega) (by omega) fun c hc _=>WU c hc
    have YR:IntKind.i64.wrap ((X.sg:Int)+1)=((X.sg+1:Nat):Int):=by rw [wrap_i64 (by omega) (by omega)];omega
    refine ⟨rfl,N3,by rw [Tz];unfold AH.write;rw [WV];simp [aA,AV.one,bz],X.sg,cG VP.sg,rfl,N3.set (H.n+4) (dw (.int .i64 ((X.sg+1:Nat):Int)) 3),by rw [YR];exact jG VP.sg rfl,(H.n+2,H.n+5,B.n,B.n+1,M.n),0,trivial,rfl,rfl,by simp only [AH.bq];omega,by rw [AH.af,if_neg (by omega),Vc];exact n3,by rw [GK];exact VP.Qg (by omega) _,fun c hc=>?_⟩
    have:=TN c hc
    rw [AH.af,if_neg (by omega)]
    exact WU c (TM c hc)
  ·rintro _ K3 ⟨rfl,k1,k2,k3,k4⟩
   simp only
   have kD : ∀c,c<H.n+4→K3.get c=D.get c:=fun c hc=>k3.old c (by omega) (by omega) (by omega) (by omega) (by omega)
   have kl:K3.ak B.n 0=some (.slice (q'.map fun b=>(b,0)) X.l.length X.l.length):=cG k3.tl
   have Rw:X.l.length≤8000:=by omega
   obtain ⟨rR,vL,xX,f1,f2,f3⟩ : ∃rR vL xX,(X.l ≠ []→q'.map (fun b=>(b,0))=some (rR,vL))∧K3.ak rR (vL+(IntKind.i64.wrap ((X.l.length:Int) - 1)).toNat*6+0)=some (.str xX)∧(X.l ≠ []→bI X.l=(xX == [10])):=by
    by_cases hle:X.l=[]
    ·refine ⟨H.n+1,0,s,fun h=>absurd hle h,?_,fun h=>absurd hle h⟩
     rw [hle]
     have:IntKind.i64.wrap (((([]:cT).length:Nat):Int) - 1) = -1:=by rw [wrap_i64 (by simp) (by simp)];simp
     rw [this]
     unfold AH.ak;rw [kD _ (by omega),dI.tx];rfl
    ·have h0:0<X.l.length:=List.length_pos_iff.2 hle
     have vv:=k3.yT
     cases uH:q' with
     | none=>rw [uH] at vv;exact absurd vv.1 (by omega)
     | some b0 =>
      rw [uH] at vv
      exact ⟨b0,0,X.l[X.l.length - 1].1,fun _=>rfl,wN vv h0 Rw,fun _=>wP h0⟩
   refine ⟨bJ d s i,by unfold AH.ak;rw [k2];rfl,bl,by unfold AH.ak;rw [kD _ (by omega),dI.bl];rfl,_,_,_,kl,_,_,_,kl,_,_,_,kl,rR,vL,fun h=>?_,xX,f2,?_⟩
   ·have hle:X.l ≠ []:=fun e=>by rw [e] at h;simp at h
    have h0:0<X.l.length:=List.length_pos_iff.2 hle
    rw [wrap_i64 (by omega) (by omega)]
    exact ⟨f1 hle,by omega,by omega⟩
   ·rw [Ky _ _ _ _ f3]
    have jv:eC d bl s L (i+1)=mj d bl s L X i:=by rw [hX];rfl
    have Yb : ∀ {l' : cT} {Sm:Nat} {q2:Option Nat} {K4 K5:AH},eC d bl s L (i+1)=⟨l',NU,Sm⟩→KS H.n B.n D.n D l' NU Sm q2 cs K4→ri (D.n+1) K4 K5→DC H.n d bl s (q.map fun b=>(b,0)) so.length cp L n (.ptr (some (p,0)),.ptr (some (r,0)),B.n,D) (i+1) cs K5:=fun {l' Sm q2 K4 K5} e GV PX=>by
     refine ⟨lE,hh,cu,dI,q2,?_⟩
     rw [e]
     exact GV.ext (by omega) (by rw [PX.n];exact Nat.le_refl _) fun c _ hc=>PX.get c fun e=>hc (by rw [e];exact hIn)
    cases hc:(bJ d s i == [10] && !bl && (X.l.isEmpty || bI X.l)) with
    | true =>
     simp only [cond_true]
     have T4:IntKind.i64.wrap ((X.en:Int)+1)=((X.en+1:Nat):Int):=by rw [wrap_i64 (by omega) (by omega)];omega
     refine ⟨X.en,cG k3.en,rfl,K3.set (H.n+5) (dw (.int .i64 ((X.en+1:Nat):Int)) 3),by rw [T4];exact jG k3.en rfl,⟨by simp only [AH.bq];omega,fun c hc=>?_⟩,fun K5 PX=>?_⟩
     ·have:=TN c hc
      rw [AH.af,if_neg (by omega)];exact k4 c hc
     ·refine Yb (l':=X.l) (Sm:=X.en+1) ?_ (k3.Qh (by omega) (X.en+1)) PX
      rw [jv];unfold mj;rw [hc,← Lw];rfl
    | false =>
     simp only [cond_false]
     obtain ⟨A,hA⟩ : ∃A,A=K3.alloc (.cells (bz (bJ d s i,L i)) 65 { whole:=true }):=⟨_,rfl⟩
     have ao : ∀c,c<K3.n→A.get c=K3.get c:=fun c hc=>by rw [hA,AH.aa,if_neg (by omega)]
     have an:A.n=K3.n+1:=by rw [hA];simp only [AH.az]
     have Z5:bQ A q' X.l.length (flat bz X.l) 65:=k3.yT.same fun b hb=>ao b (k3.qb b hb).2.1
     obtain ⟨A2,a1,a2,a3,a4⟩:=zA (H:=A) (y:=(bJ d s i,L i)) (c:=K3.n) (fl:={ whole:=true }) Z5 (by rw [hA,AH.aa,if_pos rfl]) (by omega)
     have k3l:H.n+5<B.n∧B.n+1<D.n∧D.n+2≤K3.n:=⟨cu.1,cu.2,k3.qV⟩
     have Gu : ∀c,c<K3.n→q' ≠ some c→A2.get c=K3.get c:=fun c hc dm=>(a4 c (by omega) dm).trans (ao c hc)
     have Qr : ∀c,c<D.n→q' ≠ some c:=fun c hc e=>by have:=k3.qb c e;omega
     have a5:A2.get B.n=_:=(Gu _ (by omega) (Qr _ (by omega))).trans k3.tl
     obtain ⟨A3,sH⟩ : ∃A3,A3=A2.set B.n (dw (sl (some A.n) (X.l ++ [(bJ d s i,L i)]).length) 56):=⟨_,rfl⟩
     have a6:A3.get (B.n+1)=some (dw (.int .i64 (X.l.length:Int)) 3):=by rw [sH,AH.af,if_neg (by omega),Gu _ (by omega) (Qr _ (by omega))];exact k3.tn
     have wl:IntKind.i64.wrap ((X.l.length:Int)+1)=(((X.l ++ [(bJ d s i,L i)]).length:Nat):Int):=by rw [wrap_i64 (by omega) (by omega),List.length_append,List.length_singleton];omega
     obtain ⟨A4,w9⟩ : ∃A4,A4=A3.set (B.n+1) (dw (.int .i64 (((X.l ++ [(bJ d s i,L i)]).length:Nat):Int)) 3):=⟨_,rfl⟩
     have a4n:A4.n=K3.n+2:=by rw [w9,sH];simp only [AH.bq];omega
     have G1 : ∀c,c ≠ B.n→c ≠ B.n+1→A4.get c=A2.get c:=fun c h1 h2=>by rw [w9,AH.af,if_neg h2,sH,AH.af,if_neg h1]
     refine ⟨_,_,_,kl,bJ d s i,(L i).b,(L i).i,(L i).u,(L i).k,(L i).c,by unfold AH.read;rw [k2];rfl,⟨by decide,by decide,(by trivial)⟩,_,_,_,A2,by rw [hA] at a1;exact a1,rfl,A3,by rw [← hA,sH];exact jG (w:=sl (some A.n) (X.l ++ [(bJ d s i,L i)]).length) a5 rfl,_,cG a6,rfl,A4,by rw [wl,w9];exact jG a6 rfl,⟨by omega,fun c hc=>?_⟩,fun K5 PX=>?_⟩
     ·have h1:=TN c hc
      have h2:=TM c hc
      rw [G1 c (by omega) (by omega),Gu c (by omega) (fun e=>(k3.qb c e).2.2 hc)]
      exact k4 c hc
     ·refine Yb (l':=X.l ++ [(bJ d s i,L i)]) (Sm:=X.en) (q2:=some A.n) ?_ ⟨?_,?_,?_,?_,?_,?_,?_,TN,?_⟩ PX
      ·rw [jv];unfold mj;rw [hc,← Lw];rfl
      ·rw [G1 _ (by omega) (by omega),Gu _ (by omega) (Qr _ (by omega))];exact k3.sg
      ·rw [G1 _ (by omega) (by omega),Gu _ (by omega) (Qr _ (by omega))];exact k3.en
      ·rw [w9,AH.af,if_neg (by omega),sH,AH.af,if_pos rfl]
      ·rw [w9,AH.af,if_pos rfl]
      ·exact a3.same fun b hb=>by cases hb;exact G1 _ (by omega) (by omega)
      ·intro b hb
       cases hb
       exact ⟨by omega,by omega,fun hm=>by have:=TM _ hm;omega⟩
      ·omega
      ·intro c h1 h2 h3 h4 h5
       rw [G1 c h4 h5,Gu c (by omega) (Qr c h1)]
       exact k3.old c h1 h2 h3 h4 h5
 ·
  rintro cs K0 K ⟨lE,_,cu,_,q',PU⟩ hB hD
  simp only at cu PU lE
  have aaw:=PU.qV
  have hK0 : ∀c,c ∉ cs→K.get c=K0.get c:=fun c hc=>hB.get c fun e=>hc (by rw [e];exact lE.1)
  have zO:=PU.ext (K':=K) cu (by rw [hB.n];exact Nat.le_refl _) fun c _ hc=>hK0 c hc
  rw [Q2] at zO
  have OW:=KI.all (d:=d) (bl:=bl) (L:=L) hn (m:=n) (Nat.le_refl n)
  obtain ⟨X,hX⟩ : ∃X,X=eC d bl s L n:=⟨_,rfl⟩
  obtain ⟨Y,hY⟩ : ∃Y,Y=dB bl X:=⟨_,rfl⟩
  have hE:KE s L n Y:=by rw [hY,hX];exact mm hn
  rw [← hX,← hY] at hQ
  rw [← hX] at zO OW
  have Vv:=OW.count
  have UQ:=OW.Ac
  have Zd:=zO.qV
  have kD : ∀c,c<H.n+4→K.get c=D.get c:=fun c hc=>zO.old c (by omega) (by omega) (by omega) (by omega) (by omega)
  have kl:K.ak B.n 0=some (.slice (q'.map fun b=>(b,0)) X.l.length X.l.length):=cG zO.tl
  have kH : ∀c,c<H.n→K.get c=H.get c:=fun c hc=>by rw [kD c (by omega),de c (by omega)];exact eo c hc
  have Rw:X.l.length≤8000:=by omega
  obtain ⟨rR,vL,xX,f1,f2,f3⟩ : ∃rR vL xX,(X.l ≠ []→q'.map (fun b=>(b,0))=some (rR,vL))∧K.ak rR (vL+(IntKind.i64.wrap ((X.l.length:Int) - 1)).toNat*6+0)=some (.str xX)∧(X.l ≠ []→bI X.l=(xX == [10])):=by
   by_cases hle:X.l=[]
   ·refine ⟨H.n+1,0,s,fun h=>absurd hle h,?_,fun h=>absurd hle h⟩
    rw [hle]
    have:IntKind.i64.wrap (((([]:cT).length:Nat):Int) - 1) = -1:=by rw [wrap_i64 (by simp) (by simp)];simp
    rw [this]
    unfold AH.ak;rw [kD _ (by omega),dI.tx];rfl
   ·have h0:0<X.l.length:=List.length_pos_iff.2 hle
    have vv:=zO.yT
    cases uH:q' with
    | none=>rw [uH] at vv;exact absurd vv.1 (by omega)
    | some b0 =>
     rw [uH] at vv
     exact ⟨b0,0,X.l[X.l.length - 1].1,fun _=>rfl,wN vv h0 Rw,fun _=>wP h0⟩
  have rU:(decide ((X.l.length:Int) > 0) && !bl && xX == [10])=(decide (0<X.l.length) && !bl && bI X.l):=by
   by_cases hle:X.l=[]
   ·rw [hle];rfl
   ·rw [f3 hle]
    have h0:0<X.l.length:=List.length_pos_iff.2 hle
    rw [decide_eq_true (show (X.l.length:Int) > 0 by omega),decide_eq_true h0]
  obtain ⟨J,hJ⟩ : ∃J:Nat×Nat×Nat×Nat×Int×Nat→AH→Prop,J=fun y K'=>∃L9:Nat,y=(H.n,H.n+3,H.n+4,H.n+5,(0:Int),B.n)∧K'.n=K.n∧K'.get B.n=some (dw (.slice (q'.map fun b=>(b,0)) Y.l.length L9) 56)∧Y.l.length≤L9∧(q'=none→L9=0) ∧
   Y.l.length≤X.l.length∧Y.l=X.l.take Y.l.length∧K'.get (H.n+4)=some (dw (.int .i64 (Y.sg:Int)) 3)∧K'.get (H.n+5)=some (dw (.int .i64 (Y.en:Int)) 3)∧∀c,c ≠ H.n+4→c ≠ H.n+5→c ≠ B.n→K'.get c=K.get c:=⟨_,rfl⟩
  have Rl:q'=none→X.l.length=0:=fun e=>by have:=zO.yT;rw [e] at this;exact this.1
  refine ⟨J,⟨_,cG zO.tn,bl,by unfold AH.ak;rw [kD _ (by omega),dI.bl];rfl,_,_,_,kl,_,cG zO.tn,rR,vL,fun h=>?_,xX,f2,?_⟩,?_⟩
  ·have hle:X.l ≠ []:=fun e=>by rw [e] at h;simp at h
   have h0:0<X.l.length:=List.length_pos_iff.2 hle
   rw [wrap_i64 (by omega) (by omega)]
   exact ⟨f1 hle,by omega,by omega⟩
  ·rw [rU]
   cases hc:(decide (0<X.l.length) && !bl && bI X.l) with
   | true =>
    have PS:Y=⟨X.l.dropLast,X.sg,X.en+1⟩:=by rw [hY];unfold dB;rw [hc];rfl
    have h0:0<X.l.length:=by simp only [Bool.and_eq_true,decide_eq_true_eq] at hc;exact hc.1.1
    have wl:IntKind.i64.wrap ((X.l.length:Int) - 1)=((X.l.length - 1:Nat):Int):=by rw [wrap_i64 (by omega) (by omega)];omega
    have T4:IntKind.i64.wrap ((X.en:Int)+1)=((X.en+1:Nat):Int):=by rw [wrap_i64 (by omega) (by omega)];omega
    simp only [cond_true]
    obtain ⟨K1,Dd⟩ : ∃K1,K1=K.set B.n (dw (.slice (q'.map fun b=>(b,0)) (X.l.length - 1) X.l.length) 56):=⟨_,rfl⟩
    have k5:K1.get (H.n+5)=some (dw (.int .i64 (X.en:Int)) 3):=by rw [Dd,AH.af,if_neg (by omega)];exact zO.en
    refine ⟨_,_,_,kl,_,cG zO.tn,_,_,_,by rw [wl];exact xS K q' (X.l.length - 1) X.l.length X.l.length (by omega) (Nat.le_refl _),rfl,K1,by rw [Dd];exact jG (w:=.slice _ _ _) zO.tl rfl,X.en,cG k5,rfl,K1.set (H.n+5) (dw (.int .i64 ((X.en+1:Nat):Int)) 3),by rw [T4];exact jG k5 rfl,(by trivial),(H.n,H.n+3,H.n+4,H.n+5,(0:Int),B.n),0,trivial,rfl,?_⟩
    rw [hJ]
    have PA:Y.l.length=X.l.length - 1:=by rw [PS];simp only [List.length_dropLast]
    refine ⟨X.l.length,rfl,by rw [Dd];rfl,?_,by omega,fun e=>by have:=Rl e;omega,by omega,by rw [PA,PS];simp only [List.dropLast_eq_take],?_,?_,fun c h1 h2 h3=>?_⟩
    ·rw [AH.af,if_neg (by omega),Dd,AH.af,if_pos rfl,PA]
    ·rw [AH.af,if_neg (by omega),Dd,AH.af,if_neg (by omega),PS];exact zO.sg
    ·rw [AH.af,if_pos rfl,PS]
    ·rw [AH.af,if_neg h2,Dd,AH.af,if_neg h3]
   | false =>
    have PS:Y=X:=by rw [hY];unfold dB;rw [hc];rfl
    simp only [cond_false]
    refine ⟨(by trivial),(H.n,H.n+3,H.n+4,H.n+5,(0:Int),B.n),0,trivial,rfl,?_⟩
    rw [hJ,PS]
    exact ⟨X.l.length,rfl,rfl,zO.tl,Nat.le_refl _,Rl,Nat.le_refl _,by rw [List.take_length],zO.sg,zO.en,fun _ _ _ _=>rfl⟩
  ·rw [hJ]
   rintro _ K1 ⟨L9,rfl,Zg,Xh,Nk,Tv,Xk,Xl,Zf,Zi,J0⟩
   simp only
   have qb : ∀b,q'=some b→D.n+2≤b∧b<K1.n:=fun b hb=>by
    have h1:=zO.qb b hb
    have:b ≠ D.n∧b ≠ D.n+1:=⟨fun e=>h1.2.2 (by rw [← e] at lE;exact lE.2),fun e=>h1.2.2 (by rw [← e] at lE;exact lE.1)⟩
    omega
   have Xg : ∀b,q'=some b→K1.get b=some (.cells (flat bz X.l) 65 { fD:=true }):=fun b hb=>by
    have h1:=qb b hb
    have h2:=zO.yT
    rw [hb] at h2
    rw [J0 b (by omega) (by omega) (by omega)];exact h2
   have VO:GA K1 q' Y.l.length X.l:=by
    cases uH:q' with
    | none =>
     have:=Rl uH
     exact ⟨List.length_eq_zero_iff.1 this,by omega⟩
    | some b=>exact ⟨Xg b uH,Xk,(qb b uH).2⟩
   obtain ⟨T,hT⟩ : ∃T,T=X.l.drop Y.l.length:=⟨_,rfl⟩
   have X2:Y.l ++ T=X.l:=by rw [hT];rw [Xl,List.length_take];rw [Nat.min_eq_left Xk];exact List.take_append_drop _ _
   have PA:Y.l.length≤8000:=by omega
   refine ⟨_,_,_,cG Xh,?_⟩
   refine (Li VO Xl Nk Tv PA).mono ?_
   rintro v E ⟨r2,rfl,R7,UY,en2,Ym⟩
   obtain ⟨P,hP⟩ : ∃P,P=parts Y.l:=⟨_,rfl⟩
   rw [← hP] at R7
   rw [← hP]
   obtain ⟨fo,Nh⟩ : ∃fo:Nat→cT×Nat,fo=fun j=>(P.take j).foldl (fZ d) (Y.l,0):=⟨_,rfl⟩
   have hPl:P.length≤8001:=by rw [hP];have:=yu Y.l;omega
   obtain ⟨Pt,LR⟩ : ∃Pt:cT×Nat→AH→Prop,Pt=fun x K'=>(∀b,q'=some b→K'.get b=some (.cells (flat bz (x.1 ++ T)) 65 { fD:=true }))∧E.n≤K'.n∧∀c,c<E.n→q' ≠ some c→K'.get c=E.get c:=⟨_,rfl⟩
   have Y9:Pt (Y.l,0) E:=by
    rw [LR]
    refine ⟨fun b hb=>?_,Nat.le_refl _,fun _ _ _=>rfl⟩
    rw [Ym b (qb b hb).2,X2];exact Xg b hb
   have CE : ∀ {x:cT×Nat} {K2 K3:AH},Pt x K2→K2.n≤K3.n→(∀c,c<K2.n→K3.get c=K2.get c)→Pt x K3:=fun {x K2 K3} h h1 h2=>by
    rw [LR] at h ⊢
    obtain ⟨g1,g2,g3⟩:=h
    exact ⟨fun b hb=>by rw [h2 b (by have:=qb b hb;omega)];exact g1 b hb,by omega,fun c hc dm=>by rw [h2 c (by omega)];exact g3 c hc dm⟩
   have MG : ∀ {x:cT×Nat} {K2:AH},Pt x K2→∀c,c<D.n+2→K2.get c=K1.get c:=fun {x K2} h c hc=>by
    rw [LR] at h
    rw [h.2.2 c (by omega) (fun e=>by have:=qb c e;omega),Ym c (by omega)]
   have Y8 : ∀ {x:cT×Nat} {K2:AH},Pt x K2→K2.ak H.n 0=some (.int .i64 d):=fun {x K2} h=>by
    refine cG (e:=3) ?_
    rw [MG h _ (by omega),J0 _ (by omega) (by omega) (by omega),kD _ (by omega)];exact dI.d
   have Un : ∀ {x:cT×Nat} {K2:AH},Pt x K2→E.n≤K2.n:=fun {x K2} h=>by rw [LR] at h;exact h.2.1
   have Yk:fo 0=(Y.l,0):=by rw [Nh];rfl
   have w8 : ∀i:Nat,i≤100000→IntKind.i64.wrap ((i:Int)+1)=((i+1:Nat):Int):=fun i hi=>by rw [wrap_i64 (by omega) (by omega)];omega
   refine ⟨_,_,_,rfl,fun y K' k=>∃j:Nat,y=((H.n,H.n+3,H.n+4,H.n+5,((fo j).2:Int),B.n),(r2.map (fun b=>(b,0)),P.length),(P.length:Int),(j:Int))∧j≤P.length∧Pt (fo j) K'∧k=P.length - j,
    ⟨((H.n,H.n+3,H.n+4,H.n+5,0,B.n),(r2.map (fun b=>(b,0)),P.length),(P.length:Int),0),P.length,rfl,0,by rw [Yk];rfl,Nat.zero_le _,by rw [Yk];exact Y9,rfl⟩,?_⟩
   rintro _ K2 _ ⟨j,rfl,hj,LH,rfl⟩
   simp only
   by_cases Nd:j<P.length
   ·have dj:decide ((j:Int)<(P.length:Int))=true:=by rw [decide_eq_true_iff];omega
    simp only [dj,cond_true]
    have LK:j<(parts Y.l).length:=by rw [← hP];exact Nd
    obtain ⟨pa1,pa2,GU⟩:=KX d LK
    obtain ⟨a,ha⟩ : ∃a,a=(parts Y.l)[j].1:=⟨_,rfl⟩
    obtain ⟨m,hm⟩ : ∃m,m=(parts Y.l)[j].2 - (parts Y.l)[j].1:=⟨_,rfl⟩
    have XR:((parts Y.l).take j).foldl (fZ d) (Y.l,0)=fo j:=by rw [Nh,hP]
    rw [XR] at GU
    have VF:a+m=(parts Y.l)[j].2:=by omega
    obtain ⟨al,Bj⟩ : ∃al,al=sL (fo j).1 (parts Y.l)[j].1 (parts Y.l)[j].2:=⟨_,rfl⟩
    have hfs:fo (j+1)=o9 d al a (fo j) m:=by
     have:(parts Y.l).take (j+1)=(parts Y.l).take j ++ [(parts Y.l)[j]]:=List.take_succ_eq_append_getElem LK
     rw [Nh,hP]
     simp only
     rw [this,List.foldl_append,List.foldl_cons,List.foldl_nil,XR,Bj,hm,ha];rfl
    have VG:sL ((fo j).1 ++ T) a (a+m)=al:=by
     rw [BJ _ _ _ _ (by omega) (by rw [GU.len];omega),Bj,VF,ha]
    obtain ⟨V3,C7,OJ⟩:=CS q' Y.l L9 (List.getElem?_eq_getElem LK)
    have OJ:=OJ Nk
    have XI:j<(gu q' Y.l L9).length:=by rw [me];exact LK
    have iu : ∃b2,r2=some b2∧K2.ak b2 (0+((j:Nat):Int).toNat*1)=some (.slice (q'.map fun b=>(b,a*6)) m V3):=by
     cases yW:r2 with
     | none=>rw [yW] at R7;have:=R7.1;omega
     | some b2 =>
      rw [yW] at R7
      have F4:=UY b2 yW
      have Be:=LH
      rw [LR] at Be
      have hg:K2.get b2=some (.cells (flat eF (gu q' Y.l L9)) 56 { fD:=true }):=by
       rw [Be.2.2 b2 F4.2 (fun e=>by have:=qb b2 e;omega)];exact R7
      have:=kG vC hg XI (k:=0) (by decide)
      refine ⟨b2,rfl,?_⟩
      rw [Int.toNat_natCast,show 0+j*1=0+j*1+0 by omega,this]
      rw [List.getElem?_eq_getElem XI] at C7
      rw [Option.some.inj C7,ha,hm];rfl
    obtain ⟨b2,rfl,iu⟩:=iu
    refine ⟨b2,0,⟨rfl,by omega,by omega⟩,_,_,_,iu,?_⟩
    have Zt:((fo j).1 ++ T).length=X.l.length:=by rw [← X2,List.length_append,List.length_append,GU.len]
    have Xu:m ≠ 0→∃b,q'=some b:=fun h=>by
     cases uH:q' with
     | none=>have:=Rl uH;omega
     | some b=>exact ⟨b,rfl⟩
    refine (SE (b:=q'.getD 0) (a:=a) (m:=m) (c:=V3) (l:=(fo j).1 ++ T) (q:=q'.map fun b=>(b,a*6)) (fun h=>?_) (by omega) (by omega) (by omega)).mono ?_
    ·obtain ⟨b,hb⟩:=Xu h
     have Be:=LH
     rw [LR] at Be
     rw [hb]
     exact ⟨Be.1 b hb,by have:=qb b hb;have:=Un LH;show b<K2.n;omega,rfl⟩
    rintro v K3 ⟨rfl,n3,o3⟩
    rw [VG]
    obtain ⟨K4,GV⟩ : ∃K4,K4=(K3.alloc (.cells [.bool false,.bool false,.bool false,.bool false,.int .i64 0] 63 { whole:=true })).set K3.n (.cells al.cells 63 { whole:=true }):=⟨_,rfl⟩
    have n4:K4.n=K3.n+1:=by rw [GV];simp only [AH.bq,AH.az]
    have o4 : ∀c,c<K3.n→K4.get c=K3.get c:=fun c hc=>by rw [GV,AH.af,if_neg (by omega),AH.aa,if_neg (by omega)]
    have g4:K4.get K3.n=some (.cells al.cells 63 { whole:=true }):=by rw [GV,AH.af,if_pos rfl]
    have U2:Pt (fo j) K4:=CE LH (by omega) fun c hc=>by rw [o4 c (by omega),o3 c hc]
    obtain ⟨xt,Tc⟩ : ∃xt:Nat→cT×Nat,xt=fun i=>o9 d al a (fo j) i:=⟨_,rfl⟩
    have Wu:xt 0=fo j:=by rw [Tc];rfl
    have Wt:xt m=fo (j+1):=by rw [Tc,hfs]
    have U7:(∀p ∈ Y.l,yA p.2.c)→yA al.c:=fun h=>by rw [Bj];exact Ex (GU.ok h) _ _
    have TX : ∀i,i≤m→PI Y.l (a+i) (xt i):=fun i hi=>by rw [Tc,ha];exact GU.to d U7 (by omega)
    obtain ⟨st,fU⟩ : ∃st:Nat→Nat→((Nat×Nat×Nat×Nat×Int×Nat)×(Option (Nat×Nat)×Nat)×Int×Int)×(Option (Nat×Nat)×Nat×Nat)×Nat×Int×Int,st=fun (u i:Nat)=>(((H.n,H.n+3,H.n+4,H.n+5,((xt u).2:Int),B.n),((some b2).map (fun b=>(b,0)),P.length),(P.length:Int),(j:Int)),(q'.map (fun b=>(b,a*6)),m,V3),K3.n,(m:Int),(i:Int)):=⟨_,rfl⟩
    refine ⟨al.b,al.i,al.u,al.k,al.c,rfl,rfl,K4,by rw [GV];simp [AH.write,AH.aa,aA,AV.one,aj.cells],fun y K' k=>∃i:Nat,y=st i i∧i≤m∧Pt (xt i) K'∧K'.get K3.n=some (.cells al.cells 63 { whole:=true })∧K3.n<K'.n∧k=m - i,
     ⟨st 0 0,m,by rw [fU];simp only [Wu];rfl,0,rfl,Nat.zero_le _,by rw [Wu];exact U2,g4,by omega,rfl⟩,?_⟩
    rintro _ K5 _ ⟨i,rfl,hi,LG,g5,n5,rfl⟩
    by_cases Vg:i<m
    ·obtain ⟨b,hb⟩:=Xu (by omega)
     have qD:q'.map (fun b=>(b,a*6))=some (b,a*6):=by rw [hb];rfl
     have R3:=TX i hi
     have Td:a+i<(xt i).1.length:=by rw [R3.len];omega
     have Xn:a+i<((xt i).1 ++ T).length:=by rw [List.length_append];omega
     obtain ⟨c,hc⟩ : ∃c,c=(xt i).1[a+i].2:=⟨_,rfl⟩
     have XZ:((xt i).1 ++ T)[a+i]=(xt i).1[a+i]:=List.getElem_append_left Td
     have MY:=LG
     rw [LR] at MY
     have Yd:=MY.1 b hb
     have hbK:b<K1.n:=(qb b hb).2
     have ZW:E.n≤K2.n:=Un LH
     have GN:(xt i).2≤8000:=by rw [R3.num];have:=Jx (fun i'=>!dF (ga Y.l i') (ga (xt i).1 i')) (a+i);omega
     have jv:xt (i+1)=((xt i).1.set (a+i) ((xt i).1[a+i].1,bX d al c),(xt i).2+(if dF (bX d al c) c then 0 else 1)):=by
      have:xt (i+1)=pg d al (xt i) (a+i):=by rw [Tc];rfl
      rw [this]
      unfold pg
      rw [List.getElem?_eq_getElem Td,hc]
     have dl:decide ((i:Int)<(m:Int))=true:=by rw [decide_eq_true_iff];omega
     rw [fU]
     simp only [dl,cond_true]
     have WD : ∀ {K' : AH},K'.get b=K5.get b→K'.read b (a*6+((i:Nat):Int).toNat*6+1) 5=some c.cells:=fun {K'} h=>by
      have:=KV (K:=K') (h.trans Yd) Xn
      rw [XZ,← hc] at this;exact this
     obtain ⟨K6,TC⟩ : ∃K6,K6=(K5.alloc (.cells [.bool false,.bool false,.bool false,.bool false,.int .i64 0] 63 { whole:=true })).set K5.n (.cells c.cells 63 { whole:=true }):=⟨_,rfl⟩
     have n6:K6.n=K5.n+1:=by rw [TC];simp only [AH.bq,AH.az]
     have o6 : ∀c,c<K5.n→K6.get c=K5.get c:=fun c hc=>by rw [TC,AH.af,if_neg (by omega),AH.aa,if_neg (by omega)]
     have g6:K6.get K5.n=some (.cells c.cells 63 { whole:=true }):=by rw [TC,AH.af,if_pos rfl]
     have U1:Pt (xt i) K6:=CE LG (by omega) o6
     obtain ⟨W7,Tw⟩ : ∃W7:(((Nat×Nat×Nat×Nat×Int×Nat)×(Option (Nat×Nat)×Nat)×Int×Int)×(Option (Nat×Nat)×Nat×Nat)×Nat×Int×Int)×Int×Nat→AH→Prop,W7=fun y K'=>y=(st i i,(i:Int),K5.n)∧K'.n=K5.n+1∧K'.get K5.n=some (.cells (bX d al c).cells 63 { whole:=true })∧∀c,c<K5.n→K'.get c=K5.get c:=⟨_,rfl⟩
     refine ⟨fun y K'=>y=st (i+1) i∧Pt (xt (i+1)) K'∧K'.get K3.n=some (.cells al.cells 63 { whole:=true })∧K3.n<K'.n,⟨b,a*6,⟨qD,by omega,by omega⟩,c.b,c.i,c.u,c.k,c.c,WD rfl,rfl,K6,by rw [TC];simp [AH.write,AH.aa,aA,AV.one,aj.cells],W7,⟨d,Y8 U1,?_⟩,?_⟩,?_⟩
     ·by_cases OS:d=2
      ·have x2:(d == 2)=true:=by rw [beq_iff_eq];exact OS
       rw [x2]
       simp only [cond_true]
       refine ⟨(by trivial),K6.set K5.n (.cells ({ c with k:=false }:aj).cells 63 { whole:=true }),gp.wr (a:=c) g6 3 (.bool false) { c with k:=false } (by decide) rfl rfl,(by trivial),(st i i,(i:Int),K5.n),0,trivial,by rw [fU],?_⟩
       rw [Tw]
       refine ⟨rfl,by rw [AH.bq,n6],?_,fun c hc=>by rw [AH.af,if_neg (by omega)];exact o6 c hc⟩
       rw [AH.af,if_pos rfl]
       unfold bX
       rw [x2];rfl
      ·have x2:(d == 2)=false:=by rw [beq_eq_false_iff_ne];exact OS
       rw [x2]
       simp only [cond_false]
       by_cases XV:d=3
       ·have x3:(d == 3)=true:=by rw [beq_iff_eq];exact XV
        rw [x3]
        simp only [cond_true]
        refine ⟨al.b,al.i,al.u,al.k,al.c,by unfold AH.read;rw [o6 _ n5,g5];rfl,rfl,K6.set K5.n (.cells al.cells 63 { whole:=true }),by unfold AH.write;rw [g6];simp [aA,AV.one,aj.cells],(by trivial),(st i i,(i:Int),K5.n),0,trivial,by rw [fU],?_⟩
        rw [Tw]
        refine ⟨rfl,by rw [AH.bq,n6],?_,fun c hc=>by rw [AH.af,if_neg (by omega)];exact o6 c hc⟩
        rw [AH.af,if_pos rfl]
        unfold bX
        rw [x2,x3];rfl
       ·have x3:(d == 3)=false:=by rw [beq_eq_false_iff_ne];exact XV
        rw [x3]
        simp only [cond_false]
        refine ⟨(by trivial),(st i i,(i:Int),K5.n),0,trivial,by rw [fU],?_⟩
        rw [Tw]
        refine ⟨rfl,n6,?_,o6⟩
        rw [g6]
        unfold bX
        rw [x2,x3];rfl
     ·rw [Tw]
      rintro _ K7 ⟨rfl,n7,g7,o7⟩
      rw [fU]
      simp only
      have WE:K7.read K5.n 0 5=some (bX d al c).cells:=by unfold AH.read;rw [g7];rfl
      have X1:b<K5.n:=by omega
      refine ⟨_,_,_,_,_,WE,b,a*6,⟨qD,by omega,by omega⟩,_,_,_,_,_,WD (o7 b X1),?_⟩
      rw [Hw]
      have LF:Pt (xt i) K7:=CE LG (by omega) o7
      have h7b:=(o7 b X1).trans Yd
      cases MX:dF (bX d al c) c with
      | false =>
       simp only [Bool.not_false,cond_true]
       have hw:=Ig h7b Xn (bX d al c)
       rw [XZ] at hw
       have wn:IntKind.i64.wrap (((xt i).2:Int)+1)=(((xt i).2+1:Nat):Int):=w8 _ (by omega)
       refine ⟨_,_,_,_,_,WE,b,a*6,⟨qD,by omega,by omega⟩,rfl,_,hw,(by trivial),st (i+1) i,0,trivial,?_,by rw [fU],?_,?_,?_⟩
       ·have e2:(xt (i+1)).2=(xt i).2+1:=by rw [jv,MX];rfl
        rw [fU,wn];simp only [e2]
       ·rw [LR] at LF ⊢
        refine ⟨fun b' dM=>?_,by rw [AH.bq];exact LF.2.1,fun c' y5 dm=>?_⟩
        ·rw [hb] at dM
         cases dM
         rw [AH.af,if_pos rfl,jv]
         simp only
         rw [List.set_append_left _ _ Td]
        ·rw [AH.af,if_neg (fun e=>dm (by rw [e];exact hb))]
         exact LF.2.2 c' y5 dm
       ·rw [AH.af,if_neg (by omega),o7 _ n5];exact g5
       ·rw [AH.bq];omega
      | true =>
       simp only [Bool.not_true,cond_false]
       have C6:bX d al c=c:=cB.1 MX
       have LI:xt (i+1)=xt i:=by
        rw [jv,C6]
        have e1:dF c c=true:=cB.2 rfl
        rw [e1,hc]
        refine Prod.ext ?_ rfl
        simp only
        exact List.set_getElem_self Td
       refine ⟨(by trivial),st (i+1) i,0,trivial,?_,by rw [fU],?_,?_,?_⟩
       ·rw [fU];simp only [LI]
       ·rw [LI];exact LF
       ·rw [o7 _ n5];exact g5
       ·omega
     ·rintro _ K8 ⟨rfl,U0,g8,n8⟩
      refine ⟨(by trivial),st (i+1) (i+1),m - (i+1),by omega,?_,i+1,by rw [fU],by omega,U0,g8,n8,rfl⟩
      rw [fU]
      simp only
      rw [w8 i (by omega)]
    ·obtain rfl:i=m:=by omega
     have dl:decide ((i:Int)<(i:Int))=false:=by rw [decide_eq_false_iff_not];omega
     rw [fU]
     simp only [dl,cond_false]
     refine ⟨(by trivial),((H.n,H.n+3,H.n+4,H.n+5,((fo (j+1)).2:Int),B.n),((some b2).map (fun b=>(b,0)),P.length),(P.length:Int),((j+1:Nat):Int)),P.length - (j+1),by omega,?_,j+1,rfl,by omega,by rw [← Wt];exact LG,rfl⟩
     rw [w8 j (by omega),Wt]
   ·obtain rfl:j=P.length:=by omega
    have dj:decide ((P.length:Int)<(P.length:Int))=false:=by rw [decide_eq_false_iff_not];omega
    simp only [dj,cond_false]
    obtain ⟨R,hR⟩ : ∃R,R=iO d Y.l:=⟨_,rfl⟩
    have hfR:fo P.length=R:=by rw [Nh,hR,hP];simp only [List.take_length];rfl
    rw [hfR] at LH ⊢
    rw [← hR] at hQ
    have Bk:PI Y.l Y.l.length R:=by rw [hR];exact jZ d Y.l
    have Ni:aH R.1=aH Y.l:=by unfold aH;rw [Bk.fst]
    have Be:=LH
    rw [LR] at Be
    have I6:=MG LH
    have ZW:=Un LH
    have gB:K2.ak B.n 0=some (.slice (q'.map fun b=>(b,0)) Y.l.length L9):=by
     refine cG (e:=56) ?_
     rw [I6 _ (by omega)];exact Xh
    refine ⟨_,_,_,gB,?_⟩
    rw [show Y.l.length=R.1.length from Bk.len.symm]
    have PW:(aH Y.l).length≤12288:=by have:=hE.size;omega
    have oJ : ∀p ∈ R.1,0≤p.2.c∧p.2.c≤16777216:=Bk.ok fun p hp=>by
     obtain ⟨i,hi,e⟩:=hE.from_ p hp
     rw [e,hL]
     exact AR hf hx i
    refine (Og R.1 (fun p hp=>?_) (by show (aH R.1).length≤16000;rw [Ni];omega) (by rw [Bk.len];omega) (by show aE (aH R.1) R.1.length;rw [Ni,Bk.len];exact hE.cW) oJ (EP (R.1.map Prod.snd) (by rw [List.length_map,Bk.len];omega)) L9 (fun i h=>?_)).mono ?_
    ·have:p.1 ∈ R.1.map Prod.fst:=List.mem_map_of_mem hp
     rw [Bk.fst] at this
     obtain ⟨p2,h1,h2⟩:=List.mem_map.1 this
     rw [← h2];exact hE.ne p2 h1
    ·have:q' ≠ none:=fun e=>by have:=Rl e;have:=Bk.len;omega
     obtain ⟨b,hb⟩ : ∃b,q'=some b:=by
      cases uH:q' with
      | none=>exact absurd uH this
      | some b=>exact ⟨b,rfl⟩
     refine ⟨b,hb,by have:=qb b hb;omega,fun K' wZ=>?_⟩
     have h1:=cH cL (H:=K') (b:=b) (i:=i) (l:=R.1 ++ T) (wZ.trans (Be.1 b hb)) (by rw [List.length_append];omega)
     rw [List.getElem_append_left h] at h1
     exact h1
    rintro v K3 uF
    obtain ⟨NS,Ot⟩ : ∃NS,NS=aR (bt (R.1.map Prod.snd)):=⟨_,rfl⟩
    rw [← Ot] at uF
    obtain ⟨er,S,sp,⟨q3,rfl,t1,t2,t3,t4⟩,uK⟩ : ∃er S sp,jB K2 er S sp v K3∧((4096<(aH R.1).length∧er=3∧S=[]∧sp=[])∨((aH R.1).length≤4096∧er=Jr NS∧S=Ci NS (aH R.1)∧sp=lS NS)):=by
     unfold p8 at uF
     by_cases hlen:(aH R.1).length≤4096
     ·rw [show decide (((R.1.map Prod.fst).flatten).length≤4096)=true from decide_eq_true hlen] at uF
      exact ⟨_,_,_,uF,.inr ⟨hlen,rfl,rfl,rfl⟩⟩
     ·rw [show decide (((R.1.map Prod.fst).flatten).length≤4096)=false from decide_eq_false hlen] at uF
      exact ⟨_,_,_,uF,.inl ⟨by omega,rfl,rfl,rfl⟩⟩
    have l3 : ∀c,c<D.n+2→K3.get c=K1.get c:=fun c hc=>(t4 c (by omega)).trans (I6 c hc)
    have z3:K3.get (H.n+3)=some (.cells [.str [],.slice none 0 0] 24 { whole:=true }):=by rw [l3 _ (by omega),J0 _ (by omega) (by omega) (by omega),kD _ (by omega)];exact dI.kept
    have z4:K3.get (H.n+4)=some (dw (.int .i64 (Y.sg:Int)) 3):=by rw [l3 _ (by omega)];exact Zf
    have z5:K3.get (H.n+5)=some (dw (.int .i64 (Y.en:Int)) 3):=by rw [l3 _ (by omega)];exact Zi
    have zD:G4 D.n K3:=by unfold G4 at hD ⊢;rw [l3 _ (by omega),J0 _ (by omega) (by omega) (by omega)];exact hD
    have zo : ∀c,c<H.n→K3.get c=H.get c:=fun c hc=>by rw [l3 _ (by omega),J0 _ (by omega) (by omega) (by omega)];exact kH c hc
    obtain ⟨A1,qG⟩ : ∃A1,A1=K3.set (H.n+3) (.cells [.str S,.slice (q3.map fun b=>(b,0)) sp.length sp.length] 24 { whole:=true }):=⟨_,rfl⟩
    have TU:A1.get (H.n+3)=some (.cells [.str S,.slice (q3.map fun b=>(b,0)) sp.length sp.length] 24 { whole:=true }):=by rw [qG,AH.af,if_pos rfl]
    have Gy : ∀c,c ≠ H.n+3→A1.get c=K3.get c:=fun c hc=>by rw [qG,AH.af,if_neg hc]
    refine ⟨S,q3.map fun b=>(b,0),sp.length,sp.length,er,rfl,rfl,A1,by rw [qG];unfold AH.write;rw [z3];simp [aA,AV.one],?_⟩
    by_cases RL:er=0
    ·subst RL
     simp only [n0,cond_false]
     have Yz:A1.get (H.n+4)=_:=(Gy _ (by omega)).trans z4
     have Yy:A1.get (H.n+5)=_:=(Gy _ (by omega)).trans z5
     have rA : ∀ {K' : AH},K'.get (H.n+3)=A1.get (H.n+3)→K'.read (H.n+3) 0 2=some [.str S,.slice (q3.map fun b=>(b,0)) sp.length sp.length]:=fun {K'} h=>by unfold AH.read;rw [h,TU];rfl
     obtain ⟨A2,vO⟩ : ∃A2,A2=A1.set (H.n+3) (.cells [.str S,.slice (q3.map fun b=>(b,0)) sp.length sp.length] 24 { whole:=true }):=⟨_,rfl⟩
     have Dw : ∀c,c ≠ H.n+3→A2.get c=A1.get c:=fun c hc=>by rw [vO,AH.af,if_neg hc]
     have TT:A2.get (H.n+4)=_:=(Dw _ (by omega)).trans Yz
     have Yx:A2.get (H.n+5)=_:=(Dw _ (by omega)).trans Yy
     have a23:A2.get (H.n+3)=A1.get (H.n+3):=by rw [vO,AH.af,if_pos rfl,TU]
     obtain ⟨A3,sH⟩ : ∃A3,A3=A2.set (H.n+4) (dw (.int .i64 (Y.sg:Int)) 3):=⟨_,rfl⟩
     have TS:A3.get (H.n+5)=_:=(show A3.get (H.n+5)=A2.get (H.n+5) by rw [sH,AH.af,if_neg (by omega)]).trans Yx
     obtain ⟨A4,w9⟩ : ∃A4,A4=A3.set (H.n+5) (dw (.int .i64 (Y.en:Int)) 3):=⟨_,rfl⟩
     have G1 : ∀c,c ≠ H.n+3→c ≠ H.n+4→c ≠ H.n+5→A4.get c=K3.get c:=fun c h1 h2 h3=>by rw [w9,AH.af,if_neg h3,sH,AH.af,if_neg h2,Dw c h1,Gy c h1]
     have Wd:G4 D.n A4:=by unfold G4 at zD ⊢;rw [G1 _ (by omega) (by omega) (by omega)];exact zD
     obtain ⟨A5,Np⟩ : ∃A5,A5=A4.set D.n .dead:=⟨_,rfl⟩
     have a5 : ∀c,c ≠ D.n→A5.get c=A4.get c:=fun c hc=>by rw [Np,AH.af,if_neg hc]
     have Wc:A5.get (H.n+3)=A1.get (H.n+3):=by rw [a5 _ (by omega),w9,AH.af,if_neg (by omega),sH,AH.af,if_neg (by omega),a23]
     have Wb:A5.get (H.n+4)=some (dw (.int .i64 (Y.sg:Int)) 3):=by rw [a5 _ (by omega),w9,AH.af,if_neg (by omega),sH,AH.af,if_pos rfl]
     have Wa:A5.get (H.n+5)=some (dw (.int .i64 (Y.en:Int)) 3):=by rw [a5 _ (by omega),w9,AH.af,if_pos rfl]
     refine ⟨_,_,_,_,rA rfl,_,cG Yz,_,cG Yy,rfl,A2,by rw [vO];unfold AH.write;rw [TU];simp [aA,AV.one],⟨_,cG Yx,rfl⟩,⟨_,cG TT,rfl⟩,rfl,A3,by rw [sH];exact jG TT rfl,⟨_,cG TS,rfl⟩,rfl,A4,by rw [w9];exact jG TS rfl,A5,by rw [Np];exact Wy Wd,_,_,_,_,rA Wc,_,cG Wb,_,cG Wa,?_⟩
     rw [hQ]
     rw [Ot] at uK
     refine ⟨0,S,sp,q3,rfl,uK,?_,fun c hc=>?_,?_,fun c hc=>?_⟩
     ·exact t1.same fun b hb=>by have:=t2 b hb;rw [a5 _ (by omega),G1 _ (by omega) (by omega) (by omega)]
     ·have:=t2 c hc
      rw [Np,AH.bq,w9,AH.bq,sH,AH.bq,vO,AH.bq,qG,AH.bq];omega
     ·rw [Np,AH.bq,w9,AH.bq,sH,AH.bq,vO,AH.bq,qG,AH.bq];omega
     ·rw [a5 _ (by omega),G1 _ (by omega) (by omega) (by omega)];exact zo c hc
    ·have dm:(er != 0)=true:=by rw [bne_iff_ne];exact RL
     have Jc:(er == 0)=false:=by rw [beq_eq_false_iff_ne];exact RL
     rw [dm]
     simp only [cond_true]
     obtain ⟨hS,lA⟩ : S=[]∧sp=[]:=by
      rcases uK with ⟨_,_,h1,h2⟩ | ⟨_,h0,h1,h2⟩
      ·exact ⟨h1,h2⟩
      ·have:256<NS.length:=by
        rcases Nat.lt_or_ge 256 NS.length with g | g
        ·exact g
        ·rw [h0] at RL
         exact absurd (ki g []).1 RL
       rw [h1,h2]
       exact ⟨(kQ this _).2.1,(kQ this []).2.2⟩
     obtain ⟨A2,vO⟩ : ∃A2,A2=A1.set (H.n+3) (.cells [.str [],.slice none 0 0] 24 { whole:=true }):=⟨_,rfl⟩
     have Dw : ∀c,c ≠ H.n+3→A2.get c=K3.get c:=fun c hc=>by rw [vO,AH.af,if_neg hc,Gy c hc]
     have TT:A2.get (H.n+4)=_:=(Dw _ (by omega)).trans z4
     obtain ⟨A3,sH⟩ : ∃A3,A3=A2.set (H.n+4) (dw (.int .i64 0) 3):=⟨_,rfl⟩
     have TS:A3.get (H.n+5)=_:=(show A3.get (H.n+5)=A2.get (H.n+5) by rw [sH,AH.af,if_neg (by omega)]).trans ((Dw _ (by omega)).trans z5)
     obtain ⟨A4,w9⟩ : ∃A4,A4=A3.set (H.n+5) (dw (.int .i64 0) 3):=⟨_,rfl⟩
     have G1 : ∀c,c ≠ H.n+3→c ≠ H.n+4→c ≠ H.n+5→A4.get c=K3.get c:=fun c h1 h2 h3=>by rw [w9,AH.af,if_neg h3,sH,AH.af,if_neg h2,Dw c h1]
     have Wd:G4 D.n A4:=by unfold G4 at zD ⊢;rw [G1 _ (by omega) (by omega) (by omega)];exact zD
     obtain ⟨A5,Np⟩ : ∃A5,A5=A4.set D.n .dead:=⟨_,rfl⟩
     have a5 : ∀c,c ≠ D.n→A5.get c=A4.get c:=fun c hc=>by rw [Np,AH.af,if_neg hc]
     have Wc:A5.get (H.n+3)=some (.cells [.str [],.slice none 0 0] 24 { whole:=true }):=by rw [a5 _ (by omega),w9,AH.af,if_neg (by omega),sH,AH.af,if_neg (by omega),vO,AH.af,if_pos rfl]
     have Wb:A5.get (H.n+4)=some (dw (.int .i64 0) 3):=by rw [a5 _ (by omega),w9,AH.af,if_neg (by omega),sH,AH.af,if_pos rfl]
     have Wa:A5.get (H.n+5)=some (dw (.int .i64 0) 3):=by rw [a5 _ (by omega),w9,AH.af,if_pos rfl]
     refine ⟨rfl,A2,by rw [vO];unfold AH.write;rw [TU];simp [aA,AV.one],(by trivial),A3,by rw [sH];exact jG TT rfl,(by trivial),A4,by rw [w9];exact jG TS rfl,A5,by rw [Np];exact Wy Wd,[],none,0,0,by unfold AH.read;rw [Wc];rfl,_,cG Wb,_,cG Wa,?_⟩
     rw [hQ]
     rw [Ot] at uK
     refine ⟨er,S,sp,none,by rw [Jc,hS,lA];rfl,uK,by rw [lA];exact ⟨rfl,rfl⟩,(fun c hc=>by cases hc),?_,fun c hc=>?_⟩
     ·rw [Np,AH.bq,w9,AH.bq,sH,AH.bq,vO,AH.bq,qG,AH.bq];omega
     ·rw [a5 _ (by omega),G1 _ (by omega) (by omega) (by omega)];exact zo c hc
 ·trivial
end Go.Proofs.YtlkdhhkncoekgaaGreatDoor

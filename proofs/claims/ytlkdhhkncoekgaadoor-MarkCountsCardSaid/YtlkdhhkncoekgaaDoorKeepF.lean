/- mark.Keep: what is kept of a right text, how many signs, line ends, looks are not. -/
import Derived.Test.YtlkdhhkncoekgaaDoorKeepE
namespace Go.Proofs.YtlkdhhkncoekgaaDoor
open Go.Am Go
abbrev dh (v:AV) (e:TypeId):aS:=.cells [v] e { whole:=true }
structure KS (h t e:Nat) (R:AH) (l:cN) (sg en:Nat) (q:Option Nat) (cs:List Nat) (K:AH):Prop where
 sg:K.get (h+4)=some (dh (.int .i64 (sg:Int)) 3)
 en:K.get (h+5)=some (dh (.int .i64 (en:Int)) 3)
 tl:K.get t=some (dh (sl q l.length) 56)
 tn:K.get (t+1)=some (dh (.int .i64 (l.length:Int)) 3)
 xX:bI K q l.length (flat br l) 79
 qb : ∀b,q=some b→e≤b∧b<K.n∧b ∉ cs
 wJ:e+2≤K.n
 cs : ∀c ∈ cs,e≤c
 old : ∀c,c<e→c ≠ h+4→c ≠ h+5→c ≠ t→c ≠ t+1→K.get c=R.get c
section
variable {h t e:Nat} {R:AH} {l:cN} {sg en:Nat} {q:Option Nat} {cs:List Nat} {K K' : AH}
theorem KS.ext (x:KS h t e R l sg en q cs K) (ht:h+5<t∧t+1<e) (hn:K.n≤K'.n) (g : ∀c,c<K.n→c ∉ cs→K'.get c=K.get c):KS h t e R l sg en q cs K':=by
 have lo : ∀c,c<e→K'.get c=K.get c:=fun c hc=>g c (by have:=x.wJ;omega) fun hm=>by have:=x.cs c hm;omega
 refine ⟨by rw [lo _ (by omega)];exact x.sg,by rw [lo _ (by omega)];exact x.en,by rw [lo _ (by omega)];exact x.tl,by rw [lo _ (by omega)];exact x.tn,x.xX.same fun b hb=>g b (x.qb b hb).2.1 (x.qb b hb).2.2,fun b hb=>?_,by have:=x.wJ;omega,x.cs,fun c h1 h2 h3 h4 h5=>by rw [lo c h1];exact x.old c h1 h2 h3 h4 h5⟩
 have:=x.qb b hb
 exact ⟨this.1,by omega,this.2.2⟩
theorem KS.more (x:KS h t e R l sg en q cs K) {c0:Nat} (h1:e≤c0) (h2 : ∀b,q=some b→b ≠ c0):KS h t e R l sg en q (c0 :: cs) K:=by
 refine ⟨x.sg,x.en,x.tl,x.tn,x.xX,fun b hb=>⟨(x.qb b hb).1,(x.qb b hb).2.1,fun hm=>?_⟩,x.wJ,fun c hc=>?_,x.old⟩
 ·rcases List.mem_cons.1 hm with e | hm
  ·exact h2 b hb e
  ·exact (x.qb b hb).2.2 hm
 ·rcases List.mem_cons.1 hc with rfl | hc
  ·exact h1
  ·exact x.cs c hc
theorem KS.Pr (x:KS h t e R l sg en q cs K) (ht:h+5<t∧t+1<e) (m:Nat):KS h t e R l m en q cs (K.set (h+4) (dh (.int .i64 (m:Int)) 3)):=by
 refine ⟨by rw [AH.af,if_pos rfl],by rw [AH.af,if_neg (by omega)];exact x.en,by rw [AH.af,if_neg (by omega)];exact x.tl,by rw [AH.af,if_neg (by omega)];exact x.tn,x.xX.same fun b hb=>by have:=x.qb b hb;rw [AH.af,if_neg (by omega)],by simpa using x.qb,by simpa using x.wJ,x.cs,fun c h1 h2 h3 h4 h5=>by rw [AH.af,if_neg h2];exact x.old c h1 h2 h3 h4 h5⟩
theorem KS.Pu (x:KS h t e R l sg en q cs K) (ht:h+5<t∧t+1<e) (m:Nat):KS h t e R l sg m q cs (K.set (h+5) (dh (.int .i64 (m:Int)) 3)):=by
 refine ⟨by rw [AH.af,if_neg (by omega)];exact x.sg,by rw [AH.af,if_pos rfl],by rw [AH.af,if_neg (by omega)];exact x.tl,by rw [AH.af,if_neg (by omega)];exact x.tn,x.xX.same fun b hb=>by have:=x.qb b hb;rw [AH.af,if_neg (by omega)],by simpa using x.qb,by simpa using x.wJ,x.cs,fun c h1 h2 h3 h4 h5=>by rw [AH.af,if_neg h3];exact x.old c h1 h2 h3 h4 h5⟩
end
theorem jh {K:AH} {b:Nat} {v w:AV} {e:TypeId} (h:K.get b=some (dh v e)) (hw:w.one=true):K.write b 0 [w]=some (K.set b (dh w e)):=by
 unfold AH.write
 rw [h]
 simp [ax,hw]
theorem cC {K:AH} {b:Nat} {v:AV} {e:TypeId} (h:K.get b=some (dh v e)):K.ak b 0=some v:=by unfold AH.ak;rw [h];rfl
theorem JT (b:List UInt8) (bl:Bool) (l:cN) (vw:List UInt8) (h:l ≠ []→cj l=(vw == [10])):(b == [10] && !bl && (((l.length:Nat):Int) == 0 || vw == [10]))=(b == [10] && !bl && (l.isEmpty || cj l)):=by
 cases l with
 | nil=>rfl
 | cons p l =>
  have e1:((((p :: l).length:Nat):Int) == 0)=false:=by rw [beq_eq_false_iff_ne];simp;omega
  rw [e1,h (by simp)];rfl
theorem vR {l:cN} (h:0<l.length):cj l=(l[l.length - 1].1 == [10]):=by
 unfold cj
 rw [List.getLast?_eq_getElem?,List.getElem?_eq_getElem (by omega)]
theorem vP {K:AH} {b:Nat} {l:cN} (hb:K.get b=some (.cells (flat br l) 79 { fT:=true })) (h:0<l.length) (hl:l.length≤8000):K.ak b (0+(IntKind.i64.wrap ((l.length:Int) - 1)).toNat*6+0)=some (.str l[l.length - 1].1):=by
 rw [wrap_i64 (by omega) (by omega),show (((l.length:Int) - 1).toNat)=l.length - 1 by omega]
 have:=j4 cF hb (i:=l.length - 1) (k:=0) (by omega) (by decide)
 rw [this];rfl
theorem Ek (L:List aj) (h:L.length≤100000):wM (bN L) (cq (bN L)):=by
 refine El ?_ (zg L)
 have:=iz L 5
 show (aA L 5).1.length≤_
 omega
theorem Ad {so:List ay} {n:Int} (hf : ∀x ∈ so,dO x n=true) (hx : ∀x ∈ so,∀y ∈ so,bu x y=false) (i:Int):xG (bt so i).c:=by
 rcases pY hx i with ⟨_,h⟩ | ⟨m,h1,h2⟩
 ·rw [h];exact ⟨by decide,by decide⟩
 ·rw [h2]
  have:=hf (bf so m) (by rw [fB h1.lt];exact List.getElem_mem _)
  have hc:=h1.IS
  unfold dO at this
  unfold iI at hc
  simp only [Bool.and_eq_true,Bool.not_eq_true',beq_eq_false_iff_ne] at hc
  obtain ⟨⟨⟨c1,c2⟩,c3⟩,c4⟩:=hc
  cases h3:(decide ((bf so m).f<0) || decide ((bf so m).t > n) || decide ((bf so m).f≥(bf so m).t) || decide ((bf so m).k<1) || decide ((bf so m).k > 5)) with
  | true=>rw [h3] at this;cases this
  | false =>
   rw [h3] at this
   simp only [Bool.or_eq_false_iff,decide_eq_false_iff_not] at h3
   have h5:((bf so m).k == 5)=true:=by rw [beq_iff_eq];omega
   rw [h5] at this
   simp only [cond_false,cond_true,Bool.and_eq_true,decide_eq_true_eq] at this
   exact ⟨by omega,by omega⟩
def D9 (H:AH) (x:cN×Nat) (sg en:Nat) (v:AV) (H' : AH):Prop :=
 ∃(er:Int) (S:List UInt8) (sp:List ay) (q:Option Nat),v=.tuple [.agg [.str S,sl q sp.length],.int .i64 (bif er == 0 then (sg:Int) else 0),.int .i64 (bif er == 0 then (en:Int) else 0),.int .i64 (bif er == 0 then (x.2:Int) else 0),.int .i64 er] ∧
  ((4096<(aF x.1).length∧er=3∧S=[]∧sp=[])∨((aF x.1).length≤4096∧er=Gu (cq (bN (x.1.map Prod.snd)))∧S=BF (cq (bN (x.1.map Prod.snd))) (aF x.1)∧sp=lg (cq (bN (x.1.map Prod.snd))))) ∧
  bI H' q sp.length (flat ay.cells sp) 41∧(∀c,q=some c→H.n≤c∧c<H'.n)∧H.n≤H'.n∧∀c,c<H.n→H'.get c=H.get c
structure MW (h:Nat) (d:Int) (bl:Bool) (s:List UInt8) (q2:Option (Nat×Nat)) (k c:Nat) (R:AH):Prop where
 d:R.get h=some (dh (.int .i64 d) 3)
 tx:R.get (h+1)=some (.cells [.str s,.slice q2 k c] 26 { whole:=true })
 bl:R.get (h+2)=some (dh (.bool bl) 4)
 kept:R.get (h+3)=some (.cells [.str [],.slice none 0 0] 26 { whole:=true })
section
variable (h:Nat) (d:Int) (bl:Bool) (s:List UInt8) (q2:Option (Nat×Nat)) (k c:Nat) (L:Nat→aj) (n:Nat)
def RU (t:Nat) (R:AH) (z1 z2:AV):Prop:=∃p r b,z1=.ptr (some (p,0))∧z2=.ptr (some (r,0))∧D7 s q2 k c L n p r b R∧(t+2≤p∧p<R.n)∧(t+2≤r∧r<R.n)∧(t+2≤b∧b<R.n)
def OD (z:AV×AV×Nat×AH) (K:AH):Prop:=∃p r b,z.1=.ptr (some (p,0))∧z.2.1=.ptr (some (r,0))∧z.2.2.2.get r=some (.cells [.slice (some (b,0)) n n] 50 { whole:=true })∧D7 s q2 k c L n p r b K
def C3 (z:AV×AV×Nat×AH) (i:Nat) (cs:List Nat) (K:AH):Prop :=
 (z.2.2.2.n+1 ∈ cs∧z.2.2.2.n ∈ cs)∧RU s q2 k c L n z.2.2.1 z.2.2.2 z.1 z.2.1∧(h+5<z.2.2.1∧z.2.2.1+1<z.2.2.2.n)∧MW h d bl s q2 k c z.2.2.2∧∃q,KS h z.2.2.1 z.2.2.2.n z.2.2.2 (eE d bl s L i).l (eE d bl s L i).sg (eE d bl s L i).en q cs K
end
section
variable {h:Nat} {d:Int} {bl:Bool} {s:List UInt8} {q2:Option (Nat×Nat)} {k c:Nat} {L:Nat→aj} {n:Nat}
theorem C3.cap {z:AV×AV×Nat×AH} {i:Nat} {cs:List Nat} {K:AH} (x:C3 h d bl s q2 k c L n z i cs K):OD s q2 k c L n z K:=by
 obtain ⟨_,⟨p,r,b,e1,e2,⟨g1,g2,g3⟩,l1,l2,l3⟩,hh,hb,q,y⟩:=x
 have old : ∀c,z.2.2.1+2≤c→c<z.2.2.2.n→K.get c=z.2.2.2.get c:=fun c h1 h2=>y.old c h2 (by omega) (by omega) (by omega) (by omega)
 exact ⟨p,r,b,e1,e2,g2,(old p l1.1 l1.2).trans g1,(old r l2.1 l2.2).trans g2,(old b l3.1 l3.2).trans g3⟩
theorem C3.closed (z:AV×AV×Nat×AH):sx (C3 h d bl s q2 k c L n z) (fun _ _ _=>False) (OD s q2 k c L n z) where
 s1:=fun i W K o x=>by
  obtain ⟨h0,h1,hh,hb,q,y⟩:=x
  have y2:KS h z.2.2.1 z.2.2.2.n z.2.2.2 (eE d bl s L i).l (eE d bl s L i).sg (eE d bl s L i).en q W (K.alloc o):=y.ext hh (by simp) fun c hc _=>by rw [AH.aa,if_neg (by omega)]
  exact ⟨⟨List.mem_cons_of_mem _ h0.1,List.mem_cons_of_mem _ h0.2⟩,h1,hh,hb,q,y2.more (by have:=y.wJ;omega) fun b hb=>by have:=y.qb b hb;omega⟩
 s2:=fun i W K c o hc x=>by
  obtain ⟨h0,h1,hh,hb,q,y⟩:=x
  exact ⟨h0,h1,hh,hb,q,y.ext hh (by simp) fun b _ hb=>by rw [AH.af,if_neg (fun e=>hb (by rw [e];exact hc))]⟩
 s3:=fun _ _ _ _ x=>x.elim
 s4:=fun _ _ _ _ _ _ x=>x.elim
 cap:=fun i W K x=>x.cap
end
theorem Iter.less {P:Program} {gf:FuncId} {x y:List AV} {Cap RZ:AH→Prop} {xs:List (List AV)} (h:Iter P gf x y Cap xs) (hc : ∀K,RZ K→Cap K):Iter P gf x y RZ xs :=
 fun b J D H0 hb a1 a2 a3 a4 hC=>h b J D H0 hb a1 a2 a3 a4 fun i W H hJ=>hc _ (hC i W H hJ)
theorem A6 (x t:cN) (a e:Nat) (hae:a≤e) (h:e≤x.length):rR (x ++ t) a e=rR x a e:=by
 have lk : ∀i,i<x.length→fZ (x ++ t) i=fZ x i:=fun i hi=>by unfold fZ;rw [List.getElem?_append_left hi]
 have tt : ∀m,a+m<x.length→fV (x ++ t) a m=fV x a m:=by
  intro m
  induction m with
  | zero=>intro hm;exact lk a (by omega)
  | succ m ih =>
   intro hm
   unfold fV
   rw [ih (by omega),lk _ (by omega)]
 unfold rR
 by_cases he:a=e
 ·rw [if_pos he,if_pos he]
 ·rw [if_neg he,if_neg he,tt _ (by omega)]
theorem wZ (K:AH) (q:Option Nat) (i k c:Nat) (h:i≤k) (hc:k≤c):cJ Tryd.prog K 56 (.slice (q.map fun b=>(b,0)) k c) none (some (.int .i64 (i:Int))) none=some (.slice (q.map fun b=>(b,0)) i c):=by
 have t1:Tryd.prog.underlying 56=some (.slice 79):=by kernel_rfl
 have t2:bX Tryd.prog 79=some 6:=by kernel_rfl
 unfold cJ
 simp only [t1,t2,fR,Option.bind_some,Option.map_some]
 rw [if_pos (Int.natCast_nonneg _),Int.toNat_natCast]
 simp only [Option.bind_some]
 rw [if_pos ⟨Nat.zero_le _,by omega,by omega,fun e=>by cases e⟩]
 cases q <;> simp
theorem Kc {K:AH} {b a i:Nat} {y:cN} {fl:Fl} (h:K.get b=some (.cells (flat br y) 79 fl)) (hi:a+i<y.length):K.read b (a*6+((i:Nat):Int).toNat*6+1) 5=some y[a+i].2.cells:=by
 have:=ig cF h hi (k:=1) (m:=5) (by decide)
 rw [Int.toNat_natCast,show a*6+i*6+1=0+(a+i)*6+1 by omega,this]
 rfl
theorem Hw {K:AH} {b a i:Nat} {y:cN} (h:K.get b=some (.cells (flat br y) 79 { fT:=true })) (hi:a+i<y.length) (c:aj):K.write b (a*6+((i:Nat):Int).toNat*6+1) c.cells=some (K.set b (.cells (flat br (y.set (a+i) (y[a+i].1,c))) 79 { fT:=true })):=by
 have:=jU cF h rfl rfl hi (k:=1) (vs:=c.cells) (y:=(y[a+i].1,c)) (by rw [aj.aG];decide) c.ef (by simp [ax,br,aj.cells])
 rw [Int.toNat_natCast,show a*6+i*6+1=0+(a+i)*6+1 by omega,this]
theorem uj : ∀ {ps:List (Nat×Nat)} {a b:Nat} (j:Nat),nw a ps b→j≤ps.length→∃m,nw a (ps.take j) m∧nw m (ps.drop j) b
 | _,a,_,0,h,_=>⟨a,rfl,h⟩
 | p :: ps,a,b,j+1,h,hj=>by
  obtain ⟨m,h1,h2⟩:=uj j h.2.2 (by simpa using hj)
  exact ⟨m,⟨h.1,h.2.1,h1⟩,h2⟩
theorem IT (p:Nat→Bool) : ∀n,cnt p n≤n
 | 0=>Nat.le_refl _
 | n+1=>by rw [gG];have:=IT p n;cases p n <;> simp only [cond_true,cond_false] <;> omega
theorem GV (a b:aj):(a.b == b.b && (a.i == b.i && (a.u == b.u && (a.k == b.k && (a.c == b.c && true)))))=cW a b:=by unfold cW;simp [Bool.and_assoc]
theorem Kf {l:cN} {j:Nat} (d:Int) (hj:j<(parts l).length):(parts l)[j].1≤(parts l)[j].2∧(parts l)[j].2≤l.length∧PI l (parts l)[j].1 (((parts l).take j).foldl (fY d) (l,0)):=by
 obtain ⟨m,h1,h2⟩:=uj j (qI l) (by omega)
 rw [List.drop_eq_getElem_cons hj] at h2
 obtain ⟨e1,e2,e3⟩:=h2
 have:=uk e3
 refine ⟨e2,by omega,?_⟩
 rw [e1]
 exact PI.lines d h1 (by omega) (PI.start l)
set_option maxHeartbeats 2000000 in
set_option maxRecDepth 100000 in
theorem Jg (d:Int) (hd:1≤d∧d≤4) (s:List UInt8) (n:Nat) (hn:aD s n) (hs:s.length≤4096) {so:List ay} (hl:so.length≤256) (hf : ∀x ∈ so,dO x n=true) (hx : ∀x ∈ so,∀y ∈ so,bu x y=false) (bl:Bool) {H:AH} {q:Option Nat} {cp:Nat} (hq:iG H q cp so) :
  az Tryd.prog 20 [.int .i64 d,.agg [.str s,.slice (q.map fun b=>(b,0)) so.length cp],.bool bl] H fun v H' =>
   D9 H (dK d (eL bl (eE d bl s (fun i:Nat=>bt so (i:Int)) n)).l) (eL bl (eE d bl s (fun i:Nat=>bt so (i:Int)) n)).sg (eL bl (eE d bl s (fun i:Nat=>bt so (i:Int)) n)).en v H':=by
 have Ct:n≤s.length:=by have:=dJ hn.2;have:=hn.1;omega
 obtain ⟨L,hL⟩ : ∃L:Nat→aj,L=fun i:Nat=>bt so (i:Int):=⟨_,rfl⟩
 rw [← hL]
 obtain ⟨Q,hQ⟩ : ∃Q:AV→AH→Prop,Q=fun v H'=>D9 H (dK d (eL bl (eE d bl s L n)).l) (eL bl (eE d bl s L n)).sg (eL bl (eE d bl s L n)).en v H':=⟨_,rfl⟩
 rw [← hQ]
 obtain ⟨E0,CF⟩ : ∃E0,E0=(((((H.alloc (.cells [.int .i64 d] 3 { whole:=true })).alloc (.cells [.str s,.slice (q.map fun b=>(b,0)) so.length cp] 26 { whole:=true })).alloc (.cells [.bool bl] 4 { whole:=true })).alloc (.cells [.str [],.slice none 0 0] 26 { whole:=true })).alloc (.cells [.int .i64 0] 3 { whole:=true })).alloc (.cells [.int .i64 0] 3 { whole:=true }):=⟨_,rfl⟩
 have en:E0.n=H.n+6:=by rw [CF];simp only [AH.aC]
 have eo : ∀c,c<H.n→E0.get c=H.get c:=fun c hc=>by
  rw [CF]
  simp only [AH.aa,AH.aC]
  repeat rw [if_neg (by omega)]
 have e0:E0.get H.n=some (dh (.int .i64 d) 3):=by
  rw [CF];simp only [AH.aa,AH.aC]
  rw [if_neg (by omega),if_neg (by omega),if_neg (by omega),if_neg (by omega),if_neg (by omega),if_pos trivial]
 have e1:E0.get (H.n+1)=some (.cells [.str s,.slice (q.map fun b=>(b,0)) so.length cp] 26 { whole:=true }):=by
  rw [CF];simp only [AH.aa,AH.aC]
  rw [if_neg (by omega),if_neg (by omega),if_neg (by omega),if_neg (by omega),if_pos trivial]
 have e2:E0.get (H.n+2)=some (dh (.bool bl) 4):=by
  rw [CF];simp only [AH.aa,AH.aC]
  rw [if_neg (by omega),if_neg (by omega),if_neg (by omega),if_pos trivial]
 have e3:E0.get (H.n+3)=some (.cells [.str [],.slice none 0 0] 26 { whole:=true }):=by
  rw [CF];simp only [AH.aa,AH.aC]
  rw [if_neg (by omega),if_neg (by omega),if_pos trivial]
 have e4:E0.get (H.n+4)=some (dh (.int .i64 0) 3):=by
  rw [CF];simp only [AH.aa,AH.aC]
  rw [if_neg (by omega),if_pos trivial]
 have e5:E0.get (H.n+5)=some (dh (.int .i64 0) 3):=by
  rw [CF];simp only [AH.aa,AH.aC]
  rw [if_pos trivial]
 have dd:(decide (d<1) || decide (d > 4))=false:=by rw [Bool.or_eq_false_iff,decide_eq_false_iff_not,decide_eq_false_iff_not];omega
 have OP:(IL s L n).length=n:=by unfold IL;rw [List.length_map,List.length_range]
 have Yw : ∀i x,(IL s L n)[i]? = some x→i<n∧x=(eA s i,Sc (L i)):=fun i x hx=>by
  have hi:i<(IL s L n).length:=by rw [List.getElem?_eq_some_iff] at hx;exact hx.1
  rw [List.getElem?_eq_getElem hi] at hx
  refine ⟨by omega,(Option.some.inj hx).symm.trans ?_⟩
  simp only [IL,List.getElem_map,List.getElem_range]
 refine .inl ⟨aB (by kernel_rfl),ck (aT:=_) (dY:=_) au (Eq.mpr (Kx (real Tryd.prog) (Iter Tryd.prog) d s (q.map fun b=>(b,0)) so.length cp bl H Q (IL s L n) (OD s (q.map fun b=>(b,0)) so.length cp L n) (C3 H.n d bl s (q.map fun b=>(b,0)) so.length cp L n) (fun _ _ _ _=>False)) ?_)⟩
 simp only [bL,bq,aY,bh,aJ,aL,cm,fD,lA,Dc,AH.aC,Nat.add_assoc,Nat.reduceAdd]
 simp only [← CF]
 have VS:E0.ak H.n 0=some (.int .i64 d):=cC e0
 refine ⟨(by trivial),(by trivial),(by trivial),d,VS,d,VS,?_⟩
 rw [dd]
 simp only [cond_false]
 have WA:iG E0 q cp so:=hq.gM (by omega) eo
 refine ⟨s,q.map fun b=>(b,0),so.length,cp,by unfold AH.read;rw [e1];rfl,?_⟩
 refine (zu s n hn hs hl hf hx WA).mono ?_
 rintro v B ⟨rfl,bn,bo⟩
 refine ⟨0,rfl,?_⟩
 have n0:((0:Int) != 0)=false:=by decide
 simp only [n0,cond_false]
 obtain ⟨C,hC⟩ : ∃C,C=((B.alloc (.cells [.slice none 0 0] 56 { whole:=true })).alloc (.cells [.int .i64 0] 3 { whole:=true })).set (B.n+1) (.cells [.int .i64 0] 3 { whole:=true }):=⟨_,rfl⟩
 have cn:C.n=B.n+2:=by rw [hC];simp only [AH.aZ,AH.aC]
 have co : ∀c,c<B.n→C.get c=B.get c:=fun c hc=>by rw [hC,AH.af,if_neg (by omega),AH.aa,if_neg (by simp only [AH.aC];omega),AH.aa,if_neg (by omega)]
 have c0:C.get B.n=some (dh (.slice none 0 0) 56):=by rw [hC,AH.af,if_neg (by omega),AH.aa,if_neg (by simp only [AH.aC];omega),AH.aa,if_pos rfl]
 have c1:C.get (B.n+1)=some (dh (.int .i64 0) 3):=by rw [hC,AH.af,if_pos rfl]
 have ce : ∀c,c<E0.n→C.get c=E0.get c:=fun c hc=>(co c (by omega)).trans (bo c hc)
 refine ⟨(by trivial),C,by rw [hC];simp [AH.write,AH.aa,ax,AV.one],s,q.map fun b=>(b,0),so.length,cp,by unfold AH.read;rw [ce _ (by omega),e1];rfl,?_⟩
 refine (GX s n hn hs hl hf hx (WA.gM (by omega) ce)).mono ?_
 rintro v D ⟨p,r,b,rfl,UZ,lp,lr,lb,dn,Lq⟩
 rw [← hL] at UZ
 have de : ∀c,c<E0.n→D.get c=E0.get c:=fun c hc=>(Lq c (by omega)).trans (ce c hc)
 have iY:MW H.n d bl s (q.map fun b=>(b,0)) so.length cp D:=⟨by rw [de _ (by omega)];exact e0,by rw [de _ (by omega)];exact e1,by rw [de _ (by omega)];exact e2,by rw [de _ (by omega)];exact e3⟩
 refine ⟨_,rfl,(.ptr (some (p,0)),.ptr (some (r,0)),B.n,D),rfl,?_,C3.closed _,fun _=>rfl,?_,?_,?_,?_⟩
 ·refine Iter.less (xb s n hn hs (q.map fun b=>(b,0)) so.length cp L p r b) ?_
  rintro K ⟨p',r',b',x1,x2,x3,x4⟩
  cases x1;cases x2
  have x5:=UZ.2.1.symm.trans x3
  cases x5
  exact x4
 ·rintro K ⟨kn,kg,_⟩
  exact ⟨⟨List.mem_cons_self,List.mem_cons_of_mem _ List.mem_cons_self⟩,⟨p,r,b,rfl,rfl,UZ,⟨by show B.n+2≤p;omega,lp.2⟩,⟨by show B.n+2≤r;omega,lr.2⟩,⟨by show B.n+2≤b;omega,lb.2⟩⟩,⟨by show H.n+5<B.n;omega,by show B.n+1<D.n;omega⟩,iY,none,
   ⟨by rw [kg _ (by omega),de _ (by omega)];exact e4,by rw [kg _ (by omega),de _ (by omega)];exact e5,by rw [kg _ (by simp only;omega),Lq _ (by simp only;omega)];exact c0,by rw [kg _ (by simp only;omega),Lq _ (by simp only;omega)];exact c1,⟨rfl,rfl⟩,(fun b hb=>by cases hb),by simp only;omega,
    (fun c hc=>by simp only [List.mem_cons,List.mem_nil_iff,or_false] at hc;simp only;omega),fun c hc _ _ _ _=>kg c hc⟩⟩
 ·
  rintro i cs K x hx ⟨kS,hh,cv,_,q',O4⟩ Oc hIn
  obtain ⟨hi,rfl⟩:=Yw i x hx
  simp only at cv O4
  have WC:=hn.2 i hi
  have jn:=ct s _ WC
  obtain ⟨P,hP⟩ : ∃P,P=place s i:=⟨_,rfl⟩
  obtain ⟨Z,hZ⟩ : ∃Z,Z=(ah s (place s i)).2:=⟨_,rfl⟩
  simp only [eA,Sc]
  rw [← hP] at WC jn ⊢
  rw [← hP] at hZ
  rw [← hZ] at jn ⊢
  have hDn:D.n+1<K.n:=Oc _ hIn
  obtain ⟨F,hF⟩ : ∃F,F=(K.alloc (.cells [.int .i64 0,.int .i64 0,.int .i32 0,.bool false] 77 { whole:=true })).set K.n (.cells [.int .i64 P,.int .i64 Z,.int .i32 (ah s P).1,.bool (((ah s P).1:Int) == 65533 && (Z:Int) == 1)] 77 { whole:=true }):=⟨_,rfl⟩
  obtain ⟨G,hG⟩ : ∃G,G=(F.alloc (.cells [.bool false,.bool false,.bool false,.bool false,.int .i64 0] 53 { whole:=true })).set F.n (.cells (L i).cells 53 { whole:=true }):=⟨_,rfl⟩
  have fn:F.n=K.n+1:=by rw [hF];simp only [AH.aZ,AH.aC]
  have gn:G.n=K.n+2:=by rw [hG];simp only [AH.aZ,AH.aC];omega
  have fo : ∀c,c<K.n→F.get c=K.get c:=fun c hc=>by rw [hF,AH.af,if_neg (by omega),AH.aa,if_neg (by omega)]
  have go : ∀c,c<K.n→G.get c=K.get c:=fun c hc=>by rw [hG,AH.af,if_neg (by omega),AH.aa,if_neg (by omega),fo c hc]
  have g0:G.get K.n=some (.cells [.int .i64 P,.int .i64 Z,.int .i32 (ah s P).1,.bool (((ah s P).1:Int) == 65533 && (Z:Int) == 1)] 77 { whole:=true }):=by rw [hG,AH.af,if_neg (by omega),AH.aa,if_neg (by omega),hF,AH.af,if_pos rfl]
  have g1:G.get (K.n+1)=some (.cells (L i).cells 53 { whole:=true }):=by rw [hG,AH.af,if_pos (by omega)]
  refine ⟨rfl,F,by rw [hF];simp [AH.write,AH.aa,ax,AV.one],rfl,G,by rw [hG];simp [AH.write,AH.aa,ax,AV.one,aj.cells],⟨by omega,fun c hc=>go c (Oc c hc)⟩,?_⟩
  intro M hM
  have mn:M.n=K.n+2:=hM.n.trans gn
  have mo : ∀c,c<K.n→c ≠ D.n+1→M.get c=K.get c:=fun c hc cU=>(hM.get c cU).trans (go c hc)
  have m0:M.get K.n=_:=(hM.get _ (by omega)).trans g0
  have m1:M.get (K.n+1)=_:=(hM.get _ (by omega)).trans g1
  have Ri:KS H.n B.n D.n D (eE d bl s L i).l (eE d bl s L i).sg (eE d bl s L i).en q' cs M:=O4.ext (by omega) (by omega) fun c hc WJ=>mo c hc fun e=>WJ (by rw [e];exact hIn)
  have mD : ∀c,c<H.n+4→M.get c=D.get c:=fun c hc=>Ri.old c (by omega) (by omega) (by omega) (by omega) (by omega)
  have mt:M.get (H.n+1)=_:=(mD _ (by omega)).trans iY.tx
  have md:M.get H.n=_:=(mD _ (by omega)).trans iY.d
  have mb:M.get (H.n+2)=_:=(mD _ (by omega)).trans iY.bl
  have w:IntKind.i64.wrap ((P:Int)+(Z:Int))=((P+Z:Nat):Int):=by rw [wrap_i64 (by omega) (by omega)];omega
  have hB:List.take (((P+Z:Nat):Int) - (P:Int)).toNat (List.drop ((P:Int)).toNat s)=uK s i:=by
   rw [show (((P+Z:Nat):Int) - (P:Int)).toNat=Z by omega,Int.toNat_natCast,hZ,hP];rfl
  have rs:M.ak (H.n+1) 0=some (.str s):=by unfold AH.ak;rw [mt];rfl
  have rp:M.ak K.n 0=some (.int .i64 P):=by unfold AH.ak;rw [m0];rfl
  have rz:M.ak K.n 1=some (.int .i64 Z):=by unfold AH.ak;rw [m0];rfl
  have rl:M.read F.n 0 5=some (L i).cells:=by rw [fn];unfold AH.read;rw [m1];rfl
  obtain ⟨M2,SH⟩ : ∃M2,M2=M.alloc (.cells [.str [],.bool false,.bool false,.bool false,.bool false,.int .i64 0] 79 { whole:=true }):=⟨_,rfl⟩
  have o2 : ∀c,c<M.n→M2.get c=M.get c:=fun c hc=>by rw [SH,AH.aa,if_neg (by omega)]
  have X8:M2.ak (H.n+1) 0=some (.str s):=by unfold AH.ak;rw [o2 _ (by omega),mt];rfl
  have VO:M2.ak K.n 0=some (.int .i64 P):=by unfold AH.ak;rw [o2 _ (by omega),m0];rfl
  have X7:M2.ak K.n 1=some (.int .i64 Z):=by unfold AH.ak;rw [o2 _ (by omega),m0];rfl
  have X9:M2.read F.n 0 5=some (L i).cells:=by rw [fn];unfold AH.read;rw [o2 _ (by omega),m1];rfl
  rw [← SH]
  refine ⟨s,rs,P,rp,P,rp,Z,rz,?_⟩
  rw [w]
  have bd:(0:Int)≤(P:Int)∧(P:Int)≤((P+Z:Nat):Int)∧((P+Z:Nat):Int)≤(s.length:Int):=by omega
  refine ⟨bd,(L i).b,(L i).i,(L i).u,(L i).k,(L i).c,rl,⟨_,_,_,_,_,X9,rfl⟩,⟨bd,(by trivial)⟩,⟨_,X7,rfl⟩,⟨_,VO,rfl⟩,⟨_,VO,rfl⟩,⟨_,X8,rfl⟩,rfl,?_⟩
  rw [hB]
  have N9:=KI.all (d:=d) (bl:=bl) (L:=L) hn (m:=i) (by omega)
  obtain ⟨X,hX⟩ : ∃X,X=eE d bl s L i:=⟨_,rfl⟩
  rw [← hX] at Ri N9
  have UO:=N9.count
  have T8:=N9.yP
  obtain ⟨Nf,KD⟩ : ∃Nf,Nf=X.sg+(if (jF d (gq s i)).isSome then 1 else 0):=⟨_,rfl⟩
  obtain ⟨N,hN⟩ : ∃N,N=M2.set M.n (.cells (br (uK s i,L i)) 79 { whole:=true }):=⟨_,rfl⟩
  have nn:N.n=K.n+3:=by rw [hN,SH];simp only [AH.aZ,AH.aC];omega
  have no : ∀c,c<M.n→N.get c=M.get c:=fun c hc=>by rw [hN,AH.af,if_neg (by omega),o2 c hc]
  have V4:N.get M.n=some (.cells (br (uK s i,L i)) 79 { whole:=true }):=by rw [hN,AH.af,if_pos rfl]
  have ZQ:KS H.n B.n D.n D X.l X.sg X.en q' cs N:=Ri.ext (by omega) (by omega) fun c hc _=>no c hc
  have SW : ∀c ∈ cs,c<M.n:=fun c hc=>by have:=Oc c hc;omega
  have SX : ∀c ∈ cs,D.n≤c:=Ri.cs
  refine ⟨N,by rw [hN,SH];simp [AH.write,AH.aa,ax,AV.one,br,aj.cells],fun y K'=>y=(H.n+2,H.n+5,B.n,B.n+1,M.n)∧M.n<K'.n∧K'.get M.n=some (.cells (br (bO d s i,L i)) 79 { whole:=true })∧KS H.n B.n D.n D X.l Nf X.en q' cs K'∧(∀c ∈ cs,K'.get c=M.get c),
   ⟨d,by unfold AH.ak;rw [no _ (by omega),md];rfl,(ah s P).1,by unfold AH.ak;rw [no _ (by omega),m0];rfl,?_⟩,?_⟩
  ·refine (Es d (ah s P).1).dS ⟨_,_,rfl,?_⟩
   have hr:((ah s P).1:Int)=gq s i:=by rw [hP];rfl
   rw [hr]
   cases hk:jF d (gq s i) with
   | none =>
    have Ux:bO d s i=uK s i:=by unfold bO;rw [hk];rfl
    have:Nf=X.sg:=by rw [KD,hk];rfl
    simp only [Option.isNone_none,Bool.not_true,cond_false]
    exact ⟨(H.n+2,H.n+5,B.n,B.n+1,M.n),0,trivial,rfl,rfl,by omega,by rw [Ux];exact V4,by rw [this];exact ZQ,fun c hc=>no c (SW c hc)⟩
   | some u =>
    have Ux:bO d s i=u:=by unfold bO;rw [hk];rfl
    have NN:Nf=X.sg+1:=by rw [KD,hk];rfl
    simp only [Option.isNone_some,Option.getD_some,Bool.not_false,cond_true]
    obtain ⟨N3,SG⟩ : ∃N3,N3=N.set M.n (.cells (br (u,L i)) 79 { whole:=true }):=⟨_,rfl⟩
    have n3:N3.get M.n=some (.cells (br (u,L i)) 79 { whole:=true }):=by rw [SG,AH.af,if_pos rfl]
    have V3 : ∀c,c<M.n→N3.get c=M.get c:=fun c hc=>by rw [SG,AH.af,if_neg (by omega),no c hc]
    have n3n:N3.n=K.n+3:=by rw [SG];simp only [AH.aZ];omega
    have La:KS H.n B.n D.n D X.l X.sg X.en q' cs N3:=Ri.ext (by omega) (by omega) fun c hc _=>V3 c hc
    have XY:IntKind.i64.wrap ((X.sg:Int)+1)=((X.sg+1:Nat):Int):=by rw [wrap_i64 (by omega) (by omega)];omega
    refine ⟨rfl,N3,by rw [SG];unfold AH.write;rw [V4];simp [ax,AV.one,br],X.sg,cC La.sg,rfl,N3.set (H.n+4) (dh (.int .i64 ((X.sg+1:Nat):Int)) 3),by rw [XY];exact jh La.sg rfl,(H.n+2,H.n+5,B.n,B.n+1,M.n),0,trivial,rfl,rfl,by simp only [AH.aZ];omega,by rw [AH.af,if_neg (by omega),Ux];exact n3,by rw [NN];exact La.Pr (by omega) _,fun c hc=>?_⟩
    have:=SX c hc
    rw [AH.af,if_neg (by omega)]
    exact V3 c (SW c hc)
  ·rintro _ K3 ⟨rfl,k1,k2,k3,k4⟩
   simp only
   have kD : ∀c,c<H.n+4→K3.get c=D.get c:=fun c hc=>k3.old c (by omega) (by omega) (by omega) (by omega) (by omega)
   have kl:K3.ak B.n 0=some (.slice (q'.map fun b=>(b,0)) X.l.length X.l.length):=cC k3.tl
   have QD:X.l.length≤8000:=by omega
   obtain ⟨qP,sj,vw,f1,f2,f3⟩ : ∃qP sj vw,(X.l ≠ []→q'.map (fun b=>(b,0))=some (qP,sj))∧K3.ak qP (sj+(IntKind.i64.wrap ((X.l.length:Int) - 1)).toNat*6+0)=some (.str vw)∧(X.l ≠ []→cj X.l=(vw == [10])):=by
    by_cases hle:X.l=[]
    ·refine ⟨H.n+1,0,s,fun h=>absurd hle h,?_,fun h=>absurd hle h⟩
     rw [hle]
     have:IntKind.i64.wrap (((([]:cN).length:Nat):Int) - 1) = -1:=by rw [wrap_i64 (by simp) (by simp)];simp
     rw [this]
     unfold AH.ak;rw [kD _ (by omega),iY.tx];rfl
    ·have h0:0<X.l.length:=List.length_pos_iff.2 hle
     have uP:=k3.xX
     cases va:q' with
     | none=>rw [va] at uP;exact absurd uP.1 (by omega)
     | some b0 =>
      rw [va] at uP
      exact ⟨b0,0,X.l[X.l.length - 1].1,fun _=>rfl,vP uP h0 QD,fun _=>vR h0⟩
   refine ⟨bO d s i,by unfold AH.ak;rw [k2];rfl,bl,by unfold AH.ak;rw [kD _ (by omega),iY.bl];rfl,_,_,_,kl,_,_,_,kl,_,_,_,kl,qP,sj,fun h=>?_,vw,f2,?_⟩
   ·have hle:X.l ≠ []:=fun e=>by rw [e] at h;simp at h
    have h0:0<X.l.length:=List.length_pos_iff.2 hle
    rw [wrap_i64 (by omega) (by omega)]
    exact ⟨f1 hle,by omega,by omega⟩
   ·rw [JT _ _ _ _ f3]
    have lT:eE d bl s L (i+1)=ng d bl s L X i:=by rw [hX];rfl
    have Xk : ∀ {l' : cN} {Rw:Nat} {q2:Option Nat} {K4 K5:AH},eE d bl s L (i+1)=⟨l',Nf,Rw⟩→KS H.n B.n D.n D l' Nf Rw q2 cs K4→qv (D.n+1) K4 K5→C3 H.n d bl s (q.map fun b=>(b,0)) so.length cp L n (.ptr (some (p,0)),.ptr (some (r,0)),B.n,D) (i+1) cs K5:=fun {l' Rw q2 K4 K5} e Gs O7=>by
     refine ⟨kS,hh,cv,iY,q2,?_⟩
     rw [e]
     exact Gs.ext (by omega) (by rw [O7.n];exact Nat.le_refl _) fun c _ hc=>O7.get c fun e=>hc (by rw [e];exact hIn)
    cases hc:(bO d s i == [10] && !bl && (X.l.isEmpty || cj X.l)) with
    | true =>
     simp only [cond_true]
     have Tc:IntKind.i64.wrap ((X.en:Int)+1)=((X.en+1:Nat):Int):=by rw [wrap_i64 (by omega) (by omega)];omega
     refine ⟨X.en,cC k3.en,rfl,K3.set (H.n+5) (dh (.int .i64 ((X.en+1:Nat):Int)) 3),by rw [Tc];exact jh k3.en rfl,⟨by simp only [AH.aZ];omega,fun c hc=>?_⟩,fun K5 O7=>?_⟩
     ·have:=SX c hc
      rw [AH.af,if_neg (by omega)];exact k4 c hc
     ·refine Xk (l':=X.l) (Rw:=X.en+1) ?_ (k3.Pu (by omega) (X.en+1)) O7
      rw [lT];unfold ng;rw [hc,← KD];rfl
    | false =>
     simp only [cond_false]
     obtain ⟨A,hA⟩ : ∃A,A=K3.alloc (.cells (br (bO d s i,L i)) 79 { whole:=true }):=⟨_,rfl⟩
     have ao : ∀c,c<K3.n→A.get c=K3.get c:=fun c hc=>by rw [hA,AH.aa,if_neg (by omega)]
     have an:A.n=K3.n+1:=by rw [hA];simp only [AH.aC]
     have Y7:bI A q' X.l.length (flat br X.l) 79:=k3.xX.same fun b hb=>ao b (k3.qb b hb).2.1
     obtain ⟨A2,a1,a2,a3,a4⟩:=yJ (H:=A) (y:=(bO d s i,L i)) (c:=K3.n) (fl:={ whole:=true }) Y7 (by rw [hA,AH.aa,if_pos rfl]) (by omega)
     have k3l:H.n+5<B.n∧B.n+1<D.n∧D.n+2≤K3.n:=⟨cv.1,cv.2,k3.wJ⟩
     have FY : ∀c,c<K3.n→q' ≠ some c→A2.get c=K3.get c:=fun c hc cU=>(a4 c (by omega) cU).trans (ao c hc)
     have PC : ∀c,c<D.n→q' ≠ some c:=fun c hc e=>by have:=k3.qb c e;omega
     have a5:A2.get B.n=_:=(FY _ (by omega) (PC _ (by omega))).trans k3.tl
     obtain ⟨A3,wk⟩ : ∃A3,A3=A2.set B.n (dh (sl (some A.n) (X.l ++ [(bO d s i,L i)]).length) 56):=⟨_,rfl⟩
     have a6:A3.get (B.n+1)=some (dh (.int .i64 (X.l.length:Int)) 3):=by rw [wk,AH.af,if_neg (by omega),FY _ (by omega) (PC _ (by omega))];exact k3.tn
     have wl:IntKind.i64.wrap ((X.l.length:Int)+1)=(((X.l ++ [(bO d s i,L i)]).length:Nat):Int):=by rw [wrap_i64 (by omega) (by omega),List.length_append,List.length_singleton];omega
     obtain ⟨A4,wh⟩ : ∃A4,A4=A3.set (B.n+1) (dh (.int .i64 (((X.l ++ [(bO d s i,L i)]).length:Nat):Int)) 3):=⟨_,rfl⟩
     have a4n:A4.n=K3.n+2:=by rw [wh,wk];simp only [AH.aZ];omega
     have Gy : ∀c,c ≠ B.n→c ≠ B.n+1→A4.get c=A2.get c:=fun c h1 h2=>by rw [wh,AH.af,if_neg h2,wk,AH.af,if_neg h1]
     refine ⟨_,_,_,kl,bO d s i,(L i).b,(L i).i,(L i).u,(L i).k,(L i).c,by unfold AH.read;rw [k2];rfl,⟨by decide,by decide,(by trivial)⟩,_,_,_,A2,by rw [hA] at a1;exact a1,rfl,A3,by rw [← hA,wk];exact jh (w:=sl (some A.n) (X.l ++ [(bO d s i,L i)]).length) a5 rfl,_,cC a6,rfl,A4,by rw [wl,wh];exact jh a6 rfl,⟨by omega,fun c hc=>?_⟩,fun K5 O7=>?_⟩
     ·have h1:=SX c hc
      have h2:=SW c hc
      rw [Gy c (by omega) (by omega),FY c (by omega) (fun e=>(k3.qb c e).2.2 hc)]
      exact k4 c hc
     ·refine Xk (l':=X.l ++ [(bO d s i,L i)]) (Rw:=X.en) (q2:=some A.n) ?_ ⟨?_,?_,?_,?_,?_,?_,?_,SX,?_⟩ O7
      ·rw [lT];unfold ng;rw [hc,← KD];rfl
      ·rw [Gy _ (by omega) (by omega),FY _ (by omega) (PC _ (by omega))];exact k3.sg
      ·rw [Gy _ (by omega) (by omega),FY _ (by omega) (PC _ (by omega))];exact k3.en
      ·rw [wh,AH.af,if_neg (by omega),wk,AH.af,if_pos rfl]
      ·rw [wh,AH.af,if_pos rfl]
      ·exact a3.same fun b hb=>by cases hb;exact Gy _ (by omega) (by omega)
      ·intro b hb
       cases hb
       exact ⟨by omega,by omega,fun hm=>by have:=SW _ hm;omega⟩
      ·omega
      ·intro c h1 h2 h3 h4 h5
       rw [Gy c h4 h5,FY c (by omega) (PC c h1)]
       exact k3.old c h1 h2 h3 h4 h5
 ·
  rintro cs K0 K ⟨kS,_,cv,_,q',O4⟩ hB hD
  simp only at cv O4 kS
  have Zy:=O4.wJ
  have ZR : ∀c,c ∉ cs→K.get c=K0.get c:=fun c hc=>hB.get c fun e=>hc (by rw [e];exact kS.1)
  have yU:=O4.ext (K':=K) cv (by rw [hB.n];exact Nat.le_refl _) fun c _ hc=>ZR c hc
  rw [OP] at yU
  have N9:=KI.all (d:=d) (bl:=bl) (L:=L) hn (m:=n) (Nat.le_refl n)
  obtain ⟨X,hX⟩ : ∃X,X=eE d bl s L n:=⟨_,rfl⟩
  obtain ⟨Y,hY⟩ : ∃Y,Y=eL bl X:=⟨_,rfl⟩
  have hE:KE s L n Y:=by rw [hY,hX];exact tG hn
  rw [← hX,← hY] at hQ
  rw [← hX] at yU N9
  have UO:=N9.count
  have T8:=N9.yP
  have Yh:=yU.wJ
  have kD : ∀c,c<H.n+4→K.get c=D.get c:=fun c hc=>yU.old c (by omega) (by omega) (by omega) (by omega) (by omega)
  have kl:K.ak B.n 0=some (.slice (q'.map fun b=>(b,0)) X.l.length X.l.length):=cC yU.tl
  have kH : ∀c,c<H.n→K.get c=H.get c:=fun c hc=>by rw [kD c (by omega),de c (by omega)];exact eo c hc
  have QD:X.l.length≤8000:=by omega
  obtain ⟨qP,sj,vw,f1,f2,f3⟩ : ∃qP sj vw,(X.l ≠ []→q'.map (fun b=>(b,0))=some (qP,sj))∧K.ak qP (sj+(IntKind.i64.wrap ((X.l.length:Int) - 1)).toNat*6+0)=some (.str vw)∧(X.l ≠ []→cj X.l=(vw == [10])):=by
   by_cases hle:X.l=[]
   ·refine ⟨H.n+1,0,s,fun h=>absurd hle h,?_,fun h=>absurd hle h⟩
    rw [hle]
    have:IntKind.i64.wrap (((([]:cN).length:Nat):Int) - 1) = -1:=by rw [wrap_i64 (by simp) (by simp)];simp
    rw [this]
    unfold AH.ak;rw [kD _ (by omega),iY.tx];rfl
   ·have h0:0<X.l.length:=List.length_pos_iff.2 hle
    have uP:=yU.xX
    cases va:q' with
    | none=>rw [va] at uP;exact absurd uP.1 (by omega)
    | some b0 =>
     rw [va] at uP
     exact ⟨b0,0,X.l[X.l.length - 1].1,fun _=>rfl,vP uP h0 QD,fun _=>vR h0⟩
  have DH:(decide ((X.l.length:Int) > 0) && !bl && vw == [10])=(decide (0<X.l.length) && !bl && cj X.l):=by
   by_cases hle:X.l=[]
   ·rw [hle];rfl
   ·rw [f3 hle]
    have h0:0<X.l.length:=List.length_pos_iff.2 hle
    rw [decide_eq_true (show (X.l.length:Int) > 0 by omega),decide_eq_true h0]
  obtain ⟨J,hJ⟩ : ∃J:Nat×Nat×Nat×Nat×Int×Nat→AH→Prop,J=fun y K'=>∃Lr:Nat,y=(H.n,H.n+3,H.n+4,H.n+5,(0:Int),B.n)∧K'.n=K.n∧K'.get B.n=some (dh (.slice (q'.map fun b=>(b,0)) Y.l.length Lr) 56)∧Y.l.length≤Lr∧(q'=none→Lr=0) ∧
   Y.l.length≤X.l.length∧Y.l=X.l.take Y.l.length∧K'.get (H.n+4)=some (dh (.int .i64 (Y.sg:Int)) 3)∧K'.get (H.n+5)=some (dh (.int .i64 (Y.en:Int)) 3)∧∀c,c ≠ H.n+4→c ≠ H.n+5→c ≠ B.n→K'.get c=K.get c:=⟨_,rfl⟩
  have Qt:q'=none→X.l.length=0:=fun e=>by have:=yU.xX;rw [e] at this;exact this.1
  refine ⟨J,⟨_,cC yU.tn,bl,by unfold AH.ak;rw [kD _ (by omega),iY.bl];rfl,_,_,_,kl,_,cC yU.tn,qP,sj,fun h=>?_,vw,f2,?_⟩,?_⟩
  ·have hle:X.l ≠ []:=fun e=>by rw [e] at h;simp at h
   have h0:0<X.l.length:=List.length_pos_iff.2 hle
   rw [wrap_i64 (by omega) (by omega)]
   exact ⟨f1 hle,by omega,by omega⟩
  ·rw [DH]
   cases hc:(decide (0<X.l.length) && !bl && cj X.l) with
   | true =>
    have O2:Y=⟨X.l.dropLast,X.sg,X.en+1⟩:=by rw [hY];unfold eL;rw [hc];rfl
    have h0:0<X.l.length:=by simp only [Bool.and_eq_true,decide_eq_true_eq] at hc;exact hc.1.1
    have wl:IntKind.i64.wrap ((X.l.length:Int) - 1)=((X.l.length - 1:Nat):Int):=by rw [wrap_i64 (by omega) (by omega)];omega
    have Tc:IntKind.i64.wrap ((X.en:Int)+1)=((X.en+1:Nat):Int):=by rw [wrap_i64 (by omega) (by omega)];omega
    simp only [cond_true]
    obtain ⟨K1,CE⟩ : ∃K1,K1=K.set B.n (dh (.slice (q'.map fun b=>(b,0)) (X.l.length - 1) X.l.length) 56):=⟨_,rfl⟩
    have k5:K1.get (H.n+5)=some (dh (.int .i64 (X.en:Int)) 3):=by rw [CE,AH.af,if_neg (by omega)];exact yU.en
    refine ⟨_,_,_,kl,_,cC yU.tn,_,_,_,by rw [wl];exact wZ K q' (X.l.length - 1) X.l.length X.l.length (by omega) (Nat.le_refl _),rfl,K1,by rw [CE];exact jh (w:=.slice _ _ _) yU.tl rfl,X.en,cC k5,rfl,K1.set (H.n+5) (dh (.int .i64 ((X.en+1:Nat):Int)) 3),by rw [Tc];exact jh k5 rfl,(by trivial),(H.n,H.n+3,H.n+4,H.n+5,(0:Int),B.n),0,trivial,rfl,?_⟩
    rw [hJ]
    have OO:Y.l.length=X.l.length - 1:=by rw [O2];simp only [List.length_dropLast]
    refine ⟨X.l.length,rfl,by rw [CE];rfl,?_,by omega,fun e=>by have:=Qt e;omega,by omega,by rw [OO,O2];simp only [List.dropLast_eq_take],?_,?_,fun c h1 h2 h3=>?_⟩
    ·rw [AH.af,if_neg (by omega),CE,AH.af,if_pos rfl,OO]
    ·rw [AH.af,if_neg (by omega),CE,AH.af,if_neg (by omega),O2];exact yU.sg
    ·rw [AH.af,if_pos rfl,O2]
    ·rw [AH.af,if_neg h2,CE,AH.af,if_neg h3]
   | false =>
    have O2:Y=X:=by rw [hY];unfold eL;rw [hc];rfl
    simp only [cond_false]
    refine ⟨(by trivial),(H.n,H.n+3,H.n+4,H.n+5,(0:Int),B.n),0,trivial,rfl,?_⟩
    rw [hJ,O2]
    exact ⟨X.l.length,rfl,rfl,yU.tl,Nat.le_refl _,Qt,Nat.le_refl _,by rw [List.take_length],yU.sg,yU.en,fun _ _ _ _=>rfl⟩
  ·rw [hJ]
   rintro _ K1 ⟨Lr,rfl,Wl,Wm,MC,SB,Wp,Wq,Yi,Yk,Dz⟩
   simp only
   have qb : ∀b,q'=some b→D.n+2≤b∧b<K1.n:=fun b hb=>by
    have h1:=yU.qb b hb
    have:b ≠ D.n∧b ≠ D.n+1:=⟨fun e=>h1.2.2 (by rw [← e] at kS;exact kS.2),fun e=>h1.2.2 (by rw [← e] at kS;exact kS.1)⟩
    omega
   have Wj : ∀b,q'=some b→K1.get b=some (.cells (flat br X.l) 79 { fT:=true }):=fun b hb=>by
    have h1:=qb b hb
    have h2:=yU.xX
    rw [hb] at h2
    rw [Dz b (by omega) (by omega) (by omega)];exact h2
   have U2:F4 K1 q' Y.l.length X.l:=by
    cases va:q' with
    | none =>
     have:=Qt va
     exact ⟨List.length_eq_zero_iff.1 this,by omega⟩
    | some b=>exact ⟨Wj b va,Wp,(qb b va).2⟩
   obtain ⟨T,hT⟩ : ∃T,T=X.l.drop Y.l.length:=⟨_,rfl⟩
   have Xd:Y.l ++ T=X.l:=by rw [hT];rw [Wq,List.length_take];rw [Nat.min_eq_left Wp];exact List.take_append_drop _ _
   have OO:Y.l.length≤8000:=by omega
   refine ⟨_,_,_,cC Wm,?_⟩
   refine (Ks U2 Wq MC SB OO).mono ?_
   rintro v E ⟨r2,rfl,Rg,Ue,en2,Xu⟩
   obtain ⟨P,hP⟩ : ∃P,P=parts Y.l:=⟨_,rfl⟩
   rw [← hP] at Rg
   rw [← hP]
   obtain ⟨fo,Mz⟩ : ∃fo:Nat→cN×Nat,fo=fun j=>(P.take j).foldl (fY d) (Y.l,0):=⟨_,rfl⟩
   have hPl:P.length≤8001:=by rw [hP];have:=xC Y.l;omega
   obtain ⟨Pt,K9⟩ : ∃Pt:cN×Nat→AH→Prop,Pt=fun x K'=>(∀b,q'=some b→K'.get b=some (.cells (flat br (x.1 ++ T)) 79 { fT:=true }))∧E.n≤K'.n∧∀c,c<E.n→q' ≠ some c→K'.get c=E.get c:=⟨_,rfl⟩
   have Yd:Pt (Y.l,0) E:=by
    rw [K9]
    refine ⟨fun b hb=>?_,Nat.le_refl _,fun _ _ _=>rfl⟩
    rw [Xu b (qb b hb).2,Xd];exact Wj b hb
   have B0 : ∀ {x:cN×Nat} {K2 K3:AH},Pt x K2→K2.n≤K3.n→(∀c,c<K2.n→K3.get c=K2.get c)→Pt x K3:=fun {x K2 K3} h h1 h2=>by
    rw [K9] at h ⊢
    obtain ⟨g1,g2,g3⟩:=h
    exact ⟨fun b hb=>by rw [h2 b (by have:=qb b hb;omega)];exact g1 b hb,by omega,fun c hc cU=>by rw [h2 c (by omega)];exact g3 c hc cU⟩
   have L0 : ∀ {x:cN×Nat} {K2:AH},Pt x K2→∀c,c<D.n+2→K2.get c=K1.get c:=fun {x K2} h c hc=>by
    rw [K9] at h
    rw [h.2.2 c (by omega) (fun e=>by have:=qb c e;omega),Xu c (by omega)]
   have Yc : ∀ {x:cN×Nat} {K2:AH},Pt x K2→K2.ak H.n 0=some (.int .i64 d):=fun {x K2} h=>by
    refine cC (e:=3) ?_
    rw [L0 h _ (by omega),Dz _ (by omega) (by omega) (by omega),kD _ (by omega)];exact iY.d
   have Tv : ∀ {x:cN×Nat} {K2:AH},Pt x K2→E.n≤K2.n:=fun {x K2} h=>by rw [K9] at h;exact h.2.1
   have Xs:fo 0=(Y.l,0):=by rw [Mz];rfl
   have w8 : ∀i:Nat,i≤100000→IntKind.i64.wrap ((i:Int)+1)=((i+1:Nat):Int):=fun i hi=>by rw [wrap_i64 (by omega) (by omega)];omega
   refine ⟨_,_,_,rfl,fun y K' k=>∃j:Nat,y=((H.n,H.n+3,H.n+4,H.n+5,((fo j).2:Int),B.n),(r2.map (fun b=>(b,0)),P.length),(P.length:Int),(j:Int))∧j≤P.length∧Pt (fo j) K'∧k=P.length - j,
    ⟨((H.n,H.n+3,H.n+4,H.n+5,0,B.n),(r2.map (fun b=>(b,0)),P.length),(P.length:Int),0),P.length,rfl,0,by rw [Xs];rfl,Nat.zero_le _,by rw [Xs];exact Yd,rfl⟩,?_⟩
   rintro _ K2 _ ⟨j,rfl,hj,KO,rfl⟩
   simp only
   by_cases Iq:j<P.length
   ·have dj:decide ((j:Int)<(P.length:Int))=true:=by rw [decide_eq_true_iff];omega
    simp only [dj,cond_true]
    have KR:j<(parts Y.l).length:=by rw [← hP];exact Iq
    obtain ⟨pa1,pa2,Gr⟩:=Kf d KR
    obtain ⟨a,ha⟩ : ∃a,a=(parts Y.l)[j].1:=⟨_,rfl⟩
    obtain ⟨m,hm⟩ : ∃m,m=(parts Y.l)[j].2 - (parts Y.l)[j].1:=⟨_,rfl⟩
    have WW:((parts Y.l).take j).foldl (fY d) (Y.l,0)=fo j:=by rw [Mz,hP]
    rw [WW] at Gr
    have UW:a+m=(parts Y.l)[j].2:=by omega
    obtain ⟨al,Ay⟩ : ∃al,al=rR (fo j).1 (parts Y.l)[j].1 (parts Y.l)[j].2:=⟨_,rfl⟩
    have Ze:fo (j+1)=oI d al a (fo j) m:=by
     have:(parts Y.l).take (j+1)=(parts Y.l).take j ++ [(parts Y.l)[j]]:=List.take_succ_eq_append_getElem KR
     rw [Mz,hP]
     simp only
     rw [this,List.foldl_append,List.foldl_cons,List.foldl_nil,WW,Ay,hm,ha];rfl
    have UX:rR ((fo j).1 ++ T) a (a+m)=al:=by
     rw [A6 _ _ _ _ (by omega) (by rw [Gr.len];omega),Ay,UW,ha]
    obtain ⟨Ve,Cw,QI⟩:=Cg q' Y.l Lr (List.getElem?_eq_getElem KR)
    have QI:=QI MC
    have WO:j<(gl q' Y.l Lr).length:=by rw [lN];exact KR
    have kR : ∃b2,r2=some b2∧K2.ak b2 (0+((j:Nat):Int).toNat*1)=some (.slice (q'.map fun b=>(b,a*6)) m Ve):=by
     cases yd:r2 with
     | none=>rw [yd] at Rg;have:=Rg.1;omega
     | some b2 =>
      rw [yd] at Rg
      have Fu:=Ue b2 yd
      have As:=KO
      rw [K9] at As
      have hg:K2.get b2=some (.cells (flat ez (gl q' Y.l Lr)) 56 { fT:=true }):=by
       rw [As.2.2 b2 Fu.2 (fun e=>by have:=qb b2 e;omega)];exact Rg
      have:=j4 uX hg WO (k:=0) (by decide)
      refine ⟨b2,rfl,?_⟩
      rw [Int.toNat_natCast,show 0+j*1=0+j*1+0 by omega,this]
      rw [List.getElem?_eq_getElem WO] at Cw
      rw [Option.some.inj Cw,ha,hm];rfl
    obtain ⟨b2,rfl,kR⟩:=kR
    refine ⟨b2,0,⟨rfl,by omega,by omega⟩,_,_,_,kR,?_⟩
    have Yv:((fo j).1 ++ T).length=X.l.length:=by rw [← Xd,List.length_append,List.length_append,Gr.len]
    have Wz:m ≠ 0→∃b,q'=some b:=fun h=>by
     cases va:q' with
     | none=>have:=Qt va;omega
     | some b=>exact ⟨b,rfl⟩
    refine (RM (b:=q'.getD 0) (a:=a) (m:=m) (c:=Ve) (l:=(fo j).1 ++ T) (q:=q'.map fun b=>(b,a*6)) (fun h=>?_) (by omega) (by omega) (by omega)).mono ?_
    ·obtain ⟨b,hb⟩:=Wz h
     have As:=KO
     rw [K9] at As
     rw [hb]
     exact ⟨As.1 b hb,by have:=qb b hb;have:=Tv KO;show b<K2.n;omega,rfl⟩
    rintro v K3 ⟨rfl,n3,o3⟩
    rw [UX]
    obtain ⟨K4,Gs⟩ : ∃K4,K4=(K3.alloc (.cells [.bool false,.bool false,.bool false,.bool false,.int .i64 0] 53 { whole:=true })).set K3.n (.cells al.cells 53 { whole:=true }):=⟨_,rfl⟩
    have n4:K4.n=K3.n+1:=by rw [Gs];simp only [AH.aZ,AH.aC]
    have o4 : ∀c,c<K3.n→K4.get c=K3.get c:=fun c hc=>by rw [Gs,AH.af,if_neg (by omega),AH.aa,if_neg (by omega)]
    have g4:K4.get K3.n=some (.cells al.cells 53 { whole:=true }):=by rw [Gs,AH.af,if_pos rfl]
    have Ui:Pt (fo j) K4:=B0 KO (by omega) fun c hc=>by rw [o4 c (by omega),o3 c hc]
    obtain ⟨xt,Sh⟩ : ∃xt:Nat→cN×Nat,xt=fun i=>oI d al a (fo j) i:=⟨_,rfl⟩
    have VC:xt 0=fo j:=by rw [Sh];rfl
    have VB:xt m=fo (j+1):=by rw [Sh,Ze]
    have Um:(∀p ∈ Y.l,xG p.2.c)→xG al.c:=fun h=>by rw [Ay];exact DY (Gr.ok h) _ _
    have S8 : ∀i,i≤m→PI Y.l (a+i) (xt i):=fun i hi=>by rw [Sh,ha];exact Gr.to d Um (by omega)
    obtain ⟨st,eF⟩ : ∃st:Nat→Nat→((Nat×Nat×Nat×Nat×Int×Nat)×(Option (Nat×Nat)×Nat)×Int×Int)×(Option (Nat×Nat)×Nat×Nat)×Nat×Int×Int,st=fun (u i:Nat)=>(((H.n,H.n+3,H.n+4,H.n+5,((xt u).2:Int),B.n),((some b2).map (fun b=>(b,0)),P.length),(P.length:Int),(j:Int)),(q'.map (fun b=>(b,a*6)),m,Ve),K3.n,(m:Int),(i:Int)):=⟨_,rfl⟩
    refine ⟨al.b,al.i,al.u,al.k,al.c,rfl,rfl,K4,by rw [Gs];simp [AH.write,AH.aa,ax,AV.one,aj.cells],fun y K' k=>∃i:Nat,y=st i i∧i≤m∧Pt (xt i) K'∧K'.get K3.n=some (.cells al.cells 53 { whole:=true })∧K3.n<K'.n∧k=m - i,
     ⟨st 0 0,m,by rw [eF];simp only [VC];rfl,0,rfl,Nat.zero_le _,by rw [VC];exact Ui,g4,by omega,rfl⟩,?_⟩
    rintro _ K5 _ ⟨i,rfl,hi,KN,g5,n5,rfl⟩
    by_cases UC:i<m
    ·obtain ⟨b,hb⟩:=Wz (by omega)
     have nj:q'.map (fun b=>(b,a*6))=some (b,a*6):=by rw [hb];rfl
     have Rd:=S8 i hi
     have Si:a+i<(xt i).1.length:=by rw [Rd.len];omega
     have Ws:a+i<((xt i).1 ++ T).length:=by rw [List.length_append];omega
     obtain ⟨c,hc⟩ : ∃c,c=(xt i).1[a+i].2:=⟨_,rfl⟩
     have W9:((xt i).1 ++ T)[a+i]=(xt i).1[a+i]:=List.getElem_append_left Si
     have Mm:=KN
     rw [K9] at Mm
     have Xm:=Mm.1 b hb
     have hbK:b<K1.n:=(qb b hb).2
     have YZ:E.n≤K2.n:=Tv KO
     have Gi:(xt i).2≤8000:=by rw [Rd.num];have:=IT (fun i'=>!cW (fZ Y.l i') (fZ (xt i).1 i')) (a+i);omega
     have lT:xt (i+1)=((xt i).1.set (a+i) ((xt i).1[a+i].1,bQ d al c),(xt i).2+(if cW (bQ d al c) c then 0 else 1)):=by
      have:xt (i+1)=oJ d al (xt i) (a+i):=by rw [Sh];rfl
      rw [this]
      unfold oJ
      rw [List.getElem?_eq_getElem Si,hc]
     have dl:decide ((i:Int)<(m:Int))=true:=by rw [decide_eq_true_iff];omega
     rw [eF]
     simp only [dl,cond_true]
     have VP : ∀ {K' : AH},K'.get b=K5.get b→K'.read b (a*6+((i:Nat):Int).toNat*6+1) 5=some c.cells:=fun {K'} h=>by
      have:=Kc (K:=K') (h.trans Xm) Ws
      rw [W9,← hc] at this;exact this
     obtain ⟨K6,SK⟩ : ∃K6,K6=(K5.alloc (.cells [.bool false,.bool false,.bool false,.bool false,.int .i64 0] 53 { whole:=true })).set K5.n (.cells c.cells 53 { whole:=true }):=⟨_,rfl⟩
     have n6:K6.n=K5.n+1:=by rw [SK];simp only [AH.aZ,AH.aC]
     have o6 : ∀c,c<K5.n→K6.get c=K5.get c:=fun c hc=>by rw [SK,AH.af,if_neg (by omega),AH.aa,if_neg (by omega)]
     have g6:K6.get K5.n=some (.cells c.cells 53 { whole:=true }):=by rw [SK,AH.af,if_pos rfl]
     have Uh:Pt (xt i) K6:=B0 KN (by omega) o6
     obtain ⟨W7,SC⟩ : ∃W7:(((Nat×Nat×Nat×Nat×Int×Nat)×(Option (Nat×Nat)×Nat)×Int×Int)×(Option (Nat×Nat)×Nat×Nat)×Nat×Int×Int)×Int×Nat→AH→Prop,W7=fun y K'=>y=(st i i,(i:Int),K5.n)∧K'.n=K5.n+1∧K'.get K5.n=some (.cells (bQ d al c).cells 53 { whole:=true })∧∀c,c<K5.n→K'.get c=K5.get c:=⟨_,rfl⟩
     refine ⟨fun y K'=>y=st (i+1) i∧Pt (xt (i+1)) K'∧K'.get K3.n=some (.cells al.cells 53 { whole:=true })∧K3.n<K'.n,⟨b,a*6,⟨nj,by omega,by omega⟩,c.b,c.i,c.u,c.k,c.c,VP rfl,rfl,K6,by rw [SK];simp [AH.write,AH.aa,ax,AV.one,aj.cells],W7,⟨d,Yc Uh,?_⟩,?_⟩,?_⟩
     ·by_cases N5:d=2
      ·have x2:(d == 2)=true:=by rw [beq_iff_eq];exact N5
       rw [x2]
       simp only [cond_true]
       refine ⟨(by trivial),K6.set K5.n (.cells ({ c with k:=false }:aj).cells 53 { whole:=true }),gi.wr (a:=c) g6 3 (.bool false) { c with k:=false } (by decide) rfl rfl,(by trivial),(st i i,(i:Int),K5.n),0,trivial,by rw [eF],?_⟩
       rw [SC]
       refine ⟨rfl,by rw [AH.aZ,n6],?_,fun c hc=>by rw [AH.af,if_neg (by omega)];exact o6 c hc⟩
       rw [AH.af,if_pos rfl]
       unfold bQ
       rw [x2];rfl
      ·have x2:(d == 2)=false:=by rw [beq_eq_false_iff_ne];exact N5
       rw [x2]
       simp only [cond_false]
       by_cases W4:d=3
       ·have x3:(d == 3)=true:=by rw [beq_iff_eq];exact W4
        rw [x3]
        simp only [cond_true]
        refine ⟨al.b,al.i,al.u,al.k,al.c,by unfold AH.read;rw [o6 _ n5,g5];rfl,rfl,K6.set K5.n (.cells al.cells 53 { whole:=true }),by unfold AH.write;rw [g6];simp [ax,AV.one,aj.cells],(by trivial),(st i i,(i:Int),K5.n),0,trivial,by rw [eF],?_⟩
        rw [SC]
        refine ⟨rfl,by rw [AH.aZ,n6],?_,fun c hc=>by rw [AH.af,if_neg (by omega)];exact o6 c hc⟩
        rw [AH.af,if_pos rfl]
        unfold bQ
        rw [x2,x3];rfl
       ·have x3:(d == 3)=false:=by rw [beq_eq_false_iff_ne];exact W4
        rw [x3]
        simp only [cond_false]
        refine ⟨(by trivial),(st i i,(i:Int),K5.n),0,trivial,by rw [eF],?_⟩
        rw [SC]
        refine ⟨rfl,n6,?_,o6⟩
        rw [g6]
        unfold bQ
        rw [x2,x3];rfl
     ·rw [SC]
      rintro _ K7 ⟨rfl,n7,g7,o7⟩
      rw [eF]
      simp only
      have VQ:K7.read K5.n 0 5=some (bQ d al c).cells:=by unfold AH.read;rw [g7];rfl
      have Xb:b<K5.n:=by omega
      refine ⟨_,_,_,_,_,VQ,b,a*6,⟨nj,by omega,by omega⟩,_,_,_,_,_,VP (o7 b Xb),?_⟩
      rw [GV]
      have KM:Pt (xt i) K7:=B0 KN (by omega) o7
      have Z1:=(o7 b Xb).trans Xm
      cases Ml:cW (bQ d al c) c with
      | false =>
       simp only [Bool.not_false,cond_true]
       have hw:=Hw Z1 Ws (bQ d al c)
       rw [W9] at hw
       have wn:IntKind.i64.wrap (((xt i).2:Int)+1)=(((xt i).2+1:Nat):Int):=w8 _ (by omega)
       refine ⟨_,_,_,_,_,VQ,b,a*6,⟨nj,by omega,by omega⟩,rfl,_,hw,(by trivial),st (i+1) i,0,trivial,?_,by rw [eF],?_,?_,?_⟩
       ·have e2:(xt (i+1)).2=(xt i).2+1:=by rw [lT,Ml];rfl
        rw [eF,wn];simp only [e2]
       ·rw [K9] at KM ⊢
        refine ⟨fun b' eu=>?_,by rw [AH.aZ];exact KM.2.1,fun c' ye cU=>?_⟩
        ·rw [hb] at eu
         cases eu
         rw [AH.af,if_pos rfl,lT]
         simp only
         rw [List.set_append_left _ _ Si]
        ·rw [AH.af,if_neg (fun e=>cU (by rw [e];exact hb))]
         exact KM.2.2 c' ye cU
       ·rw [AH.af,if_neg (by omega),o7 _ n5];exact g5
       ·rw [AH.aZ];omega
      | true =>
       simp only [Bool.not_true,cond_false]
       have Cv:bQ d al c=c:=dW.1 Ml
       have KP:xt (i+1)=xt i:=by
        rw [lT,Cv]
        have e1:cW c c=true:=dW.2 rfl
        rw [e1,hc]
        refine Prod.ext ?_ rfl
        simp only
        exact List.set_getElem_self Si
       refine ⟨(by trivial),st (i+1) i,0,trivial,?_,by rw [eF],?_,?_,?_⟩
       ·rw [eF];simp only [KP]
       ·rw [KP];exact KM
       ·rw [o7 _ n5];exact g5
       ·omega
     ·rintro _ K8 ⟨rfl,Ug,g8,n8⟩
      refine ⟨(by trivial),st (i+1) (i+1),m - (i+1),by omega,?_,i+1,by rw [eF],by omega,Ug,g8,n8,rfl⟩
      rw [eF]
      simp only
      rw [w8 i (by omega)]
    ·obtain rfl:i=m:=by omega
     have dl:decide ((i:Int)<(i:Int))=false:=by rw [decide_eq_false_iff_not];omega
     rw [eF]
     simp only [dl,cond_false]
     refine ⟨(by trivial),((H.n,H.n+3,H.n+4,H.n+5,((fo (j+1)).2:Int),B.n),((some b2).map (fun b=>(b,0)),P.length),(P.length:Int),((j+1:Nat):Int)),P.length - (j+1),by omega,?_,j+1,rfl,by omega,by rw [← VB];exact KN,rfl⟩
     rw [w8 j (by omega),VB]
   ·obtain rfl:j=P.length:=by omega
    have dj:decide ((P.length:Int)<(P.length:Int))=false:=by rw [decide_eq_false_iff_not];omega
    simp only [dj,cond_false]
    obtain ⟨R,hR⟩ : ∃R,R=dK d Y.l:=⟨_,rfl⟩
    have Zj:fo P.length=R:=by rw [Mz,hR,hP];simp only [List.take_length];rfl
    rw [Zj] at KO ⊢
    rw [← hR] at hQ
    have Az:PI Y.l Y.l.length R:=by rw [hR];exact jA d Y.l
    have MA:aF R.1=aF Y.l:=by unfold aF;rw [Az.fst]
    have As:=KO
    rw [K9] at As
    have Ip:=L0 KO
    have YZ:=Tv KO
    have gB:K2.ak B.n 0=some (.slice (q'.map fun b=>(b,0)) Y.l.length Lr):=by
     refine cC (e:=56) ?_
     rw [Ip _ (by omega)];exact Wm
    refine ⟨_,_,_,gB,?_⟩
    rw [show Y.l.length=R.1.length from Az.len.symm]
    have O6:(aF Y.l).length≤12288:=by have:=hE.size;omega
    have od : ∀p ∈ R.1,0≤p.2.c∧p.2.c≤16777216:=Az.ok fun p hp=>by
     obtain ⟨i,hi,e⟩:=hE.from_ p hp
     rw [e,hL]
     exact Ad hf hx i
    refine (Nz R.1 (fun p hp=>?_) (by show (aF R.1).length≤16000;rw [MA];omega) (by rw [Az.len];omega) (by show aD (aF R.1) R.1.length;rw [MA,Az.len];exact hE.ep) od (Ek (R.1.map Prod.snd) (by rw [List.length_map,Az.len];omega)) Lr (fun i h=>?_)).mono ?_
    ·have:p.1 ∈ R.1.map Prod.fst:=List.mem_map_of_mem hp
     rw [Az.fst] at this
     obtain ⟨p2,h1,h2⟩:=List.mem_map.1 this
     rw [← h2];exact hE.ne p2 h1
    ·have:q' ≠ none:=fun e=>by have:=Qt e;have:=Az.len;omega
     obtain ⟨b,hb⟩ : ∃b,q'=some b:=by
      cases va:q' with
      | none=>exact absurd va this
      | some b=>exact ⟨b,rfl⟩
     refine ⟨b,hb,by have:=qb b hb;omega,fun K' v9=>?_⟩
     have h1:=dr cF (H:=K') (b:=b) (i:=i) (l:=R.1 ++ T) (v9.trans (As.1 b hb)) (by rw [List.length_append];omega)
     rw [List.getElem_append_left h] at h1
     exact h1
    rintro v K3 yc
    obtain ⟨Nd,NK⟩ : ∃Nd,Nd=cq (bN (R.1.map Prod.snd)):=⟨_,rfl⟩
    rw [← NK] at yc
    obtain ⟨er,S,sp,⟨q3,rfl,t1,t2,t3,t4⟩,tU⟩ : ∃er S sp,mQ K2 er S sp v K3∧((4096<(aF R.1).length∧er=3∧S=[]∧sp=[])∨((aF R.1).length≤4096∧er=Gu Nd∧S=BF Nd (aF R.1)∧sp=lg Nd)):=by
     unfold pJ at yc
     by_cases hlen:(aF R.1).length≤4096
     ·rw [show decide (((R.1.map Prod.fst).flatten).length≤4096)=true from decide_eq_true hlen] at yc
      exact ⟨_,_,_,yc,.inr ⟨hlen,rfl,rfl,rfl⟩⟩
     ·rw [show decide (((R.1.map Prod.fst).flatten).length≤4096)=false from decide_eq_false hlen] at yc
      exact ⟨_,_,_,yc,.inl ⟨by omega,rfl,rfl,rfl⟩⟩
    have l3 : ∀c,c<D.n+2→K3.get c=K1.get c:=fun c hc=>(t4 c (by omega)).trans (Ip c hc)
    have z3:K3.get (H.n+3)=some (.cells [.str [],.slice none 0 0] 26 { whole:=true }):=by rw [l3 _ (by omega),Dz _ (by omega) (by omega) (by omega),kD _ (by omega)];exact iY.kept
    have z4:K3.get (H.n+4)=some (dh (.int .i64 (Y.sg:Int)) 3):=by rw [l3 _ (by omega)];exact Yi
    have z5:K3.get (H.n+5)=some (dh (.int .i64 (Y.en:Int)) 3):=by rw [l3 _ (by omega)];exact Yk
    have zD:GC D.n K3:=by unfold GC at hD ⊢;rw [l3 _ (by omega),Dz _ (by omega) (by omega) (by omega)];exact hD
    have zo : ∀c,c<H.n→K3.get c=H.get c:=fun c hc=>by rw [l3 _ (by omega),Dz _ (by omega) (by omega) (by omega)];exact kH c hc
    obtain ⟨A1,uQ⟩ : ∃A1,A1=K3.set (H.n+3) (.cells [.str S,.slice (q3.map fun b=>(b,0)) sp.length sp.length] 26 { whole:=true }):=⟨_,rfl⟩
    have S5:A1.get (H.n+3)=some (.cells [.str S,.slice (q3.map fun b=>(b,0)) sp.length sp.length] 26 { whole:=true }):=by rw [uQ,AH.af,if_pos rfl]
    have F2 : ∀c,c ≠ H.n+3→A1.get c=K3.get c:=fun c hc=>by rw [uQ,AH.af,if_neg hc]
    refine ⟨S,q3.map fun b=>(b,0),sp.length,sp.length,er,rfl,rfl,A1,by rw [uQ];unfold AH.write;rw [z3];simp [ax,AV.one],?_⟩
    by_cases QX:er=0
    ·subst QX
     simp only [n0,cond_false]
     have XF:A1.get (H.n+4)=_:=(F2 _ (by omega)).trans z4
     have XE:A1.get (H.n+5)=_:=(F2 _ (by omega)).trans z5
     have rA : ∀ {K' : AH},K'.get (H.n+3)=A1.get (H.n+3)→K'.read (H.n+3) 0 2=some [.str S,.slice (q3.map fun b=>(b,0)) sp.length sp.length]:=fun {K'} h=>by unfold AH.read;rw [h,S5];rfl
     obtain ⟨A2,Bi⟩ : ∃A2,A2=A1.set (H.n+3) (.cells [.str S,.slice (q3.map fun b=>(b,0)) sp.length sp.length] 26 { whole:=true }):=⟨_,rfl⟩
     have Gz : ∀c,c ≠ H.n+3→A2.get c=A1.get c:=fun c hc=>by rw [Bi,AH.af,if_neg hc]
     have S4:A2.get (H.n+4)=_:=(Gz _ (by omega)).trans XF
     have XD:A2.get (H.n+5)=_:=(Gz _ (by omega)).trans XE
     have a23:A2.get (H.n+3)=A1.get (H.n+3):=by rw [Bi,AH.af,if_pos rfl,S5]
     obtain ⟨A3,wk⟩ : ∃A3,A3=A2.set (H.n+4) (dh (.int .i64 (Y.sg:Int)) 3):=⟨_,rfl⟩
     have S3:A3.get (H.n+5)=_:=(show A3.get (H.n+5)=A2.get (H.n+5) by rw [wk,AH.af,if_neg (by omega)]).trans XD
     obtain ⟨A4,wh⟩ : ∃A4,A4=A3.set (H.n+5) (dh (.int .i64 (Y.en:Int)) 3):=⟨_,rfl⟩
     have Gy : ∀c,c ≠ H.n+3→c ≠ H.n+4→c ≠ H.n+5→A4.get c=K3.get c:=fun c h1 h2 h3=>by rw [wh,AH.af,if_neg h3,wk,AH.af,if_neg h2,Gz c h1,F2 c h1]
     have Vo:GC D.n A4:=by unfold GC at zD ⊢;rw [Gy _ (by omega) (by omega) (by omega)];exact zD
     obtain ⟨A5,MH⟩ : ∃A5,A5=A4.set D.n .dead:=⟨_,rfl⟩
     have a5 : ∀c,c ≠ D.n→A5.get c=A4.get c:=fun c hc=>by rw [MH,AH.af,if_neg hc]
     have Vn:A5.get (H.n+3)=A1.get (H.n+3):=by rw [a5 _ (by omega),wh,AH.af,if_neg (by omega),wk,AH.af,if_neg (by omega),a23]
     have Vm:A5.get (H.n+4)=some (dh (.int .i64 (Y.sg:Int)) 3):=by rw [a5 _ (by omega),wh,AH.af,if_neg (by omega),wk,AH.af,if_pos rfl]
     have Vl:A5.get (H.n+5)=some (dh (.int .i64 (Y.en:Int)) 3):=by rw [a5 _ (by omega),wh,AH.af,if_pos rfl]
     refine ⟨_,_,_,_,rA rfl,_,cC XF,_,cC XE,rfl,A2,by rw [Bi];unfold AH.write;rw [S5];simp [ax,AV.one],⟨_,cC XD,rfl⟩,⟨_,cC S4,rfl⟩,rfl,A3,by rw [wk];exact jh S4 rfl,⟨_,cC S3,rfl⟩,rfl,A4,by rw [wh];exact jh S3 rfl,A5,by rw [MH];exact VG Vo,_,_,_,_,rA Vn,_,cC Vm,_,cC Vl,?_⟩
     rw [hQ]
     rw [NK] at tU
     refine ⟨0,S,sp,q3,rfl,tU,?_,fun c hc=>?_,?_,fun c hc=>?_⟩
     ·exact t1.same fun b hb=>by have:=t2 b hb;rw [a5 _ (by omega),Gy _ (by omega) (by omega) (by omega)]
     ·have:=t2 c hc
      rw [MH,AH.aZ,wh,AH.aZ,wk,AH.aZ,Bi,AH.aZ,uQ,AH.aZ];omega
     ·rw [MH,AH.aZ,wh,AH.aZ,wk,AH.aZ,Bi,AH.aZ,uQ,AH.aZ];omega
     ·rw [a5 _ (by omega),Gy _ (by omega) (by omega) (by omega)];exact zo c hc
    ·have cU:(er != 0)=true:=by rw [bne_iff_ne];exact QX
     have Ix:(er == 0)=false:=by rw [beq_eq_false_iff_ne];exact QX
     rw [cU]
     simp only [cond_true]
     obtain ⟨hS,nR⟩ : S=[]∧sp=[]:=by
      rcases tU with ⟨_,_,h1,h2⟩ | ⟨_,h0,h1,h2⟩
      ·exact ⟨h1,h2⟩
      ·have:256<Nd.length:=by
        rcases Nat.lt_or_ge 256 Nd.length with g | g
        ·exact g
        ·rw [h0] at QX
         exact absurd (jK g []).1 QX
       rw [h1,h2]
       exact ⟨(ki this _).2.1,(ki this []).2.2⟩
     obtain ⟨A2,Bi⟩ : ∃A2,A2=A1.set (H.n+3) (.cells [.str [],.slice none 0 0] 26 { whole:=true }):=⟨_,rfl⟩
     have Gz : ∀c,c ≠ H.n+3→A2.get c=K3.get c:=fun c hc=>by rw [Bi,AH.af,if_neg hc,F2 c hc]
     have S4:A2.get (H.n+4)=_:=(Gz _ (by omega)).trans z4
     obtain ⟨A3,wk⟩ : ∃A3,A3=A2.set (H.n+4) (dh (.int .i64 0) 3):=⟨_,rfl⟩
     have S3:A3.get (H.n+5)=_:=(show A3.get (H.n+5)=A2.get (H.n+5) by rw [wk,AH.af,if_neg (by omega)]).trans ((Gz _ (by omega)).trans z5)
     obtain ⟨A4,wh⟩ : ∃A4,A4=A3.set (H.n+5) (dh (.int .i64 0) 3):=⟨_,rfl⟩
     have Gy : ∀c,c ≠ H.n+3→c ≠ H.n+4→c ≠ H.n+5→A4.get c=K3.get c:=fun c h1 h2 h3=>by rw [wh,AH.af,if_neg h3,wk,AH.af,if_neg h2,Gz c h1]
     have Vo:GC D.n A4:=by unfold GC at zD ⊢;rw [Gy _ (by omega) (by omega) (by omega)];exact zD
     obtain ⟨A5,MH⟩ : ∃A5,A5=A4.set D.n .dead:=⟨_,rfl⟩
     have a5 : ∀c,c ≠ D.n→A5.get c=A4.get c:=fun c hc=>by rw [MH,AH.af,if_neg hc]
     have Vn:A5.get (H.n+3)=some (.cells [.str [],.slice none 0 0] 26 { whole:=true }):=by rw [a5 _ (by omega),wh,AH.af,if_neg (by omega),wk,AH.af,if_neg (by omega),Bi,AH.af,if_pos rfl]
     have Vm:A5.get (H.n+4)=some (dh (.int .i64 0) 3):=by rw [a5 _ (by omega),wh,AH.af,if_neg (by omega),wk,AH.af,if_pos rfl]
     have Vl:A5.get (H.n+5)=some (dh (.int .i64 0) 3):=by rw [a5 _ (by omega),wh,AH.af,if_pos rfl]
     refine ⟨rfl,A2,by rw [Bi];unfold AH.write;rw [S5];simp [ax,AV.one],(by trivial),A3,by rw [wk];exact jh S4 rfl,(by trivial),A4,by rw [wh];exact jh S3 rfl,A5,by rw [MH];exact VG Vo,[],none,0,0,by unfold AH.read;rw [Vn];rfl,_,cC Vm,_,cC Vl,?_⟩
     rw [hQ]
     rw [NK] at tU
     refine ⟨er,S,sp,none,by rw [Ix,hS,nR];rfl,tU,by rw [nR];exact ⟨rfl,rfl⟩,(fun c hc=>by cases hc),?_,fun c hc=>?_⟩
     ·rw [MH,AH.aZ,wh,AH.aZ,wk,AH.aZ,Bi,AH.aZ,uQ,AH.aZ];omega
     ·rw [a5 _ (by omega),Gy _ (by omega) (by omega) (by omega)];exact zo c hc
 ·trivial
end Go.Proofs.YtlkdhhkncoekgaaDoor

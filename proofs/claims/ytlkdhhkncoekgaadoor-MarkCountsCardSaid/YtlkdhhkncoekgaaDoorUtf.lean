/- Signs of any bytes; what append does; rows of records that lie flat; when texts melt; the spans of a normal form. -/
import Derived.Test.YtlkdhhkncoekgaaDoorAmTri
/- The signs of a text: where each begins, how long it is. -/
section
namespace Go.Am
def rY (c:Int):Int:=if c<0 then -1 else if c≤127 then 1 else if c≤2047 then 2 else if 55296≤c∧c≤57343 then -1 else if c≤65535 then 3 else if c≤1114111 then 4 else -1
theorem sD {r:Nat} (h:Utf8.valid r=true):(r<55296∨57344≤r)∧r≤1114111:=by
 unfold Utf8.valid at h
 simp only [Bool.or_eq_true,Bool.and_eq_true,decide_eq_true_eq] at h
 omega
theorem ju (s:List UInt8) (k:Nat) :
  ((ah s k).1<128∧(ah s k).2=1)∨(128≤(ah s k).1∧(ah s k).1<2048∧(ah s k).2=2) ∨
  (2048≤(ah s k).1∧(ah s k).1<65536∧((ah s k).1<55296∨57344≤(ah s k).1)∧(ah s k).2=3 ∧
   (ah s k).1=(ai s k 0 % 16)*4096+(ai s k 1 % 64)*64+ai s k 2 % 64∧ai s k 0 / 16=14∧ai s k 1 / 64=2∧ai s k 2 / 64=2∧k+2<s.length) ∨
  (65536≤(ah s k).1∧(ah s k).1≤1114111∧(ah s k).2=4)∨((ah s k).1=65533∧(ah s k).2=1 ∧
   ¬ (ai s k 0=239∧ai s k 1=191∧ai s k 2=189∧k+2<s.length)):=by
 unfold ah
 simp only
 have he:Utf8.runeError=65533:=rfl
 split
 ·exact .inl ⟨by assumption,rfl⟩
 ·rename_i h0
  split
  ·rename_i h1
   simp only [Bool.and_eq_true,beq_iff_eq,decide_eq_true_eq] at h1
   split
   ·rename_i h2
    exact .inr (.inl ⟨h2,by simp only;omega,rfl⟩)
   ·exact .inr (.inr (.inr (.inr ⟨he,rfl,fun h=>by omega⟩)))
  ·split
   ·rename_i h1
    simp only [Bool.and_eq_true,beq_iff_eq,decide_eq_true_eq] at h1
    split
    ·rename_i h2
     simp only [Bool.and_eq_true,decide_eq_true_eq] at h2
     have hv:=sD h2.2
     exact .inr (.inr (.inl ⟨h2.1,by simp only;omega,hv.1,rfl,rfl,h1.1.1,h1.1.2.2,h1.2.2,h1.2.1⟩))
    ·rename_i h2
     refine .inr (.inr (.inr (.inr ⟨he,rfl,fun h=>h2 ?_⟩)))
     have hx:(ai s k 0 % 16)*4096+(ai s k 1 % 64)*64+ai s k 2 % 64=65533:=by omega
     simp [hx,Utf8.valid]
   ·rename_i hn
    have no : ¬ (ai s k 0=239∧ai s k 1=191∧ai s k 2=189∧k+2<s.length):=by
     rintro ⟨h1,h2,h3,h4⟩
     apply hn
     rw [h1,h2,h3]
     simp only [Bool.and_eq_true,decide_eq_true_eq]
     exact ⟨⟨by decide,by omega,by decide⟩,by omega,by decide⟩
    split
    ·rename_i h1
     simp only [Bool.and_eq_true,beq_iff_eq,decide_eq_true_eq] at h1
     split
     ·rename_i h2
      simp only [Bool.and_eq_true,decide_eq_true_eq] at h2
      have hv:=sD h2.2
      exact .inr (.inr (.inr (.inl ⟨h2.1,hv.2,rfl⟩)))
     ·exact .inr (.inr (.inr (.inr ⟨he,rfl,no⟩)))
    ·exact .inr (.inr (.inr (.inr ⟨he,rfl,no⟩)))
theorem CR {s:List UInt8} {k:Nat} (h:(ah s k).1 ≠ 65533):rY (ah s k).1=((ah s k).2:Int):=by
 unfold rY
 rcases ju s k with ⟨h1,h2⟩ | ⟨h1,h2,h3⟩ | ⟨h1,h2,h3,h4,_⟩ | ⟨h1,h2,h3⟩ | ⟨h1,_⟩
 ·rw [h2,if_neg (by omega),if_pos (by omega)];rfl
 ·rw [h3,if_neg (by omega),if_neg (by omega),if_pos (by omega)];rfl
 ·rw [h4,if_neg (by omega),if_neg (by omega),if_neg (by omega),if_neg (by omega),if_pos (by omega)];rfl
 ·rw [h3,if_neg (by omega),if_neg (by omega),if_neg (by omega),if_neg (by omega),if_neg (by omega),if_pos (by omega)];rfl
 ·exact absurd h1 h
def tK (t:List UInt8):Bool:=decide ((t.length:Int)≥3) && t.take 3 == [239,191,189]
theorem tJ {s:List UInt8} {k:Nat}:tK (s.drop k)=true↔(ai s k 0=239∧ai s k 1=191∧ai s k 2=189∧k+2<s.length):=by
 unfold tK ai
 simp only [Bool.and_eq_true,decide_eq_true_eq,List.length_drop,beq_iff_eq]
 have e : ∀j,s[k+j]? = (s.drop k)[j]?:=fun j=>by rw [List.getElem?_drop]
 rw [e 0,e 1,e 2]
 constructor
 ·rintro ⟨h1,h2⟩
  have g : ∀j,j<3→(s.drop k)[j]? = ([239,191,189]:List UInt8)[j]?:=fun j hj=>by rw [← h2,List.getElem?_take,if_pos hj]
  rw [g 0 (by omega),g 1 (by omega),g 2 (by omega)]
  exact ⟨rfl,rfl,rfl,by omega⟩
 ·rintro ⟨h0,h1,h2,h3⟩
  refine ⟨by omega,?_⟩
  have hl:2<(s.drop k).length:=by rw [List.length_drop];omega
  rw [List.getElem?_eq_getElem (by omega)] at h0 h1 h2
  simp only [Option.getD_some] at h0 h1 h2
  apply List.ext_getElem
  ·simp only [List.length_take,List.length_cons,List.length_nil];omega
  ·intro i hi v8
   rw [List.getElem_take]
   simp only [List.length_cons,List.length_nil] at v8
   match i,v8 with
   | 0,_=>exact UInt8.toNat_inj.1 h0
   | 1,_=>exact UInt8.toNat_inj.1 h1
   | 2,_=>exact UInt8.toNat_inj.1 h2
theorem CS {s:List UInt8} {k:Nat} (h:(ah s k).1=65533):(ah s k).2=if tK (s.drop k)=true then 3 else 1:=by
 rcases ju s k with ⟨h1,h2⟩ | ⟨h1,h2,h3⟩ | ⟨h1,h2,h3,h4,h5,h6,h7,h8,h9⟩ | ⟨h1,h2,h3⟩ | ⟨h1,h2,h3⟩
 ·omega
 ·omega
 ·rw [if_pos (tJ.2 ?_),h4]
  rw [h] at h5
  refine ⟨?_,?_,?_,h9⟩ <;> omega
 ·omega
 ·rw [if_neg (fun h=>h3 (tJ.1 h)),h2]
def place (s:List UInt8):Nat→Nat
 | 0=>0
 | n+1=>place s n+(ah s (place s n)).2
def aD (s:List UInt8) (n:Nat):Prop:=place s n=s.length∧∀j,j<n→place s j<s.length
theorem aD.uniq {s:List UInt8} {m n:Nat} (h:aD s m) (k:aD s n):m=n:=by
 rcases Nat.lt_trichotomy m n with hl | rfl | hl
 ·have:=k.2 m hl;have:=h.1;omega
 ·rfl
 ·have:=h.2 n hl;have:=k.1;omega
theorem iq {s:List UInt8} {n:Nat} (h:place s n<s.length):place s n<place s (n+1)∧place s (n+1)≤s.length:=by
 have:=ct s _ h
 simp only [place];omega
theorem aD.more {s:List UInt8} : ∀(d m:Nat),d=s.length - place s m→(∀j,j<m→place s j<s.length)→place s m≤s.length→∃n,aD s n:=by
 intro d
 induction d using Nat.strongRecOn with
 | ind d ih =>
  intro m hd h hm
  rcases Nat.lt_or_ge (place s m) s.length with hl | hl
  ·obtain ⟨g1,g2⟩:=iq hl
   refine ih (s.length - place s (m+1)) (by omega) (m+1) rfl (fun j hj=>?_) g2
   rcases Nat.lt_or_ge j m with h' | h'
   ·exact h j h'
   ·obtain rfl:j=m:=by omega
    exact hl
  ·exact ⟨m,by omega,h⟩
theorem aD.ex (s:List UInt8) : ∃n,aD s n:=aD.more (s.length - place s 0) 0 rfl (fun j h=>absurd h (Nat.not_lt_zero j)) (Nat.zero_le _)
theorem dJ {s:List UInt8} : ∀ {n:Nat},(∀j,j<n→place s j<s.length)→n≤place s n
 | 0,_=>Nat.zero_le _
 | n+1,h=>by
  have h1:=dJ (n:=n) fun j hj=>h j (by omega)
  have h2:=(iq (h n (by omega))).1
  omega
end Go.Am
end
/- What append does to a slice that lies in a block of its own. -/
section
namespace Go.Am
open Go.RowKit
variable {P:Program}
def bI (H:AH) (q:Option Nat) (m:Nat) (cs:List AV) (e:TypeId):Prop :=
 match q with
 | none=>m=0∧cs=[]
 | some b=>H.get b=some (.cells cs e { fT:=true })
def sl (q:Option Nat) (m:Nat):AV:=.slice (q.map fun b=>(b,0)) m m
theorem bI.same {H H' : AH} {q:Option Nat} {m:Nat} {cs:List AV} {e:TypeId} (h:bI H q m cs e) (k : ∀b,q=some b→H'.get b=H.get b):bI H' q m cs e:=by
 cases q with
 | none=>exact h
 | some b=>exact (k b rfl).trans h
theorem rj {H:AH} {st xt e:TypeId} {xd:TypeDesc} {s mT m n:Nat} {q:Option Nat} {old new:List AV} {y z:AV} (t1:P.underlying st=some (.slice e)) (t2:P.underlying xt=some xd) (t3 : ∀k,xd ≠ .int k)
  (t4:bX P e=some s) (t5:vj P e=some mT) (t6:zeroOf P e=some z) (t7:z.cells.length=s) (hb:0<mT) (hs:y9 H s y=some (n,new)) (h1:new.all AV.one=true) (hn:0<n)
  (hl:bI H q m old e) (hm:old.length=m*s) (jn:(2*(m+n)+1000)*mT≤2 ^ 48) :
  ∃H',bZ P H st xt (sl q m) y=some (sl (some H.n) (m+n),H')∧H'.n=H.n+1∧bI H' (some H.n) (m+n) (old ++ new) e∧∀c,c<H.n→q ≠ some c→H'.get c=H.get c:=by
 have hx:(xd matches .int _)=false:=by
  cases xd <;> first | rfl | exact absurd rfl (t3 _)
 unfold bZ sl
 simp only [t1,t2,t4,t5,t6,hs,Option.bind_some,Bool.false_eq_true,if_false,Option.map_some,t7]
 rw [if_neg (by omega),if_neg (by
  rintro (h | h | h | h)
  ·omega
  ·omega
  ·rw [h1] at h;cases h
  ·exact h rfl)]
 cases q with
 | none =>
  obtain ⟨rfl,rfl⟩:=hl
  refine ⟨_,by simp;rfl,rfl,?_,fun c hc _=>?_⟩
  ·simp [bI,AH.aa]
  ·rw [AH.aa,if_neg (by omega)]
 | some b =>
  have Mw:H.get b=some (.cells old e { fT:=true }):=hl
  simp only [Option.map_some,Mw]
  refine ⟨(H.set b .dead).alloc (.cells (old ++ new) e { fT:=true }),?_,rfl,?_,fun c hc hq=>?_⟩
  ·have e1:List.take (m*s) old=old:=List.take_of_length_le (by omega)
   simp [hm,e1]
  ·simp [bI,AH.aa]
  ·rw [AH.aa,if_neg (by simp only [AH.aZ];omega),AH.af,if_neg (fun e=>hq (by rw [e]))]
theorem Jc.one {H:AH} {b:Nat} {cs:List AV} {e:TypeId} {fl:Fl} (hs:AV.dc cs=true) (hb:H.get b=some (.cells cs e fl)) :
  Jc P (fun c=>if c<P.globals.size then c else if c=P.globals.size then b else H.n+c) ((aR P).alloc (.cells cs e { own:=false,fT:=true })) H:=by
 have hn:(aR P).n=P.globals.size:=rfl
 refine ⟨fun c hc=>by simp only [if_pos hc],fun c hc=>?_,fun c o ho=>?_⟩
 ·have ye:P.globals.size+1≤c:=hc
  simp only
  rw [if_neg (by omega),if_neg (by omega)];omega
 ·rw [AH.aa,hn] at ho
  split at ho
  ·rename_i hc
   cases ho
   refine ⟨cs,e,fl,rfl,?_⟩
   subst hc
   simp only [Nat.lt_irrefl,if_false,if_true]
   rw [AV.gW hs];exact hb
  ·cases ho
end Go.Am
end
/- Two texts melt where a sign of both behind one another lies over their seam; where they do not, their signs stand behind one another. -/
section
namespace Go.Am
theorem getElem?_short {s t:List UInt8} {i k:Nat} (h:s[i]? = t[k]?):i<s.length↔k<t.length:=by
 have a:s.length≤i↔t.length≤k:=by rw [← List.getElem?_eq_none_iff,← List.getElem?_eq_none_iff,h]
 omega
theorem eO {s t:List UInt8} {i k:Nat} (h : ∀j,j<4→s[i+j]? = t[k+j]?):ah s i=ah t k:=by
 have r : ∀j,j<4→ai s i j=ai t k j:=fun j hj=>by unfold ai;rw [h j hj]
 have l : ∀j,j<4→decide (i+j<s.length)=decide (k+j<t.length):=fun j hj=>by
  rw [decide_eq_decide];exact getElem?_short (h j hj)
 unfold ah
 simp only [r 0 (by decide),r 1 (by decide),r 2 (by decide),r 3 (by decide),l 1 (by decide),l 2 (by decide),l 3 (by decide)]
theorem yC {s:List UInt8} {i:Nat} (h:1<(ah s i).2):192≤ai s i 0:=by
 revert h
 unfold ah
 simp only
 split
 ·intro h;simp at h
 ·split
  ·rename_i h1
   simp only [Bool.and_eq_true,beq_iff_eq] at h1
   intro _;omega
  ·split
   ·rename_i h1
    simp only [Bool.and_eq_true,beq_iff_eq] at h1
    intro _;omega
   ·split
    ·rename_i h1
     simp only [Bool.and_eq_true,beq_iff_eq] at h1
     intro _;omega
    ·intro h;simp at h
theorem ec {s t:List UInt8} {i k:Nat} (h1:1<(ah s i).2) (h : ∀j,j<(ah s i).2→s[i+j]? = t[k+j]?):ah t k=ah s i:=by
 have key : ∀n,(ah s i).2=n→1<n→(∀j,j<n→ai t k j=ai s i j)→(∀j,j<n→i+j<s.length→k+j<t.length)→ah t k=ah s i:=by
  intro n hn h1 r l
  have r0:=r 0 (by omega)
  have r1:=r 1 (by omega)
  have l1:=l 1 (by omega)
  revert hn
  rw [show ah t k=ah t k from rfl]
  unfold ah
  simp only [r0,r1]
  split
  ·intro h;simp at h;omega
  ·split
   ·rename_i g1
    simp only [Bool.and_eq_true,beq_iff_eq,decide_eq_true_eq] at g1
    have c1:(decide (k+1<t.length) && ai s i 1 / 64 == 2)=true:=by simp [l1 g1.2.1,g1.2.2]
    have c0:(ai s i 0 / 32 == 6)=true:=by simp [g1.1]
    rw [c0,c1]
    intro _;rfl
   ·rename_i g1
    split
    ·rename_i g2
     split
     ·intro hn
      simp only at hn
      subst hn
      simp only [Bool.and_eq_true,beq_iff_eq,decide_eq_true_eq] at g2
      have r2:=r 2 (by omega)
      have l2:=l 2 (by omega)
      have e0:(ai s i 0 / 32 == 6)=false:=by rw [beq_eq_false_iff_ne];omega
      have c0:(ai s i 0 / 16 == 14)=true:=by simp [g2.1.1]
      have c1:(decide (k+1<t.length) && ai s i 1 / 64 == 2)=true:=by simp [l1 g2.1.2.1,g2.1.2.2]
      have c2:(decide (k+2<t.length) && ai s i 2 / 64 == 2)=true:=by simp [l2 g2.2.1,g2.2.2]
      rename_i g3
      rw [r2,e0,c0,c1,c2]
      simp only [Bool.false_and,Bool.and_self,Bool.false_eq_true,if_false,if_true,g3]
     ·intro hn;simp only at hn;omega
    ·split
     ·rename_i g2 g4
      split
      ·rename_i g3
       intro hn
       simp only at hn
       subst hn
       simp only [Bool.and_eq_true,beq_iff_eq,decide_eq_true_eq] at g4
       have r2:=r 2 (by omega)
       have l2:=l 2 (by omega)
       have r3:=r 3 (by omega)
       have l3:=l 3 (by omega)
       have e0:(ai s i 0 / 32 == 6)=false:=by rw [beq_eq_false_iff_ne];omega
       have e1:(ai s i 0 / 16 == 14)=false:=by rw [beq_eq_false_iff_ne];omega
       have c0:(ai s i 0 / 8 == 30)=true:=by simp [g4.1.1.1]
       have c1:(decide (k+1<t.length) && ai s i 1 / 64 == 2)=true:=by simp [l1 g4.1.1.2.1,g4.1.1.2.2]
       have c2:(decide (k+2<t.length) && ai s i 2 / 64 == 2)=true:=by simp [l2 g4.1.2.1,g4.1.2.2]
       have c3:(decide (k+3<t.length) && ai s i 3 / 64 == 2)=true:=by simp [l3 g4.2.1,g4.2.2]
       rw [r2,r3,e0,e1,c0,c1,c2,c3]
       simp only [Bool.false_and,Bool.and_self,Bool.false_eq_true,if_false,if_true,g3]
      ·intro hn;simp only at hn;omega
     ·intro hn;simp only at hn;omega
 refine key _ rfl h1 (fun j hj=>?_) (fun j hj hl=>?_)
 ·unfold ai;rw [h j hj]
 ·exact (getElem?_short (h j hj)).1 hl
theorem jb {s:List UInt8} {i:Nat} (h:(ah s i).2=1):(ah s i).1=if ai s i 0<128 then ai s i 0 else 65533:=by
 rcases cM s i with ⟨h1,h2⟩ | ⟨h1,h2,_⟩
 ·rw [h2,if_pos h1]
 ·rw [if_neg (by omega)]
  rcases ju s i with ⟨g1,_⟩ | ⟨_,_,g⟩ | ⟨_,_,_,g,_⟩ | ⟨_,_,g⟩ | ⟨g,_⟩
  ·omega
  ·omega
  ·omega
  ·omega
  ·exact g
theorem jc (s:List UInt8) (i:Nat):1≤(ah s i).2∧(ah s i).2≤4:=by
 rcases cM s i with ⟨_,h⟩ | ⟨_,_,h1,h2,_⟩
 ·rw [h];exact ⟨Nat.le_refl 1,(by decide:1≤4)⟩
 ·exact ⟨h1,h2⟩
def cG (a b:List UInt8):Bool:=(List.range a.length).any fun p=>decide (a.length<p+(ah (a ++ b) p).2)
theorem dZ {a b:List UInt8}:cG a b=true↔∃p,p<a.length∧a.length<p+(ah (a ++ b) p).2:=by
 unfold cG
 simp only [List.any_eq_true,List.mem_range,decide_eq_true_eq]
theorem dN {a b:List UInt8} {j:Nat} (h:j<a.length):(a ++ b)[j]? = a[j]?:=by rw [List.getElem?_append_left h]
theorem qe {a b:List UInt8} {j:Nat}:(a ++ b)[a.length+j]? = b[j]?:=by rw [List.getElem?_append_right (by omega)];congr 1;omega
theorem eN {a b:List UInt8} {p:Nat} (hp:p<a.length) (h:p+(ah (a ++ b) p).2≤a.length):ah a p=ah (a ++ b) p:=by
 rcases Nat.lt_or_ge 1 (ah (a ++ b) p).2 with h1 | h1
 ·exact ec h1 fun j hj=>dN (by omega)
 ·have e1:(ah (a ++ b) p).2=1:=by have:=jc (a ++ b) p;omega
  have e2:(ah a p).2=1:=by
   rcases Nat.lt_or_ge 1 (ah a p).2 with h2 | h2
   ·have hs:=ct a p hp
    have:ah (a ++ b) p=ah a p:=ec h2 fun j hj=>(dN (by omega)).symm
    rw [this] at e1;exact e1
   ·have:=jc a p;omega
  have r:ai (a ++ b) p 0=ai a p 0:=by unfold ai;rw [dN (by omega)]
  refine Prod.ext ?_ (by rw [e1,e2])
  rw [jb e1,jb e2,r]
theorem kB {a b:List UInt8} {p:Nat}:ah (a ++ b) (a.length+p)=ah b p :=
 eO fun j _=>by rw [Nat.add_assoc,qe]
theorem iy {a b:List UInt8} (h:cG a b=false) {p:Nat} (hp:p<a.length):p+(ah (a ++ b) p).2≤a.length:=by
 rcases Nat.lt_or_ge a.length (p+(ah (a ++ b) p).2) with g | g
 ·rw [dZ.2 ⟨p,hp,g⟩] at h;cases h
 ·exact g
theorem fF (b:List UInt8):cG [] b=false:=rfl
theorem rG (a:List UInt8):cG a []=false:=by
 rw [← Bool.not_eq_true,dZ]
 rintro ⟨p,h1,h2⟩
 rw [List.append_nil] at h2
 have:=ct a p h1
 omega
theorem ij {s:List UInt8} {m:Nat}:place s (m+1)=place s m+(ah s (place s m)).2:=rfl
theorem iU {a b:List UInt8} (h:cG a b=false) : ∀ {j:Nat},(∀i,i<j→place a i<a.length)→place (a ++ b) j=place a j
 | 0,_=>rfl
 | j+1,hj=>by
  have ih:=iU h (j:=j) fun i hi=>hj i (by omega)
  have cv:=hj j (by omega)
  rw [ij,ij,ih,eN cv (iy h cv)]
theorem nH {a b:List UInt8} {n:Nat} (hn:place (a ++ b) n=a.length) : ∀j,place (a ++ b) (n+j)=a.length+place b j
 | 0=>by simp [place,hn]
 | j+1=>by
  have ih:=nH hn j
  rw [← Nat.add_assoc,ij,ih,kB,ij];omega
theorem aD.append {a b:List UInt8} {n m:Nat} (h:cG a b=false) (ha:aD a n) (hb:aD b m):aD (a ++ b) (n+m):=by
 have h0:place (a ++ b) n=a.length:=by rw [iU h ha.2,ha.1]
 refine ⟨by rw [nH h0,hb.1,List.length_append],fun j hj=>?_⟩
 rw [List.length_append]
 rcases Nat.lt_or_ge j n with g | g
 ·rw [iU h fun i hi=>ha.2 i (by omega)];have:=ha.2 j g;omega
 ·obtain ⟨k,rfl⟩ : ∃k,j=n+k:=⟨j - n,by omega⟩
  rw [nH h0];have:=hb.2 k (by omega);omega
theorem aD.one {s:List UInt8} {p:Nat} (hp:p<s.length):aD ((s.drop p).take (ah s p).2) 1:=by
 have hs:=ct s p hp
 have hlen:((s.drop p).take (ah s p).2).length=(ah s p).2:=by rw [List.length_take,List.length_drop];omega
 have hb:(s.drop p)=(s.drop p).take (ah s p).2 ++ (s.drop p).drop (ah s p).2:=(List.take_append_drop _ _).symm
 have e:ah (s.drop p) 0=ah s p:=eO fun j _=>by rw [List.getElem?_drop];congr 1;omega
 have f:ah ((s.drop p).take (ah s p).2) 0=ah s p:=by
  have:=eN (a:=(s.drop p).take (ah s p).2) (b:=(s.drop p).drop (ah s p).2) (p:=0) (by omega) (by rw [← hb,e];omega)
  rw [this,← hb,e]
 refine ⟨?_,fun j hj=>?_⟩
 ·rw [ij];show 0+(ah _ 0).2=_;rw [f,hlen];omega
 ·obtain rfl:j=0:=by omega
  show 0<_;omega
theorem z6 {a b:List UInt8} (h : ∀c,b[0]? = some c→c.toNat<128):cG a b=false:=by
 rw [← Bool.not_eq_true,dZ]
 rintro ⟨p,h1,h2⟩
 rcases cM (a ++ b) p with ⟨_,g⟩ | ⟨_,_,_,_,g⟩
 ·rw [g] at h2;simp only at h2;omega
 ·obtain ⟨g1,g2⟩:=g (a.length - p) (by omega) (by omega)
  have e:ai (a ++ b) p (a.length - p)=(b[0]?.getD 0).toNat:=by
   unfold ai
   rw [show p+(a.length - p)=a.length+0 by omega,qe]
  rw [e] at g2
  cases hb:b[0]? with
  | none=>rw [hb] at g2;simp at g2
  | some c=>rw [hb] at g2;have:=h c hb;simp only [Option.getD_some] at g2;omega
theorem rI {a b:List UInt8} (h : ∀c,a.getLast? = some c→c.toNat<128):cG a b=false:=by
 rw [← Bool.not_eq_true,dZ]
 rintro ⟨p,h1,h2⟩
 have hl:(a ++ b)[a.length - 1]? = a.getLast?:=by rw [dN (by omega),List.getLast?_eq_getElem?]
 have hs : ∃c,a.getLast? = some c:=by
  rw [List.getLast?_eq_getElem?,List.getElem?_eq_getElem (by omega)];exact ⟨_,rfl⟩
 obtain ⟨c,hc⟩:=hs
 have ye:=h c hc
 rcases cM (a ++ b) p with ⟨_,g⟩ | ⟨g0,_,_,_,g⟩
 ·rw [g] at h2;simp only at h2;omega
 ·have e:ai (a ++ b) p (a.length - 1 - p)=c.toNat:=by
   unfold ai
   rw [show p+(a.length - 1 - p)=a.length - 1 by omega,hl,hc];rfl
  rcases Nat.eq_zero_or_pos (a.length - 1 - p) with h0 | h0
  ·rw [h0] at e;omega
  ·have:=(g (a.length - 1 - p) h0 (by omega)).2
   rw [e] at this;omega
end Go.Am
end
/- Rows of records that lie flat in a block: how they are read, written, lengthened. -/
section
namespace Go.Am
variable {α:Type} {P:Program}
def flat (f:α→List AV):List α→List AV
 | []=>[]
 | x :: l=>f x ++ flat f l
theorem ja (f:α→List AV) : ∀l m,flat f (l ++ m)=flat f l ++ flat f m
 | [],m=>rfl
 | x :: l,m=>by simp only [List.cons_append,flat,ja f l m,List.append_assoc]
theorem IG (f:α→List AV) (x:α):flat f [x]=f x:=by simp [flat]
theorem cX {f:α→List AV} {w:Nat} (hf : ∀x,(f x).length=w) : ∀l,(flat f l).length=l.length*w
 | []=>by simp [flat]
 | x :: l=>by simp only [flat,List.length_append,hf,cX hf l,List.length_cons,Nat.add_mul,Nat.one_mul];omega
theorem AB {f:α→List AV} {w:Nat} (hf : ∀x,(f x).length=w) : ∀ {l:List α} {i:Nat},i≤l.length→(flat f l).take (i*w)=flat f (l.take i)∧(flat f l).drop (i*w)=flat f (l.drop i)
 | l,0,_=>by simp [flat]
 | x :: l,i+1,h=>by
  have e:(i+1)*w=(f x).length+i*w:=by rw [hf];simp only [Nat.add_mul,Nat.one_mul];omega
  obtain ⟨h1,h2⟩:=AB hf (l:=l) (i:=i) (by simpa using h)
  constructor
  ·rw [e];simp only [flat,List.take_succ_cons];rw [List.take_length_add_append,h1]
  ·rw [e];simp only [flat,List.drop_succ_cons];rw [List.drop_length_add_append,h2]
theorem ym {f:α→List AV} {w:Nat} (hf : ∀x,(f x).length=w) {l:List α} {i:Nat} (h:i<l.length):((flat f l).drop (i*w)).take w=f l[i]:=by
 rw [(AB hf (Nat.le_of_lt h)).2,List.drop_eq_getElem_cons h]
 simp only [flat]
 rw [← hf l[i],List.take_left]
theorem le_mul {i n w:Nat} (h:i<n):i*w+w≤n*w:=by
 have:(i+1)*w≤n*w:=Nat.mul_le_mul_right w h
 simp only [Nat.add_mul,Nat.one_mul] at this;exact this
theorem dr {f:α→List AV} {w:Nat} (hf : ∀x,(f x).length=w) {H:AH} {b i:Nat} {l:List α} {e:TypeId} {fl:Fl} (h:H.get b=some (.cells (flat f l) e fl)) (hi:i<l.length):H.read b (0+i*w) w=some (f l[i]):=by
 unfold AH.read
 rw [h]
 simp only [Nat.zero_add]
 rw [if_pos (by rw [cX hf];exact le_mul hi),ym hf hi]
theorem j4 {f:α→List AV} {w:Nat} (hf : ∀x,(f x).length=w) {H:AH} {b i k:Nat} {l:List α} {e:TypeId} {fl:Fl} (h:H.get b=some (.cells (flat f l) e fl)) (hi:i<l.length) (hk:k<w):H.ak b (0+i*w+k)=(f l[i])[k]?:=by
 unfold AH.ak
 rw [h]
 simp only [Nat.zero_add]
 rw [← ym hf hi,List.getElem?_take,if_pos hk,List.getElem?_drop]
theorem za {f:α→List AV} {w:Nat} (hf : ∀x,(f x).length=w) {l:List α} {i k:Nat} {vs:List AV} {y:α} (hi:i<l.length) (hk:k+vs.length≤w) (hy:ax (f l[i]) k vs=f y) :
  ax (flat f l) (i*w+k) vs=flat f (l.set i y):=by
 have hl:l=l.take i ++ l[i] :: l.drop (i+1):=by rw [← List.drop_eq_getElem_cons hi,List.take_append_drop]
 have hs:l.set i y=l.take i ++ y :: l.drop (i+1):=List.set_eq_take_append_cons_drop ▸ by rw [if_pos hi]
 have h0:(flat f (l.take i)).length=i*w:=by rw [cX hf,List.length_take,Nat.min_eq_left (Nat.le_of_lt hi)]
 rw [hs]
 conv=>lhs;rw [hl]
 simp only [ja,flat]
 rw [← hy]
 unfold ax
 have hx:=hf l[i]
 rw [← h0,List.take_length_add_append,show (flat f (List.take i l)).length+k+vs.length=(flat f (List.take i l)).length+(k+vs.length) by omega,List.drop_length_add_append,
  List.take_append_of_le_length (by omega),List.drop_append_of_le_length (by omega)]
 simp only [List.append_assoc]
theorem jU {f:α→List AV} {w:Nat} (hf : ∀x,(f x).length=w) {H:AH} {b i k:Nat} {l:List α} {e:TypeId} {fl:Fl} {vs:List AV} {y:α} (h:H.get b=some (.cells (flat f l) e fl)) (ho:fl.own=true) (hz:fl.fz=0) (hi:i<l.length) (hk:k+vs.length≤w)
  (h1:vs.all AV.one=true) (hy:ax (f l[i]) k vs=f y):H.write b (0+i*w+k) vs=some (H.set b (.cells (flat f (l.set i y)) e fl)):=by
 unfold AH.write
 rw [h]
 simp only [Nat.zero_add]
 have:=le_mul (w:=w) hi
 rw [if_pos ⟨ho,by omega,by rw [cX hf];omega,h1⟩,za hf hi hk hy]
theorem qg {f:α→List AV} (hf : ∀x,(f x).all AV.one=true) : ∀l,(flat f l).all AV.one=true
 | []=>rfl
 | x :: l=>by rw [flat,List.all_append,hf,qg hf l];rfl
theorem eZ {H:AH} {st e:TypeId} {s mT:Nat} {q:Option Nat} {f:α→List AV} {l:List α} {x:α} {c:Nat} {fl:Fl} {z:AV} (t1:P.underlying st=some (.slice e)) (t4:bX P e=some s) (t5:vj P e=some mT) (t6:zeroOf P e=some z) (t7:z.cells.length=s) (hb:0<mT)
  (hf : ∀x,(f x).length=s) (ho : ∀x,(f x).all AV.one=true) (hl:bI H q l.length (flat f l) e) (hc:H.get c=some (.cells (f x) e fl)) (jn:(2*(l.length+1)+1000)*mT≤2 ^ 48) :
  ∃H',bZ P H st st (sl q l.length) (.slice (some (c,0)) 1 1)=some (sl (some H.n) (l ++ [x]).length,H')∧H'.n=H.n+1∧bI H' (some H.n) (l ++ [x]).length (flat f (l ++ [x])) e∧∀c,c<H.n→q ≠ some c→H'.get c=H.get c:=by
 have h:=rj (P:=P) (H:=H) (st:=st) (xt:=st) (e:=e) (xd:=.slice e) (s:=s) (mT:=mT) (m:=l.length) (n:=1) (q:=q) (old:=flat f l) (new:=f x) (y:=.slice (some (c,0)) 1 1) (z:=z)
  t1 t1 (fun k h=>by cases h) t4 t5 t6 t7 hb (by simp [y9,AH.read,hc,hf];rw [List.take_of_length_le (by rw [hf];exact Nat.le_refl _)]) (ho x) (by decide) hl (cX hf l) jn
 rw [← IG f x,← ja] at h
 rw [List.length_append]
 exact h
end Go.Am
end
/- The spans of a text in normal form, told by how its signs look: kind by kind, the stretches that look alike, cut where a span of a kind ahead begins or ends. -/
section
namespace Go.Am
structure aj where
 b:Bool
 i:Bool
 u:Bool
 k:Bool
 c:Int
def aj.cells (a:aj):List AV:=[.bool a.b,.bool a.i,.bool a.u,.bool a.k,.int .i64 a.c]
def aH:aj:=⟨false,false,false,false,0⟩
theorem aj.aG (a:aj):a.cells.length=5:=rfl
theorem aj.ef (a:aj):a.cells.all AV.one=true:=by simp [aj.cells,AV.one]
def jC (b:Bool):Int:=bif b then 1 else 0
def aj.get (a:aj) (kind:Int):Int:=if kind=1 then jC a.b else if kind=2 then jC a.i else if kind=3 then jC a.u else if kind=4 then jC a.k else if kind=5 then a.c else 0
structure ay where
 f:Int
 t:Int
 k:Int
 v:Int
def ay.cells (x:ay):List AV:=[.int .i64 x.f,.int .i64 x.t,.int .i64 x.k,.int .i64 x.v]
theorem ay.aG (x:ay):x.cells.length=4:=rfl
theorem ay.ef (x:ay):x.cells.all AV.one=true:=by simp [ay.cells,AV.one]
def qd (g:Nat→Bool):Nat→Nat→Nat
 | 0,j=>j
 | d+1,j=>bif g j then qd g d (j+1) else j
def cT (g:Nat→Bool) (n j:Nat):Nat:=qd g (n - j) j
theorem JM {g:Nat→Bool} {n j:Nat} (h:j<n) (hg:g j=true):cT g n j=cT g n (j+1):=by
 unfold cT
 obtain ⟨d,hd⟩ : ∃d,n - j=d+1:=⟨n - j - 1,by omega⟩
 rw [hd,show n - (j+1)=d by omega]
 simp [qd,hg]
theorem Ed {g:Nat→Bool} {n j:Nat} (h:j<n) (hg:g j=false):cT g n j=j:=by
 unfold cT
 obtain ⟨d,hd⟩ : ∃d,n - j=d+1:=⟨n - j - 1,by omega⟩
 rw [hd]
 simp [qd,hg]
theorem GG {g:Nat→Bool} {n j:Nat} (h:n≤j):cT g n j=j:=by
 unfold cT
 rw [show n - j=0 by omega];rfl
theorem qS {g:Nat→Bool} : ∀ {d j:Nat},j≤qd g d j∧qd g d j≤j+d
 | 0,j=>⟨Nat.le_refl _,Nat.le_refl _⟩
 | d+1,j=>by
  simp only [qd]
  cases g j with
  | false=>exact ⟨Nat.le_refl _,by simp only [cond_false];omega⟩
  | true=>have:=qS (g:=g) (d:=d) (j:=j+1);simp only [cond_true];omega
theorem fc {g:Nat→Bool} {n j:Nat} (h:j≤n):j≤cT g n j∧cT g n j≤n:=by
 have:=qS (g:=g) (d:=n - j) (j:=j)
 unfold cT;omega
def alike (val:Nat→Int) (cut:Nat→Bool) (i j:Nat):Bool:=val j == val i && !cut j
def iR (val:Nat→Int) (k:Int) (i j:Nat):List ay:=if val i=0 then [] else [⟨i,j,k,if k=5 then val i - 1 else 0⟩]
def fh (val:Nat→Int) (cut:Nat→Bool) (n:Nat) (k:Int):Nat→Nat→List ay
 | 0,_=>[]
 | d+1,i=>if i<n then iR val k i (cT (alike val cut i) n (i+1)) ++ fh val cut n k d (cT (alike val cut i) n (i+1)) else []
theorem ia {val:Nat→Int} {cut:Nat→Bool} {n:Nat} {k:Int} : ∀ {d e i:Nat},n - i≤d→n - i≤e→fh val cut n k d i=fh val cut n k e i
 | 0,0,_,_,_=>rfl
 | 0,e+1,i,h,_=>by simp only [fh];rw [if_neg (by omega)]
 | d+1,0,i,_,h=>by simp only [fh];rw [if_neg (by omega)]
 | d+1,e+1,i,h1,h2=>by
  simp only [fh]
  by_cases h:i<n
  ·have:=(fc (g:=alike val cut i) (n:=n) (j:=i+1) (by omega)).1
   rw [if_pos h,if_pos h,ia (d:=d) (e:=e) (by omega) (by omega)]
  ·rw [if_neg h,if_neg h]
def bV (val:Nat→Int) (cut:Nat→Bool) (n:Nat) (k:Int) (i:Nat):List ay:=fh val cut n k (n - i) i
theorem fj {val:Nat→Int} {cut:Nat→Bool} {n:Nat} {k:Int} {i:Nat} (h:n≤i):bV val cut n k i=[]:=by
 unfold bV;rw [show n - i=0 by omega];rfl
theorem eV {val:Nat→Int} {cut:Nat→Bool} {n:Nat} {k:Int} {i:Nat} (h:i<n) :
  bV val cut n k i=iR val k i (cT (alike val cut i) n (i+1)) ++ bV val cut n k (cT (alike val cut i) n (i+1)):=by
 unfold bV
 have:=(fc (g:=alike val cut i) (n:=n) (j:=i+1) (by omega)).1
 rw [ia (d:=n - i) (e:=(n - i - 1)+1) (by omega) (by omega)]
 simp only [fh]
 rw [if_pos h,ia (d:=n - i - 1) (e:=n - cT (alike val cut i) n (i+1)) (by omega) (by omega)]
theorem lf {val:Nat→Int} {cut:Nat→Bool} {n:Nat} {k:Int} : ∀(d:Nat) {i:Nat},d=n - i→(bV val cut n k i).length≤n - i:=by
 intro d
 induction d using Nat.strongRecOn with
 | ind d ih =>
  intro i hd
  rcases Nat.lt_or_ge i n with h | h
  ·have:=fc (g:=alike val cut i) (n:=n) (j:=i+1) (by omega)
   rw [eV h,List.length_append]
   have g:=ih (n - cT (alike val cut i) n (i+1)) (by omega) rfl
   have:(iR val k i (cT (alike val cut i) n (i+1))).length≤1:=by unfold iR;split <;> simp
   omega
  ·rw [fj h];simp
theorem jW {val:Nat→Int} {cut:Nat→Bool} {n:Nat} {k:Int} : ∀(d:Nat) {i:Nat},d=n - i→∀x ∈ bV val cut n k i,∃a b:Nat,x.f=a∧x.t=b∧i≤a∧a<b∧b≤n∧x.k=k:=by
 intro d
 induction d using Nat.strongRecOn with
 | ind d ih =>
  intro i hd x hx
  rcases Nat.lt_or_ge i n with h | h
  ·have hb:=fc (g:=alike val cut i) (n:=n) (j:=i+1) (by omega)
   rw [eV h] at hx
   rcases List.mem_append.1 hx with hx | hx
   ·unfold iR at hx
    split at hx
    ·cases hx
    ·simp only [List.mem_singleton] at hx
     subst hx
     exact ⟨i,_,rfl,rfl,Nat.le_refl _,by omega,hb.2,rfl⟩
   ·obtain ⟨a,b,g1,g2,g3,g4⟩:=ih (n - cT (alike val cut i) n (i+1)) (by omega) rfl x hx
    exact ⟨a,b,g1,g2,by omega,g4⟩
  ·rw [fj h] at hx;cases hx
def kL (cut:Nat→Bool) (l:List ay) (j:Nat):Bool:=cut j || l.any fun x=>x.f == (j:Int) || x.t == (j:Int)
def val (L:List aj) (k:Int) (i:Nat):Int:=((L[i]?).getD aH).get k
theorem pM {L:List aj} {k:Int} {i:Nat} (h:i<L.length):val L k i=(L[i]).get k:=by
 unfold val;rw [List.getElem?_eq_getElem h];rfl
def aA (L:List aj):Nat→List ay×(Nat→Bool)
 | 0=>([],fun _=>false)
 | k+1=>((aA L k).1 ++ bV (val L (k+1:Nat)) (aA L k).2 L.length (k+1:Nat) 0,kL (aA L k).2 (bV (val L (k+1:Nat)) (aA L k).2 L.length (k+1:Nat) 0))
def bN (L:List aj):List ay:=(aA L 5).1
theorem iz (L:List aj) : ∀k,(aA L k).1.length≤k*L.length
 | 0=>by simp [aA]
 | k+1=>by
  have h1:=iz L k
  have h2:=lf (val:=val L (k+1:Nat)) (cut:=(aA L k).2) (n:=L.length) (k:=(k+1:Nat)) (L.length - 0) (i:=0) rfl
  simp only [aA,List.length_append,Nat.add_mul,Nat.one_mul];omega
end Go.Am
end

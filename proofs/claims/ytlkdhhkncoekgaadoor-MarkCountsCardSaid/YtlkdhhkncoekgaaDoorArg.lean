/- What a caller hands: texts with spans, that are to be read alone. -/
import Derived.Test.YtlkdhhkncoekgaaDoorRefB
import Derived.Test.YtlkdhhkncoekgaaDoorTabs
import Derived.Deep.Slices
import Derived.ChangeSame
namespace Go.Proofs.YtlkdhhkncoekgaaDoor
open Go.Am Go Go.ChangeShapes Go.WideShapes
theorem Ty {P:Program} {E:Env} {B:eS} {H:AH} {w:World} (h:HR P E B H w) {L:Go.Am.Loc} {cs:List AV} {e:TypeId} {fl:Fl} (ho:fl.own=false) (hO:OR P (E.put H.n L) B w L (.cells cs e fl))
  (hs : ∀b o L',H.get b=some o→o.owns=true→E b=some L'→L'.bB ≠ L.bB):HR P (E.put H.n L) B (H.alloc (.cells cs e fl)) w where
 yy:=fun b M hb=>by
  unfold Env.put at hb
  simp only [AH.aC]
  by_cases e:b=H.n
  ·omega
  ·rw [if_neg e] at hb
   have:=h.yy b M hb;omega
 obj:=fun b o hb=>by
  rw [AH.aa] at hb
  by_cases e:b=H.n
  ·rw [if_pos e] at hb
   cases hb
   exact ⟨L,by unfold Env.put;rw [if_pos e],hO⟩
  ·rw [if_neg e] at hb
   obtain ⟨M,h1,h2⟩:=h.obj b o hb
   exact ⟨M,h.eB L b M h1,h2.same (h.eB L) rfl⟩
 base:=h.base
 jI:=fun g hg=>by
  obtain ⟨M,h1,h2⟩:=h.jI g hg
  exact ⟨M,h.eB L g M h1,h2⟩
 sep:=fun b b' o o' M M' cU hb eu OU Y4 hM gm=>by
  rw [AH.aa] at hb eu
  unfold Env.put at hM gm
  by_cases e:b=H.n
  ·rw [if_pos e] at hb
   cases hb
   exact absurd OU (by simp [aS.owns,ho])
  ·rw [if_neg e] at hb hM
   by_cases e' : b'=H.n
   ·rw [if_pos e'] at gm
    cases gm
    exact hs b o M hb OU hM
   ·rw [if_neg e'] at eu gm
    exact h.sep b b' o o' M M' cU hb eu OU Y4 hM gm
def uW (x:ay):List Value:=[.int .i64 x.f,.int .i64 x.t,.int .i64 x.k,.int .i64 x.v]
def gL:List ay→List Value
 | []=>[]
 | x :: l=>(uW x) ++ gL l
theorem mW : ∀l,(gL l).length=l.length*4
 | []=>rfl
 | x :: l=>by rw [gL,List.length_append,mW l,List.length_cons,uW];simp only [List.length_cons,List.length_nil];omega
theorem vo : ∀ {l:List ay} {i k:Nat} (h:i<l.length),k<4→(gL l)[i*4+k]? = (uW l[i])[k]?
 | x :: l,0,k,_,hk=>by
  rw [gL,Nat.zero_mul,Nat.zero_add,List.getElem?_append_left (by rw [uW];simpa using hk)];rfl
 | x :: l,i+1,k,h,hk=>by
  have h' : i<l.length:=by simpa using h
  rw [gL,List.getElem?_append_right (by rw [uW];simp only [List.length_cons,List.length_nil];omega)]
  have e:(i+1)*4+k - (uW x).length=i*4+k:=by rw [uW];simp only [List.length_cons,List.length_nil];omega
  rw [e,vo h' hk];rfl
theorem yX (E:Env) : ∀l,aI E (flat ay.cells l) (gL l)
 | []=>by simp [flat,gL,aI]
 | x :: l=>by
  have:=yX E l
  simp only [flat,gL,ay.cells,uW,List.cons_append,List.nil_append,aI,VR]
  exact ⟨_,_,rfl,rfl,_,_,rfl,rfl,_,_,rfl,rfl,_,_,rfl,rfl,this⟩
def su (W:World) (v:Value) (so more:List ay):Prop :=
 (v=.slice none 0 0∧so=[]∧more=[]) ∨
 ∃(a:Addr) (b off:Nat) (X:Array Value) (e:TypeId) (fz:Nat×Nat),v=.slice (some a) so.length (so ++ more).length∧a.spot=none∧(a=⟨b,off,none⟩∨(so ++ more).length=0)∧W.heap[b]? = some (.cells X e fz)∧off+(so ++ more).length*4≤X.size ∧
  (X.toList.drop off).take ((so ++ more).length*4)=gL (so ++ more)
theorem GH:Tryd.prog.underlying 24=some (.slice 41):=by kernel_rfl
theorem MN:Tryd.prog.cellsOf 41=4:=by kernel_rfl
theorem LB:Tryd.prog.cellsOf 3=1:=by kernel_rfl
theorem C7:Tryd.prog.underlying 3=some (.int .i64):=by kernel_rfl
noncomputable def GL:Bool :=
 match Tryd.prog.underlying 41 with
 | some (.struct ⟨[f0,f1,f2,f3]⟩)=>f0.type == 3 && f1.type == 3 && f2.type == 3 && f3.type == 3 && f0.offset == 0 && f1.offset == 1 && f2.offset == 2 && f3.offset == 3
 | _=>false
theorem zh:GL=true:=by kernel_rfl
theorem Pn : ∃f0 f1 f2 f3:Field,Tryd.prog.underlying 41=some (.struct #[f0,f1,f2,f3])∧(f0.type=3∧f1.type=3∧f2.type=3∧f3.type=3)∧(f0.offset=0∧f1.offset=1∧f2.offset=2∧f3.offset=3):=by
 have h:=zh
 unfold GL at h
 split at h
 ·rename_i f0 f1 f2 f3 e
  simp only [Bool.and_eq_true,beq_iff_eq] at h
  exact ⟨f0,f1,f2,f3,e,⟨h.1.1.1.1.1.1.1,h.1.1.1.1.1.1.2,h.1.1.1.1.1.2,h.1.1.1.1.2⟩,⟨h.1.1.1.2,h.1.1.2,h.1.2,h.2⟩⟩
 ·cases h
section
variable {Hh:Type} {enc:TypeId×Value→Hh} {W:World}
set_option maxRecDepth 100000 in
theorem Ef {n:Nat} {cs:List Value} {y:DataW Hh×List MemPlace} (h:DataW.trod enc Tryd.prog W 0 (fun _=>true) true n 41 cs=some y) : ∃x:ay,cs=(uW x):=by
 obtain ⟨f0,f1,f2,f3,hu,⟨t0,t1,t2,t3⟩,⟨o0,o1,o2,o3⟩⟩:=Pn
 obtain ⟨xs,k,_,_,hl,OP,hf⟩:=DataW.trod_struct hu h
 rw [MN] at hl
 match cs,hl with
 | [c0,c1,c2,c3],_ =>
  have g0:=hf 0 f0 rfl
  have g1:=hf 1 f1 rfl
  have g2:=hf 2 f2 rfl
  have g3:=hf 3 f3 rfl
  rw [t0,o0,LB] at g0
  rw [t1,o1,LB] at g1
  rw [t2,o2,LB] at g2
  rw [t3,o3,LB] at g3
  match xs,OP with
  | [y0,y1,y2,y3],_ =>
   obtain ⟨a,e0,_⟩:=DataW.trod_int C7 g0
   obtain ⟨b,e1,_⟩:=DataW.trod_int C7 g1
   obtain ⟨c,e2,_⟩:=DataW.trod_int C7 g2
   obtain ⟨d,e3,_⟩:=DataW.trod_int C7 g3
   simp only [List.drop,List.take,List.cons.injEq,and_true] at e0 e1 e2 e3
   subst e0;subst e1;subst e2;subst e3
   exact ⟨⟨a,b,c,d⟩,rfl⟩
set_option maxRecDepth 100000 in
theorem B1 {v:Value} {n:Nat} {y:DataW Hh×List MemPlace} (od:Cell.okWide Tryd.prog W .any 0 24 v) (h:DataW.trod enc Tryd.prog W 0 (fun _=>true) true n 24 [v]=some y) : ∃so more,su W v so more:=by
 rcases Go.Deep.open_slice GH h with ⟨e,_⟩ | ⟨a,len,cap,m,k,D,Pl,e,_,hl,_,hm,_,hx⟩
 ·cases e
  exact ⟨[],[],.inl ⟨rfl,rfl,rfl⟩⟩
 ·cases e
  rw [if_pos rfl] at hm
  subst hm
  rw [MN] at hx
  have UE:a.spot=none∧∃row cells,W.shape? a.block=some (row,cells):=by
   unfold Cell.okWide Cell.ok at od
   rw [GH] at od
   simp only at od
   obtain ⟨_,h1,row,cells,h2,_⟩:=od.2.2
   exact ⟨h1,row,cells,h2⟩
  obtain ⟨nR,row,cells,Be⟩:=UE
  obtain ⟨b,off,spot⟩:=a
  simp only at nR Be hx
  subst nR
  unfold World.shape? at Be
  cases hw:W.heap[b]? with
  | none=>rw [hw] at Be;cases Be
  | some o =>
   rw [hw] at Be
   cases o with
   | cells X e fz =>
    have each : ∀i,i<m→∃x:ay,∀k,k<4→X[off+(i*4+k)]? = (uW x)[k]?:=fun i hi=>by
     obtain ⟨vh,h1,h2⟩:=hx i hi
     obtain ⟨x,rfl⟩:=Ef h2
     refine ⟨x,fun k hk=>?_⟩
     obtain ⟨_,_,hc⟩:=World.cells?_some h1
     have:=hc k hk
     rw [Go.Deep.add_add] at this
     unfold World.cell? Addr.add at this
     by_cases e0:i*4+k=0
     ·rw [if_pos e0] at this
      simp only [hw] at this
      simpa [e0] using this
     ·rw [if_neg e0] at this
      simp only [hw] at this
      simpa using this
    haveI:Inhabited ay:=⟨⟨0,0,0,0⟩⟩
    obtain ⟨g,hg⟩:=Go.Deep.choose_lt each
    obtain ⟨all,jo⟩ : ∃all,all=(List.range m).map g:=⟨_,rfl⟩
    have Ay:all.length=m:=by rw [jo];simp
    have Cz:all.take len ++ all.drop len=all:=List.take_append_drop len all
    have Xc : ∀j,j<m*4→X[off+j]? = (gL all)[j]?:=fun j hj=>by
     have h1:j / 4<m:=by omega
     have h2:=hg (j / 4) h1 (j % 4) (by omega)
     have h3:=vo (l:=all) (i:=j / 4) (k:=j % 4) (by omega) (by omega)
     rw [show j / 4*4+j % 4=j by omega] at h2 h3
     rw [h2,h3]
     simp only [jo,List.getElem_map,List.getElem_range]
    have hvl:=mW all
    have jn:off+m*4≤X.size∨m=0:=by
     rcases Nat.eq_zero_or_pos m with e0 | e0
     ·exact .inr e0
     ·have h1:=Xc (m*4 - 1) (by omega)
      rw [List.getElem?_eq_getElem (by omega)] at h1
      obtain ⟨h2,_⟩:=Array.getElem?_eq_some_iff.1 h1
      exact .inl (by omega)
    refine ⟨all.take len,all.drop len,?_⟩
    rcases jn with jn | h0
    ·refine .inr ⟨⟨b,off,none⟩,b,off,X,e,fz,by rw [Cz,Ay,List.length_take,Ay,Nat.min_eq_left hl],rfl,.inl rfl,hw,by rw [Cz,Ay];exact jn,?_⟩
     rw [Cz,Ay]
     apply List.ext_getElem?
     intro j
     by_cases hj:j<m*4
     ·rw [List.getElem?_take_of_lt hj,List.getElem?_drop,Array.getElem?_toList,Xc j hj]
     ·rw [List.getElem?_eq_none (by rw [List.length_take];omega),List.getElem?_eq_none (by omega)]
    ·have e0:all=[]:=List.length_eq_zero_iff.1 (by omega)
     refine .inr ⟨⟨b,off,none⟩,b,0,X,e,fz,by rw [Cz,Ay,List.length_take,Ay,Nat.min_eq_left hl],rfl,.inr (by rw [Cz,Ay];exact h0),hw,by rw [Cz,Ay];omega,?_⟩
     rw [Cz,e0]
     simp [gL]
   | _=>cases Be
theorem Pk : ∃f0 f1:Field,Tryd.prog.underlying 26=some (.struct #[f0,f1])∧(f0.type=9∧f1.type=24)∧(f0.offset=0∧f1.offset=1):=by
 have h:(match Tryd.prog.underlying 26 with
  | some (.struct ⟨[f0,f1]⟩)=>f0.type == 9 && f1.type == 24 && f0.offset == 0 && f1.offset == 1
  | _=>false)=true:=by kernel_rfl
 split at h
 ·rename_i f0 f1 e
  simp only [Bool.and_eq_true,beq_iff_eq] at h
  exact ⟨f0,f1,e,⟨h.1.1.1,h.1.1.2⟩,⟨h.1.2,h.2⟩⟩
 ·cases h
theorem RE:Tryd.prog.cellsOf 26=2:=by kernel_rfl
theorem Vg:Tryd.prog.cellsOf 9=1:=by kernel_rfl
theorem Ov:Tryd.prog.cellsOf 24=1:=by kernel_rfl
theorem Pm:Tryd.prog.underlying 9=some .string:=by kernel_rfl
theorem Oq:Tryd.prog.cellTypes Tryd.prog.depth 26=some [9,24]:=by kernel_rfl
set_option maxRecDepth 100000 in
theorem ES {v:Value} {d:DataW Hh} {p:List MemPlace} (od:Value.okWide Tryd.prog W .any 0 26 v) (h:DataW.Trod enc Tryd.prog W 0 (fun _=>true) true 26 v d p) :
  ∃(s:ByteArray) (sv:Value) (so more:List ay),v=.agg #[.string s,sv]∧su W sv so more:=by
 obtain ⟨f0,f1,hu,⟨t0,t1⟩,⟨o0,o1⟩⟩:=Pk
 obtain ⟨n,h⟩:=h
 unfold Value.okWide at od
 rw [hu] at od
 simp only at od
 obtain ⟨cs,rfl,jn,ts,Ww,_,gE⟩:=od
 rw [Oq] at Ww
 cases Ww
 rw [RE] at jn
 obtain ⟨l,rfl⟩ : ∃l:List Value,cs=l.toArray:=⟨cs.toList,by simp⟩
 match l,jn with
 | [c0,c1],_ =>
  obtain ⟨y0,y1,k,_,_,h0,h1⟩:=trod_struct2 hu h
  rw [t0,o0,Vg] at h0
  rw [t1,o1,Ov] at h1
  simp only [Value.cells,List.drop,List.take] at h0 h1
  obtain ⟨s,e0,_⟩:=DataW.trod_string Pm h0
  cases e0
  obtain ⟨u,Ib,Ql⟩:=gE 1 c1 rfl
  cases Ib
  obtain ⟨so,more,hS⟩:=B1 Ql h1
  exact ⟨s,c1,so,more,rfl,hS⟩
end
theorem AW {P:Program} {W:World} {base:Nat} {t:TypeId} {v:Value} (h:Value.okWide P W .any base t v):Value.okWide P W .any 0 t v:=by
 have e : ∀u x,Cell.okWide P W .any base u x=Cell.okWide P W .any 0 u x:=fun u x=>by
  unfold Cell.okWide Cell.ok World.has Reach.lets;rfl
 unfold Value.okWide Row.okWide at h ⊢
 simp only [e] at h
 exact h
def Je (H:AH):Prop:=∀b o,H.get b=some o→o.owns=false
set_option maxRecDepth 100000 in
theorem E8 {E:Env} {B:eS} {H:AH} {W:World} (hH:HR Tryd.prog E B H W) (hn:Je H) {sv:Value} {so more:List ay} (hS:su W sv so more) :
  ∃(q:Option Nat) (E' : Env) (H' : AH),HR Tryd.prog E' B H' W∧iG H' q (so ++ more).length so∧VR E' (.slice (q.map fun b=>(b,0)) so.length (so ++ more).length) sv∧E.le E'∧H.n≤H'.n∧(∀c,c<H.n→H'.get c=H.get c)∧Je H':=by
 rcases hS with ⟨rfl,rfl,rfl⟩ | ⟨a,b,off,X,e,fz,rfl,h1,h2,h3,h4,h5⟩
 ·exact ⟨none,E,H,hH,⟨⟨rfl,rfl⟩,fun b hb=>by cases hb⟩,⟨rfl,Nat.le_refl _⟩,.refl E,Nat.le_refl _,fun _ _=>rfl,hn⟩
 ·obtain ⟨L,hL⟩ : ∃L:Go.Am.Loc,L=⟨b,off,(flat ay.cells (so ++ more)).length,Tryd.prog.cellsOf e,0⟩:=⟨_,rfl⟩
  have Gl:(flat ay.cells (so ++ more)).length=(so ++ more).length*4:=cX ay.aG _
  have hO:OR Tryd.prog (E.put H.n L) B W L (.cells (flat ay.cells (so ++ more)) e { own:=false }):=by
   refine ⟨X,fz.1,fz.2,by rw [hL];exact h3,by rw [hL],by rw [hL],by rw [hL,Gl];simp only;omega,?_,(fun h=>by cases h),(fun _=>by rw [hL]),fun v hv=>?_,(fun h=>by cases h)⟩
   ·rw [Gl,hL]
    show aI _ _ ((X.toList.drop off).take ((so ++ more).length*4))
    rw [h5];exact yX _ _
   ·exact List.all_eq_true.1 (qg (fun x=>x.ef) (so ++ more)) v hv
  have hR:=Ty hH (L:=L) (fl:={ own:=false }) rfl hO (fun c o L' hc ho _=>absurd ho (by rw [hn c o hc];decide))
  refine ⟨some H.n,_,_,hR,⟨⟨e,_,more,by rw [AH.aa,if_pos rfl],rfl⟩,fun c hc=>by cases hc;simp⟩,?_,hH.eB L,by simp,fun c hc=>by rw [AH.aa,if_neg (by omega)],fun c o hc=>?_⟩
  ·refine ⟨L,a,(so ++ more).length,by unfold Env.put;rw [if_pos rfl],rfl,by rw [List.length_append];omega,.inl rfl,h1,?_⟩
   rcases h2 with h2 | h2
   ·exact .inl (by rw [h2,hL];rfl)
   ·exact .inr h2
  ·rw [AH.aa] at hc
   by_cases e0:c=H.n
   ·rw [if_pos e0] at hc;cases hc;rfl
   ·rw [if_neg e0] at hc;exact hn c o hc
theorem wW (e1 e2:TypeId):Je (fA kG (bG e1 e2)):=by
 intro b o hb
 simp only [bG,fA,AH.af] at hb
 by_cases h1:b=1
 ·rw [if_pos h1] at hb;cases hb;rfl
 ·rw [if_neg h1] at hb
  by_cases h2:b=2
  ·rw [if_pos h2] at hb;cases hb;rfl
  ·rw [if_neg h2] at hb
   cases hb
end Go.Proofs.YtlkdhhkncoekgaaDoor

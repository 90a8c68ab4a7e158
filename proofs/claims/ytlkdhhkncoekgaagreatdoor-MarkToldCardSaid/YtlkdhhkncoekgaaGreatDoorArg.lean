/- What a caller hands: texts with spans, that are to be read alone. -/
import Derived.Test.YtlkdhhkncoekgaaGreatDoorRefB
import Derived.Test.YtlkdhhkncoekgaaGreatDoorTabs
import Derived.Deep.Slices
import Derived.ChangeSame
namespace Go.Proofs.YtlkdhhkncoekgaaGreatDoor
open Go.Am Go Go.ChangeShapes Go.WideShapes
theorem Uq {P:Program} {E:Env} {B:eZ} {H:AH} {w:World} (h:HR P E B H w) {L:Go.Am.Loc} {cs:List AV} {e:TypeId} {fl:Fl} (ho:fl.own=false) (hO:OR P (E.put H.n L) B w L (.cells cs e fl))
  (hs : ∀b o L',H.get b=some o→o.owns=true→E b=some L'→L'.bH ≠ L.bH):HR P (E.put H.n L) B (H.alloc (.cells cs e fl)) w where
 zj:=fun b M hb=>by
  unfold Env.put at hb
  simp only [AH.az]
  by_cases e:b=H.n
  ·omega
  ·rw [if_neg e] at hb
   have:=h.zj b M hb;omega
 obj:=fun b o hb=>by
  rw [AH.aa] at hb
  by_cases e:b=H.n
  ·rw [if_pos e] at hb
   cases hb
   exact ⟨L,by unfold Env.put;rw [if_pos e],hO⟩
  ·rw [if_neg e] at hb
   obtain ⟨M,h1,h2⟩:=h.obj b o hb
   exact ⟨M,h.eI L b M h1,h2.same (h.eI L) rfl⟩
 base:=h.base
 ke:=fun g hg=>by
  obtain ⟨M,h1,h2⟩:=h.ke g hg
  exact ⟨M,h.eI L g M h1,h2⟩
 sep:=fun b b' o o' M M' dm hb dM PC Z2 hM gz=>by
  rw [AH.aa] at hb dM
  unfold Env.put at hM gz
  by_cases e:b=H.n
  ·rw [if_pos e] at hb
   cases hb
   exact absurd PC (by simp [aY.owns,ho])
  ·rw [if_neg e] at hb hM
   by_cases e' : b'=H.n
   ·rw [if_pos e'] at gz
    cases gz
    exact hs b o M hb PC hM
   ·rw [if_neg e'] at dM gz
    exact h.sep b b' o o' M M' dm hb dM PC Z2 hM gz
def vB (x:av):List Value:=[.int .i64 x.f,.int .i64 x.t,.int .i64 x.k,.int .i64 x.v]
def gY:List av→List Value
 | []=>[]
 | x :: l=>(vB x) ++ gY l
theorem nC : ∀l,(gY l).length=l.length*4
 | []=>rfl
 | x :: l=>by rw [gY,List.length_append,nC l,List.length_cons,vB];simp only [List.length_cons,List.length_nil];omega
theorem vX : ∀ {l:List av} {i k:Nat} (h:i<l.length),k<4→(gY l)[i*4+k]? = (vB l[i])[k]?
 | x :: l,0,k,_,hk=>by
  rw [gY,Nat.zero_mul,Nat.zero_add,List.getElem?_append_left (by rw [vB];simpa using hk)];rfl
 | x :: l,i+1,k,h,hk=>by
  have h' : i<l.length:=by simpa using h
  rw [gY,List.getElem?_append_right (by rw [vB];simp only [List.length_cons,List.length_nil];omega)]
  have e:(i+1)*4+k - (vB x).length=i*4+k:=by rw [vB];simp only [List.length_cons,List.length_nil];omega
  rw [e,vX h' hk];rfl
theorem zQ (E:Env) : ∀l,aJ E (flat av.cells l) (gY l)
 | []=>by simp [flat,gY,aJ]
 | x :: l=>by
  have:=zQ E l
  simp only [flat,gY,av.cells,vB,List.cons_append,List.nil_append,aJ,VR]
  exact ⟨_,_,rfl,rfl,_,_,rfl,rfl,_,_,rfl,rfl,_,_,rfl,rfl,this⟩
def tj (W:World) (v:Value) (so more:List av):Prop :=
 (v=.slice none 0 0∧so=[]∧more=[]) ∨
 ∃(a:Addr) (b off:Nat) (X:Array Value) (e:TypeId) (fz:Nat×Nat),v=.slice (some a) so.length (so ++ more).length∧a.spot=none∧(a=⟨b,off,none⟩∨(so ++ more).length=0)∧W.heap[b]? = some (.cells X e fz)∧off+(so ++ more).length*4≤X.size ∧
  (X.toList.drop off).take ((so ++ more).length*4)=gY (so ++ more)
theorem G7:Tryz.prog.underlying 22=some (.slice 54):=by kernel_rfl
theorem Nv:Tryz.prog.cellsOf 54=4:=by kernel_rfl
theorem Mi:Tryz.prog.cellsOf 3=1:=by kernel_rfl
theorem DH:Tryz.prog.underlying 3=some (.int .i64):=by kernel_rfl
noncomputable def Hi:Bool :=
 match Tryz.prog.underlying 54 with
 | some (.struct ⟨[f0,f1,f2,f3]⟩)=>f0.type == 3 && f1.type == 3 && f2.type == 3 && f3.type == 3 && f0.offset == 0 && f1.offset == 1 && f2.offset == 2 && f3.offset == 3
 | _=>false
theorem z9:Hi=true:=by kernel_rfl
theorem Qa : ∃f0 f1 f2 f3:Field,Tryz.prog.underlying 54=some (.struct #[f0,f1,f2,f3])∧(f0.type=3∧f1.type=3∧f2.type=3∧f3.type=3)∧(f0.offset=0∧f1.offset=1∧f2.offset=2∧f3.offset=3):=by
 have h:=z9
 unfold Hi at h
 split at h
 ·rename_i f0 f1 f2 f3 e
  simp only [Bool.and_eq_true,beq_iff_eq] at h
  exact ⟨f0,f1,f2,f3,e,⟨h.1.1.1.1.1.1.1,h.1.1.1.1.1.1.2,h.1.1.1.1.1.2,h.1.1.1.1.2⟩,⟨h.1.1.1.2,h.1.1.2,h.1.2,h.2⟩⟩
 ·cases h
section
variable {Hh:Type} {enc:TypeId×Value→Hh} {W:World}
set_option maxRecDepth 100000 in
theorem EL {n:Nat} {cs:List Value} {y:DataW Hh×List MemPlace} (h:DataW.trod enc Tryz.prog W 0 (fun _=>true) true n 54 cs=some y) : ∃x:av,cs=(vB x):=by
 obtain ⟨f0,f1,f2,f3,hu,⟨t0,t1,t2,t3⟩,⟨o0,o1,o2,o3⟩⟩:=Qa
 obtain ⟨xs,k,_,_,hl,Q2,hf⟩:=DataW.trod_struct hu h
 rw [Nv] at hl
 match cs,hl with
 | [c0,c1,c2,c3],_ =>
  have g0:=hf 0 f0 rfl
  have g1:=hf 1 f1 rfl
  have g2:=hf 2 f2 rfl
  have g3:=hf 3 f3 rfl
  rw [t0,o0,Mi] at g0
  rw [t1,o1,Mi] at g1
  rw [t2,o2,Mi] at g2
  rw [t3,o3,Mi] at g3
  match xs,Q2 with
  | [y0,y1,y2,y3],_ =>
   obtain ⟨a,e0,_⟩:=DataW.trod_int DH g0
   obtain ⟨b,e1,_⟩:=DataW.trod_int DH g1
   obtain ⟨c,e2,_⟩:=DataW.trod_int DH g2
   obtain ⟨d,e3,_⟩:=DataW.trod_int DH g3
   simp only [List.drop,List.take,List.cons.injEq,and_true] at e0 e1 e2 e3
   subst e0;subst e1;subst e2;subst e3
   exact ⟨⟨a,b,c,d⟩,rfl⟩
set_option maxRecDepth 100000 in
theorem CG {v:Value} {n:Nat} {y:DataW Hh×List MemPlace} (oJ:Cell.okWide Tryz.prog W .any 0 22 v) (h:DataW.trod enc Tryz.prog W 0 (fun _=>true) true n 22 [v]=some y) : ∃so more,tj W v so more:=by
 rcases Go.Deep.open_slice G7 h with ⟨e,_⟩ | ⟨a,len,cap,m,k,D,Pl,e,_,hl,_,hm,_,hx⟩
 ·cases e
  exact ⟨[],[],.inl ⟨rfl,rfl,rfl⟩⟩
 ·cases e
  rw [if_pos rfl] at hm
  subst hm
  rw [Nv] at hx
  have Vj:a.spot=none∧∃row cells,W.shape? a.block=some (row,cells):=by
   unfold Cell.okWide Cell.ok at oJ
   rw [G7] at oJ
   simp only at oJ
   obtain ⟨_,h1,row,cells,h2,_⟩:=oJ.2.2
   exact ⟨h1,row,cells,h2⟩
  obtain ⟨lA,row,cells,BS⟩:=Vj
  obtain ⟨b,off,spot⟩:=a
  simp only at lA BS hx
  subst lA
  unfold World.shape? at BS
  cases hw:W.heap[b]? with
  | none=>rw [hw] at BS;cases BS
  | some o =>
   rw [hw] at BS
   cases o with
   | cells X e fz =>
    have each : ∀i,i<m→∃x:av,∀k,k<4→X[off+(i*4+k)]? = (vB x)[k]?:=fun i hi=>by
     obtain ⟨vS,h1,h2⟩:=hx i hi
     obtain ⟨x,rfl⟩:=EL h2
     refine ⟨x,fun k hk=>?_⟩
     obtain ⟨_,_,hc⟩:=World.cells?_some h1
     have:=hc k hk
     rw [Go.Deep.add_add] at this
     unfold World.cell? Addr.add at this
     by_cases e0:i*4+k=0
     ·rw [if_pos e0] at this
      simp only [hw] at this
      simpa [e0] using this
     ·rw [if_neg e0] at this
      simp only [hw] at this
      simpa using this
    haveI:Inhabited av:=⟨⟨0,0,0,0⟩⟩
    obtain ⟨g,hg⟩:=Go.Deep.choose_lt each
    obtain ⟨all,jO⟩ : ∃all,all=(List.range m).map g:=⟨_,rfl⟩
    have Bj:all.length=m:=by rw [jO];simp
    have yZ:all.take len ++ all.drop len=all:=List.take_append_drop len all
    have PN : ∀j,j<m*4→X[off+j]? = (gY all)[j]?:=fun j hj=>by
     have h1:j / 4<m:=by omega
     have h2:=hg (j / 4) h1 (j % 4) (by omega)
     have h3:=vX (l:=all) (i:=j / 4) (k:=j % 4) (by omega) (by omega)
     rw [show j / 4*4+j % 4=j by omega] at h2 h3
     rw [h2,h3]
     simp only [jO,List.getElem_map,List.getElem_range]
    have hvl:=nC all
    have jN:off+m*4≤X.size∨m=0:=by
     rcases Nat.eq_zero_or_pos m with e0 | e0
     ·exact .inr e0
     ·have h1:=PN (m*4 - 1) (by omega)
      rw [List.getElem?_eq_getElem (by omega)] at h1
      obtain ⟨h2,_⟩:=Array.getElem?_eq_some_iff.1 h1
      exact .inl (by omega)
    refine ⟨all.take len,all.drop len,?_⟩
    rcases jN with jN | h0
    ·refine .inr ⟨⟨b,off,none⟩,b,off,X,e,fz,by rw [yZ,Bj,List.length_take,Bj,Nat.min_eq_left hl],rfl,.inl rfl,hw,by rw [yZ,Bj];exact jN,?_⟩
     rw [yZ,Bj]
     apply List.ext_getElem?
     intro j
     by_cases hj:j<m*4
     ·rw [List.getElem?_take_of_lt hj,List.getElem?_drop,Array.getElem?_toList,PN j hj]
     ·rw [List.getElem?_eq_none (by rw [List.length_take];omega),List.getElem?_eq_none (by omega)]
    ·have e0:all=[]:=List.length_eq_zero_iff.1 (by omega)
     refine .inr ⟨⟨b,off,none⟩,b,0,X,e,fz,by rw [yZ,Bj,List.length_take,Bj,Nat.min_eq_left hl],rfl,.inr (by rw [yZ,Bj];exact h0),hw,by rw [yZ,Bj];omega,?_⟩
     rw [yZ,e0]
     simp [gY]
   | _=>cases BS
theorem P8 : ∃f0 f1:Field,Tryz.prog.underlying 24=some (.struct #[f0,f1])∧(f0.type=9∧f1.type=22)∧(f0.offset=0∧f1.offset=1):=by
 have h:(match Tryz.prog.underlying 24 with
  | some (.struct ⟨[f0,f1]⟩)=>f0.type == 9 && f1.type == 22 && f0.offset == 0 && f1.offset == 1
  | _=>false)=true:=by kernel_rfl
 split at h
 ·rename_i f0 f1 e
  simp only [Bool.and_eq_true,beq_iff_eq] at h
  exact ⟨f0,f1,e,⟨h.1.1.1,h.1.1.2⟩,⟨h.1.2,h.2⟩⟩
 ·cases h
theorem Sw:Tryz.prog.cellsOf 24=2:=by kernel_rfl
theorem V5:Tryz.prog.cellsOf 9=1:=by kernel_rfl
theorem Pd:Tryz.prog.cellsOf 22=1:=by kernel_rfl
theorem P9:Tryz.prog.underlying 9=some .string:=by kernel_rfl
theorem Pa:Tryz.prog.cellTypes Tryz.prog.depth 24=some [9,22]:=by kernel_rfl
set_option maxRecDepth 100000 in
theorem Fx {v:Value} {d:DataW Hh} {p:List MemPlace} (oJ:Value.okWide Tryz.prog W .any 0 24 v) (h:DataW.Trod enc Tryz.prog W 0 (fun _=>true) true 24 v d p) :
  ∃(s:ByteArray) (sv:Value) (so more:List av),v=.agg #[.string s,sv]∧tj W sv so more:=by
 obtain ⟨f0,f1,hu,⟨t0,t1⟩,⟨o0,o1⟩⟩:=P8
 obtain ⟨n,h⟩:=h
 unfold Value.okWide at oJ
 rw [hu] at oJ
 simp only at oJ
 obtain ⟨cs,rfl,jN,ts,Xr,_,gN⟩:=oJ
 rw [Pa] at Xr
 cases Xr
 rw [Sw] at jN
 obtain ⟨l,rfl⟩ : ∃l:List Value,cs=l.toArray:=⟨cs.toList,by simp⟩
 match l,jN with
 | [c0,c1],_ =>
  obtain ⟨y0,y1,k,_,_,h0,h1⟩:=trod_struct2 hu h
  rw [t0,o0,V5] at h0
  rw [t1,o1,Pd] at h1
  simp only [Value.cells,List.drop,List.take] at h0 h1
  obtain ⟨s,e0,_⟩:=DataW.trod_string P9 h0
  cases e0
  obtain ⟨u,IV,Ra⟩:=gN 1 c1 rfl
  cases IV
  obtain ⟨so,more,hS⟩:=CG Ra h1
  exact ⟨s,c1,so,more,rfl,hS⟩
end
theorem BE {P:Program} {W:World} {base:Nat} {t:TypeId} {v:Value} (h:Value.okWide P W .any base t v):Value.okWide P W .any 0 t v:=by
 have e : ∀u x,Cell.okWide P W .any base u x=Cell.okWide P W .any 0 u x:=fun u x=>by
  unfold Cell.okWide Cell.ok World.has Reach.lets;rfl
 unfold Value.okWide Row.okWide at h ⊢
 simp only [e] at h
 exact h
def JP (H:AH):Prop:=∀b o,H.get b=some o→o.owns=false
set_option maxRecDepth 100000 in
theorem FJ {E:Env} {B:eZ} {H:AH} {W:World} (hH:HR Tryz.prog E B H W) (hn:JP H) {sv:Value} {so more:List av} (hS:tj W sv so more) :
  ∃(q:Option Nat) (E' : Env) (H' : AH),HR Tryz.prog E' B H' W∧fE H' q (so ++ more).length so∧VR E' (.slice (q.map fun b=>(b,0)) so.length (so ++ more).length) sv∧E.le E'∧H.n≤H'.n∧(∀c,c<H.n→H'.get c=H.get c)∧JP H':=by
 rcases hS with ⟨rfl,rfl,rfl⟩ | ⟨a,b,off,X,e,fz,rfl,h1,h2,h3,h4,h5⟩
 ·exact ⟨none,E,H,hH,⟨⟨rfl,rfl⟩,fun b hb=>by cases hb⟩,⟨rfl,Nat.le_refl _⟩,.refl E,Nat.le_refl _,fun _ _=>rfl,hn⟩
 ·obtain ⟨L,hL⟩ : ∃L:Go.Am.Loc,L=⟨b,off,(flat av.cells (so ++ more)).length,Tryz.prog.cellsOf e,0⟩:=⟨_,rfl⟩
  have GP:(flat av.cells (so ++ more)).length=(so ++ more).length*4:=bS av.ay _
  have hO:OR Tryz.prog (E.put H.n L) B W L (.cells (flat av.cells (so ++ more)) e { own:=false }):=by
   refine ⟨X,fz.1,fz.2,by rw [hL];exact h3,by rw [hL],by rw [hL],by rw [hL,GP];simp only;omega,?_,(fun h=>by cases h),(fun _=>by rw [hL]),fun v hv=>?_,(fun h=>by cases h)⟩
   ·rw [GP,hL]
    show aJ _ _ ((X.toList.drop off).take ((so ++ more).length*4))
    rw [h5];exact zQ _ _
   ·exact List.all_eq_true.1 (m8 (fun x=>x.dz) (so ++ more)) v hv
  have hR:=Uq hH (L:=L) (fl:={ own:=false }) rfl hO (fun c o L' hc ho _=>absurd ho (by rw [hn c o hc];decide))
  refine ⟨some H.n,_,_,hR,⟨⟨e,_,more,by rw [AH.aa,if_pos rfl],rfl⟩,fun c hc=>by cases hc;simp⟩,?_,hH.eI L,by simp,fun c hc=>by rw [AH.aa,if_neg (by omega)],fun c o hc=>?_⟩
  ·refine ⟨L,a,(so ++ more).length,by unfold Env.put;rw [if_pos rfl],rfl,by rw [List.length_append];omega,.inl rfl,h1,?_⟩
   rcases h2 with h2 | h2
   ·exact .inl (by rw [h2,hL];rfl)
   ·exact .inr h2
  ·rw [AH.aa] at hc
   by_cases e0:c=H.n
   ·rw [if_pos e0] at hc;cases hc;rfl
   ·rw [if_neg e0] at hc;exact hn c o hc
theorem xP (e1 e2:TypeId):JP (fH lu (bO e1 e2)):=by
 intro b o hb
 simp only [bO,fH,AH.af] at hb
 by_cases h1:b=1
 ·rw [if_pos h1] at hb;cases hb;rfl
 ·rw [if_neg h1] at hb
  by_cases h2:b=2
  ·rw [if_pos h2] at hb;cases hb;rfl
  ·rw [if_neg h2] at hb
   cases hb
end Go.Proofs.YtlkdhhkncoekgaaGreatDoor

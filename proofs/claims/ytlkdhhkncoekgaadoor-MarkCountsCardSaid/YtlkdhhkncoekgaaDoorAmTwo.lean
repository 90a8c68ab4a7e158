/- The abstract machine: statements, calls, yields, ranges over functions, runs of closed code; that they are sound. -/
import Derived.Test.YtlkdhhkncoekgaaDoorAmOne
import Derived.OrdersIn
import Derived.TacticsIn
import Derived.Scope
import Derived.RangeFuncLeaves
import Derived.RangeFuncRecord
import Derived.RecoverIn
import Derived.ProofKit
import Derived.WalkKit
import Derived.OpenShut
import Derived.Lib.LaidTab
import Derived.Lib.Bytealg
import Derived.Lib.MakeNoZero
import Derived.Lib.IndexEntry
import Derived.Conc.AtomicLaws2
import Derived.Deep.DeepHandedRow
import Derived.Stop.LaidErr
/- The abstract machine: activations, statements, operations in a region, calls. -/
section
namespace Go
section
variable {F:Fence} {n:Nat} {P:Program} {Q:Exit→Act→World→Prop} {a:Act} {w:World}
theorem wR {c:Code} (I:Nat→Act→World→Prop) {j:Nat} (h₀:I j a w)
  (round : ∀j a w,I j a w→c.wpIn F n P (Exit.then (fun a' w'=>∃i,i<j∧I i a' w') Q) a w):(Code.loop c).wpIn F n P Q a w:=by
 intro b k cs Sr hb hr
 have key : ∀j a w,I j a w →
   ∃e a' w',Q e a' w'∧ArrivesIn (Machine.fenced P F) P (lone (b.atR a (.code c :: .inLoop c :: k)) cs w) b k cs e a' w':=by
  intro j
  induction j using Nat.strongRecOn with
  | _ j ih =>
   intro a w hI
   obtain ⟨e,a₁,w₁,hq,fS⟩:=round j a w hI b (.inLoop c :: k) cs Sr hb hr
   cases e with
   | normal =>
    obtain ⟨i,cv,Rk⟩:=hq
    obtain ⟨e₂,a₂,w₂,ni,oX⟩:=ih i cv a₁ w₁ Rk
    exact ⟨e₂,a₂,w₂,ni,.of_steps (StepsIn.trans fS (.one (fenced_calm hb hr rfl) stepR_inLoop)) oX⟩
   | exit id=>exact ⟨_,a₁,w₁,hq,.pass (x:=.inLoop c) rfl (fun _ _=>.inl (by simp)) fS⟩
   | goto l=>exact ⟨_,a₁,w₁,hq,.pass (x:=.inLoop c) rfl (fun _ _=>.inl (by simp)) fS⟩
   | ret=>exact ⟨_,a₁,w₁,hq,.pass (x:=.inLoop c) rfl (fun _ _=>.inl (by simp)) fS⟩
   | panic ch=>exact ⟨_,a₁,w₁,hq,.pass (x:=.inLoop c) rfl (fun _ _=>.inl (by simp)) fS⟩
   | outgrown=>exact ⟨_,a₁,w₁,hq,.pass (x:=.inLoop c) rfl (fun _ _=>.inl (by simp)) fS⟩
 obtain ⟨e,a',w',hq,fS⟩:=key _ a w h₀
 exact ⟨e,a',w',hq,.of_steps (.one (fenced_calm hb hr rfl) stepR_loop) fS⟩
theorem y7 {b:Frame} {c:Code} {k:List Item} {cs:List Frame}:step P (lone (b.atR a (.code (.scope c) :: k)) cs w)=.next (lone (b.atR a (.code c :: .inScope c :: k)) cs w) :=
 step_lone_go (by simp [stepG,stepG.exec,Frame.atR])
theorem mY {b:Frame} {c:Code} {k:List Item} {cs:List Frame}:step P (lone (b.atR a (.inScope c :: k)) cs w)=.next (lone (b.atR a k) cs w) :=
 step_lone_go (by simp [stepG,stepG.exec,Frame.atR])
def Exit.jumps (c:Code) (J:Nat→Act→World→Prop) (Q:Exit→Act→World→Prop):Exit→Act→World→Prop
 | .goto l,a,w=>if (findLabel c l).isSome then J l a w else Q (.goto l) a w
 | e,a,w=>Q e a w
theorem uT {c:Code} (J:Nat→Nat→Act→World→Prop) (first:c.wpIn F n P (Exit.jumps c (fun l a w=>∃j,J j l a w) Q) a w)
  (pass : ∀j l a w rest,findLabel c l=some rest→J j l a w→rest.wpIn F n P (Exit.jumps c (fun l' a' w'=>∃i,i<j∧J i l' a' w') Q) a w):(Code.scope c).wpIn F n P Q a w:=by
 intro b k cs Sr hb hr
 have hx : ∀id,exitTo id (.inScope c :: k)=exitTo id k:=fun id=>by simp [exitTo]
 have WU : ∀l,(findLabel c l).isSome=false→gotoIn l (.inScope c :: k)=gotoIn l k:=fun l h=>by
  cases hf:findLabel c l with
  | none=>simp [gotoIn,hf]
  | some r=>rw [hf] at h;cases h
 have WT : ∀l rest,findLabel c l=some rest→gotoIn l (.inScope c :: k)=some (.code rest :: .inScope c :: k):=fun l rest h=>by simp [gotoIn,h]
 have key : ∀j l a w rest,findLabel c l=some rest→J j l a w→∃e a' w',Q e a' w'∧ArrivesIn (Machine.fenced P F) P (lone (b.atR a (.code rest :: .inScope c :: k)) cs w) b k cs e a' w':=by
  intro j
  induction j using Nat.strongRecOn with
  | _ j ih =>
   intro l a w rest hf hJ
   obtain ⟨e,a₁,w₁,hq,fS⟩:=pass j l a w rest hf hJ b (.inScope c :: k) cs Sr hb hr
   cases e with
   | normal=>exact ⟨.normal,a₁,w₁,hq,StepsIn.trans fS (.one (fenced_calm hb hr rfl) mY)⟩
   | exit id=>exact ⟨.exit id,a₁,w₁,hq,fun k' hk=>fS.1 k' (by rw [hx];exact hk),fun DE hk=>fS.2 DE (by rw [hx];exact hk)⟩
   | goto l' =>
    simp only [Exit.jumps] at hq
    split at hq
    ·rename_i hs
     obtain ⟨zG,Fs⟩:=Option.isSome_iff_exists.1 hs
     obtain ⟨i,cv,MF⟩:=hq
     obtain ⟨e₂,a₂,w₂,ni,oX⟩:=ih i cv l' a₁ w₁ zG Fs MF
     exact ⟨e₂,a₂,w₂,ni,.of_steps (fS.1 _ (WT _ _ Fs)) oX⟩
    ·rename_i hs
     have:=WU l' (by simpa using hs)
     exact ⟨.goto l',a₁,w₁,hq,fun k' hk=>fS.1 k' (by rw [this];exact hk),fun DE hk=>fS.2 DE (by rw [this];exact hk)⟩
   | ret=>exact ⟨_,a₁,w₁,hq,fS⟩
   | panic ch=>exact ⟨_,a₁,w₁,hq,fS⟩
   | outgrown=>exact ⟨_,a₁,w₁,hq,fS⟩
 have h0:StepsIn (Machine.fenced P F) P (lone (b.atR a (.code (.scope c) :: k)) cs w) (lone (b.atR a (.code c :: .inScope c :: k)) cs w):=.one (fenced_calm hb hr rfl) y7
 obtain ⟨e,a₁,w₁,hq,fS⟩:=first b (.inScope c :: k) cs Sr hb hr
 cases e with
 | normal=>exact ⟨.normal,a₁,w₁,hq,h0.trans (StepsIn.trans fS (.one (fenced_calm hb hr rfl) mY))⟩
 | exit id=>exact ⟨.exit id,a₁,w₁,hq,.of_steps h0 ⟨fun k' hk=>fS.1 k' (by rw [hx];exact hk),fun DE hk=>fS.2 DE (by rw [hx];exact hk)⟩⟩
 | goto l' =>
  simp only [Exit.jumps] at hq
  split at hq
  ·rename_i hs
   obtain ⟨zG,Fs⟩:=Option.isSome_iff_exists.1 hs
   obtain ⟨j,MF⟩:=hq
   obtain ⟨e₂,a₂,w₂,ni,oX⟩:=key j l' a₁ w₁ zG Fs MF
   exact ⟨e₂,a₂,w₂,ni,.of_steps (h0.trans (fS.1 _ (WT _ _ Fs))) oX⟩
  ·rename_i hs
   have:=WU l' (by simpa using hs)
   exact ⟨.goto l',a₁,w₁,hq,.of_steps h0 ⟨fun k' hk=>fS.1 k' (by rw [this];exact hk),fun DE hk=>fS.2 DE (by rw [this];exact hk)⟩⟩
 | ret=>exact ⟨_,a₁,w₁,hq,.of_steps h0 fS⟩
 | panic ch=>exact ⟨_,a₁,w₁,hq,.of_steps h0 fS⟩
 | outgrown=>exact ⟨_,a₁,w₁,hq,.of_steps h0 fS⟩
end
namespace Am
open Go.RowKit
inductive Mk where
 | mark (m:Nat)
 | call (g:FuncId) (a y:List AV)
structure St where
 T:List AV
 M:List Mk
 H:AH
inductive dm where
 | normal
 | exit (id:Nat)
 | goto (l:Nat)
 | ret
 deriving DecidableEq
def dm.toExit:dm→Exit
 | .normal=>.normal
 | .exit id=>.exit id
 | .goto l=>.goto l
 | .ret=>.ret
def Fr (rc:Option Nat):Fence:={ Fence.wide with round:=rc }
theorem dR {rc:Option Nat} {n:Nat} {P:Program} {f:FuncId} {args:Array Value} {w:World} {R:Ending→World→Prop}:CallsIn (Fr rc) n P f args w R↔Calls P f args w R :=
 show CallsIn Fence.wide n P f args w R↔_ from callsIn_wide
def MR (D:List Deferred) (E:Env):List Mk→List Deferred→Prop
 | [],ds=>ds=D
 | .mark m :: ms,ds=>∃L Gv,E m=some L∧ds = { target:=.collected L.bB,args:=#[] } :: Gv∧MR D E ms Gv
 | .call g a y :: ms,ds=>∃a' y' Gv,aI E a a'.toList∧aI E y y'.toList∧ds = { target:=.fn (.func g) y',args:=a' } :: Gv∧MR D E ms Gv
theorem MR.mono {D:List Deferred} {E E' : Env} (h:E.le E') : ∀ {ms:List Mk} {ds:List Deferred},MR D E ms ds→MR D E' ms ds
 | [],_,k=>k
 | .mark _ :: _,_,k=>by obtain ⟨L,Gv,h1,h2,h3⟩:=k;exact ⟨L,Gv,h _ _ h1,h2,MR.mono h h3⟩
 | .call _ _ _ :: _,_,k=>by obtain ⟨a',y',Gv,h1,h2,h3,h4⟩:=k;exact ⟨a',y',Gv,aI.mono h _ _ h1,aI.mono h _ _ h2,h3,MR.mono h h4⟩
def RR (E:Env):Option Nat→Option Nat→Prop
 | none,rc=>rc=none
 | some l,rc=>∃L,E l=some L∧rc=some L.bB
theorem RR.mono {E E' : Env} (h:E.le E') {r rc:Option Nat} (k:RR E r rc):RR E' r rc:=by
 cases r with
 | none=>exact k
 | some l=>obtain ⟨L,h1,h2⟩:=k;exact ⟨L,h _ _ h1,h2⟩
structure SR (P:Program) (E:Env) (B:eS) (s:St) (a:Act) (w:World):Prop where
 heap:HR P E B s.H w
 tmps:aI E s.T a.tmps.toList
 marks:MR B.D E s.M a.defers
def uG (P:Program) (E:Env) (B:eS) (w:World) (Q:dm→St→Prop):Exit→Act→World→Prop:=fun e a' w' =>
 ∃ae s' E',e=dm.toExit ae∧Q ae s'∧E.le E'∧SR P E' B s' a' w'∧Below B w w'
def bC (P:Program) (r:Option Nat) (c:Code) (Q:dm→St→Prop) (s:St):Prop :=
 ∀E B w a rc,SR P E B s a w→RR E r rc→c.wpIn (Fr rc) 0 P (uG P E B w Q) a w
def bH (P:Program) (f:FuncId) (args:List AV) (H:AH) (Q:AV→AH→Prop):Prop :=
 ∀E B w bJ,HR P E B H w→aI E args bJ.toList →
  Calls P f bJ w (fun e w'=>∃v H' E' x,e=.returned x∧Q v H'∧E.le E'∧HR P E' B H' w'∧VR E' v x∧Below B w w')
section rules
variable {P:Program} {r:Option Nat} {Q:dm→St→Prop} {s:St}
theorem uG.trans {E E' : Env} {B:eS} {w w' : World} {Q:dm→St→Prop} {e:Exit} {a:Act} {Bn:World} (hE:E.le E') (hb:Below B w w') (h:uG P E' B w' Q e a Bn):uG P E B w Q e a Bn:=by
 obtain ⟨ae,s',Bk,h1,h2,h3,h4,h5⟩:=h
 exact ⟨ae,s',Bk,h1,h2,hE.trans h3,h4,hb.trans h5⟩
theorem bC.mono {c:Code} {Q' : dm→St→Prop} (h:bC P r c Q s) (hq : ∀e s,Q e s→Q' e s):bC P r c Q' s :=
 fun E B w a rc hs hr=>Go.wpIn_mono (h E B w a rc hs hr) fun _ _ _ ⟨ae,s',E',h1,h2,h3⟩=>⟨ae,s',E',h1,hq _ _ h2,h3⟩
theorem bH.mono {f:FuncId} {args:List AV} {H:AH} {Q Q' : AV→AH→Prop} (h:bH P f args H Q) (hq : ∀v H,Q v H→Q' v H):bH P f args H Q' :=
 fun E B w bJ hH ha=>Calls.mono (h E B w bJ hH ha) fun _ _ ⟨v,H',E',x,h1,h2,h3⟩=>⟨v,H',E',x,h1,hq _ _ h2,h3⟩
def C8 (K:St→Prop) (Q:dm→St→Prop):dm→St→Prop
 | .normal,s=>K s
 | e,s=>Q e s
def lS (id:Nat) (Q:dm→St→Prop):dm→St→Prop
 | .exit i,s=>if i=id then Q .normal s else Q (.exit i) s
 | e,s=>Q e s
def c6 (c:Code) (J:Nat→St→Prop) (Q:dm→St→Prop):dm→St→Prop
 | .goto l,s=>if (findLabel c l).isSome then J l s else Q (.goto l) s
 | e,s=>Q e s
theorem bC.skip (h:Q .normal s):bC P r .skip Q s:=fun E B w _ _ hs _=>wpIn_skip ⟨.normal,s,E,rfl,h,Env.le.refl E,hs,Below.refl B w⟩
theorem bC.label {l:Nat} (h:Q .normal s):bC P r (.label l) Q s:=fun E B w _ _ hs _=>wpIn_label ⟨.normal,s,E,rfl,h,Env.le.refl E,hs,Below.refl B w⟩
theorem bC.exit {id:Nat} (h:Q (.exit id) s):bC P r (.exit id) Q s:=fun E B w _ _ hs _=>wpIn_exit ⟨.exit id,s,E,rfl,h,Env.le.refl E,hs,Below.refl B w⟩
theorem bC.goto {l:Nat} (h:Q (.goto l) s):bC P r (.goto l) Q s:=fun E B w _ _ hs _=>wpIn_goto ⟨.goto l,s,E,rfl,h,Env.le.refl E,hs,Below.refl B w⟩
theorem bC.ret (h:Q .ret s):bC P r .ret Q s:=fun E B w _ _ hs _=>wpIn_ret ⟨.ret,s,E,rfl,h,Env.le.refl E,hs,Below.refl B w⟩
theorem bC.seq {x y:Code} (h:bC P r x (C8 (bC P r y Q) Q) s):bC P r (.seq x y) Q s:=by
 intro E B w a rc hs hr
 refine wpIn_seq (Go.wpIn_mono (h E B w a rc hs hr) ?_)
 rintro e a' w' ⟨ae,s',E',rfl,hq,hE,p7,hb⟩
 cases ae with
 | normal=>exact Go.wpIn_mono (hq E' B w' a' rc p7 (hr.mono hE)) fun e a w h=>h.trans hE hb
 | exit id=>exact ⟨.exit id,s',E',rfl,hq,hE,p7,hb⟩
 | goto l=>exact ⟨.goto l,s',E',rfl,hq,hE,p7,hb⟩
 | ret=>exact ⟨.ret,s',E',rfl,hq,hE,p7,hb⟩
theorem bC.cond {c:Operand} {x y:Code} {b:Bool} (hc:ev P s.T c=some (.bool b)) (h:bC P r (if b then x else y) Q s):bC P r (.cond c x y) Q s:=by
 intro E B w a rc hs hr
 have:a.eval c=.bool b:=iD hs.heap hs.tmps hc
 exact wpIn_cond this (by cases b <;> exact h E B w a rc hs hr)
theorem bC.block {id:Nat} {c:Code} (h:bC P r c (lS id Q) s):bC P r (.block id c) Q s:=by
 intro E B w a rc hs hr
 refine wpIn_block (Go.wpIn_mono (h E B w a rc hs hr) ?_)
 rintro e a' w' ⟨ae,s',E',rfl,hq,hE,p7,hb⟩
 cases ae with
 | normal=>exact ⟨.normal,s',E',rfl,hq,hE,p7,hb⟩
 | exit i =>
  simp only [lS] at hq
  simp only [dm.toExit,Exit.inBlock]
  by_cases e:i=id
  ·rw [if_pos e] at hq;simp only [e,if_true];exact ⟨.normal,s',E',rfl,hq,hE,p7,hb⟩
  ·rw [if_neg e] at hq;simp only [e,if_false];exact ⟨.exit i,s',E',rfl,hq,hE,p7,hb⟩
 | goto l=>exact ⟨.goto l,s',E',rfl,hq,hE,p7,hb⟩
 | ret=>exact ⟨.ret,s',E',rfl,hq,hE,p7,hb⟩
theorem bC.loop {c:Code} (I:Nat→St→Prop) {j:Nat} (h₀:I j s) (h : ∀j s,I j s→bC P r c (C8 (fun s'=>∃i,i<j∧I i s') Q) s):bC P r (.loop c) Q s:=by
 intro E B w a rc hs hr
 refine wR (j:=j) (fun j a' w'=>∃E' s',I j s'∧E.le E'∧SR P E' B s' a' w'∧Below B w w') ⟨E,s,h₀,Env.le.refl E,hs,Below.refl B w⟩ ?_
 rintro j a₁ w₁ ⟨E₁,s₁,hI,hE,tP,hb⟩
 refine Go.wpIn_mono (h j s₁ hI E₁ B w₁ a₁ rc tP (hr.mono hE)) ?_
 rintro e a' w' ⟨ae,s',E',rfl,hq,gY,p7,eu⟩
 cases ae with
 | normal=>obtain ⟨i,hi,U5⟩:=hq;exact ⟨i,hi,E',s',U5,hE.trans gY,p7,hb.trans eu⟩
 | exit id=>exact ⟨.exit id,s',E',rfl,hq,hE.trans gY,p7,hb.trans eu⟩
 | goto l=>exact ⟨.goto l,s',E',rfl,hq,hE.trans gY,p7,hb.trans eu⟩
 | ret=>exact ⟨.ret,s',E',rfl,hq,hE.trans gY,p7,hb.trans eu⟩
theorem bC.scope {c:Code} (J:Nat→Nat→St→Prop) (h₀:bC P r c (c6 c (fun l s=>∃j,J j l s) Q) s)
  (h : ∀j l s rest,findLabel c l=some rest→J j l s→bC P r rest (c6 c (fun l' s'=>∃i,i<j∧J i l' s') Q) s):bC P r (.scope c) Q s:=by
 intro E B w a rc hs hr
 have key : ∀ {E₁:Env} {w₁:World} {e:Exit} {a' : Act} {w' : World} {K:Nat→St→Prop} {K' : Nat→Act→World→Prop},E.le E₁→Below B w w₁ →
   (∀l E' s',K l s'→E.le E'→SR P E' B s' a' w'→Below B w w'→K' l a' w')→uG P E₁ B w₁ (c6 c K Q) e a' w'→Exit.jumps c K' (uG P E B w Q) e a' w':=by
  rintro E₁ w₁ e a' w' K K' hE hb hK ⟨ae,s',E',rfl,hq,gY,p7,eu⟩
  cases ae with
  | normal=>exact ⟨.normal,s',E',rfl,hq,hE.trans gY,p7,hb.trans eu⟩
  | exit id=>exact ⟨.exit id,s',E',rfl,hq,hE.trans gY,p7,hb.trans eu⟩
  | goto l =>
   simp only [c6] at hq
   simp only [dm.toExit,Exit.jumps]
   split at hq
   ·rename_i hl;rw [if_pos hl];exact hK l E' s' hq (hE.trans gY) p7 (hb.trans eu)
   ·rename_i hl;rw [if_neg hl];exact ⟨.goto l,s',E',rfl,hq,hE.trans gY,p7,hb.trans eu⟩
  | ret=>exact ⟨.ret,s',E',rfl,hq,hE.trans gY,p7,hb.trans eu⟩
 refine uT (fun j l a' w'=>∃E' s',J j l s'∧E.le E'∧SR P E' B s' a' w'∧Below B w w') (Go.wpIn_mono (h₀ E B w a rc hs hr) fun _ _ _ hp=>key (Env.le.refl E) (Below.refl B w) ?_ hp) ?_
 ·rintro l E' s' ⟨j,hJ⟩ gY p7 eu;exact ⟨j,E',s',hJ,gY,p7,eu⟩
 ·rintro j l a₁ w₁ rest hf ⟨E₁,s₁,hJ,hE,tP,hb⟩
  refine Go.wpIn_mono (h j l s₁ rest hf hJ E₁ B w₁ a₁ rc tP (hr.mono hE)) fun _ _ _ hp=>key hE hb ?_ hp
  rintro l E' s' ⟨i,hi,MF⟩ gY p7 eu;exact ⟨i,hi,E',s',MF,gY,p7,eu⟩
end rules
end Am
end Go
end
/- The abstract machine: operations in a region, calls of functions, rounds. -/
section
namespace Go.Am
open Go.RowKit
def aP (T:List AV) (dst:Option Tmp) (v:AV):List AV :=
 match dst with
 | some d=>T.set d v
 | none=>T
theorem aI.put {E:Env} {T:List AV} {a:Act} (h:aI E T a.tmps.toList) (dst:Option Tmp) {v:AV} {x:Value} (hv:VR E v x):aI E (aP T dst v) (a.put dst x).tmps.toList:=by
 cases dst with
 | none=>exact h
 | some d=>simpa [aP,Act.put] using aI.set d h hv
@[simp] theorem put_defers (a:Act) (dst:Option Tmp) (x:Value):(a.put dst x).defers=a.defers:=by cases dst <;> rfl
def aO (ops:Array Oper) (T:List AV) (o:Oper):Option Bool :=
 match o.guard with
 | none=>some true
 | some (j,want) =>
  match ((ops[j]?).bind (·.dst)).bind (T[·]?) with
  | some (.bool b)=>some (b == want)
  | some .any=>none
  | _=>some false
theorem dD {E:Env} {T:List AV} {a:Act} {ops:Array Oper} {o:Oper} {b:Bool} (h:aI E T a.tmps.toList) (hw:aO ops T o=some b):Region.wanted o (yielded ops a.tmps)=b:=by
 unfold aO at hw
 unfold Region.wanted
 cases hg:o.guard with
 | none=>rw [hg] at hw;simpa using hw
 | some g =>
  obtain ⟨j,want⟩:=g
  rw [hg] at hw
  simp only at hw ⊢
  unfold yielded
  cases hd:(ops[j]?).bind (·.dst) with
  | none=>rw [hd] at hw;simp at hw;simp [hw]
  | some d =>
   rw [hd] at hw
   simp only [Option.bind_some] at hw ⊢
   cases hT:T[d]? with
   | none =>
    have:a.tmps[d]? = none:=by
     rw [← Array.getElem?_toList,List.getElem?_eq_none_iff,← h.length];exact List.getElem?_eq_none_iff.1 hT
    rw [hT] at hw;simp at hw
    simp [this,hw]
   | some v =>
    obtain ⟨y,hy,hv⟩:=h.get hT
    rw [Array.getElem?_toList] at hy
    rw [hT] at hw
    rw [hy]
    match v,hv with
    | .bool u,hv=>obtain rfl:y=_:=hv;simp at hw;subst hw;simp
    | .any,_=>simp at hw
    | .int _ _,hv=>obtain rfl:y=_:=hv;simp at hw;subst hw;rfl
    | .str _,hv=>obtain rfl:y=_:=hv;simp at hw;subst hw;rfl
    | .ptr none,hv=>obtain rfl:y=_:=hv;simp at hw;subst hw;rfl
    | .ptr (some (p,q)),hv=>obtain ⟨L,_,rfl⟩:=hv;simp at hw;subst hw;rfl
    | .slice none l c,hv=>obtain ⟨rfl,_⟩:=hv;simp at hw;subst hw;rfl
    | .slice (some (p,q)) l c,hv=>obtain ⟨L,a',c',_,rfl,_⟩:=hv;simp at hw;subst hw;rfl
    | .func f u v,hv=>obtain ⟨u',v',rfl,_⟩:=hv;simp at hw;subst hw;rfl
    | .nilFunc,hv=>obtain rfl:y=_:=hv;simp at hw;subst hw;rfl
    | .cV u,hv=>obtain ⟨L,_,rfl⟩:=hv;simp at hw;subst hw;rfl
    | .iface u v,hv=>obtain ⟨z,rfl,_⟩:=hv;simp at hw;subst hw;rfl
    | .nilIface,hv=>obtain rfl:y=_:=hv;simp at hw;subst hw;rfl
    | .map none,hv=>obtain rfl:y=_:=hv;simp at hw;subst hw;rfl
    | .map (some _),hv=>obtain ⟨L,_,rfl⟩:=hv;simp at hw;subst hw;rfl
    | .half _ _,hv=>obtain ⟨m,rfl,_⟩:=hv;simp at hw;subst hw;rfl
    | .qz,hv=>obtain ⟨m,rfl⟩:=hv;simp at hw;subst hw;rfl
    | .agg cs,hv=>obtain ⟨z,rfl,_⟩:=hv;simp at hw;subst hw;rfl
    | .tuple cs,hv=>obtain ⟨z,rfl,_⟩:=hv;simp at hw;subst hw;rfl
def jw (P:Program) (r:Option Nat) (o:Oper) (T:List AV) (H:AH) (K:AV→AH→Prop):Prop :=
 ∀E B w a rc (next:Act→World→Prop) (Q' : Exit→Act→World→Prop),HR P E B H w→nu P E T a o.op.operands→RR E r rc →
  (∀v H' E' w' x,K v H'→E.le E'→HR P E' B H' w'→VR E' v x→Below B w w'→next (a.put o.dst x) w')→o.wpIn (Fr rc) 0 P a w next Q'
section
variable {P:Program} {r:Option Nat} {o:Oper} {T:List AV} {H:AH} {K:AV→AH→Prop}
theorem jw.mono {K' : AV→AH→Prop} (h:jw P r o T H K) (hk : ∀v H,K v H→K' v H):jw P r o T H K' :=
 fun E B w a rc next Q' hH hT hr hn=>h E B w a rc next Q' hH hT hr fun v H' E' w' x hv=>hn v H' E' w' x (hk v H' hv)
theorem dG (rc:Option Nat) (ρ:Operand→Value) (o:Oper) (h : ∀c,o.op ≠ .defer c):Oper.semAt (Fr rc).round ρ o=execOp ρ o:=Oper.semAt_eq _ _ _ h
theorem jw.nK {v:AV} {H' : AH} (h:pK P T H o=some (v,H')) (k:K v H'):jw P r o T H K:=by
 intro E B w a rc next Q' hH hT hr hn
 obtain ⟨⟨E',w',x,hx,hE,hv,gX,hb⟩,hd⟩:=Dh hH hT h
 refine ⟨fun _ _=>trivial,?_⟩
 rw [dG rc _ _ hd]
 rcases hx with hx | ⟨hx,rfl⟩
 ·rw [hx,Oper.uponIn_value];exact hn v H' E' w' x k hE gX hv hb
 ·rw [hx,Oper.uponIn_skip];exact hn v H' E' w' _ k hE gX hv hb
def Goes (P:Program) (g:FuncId):Prop:=∀args w,(callFunc g args).run P w=.ok (.enter g args) w
theorem bz {ρ:Operand→Value} {f:Operand} {fn:Fn} {x y:Array Value} (h:ρ f=.func fn x y) (xs:Array Operand) (ts:Array TypeId) (ty:TypeId) (w:World) :
  (resolve ρ { callee:=.value f,args:=xs,argTypes:=ts } ty).run P w=.ok { target:=.fn fn y,args:=x ++ xs.map ρ } w:=by
 simp [resolve,h,Deferred.ofValue]
def az (P:Program) (g:FuncId) (args:List AV) (H:AH) (K:AV→AH→Prop):Prop :=
 (Goes P g∧bH P g args H K) ∨
 (∀E B w bJ,HR P E B H w→aI E args bJ.toList→∃v H' E' w' x,(callFunc g bJ).run P w=.ok (.value x) w'∧K v H'∧E.le E'∧HR P E' B H' w'∧VR E' v x∧Below B w w')
theorem jw.call {dst:Option Tmp} {f:Operand} {xs:Array Operand} {ts:Array TypeId} {ty:TypeId} {pos:String} {after:Array Edge} {guard:Option (Nat×Bool)} {g:FuncId} {x y vs:List AV}
  (iJ:Goes P g) (hf:ev P T f=some (.func (.func g) x y)) (hx:pL P T xs.toList=some vs) (h:bH P g (x ++ vs ++ y) H K) :
  jw P r ⟨dst,.call { callee:=.value f,args:=xs,argTypes:=ts },ty,pos,after,guard⟩ T H K:=by
 intro E B w a rc next Q' hH hT hr hn
 refine ⟨fun _ _=>trivial,?_⟩
 rw [dG rc _ _ (by simp)]
 have h1:=dP (a:=a) (fun y hy=>hT y (by simp [Op.operands,Call.operands];right;simpa using hy)) hx
 obtain ⟨x',y',h2,h3,h4⟩:=hT f (by simp [Op.operands,Call.operands]) _ hf
 have he:(execOp a.eval ⟨dst,.call { callee:=.value f,args:=xs,argTypes:=ts },ty,pos,after,guard⟩).run P w=.ok (.enter g (x' ++ xs.map a.eval ++ y')) w:=by
  simp only [execOp,Sem.run_bind,bz h2,Result.andThen_ok,invoke]
  exact iJ _ _
 rw [he,Oper.uponIn_enter]
 refine ⟨fun h=>by simp [Fr,Fence.wide] at h,dR.2 (Calls.mono (h E B w _ hH ?_) ?_)⟩
 ·simpa using (h3.append (by simpa using h1)).append h4
 ·rintro e w' ⟨v,H',E',x,rfl,hq,hE,gX,hv,hb⟩
  exact hn v H' E' w' x hq hE gX hv hb
theorem jw.callee {dst:Option Tmp} {f:Operand} {xs:Array Operand} {ts:Array TypeId} {ty:TypeId} {pos:String} {after:Array Edge} {guard:Option (Nat×Bool)} {g:FuncId} {x y vs:List AV}
  (hf:ev P T f=some (.func (.func g) x y)) (hx:pL P T xs.toList=some vs) (h:az P g (x ++ vs ++ y) H K) :
  jw P r ⟨dst,.call { callee:=.value f,args:=xs,argTypes:=ts },ty,pos,after,guard⟩ T H K:=by
 rcases h with ⟨iJ,h⟩ | h
 ·exact jw.call iJ hf hx h
 ·intro E B w a rc next Q' hH hT hr hn
  refine ⟨fun _ _=>trivial,?_⟩
  rw [dG rc _ _ (by simp)]
  have h1:=dP (a:=a) (fun y hy=>hT y (by simp [Op.operands,Call.operands];right;simpa using hy)) hx
  obtain ⟨x',y',h2,h3,h4⟩:=hT f (by simp [Op.operands,Call.operands]) _ hf
  obtain ⟨v,H',E',w',u,di,hk,hE,gX,hv,hb⟩:=h E B w (x' ++ xs.map a.eval ++ y') hH (by simpa using (h3.append (by simpa using h1)).append h4)
  have he:(execOp a.eval ⟨dst,.call { callee:=.value f,args:=xs,argTypes:=ts },ty,pos,after,guard⟩).run P w=.ok (.value u) w':=by
   simp only [execOp,Sem.run_bind,bz h2,Result.andThen_ok,invoke]
   exact di
  rw [he,Oper.uponIn_value]
  exact hn v H' E' w' u hk hE gX hv hb
theorem sS {t:TypeId} {name:String} {g:FuncId} (h:lI P t name=some g) (n:Nat) (v:Value) (w:World):(method (n+1) t v name).run P w=.ok (g,v) w:=by
 unfold lI at h
 obtain ⟨i,hi,h⟩:=Option.bind_eq_some_iff.1 h
 obtain ⟨m,hm,h⟩:=Option.bind_eq_some_iff.1 h
 split at h
 ·rename_i g' p hp hf
  split at h
  ·rename_i ht
   cases h
   simp only [method,Sem.run_bind,eK hi,Result.andThen_ok,hm,hp,follow,Sem.run_pure,hf]
   unfold No at ht
   split at ht
   ·rename_i e hu
    cases ht
    simp [receiverAt,run_underlying hu,Place.get]
   ·rename_i d hd hu
    cases ht
    cases d <;> first | (exact absurd rfl (hd _)) | simp [receiverAt,run_underlying hu,Place.get]
   ·cases ht
  ·cases h
 ·cases h
theorem jw.LD {dst:Option Tmp} {f:Operand} {name:String} {xs:Array Operand} {ts:Array TypeId} {ty:TypeId} {pos:String} {after:Array Edge} {guard:Option (Nat×Bool)} {t:TypeId} {u:AV} {g:FuncId} {vs:List AV}
  (hf:ev P T f=some (.iface t u)) (hm:lI P t name=some g) (hx:pL P T xs.toList=some vs) (h:az P g (u :: vs) H K) :
  jw P r ⟨dst,.call { callee:=.invoke f name,args:=xs,argTypes:=ts },ty,pos,after,guard⟩ T H K:=by
 intro E B w a rc next Q' hH hT hr hn
 refine ⟨fun _ _=>trivial,?_⟩
 rw [dG rc _ _ (by simp)]
 have h1:=dP (a:=a) (fun y hy=>hT y (by simp [Op.operands,Call.operands];right;simpa using hy)) hx
 obtain ⟨z,h2,h3⟩:=hT f (by simp [Op.operands,Call.operands]) _ hf
 have hv:aI E (u :: vs) (#[z] ++ xs.map a.eval).toList:=by
  simpa using aI.cons h3 (by simpa using h1)
 obtain ⟨n,Il⟩ : ∃n,P.types.size+Made.depth=n+1:=⟨P.types.size+Made.depth - 1,(Nat.sub_add_cancel (Nat.le_trans (show 1≤Made.depth by decide) (Nat.le_add_left _ _))).symm⟩
 have he : ∀ {R:Result Next},(callFunc g (#[z] ++ xs.map a.eval)).run P w=R→(execOp a.eval ⟨dst,.call { callee:=.invoke f name,args:=xs,argTypes:=ts },ty,pos,after,guard⟩).run P w=R:=by
  intro R hR
  have:(#[a.eval f] ++ xs.map a.eval)[0]? = some (.iface t z):=by simp [h2,Array.getElem?_append]
  have hex:(Array.map a.eval xs).extract 0 xs.size=Array.map a.eval xs:=by simp
  simp only [execOp,Sem.run_bind,resolve,Sem.run_pure,Result.andThen_ok,Go.invoke,this,callMethod,run_program,Il,sS hm]
  simpa [hex] using hR
 rcases h with ⟨iJ,h⟩ | h
 ·rw [he (iJ _ _),Oper.uponIn_enter]
  refine ⟨fun h=>by simp [Fr,Fence.wide] at h,dR.2 (Calls.mono (h E B w _ hH hv) ?_)⟩
  rintro e w' ⟨v,H',E',x,rfl,hq,hE,gX,hv,hb⟩
  exact hn v H' E' w' x hq hE gX hv hb
 ·obtain ⟨v,H',E',w',u,di,hk,hE,gX,hv,hb⟩:=h E B w _ hH hv
  rw [he di,Oper.uponIn_value]
  exact hn v H' E' w' u hk hE gX hv hb
theorem jw.I3 {dst:Option Tmp} {f:Operand} {name:String} {xs:Array Operand} {ts:Array TypeId} {ty:TypeId} {pos:String} {after:Array Edge} {guard:Option (Nat×Bool)} {t:TypeId} {u:AV} {y:List AV} {g:FuncId} {vs:List AV}
  (hf:ev P T f=some (.func (.method name) [.iface t u] y)) (hm:lI P t name=some g) (hx:pL P T xs.toList=some vs) (h:az P g (u :: vs) H K) :
  jw P r ⟨dst,.call { callee:=.value f,args:=xs,argTypes:=ts },ty,pos,after,guard⟩ T H K:=by
 intro E B w a rc next Q' hH hT hr hn
 refine ⟨fun _ _=>trivial,?_⟩
 rw [dG rc _ _ (by simp)]
 have h1:=dP (a:=a) (fun y hy=>hT y (by simp [Op.operands,Call.operands];right;simpa using hy)) hx
 obtain ⟨x',y',h2,⟨_,_,Cn,⟨z,rfl,h3⟩,rfl⟩,_⟩:=hT f (by simp [Op.operands,Call.operands]) _ hf
 obtain rfl:x' = #[.iface t z]:=Array.ext' Cn
 have hv:aI E (u :: vs) (#[z] ++ xs.map a.eval).toList:=by
  simpa using aI.cons h3 (by simpa using h1)
 obtain ⟨n,Il⟩ : ∃n,P.types.size+Made.depth=n+1:=⟨P.types.size+Made.depth - 1,(Nat.sub_add_cancel (Nat.le_trans (show 1≤Made.depth by decide) (Nat.le_add_left _ _))).symm⟩
 have he : ∀ {R:Result Next},(callFunc g (#[z] ++ xs.map a.eval)).run P w=R→(execOp a.eval ⟨dst,.call { callee:=.value f,args:=xs,argTypes:=ts },ty,pos,after,guard⟩).run P w=R:=by
  intro R hR
  have:(#[Value.iface t z] ++ xs.map a.eval)[0]? = some (.iface t z):=by simp [Array.getElem?_append]
  have hex:(Array.map a.eval xs).extract 0 xs.size=Array.map a.eval xs:=by simp
  simp only [execOp,Sem.run_bind,bz h2,Result.andThen_ok,Go.invoke,this,callMethod,run_program,Il,sS hm]
  simpa [hex] using hR
 rcases h with ⟨iJ,h⟩ | h
 ·rw [he (iJ _ _),Oper.uponIn_enter]
  refine ⟨fun h=>by simp [Fr,Fence.wide] at h,dR.2 (Calls.mono (h E B w _ hH hv) ?_)⟩
  rintro e w' ⟨v,H',E',x,rfl,hq,hE,gX,hv,hb⟩
  exact hn v H' E' w' x hq hE gX hv hb
 ·obtain ⟨v,H',E',w',u,di,hk,hE,gX,hv,hb⟩:=h E B w _ hH hv
  rw [he di,Oper.uponIn_value]
  exact hn v H' E' w' u hk hE gX hv hb
def ie:List Tmp→List AV→List AV→List AV
 | p :: ps,v :: vs,T=>ie ps vs (T.set p v)
 | _,_,T=>T
theorem vr {E:Env} : ∀(ps:List Tmp) {vs:List AV} {ys:List Value} {T:List AV} {X:Array Value},aI E vs ys→aI E T X.toList →
  aI E (ie ps vs T) (((ps.zip ys).foldl (fun t (p,v)=>t.setIfInBounds p v) X).toList)
 | [],vs,ys,T,X,_,hT=>by cases vs <;> exact hT
 | p :: ps,[],ys,T,X,hv,hT=>by cases hv;exact hT
 | p :: ps,v :: vs,ys,T,X,hv,hT=>by
  obtain ⟨y,vn,rfl,h1,h2⟩:=hv
  simp only [ie,List.zip_cons_cons,List.foldl_cons]
  exact vr ps h2 (by simpa using aI.set p hT h1)
def G7 (b:Nat) (K:AV→AH→Prop):dm→St→Prop:=fun e s =>
 ∃st pe T' ps as bd d,s.H.get b=some (.loop st pe T' ps as bd d) ∧
 match e with
 | .normal=>K (.bool true) (s.H.set b (.loop .ready none T' ps as bd d))
 | .ret=>K (.bool false) (s.H.set b (.loop .done (some .ret) T' ps as bd d))
 | .exit id=>K (.bool false) (s.H.set b (.loop .done (some (.exit id)) T' ps as bd d))
 | .goto l=>K (.bool false) (s.H.set b (.loop .done (some (.goto l)) T' ps as bd d))
theorem HR.loop {E:Env} {B:eS} {w:World} (hH:HR P E B H w) {b:Nat} {L:Loc} (hL:E b=some L) {st:LoopState} {pe:Option Code} {T' : List AV} {ps:Array Tmp} {as bd:Code} {d:Nat}
  (hb:H.get b=some (.loop st pe T' ps as bd d)) : ∃rec:Loop,w.heap[L.bB]? = some (.loop rec)∧rec.state=st∧rec.pending=pe∧rec.params=ps∧rec.assign=as∧rec.body=bd∧aI E T' rec.tmps.toList ∧
   ∀LZ Jo,HR P E B (H.set b (.loop LZ Jo T' ps as bd d)) (w.putObj L.bB (.loop { rec with state:=LZ,pending:=Jo }))∧Below B w (w.putObj L.bB (.loop { rec with state:=LZ,pending:=Jo })):=by
 obtain ⟨L',cr,ho⟩:=hH.obj _ _ hb
 rw [hL] at cr;cases cr
 obtain ⟨fn,tmps,Ld,h1,h2,h3,h4⟩:=ho
 refine ⟨_,h1,rfl,rfl,rfl,rfl,rfl,h2,fun LZ Jo=>⟨hH.uV hb hL rfl ⟨fn,tmps,Ld,World.putObj_heap_same (Array.getElem?_eq_some_iff.1 h1).1,h2,h3,h4⟩,Below.putObj (Below.refl B w) h4 _⟩⟩
theorem jw.yield {dst:Option Tmp} {f:Operand} {xs:Array Operand} {ts:Array TypeId} {ty:TypeId} {pos:String} {after:Array Edge} {guard:Option (Nat×Bool)} {b:Nat} {vs:List AV}
  {st:LoopState} {pe:Option Code} {T' : List AV} {ps:Array Tmp} {as bd:Code} {d:Nat}
  (hf:ev P T f=some (.cV b)) (hx:pL P T xs.toList=some vs) (hb:H.get b=some (.loop st pe T' ps as bd d)) (hl:vs.length=ps.size)
  (h:bC P (some b) as (C8 (fun s=>∃Jo T₁ iT je jd d₁,s.H.get b=some (.loop .ready Jo T₁ iT je jd d₁) ∧
   bC P (some b) bd (G7 b K) ⟨s.T,s.M,s.H.set b (.loop .busy Jo T₁ iT je jd d₁)⟩) (fun _ _=>False)) ⟨ie ps.toList vs T',[],H⟩) :
  jw P r ⟨dst,.call { callee:=.value f,args:=xs,argTypes:=ts },ty,pos,after,guard⟩ T H K:=by
 intro E B w a rc next Q' O5 hT hr hn
 have hH:=O5.z []
 refine ⟨fun _ _=>trivial,?_⟩
 rw [dG rc _ _ (by simp)]
 have h1:=dP (a:=a) (fun y hy=>hT y (by simp [Op.operands,Call.operands];right;simpa using hy)) hx
 obtain ⟨L,hL,h2⟩:=hT f (by simp [Op.operands,Call.operands]) _ hf
 obtain ⟨rec,Cr,rfl,rfl,rfl,rfl,rfl,SD,rM⟩:=hH.loop hL hb
 have jn:(xs.map a.eval).size=rec.params.size:=by rw [← hl,h1.length];simp
 have he:(execOp a.eval ⟨dst,.call { callee:=.value f,args:=xs,argTypes:=ts },ty,pos,after,guard⟩).run P w =
   .ok (.round L.bB rec.fn ((rec.params.zip (xs.map a.eval)).foldl (fun tmps (t,a)=>tmps.setIfInBounds t a) rec.tmps) rec.assign rec.body) w:=by
  simp only [execOp,Sem.run_bind,bz h2,Result.andThen_ok,invoke]
  have:=run_yield (P:=P) (w:=w) (args:=xs.map a.eval) Cr jn
  simpa using this
 rw [he,Oper.uponIn_round]
 refine ⟨fun h=>by simp [Fr,Fence.wide] at h,roundIn_of_wpIn trivial ?_⟩
 have ZD:aI E (ie rec.params.toList vs T') ((rec.params.zip (xs.map a.eval)).foldl (fun tmps (t,a)=>tmps.setIfInBounds t a) rec.tmps).toList:=by
  have:=vr rec.params.toList h1 SD
  rw [← Array.foldl_toList,Array.toList_zip]
  simpa using this
 have hw:=h E ⟨B.on,[]⟩ w ⟨(rec.params.zip (xs.map a.eval)).foldl (fun tmps (t,a)=>tmps.setIfInBounds t a) rec.tmps,[]⟩ (some L.bB) ⟨hH,ZD,rfl⟩ ⟨L,hL,rfl⟩
 refine Go.wpIn_mono (show Code.wpIn ((Fr rc).inRound L.bB) 0 P _ _ _ _ from hw) ?_
 rintro e a₁ w₁ ⟨ae,s₁,E₁,rfl,hq,DJ,tP,Q8⟩
 cases ae with
 | normal =>
  obtain ⟨Jo,T₁,iT,je,jd,d₁,eu,Iw⟩:=hq
  obtain ⟨rec₁,KK,e1,e2,e3,e4,e5,Xf,KG⟩:=tP.heap.loop (DJ _ _ hL) eu
  obtain ⟨Rm,Q7⟩:=KG .busy Jo
  refine ⟨_,run_beginRound KK e1,?_⟩
  have ee:({ rec₁ with state:=.busy }:Loop) = { rec₁ with state:=.busy,pending:=Jo }:=by rw [← e2]
  rw [ee]
  have Qg:=Iw E₁ ⟨B.on,[]⟩ _ a₁ (some L.bB) ⟨Rm,tP.tmps,tP.marks⟩ ⟨L,DJ _ _ hL,rfl⟩
  refine Go.wpIn_mono (show Code.wpIn ((Fr rc).inRound L.bB) 0 P _ _ _ _ from Qg) ?_
  rintro e a₂ w₂ ⟨ae,s₂,E₂,rfl,⟨VH,V1,T₂,PF,RK,RH,d₂,QT,ni⟩,MG,Qn,N7⟩
  obtain ⟨rec₂,KJ,e1',e2',e3',e4',e5',Xe,KF⟩:=Qn.heap.loop (MG _ _ (DJ _ _ hL)) QT
  have ZA:Below ⟨B.on,[]⟩ w w₂:=Q8.trans (Q7.trans N7)
  have fin : ∀(jump:Option Code) (v:AV),v=.bool jump.isNone→K v (s₂.H.set b (.loop (if jump.isNone then .ready else .done) jump T₂ PF RK RH d₂)) →
    ∃v w',(Instr.endRound L.bB jump).run P w₂=.ok v w'∧next (a.put dst v) w':=by
   intro jump v ev hk
   obtain ⟨Rl,Q6⟩:=KF (if jump.isNone then .ready else .done) jump
   exact ⟨_,_,run_endRound jump KJ,hn _ _ E₂ _ _ hk (DJ.trans MG) Rl.yO (by rw [ev];rfl) (ZA.trans Q6).yO⟩
  cases ae with
  | normal=>exact fin none _ rfl ni
  | ret=>exact fin (some .ret) _ rfl ni
  | exit id=>exact fin (some (.exit id)) _ rfl ni
  | goto l=>exact fin (some (.goto l)) _ rfl ni
 | exit id=>exact hq.elim
 | goto l=>exact hq.elim
 | ret=>exact hq.elim
end
/-! ### A region in its own order -/
section
variable {P:Program} {r:Option Nat}
def kW (P:Program) (r:Option Nat) (ops:Array Oper) (K:List AV→AH→Prop):List Oper→List AV→AH→Prop
 | [],T,H=>K T H
 | o :: l,T,H=>(aO ops T o=some true∧jw P r o T H fun v H'=>kW P r ops K l (aP T o.dst v) H')∨(aO ops T o=some false∧kW P r ops K l (aP T o.dst .undef) H)
theorem kW.GQ {ops:Array Oper} {K:List AV→AH→Prop} {B:eS} {M:List Mk} {rc:Option Nat} {Qc:Exit→Act→World→Prop} {m:List Oper} : ∀ {l:List Oper} {T:List AV} {H:AH} {E:Env} {a:Act} {w:World},
  kW P r ops K l T H→HR P E B H w→aI E T a.tmps.toList→MR B.D E M a.defers→RR E r rc →
  (∀T' H' E' a' w',K T' H'→E.le E'→HR P E' B H' w'→aI E' T' a'.tmps.toList→MR B.D E' M a'.defers→Below B w w'→wpListIn (Fr rc) 0 P ops Qc m a' w')→wpListIn (Fr rc) 0 P ops Qc (l ++ m) a w
 | [],T,H,E,a,w,h,hH,hT,hM,hr,hq=>hq T H E a w h (Env.le.refl E) hH hT hM (Below.refl B w)
 | o :: l,T,H,E,a,w,h,hH,hT,hM,hr,hq=>by
  rw [List.cons_append]
  rcases h with ⟨hw,h⟩ | ⟨hw,h⟩
  ·have:=dD (a:=a) hT hw
   simp only [wpListIn,this,if_true]
   refine h E B w a rc _ Qc hH (nu.of hH hT _) hr ?_
   intro v H' E' w' x hk hE gX hv hb
   exact kW.GQ hk gX ((aI.mono hE _ _ hT).put o.dst hv) (by rw [put_defers];exact hM.mono hE) (hr.mono hE)
    fun T' nv Bk a' Bn Gk gY h1 h2 h3 h4=>hq T' nv Bk a' Bn Gk (hE.trans gY) h1 h2 h3 (hb.trans h4)
  ·have:=dD (a:=a) hT hw
   simp only [wpListIn,this,Bool.false_eq_true,if_false]
   refine ⟨fun _ _=>trivial,?_⟩
   exact kW.GQ h hH (hT.put o.dst (v:=.undef) (x:=undef) ⟨#[],rfl,rfl⟩) (by rw [put_defers];exact hM) hr hq
theorem kW.JU {ops:Array Oper} {K:List AV→AH→Prop} {B:eS} {M:List Mk} {rc:Option Nat} {Qc:Exit→Act→World→Prop} {l:List Oper} {T:List AV} {H:AH} {E:Env} {a:Act} {w:World}
  (h:kW P r ops K l T H) (hH:HR P E B H w) (hT:aI E T a.tmps.toList) (hM:MR B.D E M a.defers) (hr:RR E r rc)
  (hq : ∀T' H' E' a' w',K T' H'→E.le E'→HR P E' B H' w'→aI E' T' a'.tmps.toList→MR B.D E' M a'.defers→Below B w w'→Qc .normal a' w'):wpListIn (Fr rc) 0 P ops Qc l a w:=by
 have:=kW.GQ (m:=[]) h hH hT hM hr hq
 rwa [List.append_nil] at this
theorem bC.region {id:Nat} {ops:Array Oper} {Q:dm→St→Prop} {s:St} (h:kW P r ops (fun T H=>Q .normal ⟨T,s.M,H⟩) ops.toList s.T s.H):bC P r (.region id ops false) Q s:=by
 intro E B w a rc hs hr
 refine wpIn_region_list (h.JU hs.heap hs.tmps hs.marks hr ?_)
 intro T' H' E' a' w' hq hE h1 h2 h3 h4
 exact ⟨.normal,⟨T',s.M,H'⟩,E',rfl,hq,hE,⟨h1,h2,h3⟩,h4⟩
end
end Go.Am
end
/- The abstract machine: a range over a function; a function out of its body. -/
section
namespace Go.Am
open Go.RowKit
section
variable {P:Program} {Q:dm→St→Prop} {s:St}
def xx (P:Program) (r:Option Nat) (l:Nat) (T:List AV) (M:List Mk) (Q:dm→St→Prop):AV→AH→Prop:=fun _ H' =>
 ∃st pe T' ps as bd d,H'.get l=some (.loop st pe T' ps as bd d)∧st ≠ .busy ∧
  match pe with
  | none=>Q .normal ⟨T,M,H'.set l .dead⟩
  | some c=>bC P r c Q ⟨T,M,H'.set l .dead⟩
theorem sZ {r rc:Option Nat} {l:Nat} {T:List AV} {M:List Mk} {v:AV} {H' : AH} (h:xx P r l T M Q v H')
  {E E' : Env} {B:eS} {w w' : World} {a:Act} {L:Loc} (hL:E' l=some L) (hE:E.le E') (hH:HR P E' B H' w') (hT:aI E' T a.tmps.toList) (hM:MR B.D E' M a.defers) (hr:RR E' r rc) (hb:Below B w w') (u:Value) :
  rangePost (Fr rc) 0 P L.bB (uG P E B w Q) a (.returned u) w':=by
 obtain ⟨st,pe,T',ps,as,bd,d,hg,cU,Mn⟩:=h
 obtain ⟨rec,Cr,rfl,rfl,rfl,rfl,rfl,SD,rM⟩:=hH.loop hL hg
 have Gt : ¬ B L.bB:=by
  obtain ⟨L',cr,ho⟩:=hH.obj _ _ hg
  rw [hL] at cr;cases cr
  obtain ⟨_,_,_,_,_,_,h4⟩:=ho
  exact h4
 have tX:HR P E' B (H'.set l .dead) (w'.putObj L.bB (.loop { rec with state:=.exhausted })):=hH.uV hg hL rfl trivial
 have eu:Below B w (w'.putObj L.bB (.loop { rec with state:=.exhausted })):=Below.putObj hb Gt _
 refine ⟨_,_,run_endLoop Cr cU,?_⟩
 generalize (w'.putObj L.bB (.loop { rec with state:=.exhausted }))=W2 at tX eu
 cases hp:rec.pending with
 | none =>
  rw [hp] at Mn
  exact ⟨.normal,_,E',rfl,Mn,hE,⟨tX,hT,hM⟩,eu⟩
 | some c =>
  rw [hp] at Mn
  exact Go.wpIn_mono (Mn E' B _ a rc ⟨tX,hT,hM⟩ hr) fun e a w h=>h.trans hE eu
theorem bC.rangeFunc {g:Operand} {ps:Array Tmp} {as bd:Code} {gf:FuncId} {x y:List AV} (iJ:Goes P gf) (hg:ev P s.T g=some (.func (.func gf) x y))
  (h:bH P gf (x ++ [.cV (s.H.n+1)] ++ y) ((s.H.alloc .deferred).alloc (.loop .ready none s.T ps as bd s.H.n)) (xx P none (s.H.n+1) s.T (.mark s.H.n :: s.M) Q)) :
  bC P none (.rangeFunc g ps as bd) Q s:=by
 intro E B w a rc hs hr
 obtain rfl:rc=none:=hr
 obtain ⟨x',y',h2,h3,h4⟩:=iD hs.heap hs.tmps hg
 refine wpIn_rangeFunc fun fn _=>?_
 obtain ⟨W0,O3⟩ : ∃W0,w.alloc (.deferred (some []))=W0:=⟨_,rfl⟩
 have NO:W0.heap.size=w.heap.size+1:=by rw [← O3];simp
 have O5:HR P (E.put s.H.n ⟨w.heap.size,0,0,0,0⟩) B (s.H.alloc .deferred) W0:=by
  rw [← O3]
  exact hs.heap.alloc rfl ⟨World.alloc_heap_new w _,hs.heap.fresh⟩
 have CF:E.le (E.put s.H.n ⟨w.heap.size,0,0,0,0⟩):=hs.heap.eB _
 generalize U6:E.put s.H.n ⟨w.heap.size,0,0,0,0⟩=E0 at O5 CF
 have Xl:E0 s.H.n=some ⟨w.heap.size,0,0,0,0⟩:=by rw [← U6];simp [Env.put]
 have vc:E0.le (E0.put (s.H.n+1) ⟨W0.heap.size,0,0,0,0⟩):=O5.eB ⟨W0.heap.size,0,0,0,0⟩
 have tW:HR P (E0.put (s.H.n+1) ⟨W0.heap.size,0,0,0,0⟩) B ((s.H.alloc .deferred).alloc (.loop .ready none s.T ps as bd s.H.n))
   (W0.alloc (.loop { state:=.ready,pending:=none,fn,tmps:=a.tmps,params:=ps,assign:=as,body:=bd,defers:=w.heap.size })) :=
  O5.alloc rfl ⟨fn,a.tmps,⟨w.heap.size,0,0,0,0⟩,World.alloc_heap_new W0 _,aI.mono (CF.trans vc) _ _ hs.tmps,vc _ _ Xl,O5.fresh⟩
 generalize Iz:E0.put (s.H.n+1) ⟨W0.heap.size,0,0,0,0⟩=E1 at tW vc
 have Ro:E1 (s.H.n+1)=some ⟨W0.heap.size,0,0,0,0⟩:=by rw [← Iz];simp [Env.put]
 generalize Rb:W0.alloc (.loop { state:=.ready,pending:=none,fn,tmps:=a.tmps,params:=ps,assign:=as,body:=bd,defers:=w.heap.size })=W1 at tW
 have Fv:Below B w W1:=by
  rw [← Rb,← O3]
  exact ((Below.refl B w).alloc hs.heap.base _).alloc (fun k hk=>by have:=hs.heap.base k hk;simp;omega) _
 have hE:=CF.trans vc
 refine ⟨W0.heap.size,[{ target:=.collected w.heap.size,args:=#[] }],W1,{ target:=.fn (.func gf) y',args:=x' ++ #[.func (.yield W0.heap.size) #[] #[]] },W1,gf,
  x' ++ #[.func (.yield W0.heap.size) #[] #[]] ++ y',W1,?_,?_,fun _ _=>trivial,?_,fun h=>by simp [Fr,Fence.wide] at h,dR.2 (Calls.mono (h E1 B W1 _ tW ?_) ?_)⟩
 ·rw [NO,← Rb,← O3]
  exact run_enterLoop_outer fn a.tmps ps as bd
 ·have:=bz (P:=P) h2 #[.const (.func (.yield W0.heap.size) #[] #[])] #[] 0 W1
  simpa [Act.eval] using this
 ·simp only [invoke];exact iJ _ _
 ·have:aI E1 [.cV (s.H.n+1)] [Value.func (.yield W0.heap.size) #[] #[]]:=⟨_,_,rfl,⟨_,Ro,rfl⟩,rfl⟩
  simpa using ((aI.mono hE _ _ h3).append this).append (aI.mono hE _ _ h4)
 ·rintro e w' ⟨v,H',E',u,rfl,hq,gY,gX,_,hb⟩
  refine sZ (a:={ a with defers:=[{ target:=.collected w.heap.size,args:=#[] }] ++ a.defers }) hq (gY _ _ Ro) (hE.trans gY) gX (aI.mono (hE.trans gY) _ _ hs.tmps) ?_ rfl (Fv.trans hb) u
  exact ⟨_,_,gY _ _ (vc _ _ Xl),rfl,hs.marks.mono (hE.trans gY)⟩
theorem bC.xw {b₀:Nat} {g:Operand} {ps:Array Tmp} {as bd:Code} {gf:FuncId} {x y:List AV} {Pp:LoopState} {PJ:Option Code} {T₀:List AV} {PG:Array Tmp} {RL RI:Code} {d₀:Nat}
  (Iv:s.H.get b₀=some (.loop Pp PJ T₀ PG RL RI d₀)) (iJ:Goes P gf) (hg:ev P s.T g=some (.func (.func gf) x y))
  (h:bH P gf (x ++ [.cV s.H.n] ++ y) (s.H.alloc (.loop .ready none s.T ps as bd d₀)) (xx P (some b₀) s.H.n s.T s.M Q)) :
  bC P (some b₀) (.rangeFunc g ps as bd) Q s:=by
 intro E B w a rc hs hr
 have Qq:=hr
 obtain ⟨L₀,Rf,rfl⟩:=hr
 obtain ⟨x',y',h2,h3,h4⟩:=iD hs.heap hs.tmps hg
 obtain ⟨XG,Iy,Xt,R5,Ld,KL,_,ZN,_⟩:=hs.heap.obj _ _ Iv
 rw [Rf] at Iy;cases Iy
 refine wpIn_rangeFunc fun fn _=>?_
 have vc:E.le (E.put s.H.n ⟨w.heap.size,0,0,0,0⟩):=hs.heap.eB ⟨w.heap.size,0,0,0,0⟩
 have tW:HR P (E.put s.H.n ⟨w.heap.size,0,0,0,0⟩) B (s.H.alloc (.loop .ready none s.T ps as bd d₀))
   (w.alloc (.loop { state:=.ready,pending:=none,fn,tmps:=a.tmps,params:=ps,assign:=as,body:=bd,defers:=Ld.bB })) :=
  hs.heap.alloc rfl ⟨fn,a.tmps,Ld,World.alloc_heap_new w _,aI.mono vc _ _ hs.tmps,vc _ _ ZN,hs.heap.fresh⟩
 generalize Iz:E.put s.H.n ⟨w.heap.size,0,0,0,0⟩=E1 at tW vc
 have Ro:E1 s.H.n=some ⟨w.heap.size,0,0,0,0⟩:=by rw [← Iz];simp [Env.put]
 generalize Rb:w.alloc (.loop { state:=.ready,pending:=none,fn,tmps:=a.tmps,params:=ps,assign:=as,body:=bd,defers:=Ld.bB })=W1 at tW
 have Fv:Below B w W1:=by rw [← Rb];exact (Below.refl B w).alloc hs.heap.base _
 refine ⟨w.heap.size,[],W1,{ target:=.fn (.func gf) y',args:=x' ++ #[.func (.yield w.heap.size) #[] #[]] },W1,gf,
  x' ++ #[.func (.yield w.heap.size) #[] #[]] ++ y',W1,?_,?_,fun _ _=>trivial,?_,fun h=>by simp [Fr,Fence.wide] at h,dR.2 (Calls.mono (h E1 B W1 _ tW ?_) ?_)⟩
 ·rw [← Rb]
  show (Instr.enterLoop fn a.tmps ps as bd (some L₀.bB)).run P w=_
  unfold Instr.enterLoop
  simp only [Sem.run_bind,run_getLoop KL,run_newObj_alloc,Result.andThen,Sem.run_pure]
 ·have:=bz (P:=P) h2 #[.const (.func (.yield w.heap.size) #[] #[])] #[] 0 W1
  simpa [Act.eval] using this
 ·simp only [invoke];exact iJ _ _
 ·have:aI E1 [.cV s.H.n] [Value.func (.yield w.heap.size) #[] #[]]:=⟨_,_,rfl,⟨_,Ro,rfl⟩,rfl⟩
  simpa using ((aI.mono vc _ _ h3).append this).append (aI.mono vc _ _ h4)
 ·rintro e w' ⟨v,H',E',u,rfl,hq,gY,gX,_,hb⟩
  exact sZ (a:={ a with defers:=[] ++ a.defers }) hq (gY _ _ Ro) (vc.trans gY) gX (aI.mono (vc.trans gY) _ _ hs.tmps) (hs.marks.mono (vc.trans gY)) (Qq.mono (vc.trans gY)) (Fv.trans hb) u
end
/-! ### A function -/
section
variable {P:Program}
def bM:List Mk→AH→Option AH
 | [],H=>some H
 | .mark m :: ms,H =>
  match H.get m with
  | some .deferred=>bM ms (H.set m .dead)
  | _=>none
 | .call _ _ _ :: _,_=>none
def dx (P:Program) (T:List AV) (H:AH):List ResultVar→Option (List AV)
 | []=>some []
 | .tmp t :: l=>(dx P T H l).map ((T[t]?).getD .undef :: ·)
 | .cell a t :: l=>(jE P H t ((T[a]?).getD .undef)).bind fun v=>(dx P T H l).map (v :: ·)
def oneOf:List AV→AV
 | [v]=>v
 | vs=>.tuple vs
def To (P:Program) (fn:Func) (Q:AV→AH→Prop):dm→St→Prop:=fun e s =>
 (e=.normal∨e=.ret)∧∃H' vs,bM s.M s.H=some H'∧dx P s.T H' fn.results.toList=some vs∧Q (oneOf vs) H'
theorem aI.getD {E:Env} {T:List AV} {X:Array Value} (h:aI E T X.toList) (t:Nat):VR E ((T[t]?).getD .undef) (X.getD t undef):=by
 cases hT:T[t]? with
 | none =>
  have:X[t]? = none:=by
   rw [← Array.getElem?_toList,List.getElem?_eq_none_iff,← h.length];exact List.getElem?_eq_none_iff.1 hT
  rw [Array.getD_eq_getD_getElem?,this]
  exact ⟨#[],rfl,rfl⟩
 | some v =>
  obtain ⟨y,hy,hv⟩:=h.get hT
  rw [Array.getElem?_toList] at hy
  rw [Array.getD_eq_getD_getElem?,hy]
  exact hv
theorem zC {E:Env} {B:eS} {H:AH} {w:World} (h:HR P E B H w) {t:TypeId} {a v:AV} {x:Value} (hv:jE P H t a=some v) (hx:VR E a x) :
  jR P E w v (do loadVar t (← asAddr x)):=by
 unfold jE at hv
 split at hv
 ·rename_i b o
  obtain ⟨L,hL,rfl⟩:=hx
  split at hv
  ·rename_i ha
   obtain ⟨s,hs,hv⟩:=Option.bind_eq_some_iff.1 hv
   obtain ⟨vs,hr,rfl⟩:=Option.map_eq_some_iff.1 hv
   obtain ⟨L',ys,cr,rK,di⟩:=run_read h hr
   rw [hL] at cr;cases cr
   exact ⟨.agg ys.toArray,by simp [asAddr,loadVar,gV ha,aK hs,di],_,rfl,by simpa using rK⟩
  ·rename_i ha
   obtain ⟨L',y,cr,hy,hc⟩:=pP h hv
   rw [hL] at cr;cases cr
   exact ⟨y,by simp [asAddr,loadVar,gV ha,hc],hy⟩
  ·cases hv
 ·cases hv
def zI (X:Array Value):ResultVar→Sem Value
 | .tmp t=>pure (X.getD t undef)
 | .cell a t=>do loadVar t (← asAddr (X.getD a undef))
theorem gr {E:Env} {B:eS} {H:AH} {w:World} (h:HR P E B H w) {fn:Func} {T:List AV} {X:Array Value} {vs:List AV} (hT:aI E T X.toList) (hv:dx P T H fn.results.toList=some vs) :
  jR P E w (oneOf vs) (results fn X):=by
 have key : ∀(l:List ResultVar) (vs:List AV),dx P T H l=some vs→∃ys:List Value,aI E vs ys ∧
   (l.mapM (zI X)).run P w=.ok ys w:=by
  intro l
  induction l with
  | nil=>intro vs hv;simp only [dx,Option.some.injEq] at hv;subst hv;exact ⟨[],rfl,by simp⟩
  | cons rv l ih =>
   intro vs hv
   cases rv with
   | tmp t =>
    obtain ⟨us,hu,rfl⟩:=Option.map_eq_some_iff.1 hv
    obtain ⟨ys,rK,di⟩:=ih us hu
    refine ⟨_ :: ys,aI.cons (hT.getD t) rK,?_⟩
    rw [List.mapM_cons,Sem.run_bind,show (zI X (.tmp t)).run P w=.ok (X.getD t undef) w from rfl,Result.andThen_ok,Sem.run_bind,di]
    rfl
   | cell a t =>
    obtain ⟨v,YC,hv⟩:=Option.bind_eq_some_iff.1 hv
    obtain ⟨us,hu,rfl⟩:=Option.map_eq_some_iff.1 hv
    obtain ⟨ys,rK,di⟩:=ih us hu
    obtain ⟨y,hy,Qa⟩:=zC h YC (hT.getD a)
    refine ⟨y :: ys,aI.cons Qa rK,?_⟩
    rw [List.mapM_cons,Sem.run_bind,show (zI X (.cell a t)).run P w=.ok y w from hy,Result.andThen_ok,Sem.run_bind,di]
    rfl
 obtain ⟨ys,rK,di⟩:=key _ _ hv
 have hl:=rK.length
 refine ⟨if h:ys.toArray.size=1 then ys.toArray[0] else .tuple ys.toArray,?_,?_⟩
 ·have h1:(fn.results.mapM (zI X)).run P w=.ok ys.toArray w:=by
   rw [Array.mapM_eq_mapM_toList,← bind_pure_comp,Sem.run_bind,di];rfl
  show (do let vs ← fn.results.mapM (zI X);pure (if h:vs.size=1 then vs[0] else .tuple vs)).run P w=_
  rw [Sem.run_bind,h1]
  rfl
 ·match vs,ys,rK,hl with
  | [v],[y],rK,_=>obtain ⟨y',vn,e,h1,_⟩:=rK;cases e;simpa [oneOf] using h1
  | [],[],rK,_=>exact ⟨#[],by simp,rfl⟩
  | v :: v' :: vs,y :: y' :: ys,rK,_=>exact ⟨_,by simp;rfl,by simpa using rK⟩
theorem lO {fn:Func} {B:eS} {D:List Deferred} {R:Ending→World→Prop} {X:Array Value} : ∀ {M:List Mk} {ds:List Deferred} {E:Env} {H H' : AH} {w:World},
  HR P E B H w→MR D E M ds→bM M H=some H' →
  (∀w',HR P E B H' w'→Below B w w'→LeavesInM (Fr none) 0 P fn X R D .returning w')→LeavesInM (Fr none) 0 P fn X R ds .returning w
 | [],ds,E,H,H',w,hH,hM,ht,hR=>by
  obtain rfl:ds=D:=hM
  simp only [bM,Option.some.injEq] at ht
  subst ht
  exact hR w hH (Below.refl B w)
 | .call _ _ _ :: _,ds,E,H,H',w,hH,hM,ht,hR=>by simp [bM] at ht
 | .mark m :: M,ds,E,H,H',w,hH,hM,ht,hR=>by
  obtain ⟨L,Gv,hL,rfl,gm⟩:=hM
  simp only [bM] at ht
  split at ht
  ·rename_i hg
   obtain ⟨L',cr,ho⟩:=hH.obj _ _ hg
   rw [hL] at cr;cases cr
   have gX:HR P E B (H.set m .dead) (w.putObj L.bB (.deferred none)):=hH.uV hg hL rfl trivial
   refine ⟨by simp,.inl ⟨L.bB,_,rfl,run_takeDeferred ho.1,lO gX gm ht fun w' h1 h3=>hR w' h1 ((Below.putObj (Below.refl B w) ho.2 _).trans h3)⟩⟩
  ·cases ht
theorem me {E:Env} {args:List AV} {bJ:Array Value} (ha:aI E args bJ.toList) (n:Nat) :
  aI E (args ++ List.replicate (n - args.length) .undef) (bJ ++ Array.replicate (n - bJ.size) undef).toList:=by
 have hl:args.length=bJ.size:=by simpa using ha.length
 rw [hl]
 simpa using ha.append (aI.replicate (x:=.undef) (y:=undef) ⟨#[],rfl,rfl⟩ (n - bJ.size))
theorem bH.body {f:FuncId} {fn:Func} {c:Code} {args:List AV} {H:AH} {Q:AV→AH→Prop} (hf:P.funcs[f]? = some fn) (hb:fn.body=some c)
  (h:bC P none c (To P fn Q) ⟨args ++ List.replicate (fn.ntmps - args.length) .undef,[],H⟩):bH P f args H Q:=by
 intro E B w bJ hH ha
 refine dR (rc:=none) (n:=0) |>.1 (callsIn_of_wp_marks hf hb trivial ?_)
 refine Go.wpIn_mono (h E ⟨B.on,[]⟩ w ⟨bJ ++ Array.replicate (fn.ntmps - bJ.size) undef,[]⟩ none ⟨hH.z [],me ha _,rfl⟩ rfl) ?_
 rintro e a' w' ⟨ae,s',E',rfl,⟨he,H',vs,h1,h2,h3⟩,hE,hs,hb⟩
 have:=lO (fn:=fn) (X:=a'.tmps) (R:=fun e w'=>∃v H' E' x,e=.returned x∧Q v H'∧E.le E'∧HR P E' B H' w'∧VR E' v x∧Below B w w') hs.heap hs.marks h1
  fun Bn tX eu=>by
   obtain ⟨x,hx,Ju⟩:=gr tX hs.tmps h2
   exact ⟨x,hx,_,H',E',x,rfl,h3,hE,tX.yO,Ju,(hb.trans eu).yO⟩
 rcases he with rfl | rfl <;> exact this
/-! ### A function that defers a closure at its beginning -/
def uH (P:Program) (g:FuncId) (args:List AV) (H:AH) (K:AH→Prop):Prop :=
 ∀E B w bJ,HR P E B H w→aI E args bJ.toList→CallsDIn (Fr none) 0 P g bJ .returning w fun e u' w' =>
  (∃x,e=.returned x)∧u'=.returning∧∃H' E',K H'∧E.le E'∧HR P E' B H' w'∧Below B w w'
theorem bH.RF {f:FuncId} {fn:Func} {id:Nat} {A:Code} {ops:Array Oper} {pre:List Oper} {rest:Code} {dst:Option Tmp} {fo:Operand} {xs:Array Operand} {ts:Array TypeId} {ty:TypeId} {pos:String} {after:Array Edge}
  {args:List AV} {H:AH} {Q:AV→AH→Prop} (hf:P.funcs[f]? = some fn) (hb:fn.body=some (.seq A (.seq (.region id ops false) rest)))
  (hl:ops.toList=pre ++ [⟨dst,.defer { callee:=.value fo,args:=xs,argTypes:=ts },ty,pos,after,none⟩])
  (h:bC P none A (fun e s=>e=.normal∧s.M=[]∧kW P none ops (fun T1 H1=>∃g x y vs,Goes P g∧ev P T1 fo=some (.func (.func g) x y)∧pL P T1 xs.toList=some vs ∧
   bC P none rest (fun e s=>(e=.normal∨e=.ret)∧∃H2,bM s.M s.H=some H2∧uH P g (x ++ vs ++ y) H2 fun H3=>∃us,dx P s.T H3 fn.results.toList=some us∧Q (oneOf us) H3)
    ⟨aP T1 dst .undef,[],H1⟩) pre s.T s.H) ⟨args ++ List.replicate (fn.ntmps - args.length) .undef,[],H⟩):bH P f args H Q:=by
 intro E B w bJ hH ha
 refine dR (rc:=none) (n:=0) |>.1 (callsIn_of_wp_marks hf hb trivial (wpIn_seq ?_))
 refine Go.wpIn_mono (h E ⟨B.on,[]⟩ w ⟨bJ ++ Array.replicate (fn.ntmps - bJ.size) undef,[]⟩ none ⟨hH.z [],me ha _,rfl⟩ rfl) ?_
 rintro e0 a0 w0 ⟨ae0,s0,E0,rfl,⟨rfl,Mu,h⟩,CF,NO,CC⟩
 refine wpIn_seq (wpIn_region_list ?_)
 rw [hl]
 refine h.GQ (B:=⟨B.on,[]⟩) (M:=[]) (rc:=none) (a:=a0) NO.heap NO.tmps (Mu ▸ NO.marks) rfl ?_
 rintro T1 H1 E1 a1 w1 ⟨g,x,y,vs,iJ,Mz,rL,DD⟩ Iz tW KZ Re US
 have vc:=CF.trans Iz
 have Fv:=CC.trans US
 obtain ⟨t1,d1⟩:=a1
 obtain rfl:d1=[]:=Re
 obtain ⟨x',y',h2,h3,h4⟩:=iD (a:=⟨t1,[]⟩) tW KZ Mz
 have hv:=dP (a:=⟨t1,[]⟩) (fun z hz=>nu.of tW KZ xs z (by simpa using hz)) rL
 have hw:Region.wanted (⟨dst,.defer { callee:=.value fo,args:=xs,argTypes:=ts },ty,pos,after,none⟩ : Oper) (yielded ops t1)=true:=rfl
 simp only [wpListIn,hw,if_true]
 refine ⟨fun _ _=>trivial,?_⟩
 have hex:(Oper.semAt (Fr none).round (Act.eval ⟨t1,[]⟩) (⟨dst,.defer { callee:=.value fo,args:=xs,argTypes:=ts },ty,pos,after,none⟩ : Oper)).run P w1 =
   .ok (.defer { target:=.fn (.func g) y',args:=x' ++ xs.map (Act.eval ⟨t1,[]⟩) }) w1:=by
  rw [show (Fr none).round=none from rfl,Oper.semAt_none]
  simp only [execOp,Sem.run_bind,bz h2,Result.andThen_ok]
  rfl
 rw [hex,Oper.uponIn_defer]
 have Yx:=DD E1 ⟨B.on,[{ target:=.fn (.func g) y',args:=x' ++ xs.map (Act.eval ⟨t1,[]⟩) }]⟩ w1
  (({ tmps:=t1,defers:=[{ target:=.fn (.func g) y',args:=x' ++ xs.map (Act.eval ⟨t1,[]⟩) }] }:Act).put dst undef) none
  ⟨tW.yO.z _,aI.put (a:={ tmps:=t1,defers:=[{ target:=.fn (.func g) y',args:=x' ++ xs.map (Act.eval ⟨t1,[]⟩) }] }) KZ dst (v:=.undef) (x:=undef) ⟨#[],rfl,rfl⟩,by rw [put_defers];rfl⟩ rfl
 refine Go.wpIn_mono Yx ?_
 rintro e a' w' ⟨ae,s',E',rfl,⟨he,H2,k1,k2⟩,hE,hs,hb⟩
 have:=lO (fn:=fn) (X:=a'.tmps) (R:=fun e w'=>∃v H' E' x,e=.returned x∧Q v H'∧E.le E'∧HR P E' B H' w'∧VR E' v x∧Below B w w') hs.heap hs.marks k1
  fun Bn tX eu=>by
   refine ⟨by simp,.inr ⟨fun h=>by simp [Fr,Fence.wide] at h,.func g,y',g,x' ++ xs.map (Act.eval ⟨t1,[]⟩) ++ y',rfl,?_,fun _ _=>trivial,?_⟩⟩
   ·simp only [invoke];exact iJ _ _
   ·have kJ:aI E' (x ++ vs ++ y) (x' ++ xs.map (Act.eval ⟨t1,[]⟩) ++ y').toList:=by
     have:=(h3.append (by simpa using hv)).append h4
     simpa using aI.mono hE _ _ this
    refine CallsDIn.mono (k2 E' ⟨B.on,[]⟩ Bn _ (tX.yO.z []) kJ) ?_
    rintro e u' w3 ⟨⟨v,rfl⟩,rfl,H3,E3,⟨us,j1,j2⟩,O6,SM,OZ⟩
    obtain ⟨z,hz,yR⟩:=gr SM (aI.mono O6 _ _ hs.tmps) j1
    exact ⟨z,hz,_,H3,E3,z,rfl,j2,(vc.trans hE).trans O6,SM.yO,yR,((Fv.yO.trans hb.yO).trans eu.yO).trans OZ.yO⟩
 rcases he with rfl | rfl <;> exact this
def vV:Op→Bool
 | .call ⟨.builtin .recover,_,_⟩=>true
 | _=>false
def rF (P:Program) (ops:Array Oper) (rc:Bool):List Oper→List AV→AH→Option (List AV×AH)
 | [],T,H=>some (T,H)
 | o :: l,T,H =>
  match aO ops T o with
  | some true=>if rc && vV o.op then rF P ops rc l (aP T o.dst .nilIface) H else (pK P T H o).bind fun (v,H')=>rF P ops rc l (aP T o.dst v) H'
  | some false=>rF P ops rc l (aP T o.dst .undef) H
  | none=>none
theorem tj {ops:Array Oper} {K:List AV→AH→Prop} {r:Option Nat} : ∀ {l:List Oper} {T:List AV} {H:AH} {T' : List AV} {H' : AH},rF P ops false l T H=some (T',H')→K T' H'→kW P r ops K l T H
 | [],T,H,T',H',h,hk=>by simp only [rF,Option.some.injEq,Prod.mk.injEq] at h;obtain ⟨rfl,rfl⟩:=h;exact hk
 | o :: l,T,H,T',H',h,hk=>by
  simp only [rF,Bool.false_and,Bool.false_eq_true,if_false] at h
  split at h
  ·rename_i hw
   obtain ⟨⟨v,H₁⟩,h1,h⟩:=Option.bind_eq_some_iff.1 h
   exact .inl ⟨hw,jw.nK h1 (tj h hk)⟩
  ·rename_i hw
   exact .inr ⟨hw,tj h hk⟩
  ·cases h
theorem oK {ops:Array Oper} {Q:Exit→Act→List Frame→World→Prop} {B:eS} {c₀:Frame} {cs:List Frame} (hu:c₀.mode=.returning) {T' : List AV} {H' : AH} :
  ∀(l:List Oper) (i:Nat),ops.toList.drop i=l→∀ {T:List AV} {H:AH} {E:Env} {a:Act} {w:World},rF P ops true l T H=some (T',H')→HR P E B H w→aI E T a.tmps.toList→a.defers=[] →
   (∀E' a' w',E.le E'→HR P E' B H' w'→aI E' T' a'.tmps.toList→a'.defers=[]→Below B w w'→Q .normal a' (c₀ :: cs) w') →
   wpOpsSIn (Fr none) 0 P ops Q (List.range' i l.length) a (c₀ :: cs) w
 | [],i,hd,T,H,E,a,w,h,hH,hT,hM,hq=>by
  simp only [rF,Option.some.injEq,Prod.mk.injEq] at h
  obtain ⟨rfl,rfl⟩:=h
  exact hq E a w (Env.le.refl E) hH hT hM (Below.refl B w)
 | o :: l,i,hd,T,H,E,a,w,h,hH,hT,hM,hq=>by
  have hi:ops[i]? = some o:=by
   rw [← Array.getElem?_toList]
   have:=congrArg (fun l=>l[0]?) hd
   simpa using this
  have Ax:ops.toList.drop (i+1)=l:=by
   rw [← List.drop_drop,hd];rfl
  simp only [List.length_cons,List.range'_succ,wpOpsSIn,hi]
  refine ⟨fun _ _=>trivial,?_⟩
  simp only [rF] at h
  split at h
  ·rename_i hw
   have TS:=dD (a:=a) hT hw
   rw [if_pos TS]
   split at h
   ·rename_i Cr
    have hex:(execOp a.eval o).run P w=.ok .recover w:=by
     obtain ⟨dst,op,ty,pos,after,guard⟩:=o
     simp only [Bool.true_and,vV] at Cr
     split at Cr
     ·rfl
     ·cases Cr
    rw [hex]
    have YP:recoverD (c₀ :: cs)=none:=by simp [recoverD,hu]
    simp only [YP]
    exact oK hu l (i+1) Ax h hH (hT.put o.dst (v:=.nilIface) (x:=.nilIface) rfl) (by rw [put_defers];exact hM) hq
   ·obtain ⟨⟨v,H₁⟩,h1,h⟩:=Option.bind_eq_some_iff.1 h
    obtain ⟨⟨E',w',x,hx,hE,hv,gX,hb⟩,W3⟩:=Dh hH (nu.of hH hT _) h1
    have go:=oK hu l (i+1) Ax h gX ((aI.mono hE _ _ hT).put o.dst hv) (by rw [put_defers];exact hM)
     fun Bk a' Bn gY h1 h2 h3 h4=>hq Bk a' Bn (hE.trans gY) h1 h2 h3 (hb.trans h4)
    rcases hx with hx | ⟨hx,rfl⟩
    ·rw [hx];exact go
    ·rw [hx];exact go
  ·rename_i hw
   have TS:=dD (a:=a) hT hw
   rw [if_neg (by rw [TS];simp)]
   exact oK hu l (i+1) Ax h hH (hT.put o.dst (v:=.undef) (x:=undef) ⟨#[],rfl,rfl⟩) (by rw [put_defers];exact hM) hq
  ·cases h
theorem uH.Nt {g:FuncId} {fn:Func} {id:Nat} {ops:Array Oper} {rest:Code} {args:List AV} {H:AH} {K:AH→Prop} {T1:List AV} {H1:AH} (hf:P.funcs[g]? = some fn) (hb:fn.body=some (.seq (.region id ops false) rest))
  (h:rF P ops true ops.toList (args ++ List.replicate (fn.ntmps - args.length) .undef) H=some (T1,H1))
  (hr:bC P none rest (fun e s=>(e=.normal∨e=.ret)∧s.M=[]∧(∃us,dx P s.T s.H fn.results.toList=some us)∧K s.H) ⟨T1,[],H1⟩):uH P g args H K:=by
 intro E B w bJ hH ha
 refine callsDIn_of_wpSIn hf hb trivial fun c₀ cs hu=>wpSIn_seq (wpSIn_region ?_)
 rw [List.range_eq_range',← Array.length_toList]
 refine oK (B:=⟨B.on,[]⟩) hu ops.toList 0 rfl h (hH.z []) (me ha _) rfl ?_
 intro E1 a1 w1 vc tW KZ Re Fv
 refine wpSIn_of_wpIn rfl (Go.wpIn_mono (hr E1 ⟨B.on,[]⟩ w1 a1 none ⟨tW,KZ,Re⟩ rfl) ?_)
 rintro e a' w' ⟨ae,s',E',rfl,⟨he,hm,⟨us,Ib⟩,hk⟩,hE,hs,hb⟩
 have hd:a'.defers=[]:=by have:=hs.marks;rw [hm] at this;exact this
 obtain ⟨z,hz,yR⟩:=gr hs.heap hs.tmps Ib
 have:a'.defers=[]∧∃u',c₀ :: cs = { c₀ with mode:=u' } :: cs∧∃v,(results fn a'.tmps).run P w'=.ok v w'∧((∃x,Ending.returned v=.returned x)∧u'=.returning∧∃H' E',K H'∧E.le E'∧HR P E' B H' w'∧Below B w w') :=
  ⟨hd,.returning,by cases c₀;cases hu;rfl,z,hz,⟨z,rfl⟩,rfl,s'.H,E',hk,vc.trans hE,hs.heap.yO,(Fv.trans hb).yO⟩
 rcases he with rfl | rfl <;> exact this
theorem uH.body {g:FuncId} {fn:Func} {c:Code} {args:List AV} {H:AH} {K:AH→Prop} (hf:P.funcs[g]? = some fn) (hb:fn.body=some c)
  (hr:bC P none c (fun e s=>(e=.normal∨e=.ret)∧s.M=[]∧(∃us,dx P s.T s.H fn.results.toList=some us)∧K s.H) ⟨args ++ List.replicate (fn.ntmps - args.length) .undef,[],H⟩):uH P g args H K:=by
 intro E B w bJ hH ha
 refine callsDIn_of_wpSIn hf hb trivial fun c₀ cs hu=>?_
 refine wpSIn_of_wpIn rfl (Go.wpIn_mono (hr E ⟨B.on,[]⟩ w ⟨bJ ++ Array.replicate (fn.ntmps - bJ.size) undef,[]⟩ none ⟨hH.z [],me ha _,rfl⟩ rfl) ?_)
 rintro e a' w' ⟨ae,s',E',rfl,⟨he,hm,⟨us,Ib⟩,hk⟩,hE,hs,hb⟩
 have hd:a'.defers=[]:=by have:=hs.marks;rw [hm] at this;exact this
 obtain ⟨z,hz,yR⟩:=gr hs.heap hs.tmps Ib
 have:a'.defers=[]∧∃u',c₀ :: cs = { c₀ with mode:=u' } :: cs∧∃v,(results fn a'.tmps).run P w'=.ok v w'∧((∃x,Ending.returned v=.returned x)∧u'=.returning∧∃H' E',K H'∧E.le E'∧HR P E' B H' w'∧Below B w w') :=
  ⟨hd,.returning,by cases c₀;cases hu;rfl,z,hz,⟨z,rfl⟩,rfl,s'.H,E',hk,hE,hs.heap.yO,hb.yO⟩
 rcases he with rfl | rfl <;> exact this
def Leave (P:Program):List Mk→AH→(AH→Prop)→Prop
 | [],H,K=>K H
 | .mark m :: ms,H,K=>H.get m=some .deferred∧Leave P ms (H.set m .dead) K
 | .call g a y :: ms,H,K=>Goes P g∧uH P g (a ++ y) H fun H1=>Leave P ms H1 K
theorem lP {fn:Func} {B:eS} {R:Ending→World→Prop} {X:Array Value} {K:AH→Prop} : ∀ {M:List Mk} {ds:List Deferred} {E:Env} {H:AH} {w:World},
  HR P E B H w→MR [] E M ds→Leave P M H K →
  (∀E' H' w',K H'→E.le E'→HR P E' B H' w'→Below B w w'→LeavesInM (Fr none) 0 P fn X R [] .returning w')→LeavesInM (Fr none) 0 P fn X R ds .returning w
 | [],ds,E,H,w,hH,hM,ht,hR=>by
  obtain rfl:ds=[]:=hM
  exact hR E H w ht (Env.le.refl E) hH (Below.refl B w)
 | .mark m :: M,ds,E,H,w,hH,hM,ht,hR=>by
  obtain ⟨L,Gv,hL,rfl,gm⟩:=hM
  obtain ⟨hg,ht⟩:=ht
  obtain ⟨L',cr,ho⟩:=hH.obj _ _ hg
  rw [hL] at cr;cases cr
  have gX:HR P E B (H.set m .dead) (w.putObj L.bB (.deferred none)):=hH.uV hg hL rfl trivial
  exact ⟨by simp,.inl ⟨L.bB,_,rfl,run_takeDeferred ho.1,lP gX gm ht fun E' H' w' k h0 h1 h3=>hR E' H' w' k h0 h1 ((Below.putObj (Below.refl B w) ho.2 _).trans h3)⟩⟩
 | .call g a y :: M,ds,E,H,w,hH,hM,ht,hR=>by
  obtain ⟨a',y',Gv,ha,hy,rfl,gm⟩:=hM
  obtain ⟨iJ,ht⟩:=ht
  refine ⟨by simp,.inr ⟨fun h=>by simp [Fr,Fence.wide] at h,.func g,y',g,a' ++ y',rfl,?_,fun _ _=>trivial,?_⟩⟩
  ·simp only [invoke];exact iJ _ _
  ·have kJ:aI E (a ++ y) (a' ++ y').toList:=by simpa using ha.append hy
   refine CallsDIn.mono (ht E B w _ hH kJ) ?_
   rintro e u' w3 ⟨⟨v,rfl⟩,rfl,H3,E3,hl,O6,SM,OZ⟩
   exact lP SM (gm.mono O6) hl fun E' H' w' k h0 h1 h3=>hR E' H' w' k (O6.trans h0) h1 (OZ.trans h3)
theorem bH.RG {f:FuncId} {fn:Func} {c:Code} {args:List AV} {H:AH} {Q:AV→AH→Prop} (hf:P.funcs[f]? = some fn) (hb:fn.body=some c)
  (h:bC P none c (fun e s=>(e=.normal∨e=.ret)∧Leave P s.M s.H fun H'=>∃vs,dx P s.T H' fn.results.toList=some vs∧Q (oneOf vs) H') ⟨args ++ List.replicate (fn.ntmps - args.length) .undef,[],H⟩):bH P f args H Q:=by
 intro E B w bJ hH ha
 refine dR (rc:=none) (n:=0) |>.1 (callsIn_of_wp_marks hf hb trivial ?_)
 refine Go.wpIn_mono (h E ⟨B.on,[]⟩ w ⟨bJ ++ Array.replicate (fn.ntmps - bJ.size) undef,[]⟩ none ⟨hH.z [],me ha _,rfl⟩ rfl) ?_
 rintro e a' w' ⟨ae,s',E',rfl,⟨he,hl⟩,hE,hs,hb⟩
 have:=lP (fn:=fn) (X:=a'.tmps) (R:=fun e w'=>∃v H' E' x,e=.returned x∧Q v H'∧E.le E'∧HR P E' B H' w'∧VR E' v x∧Below B w w') hs.heap hs.marks hl
  fun Bk nv Bn ⟨vs,k1,k2⟩ gY tX eu=>by
   obtain ⟨x,hx,Ju⟩:=gr tX (aI.mono gY _ _ hs.tmps) k1
   exact ⟨x,hx,_,nv,Bk,x,rfl,k2,hE.trans gY,tX.yO,Ju,(hb.trans eu).yO⟩
 rcases he with rfl | rfl <;> exact this
theorem bC.defers {id:Nat} {ops:Array Oper} {pre:List Oper} {dst:Option Tmp} {fo:Operand} {xs:Array Operand} {ts:Array TypeId} {ty:TypeId} {pos:String} {after:Array Edge} {Q:dm→St→Prop} {s:St}
  (hl:ops.toList=pre ++ [⟨dst,.defer { callee:=.value fo,args:=xs,argTypes:=ts },ty,pos,after,none⟩])
  (h:kW P none ops (fun T1 H1=>∃g x y vs,ev P T1 fo=some (.func (.func g) x y)∧pL P T1 xs.toList=some vs∧Q .normal ⟨aP T1 dst .undef,.call g (x ++ vs) y :: s.M,H1⟩) pre s.T s.H):bC P none (.region id ops false) Q s:=by
 intro E B w a rc hs hr
 obtain rfl:rc=none:=hr
 refine wpIn_region_list ?_
 rw [hl]
 refine h.GQ (M:=s.M) (rc:=none) (a:=a) hs.heap hs.tmps hs.marks rfl ?_
 rintro T1 H1 E1 a1 w1 ⟨g,x,y,vs,Mz,rL,hq⟩ vc tW KZ Re Fv
 obtain ⟨t1,d1⟩:=a1
 obtain ⟨x',y',h2,h3,h4⟩:=iD (a:=⟨t1,d1⟩) tW KZ Mz
 have hv:=dP (a:=⟨t1,d1⟩) (fun z hz=>nu.of tW KZ xs z (by simpa using hz)) rL
 have hw:Region.wanted (⟨dst,.defer { callee:=.value fo,args:=xs,argTypes:=ts },ty,pos,after,none⟩ : Oper) (yielded ops t1)=true:=rfl
 simp only [wpListIn,hw,if_true]
 refine ⟨fun _ _=>trivial,?_⟩
 have hex:(Oper.semAt (Fr none).round (Act.eval ⟨t1,d1⟩) (⟨dst,.defer { callee:=.value fo,args:=xs,argTypes:=ts },ty,pos,after,none⟩ : Oper)).run P w1 =
   .ok (.defer { target:=.fn (.func g) y',args:=x' ++ xs.map (Act.eval ⟨t1,d1⟩) }) w1:=by
  rw [show (Fr none).round=none from rfl,Oper.semAt_none]
  simp only [execOp,Sem.run_bind,bz h2,Result.andThen_ok]
  rfl
 rw [hex,Oper.uponIn_defer]
 refine ⟨.normal,⟨aP T1 dst .undef,.call g (x ++ vs) y :: s.M,H1⟩,E1,rfl,hq,vc,⟨tW,?_,?_⟩,Fv⟩
 ·exact aI.put (a:={ tmps:=t1,defers:={ target:=.fn (.func g) y',args:=x' ++ xs.map (Act.eval ⟨t1,d1⟩) } :: d1 }) KZ dst (v:=.undef) (x:=undef) ⟨#[],rfl,rfl⟩
 ·rw [put_defers]
  exact ⟨_,_,_,by simpa using h3.append (by simpa using hv),h4,rfl,Re⟩
end
end Go.Am
end
/- The abstract machine: a region that draws its order. -/
section
namespace Go.Am
open Go.RowKit
section congr
variable {P:Program} {r:Option Nat} {T T' : List AV}
theorem jL : ∀ {xs:List Operand},(∀x ∈ xs,ev P T x=ev P T' x)→pL P T xs=pL P T' xs
 | [],_=>rfl
 | x :: xs,h=>by simp only [pL,h x (by simp),jL (xs:=xs) fun y hy=>h y (by simp [hy])]
theorem qj {x:Option Operand} (h : ∀y,x=some y→ev P T y=ev P T' y):Jy P T x=Jy P T' x:=by
 cases x with
 | none=>rfl
 | some x=>simp only [Jy,h x rfl]
theorem qi : ∀ {xs:List (Nat×Operand)},(∀p ∈ xs,ev P T p.2=ev P T' p.2)→DP P T xs=DP P T' xs
 | [],_=>rfl
 | (i,x) :: xs,h=>by simp only [DP,h (i,x) (by simp),qi (xs:=xs) fun y hy=>h y (by simp [hy])]
theorem pV {o:Oper} (H:AH) (h : ∀x ∈ o.op.operands,ev P T x=ev P T' x):pK P T H o=pK P T' H o:=by
 obtain ⟨dst,op,ty,pos,after,guard⟩:=o
 simp only at h
 cases op <;> simp only [pK]
 case build t ps=>rw [qi (T':=T') fun p hp=>h p.2 (by simp only [Op.operands,List.mem_toArray,List.mem_map];exact ⟨p,hp,rfl⟩)]
 case buildSlice t n ps=>rw [qi (T':=T') fun p hp=>h p.2 (by simp only [Op.operands,List.mem_toArray,List.mem_map];exact ⟨p,hp,rfl⟩)]
 case makeFunc f xs ys =>
  rw [jL (T':=T') fun y hy=>h y (by simp [Op.operands];left;simpa using hy),jL (xs:=ys.toList) (T':=T') fun y hy=>h y (by simp [Op.operands];right;simpa using hy)]
 case slice t x lo hi mx =>
  rw [h x (by simp [Op.operands]),qj (x:=lo) (T':=T') fun y hy=>h y (by subst hy;simp [Op.operands]),qj (x:=hi) (T':=T') fun y hy=>h y (by subst hy;simp [Op.operands]),
   qj (x:=mx) (T':=T') fun y hy=>h y (by subst hy;simp [Op.operands])]
 case call c =>
  obtain ⟨callee,args,ts⟩:=c
  cases callee with
  | builtin b =>
   simp only
   rw [jL (T':=T') fun y hy=>h y (by simp [Op.operands,Call.operands];simpa using hy)]
  | value f=>rfl
  | invoke x m=>rfl
 case next x str=>
  cases str with
  | false=>rfl
  | true=>simp only [];rw [h x (by simp [Op.operands])]
 case makeMap t r=>cases r <;> rfl
 all_goals (simp [Op.operands] at h;simp only [h])
theorem jw.congr {o:Oper} {H:AH} {K:AV→AH→Prop} (h : ∀x ∈ o.op.operands,ev P T x=ev P T' x) (k:jw P r o T H K):jw P r o T' H K :=
 fun E B w a rc next Q' hH hT hr hn=>k E B w a rc next Q' hH (fun x hx v hv=>hT x hx v (by rw [← h x hx];exact hv)) hr hn
theorem Ol {x:Operand} {dst:Option Tmp} {v:AV} (h : ∀d,dst=some d→x ≠ .tmp d):ev P (aP T dst v) x=ev P T x:=by
 cases dst with
 | none=>rfl
 | some d =>
  cases x with
  | tmp t =>
   have:d ≠ t:=fun e=>h d rfl (by rw [e])
   simp [ev,aP,this]
  | const c=>rfl
  | global g=>rfl
  | func f=>rfl
theorem wz {o:Oper} {ops:Array Oper} {dst:Option Tmp} {v:AV} (h : ∀d,dst=some d→d ∉ o.looksAt ops) : ∀x ∈ o.op.operands,ev P (aP T dst v) x=ev P T x:=fun x hx =>
 Ol fun d hd NH=>h d hd (by subst NH;exact List.mem_append_left _ (List.mem_filterMap.2 ⟨.tmp d,by simpa using hx,rfl⟩))
theorem qw {o:Oper} {ops:Array Oper} {dst:Option Tmp} {v:AV} (h : ∀d,dst=some d→d ∉ o.looksAt ops):aO ops (aP T dst v) o=aO ops T o:=by
 cases dst with
 | none=>rfl
 | some d =>
  unfold aO
  cases hg:o.guard with
  | none=>rfl
  | some gw =>
   obtain ⟨g,want⟩:=gw
   cases ht:(ops[g]?).bind (·.dst) with
   | none=>simp [ht]
   | some t =>
    have cU:d ≠ t:=fun e=>h d rfl (by subst e;simp [Oper.looksAt,hg,ht])
    simp [ht,aP,List.getElem?_set,cU]
theorem vD (T:List AV) {x y:Option Tmp} (v u:AV) (h : ∀d,x=some d→y ≠ some d):aP (aP T x v) y u=aP (aP T y u) x v:=by
 cases x with
 | none=>rfl
 | some d =>
  cases y with
  | none=>rfl
  | some e =>
   have:d ≠ e:=fun k=>h d rfl (by rw [k])
   simp only [aP]
   rw [List.set_comm _ _ this]
end congr
section
variable {P:Program} {r:Option Nat} {ops:Array Oper} {md:Region.Mode} {kU:Nat→Nat→Bool}
def eC (P:Program) (ops:Array Oper) (o:Oper) (T:List AV) (H:AH) (v:AV):Prop :=
 (aO ops T o=some false∧v=.undef)∨(aO ops T o=some true∧pK P T H o=some (v,H))
theorem eC.put {o:Oper} {T:List AV} {H:AH} {v:AV} {dst:Option Tmp} {u:AV} (h : ∀d,dst=some d→d ∉ o.looksAt ops):eC P ops o (aP T dst u) H v↔eC P ops o T H v:=by
 unfold eC
 rw [qw h,pV H (wz h)]
def iH (P:Program) (r:Option Nat) (ops:Array Oper) (R:AH→Prop) (i:Nat) (T:List AV) (H:AH) (K:List AV→AH→Prop):Prop :=
 match ops[i]? with
 | none=>K T H
 | some o=>(∃v,eC P ops o T H v∧K (aP T o.dst v) H)∨(aO ops T o=some true∧jw P r o T H fun v H'=>R H'∧K (aP T o.dst v) H')
def gO (P:Program) (r:Option Nat) (ops:Array Oper) (md:Region.Mode) (R:Nat→AH→Prop) (K:List AV→AH→Prop):Nat→Array Bool→List AV→AH→Prop
 | 0,listed,T,H=>Region.ready md ops listed=[]∧K T H
 | fuel+1,listed,T,H=>(Region.ready md ops listed=[]→K T H)∧∀i ∈ Region.ready md ops listed,iH P r ops (R i) i T H (gO P r ops md R K fuel (listed.setIfInBounds i true))
theorem iH.mono {R R' : AH→Prop} {i:Nat} {T:List AV} {H:AH} {K K' : List AV→AH→Prop} (hR : ∀H,R H→R' H) (hK : ∀T H,K T H→K' T H) (h:iH P r ops R i T H K):iH P r ops R' i T H K':=by
 unfold iH at *
 cases ho:ops[i]? with
 | none=>rw [ho] at h;exact hK _ _ h
 | some o =>
  rw [ho] at h
  rcases h with ⟨v,h1,h2⟩ | ⟨h1,h2⟩
  ·exact .inl ⟨v,h1,hK _ _ h2⟩
  ·exact .inr ⟨h1,h2.mono fun v H' h=>⟨hR _ h.1,hK _ _ h.2⟩⟩
theorem gO.mono {R R' : Nat→AH→Prop} {K:List AV→AH→Prop} (hR : ∀j H,R j H→R' j H) : ∀ {fuel:Nat} {listed:Array Bool} {T:List AV} {H:AH},gO P r ops md R K fuel listed T H→gO P r ops md R' K fuel listed T H
 | 0,_,_,_,h=>h
 | _+1,_,_,_,h=>⟨h.1,fun i hi=>(h.2 i hi).mono (hR i) fun _ _=>gO.mono hR⟩
def ru (md:Region.Mode) (ops:Array Oper) (kU:Nat→Nat→Bool):Prop :=
 ∀j o,ops[j]? = some o→∀i,kU j i=true→∃e ∈ o.after,Region.binds md e=true∧(e.on=i∨kU e.on i=true)
def Closed (kU:Nat→Nat→Bool) (listed:Array Bool):Prop:=∀j i,listed.getD j false=true→kU j i=true→listed.getD i false=true
theorem Closed.pI (hA:ru md ops kU) {listed:Array Bool} (hc:Closed kU listed) {j:Nat} (hj:j ∈ Region.ready md ops listed) {i:Nat} (h:kU j i=true):listed.getD i false=true:=by
 obtain ⟨_,o,ho,jo⟩:=mem_ready.1 hj
 obtain ⟨e,he,hb,h'⟩:=hA j o ho i h
 have:=jo e he hb
 rcases h' with rfl | h'
 ·exact this
 ·exact hc _ _ this h'
theorem Closed.list (hA:ru md ops kU) {listed:Array Bool} (hc:Closed kU listed) {j:Nat} (hj:j ∈ Region.ready md ops listed):Closed kU (listed.setIfInBounds j true):=by
 intro k i hk h
 by_cases e:j=k
 ·subst e;exact getD_set_true (hc.pI hA hj h)
 ·rw [getD_set_ne false e] at hk
  exact getD_set_true (hc k i hk h)
theorem iH.put {R:AH→Prop} {j:Nat} {oi oj:Oper} {v:AV} (hj:ops[j]? = some oj) (O0:oi.apart ops oj=true) {T:List AV} {H:AH} {K:List AV→AH→Prop} {Y:AH→Prop} (hY:Y H)
  (h:iH P r ops (fun H'=>R H'∧Y H') j (aP T oi.dst v) H K):iH P r ops R j T H (fun T' H'=>(∃u,T'=aP T oj.dst u)∧Y H'∧K (aP T' oi.dst v) H'):=by
 obtain ⟨h1,h2,h3⟩:=Oper.apart_spec O0
 unfold iH at *
 rw [hj] at h ⊢
 rcases h with ⟨u,hs,hk⟩ | ⟨hw,hk⟩
 ·exact .inl ⟨u,(eC.put h1).1 hs,⟨u,rfl⟩,hY,by rw [← vD T v u h2];exact hk⟩
 ·rw [qw h1] at hw
  refine .inr ⟨hw,(hk.congr (wz h1)).mono fun u H' hu=>⟨hu.1.1,⟨u,rfl⟩,hu.1.2,?_⟩⟩
  rw [← vD T v u h2];exact hu.2
theorem gO.first (hA:ru md ops kU) {K:List AV→AH→Prop} {i:Nat} {oi:Oper} {v:AV} {T₀:List AV} (hi:ops[i]? = some oi) : ∀(fuel:Nat) (R:Nat→AH→Prop) (listed:Array Bool) (T:List AV) (H:AH),Closed kU listed →
  (∀j oj,ops[j]? = some oj→j ≠ i→listed.getD j true=false→(∀e ∈ oj.after,Region.binds md e=true→e.on ≠ i)→oi.apart ops oj=true) →
  i ∈ Region.ready md ops listed→(∀H',eC P ops oi T H' v↔eC P ops oi T₀ H' v)→eC P ops oi T₀ H v →
  gO P r ops md (fun j H'=>R j H'∧(kU j i=false→eC P ops oi T₀ H' v)) K fuel (listed.setIfInBounds i true) (aP T oi.dst v) H→gO P r ops md R K (fuel+1) listed T H:=by
 intro fuel
 induction fuel with
 | zero =>
  intro R listed T H hc Aw hr hT hy H0
  refine ⟨fun h=>(by rw [h] at hr;cases hr),fun j hj=>?_⟩
  by_cases yT:j=i
  ·subst yT
   unfold iH;rw [hi]
   exact .inl ⟨v,(hT H).2 hy,gO.mono (fun _ _ h=>h.1) H0⟩
  ·have:=ready_mono hj yT
   rw [H0.1] at this
   cases this
 | succ fuel ih =>
  intro R listed T H hc Aw hr hT hy H0
  refine ⟨fun h=>(by rw [h] at hr;cases hr),fun j hj=>?_⟩
  by_cases yT:j=i
  ·subst yT
   unfold iH;rw [hi]
   exact .inl ⟨v,(hT H).2 hy,gO.mono (fun _ _ h=>h.1) H0⟩
  ·have h1:=H0.2 j (ready_mono hj yT)
   obtain ⟨QK,oj,WE,jo⟩:=mem_ready.1 hj
   have NY:listed.getD i false=false:=by
    have h0:=(mem_ready.1 hr).1
    rcases Nat.lt_or_ge i listed.size with h' | h'
    ·simp [h'] at h0 ⊢;exact h0
    ·simp [Array.getElem?_eq_none h'] at h0
   have UU:kU j i=false:=by
    cases e:kU j i with
    | false=>rfl
    | true=>rw [hc.pI hA hj e] at NY;cases NY
   have Uo : ∀e ∈ oj.after,Region.binds md e=true→e.on ≠ i:=fun e he hb heq=>by
    have h1:=jo e he hb
    rw [heq,NY] at h1;cases h1
   have O0:=Aw j oj WE yT QK Uo
   have h2:=iH.put (R:=R j) (Y:=fun H'=>eC P ops oi T₀ H' v) WE O0 hy (h1.mono (R':=fun H'=>R j H'∧eC P ops oi T₀ H' v) (fun H' h=>⟨h.1,h.2 UU⟩) fun _ _ h=>h)
   have N2 : ∀k ok,ops[k]? = some ok→k ≠ i→(listed.setIfInBounds j true).getD k true=false →
     (∀e ∈ ok.after,Region.binds md e=true→e.on ≠ i)→oi.apart ops ok=true:=fun k ok hk Y8 OQ WI=>by
    refine Aw k ok hk Y8 ?_ WI
    by_cases WQ:j=k
    ·subst WQ;exact QK
    ·rw [getD_set_ne true WQ] at OQ;exact OQ
   refine h2.mono (fun _ h=>h) ?_
   rintro T' H' ⟨⟨u,rfl⟩,Yu,hk⟩
   refine ih R (listed.setIfInBounds j true) _ H' (hc.list hA hj) N2 (ready_mono hr (Ne.symm yT)) (fun nv=>?_) Yu ?_
   ·rw [eC.put (Oper.apart_spec O0).2.2];exact hT nv
   ·rw [Array.setIfInBounds_comm _ _ yT];exact hk
/-! ### The walk -/
def nS:Op→Bool
 | .move _ | .assign _ | .pick .. | .build .. | .nilCheck _ | .binOp .. | .unOp .. | .makeInterface .. | .makeFunc .. | .fieldAddr .. | .field .. | .indexAddr .. | .index .. | .typeAssert .. | .extract ..=>true
 | _=>false
theorem AA {o:Oper} {T:List AV} {H H' : AH} {v:AV} (hf:nS o.op=true) (h:pK P T H o=some (v,H)):pK P T H' o=some (v,H'):=by
 obtain ⟨dst,op,ty,pos,after,guard⟩:=o
 have key : ∀ {x:Option AV},x.map (·,H)=some (v,H)→x.map (·,H')=some (v,H'):=fun h=>by
  obtain ⟨z,hz,h⟩:=Option.map_eq_some_iff.1 h
  simp only [Prod.mk.injEq,and_true] at h
  subst h;rw [hz];rfl
 cases op <;> simp only [nS,Bool.false_eq_true] at hf <;> simp only [pK] at h ⊢
 case move=>exact key h
 case assign=>exact key h
 case pick =>
  obtain ⟨z,hz,h⟩:=Option.bind_eq_some_iff.1 h
  rw [hz];simp only [Option.bind_some]
  split at h
  ·exact key h
  ·exact key h
  ·cases h
 case build=>obtain ⟨z,hz,h⟩:=Option.bind_eq_some_iff.1 h;rw [hz];exact key h
 case nilCheck =>
  obtain ⟨z,hz,h⟩:=Option.bind_eq_some_iff.1 h
  rw [hz];simp only [Option.bind_some]
  split at h
  ·rename_i od
   simp only [Option.some.injEq,Prod.mk.injEq,and_true] at h
   subst h
   rw [if_pos od]
  ·cases h
 case binOp=>obtain ⟨z,hz,h⟩:=Option.bind_eq_some_iff.1 h;obtain ⟨z',iM,h⟩:=Option.bind_eq_some_iff.1 h;rw [hz,Option.bind_some,iM];exact key h
 case unOp=>obtain ⟨z,hz,h⟩:=Option.bind_eq_some_iff.1 h;rw [hz];exact key h
 case makeInterface =>
  obtain ⟨z,hz,h⟩:=Option.bind_eq_some_iff.1 h
  rw [hz];simp only [Option.bind_some]
  split at h
  ·cases h
  ·rename_i d Ij hu
   simp only [Option.some.injEq,Prod.mk.injEq,and_true] at h
   subst h
   cases d <;> first | rfl | exact absurd rfl (Ij _)
  ·cases h
 case makeFunc =>
  obtain ⟨z,hz,h⟩:=Option.bind_eq_some_iff.1 h;obtain ⟨z',iM,h⟩:=Option.bind_eq_some_iff.1 h
  rw [hz,Option.bind_some,iM]
  simp only [Option.some.injEq,Prod.mk.injEq,and_true] at h
  subst h;rfl
 case fieldAddr=>obtain ⟨z,hz,h⟩:=Option.bind_eq_some_iff.1 h;rw [hz];exact key h
 case field=>obtain ⟨z,hz,h⟩:=Option.bind_eq_some_iff.1 h;rw [hz];exact key h
 case indexAddr=>obtain ⟨z,hz,h⟩:=Option.bind_eq_some_iff.1 h;obtain ⟨z',iM,h⟩:=Option.bind_eq_some_iff.1 h;rw [hz,Option.bind_some,iM];exact key h
 case index=>obtain ⟨z,hz,h⟩:=Option.bind_eq_some_iff.1 h;obtain ⟨z',iM,h⟩:=Option.bind_eq_some_iff.1 h;rw [hz,Option.bind_some,iM];exact key h
 case typeAssert=>obtain ⟨z,hz,h⟩:=Option.bind_eq_some_iff.1 h;rw [hz];exact key h
 case extract =>
  obtain ⟨z,hz,h⟩:=Option.bind_eq_some_iff.1 h
  rw [hz];simp only [Option.bind_some]
  split at h
  ·exact key h
  ·cases h
abbrev qt:=List (Nat×Oper×List AV×AV)
def xA (P:Program) (ops:Array Oper) (kU:Nat→Nat→Bool) (i:Nat) (H:AH) (aV:qt):Prop:=∀p ∈ aV,kU i p.1=false→eC P ops p.2.1 p.2.2.1 H p.2.2.2
def fW (P:Program) (r:Option Nat) (ops:Array Oper) (kU:Nat→Nat→Bool) (K:List AV→AH→Prop):List (Nat×Nat)→qt→List AV→AH→Prop
 | [],_,T,H=>K T H
 | (i,k) :: σ,aV,T,H=>∃o,ops[i]? = some o ∧
  if k=2 then (aO ops T o=some false∧fW P r ops kU K σ aV (aP T o.dst .undef) H) ∨
    (aO ops T o=some true∧jw P r o T H fun v H'=>xA P ops kU i H' aV∧fW P r ops kU K σ aV (aP T o.dst v) H')
  else ∃v,eC P ops o T H v∧fW P r ops kU K σ (if k=0 then aV else (i,o,T,v) :: aV) (aP T o.dst v) H
def jt (md:Region.Mode) (ops:Array Oper):List (Nat×Nat)→Array Bool→Bool
 | [],listed=>(Region.ready md ops listed).isEmpty
 | (i,k) :: σ,listed =>
  (match ops[i]? with
   | none=>false
   | some o=>if k=2 then Region.ready md ops listed == [i] else (Region.ready md ops listed).contains i && Region.free md ops listed i && (k != 0 || nS o.op)) && jt md ops σ (listed.setIfInBounds i true)
theorem fW.any (hA:ru md ops kU) {K:List AV→AH→Prop} : ∀ {σ:List (Nat×Nat)} {listed:Array Bool} {aV:qt} {T:List AV} {H:AH},jt md ops σ listed=true→Closed kU listed→fW P r ops kU K σ aV T H →
  gO P r ops md (fun j H'=>xA P ops kU j H' aV) K σ.length listed T H
 | [],listed,aV,T,H,hd,_,h=>⟨by simpa [jt] using hd,h⟩
 | (i,k) :: σ,listed,aV,T,H,hd,hc,h=>by
  obtain ⟨o,ho,h⟩:=h
  simp only [jt,ho,Bool.and_eq_true] at hd
  obtain ⟨hd,Ax⟩:=hd
  by_cases hk:k=2
  ·rw [if_pos hk] at hd h
   have hr:Region.ready md ops listed=[i]:=by simpa using hd
   refine ⟨fun h=>(by rw [hr] at h;cases h),fun j hj=>?_⟩
   have Ir:j=i:=by rw [hr] at hj;simpa using hj
   subst Ir
   have ye:=hc.list hA hj
   unfold iH;rw [ho]
   rcases h with ⟨hw,h⟩ | ⟨hw,h⟩
   ·exact .inl ⟨.undef,.inl ⟨hw,rfl⟩,fW.any hA Ax ye h⟩
   ·exact .inr ⟨hw,h.mono fun v H' hv=>⟨hv.1,fW.any hA Ax ye hv.2⟩⟩
  ·rw [if_neg hk] at hd h
   simp only [Bool.and_eq_true] at hd
   obtain ⟨⟨hr,hf⟩,Aw⟩:=hd
   obtain ⟨v,hv,h⟩:=h
   have DE:i ∈ Region.ready md ops listed:=by simpa using hr
   refine gO.first hA (T₀:=T) ho σ.length _ listed T H hc (Region.free_spec ho hf) DE (fun _=>Iff.rfl) hv ?_
   refine gO.mono (fun j H' hp=>?_) (fW.any hA Ax (hc.list hA DE) h)
   by_cases h0:k=0
   ·rw [if_pos h0] at hp
    refine ⟨hp,fun _=>?_⟩
    rcases hv with ⟨hw,e⟩ | ⟨hw,e⟩
    ·exact .inl ⟨hw,e⟩
    ·exact .inr ⟨hw,AA (by simpa [h0] using Aw) e⟩
   ·rw [if_neg h0] at hp
    exact ⟨fun p tR=>hp p (List.mem_cons_of_mem _ tR),hp (i,o,T,v) (by simp)⟩
theorem gO.JU {R:Nat→AH→Prop} {K:List AV→AH→Prop} {B:eS} {M:List Mk} {rc:Option Nat} {Qc:Exit→Act→World→Prop} : ∀ {fuel:Nat} {listed:Array Bool} {T:List AV} {H:AH} {E:Env} {a:Act} {w:World},
  gO P r ops md R K fuel listed T H→HR P E B H w→aI E T a.tmps.toList→MR B.D E M a.defers→RR E r rc →
  (∀T' H' E' a' w',K T' H'→E.le E'→HR P E' B H' w'→aI E' T' a'.tmps.toList→MR B.D E' M a'.defers→Below B w w'→Qc .normal a' w')→wpAnyIn (Fr rc) 0 P md ops Qc fuel listed a w
 | 0,listed,T,H,E,a,w,h,hH,hT,hM,hr,hq=>⟨h.1,hq T H E a w h.2 (Env.le.refl E) hH hT hM (Below.refl B w)⟩
 | fuel+1,listed,T,H,E,a,w,h,hH,hT,hM,hr,hq=>by
  refine ⟨fun h0=>hq T H E a w (h.1 h0) (Env.le.refl E) hH hT hM (Below.refl B w),fun i hi=>?_⟩
  have hs:=h.2 i hi
  unfold iH at hs
  unfold wpOpIn
  cases ho:ops[i]? with
  | none =>
   rw [ho] at hs
   exact gO.JU hs hH hT hM hr hq
  | some o =>
   rw [ho] at hs
   have step : ∀ {K' : AV→AH→Prop},aO ops T o=some true→jw P r o T H K'→(∀v H',K' v H'→gO P r ops md R K fuel (listed.setIfInBounds i true) (aP T o.dst v) H') →
     (if Region.wanted o (yielded ops a.tmps) then o.wpIn (Fr rc) 0 P a w (wpAnyIn (Fr rc) 0 P md ops Qc fuel (listed.setIfInBounds i true)) Qc
      else (∀f,o.about P w a.eval=some f→(Fr rc).fn f)∧wpAnyIn (Fr rc) 0 P md ops Qc fuel (listed.setIfInBounds i true) (a.put o.dst undef) w):=by
    intro K' hw Bf hK
    rw [if_pos (dD (a:=a) hT hw)]
    refine Bf E B w a rc _ Qc hH (nu.of hH hT _) hr ?_
    intro v H' E' w' x hk hE gX hv hb
    exact gO.JU (hK v H' hk) gX ((aI.mono hE _ _ hT).put o.dst hv) (by rw [put_defers];exact hM.mono hE) (hr.mono hE)
     fun T' nv Bk a' Bn Gk gY h1 h2 h3 h4=>hq T' nv Bk a' Bn Gk (hE.trans gY) h1 h2 h3 (hb.trans h4)
   rcases hs with ⟨v,⟨hw,rfl⟩ | ⟨hw,hv⟩,hk⟩ | ⟨hw,Bf⟩
   ·simp only [dD (a:=a) hT hw,Bool.false_eq_true,if_false]
    refine ⟨fun _ _=>trivial,?_⟩
    exact gO.JU hk hH (hT.put o.dst (v:=.undef) (x:=undef) ⟨#[],rfl,rfl⟩) (by rw [put_defers];exact hM) hr hq
   ·exact step (K':=fun v' H'=>v'=v∧H'=H) hw (jw.nK hv ⟨rfl,rfl⟩) (by rintro _ _ ⟨rfl,rfl⟩;exact hk)
   ·exact step hw Bf fun v H' h=>h.2
theorem bC.draw {id:Nat} {σ:List (Nat×Nat)} {Q:dm→St→Prop} {s:St} (hm:P.follows .mixedOrders=true) (hA:ru .any ops kU) (hd:jt .any ops σ (Array.replicate ops.size false)=true) (hl:σ.length=ops.size)
  (h:fW P r ops kU (fun T H=>Q .normal ⟨T,s.M,H⟩) σ [] s.T s.H):bC P r (.region id ops true) Q s:=by
 intro E B w a rc hs hr
 have hc:Closed kU (Array.replicate ops.size false):=fun j i hj _=>by
  exfalso
  rcases Nat.lt_or_ge j ops.size with h' | h' <;> simp [h'] at hj
 have CC:Below B w { w with drawn:=w.drawn+1 }:=⟨rfl,rfl,rfl,Nat.le_refl _,fun _ _=>rfl⟩
 refine wpIn_region_any hm ?_
 rw [← hl]
 rw [← hl] at hd hc
 refine (h.any hA hd hc).JU (hs.heap.world rfl) hs.tmps hs.marks hr ?_
 intro T' H' E' a' w' hq hE h1 h2 h3 h4
 exact ⟨.normal,⟨T',s.M,H'⟩,E',rfl,hq,hE,⟨h1,h2,h3⟩,CC.trans h4⟩
/-! ### The table of what stands before what -/
def eR (A:List Nat) (j i:Nat):Bool:=(A[j]?.getD 0).testBit i
def LK (md:Region.Mode) (ops:Array Oper) (A:List Nat):Bool :=
 (List.range ops.size).all fun j =>
  match ops[j]? with
  | none=>true
  | some o=>(A[j]?.getD 0) == o.after.toList.foldl (fun m e=>if Region.binds md e then m ||| ((1 <<< e.on) ||| (A[e.on]?.getD 0)) else m) 0
theorem mP {A:List Nat} (h:LK md ops A=true):ru md ops (eR A):=by
 intro j o ho i hi
 have hj:j<ops.size:=(Array.getElem?_eq_some_iff.1 ho).1
 have:=List.all_eq_true.1 h j (List.mem_range.2 hj)
 simp only [ho,beq_iff_eq] at this
 unfold eR at hi
 rw [this] at hi
 have key : ∀(l:List Edge) (m:Nat),(l.foldl (fun m e=>if Region.binds md e then m ||| ((1 <<< e.on) ||| (A[e.on]?.getD 0)) else m) m).testBit i=true →
   m.testBit i=true∨∃e ∈ l,Region.binds md e=true∧(e.on=i∨eR A e.on i=true):=by
  intro l
  induction l with
  | nil=>intro m h;exact .inl h
  | cons e l ih =>
   intro m h
   rcases ih _ h with h | ⟨e',Zq,h⟩
   ·simp only [] at h
    split at h
    ·rename_i hb
     rw [Nat.testBit_or,Nat.testBit_or] at h
     simp only [Bool.or_eq_true] at h
     rcases h with h | h | h
     ·exact .inl h
     ·refine .inr ⟨e,by simp,hb,.inl ?_⟩
      rw [Nat.one_shiftLeft,Nat.testBit_two_pow] at h
      simpa using h
     ·exact .inr ⟨e,by simp,hb,.inr h⟩
    ·exact .inl h
   ·exact .inr ⟨e',by simp [Zq],h⟩
 rcases key _ _ hi with h | ⟨e,he,h⟩
 ·simp at h
 ·exact ⟨e,by simpa using he,h⟩
end
end Go.Am
end
/- The abstract machine: allocations that nothing stands before float over a region's other operations; they are hidden until the others are through. -/
section
namespace Go.Am
open Go.RowKit
def eS.Cx (B:eS) (p:Nat→Prop):eS:=⟨fun k=>B.on k∨p k,B.D⟩
section
variable {P:Program} {E:Env} {B B' : eS} {H:AH} {w w' : World}
theorem OR.AT {L:Loc} {o:aS} (h:OR P E B w L o) (k:o.owns=true→¬ B L.bB→¬ B' L.bB):OR P E B' w L o:=by
 cases o with
 | cells cs e fl =>
  obtain ⟨X,lo,hi,h1,h2,h3,h4,h5,h6,h7⟩:=h
  exact ⟨X,lo,hi,h1,h2,h3,h4,h5,fun ho=>⟨k ho (h6 ho).1,(h6 ho).2⟩,h7⟩
 | dead=>trivial
 | iter s pos=>exact ⟨h.1,k rfl h.2.1,h.2.2⟩
 | loop st pe T ps as bd d =>
  obtain ⟨fn,tmps,Ld,h1,h2,h3,h4⟩:=h
  exact ⟨fn,tmps,Ld,h1,h2,h3,k rfl h4⟩
 | deferred=>exact ⟨h.1,k rfl h.2⟩
 | map es c=>obtain ⟨Bd,h1,h2,h3⟩:=h;exact ⟨Bd,h1,h2,k rfl h3⟩
theorem OR.off {L:Loc} {o:aS} (h:OR P E B w L o) (ho:o.owns=true) : ¬ B L.bB:=by
 cases o with
 | cells cs e fl=>obtain ⟨X,lo,hi,h1,h2,h3,h4,h5,h6,h7⟩:=h;exact (h6 ho).1
 | dead=>cases ho
 | iter s pos=>exact h.2.1
 | loop st pe T ps as bd d=>obtain ⟨fn,tmps,Ld,h1,h2,h3,h4⟩:=h;exact h4
 | deferred=>exact h.2
 | map es c=>obtain ⟨Bd,h1,h2,h3⟩:=h;exact h3
theorem HR.ud (h:HR P E B H w) (k : ∀x,B' x→B x):HR P E B' H w :=
 ⟨h.yy,fun b o hb=>by obtain ⟨L,hL,ho⟩:=h.obj b o hb;exact ⟨L,hL,ho.AT fun _ n hx=>n (k _ hx)⟩,fun x hx=>h.base x (k x hx),h.jI,h.sep⟩
theorem Below.ud (h:Below B w w') (k : ∀x,B' x→B x):Below B' w w':=⟨h.os,h.tape,h.output,h.size,fun x hx=>h.block x (k x hx)⟩
theorem HR.UD (h:HR P E B H w) (k : ∀x,B' x→B x∨x=w.heap.size) (o:Obj):HR P E B' H (w.alloc o):=by
 refine ⟨h.yy,fun b x hb=>?_,fun x hx=>?_,h.jI,h.sep⟩
 ·obtain ⟨L,hL,ho⟩:=h.obj b x hb
  refine ⟨L,hL,?_⟩
  by_cases hl:x.live=true
  ·have cv:=ho.nY hl
   exact (ho.same (Env.le.refl E) (Below.heap_alloc _ _ _ cv)).AT fun _ n hx=>(k _ hx).elim n fun e=>by omega
  ·cases x <;> first | trivial | exact absurd rfl hl
 ·rcases k x hx with hx | rfl
  ·have:=h.base x hx;simp;omega
  ·simp
theorem HR.late (h:HR P E B H w) {bB:Nat} {cs:List AV} {e:TypeId} {X:Array Value} (hw:w.heap[bB]? = some (.cells X e (0,0))) (hX : ∀E,aI E cs X.toList) (ga : ∀v ∈ cs,v.one=true)
  (hb:B bB) (hB : ∀x,B' x→B x) (eu : ¬ B' bB) (QG : ∀b o L,H.get b=some o→o.owns=false→o.live=true→E b=some L→L.bB ≠ bB) :
  HR P (E.put H.n ⟨bB,0,cs.length,P.cellsOf e,0⟩) B' (H.alloc (.cells cs e { whole:=true })) w:=by
 have hle:=h.eB ⟨bB,0,cs.length,P.cellsOf e,0⟩
 have cU : ∀b o L,H.get b=some o→o.live=true→E b=some L→L.bB ≠ bB:=by
  intro b o L hg hl hL
  by_cases ho:o.owns=true
  ·obtain ⟨M,hM,Fp⟩:=h.obj b o hg
   rw [hL] at hM;cases hM
   intro e;exact Fp.off ho (e ▸ hb)
  ·exact QG b o L hg (by simpa using ho) hl hL
 refine ⟨fun b M hb=>?_,fun b x hx=>?_,fun x hx=>h.base x (hB x hx),fun g hg=>by obtain ⟨M,h1,h2⟩:=h.jI g hg;exact ⟨M,hle _ _ h1,h2⟩,fun b b' x x' M M' Ss hx iB gN lU hM gm=>?_⟩
 ·unfold Env.put at hb
  by_cases e:b=H.n
  ·subst e;simp
  ·rw [if_neg e] at hb;have:=h.yy _ _ hb;simp;omega
 ·rw [AH.aa] at hx
  by_cases e' : b=H.n
  ·subst e'
   rw [if_pos rfl] at hx;cases hx
   refine ⟨_,fE _ _,X,0,0,hw,rfl,rfl,?_,?_,fun _=>⟨eu,fun k _ _ hk=>by omega,fun _=>.inl rfl⟩,fun _=>rfl,ga,fun _=>⟨rfl,?_,fun _ _=>rfl⟩⟩
   ·have:=(hX E).length;simp at this ⊢;omega
   ·have:=(hX (E.put H.n ⟨bB,0,cs.length,P.cellsOf e,0⟩));have hl:=this.length;rw [List.drop_zero,List.take_of_length_le (by omega)];exact this
   ·have:=(hX E).length;simp at this;omega
  ·rw [if_neg e'] at hx
   obtain ⟨M,hM,ho⟩:=h.obj b x hx
   exact ⟨M,hle _ _ hM,(ho.same hle rfl).AT fun _ n hx=>n (hB _ hx)⟩
 ·rw [AH.aa] at hx iB
  unfold Env.put at hM gm
  by_cases e:b=H.n
  ·rw [if_pos e] at hx hM
   rw [if_neg (fun e'=>Ss (e.trans e'.symm))] at iB gm
   cases hM
   exact fun e=>cU b' x' M' iB lU gm e.symm
  ·rw [if_neg e] at hx hM
   by_cases e' : b'=H.n
   ·rw [if_pos e'] at iB gm
    cases gm
    exact cU b x M hx (by cases x <;> simp_all [aS.owns,aS.live]) hM
   ·rw [if_neg e'] at iB gm
    exact h.sep b b' x x' M M' Ss hx iB gN lU hM gm
theorem sX {e:TypeId} {z:AV} (hz:zeroOf P e=some z) : ∃X:Array Value,(∀E,aI E z.cells X.toList)∧∀w,(Instr.alloc e true (.tuple #[])).run P w=.ok (.pointer (some ⟨w.heap.size,0,none⟩)) (w.alloc (.cells X e (0,0))):=by
 unfold zeroOf at hz
 obtain ⟨i,hi,iM⟩:=Option.bind_eq_some_iff.1 hz
 obtain ⟨x,hx,iM⟩:=Option.bind_eq_some_iff.1 iM
 refine ⟨x.cells,fun E=>(VR.of _ _ iM).cells (cI hz),fun w=>?_⟩
 simp [Instr.alloc,zeroValue,typeInfo,hi,hx,newVar,newRow]
theorem aI.LS : ∀ {xs:List AV} {ys:List Value} (d:Nat),aI E xs ys→aI E (xs.set d .any) ys
 | [],_,_,h=>h
 | x :: xs,_,d,h=>by
  obtain ⟨y,ys,rfl,h1,h2⟩:=h
  cases d with
  | zero=>exact ⟨y,ys,rfl,trivial,h2⟩
  | succ d=>exact ⟨y,ys,rfl,h1,aI.LS d h2⟩
end
structure ob where
 i:Nat
 d:Nat
 e:TypeId
 deriving DecidableEq
def Ge (cw:List ob) (i:Nat):Bool:=cw.any fun q=>q.i == i
theorem tI {cw:List ob} {i:Nat}:Ge cw i=true↔∃q ∈ cw,q.i=i:=by simp [Ge]
theorem Ff {cw:List ob} {i:Nat}:Ge cw i=false↔∀q ∈ cw,q.i ≠ i:=by simp [Ge]
def zc (P:Program) (e:TypeId):List AV :=
 match zeroOf P e with
 | some z=>z.cells
 | none=>[]
def ob.Ok (P:Program) (md:Region.Mode) (ops:Array Oper) (q:ob):Prop :=
 ∃ty pos after z,ops[q.i]? = some ⟨some q.d,.alloc q.e,ty,pos,after,none⟩∧(∀e ∈ after,Region.binds md e=false)∧zeroOf P q.e=some z∧z.cells.all AV.one=true
structure qu (P:Program) (md:Region.Mode) (ops:Array Oper) (n:Nat) (cw:List ob):Prop where
 le:n≤ops.size
 SS : ∀q ∈ cw,q.i<n∧q.Ok P md ops
 inj : ∀q ∈ cw,∀q' ∈ cw,q=q'∨(q.i ≠ q'.i∧q.d ≠ q'.d)
 nodup:cw.Nodup
 x : ∀i,i<n→Ge cw i=false→∀o,ops[i]? = some o→(∀e ∈ o.after,Region.binds md e=true→e.on<i)∧(∀g,o.guard=some g→g.1<n)∧∀q ∈ cw,o.dst ≠ some q.d
 y : ∀i,n≤i→∀o,ops[i]? = some o→∀j,j<n→∃e ∈ o.after,Region.binds md e=true∧e.on=j
def rQ:List ob→List AV→List AV
 | [],T=>T
 | q :: l,T=>rQ l (aP T (some q.d) .any)
def jG (P:Program):List ob→List AV→AH→List AV×AH
 | [],T,H=>(T,H)
 | q :: l,T,H=>jG P l (aP T (some q.d) (.ptr (some (H.n,0)))) (H.alloc (.cells (zc P q.e) q.e { whole:=true }))
theorem AX {E:Env} {X:List Value} : ∀(l:List ob) {T:List AV},aI E T X→aI E (rQ l T) X
 | [],_,h=>h
 | q :: l,_,h=>AX l (h.LS q.d)
theorem AY : ∀(l:List ob) (T:List AV) (d:Nat),(rQ l T).set d .any=rQ l (T.set d .any)
 | [],_,_=>rfl
 | q :: l,T,d=>by
  simp only [rQ,aP,AY l]
  by_cases h:q.d=d
  ·rw [h]
  ·rw [List.set_comm _ _ h]
theorem AZ : ∀ {l:List ob} {T:List AV} {q:ob},q ∈ l→(rQ l T).set q.d .any=rQ l T
 | p :: l,T,q,h=>by
  rcases List.mem_cons.1 h with rfl | h
  ·simp only [rQ,aP,AY,List.set_set]
  ·exact AZ (l:=l) (T:=aP T (some p.d) .any) h
structure M0 (P:Program) (B:eS) (S:Nat) (cw:List ob) (listed:Array Bool) (hb:Nat→Nat) (T:List AV) (a:Act) (w:World):Prop where
 any : ∀q ∈ cw,T.set q.d .any=T
 laid : ∀q ∈ cw,listed.getD q.i false=true→¬ B (hb q.i)∧S≤hb q.i∧a.tmps.toList.set q.d (.pointer (some ⟨hb q.i,0,none⟩))=a.tmps.toList ∧
  ∃X,w.heap[hb q.i]? = some (.cells X q.e (0,0))∧∀E,aI E (zc P q.e) X.toList
 inj : ∀q ∈ cw,∀q' ∈ cw,listed.getD q.i false=true→listed.getD q'.i false=true→hb q.i=hb q'.i→q.i=q'.i
 size:S≤w.heap.size
def Hid (cw:List ob) (listed:Array Bool) (hb:Nat→Nat) (k:Nat):Prop:=∃q ∈ cw,listed.getD q.i false=true∧hb q.i=k
def C2 (H₀ H:AH):Prop:=∀b o,H.get b=some o→o.owns=true∨o.live=false∨∃o₀,H₀.get b=some o₀∧o₀.live=true
theorem vO {P:Program} {B:eS} {S:Nat} {hb:Nat→Nat} {w:World} {a:Act} : ∀(l:List ob) {T:List AV} {H:AH} {E:Env},(∀q ∈ l,∀v ∈ zc P q.e,v.one=true) →
  l.Pairwise (fun q q'=>hb q.i ≠ hb q'.i) →
  (∀q ∈ l,¬ B (hb q.i)∧S≤hb q.i∧a.tmps.toList.set q.d (.pointer (some ⟨hb q.i,0,none⟩))=a.tmps.toList∧∃X,w.heap[hb q.i]? = some (.cells X q.e (0,0))∧∀E,aI E (zc P q.e) X.toList) →
  (∀b o L,H.get b=some o→o.owns=false→o.live=true→E b=some L→L.bB<S) →
  HR P E (B.Cx fun k=>∃q ∈ l,hb q.i=k) H w→aI E T a.tmps.toList→∃E',E.le E'∧HR P E' B (jG P l T H).2 w∧aI E' (jG P l T H).1 a.tmps.toList
 | [],T,H,E,_,_,_,_,hH,hT=>⟨E,Env.le.refl E,hH.ud fun _ hx=>.inl hx,hT⟩
 | q :: l,T,H,E,ga,hp,hq,hS,hH,hT=>by
  obtain ⟨q1,q2,q3,X,q4,q5⟩:=hq q (by simp)
  have tR:=List.pairwise_cons.1 hp
  have gX:=hH.late (B':=B.Cx fun k=>∃q ∈ l,hb q.i=k) q4 q5 (ga q (by simp)) (.inr ⟨q,by simp,rfl⟩)
   (fun x hx=>hx.imp id fun ⟨p,hp,hx⟩=>⟨p,by simp [hp],hx⟩)
   (fun hx=>hx.elim q1 fun ⟨p,hp,hx⟩=>tR.1 p hp hx.symm)
   (fun b o L h1 h2 h3 h4 e=>by have:=hS b o L h1 h2 h3 h4;omega)
  have hle:=hH.eB ⟨hb q.i,0,(zc P q.e).length,P.cellsOf q.e,0⟩
  have SD:aI (E.put H.n ⟨hb q.i,0,(zc P q.e).length,P.cellsOf q.e,0⟩) (T.set q.d (.ptr (some (H.n,0)))) a.tmps.toList:=by
   rw [← q3]
   exact (aI.mono hle _ _ hT).set q.d ⟨_,fE _ _,rfl⟩
  obtain ⟨E',k1,k2,k3⟩:=vO l (fun p hp=>ga p (by simp [hp])) tR.2 (fun p hp=>hq p (by simp [hp])) (fun b o L h1 h2 h3 h4=>by
   rw [AH.aa] at h1
   by_cases e:b=H.n
   ·rw [if_pos e] at h1;cases h1;cases h2
   ·rw [if_neg e] at h1
    unfold Env.put at h4
    rw [if_neg e] at h4
    exact hS b o L h1 h2 h3 h4) gX SD
  exact ⟨E',hle.trans k1,k2,k3⟩
def dQ (s n:Nat):Array Bool:=((List.range s).map fun i=>decide (i<n)).toArray
theorem l8 (s n i:Nat) (d:Bool) (h:i<s):(dQ s n).getD i d=decide (i<n):=by
 simp [dQ,Array.getD_eq_getD_getElem?,h]
theorem jJ {l:Array Bool} {i:Nat} (d d' : Bool) (h:i<l.size):l.getD i d=l.getD i d':=by
 simp [Array.getD_eq_getD_getElem?,h]
theorem nT (listed:Array Bool) : ∀n,(∀i,i<n→listed.getD i false=true)∨∃i,i<n∧listed.getD i false=false∧∀j,j<i→listed.getD j false=true
 | 0=>.inl fun i h=>by omega
 | n+1=>by
  rcases nT listed n with h | ⟨i,h1,h2⟩
  ·cases hn:listed.getD n false with
   | true =>
    refine .inl fun i hi=>?_
    rcases Nat.lt_succ_iff_lt_or_eq.1 hi with h' | rfl
    ·exact h i h'
    ·exact hn
   | false=>exact .inr ⟨n,by omega,hn,h⟩
  ·exact .inr ⟨i,by omega,h2⟩
theorem uh {l:Array Bool} {i f:Nat} (h:l.getD i true=false) (hc:l.toList.count false=f) : ∃f',f=f'+1∧(l.setIfInBounds i true).toList.count false=f':=by
 have hi:i<l.size:=by
  rcases Nat.lt_or_ge i l.size with h' | h'
  ·exact h'
  ·simp [Array.getD_eq_getD_getElem?,h'] at h
 have hg:l.toList[i]'(by simpa using hi)=false:=by simpa [Array.getD_eq_getD_getElem?,hi] using h
 have YV:0<l.toList.count false:=List.count_pos_iff.2 (hg ▸ List.getElem_mem _)
 refine ⟨f - 1,by omega,?_⟩
 rw [Array.toList_setIfInBounds,List.count_set (by simpa using hi),hg,if_pos (by decide),if_neg (by decide)]
 omega
section
variable {P:Program} {r:Option Nat} {md:Region.Mode} {ops:Array Oper} {n:Nat} {cw:List ob}
theorem mV {T:List AV} {o:Oper} (h : ∀g,o.guard=some g→g.1<n):aO (ops.extract 0 n) T o=aO ops T o:=by
 unfold aO
 cases hg:o.guard with
 | none=>rfl
 | some g =>
  obtain ⟨j,want⟩:=g
  have hj:j<n:=h _ hg
  have:(ops.extract 0 n)[j]? = ops[j]?:=by
   rw [Array.getElem?_extract]
   by_cases hs:j<ops.size
   ·rw [if_pos (by omega)];simp
   ·rw [if_neg (by omega)];simp;omega
  simp only [this]
structure A9 (ops:Array Oper) (n:Nat) (cw:List ob) (listed l1:Array Bool):Prop where
 s:listed.size=ops.size
 s1:l1.size=n
 back : ∀i,n≤i→listed.getD i false=false
 front : ∀i,i<n→l1.getD i true=(Ge cw i || listed.getD i true)
theorem A9.Pq {listed l1:Array Bool} (h:A9 ops n cw listed l1) {i:Nat} (hi:i<n):A9 ops n cw (listed.setIfInBounds i true) (l1.setIfInBounds i true):=by
 refine ⟨by simp [h.s],by simp [h.s1],fun j hj=>?_,fun j hj=>?_⟩
 ·rw [getD_set_ne false (by omega)];exact h.back j hj
 ·by_cases e:i=j
  ·subst e
   have h1:i<l1.size:=by rw [h.s1];exact hi
   rw [show (l1.setIfInBounds i true).getD i true=true by simp [Array.getD_eq_getD_getElem?,h1]]
   rcases Nat.lt_or_ge i listed.size with h2 | h2 <;> simp [Array.getD_eq_getD_getElem?,h2]
  ·rw [getD_set_ne true e,getD_set_ne true e];exact h.front j hj
theorem A9.ow {listed l1:Array Bool} (h:A9 ops n cw listed l1) {i:Nat} (hi:i<n) (hf:Ge cw i=true):A9 ops n cw (listed.setIfInBounds i true) l1:=by
 refine ⟨by simp [h.s],h.s1,fun j hj=>?_,fun j hj=>?_⟩
 ·rw [getD_set_ne false (by omega)];exact h.back j hj
 ·by_cases e:i=j
  ·subst e
   rw [h.front i hj,hf];rfl
  ·rw [getD_set_ne true e];exact h.front j hj
theorem pn (n:Nat) : ∀s,(dQ s n).toList.count false=s - n
 | 0=>by simp [dQ]
 | s+1=>by
  have ih:=pn n s
  simp only [dQ] at ih ⊢
  rw [List.range_succ,List.map_append,List.count_append,ih]
  by_cases h:s<n
  ·simp [h];omega
  ·simp [h];omega
theorem AD {i:Nat} (h:i<n):(ops.extract 0 n)[i]? = ops[i]?:=by
 rw [Array.getElem?_extract]
 by_cases hs:i<ops.size
 ·rw [if_pos (by omega)];simp
 ·rw [if_neg (by omega)];simp;omega
theorem qu.ga (hs:qu P md ops n cw) : ∀q ∈ cw,∀v ∈ zc P q.e,v.one=true:=by
 intro q hq v hv
 obtain ⟨-,ty,pos,after,z,e1,e2,e3,e4⟩:=hs.SS q hq
 simp only [zc,e3] at hv
 exact List.all_eq_true.1 e4 v hv
theorem gO.float {R:Nat→AH→Prop} {K₁:List AV→AH→Prop} {B:eS} {M:List Mk} {rc:Option Nat} {Qc:Exit→Act→World→Prop} {S:Nat} {E₀:Env} {H₀:AH} {m:Nat} (hs:qu P md ops n cw) (hm:m=ops.size - n)
  (hS : ∀b o₀,H₀.get b=some o₀→o₀.live=true→∃L,E₀ b=some L∧L.bB<S) (hK : ∀T H,K₁ T H→C2 H₀ H) :
  ∀ {fuel:Nat} {listed l1:Array Bool} {f1:Nat} {T:List AV} {H:AH} {E:Env} {a:Act} {w:World} {hb:Nat→Nat},listed.toList.count false=fuel→A9 ops n cw listed l1 →
  gO P r (ops.extract 0 n) md R K₁ f1 l1 T H→HR P E (B.Cx (Hid cw listed hb)) H w→aI E T a.tmps.toList→MR B.D E M a.defers→RR E r rc→M0 P B S cw listed hb T a w→E₀.le E →
  (∀T' H' E' a' w',K₁ T' H'→E.le E'→HR P E' B (jG P cw T' H').2 w'→aI E' (jG P cw T' H').1 a'.tmps.toList→MR B.D E' M a'.defers→Below B w w'→wpAnyIn (Fr rc) 0 P md ops Qc m (dQ ops.size n) a' w') →
  wpAnyIn (Fr rc) 0 P md ops Qc fuel listed a w:=by
 have done : ∀ {fuel:Nat} {listed l1:Array Bool} {f1:Nat} {T:List AV} {H:AH} {E:Env} {a:Act} {w:World} {hb:Nat→Nat},listed.toList.count false=fuel→A9 ops n cw listed l1 →
  gO P r (ops.extract 0 n) md R K₁ f1 l1 T H→HR P E (B.Cx (Hid cw listed hb)) H w→aI E T a.tmps.toList→MR B.D E M a.defers→M0 P B S cw listed hb T a w→E₀.le E →
  (∀T' H' E' a' w',K₁ T' H'→E.le E'→HR P E' B (jG P cw T' H').2 w'→aI E' (jG P cw T' H').1 a'.tmps.toList→MR B.D E' M a'.defers→Below B w w'→wpAnyIn (Fr rc) 0 P md ops Qc m (dQ ops.size n) a' w') →
  (∀i,i<n→listed.getD i false=true)→wpAnyIn (Fr rc) 0 P md ops Qc fuel listed a w:=by
  intro fuel listed l1 f1 T H E a w hb hc hB h hH hT hM hF hE hq jo
  have hl:listed=dQ ops.size n:=by
   apply Array.ext
   ·simp [hB.s,dQ]
   ·intro i h1 h2
    have hi:i<ops.size:=by rw [← hB.s];exact h1
    have e1:listed.getD i false=listed[i]:=by simp [Array.getD_eq_getD_getElem?,h1]
    have e2:(dQ ops.size n).getD i false=(dQ ops.size n)[i]:=by simp [Array.getD_eq_getD_getElem?,h2]
    rw [← e1,← e2,l8 _ _ _ _ hi]
    by_cases hn:i<n
    ·simp only [hn,decide_true];exact jo i hn
    ·simp only [hn,decide_false];exact hB.back i (by omega)
  have QW:fuel=m:=by rw [← hc,hl,pn,hm]
  have Uf:Region.ready md (ops.extract 0 n) l1=[]:=by
   cases hr:Region.ready md (ops.extract 0 n) l1 with
   | nil=>rfl
   | cons j js =>
    exfalso
    obtain ⟨j0,o,ho,_⟩:=mem_ready.1 (show j ∈ Region.ready md (ops.extract 0 n) l1 by rw [hr];simp)
    have hj:j<n:=by have:=(Array.getElem?_eq_some_iff.1 ho).1;simp at this;omega
    have Sv:j<listed.size:=by rw [hB.s];have:=hs.le;omega
    rw [hB.front j hj,jJ true false Sv,jo j hj] at j0
    simp at j0
  have CE:K₁ T H:=by
   cases f1 with
   | zero=>exact h.2
   | succ f1=>exact h.1 Uf
  have DG : ∀q ∈ cw,listed.getD q.i false=true:=fun q hq=>jo _ (hs.SS q hq).1
  obtain ⟨E',k1,k2,k3⟩:=vO (P:=P) (B:=B) (S:=S) (hb:=hb) (w:=w) (a:=a) cw (T:=T) (H:=H) (E:=E) hs.ga
   (hs.nodup.imp_of_mem fun {q q'} h1 h2 cU e=>cU ((hs.inj q h1 q' h2).resolve_right fun h=>h.1 (hF.inj q h1 q' h2 (DG q h1) (DG q' h2) e)))
   (fun q hq=>hF.laid q hq (DG q hq))
   (fun b o L h1 h2 h3 h4=>by
    rcases hK T H CE b o h1 with h | h | ⟨o₀,h5,h6⟩
    ·rw [h] at h2;cases h2
    ·rw [h] at h3;cases h3
    ·obtain ⟨L₀,h7,h8⟩:=hS b o₀ h5 h6
     have:=hE _ _ h7
     rw [this] at h4;cases h4;exact h8)
   (hH.ud fun x hx=>hx.imp id fun ⟨q,h1,h2⟩=>⟨q,h1,DG q h1,h2⟩) hT
  rw [QW,hl]
  exact hq T H E' a w CE k1 k2 k3 (hM.mono k1) (Below.refl B w)
 intro fuel
 induction fuel with
 | zero =>
  intro listed l1 f1 T H E a w hb hc hB h hH hT hM hr hF hE hq
  rcases nT listed n with jo | ⟨i0,QS,OV,Ip⟩
  ·exact done hc hB h hH hT hM hF hE hq jo
  ·exfalso
   have:i0<listed.size:=by rw [hB.s];have:=hs.le;omega
   obtain ⟨f',Fs,_⟩:=uh (by rw [jJ true false this];exact OV) hc
   omega
 | succ fuel ih =>
  intro listed l1 f1 T H E a w hb hc hB h hH hT hM hr hF hE hq
  rcases nT listed n with jo | ⟨i0,QS,OV,Ip⟩
  ·exact done hc hB h hH hT hM hF hE hq jo
  have Sg:i0<listed.size:=by rw [hB.s];have:=hs.le;omega
  refine ⟨fun h0=>?_,fun i hi=>?_⟩
  ·exfalso
   have QO:i0<ops.size:=by rw [← hB.s];exact Sg
   have:i0 ∈ Region.ready md ops listed:=by
    refine mem_ready.2 ⟨by rw [jJ true false Sg];exact OV,ops[i0],by simp [QO],fun e he Ix=>?_⟩
    cases hf:Ge cw i0 with
    | true =>
     obtain ⟨q,yS,rfl⟩:=tI.1 hf
     obtain ⟨-,ty,pos,after,z,e1,e2,e3,e4⟩:=hs.SS q yS
     rw [(Array.getElem?_eq_some_iff.1 e1).2] at he
     rw [e2 e he] at Ix;cases Ix
    | false=>exact Ip _ ((hs.x i0 QS hf ops[i0] (by simp [QO])).1 e he Ix)
   rw [h0] at this;cases this
  ·obtain ⟨h1,o,ho,jo⟩:=mem_ready.1 hi
   have iX:i<n:=by
    rcases Nat.lt_or_ge i n with h' | h'
    ·exact h'
    ·exfalso
     obtain ⟨e,Zp,QZ,Zo⟩:=hs.y i h' o ho i0 QS
     have:=jo e Zp QZ
     rw [Zo,OV] at this;cases this
   obtain ⟨f',Fs,ye⟩:=uh h1 hc
   obtain rfl:fuel=f':=by omega
   have N0:i<listed.size:=by rw [hB.s];have:=hs.le;omega
   cases hf:Ge cw i with
   | true =>
    obtain ⟨q,yS,rfl⟩:=tI.1 hf
    obtain ⟨-,ty,pos,after,z,e1,e2,e3,e4⟩:=hs.SS q yS
    have Ct:listed.getD q.i false=false:=by rw [jJ false true N0];exact h1
    obtain ⟨X,x1,x2⟩:=sX e3
    unfold wpOpIn
    rw [e1]
    simp only [Region.wanted,if_true]
    refine ⟨fun _ _=>trivial,?_⟩
    rw [dG rc _ _ (by simp)]
    have hx:(execOp a.eval ⟨some q.d,.alloc q.e,ty,pos,after,none⟩).run P w=.ok (.value (.pointer (some ⟨w.heap.size,0,none⟩))) (w.alloc (.cells X q.e (0,0))):=by
     have he:execOp a.eval ⟨some q.d,.alloc q.e,ty,pos,after,none⟩=(do pure (.value (← Instr.alloc q.e true (.tuple #[])))):=rfl
     rw [he];simp [x2]
    rw [hx,Oper.uponIn_value]
    have iY : ∀k,B k→k<w.heap.size:=fun k hk=>hH.base k (.inl hk)
    have uP : ∀p ∈ cw,p.i ≠ q.i→(listed.setIfInBounds q.i true).getD p.i false=listed.getD p.i false:=fun p _ hp=>getD_set_ne false (Ne.symm hp)
    have hw : ∀k,k<w.heap.size→(w.alloc (.cells X q.e (0,0))).heap[k]? = w.heap[k]?:=fun k hk=>Below.heap_alloc _ _ _ hk
    refine ih (hb:=fun j=>if j=q.i then w.heap.size else hb j) ye (hB.ow iX hf) h ?_ ?_ (by rw [put_defers];exact hM) hr ?_ hE ?_
    ·refine hH.UD ?_ _
     rintro x (hx | ⟨p,hp,Mo,NS⟩)
     ·exact .inl (.inl hx)
     ·simp only at NS
      by_cases e:p.i=q.i
      ·rw [if_pos e] at NS;exact .inr NS.symm
      ·rw [if_neg e] at NS;rw [uP p hp e] at Mo;exact .inl (.inr ⟨p,hp,Mo,NS⟩)
    ·have:=hT.set (x:=.any) (y:=.pointer (some ⟨w.heap.size,0,none⟩)) q.d trivial
     rw [hF.any q yS] at this
     simpa [Act.put] using this
    ·refine ⟨hF.any,fun p hp Mo=>?_,fun p hp p' tR k1 k2 k3=>?_,Nat.le_trans hF.size (by simp)⟩
     ·by_cases e:p.i=q.i
      ·obtain rfl:p=q:=(hs.inj p hp q yS).resolve_right fun h=>h.1 e
       simp only [if_true]
       refine ⟨fun hb=>Nat.lt_irrefl _ (iY _ hb),hF.size,by simp [Act.put],X,by simpa using World.alloc_heap_new w _,?_⟩
       simp only [zc,e3];exact x1
      ·rw [uP p hp e] at Mo
       simp only [if_neg e]
       obtain ⟨k1,k2,k3,Y,k4,k5⟩:=hF.laid p hp Mo
       refine ⟨k1,k2,?_,Y,by rw [hw _ (Array.getElem?_eq_some_iff.1 k4).1];exact k4,k5⟩
       have hd:q.d ≠ p.d:=fun e'=>(hs.inj p hp q yS).elim (fun h=>e (h ▸ rfl)) fun h=>h.2 e'.symm
       simp only [Act.put,Array.toList_setIfInBounds]
       rw [List.set_comm _ _ hd,k3]
     ·by_cases e:p.i=q.i
      ·by_cases e' : p'.i=q.i
       ·rw [e,e']
       ·exfalso
        rw [uP p' tR e'] at k2
        simp only [if_pos e,if_neg e'] at k3
        obtain ⟨_,_,_,Y,k4,_⟩:=hF.laid p' tR k2
        have:=(Array.getElem?_eq_some_iff.1 k4).1;omega
      ·by_cases e' : p'.i=q.i
       ·exfalso
        rw [uP p hp e] at k1
        simp only [if_pos e',if_neg e] at k3
        obtain ⟨_,_,_,Y,k4,_⟩:=hF.laid p hp k1
        have:=(Array.getElem?_eq_some_iff.1 k4).1;omega
       ·rw [uP p hp e] at k1;rw [uP p' tR e'] at k2
        simp only [if_neg e,if_neg e'] at k3
        exact hF.inj p hp p' tR k1 k2 k3
    ·intro T' H' E' a' w' k1 k2 k3 k4 k5 k6
     exact hq T' H' E' a' w' k1 k2 k3 k4 k5 (((Below.refl B w).alloc iY _).trans k6)
   | false =>
    have cU : ∀q ∈ cw,q.i ≠ i:=Ff.1 hf
    obtain ⟨x1,x2,x3⟩:=hs.x i iX hf o ho
    have vX:(ops.extract 0 n)[i]? = some o:=by rw [AD iX];exact ho
    have N1:i ∈ Region.ready md (ops.extract 0 n) l1:=by
     refine mem_ready.2 ⟨by rw [hB.front i iX,hf,h1];rfl,o,vX,fun e he Ix=>?_⟩
     have cv:=x1 e he Ix
     have:=jo e he Ix
     have hz:e.on<listed.size:=by omega
     have Cn:e.on<l1.size:=by rw [hB.s1];omega
     rw [jJ false true Cn,hB.front _ (by omega),jJ true false hz,this];simp
    have uP : ∀p ∈ cw,(listed.setIfInBounds i true).getD p.i false=listed.getD p.i false:=fun p hp=>getD_set_ne false (Ne.symm (cU p hp))
    cases f1 with
    | zero=>rw [h.1] at N1;cases N1
    | succ f1 =>
     have eF:=h.2 i N1
     unfold iH at eF
     rw [vX] at eF
     unfold wpOpIn
     rw [ho]
     have next : ∀ {v:AV} {x:Value} {H' : AH} {E' : Env} {w' : World},gO P r (ops.extract 0 n) md R K₁ f1 (l1.setIfInBounds i true) (aP T o.dst v) H'→E.le E'→HR P E' (B.Cx (Hid cw listed hb)) H' w'→VR E' v x→Below (B.Cx (Hid cw listed hb)) w w' →
       wpAnyIn (Fr rc) 0 P md ops Qc fuel (listed.setIfInBounds i true) (a.put o.dst x) w':=by
      intro v x H' E' w' hA gY gX hv eu
      have Gq:Below B w w':=eu.ud fun x hx=>.inl hx
      refine ih (hb:=hb) ye (hB.Pq iX) hA (gX.ud ?_) ((aI.mono gY _ _ hT).put o.dst hv) (by rw [put_defers];exact hM.mono gY) (hr.mono gY) ?_ (hE.trans gY) ?_
      ·rintro y (hy | ⟨p,hp,Mo,NS⟩)
       ·exact .inl hy
       ·rw [uP p hp] at Mo;exact .inr ⟨p,hp,Mo,NS⟩
      ·refine ⟨fun q hq=>?_,fun q hq yS=>?_,fun p hp p' tR k1 k2 k3=>?_,Nat.le_trans hF.size Gq.size⟩
       ·have:=x3 q hq
        cases hd:o.dst with
        | none=>exact hF.any q hq
        | some d =>
         have NU:d ≠ q.d:=fun e=>this (by rw [hd,e])
         simp only [aP]
         rw [List.set_comm _ _ NU,hF.any q hq]
       ·rw [uP q hq] at yS
        obtain ⟨k1,k2,k3,Y,k4,k5⟩:=hF.laid q hq yS
        refine ⟨k1,k2,?_,Y,by rw [eu.block _ (.inr ⟨q,hq,yS,rfl⟩)];exact k4,k5⟩
        have:=x3 q hq
        cases hd:o.dst with
        | none=>exact k3
        | some d =>
         have NU:d ≠ q.d:=fun e=>this (by rw [hd,e])
         simp only [Act.put,Array.toList_setIfInBounds]
         rw [List.set_comm _ _ NU,k3]
       ·rw [uP p hp] at k1;rw [uP p' tR] at k2
        exact hF.inj p hp p' tR k1 k2 k3
      ·intro T' nv Bk a' Bn k1 k2 k3 k4 k5 k6
       exact hq T' nv Bk a' Bn k1 (gY.trans k2) k3 k4 k5 (Gq.trans k6)
     have step : ∀ {K' : AV→AH→Prop},aO (ops.extract 0 n) T o=some true→jw P r o T H K'→(∀v H',K' v H'→gO P r (ops.extract 0 n) md R K₁ f1 (l1.setIfInBounds i true) (aP T o.dst v) H') →
       (if Region.wanted o (yielded ops a.tmps) then o.wpIn (Fr rc) 0 P a w (wpAnyIn (Fr rc) 0 P md ops Qc fuel (listed.setIfInBounds i true)) Qc
        else (∀f,o.about P w a.eval=some f→(Fr rc).fn f)∧wpAnyIn (Fr rc) 0 P md ops Qc fuel (listed.setIfInBounds i true) (a.put o.dst undef) w):=by
      intro K' hw Bf v9
      rw [mV x2] at hw
      rw [if_pos (dD (a:=a) hT hw)]
      refine Bf E (B.Cx (Hid cw listed hb)) w a rc _ Qc hH (nu.of hH hT _) hr ?_
      intro v H' E' w' x hk gY gX hv eu
      exact next (v9 v H' hk) gY gX hv eu
     rcases eF with ⟨v,⟨hw,rfl⟩ | ⟨hw,hv⟩,hk⟩ | ⟨hw,Bf⟩
     ·rw [mV x2] at hw
      simp only [dD (a:=a) hT hw,Bool.false_eq_true,if_false]
      exact ⟨fun _ _=>trivial,next hk (Env.le.refl E) hH ⟨#[],rfl,rfl⟩ (Below.refl _ w)⟩
     ·exact step (K':=fun v' H'=>v'=v∧H'=H) hw (jw.nK hv ⟨rfl,rfl⟩) (by rintro _ _ ⟨rfl,rfl⟩;exact hk)
     ·exact step hw Bf fun v H' h=>h.2
def u7 (n:Nat) (cw:List ob):Array Bool:=((List.range n).map (Ge cw)).toArray
theorem vS (n:Nat) (cw:List ob) (i:Nat) (d:Bool) (h:i<n):(u7 n cw).getD i d=Ge cw i:=by
 simp [u7,Array.getD_eq_getD_getElem?,h]
theorem bC.Oi {id:Nat} {σ₁ σ₂:List (Nat×Nat)} {Q:dm→St→Prop} {s:St} {kU:Nat→Nat→Bool} (hm:P.follows .mixedOrders=true) (hs:qu P .any ops n cw)
  (Rq:ru .any (ops.extract 0 n) kU) (Q1:jt .any (ops.extract 0 n) σ₁ (u7 n cw)=true) (Q3:Closed kU (u7 n cw))
  (Rp:ru .any ops kU) (Q0:jt .any ops σ₂ (dQ ops.size n)=true) (Q2:Closed kU (dQ ops.size n)) (hl:σ₂.length=ops.size - n)
  (h:fW P r (ops.extract 0 n) kU (fun T H=>C2 s.H H∧fW P r ops kU (fun T H=>Q .normal ⟨T,s.M,H⟩) σ₂ [] (jG P cw T H).1 (jG P cw T H).2) σ₁ [] (rQ cw s.T) s.H):bC P r (.region id ops true) Q s:=by
 intro E B w a rc Sp hr
 have CC:Below B w { w with drawn:=w.drawn+1 }:=⟨rfl,rfl,rfl,Nat.le_refl _,fun _ _=>rfl⟩
 refine wpIn_region_any hm ?_
 have OQ : ∀q ∈ cw,¬ (Array.replicate ops.size false).getD q.i false=true:=by
  intro q _ h
  rcases Nat.lt_or_ge q.i ops.size with h' | h' <;> simp [Array.getD_eq_getD_getElem?,h'] at h
 refine gO.float (S:=w.heap.size) (E₀:=E) (H₀:=s.H) (B:=B) (M:=s.M) (hb:=fun _=>0) (l1:=u7 n cw) hs hl ?_ (fun T H h=>h.1) (by simp) ?_ (h.any Rq Q1 Q3) ((Sp.heap.world (w':={ w with drawn:=w.drawn+1 }) rfl).ud ?_) (AX cw Sp.tmps) Sp.marks hr ?_ (Env.le.refl E) ?_
 ·intro b o hb ho
  obtain ⟨L,hL,Fp⟩:=Sp.heap.obj b o hb
  exact ⟨L,hL,Fp.nY ho⟩
 ·refine ⟨by simp,by simp [u7],fun i hi=>?_,fun i hi=>?_⟩
  ·rcases Nat.lt_or_ge i ops.size with h' | h' <;> simp [Array.getD_eq_getD_getElem?,h']
  ·have:=hs.le
   have v8:i<ops.size:=by omega
   rw [vS _ _ _ _ hi];simp [Array.getD_eq_getD_getElem?,v8]
 ·rintro x (hx | ⟨q,hq,yS,_⟩)
  ·exact hx
  ·exact (OQ q hq yS).elim
 ·exact ⟨fun q hq=>AZ hq,fun q hq h=>(OQ q hq h).elim,fun q hq _ _ h=>(OQ q hq h).elim,Nat.le_refl _⟩
 ·intro T' H' E' a' w' hk hE k1 k2 k3 k4
  rw [← hl] at *
  refine (hk.2.any Rp Q0 Q2).JU k1 k2 k3 (hr.mono hE) ?_
  intro T'' nv Bk a'' Bn hq gY h1 h2 h3 h4
  exact ⟨.normal,⟨T'',s.M,nv⟩,Bk,rfl,hq,hE.trans gY,⟨h1,h2,h3⟩,CC.trans (k4.trans h4)⟩
end
end Go.Am
end
/- The abstract machine's own run: a program that reckons what a statement, a call leaves. -/
section
namespace Go.Am
open Go.RowKit
/-! ### Equality of values, as far as it is wanted -/
mutual
def gK:AV→AV→Bool
 | .bool a,.bool b=>a == b
 | .int k n,.int l m=>decide (k=l) && decide (n=m)
 | .str s,.str t=>decide (s=t)
 | .ptr a,.ptr b=>decide (a=b)
 | .slice a l c,.slice b m d=>decide (a=b) && decide (l=m) && decide (c=d)
 | .nilFunc,.nilFunc=>true
 | .nilIface,.nilIface=>true
 | .agg a,.agg b=>mc a b
 | .tuple a,.tuple b=>mc a b
 | .iface t a,.iface u b=>decide (t=u) && gK a b
 | .func (.func f) a b,.func (.func g) c d=>decide (f=g) && mc a c && mc b d
 | .map a,.map b=>decide (a=b)
 | .half a b,.half c d=>decide (a=c) && b == d
 | .qz,.qz=>true
 | _,_=>false
def mc:List AV→List AV→Bool
 | [],[]=>true
 | a :: x,b :: y=>gK a b && mc x y
 | _,_=>false
end
mutual
theorem pF : ∀ {a b:AV},gK a b=true→a=b
 | .bool a,b,h=>by cases b <;> simp_all [gK]
 | .int k n,b,h=>by cases b <;> simp_all [gK]
 | .str s,b,h=>by cases b <;> simp_all [gK]
 | .ptr a,b,h=>by cases b <;> simp_all [gK]
 | .slice a l c,b,h=>by cases b <;> simp_all [gK]
 | .nilFunc,b,h=>by cases b <;> simp_all [gK]
 | .nilIface,b,h=>by cases b <;> simp_all [gK]
 | .cV _,b,h=>by simp [gK] at h
 | .func f x y,b,h=>by
  cases f with
  | func g =>
   cases b with
   | func f' u v =>
    cases f' with
    | func g' =>
     simp only [gK,Bool.and_eq_true,decide_eq_true_eq] at h
     obtain ⟨⟨h1,h2⟩,h3⟩:=h
     rw [h1,iF h2,iF h3]
    | _=>simp [gK] at h
   | _=>simp [gK] at h
  | _=>simp [gK] at h
 | .iface t x,b,h=>by
  cases b <;> simp only [gK,Bool.false_eq_true,Bool.and_eq_true,decide_eq_true_eq] at h
  rw [h.1,pF h.2]
 | .map a,b,h=>by cases b <;> simp_all [gK]
 | .half _ _,b,h=>by cases b <;> simp_all [gK]
 | .qz,b,h=>by cases b <;> simp_all [gK]
 | .any,b,h=>by simp [gK] at h
 | .agg a,b,h=>by
  cases b <;> simp only [gK,Bool.false_eq_true] at h
  rw [iF h]
 | .tuple a,b,h=>by
  cases b <;> simp only [gK,Bool.false_eq_true] at h
  rw [iF h]
theorem iF : ∀ {a b:List AV},mc a b=true→a=b
 | [],[],_=>rfl
 | [],_ :: _,h=>by simp [mc] at h
 | _ :: _,[],h=>by simp [mc] at h
 | a :: x,b :: y,h=>by
  simp only [mc,Bool.and_eq_true] at h
  rw [pF h.1,iF h.2]
end
/-! ### The order of a region -/
def cE:Op→Bool
 | .load .. | .slice .. | .convert ..=>true
 | .call ⟨.builtin b,_,_⟩=>match b with | .len | .cap | .min | .max=>true | _=>false
 | o=>nS o
def P4:AV→Bool
 | .int _ _=>true
 | .str _=>true
 | _=>false
def qn (op:Op) (v:AV):Bool :=
 match op with
 | .convert ..=>P4 v
 | _=>true
theorem AN {P:Program} {H H' : AH} {s d:TypeId} {x v:AV} (h:gF P H s d x=some (v,H')) (hi:P4 v=true):H'=H:=by
 unfold gF at h
 split at h
 ·cases h;rfl
 ·cases h;rfl
 ·cases h;rfl
 ·split at h
  ·split at h
   ·cases h;cases hi
   ·cases h
  ·cases h
 ·split at h
  ·split at h
   ·cases h;rfl
   ·cases h
  ·cases h
 ·split at h
  ·split at h
   ·cases h;rfl
   ·cases h
  ·cases h
 ·split at h
  ·cases h;rfl
  ·cases h
 ·split at h
  ·obtain ⟨z,hz,h⟩:=Option.bind_eq_some_iff.1 h
   obtain ⟨y,hy,h⟩:=Option.map_eq_some_iff.1 h
   cases h;rfl
  ·cases h
 ·split at h
  ·split at h
   ·cases h;cases hi
   ·cases h
  ·cases h
 ·cases h
theorem j6 {P:Program} {o:Oper} {T:List AV} {H H' : AH} {v:AV} (hf:cE o.op=true) (h:pK P T H o=some (v,H')) (hi:qn o.op v=true):H'=H:=by
 obtain ⟨dst,op,ty,pos,after,guard⟩:=o
 have key : ∀ {x:Option AV},x.map (·,H)=some (v,H')→H'=H:=fun h=>by
  obtain ⟨z,hz,h⟩:=Option.map_eq_some_iff.1 h
  exact (congrArg Prod.snd h).symm
 cases op <;> simp only [cE,nS,Bool.false_eq_true] at hf <;> simp only [pK] at h
 case move=>exact key h
 case assign=>exact key h
 case pick =>
  obtain ⟨z,hz,h⟩:=Option.bind_eq_some_iff.1 h
  split at h
  ·exact key h
  ·exact key h
  ·cases h
 case build=>obtain ⟨z,hz,h⟩:=Option.bind_eq_some_iff.1 h;exact key h
 case load=>obtain ⟨z,hz,h⟩:=Option.bind_eq_some_iff.1 h;exact key h
 case nilCheck =>
  obtain ⟨z,hz,h⟩:=Option.bind_eq_some_iff.1 h
  split at h
  ·simp only [Option.some.injEq,Prod.mk.injEq] at h;exact h.2.symm
  ·cases h
 case binOp=>obtain ⟨z,hz,h⟩:=Option.bind_eq_some_iff.1 h;obtain ⟨z',iM,h⟩:=Option.bind_eq_some_iff.1 h;exact key h
 case convert=>obtain ⟨z,hz,h⟩:=Option.bind_eq_some_iff.1 h;exact AN h hi
 case unOp=>obtain ⟨z,hz,h⟩:=Option.bind_eq_some_iff.1 h;exact key h
 case makeInterface =>
  obtain ⟨z,hz,h⟩:=Option.bind_eq_some_iff.1 h
  split at h
  ·cases h
  ·simp only [Option.some.injEq,Prod.mk.injEq] at h;exact h.2.symm
  ·cases h
 case makeFunc =>
  obtain ⟨z,hz,h⟩:=Option.bind_eq_some_iff.1 h;obtain ⟨z',iM,h⟩:=Option.bind_eq_some_iff.1 h
  simp only [Option.some.injEq,Prod.mk.injEq] at h;exact h.2.symm
 case slice =>
  obtain ⟨z,hz,h⟩:=Option.bind_eq_some_iff.1 h;obtain ⟨z',iM,h⟩:=Option.bind_eq_some_iff.1 h
  obtain ⟨z2,nQ,h⟩:=Option.bind_eq_some_iff.1 h;obtain ⟨z3,DC,h⟩:=Option.bind_eq_some_iff.1 h;exact key h
 case fieldAddr=>obtain ⟨z,hz,h⟩:=Option.bind_eq_some_iff.1 h;exact key h
 case field=>obtain ⟨z,hz,h⟩:=Option.bind_eq_some_iff.1 h;exact key h
 case indexAddr=>obtain ⟨z,hz,h⟩:=Option.bind_eq_some_iff.1 h;obtain ⟨z',iM,h⟩:=Option.bind_eq_some_iff.1 h;exact key h
 case index=>obtain ⟨z,hz,h⟩:=Option.bind_eq_some_iff.1 h;obtain ⟨z',iM,h⟩:=Option.bind_eq_some_iff.1 h;exact key h
 case typeAssert=>obtain ⟨z,hz,h⟩:=Option.bind_eq_some_iff.1 h;exact key h
 case extract =>
  obtain ⟨z,hz,h⟩:=Option.bind_eq_some_iff.1 h
  split at h
  ·exact key h
  ·cases h
 case call c =>
  obtain ⟨callee,args,ts⟩:=c
  cases callee with
  | value f=>simp at hf
  | invoke x m=>simp at hf
  | builtin b =>
   simp only at h
   obtain ⟨l,hl,h⟩:=Option.bind_eq_some_iff.1 h
   cases b <;> simp only [Bool.false_eq_true] at hf <;> unfold iE at h <;> split at h <;> first | contradiction | (exact key h) | (cases h)
def Ou (c:Bool):Op→Bool
 | .convert ..=>c
 | o=>cE o
def Ke (c:Bool) (ops:Array Oper) (ready:List Nat):Option (Nat×Nat) :=
 match ready.find? fun i=>match ops[i]? with | some o=>Ou c o.op | none=>false with
 | some i=>some (i,match ops[i]? with | some o=>if nS o.op then 0 else 1 | none=>2)
 | none=>match ready with
  | i :: _=>some (i,2)
  | []=>none
def rZ (c:Bool) (ops:Array Oper):Nat→Array Bool→List (Nat×Nat)
 | 0,_=>[]
 | n+1,listed =>
  match Ke c ops (Region.ready .any ops listed) with
  | some (i,k)=>(i,k) :: rZ c ops n (listed.setIfInBounds i true)
  | none=>[]
def sr (ops:Array Oper):List (Nat×Nat)→List Nat→List Nat
 | [],A=>A
 | (i,_) :: σ,A =>
  match ops[i]? with
  | some o=>sr ops σ (A.set i (o.after.toList.foldl (fun m e=>if Region.binds .any e then m ||| ((1 <<< e.on) ||| (A[e.on]?.getD 0)) else m) 0))
  | none=>sr ops σ A
def ug (c:Bool) (ops:Array Oper):Option (List (Nat×Nat)×List Nat) :=
 let σ:=rZ c ops ops.size (Array.replicate ops.size false)
 let A:=sr ops σ (List.replicate ops.size 0)
 if jt .any ops σ (Array.replicate ops.size false) && LK .any ops A && decide (σ.length=ops.size) && σ.all (fun p=>p.2 == 2 || match ops[p.1]? with | some o=>cE o.op | none=>false) then some (σ,A) else none
def nV (ops:Array Oper):Option (List (Nat×Nat)×List Nat) :=
 match ug false ops with
 | some x=>some x
 | none=>ug true ops
theorem wA {ops:Array Oper} {x:List (Nat×Nat)×List Nat} (h:nV ops=some x) : ∃c,ug c ops=some x:=by
 unfold nV at h
 split at h
 ·rename_i y hy;cases h;exact ⟨_,hy⟩
 ·exact ⟨_,h⟩
/-! ### Regions in which allocations float -/
def P3 (P:Program) (i:Nat):Oper→Option ob
 | ⟨some d,.alloc e,_,_,after,none⟩=>if after.all (fun e=>!Region.binds .any e) && (match zeroOf P e with | some z=>z.cells.all AV.one | none=>false) then some ⟨i,d,e⟩ else none
 | _=>none
def tZ (P:Program) (ops:Array Oper):List ob:=(List.range ops.size).filterMap fun i=>(ops[i]?).bind (P3 P i)
def yB (ops:Array Oper) (n:Nat):Bool:=(List.range ops.size).all fun i=>decide (i<n) || match ops[i]? with
 | some o=>(List.range n).all fun j=>o.after.any fun e=>Region.binds .any e && e.on == j
 | none=>true
def xB (ops:Array Oper) (n:Nat) (cw:List ob):Bool:=(List.range n).all fun i=>Ge cw i || match ops[i]? with
 | some o=>o.after.all (fun e=>!Region.binds .any e || decide (e.on<i)) && (match o.guard with | some g=>decide (g.1<n) | none=>true) && cw.all fun q=>decide (o.dst ≠ some q.d)
 | none=>true
def IF (ops:Array Oper) (n:Nat) (cw:List ob):Bool :=
 decide (n≤ops.size) && cw.all (fun q=>decide (q.i<n)) && cw.all (fun q=>cw.all fun q'=>decide (q=q') || (decide (q.i ≠ q'.i) && decide (q.d ≠ q'.d))) && decide cw.Nodup && xB ops n cw && yB ops n
theorem Fy {P:Program} {ops:Array Oper} {q:ob} (h:q ∈ tZ P ops):q.Ok P .any ops:=by
 obtain ⟨i,hi,h⟩:=List.mem_filterMap.1 h
 obtain ⟨o,ho,h⟩:=Option.bind_eq_some_iff.1 h
 obtain ⟨dst,op,ty,pos,after,guard⟩:=o
 unfold P3 at h
 split at h
 ·rename_i d e ty pos after heq
  cases heq
  simp only [Option.ite_none_right_eq_some,Option.some.injEq,Bool.and_eq_true] at h
  obtain ⟨⟨h1,h2⟩,rfl⟩:=h
  cases hz:zeroOf P e with
  | none=>rw [hz] at h2;cases h2
  | some z =>
   rw [hz] at h2
   refine ⟨ty,pos,after,z,ho,fun e he=>?_,hz,h2⟩
   have:=Array.all_eq_true_iff_forall_mem.1 h1 e he
   simpa using this
 ·cases h
theorem CG {P:Program} {ops:Array Oper} {n:Nat} (h:IF ops n (tZ P ops)=true):qu P .any ops n (tZ P ops):=by
 simp only [IF,Bool.and_eq_true,decide_eq_true_eq] at h
 obtain ⟨⟨⟨⟨⟨h1,h2⟩,h3⟩,h4⟩,h5⟩,h6⟩:=h
 refine ⟨h1,fun q hq=>⟨by simpa using List.all_eq_true.1 h2 q hq,Fy hq⟩,fun q hq q' va=>?_,h4,fun i hi hf o ho=>?_,fun i hi o ho j hj=>?_⟩
 ·have:=List.all_eq_true.1 (List.all_eq_true.1 h3 q hq) q' va
  simpa using this
 ·have:=List.all_eq_true.1 h5 i (List.mem_range.2 hi)
  simp only [hf,ho,Bool.false_or,Bool.and_eq_true] at this
  obtain ⟨⟨k1,k2⟩,k3⟩:=this
  refine ⟨fun e he hb=>?_,fun g hg=>?_,fun q hq=>?_⟩
  ·have:=Array.all_eq_true_iff_forall_mem.1 k1 e he
   simpa [hb] using this
  ·rw [hg] at k2;simpa using k2
  ·simpa using List.all_eq_true.1 k3 q hq
 ·have cv:i<ops.size:=(Array.getElem?_eq_some_iff.1 ho).1
  have:=List.all_eq_true.1 h6 i (List.mem_range.2 cv)
  have hn : ¬ i<n:=by omega
  simp only [ho,hn,decide_false,Bool.false_or] at this
  have:=List.all_eq_true.1 this j (List.mem_range.2 hj)
  obtain ⟨e,he,hb⟩:=Array.any_eq_true'.1 this
  simp only [Bool.and_eq_true,beq_iff_eq] at hb
  exact ⟨e,he,hb.1,hb.2⟩
structure rq where
 n:Nat
 cw:List ob
 front:List (Nat×Nat)
 back:List (Nat×Nat)
 A:List Nat
def BZ (ops:Array Oper) (σ:List (Nat×Nat)):Bool:=σ.all fun p=>p.2 == 2 || match ops[p.1]? with | some o=>cE o.op | none=>false
def Dg (ops:Array Oper) (p:rq):Bool :=
 IF ops p.n p.cw && LK .any (ops.extract 0 p.n) p.A && LK .any ops p.A && jt .any (ops.extract 0 p.n) p.front (u7 p.n p.cw) && jt .any ops p.back (dQ ops.size p.n) &&
  p.cw.all (fun q=>p.A[q.i]?.getD 0 == 0) && (List.range p.n).all (fun j=>decide (p.A[j]?.getD 0<2 ^ p.n)) && decide (p.back.length=ops.size - p.n) && BZ (ops.extract 0 p.n) p.front && BZ ops p.back
def xz (c:Bool) (ops:Array Oper) (n:Nat) (cw:List ob):rq :=
 ⟨n,cw,rZ c (ops.extract 0 n) n (u7 n cw),rZ c ops ops.size (dQ ops.size n),sr ops ((List.range ops.size).map fun i=>(i,0)) (List.replicate ops.size 0)⟩
def pT (P:Program) (ops:Array Oper):Option rq :=
 match tZ P ops with
 | []=>none
 | q :: l=>((List.range ops.size).find? fun n=>(q :: l).all (fun q=>decide (q.i<n)) && yB ops n).bind fun n =>
  if Dg ops (xz false ops n (q :: l)) then some (xz false ops n (q :: l)) else if Dg ops (xz true ops n (q :: l)) then some (xz true ops n (q :: l)) else none
theorem zR {P:Program} {ops:Array Oper} {p:rq} (h:pT P ops=some p):p.cw=tZ P ops∧Dg ops p=true:=by
 unfold pT at h
 split at h
 ·cases h
 ·rename_i q l hf
  obtain ⟨n,hn,h⟩:=Option.bind_eq_some_iff.1 h
  split at h
  ·rename_i hp;cases h;exact ⟨hf.symm,hp⟩
  ·split at h
   ·rename_i hp;cases h;exact ⟨hf.symm,hp⟩
   ·cases h
theorem FN {A:List Nat} {n:Nat} {cw:List ob} (h:cw.all (fun q=>A[q.i]?.getD 0 == 0)=true):Closed (eR A) (u7 n cw):=by
 intro j i hj ha
 exfalso
 have cv:j<n:=by
  rcases Nat.lt_or_ge j n with h' | h'
  ·exact h'
  ·simp [u7,Array.getD_eq_getD_getElem?,h'] at hj
 rw [vS _ _ _ _ cv] at hj
 obtain ⟨q,hq,rfl⟩:=tI.1 hj
 have:=List.all_eq_true.1 h q hq
 simp only [beq_iff_eq] at this
 unfold eR at ha
 rw [this] at ha;simp at ha
theorem AP {A:List Nat} {s n:Nat} (hn:n≤s) (h:(List.range n).all (fun j=>decide (A[j]?.getD 0<2 ^ n))=true):Closed (eR A) (dQ s n):=by
 intro j i hj ha
 have cv:j<n:=by
  rcases Nat.lt_or_ge j n with h' | h'
  ·exact h'
  ·rcases Nat.lt_or_ge j s with h2 | h2
   ·rw [l8 _ _ _ _ h2] at hj;simp at hj;omega
   ·simp [dQ,Array.getD_eq_getD_getElem?,h2] at hj
 have:=List.all_eq_true.1 h j (List.mem_range.2 cv)
 simp only [decide_eq_true_eq] at this
 have hi:i<n:=by
  rcases Nat.lt_or_ge i n with h' | h'
  ·exact h'
  ·exfalso
   unfold eR at ha
   rw [Nat.testBit_lt_two_pow (Nat.lt_of_lt_of_le this (Nat.pow_le_pow_right (by omega) h'))] at ha
   cases ha
 rw [l8 _ _ _ _ (by omega)];simpa using hi
def Tr.F0 {α:Type} (p:Nat→α→Bool):Tr α→Nat→Nat→Bool
 | .nil,_,_=>true
 | .node l v r,a,b=>(match v with | some x=>p b x | none=>true) && (l.F0 p (2*a) (a+b) && r.F0 p (2*a) (2*a+b))
theorem Tr.qq {α:Type} {p:Nat→α→Bool} : ∀ {t:Tr α} {a b j:Nat} {v:α},t.F0 p a b=true→t.get j=some v→p (a*j+b) v=true
 | .nil,_,_,_,_,_,h=>by simp [Tr.get] at h
 | .node l u r,a,b,j,v,h,hj=>by
  simp only [Tr.F0,Bool.and_eq_true] at h
  cases j with
  | zero=>simp only [Tr.get] at hj;rw [hj] at h;simpa using h.1
  | succ k =>
   simp only [Tr.get] at hj
   split at hj
   ·rename_i hk
    have:=Tr.qq h.2.1 hj
    have e:2*a*(k / 2)+(a+b)=a*(k+1)+b:=by
     have:a*k=2*a*(k / 2):=by
      have Fq:k=2*(k / 2):=by omega
      calc a*k=a*(2*(k / 2)):=by rw [← Fq]
       _=2*a*(k / 2):=by rw [← Nat.mul_assoc,Nat.mul_comm a 2]
     rw [Nat.mul_add,this];omega
    rwa [e] at this
   ·rename_i hk
    have:=Tr.qq h.2.2 hj
    have e:2*a*(k / 2)+(2*a+b)=a*(k+1)+b:=by
     have:a*(k+1)=2*a*(k / 2)+2*a:=by
      have Fq:k+1=2*(k / 2)+2:=by omega
      rw [Fq,Nat.mul_add,← Nat.mul_assoc,Nat.mul_comm a 2]
     rw [this];omega
    rwa [e] at this
def HM (H₀ H:AH):Bool:=H.t.F0 (fun b o=>o.owns || (!o.live || (match H₀.get b with | some o₀=>o₀.live | none=>false))) 1 0
theorem Ch {H₀ H:AH} (h:HM H₀ H=true):C2 H₀ H:=by
 intro b o hb
 have:=Tr.qq (show H.t.F0 _ 1 0=true from h) hb
 simp only [Nat.one_mul,Nat.add_zero,Bool.or_eq_true,Bool.not_eq_true'] at this
 refine this.imp id (Or.imp id fun h=>?_)
 cases ho:H₀.get b with
 | none=>rw [ho] at h;cases h
 | some o₀=>rw [ho] at h;exact ⟨o₀,rfl,h⟩
/-! ### The run -/
section run
variable (P:Program)
abbrev Ext:=FuncId→List AV→AH→Option (AV×AH)
def qT (g:FuncId):Bool :=
 match P.funcs[g]? with
 | some fn=>fn.body.isSome && !(fn.name == "runtime.NumGoroutine")
 | none=>false
abbrev Rec:=Option Nat→Code→St→Option (dm×St)
def AI (fn:Func) (c:Code):Option (Code×Array Oper×Oper×Code) :=
 match fn.results.toList with
 | .cell _ _ :: _ =>
  match c with
  | .seq A (.seq (.region _ ops false) rest) =>
   match ops.toList.getLast? with
   | some o =>
    match o.op with
    | .defer _=>some (A,ops,o,rest)
    | _=>none
   | none=>none
  | _=>none
 | _=>none
abbrev MY:=Code→List AV→AH→Option St
def Jw (rec:Rec):MY:=fun c T H =>
 match rec none c ⟨T,[],H⟩ with
 | some (.normal,s)=>some s
 | some (.ret,s)=>some s
 | _=>none
def goN (rec:Rec):MY:=fun c T H =>
 match rec none c ⟨T,[],H⟩ with
 | some (.normal,s)=>some s
 | _=>none
def On (go:MY) (g:FuncId) (args:List AV) (H:AH):Option AH :=
 match P.funcs[g]? with
 | some fn =>
  match fn.body with
  | some (.seq (.region _ ops false) rest) =>
   (rF P ops true ops.toList (args ++ List.replicate (fn.ntmps - args.length) .undef) H).bind fun p=>(go rest p.1 p.2).bind fun s =>
    match s.M with
    | []=>(dx P s.T s.H fn.results.toList).map fun _=>s.H
    | _=>none
  | _=>none
 | none=>none
def yE (Z4 go:MY) (fn:Func) (A:Code) (ops:Array Oper) (o:Oper) (rest:Code) (args:List AV) (H:AH):Option (AV×AH) :=
 match o with
 | ⟨dst,.defer ⟨.value fo,xs,_⟩,_,_,_,none⟩ =>
  (Z4 A (args ++ List.replicate (fn.ntmps - args.length) .undef) H).bind fun s0=>(match s0.M with | []=>some s0 | _=>none).bind fun s0=>(rF P ops false ops.toList.dropLast s0.T s0.H).bind fun p=>(ev P p.1 fo).bind fun fv=>(pL P p.1 xs.toList).bind fun vs =>
   match fv with
   | .func (.func g) x y =>
    if qT P g then (go rest (aP p.1 dst .undef) p.2).bind fun s=>(bM s.M s.H).bind fun H2=>(On P go g (x ++ vs ++ y) H2).bind fun H3=>(dx P s.T H3 fn.results.toList).map fun us=>(oneOf us,H3)
    else none
   | _=>none
 | _=>none
def pq (ops:Array Oper):Option Oper :=
 match ops.toList.getLast? with
 | some ⟨d,.defer c,t,p,a,none⟩=>some ⟨d,.defer c,t,p,a,none⟩
 | _=>none
def Oo (go:MY) (g:FuncId) (args:List AV) (H:AH):Option AH :=
 match P.funcs[g]? with
 | some fn =>
  match fn.body with
  | some c=>(go c (args ++ List.replicate (fn.ntmps - args.length) .undef) H).bind fun s =>
   match s.M with
   | []=>(dx P s.T s.H fn.results.toList).map fun _=>s.H
   | _=>none
  | none=>none
 | none=>none
def ko (go:MY):List Mk→AH→Option AH
 | [],H=>some H
 | .mark m :: ms,H =>
  match H.get m with
  | some .deferred=>ko go ms (H.set m .dead)
  | _=>none
 | .call g a y :: ms,H=>if qT P g then (Oo P go g (a ++ y) H).bind fun H1=>ko go ms H1 else none
def jr (X:Ext) (rec:Rec) (f:FuncId) (args:List AV) (H:AH):Option (AV×AH) :=
 match P.funcs[f]? with
 | some fn =>
  match fn.body with
  | some c =>
   if qT P f then
    match AI fn c with
    | some (A,ops,o,rest)=>yE P (goN rec) (Jw rec) fn A ops o rest args H
    | none =>
     match rec none c ⟨args ++ List.replicate (fn.ntmps - args.length) .undef,[],H⟩ with
     | some (.normal,s) | some (.ret,s)=>(ko P (Jw rec) s.M s.H).bind fun H'=>(dx P s.T H' fn.results.toList).map fun vs=>(oneOf vs,H')
     | _=>none
   else none
  | none=>X f args H
 | none=>none
def ur (X:Ext) (rec:Rec) (f:FuncId) (args:List AV) (H:AH):Option (AV×AH) :=
 match X f args H with
 | some r=>some r
 | none=>jr P X rec f args H
def mH (b:Nat):dm→St→Option (AV×AH):=fun e s =>
 match s.H.get b with
 | some (.loop _ _ T' ps as bd d) =>
  match e with
  | .normal=>some (.bool true,s.H.set b (.loop .ready none T' ps as bd d))
  | .ret=>some (.bool false,s.H.set b (.loop .done (some .ret) T' ps as bd d))
  | .exit id=>some (.bool false,s.H.set b (.loop .done (some (.exit id)) T' ps as bd d))
  | .goto l=>some (.bool false,s.H.set b (.loop .done (some (.goto l)) T' ps as bd d))
 | _=>none
def wQ (rec:Rec) (b:Nat) (vs:List AV) (H:AH):Option (AV×AH) :=
 match H.get b with
 | some (.loop _ _ T' ps as bd _) =>
  if vs.length=ps.size then
   match rec (some b) as ⟨ie ps.toList vs T',[],H⟩ with
   | some (.normal,s) =>
    match s.H.get b with
    | some (.loop .ready pe T₁ iT je jd d₁)=>(rec (some b) bd ⟨s.T,s.M,s.H.set b (.loop .busy pe T₁ iT je jd d₁)⟩).bind fun (e,s)=>mH b e s
    | _=>none
   | _=>none
  else none
 | _=>none
def OK (X:Ext) (rec:Rec) (o:Oper) (T:List AV) (H:AH):Option (AV×AH) :=
 match o.op with
 | .call ⟨.value f,xs,_⟩=>(ev P T f).bind fun fv=>(pL P T xs.toList).bind fun vs =>
  match fv with
  | .func (.func g) x y=>ur P X rec g (x ++ vs ++ y) H
  | .cV b=>wQ rec b vs H
  | .func f x _=>(uz P f x).bind fun q=>ur P X rec q.1 (q.2 :: vs) H
  | _=>none
 | .call ⟨.invoke f name,xs,_⟩=>(ev P T f).bind fun fv=>(pL P T xs.toList).bind fun vs =>
  match fv with
  | .iface t u=>(lI P t name).bind fun g=>ur P X rec g (u :: vs) H
  | _=>none
 | _=>pK P T H o
def pU (X:Ext) (rec:Rec) (ops:Array Oper):List Oper→List AV→AH→Option (List AV×AH)
 | [],T,H=>some (T,H)
 | o :: l,T,H =>
  match aO ops T o with
  | some true=>(OK P X rec o T H).bind fun (v,H')=>pU X rec ops l (aP T o.dst v) H'
  | some false=>pU X rec ops l (aP T o.dst .undef) H
  | none=>none
def vE (o:Oper) (M:List Mk) (T:List AV) (H:AH):Option St :=
 match o with
 | ⟨dst,.defer ⟨.value fo,xs,_⟩,_,_,_,none⟩=>(ev P T fo).bind fun fv=>(pL P T xs.toList).bind fun vs =>
  match fv with
  | .func (.func g) x y=>some ⟨aP T dst .undef,.call g (x ++ vs) y :: M,H⟩
  | _=>none
 | _=>none
def vG (ops:Array Oper) (A:List Nat) (i:Nat) (H:AH):qt→Bool
 | []=>true
 | (j,o,T,v) :: aV=>(eR A i j || match aO ops T o with
   | some true=>(match pK P T H o with | some (u,_)=>gK u v && qn o.op u | none=>false)
   | some false=>true
   | none=>false) && vG ops A i H aV
def jN (X:Ext) (rec:Rec) (ops:Array Oper) (A:List Nat):List (Nat×Nat)→qt→List AV→AH→Option (List AV×AH)
 | [],_,T,H=>some (T,H)
 | (i,k) :: σ,aV,T,H =>
  match ops[i]? with
  | none=>none
  | some o =>
   match aO ops T o with
   | none=>none
   | some false=>jN X rec ops A σ (if k=2∨k=0 then aV else (i,o,T,.undef) :: aV) (aP T o.dst .undef) H
   | some true =>
    if k=2 then (OK P X rec o T H).bind fun (v,H')=>if vG P ops A i H' aV then jN X rec ops A σ aV (aP T o.dst v) H' else none
    else (pK P T H o).bind fun (v,_)=>if qn o.op v then jN X rec ops A σ (if k=0 then aV else (i,o,T,v) :: aV) (aP T o.dst v) H else none
def qf (X:Ext) (rec:Rec) (ops:Array Oper) (p:rq) (T:List AV) (H:AH):Option (List AV×AH) :=
 (jN P X rec (ops.extract 0 p.n) p.A p.front [] (rQ p.cw T) H).bind fun u=>if HM H u.2 then jN P X rec ops p.A p.back [] (jG P p.cw u.1 u.2).1 (jG P p.cw u.1 u.2).2 else none
def jk (rec:Rec) (r:Option Nat) (c:Code):Nat→Code→St→Option (dm×St)
 | 0,_,_=>none
 | m+1,cur,s =>
  match rec r cur s with
  | some (.goto l,s') =>
   match findLabel c l with
   | some rest=>jk rec r c m rest s'
   | none=>some (.goto l,s')
  | x=>x
def qK (rec:Rec) (r:Option Nat) (c:Code):Nat→St→Option (dm×St)
 | 0,_=>none
 | m+1,s =>
  match rec r c s with
  | some (.normal,s')=>qK rec r c m s'
  | x=>x
def Cl:LoopState→Bool
 | .busy=>true
 | _=>false
def gZ (rec:Rec) (r:Option Nat) (l:Nat) (T:List AV) (M:List Mk) (H:AH):Option (dm×St) :=
 match H.get l with
 | some (.loop st pe _ _ _ _ _) =>
  if Cl st then none
  else match pe with
   | none=>some (.normal,⟨T,M,H.set l .dead⟩)
   | some c=>rec r c ⟨T,M,H.set l .dead⟩
 | _=>none
def sY (X:Ext) (rec:Rec) (r:Option Nat) (g:Operand) (ps:Array Tmp) (as bd:Code) (s:St):Option (dm×St) :=
 (ev P s.T g).bind fun gv =>
  match gv,r with
  | .func (.func gf) x y,none =>
   if qT P gf then (jr P X rec gf (x ++ [.cV (s.H.n+1)] ++ y) ((s.H.alloc .deferred).alloc (.loop .ready none s.T ps as bd s.H.n))).bind fun (_,H)=>gZ rec none (s.H.n+1) s.T (.mark s.H.n :: s.M) H else none
  | .func (.func gf) x y,some b₀ =>
   match s.H.get b₀ with
   | some (.loop _ _ _ _ _ _ d₀) =>
    if qT P gf then (jr P X rec gf (x ++ [.cV s.H.n] ++ y) (s.H.alloc (.loop .ready none s.T ps as bd d₀))).bind fun (_,H)=>gZ rec (some b₀) s.H.n s.T s.M H else none
   | _=>none
  | _,_=>none
def iA (id:Nat):dm→dm
 | .exit i=>if i=id then .normal else .exit i
 | e=>e
def run (X:Ext):Nat→Rec
 | 0=>fun _ _ _=>none
 | n+1=>fun r c s =>
  match c with
  | .skip=>some (.normal,s)
  | .label _=>some (.normal,s)
  | .exit id=>some (.exit id,s)
  | .goto l=>some (.goto l,s)
  | .ret=>some (.ret,s)
  | .refuse _=>none
  | .seq a b =>
   match run X n r a s with
   | some (.normal,s')=>run X n r b s'
   | x=>x
  | .cond c x y =>
   match ev P s.T c with
   | some (.bool true)=>run X n r x s
   | some (.bool false)=>run X n r y s
   | _=>none
  | .block id c=>(run X n r c s).map fun (e,s')=>(iA id e,s')
  | .loop c=>qK (run X n) r c n s
  | .scope c=>jk (run X n) r c n c s
  | .region _ ops false =>
   match pq ops,r with
   | none,_=>(pU P X (run X n) ops ops.toList s.T s.H).map fun (T,H)=>(.normal,⟨T,s.M,H⟩)
   | some o,none=>(pU P X (run X n) ops ops.toList.dropLast s.T s.H).bind fun p=>(vE P o s.M p.1 p.2).map fun s=>(.normal,s)
   | some _,some _=>none
  | .region _ ops true =>
   match nV ops with
   | some (σ,A)=>(jN P X (run X n) ops A σ [] s.T s.H).map fun (T,H)=>(.normal,⟨T,s.M,H⟩)
   | none=>(pT P ops).bind fun p=>(qf P X (run X n) ops p s.T s.H).map fun u=>(.normal,⟨u.1,s.M,u.2⟩)
  | .rangeFunc g ps as bd=>sY P X (run X n) r g ps as bd s
def Db (X:Ext) (n:Nat) (f:FuncId) (args:List AV) (H:AH):Option (AV×AH):=jr P X (run P X n) f args H
end run
end Go.Am
end
/- The abstract machine's own run is sound. -/
section
namespace Go.Am
open Go.RowKit
section
variable {P:Program} {X:Ext} {rec:Rec}
def fM (P:Program) (rec:Rec):Prop:=∀r c s e s',rec r c s=some (e,s')→bC P r c (fun e' rX=>e'=e∧rX=s') s
def jg (P:Program) (X:Ext):Prop:=∀g vs H v H',X g vs H=some (v,H')→az P g vs H (fun v' nv=>v'=v∧nv=H')
theorem aB {g:FuncId} (h:qT P g=true):Goes P g:=by
 intro args w
 unfold qT at h
 cases hf:P.funcs[g]? with
 | none=>rw [hf] at h;cases h
 | some fn =>
  rw [hf] at h
  simp only [Bool.and_eq_true,Bool.not_eq_true'] at h
  obtain ⟨h1,h2⟩:=h
  have Z2:fn.name ≠ "runtime.NumGoroutine":=by simpa using h2
  have h3:fn.body ≠ none:=by intro e;rw [e] at h1;cases h1
  simp [callFunc,hf,Z2,h3]
theorem p9 (hr:fM P rec) {c:Code} {T:List AV} {H:AH} {s:St} {K:St→Prop} (h:Jw rec c T H=some s) (k:K s):bC P none c (fun e s=>(e=.normal∨e=.ret)∧K s) ⟨T,[],H⟩:=by
 unfold Jw at h
 split at h
 ·rename_i s' hs
  cases h
  refine (hr _ _ _ _ _ hs).mono ?_
  rintro e rX ⟨rfl,rfl⟩
  exact ⟨.inl rfl,k⟩
 ·rename_i s' hs
  cases h
  refine (hr _ _ _ _ _ hs).mono ?_
  rintro e rX ⟨rfl,rfl⟩
  exact ⟨.inr rfl,k⟩
 ·cases h
theorem Fx (hr:fM P rec) {c:Code} {T:List AV} {H:AH} {s:St} {K:St→Prop} (h:goN rec c T H=some s) (k:K s):bC P none c (fun e s=>e=.normal∧K s) ⟨T,[],H⟩:=by
 unfold goN at h
 split at h
 ·rename_i s' hs
  cases h
  refine (hr _ _ _ _ _ hs).mono ?_
  rintro e rX ⟨rfl,rfl⟩
  exact ⟨rfl,k⟩
 ·cases h
theorem CP (hr:fM P rec) {g:FuncId} {args:List AV} {H H' : AH} {K:AH→Prop} (h:On P (Jw rec) g args H=some H') (k:K H'):uH P g args H K:=by
 unfold On at h
 split at h
 ·rename_i fn hf
  split at h
  ·rename_i id ops rest hb
   obtain ⟨⟨T1,H1⟩,h1,h⟩:=Option.bind_eq_some_iff.1 h
   obtain ⟨s,h2,h⟩:=Option.bind_eq_some_iff.1 h
   split at h
   ·rename_i hm
    obtain ⟨us,h3,rfl⟩:=Option.map_eq_some_iff.1 h
    exact uH.Nt hf hb h1 (p9 (K:=fun s=>s.M=[]∧(∃us,dx P s.T s.H fn.results.toList=some us)∧K s.H) hr h2 ⟨hm,⟨us,h3⟩,k⟩)
   ·cases h
  ·cases h
 ·cases h
theorem CQ (hr:fM P rec) {g:FuncId} {args:List AV} {H H' : AH} {K:AH→Prop} (h:Oo P (Jw rec) g args H=some H') (k:K H'):uH P g args H K:=by
 unfold Oo at h
 split at h
 ·rename_i fn hf
  split at h
  ·rename_i c hb
   obtain ⟨s,h2,h⟩:=Option.bind_eq_some_iff.1 h
   split at h
   ·rename_i hm
    obtain ⟨us,h3,rfl⟩:=Option.map_eq_some_iff.1 h
    exact uH.body hf hb (p9 (K:=fun s=>s.M=[]∧(∃us,dx P s.T s.H fn.results.toList=some us)∧K s.H) hr h2 ⟨hm,⟨us,h3⟩,k⟩)
   ·cases h
  ·cases h
 ·cases h
theorem kj (hr:fM P rec) {K:AH→Prop} : ∀ {M:List Mk} {H H' : AH},ko P (Jw rec) M H=some H'→K H'→Leave P M H K
 | [],H,H',h,k=>by simp only [ko,Option.some.injEq] at h;subst h;exact k
 | .mark m :: M,H,H',h,k=>by
  simp only [ko] at h
  split at h
  ·rename_i hg;exact ⟨hg,kj hr h k⟩
  ·cases h
 | .call g a y :: M,H,H',h,k=>by
  simp only [ko] at h
  split at h
  ·rename_i iJ
   obtain ⟨H1,h1,h⟩:=Option.bind_eq_some_iff.1 h
   exact ⟨aB iJ,CQ hr h1 (kj hr h k)⟩
  ·cases h
theorem yD (hr:fM P rec) {f:FuncId} {fn:Func} {c A rest:Code} {ops:Array Oper} {o:Oper} {args:List AV} {H:AH} {v:AV} {H' : AH} (hf:P.funcs[f]? = some fn) (hb:fn.body=some c)
  (hd:AI fn c=some (A,ops,o,rest)) (h:yE P (goN rec) (Jw rec) fn A ops o rest args H=some (v,H')):bH P f args H (fun v' nv=>v'=v∧nv=H'):=by
 unfold AI at hd
 split at hd
 ·split at hd
  ·rename_i A' id Yf zG
   split at hd
   ·rename_i o' vY
    split at hd
    ·simp only [Option.some.injEq,Prod.mk.injEq] at hd
     obtain ⟨rfl,rfl,rfl,rfl⟩:=hd
     unfold yE at h
     split at h
     ·rename_i dst fo xs ts ty pos after _
      obtain ⟨X6,U9,h⟩:=Option.bind_eq_some_iff.1 h
      obtain ⟨s0,h0,h⟩:=Option.bind_eq_some_iff.1 h
      have Mu:s0.M=[]∧X6=s0:=by
       split at h0
       ·cases h0;exact ⟨by assumption,rfl⟩
       ·cases h0
      obtain ⟨Mu,rfl⟩:=Mu
      obtain ⟨⟨T1,H1⟩,h1,h⟩:=Option.bind_eq_some_iff.1 h
      obtain ⟨fv,h2,h⟩:=Option.bind_eq_some_iff.1 h
      obtain ⟨vs,h3,h⟩:=Option.bind_eq_some_iff.1 h
      split at h
      ·rename_i g x y _
       split at h
       ·rename_i iJ
        obtain ⟨s,h4,h⟩:=Option.bind_eq_some_iff.1 h
        obtain ⟨H2,h5,h⟩:=Option.bind_eq_some_iff.1 h
        obtain ⟨H3,h6,h⟩:=Option.bind_eq_some_iff.1 h
        obtain ⟨us,h7,h⟩:=Option.map_eq_some_iff.1 h
        simp only [Prod.mk.injEq] at h
        refine bH.RF (dst:=dst) (fo:=fo) (xs:=xs) (ts:=ts) (ty:=ty) (pos:=pos) (after:=after) hf hb (by obtain ⟨ys,rK⟩:=List.getLast?_eq_some_iff.1 vY;rw [rK];simp)
         (Fx (K:=fun s=>s.M=[]∧_) hr U9 ⟨Mu,tj h1 ⟨g,x,y,vs,aB iJ,h2,h3,?_⟩⟩)
        exact p9 (K:=fun s=>∃H2,bM s.M s.H=some H2∧uH P g (x ++ vs ++ y) H2 fun H3=>∃us,dx P s.T H3 fn.results.toList=some us∧oneOf us=v∧H3=H') hr h4
         ⟨H2,h5,CP hr h6 ⟨us,h7,h.1,h.2⟩⟩
       ·cases h
      ·cases h
     ·cases h
    ·cases hd
   ·cases hd
  ·cases hd
 ·cases hd
theorem mG (hr:fM P rec) {f:FuncId} {args:List AV} {H:AH} {v:AV} {H' : AH} (iJ:qT P f=true) (h:jr P X rec f args H=some (v,H')) :
  bH P f args H (fun v' nv=>v'=v∧nv=H'):=by
 unfold jr at h
 cases hf:P.funcs[f]? with
 | none=>rw [hf] at h;cases h
 | some fn =>
  rw [hf] at h
  simp only at h
  cases hb:fn.body with
  | none=>unfold qT at iJ;rw [hf] at iJ;simp [hb] at iJ
  | some c =>
   rw [hb] at h
   simp only [iJ,if_true] at h
   split at h
   ·rename_i A ops o rest hd
    exact yD hr hf hb hd h
   refine bH.RG hf hb ?_
   split at h
   all_goals first | cases h | skip
   all_goals
    rename_i s' hs
    obtain ⟨H₁,h1,h⟩:=Option.bind_eq_some_iff.1 h
    obtain ⟨vs,h2,h'⟩:=Option.map_eq_some_iff.1 h
    simp only [Prod.mk.injEq] at h'
    refine (hr _ _ _ _ _ hs).mono ?_
    rintro e rX ⟨rfl,rfl⟩
    exact ⟨by simp,kj hr h1 ⟨vs,h2,h'.1,h'.2⟩⟩
theorem yw (hr:fM P rec) (hX:jg P X) {f:FuncId} {args:List AV} {H:AH} {v:AV} {H' : AH} (h:jr P X rec f args H=some (v,H')) :
  az P f args H (fun v' nv=>v'=v∧nv=H'):=by
 cases iJ:qT P f with
 | true=>exact .inl ⟨aB iJ,mG hr iJ h⟩
 | false =>
  unfold jr at h
  cases hf:P.funcs[f]? with
  | none=>rw [hf] at h;cases h
  | some fn =>
   rw [hf] at h
   simp only at h
   cases hb:fn.body with
   | none=>rw [hb] at h;exact hX _ _ _ _ _ h
   | some c=>rw [hb] at h;simp [iJ] at h
theorem l9 (hr:fM P rec) (hX:jg P X) {f:FuncId} {args:List AV} {H:AH} {v:AV} {H' : AH} (h:ur P X rec f args H=some (v,H')) :
  az P f args H (fun v' nv=>v'=v∧nv=H'):=by
 unfold ur at h
 split at h
 ·rename_i r DE;cases h;exact hX _ _ _ _ _ DE
 ·exact yw hr hX h
theorem rO {b:Nat} {e:dm} {s:St} {v:AV} {H' : AH} (h:mH b e s=some (v,H')):G7 b (fun v' nv=>v'=v∧nv=H') e s:=by
 unfold mH at h
 split at h
 ·rename_i st pe T' ps as bd d hg
  refine ⟨st,pe,T',ps,as,bd,d,hg,?_⟩
  cases e <;> simp only [Option.some.injEq,Prod.mk.injEq] at h ⊢ <;> exact ⟨h.1,h.2⟩
 ·cases h
theorem vH (hr:fM P rec) (hX:jg P X) {r:Option Nat} {o:Oper} {T:List AV} {H:AH} {v:AV} {H' : AH} (h:OK P X rec o T H=some (v,H')) :
  jw P r o T H (fun v' nv=>v'=v∧nv=H'):=by
 obtain ⟨dst,op,ty,pos,after,guard⟩:=o
 unfold OK at h
 split at h
 ·rename_i f xs ts e
  simp only at e
  subst e
  obtain ⟨fv,hf,h⟩:=Option.bind_eq_some_iff.1 h
  obtain ⟨vs,hx,h⟩:=Option.bind_eq_some_iff.1 h
  split at h
  ·exact jw.callee hf hx (l9 hr hX h)
  ·rename_i b
   unfold wQ at h
   split at h
   ·rename_i st pe T' ps as bd d hg
    split at h
    ·rename_i hl
     split at h
     ·rename_i s hs
      split at h
      ·rename_i vF T₁ iT je jd d₁ QU
       obtain ⟨⟨e,s₂⟩,h2,h⟩:=Option.bind_eq_some_iff.1 h
       refine jw.yield hf hx hg hl ((hr _ _ _ _ _ hs).mono ?_)
       rintro e' s' ⟨rfl,rfl⟩
       refine ⟨vF,T₁,iT,je,jd,d₁,QU,(hr _ _ _ _ _ h2).mono ?_⟩
       rintro e' s' ⟨rfl,rfl⟩
       exact rO h
      ·cases h
     ·cases h
    ·cases h
   ·cases h
  ·obtain ⟨q,hq,hc⟩:=Option.bind_eq_some_iff.1 h
   obtain ⟨name,t,rfl,rfl,hm⟩:=qY hq
   exact jw.I3 hf hm hx (l9 hr hX hc)
  ·cases h
 ·rename_i f name xs ts e
  simp only at e
  subst e
  obtain ⟨fv,hf,h⟩:=Option.bind_eq_some_iff.1 h
  obtain ⟨vs,hx,h⟩:=Option.bind_eq_some_iff.1 h
  split at h
  ·obtain ⟨g,hg,h⟩:=Option.bind_eq_some_iff.1 h
   exact jw.LD hf hg hx (l9 hr hX h)
  ·cases h
 ·exact jw.nK h ⟨rfl,rfl⟩
theorem j7 (hr:fM P rec) (hX:jg P X) {r:Option Nat} {ops:Array Oper} {K:List AV→AH→Prop} : ∀ {l:List Oper} {T:List AV} {H:AH} {T' : List AV} {H' : AH},pU P X rec ops l T H=some (T',H')→K T' H'→kW P r ops K l T H
 | [],T,H,T',H',h,hk=>by simp only [pU,Option.some.injEq,Prod.mk.injEq] at h;obtain ⟨rfl,rfl⟩:=h;exact hk
 | o :: l,T,H,T',H',h,hk=>by
  simp only [pU] at h
  split at h
  ·rename_i hw
   obtain ⟨⟨v,H₁⟩,h1,h⟩:=Option.bind_eq_some_iff.1 h
   refine .inl ⟨hw,(vH hr hX h1).mono ?_⟩
   rintro v' nv ⟨rfl,rfl⟩
   exact j7 hr hX h hk
  ·rename_i hw
   exact .inr ⟨hw,j7 hr hX h hk⟩
  ·cases h
theorem qH {ops:Array Oper} {A:List Nat} {i:Nat} {H:AH} : ∀ {aV:qt},(∀p ∈ aV,cE p.2.1.op=true∧(aO ops p.2.2.1 p.2.1=some false→p.2.2.2=.undef))→vG P ops A i H aV=true→xA P ops (eR A) i H aV
 | [],_,_=>fun p hp=>by cases hp
 | (j,o,T,v) :: aV,hq,h=>by
  simp only [vG,Bool.and_eq_true] at h
  intro p hp ha
  rcases List.mem_cons.1 hp with rfl | hp
  ·simp only at ha
   simp only [ha,Bool.false_or] at h
   obtain ⟨h,_⟩:=h
   obtain ⟨q1,q2⟩:=hq _ (by simp:((j,o,T,v):Nat×Oper×List AV×AV) ∈ (j,o,T,v) :: aV)
   split at h
   ·rename_i hw
    split at h
    ·rename_i u nv hu
     simp only [Bool.and_eq_true] at h
     have:=j6 q1 hu h.2
     subst this
     exact .inr ⟨hw,by rw [hu,pF h.1]⟩
    ·cases h
   ·rename_i hw;exact .inl ⟨hw,q2 hw⟩
   ·cases h
  ·exact qH (fun p hp=>hq p (List.mem_cons_of_mem _ hp)) h.2 p hp ha
theorem cH (hr:fM P rec) (hX:jg P X) {r:Option Nat} {ops:Array Oper} {A:List Nat} {K:List AV→AH→Prop} : ∀ {σ:List (Nat×Nat)} {aV:qt} {T:List AV} {H:AH} {T' : List AV} {H' : AH},
  (∀p ∈ σ,p.2=2∨∀o,ops[p.1]? = some o→cE o.op=true)→(∀p ∈ aV,cE p.2.1.op=true∧(aO ops p.2.2.1 p.2.1=some false→p.2.2.2=.undef)) →
  jN P X rec ops A σ aV T H=some (T',H')→K T' H'→fW P r ops (eR A) K σ aV T H
 | [],aV,T,H,T',H',_,_,h,hk=>by simp only [jN,Option.some.injEq,Prod.mk.injEq] at h;obtain ⟨rfl,rfl⟩:=h;exact hk
 | (i,k) :: σ,aV,T,H,T',H',hσ,hp,h,hk=>by
  simp only [jN] at h
  split at h
  ·cases h
  rename_i o ho
  have Fi : ∀p ∈ σ,p.2=2∨∀o,ops[p.1]? = some o→cE o.op=true:=fun p hp=>hσ p (List.mem_cons_of_mem _ hp)
  refine ⟨o,ho,?_⟩
  split at h
  ·cases h
  ·rename_i hw
   by_cases h2:k=2
   ·rw [if_pos (.inl h2)] at h
    rw [if_pos h2]
    exact .inl ⟨hw,cH hr hX Fi hp h hk⟩
   ·rw [if_neg h2]
    refine ⟨.undef,.inl ⟨hw,rfl⟩,?_⟩
    have hq:=(hσ (i,k) (by simp)).resolve_left h2 o ho
    by_cases h0:k=0
    ·rw [if_pos (.inr h0)] at h;rw [if_pos h0];exact cH hr hX Fi hp h hk
    ·rw [if_neg (by omega)] at h;rw [if_neg h0]
     refine cH hr hX Fi (fun p tR=>?_) h hk
     rcases List.mem_cons.1 tR with rfl | tR
     ·exact ⟨hq,fun _=>rfl⟩
     ·exact hp p tR
  ·rename_i hw
   by_cases h2:k=2
   ·rw [if_pos h2] at h ⊢
    obtain ⟨⟨v,H₁⟩,h1,h⟩:=Option.bind_eq_some_iff.1 h
    simp only at h
    split at h
    ·rename_i YX
     refine .inr ⟨hw,(vH hr hX h1).mono ?_⟩
     rintro v' nv ⟨rfl,rfl⟩
     exact ⟨qH hp YX,cH hr hX Fi hp h hk⟩
    ·cases h
   ·rw [if_neg h2] at h ⊢
    obtain ⟨⟨v,H₁⟩,h1,h⟩:=Option.bind_eq_some_iff.1 h
    have hq:=(hσ (i,k) (by simp)).resolve_left h2 o ho
    simp only at h
    split at h
    case isFalse=>cases h
    rename_i Zs
    have ZU:=j6 hq h1 Zs
    subst ZU
    refine ⟨v,.inr ⟨hw,h1⟩,?_⟩
    by_cases h0:k=0
    ·simp only [h0,if_true] at h ⊢;exact cH hr hX Fi hp h hk
    ·simp only [h0,if_false] at h ⊢
     refine cH hr hX Fi (fun p tR=>?_) h hk
     rcases List.mem_cons.1 tR with rfl | tR
     ·exact ⟨hq,fun h'=>by rw [hw] at h';cases h'⟩
     ·exact hp p tR
theorem yz (hr:fM P rec) (hX:jg P X) {id:Nat} {ops:Array Oper} {o:Oper} {s s₂:St} {T:List AV} {H:AH} (ho:pq ops=some o) (hs:pU P X rec ops ops.toList.dropLast s.T s.H=some (T,H)) (hp:vE P o s.M T H=some s₂) :
  bC P none (.region id ops false) (fun e s'=>e=.normal∧s'=s₂) s:=by
 unfold pq at ho
 split at ho
 ·rename_i d c t p a vY
  cases ho
  unfold vE at hp
  split at hp
  ·rename_i dst fo xs ts ty pos after heq
   cases heq
   obtain ⟨fv,h2,hp⟩:=Option.bind_eq_some_iff.1 hp
   obtain ⟨vs,h3,hp⟩:=Option.bind_eq_some_iff.1 hp
   split at hp
   ·rename_i g x y _
    cases hp
    refine bC.defers (pre:=ops.toList.dropLast) (ts:=ts) (ty:=t) (pos:=p) (after:=a) (by obtain ⟨ys,rK⟩:=List.getLast?_eq_some_iff.1 vY;rw [rK];simp) (j7 hr hX hs ⟨g,x,y,vs,h2,h3,rfl,rfl⟩)
   ·cases hp
  ·cases hp
 ·cases ho
theorem qG {ops:Array Oper} {σ:List (Nat×Nat)} (h:BZ ops σ=true) : ∀p ∈ σ,p.2=2∨∀o,ops[p.1]? = some o→cE o.op=true:=by
 intro p hp
 have:=List.all_eq_true.1 h p hp
 simp only [Bool.or_eq_true,beq_iff_eq] at this
 refine this.imp (fun h=>h) fun h o ho=>?_
 rw [ho] at h;exact h
theorem yj (hm:P.follows .mixedOrders=true) (hr:fM P rec) (hX:jg P X) {r:Option Nat} {id:Nat} {ops:Array Oper} {p:rq} {s:St} {T' : List AV} {H' : AH} (hp:pT P ops=some p) (h:qf P X rec ops p s.T s.H=some (T',H')) :
  bC P r (.region id ops true) (fun e s'=>e=.normal∧s'=⟨T',s.M,H'⟩) s:=by
 obtain ⟨h0,hp⟩:=zR hp
 simp only [Dg,Bool.and_eq_true,decide_eq_true_eq] at hp
 obtain ⟨⟨⟨⟨⟨⟨⟨⟨⟨h1,h2⟩,h3⟩,h4⟩,h5⟩,h6⟩,h7⟩,h8⟩,h9⟩,Z3⟩:=hp
 have hs:qu P .any ops p.n p.cw:=by rw [h0];exact CG (h0 ▸ h1)
 unfold qf at h
 obtain ⟨⟨T₁,H₁⟩,hd,h⟩:=Option.bind_eq_some_iff.1 h
 simp only at h
 split at h
 ·rename_i hl
  refine bC.Oi hm hs (mP h2) h4 (FN h6) (mP h3) h5 (AP hs.le h7) h8 (cH hr hX (qG h9) (fun p hp=>by cases hp) hd ⟨Ch hl,?_⟩)
  exact cH hr hX (qG Z3) (fun p hp=>by cases hp) h ⟨rfl,rfl⟩
 ·cases h
theorem Aa (hr:fM P rec) {r:Option Nat} {c:Code} {m:Nat} {s:St} {e:dm} {s' : St} (h:qK rec r c m s=some (e,s')):bC P r (.loop c) (fun e' rX=>e'=e∧rX=s') s:=by
 refine bC.loop (j:=m) (fun j s=>qK rec r c j s=some (e,s')) h ?_
 intro j s hj
 cases j with
 | zero=>cases hj
 | succ j =>
  simp only [qK] at hj
  split at hj
  ·rename_i s₁ hs
   refine (hr _ _ _ _ _ hs).mono ?_
   rintro e' rX ⟨rfl,rfl⟩
   exact ⟨j,Nat.lt_succ_self j,hj⟩
  ·rename_i cU
   refine (hr _ _ _ _ _ hj).mono ?_
   rintro e' rX ⟨rfl,rfl⟩
   cases e' with
   | normal=>exact (cU _ hj).elim
   | exit id=>exact ⟨rfl,rfl⟩
   | goto l=>exact ⟨rfl,rfl⟩
   | ret=>exact ⟨rfl,rfl⟩
theorem w9 (hr:fM P rec) {r:Option Nat} {c:Code} {m:Nat} {s:St} {e:dm} {s' : St} (h:jk rec r c m c s=some (e,s')):bC P r (.scope c) (fun e' rX=>e'=e∧rX=s') s:=by
 have step : ∀ {m:Nat} {cur:Code} {s:St},jk rec r c (m+1) cur s=some (e,s') →
   bC P r cur (c6 c (fun l s=>∃rest,findLabel c l=some rest∧jk rec r c m rest s=some (e,s')) (fun e' rX=>e'=e∧rX=s')) s:=by
  intro m cur s h
  simp only [jk] at h
  split at h
  ·rename_i l s₁ hs
   refine (hr _ _ _ _ _ hs).mono ?_
   rintro e' rX ⟨rfl,rfl⟩
   simp only [c6]
   split at h
   ·rename_i rest hf
    rw [if_pos (by rw [hf];rfl)]
    exact ⟨rest,hf,h⟩
   ·rename_i hf
    rw [if_neg (by rw [hf];simp)]
    simp only [Option.some.injEq,Prod.mk.injEq] at h
    exact ⟨h.1,h.2⟩
  ·rename_i cU
   refine (hr _ _ _ _ _ h).mono ?_
   rintro e' rX ⟨rfl,rfl⟩
   cases e' with
   | normal=>exact ⟨rfl,rfl⟩
   | exit id=>exact ⟨rfl,rfl⟩
   | goto l=>exact (cU _ _ h).elim
   | ret=>exact ⟨rfl,rfl⟩
 refine bC.scope (fun j l s=>∃rest,findLabel c l=some rest∧jk rec r c j rest s=some (e,s')) ?_ ?_
 ·cases m with
  | zero=>cases h
  | succ m =>
   refine (step h).mono fun e' rX hq=>?_
   cases e' with
   | goto l =>
    simp only [c6] at hq ⊢
    split at hq
    ·rename_i hl;rw [if_pos hl];exact ⟨m,hq⟩
    ·rename_i hl;rw [if_neg hl];exact hq
   | normal=>exact hq
   | exit id=>exact hq
   | ret=>exact hq
 ·rintro j l s rest hf ⟨zG,Fs,hj⟩
  rw [hf] at Fs;cases Fs
  cases j with
  | zero=>cases hj
  | succ j =>
   refine (step hj).mono fun e' rX hq=>?_
   cases e' with
   | goto l =>
    simp only [c6] at hq ⊢
    split at hq
    ·rename_i hl;rw [if_pos hl];exact ⟨j,Nat.lt_succ_self j,hq⟩
    ·rename_i hl;rw [if_neg hl];exact hq
   | normal=>exact hq
   | exit id=>exact hq
   | ret=>exact hq
theorem kK (hr:fM P rec) {r:Option Nat} {l:Nat} {T:List AV} {M:List Mk} {H:AH} {v:AV} {e:dm} {s' : St} (h:gZ rec r l T M H=some (e,s')) :
  xx P r l T M (fun e' rX=>e'=e∧rX=s') v H:=by
 unfold gZ at h
 split at h
 ·rename_i st pe T' ps as bd d hg
  split at h
  ·cases h
  ·rename_i hb
   refine ⟨st,pe,T',ps,as,bd,d,hg,fun eu=>?_,?_⟩
   ·subst eu;exact hb rfl
   ·cases pe with
    | none=>simp only [Option.some.injEq,Prod.mk.injEq] at h ⊢;exact ⟨h.1,h.2⟩
    | some c=>exact hr _ _ _ _ _ h
 ·cases h
theorem xq (hr:fM P rec) {r:Option Nat} {g:Operand} {ps:Array Tmp} {as bd:Code} {s:St} {e:dm} {s' : St} (h:sY P X rec r g ps as bd s=some (e,s')) :
  bC P r (.rangeFunc g ps as bd) (fun e' rX=>e'=e∧rX=s') s:=by
 unfold sY at h
 obtain ⟨gv,hg,h⟩:=Option.bind_eq_some_iff.1 h
 split at h
 ·rename_i gf x y
  split at h
  ·rename_i iJ
   obtain ⟨⟨v,H⟩,hc,h⟩:=Option.bind_eq_some_iff.1 h
   refine bC.rangeFunc (aB iJ) hg ((mG hr iJ hc).mono ?_)
   rintro v' nv ⟨rfl,rfl⟩
   exact kK hr h
  ·cases h
 ·rename_i gf x y b₀
  split at h
  ·rename_i st pe T' Ye as' bd' d₀ Iv
   split at h
   ·rename_i iJ
    obtain ⟨⟨v,H⟩,hc,h⟩:=Option.bind_eq_some_iff.1 h
    refine bC.xw Iv (aB iJ) hg ((mG hr iJ hc).mono ?_)
    rintro v' nv ⟨rfl,rfl⟩
    exact kK hr h
   ·cases h
  ·cases h
 ·cases h
theorem vB (hm:P.follows .mixedOrders=true) (hX:jg P X) : ∀n,fM P (run P X n)
 | 0=>fun r c s e s' h=>by cases h
 | n+1=>fun r c s e s' h=>by
  have ih:=vB hm hX n
  cases c with
  | skip=>simp only [run,Option.some.injEq,Prod.mk.injEq] at h;exact bC.skip ⟨h.1,h.2⟩
  | label l=>simp only [run,Option.some.injEq,Prod.mk.injEq] at h;exact bC.label ⟨h.1,h.2⟩
  | exit id=>simp only [run,Option.some.injEq,Prod.mk.injEq] at h;exact bC.exit ⟨h.1,h.2⟩
  | goto l=>simp only [run,Option.some.injEq,Prod.mk.injEq] at h;exact bC.goto ⟨h.1,h.2⟩
  | ret=>simp only [run,Option.some.injEq,Prod.mk.injEq] at h;exact bC.ret ⟨h.1,h.2⟩
  | refuse why=>cases h
  | seq a b =>
   simp only [run] at h
   refine bC.seq ?_
   split at h
   ·rename_i s₁ hs
    refine (ih _ _ _ _ _ hs).mono ?_
    rintro e' rX ⟨rfl,rfl⟩
    exact ih _ _ _ _ _ h
   ·rename_i cU
    refine (ih _ _ _ _ _ h).mono ?_
    rintro e' rX ⟨rfl,rfl⟩
    cases e' with
    | normal=>exact (cU _ h).elim
    | exit id=>exact ⟨rfl,rfl⟩
    | goto l=>exact ⟨rfl,rfl⟩
    | ret=>exact ⟨rfl,rfl⟩
  | cond c x y =>
   simp only [run] at h
   split at h
   ·rename_i hc;exact bC.cond hc (ih _ _ _ _ _ h)
   ·rename_i hc;exact bC.cond hc (ih _ _ _ _ _ h)
   ·cases h
  | block id c =>
   simp only [run] at h
   obtain ⟨⟨e₁,s₁⟩,hs,h⟩:=Option.map_eq_some_iff.1 h
   refine bC.block ((ih _ _ _ _ _ hs).mono ?_)
   rintro e' rX ⟨rfl,rfl⟩
   simp only [Prod.mk.injEq] at h
   cases e' with
   | exit i =>
    simp only [iA] at h
    simp only [lS]
    split
    ·rename_i hi;rw [if_pos hi] at h;exact ⟨h.1,h.2⟩
    ·rename_i hi;rw [if_neg hi] at h;exact ⟨h.1,h.2⟩
   | normal=>exact ⟨h.1,h.2⟩
   | goto l=>exact ⟨h.1,h.2⟩
   | ret=>exact ⟨h.1,h.2⟩
  | loop c=>exact Aa ih h
  | scope c=>exact w9 ih h
  | region id ops draw =>
   cases draw with
   | false =>
    simp only [run] at h
    split at h
    ·obtain ⟨⟨T,H⟩,hs,h⟩:=Option.map_eq_some_iff.1 h
     simp only [Prod.mk.injEq] at h
     obtain ⟨rfl,rfl⟩:=h
     exact bC.region (j7 ih hX hs ⟨rfl,rfl⟩)
    ·rename_i o ho
     obtain ⟨⟨T,H⟩,hs,h⟩:=Option.bind_eq_some_iff.1 h
     obtain ⟨s₂,hp,h⟩:=Option.map_eq_some_iff.1 h
     simp only [Prod.mk.injEq] at h
     obtain ⟨rfl,rfl⟩:=h
     exact yz ih hX ho hs hp
    ·cases h
   | true =>
    simp only [run] at h
    split at h
    ·rename_i σ A hd
     obtain ⟨⟨T,H⟩,hs,h⟩:=Option.map_eq_some_iff.1 h
     simp only [Prod.mk.injEq] at h
     obtain ⟨rfl,rfl⟩:=h
     obtain ⟨cc,hd⟩:=wA hd
     unfold ug at hd
     simp only at hd
     split at hd
     ·rename_i hg
      simp only [Option.some.injEq,Prod.mk.injEq] at hd
      obtain ⟨rfl,rfl⟩:=hd
      simp only [Bool.and_eq_true,decide_eq_true_eq] at hg
      obtain ⟨⟨⟨h1,h2⟩,h3⟩,h4⟩:=hg
      refine bC.draw hm (mP h2) h1 h3 (cH ih hX ?_ (fun p hp=>by cases hp) hs ⟨rfl,rfl⟩)
      intro p hp
      have:=List.all_eq_true.1 h4 p hp
      simp only [Bool.or_eq_true,beq_iff_eq] at this
      refine this.imp (fun h=>h) fun h o ho=>?_
      rw [ho] at h;exact h
     ·cases hd
    ·obtain ⟨p,hp,h⟩:=Option.bind_eq_some_iff.1 h
     obtain ⟨⟨T,H⟩,hs,h⟩:=Option.map_eq_some_iff.1 h
     simp only [Prod.mk.injEq] at h
     obtain ⟨rfl,rfl⟩:=h
     exact yj hm ih hX hp hs
  | rangeFunc g ps as bd=>exact xq ih h
theorem m6 (hm:P.follows .mixedOrders=true) (hX:jg P X) {n:Nat} {f:FuncId} {args:List AV} {H:AH} {v:AV} {H' : AH} (iJ:qT P f=true) (h:Db P X n f args H=some (v,H')) :
  bH P f args H (fun v' nv=>v'=v∧nv=H'):=mG (vB hm hX n) iJ h
end
end Go.Am
end
/- The abstract machine: the model's own functions; where a row's call begins; what it says at its end. -/
section
namespace Go.Am
open Go.RowKit Go.ChangeShapes
/-! ### The model's own functions -/
inductive XK where
 | indexByte
 | countByte
 | same
 | iW (g:Nat)
 | makeNoZero (ps:Array TypeId) (t e:TypeId)
 | MP
 | LY
 | MQ (k:IntKind)
 | I8
 | RO (k:IntKind)
 | RN (k:IntKind)
 | quiet (b:Bool)
 | race (b:Bool)
 deriving DecidableEq
def XK.Ng:XK→Array Value→Sem Value
 | .indexByte=>Extern.BytealgIndexByte.indexByte
 | .countByte=>Extern.BytealgCount.count
 | .same=>Extern.AbiNoEscape.same
 | .iW _=>Extern.BytealgIndex.index
 | .makeNoZero ps t _=>Extern.BytealgMakeNoZero.makeNoZero ps #[t]
 | .MP=>fun args=>do
  let (x,y,c) ← Extern.MathBitsCarry.three "Add64" args
  pure (Extern.MathBitsCarry.pair ((x+y+c) % Extern.MathBitsCarry.m64) ((x+y+c) / Extern.MathBitsCarry.m64))
 | .LY=>fun args=>do
  let (x,y,b) ← Extern.MathBitsCarry.three "Sub64" args
  pure (Extern.MathBitsCarry.pair ((x+Extern.MathBitsCarry.m64 - y - b) % Extern.MathBitsCarry.m64) (if x<y+b then 1 else 0))
 | .MQ k=>Extern.Atomic.loadT (.int k)
 | .I8=>Extern.Atomic.storeT
 | .RO k=>Extern.Atomic.update (Op.intArith .add) k true
 | .RN k=>Extern.Atomic.casT (.int k)
 | .quiet b=>fun _=>do mark (if b then .enable else .disable);pure Extern.Race.none_
 | .race b=>Extern.Race.marked (if b then .acquire else .releaseMerge)
def XK.fit (P:Program):XK→Prop
 | .iW g=>P.globals.findIdx? (·.name == "internal/bytealg.MaxLen")=some g
 | .makeNoZero _ t e=>P.underlying t=some (.slice e)∧P.cellsOf e=1
 | _=>True
def XK.val (k:XK) (vs:List AV) (H:AH):Option (AV×AH) :=
 match k,vs with
 | .indexByte,[.str s,.int .u8 c]=>some (.int .i64 (Lib.indexByte s c.toNat.toUInt8),H)
 | .countByte,[.str s,.int .u8 c]=>some (.int .i64 (Lib.countByte s c.toNat.toUInt8),H)
 | .same,[x]=>some (x,H)
 | .iW g,[.str a,.str b] =>
  match H.get g with
  | some (.cells [.half lo true] _ _)=>if 2≤b.length∧(b.length:Int)≤lo∧a.length<4294967281 then some (.int .i64 (Lib.index a b),H) else none
  | some (.cells [.int .i64 lo] _ _)=>if 2≤b.length∧(b.length:Int)≤lo∧a.length<4294967281 then some (.int .i64 (Lib.index a b),H) else none
  | _=>none
 | .MP,[.int _ x,.int _ y,.int _ c] =>
  if c.toNat≤1 then some (.tuple [.int .u64 (Int.ofNat ((x.toNat+y.toNat+c.toNat) % 2 ^ 64)),.int .u64 (Int.ofNat ((x.toNat+y.toNat+c.toNat) / 2 ^ 64))],H) else none
 | .LY,[.int _ x,.int _ y,.int _ c] =>
  if c.toNat≤1 then some (.tuple [.int .u64 (Int.ofNat ((x.toNat+2 ^ 64 - y.toNat - c.toNat) % 2 ^ 64)),.int .u64 (Int.ofNat (if x.toNat<y.toNat+c.toNat then 1 else 0))],H) else none
 | .makeNoZero _ _ e,[.int .i64 n]=>if 0≤n∧n≤16777216 then some (.slice (some (H.n,0)) n.toNat n.toNat,H.alloc (.cells (List.replicate n.toNat .qz) e { fT:=true })) else none
 | .MQ k,[.ptr (some (b,o))] =>
  match H.ak b o with
  | some (.int k' n)=>if k'=k then some (.int k n,H) else none
  | _=>none
 | .I8,[.ptr (some (b,o)),.int k n]=>(H.write b o [.int k n]).map fun H'=>(.tuple [],H')
 | .RO k,[.ptr (some (b,o)),.int k₂ d] =>
  match H.ak b o with
  | some (.int k' n)=>if k'=k∧k₂=k then (H.write b o [.int k (k.wrap (n+d))]).map fun H'=>(.int k (k.wrap (n+d)),H') else none
  | _=>none
 | .RN k,[.ptr (some (b,o)),.int k₁ old,.int k₂ new] =>
  match H.ak b o with
  | some (.int k' n)=>if k'=k∧k₁=k∧k₂=k∧n=old then (H.write b o [.int k new]).map fun H'=>(.bool true,H') else none
  | _=>none
 | .quiet _,[]=>some (.tuple [],H)
 | .race _,[.ptr (some _)]=>some (.tuple [],H)
 | _,_=>none
def MJ (l:List (FuncId×XK)):Ext:=fun g vs H=>(l.lookup g).bind fun k=>k.val vs H
theorem wE : ∀(n t:Nat) (acc:Array Value),(∀v ∈ acc.toList,∃m,v=.int .u8 m)→∀v ∈ (Extern.BytealgMakeNoZero.digits n t acc).toList,∃m,v=.int .u8 m
 | 0,_,_,h=>h
 | n+1,t,acc,h=>by
  rw [Extern.BytealgMakeNoZero.digits]
  refine wE n _ _ fun v hv=>?_
  simp only [Array.toList_push,List.mem_append,List.mem_singleton] at hv
  rcases hv with hv | rfl
  ·exact h v hv
  ·exact ⟨_,rfl⟩
theorem yY {E:Env} : ∀(n:Nat) {l:List Value},(∀v ∈ l,∃m,v=.int .u8 m)→n≤l.length→aI E (List.replicate n .qz) (l.take n)
 | 0,_,_,_=>rfl
 | n+1,[],_,h=>by simp at h
 | n+1,v :: l,hl,h=>⟨v,l.take n,rfl,hl v (by simp),yY n (fun u hu=>hl u (by simp [hu])) (by simpa using h)⟩
theorem BM {P:Program} (w:World) (ps:Array TypeId) (t e:TypeId) (ht:P.underlying t=some (.slice e)) (n:Nat) (hn:n≤281474976710656) :
  ∃cs:Array Value,(Extern.BytealgMakeNoZero.makeNoZero ps #[t] #[.int .i64 n]).run P w=.ok (.slice (some ⟨w.heap.size,0,none⟩) n cs.size) (w.drew.drew.alloc (.cells cs e))∧n≤cs.size∧∀v ∈ cs.toList,∃m,v=.int .u8 m:=by
 have UK:Extern.BytealgMakeNoZero.makeNoZero ps #[t] #[.int .i64 n] =
   (do
    let .slice elem ← underlying t | stuck "bytealg.MakeNoZero: slice type expected"
    if (n:Int)<0 || (n:Int) > 2 ^ 48 then runtimePanic (.error "makeslice: len out of range")
    let cap ← choose (.appendCap (n:Int).toNat 0 elem)
    askRoom cap
    let bytes ← choose (.extern "internal/bytealg.MakeNoZero.bytes" 0)
    let a ← newRow elem (Extern.BytealgMakeNoZero.digits cap bytes #[])
    pure (.slice (some a) (n:Int).toNat cap)):=rfl
 refine ⟨Extern.BytealgMakeNoZero.digits (grownCap w n 0 e) ((Question.extern "internal/bytealg.MakeNoZero.bytes" 0).cut (w.tape (w.drawn+1) (.extern "internal/bytealg.MakeNoZero.bytes" 0))) #[],?_,?_,?_⟩
 ·rw [UK]
  have h1 : ¬ (n:Int)<0:=by omega
  have h2 : ¬ (281474976710656:Int)<(n:Int):=by omega
  simp [run_underlying ht,h1,h2,Question.forced,newRow,Lib.size_digits,grownCap]
 ·rw [Lib.size_digits]
  simpa using grownCap_ge w n 0 e
 ·exact wE _ _ _ (by simp)
theorem vA {P:Program} (name:String) (k1 k2 k3:IntKind) (x y c:Int) (hc:c.toNat≤1) (w:World):(Extern.MathBitsCarry.three name #[.int k1 x,.int k2 y,.int k3 c]).run P w=.ok (x.toNat,y.toNat,c.toNat) w:=by
 have:Extern.MathBitsCarry.three name #[.int k1 x,.int k2 y,.int k3 c]=(do
   let c:=(← asInt (.int k3 c)).toNat
   if c > 1 then unsupported (.noEntry ("extern/math/bits." ++ name ++ ": a carry that is neither 0 nor 1"))
   pure ((← asInt (.int k1 x)).toNat,(← asInt (.int k2 y)).toNat,c)):=rfl
 have ye : ¬ (1<c.toNat):=by omega
 rw [this]
 simp [asInt,asIntOf]
 omega
theorem nE {P:Program} {E:Env} {B:eS} {H H' : AH} {w:World} (h:HR P E B H w) {b o:Nat} {k:IntKind} {n:Int} (hw:H.write b o [.int k n]=some H') :
  ∃L u,E b=some L∧w.cell? ⟨L.bB,L.off+o,none⟩=some u∧w.frozen? ⟨L.bB,L.off+o,none⟩=false∧HR P E B H' (w.setCell ⟨L.bB,L.off+o,none⟩ (.int k n))∧Below B w (w.setCell ⟨L.bB,L.off+o,none⟩ (.int k n)):=by
 obtain ⟨L,w',hL,eF,gX,eu⟩:=mu h hw (ys:=[.int k n]) ⟨_,_,rfl,rfl,rfl⟩
 unfold AH.write at hw
 split at hw
 ·rename_i cs e fl hb
  split at hw
  ·rename_i hc
   obtain ⟨gN,KU,hlen,ga⟩:=hc
   obtain ⟨L',cr,ho⟩:=h.obj _ _ hb
   rw [hL] at cr;cases cr
   obtain ⟨X,lo,hi,h1,h2,h3,h4,h5,h6,h7,h8⟩:=ho
   obtain ⟨hB,hF,hS⟩:=h6 gN
   simp only [List.length_singleton] at hlen
   have cv:L.off+o<X.size:=by omega
   have gE:w.cell? ⟨L.bB,L.off+o,none⟩=some X[L.off+o]:=by simp only [World.cell?,h1];simp [cv]
   have hf:w.frozen? ⟨L.bB,L.off+o,none⟩=false:=by
    have:=hF (L.off+o) (by omega) cv
    simp only [World.frozen?,h1]
    simp only [Bool.and_eq_false_iff,decide_eq_false_iff_not]
    by_cases hl:lo≤L.off+o
    ·exact .inr (fun hh=>this ⟨hl,hh⟩)
    ·exact .inl hl
   have CD:(⟨L.bB,L.off+o,none⟩ : Addr).add 0=⟨L.bB,L.off+o,none⟩:=by unfold Addr.add;split <;> simp_all
   have NM:(storeCells ⟨L.bB,L.off+o,none⟩ [Value.int k n]).run P w=.ok () (w.setCell ⟨L.bB,L.off+o,none⟩ (.int k n)):=by
    simp only [storeCells,Sem.run_bind,CD,run_store P w _ (.int k n) .plain rfl,gE,hf,Bool.false_eq_true,if_false,Result.andThen_ok]
    rfl
   rw [NM] at eF
   cases eF
   exact ⟨L,_,hL,gE,hf,gX,eu⟩
  ·cases hw
 ·cases hw
theorem pR {P:Program} {E:Env} {B:eS} {H:AH} {w:World} (h:HR P E B H w) {b o:Nat} {k:IntKind} {n:Int} (hr:H.ak b o=some (.int k n)) {L:Loc} (hL:E b=some L):w.cell? ⟨L.bB,L.off+o,none⟩=some (.int k n):=by
 obtain ⟨L',x,cr,hx,hc⟩:=pP h hr
 rw [hL] at cr;cases cr
 obtain rfl:x=_:=hx
 exact hc
theorem XK.JU {P:Program} {E:Env} {B:eS} {H H' : AH} {w:World} {k:XK} {vs:List AV} {v:AV} {args:Array Value} (h:k.val vs H=some (v,H')) (hf:k.fit P) (hH:HR P E B H w) (ha:aI E vs args.toList) :
  ∃x E' w',(k.Ng args).run P w=.ok x w'∧E.le E'∧HR P E' B H' w'∧VR E' v x∧Below B w w':=by
 unfold XK.val at h
 split at h
 ·rename_i s c
  cases h
  obtain ⟨x,xs,hx,rfl,y,ys,rfl,rfl,rfl⟩:=ha
  obtain rfl:args = #[.string ⟨s.toArray⟩,.int .u8 c]:=Array.ext' hx
  exact ⟨_,E,w,Lib.run_indexByteString (P:=P) ⟨s.toArray⟩ c w,Env.le.refl E,hH,rfl,Below.refl B w⟩
 ·rename_i s c
  cases h
  obtain ⟨x,xs,hx,rfl,y,ys,rfl,rfl,rfl⟩:=ha
  obtain rfl:args = #[.string ⟨s.toArray⟩,.int .u8 c]:=Array.ext' hx
  exact ⟨_,E,w,Lib.run_countString (P:=P) ⟨s.toArray⟩ c w,Env.le.refl E,hH,rfl,Below.refl B w⟩
 ·cases h
  obtain ⟨x,xs,hx,hv,rfl⟩:=ha
  obtain rfl:args = #[x]:=Array.ext' hx
  exact ⟨x,E,w,rfl,Env.le.refl E,hH,hv,Below.refl B w⟩
 ·rename_i g a b
  have key : ∀ {v₀:AV} {lo:Int} {e:TypeId} {fl:Fl},H.get g=some (.cells [v₀] e fl)→(∀z,VR E v₀ z→∃m,z=.int .i64 m∧lo≤m)→(2≤b.length∧(b.length:Int)≤lo∧a.length<4294967281)→some ((.int .i64 (Lib.index a b),H):AV×AH)=some (v,H') →
    ∃x E' w',((XK.iW g).Ng args).run P w=.ok x w'∧E.le E'∧HR P E' B H' w'∧VR E' v x∧Below B w w':=by
   rintro v₀ lo e fl hg Qk ⟨h1,h2,h3⟩ h
   cases h
   obtain ⟨x,xs,hx,rfl,y,ys,rfl,rfl,rfl⟩:=ha
   obtain rfl:args = #[.string ⟨a.toArray⟩,.string ⟨b.toArray⟩]:=Array.ext' hx
   have Zd:g<P.globals.size:=(Array.findIdx?_eq_some_iff_getElem.1 hf).1
   obtain ⟨L,hL,ZO,Rh⟩:=hH.jI g Zd
   obtain ⟨L',cr,X,l',h',k1,_,_,_,k2,_⟩:=hH.obj g _ hg
   rw [hL] at cr;cases cr
   rw [Rh] at k2
   obtain ⟨z,zs,k3,k4,_⟩:=k2
   obtain ⟨m,rfl,Gj⟩:=Qk z k4
   have hX:X[0]? = some (.int .i64 m):=by
    rw [← Array.getElem?_toList]
    cases hl:X.toList with
    | nil=>rw [hl] at k3;simp at k3
    | cons q l=>rw [hl] at k3;simp at k3;simp [k3.1]
   have hm:w.cell? ⟨g,0,none⟩=some (.int .i64 m):=by
    rw [ZO] at k1
    simp [World.cell?,k1,hX]
   exact ⟨_,E,w,Lib.run_indexString (P:=P) ⟨a.toArray⟩ ⟨b.toArray⟩ w g m hf hm h1 (by show ((b.length:Nat):Int)≤m;omega) h3,Env.le.refl E,hH,rfl,Below.refl B w⟩
  split at h
  ·rename_i lo e fl hg
   split at h
   ·rename_i hc
    exact key hg (fun z hz=>by obtain ⟨m,rfl,k⟩:=hz;exact ⟨m,rfl,by simpa using k⟩) hc h
   ·cases h
  ·rename_i lo e fl hg
   split at h
   ·rename_i hc
    exact key hg (fun z hz=>⟨lo,hz,Int.le_refl _⟩) hc h
   ·cases h
  ·cases h
 ·rename_i k1 x k2 y k3 c
  split at h
  ·rename_i hc
   cases h
   obtain ⟨_,_,hx,rfl,_,_,rfl,rfl,_,_,rfl,rfl,rfl⟩:=ha
   obtain rfl:args = #[.int k1 x,.int k2 y,.int k3 c]:=Array.ext' hx
   refine ⟨Extern.MathBitsCarry.pair ((x.toNat+y.toNat+c.toNat) % 2 ^ 64) ((x.toNat+y.toNat+c.toNat) / 2 ^ 64),E,w,?_,Env.le.refl E,hH,⟨_,rfl,_,_,rfl,rfl,_,_,rfl,rfl,rfl⟩,Below.refl B w⟩
   simp only [XK.Ng,Sem.run_bind,vA _ k1 k2 k3 x y c hc w,Result.andThen_ok,Sem.run_pure]
   rfl
  ·cases h
 ·rename_i k1 x k2 y k3 c
  split at h
  ·rename_i hc
   cases h
   obtain ⟨_,_,hx,rfl,_,_,rfl,rfl,_,_,rfl,rfl,rfl⟩:=ha
   obtain rfl:args = #[.int k1 x,.int k2 y,.int k3 c]:=Array.ext' hx
   refine ⟨Extern.MathBitsCarry.pair ((x.toNat+2 ^ 64 - y.toNat - c.toNat) % 2 ^ 64) (if x.toNat<y.toNat+c.toNat then 1 else 0),E,w,?_,Env.le.refl E,hH,⟨_,rfl,_,_,rfl,rfl,_,_,rfl,rfl,rfl⟩,Below.refl B w⟩
   simp only [XK.Ng,Sem.run_bind,vA _ k1 k2 k3 x y c hc w,Result.andThen_ok,Sem.run_pure]
   rfl
  ·cases h
 ·rename_i ps t e n
  split at h
  ·rename_i hc
   obtain ⟨h1,h2⟩:=hc
   cases h
   obtain ⟨x,xs,hx,rfl,rfl⟩:=ha
   obtain rfl:args = #[.int .i64 n]:=Array.ext' hx
   obtain ⟨ht,he⟩:=hf
   obtain ⟨cs,r1,r2,r3⟩:=BM (P:=P) w ps t e ht n.toNat (by omega)
   have hn:((n.toNat:Nat):Int)=n:=Int.toNat_of_nonneg h1
   rw [hn] at r1
   have hw:HR P E B H w.drew.drew:=hH.world rfl
   obtain ⟨k1,k2,k3⟩:=ke hw (X:=cs) (e:=e) (fl:={ fT:=true }) (extra:=cs.size - n.toNat) (cs:=List.replicate n.toNat .qz)
    (by rw [List.length_replicate];exact yY _ r3 (by simpa using r2)) (by simp [AV.one]) (by rw [he,List.length_replicate];omega) (fun h=>by cases h) 0 0 (by omega) (by simp)
   refine ⟨_,_,_,r1,k1,k2,⟨_,_,_,fE _ _,rfl,Nat.le_refl _,.inr ⟨?_,?_⟩,rfl,.inl rfl⟩,?_⟩
   ·simp [he]
   ·show cs.size=n.toNat+(cs.size - n.toNat);omega
   ·exact Below.trans (b:=w.drew.drew) ⟨rfl,rfl,rfl,Nat.le_refl _,fun _ _=>rfl⟩ k3
  ·cases h
 ·rename_i k b o
  split at h
  ·rename_i k' n hr
   split at h
   ·rename_i he
    subst he
    cases h
    obtain ⟨x,xs,hx,⟨L,hL,rfl⟩,rfl⟩:=ha
    obtain rfl:args = #[.pointer (some ⟨L.bB,L.off+o,none⟩)]:=Array.ext' hx
    refine ⟨.int k' n,E,w,?_,Env.le.refl E,hH,rfl,Below.refl B w⟩
    change Sem.run P (do Extern.Atomic.read (.int k') (← asAddr (.pointer (some ⟨L.bB,L.off+o,none⟩)))) w=_
    simp [Extern.Atomic.read,asAddr,pR hH hr hL]
   ·cases h
  ·cases h
 ·rename_i b o k n
  obtain ⟨H₁,hw,h⟩:=Option.map_eq_some_iff.1 h
  cases h
  obtain ⟨L,u,hL,hc,hz,gX,hb⟩:=nE hH hw
  obtain ⟨x,xs,hx,⟨L',cr,rfl⟩,_,_,rfl,rfl,rfl⟩:=ha
  rw [hL] at cr;cases cr
  obtain rfl:args = #[.pointer (some ⟨L.bB,L.off+o,none⟩),.int k n]:=Array.ext' hx
  refine ⟨.tuple #[],E,_,?_,Env.le.refl E,gX,⟨#[],rfl,rfl⟩,hb⟩
  change Sem.run P (do
   store (← asAddr (.pointer (some ⟨L.bB,L.off+o,none⟩))) (.int k n) .atomic
   pure Extern.Atomic.none_) w=_
  simp [asAddr,hc,hz,run_store P w _ (.int k n) .atomic rfl,Extern.Atomic.none_]
 ·rename_i k b o k₂ d
  split at h
  ·rename_i k' n hr
   split at h
   ·rename_i he
    obtain ⟨rfl,rfl⟩:=he
    obtain ⟨H₁,hw,h⟩:=Option.map_eq_some_iff.1 h
    cases h
    obtain ⟨L,u,hL,hc,hz,gX,hb⟩:=nE hH hw
    obtain ⟨x,xs,hx,⟨L',cr,rfl⟩,_,_,rfl,rfl,rfl⟩:=ha
    rw [hL] at cr;cases cr
    obtain rfl:args = #[.pointer (some ⟨L.bB,L.off+o,none⟩),.int k₂ d]:=Array.ext' hx
    exact ⟨_,E,_,(show Sem.run P (Extern.Atomic.update (Op.intArith .add) k₂ true #[.pointer (some ⟨L.bB,L.off+o,none⟩),.int k₂ d]) w=_ from Conc.run_add_entry (pR hH hr hL) hz),Env.le.refl E,gX,rfl,hb⟩
   ·cases h
  ·cases h
 ·rename_i k b o k₁ old k₂ new
  split at h
  ·rename_i k' n hr
   split at h
   ·rename_i he
    obtain ⟨rfl,rfl,rfl,rfl⟩:=he
    obtain ⟨H₁,hw,h⟩:=Option.map_eq_some_iff.1 h
    cases h
    obtain ⟨L,u,hL,hc,hz,gX,hb⟩:=nE hH hw
    obtain ⟨x,xs,hx,⟨L',cr,rfl⟩,_,_,rfl,rfl,_,_,rfl,rfl,rfl⟩:=ha
    rw [hL] at cr;cases cr
    obtain rfl:args = #[.pointer (some ⟨L.bB,L.off+o,none⟩),.int _ n,.int _ new]:=Array.ext' hx
    exact ⟨_,E,_,Conc.run_cas_hit_entry (pR hH hr hL) hz,Env.le.refl E,gX,rfl,hb⟩
   ·cases h
  ·cases h
 ·cases h
  obtain rfl:args = #[]:=Array.ext' ha
  refine ⟨.tuple #[],E,w,?_,Env.le.refl E,hH,⟨#[],rfl,rfl⟩,Below.refl B w⟩
  simp [XK.Ng,Extern.Race.none_]
 ·cases h
  obtain ⟨x,xs,hx,⟨L,hL,rfl⟩,rfl⟩:=ha
  obtain rfl:=Array.ext' hx
  refine ⟨.tuple #[],E,w,?_,Env.le.refl E,hH,⟨#[],rfl,rfl⟩,Below.refl B w⟩
  simp [XK.Ng,Extern.Race.marked,Extern.Race.at_,Extern.Race.none_]
 ·cases h
def S6 (P:Program) (g:FuncId) (k:XK):Prop:=(∀args w,(callFunc g args).run P w=((k.Ng args).run P w).andThen fun v w'=>.ok (.value v) w')∧k.fit P
theorem tv {α:Type} {g:Nat} {k:α} : ∀ {l:List (Nat×α)},l.lookup g=some k→(g,k) ∈ l
 | [],h=>by cases h
 | (a,b) :: l,h=>by
  rw [List.lookup_cons] at h
  split at h
  ·rename_i e
   simp only [beq_iff_eq] at e
   cases h;subst e;simp
  ·exact List.mem_cons_of_mem _ (tv h)
theorem IJ {P:Program} {l:List (FuncId×XK)} (h : ∀p ∈ l,S6 P p.1 p.2):jg P (MJ l):=by
 intro g vs H v H' hx
 obtain ⟨k,hk,hx⟩:=Option.bind_eq_some_iff.1 hx
 have kS:=tv hk
 refine .inr fun E B w bJ hH ha=>?_
 obtain ⟨x,E',w',hx,hE,gX,hv,hb⟩:=XK.JU (P:=P) hx (h _ kS).2 hH ha
 exact ⟨v,H',E',w',x,by rw [(h _ kS).1,hx];rfl,⟨rfl,rfl⟩,hE,gX,hv,hb⟩
/-! ### The heap where a row's call begins -/
abbrev nZ:=List (Nat×TypeId×List AV)
def fA (n:Nat):nZ→AH
 | []=>⟨n,.nil⟩
 | (g,e,cs) :: l=>(fA n l).set g (.cells cs e { own:=false })
def ov (l:nZ) (b:Nat):Nat :=
 match l with
 | []=>0
 | (g,_,cs) :: l=>if b=g then cs.length else ov l b
def iP (l:nZ) (b:Nat):TypeId :=
 match l with
 | []=>0
 | (g,e,_) :: l=>if b=g then e else iP l b
def wX (P:Program) (n:Nat) (l:nZ):Env:=fun b=>if b<n then some ⟨b,0,ov l b,P.cellsOf (iP l b),0⟩ else none
def MV (W:World) (g:Nat) (e:TypeId) (cs:List AV):Prop:=∃X fr,W.heap[g]? = some (.cells X e fr)∧cs.length=X.size∧(∀E,aI E cs X.toList)∧∀v ∈ cs,v.one=true
theorem y8 (n:Nat) (l:nZ):(fA n l).n=n:=by
 induction l with
 | nil=>rfl
 | cons p l ih=>obtain ⟨g,e,cs⟩:=p;simpa [fA] using ih
theorem jV {n:Nat} {l:nZ} {b:Nat} {o:aS} (h:(fA n l).get b=some o) : ∃cs,o=.cells cs (iP l b) { own:=false }∧ov l b=cs.length∧∃e,(b,e,cs) ∈ l∧e=iP l b:=by
 induction l with
 | nil=>cases h
 | cons p l ih =>
  obtain ⟨g,e,cs⟩:=p
  simp only [fA,AH.af] at h
  by_cases hb:b=g
  ·subst hb
   rw [if_pos rfl] at h;cases h
   exact ⟨cs,by simp [iP],by simp [ov],e,by simp,by simp [iP]⟩
  ·rw [if_neg hb] at h
   obtain ⟨vh,h1,h2,e',h3,h4⟩:=ih h
   exact ⟨vh,by simp [iP,hb,h1],by simp [ov,hb,h2],e',by simp [h3],by simp [iP,hb,h4]⟩
theorem HR.start {P:Program} {W:World} {l:nZ} (hl : ∀t ∈ l,t.1<P.globals.size∧MV W t.1 t.2.1 t.2.2) :
  HR P (wX P P.globals.size l) (eS.up W.heap.size) (fA P.globals.size l) W:=by
 refine ⟨fun b L hb=>?_,fun b o hb=>?_,fun _ h=>h,fun g hg=>⟨_,if_pos hg,rfl,rfl⟩,fun b b' o o' L L' cU hb eu ho _ _ _=>?_⟩
 ·rw [y8]
  unfold wX at hb
  split at hb
  ·assumption
  ·cases hb
 ·obtain ⟨cs,rfl,hs,e,hm,he⟩:=jV hb
  obtain ⟨hg,X,fr,h1,h2,h3,h4⟩:=hl _ hm
  simp only at hg h1 h2 h3 h4
  refine ⟨_,if_pos hg,X,fr.1,fr.2,by rw [h1,he],hs,rfl,by simp [h2],?_,fun h=>(by cases h),fun _=>rfl,h4,fun h=>(by cases h)⟩
  have:=h3 (wX P P.globals.size l)
  rw [h2]
  simpa [← Array.length_toList] using this
 ·obtain ⟨cs,rfl,_⟩:=jV hb
  cases ho
/-! ### The tables out of a row's list -/
theorem um {H:Type} {enc:TypeId×Value→H} {P:Program} {w:World} {base:Nat} {sp:Nat→Bool} {held:Bool} {fuel:Nat} {t e:TypeId} {n:Nat} {k:IntKind} {cs:List Value} {zs:List (Int×Int)} {p:List MemPlace} {f0 f1:Field}
  (ht:P.underlying t=some (.array n e)) (he:P.underlying e=some (.struct #[f0,f1])) (h0:P.underlying f0.type=some (.int k)) (h1:P.underlying f1.type=some (.int k)) (OV:f0.offset=0) (vX:f1.offset=1)
  (Gn:P.cellsOf f0.type=1) (MC:P.cellsOf f1.type=1) (UP:P.cellsOf e=2) (Bg:P.cellsOf t=n*2)
  (h:DataW.trod enc P w base sp held fuel t cs=some (.agg (zs.map fun z=>.agg [.lit (.int k z.1),.lit (.int k z.2)]),p)):cs=zs.flatMap fun z=>[Value.int k z.1,.int k z.2]:=by
 cases fuel with
 | zero=>simp [DataW.trod] at h
 | succ fuel =>
  simp only [DataW.trod,ht,UP,Bg] at h
  split at h
  ·rename_i hl
   obtain ⟨xs,hm,hx⟩:=Option.map_eq_some_iff.1 h
   have rL:xs.map (·.1)=zs.map fun z=>(DataW.agg [.lit (.int k z.1),.lit (.int k z.2)]:DataW H):=by
    have:=congrArg Prod.fst hx
    simpa using this
   have OP:xs.length=n:=by simpa using Lib.mapM_length hm
   have TL:zs.length=n:=by
    have:=congrArg List.length rL
    simp at this
    omega
   have Qw : ∀i,i<n→∃z,zs[i]? = some z∧(cs.drop (i*2)).take 2=[.int k z.1,.int k z.2]:=by
    intro i hi
    obtain ⟨b,hb,hf⟩:=Lib.mapM_at hm i i (by simp [hi])
    obtain ⟨y0,y1,m,rfl,hlen,g0,g1⟩:=trod_struct2 he hf
    obtain ⟨a0,c0,rfl,_⟩:=DataW.trod_int h0 g0
    obtain ⟨a1,c1,rfl,_⟩:=DataW.trod_int h1 g1
    have h2:(xs.map (·.1))[i]? = some (DataW.agg [.lit (.int k a0),.lit (.int k a1)]:DataW H):=by simp [hb]
    rw [rL] at h2
    simp only [List.getElem?_map,Option.map_eq_some_iff,DataW.agg.injEq,List.cons.injEq,DataW.lit.injEq,Lit.int.injEq,true_and,and_true] at h2
    obtain ⟨z,hz,rfl,rfl⟩:=h2
    refine ⟨z,hz,?_⟩
    rw [OV,Gn] at c0;rw [vX,MC] at c1
    rw [UP] at hlen
    match h5:(cs.drop (i*2)).take 2,hlen with
    | [u,v],_ =>
     rw [h5] at c0 c1
     simp at c0 c1
     rw [c0,c1]
   clear hm h hx
   have key : ∀(m:Nat) (cs:List Value) (zs:List (Int×Int)),cs.length=m*2→zs.length=m→(∀i,i<m→∃z,zs[i]? = some z∧(cs.drop (i*2)).take 2=[.int k z.1,.int k z.2])→cs=zs.flatMap fun z=>[Value.int k z.1,.int k z.2]:=by
    intro m
    induction m with
    | zero=>intro cs zs h1 h2 _;simp at h1 h2;subst h1;subst h2;rfl
    | succ m ih =>
     intro cs zs h1 h2 h3
     match cs,zs,h1,h2,h3 with
     | [],_,h1,_,_=>exfalso;simp at h1
     | [_],_,h1,_,_=>exfalso;simp at h1;omega
     | _ :: _ :: _,[],_,h2,_=>exact absurd h2 (by simp)
     | a :: b :: cs,z :: zs,h1,h2,h3 =>
      obtain ⟨z',iM,e⟩:=h3 0 (by omega)
      simp at iM e
      subst iM
      rw [e.1,e.2,ih cs zs (by simp at h1;omega) (by simpa using h2) fun i hi=>by
       obtain ⟨z',iM,e'⟩:=h3 (i+1) (by omega)
       refine ⟨z',by simpa using iM,?_⟩
       rw [show (i+1)*2=i*2+2 by omega] at e'
       simpa using e']
      rfl
   exact key n cs zs hl TL Qw
  ·cases h
theorem ou {W:World} {P:Program} {name:String} {cs:Array Value} {g:Nat} (hg:P.globalNamed name=some g) (hv:W.var? P name=some cs) {vs:List AV} (h : ∀E,aI E vs cs.toList) (h1 : ∀v ∈ vs,v.one=true) : ∃e,MV W g e vs:=by
 unfold World.var? at hv
 rw [hg] at hv
 simp only [Option.bind_some] at hv
 split at hv
 ·rename_i X e fr hX
  cases hv
  have hl:=(h (fun _=>none)).length
  exact ⟨e,cs,fr,hX,by simpa using hl,h,h1⟩
 ·cases hv
def tN (k:IntKind) (zs:List Int):List AV:=zs.map (AV.int k)
theorem tL (k:IntKind) (zs:List Int) (E:Env):aI E (tN k zs) (zs.map (Value.int k)):=by
 induction zs with
 | nil=>rfl
 | cons z zs ih=>exact ⟨_,_,rfl,rfl,ih⟩
theorem tM (k:IntKind) (zs:List Int) : ∀v ∈ tN k zs,v.one=true:=by
 intro v hv
 simp only [tN,List.mem_map] at hv
 obtain ⟨z,_,rfl⟩:=hv
 rfl
theorem Below.old {W W' : World} (h:Below (eS.up W.heap.size) W W'):Go.RowKit.Below W.heap.size W W':=⟨h.os,h.tape,h.output,h.size,h.block⟩
/-! ### What a law's row asks at the end -/
section
variable {H:Type} {enc:TypeId×Value→H} {P:Program}
theorem mX (hl:laidOutB P=true) {W W' : World} (hb:Go.RowKit.Below W.heap.size W W') {sp:Nat→Bool} : ∀ {ts:List TypeId} {vs:List Value} {ds:List (DataW H)} {ps:List MemPlace},(ts.all fun t=>P.readableRec t && decide (t<P.types.size))=true →
  DataW.TrodAll enc P W 0 (fun _=>true) true ts vs ds ps→(∀x ∈ ps,x.block<W.heap.size)→(∀x ∈ ps,sp x.block=true)→DataW.TrodAll enc P W' 0 sp true ts vs ds ps
 | [],_,_,_,_,h,_,_=>by
  obtain ⟨rfl,rfl,rfl⟩:=trodAll_nil h
  rfl
 | t :: ts,_,_,_,hr,h,cv,nR=>by
  obtain ⟨v,vs,d,ds,p,q,rfl,rfl,rfl,h1,h2⟩:=trodAll_cons h
  simp only [List.all_cons,Bool.and_eq_true,decide_eq_true_eq] at hr
  exact ⟨p,q,WideElems.Trod_stays hl hr.1.1 hr.1.2 h1 (fun x hx=>hb.same (cv x (by simp [hx]))) (fun x hx=>nR x (by simp [hx])),
   mX hl hb hr.2 h2 (fun x hx=>cv x (by simp [hx])) (fun x hx=>nR x (by simp [hx])),rfl⟩
theorem Hx (hl:laidOutB P=true) {f:Func} {s:ChangeSpec} {apart fresh handsOn again:Bool} {W W' : World} {args:Array Value} {ds gs:List (DataW H)} {before:List MemPlace} {tb:TypeId}
  (hW:DataW.Whole enc P f.params.toList s.vars apart W args.toList ds gs before) (hv:s.vars=[]) (hr:(f.params.toList.all fun t=>P.readableRec t && decide (t<P.types.size))=true)
  (hb:Go.RowKit.Below W.heap.size W W') (hs:s.fn H (ds ++ gs) = { results:=[.lit (.bool true)],args:=ds }) (ht:f.resultTypes = #[tb]) (hu:P.underlying tb=some .bool) :
  s.post enc P f apart fresh handsOn again W args (.bool true) W':=by
 have cv:=hW.lt
 have O3:=hW
 obtain ⟨p,q,hA,hV,rfl,hz,hn⟩:=O3
 rw [hv] at hV
 obtain ⟨rfl,rfl⟩:=trodVars_none hV
 simp only [List.append_nil] at hs cv hz hn hW
 have YH:(s.fn H ds).vars=[]:=by rw [hs]
 have kJ : ∀sp:Nat→Bool,(∀x ∈ p,sp x.block=true)→DataW.TrodAll enc P W' 0 sp true f.params.toList args.toList (s.fn H (ds ++ [])).args p:=fun sp nR=>by
  rw [List.append_nil,hs]
  exact mX hl hb hr hA (fun x hx=>cv x hx) nR
 have Mi : ∀sp:Nat→Bool,DataW.TrodVars enc P W' sp s.vars (s.fn H (ds ++ [])).vars []:=fun sp=>by
  rw [List.append_nil,hv,YH];rfl
 have yc : ∀(b:Nat) (sp:Nat→Bool) (hd:Bool),DataW.TrodAll enc P W' b sp hd f.resultTypes.toList ((Value.bool true).resultList f.resultTypes.size) (s.fn H (ds ++ [])).results []:=fun b sp hd=>by
  rw [List.append_nil,hs,ht]
  exact trodAll_cons_mk (shut_bool hu _) trodAll_mk0
 have hold : ∀x ∈ p,(fun b=>decide (b<W.heap.size)) x.block=true:=fun x hx=>by simpa using cv x hx
 refine ⟨ds,[],p,[],p,[],hW,yc _ _ _,kJ _ hold,Mi _,World.keptBut_mono (fun _ hp=>⟨hp,Or.inr (by simpa using hp)⟩) (hb.frame _),fun _=>?_⟩
 refine ⟨ok_one ht rfl (okWide_bool_mk hu _),_,_,([] ++ p) ++ [],⟨[] ++ p,[],trodAll_append (kJ _ (fun _ _=>rfl)) (yc _ _ _),Mi _,rfl,?_,?_⟩,?_⟩
 ·intro b off hp
  have tR:MemPlace.cell b off ∈ p:=by simpa using hp
  rw [hb.frozen (p:=⟨b,off,none⟩) (cv _ tR)]
  exact hz b off tR
 ·intro ha
  simpa using hn ha
 ·intro x hx _
  simpa using hx
end
end Go.Am
end
/- The abstract machine's run, made for the kernel: temporaries in a tree, small cases. -/
section
namespace Go.Am
open Go.RowKit
structure FT where
 n:Nat
 t:Tr AV
/- Trees by their recursors: what the kernel reckons quickest. -/
noncomputable def Tr.ID {α:Type} (t:Tr α):Nat→Option α :=
 Tr.rec (motive:=fun _=>Nat→Option α) (fun _=>none) (fun _ v _ il ir k=>Bool.rec (Bool.rec (ir (Nat.sub (Nat.div k 2) 1)) (il (Nat.div k 2)) (Nat.beq (Nat.mod k 2) 1)) v (Nat.beq k 0)) t
noncomputable def Tr.sM {α:Type} (f:Nat):Tr α→Nat→α→Tr α :=
 Nat.rec (fun t _ _=>t) (fun _ ih t=>Tr.rec (motive:=fun _=>(Tr α→Nat→α→Tr α)→Nat→α→Tr α)
  (fun ih k x=>Bool.rec (Bool.rec (.node .nil none (ih .nil (Nat.sub (Nat.div k 2) 1) x)) (.node (ih .nil (Nat.div k 2) x) none .nil) (Nat.beq (Nat.mod k 2) 1)) (.node .nil (some x) .nil) (Nat.beq k 0))
  (fun l v r _ _ ih k x=>Bool.rec (Bool.rec (.node l v (ih r (Nat.sub (Nat.div k 2) 1) x)) (.node (ih l (Nat.div k 2) x) v r) (Nat.beq (Nat.mod k 2) 1)) (.node l (some x) r) (Nat.beq k 0)) t ih) f
theorem tV {k:Nat} (h:k % 2=0):Nat.beq (Nat.mod (k+1) 2) 1=true∧Nat.div (k+1) 2=k / 2:=by
 constructor
 ·rw [Nat.beq_eq];exact (show (k+1) % 2=1 by omega)
 ·show (k+1) / 2=k / 2;omega
theorem p8 {k:Nat} (h : ¬ k % 2=0):Nat.beq (Nat.mod (k+1) 2) 1=false∧Nat.sub (Nat.div (k+1) 2) 1=k / 2:=by
 constructor
 ·cases hb:Nat.beq (Nat.mod (k+1) 2) 1 with
  | false=>rfl
  | true=>rw [Nat.beq_eq] at hb;have:(k+1) % 2=1:=hb;omega
 ·show (k+1) / 2 - 1=k / 2;omega
theorem Tr.yg {α:Type} : ∀(t:Tr α) (k:Nat),t.ID k=t.get k
 | .nil,_=>rfl
 | .node l v r,0=>rfl
 | .node l v r,k+1=>by
  show Bool.rec (motive:=fun _=>Option α) (Bool.rec (motive:=fun _=>Option α) (r.ID (Nat.sub (Nat.div (k+1) 2) 1)) (l.ID (Nat.div (k+1) 2)) (Nat.beq (Nat.mod (k+1) 2) 1)) v false=_
  simp only [Tr.get]
  by_cases h:k % 2=0
  ·obtain ⟨h1,h2⟩:=tV h
   rw [if_pos h,h1,h2];exact Tr.yg l _
  ·obtain ⟨h1,h2⟩:=p8 h
   rw [if_neg h,h1,h2];exact Tr.yg r _
theorem Tr.mq {α:Type} : ∀(f:Nat) (t:Tr α) (k:Nat) (x:α),Tr.sM f t k x=Tr.set f t k x
 | 0,_,_,_=>rfl
 | f+1,.nil,0,x=>rfl
 | f+1,.node l v r,0,x=>rfl
 | f+1,.nil,k+1,x=>by
  show Bool.rec (motive:=fun _=>Tr α) (Bool.rec (motive:=fun _=>Tr α) (.node .nil none (Tr.sM f .nil (Nat.sub (Nat.div (k+1) 2) 1) x)) (.node (Tr.sM f .nil (Nat.div (k+1) 2) x) none .nil) (Nat.beq (Nat.mod (k+1) 2) 1)) (.node .nil (some x) .nil) false=_
  simp only [Tr.set]
  by_cases h:k % 2=0
  ·obtain ⟨h1,h2⟩:=tV h
   rw [if_pos h,h1,h2]
   show Tr.node (Tr.sM f _ (k / 2) x) _ _=_
   rw [Tr.mq f]
  ·obtain ⟨h1,h2⟩:=p8 h
   rw [if_neg h,h1,h2]
   show Tr.node _ _ (Tr.sM f _ (k / 2) x)=_
   rw [Tr.mq f]
 | f+1,.node l v r,k+1,x=>by
  show Bool.rec (motive:=fun _=>Tr α) (Bool.rec (motive:=fun _=>Tr α) (.node l v (Tr.sM f r (Nat.sub (Nat.div (k+1) 2) 1) x)) (.node (Tr.sM f l (Nat.div (k+1) 2) x) v r) (Nat.beq (Nat.mod (k+1) 2) 1)) (.node l (some x) r) false=_
  simp only [Tr.set]
  by_cases h:k % 2=0
  ·obtain ⟨h1,h2⟩:=tV h
   rw [if_pos h,h1,h2]
   show Tr.node (Tr.sM f _ (k / 2) x) _ _=_
   rw [Tr.mq f]
  ·obtain ⟨h1,h2⟩:=p8 h
   rw [if_neg h,h1,h2]
   show Tr.node _ _ (Tr.sM f _ (k / 2) x)=_
   rw [Tr.mq f]
noncomputable def FT.at (f:FT) (i:Nat):AV:=Option.rec .undef (fun v=>v) (Tr.ID f.t i)
noncomputable def FT.put (f:FT) (dst:Option Tmp) (v:AV):FT:=FT.rec (motive:=fun _=>FT) (fun n t=>Option.rec ⟨n,t⟩ (fun d=>Bool.rec ⟨n,t⟩ ⟨n,Tr.sM (d+1) t d v⟩ (Nat.ble (d+1) n)) dst) f
noncomputable def FT.look (f:FT) (i:Nat):AV:=FT.rec (motive:=fun _=>AV) (fun n t=>Bool.rec .undef (Option.rec .undef (fun v=>v) (Tr.ID t i)) (Nat.ble (i+1) n)) f
theorem FT.I7 (f:FT) (i:Nat):f.at i=(f.t.get i).getD .undef:=by
 unfold FT.at
 rw [Tr.yg]
 cases f.t.get i <;> rfl
theorem wI (a b:Nat):(Nat.ble a b=true∧a≤b)∨(Nat.ble a b=false∧¬ a≤b):=by
 cases h:Nat.ble a b with
 | true=>exact .inl ⟨rfl,Nat.le_of_ble_eq_true h⟩
 | false=>exact .inr ⟨rfl,fun k=>by rw [Nat.ble_eq_true_of_le k] at h;cases h⟩
theorem FT.Hu (f:FT) (d:Nat) (v:AV):f.put (some d) v=if d<f.n then ⟨f.n,Tr.set (d+1) f.t d v⟩ else f:=by
 obtain ⟨n,t⟩:=f
 unfold FT.put
 rcases wI (d+1) n with ⟨h,k⟩ | ⟨h,k⟩
 ·simp only [h];rw [if_pos (by omega),Tr.mq]
 ·simp only [h];rw [if_neg (by omega)]
noncomputable def FT.toL (f:FT):List AV:=(List.range f.n).map f.at
noncomputable def FT.fill (n:Nat):Nat→List AV→Tr AV→FT
 | _,[],t=>⟨n,t⟩
 | i,v :: l,t=>FT.fill n (i+1) l (Tr.sM (i+1) t i v)
noncomputable def FT.Dk (l:List AV) (n:Nat):FT:=FT.fill n 0 l .nil
@[simp] theorem FT.length (f:FT):f.toL.length=f.n:=by simp [FT.toL]
theorem FT.Lc (f:FT) (i:Nat):(f.toL[i]?).getD .undef=if i<f.n then f.at i else .undef:=by
 unfold FT.toL
 by_cases h:i<f.n
 ·simp [h]
 ·simp [h]
theorem FT.look_eq (f:FT) (i:Nat):f.look i=(f.toL[i]?).getD .undef:=by
 rw [FT.Lc]
 obtain ⟨n,t⟩:=f
 unfold FT.look
 rcases wI (i+1) n with ⟨h,k⟩ | ⟨h,k⟩
 ·simp only [h];rw [if_pos (by omega)];rfl
 ·simp only [h];rw [if_neg (by omega)]
theorem FT.iS (f:FT) (dst:Option Tmp) (v:AV):(f.put dst v).toL=aP f.toL dst v:=by
 cases dst with
 | none=>rfl
 | some d =>
  rw [FT.Hu]
  simp only [aP]
  by_cases h:d<f.n
  ·rw [if_pos h]
   apply List.ext_getElem?
   intro i
   simp only [FT.toL,List.getElem?_map,List.getElem?_set,List.length_map,List.length_range]
   by_cases hi:i<f.n
   ·by_cases e:d=i
    ·subst e;simp [hi,FT.I7,Tr.af]
    ·have e' : ¬ i=d:=fun h=>e h.symm
     simp [hi,e,e',FT.I7,Tr.af]
   ·by_cases e:d=i
    ·subst e;exact absurd h hi
    ·simp [hi,e]
  ·rw [if_neg h]
   rw [List.set_eq_of_length_le (by simpa using h)]
theorem FT.II (n:Nat) : ∀(l:List AV) (i:Nat) (t:Tr AV),(FT.fill n i l t).n=n
 | [],_,_=>rfl
 | _ :: l,_,_=>FT.II n l _ _
theorem FT.DO (n:Nat) : ∀(l:List AV) (i:Nat) (t:Tr AV) (j:Nat),(FT.fill n i l t).at j=if i≤j∧j<i+l.length then (l[j - i]?).getD .undef else (t.get j).getD .undef
 | [],i,t,j=>by
  have : ¬ (i≤j∧j<i+0):=by omega
  simp only [List.length_nil,this,if_false];exact FT.I7 _ _
 | v :: l,i,t,j=>by
  rw [FT.fill,FT.DO n l,Tr.mq]
  by_cases e:j=i
  ·subst e
   have h1 : ¬ (j+1≤j∧j<j+1+l.length):=by omega
   simp [h1,Tr.af]
  ·by_cases h:i≤j∧j<i+(v :: l).length
   ·have h1:i+1≤j∧j<i+1+l.length:=by simp at h;omega
    rw [if_pos h,if_pos h1]
    have:j - i=(j - (i+1))+1:=by omega
    rw [this];rfl
   ·have h1 : ¬ (i+1≤j∧j<i+1+l.length):=by simp at h;omega
    rw [if_neg h,if_neg h1]
    simp [Tr.af,e]
theorem FT.r7 (l:List AV) (n:Nat):(FT.Dk l (l.length+n)).toL=l ++ List.replicate n .undef:=by
 apply List.ext_getElem?
 intro i
 unfold FT.Dk FT.toL
 rw [FT.II]
 simp only [List.getElem?_map]
 by_cases h:i<l.length+n
 ·simp only [h,List.getElem?_range,Option.map_some,FT.DO]
  by_cases h1:i<l.length
  ·rw [List.getElem?_append_left h1];simp [h1]
  ·rw [if_neg (by omega)]
   rw [List.getElem?_append_right (by omega),List.getElem?_replicate,if_pos (by omega)]
   rfl
 ·rw [List.getElem?_eq_none (l:=List.range _) (by simp;omega),List.getElem?_eq_none (l:=l ++ _) (by simp;omega)]
  rfl
/-! ### One operation -/
section
variable (P:Program)
noncomputable def iN (f:FT) (x:Operand):Option AV :=
 Operand.rec (motive:=fun _=>Program→FT→Option AV) (fun t _ f=>some (f.look t)) (fun v _ _=>mA v) (fun g P _=>if g<P.globals.size then some (.ptr (some (g,0))) else none) (fun g _ _=>some (.func (.func g) [] [])) x P f
theorem l5 (f:FT):iN P f=ev P f.toL:=by
 funext x
 cases x with
 | tmp t =>
  simp only [iN,ev,FT.look_eq]
 | const v=>rfl
 | global g=>rfl
 | func g=>rfl
variable (e:Operand→Option AV) (H:AH)
def qh:List Operand→Option (List AV)
 | []=>some []
 | x :: l=>(e x).bind fun v=>(qh l).map (v :: ·)
def CN:Option Operand→Option (Option AV)
 | none=>some none
 | some x=>(e x).map some
def CL:List (Nat×Operand)→Option (List (Nat×AV))
 | []=>some []
 | (i,x) :: l=>(e x).bind fun v=>(CL l).map ((i,v) :: ·)
theorem kr {T:List AV} : ∀xs,qh (ev P T) xs=pL P T xs
 | []=>rfl
 | x :: l=>by simp only [qh,pL,kr l]
theorem Lg {T:List AV} : ∀x,CN (ev P T) x=Jy P T x
 | none=>rfl
 | some _=>rfl
theorem yq {T:List AV} : ∀xs,CL (ev P T) xs=DP P T xs
 | []=>rfl
 | (i,x) :: l=>by simp only [CL,DP,yq l]
def qJ (x:Operand):Option (AV×AH):=(e x).map (·,H)
def m7 (c a b:Operand):Option (AV×AH):=(e c).bind fun c=>match c with
  | .bool true=>(e a).map (·,H)
  | .bool false=>(e b).map (·,H)
  | _=>none
def xP (t:TypeId):Option (AV×AH):=(zeroOf P t).bind fun z=>if z.cells.all AV.one then some (.ptr (some (H.n,0)),H.alloc (.cells z.cells t { whole:=true })) else none
def Ki (t:TypeId) (x:Operand):Option (AV×AH):=(e x).bind fun v=>if v.cells.all AV.one then some (.ptr (some (H.n,0)),H.alloc (.cells v.cells t { whole:=true })) else none
def tu (t:TypeId) (ps:Array (Nat×Operand)):Option (AV×AH):=(CL e ps.toList).bind fun l=>(uy P t l).map (·,H)
def gz (t:TypeId) (n:Nat) (ps:Array (Nat×Operand)):Option (AV×AH):=(CL e ps.toList).bind fun l=>gH P H t n l
def Dl (t:TypeId) (a:Operand):Option (AV×AH):=(e a).bind fun a=>(jE P H t a).map (·,H)
def xH (t:TypeId) (a v:Operand):Option (AV×AH):=(e a).bind fun a=>(e v).bind fun v=>(sI P H t a v).map (AV.undef,·)
def EW (x:Operand):Option (AV×AH):=(e x).bind fun v=>if vJ P v then some (v,H) else none
def Kj (op:BinOp) (t:TypeId) (x y:Operand):Option (AV×AH):=(e x).bind fun a=>(e y).bind fun b=>(rP P op t x y a b).map (·,H)
def Sa (op:UnOp) (x:Operand):Option (AV×AH):=(e x).bind fun a=>(Pj op a).map (·,H)
def Dm (s d:TypeId) (x:Operand):Option (AV×AH):=(e x).bind fun a=>gF P H s d a
def xM (t:TypeId) (x:Operand):Option (AV×AH):=(e x).bind fun a=>match P.underlying t with
  | some (.interface _)=>none
  | some _=>some (.iface t a,H)
  | none=>none
def zV (f:Fn) (xs ys:Array Operand):Option (AV×AH):=(qh e xs.toList).bind fun a=>(qh e ys.toList).bind fun b=>some (.func f a b,H)
def oN (t:TypeId) (l c:Operand):Option (AV×AH):=(e l).bind fun l=>(e c).bind fun c=>cK P H t l c
def tq (t:TypeId) (x:Operand) (lo hi mx:Option Operand):Option (AV×AH):=(e x).bind fun a=>(CN e lo).bind fun lo=>(CN e hi).bind fun hi=>(CN e mx).bind fun mx=>(cJ P H t a lo hi mx).map (·,H)
def j9 (t:TypeId) (x:Operand) (f:Nat):Option (AV×AH):=(e x).bind fun a=>(iC P t a f).map (·,H)
def xN (t:TypeId) (x:Operand) (f:Nat):Option (AV×AH):=(e x).bind fun a=>(uc P t a f).map (·,H)
def j8 (t:TypeId) (x i:Operand):Option (AV×AH):=(e x).bind fun a=>(e i).bind fun i=>(eW P t a i).map (·,H)
def xL (t:TypeId) (x i:Operand):Option (AV×AH):=(e x).bind fun a=>(e i).bind fun i=>(lR P t a i).map (·,H)
def xI (t:TypeId) (x:Operand):Option (AV×AH):=(e x).bind fun a=>match P.underlying t,a with
  | some .string,.str s=>some (.ptr (some (H.n,0)),H.alloc (.iter s 0))
  | _,_=>none
def zU (x:Operand):Option (AV×AH):=(e x).bind fun a=>match a with
  | .ptr (some (b,0))=>match H.get b with
   | some (.iter s pos) =>
    if pos<s.length then some (.tuple [.bool true,.int .i64 pos,.int .i32 (ah s pos).1],H.set b (.iter s (pos+(ah s pos).2)))
    else some (.tuple [.bool false],H)
   | _=>none
  | _=>none
def xO (x:Operand) (t:TypeId) (ok:Bool):Option (AV×AH):=(e x).bind fun a=>(iO P t ok a).map (·,H)
def tr (r:Option Operand):Option (AV×AH):=match r with
 | none=>some (.map (some H.n),H.alloc (.map [] 0))
 | some _=>none
def xK (t:TypeId) (x i:Operand) (ok:Bool):Option (AV×AH):=(e x).bind fun a=>(e i).bind fun i=>(si P H t ok a i).map (·,H)
def xJ (t:TypeId) (m k x:Operand):Option (AV×AH):=(e m).bind fun m=>(e k).bind fun k=>(e x).bind fun x=>(r9 P H t m k x).map (AV.undef,·)
def oO (x:Operand) (i:Nat):Option (AV×AH):=(e x).bind fun a=>match a with
  | .tuple vs=>(vs[i]?).map (·,H)
  | _=>none
def lG (b:Builtin) (args:Array Operand) (ts:Array TypeId):Option (AV×AH):=(qh e args.toList).bind fun l=>iE P H b ts.toList l
def lF (op:Op):Option (AV×AH) :=
 match op with
 | .move x=>qJ e H x
 | .assign x=>qJ e H x
 | .pick c a b=>m7 e H c a b
 | .alloc t=>xP P H t
 | .box t x=>Ki e H t x
 | .build t ps=>tu P e H t ps
 | .buildSlice t n ps=>gz P e H t n ps
 | .load t a=>Dl P e H t a
 | .store t a v=>xH P e H t a v
 | .nilCheck x=>EW P e H x
 | .binOp op t x y _=>Kj P e H op t x y
 | .unOp op _ x=>Sa e H op x
 | .convert s d x=>Dm P e H s d x
 | .makeInterface t x=>xM P e H t x
 | .makeFunc f xs ys=>zV e H f xs ys
 | .makeSlice t l c=>oN P e H t l c
 | .slice t x lo hi mx=>tq P e H t x lo hi mx
 | .fieldAddr t x f=>j9 P e H t x f
 | .field t x f=>xN P e H t x f
 | .indexAddr t x i=>j8 P e H t x i
 | .index t x i=>xL P e H t x i
 | .range t x=>xI P e H t x
 | .next x true=>zU e H x
 | .typeAssert x _ t ok=>xO P e H x t ok
 | .extract x i=>oO e H x i
 | .makeMap _ r=>tr H r
 | .lookup t x i ok=>xK P e H t x i ok
 | .mapUpdate t m k x=>xJ P e H t m k x
 | .call ⟨.builtin b,args,ts⟩=>lG P e H b args ts
 | _=>none
theorem nJ (T:List AV) (o:Oper):lF P (ev P T) H o.op=pK P T H o:=by
 obtain ⟨dst,op,ty,pos,after,guard⟩:=o
 cases op <;> simp only [lF,pK] <;> first
  | rfl
  | rfl
  | (simp only [tu,yq];done)
  | (simp only [gz,yq];done)
  | (simp only [zV,kr];done)
  | (simp only [tq,Lg];done)
  | skip
 case next x str=>cases str <;> rfl
 case makeMap t r=>cases r <;> rfl
 case call c =>
  obtain ⟨callee,args,ts⟩:=c
  cases callee with
  | builtin b=>simp only [lG,kr]
  | value f=>rfl
  | invoke x m=>rfl
noncomputable def Nq (op:Op):Program→(Operand→Option AV)→AH→Option (AV×AH) :=
 Op.rec (motive:=fun _=>Program→(Operand→Option AV)→AH→Option (AV×AH))
  (fun x0 _ e H=>qJ e H x0)
  (fun x0 _ e H=>qJ e H x0)
  (fun x0 x1 x2 _ e H=>m7 e H x0 x1 x2)
  (fun x0 P _ H=>xP P H x0)
  (fun x0 x1 _ e H=>Ki e H x0 x1)
  (fun x0 x1 P e H=>tu P e H x0 x1)
  (fun x0 x1 x2 P e H=>gz P e H x0 x1 x2)
  (fun _ _ _ _ _ _ _=>none)
  (fun x0 x1 P e H=>Dl P e H x0 x1)
  (fun x0 x1 x2 P e H=>xH P e H x0 x1 x2)
  (fun _ _ _ _=>none)
  (fun _ _ _ _=>none)
  (fun x0 P e H=>EW P e H x0)
  (fun x0 x1 x2 x3 _ P e H=>Kj P e H x0 x1 x2 x3)
  (fun x0 _ x2 _ e H=>Sa e H x0 x2)
  (fun x0 x1 x2 P e H=>Dm P e H x0 x1 x2)
  (fun _ _ _ _ _=>none)
  (fun x0 x1 P e H=>xM P e H x0 x1)
  (fun x0 x1 x2 _ e H=>zV e H x0 x1 x2)
  (fun _ x1 _ _ H=>tr H x1)
  (fun _ _ _ _ _=>none)
  (fun x0 x1 x2 P e H=>oN P e H x0 x1 x2)
  (fun x0 x1 x2 x3 x4 P e H=>tq P e H x0 x1 x2 x3 x4)
  (fun x0 x1 x2 P e H=>j9 P e H x0 x1 x2)
  (fun x0 x1 x2 P e H=>xN P e H x0 x1 x2)
  (fun x0 x1 x2 P e H=>j8 P e H x0 x1 x2)
  (fun x0 x1 x2 P e H=>xL P e H x0 x1 x2)
  (fun x0 x1 x2 x3 P e H=>xK P e H x0 x1 x2 x3)
  (fun x0 x1 x2 x3 P e H=>xJ P e H x0 x1 x2 x3)
  (fun _ _ _ _ _ _=>none)
  (fun _ _ _ _ _ _ _=>none)
  (fun x0 x1 P e H=>xI P e H x0 x1)
  (fun x0 x1 _ e H=>Bool.rec none (zU e H x0) x1)
  (fun _ _ _ _=>none)
  (fun x0 _ x2 x3 P e H=>xO P e H x0 x2 x3)
  (fun x0 x1 _ e H=>oO e H x0 x1)
  (fun x0 P e H=>Call.rec (motive:=fun _=>Option (AV×AH)) (fun c args ts=>Callee.rec (motive:=fun _=>Option (AV×AH)) (fun _=>none) (fun _ _=>none) (fun b=>lG P e H b args ts) c) x0)
  (fun _ _ _ _=>none)
  (fun _ _ _ _=>none)
  (fun _ _ _ _=>none)
  (fun _ _ _ _ _=>none)
  (fun _ _ _ _ _ _=>none)
  (fun _ _ _ _ _=>none) op
theorem Dj (op:Op):Nq op P e H=lF P e H op:=by
 cases op
 case next x str=>cases str <;> rfl
 case call c =>
  obtain ⟨callee,args,ts⟩:=c
  cases callee <;> rfl
 all_goals rfl
end
end Go.Am
end
/- The abstract machine's run, made for the kernel. -/
section
namespace Go.Am
open Go.RowKit
structure FS where
 F:FT
 M:List Mk
 H:AH
noncomputable def FS.dn (s:FS):St:=⟨s.F.toL,s.M,s.H⟩
abbrev A7:=Option Nat→Code→FS→Option (dm×FS)
noncomputable def CO (p:dm×FS):dm×St:=(p.1,p.2.dn)
def jf (rec:Rec) (recF:A7):Prop:=∀r c s,rec r c s.dn=(recF r c s).map CO
section
variable (P:Program) (X:Ext) (recF:A7)
noncomputable def EH (F:FT) (H:AH):List ResultVar→Option (List AV)
 | []=>some []
 | .tmp t :: l=>(EH F H l).map (F.look t :: ·)
 | .cell a t :: l=>(jE P H t (F.look a)).bind fun v=>(EH F H l).map (v :: ·)
theorem xp (F:FT) (H:AH) : ∀l,EH P F H l=dx P F.toL H l
 | []=>rfl
 | .tmp t :: l=>by simp only [EH,dx,xp F H l,FT.look_eq]
 | .cell a t :: l=>by simp only [EH,dx,xp F H l,FT.look_eq]
noncomputable def Og:MY:=fun c T H =>
 match recF none c ⟨FT.Dk T (T.length+0),[],H⟩ with
 | some (.normal,s)=>some s.dn
 | _=>none
noncomputable def Rs:MY:=fun c T H =>
 match recF none c ⟨FT.Dk T (T.length+0),[],H⟩ with
 | some (.normal,s)=>some s.dn
 | some (.ret,s)=>some s.dn
 | _=>none
noncomputable def Lo (fn:Func) (s:FS):Option (AV×AH):=(ko P (Rs recF) s.M s.H).bind fun H'=>(EH P s.F H' fn.results.toList).map fun vs=>(oneOf vs,H')
noncomputable def MO (fn:Func) (c:Code) (args:List AV) (H:AH):Option (AV×AH) :=
 match recF none c ⟨FT.Dk args (args.length+(fn.ntmps - args.length)),[],H⟩ with
 | some (.normal,s)=>Lo P recF fn s
 | some (.ret,s)=>Lo P recF fn s
 | _=>none
noncomputable def l6 (f:FuncId) (args:List AV) (H:AH):Option (AV×AH) :=
 match P.funcs[f]? with
 | some fn =>
  match fn.body with
  | some c=>bif qT P f then (match AI fn c with | some (A,ops,o,rest)=>yE P (Og recF) (Rs recF) fn A ops o rest args H | none=>MO P recF fn c args H) else none
  | none=>X f args H
 | none=>none
noncomputable def AQ (f:FuncId) (args:List AV) (H:AH):Option (AV×AH):=Option.rec (l6 P X recF f args H) (fun r=>some r) (X f args H)
noncomputable def Bl (b:Nat) (vs:List AV) (H:AH):Option (AV×AH) :=
 match H.get b with
 | some (.loop _ _ T' ps as bd _) =>
  if vs.length=ps.size then
   match recF (some b) as ⟨FT.Dk (ie ps.toList vs T') ((ie ps.toList vs T').length+0),[],H⟩ with
   | some (.normal,s) =>
    match s.H.get b with
    | some (.loop .ready pe T₁ iT je jd d₁)=>(recF (some b) bd ⟨s.F,s.M,s.H.set b (.loop .busy pe T₁ iT je jd d₁)⟩).bind fun p=>mH b p.1 p.2.dn
    | _=>none
   | _=>none
  else none
 | _=>none
noncomputable def I0 (fv:AV) (vs:List AV) (H:AH):Option (AV×AH) :=
 match fv with
 | .func (.func g) x y=>AQ P X recF g (x ++ vs ++ y) H
 | .cV b=>Bl recF b vs H
 | .func f x _=>(uz P f x).bind fun q=>AQ P X recF q.1 (q.2 :: vs) H
 | _=>none
noncomputable def NG (name:String) (fv:AV) (vs:List AV) (H:AH):Option (AV×AH) :=
 match fv with
 | .iface t u=>(lI P t name).bind fun g=>AQ P X recF g (u :: vs) H
 | _=>none
noncomputable def PK (op:Op) (F:FT) (H:AH):Option (AV×AH) :=
 match op with
 | .call ⟨.invoke f name,xs,_⟩=>(iN P F f).bind fun fv=>(qh (iN P F) xs.toList).bind fun vs=>NG P X recF name fv vs H
 | .call ⟨.value f,xs,_⟩=>(iN P F f).bind fun fv=>(qh (iN P F) xs.toList).bind fun vs=>I0 P X recF fv vs H
 | op=>lF P (iN P F) H op
noncomputable def Np (op:Op):Program→Ext→A7→FT→AH→Option (AV×AH) :=
 Op.rec (motive:=fun _=>Program→Ext→A7→FT→AH→Option (AV×AH))
  (fun x0 P _ _ F H=>qJ (iN P F) H x0)
  (fun x0 P _ _ F H=>qJ (iN P F) H x0)
  (fun x0 x1 x2 P _ _ F H=>m7 (iN P F) H x0 x1 x2)
  (fun x0 P _ _ _ H=>xP P H x0)
  (fun x0 x1 P _ _ F H=>Ki (iN P F) H x0 x1)
  (fun x0 x1 P _ _ F H=>tu P (iN P F) H x0 x1)
  (fun x0 x1 x2 P _ _ F H=>gz P (iN P F) H x0 x1 x2)
  (fun _ _ _ _ _ _ _ _ _=>none)
  (fun x0 x1 P _ _ F H=>Dl P (iN P F) H x0 x1)
  (fun x0 x1 x2 P _ _ F H=>xH P (iN P F) H x0 x1 x2)
  (fun _ _ _ _ _ _=>none)
  (fun _ _ _ _ _ _=>none)
  (fun x0 P _ _ F H=>EW P (iN P F) H x0)
  (fun x0 x1 x2 x3 _ P _ _ F H=>Kj P (iN P F) H x0 x1 x2 x3)
  (fun x0 _ x2 P _ _ F H=>Sa (iN P F) H x0 x2)
  (fun x0 x1 x2 P _ _ F H=>Dm P (iN P F) H x0 x1 x2)
  (fun _ _ _ _ _ _ _=>none)
  (fun x0 x1 P _ _ F H=>xM P (iN P F) H x0 x1)
  (fun x0 x1 x2 P _ _ F H=>zV (iN P F) H x0 x1 x2)
  (fun _ x1 _ _ _ _ H=>tr H x1)
  (fun _ _ _ _ _ _ _=>none)
  (fun x0 x1 x2 P _ _ F H=>oN P (iN P F) H x0 x1 x2)
  (fun x0 x1 x2 x3 x4 P _ _ F H=>tq P (iN P F) H x0 x1 x2 x3 x4)
  (fun x0 x1 x2 P _ _ F H=>j9 P (iN P F) H x0 x1 x2)
  (fun x0 x1 x2 P _ _ F H=>xN P (iN P F) H x0 x1 x2)
  (fun x0 x1 x2 P _ _ F H=>j8 P (iN P F) H x0 x1 x2)
  (fun x0 x1 x2 P _ _ F H=>xL P (iN P F) H x0 x1 x2)
  (fun x0 x1 x2 x3 P _ _ F H=>xK P (iN P F) H x0 x1 x2 x3)
  (fun x0 x1 x2 x3 P _ _ F H=>xJ P (iN P F) H x0 x1 x2 x3)
  (fun _ _ _ _ _ _ _ _=>none)
  (fun _ _ _ _ _ _ _ _ _=>none)
  (fun x0 x1 P _ _ F H=>xI P (iN P F) H x0 x1)
  (fun x0 x1 P _ _ F H=>Bool.rec none (zU (iN P F) H x0) x1)
  (fun _ _ _ _ _ _=>none)
  (fun x0 _ x2 x3 P _ _ F H=>xO P (iN P F) H x0 x2 x3)
  (fun x0 x1 P _ _ F H=>oO (iN P F) H x0 x1)
  (fun x0 P X recF F H=>Call.rec (motive:=fun _=>Option (AV×AH)) (fun c args ts=>Callee.rec (motive:=fun _=>Option (AV×AH)) (fun f=>(iN P F f).bind fun fv=>(qh (iN P F) args.toList).bind fun vs=>I0 P X recF fv vs H) (fun f name=>(iN P F f).bind fun fv=>(qh (iN P F) args.toList).bind fun vs=>NG P X recF name fv vs H) (fun b=>lG P (iN P F) H b args ts) c) x0)
  (fun _ _ _ _ _ _=>none)
  (fun _ _ _ _ _ _=>none)
  (fun _ _ _ _ _ _=>none)
  (fun _ _ _ _ _ _ _=>none)
  (fun _ _ _ _ _ _ _ _=>none)
  (fun _ _ _ _ _ _ _=>none) op
theorem Di (op:Op) (F:FT) (H:AH):Np op P X recF F H=PK P X recF op F H:=by
 cases op
 case next x str=>cases str <;> rfl
 case call c =>
  obtain ⟨callee,args,ts⟩:=c
  cases callee <;> rfl
 all_goals rfl
def NF (want:Bool):AV→Option Bool
 | .bool b=>some (b == want)
 | .any=>none
 | _=>some false
noncomputable def og (ops:Array Oper) (F:FT) (g:Option (Nat×Bool)):Option Bool :=
 Option.rec (some true) (fun g=>Prod.rec (fun j want=>Option.rec (some false) (fun d=>NF want (F.look d)) ((ops[j]?).bind (·.dst))) g) g
theorem ny (ops:Array Oper) (F:FT) (o:Oper):og ops F o.guard=aO ops F.toL o:=by
 unfold og aO
 cases o.guard with
 | none=>rfl
 | some g =>
  obtain ⟨j,want⟩:=g
  cases hd:(ops[j]?).bind (·.dst) with
  | none=>simp [hd]
  | some d =>
   simp only [hd,Option.bind_some,FT.look_eq]
   cases hT:F.toL[d]? with
   | none=>rfl
   | some v=>cases v <;> rfl
abbrev RT:=FT→AH→Option (FT×AH)
noncomputable def xE (ops:Array Oper) (o:Oper) (ih:RT) (F:FT) (H:AH):Option (FT×AH) :=
 Option.rec none (fun b=>Bool.rec (ih (F.put o.dst .undef) H) (Option.rec none (fun p=>Prod.rec (fun v H'=>ih (F.put o.dst v) H') p) (Np o.op P X recF F H)) b) (og ops F o.guard)
noncomputable def ER (ops:Array Oper) (l:List Oper):RT:=List.rec (fun F H=>some (F,H)) (fun o _ ih=>xE P X recF ops o ih) l
abbrev A8:=List (Nat×Oper×FT×AV)
noncomputable def L2 (ops:Array Oper) (H:AH) (o:Oper) (F:FT) (v:AV):Bool :=
 match og ops F o.guard with
 | some true=>(match Nq o.op P (iN P F) H with | some (u,_)=>gK u v && qn o.op u | none=>false)
 | some false=>true
 | none=>false
noncomputable def zT (ops:Array Oper) (A:List Nat) (i:Nat) (H:AH):A8→Bool
 | []=>true
 | (j,o,F,v) :: aV=>(eR A i j || L2 P ops H o F v) && zT ops A i H aV
abbrev Ea:=A8→FT→AH→Option (FT×AH)
noncomputable def AF (ops:Array Oper) (A:List Nat) (i k:Nat) (o:Oper) (ih:Ea) (aV:A8) (F:FT) (H:AH):Option (FT×AH) :=
 Option.rec none (fun b=>Bool.rec (ih (if k=2∨k=0 then aV else (i,o,F,.undef) :: aV) (F.put o.dst .undef) H)
  (Bool.rec (Option.rec none (fun p=>Prod.rec (fun v _=>bif qn o.op v then ih (if k=0 then aV else (i,o,F,v) :: aV) (F.put o.dst v) H else none) p) (Nq o.op P (iN P F) H))
   (Option.rec none (fun p=>Prod.rec (fun v H'=>bif zT P ops A i H' aV then ih aV (F.put o.dst v) H' else none) p) (Np o.op P X recF F H)) (Nat.beq k 2)) b) (og ops F o.guard)
noncomputable def ql (ops:Array Oper) (A:List Nat) (q:Nat×Nat) (ih:Ea):Ea :=
 match ops[q.1]? with
 | none=>fun _ _ _=>none
 | some o=>AF P X recF ops A q.1 q.2 o ih
noncomputable def uf (ops:Array Oper) (A:List Nat) (σ:List (Nat×Nat)):Ea:=List.rec (fun _ F H=>some (F,H)) (fun q _ ih=>ql P X recF ops A q ih) σ
noncomputable def BB (r:Option Nat) (c:Code) (m:Nat):Code→FS→Option (dm×FS):=Nat.rec (fun _ _=>none) (fun _ ih cur s =>
  match recF r cur s with
  | some (.goto l,s') =>
   match findLabel c l with
   | some rest=>ih rest s'
   | none=>some (.goto l,s')
  | x=>x) m
noncomputable def HK (r:Option Nat) (c:Code) (m:Nat):FS→Option (dm×FS):=Nat.rec (fun _=>none) (fun _ ih s =>
  match recF r c s with
  | some (.normal,s')=>ih s'
  | x=>x) m
noncomputable def mI (r:Option Nat) (l:Nat) (F:FT) (M:List Mk) (H:AH):Option (dm×FS) :=
 match H.get l with
 | some (.loop st pe _ _ _ _ _) =>
  if Cl st then none
  else match pe with
   | none=>some (.normal,⟨F,M,H.set l .dead⟩)
   | some c=>recF r c ⟨F,M,H.set l .dead⟩
 | _=>none
noncomputable def BU (r:Option Nat) (g:Operand) (ps:Array Tmp) (as bd:Code) (s:FS):Option (dm×FS) :=
 (iN P s.F g).bind fun gv =>
  match gv,r with
  | .func (.func gf) x y,none =>
   if qT P gf then (l6 P X recF gf (x ++ [.cV (s.H.n+1)] ++ y) ((s.H.alloc .deferred).alloc (.loop .ready none s.F.toL ps as bd s.H.n))).bind fun p=>mI recF none (s.H.n+1) s.F (.mark s.H.n :: s.M) p.2 else none
  | .func (.func gf) x y,some b₀ =>
   match s.H.get b₀ with
   | some (.loop _ _ _ _ _ _ d₀) =>
    if qT P gf then (l6 P X recF gf (x ++ [.cV s.H.n] ++ y) (s.H.alloc (.loop .ready none s.F.toL ps as bd d₀))).bind fun p=>mI recF (some b₀) s.H.n s.F s.M p.2 else none
   | _=>none
  | _,_=>none
noncomputable def Pv (r:Option Nat) (a b:Code) (s:FS):Option (dm×FS) :=
 Option.rec none (fun p=>Prod.rec (fun e s'=>dm.rec (recF r b s') (fun id=>some (.exit id,s')) (fun l=>some (.goto l,s')) (some (.ret,s')) e) p) (recF r a s)
def Oy:AV→Option Bool
 | .bool b=>some b
 | _=>none
noncomputable def ML (r:Option Nat) (c:Operand) (x y:Code) (s:FS):Option (dm×FS) :=
 Option.rec none (fun v=>Option.rec none (fun b=>Bool.rec (recF r y s) (recF r x s) b) (Oy v)) (iN P s.F c)
def I6 (M:List Mk) (p:FT×AH):dm×FS:=(.normal,⟨p.1,M,p.2⟩)
noncomputable def Df (o:Oper) (M:List Mk) (F:FT) (H:AH):Option FS :=
 match o with
 | ⟨dst,.defer ⟨.value fo,xs,_⟩,_,_,_,none⟩=>(iN P F fo).bind fun fv=>(qh (iN P F) xs.toList).bind fun vs =>
  match fv with
  | .func (.func g) x y=>some ⟨F.put dst .undef,.call g (x ++ vs) y :: M,H⟩
  | _=>none
 | _=>none
noncomputable def IM (o:Oper) (r:Option Nat) (ops:Array Oper) (s:FS):Option (dm×FS) :=
 match r with
 | none=>(ER P X recF ops ops.toList.dropLast s.F s.H).bind fun p=>(Df P o s.M p.1 p.2).map fun s=>(.normal,s)
 | some _=>none
noncomputable def FZ:List ob→FT→FT
 | [],F=>F
 | q :: l,F=>FZ l (F.put (some q.d) .any)
noncomputable def qN:List ob→FT→AH→FT×AH
 | [],F,H=>(F,H)
 | q :: l,F,H=>qN l (F.put (some q.d) (.ptr (some (H.n,0)))) (H.alloc (.cells (zc P q.e) q.e { whole:=true }))
noncomputable def yl (ops:Array Oper) (p:rq) (F:FT) (H:AH):Option (FT×AH) :=
 (uf P X recF (ops.extract 0 p.n) p.A p.front [] (FZ p.cw F) H).bind fun u=>if HM H u.2 then uf P X recF ops p.A p.back [] (qN P p.cw u.1 u.2).1 (qN P p.cw u.1 u.2).2 else none
noncomputable def oY (ops:Array Oper) (s:FS):Option (dm×FS):=(pT P ops).bind fun p=>(yl P X recF ops p s.F s.H).map (I6 s.M)
noncomputable def qX (ops:Array Oper) (s:FS):Option (dm×FS) :=
 match nV ops with
 | some (σ,A)=>(uf P X recF ops A σ [] s.F s.H).map (I6 s.M)
 | none=>oY P X recF ops s
noncomputable def ow (n:Nat):A7:=fun r c s =>
 Code.rec (motive:=fun _=>Program→Ext→A7→Nat→Option Nat→FS→Option (dm×FS))
  (fun _ _ _ _ _ s=>some (.normal,s))
  (fun _ ops d P X recF _ r s=>Bool.rec (Option.rec ((ER P X recF ops ops.toList s.F s.H).map (I6 s.M)) (fun o=>IM P X recF o r ops s) (pq ops)) (qX P X recF ops s) d)
  (fun a b _ _ _ _ recF _ r s=>Pv recF r a b s)
  (fun c x y _ _ P _ recF _ r s=>ML P recF r c x y s)
  (fun id c _ _ _ recF _ r s=>(recF r c s).map fun p=>(iA id p.1,p.2))
  (fun c _ _ _ recF n r s=>HK recF r c n s)
  (fun g ps as bd _ _ P X recF _ r s=>BU P X recF r g ps as bd s)
  (fun id _ _ _ _ _ s=>some (.exit id,s))
  (fun c _ _ _ recF n r s=>BB recF r c n c s)
  (fun _ _ _ _ _ _ s=>some (.normal,s))
  (fun l _ _ _ _ _ s=>some (.goto l,s))
  (fun _ _ _ _ _ s=>some (.ret,s))
  (fun _ _ _ _ _ _ _=>none) c P X recF n r s
end
noncomputable def xl (P:Program) (X:Ext) (n:Nat):A7:=Nat.rec (fun _ _ _=>none) (fun n ih=>ow P X ih n) n
noncomputable def jz (P:Program) (X:Ext) (n:Nat) (f:FuncId) (args:List AV) (H:AH):Option (AV×AH):=l6 P X (xl P X n) f args H
end Go.Am
end
/- The abstract machine's two runs are one. -/
section
namespace Go.Am
open Go.RowKit
section
variable {P:Program} {X:Ext} {rec:Rec} {recF:A7}
theorem Oh (h:jf rec recF):Jw rec=Rs recF:=by
 funext c T H
 unfold Jw Rs
 have e:rec none c ⟨T,[],H⟩=(recF none c ⟨FT.Dk T (T.length+0),[],H⟩).map CO:=by
  rw [← h];simp only [FS.dn,FT.r7,List.replicate_zero,List.append_nil]
 rw [e]
 cases recF none c ⟨FT.Dk T (T.length+0),[],H⟩ with
 | none=>rfl
 | some p =>
  obtain ⟨e,s⟩:=p
  cases e <;> rfl
theorem Lb (h:jf rec recF):goN rec=Og recF:=by
 funext c T H
 unfold goN Og
 have e:rec none c ⟨T,[],H⟩=(recF none c ⟨FT.Dk T (T.length+0),[],H⟩).map CO:=by
  rw [← h];simp only [FS.dn,FT.r7,List.replicate_zero,List.append_nil]
 rw [e]
 cases recF none c ⟨FT.Dk T (T.length+0),[],H⟩ with
 | none=>rfl
 | some p =>
  obtain ⟨e,s⟩:=p
  cases e <;> rfl
theorem DQ (fn:Func) (s:FS):((ko P (Rs recF) s.dn.M s.dn.H).bind fun H'=>(dx P s.dn.T H' fn.results.toList).map fun vs=>(oneOf vs,H'))=Lo P recF fn s:=by
 unfold Lo
 simp only [xp]
 rfl
theorem Hv (o:Oper) (M:List Mk) (F:FT) (H:AH):vE P o M F.toL H=(Df P o M F H).map FS.dn:=by
 unfold vE Df
 split
 ·rename_i dst fo xs ts ty pos after
  simp only [l5,kr]
  cases ev P F.toL fo with
  | none=>rfl
  | some fv =>
   simp only [Option.bind_some]
   cases pL P F.toL xs.toList with
   | none=>rfl
   | some vs =>
    simp only [Option.bind_some]
    split
    ·simp only [Option.map_some,FS.dn,FT.iS]
    ·rfl
 ·rfl
theorem qk (h:jf rec recF) (f:FuncId) (args:List AV) (H:AH):jr P X rec f args H=l6 P X recF f args H:=by
 unfold jr l6
 cases P.funcs[f]? with
 | none=>rfl
 | some fn =>
  simp only
  cases fn.body with
  | none=>rfl
  | some c =>
   simp only
   cases qT P f with
   | false=>rfl
   | true =>
    simp only [if_true,cond_true,Oh h,Lb h]
    cases AI fn c with
    | some q=>rfl
    | none =>
    simp only
    have e:rec none c ⟨args ++ List.replicate (fn.ntmps - args.length) .undef,[],H⟩=(recF none c ⟨FT.Dk args (args.length+(fn.ntmps - args.length)),[],H⟩).map CO:=by
     rw [← h];simp only [FS.dn,FT.r7]
    rw [e]
    unfold MO
    cases recF none c ⟨FT.Dk args (args.length+(fn.ntmps - args.length)),[],H⟩ with
    | none=>rfl
    | some p =>
     obtain ⟨e,s⟩:=p
     cases e with
     | normal=>exact DQ fn s
     | ret=>exact DQ fn s
     | exit id=>rfl
     | goto l=>rfl
theorem uu (h:jf rec recF) (f:FuncId) (args:List AV) (H:AH):ur P X rec f args H=AQ P X recF f args H:=by
 unfold ur AQ
 cases X f args H with
 | none=>exact qk h f args H
 | some r=>rfl
theorem Eb (h:jf rec recF) (b:Nat) (vs:List AV) (H:AH):wQ rec b vs H=Bl recF b vs H:=by
 unfold wQ Bl
 cases H.get b with
 | none=>rfl
 | some o =>
  cases o with
  | loop st pe T' ps as bd d =>
   simp only
   by_cases hl:vs.length=ps.size
   ·rw [if_pos hl,if_pos hl]
    have e:rec (some b) as ⟨ie ps.toList vs T',[],H⟩=(recF (some b) as ⟨FT.Dk (ie ps.toList vs T') ((ie ps.toList vs T').length+0),[],H⟩).map CO:=by
     rw [← h];simp only [FS.dn,FT.r7,List.replicate_zero,List.append_nil]
    rw [e]
    cases recF (some b) as ⟨FT.Dk (ie ps.toList vs T') ((ie ps.toList vs T').length+0),[],H⟩ with
    | none=>rfl
    | some p =>
     obtain ⟨e,s⟩:=p
     cases e with
     | normal =>
      simp only [Option.map_some,CO,FS.dn]
      cases hg:s.H.get b with
      | none=>rfl
      | some o =>
       cases o with
       | loop Po vF T₁ iT je jd d₁ =>
        cases Po with
        | ready =>
         simp only
         have e2:rec (some b) bd ⟨s.F.toL,s.M,s.H.set b (.loop .busy vF T₁ iT je jd d₁)⟩=(recF (some b) bd ⟨s.F,s.M,s.H.set b (.loop .busy vF T₁ iT je jd d₁)⟩).map CO:=h (some b) bd ⟨s.F,s.M,s.H.set b (.loop .busy vF T₁ iT je jd d₁)⟩
         rw [e2]
         cases recF (some b) bd ⟨s.F,s.M,s.H.set b (.loop .busy vF T₁ iT je jd d₁)⟩ with
         | none=>rfl
         | some q=>rfl
        | _=>rfl
       | _=>rfl
     | _=>rfl
   ·rw [if_neg hl,if_neg hl]
  | _=>rfl
theorem HA (h:jf rec recF) (o:Oper) (F:FT) (H:AH):OK P X rec o F.toL H=PK P X recF o.op F H:=by
 have key:pK P F.toL H o=lF P (iN P F) H o.op:=by rw [l5,nJ]
 obtain ⟨dst,op,ty,pos,after,guard⟩:=o
 unfold OK PK
 cases op
 case call c =>
  obtain ⟨callee,args,ts⟩:=c
  cases callee with
  | value f =>
   simp only [l5,kr]
   cases ev P F.toL f with
   | none=>rfl
   | some fv =>
    simp only [Option.bind_some]
    cases pL P F.toL args.toList with
    | none=>rfl
    | some vs =>
     simp only [Option.bind_some]
     unfold I0
     cases fv with
     | func g x y =>
      cases g with
      | func g=>simp only [uu h]
      | _=>simp only [uu h]
     | cV b=>simp only [Eb h]
     | _=>rfl
  | builtin b=>exact key
  | invoke x m =>
   simp only [l5,kr]
   cases ev P F.toL x with
   | none=>rfl
   | some fv =>
    simp only [Option.bind_some]
    cases pL P F.toL args.toList with
    | none=>rfl
    | some vs =>
     simp only [Option.bind_some]
     unfold NG
     cases fv with
     | iface t u =>
      simp only
      cases lI P t m with
      | none=>rfl
      | some g=>simp only [Option.bind_some,uu h]
     | _=>rfl
 all_goals exact key
theorem r5 (h:jf rec recF) (ops:Array Oper) : ∀(l:List Oper) (F:FT) (H:AH),pU P X rec ops l F.toL H=(ER P X recF ops l F H).map fun p=>(p.1.toL,p.2)
 | [],F,H=>rfl
 | o :: l,F,H=>by
  show pU P X rec ops (o :: l) F.toL H=(xE P X recF ops o (ER P X recF ops l) F H).map _
  unfold xE
  simp only [pU,ny]
  cases aO ops F.toL o with
  | none=>rfl
  | some b =>
   cases b with
   | false =>
    simp only
    rw [← FT.iS,r5 h ops l]
   | true =>
    simp only [HA h,Di]
    cases PK P X recF o.op F H with
    | none=>rfl
    | some p =>
     simp only [Option.bind_some]
     rw [← FT.iS,r5 h ops l]
noncomputable def R4 (p:Nat×Oper×FT×AV):Nat×Oper×List AV×AV:=(p.1,p.2.1,p.2.2.1.toL,p.2.2.2)
theorem zS (ops:Array Oper) (A:List Nat) (i:Nat) (H:AH) : ∀aV:A8,vG P ops A i H (aV.map R4)=zT P ops A i H aV
 | []=>rfl
 | (j,o,F,v) :: aV=>by
  simp only [List.map_cons,R4,vG,zT,zS ops A i H aV,L2,ny,l5,Dj,nJ]
  try rfl
theorem jO (h:jf rec recF) (ops:Array Oper) (A:List Nat) : ∀(σ:List (Nat×Nat)) (aV:A8) (F:FT) (H:AH),jN P X rec ops A σ (aV.map R4) F.toL H=(uf P X recF ops A σ aV F H).map fun p=>(p.1.toL,p.2)
 | [],_,F,H=>rfl
 | (i,k) :: σ,aV,F,H=>by
  show jN P X rec ops A ((i,k) :: σ) (aV.map R4) F.toL H=(ql P X recF ops A (i,k) (uf P X recF ops A σ) aV F H).map _
  unfold ql
  simp only [jN]
  cases ops[i]? with
  | none=>rfl
  | some o =>
   simp only
   unfold AF
   simp only [ny]
   cases aO ops F.toL o with
   | none=>rfl
   | some b =>
    cases b with
    | false =>
     simp only
     rw [← FT.iS,← jO h ops A σ]
     split <;> rfl
    | true =>
     simp only
     cases hb:Nat.beq k 2 with
     | true =>
      rw [Nat.beq_eq] at hb
      simp only [hb,if_true,HA h,Di]
      cases PK P X recF o.op F H with
      | none=>rfl
      | some p =>
       simp only [Option.bind_some,zS]
       cases zT P ops A i p.2 aV with
       | true=>simp only [if_true,cond_true];rw [← FT.iS,jO h ops A σ]
       | false=>rfl
     | false =>
      have hk : ¬ k=2:=fun e=>by subst e;cases hb
      simp only [hk,if_false,l5,Dj,nJ]
      cases pK P F.toL H o with
      | none=>rfl
      | some p =>
       simp only [Option.bind_some]
       cases qn o.op p.1 with
       | true =>
        simp only [if_true,cond_true]
        rw [← FT.iS,← jO h ops A σ]
        split <;> rfl
       | false=>rfl
theorem DW : ∀(l:List ob) (F:FT),rQ l F.toL=(FZ l F).toL
 | [],_=>rfl
 | q :: l,F=>by simp only [rQ,FZ,← FT.iS,DW l]
theorem Ah : ∀(l:List ob) (F:FT) (H:AH),jG P l F.toL H=((qN P l F H).1.toL,(qN P l F H).2)
 | [],_,_=>rfl
 | q :: l,F,H=>by simp only [jG,qN,← FT.iS,Ah l]
theorem Fz (h:jf rec recF) (ops:Array Oper) (p:rq) (F:FT) (H:AH):qf P X rec ops p F.toL H=(yl P X recF ops p F H).map fun q=>(q.1.toL,q.2):=by
 unfold qf yl
 have:=jO (P:=P) (X:=X) h (ops.extract 0 p.n) p.A p.front [] (FZ p.cw F) H
 simp only [List.map_nil] at this
 rw [DW,this]
 cases uf P X recF (ops.extract 0 p.n) p.A p.front [] (FZ p.cw F) H with
 | none=>rfl
 | some u =>
  simp only [Option.map_some,Option.bind_some]
  split
  ·have:=jO (P:=P) (X:=X) h ops p.A p.back [] (qN P p.cw u.1 u.2).1 (qN P p.cw u.1 u.2).2
   simp only [List.map_nil] at this
   rw [Ah];exact this
  ·rfl
theorem vu (h:jf rec recF) (r:Option Nat) (c:Code) : ∀(m:Nat) (cur:Code) (s:FS),jk rec r c m cur s.dn=(BB recF r c m cur s).map CO
 | 0,_,_=>rfl
 | m+1,cur,s=>by
  show jk rec r c (m+1) cur s.dn=(match recF r cur s with
   | some (.goto l,s')=>match findLabel c l with | some rest=>BB recF r c m rest s' | none=>some (.goto l,s')
   | x=>x).map CO
  have hh:=h r cur s
  simp only [jk,hh]
  cases recF r cur s with
  | none=>rfl
  | some p =>
   obtain ⟨e,s'⟩:=p
   cases e with
   | goto l =>
    simp only [Option.map_some,CO]
    cases findLabel c l with
    | none=>rfl
    | some rest=>exact vu h r c m rest s'
   | _=>rfl
theorem Ab (h:jf rec recF) (r:Option Nat) (c:Code) : ∀(m:Nat) (s:FS),qK rec r c m s.dn=(HK recF r c m s).map CO
 | 0,_=>rfl
 | m+1,s=>by
  show qK rec r c (m+1) s.dn=(match recF r c s with
   | some (.normal,s')=>HK recF r c m s'
   | x=>x).map CO
  have hh:=h r c s
  simp only [qK,hh]
  cases recF r c s with
  | none=>rfl
  | some p =>
   obtain ⟨e,s'⟩:=p
   cases e with
   | normal=>exact Ab h r c m s'
   | _=>rfl
theorem pg (h:jf rec recF) (r:Option Nat) (l:Nat) (F:FT) (M:List Mk) (H:AH):gZ rec r l F.toL M H=(mI recF r l F M H).map CO:=by
 unfold gZ mI
 cases H.get l with
 | none=>rfl
 | some o =>
  cases o with
  | loop st pe T' ps as bd d =>
   simp only
   cases Cl st with
   | true=>rfl
   | false =>
    simp only [Bool.false_eq_true,if_false]
    cases pe with
    | none=>rfl
    | some c=>exact h r c ⟨F,M,H.set l .dead⟩
  | _=>rfl
theorem EI (h:jf rec recF) (r:Option Nat) (g:Operand) (ps:Array Tmp) (as bd:Code) (s:FS):sY P X rec r g ps as bd s.dn=(BU P X recF r g ps as bd s).map CO:=by
 unfold sY BU
 simp only [l5,qk h]
 show (ev P s.F.toL g).bind _=_
 cases ev P s.F.toL g with
 | none=>rfl
 | some gv =>
  simp only [Option.bind_some]
  cases gv with
  | func fn x y =>
   cases fn with
   | func gf =>
    cases r with
    | none =>
     simp only
     cases qT P gf with
     | false=>rfl
     | true =>
      simp only [if_true,FS.dn]
      cases l6 P X recF gf (x ++ [.cV (s.H.n+1)] ++ y) ((s.H.alloc .deferred).alloc (.loop .ready none s.F.toL ps as bd s.H.n)) with
      | none=>rfl
      | some p=>exact pg h none (s.H.n+1) s.F (.mark s.H.n :: s.M) p.2
    | some b₀ =>
     simp only [FS.dn]
     cases s.H.get b₀ with
     | none=>rfl
     | some o =>
      cases o with
      | loop st pe T' Ye as' bd' d₀ =>
       simp only
       cases qT P gf with
       | false=>rfl
       | true =>
        simp only [if_true]
        cases l6 P X recF gf (x ++ [.cV s.H.n] ++ y) (s.H.alloc (.loop .ready none s.F.toL ps as bd d₀)) with
        | none=>rfl
        | some p=>exact pg h (some b₀) s.H.n s.F s.M p.2
      | _=>rfl
   | _=>cases r <;> rfl
  | _=>cases r <;> rfl
theorem Da : ∀n,jf (run P X n) (xl P X n)
 | 0=>fun _ _ _=>rfl
 | n+1=>fun r c s=>by
  have h:=Da n
  show run P X (n+1) r c s.dn=(ow P X (xl P X n) n r c s).map CO
  cases c with
  | skip=>rfl
  | label l=>rfl
  | exit id=>rfl
  | goto l=>rfl
  | ret=>rfl
  | refuse w=>rfl
  | seq a b =>
   have hh:=h r a s
   simp only [run,ow,Pv,hh]
   cases xl P X n r a s with
   | none=>rfl
   | some p =>
    obtain ⟨e,s'⟩:=p
    cases e with
    | normal=>exact h r b s'
    | _=>rfl
  | cond c x y =>
   simp only [run,ow,ML,l5]
   show (match ev P s.F.toL c with | some (.bool true)=>run P X n r x s.dn | some (.bool false)=>run P X n r y s.dn | _=>none)=_
   cases ev P s.F.toL c with
   | none=>rfl
   | some v =>
    cases v with
    | bool b=>cases b <;> exact h _ _ _
    | _=>rfl
  | block id c =>
   have hh:=h r c s
   simp only [run,ow,hh]
   cases xl P X n r c s with
   | none=>rfl
   | some p=>rfl
  | loop c=>exact Ab h r c n s
  | scope c=>exact vu h r c n c s
  | region id ops draw =>
   cases draw with
   | false =>
    simp only [run,ow]
    cases pq ops with
    | none =>
     show (pU P X (run P X n) ops ops.toList s.F.toL s.H).map _=_
     rw [r5 h]
     simp only []
     cases ER P X (xl P X n) ops ops.toList s.F s.H with
     | none=>rfl
     | some p=>rfl
    | some o =>
     cases r with
     | some _=>rfl
     | none =>
      simp only [IM]
      show (pU P X (run P X n) ops ops.toList.dropLast s.F.toL s.H).bind _=_
      rw [r5 h]
      cases ER P X (xl P X n) ops ops.toList.dropLast s.F s.H with
      | none=>rfl
      | some p =>
       simp only [Option.map_some,Option.bind_some]
       show (vE P o s.M p.1.toL p.2).map _=_
       rw [Hv]
       cases Df P o s.M p.1 p.2 with
       | none=>rfl
       | some q=>rfl
   | true =>
    simp only [run,ow,qX]
    cases nV ops with
    | none =>
     simp only [oY]
     cases pT P ops with
     | none=>rfl
     | some p =>
      simp only [Option.bind_some]
      show (qf P X (run P X n) ops p s.F.toL s.H).map _=_
      rw [Fz h]
      cases yl P X (xl P X n) ops p s.F s.H with
      | none=>rfl
      | some q=>rfl
    | some q =>
     obtain ⟨σ,A⟩:=q
     simp only
     have:=jO (P:=P) (X:=X) h ops A σ [] s.F s.H
     simp only [List.map_nil] at this
     show (jN P X (run P X n) ops A σ [] s.F.toL s.H).map _=_
     rw [this]
     cases uf P X (xl P X n) ops A σ [] s.F s.H with
     | none=>rfl
     | some p=>rfl
  | rangeFunc g ps as bd=>exact EI h r g ps as bd s
theorem qE (n:Nat) (f:FuncId) (args:List AV) (H:AH):Db P X n f args H=jz P X n f args H:=qk (Da n) f args H
theorem bH.of_run (hm:P.follows .mixedOrders=true) (hX:jg P X) {n:Nat} {f:FuncId} {args:List AV} {H:AH} {v:AV} (iJ:qT P f=true) (h:(jz P X n f args H).map (·.1)=some v) :
  bH P f args H (fun v' _=>v'=v):=by
 obtain ⟨⟨v',H'⟩,hr,rfl⟩:=Option.map_eq_some_iff.1 h
 rw [← qE] at hr
 exact (m6 hm hX iJ hr).mono fun _ _ h=>h.1
end
end Go.Am
end
/- Calls that are reckoned once, in a heap of their own, and taken as they stand in a greater one. -/
section
namespace Go.Am
open Go.RowKit
structure Sum where
 f:FuncId
 args:List AV
 n:Nat
 pre:List (Nat×aS)
 v:AV
 n' : Nat
 post:List (Nat×aS)
def I5 (a b:Fl):Bool:=a.own == b.own && a.fT == b.fT && Nat.beq a.fz b.fz && a.kO == b.kO && a.whole == b.whole
def FV:List (List UInt8×AV)→List (List UInt8×AV)→Bool
 | [],[]=>true
 | a :: x,b :: y=>decide (a.1=b.1) && gK a.2 b.2 && FV x y
 | _,_=>false
def LH:aS→aS→Bool
 | .cells cs e fl,.cells ds d fm=>Nat.beq e d && I5 fl fm && mc cs ds
 | .map x c,.map y d=>Nat.beq c d && FV x y
 | .dead,.dead=>true
 | _,_=>false
theorem I4 {a b:Fl} (h:I5 a b=true):a=b:=by
 obtain ⟨a1,a2,a3,a4,a5⟩:=a
 obtain ⟨b1,b2,b3,b4,b5⟩:=b
 simp only [I5,Bool.and_eq_true,beq_iff_eq,Nat.beq_eq] at h
 obtain ⟨⟨⟨⟨rfl,rfl⟩,rfl⟩,rfl⟩,rfl⟩:=h
 rfl
theorem DU : ∀ {a b:List (List UInt8×AV)},FV a b=true→a=b
 | [],[],_=>rfl
 | [],_ :: _,h=>by simp [FV] at h
 | _ :: _,[],h=>by simp [FV] at h
 | (k,v) :: x,(l,u) :: y,h=>by
  simp only [FV,Bool.and_eq_true,decide_eq_true_eq] at h
  obtain ⟨⟨h1,h2⟩,h3⟩:=h
  rw [h1,pF h2,DU h3]
theorem DT {a b:aS} (h:LH a b=true):a=b:=by
 cases a <;> cases b <;> simp only [LH,Bool.false_eq_true,Bool.and_eq_true,Nat.beq_eq] at h
 ·obtain ⟨⟨h1,h2⟩,h3⟩:=h
  rw [h1,I4 h2,iF h3]
 ·rfl
 ·rw [h.1,DU h.2]
def pS:List (Nat×aS)→Tr aS→Tr aS
 | [],t=>t
 | p :: l,t=>pS l (Tr.set (p.1+1) t p.1 p.2)
theorem nF : ∀ {l:List (Nat×aS)} {t:Tr aS} {b:Nat} {o:aS},(pS l t).get b=some o→(b,o) ∈ l∨((∀p ∈ l,p.1 ≠ b)∧t.get b=some o)
 | [],_,_,_,h=>.inr ⟨fun _ hp=>(by cases hp),h⟩
 | (c,q) :: l,t,b,o,h=>by
  rcases nF (l:=l) h with h | ⟨h1,h2⟩
  ·exact .inl (List.mem_cons_of_mem _ h)
  ·rw [Tr.af _ _ _ _ _ (by omega)] at h2
   by_cases e:b=c
   ·subst e;rw [if_pos rfl] at h2;cases h2;exact .inl (by simp)
   ·rw [if_neg e] at h2
    refine .inr ⟨fun p hp=>?_,h2⟩
    rcases List.mem_cons.1 hp with rfl | hp
    ·exact fun e'=>e e'.symm
    ·exact h1 p hp
def Sum.heap (s:Sum):AH:=⟨s.n,pS s.pre .nil⟩
def Sum.out (s:Sum) (H:AH):AH:=⟨s.n',pS s.post H.t⟩
def Sum.keys (s:Sum) (b:Nat):Bool:=s.pre.any fun p=>Nat.beq p.1 b
def Sum.QM (s:Sum) (args:List AV) (H:AH):Bool :=
 Nat.beq s.n H.n && (mc s.args args && s.pre.all fun p=>match H.get p.1 with | some o=>LH p.2 o | none=>false)
def Sum.Le (s:Sum):Bool :=
 s.pre.all (fun p=>p.2.live && s.post.any fun q=>Nat.beq q.1 p.1) && s.post.all fun q=>s.keys q.1 || (Nat.ble s.n q.1 && q.2.owns)
def Sum.is (s:Sum) (v:AV) (H:AH):Bool :=
 Nat.beq H.n s.n' && (gK v s.v && s.post.all fun p=>match H.get p.1 with | some o=>LH o p.2 | none=>false)
theorem Sum.call {P:Program} {s:Sum} (hr:bH P s.f s.args s.heap fun v H=>s.is v H=true) (hf:s.Le=true) {args:List AV} {H:AH} (hh:s.QM args H=true) :
  bH P s.f args H fun v H'=>v=s.v∧H'=s.out H:=by
 simp only [Sum.QM,Bool.and_eq_true,Nat.beq_eq] at hh
 obtain ⟨hn,ha,hp⟩:=hh
 obtain rfl:=iF ha
 simp only [Sum.Le,Bool.and_eq_true] at hf
 obtain ⟨WY,Zk⟩:=hf
 have Fo : ∀p ∈ s.pre,H.get p.1=some p.2:=fun p DF=>by
  have:=List.all_eq_true.1 hp p DF
  split at this
  ·rename_i o ho;rw [ho,DT this]
  ·cases this
 have lU : ∀p ∈ s.pre,p.2.live=true:=fun p DF=>by
  have:=List.all_eq_true.1 WY p DF
  simp only [Bool.and_eq_true] at this;exact this.1
 have Qv : ∀p ∈ s.pre,∃q ∈ s.post,q.1=p.1:=fun p DF=>by
  have:=List.all_eq_true.1 WY p DF
  simp only [Bool.and_eq_true] at this
  obtain ⟨q,hq,he⟩:=List.any_eq_true.1 this.2
  rw [Nat.beq_eq] at he
  exact ⟨q,hq,he⟩
 have Ik : ∀q ∈ s.post,(∃p ∈ s.pre,p.1=q.1)∨q.2.owns=true:=fun q hq=>by
  have:=List.all_eq_true.1 Zk q hq
  simp only [Bool.or_eq_true,Bool.and_eq_true,Sum.keys] at this
  rcases this with h | h
  ·obtain ⟨p,hp,he⟩:=List.any_eq_true.1 h
   rw [Nat.beq_eq] at he
   exact .inl ⟨p,hp,he⟩
  ·exact .inr h.2
 have Co : ∀b o,s.heap.get b=some o→(b,o) ∈ s.pre:=fun b o hb=>by
  rcases nF (show (pS s.pre .nil).get b=some o from hb) with h | h
  ·exact h
  ·simp [Tr.get] at h
 intro E B w bJ hH hA
 let B' : eS:=⟨fun k=>B k∨(k<w.heap.size∧¬ ∃p ∈ s.pre,p.2.owns=true∧∃L,E p.1=some L∧L.bB=k),B.D⟩
 have ZS:HR P E B' s.heap w:=by
  refine ⟨fun b L hb=>by have:=hH.yy b L hb;show b<s.n;omega,fun b o hb=>?_,fun k hk=>hk.elim (hH.base k) fun h=>h.1,hH.jI,fun b b' o o' L L' cU hb eu ho Mq hL cr=>hH.sep b b' o o' L L' cU (Fo _ (Co b o hb)) (Fo _ (Co b' o' eu)) ho Mq hL cr⟩
  obtain ⟨L,hL,Fp⟩:=hH.obj b o (Fo _ (Co b o hb))
  exact ⟨L,hL,Fp.AT fun ho n hx=>hx.elim n fun h=>h.2 ⟨_,Co b o hb,ho,L,hL,rfl⟩⟩
 refine Calls.mono (hr E B' w bJ ZS hA) ?_
 rintro e w' ⟨v,H₁,E',x,rfl,WS,hE,wg,hv,hb⟩
 simp only [Sum.is,Bool.and_eq_true,Nat.beq_eq] at WS
 obtain ⟨WG,Qj,jo⟩:=WS
 obtain rfl:=pF Qj
 have Ar : ∀p ∈ s.post,H₁.get p.1=some p.2:=fun p DF=>by
  have:=List.all_eq_true.1 jo p DF
  split at this
  ·rename_i o ho;rw [ho,DT this]
  ·cases this
 have hold : ∀b o L,(∀q ∈ s.post,q.1 ≠ b)→H.get b=some o→o.live=true→E b=some L→B' L.bB:=by
  intro b o L hq hg hl hL
  obtain ⟨M,hM,Fp⟩:=hH.obj b o hg
  rw [hL] at hM;cases hM
  refine .inr ⟨Fp.nY hl,?_⟩
  rintro ⟨p,DF,YW,L',cr,he⟩
  obtain ⟨q,yS,YT⟩:=Qv p DF
  exact hH.sep p.1 b p.2 o L' L (fun e=>hq q yS (YT.trans e)) (Fo p DF) hg YW hl cr hL he
 have tS : ∀b o,(s.out H).get b=some o→(b,o) ∈ s.post∨((∀p ∈ s.post,p.1 ≠ b)∧H.get b=some o):=fun b o hb=>nF (show (pS s.post H.t).get b=some o from hb)
 have PL : ∀ {o:aS},o.owns=true→o.live=true:=fun {o} h=>by cases o <;> simp_all [aS.owns,aS.live]
 refine ⟨s.v,s.out H,E',x,rfl,⟨rfl,rfl⟩,hE,?_,hv,hb.ud fun k hk=>.inl hk⟩
 refine ⟨fun b L ZB=>by have:=wg.yy b L ZB;show b<s.n';omega,fun b o Q9=>?_,fun k hk=>Nat.lt_of_lt_of_le (hH.base k hk) hb.size,wg.jI,fun b b' o o' L L' cU Q9 UR ho Mq hL cr=>?_⟩
 ·rcases tS b o Q9 with h | ⟨h1,h2⟩
  ·obtain ⟨L,hL,Fp⟩:=wg.obj b o (Ar _ h)
   exact ⟨L,hL,Fp.AT fun _ n hx=>n (.inl hx)⟩
  ·obtain ⟨L,hL,Fp⟩:=hH.obj b o h2
   refine ⟨L,hE _ _ hL,?_⟩
   by_cases hl:o.live=true
   ·exact Fp.same hE (hb.block _ (hold b o L h1 h2 hl hL))
   ·cases o <;> first | trivial | exact absurd rfl hl
 ·rcases tS b o Q9 with h | ⟨h1,h2⟩ <;> rcases tS b' o' UR with k | ⟨k1,k2⟩
  ·exact wg.sep b b' o o' L L' cU (Ar _ h) (Ar _ k) ho Mq hL cr
  ·obtain ⟨M,hM,Fp⟩:=wg.obj b o (Ar _ h)
   rw [hL] at hM;cases hM
   obtain ⟨M',gm,_⟩:=hH.obj b' o' k2
   have:=hE _ _ gm
   rw [cr] at this;cases this
   intro e
   exact Fp.off ho (e ▸ hold b' o' _ k1 k2 Mq gm)
  ·obtain ⟨M,hM,_⟩:=hH.obj b o h2
   have:=hE _ _ hM
   rw [hL] at this;cases this
   have Gt:=hold b o _ h1 h2 (PL ho) hM
   rcases Ik _ k with ⟨p,DF,Mn⟩ | gN
   ·simp only at Mn
    obtain ⟨M',gm,_⟩:=hH.obj p.1 p.2 (Fo p DF)
    have gY:=hE _ _ gm
    rw [Mn,cr] at gY;cases gY
    exact hH.sep b p.1 o p.2 _ _ (fun e=>cU (e.trans Mn)) h2 (Fo p DF) ho (lU p DF) hM gm
   ·obtain ⟨M',gm,Ul⟩:=wg.obj b' o' (Ar _ k)
    rw [cr] at gm;cases gm
    exact fun e=>Ul.off gN (e ▸ Gt)
  ·obtain ⟨M,hM,_⟩:=hH.obj b o h2
   obtain ⟨M',gm,_⟩:=hH.obj b' o' k2
   have e1:=hE _ _ hM
   rw [hL] at e1;cases e1
   have e2:=hE _ _ gm
   rw [cr] at e2;cases e2
   exact hH.sep b b' o o' _ _ cU h2 k2 ho Mq hM gm
def Sum.Ok (P:Program) (s:Sum):Prop:=qT P s.f=true∧s.Le=true∧bH P s.f s.args s.heap fun v H=>s.is v H=true
theorem Sum.of_run {P:Program} {X:Ext} {s:Sum} {n:Nat} (hm:P.follows .mixedOrders=true) (hX:jg P X) (h:(qT P s.f && (s.Le && match jz P X n s.f s.args s.heap with | some p=>s.is p.1 p.2 | none=>false))=true):s.Ok P:=by
 simp only [Bool.and_eq_true] at h
 obtain ⟨h1,h2,h3⟩:=h
 refine ⟨h1,h2,?_⟩
 split at h3
 ·rename_i p hp
  obtain ⟨v,H⟩:=p
  rw [← qE] at hp
  exact (m6 hm hX h1 hp).mono fun v' H' ⟨e1,e2⟩=>by subst e1 e2;exact h3
 ·cases h3
inductive Jj (P:Program):List Sum→Prop
 | nil:Jj P []
 | cons {s:Sum} {l:List Sum}:s.Ok P→Jj P l→Jj P (s :: l)
end Go.Am
end

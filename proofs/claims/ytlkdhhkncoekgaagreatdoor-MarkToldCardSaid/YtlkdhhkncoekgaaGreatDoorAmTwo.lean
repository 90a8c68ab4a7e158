/- The abstract machine: statements, calls, yields, ranges over functions, runs of closed code; that they are sound. -/
import Derived.Test.YtlkdhhkncoekgaaGreatDoorAmOne
import Derived.OrdersIn
import Derived.TacticsIn
import Derived.Scope
import Derived.RangeFuncLeaves
import Derived.RangeFuncRecord
import Derived.RecoverIn
import Derived.ProofKit
import Derived.WalkKit
import Derived.OpenShut
import Derived.Lib.LaidTab
import Derived.Lib.Bytealg
import Derived.Lib.MakeNoZero
import Derived.Lib.IndexEntry
import Derived.Conc.AtomicLaws2
import Derived.Deep.DeepHandedRow
import Derived.Stop.LaidErr
/- The abstract machine: activations, statements, operations in a region, calls. -/
section
namespace Go
section
variable {F:Fence} {n:Nat} {P:Program} {Q:Exit→Act→World→Prop} {a:Act} {w:World}
theorem xK {c:Code} (I:Nat→Act→World→Prop) {j:Nat} (h₀:I j a w)
  (round : ∀j a w,I j a w→c.wpIn F n P (Exit.then (fun a' w'=>∃i,i<j∧I i a' w') Q) a w):(Code.loop c).wpIn F n P Q a w:=by
 intro b k cs Tk hb hr
 have key : ∀j a w,I j a w →
   ∃e a' w',Q e a' w'∧ArrivesIn (Machine.fenced P F) P (lone (b.atR a (.code c :: .inLoop c :: k)) cs w) b k cs e a' w':=by
  intro j
  induction j using Nat.strongRecOn with
  | _ j ih =>
   intro a w hI
   obtain ⟨e,a₁,w₁,hq,fV⟩:=round j a w hI b (.inLoop c :: k) cs Tk hb hr
   cases e with
   | normal =>
    obtain ⟨i,cu,Sb⟩:=hq
    obtain ⟨e₂,a₂,w₂,nO,pP⟩:=ih i cu a₁ w₁ Sb
    exact ⟨e₂,a₂,w₂,nO,.of_steps (StepsIn.trans fV (.one (fenced_calm hb hr rfl) stepR_inLoop)) pP⟩
   | exit id=>exact ⟨_,a₁,w₁,hq,.pass (x:=.inLoop c) rfl (fun _ _=>.inl (by simp)) fV⟩
   | goto l=>exact ⟨_,a₁,w₁,hq,.pass (x:=.inLoop c) rfl (fun _ _=>.inl (by simp)) fV⟩
   | ret=>exact ⟨_,a₁,w₁,hq,.pass (x:=.inLoop c) rfl (fun _ _=>.inl (by simp)) fV⟩
   | panic ch=>exact ⟨_,a₁,w₁,hq,.pass (x:=.inLoop c) rfl (fun _ _=>.inl (by simp)) fV⟩
   | outgrown=>exact ⟨_,a₁,w₁,hq,.pass (x:=.inLoop c) rfl (fun _ _=>.inl (by simp)) fV⟩
 obtain ⟨e,a',w',hq,fV⟩:=key _ a w h₀
 exact ⟨e,a',w',hq,.of_steps (.one (fenced_calm hb hr rfl) stepR_loop) fV⟩
theorem zW {b:Frame} {c:Code} {k:List Item} {cs:List Frame}:step P (lone (b.atR a (.code (.scope c) :: k)) cs w)=.next (lone (b.atR a (.code c :: .inScope c :: k)) cs w) :=
 step_lone_go (by simp [stepG,stepG.exec,Frame.atR])
theorem nF {b:Frame} {c:Code} {k:List Item} {cs:List Frame}:step P (lone (b.atR a (.inScope c :: k)) cs w)=.next (lone (b.atR a k) cs w) :=
 step_lone_go (by simp [stepG,stepG.exec,Frame.atR])
def Exit.jumps (c:Code) (J:Nat→Act→World→Prop) (Q:Exit→Act→World→Prop):Exit→Act→World→Prop
 | .goto l,a,w=>if (findLabel c l).isSome then J l a w else Q (.goto l) a w
 | e,a,w=>Q e a w
theorem vw {c:Code} (J:Nat→Nat→Act→World→Prop) (first:c.wpIn F n P (Exit.jumps c (fun l a w=>∃j,J j l a w) Q) a w)
  (pass : ∀j l a w rest,findLabel c l=some rest→J j l a w→rest.wpIn F n P (Exit.jumps c (fun l' a' w'=>∃i,i<j∧J i l' a' w') Q) a w):(Code.scope c).wpIn F n P Q a w:=by
 intro b k cs Tk hb hr
 have hx : ∀id,exitTo id (.inScope c :: k)=exitTo id k:=fun id=>by simp [exitTo]
 have XP : ∀l,(findLabel c l).isSome=false→gotoIn l (.inScope c :: k)=gotoIn l k:=fun l h=>by
  cases hf:findLabel c l with
  | none=>simp [gotoIn,hf]
  | some r=>rw [hf] at h;cases h
 have XO : ∀l rest,findLabel c l=some rest→gotoIn l (.inScope c :: k)=some (.code rest :: .inScope c :: k):=fun l rest h=>by simp [gotoIn,h]
 have key : ∀j l a w rest,findLabel c l=some rest→J j l a w→∃e a' w',Q e a' w'∧ArrivesIn (Machine.fenced P F) P (lone (b.atR a (.code rest :: .inScope c :: k)) cs w) b k cs e a' w':=by
  intro j
  induction j using Nat.strongRecOn with
  | _ j ih =>
   intro l a w rest hf hJ
   obtain ⟨e,a₁,w₁,hq,fV⟩:=pass j l a w rest hf hJ b (.inScope c :: k) cs Tk hb hr
   cases e with
   | normal=>exact ⟨.normal,a₁,w₁,hq,StepsIn.trans fV (.one (fenced_calm hb hr rfl) nF)⟩
   | exit id=>exact ⟨.exit id,a₁,w₁,hq,fun k' hk=>fV.1 k' (by rw [hx];exact hk),fun Ef hk=>fV.2 Ef (by rw [hx];exact hk)⟩
   | goto l' =>
    simp only [Exit.jumps] at hq
    split at hq
    ·rename_i hs
     obtain ⟨Ar,F3⟩:=Option.isSome_iff_exists.1 hs
     obtain ⟨i,cu,Nn⟩:=hq
     obtain ⟨e₂,a₂,w₂,nO,pP⟩:=ih i cu l' a₁ w₁ Ar F3 Nn
     exact ⟨e₂,a₂,w₂,nO,.of_steps (fV.1 _ (XO _ _ F3)) pP⟩
    ·rename_i hs
     have:=XP l' (by simpa using hs)
     exact ⟨.goto l',a₁,w₁,hq,fun k' hk=>fV.1 k' (by rw [this];exact hk),fun Ef hk=>fV.2 Ef (by rw [this];exact hk)⟩
   | ret=>exact ⟨_,a₁,w₁,hq,fV⟩
   | panic ch=>exact ⟨_,a₁,w₁,hq,fV⟩
   | outgrown=>exact ⟨_,a₁,w₁,hq,fV⟩
 have h0:StepsIn (Machine.fenced P F) P (lone (b.atR a (.code (.scope c) :: k)) cs w) (lone (b.atR a (.code c :: .inScope c :: k)) cs w):=.one (fenced_calm hb hr rfl) zW
 obtain ⟨e,a₁,w₁,hq,fV⟩:=first b (.inScope c :: k) cs Tk hb hr
 cases e with
 | normal=>exact ⟨.normal,a₁,w₁,hq,h0.trans (StepsIn.trans fV (.one (fenced_calm hb hr rfl) nF))⟩
 | exit id=>exact ⟨.exit id,a₁,w₁,hq,.of_steps h0 ⟨fun k' hk=>fV.1 k' (by rw [hx];exact hk),fun Ef hk=>fV.2 Ef (by rw [hx];exact hk)⟩⟩
 | goto l' =>
  simp only [Exit.jumps] at hq
  split at hq
  ·rename_i hs
   obtain ⟨Ar,F3⟩:=Option.isSome_iff_exists.1 hs
   obtain ⟨j,Nn⟩:=hq
   obtain ⟨e₂,a₂,w₂,nO,pP⟩:=key j l' a₁ w₁ Ar F3 Nn
   exact ⟨e₂,a₂,w₂,nO,.of_steps (h0.trans (fV.1 _ (XO _ _ F3))) pP⟩
  ·rename_i hs
   have:=XP l' (by simpa using hs)
   exact ⟨.goto l',a₁,w₁,hq,.of_steps h0 ⟨fun k' hk=>fV.1 k' (by rw [this];exact hk),fun Ef hk=>fV.2 Ef (by rw [this];exact hk)⟩⟩
 | ret=>exact ⟨_,a₁,w₁,hq,.of_steps h0 fV⟩
 | panic ch=>exact ⟨_,a₁,w₁,hq,.of_steps h0 fV⟩
 | outgrown=>exact ⟨_,a₁,w₁,hq,.of_steps h0 fV⟩
end
namespace Am
open Go.RowKit
inductive Mk where
 | mark (m:Nat)
 | call (g:FuncId) (a y:List AV)
structure St where
 T:List AV
 M:List Mk
 H:AH
inductive dy where
 | normal
 | exit (id:Nat)
 | goto (l:Nat)
 | ret
 deriving DecidableEq
def dy.toExit:dy→Exit
 | .normal=>.normal
 | .exit id=>.exit id
 | .goto l=>.goto l
 | .ret=>.ret
def Fr (rc:Option Nat):Fence:={ Fence.wide with round:=rc }
theorem ei {rc:Option Nat} {n:Nat} {P:Program} {f:FuncId} {args:Array Value} {w:World} {R:Ending→World→Prop}:CallsIn (Fr rc) n P f args w R↔Calls P f args w R :=
 show CallsIn Fence.wide n P f args w R↔_ from callsIn_wide
def MR (D:List Deferred) (E:Env):List Mk→List Deferred→Prop
 | [],ds=>ds=D
 | .mark m :: ms,ds=>∃L GX,E m=some L∧ds = { target:=.collected L.bH,args:=#[] } :: GX∧MR D E ms GX
 | .call g a y :: ms,ds=>∃a' y' GX,aJ E a a'.toList∧aJ E y y'.toList∧ds = { target:=.fn (.func g) y',args:=a' } :: GX∧MR D E ms GX
theorem MR.mono {D:List Deferred} {E E' : Env} (h:E.le E') : ∀ {ms:List Mk} {ds:List Deferred},MR D E ms ds→MR D E' ms ds
 | [],_,k=>k
 | .mark _ :: _,_,k=>by obtain ⟨L,GX,h1,h2,h3⟩:=k;exact ⟨L,GX,h _ _ h1,h2,MR.mono h h3⟩
 | .call _ _ _ :: _,_,k=>by obtain ⟨a',y',GX,h1,h2,h3,h4⟩:=k;exact ⟨a',y',GX,aJ.mono h _ _ h1,aJ.mono h _ _ h2,h3,MR.mono h h4⟩
def RR (E:Env):Option Nat→Option Nat→Prop
 | none,rc=>rc=none
 | some l,rc=>∃L,E l=some L∧rc=some L.bH
theorem RR.mono {E E' : Env} (h:E.le E') {r rc:Option Nat} (k:RR E r rc):RR E' r rc:=by
 cases r with
 | none=>exact k
 | some l=>obtain ⟨L,h1,h2⟩:=k;exact ⟨L,h _ _ h1,h2⟩
structure SR (P:Program) (E:Env) (B:eZ) (s:St) (a:Act) (w:World):Prop where
 heap:HR P E B s.H w
 tmps:aJ E s.T a.tmps.toList
 marks:MR B.D E s.M a.defers
def vo (P:Program) (E:Env) (B:eZ) (w:World) (Q:dy→St→Prop):Exit→Act→World→Prop:=fun e a' w' =>
 ∃ae s' E',e=dy.toExit ae∧Q ae s'∧E.le E'∧SR P E' B s' a' w'∧Below B w w'
def bK (P:Program) (r:Option Nat) (c:Code) (Q:dy→St→Prop) (s:St):Prop :=
 ∀E B w a rc,SR P E B s a w→RR E r rc→c.wpIn (Fr rc) 0 P (vo P E B w Q) a w
def bL (P:Program) (f:FuncId) (args:List AV) (H:AH) (Q:AV→AH→Prop):Prop :=
 ∀E B w bD,HR P E B H w→aJ E args bD.toList →
  Calls P f bD w (fun e w'=>∃v H' E' x,e=.returned x∧Q v H'∧E.le E'∧HR P E' B H' w'∧VR E' v x∧Below B w w')
section rules
variable {P:Program} {r:Option Nat} {Q:dy→St→Prop} {s:St}
theorem vo.trans {E E' : Env} {B:eZ} {w w' : World} {Q:dy→St→Prop} {e:Exit} {a:Act} {BZ:World} (hE:E.le E') (hb:Below B w w') (h:vo P E' B w' Q e a BZ):vo P E B w Q e a BZ:=by
 obtain ⟨ae,s',BW,h1,h2,h3,h4,h5⟩:=h
 exact ⟨ae,s',BW,h1,h2,hE.trans h3,h4,hb.trans h5⟩
theorem bK.mono {c:Code} {Q' : dy→St→Prop} (h:bK P r c Q s) (hq : ∀e s,Q e s→Q' e s):bK P r c Q' s :=
 fun E B w a rc hs hr=>Go.wpIn_mono (h E B w a rc hs hr) fun _ _ _ ⟨ae,s',E',h1,h2,h3⟩=>⟨ae,s',E',h1,hq _ _ h2,h3⟩
theorem bL.mono {f:FuncId} {args:List AV} {H:AH} {Q Q' : AV→AH→Prop} (h:bL P f args H Q) (hq : ∀v H,Q v H→Q' v H):bL P f args H Q' :=
 fun E B w bD hH ha=>Calls.mono (h E B w bD hH ha) fun _ _ ⟨v,H',E',x,h1,h2,h3⟩=>⟨v,H',E',x,h1,hq _ _ h2,h3⟩
def DI (K:St→Prop) (Q:dy→St→Prop):dy→St→Prop
 | .normal,s=>K s
 | e,s=>Q e s
def mu (id:Nat) (Q:dy→St→Prop):dy→St→Prop
 | .exit i,s=>if i=id then Q .normal s else Q (.exit i) s
 | e,s=>Q e s
def dc (c:Code) (J:Nat→St→Prop) (Q:dy→St→Prop):dy→St→Prop
 | .goto l,s=>if (findLabel c l).isSome then J l s else Q (.goto l) s
 | e,s=>Q e s
theorem bK.skip (h:Q .normal s):bK P r .skip Q s:=fun E B w _ _ hs _=>wpIn_skip ⟨.normal,s,E,rfl,h,Env.le.refl E,hs,Below.refl B w⟩
theorem bK.label {l:Nat} (h:Q .normal s):bK P r (.label l) Q s:=fun E B w _ _ hs _=>wpIn_label ⟨.normal,s,E,rfl,h,Env.le.refl E,hs,Below.refl B w⟩
theorem bK.exit {id:Nat} (h:Q (.exit id) s):bK P r (.exit id) Q s:=fun E B w _ _ hs _=>wpIn_exit ⟨.exit id,s,E,rfl,h,Env.le.refl E,hs,Below.refl B w⟩
theorem bK.goto {l:Nat} (h:Q (.goto l) s):bK P r (.goto l) Q s:=fun E B w _ _ hs _=>wpIn_goto ⟨.goto l,s,E,rfl,h,Env.le.refl E,hs,Below.refl B w⟩
theorem bK.ret (h:Q .ret s):bK P r .ret Q s:=fun E B w _ _ hs _=>wpIn_ret ⟨.ret,s,E,rfl,h,Env.le.refl E,hs,Below.refl B w⟩
theorem bK.seq {x y:Code} (h:bK P r x (DI (bK P r y Q) Q) s):bK P r (.seq x y) Q s:=by
 intro E B w a rc hs hr
 refine wpIn_seq (Go.wpIn_mono (h E B w a rc hs hr) ?_)
 rintro e a' w' ⟨ae,s',E',rfl,hq,hE,qC,hb⟩
 cases ae with
 | normal=>exact Go.wpIn_mono (hq E' B w' a' rc qC (hr.mono hE)) fun e a w h=>h.trans hE hb
 | exit id=>exact ⟨.exit id,s',E',rfl,hq,hE,qC,hb⟩
 | goto l=>exact ⟨.goto l,s',E',rfl,hq,hE,qC,hb⟩
 | ret=>exact ⟨.ret,s',E',rfl,hq,hE,qC,hb⟩
theorem bK.cond {c:Operand} {x y:Code} {b:Bool} (hc:ev P s.T c=some (.bool b)) (h:bK P r (if b then x else y) Q s):bK P r (.cond c x y) Q s:=by
 intro E B w a rc hs hr
 have:a.eval c=.bool b:=iW hs.heap hs.tmps hc
 exact wpIn_cond this (by cases b <;> exact h E B w a rc hs hr)
theorem bK.block {id:Nat} {c:Code} (h:bK P r c (mu id Q) s):bK P r (.block id c) Q s:=by
 intro E B w a rc hs hr
 refine wpIn_block (Go.wpIn_mono (h E B w a rc hs hr) ?_)
 rintro e a' w' ⟨ae,s',E',rfl,hq,hE,qC,hb⟩
 cases ae with
 | normal=>exact ⟨.normal,s',E',rfl,hq,hE,qC,hb⟩
 | exit i =>
  simp only [mu] at hq
  simp only [dy.toExit,Exit.inBlock]
  by_cases e:i=id
  ·rw [if_pos e] at hq;simp only [e,if_true];exact ⟨.normal,s',E',rfl,hq,hE,qC,hb⟩
  ·rw [if_neg e] at hq;simp only [e,if_false];exact ⟨.exit i,s',E',rfl,hq,hE,qC,hb⟩
 | goto l=>exact ⟨.goto l,s',E',rfl,hq,hE,qC,hb⟩
 | ret=>exact ⟨.ret,s',E',rfl,hq,hE,qC,hb⟩
theorem bK.loop {c:Code} (I:Nat→St→Prop) {j:Nat} (h₀:I j s) (h : ∀j s,I j s→bK P r c (DI (fun s'=>∃i,i<j∧I i s') Q) s):bK P r (.loop c) Q s:=by
 intro E B w a rc hs hr
 refine xK (j:=j) (fun j a' w'=>∃E' s',I j s'∧E.le E'∧SR P E' B s' a' w'∧Below B w w') ⟨E,s,h₀,Env.le.refl E,hs,Below.refl B w⟩ ?_
 rintro j a₁ w₁ ⟨E₁,s₁,hI,hE,uD,hb⟩
 refine Go.wpIn_mono (h j s₁ hI E₁ B w₁ a₁ rc uD (hr.mono hE)) ?_
 rintro e a' w' ⟨ae,s',E',rfl,hq,iG,qC,dM⟩
 cases ae with
 | normal=>obtain ⟨i,hi,VS⟩:=hq;exact ⟨i,hi,E',s',VS,hE.trans iG,qC,hb.trans dM⟩
 | exit id=>exact ⟨.exit id,s',E',rfl,hq,hE.trans iG,qC,hb.trans dM⟩
 | goto l=>exact ⟨.goto l,s',E',rfl,hq,hE.trans iG,qC,hb.trans dM⟩
 | ret=>exact ⟨.ret,s',E',rfl,hq,hE.trans iG,qC,hb.trans dM⟩
theorem bK.scope {c:Code} (J:Nat→Nat→St→Prop) (h₀:bK P r c (dc c (fun l s=>∃j,J j l s) Q) s)
  (h : ∀j l s rest,findLabel c l=some rest→J j l s→bK P r rest (dc c (fun l' s'=>∃i,i<j∧J i l' s') Q) s):bK P r (.scope c) Q s:=by
 intro E B w a rc hs hr
 have key : ∀ {E₁:Env} {w₁:World} {e:Exit} {a' : Act} {w' : World} {K:Nat→St→Prop} {K' : Nat→Act→World→Prop},E.le E₁→Below B w w₁ →
   (∀l E' s',K l s'→E.le E'→SR P E' B s' a' w'→Below B w w'→K' l a' w')→vo P E₁ B w₁ (dc c K Q) e a' w'→Exit.jumps c K' (vo P E B w Q) e a' w':=by
  rintro E₁ w₁ e a' w' K K' hE hb hK ⟨ae,s',E',rfl,hq,iG,qC,dM⟩
  cases ae with
  | normal=>exact ⟨.normal,s',E',rfl,hq,hE.trans iG,qC,hb.trans dM⟩
  | exit id=>exact ⟨.exit id,s',E',rfl,hq,hE.trans iG,qC,hb.trans dM⟩
  | goto l =>
   simp only [dc] at hq
   simp only [dy.toExit,Exit.jumps]
   split at hq
   ·rename_i hl;rw [if_pos hl];exact hK l E' s' hq (hE.trans iG) qC (hb.trans dM)
   ·rename_i hl;rw [if_neg hl];exact ⟨.goto l,s',E',rfl,hq,hE.trans iG,qC,hb.trans dM⟩
  | ret=>exact ⟨.ret,s',E',rfl,hq,hE.trans iG,qC,hb.trans dM⟩
 refine vw (fun j l a' w'=>∃E' s',J j l s'∧E.le E'∧SR P E' B s' a' w'∧Below B w w') (Go.wpIn_mono (h₀ E B w a rc hs hr) fun _ _ _ hp=>key (Env.le.refl E) (Below.refl B w) ?_ hp) ?_
 ·rintro l E' s' ⟨j,hJ⟩ iG qC dM;exact ⟨j,E',s',hJ,iG,qC,dM⟩
 ·rintro j l a₁ w₁ rest hf ⟨E₁,s₁,hJ,hE,uD,hb⟩
  refine Go.wpIn_mono (h j l s₁ rest hf hJ E₁ B w₁ a₁ rc uD (hr.mono hE)) fun _ _ _ hp=>key hE hb ?_ hp
  rintro l E' s' ⟨i,hi,Nn⟩ iG qC dM;exact ⟨i,hi,E',s',Nn,iG,qC,dM⟩
end rules
end Am
end Go
end
/- The abstract machine: operations in a region, calls of functions, rounds. -/
section
namespace Go.Am
open Go.RowKit
def aV (T:List AV) (dst:Option Tmp) (v:AV):List AV :=
 match dst with
 | some d=>T.set d v
 | none=>T
theorem aJ.put {E:Env} {T:List AV} {a:Act} (h:aJ E T a.tmps.toList) (dst:Option Tmp) {v:AV} {x:Value} (hv:VR E v x):aJ E (aV T dst v) (a.put dst x).tmps.toList:=by
 cases dst with
 | none=>exact h
 | some d=>simpa [aV,Act.put] using aJ.set d h hv
@[simp] theorem put_defers (a:Act) (dst:Option Tmp) (x:Value):(a.put dst x).defers=a.defers:=by cases dst <;> rfl
def aT (ops:Array Oper) (T:List AV) (o:Oper):Option Bool :=
 match o.guard with
 | none=>some true
 | some (j,want) =>
  match ((ops[j]?).bind (·.dst)).bind (T[·]?) with
  | some (.bool b)=>some (b == want)
  | some .any=>none
  | _=>some false
theorem dO {E:Env} {T:List AV} {a:Act} {ops:Array Oper} {o:Oper} {b:Bool} (h:aJ E T a.tmps.toList) (hw:aT ops T o=some b):Region.wanted o (yielded ops a.tmps)=b:=by
 unfold aT at hw
 unfold Region.wanted
 cases hg:o.guard with
 | none=>rw [hg] at hw;simpa using hw
 | some g =>
  obtain ⟨j,want⟩:=g
  rw [hg] at hw
  simp only at hw ⊢
  unfold yielded
  cases hd:(ops[j]?).bind (·.dst) with
  | none=>rw [hd] at hw;simp at hw;simp [hw]
  | some d =>
   rw [hd] at hw
   simp only [Option.bind_some] at hw ⊢
   cases hT:T[d]? with
   | none =>
    have:a.tmps[d]? = none:=by
     rw [← Array.getElem?_toList,List.getElem?_eq_none_iff,← h.length];exact List.getElem?_eq_none_iff.1 hT
    rw [hT] at hw;simp at hw
    simp [this,hw]
   | some v =>
    obtain ⟨y,hy,hv⟩:=h.get hT
    rw [Array.getElem?_toList] at hy
    rw [hT] at hw
    rw [hy]
    match v,hv with
    | .bool u,hv=>obtain rfl:y=_:=hv;simp at hw;subst hw;simp
    | .any,_=>simp at hw
    | .int _ _,hv=>obtain rfl:y=_:=hv;simp at hw;subst hw;rfl
    | .str _,hv=>obtain rfl:y=_:=hv;simp at hw;subst hw;rfl
    | .ptr none,hv=>obtain rfl:y=_:=hv;simp at hw;subst hw;rfl
    | .ptr (some (p,q)),hv=>obtain ⟨L,_,rfl⟩:=hv;simp at hw;subst hw;rfl
    | .slice none l c,hv=>obtain ⟨rfl,_⟩:=hv;simp at hw;subst hw;rfl
    | .slice (some (p,q)) l c,hv=>obtain ⟨L,a',c',_,rfl,_⟩:=hv;simp at hw;subst hw;rfl
    | .func f u v,hv=>obtain ⟨u',v',rfl,_⟩:=hv;simp at hw;subst hw;rfl
    | .nilFunc,hv=>obtain rfl:y=_:=hv;simp at hw;subst hw;rfl
    | .cY u,hv=>obtain ⟨L,_,rfl⟩:=hv;simp at hw;subst hw;rfl
    | .iface u v,hv=>obtain ⟨z,rfl,_⟩:=hv;simp at hw;subst hw;rfl
    | .nilIface,hv=>obtain rfl:y=_:=hv;simp at hw;subst hw;rfl
    | .map none,hv=>obtain rfl:y=_:=hv;simp at hw;subst hw;rfl
    | .map (some _),hv=>obtain ⟨L,_,rfl⟩:=hv;simp at hw;subst hw;rfl
    | .half _ _,hv=>obtain ⟨m,rfl,_⟩:=hv;simp at hw;subst hw;rfl
    | .rm,hv=>obtain ⟨m,rfl⟩:=hv;simp at hw;subst hw;rfl
    | .agg cs,hv=>obtain ⟨z,rfl,_⟩:=hv;simp at hw;subst hw;rfl
    | .tuple cs,hv=>obtain ⟨z,rfl,_⟩:=hv;simp at hw;subst hw;rfl
def jT (P:Program) (r:Option Nat) (o:Oper) (T:List AV) (H:AH) (K:AV→AH→Prop):Prop :=
 ∀E B w a rc (next:Act→World→Prop) (Q' : Exit→Act→World→Prop),HR P E B H w→nS P E T a o.op.operands→RR E r rc →
  (∀v H' E' w' x,K v H'→E.le E'→HR P E' B H' w'→VR E' v x→Below B w w'→next (a.put o.dst x) w')→o.wpIn (Fr rc) 0 P a w next Q'
section
variable {P:Program} {r:Option Nat} {o:Oper} {T:List AV} {H:AH} {K:AV→AH→Prop}
theorem jT.mono {K' : AV→AH→Prop} (h:jT P r o T H K) (hk : ∀v H,K v H→K' v H):jT P r o T H K' :=
 fun E B w a rc next Q' hH hT hr hn=>h E B w a rc next Q' hH hT hr fun v H' E' w' x hv=>hn v H' E' w' x (hk v H' hv)
theorem dU (rc:Option Nat) (ρ:Operand→Value) (o:Oper) (h : ∀c,o.op ≠ .defer c):Oper.semAt (Fr rc).round ρ o=execOp ρ o:=Oper.semAt_eq _ _ _ h
theorem jT.oo {v:AV} {H' : AH} (h:p9 P T H o=some (v,H')) (k:K v H'):jT P r o T H K:=by
 intro E B w a rc next Q' hH hT hr hn
 obtain ⟨⟨E',w',x,hx,hE,hv,iF,hb⟩,hd⟩:=DR hH hT h
 refine ⟨fun _ _=>trivial,?_⟩
 rw [dU rc _ _ hd]
 rcases hx with hx | ⟨hx,rfl⟩
 ·rw [hx,Oper.uponIn_value];exact hn v H' E' w' x k hE iF hv hb
 ·rw [hx,Oper.uponIn_skip];exact hn v H' E' w' _ k hE iF hv hb
def Goes (P:Program) (g:FuncId):Prop:=∀args w,(callFunc g args).run P w=.ok (.enter g args) w
theorem bF {ρ:Operand→Value} {f:Operand} {fn:Fn} {x y:Array Value} (h:ρ f=.func fn x y) (xs:Array Operand) (ts:Array TypeId) (ty:TypeId) (w:World) :
  (resolve ρ { callee:=.value f,args:=xs,argTypes:=ts } ty).run P w=.ok { target:=.fn fn y,args:=x ++ xs.map ρ } w:=by
 simp [resolve,h,Deferred.ofValue]
def aD (P:Program) (g:FuncId) (args:List AV) (H:AH) (K:AV→AH→Prop):Prop :=
 (Goes P g∧bL P g args H K) ∨
 (∀E B w bD,HR P E B H w→aJ E args bD.toList→∃v H' E' w' x,(callFunc g bD).run P w=.ok (.value x) w'∧K v H'∧E.le E'∧HR P E' B H' w'∧VR E' v x∧Below B w w')
theorem jT.call {dst:Option Tmp} {f:Operand} {xs:Array Operand} {ts:Array TypeId} {ty:TypeId} {pos:String} {after:Array Edge} {guard:Option (Nat×Bool)} {g:FuncId} {x y vs:List AV}
  (ia:Goes P g) (hf:ev P T f=some (.func (.func g) x y)) (hx:qd P T xs.toList=some vs) (h:bL P g (x ++ vs ++ y) H K) :
  jT P r ⟨dst,.call { callee:=.value f,args:=xs,argTypes:=ts },ty,pos,after,guard⟩ T H K:=by
 intro E B w a rc next Q' hH hT hr hn
 refine ⟨fun _ _=>trivial,?_⟩
 rw [dU rc _ _ (by simp)]
 have h1:=ec (a:=a) (fun y hy=>hT y (by simp [Op.operands,Call.operands];right;simpa using hy)) hx
 obtain ⟨x',y',h2,h3,h4⟩:=hT f (by simp [Op.operands,Call.operands]) _ hf
 have he:(execOp a.eval ⟨dst,.call { callee:=.value f,args:=xs,argTypes:=ts },ty,pos,after,guard⟩).run P w=.ok (.enter g (x' ++ xs.map a.eval ++ y')) w:=by
  simp only [execOp,Sem.run_bind,bF h2,Result.andThen_ok,invoke]
  exact ia _ _
 rw [he,Oper.uponIn_enter]
 refine ⟨fun h=>by simp [Fr,Fence.wide] at h,ei.2 (Calls.mono (h E B w _ hH ?_) ?_)⟩
 ·simpa using (h3.append (by simpa using h1)).append h4
 ·rintro e w' ⟨v,H',E',x,rfl,hq,hE,iF,hv,hb⟩
  exact hn v H' E' w' x hq hE iF hv hb
theorem jT.callee {dst:Option Tmp} {f:Operand} {xs:Array Operand} {ts:Array TypeId} {ty:TypeId} {pos:String} {after:Array Edge} {guard:Option (Nat×Bool)} {g:FuncId} {x y vs:List AV}
  (hf:ev P T f=some (.func (.func g) x y)) (hx:qd P T xs.toList=some vs) (h:aD P g (x ++ vs ++ y) H K) :
  jT P r ⟨dst,.call { callee:=.value f,args:=xs,argTypes:=ts },ty,pos,after,guard⟩ T H K:=by
 rcases h with ⟨ia,h⟩ | h
 ·exact jT.call ia hf hx h
 ·intro E B w a rc next Q' hH hT hr hn
  refine ⟨fun _ _=>trivial,?_⟩
  rw [dU rc _ _ (by simp)]
  have h1:=ec (a:=a) (fun y hy=>hT y (by simp [Op.operands,Call.operands];right;simpa using hy)) hx
  obtain ⟨x',y',h2,h3,h4⟩:=hT f (by simp [Op.operands,Call.operands]) _ hf
  obtain ⟨v,H',E',w',u,dx,hk,hE,iF,hv,hb⟩:=h E B w (x' ++ xs.map a.eval ++ y') hH (by simpa using (h3.append (by simpa using h1)).append h4)
  have he:(execOp a.eval ⟨dst,.call { callee:=.value f,args:=xs,argTypes:=ts },ty,pos,after,guard⟩).run P w=.ok (.value u) w':=by
   simp only [execOp,Sem.run_bind,bF h2,Result.andThen_ok,invoke]
   exact dx
  rw [he,Oper.uponIn_value]
  exact hn v H' E' w' u hk hE iF hv hb
theorem tO {t:TypeId} {name:String} {g:FuncId} (h:l7 P t name=some g) (n:Nat) (v:Value) (w:World):(method (n+1) t v name).run P w=.ok (g,v) w:=by
 unfold l7 at h
 obtain ⟨i,hi,h⟩:=Option.bind_eq_some_iff.1 h
 obtain ⟨m,hm,h⟩:=Option.bind_eq_some_iff.1 h
 split at h
 ·rename_i g' p hp hf
  split at h
  ·rename_i ht
   cases h
   simp only [method,Sem.run_bind,eP hi,Result.andThen_ok,hm,hp,follow,Sem.run_pure,hf]
   unfold N5 at ht
   split at ht
   ·rename_i e hu
    cases ht
    simp [receiverAt,run_underlying hu,Place.get]
   ·rename_i d hd hu
    cases ht
    cases d <;> first | (exact absurd rfl (hd _)) | simp [receiverAt,run_underlying hu,Place.get]
   ·cases ht
  ·cases h
 ·cases h
theorem jT.Ml {dst:Option Tmp} {f:Operand} {name:String} {xs:Array Operand} {ts:Array TypeId} {ty:TypeId} {pos:String} {after:Array Edge} {guard:Option (Nat×Bool)} {t:TypeId} {u:AV} {g:FuncId} {vs:List AV}
  (hf:ev P T f=some (.iface t u)) (hm:l7 P t name=some g) (hx:qd P T xs.toList=some vs) (h:aD P g (u :: vs) H K) :
  jT P r ⟨dst,.call { callee:=.invoke f name,args:=xs,argTypes:=ts },ty,pos,after,guard⟩ T H K:=by
 intro E B w a rc next Q' hH hT hr hn
 refine ⟨fun _ _=>trivial,?_⟩
 rw [dU rc _ _ (by simp)]
 have h1:=ec (a:=a) (fun y hy=>hT y (by simp [Op.operands,Call.operands];right;simpa using hy)) hx
 obtain ⟨z,h2,h3⟩:=hT f (by simp [Op.operands,Call.operands]) _ hf
 have hv:aJ E (u :: vs) (#[z] ++ xs.map a.eval).toList:=by
  simpa using aJ.cons h3 (by simpa using h1)
 obtain ⟨n,I3⟩ : ∃n,P.types.size+Made.depth=n+1:=⟨P.types.size+Made.depth - 1,(Nat.sub_add_cancel (Nat.le_trans (show 1≤Made.depth by decide) (Nat.le_add_left _ _))).symm⟩
 have he : ∀ {R:Result Next},(callFunc g (#[z] ++ xs.map a.eval)).run P w=R→(execOp a.eval ⟨dst,.call { callee:=.invoke f name,args:=xs,argTypes:=ts },ty,pos,after,guard⟩).run P w=R:=by
  intro R hR
  have:(#[a.eval f] ++ xs.map a.eval)[0]? = some (.iface t z):=by simp [h2,Array.getElem?_append]
  have hex:(Array.map a.eval xs).extract 0 xs.size=Array.map a.eval xs:=by simp
  simp only [execOp,Sem.run_bind,resolve,Sem.run_pure,Result.andThen_ok,Go.invoke,this,callMethod,run_program,I3,tO hm]
  simpa [hex] using hR
 rcases h with ⟨ia,h⟩ | h
 ·rw [he (ia _ _),Oper.uponIn_enter]
  refine ⟨fun h=>by simp [Fr,Fence.wide] at h,ei.2 (Calls.mono (h E B w _ hH hv) ?_)⟩
  rintro e w' ⟨v,H',E',x,rfl,hq,hE,iF,hv,hb⟩
  exact hn v H' E' w' x hq hE iF hv hb
 ·obtain ⟨v,H',E',w',u,dx,hk,hE,iF,hv,hb⟩:=h E B w _ hH hv
  rw [he dx,Oper.uponIn_value]
  exact hn v H' E' w' u hk hE iF hv hb
theorem jT.JF {dst:Option Tmp} {f:Operand} {name:String} {xs:Array Operand} {ts:Array TypeId} {ty:TypeId} {pos:String} {after:Array Edge} {guard:Option (Nat×Bool)} {t:TypeId} {u:AV} {y:List AV} {g:FuncId} {vs:List AV}
  (hf:ev P T f=some (.func (.method name) [.iface t u] y)) (hm:l7 P t name=some g) (hx:qd P T xs.toList=some vs) (h:aD P g (u :: vs) H K) :
  jT P r ⟨dst,.call { callee:=.value f,args:=xs,argTypes:=ts },ty,pos,after,guard⟩ T H K:=by
 intro E B w a rc next Q' hH hT hr hn
 refine ⟨fun _ _=>trivial,?_⟩
 rw [dU rc _ _ (by simp)]
 have h1:=ec (a:=a) (fun y hy=>hT y (by simp [Op.operands,Call.operands];right;simpa using hy)) hx
 obtain ⟨x',y',h2,⟨_,_,CZ,⟨z,rfl,h3⟩,rfl⟩,_⟩:=hT f (by simp [Op.operands,Call.operands]) _ hf
 obtain rfl:x' = #[.iface t z]:=Array.ext' CZ
 have hv:aJ E (u :: vs) (#[z] ++ xs.map a.eval).toList:=by
  simpa using aJ.cons h3 (by simpa using h1)
 obtain ⟨n,I3⟩ : ∃n,P.types.size+Made.depth=n+1:=⟨P.types.size+Made.depth - 1,(Nat.sub_add_cancel (Nat.le_trans (show 1≤Made.depth by decide) (Nat.le_add_left _ _))).symm⟩
 have he : ∀ {R:Result Next},(callFunc g (#[z] ++ xs.map a.eval)).run P w=R→(execOp a.eval ⟨dst,.call { callee:=.value f,args:=xs,argTypes:=ts },ty,pos,after,guard⟩).run P w=R:=by
  intro R hR
  have:(#[Value.iface t z] ++ xs.map a.eval)[0]? = some (.iface t z):=by simp [Array.getElem?_append]
  have hex:(Array.map a.eval xs).extract 0 xs.size=Array.map a.eval xs:=by simp
  simp only [execOp,Sem.run_bind,bF h2,Result.andThen_ok,Go.invoke,this,callMethod,run_program,I3,tO hm]
  simpa [hex] using hR
 rcases h with ⟨ia,h⟩ | h
 ·rw [he (ia _ _),Oper.uponIn_enter]
  refine ⟨fun h=>by simp [Fr,Fence.wide] at h,ei.2 (Calls.mono (h E B w _ hH hv) ?_)⟩
  rintro e w' ⟨v,H',E',x,rfl,hq,hE,iF,hv,hb⟩
  exact hn v H' E' w' x hq hE iF hv hb
 ·obtain ⟨v,H',E',w',u,dx,hk,hE,iF,hv,hb⟩:=h E B w _ hH hv
  rw [he dx,Oper.uponIn_value]
  exact hn v H' E' w' u hk hE iF hv hb
def iK:List Tmp→List AV→List AV→List AV
 | p :: ps,v :: vs,T=>iK ps vs (T.set p v)
 | _,_,T=>T
theorem wg {E:Env} : ∀(ps:List Tmp) {vs:List AV} {ys:List Value} {T:List AV} {X:Array Value},aJ E vs ys→aJ E T X.toList →
  aJ E (iK ps vs T) (((ps.zip ys).foldl (fun t (p,v)=>t.setIfInBounds p v) X).toList)
 | [],vs,ys,T,X,_,hT=>by cases vs <;> exact hT
 | p :: ps,[],ys,T,X,hv,hT=>by cases hv;exact hT
 | p :: ps,v :: vs,ys,T,X,hv,hT=>by
  obtain ⟨y,vW,rfl,h1,h2⟩:=hv
  simp only [iK,List.zip_cons_cons,List.foldl_cons]
  exact wg ps h2 (by simpa using aJ.set p hT h1)
def HJ (b:Nat) (K:AV→AH→Prop):dy→St→Prop:=fun e s =>
 ∃st pe T' ps as bd d,s.H.get b=some (.loop st pe T' ps as bd d) ∧
 match e with
 | .normal=>K (.bool true) (s.H.set b (.loop .ready none T' ps as bd d))
 | .ret=>K (.bool false) (s.H.set b (.loop .done (some .ret) T' ps as bd d))
 | .exit id=>K (.bool false) (s.H.set b (.loop .done (some (.exit id)) T' ps as bd d))
 | .goto l=>K (.bool false) (s.H.set b (.loop .done (some (.goto l)) T' ps as bd d))
theorem HR.loop {E:Env} {B:eZ} {w:World} (hH:HR P E B H w) {b:Nat} {L:Loc} (hL:E b=some L) {st:LoopState} {pe:Option Code} {T' : List AV} {ps:Array Tmp} {as bd:Code} {d:Nat}
  (hb:H.get b=some (.loop st pe T' ps as bd d)) : ∃rec:Loop,w.heap[L.bH]? = some (.loop rec)∧rec.state=st∧rec.pending=pe∧rec.params=ps∧rec.assign=as∧rec.body=bd∧aJ E T' rec.tmps.toList ∧
   ∀MF JW,HR P E B (H.set b (.loop MF JW T' ps as bd d)) (w.putObj L.bH (.loop { rec with state:=MF,pending:=JW }))∧Below B w (w.putObj L.bH (.loop { rec with state:=MF,pending:=JW })):=by
 obtain ⟨L',cv,ho⟩:=hH.obj _ _ hb
 rw [hL] at cv;cases cv
 obtain ⟨fn,tmps,Ld,h1,h2,h3,h4⟩:=ho
 refine ⟨_,h1,rfl,rfl,rfl,rfl,rfl,h2,fun MF JW=>⟨hH.vA hb hL rfl ⟨fn,tmps,Ld,World.putObj_heap_same (Array.getElem?_eq_some_iff.1 h1).1,h2,h3,h4⟩,Below.putObj (Below.refl B w) h4 _⟩⟩
theorem jT.yield {dst:Option Tmp} {f:Operand} {xs:Array Operand} {ts:Array TypeId} {ty:TypeId} {pos:String} {after:Array Edge} {guard:Option (Nat×Bool)} {b:Nat} {vs:List AV}
  {st:LoopState} {pe:Option Code} {T' : List AV} {ps:Array Tmp} {as bd:Code} {d:Nat}
  (hf:ev P T f=some (.cY b)) (hx:qd P T xs.toList=some vs) (hb:H.get b=some (.loop st pe T' ps as bd d)) (hl:vs.length=ps.size)
  (h:bK P (some b) as (DI (fun s=>∃JW T₁ jl jA jz d₁,s.H.get b=some (.loop .ready JW T₁ jl jA jz d₁) ∧
   bK P (some b) bd (HJ b K) ⟨s.T,s.M,s.H.set b (.loop .busy JW T₁ jl jA jz d₁)⟩) (fun _ _=>False)) ⟨iK ps.toList vs T',[],H⟩) :
  jT P r ⟨dst,.call { callee:=.value f,args:=xs,argTypes:=ts },ty,pos,after,guard⟩ T H K:=by
 intro E B w a rc next Q' PV hT hr hn
 have hH:=PV.z []
 refine ⟨fun _ _=>trivial,?_⟩
 rw [dU rc _ _ (by simp)]
 have h1:=ec (a:=a) (fun y hy=>hT y (by simp [Op.operands,Call.operands];right;simpa using hy)) hx
 obtain ⟨L,hL,h2⟩:=hT f (by simp [Op.operands,Call.operands]) _ hf
 obtain ⟨rec,C3,rfl,rfl,rfl,rfl,rfl,Tx,sE⟩:=hH.loop hL hb
 have jN:(xs.map a.eval).size=rec.params.size:=by rw [← hl,h1.length];simp
 have he:(execOp a.eval ⟨dst,.call { callee:=.value f,args:=xs,argTypes:=ts },ty,pos,after,guard⟩).run P w =
   .ok (.round L.bH rec.fn ((rec.params.zip (xs.map a.eval)).foldl (fun tmps (t,a)=>tmps.setIfInBounds t a) rec.tmps) rec.assign rec.body) w:=by
  simp only [execOp,Sem.run_bind,bF h2,Result.andThen_ok,invoke]
  have:=run_yield (P:=P) (w:=w) (args:=xs.map a.eval) C3 jN
  simpa using this
 rw [he,Oper.uponIn_round]
 refine ⟨fun h=>by simp [Fr,Fence.wide] at h,roundIn_of_wpIn trivial ?_⟩
 have hTs:aJ E (iK rec.params.toList vs T') ((rec.params.zip (xs.map a.eval)).foldl (fun tmps (t,a)=>tmps.setIfInBounds t a) rec.tmps).toList:=by
  have:=wg rec.params.toList h1 Tx
  rw [← Array.foldl_toList,Array.toList_zip]
  simpa using this
 have hw:=h E ⟨B.on,[]⟩ w ⟨(rec.params.zip (xs.map a.eval)).foldl (fun tmps (t,a)=>tmps.setIfInBounds t a) rec.tmps,[]⟩ (some L.bH) ⟨hH,hTs,rfl⟩ ⟨L,hL,rfl⟩
 refine Go.wpIn_mono (show Code.wpIn ((Fr rc).inRound L.bH) 0 P _ _ _ _ from hw) ?_
 rintro e a₁ w₁ ⟨ae,s₁,E₁,rfl,hq,Ej,uD,RW⟩
 cases ae with
 | normal =>
  obtain ⟨JW,T₁,jl,jA,jz,d₁,dM,Jb⟩:=hq
  obtain ⟨rec₁,LC,e1,e2,e3,e4,e5,X4,Lz⟩:=uD.heap.loop (Ej _ _ hL) dM
  obtain ⟨Sd,RV⟩:=Lz .busy JW
  refine ⟨_,run_beginRound LC e1,?_⟩
  have ee:({ rec₁ with state:=.busy }:Loop) = { rec₁ with state:=.busy,pending:=JW }:=by rw [← e2]
  rw [ee]
  have Q5:=Jb E₁ ⟨B.on,[]⟩ _ a₁ (some L.bH) ⟨Sd,uD.tmps,uD.marks⟩ ⟨L,Ej _ _ hL,rfl⟩
  refine Go.wpIn_mono (show Code.wpIn ((Fr rc).inRound L.bH) 0 P _ _ _ _ from Q5) ?_
  rintro e a₂ w₂ ⟨ae,s₂,E₂,rfl,⟨Wz,WS,T₂,Qu,SC,Sz,d₂,RH,nO⟩,No,Rd,OU⟩
  obtain ⟨rec₂,LB,Yn,VX,e3',e4',e5',X3,Ly⟩:=Rd.heap.loop (No _ _ (Ej _ _ hL)) RH
  have VA:Below ⟨B.on,[]⟩ w w₂:=RW.trans (RV.trans OU)
  have fin : ∀(jump:Option Code) (v:AV),v=.bool jump.isNone→K v (s₂.H.set b (.loop (if jump.isNone then .ready else .done) jump T₂ Qu SC Sz d₂)) →
    ∃v w',(Instr.endRound L.bH jump).run P w₂=.ok v w'∧next (a.put dst v) w':=by
   intro jump v ev hk
   obtain ⟨Sc,RU⟩:=Ly (if jump.isNone then .ready else .done) jump
   exact ⟨_,_,run_endRound jump LB,hn _ _ E₂ _ _ hk (Ej.trans No) Sc.zI (by rw [ev];rfl) (VA.trans RU).zI⟩
  cases ae with
  | normal=>exact fin none _ rfl nO
  | ret=>exact fin (some .ret) _ rfl nO
  | exit id=>exact fin (some (.exit id)) _ rfl nO
  | goto l=>exact fin (some (.goto l)) _ rfl nO
 | exit id=>exact hq.elim
 | goto l=>exact hq.elim
 | ret=>exact hq.elim
end
/-! ### A region in its own order -/
section
variable {P:Program} {r:Option Nat}
def lI (P:Program) (r:Option Nat) (ops:Array Oper) (K:List AV→AH→Prop):List Oper→List AV→AH→Prop
 | [],T,H=>K T H
 | o :: l,T,H=>(aT ops T o=some true∧jT P r o T H fun v H'=>lI P r ops K l (aV T o.dst v) H')∨(aT ops T o=some false∧lI P r ops K l (aV T o.dst .undef) H)
theorem lI.Hr {ops:Array Oper} {K:List AV→AH→Prop} {B:eZ} {M:List Mk} {rc:Option Nat} {Qc:Exit→Act→World→Prop} {m:List Oper} : ∀ {l:List Oper} {T:List AV} {H:AH} {E:Env} {a:Act} {w:World},
  lI P r ops K l T H→HR P E B H w→aJ E T a.tmps.toList→MR B.D E M a.defers→RR E r rc →
  (∀T' H' E' a' w',K T' H'→E.le E'→HR P E' B H' w'→aJ E' T' a'.tmps.toList→MR B.D E' M a'.defers→Below B w w'→wpListIn (Fr rc) 0 P ops Qc m a' w')→wpListIn (Fr rc) 0 P ops Qc (l ++ m) a w
 | [],T,H,E,a,w,h,hH,hT,hM,hr,hq=>hq T H E a w h (Env.le.refl E) hH hT hM (Below.refl B w)
 | o :: l,T,H,E,a,w,h,hH,hT,hM,hr,hq=>by
  rw [List.cons_append]
  rcases h with ⟨hw,h⟩ | ⟨hw,h⟩
  ·have:=dO (a:=a) hT hw
   simp only [wpListIn,this,if_true]
   refine h E B w a rc _ Qc hH (nS.of hH hT _) hr ?_
   intro v H' E' w' x hk hE iF hv hb
   exact lI.Hr hk iF ((aJ.mono hE _ _ hT).put o.dst hv) (by rw [put_defers];exact hM.mono hE) (hr.mono hE)
    fun T' nU BW a' BZ yX iG h1 h2 h3 h4=>hq T' nU BW a' BZ yX (hE.trans iG) h1 h2 h3 (hb.trans h4)
  ·have:=dO (a:=a) hT hw
   simp only [wpListIn,this,Bool.false_eq_true,if_false]
   refine ⟨fun _ _=>trivial,?_⟩
   exact lI.Hr h hH (hT.put o.dst (v:=.undef) (x:=undef) ⟨#[],rfl,rfl⟩) (by rw [put_defers];exact hM) hr hq
theorem lI.Kz {ops:Array Oper} {K:List AV→AH→Prop} {B:eZ} {M:List Mk} {rc:Option Nat} {Qc:Exit→Act→World→Prop} {l:List Oper} {T:List AV} {H:AH} {E:Env} {a:Act} {w:World}
  (h:lI P r ops K l T H) (hH:HR P E B H w) (hT:aJ E T a.tmps.toList) (hM:MR B.D E M a.defers) (hr:RR E r rc)
  (hq : ∀T' H' E' a' w',K T' H'→E.le E'→HR P E' B H' w'→aJ E' T' a'.tmps.toList→MR B.D E' M a'.defers→Below B w w'→Qc .normal a' w'):wpListIn (Fr rc) 0 P ops Qc l a w:=by
 have:=lI.Hr (m:=[]) h hH hT hM hr hq
 rwa [List.append_nil] at this
theorem bK.region {id:Nat} {ops:Array Oper} {Q:dy→St→Prop} {s:St} (h:lI P r ops (fun T H=>Q .normal ⟨T,s.M,H⟩) ops.toList s.T s.H):bK P r (.region id ops false) Q s:=by
 intro E B w a rc hs hr
 refine wpIn_region_list (h.Kz hs.heap hs.tmps hs.marks hr ?_)
 intro T' H' E' a' w' hq hE h1 h2 h3 h4
 exact ⟨.normal,⟨T',s.M,H'⟩,E',rfl,hq,hE,⟨h1,h2,h3⟩,h4⟩
end
end Go.Am
end
/- The abstract machine: a range over a function; a function out of its body. -/
section
namespace Go.Am
open Go.RowKit
section
variable {P:Program} {Q:dy→St→Prop} {s:St}
def yj (P:Program) (r:Option Nat) (l:Nat) (T:List AV) (M:List Mk) (Q:dy→St→Prop):AV→AH→Prop:=fun _ H' =>
 ∃st pe T' ps as bd d,H'.get l=some (.loop st pe T' ps as bd d)∧st ≠ .busy ∧
  match pe with
  | none=>Q .normal ⟨T,M,H'.set l .dead⟩
  | some c=>bK P r c Q ⟨T,M,H'.set l .dead⟩
theorem tV {r rc:Option Nat} {l:Nat} {T:List AV} {M:List Mk} {v:AV} {H' : AH} (h:yj P r l T M Q v H')
  {E E' : Env} {B:eZ} {w w' : World} {a:Act} {L:Loc} (hL:E' l=some L) (hE:E.le E') (hH:HR P E' B H' w') (hT:aJ E' T a.tmps.toList) (hM:MR B.D E' M a.defers) (hr:RR E' r rc) (hb:Below B w w') (u:Value) :
  rangePost (Fr rc) 0 P L.bH (vo P E B w Q) a (.returned u) w':=by
 obtain ⟨st,pe,T',ps,as,bd,d,hg,dm,M0⟩:=h
 obtain ⟨rec,C3,rfl,rfl,rfl,rfl,rfl,Tx,sE⟩:=hH.loop hL hg
 have GW : ¬ B L.bH:=by
  obtain ⟨L',cv,ho⟩:=hH.obj _ _ hg
  rw [hL] at cv;cases cv
  obtain ⟨_,_,_,_,_,_,h4⟩:=ho
  exact h4
 have uN:HR P E' B (H'.set l .dead) (w'.putObj L.bH (.loop { rec with state:=.exhausted })):=hH.vA hg hL rfl trivial
 have dM:Below B w (w'.putObj L.bH (.loop { rec with state:=.exhausted })):=Below.putObj hb GW _
 refine ⟨_,_,run_endLoop C3 dm,?_⟩
 generalize (w'.putObj L.bH (.loop { rec with state:=.exhausted }))=W2 at uN dM
 cases hp:rec.pending with
 | none =>
  rw [hp] at M0
  exact ⟨.normal,_,E',rfl,M0,hE,⟨uN,hT,hM⟩,dM⟩
 | some c =>
  rw [hp] at M0
  exact Go.wpIn_mono (M0 E' B _ a rc ⟨uN,hT,hM⟩ hr) fun e a w h=>h.trans hE dM
theorem bK.rangeFunc {g:Operand} {ps:Array Tmp} {as bd:Code} {gf:FuncId} {x y:List AV} (ia:Goes P gf) (hg:ev P s.T g=some (.func (.func gf) x y))
  (h:bL P gf (x ++ [.cY (s.H.n+1)] ++ y) ((s.H.alloc .deferred).alloc (.loop .ready none s.T ps as bd s.H.n)) (yj P none (s.H.n+1) s.T (.mark s.H.n :: s.M) Q)) :
  bK P none (.rangeFunc g ps as bd) Q s:=by
 intro E B w a rc hs hr
 obtain rfl:rc=none:=hr
 obtain ⟨x',y',h2,h3,h4⟩:=iW hs.heap hs.tmps hg
 refine wpIn_rangeFunc fun fn _=>?_
 obtain ⟨W0,PT⟩ : ∃W0,w.alloc (.deferred (some []))=W0:=⟨_,rfl⟩
 have Ow:W0.heap.size=w.heap.size+1:=by rw [← PT];simp
 have PV:HR P (E.put s.H.n ⟨w.heap.size,0,0,0,0⟩) B (s.H.alloc .deferred) W0:=by
  rw [← PT]
  exact hs.heap.alloc rfl ⟨World.alloc_heap_new w _,hs.heap.fresh⟩
 have De:E.le (E.put s.H.n ⟨w.heap.size,0,0,0,0⟩):=hs.heap.eI _
 generalize VT:E.put s.H.n ⟨w.heap.size,0,0,0,0⟩=E0 at PV De
 have Yc:E0 s.H.n=some ⟨w.heap.size,0,0,0,0⟩:=by rw [← VT];simp [Env.put]
 have vN:E0.le (E0.put (s.H.n+1) ⟨W0.heap.size,0,0,0,0⟩):=PV.eI ⟨W0.heap.size,0,0,0,0⟩
 have uM:HR P (E0.put (s.H.n+1) ⟨W0.heap.size,0,0,0,0⟩) B ((s.H.alloc .deferred).alloc (.loop .ready none s.T ps as bd s.H.n))
   (W0.alloc (.loop { state:=.ready,pending:=none,fn,tmps:=a.tmps,params:=ps,assign:=as,body:=bd,defers:=w.heap.size })) :=
  PV.alloc rfl ⟨fn,a.tmps,⟨w.heap.size,0,0,0,0⟩,World.alloc_heap_new W0 _,aJ.mono (De.trans vN) _ _ hs.tmps,vN _ _ Yc,PV.fresh⟩
 generalize Jg:E0.put (s.H.n+1) ⟨W0.heap.size,0,0,0,0⟩=E1 at uM vN
 have Se:E1 (s.H.n+1)=some ⟨W0.heap.size,0,0,0,0⟩:=by rw [← Jg];simp [Env.put]
 generalize R1:W0.alloc (.loop { state:=.ready,pending:=none,fn,tmps:=a.tmps,params:=ps,assign:=as,body:=bd,defers:=w.heap.size })=W1 at uM
 have F5:Below B w W1:=by
  rw [← R1,← PT]
  exact ((Below.refl B w).alloc hs.heap.base _).alloc (fun k hk=>by have:=hs.heap.base k hk;simp;omega) _
 have hE:=De.trans vN
 refine ⟨W0.heap.size,[{ target:=.collected w.heap.size,args:=#[] }],W1,{ target:=.fn (.func gf) y',args:=x' ++ #[.func (.yield W0.heap.size) #[] #[]] },W1,gf,
  x' ++ #[.func (.yield W0.heap.size) #[] #[]] ++ y',W1,?_,?_,fun _ _=>trivial,?_,fun h=>by simp [Fr,Fence.wide] at h,ei.2 (Calls.mono (h E1 B W1 _ uM ?_) ?_)⟩
 ·rw [Ow,← R1,← PT]
  exact run_enterLoop_outer fn a.tmps ps as bd
 ·have:=bF (P:=P) h2 #[.const (.func (.yield W0.heap.size) #[] #[])] #[] 0 W1
  simpa [Act.eval] using this
 ·simp only [invoke];exact ia _ _
 ·have:aJ E1 [.cY (s.H.n+1)] [Value.func (.yield W0.heap.size) #[] #[]]:=⟨_,_,rfl,⟨_,Se,rfl⟩,rfl⟩
  simpa using ((aJ.mono hE _ _ h3).append this).append (aJ.mono hE _ _ h4)
 ·rintro e w' ⟨v,H',E',u,rfl,hq,iG,iF,_,hb⟩
  refine tV (a:={ a with defers:=[{ target:=.collected w.heap.size,args:=#[] }] ++ a.defers }) hq (iG _ _ Se) (hE.trans iG) iF (aJ.mono (hE.trans iG) _ _ hs.tmps) ?_ rfl (F5.trans hb) u
  exact ⟨_,_,iG _ _ (vN _ _ Yc),rfl,hs.marks.mono (hE.trans iG)⟩
theorem bK.yh {b₀:Nat} {g:Operand} {ps:Array Tmp} {as bd:Code} {gf:FuncId} {x y:List AV} {Qd:LoopState} {Qw:Option Code} {T₀:List AV} {Qv:Array Tmp} {SD SA:Code} {d₀:Nat}
  (Ja:s.H.get b₀=some (.loop Qd Qw T₀ Qv SD SA d₀)) (ia:Goes P gf) (hg:ev P s.T g=some (.func (.func gf) x y))
  (h:bL P gf (x ++ [.cY s.H.n] ++ y) (s.H.alloc (.loop .ready none s.T ps as bd d₀)) (yj P (some b₀) s.H.n s.T s.M Q)) :
  bK P (some b₀) (.rangeFunc g ps as bd) Q s:=by
 intro E B w a rc hs hr
 have Rj:=hr
 obtain ⟨L₀,R6,rfl⟩:=hr
 obtain ⟨x',y',h2,h3,h4⟩:=iW hs.heap hs.tmps hg
 obtain ⟨YA,Jf,Yl,SY,Ld,LD,_,hLd,_⟩:=hs.heap.obj _ _ Ja
 rw [R6] at Jf;cases Jf
 refine wpIn_rangeFunc fun fn _=>?_
 have vN:E.le (E.put s.H.n ⟨w.heap.size,0,0,0,0⟩):=hs.heap.eI ⟨w.heap.size,0,0,0,0⟩
 have uM:HR P (E.put s.H.n ⟨w.heap.size,0,0,0,0⟩) B (s.H.alloc (.loop .ready none s.T ps as bd d₀))
   (w.alloc (.loop { state:=.ready,pending:=none,fn,tmps:=a.tmps,params:=ps,assign:=as,body:=bd,defers:=Ld.bH })) :=
  hs.heap.alloc rfl ⟨fn,a.tmps,Ld,World.alloc_heap_new w _,aJ.mono vN _ _ hs.tmps,vN _ _ hLd,hs.heap.fresh⟩
 generalize Jg:E.put s.H.n ⟨w.heap.size,0,0,0,0⟩=E1 at uM vN
 have Se:E1 s.H.n=some ⟨w.heap.size,0,0,0,0⟩:=by rw [← Jg];simp [Env.put]
 generalize R1:w.alloc (.loop { state:=.ready,pending:=none,fn,tmps:=a.tmps,params:=ps,assign:=as,body:=bd,defers:=Ld.bH })=W1 at uM
 have F5:Below B w W1:=by rw [← R1];exact (Below.refl B w).alloc hs.heap.base _
 refine ⟨w.heap.size,[],W1,{ target:=.fn (.func gf) y',args:=x' ++ #[.func (.yield w.heap.size) #[] #[]] },W1,gf,
  x' ++ #[.func (.yield w.heap.size) #[] #[]] ++ y',W1,?_,?_,fun _ _=>trivial,?_,fun h=>by simp [Fr,Fence.wide] at h,ei.2 (Calls.mono (h E1 B W1 _ uM ?_) ?_)⟩
 ·rw [← R1]
  show (Instr.enterLoop fn a.tmps ps as bd (some L₀.bH)).run P w=_
  unfold Instr.enterLoop
  simp only [Sem.run_bind,run_getLoop LD,run_newObj_alloc,Result.andThen,Sem.run_pure]
 ·have:=bF (P:=P) h2 #[.const (.func (.yield w.heap.size) #[] #[])] #[] 0 W1
  simpa [Act.eval] using this
 ·simp only [invoke];exact ia _ _
 ·have:aJ E1 [.cY s.H.n] [Value.func (.yield w.heap.size) #[] #[]]:=⟨_,_,rfl,⟨_,Se,rfl⟩,rfl⟩
  simpa using ((aJ.mono vN _ _ h3).append this).append (aJ.mono vN _ _ h4)
 ·rintro e w' ⟨v,H',E',u,rfl,hq,iG,iF,_,hb⟩
  exact tV (a:={ a with defers:=[] ++ a.defers }) hq (iG _ _ Se) (vN.trans iG) iF (aJ.mono (vN.trans iG) _ _ hs.tmps) (hs.marks.mono (vN.trans iG)) (Rj.mono (vN.trans iG)) (F5.trans hb) u
end
/-! ### A function -/
section
variable {P:Program}
def bR:List Mk→AH→Option AH
 | [],H=>some H
 | .mark m :: ms,H =>
  match H.get m with
  | some .deferred=>bR ms (H.set m .dead)
  | _=>none
 | .call _ _ _ :: _,_=>none
def dG (P:Program) (T:List AV) (H:AH):List ResultVar→Option (List AV)
 | []=>some []
 | .tmp t :: l=>(dG P T H l).map ((T[t]?).getD .undef :: ·)
 | .cell a t :: l=>(j7 P H t ((T[a]?).getD .undef)).bind fun v=>(dG P T H l).map (v :: ·)
def oneOf:List AV→AV
 | [v]=>v
 | vs=>.tuple vs
def Ug (P:Program) (fn:Func) (Q:AV→AH→Prop):dy→St→Prop:=fun e s =>
 (e=.normal∨e=.ret)∧∃H' vs,bR s.M s.H=some H'∧dG P s.T H' fn.results.toList=some vs∧Q (oneOf vs) H'
theorem aJ.getD {E:Env} {T:List AV} {X:Array Value} (h:aJ E T X.toList) (t:Nat):VR E ((T[t]?).getD .undef) (X.getD t undef):=by
 cases hT:T[t]? with
 | none =>
  have:X[t]? = none:=by
   rw [← Array.getElem?_toList,List.getElem?_eq_none_iff,← h.length];exact List.getElem?_eq_none_iff.1 hT
  rw [Array.getD_eq_getD_getElem?,this]
  exact ⟨#[],rfl,rfl⟩
 | some v =>
  obtain ⟨y,hy,hv⟩:=h.get hT
  rw [Array.getElem?_toList] at hy
  rw [Array.getD_eq_getD_getElem?,hy]
  exact hv
theorem Ao {E:Env} {B:eZ} {H:AH} {w:World} (h:HR P E B H w) {t:TypeId} {a v:AV} {x:Value} (hv:j7 P H t a=some v) (hx:VR E a x) :
  kz P E w v (do loadVar t (← asAddr x)):=by
 unfold j7 at hv
 split at hv
 ·rename_i b o
  obtain ⟨L,hL,rfl⟩:=hx
  split at hv
  ·rename_i ha
   obtain ⟨s,hs,hv⟩:=Option.bind_eq_some_iff.1 hv
   obtain ⟨vs,hr,rfl⟩:=Option.map_eq_some_iff.1 hv
   obtain ⟨L',ys,cv,sC,dx⟩:=run_read h hr
   rw [hL] at cv;cases cv
   exact ⟨.agg ys.toArray,by simp [asAddr,loadVar,iA ha,aN hs,dx],_,rfl,by simpa using sC⟩
  ·rename_i ha
   obtain ⟨L',y,cv,hy,hc⟩:=qh h hv
   rw [hL] at cv;cases cv
   exact ⟨y,by simp [asAddr,loadVar,iA ha,hc],hy⟩
  ·cases hv
 ·cases hv
def As (X:Array Value):ResultVar→Sem Value
 | .tmp t=>pure (X.getD t undef)
 | .cell a t=>do loadVar t (← asAddr (X.getD a undef))
theorem gH {E:Env} {B:eZ} {H:AH} {w:World} (h:HR P E B H w) {fn:Func} {T:List AV} {X:Array Value} {vs:List AV} (hT:aJ E T X.toList) (hv:dG P T H fn.results.toList=some vs) :
  kz P E w (oneOf vs) (results fn X):=by
 have key : ∀(l:List ResultVar) (vs:List AV),dG P T H l=some vs→∃ys:List Value,aJ E vs ys ∧
   (l.mapM (As X)).run P w=.ok ys w:=by
  intro l
  induction l with
  | nil=>intro vs hv;simp only [dG,Option.some.injEq] at hv;subst hv;exact ⟨[],rfl,by simp⟩
  | cons rv l ih =>
   intro vs hv
   cases rv with
   | tmp t =>
    obtain ⟨us,hu,rfl⟩:=Option.map_eq_some_iff.1 hv
    obtain ⟨ys,sC,dx⟩:=ih us hu
    refine ⟨_ :: ys,aJ.cons (hT.getD t) sC,?_⟩
    rw [List.mapM_cons,Sem.run_bind,show (As X (.tmp t)).run P w=.ok (X.getD t undef) w from rfl,Result.andThen_ok,Sem.run_bind,dx]
    rfl
   | cell a t =>
    obtain ⟨v,ZA,hv⟩:=Option.bind_eq_some_iff.1 hv
    obtain ⟨us,hu,rfl⟩:=Option.map_eq_some_iff.1 hv
    obtain ⟨ys,sC,dx⟩:=ih us hu
    obtain ⟨y,hy,QZ⟩:=Ao h ZA (hT.getD a)
    refine ⟨y :: ys,aJ.cons QZ sC,?_⟩
    rw [List.mapM_cons,Sem.run_bind,show (As X (.cell a t)).run P w=.ok y w from hy,Result.andThen_ok,Sem.run_bind,dx]
    rfl
 obtain ⟨ys,sC,dx⟩:=key _ _ hv
 have hl:=sC.length
 refine ⟨if h:ys.toArray.size=1 then ys.toArray[0] else .tuple ys.toArray,?_,?_⟩
 ·have h1:(fn.results.mapM (As X)).run P w=.ok ys.toArray w:=by
   rw [Array.mapM_eq_mapM_toList,← bind_pure_comp,Sem.run_bind,dx];rfl
  show (do let vs ← fn.results.mapM (As X);pure (if h:vs.size=1 then vs[0] else .tuple vs)).run P w=_
  rw [Sem.run_bind,h1]
  rfl
 ·match vs,ys,sC,hl with
  | [v],[y],sC,_=>obtain ⟨y',vW,e,h1,_⟩:=sC;cases e;simpa [oneOf] using h1
  | [],[],sC,_=>exact ⟨#[],by simp,rfl⟩
  | v :: v' :: vs,y :: y' :: ys,sC,_=>exact ⟨_,by simp;rfl,by simpa using sC⟩
theorem mg {fn:Func} {B:eZ} {D:List Deferred} {R:Ending→World→Prop} {X:Array Value} : ∀ {M:List Mk} {ds:List Deferred} {E:Env} {H H' : AH} {w:World},
  HR P E B H w→MR D E M ds→bR M H=some H' →
  (∀w',HR P E B H' w'→Below B w w'→LeavesInM (Fr none) 0 P fn X R D .returning w')→LeavesInM (Fr none) 0 P fn X R ds .returning w
 | [],ds,E,H,H',w,hH,hM,ht,hR=>by
  obtain rfl:ds=D:=hM
  simp only [bR,Option.some.injEq] at ht
  subst ht
  exact hR w hH (Below.refl B w)
 | .call _ _ _ :: _,ds,E,H,H',w,hH,hM,ht,hR=>by simp [bR] at ht
 | .mark m :: M,ds,E,H,H',w,hH,hM,ht,hR=>by
  obtain ⟨L,GX,hL,rfl,gz⟩:=hM
  simp only [bR] at ht
  split at ht
  ·rename_i hg
   obtain ⟨L',cv,ho⟩:=hH.obj _ _ hg
   rw [hL] at cv;cases cv
   have iF:HR P E B (H.set m .dead) (w.putObj L.bH (.deferred none)):=hH.vA hg hL rfl trivial
   refine ⟨by simp,.inl ⟨L.bH,_,rfl,run_takeDeferred ho.1,mg iF gz ht fun w' h1 h3=>hR w' h1 ((Below.putObj (Below.refl B w) ho.2 _).trans h3)⟩⟩
  ·cases ht
theorem mL {E:Env} {args:List AV} {bD:Array Value} (ha:aJ E args bD.toList) (n:Nat) :
  aJ E (args ++ List.replicate (n - args.length) .undef) (bD ++ Array.replicate (n - bD.size) undef).toList:=by
 have hl:args.length=bD.size:=by simpa using ha.length
 rw [hl]
 simpa using ha.append (aJ.replicate (x:=.undef) (y:=undef) ⟨#[],rfl,rfl⟩ (n - bD.size))
theorem bL.body {f:FuncId} {fn:Func} {c:Code} {args:List AV} {H:AH} {Q:AV→AH→Prop} (hf:P.funcs[f]? = some fn) (hb:fn.body=some c)
  (h:bK P none c (Ug P fn Q) ⟨args ++ List.replicate (fn.ntmps - args.length) .undef,[],H⟩):bL P f args H Q:=by
 intro E B w bD hH ha
 refine ei (rc:=none) (n:=0) |>.1 (callsIn_of_wp_marks hf hb trivial ?_)
 refine Go.wpIn_mono (h E ⟨B.on,[]⟩ w ⟨bD ++ Array.replicate (fn.ntmps - bD.size) undef,[]⟩ none ⟨hH.z [],mL ha _,rfl⟩ rfl) ?_
 rintro e a' w' ⟨ae,s',E',rfl,⟨he,H',vs,h1,h2,h3⟩,hE,hs,hb⟩
 have:=mg (fn:=fn) (X:=a'.tmps) (R:=fun e w'=>∃v H' E' x,e=.returned x∧Q v H'∧E.le E'∧HR P E' B H' w'∧VR E' v x∧Below B w w') hs.heap hs.marks h1
  fun BZ uN dM=>by
   obtain ⟨x,hx,J4⟩:=gH uN hs.tmps h2
   exact ⟨x,hx,_,H',E',x,rfl,h3,hE,uN.zI,J4,(hb.trans dM).zI⟩
 rcases he with rfl | rfl <;> exact this
/-! ### A function that defers a closure at its beginning -/
def vp (P:Program) (g:FuncId) (args:List AV) (H:AH) (K:AH→Prop):Prop :=
 ∀E B w bD,HR P E B H w→aJ E args bD.toList→CallsDIn (Fr none) 0 P g bD .returning w fun e u' w' =>
  (∃x,e=.returned x)∧u'=.returning∧∃H' E',K H'∧E.le E'∧HR P E' B H' w'∧Below B w w'
theorem bL.Sx {f:FuncId} {fn:Func} {id:Nat} {A:Code} {ops:Array Oper} {pre:List Oper} {rest:Code} {dst:Option Tmp} {fo:Operand} {xs:Array Operand} {ts:Array TypeId} {ty:TypeId} {pos:String} {after:Array Edge}
  {args:List AV} {H:AH} {Q:AV→AH→Prop} (hf:P.funcs[f]? = some fn) (hb:fn.body=some (.seq A (.seq (.region id ops false) rest)))
  (hl:ops.toList=pre ++ [⟨dst,.defer { callee:=.value fo,args:=xs,argTypes:=ts },ty,pos,after,none⟩])
  (h:bK P none A (fun e s=>e=.normal∧s.M=[]∧lI P none ops (fun T1 H1=>∃g x y vs,Goes P g∧ev P T1 fo=some (.func (.func g) x y)∧qd P T1 xs.toList=some vs ∧
   bK P none rest (fun e s=>(e=.normal∨e=.ret)∧∃H2,bR s.M s.H=some H2∧vp P g (x ++ vs ++ y) H2 fun H3=>∃us,dG P s.T H3 fn.results.toList=some us∧Q (oneOf us) H3)
    ⟨aV T1 dst .undef,[],H1⟩) pre s.T s.H) ⟨args ++ List.replicate (fn.ntmps - args.length) .undef,[],H⟩):bL P f args H Q:=by
 intro E B w bD hH ha
 refine ei (rc:=none) (n:=0) |>.1 (callsIn_of_wp_marks hf hb trivial (wpIn_seq ?_))
 refine Go.wpIn_mono (h E ⟨B.on,[]⟩ w ⟨bD ++ Array.replicate (fn.ntmps - bD.size) undef,[]⟩ none ⟨hH.z [],mL ha _,rfl⟩ rfl) ?_
 rintro e0 a0 w0 ⟨ae0,s0,E0,rfl,⟨rfl,M9,h⟩,De,Ow,Db⟩
 refine wpIn_seq (wpIn_region_list ?_)
 rw [hl]
 refine h.Hr (B:=⟨B.on,[]⟩) (M:=[]) (rc:=none) (a:=a0) Ow.heap Ow.tmps (M9 ▸ Ow.marks) rfl ?_
 rintro T1 H1 E1 a1 w1 ⟨g,x,y,vs,ia,Nh,sD,Ee⟩ Jg uM LQ R5 VC
 have vN:=De.trans Jg
 have F5:=Db.trans VC
 obtain ⟨t1,d1⟩:=a1
 obtain rfl:d1=[]:=R5
 obtain ⟨x',y',h2,h3,h4⟩:=iW (a:=⟨t1,[]⟩) uM LQ Nh
 have hv:=ec (a:=⟨t1,[]⟩) (fun z hz=>nS.of uM LQ xs z (by simpa using hz)) sD
 have hw:Region.wanted (⟨dst,.defer { callee:=.value fo,args:=xs,argTypes:=ts },ty,pos,after,none⟩ : Oper) (yielded ops t1)=true:=rfl
 simp only [wpListIn,hw,if_true]
 refine ⟨fun _ _=>trivial,?_⟩
 have hex:(Oper.semAt (Fr none).round (Act.eval ⟨t1,[]⟩) (⟨dst,.defer { callee:=.value fo,args:=xs,argTypes:=ts },ty,pos,after,none⟩ : Oper)).run P w1 =
   .ok (.defer { target:=.fn (.func g) y',args:=x' ++ xs.map (Act.eval ⟨t1,[]⟩) }) w1:=by
  rw [show (Fr none).round=none from rfl,Oper.semAt_none]
  simp only [execOp,Sem.run_bind,bF h2,Result.andThen_ok]
  rfl
 rw [hex,Oper.uponIn_defer]
 have Zv:=Ee E1 ⟨B.on,[{ target:=.fn (.func g) y',args:=x' ++ xs.map (Act.eval ⟨t1,[]⟩) }]⟩ w1
  (({ tmps:=t1,defers:=[{ target:=.fn (.func g) y',args:=x' ++ xs.map (Act.eval ⟨t1,[]⟩) }] }:Act).put dst undef) none
  ⟨uM.zI.z _,aJ.put (a:={ tmps:=t1,defers:=[{ target:=.fn (.func g) y',args:=x' ++ xs.map (Act.eval ⟨t1,[]⟩) }] }) LQ dst (v:=.undef) (x:=undef) ⟨#[],rfl,rfl⟩,by rw [put_defers];rfl⟩ rfl
 refine Go.wpIn_mono Zv ?_
 rintro e a' w' ⟨ae,s',E',rfl,⟨he,H2,k1,k2⟩,hE,hs,hb⟩
 have:=mg (fn:=fn) (X:=a'.tmps) (R:=fun e w'=>∃v H' E' x,e=.returned x∧Q v H'∧E.le E'∧HR P E' B H' w'∧VR E' v x∧Below B w w') hs.heap hs.marks k1
  fun BZ uN dM=>by
   refine ⟨by simp,.inr ⟨fun h=>by simp [Fr,Fence.wide] at h,.func g,y',g,x' ++ xs.map (Act.eval ⟨t1,[]⟩) ++ y',rfl,?_,fun _ _=>trivial,?_⟩⟩
   ·simp only [invoke];exact ia _ _
   ·have jw:aJ E' (x ++ vs ++ y) (x' ++ xs.map (Act.eval ⟨t1,[]⟩) ++ y').toList:=by
     have:=(h3.append (by simpa using hv)).append h4
     simpa using aJ.mono hE _ _ this
    refine CallsDIn.mono (k2 E' ⟨B.on,[]⟩ BZ _ (uN.zI.z []) jw) ?_
    rintro e u' w3 ⟨⟨v,rfl⟩,rfl,H3,E3,⟨us,j1,j2⟩,PW,TE,PM⟩
    obtain ⟨z,hz,zM⟩:=gH TE (aJ.mono PW _ _ hs.tmps) j1
    exact ⟨z,hz,_,H3,E3,z,rfl,j2,(vN.trans hE).trans PW,TE.zI,zM,((F5.zI.trans hb.zI).trans dM.zI).trans PM.zI⟩
 rcases he with rfl | rfl <;> exact this
def wS:Op→Bool
 | .call ⟨.builtin .recover,_,_⟩=>true
 | _=>false
def su (P:Program) (ops:Array Oper) (rc:Bool):List Oper→List AV→AH→Option (List AV×AH)
 | [],T,H=>some (T,H)
 | o :: l,T,H =>
  match aT ops T o with
  | some true=>if rc && wS o.op then su P ops rc l (aV T o.dst .nilIface) H else (p9 P T H o).bind fun (v,H')=>su P ops rc l (aV T o.dst v) H'
  | some false=>su P ops rc l (aV T o.dst .undef) H
  | none=>none
theorem ua {ops:Array Oper} {K:List AV→AH→Prop} {r:Option Nat} : ∀ {l:List Oper} {T:List AV} {H:AH} {T' : List AV} {H' : AH},su P ops false l T H=some (T',H')→K T' H'→lI P r ops K l T H
 | [],T,H,T',H',h,hk=>by simp only [su,Option.some.injEq,Prod.mk.injEq] at h;obtain ⟨rfl,rfl⟩:=h;exact hk
 | o :: l,T,H,T',H',h,hk=>by
  simp only [su,Bool.false_and,Bool.false_eq_true,if_false] at h
  split at h
  ·rename_i hw
   obtain ⟨⟨v,H₁⟩,h1,h⟩:=Option.bind_eq_some_iff.1 h
   exact .inl ⟨hw,jT.oo h1 (ua h hk)⟩
  ·rename_i hw
   exact .inr ⟨hw,ua h hk⟩
  ·cases h
theorem pn {ops:Array Oper} {Q:Exit→Act→List Frame→World→Prop} {B:eZ} {c₀:Frame} {cs:List Frame} (hu:c₀.mode=.returning) {T' : List AV} {H' : AH} :
  ∀(l:List Oper) (i:Nat),ops.toList.drop i=l→∀ {T:List AV} {H:AH} {E:Env} {a:Act} {w:World},su P ops true l T H=some (T',H')→HR P E B H w→aJ E T a.tmps.toList→a.defers=[] →
   (∀E' a' w',E.le E'→HR P E' B H' w'→aJ E' T' a'.tmps.toList→a'.defers=[]→Below B w w'→Q .normal a' (c₀ :: cs) w') →
   wpOpsSIn (Fr none) 0 P ops Q (List.range' i l.length) a (c₀ :: cs) w
 | [],i,hd,T,H,E,a,w,h,hH,hT,hM,hq=>by
  simp only [su,Option.some.injEq,Prod.mk.injEq] at h
  obtain ⟨rfl,rfl⟩:=h
  exact hq E a w (Env.le.refl E) hH hT hM (Below.refl B w)
 | o :: l,i,hd,T,H,E,a,w,h,hH,hT,hM,hq=>by
  have hi:ops[i]? = some o:=by
   rw [← Array.getElem?_toList]
   have:=congrArg (fun l=>l[0]?) hd
   simpa using this
  have Bi:ops.toList.drop (i+1)=l:=by
   rw [← List.drop_drop,hd];rfl
  simp only [List.length_cons,List.range'_succ,wpOpsSIn,hi]
  refine ⟨fun _ _=>trivial,?_⟩
  simp only [su] at h
  split at h
  ·rename_i hw
   have UG:=dO (a:=a) hT hw
   rw [if_pos UG]
   split at h
   ·rename_i C3
    have hex:(execOp a.eval o).run P w=.ok .recover w:=by
     obtain ⟨dst,op,ty,pos,after,guard⟩:=o
     simp only [Bool.true_and,wS] at C3
     split at C3
     ·rfl
     ·cases C3
    rw [hex]
    have ZN:recoverD (c₀ :: cs)=none:=by simp [recoverD,hu]
    simp only [ZN]
    exact pn hu l (i+1) Bi h hH (hT.put o.dst (v:=.nilIface) (x:=.nilIface) rfl) (by rw [put_defers];exact hM) hq
   ·obtain ⟨⟨v,H₁⟩,h1,h⟩:=Option.bind_eq_some_iff.1 h
    obtain ⟨⟨E',w',x,hx,hE,hv,iF,hb⟩,XU⟩:=DR hH (nS.of hH hT _) h1
    have go:=pn hu l (i+1) Bi h iF ((aJ.mono hE _ _ hT).put o.dst hv) (by rw [put_defers];exact hM)
     fun BW a' BZ iG h1 h2 h3 h4=>hq BW a' BZ (hE.trans iG) h1 h2 h3 (hb.trans h4)
    rcases hx with hx | ⟨hx,rfl⟩
    ·rw [hx];exact go
    ·rw [hx];exact go
  ·rename_i hw
   have UG:=dO (a:=a) hT hw
   rw [if_neg (by rw [UG];simp)]
   exact pn hu l (i+1) Bi h hH (hT.put o.dst (v:=.undef) (x:=undef) ⟨#[],rfl,rfl⟩) (by rw [put_defers];exact hM) hq
  ·cases h
theorem vp.Oa {g:FuncId} {fn:Func} {id:Nat} {ops:Array Oper} {rest:Code} {args:List AV} {H:AH} {K:AH→Prop} {T1:List AV} {H1:AH} (hf:P.funcs[g]? = some fn) (hb:fn.body=some (.seq (.region id ops false) rest))
  (h:su P ops true ops.toList (args ++ List.replicate (fn.ntmps - args.length) .undef) H=some (T1,H1))
  (hr:bK P none rest (fun e s=>(e=.normal∨e=.ret)∧s.M=[]∧(∃us,dG P s.T s.H fn.results.toList=some us)∧K s.H) ⟨T1,[],H1⟩):vp P g args H K:=by
 intro E B w bD hH ha
 refine callsDIn_of_wpSIn hf hb trivial fun c₀ cs hu=>wpSIn_seq (wpSIn_region ?_)
 rw [List.range_eq_range',← Array.length_toList]
 refine pn (B:=⟨B.on,[]⟩) hu ops.toList 0 rfl h (hH.z []) (mL ha _) rfl ?_
 intro E1 a1 w1 vN uM LQ R5 F5
 refine wpSIn_of_wpIn rfl (Go.wpIn_mono (hr E1 ⟨B.on,[]⟩ w1 a1 none ⟨uM,LQ,R5⟩ rfl) ?_)
 rintro e a' w' ⟨ae,s',E',rfl,⟨he,hm,⟨us,IV⟩,hk⟩,hE,hs,hb⟩
 have hd:a'.defers=[]:=by have:=hs.marks;rw [hm] at this;exact this
 obtain ⟨z,hz,zM⟩:=gH hs.heap hs.tmps IV
 have:a'.defers=[]∧∃u',c₀ :: cs = { c₀ with mode:=u' } :: cs∧∃v,(results fn a'.tmps).run P w'=.ok v w'∧((∃x,Ending.returned v=.returned x)∧u'=.returning∧∃H' E',K H'∧E.le E'∧HR P E' B H' w'∧Below B w w') :=
  ⟨hd,.returning,by cases c₀;cases hu;rfl,z,hz,⟨z,rfl⟩,rfl,s'.H,E',hk,vN.trans hE,hs.heap.zI,(F5.trans hb).zI⟩
 rcases he with rfl | rfl <;> exact this
theorem vp.body {g:FuncId} {fn:Func} {c:Code} {args:List AV} {H:AH} {K:AH→Prop} (hf:P.funcs[g]? = some fn) (hb:fn.body=some c)
  (hr:bK P none c (fun e s=>(e=.normal∨e=.ret)∧s.M=[]∧(∃us,dG P s.T s.H fn.results.toList=some us)∧K s.H) ⟨args ++ List.replicate (fn.ntmps - args.length) .undef,[],H⟩):vp P g args H K:=by
 intro E B w bD hH ha
 refine callsDIn_of_wpSIn hf hb trivial fun c₀ cs hu=>?_
 refine wpSIn_of_wpIn rfl (Go.wpIn_mono (hr E ⟨B.on,[]⟩ w ⟨bD ++ Array.replicate (fn.ntmps - bD.size) undef,[]⟩ none ⟨hH.z [],mL ha _,rfl⟩ rfl) ?_)
 rintro e a' w' ⟨ae,s',E',rfl,⟨he,hm,⟨us,IV⟩,hk⟩,hE,hs,hb⟩
 have hd:a'.defers=[]:=by have:=hs.marks;rw [hm] at this;exact this
 obtain ⟨z,hz,zM⟩:=gH hs.heap hs.tmps IV
 have:a'.defers=[]∧∃u',c₀ :: cs = { c₀ with mode:=u' } :: cs∧∃v,(results fn a'.tmps).run P w'=.ok v w'∧((∃x,Ending.returned v=.returned x)∧u'=.returning∧∃H' E',K H'∧E.le E'∧HR P E' B H' w'∧Below B w w') :=
  ⟨hd,.returning,by cases c₀;cases hu;rfl,z,hz,⟨z,rfl⟩,rfl,s'.H,E',hk,hE,hs.heap.zI,hb.zI⟩
 rcases he with rfl | rfl <;> exact this
def Leave (P:Program):List Mk→AH→(AH→Prop)→Prop
 | [],H,K=>K H
 | .mark m :: ms,H,K=>H.get m=some .deferred∧Leave P ms (H.set m .dead) K
 | .call g a y :: ms,H,K=>Goes P g∧vp P g (a ++ y) H fun H1=>Leave P ms H1 K
theorem mh {fn:Func} {B:eZ} {R:Ending→World→Prop} {X:Array Value} {K:AH→Prop} : ∀ {M:List Mk} {ds:List Deferred} {E:Env} {H:AH} {w:World},
  HR P E B H w→MR [] E M ds→Leave P M H K →
  (∀E' H' w',K H'→E.le E'→HR P E' B H' w'→Below B w w'→LeavesInM (Fr none) 0 P fn X R [] .returning w')→LeavesInM (Fr none) 0 P fn X R ds .returning w
 | [],ds,E,H,w,hH,hM,ht,hR=>by
  obtain rfl:ds=[]:=hM
  exact hR E H w ht (Env.le.refl E) hH (Below.refl B w)
 | .mark m :: M,ds,E,H,w,hH,hM,ht,hR=>by
  obtain ⟨L,GX,hL,rfl,gz⟩:=hM
  obtain ⟨hg,ht⟩:=ht
  obtain ⟨L',cv,ho⟩:=hH.obj _ _ hg
  rw [hL] at cv;cases cv
  have iF:HR P E B (H.set m .dead) (w.putObj L.bH (.deferred none)):=hH.vA hg hL rfl trivial
  exact ⟨by simp,.inl ⟨L.bH,_,rfl,run_takeDeferred ho.1,mh iF gz ht fun E' H' w' k h0 h1 h3=>hR E' H' w' k h0 h1 ((Below.putObj (Below.refl B w) ho.2 _).trans h3)⟩⟩
 | .call g a y :: M,ds,E,H,w,hH,hM,ht,hR=>by
  obtain ⟨a',y',GX,ha,hy,rfl,gz⟩:=hM
  obtain ⟨ia,ht⟩:=ht
  refine ⟨by simp,.inr ⟨fun h=>by simp [Fr,Fence.wide] at h,.func g,y',g,a' ++ y',rfl,?_,fun _ _=>trivial,?_⟩⟩
  ·simp only [invoke];exact ia _ _
  ·have jw:aJ E (a ++ y) (a' ++ y').toList:=by simpa using ha.append hy
   refine CallsDIn.mono (ht E B w _ hH jw) ?_
   rintro e u' w3 ⟨⟨v,rfl⟩,rfl,H3,E3,hl,PW,TE,PM⟩
   exact mh TE (gz.mono PW) hl fun E' H' w' k h0 h1 h3=>hR E' H' w' k (PW.trans h0) h1 (PM.trans h3)
theorem bL.Sy {f:FuncId} {fn:Func} {c:Code} {args:List AV} {H:AH} {Q:AV→AH→Prop} (hf:P.funcs[f]? = some fn) (hb:fn.body=some c)
  (h:bK P none c (fun e s=>(e=.normal∨e=.ret)∧Leave P s.M s.H fun H'=>∃vs,dG P s.T H' fn.results.toList=some vs∧Q (oneOf vs) H') ⟨args ++ List.replicate (fn.ntmps - args.length) .undef,[],H⟩):bL P f args H Q:=by
 intro E B w bD hH ha
 refine ei (rc:=none) (n:=0) |>.1 (callsIn_of_wp_marks hf hb trivial ?_)
 refine Go.wpIn_mono (h E ⟨B.on,[]⟩ w ⟨bD ++ Array.replicate (fn.ntmps - bD.size) undef,[]⟩ none ⟨hH.z [],mL ha _,rfl⟩ rfl) ?_
 rintro e a' w' ⟨ae,s',E',rfl,⟨he,hl⟩,hE,hs,hb⟩
 have:=mh (fn:=fn) (X:=a'.tmps) (R:=fun e w'=>∃v H' E' x,e=.returned x∧Q v H'∧E.le E'∧HR P E' B H' w'∧VR E' v x∧Below B w w') hs.heap hs.marks hl
  fun BW nU BZ ⟨vs,k1,k2⟩ iG uN dM=>by
   obtain ⟨x,hx,J4⟩:=gH uN (aJ.mono iG _ _ hs.tmps) k1
   exact ⟨x,hx,_,nU,BW,x,rfl,k2,hE.trans iG,uN.zI,J4,(hb.trans dM).zI⟩
 rcases he with rfl | rfl <;> exact this
theorem bK.defers {id:Nat} {ops:Array Oper} {pre:List Oper} {dst:Option Tmp} {fo:Operand} {xs:Array Operand} {ts:Array TypeId} {ty:TypeId} {pos:String} {after:Array Edge} {Q:dy→St→Prop} {s:St}
  (hl:ops.toList=pre ++ [⟨dst,.defer { callee:=.value fo,args:=xs,argTypes:=ts },ty,pos,after,none⟩])
  (h:lI P none ops (fun T1 H1=>∃g x y vs,ev P T1 fo=some (.func (.func g) x y)∧qd P T1 xs.toList=some vs∧Q .normal ⟨aV T1 dst .undef,.call g (x ++ vs) y :: s.M,H1⟩) pre s.T s.H):bK P none (.region id ops false) Q s:=by
 intro E B w a rc hs hr
 obtain rfl:rc=none:=hr
 refine wpIn_region_list ?_
 rw [hl]
 refine h.Hr (M:=s.M) (rc:=none) (a:=a) hs.heap hs.tmps hs.marks rfl ?_
 rintro T1 H1 E1 a1 w1 ⟨g,x,y,vs,Nh,sD,hq⟩ vN uM LQ R5 F5
 obtain ⟨t1,d1⟩:=a1
 obtain ⟨x',y',h2,h3,h4⟩:=iW (a:=⟨t1,d1⟩) uM LQ Nh
 have hv:=ec (a:=⟨t1,d1⟩) (fun z hz=>nS.of uM LQ xs z (by simpa using hz)) sD
 have hw:Region.wanted (⟨dst,.defer { callee:=.value fo,args:=xs,argTypes:=ts },ty,pos,after,none⟩ : Oper) (yielded ops t1)=true:=rfl
 simp only [wpListIn,hw,if_true]
 refine ⟨fun _ _=>trivial,?_⟩
 have hex:(Oper.semAt (Fr none).round (Act.eval ⟨t1,d1⟩) (⟨dst,.defer { callee:=.value fo,args:=xs,argTypes:=ts },ty,pos,after,none⟩ : Oper)).run P w1 =
   .ok (.defer { target:=.fn (.func g) y',args:=x' ++ xs.map (Act.eval ⟨t1,d1⟩) }) w1:=by
  rw [show (Fr none).round=none from rfl,Oper.semAt_none]
  simp only [execOp,Sem.run_bind,bF h2,Result.andThen_ok]
  rfl
 rw [hex,Oper.uponIn_defer]
 refine ⟨.normal,⟨aV T1 dst .undef,.call g (x ++ vs) y :: s.M,H1⟩,E1,rfl,hq,vN,⟨uM,?_,?_⟩,F5⟩
 ·exact aJ.put (a:={ tmps:=t1,defers:={ target:=.fn (.func g) y',args:=x' ++ xs.map (Act.eval ⟨t1,d1⟩) } :: d1 }) LQ dst (v:=.undef) (x:=undef) ⟨#[],rfl,rfl⟩
 ·rw [put_defers]
  exact ⟨_,_,_,by simpa using h3.append (by simpa using hv),h4,rfl,R5⟩
end
end Go.Am
end
/- The abstract machine: a region that draws its order. -/
section
namespace Go.Am
open Go.RowKit
section congr
variable {P:Program} {r:Option Nat} {T T' : List AV}
theorem kj : ∀ {xs:List Operand},(∀x ∈ xs,ev P T x=ev P T' x)→qd P T xs=qd P T' xs
 | [],_=>rfl
 | x :: xs,h=>by simp only [qd,h x (by simp),kj (xs:=xs) fun y hy=>h y (by simp [hy])]
theorem qO {x:Option Operand} (h : ∀y,x=some y→ev P T y=ev P T' y):Kc P T x=Kc P T' x:=by
 cases x with
 | none=>rfl
 | some x=>simp only [Kc,h x rfl]
theorem qN : ∀ {xs:List (Nat×Operand)},(∀p ∈ xs,ev P T p.2=ev P T' p.2)→En P T xs=En P T' xs
 | [],_=>rfl
 | (i,x) :: xs,h=>by simp only [En,h (i,x) (by simp),qN (xs:=xs) fun y hy=>h y (by simp [hy])]
theorem qq {o:Oper} (H:AH) (h : ∀x ∈ o.op.operands,ev P T x=ev P T' x):p9 P T H o=p9 P T' H o:=by
 obtain ⟨dst,op,ty,pos,after,guard⟩:=o
 simp only at h
 cases op <;> simp only [p9]
 case build t ps=>rw [qN (T':=T') fun p hp=>h p.2 (by simp only [Op.operands,List.mem_toArray,List.mem_map];exact ⟨p,hp,rfl⟩)]
 case buildSlice t n ps=>rw [qN (T':=T') fun p hp=>h p.2 (by simp only [Op.operands,List.mem_toArray,List.mem_map];exact ⟨p,hp,rfl⟩)]
 case makeFunc f xs ys =>
  rw [kj (T':=T') fun y hy=>h y (by simp [Op.operands];left;simpa using hy),kj (xs:=ys.toList) (T':=T') fun y hy=>h y (by simp [Op.operands];right;simpa using hy)]
 case slice t x lo hi mx =>
  rw [h x (by simp [Op.operands]),qO (x:=lo) (T':=T') fun y hy=>h y (by subst hy;simp [Op.operands]),qO (x:=hi) (T':=T') fun y hy=>h y (by subst hy;simp [Op.operands]),
   qO (x:=mx) (T':=T') fun y hy=>h y (by subst hy;simp [Op.operands])]
 case call c =>
  obtain ⟨callee,args,ts⟩:=c
  cases callee with
  | builtin b =>
   simp only
   rw [kj (T':=T') fun y hy=>h y (by simp [Op.operands,Call.operands];simpa using hy)]
  | value f=>rfl
  | invoke x m=>rfl
 case next x str=>
  cases str with
  | false=>rfl
  | true=>simp only [];rw [h x (by simp [Op.operands])]
 case makeMap t r=>cases r <;> rfl
 all_goals (simp [Op.operands] at h;simp only [h])
theorem jT.congr {o:Oper} {H:AH} {K:AV→AH→Prop} (h : ∀x ∈ o.op.operands,ev P T x=ev P T' x) (k:jT P r o T H K):jT P r o T' H K :=
 fun E B w a rc next Q' hH hT hr hn=>k E B w a rc next Q' hH (fun x hx v hv=>hT x hx v (by rw [← h x hx];exact hv)) hr hn
theorem O6 {x:Operand} {dst:Option Tmp} {v:AV} (h : ∀d,dst=some d→x ≠ .tmp d):ev P (aV T dst v) x=ev P T x:=by
 cases dst with
 | none=>rfl
 | some d =>
  cases x with
  | tmp t =>
   have:d ≠ t:=fun e=>h d rfl (by rw [e])
   simp [ev,aV,this]
  | const c=>rfl
  | global g=>rfl
  | func f=>rfl
theorem xj {o:Oper} {ops:Array Oper} {dst:Option Tmp} {v:AV} (h : ∀d,dst=some d→d ∉ o.looksAt ops) : ∀x ∈ o.op.operands,ev P (aV T dst v) x=ev P T x:=fun x hx =>
 O6 fun d hd On=>h d hd (by subst On;exact List.mem_append_left _ (List.mem_filterMap.2 ⟨.tmp d,by simpa using hx,rfl⟩))
theorem rj {o:Oper} {ops:Array Oper} {dst:Option Tmp} {v:AV} (h : ∀d,dst=some d→d ∉ o.looksAt ops):aT ops (aV T dst v) o=aT ops T o:=by
 cases dst with
 | none=>rfl
 | some d =>
  unfold aT
  cases hg:o.guard with
  | none=>rfl
  | some gw =>
   obtain ⟨g,want⟩:=gw
   cases ht:(ops[g]?).bind (·.dst) with
   | none=>simp [ht]
   | some t =>
    have dm:d ≠ t:=fun e=>h d rfl (by subst e;simp [Oper.looksAt,hg,ht])
    simp [ht,aV,List.getElem?_set,dm]
theorem wC (T:List AV) {x y:Option Tmp} (v u:AV) (h : ∀d,x=some d→y ≠ some d):aV (aV T x v) y u=aV (aV T y u) x v:=by
 cases x with
 | none=>rfl
 | some d =>
  cases y with
  | none=>rfl
  | some e =>
   have:d ≠ e:=fun k=>h d rfl (by rw [k])
   simp only [aV]
   rw [List.set_comm _ _ this]
end congr
section
variable {P:Program} {r:Option Nat} {ops:Array Oper} {md:Region.Mode} {lG:Nat→Nat→Bool}
def eJ (P:Program) (ops:Array Oper) (o:Oper) (T:List AV) (H:AH) (v:AV):Prop :=
 (aT ops T o=some false∧v=.undef)∨(aT ops T o=some true∧p9 P T H o=some (v,H))
theorem eJ.put {o:Oper} {T:List AV} {H:AH} {v:AV} {dst:Option Tmp} {u:AV} (h : ∀d,dst=some d→d ∉ o.looksAt ops):eJ P ops o (aV T dst u) H v↔eJ P ops o T H v:=by
 unfold eJ
 rw [rj h,qq H (xj h)]
def ja (P:Program) (r:Option Nat) (ops:Array Oper) (R:AH→Prop) (i:Nat) (T:List AV) (H:AH) (K:List AV→AH→Prop):Prop :=
 match ops[i]? with
 | none=>K T H
 | some o=>(∃v,eJ P ops o T H v∧K (aV T o.dst v) H)∨(aT ops T o=some true∧jT P r o T H fun v H'=>R H'∧K (aV T o.dst v) H')
def g9 (P:Program) (r:Option Nat) (ops:Array Oper) (md:Region.Mode) (R:Nat→AH→Prop) (K:List AV→AH→Prop):Nat→Array Bool→List AV→AH→Prop
 | 0,listed,T,H=>Region.ready md ops listed=[]∧K T H
 | fuel+1,listed,T,H=>(Region.ready md ops listed=[]→K T H)∧∀i ∈ Region.ready md ops listed,ja P r ops (R i) i T H (g9 P r ops md R K fuel (listed.setIfInBounds i true))
theorem ja.mono {R R' : AH→Prop} {i:Nat} {T:List AV} {H:AH} {K K' : List AV→AH→Prop} (hR : ∀H,R H→R' H) (hK : ∀T H,K T H→K' T H) (h:ja P r ops R i T H K):ja P r ops R' i T H K':=by
 unfold ja at *
 cases ho:ops[i]? with
 | none=>rw [ho] at h;exact hK _ _ h
 | some o =>
  rw [ho] at h
  rcases h with ⟨v,h1,h2⟩ | ⟨h1,h2⟩
  ·exact .inl ⟨v,h1,hK _ _ h2⟩
  ·exact .inr ⟨h1,h2.mono fun v H' h=>⟨hR _ h.1,hK _ _ h.2⟩⟩
theorem g9.mono {R R' : Nat→AH→Prop} {K:List AV→AH→Prop} (hR : ∀j H,R j H→R' j H) : ∀ {fuel:Nat} {listed:Array Bool} {T:List AV} {H:AH},g9 P r ops md R K fuel listed T H→g9 P r ops md R' K fuel listed T H
 | 0,_,_,_,h=>h
 | _+1,_,_,_,h=>⟨h.1,fun i hi=>(h.2 i hi).mono (hR i) fun _ _=>g9.mono hR⟩
def sj (md:Region.Mode) (ops:Array Oper) (lG:Nat→Nat→Bool):Prop :=
 ∀j o,ops[j]? = some o→∀i,lG j i=true→∃e ∈ o.after,Region.binds md e=true∧(e.on=i∨lG e.on i=true)
def Closed (lG:Nat→Nat→Bool) (listed:Array Bool):Prop:=∀j i,listed.getD j false=true→lG j i=true→listed.getD i false=true
theorem Closed.p7 (hA:sj md ops lG) {listed:Array Bool} (hc:Closed lG listed) {j:Nat} (hj:j ∈ Region.ready md ops listed) {i:Nat} (h:lG j i=true):listed.getD i false=true:=by
 obtain ⟨_,o,ho,jO⟩:=mem_ready.1 hj
 obtain ⟨e,he,hb,h'⟩:=hA j o ho i h
 have:=jO e he hb
 rcases h' with rfl | h'
 ·exact this
 ·exact hc _ _ this h'
theorem Closed.list (hA:sj md ops lG) {listed:Array Bool} (hc:Closed lG listed) {j:Nat} (hj:j ∈ Region.ready md ops listed):Closed lG (listed.setIfInBounds j true):=by
 intro k i hk h
 by_cases e:j=k
 ·subst e;exact getD_set_true (hc.p7 hA hj h)
 ·rw [getD_set_ne false e] at hk
  exact getD_set_true (hc k i hk h)
theorem ja.put {R:AH→Prop} {j:Nat} {oi oj:Oper} {v:AV} (hj:ops[j]? = some oj) (PO:oi.apart ops oj=true) {T:List AV} {H:AH} {K:List AV→AH→Prop} {Y:AH→Prop} (hY:Y H)
  (h:ja P r ops (fun H'=>R H'∧Y H') j (aV T oi.dst v) H K):ja P r ops R j T H (fun T' H'=>(∃u,T'=aV T oj.dst u)∧Y H'∧K (aV T' oi.dst v) H'):=by
 obtain ⟨h1,h2,h3⟩:=Oper.apart_spec PO
 unfold ja at *
 rw [hj] at h ⊢
 rcases h with ⟨u,hs,hk⟩ | ⟨hw,hk⟩
 ·exact .inl ⟨u,(eJ.put h1).1 hs,⟨u,rfl⟩,hY,by rw [← wC T v u h2];exact hk⟩
 ·rw [rj h1] at hw
  refine .inr ⟨hw,(hk.congr (xj h1)).mono fun u H' hu=>⟨hu.1.1,⟨u,rfl⟩,hu.1.2,?_⟩⟩
  rw [← wC T v u h2];exact hu.2
theorem g9.first (hA:sj md ops lG) {K:List AV→AH→Prop} {i:Nat} {oi:Oper} {v:AV} {T₀:List AV} (hi:ops[i]? = some oi) : ∀(fuel:Nat) (R:Nat→AH→Prop) (listed:Array Bool) (T:List AV) (H:AH),Closed lG listed →
  (∀j oj,ops[j]? = some oj→j ≠ i→listed.getD j true=false→(∀e ∈ oj.after,Region.binds md e=true→e.on ≠ i)→oi.apart ops oj=true) →
  i ∈ Region.ready md ops listed→(∀H',eJ P ops oi T H' v↔eJ P ops oi T₀ H' v)→eJ P ops oi T₀ H v →
  g9 P r ops md (fun j H'=>R j H'∧(lG j i=false→eJ P ops oi T₀ H' v)) K fuel (listed.setIfInBounds i true) (aV T oi.dst v) H→g9 P r ops md R K (fuel+1) listed T H:=by
 intro fuel
 induction fuel with
 | zero =>
  intro R listed T H hc Bh hr hT hy H0
  refine ⟨fun h=>(by rw [h] at hr;cases hr),fun j hj=>?_⟩
  by_cases yY:j=i
  ·subst yY
   unfold ja;rw [hi]
   exact .inl ⟨v,(hT H).2 hy,g9.mono (fun _ _ h=>h.1) H0⟩
  ·have:=ready_mono hj yY
   rw [H0.1] at this
   cases this
 | succ fuel ih =>
  intro R listed T H hc Bh hr hT hy H0
  refine ⟨fun h=>(by rw [h] at hr;cases hr),fun j hj=>?_⟩
  by_cases yY:j=i
  ·subst yY
   unfold ja;rw [hi]
   exact .inl ⟨v,(hT H).2 hy,g9.mono (fun _ _ h=>h.1) H0⟩
  ·have h1:=H0.2 j (ready_mono hj yY)
   obtain ⟨RB,oj,Xz,jO⟩:=mem_ready.1 hj
   have OL:listed.getD i false=false:=by
    have h0:=(mem_ready.1 hr).1
    rcases Nat.lt_or_ge i listed.size with h' | h'
    ·simp [h'] at h0 ⊢;exact h0
    ·simp [Array.getElem?_eq_none h'] at h0
   have VE:lG j i=false:=by
    cases e:lG j i with
    | false=>rfl
    | true=>rw [hc.p7 hA hj e] at OL;cases OL
   have U9 : ∀e ∈ oj.after,Region.binds md e=true→e.on ≠ i:=fun e he hb heq=>by
    have h1:=jO e he hb
    rw [heq,OL] at h1;cases h1
   have PO:=Bh j oj Xz yY RB U9
   have h2:=ja.put (R:=R j) (Y:=fun H'=>eJ P ops oi T₀ H' v) Xz PO hy (h1.mono (R':=fun H'=>R j H'∧eJ P ops oi T₀ H' v) (fun H' h=>⟨h.1,h.2 VE⟩) fun _ _ h=>h)
   have OP : ∀k ok,ops[k]? = some ok→k ≠ i→(listed.setIfInBounds j true).getD k true=false →
     (∀e ∈ ok.after,Region.binds md e=true→e.on ≠ i)→oi.apart ops ok=true:=fun k ok hk Z6 PB XC=>by
    refine Bh k ok hk Z6 ?_ XC
    by_cases XJ:j=k
    ·subst XJ;exact RB
    ·rw [getD_set_ne true XJ] at PB;exact PB
   refine h2.mono (fun _ h=>h) ?_
   rintro T' H' ⟨⟨u,rfl⟩,Zs,hk⟩
   refine ih R (listed.setIfInBounds j true) _ H' (hc.list hA hj) OP (ready_mono hr (Ne.symm yY)) (fun nU=>?_) Zs ?_
   ·rw [eJ.put (Oper.apart_spec PO).2.2];exact hT nU
   ·rw [Array.setIfInBounds_comm _ _ yY];exact hk
/-! ### The walk -/
def ox:Op→Bool
 | .move _ | .assign _ | .pick .. | .build .. | .nilCheck _ | .binOp .. | .unOp .. | .makeInterface .. | .makeFunc .. | .fieldAddr .. | .field .. | .indexAddr .. | .index .. | .typeAssert .. | .extract ..=>true
 | _=>false
theorem Bl {o:Oper} {T:List AV} {H H' : AH} {v:AV} (hf:ox o.op=true) (h:p9 P T H o=some (v,H)):p9 P T H' o=some (v,H'):=by
 obtain ⟨dst,op,ty,pos,after,guard⟩:=o
 have key : ∀ {x:Option AV},x.map (·,H)=some (v,H)→x.map (·,H')=some (v,H'):=fun h=>by
  obtain ⟨z,hz,h⟩:=Option.map_eq_some_iff.1 h
  simp only [Prod.mk.injEq,and_true] at h
  subst h;rw [hz];rfl
 cases op <;> simp only [ox,Bool.false_eq_true] at hf <;> simp only [p9] at h ⊢
 case move=>exact key h
 case assign=>exact key h
 case pick =>
  obtain ⟨z,hz,h⟩:=Option.bind_eq_some_iff.1 h
  rw [hz];simp only [Option.bind_some]
  split at h
  ·exact key h
  ·exact key h
  ·cases h
 case build=>obtain ⟨z,hz,h⟩:=Option.bind_eq_some_iff.1 h;rw [hz];exact key h
 case nilCheck =>
  obtain ⟨z,hz,h⟩:=Option.bind_eq_some_iff.1 h
  rw [hz];simp only [Option.bind_some]
  split at h
  ·rename_i oJ
   simp only [Option.some.injEq,Prod.mk.injEq,and_true] at h
   subst h
   rw [if_pos oJ]
  ·cases h
 case binOp=>obtain ⟨z,hz,h⟩:=Option.bind_eq_some_iff.1 h;obtain ⟨z',iE,h⟩:=Option.bind_eq_some_iff.1 h;rw [hz,Option.bind_some,iE];exact key h
 case unOp=>obtain ⟨z,hz,h⟩:=Option.bind_eq_some_iff.1 h;rw [hz];exact key h
 case makeInterface =>
  obtain ⟨z,hz,h⟩:=Option.bind_eq_some_iff.1 h
  rw [hz];simp only [Option.bind_some]
  split at h
  ·cases h
  ·rename_i d IZ hu
   simp only [Option.some.injEq,Prod.mk.injEq,and_true] at h
   subst h
   cases d <;> first | rfl | exact absurd rfl (IZ _)
  ·cases h
 case makeFunc =>
  obtain ⟨z,hz,h⟩:=Option.bind_eq_some_iff.1 h;obtain ⟨z',iE,h⟩:=Option.bind_eq_some_iff.1 h
  rw [hz,Option.bind_some,iE]
  simp only [Option.some.injEq,Prod.mk.injEq,and_true] at h
  subst h;rfl
 case fieldAddr=>obtain ⟨z,hz,h⟩:=Option.bind_eq_some_iff.1 h;rw [hz];exact key h
 case field=>obtain ⟨z,hz,h⟩:=Option.bind_eq_some_iff.1 h;rw [hz];exact key h
 case indexAddr=>obtain ⟨z,hz,h⟩:=Option.bind_eq_some_iff.1 h;obtain ⟨z',iE,h⟩:=Option.bind_eq_some_iff.1 h;rw [hz,Option.bind_some,iE];exact key h
 case index=>obtain ⟨z,hz,h⟩:=Option.bind_eq_some_iff.1 h;obtain ⟨z',iE,h⟩:=Option.bind_eq_some_iff.1 h;rw [hz,Option.bind_some,iE];exact key h
 case typeAssert=>obtain ⟨z,hz,h⟩:=Option.bind_eq_some_iff.1 h;rw [hz];exact key h
 case extract =>
  obtain ⟨z,hz,h⟩:=Option.bind_eq_some_iff.1 h
  rw [hz];simp only [Option.bind_some]
  split at h
  ·exact key h
  ·cases h
abbrev qY:=List (Nat×Oper×List AV×AV)
def yq (P:Program) (ops:Array Oper) (lG:Nat→Nat→Bool) (i:Nat) (H:AH) (aZ:qY):Prop:=∀p ∈ aZ,lG i p.1=false→eJ P ops p.2.1 p.2.2.1 H p.2.2.2
def fX (P:Program) (r:Option Nat) (ops:Array Oper) (lG:Nat→Nat→Bool) (K:List AV→AH→Prop):List (Nat×Nat)→qY→List AV→AH→Prop
 | [],_,T,H=>K T H
 | (i,k) :: σ,aZ,T,H=>∃o,ops[i]? = some o ∧
  if k=2 then (aT ops T o=some false∧fX P r ops lG K σ aZ (aV T o.dst .undef) H) ∨
    (aT ops T o=some true∧jT P r o T H fun v H'=>yq P ops lG i H' aZ∧fX P r ops lG K σ aZ (aV T o.dst v) H')
  else ∃v,eJ P ops o T H v∧fX P r ops lG K σ (if k=0 then aZ else (i,o,T,v) :: aZ) (aV T o.dst v) H
def jR (md:Region.Mode) (ops:Array Oper):List (Nat×Nat)→Array Bool→Bool
 | [],listed=>(Region.ready md ops listed).isEmpty
 | (i,k) :: σ,listed =>
  (match ops[i]? with
   | none=>false
   | some o=>if k=2 then Region.ready md ops listed == [i] else (Region.ready md ops listed).contains i && Region.free md ops listed i && (k != 0 || ox o.op)) && jR md ops σ (listed.setIfInBounds i true)
theorem fX.any (hA:sj md ops lG) {K:List AV→AH→Prop} : ∀ {σ:List (Nat×Nat)} {listed:Array Bool} {aZ:qY} {T:List AV} {H:AH},jR md ops σ listed=true→Closed lG listed→fX P r ops lG K σ aZ T H →
  g9 P r ops md (fun j H'=>yq P ops lG j H' aZ) K σ.length listed T H
 | [],listed,aZ,T,H,hd,_,h=>⟨by simpa [jR] using hd,h⟩
 | (i,k) :: σ,listed,aZ,T,H,hd,hc,h=>by
  obtain ⟨o,ho,h⟩:=h
  simp only [jR,ho,Bool.and_eq_true] at hd
  obtain ⟨hd,Bi⟩:=hd
  by_cases hk:k=2
  ·rw [if_pos hk] at hd h
   have hr:Region.ready md ops listed=[i]:=by simpa using hd
   refine ⟨fun h=>(by rw [hr] at h;cases h),fun j hj=>?_⟩
   have I7:j=i:=by rw [hr] at hj;simpa using hj
   subst I7
   have y5:=hc.list hA hj
   unfold ja;rw [ho]
   rcases h with ⟨hw,h⟩ | ⟨hw,h⟩
   ·exact .inl ⟨.undef,.inl ⟨hw,rfl⟩,fX.any hA Bi y5 h⟩
   ·exact .inr ⟨hw,h.mono fun v H' hv=>⟨hv.1,fX.any hA Bi y5 hv.2⟩⟩
  ·rw [if_neg hk] at hd h
   simp only [Bool.and_eq_true] at hd
   obtain ⟨⟨hr,hf⟩,Bh⟩:=hd
   obtain ⟨v,hv,h⟩:=h
   have Ef:i ∈ Region.ready md ops listed:=by simpa using hr
   refine g9.first hA (T₀:=T) ho σ.length _ listed T H hc (Region.free_spec ho hf) Ef (fun _=>Iff.rfl) hv ?_
   refine g9.mono (fun j H' hp=>?_) (fX.any hA Bi (hc.list hA Ef) h)
   by_cases h0:k=0
   ·rw [if_pos h0] at hp
    refine ⟨hp,fun _=>?_⟩
    rcases hv with ⟨hw,e⟩ | ⟨hw,e⟩
    ·exact .inl ⟨hw,e⟩
    ·exact .inr ⟨hw,Bl (by simpa [h0] using Bh) e⟩
   ·rw [if_neg h0] at hp
    exact ⟨fun p uI=>hp p (List.mem_cons_of_mem _ uI),hp (i,o,T,v) (by simp)⟩
theorem g9.Kz {R:Nat→AH→Prop} {K:List AV→AH→Prop} {B:eZ} {M:List Mk} {rc:Option Nat} {Qc:Exit→Act→World→Prop} : ∀ {fuel:Nat} {listed:Array Bool} {T:List AV} {H:AH} {E:Env} {a:Act} {w:World},
  g9 P r ops md R K fuel listed T H→HR P E B H w→aJ E T a.tmps.toList→MR B.D E M a.defers→RR E r rc →
  (∀T' H' E' a' w',K T' H'→E.le E'→HR P E' B H' w'→aJ E' T' a'.tmps.toList→MR B.D E' M a'.defers→Below B w w'→Qc .normal a' w')→wpAnyIn (Fr rc) 0 P md ops Qc fuel listed a w
 | 0,listed,T,H,E,a,w,h,hH,hT,hM,hr,hq=>⟨h.1,hq T H E a w h.2 (Env.le.refl E) hH hT hM (Below.refl B w)⟩
 | fuel+1,listed,T,H,E,a,w,h,hH,hT,hM,hr,hq=>by
  refine ⟨fun h0=>hq T H E a w (h.1 h0) (Env.le.refl E) hH hT hM (Below.refl B w),fun i hi=>?_⟩
  have hs:=h.2 i hi
  unfold ja at hs
  unfold wpOpIn
  cases ho:ops[i]? with
  | none =>
   rw [ho] at hs
   exact g9.Kz hs hH hT hM hr hq
  | some o =>
   rw [ho] at hs
   have step : ∀ {K' : AV→AH→Prop},aT ops T o=some true→jT P r o T H K'→(∀v H',K' v H'→g9 P r ops md R K fuel (listed.setIfInBounds i true) (aV T o.dst v) H') →
     (if Region.wanted o (yielded ops a.tmps) then o.wpIn (Fr rc) 0 P a w (wpAnyIn (Fr rc) 0 P md ops Qc fuel (listed.setIfInBounds i true)) Qc
      else (∀f,o.about P w a.eval=some f→(Fr rc).fn f)∧wpAnyIn (Fr rc) 0 P md ops Qc fuel (listed.setIfInBounds i true) (a.put o.dst undef) w):=by
    intro K' hw BU hK
    rw [if_pos (dO (a:=a) hT hw)]
    refine BU E B w a rc _ Qc hH (nS.of hH hT _) hr ?_
    intro v H' E' w' x hk hE iF hv hb
    exact g9.Kz (hK v H' hk) iF ((aJ.mono hE _ _ hT).put o.dst hv) (by rw [put_defers];exact hM.mono hE) (hr.mono hE)
     fun T' nU BW a' BZ yX iG h1 h2 h3 h4=>hq T' nU BW a' BZ yX (hE.trans iG) h1 h2 h3 (hb.trans h4)
   rcases hs with ⟨v,⟨hw,rfl⟩ | ⟨hw,hv⟩,hk⟩ | ⟨hw,BU⟩
   ·simp only [dO (a:=a) hT hw,Bool.false_eq_true,if_false]
    refine ⟨fun _ _=>trivial,?_⟩
    exact g9.Kz hk hH (hT.put o.dst (v:=.undef) (x:=undef) ⟨#[],rfl,rfl⟩) (by rw [put_defers];exact hM) hr hq
   ·exact step (K':=fun v' H'=>v'=v∧H'=H) hw (jT.oo hv ⟨rfl,rfl⟩) (by rintro _ _ ⟨rfl,rfl⟩;exact hk)
   ·exact step hw BU fun v H' h=>h.2
theorem bK.draw {id:Nat} {σ:List (Nat×Nat)} {Q:dy→St→Prop} {s:St} (hm:P.follows .mixedOrders=true) (hA:sj .any ops lG) (hd:jR .any ops σ (Array.replicate ops.size false)=true) (hl:σ.length=ops.size)
  (h:fX P r ops lG (fun T H=>Q .normal ⟨T,s.M,H⟩) σ [] s.T s.H):bK P r (.region id ops true) Q s:=by
 intro E B w a rc hs hr
 have hc:Closed lG (Array.replicate ops.size false):=fun j i hj _=>by
  exfalso
  rcases Nat.lt_or_ge j ops.size with h' | h' <;> simp [h'] at hj
 have Db:Below B w { w with drawn:=w.drawn+1 }:=⟨rfl,rfl,rfl,Nat.le_refl _,fun _ _=>rfl⟩
 refine wpIn_region_any hm ?_
 rw [← hl]
 rw [← hl] at hd hc
 refine (h.any hA hd hc).Kz (hs.heap.world rfl) hs.tmps hs.marks hr ?_
 intro T' H' E' a' w' hq hE h1 h2 h3 h4
 exact ⟨.normal,⟨T',s.M,H'⟩,E',rfl,hq,hE,⟨h1,h2,h3⟩,Db.trans h4⟩
/-! ### The table of what stands before what -/
def eY (A:List Nat) (j i:Nat):Bool:=(A[j]?.getD 0).testBit i
def Mr (md:Region.Mode) (ops:Array Oper) (A:List Nat):Bool :=
 (List.range ops.size).all fun j =>
  match ops[j]? with
  | none=>true
  | some o=>(A[j]?.getD 0) == o.after.toList.foldl (fun m e=>if Region.binds md e then m ||| ((1 <<< e.on) ||| (A[e.on]?.getD 0)) else m) 0
theorem nu {A:List Nat} (h:Mr md ops A=true):sj md ops (eY A):=by
 intro j o ho i hi
 have hj:j<ops.size:=(Array.getElem?_eq_some_iff.1 ho).1
 have:=List.all_eq_true.1 h j (List.mem_range.2 hj)
 simp only [ho,beq_iff_eq] at this
 unfold eY at hi
 rw [this] at hi
 have key : ∀(l:List Edge) (m:Nat),(l.foldl (fun m e=>if Region.binds md e then m ||| ((1 <<< e.on) ||| (A[e.on]?.getD 0)) else m) m).testBit i=true →
   m.testBit i=true∨∃e ∈ l,Region.binds md e=true∧(e.on=i∨eY A e.on i=true):=by
  intro l
  induction l with
  | nil=>intro m h;exact .inl h
  | cons e l ih =>
   intro m h
   rcases ih _ h with h | ⟨e',he',h⟩
   ·simp only [] at h
    split at h
    ·rename_i hb
     rw [Nat.testBit_or,Nat.testBit_or] at h
     simp only [Bool.or_eq_true] at h
     rcases h with h | h | h
     ·exact .inl h
     ·refine .inr ⟨e,by simp,hb,.inl ?_⟩
      rw [Nat.one_shiftLeft,Nat.testBit_two_pow] at h
      simpa using h
     ·exact .inr ⟨e,by simp,hb,.inr h⟩
    ·exact .inl h
   ·exact .inr ⟨e',by simp [he'],h⟩
 rcases key _ _ hi with h | ⟨e,he,h⟩
 ·simp at h
 ·exact ⟨e,by simpa using he,h⟩
end
end Go.Am
end
/- The abstract machine: allocations that nothing stands before float over a region's other operations; they are hidden until the others are through. -/
section
namespace Go.Am
open Go.RowKit
def eZ.C8 (B:eZ) (p:Nat→Prop):eZ:=⟨fun k=>B.on k∨p k,B.D⟩
section
variable {P:Program} {E:Env} {B B' : eZ} {H:AH} {w w' : World}
theorem OR.BD {L:Loc} {o:aY} (h:OR P E B w L o) (k:o.owns=true→¬ B L.bH→¬ B' L.bH):OR P E B' w L o:=by
 cases o with
 | cells cs e fl =>
  obtain ⟨X,lo,hi,h1,h2,h3,h4,h5,h6,h7⟩:=h
  exact ⟨X,lo,hi,h1,h2,h3,h4,h5,fun ho=>⟨k ho (h6 ho).1,(h6 ho).2⟩,h7⟩
 | dead=>trivial
 | iter s pos=>exact ⟨h.1,k rfl h.2.1,h.2.2⟩
 | loop st pe T ps as bd d =>
  obtain ⟨fn,tmps,Ld,h1,h2,h3,h4⟩:=h
  exact ⟨fn,tmps,Ld,h1,h2,h3,k rfl h4⟩
 | deferred=>exact ⟨h.1,k rfl h.2⟩
 | map es c=>obtain ⟨BR,h1,h2,h3⟩:=h;exact ⟨BR,h1,h2,k rfl h3⟩
theorem OR.off {L:Loc} {o:aY} (h:OR P E B w L o) (ho:o.owns=true) : ¬ B L.bH:=by
 cases o with
 | cells cs e fl=>obtain ⟨X,lo,hi,h1,h2,h3,h4,h5,h6,h7⟩:=h;exact (h6 ho).1
 | dead=>cases ho
 | iter s pos=>exact h.2.1
 | loop st pe T ps as bd d=>obtain ⟨fn,tmps,Ld,h1,h2,h3,h4⟩:=h;exact h4
 | deferred=>exact h.2
 | map es c=>obtain ⟨BR,h1,h2,h3⟩:=h;exact h3
theorem HR.uS (h:HR P E B H w) (k : ∀x,B' x→B x):HR P E B' H w :=
 ⟨h.zj,fun b o hb=>by obtain ⟨L,hL,ho⟩:=h.obj b o hb;exact ⟨L,hL,ho.BD fun _ n hx=>n (k _ hx)⟩,fun x hx=>h.base x (k x hx),h.ke,h.sep⟩
theorem Below.uS (h:Below B w w') (k : ∀x,B' x→B x):Below B' w w':=⟨h.os,h.tape,h.output,h.size,fun x hx=>h.block x (k x hx)⟩
theorem HR.Vi (h:HR P E B H w) (k : ∀x,B' x→B x∨x=w.heap.size) (o:Obj):HR P E B' H (w.alloc o):=by
 refine ⟨h.zj,fun b x hb=>?_,fun x hx=>?_,h.ke,h.sep⟩
 ·obtain ⟨L,hL,ho⟩:=h.obj b x hb
  refine ⟨L,hL,?_⟩
  by_cases hl:x.live=true
  ·have cu:=ho.oD hl
   exact (ho.same (Env.le.refl E) (Below.heap_alloc _ _ _ cu)).BD fun _ n hx=>(k _ hx).elim n fun e=>by omega
  ·cases x <;> first | trivial | exact absurd rfl hl
 ·rcases k x hx with hx | rfl
  ·have:=h.base x hx;simp;omega
  ·simp
theorem HR.late (h:HR P E B H w) {bH:Nat} {cs:List AV} {e:TypeId} {X:Array Value} (hw:w.heap[bH]? = some (.cells X e (0,0))) (hX : ∀E,aJ E cs X.toList) (gh : ∀v ∈ cs,v.one=true)
  (hb:B bH) (hB : ∀x,B' x→B x) (dM : ¬ B' bH) (Rz : ∀b o L,H.get b=some o→o.owns=false→o.live=true→E b=some L→L.bH ≠ bH) :
  HR P (E.put H.n ⟨bH,0,cs.length,P.cellsOf e,0⟩) B' (H.alloc (.cells cs e { whole:=true })) w:=by
 have hle:=h.eI ⟨bH,0,cs.length,P.cellsOf e,0⟩
 have dm : ∀b o L,H.get b=some o→o.live=true→E b=some L→L.bH ≠ bH:=by
  intro b o L hg hl hL
  by_cases ho:o.owns=true
  ·obtain ⟨M,hM,F0⟩:=h.obj b o hg
   rw [hL] at hM;cases hM
   intro e;exact F0.off ho (e ▸ hb)
  ·exact Rz b o L hg (by simpa using ho) hl hL
 refine ⟨fun b M hb=>?_,fun b x hx=>?_,fun x hx=>h.base x (hB x hx),fun g hg=>by obtain ⟨M,h1,h2⟩:=h.ke g hg;exact ⟨M,hle _ _ h1,h2⟩,fun b b' x x' M M' OE hx iU gZ mw hM gz=>?_⟩
 ·unfold Env.put at hb
  by_cases e:b=H.n
  ·subst e;simp
  ·rw [if_neg e] at hb;have:=h.zj _ _ hb;simp;omega
 ·rw [AH.aa] at hx
  by_cases e' : b=H.n
  ·subst e'
   rw [if_pos rfl] at hx;cases hx
   refine ⟨_,fK _ _,X,0,0,hw,rfl,rfl,?_,?_,fun _=>⟨dM,fun k _ _ hk=>by omega,fun _=>.inl rfl⟩,fun _=>rfl,gh,fun _=>⟨rfl,?_,fun _ _=>rfl⟩⟩
   ·have:=(hX E).length;simp at this ⊢;omega
   ·have:=(hX (E.put H.n ⟨bH,0,cs.length,P.cellsOf e,0⟩));have hl:=this.length;rw [List.drop_zero,List.take_of_length_le (by omega)];exact this
   ·have:=(hX E).length;simp at this;omega
  ·rw [if_neg e'] at hx
   obtain ⟨M,hM,ho⟩:=h.obj b x hx
   exact ⟨M,hle _ _ hM,(ho.same hle rfl).BD fun _ n hx=>n (hB _ hx)⟩
 ·rw [AH.aa] at hx iU
  unfold Env.put at hM gz
  by_cases e:b=H.n
  ·rw [if_pos e] at hx hM
   rw [if_neg (fun e'=>OE (e.trans e'.symm))] at iU gz
   cases hM
   exact fun e=>dm b' x' M' iU mw gz e.symm
  ·rw [if_neg e] at hx hM
   by_cases e' : b'=H.n
   ·rw [if_pos e'] at iU gz
    cases gz
    exact dm b x M hx (by cases x <;> simp_all [aY.owns,aY.live]) hM
   ·rw [if_neg e'] at iU gz
    exact h.sep b b' x x' M M' OE hx iU gZ mw hM gz
theorem tS {e:TypeId} {z:AV} (hz:zeroOf P e=some z) : ∃X:Array Value,(∀E,aJ E z.cells X.toList)∧∀w,(Instr.alloc e true (.tuple #[])).run P w=.ok (.pointer (some ⟨w.heap.size,0,none⟩)) (w.alloc (.cells X e (0,0))):=by
 unfold zeroOf at hz
 obtain ⟨i,hi,iE⟩:=Option.bind_eq_some_iff.1 hz
 obtain ⟨x,hx,iE⟩:=Option.bind_eq_some_iff.1 iE
 refine ⟨x.cells,fun E=>(VR.of _ _ iE).cells (cO hz),fun w=>?_⟩
 simp [Instr.alloc,zeroValue,typeInfo,hi,hx,newVar,newRow]
theorem aJ.Mz : ∀ {xs:List AV} {ys:List Value} (d:Nat),aJ E xs ys→aJ E (xs.set d .any) ys
 | [],_,_,h=>h
 | x :: xs,_,d,h=>by
  obtain ⟨y,ys,rfl,h1,h2⟩:=h
  cases d with
  | zero=>exact ⟨y,ys,rfl,trivial,h2⟩
  | succ d=>exact ⟨y,ys,rfl,h1,aJ.Mz d h2⟩
end
structure oH where
 i:Nat
 d:Nat
 e:TypeId
 deriving DecidableEq
def GJ (cC:List oH) (i:Nat):Bool:=cC.any fun q=>q.i == i
theorem uv {cC:List oH} {i:Nat}:GJ cC i=true↔∃q ∈ cC,q.i=i:=by simp [GJ]
theorem FQ {cC:List oH} {i:Nat}:GJ cC i=false↔∀q ∈ cC,q.i ≠ i:=by simp [GJ]
def zc (P:Program) (e:TypeId):List AV :=
 match zeroOf P e with
 | some z=>z.cells
 | none=>[]
def oH.Ok (P:Program) (md:Region.Mode) (ops:Array Oper) (q:oH):Prop :=
 ∃ty pos after z,ops[q.i]? = some ⟨some q.d,.alloc q.e,ty,pos,after,none⟩∧(∀e ∈ after,Region.binds md e=false)∧zeroOf P q.e=some z∧z.cells.all AV.one=true
structure qZ (P:Program) (md:Region.Mode) (ops:Array Oper) (n:Nat) (cC:List oH):Prop where
 le:n≤ops.size
 TK : ∀q ∈ cC,q.i<n∧q.Ok P md ops
 inj : ∀q ∈ cC,∀q' ∈ cC,q=q'∨(q.i ≠ q'.i∧q.d ≠ q'.d)
 nodup:cC.Nodup
 x : ∀i,i<n→GJ cC i=false→∀o,ops[i]? = some o→(∀e ∈ o.after,Region.binds md e=true→e.on<i)∧(∀g,o.guard=some g→g.1<n)∧∀q ∈ cC,o.dst ≠ some q.d
 y : ∀i,n≤i→∀o,ops[i]? = some o→∀j,j<n→∃e ∈ o.after,Region.binds md e=true∧e.on=j
def sK:List oH→List AV→List AV
 | [],T=>T
 | q :: l,T=>sK l (aV T (some q.d) .any)
def j8 (P:Program):List oH→List AV→AH→List AV×AH
 | [],T,H=>(T,H)
 | q :: l,T,H=>j8 P l (aV T (some q.d) (.ptr (some (H.n,0)))) (H.alloc (.cells (zc P q.e) q.e { whole:=true }))
theorem BG {E:Env} {X:List Value} : ∀(l:List oH) {T:List AV},aJ E T X→aJ E (sK l T) X
 | [],_,h=>h
 | q :: l,_,h=>BG l (h.Mz q.d)
theorem BH : ∀(l:List oH) (T:List AV) (d:Nat),(sK l T).set d .any=sK l (T.set d .any)
 | [],_,_=>rfl
 | q :: l,T,d=>by
  simp only [sK,aV,BH l]
  by_cases h:q.d=d
  ·rw [h]
  ·rw [List.set_comm _ _ h]
theorem BI : ∀ {l:List oH} {T:List AV} {q:oH},q ∈ l→(sK l T).set q.d .any=sK l T
 | p :: l,T,q,h=>by
  rcases List.mem_cons.1 h with rfl | h
  ·simp only [sK,aV,BH,List.set_set]
  ·exact BI (l:=l) (T:=aV T (some p.d) .any) h
structure NI (P:Program) (B:eZ) (S:Nat) (cC:List oH) (listed:Array Bool) (hb:Nat→Nat) (T:List AV) (a:Act) (w:World):Prop where
 any : ∀q ∈ cC,T.set q.d .any=T
 laid : ∀q ∈ cC,listed.getD q.i false=true→¬ B (hb q.i)∧S≤hb q.i∧a.tmps.toList.set q.d (.pointer (some ⟨hb q.i,0,none⟩))=a.tmps.toList ∧
  ∃X,w.heap[hb q.i]? = some (.cells X q.e (0,0))∧∀E,aJ E (zc P q.e) X.toList
 inj : ∀q ∈ cC,∀q' ∈ cC,listed.getD q.i false=true→listed.getD q'.i false=true→hb q.i=hb q'.i→q.i=q'.i
 size:S≤w.heap.size
def Hid (cC:List oH) (listed:Array Bool) (hb:Nat→Nat) (k:Nat):Prop:=∃q ∈ cC,listed.getD q.i false=true∧hb q.i=k
def Dz (H₀ H:AH):Prop:=∀b o,H.get b=some o→o.owns=true∨o.live=false∨∃o₀,H₀.get b=some o₀∧o₀.live=true
theorem wM {P:Program} {B:eZ} {S:Nat} {hb:Nat→Nat} {w:World} {a:Act} : ∀(l:List oH) {T:List AV} {H:AH} {E:Env},(∀q ∈ l,∀v ∈ zc P q.e,v.one=true) →
  l.Pairwise (fun q q'=>hb q.i ≠ hb q'.i) →
  (∀q ∈ l,¬ B (hb q.i)∧S≤hb q.i∧a.tmps.toList.set q.d (.pointer (some ⟨hb q.i,0,none⟩))=a.tmps.toList∧∃X,w.heap[hb q.i]? = some (.cells X q.e (0,0))∧∀E,aJ E (zc P q.e) X.toList) →
  (∀b o L,H.get b=some o→o.owns=false→o.live=true→E b=some L→L.bH<S) →
  HR P E (B.C8 fun k=>∃q ∈ l,hb q.i=k) H w→aJ E T a.tmps.toList→∃E',E.le E'∧HR P E' B (j8 P l T H).2 w∧aJ E' (j8 P l T H).1 a.tmps.toList
 | [],T,H,E,_,_,_,_,hH,hT=>⟨E,Env.le.refl E,hH.uS fun _ hx=>.inl hx,hT⟩
 | q :: l,T,H,E,gh,hp,hq,hS,hH,hT=>by
  obtain ⟨q1,q2,q3,X,q4,q5⟩:=hq q (by simp)
  have uI:=List.pairwise_cons.1 hp
  have iF:=hH.late (B':=B.C8 fun k=>∃q ∈ l,hb q.i=k) q4 q5 (gh q (by simp)) (.inr ⟨q,by simp,rfl⟩)
   (fun x hx=>hx.imp id fun ⟨p,hp,hx⟩=>⟨p,by simp [hp],hx⟩)
   (fun hx=>hx.elim q1 fun ⟨p,hp,hx⟩=>uI.1 p hp hx.symm)
   (fun b o L h1 h2 h3 h4 e=>by have:=hS b o L h1 h2 h3 h4;omega)
  have hle:=hH.eI ⟨hb q.i,0,(zc P q.e).length,P.cellsOf q.e,0⟩
  have Tx:aJ (E.put H.n ⟨hb q.i,0,(zc P q.e).length,P.cellsOf q.e,0⟩) (T.set q.d (.ptr (some (H.n,0)))) a.tmps.toList:=by
   rw [← q3]
   exact (aJ.mono hle _ _ hT).set q.d ⟨_,fK _ _,rfl⟩
  obtain ⟨E',k1,k2,k3⟩:=wM l (fun p hp=>gh p (by simp [hp])) uI.2 (fun p hp=>hq p (by simp [hp])) (fun b o L h1 h2 h3 h4=>by
   rw [AH.aa] at h1
   by_cases e:b=H.n
   ·rw [if_pos e] at h1;cases h1;cases h2
   ·rw [if_neg e] at h1
    unfold Env.put at h4
    rw [if_neg e] at h4
    exact hS b o L h1 h2 h3 h4) iF Tx
  exact ⟨E',hle.trans k1,k2,k3⟩
def ef (s n:Nat):Array Bool:=((List.range s).map fun i=>decide (i<n)).toArray
theorem mI (s n i:Nat) (d:Bool) (h:i<s):(ef s n).getD i d=decide (i<n):=by
 simp [ef,Array.getD_eq_getD_getElem?,h]
theorem kf {l:Array Bool} {i:Nat} (d d' : Bool) (h:i<l.size):l.getD i d=l.getD i d':=by
 simp [Array.getD_eq_getD_getElem?,h]
theorem oy (listed:Array Bool) : ∀n,(∀i,i<n→listed.getD i false=true)∨∃i,i<n∧listed.getD i false=false∧∀j,j<i→listed.getD j false=true
 | 0=>.inl fun i h=>by omega
 | n+1=>by
  rcases oy listed n with h | ⟨i,h1,h2⟩
  ·cases hn:listed.getD n false with
   | true =>
    refine .inl fun i hi=>?_
    rcases Nat.lt_succ_iff_lt_or_eq.1 hi with h' | rfl
    ·exact h i h'
    ·exact hn
   | false=>exact .inr ⟨n,by omega,hn,h⟩
  ·exact .inr ⟨i,by omega,h2⟩
theorem uX {l:Array Bool} {i f:Nat} (h:l.getD i true=false) (hc:l.toList.count false=f) : ∃f',f=f'+1∧(l.setIfInBounds i true).toList.count false=f':=by
 have hi:i<l.size:=by
  rcases Nat.lt_or_ge i l.size with h' | h'
  ·exact h'
  ·simp [Array.getD_eq_getD_getElem?,h'] at h
 have hg:l.toList[i]'(by simpa using hi)=false:=by simpa [Array.getD_eq_getD_getElem?,hi] using h
 have Rp:0<l.toList.count false:=List.count_pos_iff.2 (hg ▸ List.getElem_mem _)
 refine ⟨f - 1,by omega,?_⟩
 rw [Array.toList_setIfInBounds,List.count_set (by simpa using hi),hg,if_pos (by decide),if_neg (by decide)]
 omega
section
variable {P:Program} {r:Option Nat} {md:Region.Mode} {ops:Array Oper} {n:Nat} {cC:List oH}
theorem nB {T:List AV} {o:Oper} (h : ∀g,o.guard=some g→g.1<n):aT (ops.extract 0 n) T o=aT ops T o:=by
 unfold aT
 cases hg:o.guard with
 | none=>rfl
 | some g =>
  obtain ⟨j,want⟩:=g
  have hj:j<n:=h _ hg
  have:(ops.extract 0 n)[j]? = ops[j]?:=by
   rw [Array.getElem?_extract]
   by_cases hs:j<ops.size
   ·rw [if_pos (by omega)];simp
   ·rw [if_neg (by omega)];simp;omega
  simp only [this]
structure BM (ops:Array Oper) (n:Nat) (cC:List oH) (listed l1:Array Bool):Prop where
 s:listed.size=ops.size
 s1:l1.size=n
 back : ∀i,n≤i→listed.getD i false=false
 front : ∀i,i<n→l1.getD i true=(GJ cC i || listed.getD i true)
theorem BM.Qe {listed l1:Array Bool} (h:BM ops n cC listed l1) {i:Nat} (hi:i<n):BM ops n cC (listed.setIfInBounds i true) (l1.setIfInBounds i true):=by
 refine ⟨by simp [h.s],by simp [h.s1],fun j hj=>?_,fun j hj=>?_⟩
 ·rw [getD_set_ne false (by omega)];exact h.back j hj
 ·by_cases e:i=j
  ·subst e
   have h1:i<l1.size:=by rw [h.s1];exact hi
   rw [show (l1.setIfInBounds i true).getD i true=true by simp [Array.getD_eq_getD_getElem?,h1]]
   rcases Nat.lt_or_ge i listed.size with h2 | h2 <;> simp [Array.getD_eq_getD_getElem?,h2]
  ·rw [getD_set_ne true e,getD_set_ne true e];exact h.front j hj
theorem BM.oR {listed l1:Array Bool} (h:BM ops n cC listed l1) {i:Nat} (hi:i<n) (hf:GJ cC i=true):BM ops n cC (listed.setIfInBounds i true) l1:=by
 refine ⟨by simp [h.s],h.s1,fun j hj=>?_,fun j hj=>?_⟩
 ·rw [getD_set_ne false (by omega)];exact h.back j hj
 ·by_cases e:i=j
  ·subst e
   rw [h.front i hj,hf];rfl
  ·rw [getD_set_ne true e];exact h.front j hj
theorem pX (n:Nat) : ∀s,(ef s n).toList.count false=s - n
 | 0=>by simp [ef]
 | s+1=>by
  have ih:=pX n s
  simp only [ef] at ih ⊢
  rw [List.range_succ,List.map_append,List.count_append,ih]
  by_cases h:s<n
  ·simp [h];omega
  ·simp [h];omega
theorem Bp {i:Nat} (h:i<n):(ops.extract 0 n)[i]? = ops[i]?:=by
 rw [Array.getElem?_extract]
 by_cases hs:i<ops.size
 ·rw [if_pos (by omega)];simp
 ·rw [if_neg (by omega)];simp;omega
theorem qZ.gh (hs:qZ P md ops n cC) : ∀q ∈ cC,∀v ∈ zc P q.e,v.one=true:=by
 intro q hq v hv
 obtain ⟨-,ty,pos,after,z,e1,e2,e3,e4⟩:=hs.TK q hq
 simp only [zc,e3] at hv
 exact List.all_eq_true.1 e4 v hv
theorem g9.float {R:Nat→AH→Prop} {K₁:List AV→AH→Prop} {B:eZ} {M:List Mk} {rc:Option Nat} {Qc:Exit→Act→World→Prop} {S:Nat} {E₀:Env} {H₀:AH} {m:Nat} (hs:qZ P md ops n cC) (hm:m=ops.size - n)
  (hS : ∀b o₀,H₀.get b=some o₀→o₀.live=true→∃L,E₀ b=some L∧L.bH<S) (hK : ∀T H,K₁ T H→Dz H₀ H) :
  ∀ {fuel:Nat} {listed l1:Array Bool} {f1:Nat} {T:List AV} {H:AH} {E:Env} {a:Act} {w:World} {hb:Nat→Nat},listed.toList.count false=fuel→BM ops n cC listed l1 →
  g9 P r (ops.extract 0 n) md R K₁ f1 l1 T H→HR P E (B.C8 (Hid cC listed hb)) H w→aJ E T a.tmps.toList→MR B.D E M a.defers→RR E r rc→NI P B S cC listed hb T a w→E₀.le E →
  (∀T' H' E' a' w',K₁ T' H'→E.le E'→HR P E' B (j8 P cC T' H').2 w'→aJ E' (j8 P cC T' H').1 a'.tmps.toList→MR B.D E' M a'.defers→Below B w w'→wpAnyIn (Fr rc) 0 P md ops Qc m (ef ops.size n) a' w') →
  wpAnyIn (Fr rc) 0 P md ops Qc fuel listed a w:=by
 have done : ∀ {fuel:Nat} {listed l1:Array Bool} {f1:Nat} {T:List AV} {H:AH} {E:Env} {a:Act} {w:World} {hb:Nat→Nat},listed.toList.count false=fuel→BM ops n cC listed l1 →
  g9 P r (ops.extract 0 n) md R K₁ f1 l1 T H→HR P E (B.C8 (Hid cC listed hb)) H w→aJ E T a.tmps.toList→MR B.D E M a.defers→NI P B S cC listed hb T a w→E₀.le E →
  (∀T' H' E' a' w',K₁ T' H'→E.le E'→HR P E' B (j8 P cC T' H').2 w'→aJ E' (j8 P cC T' H').1 a'.tmps.toList→MR B.D E' M a'.defers→Below B w w'→wpAnyIn (Fr rc) 0 P md ops Qc m (ef ops.size n) a' w') →
  (∀i,i<n→listed.getD i false=true)→wpAnyIn (Fr rc) 0 P md ops Qc fuel listed a w:=by
  intro fuel listed l1 f1 T H E a w hb hc hB h hH hT hM hF hE hq jO
  have hl:listed=ef ops.size n:=by
   apply Array.ext
   ·simp [hB.s,ef]
   ·intro i h1 h2
    have hi:i<ops.size:=by rw [← hB.s];exact h1
    have e1:listed.getD i false=listed[i]:=by simp [Array.getD_eq_getD_getElem?,h1]
    have e2:(ef ops.size n).getD i false=(ef ops.size n)[i]:=by simp [Array.getD_eq_getD_getElem?,h2]
    rw [← e1,← e2,mI _ _ _ _ hi]
    by_cases hn:i<n
    ·simp only [hn,decide_true];exact jO i hn
    ·simp only [hn,decide_false];exact hB.back i (by omega)
  have RK:fuel=m:=by rw [← hc,hl,pX,hm]
  have UZ:Region.ready md (ops.extract 0 n) l1=[]:=by
   cases hr:Region.ready md (ops.extract 0 n) l1 with
   | nil=>rfl
   | cons j js =>
    exfalso
    obtain ⟨j0,o,ho,_⟩:=mem_ready.1 (show j ∈ Region.ready md (ops.extract 0 n) l1 by rw [hr];simp)
    have hj:j<n:=by have:=(Array.getElem?_eq_some_iff.1 ho).1;simp at this;omega
    have Tn:j<listed.size:=by rw [hB.s];have:=hs.le;omega
    rw [hB.front j hj,kf true false Tn,jO j hj] at j0
    simp at j0
  have Dd:K₁ T H:=by
   cases f1 with
   | zero=>exact h.2
   | succ f1=>exact h.1 UZ
  have Eh : ∀q ∈ cC,listed.getD q.i false=true:=fun q hq=>jO _ (hs.TK q hq).1
  obtain ⟨E',k1,k2,k3⟩:=wM (P:=P) (B:=B) (S:=S) (hb:=hb) (w:=w) (a:=a) cC (T:=T) (H:=H) (E:=E) hs.gh
   (hs.nodup.imp_of_mem fun {q q'} h1 h2 dm e=>dm ((hs.inj q h1 q' h2).resolve_right fun h=>h.1 (hF.inj q h1 q' h2 (Eh q h1) (Eh q' h2) e)))
   (fun q hq=>hF.laid q hq (Eh q hq))
   (fun b o L h1 h2 h3 h4=>by
    rcases hK T H Dd b o h1 with h | h | ⟨o₀,h5,h6⟩
    ·rw [h] at h2;cases h2
    ·rw [h] at h3;cases h3
    ·obtain ⟨L₀,h7,h8⟩:=hS b o₀ h5 h6
     have:=hE _ _ h7
     rw [this] at h4;cases h4;exact h8)
   (hH.uS fun x hx=>hx.imp id fun ⟨q,h1,h2⟩=>⟨q,h1,Eh q h1,h2⟩) hT
  rw [RK,hl]
  exact hq T H E' a w Dd k1 k2 k3 (hM.mono k1) (Below.refl B w)
 intro fuel
 induction fuel with
 | zero =>
  intro listed l1 f1 T H E a w hb hc hB h hH hT hM hr hF hE hq
  rcases oy listed n with jO | ⟨i0,RG,PD,I6⟩
  ·exact done hc hB h hH hT hM hF hE hq jO
  ·exfalso
   have:i0<listed.size:=by rw [hB.s];have:=hs.le;omega
   obtain ⟨f',F3,_⟩:=uX (by rw [kf true false this];exact PD) hc
   omega
 | succ fuel ih =>
  intro listed l1 f1 T H E a w hb hc hB h hH hT hM hr hF hE hq
  rcases oy listed n with jO | ⟨i0,RG,PD,I6⟩
  ·exact done hc hB h hH hT hM hF hE hq jO
  have Pz:i0<listed.size:=by rw [hB.s];have:=hs.le;omega
  refine ⟨fun h0=>?_,fun i hi=>?_⟩
  ·exfalso
   have RF:i0<ops.size:=by rw [← hB.s];exact Pz
   have:i0 ∈ Region.ready md ops listed:=by
    refine mem_ready.2 ⟨by rw [kf true false Pz];exact PD,ops[i0],by simp [RF],fun e he Jc=>?_⟩
    cases hf:GJ cC i0 with
    | true =>
     obtain ⟨q,zN,rfl⟩:=uv.1 hf
     obtain ⟨-,ty,pos,after,z,e1,e2,e3,e4⟩:=hs.TK q zN
     rw [(Array.getElem?_eq_some_iff.1 e1).2] at he
     rw [e2 e he] at Jc;cases Jc
    | false=>exact I6 _ ((hs.x i0 RG hf ops[i0] (by simp [RF])).1 e he Jc)
   rw [h0] at this;cases this
  ·obtain ⟨h1,o,ho,jO⟩:=mem_ready.1 hi
   have fO:i<n:=by
    rcases Nat.lt_or_ge i n with h' | h'
    ·exact h'
    ·exfalso
     obtain ⟨e,he1,he2,he3⟩:=hs.y i h' o ho i0 RG
     have:=jO e he1 he2
     rw [he3,PD] at this;cases this
   obtain ⟨f',F3,y5⟩:=uX h1 hc
   obtain rfl:fuel=f':=by omega
   have OM:i<listed.size:=by rw [hB.s];have:=hs.le;omega
   cases hf:GJ cC i with
   | true =>
    obtain ⟨q,zN,rfl⟩:=uv.1 hf
    obtain ⟨-,ty,pos,after,z,e1,e2,e3,e4⟩:=hs.TK q zN
    have C4:listed.getD q.i false=false:=by rw [kf false true OM];exact h1
    obtain ⟨X,x1,x2⟩:=tS e3
    unfold wpOpIn
    rw [e1]
    simp only [Region.wanted,if_true]
    refine ⟨fun _ _=>trivial,?_⟩
    rw [dU rc _ _ (by simp)]
    have hx:(execOp a.eval ⟨some q.d,.alloc q.e,ty,pos,after,none⟩).run P w=.ok (.value (.pointer (some ⟨w.heap.size,0,none⟩))) (w.alloc (.cells X q.e (0,0))):=by
     have he:execOp a.eval ⟨some q.d,.alloc q.e,ty,pos,after,none⟩=(do pure (.value (← Instr.alloc q.e true (.tuple #[])))):=rfl
     rw [he];simp [x2]
    rw [hx,Oper.uponIn_value]
    have dI : ∀k,B k→k<w.heap.size:=fun k hk=>hH.base k (.inl hk)
    have vv : ∀p ∈ cC,p.i ≠ q.i→(listed.setIfInBounds q.i true).getD p.i false=listed.getD p.i false:=fun p _ hp=>getD_set_ne false (Ne.symm hp)
    have hw : ∀k,k<w.heap.size→(w.alloc (.cells X q.e (0,0))).heap[k]? = w.heap[k]?:=fun k hk=>Below.heap_alloc _ _ _ hk
    refine ih (hb:=fun j=>if j=q.i then w.heap.size else hb j) y5 (hB.oR fO hf) h ?_ ?_ (by rw [put_defers];exact hM) hr ?_ hE ?_
    ·refine hH.Vi ?_ _
     rintro x (hx | ⟨p,hp,M4,OC⟩)
     ·exact .inl (.inl hx)
     ·simp only at OC
      by_cases e:p.i=q.i
      ·rw [if_pos e] at OC;exact .inr OC.symm
      ·rw [if_neg e] at OC;rw [vv p hp e] at M4;exact .inl (.inr ⟨p,hp,M4,OC⟩)
    ·have:=hT.set (x:=.any) (y:=.pointer (some ⟨w.heap.size,0,none⟩)) q.d trivial
     rw [hF.any q zN] at this
     simpa [Act.put] using this
    ·refine ⟨hF.any,fun p hp M4=>?_,fun p hp p' uI k1 k2 k3=>?_,Nat.le_trans hF.size (by simp)⟩
     ·by_cases e:p.i=q.i
      ·obtain rfl:p=q:=(hs.inj p hp q zN).resolve_right fun h=>h.1 e
       simp only [if_true]
       refine ⟨fun hb=>Nat.lt_irrefl _ (dI _ hb),hF.size,by simp [Act.put],X,by simpa using World.alloc_heap_new w _,?_⟩
       simp only [zc,e3];exact x1
      ·rw [vv p hp e] at M4
       simp only [if_neg e]
       obtain ⟨k1,k2,k3,Y,k4,k5⟩:=hF.laid p hp M4
       refine ⟨k1,k2,?_,Y,by rw [hw _ (Array.getElem?_eq_some_iff.1 k4).1];exact k4,k5⟩
       have hd:q.d ≠ p.d:=fun e'=>(hs.inj p hp q zN).elim (fun h=>e (h ▸ rfl)) fun h=>h.2 e'.symm
       simp only [Act.put,Array.toList_setIfInBounds]
       rw [List.set_comm _ _ hd,k3]
     ·by_cases e:p.i=q.i
      ·by_cases e' : p'.i=q.i
       ·rw [e,e']
       ·exfalso
        rw [vv p' uI e'] at k2
        simp only [if_pos e,if_neg e'] at k3
        obtain ⟨_,_,_,Y,k4,_⟩:=hF.laid p' uI k2
        have:=(Array.getElem?_eq_some_iff.1 k4).1;omega
      ·by_cases e' : p'.i=q.i
       ·exfalso
        rw [vv p hp e] at k1
        simp only [if_pos e',if_neg e] at k3
        obtain ⟨_,_,_,Y,k4,_⟩:=hF.laid p hp k1
        have:=(Array.getElem?_eq_some_iff.1 k4).1;omega
       ·rw [vv p hp e] at k1;rw [vv p' uI e'] at k2
        simp only [if_neg e,if_neg e'] at k3
        exact hF.inj p hp p' uI k1 k2 k3
    ·intro T' H' E' a' w' k1 k2 k3 k4 k5 k6
     exact hq T' H' E' a' w' k1 k2 k3 k4 k5 (((Below.refl B w).alloc dI _).trans k6)
   | false =>
    have dm : ∀q ∈ cC,q.i ≠ i:=FQ.1 hf
    obtain ⟨x1,x2,x3⟩:=hs.x i fO hf o ho
    have wV:(ops.extract 0 n)[i]? = some o:=by rw [Bp fO];exact ho
    have ON:i ∈ Region.ready md (ops.extract 0 n) l1:=by
     refine mem_ready.2 ⟨by rw [hB.front i fO,hf,h1];rfl,o,wV,fun e he Jc=>?_⟩
     have cu:=x1 e he Jc
     have:=jO e he Jc
     have hz:e.on<listed.size:=by omega
     have CZ:e.on<l1.size:=by rw [hB.s1];omega
     rw [kf false true CZ,hB.front _ (by omega),kf true false hz,this];simp
    have vv : ∀p ∈ cC,(listed.setIfInBounds i true).getD p.i false=listed.getD p.i false:=fun p hp=>getD_set_ne false (Ne.symm (dm p hp))
    cases f1 with
    | zero=>rw [h.1] at ON;cases ON
    | succ f1 =>
     have fU:=h.2 i ON
     unfold ja at fU
     rw [wV] at fU
     unfold wpOpIn
     rw [ho]
     have next : ∀ {v:AV} {x:Value} {H' : AH} {E' : Env} {w' : World},g9 P r (ops.extract 0 n) md R K₁ f1 (l1.setIfInBounds i true) (aV T o.dst v) H'→E.le E'→HR P E' (B.C8 (Hid cC listed hb)) H' w'→VR E' v x→Below (B.C8 (Hid cC listed hb)) w w' →
       wpAnyIn (Fr rc) 0 P md ops Qc fuel (listed.setIfInBounds i true) (a.put o.dst x) w':=by
      intro v x H' E' w' hA iG iF hv dM
      have GS:Below B w w':=dM.uS fun x hx=>.inl hx
      refine ih (hb:=hb) y5 (hB.Qe fO) hA (iF.uS ?_) ((aJ.mono iG _ _ hT).put o.dst hv) (by rw [put_defers];exact hM.mono iG) (hr.mono iG) ?_ (hE.trans iG) ?_
      ·rintro y (hy | ⟨p,hp,M4,OC⟩)
       ·exact .inl hy
       ·rw [vv p hp] at M4;exact .inr ⟨p,hp,M4,OC⟩
      ·refine ⟨fun q hq=>?_,fun q hq zN=>?_,fun p hp p' uI k1 k2 k3=>?_,Nat.le_trans hF.size GS.size⟩
       ·have:=x3 q hq
        cases hd:o.dst with
        | none=>exact hF.any q hq
        | some d =>
         have OD:d ≠ q.d:=fun e=>this (by rw [hd,e])
         simp only [aV]
         rw [List.set_comm _ _ OD,hF.any q hq]
       ·rw [vv q hq] at zN
        obtain ⟨k1,k2,k3,Y,k4,k5⟩:=hF.laid q hq zN
        refine ⟨k1,k2,?_,Y,by rw [dM.block _ (.inr ⟨q,hq,zN,rfl⟩)];exact k4,k5⟩
        have:=x3 q hq
        cases hd:o.dst with
        | none=>exact k3
        | some d =>
         have OD:d ≠ q.d:=fun e=>this (by rw [hd,e])
         simp only [Act.put,Array.toList_setIfInBounds]
         rw [List.set_comm _ _ OD,k3]
       ·rw [vv p hp] at k1;rw [vv p' uI] at k2
        exact hF.inj p hp p' uI k1 k2 k3
      ·intro T' nU BW a' BZ k1 k2 k3 k4 k5 k6
       exact hq T' nU BW a' BZ k1 (iG.trans k2) k3 k4 k5 (GS.trans k6)
     have step : ∀ {K' : AV→AH→Prop},aT (ops.extract 0 n) T o=some true→jT P r o T H K'→(∀v H',K' v H'→g9 P r (ops.extract 0 n) md R K₁ f1 (l1.setIfInBounds i true) (aV T o.dst v) H') →
       (if Region.wanted o (yielded ops a.tmps) then o.wpIn (Fr rc) 0 P a w (wpAnyIn (Fr rc) 0 P md ops Qc fuel (listed.setIfInBounds i true)) Qc
        else (∀f,o.about P w a.eval=some f→(Fr rc).fn f)∧wpAnyIn (Fr rc) 0 P md ops Qc fuel (listed.setIfInBounds i true) (a.put o.dst undef) w):=by
      intro K' hw BU wZ
      rw [nB x2] at hw
      rw [if_pos (dO (a:=a) hT hw)]
      refine BU E (B.C8 (Hid cC listed hb)) w a rc _ Qc hH (nS.of hH hT _) hr ?_
      intro v H' E' w' x hk iG iF hv dM
      exact next (wZ v H' hk) iG iF hv dM
     rcases fU with ⟨v,⟨hw,rfl⟩ | ⟨hw,hv⟩,hk⟩ | ⟨hw,BU⟩
     ·rw [nB x2] at hw
      simp only [dO (a:=a) hT hw,Bool.false_eq_true,if_false]
      exact ⟨fun _ _=>trivial,next hk (Env.le.refl E) hH ⟨#[],rfl,rfl⟩ (Below.refl _ w)⟩
     ·exact step (K':=fun v' H'=>v'=v∧H'=H) hw (jT.oo hv ⟨rfl,rfl⟩) (by rintro _ _ ⟨rfl,rfl⟩;exact hk)
     ·exact step hw BU fun v H' h=>h.2
def vJ (n:Nat) (cC:List oH):Array Bool:=((List.range n).map (GJ cC)).toArray
theorem wQ (n:Nat) (cC:List oH) (i:Nat) (d:Bool) (h:i<n):(vJ n cC).getD i d=GJ cC i:=by
 simp [vJ,Array.getD_eq_getD_getElem?,h]
theorem bK.O4 {id:Nat} {σ₁ σ₂:List (Nat×Nat)} {Q:dy→St→Prop} {s:St} {lG:Nat→Nat→Bool} (hm:P.follows .mixedOrders=true) (hs:qZ P .any ops n cC)
  (Sg:sj .any (ops.extract 0 n) lG) (RO:jR .any (ops.extract 0 n) σ₁ (vJ n cC)=true) (RQ:Closed lG (vJ n cC))
  (Sf:sj .any ops lG) (RN:jR .any ops σ₂ (ef ops.size n)=true) (RP:Closed lG (ef ops.size n)) (hl:σ₂.length=ops.size - n)
  (h:fX P r (ops.extract 0 n) lG (fun T H=>Dz s.H H∧fX P r ops lG (fun T H=>Q .normal ⟨T,s.M,H⟩) σ₂ [] (j8 P cC T H).1 (j8 P cC T H).2) σ₁ [] (sK cC s.T) s.H):bK P r (.region id ops true) Q s:=by
 intro E B w a rc Ti hr
 have Db:Below B w { w with drawn:=w.drawn+1 }:=⟨rfl,rfl,rfl,Nat.le_refl _,fun _ _=>rfl⟩
 refine wpIn_region_any hm ?_
 have PB : ∀q ∈ cC,¬ (Array.replicate ops.size false).getD q.i false=true:=by
  intro q _ h
  rcases Nat.lt_or_ge q.i ops.size with h' | h' <;> simp [Array.getD_eq_getD_getElem?,h'] at h
 refine g9.float (S:=w.heap.size) (E₀:=E) (H₀:=s.H) (B:=B) (M:=s.M) (hb:=fun _=>0) (l1:=vJ n cC) hs hl ?_ (fun T H h=>h.1) (by simp) ?_ (h.any Sg RO RQ) ((Ti.heap.world (w':={ w with drawn:=w.drawn+1 }) rfl).uS ?_) (BG cC Ti.tmps) Ti.marks hr ?_ (Env.le.refl E) ?_
 ·intro b o hb ho
  obtain ⟨L,hL,F0⟩:=Ti.heap.obj b o hb
  exact ⟨L,hL,F0.oD ho⟩
 ·refine ⟨by simp,by simp [vJ],fun i hi=>?_,fun i hi=>?_⟩
  ·rcases Nat.lt_or_ge i ops.size with h' | h' <;> simp [Array.getD_eq_getD_getElem?,h']
  ·have:=hs.le
   have wY:i<ops.size:=by omega
   rw [wQ _ _ _ _ hi];simp [Array.getD_eq_getD_getElem?,wY]
 ·rintro x (hx | ⟨q,hq,zN,_⟩)
  ·exact hx
  ·exact (PB q hq zN).elim
 ·exact ⟨fun q hq=>BI hq,fun q hq h=>(PB q hq h).elim,fun q hq _ _ h=>(PB q hq h).elim,Nat.le_refl _⟩
 ·intro T' H' E' a' w' hk hE k1 k2 k3 k4
  rw [← hl] at *
  refine (hk.2.any Sf RN RP).Kz k1 k2 k3 (hr.mono hE) ?_
  intro T'' nU BW a'' BZ hq iG h1 h2 h3 h4
  exact ⟨.normal,⟨T'',s.M,nU⟩,BW,rfl,hq,hE.trans iG,⟨h1,h2,h3⟩,Db.trans (k4.trans h4)⟩
end
end Go.Am
end
/- The abstract machine's own run: a program that reckons what a statement, a call leaves. -/
section
namespace Go.Am
open Go.RowKit
/-! ### Equality of values, as far as it is wanted -/
mutual
def gV:AV→AV→Bool
 | .bool a,.bool b=>a == b
 | .int k n,.int l m=>decide (k=l) && decide (n=m)
 | .str s,.str t=>decide (s=t)
 | .ptr a,.ptr b=>decide (a=b)
 | .slice a l c,.slice b m d=>decide (a=b) && decide (l=m) && decide (c=d)
 | .nilFunc,.nilFunc=>true
 | .nilIface,.nilIface=>true
 | .agg a,.agg b=>mK a b
 | .tuple a,.tuple b=>mK a b
 | .iface t a,.iface u b=>decide (t=u) && gV a b
 | .func (.func f) a b,.func (.func g) c d=>decide (f=g) && mK a c && mK b d
 | .map a,.map b=>decide (a=b)
 | .half a b,.half c d=>decide (a=c) && b == d
 | .rm,.rm=>true
 | _,_=>false
def mK:List AV→List AV→Bool
 | [],[]=>true
 | a :: x,b :: y=>gV a b && mK x y
 | _,_=>false
end
mutual
theorem p6 : ∀ {a b:AV},gV a b=true→a=b
 | .bool a,b,h=>by cases b <;> simp_all [gV]
 | .int k n,b,h=>by cases b <;> simp_all [gV]
 | .str s,b,h=>by cases b <;> simp_all [gV]
 | .ptr a,b,h=>by cases b <;> simp_all [gV]
 | .slice a l c,b,h=>by cases b <;> simp_all [gV]
 | .nilFunc,b,h=>by cases b <;> simp_all [gV]
 | .nilIface,b,h=>by cases b <;> simp_all [gV]
 | .cY _,b,h=>by simp [gV] at h
 | .func f x y,b,h=>by
  cases f with
  | func g =>
   cases b with
   | func f' u v =>
    cases f' with
    | func g' =>
     simp only [gV,Bool.and_eq_true,decide_eq_true_eq] at h
     obtain ⟨⟨h1,h2⟩,h3⟩:=h
     rw [h1,iY h2,iY h3]
    | _=>simp [gV] at h
   | _=>simp [gV] at h
  | _=>simp [gV] at h
 | .iface t x,b,h=>by
  cases b <;> simp only [gV,Bool.false_eq_true,Bool.and_eq_true,decide_eq_true_eq] at h
  rw [h.1,p6 h.2]
 | .map a,b,h=>by cases b <;> simp_all [gV]
 | .half _ _,b,h=>by cases b <;> simp_all [gV]
 | .rm,b,h=>by cases b <;> simp_all [gV]
 | .any,b,h=>by simp [gV] at h
 | .agg a,b,h=>by
  cases b <;> simp only [gV,Bool.false_eq_true] at h
  rw [iY h]
 | .tuple a,b,h=>by
  cases b <;> simp only [gV,Bool.false_eq_true] at h
  rw [iY h]
theorem iY : ∀ {a b:List AV},mK a b=true→a=b
 | [],[],_=>rfl
 | [],_ :: _,h=>by simp [mK] at h
 | _ :: _,[],h=>by simp [mK] at h
 | a :: x,b :: y,h=>by
  simp only [mK,Bool.and_eq_true] at h
  rw [p6 h.1,iY h.2]
end
/-! ### The order of a region -/
def cK:Op→Bool
 | .load .. | .slice .. | .convert ..=>true
 | .call ⟨.builtin b,_,_⟩=>match b with | .len | .cap | .min | .max=>true | _=>false
 | o=>ox o
def QS:AV→Bool
 | .int _ _=>true
 | .str _=>true
 | _=>false
def qR (op:Op) (v:AV):Bool :=
 match op with
 | .convert ..=>QS v
 | _=>true
theorem Bx {P:Program} {H H' : AH} {s d:TypeId} {x v:AV} (h:gR P H s d x=some (v,H')) (hi:QS v=true):H'=H:=by
 unfold gR at h
 split at h
 ·cases h;rfl
 ·cases h;rfl
 ·cases h;rfl
 ·split at h
  ·split at h
   ·cases h;cases hi
   ·cases h
  ·cases h
 ·split at h
  ·split at h
   ·cases h;rfl
   ·cases h
  ·cases h
 ·split at h
  ·split at h
   ·cases h;rfl
   ·cases h
  ·cases h
 ·split at h
  ·cases h;rfl
  ·cases h
 ·split at h
  ·obtain ⟨z,hz,h⟩:=Option.bind_eq_some_iff.1 h
   obtain ⟨y,hy,h⟩:=Option.map_eq_some_iff.1 h
   cases h;rfl
  ·cases h
 ·split at h
  ·split at h
   ·cases h;cases hi
   ·cases h
  ·cases h
 ·cases h
theorem kJ {P:Program} {o:Oper} {T:List AV} {H H' : AH} {v:AV} (hf:cK o.op=true) (h:p9 P T H o=some (v,H')) (hi:qR o.op v=true):H'=H:=by
 obtain ⟨dst,op,ty,pos,after,guard⟩:=o
 have key : ∀ {x:Option AV},x.map (·,H)=some (v,H')→H'=H:=fun h=>by
  obtain ⟨z,hz,h⟩:=Option.map_eq_some_iff.1 h
  exact (congrArg Prod.snd h).symm
 cases op <;> simp only [cK,ox,Bool.false_eq_true] at hf <;> simp only [p9] at h
 case move=>exact key h
 case assign=>exact key h
 case pick =>
  obtain ⟨z,hz,h⟩:=Option.bind_eq_some_iff.1 h
  split at h
  ·exact key h
  ·exact key h
  ·cases h
 case build=>obtain ⟨z,hz,h⟩:=Option.bind_eq_some_iff.1 h;exact key h
 case load=>obtain ⟨z,hz,h⟩:=Option.bind_eq_some_iff.1 h;exact key h
 case nilCheck =>
  obtain ⟨z,hz,h⟩:=Option.bind_eq_some_iff.1 h
  split at h
  ·simp only [Option.some.injEq,Prod.mk.injEq] at h;exact h.2.symm
  ·cases h
 case binOp=>obtain ⟨z,hz,h⟩:=Option.bind_eq_some_iff.1 h;obtain ⟨z',iE,h⟩:=Option.bind_eq_some_iff.1 h;exact key h
 case convert=>obtain ⟨z,hz,h⟩:=Option.bind_eq_some_iff.1 h;exact Bx h hi
 case unOp=>obtain ⟨z,hz,h⟩:=Option.bind_eq_some_iff.1 h;exact key h
 case makeInterface =>
  obtain ⟨z,hz,h⟩:=Option.bind_eq_some_iff.1 h
  split at h
  ·cases h
  ·simp only [Option.some.injEq,Prod.mk.injEq] at h;exact h.2.symm
  ·cases h
 case makeFunc =>
  obtain ⟨z,hz,h⟩:=Option.bind_eq_some_iff.1 h;obtain ⟨z',iE,h⟩:=Option.bind_eq_some_iff.1 h
  simp only [Option.some.injEq,Prod.mk.injEq] at h;exact h.2.symm
 case slice =>
  obtain ⟨z,hz,h⟩:=Option.bind_eq_some_iff.1 h;obtain ⟨z',iE,h⟩:=Option.bind_eq_some_iff.1 h
  obtain ⟨z2,ju,h⟩:=Option.bind_eq_some_iff.1 h;obtain ⟨z3,m7,h⟩:=Option.bind_eq_some_iff.1 h;exact key h
 case fieldAddr=>obtain ⟨z,hz,h⟩:=Option.bind_eq_some_iff.1 h;exact key h
 case field=>obtain ⟨z,hz,h⟩:=Option.bind_eq_some_iff.1 h;exact key h
 case indexAddr=>obtain ⟨z,hz,h⟩:=Option.bind_eq_some_iff.1 h;obtain ⟨z',iE,h⟩:=Option.bind_eq_some_iff.1 h;exact key h
 case index=>obtain ⟨z,hz,h⟩:=Option.bind_eq_some_iff.1 h;obtain ⟨z',iE,h⟩:=Option.bind_eq_some_iff.1 h;exact key h
 case typeAssert=>obtain ⟨z,hz,h⟩:=Option.bind_eq_some_iff.1 h;exact key h
 case extract =>
  obtain ⟨z,hz,h⟩:=Option.bind_eq_some_iff.1 h
  split at h
  ·exact key h
  ·cases h
 case call c =>
  obtain ⟨callee,args,ts⟩:=c
  cases callee with
  | value f=>simp at hf
  | invoke x m=>simp at hf
  | builtin b =>
   simp only at h
   obtain ⟨l,hl,h⟩:=Option.bind_eq_some_iff.1 h
   cases b <;> simp only [Bool.false_eq_true] at hf <;> unfold iX at h <;> split at h <;> first | contradiction | (exact key h) | (cases h)
def Pc (c:Bool):Op→Bool
 | .convert ..=>c
 | o=>cK o
def KW (c:Bool) (ops:Array Oper) (ready:List Nat):Option (Nat×Nat) :=
 match ready.find? fun i=>match ops[i]? with | some o=>Pc c o.op | none=>false with
 | some i=>some (i,match ops[i]? with | some o=>if ox o.op then 0 else 1 | none=>2)
 | none=>match ready with
  | i :: _=>some (i,2)
  | []=>none
def sU (c:Bool) (ops:Array Oper):Nat→Array Bool→List (Nat×Nat)
 | 0,_=>[]
 | n+1,listed =>
  match KW c ops (Region.ready .any ops listed) with
  | some (i,k)=>(i,k) :: sU c ops n (listed.setIfInBounds i true)
  | none=>[]
def th (ops:Array Oper):List (Nat×Nat)→List Nat→List Nat
 | [],A=>A
 | (i,_) :: σ,A =>
  match ops[i]? with
  | some o=>th ops σ (A.set i (o.after.toList.foldl (fun m e=>if Region.binds .any e then m ||| ((1 <<< e.on) ||| (A[e.on]?.getD 0)) else m) 0))
  | none=>th ops σ A
def uV (c:Bool) (ops:Array Oper):Option (List (Nat×Nat)×List Nat) :=
 let σ:=sU c ops ops.size (Array.replicate ops.size false)
 let A:=th ops σ (List.replicate ops.size 0)
 if jR .any ops σ (Array.replicate ops.size false) && Mr .any ops A && decide (σ.length=ops.size) && σ.all (fun p=>p.2 == 2 || match ops[p.1]? with | some o=>cK o.op | none=>false) then some (σ,A) else none
def oA (ops:Array Oper):Option (List (Nat×Nat)×List Nat) :=
 match uV false ops with
 | some x=>some x
 | none=>uV true ops
theorem xl {ops:Array Oper} {x:List (Nat×Nat)×List Nat} (h:oA ops=some x) : ∃c,uV c ops=some x:=by
 unfold oA at h
 split at h
 ·rename_i y hy;cases h;exact ⟨_,hy⟩
 ·exact ⟨_,h⟩
/-! ### Regions in which allocations float -/
def QO (P:Program) (i:Nat):Oper→Option oH
 | ⟨some d,.alloc e,_,_,after,none⟩=>if after.all (fun e=>!Region.binds .any e) && (match zeroOf P e with | some z=>z.cells.all AV.one | none=>false) then some ⟨i,d,e⟩ else none
 | _=>none
def uP (P:Program) (ops:Array Oper):List oH:=(List.range ops.size).filterMap fun i=>(ops[i]?).bind (QO P i)
def yB (ops:Array Oper) (n:Nat):Bool:=(List.range ops.size).all fun i=>decide (i<n) || match ops[i]? with
 | some o=>(List.range n).all fun j=>o.after.any fun e=>Region.binds .any e && e.on == j
 | none=>true
def xB (ops:Array Oper) (n:Nat) (cC:List oH):Bool:=(List.range n).all fun i=>GJ cC i || match ops[i]? with
 | some o=>o.after.all (fun e=>!Region.binds .any e || decide (e.on<i)) && (match o.guard with | some g=>decide (g.1<n) | none=>true) && cC.all fun q=>decide (o.dst ≠ some q.d)
 | none=>true
def Jm (ops:Array Oper) (n:Nat) (cC:List oH):Bool :=
 decide (n≤ops.size) && cC.all (fun q=>decide (q.i<n)) && cC.all (fun q=>cC.all fun q'=>decide (q=q') || (decide (q.i ≠ q'.i) && decide (q.d ≠ q'.d))) && decide cC.Nodup && xB ops n cC && yB ops n
theorem F8 {P:Program} {ops:Array Oper} {q:oH} (h:q ∈ uP P ops):q.Ok P .any ops:=by
 obtain ⟨i,hi,h⟩:=List.mem_filterMap.1 h
 obtain ⟨o,ho,h⟩:=Option.bind_eq_some_iff.1 h
 obtain ⟨dst,op,ty,pos,after,guard⟩:=o
 unfold QO at h
 split at h
 ·rename_i d e ty pos after heq
  cases heq
  simp only [Option.ite_none_right_eq_some,Option.some.injEq,Bool.and_eq_true] at h
  obtain ⟨⟨h1,h2⟩,rfl⟩:=h
  cases hz:zeroOf P e with
  | none=>rw [hz] at h2;cases h2
  | some z =>
   rw [hz] at h2
   refine ⟨ty,pos,after,z,ho,fun e he=>?_,hz,h2⟩
   have:=Array.all_eq_true_iff_forall_mem.1 h1 e he
   simpa using this
 ·cases h
theorem Df {P:Program} {ops:Array Oper} {n:Nat} (h:Jm ops n (uP P ops)=true):qZ P .any ops n (uP P ops):=by
 simp only [Jm,Bool.and_eq_true,decide_eq_true_eq] at h
 obtain ⟨⟨⟨⟨⟨h1,h2⟩,h3⟩,h4⟩,h5⟩,h6⟩:=h
 refine ⟨h1,fun q hq=>⟨by simpa using List.all_eq_true.1 h2 q hq,F8 hq⟩,fun q hq q' uH=>?_,h4,fun i hi hf o ho=>?_,fun i hi o ho j hj=>?_⟩
 ·have:=List.all_eq_true.1 (List.all_eq_true.1 h3 q hq) q' uH
  simpa using this
 ·have:=List.all_eq_true.1 h5 i (List.mem_range.2 hi)
  simp only [hf,ho,Bool.false_or,Bool.and_eq_true] at this
  obtain ⟨⟨k1,k2⟩,k3⟩:=this
  refine ⟨fun e he hb=>?_,fun g hg=>?_,fun q hq=>?_⟩
  ·have:=Array.all_eq_true_iff_forall_mem.1 k1 e he
   simpa [hb] using this
  ·rw [hg] at k2;simpa using k2
  ·simpa using List.all_eq_true.1 k3 q hq
 ·have cu:i<ops.size:=(Array.getElem?_eq_some_iff.1 ho).1
  have:=List.all_eq_true.1 h6 i (List.mem_range.2 cu)
  have hn : ¬ i<n:=by omega
  simp only [ho,hn,decide_false,Bool.false_or] at this
  have:=List.all_eq_true.1 this j (List.mem_range.2 hj)
  obtain ⟨e,he,hb⟩:=Array.any_eq_true'.1 this
  simp only [Bool.and_eq_true,beq_iff_eq] at hb
  exact ⟨e,he,hb.1,hb.2⟩
structure si where
 n:Nat
 cC:List oH
 front:List (Nat×Nat)
 back:List (Nat×Nat)
 A:List Nat
def CD (ops:Array Oper) (σ:List (Nat×Nat)):Bool:=σ.all fun p=>p.2 == 2 || match ops[p.1]? with | some o=>cK o.op | none=>false
def DQ (ops:Array Oper) (p:si):Bool :=
 Jm ops p.n p.cC && Mr .any (ops.extract 0 p.n) p.A && Mr .any ops p.A && jR .any (ops.extract 0 p.n) p.front (vJ p.n p.cC) && jR .any ops p.back (ef ops.size p.n) &&
  p.cC.all (fun q=>p.A[q.i]?.getD 0 == 0) && (List.range p.n).all (fun j=>decide (p.A[j]?.getD 0<2 ^ p.n)) && decide (p.back.length=ops.size - p.n) && CD (ops.extract 0 p.n) p.front && CD ops p.back
def yp (c:Bool) (ops:Array Oper) (n:Nat) (cC:List oH):si :=
 ⟨n,cC,sU c (ops.extract 0 n) n (vJ n cC),sU c ops ops.size (ef ops.size n),th ops ((List.range ops.size).map fun i=>(i,0)) (List.replicate ops.size 0)⟩
def ql (P:Program) (ops:Array Oper):Option si :=
 match uP P ops with
 | []=>none
 | q :: l=>((List.range ops.size).find? fun n=>(q :: l).all (fun q=>decide (q.i<n)) && yB ops n).bind fun n =>
  if DQ ops (yp false ops n (q :: l)) then some (yp false ops n (q :: l)) else if DQ ops (yp true ops n (q :: l)) then some (yp true ops n (q :: l)) else none
theorem AA {P:Program} {ops:Array Oper} {p:si} (h:ql P ops=some p):p.cC=uP P ops∧DQ ops p=true:=by
 unfold ql at h
 split at h
 ·cases h
 ·rename_i q l hf
  obtain ⟨n,hn,h⟩:=Option.bind_eq_some_iff.1 h
  split at h
  ·rename_i hp;cases h;exact ⟨hf.symm,hp⟩
  ·split at h
   ·rename_i hp;cases h;exact ⟨hf.symm,hp⟩
   ·cases h
theorem Gl {A:List Nat} {n:Nat} {cC:List oH} (h:cC.all (fun q=>A[q.i]?.getD 0 == 0)=true):Closed (eY A) (vJ n cC):=by
 intro j i hj ha
 exfalso
 have cu:j<n:=by
  rcases Nat.lt_or_ge j n with h' | h'
  ·exact h'
  ·simp [vJ,Array.getD_eq_getD_getElem?,h'] at hj
 rw [wQ _ _ _ _ cu] at hj
 obtain ⟨q,hq,rfl⟩:=uv.1 hj
 have:=List.all_eq_true.1 h q hq
 simp only [beq_iff_eq] at this
 unfold eY at ha
 rw [this] at ha;simp at ha
theorem Bz {A:List Nat} {s n:Nat} (hn:n≤s) (h:(List.range n).all (fun j=>decide (A[j]?.getD 0<2 ^ n))=true):Closed (eY A) (ef s n):=by
 intro j i hj ha
 have cu:j<n:=by
  rcases Nat.lt_or_ge j n with h' | h'
  ·exact h'
  ·rcases Nat.lt_or_ge j s with h2 | h2
   ·rw [mI _ _ _ _ h2] at hj;simp at hj;omega
   ·simp [ef,Array.getD_eq_getD_getElem?,h2] at hj
 have:=List.all_eq_true.1 h j (List.mem_range.2 cu)
 simp only [decide_eq_true_eq] at this
 have hi:i<n:=by
  rcases Nat.lt_or_ge i n with h' | h'
  ·exact h'
  ·exfalso
   unfold eY at ha
   rw [Nat.testBit_lt_two_pow (Nat.lt_of_lt_of_le this (Nat.pow_le_pow_right (by omega) h'))] at ha
   cases ha
 rw [mI _ _ _ _ (by omega)];simpa using hi
def Tr.Gw {α:Type} (p:Nat→α→Bool):Tr α→Nat→Nat→Bool
 | .nil,_,_=>true
 | .node l v r,a,b=>(match v with | some x=>p b x | none=>true) && (l.Gw p (2*a) (a+b) && r.Gw p (2*a) (2*a+b))
theorem Tr.qW {α:Type} {p:Nat→α→Bool} : ∀ {t:Tr α} {a b j:Nat} {v:α},t.Gw p a b=true→t.get j=some v→p (a*j+b) v=true
 | .nil,_,_,_,_,_,h=>by simp [Tr.get] at h
 | .node l u r,a,b,j,v,h,hj=>by
  simp only [Tr.Gw,Bool.and_eq_true] at h
  cases j with
  | zero=>simp only [Tr.get] at hj;rw [hj] at h;simpa using h.1
  | succ k =>
   simp only [Tr.get] at hj
   split at hj
   ·rename_i hk
    have:=Tr.qW h.2.1 hj
    have e:2*a*(k / 2)+(a+b)=a*(k+1)+b:=by
     have:a*k=2*a*(k / 2):=by
      have F2:k=2*(k / 2):=by omega
      calc a*k=a*(2*(k / 2)):=by rw [← F2]
       _=2*a*(k / 2):=by rw [← Nat.mul_assoc,Nat.mul_comm a 2]
     rw [Nat.mul_add,this];omega
    rwa [e] at this
   ·rename_i hk
    have:=Tr.qW h.2.2 hj
    have e:2*a*(k / 2)+(2*a+b)=a*(k+1)+b:=by
     have:a*(k+1)=2*a*(k / 2)+2*a:=by
      have F2:k+1=2*(k / 2)+2:=by omega
      rw [F2,Nat.mul_add,← Nat.mul_assoc,Nat.mul_comm a 2]
     rw [this];omega
    rwa [e] at this
def Iz (H₀ H:AH):Bool:=H.t.Gw (fun b o=>o.owns || (!o.live || (match H₀.get b with | some o₀=>o₀.live | none=>false))) 1 0
theorem CU {H₀ H:AH} (h:Iz H₀ H=true):Dz H₀ H:=by
 intro b o hb
 have:=Tr.qW (show H.t.Gw _ 1 0=true from h) hb
 simp only [Nat.one_mul,Nat.add_zero,Bool.or_eq_true,Bool.not_eq_true'] at this
 refine this.imp id (Or.imp id fun h=>?_)
 cases ho:H₀.get b with
 | none=>rw [ho] at h;cases h
 | some o₀=>rw [ho] at h;exact ⟨o₀,rfl,h⟩
/-! ### The run -/
section run
variable (P:Program)
abbrev Ext:=FuncId→List AV→AH→Option (AV×AH)
def qJ (g:FuncId):Bool :=
 match P.funcs[g]? with
 | some fn=>fn.body.isSome && !(fn.name == "runtime.NumGoroutine")
 | none=>false
abbrev Rec:=Option Nat→Code→St→Option (dy×St)
def Bt (fn:Func) (c:Code):Option (Code×Array Oper×Oper×Code) :=
 match fn.results.toList with
 | .cell _ _ :: _ =>
  match c with
  | .seq A (.seq (.region _ ops false) rest) =>
   match ops.toList.getLast? with
   | some o =>
    match o.op with
    | .defer _=>some (A,ops,o,rest)
    | _=>none
   | none=>none
  | _=>none
 | _=>none
abbrev NH:=Code→List AV→AH→Option St
def Kb (rec:Rec):NH:=fun c T H =>
 match rec none c ⟨T,[],H⟩ with
 | some (.normal,s)=>some s
 | some (.ret,s)=>some s
 | _=>none
def goN (rec:Rec):NH:=fun c T H =>
 match rec none c ⟨T,[],H⟩ with
 | some (.normal,s)=>some s
 | _=>none
def O8 (go:NH) (g:FuncId) (args:List AV) (H:AH):Option AH :=
 match P.funcs[g]? with
 | some fn =>
  match fn.body with
  | some (.seq (.region _ ops false) rest) =>
   (su P ops true ops.toList (args ++ List.replicate (fn.ntmps - args.length) .undef) H).bind fun p=>(go rest p.1 p.2).bind fun s =>
    match s.M with
    | []=>(dG P s.T s.H fn.results.toList).map fun _=>s.H
    | _=>none
  | _=>none
 | none=>none
def zu (goA go:NH) (fn:Func) (A:Code) (ops:Array Oper) (o:Oper) (rest:Code) (args:List AV) (H:AH):Option (AV×AH) :=
 match o with
 | ⟨dst,.defer ⟨.value fo,xs,_⟩,_,_,_,none⟩ =>
  (goA A (args ++ List.replicate (fn.ntmps - args.length) .undef) H).bind fun s0=>(match s0.M with | []=>some s0 | _=>none).bind fun s0=>(su P ops false ops.toList.dropLast s0.T s0.H).bind fun p=>(ev P p.1 fo).bind fun fv=>(qd P p.1 xs.toList).bind fun vs =>
   match fv with
   | .func (.func g) x y =>
    if qJ P g then (go rest (aV p.1 dst .undef) p.2).bind fun s=>(bR s.M s.H).bind fun H2=>(O8 P go g (x ++ vs ++ y) H2).bind fun H3=>(dG P s.T H3 fn.results.toList).map fun us=>(oneOf us,H3)
    else none
   | _=>none
 | _=>none
def pY (ops:Array Oper):Option Oper :=
 match ops.toList.getLast? with
 | some ⟨d,.defer c,t,p,a,none⟩=>some ⟨d,.defer c,t,p,a,none⟩
 | _=>none
def O9 (go:NH) (g:FuncId) (args:List AV) (H:AH):Option AH :=
 match P.funcs[g]? with
 | some fn =>
  match fn.body with
  | some c=>(go c (args ++ List.replicate (fn.ntmps - args.length) .undef) H).bind fun s =>
   match s.M with
   | []=>(dG P s.T s.H fn.results.toList).map fun _=>s.H
   | _=>none
  | none=>none
 | none=>none
def kS (go:NH):List Mk→AH→Option AH
 | [],H=>some H
 | .mark m :: ms,H =>
  match H.get m with
  | some .deferred=>kS go ms (H.set m .dead)
  | _=>none
 | .call g a y :: ms,H=>if qJ P g then (O9 P go g (a ++ y) H).bind fun H1=>kS go ms H1 else none
def jQ (X:Ext) (rec:Rec) (f:FuncId) (args:List AV) (H:AH):Option (AV×AH) :=
 match P.funcs[f]? with
 | some fn =>
  match fn.body with
  | some c =>
   if qJ P f then
    match Bt fn c with
    | some (A,ops,o,rest)=>zu P (goN rec) (Kb rec) fn A ops o rest args H
    | none =>
     match rec none c ⟨args ++ List.replicate (fn.ntmps - args.length) .undef,[],H⟩ with
     | some (.normal,s) | some (.ret,s)=>(kS P (Kb rec) s.M s.H).bind fun H'=>(dG P s.T H' fn.results.toList).map fun vs=>(oneOf vs,H')
     | _=>none
   else none
  | none=>X f args H
 | none=>none
def u7 (X:Ext) (rec:Rec) (f:FuncId) (args:List AV) (H:AH):Option (AV×AH) :=
 match X f args H with
 | some r=>some r
 | none=>jQ P X rec f args H
def nc (b:Nat):dy→St→Option (AV×AH):=fun e s =>
 match s.H.get b with
 | some (.loop _ _ T' ps as bd d) =>
  match e with
  | .normal=>some (.bool true,s.H.set b (.loop .ready none T' ps as bd d))
  | .ret=>some (.bool false,s.H.set b (.loop .done (some .ret) T' ps as bd d))
  | .exit id=>some (.bool false,s.H.set b (.loop .done (some (.exit id)) T' ps as bd d))
  | .goto l=>some (.bool false,s.H.set b (.loop .done (some (.goto l)) T' ps as bd d))
 | _=>none
def xJ (rec:Rec) (b:Nat) (vs:List AV) (H:AH):Option (AV×AH) :=
 match H.get b with
 | some (.loop _ _ T' ps as bd _) =>
  if vs.length=ps.size then
   match rec (some b) as ⟨iK ps.toList vs T',[],H⟩ with
   | some (.normal,s) =>
    match s.H.get b with
    | some (.loop .ready pe T₁ jl jA jz d₁)=>(rec (some b) bd ⟨s.T,s.M,s.H.set b (.loop .busy pe T₁ jl jA jz d₁)⟩).bind fun (e,s)=>nc b e s
    | _=>none
   | _=>none
  else none
 | _=>none
def Pw (X:Ext) (rec:Rec) (o:Oper) (T:List AV) (H:AH):Option (AV×AH) :=
 match o.op with
 | .call ⟨.value f,xs,_⟩=>(ev P T f).bind fun fv=>(qd P T xs.toList).bind fun vs =>
  match fv with
  | .func (.func g) x y=>u7 P X rec g (x ++ vs ++ y) H
  | .cY b=>xJ rec b vs H
  | .func f x _=>(vh P f x).bind fun q=>u7 P X rec q.1 (q.2 :: vs) H
  | _=>none
 | .call ⟨.invoke f name,xs,_⟩=>(ev P T f).bind fun fv=>(qd P T xs.toList).bind fun vs =>
  match fv with
  | .iface t u=>(l7 P t name).bind fun g=>u7 P X rec g (u :: vs) H
  | _=>none
 | _=>p9 P T H o
def qn (X:Ext) (rec:Rec) (ops:Array Oper):List Oper→List AV→AH→Option (List AV×AH)
 | [],T,H=>some (T,H)
 | o :: l,T,H =>
  match aT ops T o with
  | some true=>(Pw P X rec o T H).bind fun (v,H')=>qn X rec ops l (aV T o.dst v) H'
  | some false=>qn X rec ops l (aV T o.dst .undef) H
  | none=>none
def wD (o:Oper) (M:List Mk) (T:List AV) (H:AH):Option St :=
 match o with
 | ⟨dst,.defer ⟨.value fo,xs,_⟩,_,_,_,none⟩=>(ev P T fo).bind fun fv=>(qd P T xs.toList).bind fun vs =>
  match fv with
  | .func (.func g) x y=>some ⟨aV T dst .undef,.call g (x ++ vs) y :: M,H⟩
  | _=>none
 | _=>none
def wF (ops:Array Oper) (A:List Nat) (i:Nat) (H:AH):qY→Bool
 | []=>true
 | (j,o,T,v) :: aZ=>(eY A i j || match aT ops T o with
   | some true=>(match p9 P T H o with | some (u,_)=>gV u v && qR o.op u | none=>false)
   | some false=>true
   | none=>false) && wF ops A i H aZ
def kq (X:Ext) (rec:Rec) (ops:Array Oper) (A:List Nat):List (Nat×Nat)→qY→List AV→AH→Option (List AV×AH)
 | [],_,T,H=>some (T,H)
 | (i,k) :: σ,aZ,T,H =>
  match ops[i]? with
  | none=>none
  | some o =>
   match aT ops T o with
   | none=>none
   | some false=>kq X rec ops A σ (if k=2∨k=0 then aZ else (i,o,T,.undef) :: aZ) (aV T o.dst .undef) H
   | some true =>
    if k=2 then (Pw P X rec o T H).bind fun (v,H')=>if wF P ops A i H' aZ then kq X rec ops A σ aZ (aV T o.dst v) H' else none
    else (p9 P T H o).bind fun (v,_)=>if qR o.op v then kq X rec ops A σ (if k=0 then aZ else (i,o,T,v) :: aZ) (aV T o.dst v) H else none
def qL (X:Ext) (rec:Rec) (ops:Array Oper) (p:si) (T:List AV) (H:AH):Option (List AV×AH) :=
 (kq P X rec (ops.extract 0 p.n) p.A p.front [] (sK p.cC T) H).bind fun u=>if Iz H u.2 then kq P X rec ops p.A p.back [] (j8 P p.cC u.1 u.2).1 (j8 P p.cC u.1 u.2).2 else none
def jI (rec:Rec) (r:Option Nat) (c:Code):Nat→Code→St→Option (dy×St)
 | 0,_,_=>none
 | m+1,cur,s =>
  match rec r cur s with
  | some (.goto l,s') =>
   match findLabel c l with
   | some rest=>jI rec r c m rest s'
   | none=>some (.goto l,s')
  | x=>x
def rM (rec:Rec) (r:Option Nat) (c:Code):Nat→St→Option (dy×St)
 | 0,_=>none
 | m+1,s =>
  match rec r c s with
  | some (.normal,s')=>rM rec r c m s'
  | x=>x
def CX:LoopState→Bool
 | .busy=>true
 | _=>false
def iH (rec:Rec) (r:Option Nat) (l:Nat) (T:List AV) (M:List Mk) (H:AH):Option (dy×St) :=
 match H.get l with
 | some (.loop st pe _ _ _ _ _) =>
  if CX st then none
  else match pe with
   | none=>some (.normal,⟨T,M,H.set l .dead⟩)
   | some c=>rec r c ⟨T,M,H.set l .dead⟩
 | _=>none
def tU (X:Ext) (rec:Rec) (r:Option Nat) (g:Operand) (ps:Array Tmp) (as bd:Code) (s:St):Option (dy×St) :=
 (ev P s.T g).bind fun gv =>
  match gv,r with
  | .func (.func gf) x y,none =>
   if qJ P gf then (jQ P X rec gf (x ++ [.cY (s.H.n+1)] ++ y) ((s.H.alloc .deferred).alloc (.loop .ready none s.T ps as bd s.H.n))).bind fun (_,H)=>iH rec none (s.H.n+1) s.T (.mark s.H.n :: s.M) H else none
  | .func (.func gf) x y,some b₀ =>
   match s.H.get b₀ with
   | some (.loop _ _ _ _ _ _ d₀) =>
    if qJ P gf then (jQ P X rec gf (x ++ [.cY s.H.n] ++ y) (s.H.alloc (.loop .ready none s.T ps as bd d₀))).bind fun (_,H)=>iH rec (some b₀) s.H.n s.T s.M H else none
   | _=>none
  | _,_=>none
def iT (id:Nat):dy→dy
 | .exit i=>if i=id then .normal else .exit i
 | e=>e
def run (X:Ext):Nat→Rec
 | 0=>fun _ _ _=>none
 | n+1=>fun r c s =>
  match c with
  | .skip=>some (.normal,s)
  | .label _=>some (.normal,s)
  | .exit id=>some (.exit id,s)
  | .goto l=>some (.goto l,s)
  | .ret=>some (.ret,s)
  | .refuse _=>none
  | .seq a b =>
   match run X n r a s with
   | some (.normal,s')=>run X n r b s'
   | x=>x
  | .cond c x y =>
   match ev P s.T c with
   | some (.bool true)=>run X n r x s
   | some (.bool false)=>run X n r y s
   | _=>none
  | .block id c=>(run X n r c s).map fun (e,s')=>(iT id e,s')
  | .loop c=>rM (run X n) r c n s
  | .scope c=>jI (run X n) r c n c s
  | .region _ ops false =>
   match pY ops,r with
   | none,_=>(qn P X (run X n) ops ops.toList s.T s.H).map fun (T,H)=>(.normal,⟨T,s.M,H⟩)
   | some o,none=>(qn P X (run X n) ops ops.toList.dropLast s.T s.H).bind fun p=>(wD P o s.M p.1 p.2).map fun s=>(.normal,s)
   | some _,some _=>none
  | .region _ ops true =>
   match oA ops with
   | some (σ,A)=>(kq P X (run X n) ops A σ [] s.T s.H).map fun (T,H)=>(.normal,⟨T,s.M,H⟩)
   | none=>(ql P ops).bind fun p=>(qL P X (run X n) ops p s.T s.H).map fun u=>(.normal,⟨u.1,s.M,u.2⟩)
  | .rangeFunc g ps as bd=>tU P X (run X n) r g ps as bd s
def DL (X:Ext) (n:Nat) (f:FuncId) (args:List AV) (H:AH):Option (AV×AH):=jQ P X (run P X n) f args H
end run
end Go.Am
end
/- The abstract machine's own run is sound. -/
section
namespace Go.Am
open Go.RowKit
section
variable {P:Program} {X:Ext} {rec:Rec}
def fT (P:Program) (rec:Rec):Prop:=∀r c s e s',rec r c s=some (e,s')→bK P r c (fun e' sR=>e'=e∧sR=s') s
def jF (P:Program) (X:Ext):Prop:=∀g vs H v H',X g vs H=some (v,H')→aD P g vs H (fun v' nU=>v'=v∧nU=H')
theorem aB {g:FuncId} (h:qJ P g=true):Goes P g:=by
 intro args w
 unfold qJ at h
 cases hf:P.funcs[g]? with
 | none=>rw [hf] at h;cases h
 | some fn =>
  rw [hf] at h
  simp only [Bool.and_eq_true,Bool.not_eq_true'] at h
  obtain ⟨h1,h2⟩:=h
  have h2' : fn.name ≠ "runtime.NumGoroutine":=by simpa using h2
  have h3:fn.body ≠ none:=by intro e;rw [e] at h1;cases h1
  simp [callFunc,hf,h2',h3]
theorem qH (hr:fT P rec) {c:Code} {T:List AV} {H:AH} {s:St} {K:St→Prop} (h:Kb rec c T H=some s) (k:K s):bK P none c (fun e s=>(e=.normal∨e=.ret)∧K s) ⟨T,[],H⟩:=by
 unfold Kb at h
 split at h
 ·rename_i s' hs
  cases h
  refine (hr _ _ _ _ _ hs).mono ?_
  rintro e sR ⟨rfl,rfl⟩
  exact ⟨.inl rfl,k⟩
 ·rename_i s' hs
  cases h
  refine (hr _ _ _ _ _ hs).mono ?_
  rintro e sR ⟨rfl,rfl⟩
  exact ⟨.inr rfl,k⟩
 ·cases h
theorem F7 (hr:fT P rec) {c:Code} {T:List AV} {H:AH} {s:St} {K:St→Prop} (h:goN rec c T H=some s) (k:K s):bK P none c (fun e s=>e=.normal∧K s) ⟨T,[],H⟩:=by
 unfold goN at h
 split at h
 ·rename_i s' hs
  cases h
  refine (hr _ _ _ _ _ hs).mono ?_
  rintro e sR ⟨rfl,rfl⟩
  exact ⟨rfl,k⟩
 ·cases h
theorem Dp (hr:fT P rec) {g:FuncId} {args:List AV} {H H' : AH} {K:AH→Prop} (h:O8 P (Kb rec) g args H=some H') (k:K H'):vp P g args H K:=by
 unfold O8 at h
 split at h
 ·rename_i fn hf
  split at h
  ·rename_i id ops rest hb
   obtain ⟨⟨T1,H1⟩,h1,h⟩:=Option.bind_eq_some_iff.1 h
   obtain ⟨s,h2,h⟩:=Option.bind_eq_some_iff.1 h
   split at h
   ·rename_i hm
    obtain ⟨us,h3,rfl⟩:=Option.map_eq_some_iff.1 h
    exact vp.Oa hf hb h1 (qH (K:=fun s=>s.M=[]∧(∃us,dG P s.T s.H fn.results.toList=some us)∧K s.H) hr h2 ⟨hm,⟨us,h3⟩,k⟩)
   ·cases h
  ·cases h
 ·cases h
theorem Dq (hr:fT P rec) {g:FuncId} {args:List AV} {H H' : AH} {K:AH→Prop} (h:O9 P (Kb rec) g args H=some H') (k:K H'):vp P g args H K:=by
 unfold O9 at h
 split at h
 ·rename_i fn hf
  split at h
  ·rename_i c hb
   obtain ⟨s,h2,h⟩:=Option.bind_eq_some_iff.1 h
   split at h
   ·rename_i hm
    obtain ⟨us,h3,rfl⟩:=Option.map_eq_some_iff.1 h
    exact vp.body hf hb (qH (K:=fun s=>s.M=[]∧(∃us,dG P s.T s.H fn.results.toList=some us)∧K s.H) hr h2 ⟨hm,⟨us,h3⟩,k⟩)
   ·cases h
  ·cases h
 ·cases h
theorem kR (hr:fT P rec) {K:AH→Prop} : ∀ {M:List Mk} {H H' : AH},kS P (Kb rec) M H=some H'→K H'→Leave P M H K
 | [],H,H',h,k=>by simp only [kS,Option.some.injEq] at h;subst h;exact k
 | .mark m :: M,H,H',h,k=>by
  simp only [kS] at h
  split at h
  ·rename_i hg;exact ⟨hg,kR hr h k⟩
  ·cases h
 | .call g a y :: M,H,H',h,k=>by
  simp only [kS] at h
  split at h
  ·rename_i ia
   obtain ⟨H1,h1,h⟩:=Option.bind_eq_some_iff.1 h
   exact ⟨aB ia,Dq hr h1 (kR hr h k)⟩
  ·cases h
theorem zn (hr:fT P rec) {f:FuncId} {fn:Func} {c A rest:Code} {ops:Array Oper} {o:Oper} {args:List AV} {H:AH} {v:AV} {H' : AH} (hf:P.funcs[f]? = some fn) (hb:fn.body=some c)
  (hd:Bt fn c=some (A,ops,o,rest)) (h:zu P (goN rec) (Kb rec) fn A ops o rest args H=some (v,H')):bL P f args H (fun v' nU=>v'=v∧nU=H'):=by
 unfold Bt at hd
 split at hd
 ·split at hd
  ·rename_i A' id Zb Ar
   split at hd
   ·rename_i o' wW
    split at hd
    ·simp only [Option.some.injEq,Prod.mk.injEq] at hd
     obtain ⟨rfl,rfl,rfl,rfl⟩:=hd
     unfold zu at h
     split at h
     ·rename_i dst fo xs ts ty pos after _
      obtain ⟨Y1,VW,h⟩:=Option.bind_eq_some_iff.1 h
      obtain ⟨s0,h0,h⟩:=Option.bind_eq_some_iff.1 h
      have M9:s0.M=[]∧Y1=s0:=by
       split at h0
       ·cases h0;exact ⟨by assumption,rfl⟩
       ·cases h0
      obtain ⟨M9,rfl⟩:=M9
      obtain ⟨⟨T1,H1⟩,h1,h⟩:=Option.bind_eq_some_iff.1 h
      obtain ⟨fv,h2,h⟩:=Option.bind_eq_some_iff.1 h
      obtain ⟨vs,h3,h⟩:=Option.bind_eq_some_iff.1 h
      split at h
      ·rename_i g x y _
       split at h
       ·rename_i ia
        obtain ⟨s,h4,h⟩:=Option.bind_eq_some_iff.1 h
        obtain ⟨H2,h5,h⟩:=Option.bind_eq_some_iff.1 h
        obtain ⟨H3,h6,h⟩:=Option.bind_eq_some_iff.1 h
        obtain ⟨us,h7,h⟩:=Option.map_eq_some_iff.1 h
        simp only [Prod.mk.injEq] at h
        refine bL.Sx (dst:=dst) (fo:=fo) (xs:=xs) (ts:=ts) (ty:=ty) (pos:=pos) (after:=after) hf hb (by obtain ⟨ys,sC⟩:=List.getLast?_eq_some_iff.1 wW;rw [sC];simp)
         (F7 (K:=fun s=>s.M=[]∧_) hr VW ⟨M9,ua h1 ⟨g,x,y,vs,aB ia,h2,h3,?_⟩⟩)
        exact qH (K:=fun s=>∃H2,bR s.M s.H=some H2∧vp P g (x ++ vs ++ y) H2 fun H3=>∃us,dG P s.T H3 fn.results.toList=some us∧oneOf us=v∧H3=H') hr h4
         ⟨H2,h5,Dp hr h6 ⟨us,h7,h.1,h.2⟩⟩
       ·cases h
      ·cases h
     ·cases h
    ·cases hd
   ·cases hd
  ·cases hd
 ·cases hd
theorem m9 (hr:fT P rec) {f:FuncId} {args:List AV} {H:AH} {v:AV} {H' : AH} (ia:qJ P f=true) (h:jQ P X rec f args H=some (v,H')) :
  bL P f args H (fun v' nU=>v'=v∧nU=H'):=by
 unfold jQ at h
 cases hf:P.funcs[f]? with
 | none=>rw [hf] at h;cases h
 | some fn =>
  rw [hf] at h
  simp only at h
  cases hb:fn.body with
  | none=>unfold qJ at ia;rw [hf] at ia;simp [hb] at ia
  | some c =>
   rw [hb] at h
   simp only [ia,if_true] at h
   split at h
   ·rename_i A ops o rest hd
    exact zn hr hf hb hd h
   refine bL.Sy hf hb ?_
   split at h
   all_goals first | cases h | skip
   all_goals
    rename_i s' hs
    obtain ⟨H₁,h1,h⟩:=Option.bind_eq_some_iff.1 h
    obtain ⟨vs,h2,h'⟩:=Option.map_eq_some_iff.1 h
    simp only [Prod.mk.injEq] at h'
    refine (hr _ _ _ _ _ hs).mono ?_
    rintro e sR ⟨rfl,rfl⟩
    exact ⟨by simp,kR hr h1 ⟨vs,h2,h'.1,h'.2⟩⟩
theorem zi (hr:fT P rec) (hX:jF P X) {f:FuncId} {args:List AV} {H:AH} {v:AV} {H' : AH} (h:jQ P X rec f args H=some (v,H')) :
  aD P f args H (fun v' nU=>v'=v∧nU=H'):=by
 cases ia:qJ P f with
 | true=>exact .inl ⟨aB ia,m9 hr ia h⟩
 | false =>
  unfold jQ at h
  cases hf:P.funcs[f]? with
  | none=>rw [hf] at h;cases h
  | some fn =>
   rw [hf] at h
   simp only at h
   cases hb:fn.body with
   | none=>rw [hb] at h;exact hX _ _ _ _ _ h
   | some c=>rw [hb] at h;simp [ia] at h
theorem mJ (hr:fT P rec) (hX:jF P X) {f:FuncId} {args:List AV} {H:AH} {v:AV} {H' : AH} (h:u7 P X rec f args H=some (v,H')) :
  aD P f args H (fun v' nU=>v'=v∧nU=H'):=by
 unfold u7 at h
 split at h
 ·rename_i r Ef;cases h;exact hX _ _ _ _ _ Ef
 ·exact zi hr hX h
theorem sI {b:Nat} {e:dy} {s:St} {v:AV} {H' : AH} (h:nc b e s=some (v,H')):HJ b (fun v' nU=>v'=v∧nU=H') e s:=by
 unfold nc at h
 split at h
 ·rename_i st pe T' ps as bd d hg
  refine ⟨st,pe,T',ps,as,bd,d,hg,?_⟩
  cases e <;> simp only [Option.some.injEq,Prod.mk.injEq] at h ⊢ <;> exact ⟨h.1,h.2⟩
 ·cases h
theorem wG (hr:fT P rec) (hX:jF P X) {r:Option Nat} {o:Oper} {T:List AV} {H:AH} {v:AV} {H' : AH} (h:Pw P X rec o T H=some (v,H')) :
  jT P r o T H (fun v' nU=>v'=v∧nU=H'):=by
 obtain ⟨dst,op,ty,pos,after,guard⟩:=o
 unfold Pw at h
 split at h
 ·rename_i f xs ts e
  simp only at e
  subst e
  obtain ⟨fv,hf,h⟩:=Option.bind_eq_some_iff.1 h
  obtain ⟨vs,hx,h⟩:=Option.bind_eq_some_iff.1 h
  split at h
  ·exact jT.callee hf hx (mJ hr hX h)
  ·rename_i b
   unfold xJ at h
   split at h
   ·rename_i st pe T' ps as bd d hg
    split at h
    ·rename_i hl
     split at h
     ·rename_i s hs
      split at h
      ·rename_i wE T₁ jl jA jz d₁ RI
       obtain ⟨⟨e,s₂⟩,h2,h⟩:=Option.bind_eq_some_iff.1 h
       refine jT.yield hf hx hg hl ((hr _ _ _ _ _ hs).mono ?_)
       rintro e' s' ⟨rfl,rfl⟩
       refine ⟨wE,T₁,jl,jA,jz,d₁,RI,(hr _ _ _ _ _ h2).mono ?_⟩
       rintro e' s' ⟨rfl,rfl⟩
       exact sI h
      ·cases h
     ·cases h
    ·cases h
   ·cases h
  ·obtain ⟨q,hq,hc⟩:=Option.bind_eq_some_iff.1 h
   obtain ⟨name,t,rfl,rfl,hm⟩:=r5 hq
   exact jT.JF hf hm hx (mJ hr hX hc)
  ·cases h
 ·rename_i f name xs ts e
  simp only at e
  subst e
  obtain ⟨fv,hf,h⟩:=Option.bind_eq_some_iff.1 h
  obtain ⟨vs,hx,h⟩:=Option.bind_eq_some_iff.1 h
  split at h
  ·obtain ⟨g,hg,h⟩:=Option.bind_eq_some_iff.1 h
   exact jT.Ml hf hg hx (mJ hr hX h)
  ·cases h
 ·exact jT.oo h ⟨rfl,rfl⟩
theorem kK (hr:fT P rec) (hX:jF P X) {r:Option Nat} {ops:Array Oper} {K:List AV→AH→Prop} : ∀ {l:List Oper} {T:List AV} {H:AH} {T' : List AV} {H' : AH},qn P X rec ops l T H=some (T',H')→K T' H'→lI P r ops K l T H
 | [],T,H,T',H',h,hk=>by simp only [qn,Option.some.injEq,Prod.mk.injEq] at h;obtain ⟨rfl,rfl⟩:=h;exact hk
 | o :: l,T,H,T',H',h,hk=>by
  simp only [qn] at h
  split at h
  ·rename_i hw
   obtain ⟨⟨v,H₁⟩,h1,h⟩:=Option.bind_eq_some_iff.1 h
   refine .inl ⟨hw,(wG hr hX h1).mono ?_⟩
   rintro v' nU ⟨rfl,rfl⟩
   exact kK hr hX h hk
  ·rename_i hw
   exact .inr ⟨hw,kK hr hX h hk⟩
  ·cases h
theorem rJ {ops:Array Oper} {A:List Nat} {i:Nat} {H:AH} : ∀ {aZ:qY},(∀p ∈ aZ,cK p.2.1.op=true∧(aT ops p.2.2.1 p.2.1=some false→p.2.2.2=.undef))→wF P ops A i H aZ=true→yq P ops (eY A) i H aZ
 | [],_,_=>fun p hp=>by cases hp
 | (j,o,T,v) :: aZ,hq,h=>by
  simp only [wF,Bool.and_eq_true] at h
  intro p hp ha
  rcases List.mem_cons.1 hp with rfl | hp
  ·simp only at ha
   simp only [ha,Bool.false_or] at h
   obtain ⟨h,_⟩:=h
   obtain ⟨q1,q2⟩:=hq _ (by simp:((j,o,T,v):Nat×Oper×List AV×AV) ∈ (j,o,T,v) :: aZ)
   split at h
   ·rename_i hw
    split at h
    ·rename_i u nU hu
     simp only [Bool.and_eq_true] at h
     have:=kJ q1 hu h.2
     subst this
     exact .inr ⟨hw,by rw [hu,p6 h.1]⟩
    ·cases h
   ·rename_i hw;exact .inl ⟨hw,q2 hw⟩
   ·cases h
  ·exact rJ (fun p hp=>hq p (List.mem_cons_of_mem _ hp)) h.2 p hp ha
theorem cN (hr:fT P rec) (hX:jF P X) {r:Option Nat} {ops:Array Oper} {A:List Nat} {K:List AV→AH→Prop} : ∀ {σ:List (Nat×Nat)} {aZ:qY} {T:List AV} {H:AH} {T' : List AV} {H' : AH},
  (∀p ∈ σ,p.2=2∨∀o,ops[p.1]? = some o→cK o.op=true)→(∀p ∈ aZ,cK p.2.1.op=true∧(aT ops p.2.2.1 p.2.1=some false→p.2.2.2=.undef)) →
  kq P X rec ops A σ aZ T H=some (T',H')→K T' H'→fX P r ops (eY A) K σ aZ T H
 | [],aZ,T,H,T',H',_,_,h,hk=>by simp only [kq,Option.some.injEq,Prod.mk.injEq] at h;obtain ⟨rfl,rfl⟩:=h;exact hk
 | (i,k) :: σ,aZ,T,H,T',H',hσ,hp,h,hk=>by
  simp only [kq] at h
  split at h
  ·cases h
  rename_i o ho
  have FV : ∀p ∈ σ,p.2=2∨∀o,ops[p.1]? = some o→cK o.op=true:=fun p hp=>hσ p (List.mem_cons_of_mem _ hp)
  refine ⟨o,ho,?_⟩
  split at h
  ·cases h
  ·rename_i hw
   by_cases h2:k=2
   ·rw [if_pos (.inl h2)] at h
    rw [if_pos h2]
    exact .inl ⟨hw,cN hr hX FV hp h hk⟩
   ·rw [if_neg h2]
    refine ⟨.undef,.inl ⟨hw,rfl⟩,?_⟩
    have hq:=(hσ (i,k) (by simp)).resolve_left h2 o ho
    by_cases h0:k=0
    ·rw [if_pos (.inr h0)] at h;rw [if_pos h0];exact cN hr hX FV hp h hk
    ·rw [if_neg (by omega)] at h;rw [if_neg h0]
     refine cN hr hX FV (fun p uI=>?_) h hk
     rcases List.mem_cons.1 uI with rfl | uI
     ·exact ⟨hq,fun _=>rfl⟩
     ·exact hp p uI
  ·rename_i hw
   by_cases h2:k=2
   ·rw [if_pos h2] at h ⊢
    obtain ⟨⟨v,H₁⟩,h1,h⟩:=Option.bind_eq_some_iff.1 h
    simp only at h
    split at h
    ·rename_i ZU
     refine .inr ⟨hw,(wG hr hX h1).mono ?_⟩
     rintro v' nU ⟨rfl,rfl⟩
     exact ⟨rJ hp ZU,cN hr hX FV hp h hk⟩
    ·cases h
   ·rw [if_neg h2] at h ⊢
    obtain ⟨⟨v,H₁⟩,h1,h⟩:=Option.bind_eq_some_iff.1 h
    have hq:=(hσ (i,k) (by simp)).resolve_left h2 o ho
    simp only at h
    split at h
    case isFalse=>cases h
    rename_i hcv
    have hHH:=kJ hq h1 hcv
    subst hHH
    refine ⟨v,.inr ⟨hw,h1⟩,?_⟩
    by_cases h0:k=0
    ·simp only [h0,if_true] at h ⊢;exact cN hr hX FV hp h hk
    ·simp only [h0,if_false] at h ⊢
     refine cN hr hX FV (fun p uI=>?_) h hk
     rcases List.mem_cons.1 uI with rfl | uI
     ·exact ⟨hq,fun h'=>by rw [hw] at h';cases h'⟩
     ·exact hp p uI
theorem zk (hr:fT P rec) (hX:jF P X) {id:Nat} {ops:Array Oper} {o:Oper} {s s₂:St} {T:List AV} {H:AH} (ho:pY ops=some o) (hs:qn P X rec ops ops.toList.dropLast s.T s.H=some (T,H)) (hp:wD P o s.M T H=some s₂) :
  bK P none (.region id ops false) (fun e s'=>e=.normal∧s'=s₂) s:=by
 unfold pY at ho
 split at ho
 ·rename_i d c t p a wW
  cases ho
  unfold wD at hp
  split at hp
  ·rename_i dst fo xs ts ty pos after heq
   cases heq
   obtain ⟨fv,h2,hp⟩:=Option.bind_eq_some_iff.1 hp
   obtain ⟨vs,h3,hp⟩:=Option.bind_eq_some_iff.1 hp
   split at hp
   ·rename_i g x y _
    cases hp
    refine bK.defers (pre:=ops.toList.dropLast) (ts:=ts) (ty:=t) (pos:=p) (after:=a) (by obtain ⟨ys,sC⟩:=List.getLast?_eq_some_iff.1 wW;rw [sC];simp) (kK hr hX hs ⟨g,x,y,vs,h2,h3,rfl,rfl⟩)
   ·cases hp
  ·cases hp
 ·cases ho
theorem rI {ops:Array Oper} {σ:List (Nat×Nat)} (h:CD ops σ=true) : ∀p ∈ σ,p.2=2∨∀o,ops[p.1]? = some o→cK o.op=true:=by
 intro p hp
 have:=List.all_eq_true.1 h p hp
 simp only [Bool.or_eq_true,beq_iff_eq] at this
 refine this.imp (fun h=>h) fun h o ho=>?_
 rw [ho] at h;exact h
theorem y9 (hm:P.follows .mixedOrders=true) (hr:fT P rec) (hX:jF P X) {r:Option Nat} {id:Nat} {ops:Array Oper} {p:si} {s:St} {T' : List AV} {H' : AH} (hp:ql P ops=some p) (h:qL P X rec ops p s.T s.H=some (T',H')) :
  bK P r (.region id ops true) (fun e s'=>e=.normal∧s'=⟨T',s.M,H'⟩) s:=by
 obtain ⟨h0,hp⟩:=AA hp
 simp only [DQ,Bool.and_eq_true,decide_eq_true_eq] at hp
 obtain ⟨⟨⟨⟨⟨⟨⟨⟨⟨h1,h2⟩,h3⟩,h4⟩,h5⟩,h6⟩,h7⟩,h8⟩,h9⟩,Ka⟩:=hp
 have hs:qZ P .any ops p.n p.cC:=by rw [h0];exact Df (h0 ▸ h1)
 unfold qL at h
 obtain ⟨⟨T₁,H₁⟩,hd,h⟩:=Option.bind_eq_some_iff.1 h
 simp only at h
 split at h
 ·rename_i hl
  refine bK.O4 hm hs (nu h2) h4 (Gl h6) (nu h3) h5 (Bz hs.le h7) h8 (cN hr hX (rI h9) (fun p hp=>by cases hp) hd ⟨CU hl,?_⟩)
  exact cN hr hX (rI Ka) (fun p hp=>by cases hp) h ⟨rfl,rfl⟩
 ·cases h
theorem AP (hr:fT P rec) {r:Option Nat} {c:Code} {m:Nat} {s:St} {e:dy} {s' : St} (h:rM rec r c m s=some (e,s')):bK P r (.loop c) (fun e' sR=>e'=e∧sR=s') s:=by
 refine bK.loop (j:=m) (fun j s=>rM rec r c j s=some (e,s')) h ?_
 intro j s hj
 cases j with
 | zero=>cases hj
 | succ j =>
  simp only [rM] at hj
  split at hj
  ·rename_i s₁ hs
   refine (hr _ _ _ _ _ hs).mono ?_
   rintro e' sR ⟨rfl,rfl⟩
   exact ⟨j,Nat.lt_succ_self j,hj⟩
  ·rename_i dm
   refine (hr _ _ _ _ _ hj).mono ?_
   rintro e' sR ⟨rfl,rfl⟩
   cases e' with
   | normal=>exact (dm _ hj).elim
   | exit id=>exact ⟨rfl,rfl⟩
   | goto l=>exact ⟨rfl,rfl⟩
   | ret=>exact ⟨rfl,rfl⟩
theorem xU (hr:fT P rec) {r:Option Nat} {c:Code} {m:Nat} {s:St} {e:dy} {s' : St} (h:jI rec r c m c s=some (e,s')):bK P r (.scope c) (fun e' sR=>e'=e∧sR=s') s:=by
 have step : ∀ {m:Nat} {cur:Code} {s:St},jI rec r c (m+1) cur s=some (e,s') →
   bK P r cur (dc c (fun l s=>∃rest,findLabel c l=some rest∧jI rec r c m rest s=some (e,s')) (fun e' sR=>e'=e∧sR=s')) s:=by
  intro m cur s h
  simp only [jI] at h
  split at h
  ·rename_i l s₁ hs
   refine (hr _ _ _ _ _ hs).mono ?_
   rintro e' sR ⟨rfl,rfl⟩
   simp only [dc]
   split at h
   ·rename_i rest hf
    rw [if_pos (by rw [hf];rfl)]
    exact ⟨rest,hf,h⟩
   ·rename_i hf
    rw [if_neg (by rw [hf];simp)]
    simp only [Option.some.injEq,Prod.mk.injEq] at h
    exact ⟨h.1,h.2⟩
  ·rename_i dm
   refine (hr _ _ _ _ _ h).mono ?_
   rintro e' sR ⟨rfl,rfl⟩
   cases e' with
   | normal=>exact ⟨rfl,rfl⟩
   | exit id=>exact ⟨rfl,rfl⟩
   | goto l=>exact (dm _ _ h).elim
   | ret=>exact ⟨rfl,rfl⟩
 refine bK.scope (fun j l s=>∃rest,findLabel c l=some rest∧jI rec r c j rest s=some (e,s')) ?_ ?_
 ·cases m with
  | zero=>cases h
  | succ m =>
   refine (step h).mono fun e' sR hq=>?_
   cases e' with
   | goto l =>
    simp only [dc] at hq ⊢
    split at hq
    ·rename_i hl;rw [if_pos hl];exact ⟨m,hq⟩
    ·rename_i hl;rw [if_neg hl];exact hq
   | normal=>exact hq
   | exit id=>exact hq
   | ret=>exact hq
 ·rintro j l s rest hf ⟨Ar,F3,hj⟩
  rw [hf] at F3;cases F3
  cases j with
  | zero=>cases hj
  | succ j =>
   refine (step hj).mono fun e' sR hq=>?_
   cases e' with
   | goto l =>
    simp only [dc] at hq ⊢
    split at hq
    ·rename_i hl;rw [if_pos hl];exact ⟨j,Nat.lt_succ_self j,hq⟩
    ·rename_i hl;rw [if_neg hl];exact hq
   | normal=>exact hq
   | exit id=>exact hq
   | ret=>exact hq
theorem lB (hr:fT P rec) {r:Option Nat} {l:Nat} {T:List AV} {M:List Mk} {H:AH} {v:AV} {e:dy} {s' : St} (h:iH rec r l T M H=some (e,s')) :
  yj P r l T M (fun e' sR=>e'=e∧sR=s') v H:=by
 unfold iH at h
 split at h
 ·rename_i st pe T' ps as bd d hg
  split at h
  ·cases h
  ·rename_i hb
   refine ⟨st,pe,T',ps,as,bd,d,hg,fun dM=>?_,?_⟩
   ·subst dM;exact hb rfl
   ·cases pe with
    | none=>simp only [Option.some.injEq,Prod.mk.injEq] at h ⊢;exact ⟨h.1,h.2⟩
    | some c=>exact hr _ _ _ _ _ h
 ·cases h
theorem ye (hr:fT P rec) {r:Option Nat} {g:Operand} {ps:Array Tmp} {as bd:Code} {s:St} {e:dy} {s' : St} (h:tU P X rec r g ps as bd s=some (e,s')) :
  bK P r (.rangeFunc g ps as bd) (fun e' sR=>e'=e∧sR=s') s:=by
 unfold tU at h
 obtain ⟨gv,hg,h⟩:=Option.bind_eq_some_iff.1 h
 split at h
 ·rename_i gf x y
  split at h
  ·rename_i ia
   obtain ⟨⟨v,H⟩,hc,h⟩:=Option.bind_eq_some_iff.1 h
   refine bK.rangeFunc (aB ia) hg ((m9 hr ia hc).mono ?_)
   rintro v' nU ⟨rfl,rfl⟩
   exact lB hr h
  ·cases h
 ·rename_i gf x y b₀
  split at h
  ·rename_i st pe T' Za as' bd' d₀ Ja
   split at h
   ·rename_i ia
    obtain ⟨⟨v,H⟩,hc,h⟩:=Option.bind_eq_some_iff.1 h
    refine bK.yh Ja (aB ia) hg ((m9 hr ia hc).mono ?_)
    rintro v' nU ⟨rfl,rfl⟩
    exact lB hr h
   ·cases h
  ·cases h
 ·cases h
theorem wu (hm:P.follows .mixedOrders=true) (hX:jF P X) : ∀n,fT P (run P X n)
 | 0=>fun r c s e s' h=>by cases h
 | n+1=>fun r c s e s' h=>by
  have ih:=wu hm hX n
  cases c with
  | skip=>simp only [run,Option.some.injEq,Prod.mk.injEq] at h;exact bK.skip ⟨h.1,h.2⟩
  | label l=>simp only [run,Option.some.injEq,Prod.mk.injEq] at h;exact bK.label ⟨h.1,h.2⟩
  | exit id=>simp only [run,Option.some.injEq,Prod.mk.injEq] at h;exact bK.exit ⟨h.1,h.2⟩
  | goto l=>simp only [run,Option.some.injEq,Prod.mk.injEq] at h;exact bK.goto ⟨h.1,h.2⟩
  | ret=>simp only [run,Option.some.injEq,Prod.mk.injEq] at h;exact bK.ret ⟨h.1,h.2⟩
  | refuse why=>cases h
  | seq a b =>
   simp only [run] at h
   refine bK.seq ?_
   split at h
   ·rename_i s₁ hs
    refine (ih _ _ _ _ _ hs).mono ?_
    rintro e' sR ⟨rfl,rfl⟩
    exact ih _ _ _ _ _ h
   ·rename_i dm
    refine (ih _ _ _ _ _ h).mono ?_
    rintro e' sR ⟨rfl,rfl⟩
    cases e' with
    | normal=>exact (dm _ h).elim
    | exit id=>exact ⟨rfl,rfl⟩
    | goto l=>exact ⟨rfl,rfl⟩
    | ret=>exact ⟨rfl,rfl⟩
  | cond c x y =>
   simp only [run] at h
   split at h
   ·rename_i hc;exact bK.cond hc (ih _ _ _ _ _ h)
   ·rename_i hc;exact bK.cond hc (ih _ _ _ _ _ h)
   ·cases h
  | block id c =>
   simp only [run] at h
   obtain ⟨⟨e₁,s₁⟩,hs,h⟩:=Option.map_eq_some_iff.1 h
   refine bK.block ((ih _ _ _ _ _ hs).mono ?_)
   rintro e' sR ⟨rfl,rfl⟩
   simp only [Prod.mk.injEq] at h
   cases e' with
   | exit i =>
    simp only [iT] at h
    simp only [mu]
    split
    ·rename_i hi;rw [if_pos hi] at h;exact ⟨h.1,h.2⟩
    ·rename_i hi;rw [if_neg hi] at h;exact ⟨h.1,h.2⟩
   | normal=>exact ⟨h.1,h.2⟩
   | goto l=>exact ⟨h.1,h.2⟩
   | ret=>exact ⟨h.1,h.2⟩
  | loop c=>exact AP ih h
  | scope c=>exact xU ih h
  | region id ops draw =>
   cases draw with
   | false =>
    simp only [run] at h
    split at h
    ·obtain ⟨⟨T,H⟩,hs,h⟩:=Option.map_eq_some_iff.1 h
     simp only [Prod.mk.injEq] at h
     obtain ⟨rfl,rfl⟩:=h
     exact bK.region (kK ih hX hs ⟨rfl,rfl⟩)
    ·rename_i o ho
     obtain ⟨⟨T,H⟩,hs,h⟩:=Option.bind_eq_some_iff.1 h
     obtain ⟨s₂,hp,h⟩:=Option.map_eq_some_iff.1 h
     simp only [Prod.mk.injEq] at h
     obtain ⟨rfl,rfl⟩:=h
     exact zk ih hX ho hs hp
    ·cases h
   | true =>
    simp only [run] at h
    split at h
    ·rename_i σ A hd
     obtain ⟨⟨T,H⟩,hs,h⟩:=Option.map_eq_some_iff.1 h
     simp only [Prod.mk.injEq] at h
     obtain ⟨rfl,rfl⟩:=h
     obtain ⟨cc,hd⟩:=xl hd
     unfold uV at hd
     simp only at hd
     split at hd
     ·rename_i hg
      simp only [Option.some.injEq,Prod.mk.injEq] at hd
      obtain ⟨rfl,rfl⟩:=hd
      simp only [Bool.and_eq_true,decide_eq_true_eq] at hg
      obtain ⟨⟨⟨h1,h2⟩,h3⟩,h4⟩:=hg
      refine bK.draw hm (nu h2) h1 h3 (cN ih hX ?_ (fun p hp=>by cases hp) hs ⟨rfl,rfl⟩)
      intro p hp
      have:=List.all_eq_true.1 h4 p hp
      simp only [Bool.or_eq_true,beq_iff_eq] at this
      refine this.imp (fun h=>h) fun h o ho=>?_
      rw [ho] at h;exact h
     ·cases hd
    ·obtain ⟨p,hp,h⟩:=Option.bind_eq_some_iff.1 h
     obtain ⟨⟨T,H⟩,hs,h⟩:=Option.map_eq_some_iff.1 h
     simp only [Prod.mk.injEq] at h
     obtain ⟨rfl,rfl⟩:=h
     exact y9 hm ih hX hp hs
  | rangeFunc g ps as bd=>exact ye ih h
theorem nI (hm:P.follows .mixedOrders=true) (hX:jF P X) {n:Nat} {f:FuncId} {args:List AV} {H:AH} {v:AV} {H' : AH} (ia:qJ P f=true) (h:DL P X n f args H=some (v,H')) :
  bL P f args H (fun v' nU=>v'=v∧nU=H'):=m9 (wu hm hX n) ia h
end
end Go.Am
end
/- The abstract machine: the model's own functions; where a row's call begins; what it says at its end. -/
section
namespace Go.Am
open Go.RowKit Go.ChangeShapes
/-! ### The model's own functions -/
inductive XK where
 | indexByte
 | countByte
 | same
 | jt (g:Nat)
 | makeNoZero (ps:Array TypeId) (t e:TypeId)
 | Nx
 | ME
 | Ny (k:IntKind)
 | JK
 | SG (k:IntKind)
 | SF (k:IntKind)
 | quiet (b:Bool)
 | race (b:Bool)
 deriving DecidableEq
def XK.NV:XK→Array Value→Sem Value
 | .indexByte=>Extern.BytealgIndexByte.indexByte
 | .countByte=>Extern.BytealgCount.count
 | .same=>Extern.AbiNoEscape.same
 | .jt _=>Extern.BytealgIndex.index
 | .makeNoZero ps t _=>Extern.BytealgMakeNoZero.makeNoZero ps #[t]
 | .Nx=>fun args=>do
  let (x,y,c) ← Extern.MathBitsCarry.three "Add64" args
  pure (Extern.MathBitsCarry.pair ((x+y+c) % Extern.MathBitsCarry.m64) ((x+y+c) / Extern.MathBitsCarry.m64))
 | .ME=>fun args=>do
  let (x,y,b) ← Extern.MathBitsCarry.three "Sub64" args
  pure (Extern.MathBitsCarry.pair ((x+Extern.MathBitsCarry.m64 - y - b) % Extern.MathBitsCarry.m64) (if x<y+b then 1 else 0))
 | .Ny k=>Extern.Atomic.loadT (.int k)
 | .JK=>Extern.Atomic.storeT
 | .SG k=>Extern.Atomic.update (Op.intArith .add) k true
 | .SF k=>Extern.Atomic.casT (.int k)
 | .quiet b=>fun _=>do mark (if b then .enable else .disable);pure Extern.Race.none_
 | .race b=>Extern.Race.marked (if b then .acquire else .releaseMerge)
def XK.fit (P:Program):XK→Prop
 | .jt g=>P.globals.findIdx? (·.name == "internal/bytealg.MaxLen")=some g
 | .makeNoZero _ t e=>P.underlying t=some (.slice e)∧P.cellsOf e=1
 | _=>True
def XK.val (k:XK) (vs:List AV) (H:AH):Option (AV×AH) :=
 match k,vs with
 | .indexByte,[.str s,.int .u8 c]=>some (.int .i64 (Lib.indexByte s c.toNat.toUInt8),H)
 | .countByte,[.str s,.int .u8 c]=>some (.int .i64 (Lib.countByte s c.toNat.toUInt8),H)
 | .same,[x]=>some (x,H)
 | .jt g,[.str a,.str b] =>
  match H.get g with
  | some (.cells [.half lo true] _ _)=>if 2≤b.length∧(b.length:Int)≤lo∧a.length<4294967281 then some (.int .i64 (Lib.index a b),H) else none
  | some (.cells [.int .i64 lo] _ _)=>if 2≤b.length∧(b.length:Int)≤lo∧a.length<4294967281 then some (.int .i64 (Lib.index a b),H) else none
  | _=>none
 | .Nx,[.int _ x,.int _ y,.int _ c] =>
  if c.toNat≤1 then some (.tuple [.int .u64 (Int.ofNat ((x.toNat+y.toNat+c.toNat) % 2 ^ 64)),.int .u64 (Int.ofNat ((x.toNat+y.toNat+c.toNat) / 2 ^ 64))],H) else none
 | .ME,[.int _ x,.int _ y,.int _ c] =>
  if c.toNat≤1 then some (.tuple [.int .u64 (Int.ofNat ((x.toNat+2 ^ 64 - y.toNat - c.toNat) % 2 ^ 64)),.int .u64 (Int.ofNat (if x.toNat<y.toNat+c.toNat then 1 else 0))],H) else none
 | .makeNoZero _ _ e,[.int .i64 n]=>if 0≤n∧n≤16777216 then some (.slice (some (H.n,0)) n.toNat n.toNat,H.alloc (.cells (List.replicate n.toNat .rm) e { fD:=true })) else none
 | .Ny k,[.ptr (some (b,o))] =>
  match H.ak b o with
  | some (.int k' n)=>if k'=k then some (.int k n,H) else none
  | _=>none
 | .JK,[.ptr (some (b,o)),.int k n]=>(H.write b o [.int k n]).map fun H'=>(.tuple [],H')
 | .SG k,[.ptr (some (b,o)),.int k₂ d] =>
  match H.ak b o with
  | some (.int k' n)=>if k'=k∧k₂=k then (H.write b o [.int k (k.wrap (n+d))]).map fun H'=>(.int k (k.wrap (n+d)),H') else none
  | _=>none
 | .SF k,[.ptr (some (b,o)),.int k₁ old,.int k₂ new] =>
  match H.ak b o with
  | some (.int k' n)=>if k'=k∧k₁=k∧k₂=k∧n=old then (H.write b o [.int k new]).map fun H'=>(.bool true,H') else none
  | _=>none
 | .quiet _,[]=>some (.tuple [],H)
 | .race _,[.ptr (some _)]=>some (.tuple [],H)
 | _,_=>none
def Nr (l:List (FuncId×XK)):Ext:=fun g vs H=>(l.lookup g).bind fun k=>k.val vs H
theorem xq : ∀(n t:Nat) (acc:Array Value),(∀v ∈ acc.toList,∃m,v=.int .u8 m)→∀v ∈ (Extern.BytealgMakeNoZero.digits n t acc).toList,∃m,v=.int .u8 m
 | 0,_,_,h=>h
 | n+1,t,acc,h=>by
  rw [Extern.BytealgMakeNoZero.digits]
  refine xq n _ _ fun v hv=>?_
  simp only [Array.toList_push,List.mem_append,List.mem_singleton] at hv
  rcases hv with hv | rfl
  ·exact h v hv
  ·exact ⟨_,rfl⟩
theorem zS {E:Env} : ∀(n:Nat) {l:List Value},(∀v ∈ l,∃m,v=.int .u8 m)→n≤l.length→aJ E (List.replicate n .rm) (l.take n)
 | 0,_,_,_=>rfl
 | n+1,[],_,h=>by simp at h
 | n+1,v :: l,hl,h=>⟨v,l.take n,rfl,hl v (by simp),zS n (fun u hu=>hl u (by simp [hu])) (by simpa using h)⟩
theorem Cp {P:Program} (w:World) (ps:Array TypeId) (t e:TypeId) (ht:P.underlying t=some (.slice e)) (n:Nat) (hn:n≤281474976710656) :
  ∃cs:Array Value,(Extern.BytealgMakeNoZero.makeNoZero ps #[t] #[.int .i64 n]).run P w=.ok (.slice (some ⟨w.heap.size,0,none⟩) n cs.size) (w.drew.drew.alloc (.cells cs e))∧n≤cs.size∧∀v ∈ cs.toList,∃m,v=.int .u8 m:=by
 have Vr:Extern.BytealgMakeNoZero.makeNoZero ps #[t] #[.int .i64 n] =
   (do
    let .slice elem ← underlying t | stuck "bytealg.MakeNoZero: slice type expected"
    if (n:Int)<0 || (n:Int) > 2 ^ 48 then runtimePanic (.error "makeslice: len out of range")
    let cap ← choose (.appendCap (n:Int).toNat 0 elem)
    askRoom cap
    let bytes ← choose (.extern "internal/bytealg.MakeNoZero.bytes" 0)
    let a ← newRow elem (Extern.BytealgMakeNoZero.digits cap bytes #[])
    pure (.slice (some a) (n:Int).toNat cap)):=rfl
 refine ⟨Extern.BytealgMakeNoZero.digits (grownCap w n 0 e) ((Question.extern "internal/bytealg.MakeNoZero.bytes" 0).cut (w.tape (w.drawn+1) (.extern "internal/bytealg.MakeNoZero.bytes" 0))) #[],?_,?_,?_⟩
 ·rw [Vr]
  have h1 : ¬ (n:Int)<0:=by omega
  have h2 : ¬ (281474976710656:Int)<(n:Int):=by omega
  simp [run_underlying ht,h1,h2,Question.forced,newRow,Lib.size_digits,grownCap]
 ·rw [Lib.size_digits]
  simpa using grownCap_ge w n 0 e
 ·exact xq _ _ _ (by simp)
theorem wq {P:Program} (name:String) (k1 k2 k3:IntKind) (x y c:Int) (hc:c.toNat≤1) (w:World):(Extern.MathBitsCarry.three name #[.int k1 x,.int k2 y,.int k3 c]).run P w=.ok (x.toNat,y.toNat,c.toNat) w:=by
 have:Extern.MathBitsCarry.three name #[.int k1 x,.int k2 y,.int k3 c]=(do
   let c:=(← asInt (.int k3 c)).toNat
   if c > 1 then unsupported (.noEntry ("extern/math/bits." ++ name ++ ": a carry that is neither 0 nor 1"))
   pure ((← asInt (.int k1 x)).toNat,(← asInt (.int k2 y)).toNat,c)):=rfl
 have y5 : ¬ (1<c.toNat):=by omega
 rw [this]
 simp [asInt,asIntOf]
 omega
theorem oc {P:Program} {E:Env} {B:eZ} {H H' : AH} {w:World} (h:HR P E B H w) {b o:Nat} {k:IntKind} {n:Int} (hw:H.write b o [.int k n]=some H') :
  ∃L u,E b=some L∧w.cell? ⟨L.bH,L.off+o,none⟩=some u∧w.frozen? ⟨L.bH,L.off+o,none⟩=false∧HR P E B H' (w.setCell ⟨L.bH,L.off+o,none⟩ (.int k n))∧Below B w (w.setCell ⟨L.bH,L.off+o,none⟩ (.int k n)):=by
 obtain ⟨L,w',hL,fU,iF,dM⟩:=mT h hw (ys:=[.int k n]) ⟨_,_,rfl,rfl,rfl⟩
 unfold AH.write at hw
 split at hw
 ·rename_i cs e fl hb
  split at hw
  ·rename_i hc
   obtain ⟨gZ,LL,hlen,gh⟩:=hc
   obtain ⟨L',cv,ho⟩:=h.obj _ _ hb
   rw [hL] at cv;cases cv
   obtain ⟨X,lo,hi,h1,h2,h3,h4,h5,h6,h7,h8⟩:=ho
   obtain ⟨hB,hF,hS⟩:=h6 gZ
   simp only [List.length_singleton] at hlen
   have cu:L.off+o<X.size:=by omega
   have gN:w.cell? ⟨L.bH,L.off+o,none⟩=some X[L.off+o]:=by simp only [World.cell?,h1];simp [cu]
   have hf:w.frozen? ⟨L.bH,L.off+o,none⟩=false:=by
    have:=hF (L.off+o) (by omega) cu
    simp only [World.frozen?,h1]
    simp only [Bool.and_eq_false_iff,decide_eq_false_iff_not]
    by_cases hl:lo≤L.off+o
    ·exact .inr (fun hh=>this ⟨hl,hh⟩)
    ·exact .inl hl
   have Dc:(⟨L.bH,L.off+o,none⟩ : Addr).add 0=⟨L.bH,L.off+o,none⟩:=by unfold Addr.add;split <;> simp_all
   have Ov:(storeCells ⟨L.bH,L.off+o,none⟩ [Value.int k n]).run P w=.ok () (w.setCell ⟨L.bH,L.off+o,none⟩ (.int k n)):=by
    simp only [storeCells,Sem.run_bind,Dc,run_store P w _ (.int k n) .plain rfl,gN,hf,Bool.false_eq_true,if_false,Result.andThen_ok]
    rfl
   rw [Ov] at fU
   cases fU
   exact ⟨L,_,hL,gN,hf,iF,dM⟩
  ·cases hw
 ·cases hw
theorem qj {P:Program} {E:Env} {B:eZ} {H:AH} {w:World} (h:HR P E B H w) {b o:Nat} {k:IntKind} {n:Int} (hr:H.ak b o=some (.int k n)) {L:Loc} (hL:E b=some L):w.cell? ⟨L.bH,L.off+o,none⟩=some (.int k n):=by
 obtain ⟨L',x,cv,hx,hc⟩:=qh h hr
 rw [hL] at cv;cases cv
 obtain rfl:x=_:=hx
 exact hc
theorem XK.Kz {P:Program} {E:Env} {B:eZ} {H H' : AH} {w:World} {k:XK} {vs:List AV} {v:AV} {args:Array Value} (h:k.val vs H=some (v,H')) (hf:k.fit P) (hH:HR P E B H w) (ha:aJ E vs args.toList) :
  ∃x E' w',(k.NV args).run P w=.ok x w'∧E.le E'∧HR P E' B H' w'∧VR E' v x∧Below B w w':=by
 unfold XK.val at h
 split at h
 ·rename_i s c
  cases h
  obtain ⟨x,xs,hx,rfl,y,ys,rfl,rfl,rfl⟩:=ha
  obtain rfl:args = #[.string ⟨s.toArray⟩,.int .u8 c]:=Array.ext' hx
  exact ⟨_,E,w,Lib.run_indexByteString (P:=P) ⟨s.toArray⟩ c w,Env.le.refl E,hH,rfl,Below.refl B w⟩
 ·rename_i s c
  cases h
  obtain ⟨x,xs,hx,rfl,y,ys,rfl,rfl,rfl⟩:=ha
  obtain rfl:args = #[.string ⟨s.toArray⟩,.int .u8 c]:=Array.ext' hx
  exact ⟨_,E,w,Lib.run_countString (P:=P) ⟨s.toArray⟩ c w,Env.le.refl E,hH,rfl,Below.refl B w⟩
 ·cases h
  obtain ⟨x,xs,hx,hv,rfl⟩:=ha
  obtain rfl:args = #[x]:=Array.ext' hx
  exact ⟨x,E,w,rfl,Env.le.refl E,hH,hv,Below.refl B w⟩
 ·rename_i g a b
  have key : ∀ {v₀:AV} {lo:Int} {e:TypeId} {fl:Fl},H.get g=some (.cells [v₀] e fl)→(∀z,VR E v₀ z→∃m,z=.int .i64 m∧lo≤m)→(2≤b.length∧(b.length:Int)≤lo∧a.length<4294967281)→some ((.int .i64 (Lib.index a b),H):AV×AH)=some (v,H') →
    ∃x E' w',((XK.jt g).NV args).run P w=.ok x w'∧E.le E'∧HR P E' B H' w'∧VR E' v x∧Below B w w':=by
   rintro v₀ lo e fl hg Q9 ⟨h1,h2,h3⟩ h
   cases h
   obtain ⟨x,xs,hx,rfl,y,ys,rfl,rfl,rfl⟩:=ha
   obtain rfl:args = #[.string ⟨a.toArray⟩,.string ⟨b.toArray⟩]:=Array.ext' hx
   have hgl:g<P.globals.size:=(Array.findIdx?_eq_some_iff_getElem.1 hf).1
   obtain ⟨L,hL,hL1,R8⟩:=hH.ke g hgl
   obtain ⟨L',cv,X,l',h',k1,_,_,_,k2,_⟩:=hH.obj g _ hg
   rw [hL] at cv;cases cv
   rw [R8] at k2
   obtain ⟨z,zs,k3,k4,_⟩:=k2
   obtain ⟨m,rfl,GO⟩:=Q9 z k4
   have hX:X[0]? = some (.int .i64 m):=by
    rw [← Array.getElem?_toList]
    cases hl:X.toList with
    | nil=>rw [hl] at k3;simp at k3
    | cons q l=>rw [hl] at k3;simp at k3;simp [k3.1]
   have hm:w.cell? ⟨g,0,none⟩=some (.int .i64 m):=by
    rw [hL1] at k1
    simp [World.cell?,k1,hX]
   exact ⟨_,E,w,Lib.run_indexString (P:=P) ⟨a.toArray⟩ ⟨b.toArray⟩ w g m hf hm h1 (by show ((b.length:Nat):Int)≤m;omega) h3,Env.le.refl E,hH,rfl,Below.refl B w⟩
  split at h
  ·rename_i lo e fl hg
   split at h
   ·rename_i hc
    exact key hg (fun z hz=>by obtain ⟨m,rfl,k⟩:=hz;exact ⟨m,rfl,by simpa using k⟩) hc h
   ·cases h
  ·rename_i lo e fl hg
   split at h
   ·rename_i hc
    exact key hg (fun z hz=>⟨lo,hz,Int.le_refl _⟩) hc h
   ·cases h
  ·cases h
 ·rename_i k1 x k2 y k3 c
  split at h
  ·rename_i hc
   cases h
   obtain ⟨_,_,hx,rfl,_,_,rfl,rfl,_,_,rfl,rfl,rfl⟩:=ha
   obtain rfl:args = #[.int k1 x,.int k2 y,.int k3 c]:=Array.ext' hx
   refine ⟨Extern.MathBitsCarry.pair ((x.toNat+y.toNat+c.toNat) % 2 ^ 64) ((x.toNat+y.toNat+c.toNat) / 2 ^ 64),E,w,?_,Env.le.refl E,hH,⟨_,rfl,_,_,rfl,rfl,_,_,rfl,rfl,rfl⟩,Below.refl B w⟩
   simp only [XK.NV,Sem.run_bind,wq _ k1 k2 k3 x y c hc w,Result.andThen_ok,Sem.run_pure]
   rfl
  ·cases h
 ·rename_i k1 x k2 y k3 c
  split at h
  ·rename_i hc
   cases h
   obtain ⟨_,_,hx,rfl,_,_,rfl,rfl,_,_,rfl,rfl,rfl⟩:=ha
   obtain rfl:args = #[.int k1 x,.int k2 y,.int k3 c]:=Array.ext' hx
   refine ⟨Extern.MathBitsCarry.pair ((x.toNat+2 ^ 64 - y.toNat - c.toNat) % 2 ^ 64) (if x.toNat<y.toNat+c.toNat then 1 else 0),E,w,?_,Env.le.refl E,hH,⟨_,rfl,_,_,rfl,rfl,_,_,rfl,rfl,rfl⟩,Below.refl B w⟩
   simp only [XK.NV,Sem.run_bind,wq _ k1 k2 k3 x y c hc w,Result.andThen_ok,Sem.run_pure]
   rfl
  ·cases h
 ·rename_i ps t e n
  split at h
  ·rename_i hc
   obtain ⟨h1,h2⟩:=hc
   cases h
   obtain ⟨x,xs,hx,rfl,rfl⟩:=ha
   obtain rfl:args = #[.int .i64 n]:=Array.ext' hx
   obtain ⟨ht,he⟩:=hf
   obtain ⟨cs,r1,r2,r3⟩:=Cp (P:=P) w ps t e ht n.toNat (by omega)
   have hn:((n.toNat:Nat):Int)=n:=Int.toNat_of_nonneg h1
   rw [hn] at r1
   have hw:HR P E B H w.drew.drew:=hH.world rfl
   obtain ⟨k1,k2,k3⟩:=kN hw (X:=cs) (e:=e) (fl:={ fD:=true }) (extra:=cs.size - n.toNat) (cs:=List.replicate n.toNat .rm)
    (by rw [List.length_replicate];exact zS _ r3 (by simpa using r2)) (by simp [AV.one]) (by rw [he,List.length_replicate];omega) (fun h=>by cases h) 0 0 (by omega) (by simp)
   refine ⟨_,_,_,r1,k1,k2,⟨_,_,_,fK _ _,rfl,Nat.le_refl _,.inr ⟨?_,?_⟩,rfl,.inl rfl⟩,?_⟩
   ·simp [he]
   ·show cs.size=n.toNat+(cs.size - n.toNat);omega
   ·exact Below.trans (b:=w.drew.drew) ⟨rfl,rfl,rfl,Nat.le_refl _,fun _ _=>rfl⟩ k3
  ·cases h
 ·rename_i k b o
  split at h
  ·rename_i k' n hr
   split at h
   ·rename_i he
    subst he
    cases h
    obtain ⟨x,xs,hx,⟨L,hL,rfl⟩,rfl⟩:=ha
    obtain rfl:args = #[.pointer (some ⟨L.bH,L.off+o,none⟩)]:=Array.ext' hx
    refine ⟨.int k' n,E,w,?_,Env.le.refl E,hH,rfl,Below.refl B w⟩
    change Sem.run P (do Extern.Atomic.read (.int k') (← asAddr (.pointer (some ⟨L.bH,L.off+o,none⟩)))) w=_
    simp [Extern.Atomic.read,asAddr,qj hH hr hL]
   ·cases h
  ·cases h
 ·rename_i b o k n
  obtain ⟨H₁,hw,h⟩:=Option.map_eq_some_iff.1 h
  cases h
  obtain ⟨L,u,hL,hc,hz,iF,hb⟩:=oc hH hw
  obtain ⟨x,xs,hx,⟨L',cv,rfl⟩,_,_,rfl,rfl,rfl⟩:=ha
  rw [hL] at cv;cases cv
  obtain rfl:args = #[.pointer (some ⟨L.bH,L.off+o,none⟩),.int k n]:=Array.ext' hx
  refine ⟨.tuple #[],E,_,?_,Env.le.refl E,iF,⟨#[],rfl,rfl⟩,hb⟩
  change Sem.run P (do
   store (← asAddr (.pointer (some ⟨L.bH,L.off+o,none⟩))) (.int k n) .atomic
   pure Extern.Atomic.none_) w=_
  simp [asAddr,hc,hz,run_store P w _ (.int k n) .atomic rfl,Extern.Atomic.none_]
 ·rename_i k b o k₂ d
  split at h
  ·rename_i k' n hr
   split at h
   ·rename_i he
    obtain ⟨rfl,rfl⟩:=he
    obtain ⟨H₁,hw,h⟩:=Option.map_eq_some_iff.1 h
    cases h
    obtain ⟨L,u,hL,hc,hz,iF,hb⟩:=oc hH hw
    obtain ⟨x,xs,hx,⟨L',cv,rfl⟩,_,_,rfl,rfl,rfl⟩:=ha
    rw [hL] at cv;cases cv
    obtain rfl:args = #[.pointer (some ⟨L.bH,L.off+o,none⟩),.int k₂ d]:=Array.ext' hx
    exact ⟨_,E,_,(show Sem.run P (Extern.Atomic.update (Op.intArith .add) k₂ true #[.pointer (some ⟨L.bH,L.off+o,none⟩),.int k₂ d]) w=_ from Conc.run_add_entry (qj hH hr hL) hz),Env.le.refl E,iF,rfl,hb⟩
   ·cases h
  ·cases h
 ·rename_i k b o k₁ old k₂ new
  split at h
  ·rename_i k' n hr
   split at h
   ·rename_i he
    obtain ⟨rfl,rfl,rfl,rfl⟩:=he
    obtain ⟨H₁,hw,h⟩:=Option.map_eq_some_iff.1 h
    cases h
    obtain ⟨L,u,hL,hc,hz,iF,hb⟩:=oc hH hw
    obtain ⟨x,xs,hx,⟨L',cv,rfl⟩,_,_,rfl,rfl,_,_,rfl,rfl,rfl⟩:=ha
    rw [hL] at cv;cases cv
    obtain rfl:args = #[.pointer (some ⟨L.bH,L.off+o,none⟩),.int _ n,.int _ new]:=Array.ext' hx
    exact ⟨_,E,_,Conc.run_cas_hit_entry (qj hH hr hL) hz,Env.le.refl E,iF,rfl,hb⟩
   ·cases h
  ·cases h
 ·cases h
  obtain rfl:args = #[]:=Array.ext' ha
  refine ⟨.tuple #[],E,w,?_,Env.le.refl E,hH,⟨#[],rfl,rfl⟩,Below.refl B w⟩
  simp [XK.NV,Extern.Race.none_]
 ·cases h
  obtain ⟨x,xs,hx,⟨L,hL,rfl⟩,rfl⟩:=ha
  obtain rfl:=Array.ext' hx
  refine ⟨.tuple #[],E,w,?_,Env.le.refl E,hH,⟨#[],rfl,rfl⟩,Below.refl B w⟩
  simp [XK.NV,Extern.Race.marked,Extern.Race.at_,Extern.Race.none_]
 ·cases h
def TV (P:Program) (g:FuncId) (k:XK):Prop:=(∀args w,(callFunc g args).run P w=((k.NV args).run P w).andThen fun v w'=>.ok (.value v) w')∧k.fit P
theorem uf {α:Type} {g:Nat} {k:α} : ∀ {l:List (Nat×α)},l.lookup g=some k→(g,k) ∈ l
 | [],h=>by cases h
 | (a,b) :: l,h=>by
  rw [List.lookup_cons] at h
  split at h
  ·rename_i e
   simp only [beq_iff_eq] at e
   cases h;subst e;simp
  ·exact List.mem_cons_of_mem _ (uf h)
theorem Jo {P:Program} {l:List (FuncId×XK)} (h : ∀p ∈ l,TV P p.1 p.2):jF P (Nr l):=by
 intro g vs H v H' hx
 obtain ⟨k,hk,hx⟩:=Option.bind_eq_some_iff.1 hx
 have lE:=uf hk
 refine .inr fun E B w bD hH ha=>?_
 obtain ⟨x,E',w',hx,hE,iF,hv,hb⟩:=XK.Kz (P:=P) hx (h _ lE).2 hH ha
 exact ⟨v,H',E',w',x,by rw [(h _ lE).1,hx];rfl,⟨rfl,rfl⟩,hE,iF,hv,hb⟩
/-! ### The heap where a row's call begins -/
abbrev oF:=List (Nat×TypeId×List AV)
def fH (n:Nat):oF→AH
 | []=>⟨n,.nil⟩
 | (g,e,cs) :: l=>(fH n l).set g (.cells cs e { own:=false })
def oQ (l:oF) (b:Nat):Nat :=
 match l with
 | []=>0
 | (g,_,cs) :: l=>if b=g then cs.length else oQ l b
def jh (l:oF) (b:Nat):TypeId :=
 match l with
 | []=>0
 | (g,e,_) :: l=>if b=g then e else jh l b
def xQ (P:Program) (n:Nat) (l:oF):Env:=fun b=>if b<n then some ⟨b,0,oQ l b,P.cellsOf (jh l b),0⟩ else none
def ND (W:World) (g:Nat) (e:TypeId) (cs:List AV):Prop:=∃X fr,W.heap[g]? = some (.cells X e fr)∧cs.length=X.size∧(∀E,aJ E cs X.toList)∧∀v ∈ cs,v.one=true
theorem zX (n:Nat) (l:oF):(fH n l).n=n:=by
 induction l with
 | nil=>rfl
 | cons p l ih=>obtain ⟨g,e,cs⟩:=p;simpa [fH] using ih
theorem kB {n:Nat} {l:oF} {b:Nat} {o:aY} (h:(fH n l).get b=some o) : ∃cs,o=.cells cs (jh l b) { own:=false }∧oQ l b=cs.length∧∃e,(b,e,cs) ∈ l∧e=jh l b:=by
 induction l with
 | nil=>cases h
 | cons p l ih =>
  obtain ⟨g,e,cs⟩:=p
  simp only [fH,AH.af] at h
  by_cases hb:b=g
  ·subst hb
   rw [if_pos rfl] at h;cases h
   exact ⟨cs,by simp [jh],by simp [oQ],e,by simp,by simp [jh]⟩
  ·rw [if_neg hb] at h
   obtain ⟨vS,h1,h2,e',h3,h4⟩:=ih h
   exact ⟨vS,by simp [jh,hb,h1],by simp [oQ,hb,h2],e',by simp [h3],by simp [jh,hb,h4]⟩
theorem HR.start {P:Program} {W:World} {l:oF} (hl : ∀t ∈ l,t.1<P.globals.size∧ND W t.1 t.2.1 t.2.2) :
  HR P (xQ P P.globals.size l) (eZ.up W.heap.size) (fH P.globals.size l) W:=by
 refine ⟨fun b L hb=>?_,fun b o hb=>?_,fun _ h=>h,fun g hg=>⟨_,if_pos hg,rfl,rfl⟩,fun b b' o o' L L' dm hb dM ho _ _ _=>?_⟩
 ·rw [zX]
  unfold xQ at hb
  split at hb
  ·assumption
  ·cases hb
 ·obtain ⟨cs,rfl,hs,e,hm,he⟩:=kB hb
  obtain ⟨hg,X,fr,h1,h2,h3,h4⟩:=hl _ hm
  simp only at hg h1 h2 h3 h4
  refine ⟨_,if_pos hg,X,fr.1,fr.2,by rw [h1,he],hs,rfl,by simp [h2],?_,fun h=>(by cases h),fun _=>rfl,h4,fun h=>(by cases h)⟩
  have:=h3 (xQ P P.globals.size l)
  rw [h2]
  simpa [← Array.length_toList] using this
 ·obtain ⟨cs,rfl,_⟩:=kB hb
  cases ho
/-! ### The tables out of a row's list -/
theorem u0 {H:Type} {enc:TypeId×Value→H} {P:Program} {w:World} {base:Nat} {sp:Nat→Bool} {held:Bool} {fuel:Nat} {t e:TypeId} {n:Nat} {k:IntKind} {cs:List Value} {zs:List (Int×Int)} {p:List MemPlace} {f0 f1:Field}
  (ht:P.underlying t=some (.array n e)) (he:P.underlying e=some (.struct #[f0,f1])) (h0:P.underlying f0.type=some (.int k)) (h1:P.underlying f1.type=some (.int k)) (PD:f0.offset=0) (wV:f1.offset=1)
  (GR:P.cellsOf f0.type=1) (Nk:P.cellsOf f1.type=1) (Vw:P.cellsOf e=2) (PJ:P.cellsOf t=n*2)
  (h:DataW.trod enc P w base sp held fuel t cs=some (.agg (zs.map fun z=>.agg [.lit (.int k z.1),.lit (.int k z.2)]),p)):cs=zs.flatMap fun z=>[Value.int k z.1,.int k z.2]:=by
 cases fuel with
 | zero=>simp [DataW.trod] at h
 | succ fuel =>
  simp only [DataW.trod,ht,Vw,PJ] at h
  split at h
  ·rename_i hl
   obtain ⟨xs,hm,hx⟩:=Option.map_eq_some_iff.1 h
   have sD:xs.map (·.1)=zs.map fun z=>(DataW.agg [.lit (.int k z.1),.lit (.int k z.2)]:DataW H):=by
    have:=congrArg Prod.fst hx
    simpa using this
   have Q2:xs.length=n:=by simpa using Lib.mapM_length hm
   have UB:zs.length=n:=by
    have:=congrArg List.length sD
    simp at this
    omega
   have Rq : ∀i,i<n→∃z,zs[i]? = some z∧(cs.drop (i*2)).take 2=[.int k z.1,.int k z.2]:=by
    intro i hi
    obtain ⟨b,hb,hf⟩:=Lib.mapM_at hm i i (by simp [hi])
    obtain ⟨y0,y1,m,rfl,hlen,g0,g1⟩:=trod_struct2 he hf
    obtain ⟨a0,c0,rfl,_⟩:=DataW.trod_int h0 g0
    obtain ⟨a1,c1,rfl,_⟩:=DataW.trod_int h1 g1
    have h2:(xs.map (·.1))[i]? = some (DataW.agg [.lit (.int k a0),.lit (.int k a1)]:DataW H):=by simp [hb]
    rw [sD] at h2
    simp only [List.getElem?_map,Option.map_eq_some_iff,DataW.agg.injEq,List.cons.injEq,DataW.lit.injEq,Lit.int.injEq,true_and,and_true] at h2
    obtain ⟨z,hz,rfl,rfl⟩:=h2
    refine ⟨z,hz,?_⟩
    rw [PD,GR] at c0;rw [wV,Nk] at c1
    rw [Vw] at hlen
    match h5:(cs.drop (i*2)).take 2,hlen with
    | [u,v],_ =>
     rw [h5] at c0 c1
     simp at c0 c1
     rw [c0,c1]
   clear hm h hx
   have key : ∀(m:Nat) (cs:List Value) (zs:List (Int×Int)),cs.length=m*2→zs.length=m→(∀i,i<m→∃z,zs[i]? = some z∧(cs.drop (i*2)).take 2=[.int k z.1,.int k z.2])→cs=zs.flatMap fun z=>[Value.int k z.1,.int k z.2]:=by
    intro m
    induction m with
    | zero=>intro cs zs h1 h2 _;simp at h1 h2;subst h1;subst h2;rfl
    | succ m ih =>
     intro cs zs h1 h2 h3
     match cs,zs,h1,h2,h3 with
     | [],_,h1,_,_=>exfalso;simp at h1
     | [_],_,h1,_,_=>exfalso;simp at h1;omega
     | _ :: _ :: _,[],_,h2,_=>exact absurd h2 (by simp)
     | a :: b :: cs,z :: zs,h1,h2,h3 =>
      obtain ⟨z',iE,e⟩:=h3 0 (by omega)
      simp at iE e
      subst iE
      rw [e.1,e.2,ih cs zs (by simp at h1;omega) (by simpa using h2) fun i hi=>by
       obtain ⟨z',iE,e'⟩:=h3 (i+1) (by omega)
       refine ⟨z',by simpa using iE,?_⟩
       rw [show (i+1)*2=i*2+2 by omega] at e'
       simpa using e']
      rfl
   exact key n cs zs hl UB Rq
  ·cases h
theorem oP {W:World} {P:Program} {name:String} {cs:Array Value} {g:Nat} (hg:P.globalNamed name=some g) (hv:W.var? P name=some cs) {vs:List AV} (h : ∀E,aJ E vs cs.toList) (h1 : ∀v ∈ vs,v.one=true) : ∃e,ND W g e vs:=by
 unfold World.var? at hv
 rw [hg] at hv
 simp only [Option.bind_some] at hv
 split at hv
 ·rename_i X e fr hX
  cases hv
  have hl:=(h (fun _=>none)).length
  exact ⟨e,cs,fr,hX,by simpa using hl,h,h1⟩
 ·cases hv
def uA (k:IntKind) (zs:List Int):List AV:=zs.map (AV.int k)
theorem uy (k:IntKind) (zs:List Int) (E:Env):aJ E (uA k zs) (zs.map (Value.int k)):=by
 induction zs with
 | nil=>rfl
 | cons z zs ih=>exact ⟨_,_,rfl,rfl,ih⟩
theorem uz (k:IntKind) (zs:List Int) : ∀v ∈ uA k zs,v.one=true:=by
 intro v hv
 simp only [uA,List.mem_map] at hv
 obtain ⟨z,_,rfl⟩:=hv
 rfl
theorem Below.old {W W' : World} (h:Below (eZ.up W.heap.size) W W'):Go.RowKit.Below W.heap.size W W':=⟨h.os,h.tape,h.output,h.size,h.block⟩
/-! ### What a law's row asks at the end -/
section
variable {H:Type} {enc:TypeId×Value→H} {P:Program}
theorem nE (hl:laidOutB P=true) {W W' : World} (hb:Go.RowKit.Below W.heap.size W W') {sp:Nat→Bool} : ∀ {ts:List TypeId} {vs:List Value} {ds:List (DataW H)} {ps:List MemPlace},(ts.all fun t=>P.readableRec t && decide (t<P.types.size))=true →
  DataW.TrodAll enc P W 0 (fun _=>true) true ts vs ds ps→(∀x ∈ ps,x.block<W.heap.size)→(∀x ∈ ps,sp x.block=true)→DataW.TrodAll enc P W' 0 sp true ts vs ds ps
 | [],_,_,_,_,h,_,_=>by
  obtain ⟨rfl,rfl,rfl⟩:=trodAll_nil h
  rfl
 | t :: ts,_,_,_,hr,h,cu,lA=>by
  obtain ⟨v,vs,d,ds,p,q,rfl,rfl,rfl,h1,h2⟩:=trodAll_cons h
  simp only [List.all_cons,Bool.and_eq_true,decide_eq_true_eq] at hr
  exact ⟨p,q,WideElems.Trod_stays hl hr.1.1 hr.1.2 h1 (fun x hx=>hb.same (cu x (by simp [hx]))) (fun x hx=>lA x (by simp [hx])),
   nE hl hb hr.2 h2 (fun x hx=>cu x (by simp [hx])) (fun x hx=>lA x (by simp [hx])),rfl⟩
theorem Ih (hl:laidOutB P=true) {f:Func} {s:ChangeSpec} {apart fresh handsOn again:Bool} {W W' : World} {args:Array Value} {ds gs:List (DataW H)} {before:List MemPlace} {tb:TypeId}
  (hW:DataW.Whole enc P f.params.toList s.vars apart W args.toList ds gs before) (hv:s.vars=[]) (hr:(f.params.toList.all fun t=>P.readableRec t && decide (t<P.types.size))=true)
  (hb:Go.RowKit.Below W.heap.size W W') (hs:s.fn H (ds ++ gs) = { results:=[.lit (.bool true)],args:=ds }) (ht:f.resultTypes = #[tb]) (hu:P.underlying tb=some .bool) :
  s.post enc P f apart fresh handsOn again W args (.bool true) W':=by
 have cu:=hW.lt
 have PT:=hW
 obtain ⟨p,q,hA,hV,rfl,hz,hn⟩:=PT
 rw [hv] at hV
 obtain ⟨rfl,rfl⟩:=trodVars_none hV
 simp only [List.append_nil] at hs cu hz hn hW
 have ZG:(s.fn H ds).vars=[]:=by rw [hs]
 have jw : ∀sp:Nat→Bool,(∀x ∈ p,sp x.block=true)→DataW.TrodAll enc P W' 0 sp true f.params.toList args.toList (s.fn H (ds ++ [])).args p:=fun sp lA=>by
  rw [List.append_nil,hs]
  exact nE hl hb hr hA (fun x hx=>cu x hx) lA
 have MV : ∀sp:Nat→Bool,DataW.TrodVars enc P W' sp s.vars (s.fn H (ds ++ [])).vars []:=fun sp=>by
  rw [List.append_nil,hv,ZG];rfl
 have uF : ∀(b:Nat) (sp:Nat→Bool) (hd:Bool),DataW.TrodAll enc P W' b sp hd f.resultTypes.toList ((Value.bool true).resultList f.resultTypes.size) (s.fn H (ds ++ [])).results []:=fun b sp hd=>by
  rw [List.append_nil,hs,ht]
  exact trodAll_cons_mk (shut_bool hu _) trodAll_mk0
 have hold : ∀x ∈ p,(fun b=>decide (b<W.heap.size)) x.block=true:=fun x hx=>by simpa using cu x hx
 refine ⟨ds,[],p,[],p,[],hW,uF _ _ _,jw _ hold,MV _,World.keptBut_mono (fun _ hp=>⟨hp,Or.inr (by simpa using hp)⟩) (hb.frame _),fun _=>?_⟩
 refine ⟨ok_one ht rfl (okWide_bool_mk hu _),_,_,([] ++ p) ++ [],⟨[] ++ p,[],trodAll_append (jw _ (fun _ _=>rfl)) (uF _ _ _),MV _,rfl,?_,?_⟩,?_⟩
 ·intro b off hp
  have uI:MemPlace.cell b off ∈ p:=by simpa using hp
  rw [hb.frozen (p:=⟨b,off,none⟩) (cu _ uI)]
  exact hz b off uI
 ·intro ha
  simpa using hn ha
 ·intro x hx _
  simpa using hx
end
end Go.Am
end
/- The abstract machine's run, made for the kernel: temporaries in a tree, small cases. -/
section
namespace Go.Am
open Go.RowKit
structure FT where
 n:Nat
 t:Tr AV
/- Trees by their recursors: what the kernel reckons quickest. -/
noncomputable def Tr.Jk {α:Type} (t:Tr α):Nat→Option α :=
 Tr.rec (motive:=fun _=>Nat→Option α) (fun _=>none) (fun _ v _ il ir k=>Bool.rec (Bool.rec (ir (Nat.sub (Nat.div k 2) 1)) (il (Nat.div k 2)) (Nat.beq (Nat.mod k 2) 1)) v (Nat.beq k 0)) t
noncomputable def Tr.tI {α:Type} (f:Nat):Tr α→Nat→α→Tr α :=
 Nat.rec (fun t _ _=>t) (fun _ ih t=>Tr.rec (motive:=fun _=>(Tr α→Nat→α→Tr α)→Nat→α→Tr α)
  (fun ih k x=>Bool.rec (Bool.rec (.node .nil none (ih .nil (Nat.sub (Nat.div k 2) 1) x)) (.node (ih .nil (Nat.div k 2) x) none .nil) (Nat.beq (Nat.mod k 2) 1)) (.node .nil (some x) .nil) (Nat.beq k 0))
  (fun l v r _ _ ih k x=>Bool.rec (Bool.rec (.node l v (ih r (Nat.sub (Nat.div k 2) 1) x)) (.node (ih l (Nat.div k 2) x) v r) (Nat.beq (Nat.mod k 2) 1)) (.node l (some x) r) (Nat.beq k 0)) t ih) f
theorem uL {k:Nat} (h:k % 2=0):Nat.beq (Nat.mod (k+1) 2) 1=true∧Nat.div (k+1) 2=k / 2:=by
 constructor
 ·rw [Nat.beq_eq];exact (show (k+1) % 2=1 by omega)
 ·show (k+1) / 2=k / 2;omega
theorem qF {k:Nat} (h : ¬ k % 2=0):Nat.beq (Nat.mod (k+1) 2) 1=false∧Nat.sub (Nat.div (k+1) 2) 1=k / 2:=by
 constructor
 ·cases hb:Nat.beq (Nat.mod (k+1) 2) 1 with
  | false=>rfl
  | true=>rw [Nat.beq_eq] at hb;have:(k+1) % 2=1:=hb;omega
 ·show (k+1) / 2 - 1=k / 2;omega
theorem Tr.y7 {α:Type} : ∀(t:Tr α) (k:Nat),t.Jk k=t.get k
 | .nil,_=>rfl
 | .node l v r,0=>rfl
 | .node l v r,k+1=>by
  show Bool.rec (motive:=fun _=>Option α) (Bool.rec (motive:=fun _=>Option α) (r.Jk (Nat.sub (Nat.div (k+1) 2) 1)) (l.Jk (Nat.div (k+1) 2)) (Nat.beq (Nat.mod (k+1) 2) 1)) v false=_
  simp only [Tr.get]
  by_cases h:k % 2=0
  ·obtain ⟨h1,h2⟩:=uL h
   rw [if_pos h,h1,h2];exact Tr.y7 l _
  ·obtain ⟨h1,h2⟩:=qF h
   rw [if_neg h,h1,h2];exact Tr.y7 r _
theorem Tr.mS {α:Type} : ∀(f:Nat) (t:Tr α) (k:Nat) (x:α),Tr.tI f t k x=Tr.set f t k x
 | 0,_,_,_=>rfl
 | f+1,.nil,0,x=>rfl
 | f+1,.node l v r,0,x=>rfl
 | f+1,.nil,k+1,x=>by
  show Bool.rec (motive:=fun _=>Tr α) (Bool.rec (motive:=fun _=>Tr α) (.node .nil none (Tr.tI f .nil (Nat.sub (Nat.div (k+1) 2) 1) x)) (.node (Tr.tI f .nil (Nat.div (k+1) 2) x) none .nil) (Nat.beq (Nat.mod (k+1) 2) 1)) (.node .nil (some x) .nil) false=_
  simp only [Tr.set]
  by_cases h:k % 2=0
  ·obtain ⟨h1,h2⟩:=uL h
   rw [if_pos h,h1,h2]
   show Tr.node (Tr.tI f _ (k / 2) x) _ _=_
   rw [Tr.mS f]
  ·obtain ⟨h1,h2⟩:=qF h
   rw [if_neg h,h1,h2]
   show Tr.node _ _ (Tr.tI f _ (k / 2) x)=_
   rw [Tr.mS f]
 | f+1,.node l v r,k+1,x=>by
  show Bool.rec (motive:=fun _=>Tr α) (Bool.rec (motive:=fun _=>Tr α) (.node l v (Tr.tI f r (Nat.sub (Nat.div (k+1) 2) 1) x)) (.node (Tr.tI f l (Nat.div (k+1) 2) x) v r) (Nat.beq (Nat.mod (k+1) 2) 1)) (.node l (some x) r) false=_
  simp only [Tr.set]
  by_cases h:k % 2=0
  ·obtain ⟨h1,h2⟩:=uL h
   rw [if_pos h,h1,h2]
   show Tr.node (Tr.tI f _ (k / 2) x) _ _=_
   rw [Tr.mS f]
  ·obtain ⟨h1,h2⟩:=qF h
   rw [if_neg h,h1,h2]
   show Tr.node _ _ (Tr.tI f _ (k / 2) x)=_
   rw [Tr.mS f]
noncomputable def FT.at (f:FT) (i:Nat):AV:=Option.rec .undef (fun v=>v) (Tr.Jk f.t i)
noncomputable def FT.put (f:FT) (dst:Option Tmp) (v:AV):FT:=FT.rec (motive:=fun _=>FT) (fun n t=>Option.rec ⟨n,t⟩ (fun d=>Bool.rec ⟨n,t⟩ ⟨n,Tr.tI (d+1) t d v⟩ (Nat.ble (d+1) n)) dst) f
noncomputable def FT.look (f:FT) (i:Nat):AV:=FT.rec (motive:=fun _=>AV) (fun n t=>Bool.rec .undef (Option.rec .undef (fun v=>v) (Tr.Jk t i)) (Nat.ble (i+1) n)) f
theorem FT.JJ (f:FT) (i:Nat):f.at i=(f.t.get i).getD .undef:=by
 unfold FT.at
 rw [Tr.y7]
 cases f.t.get i <;> rfl
theorem xy (a b:Nat):(Nat.ble a b=true∧a≤b)∨(Nat.ble a b=false∧¬ a≤b):=by
 cases h:Nat.ble a b with
 | true=>exact .inl ⟨rfl,Nat.le_of_ble_eq_true h⟩
 | false=>exact .inr ⟨rfl,fun k=>by rw [Nat.ble_eq_true_of_le k] at h;cases h⟩
theorem FT.Ic (f:FT) (d:Nat) (v:AV):f.put (some d) v=if d<f.n then ⟨f.n,Tr.set (d+1) f.t d v⟩ else f:=by
 obtain ⟨n,t⟩:=f
 unfold FT.put
 rcases xy (d+1) n with ⟨h,k⟩ | ⟨h,k⟩
 ·simp only [h];rw [if_pos (by omega),Tr.mS]
 ·simp only [h];rw [if_neg (by omega)]
noncomputable def FT.toL (f:FT):List AV:=(List.range f.n).map f.at
noncomputable def FT.fill (n:Nat):Nat→List AV→Tr AV→FT
 | _,[],t=>⟨n,t⟩
 | i,v :: l,t=>FT.fill n (i+1) l (Tr.tI (i+1) t i v)
noncomputable def FT.DU (l:List AV) (n:Nat):FT:=FT.fill n 0 l .nil
@[simp] theorem FT.length (f:FT):f.toL.length=f.n:=by simp [FT.toL]
theorem FT.LU (f:FT) (i:Nat):(f.toL[i]?).getD .undef=if i<f.n then f.at i else .undef:=by
 unfold FT.toL
 by_cases h:i<f.n
 ·simp [h]
 ·simp [h]
theorem FT.look_eq (f:FT) (i:Nat):f.look i=(f.toL[i]?).getD .undef:=by
 rw [FT.LU]
 obtain ⟨n,t⟩:=f
 unfold FT.look
 rcases xy (i+1) n with ⟨h,k⟩ | ⟨h,k⟩
 ·simp only [h];rw [if_pos (by omega)];rfl
 ·simp only [h];rw [if_neg (by omega)]
theorem FT.jk (f:FT) (dst:Option Tmp) (v:AV):(f.put dst v).toL=aV f.toL dst v:=by
 cases dst with
 | none=>rfl
 | some d =>
  rw [FT.Ic]
  simp only [aV]
  by_cases h:d<f.n
  ·rw [if_pos h]
   apply List.ext_getElem?
   intro i
   simp only [FT.toL,List.getElem?_map,List.getElem?_set,List.length_map,List.length_range]
   by_cases hi:i<f.n
   ·by_cases e:d=i
    ·subst e;simp [hi,FT.JJ,Tr.af]
    ·have e' : ¬ i=d:=fun h=>e h.symm
     simp [hi,e,e',FT.JJ,Tr.af]
   ·by_cases e:d=i
    ·subst e;exact absurd h hi
    ·simp [hi,e]
  ·rw [if_neg h]
   rw [List.set_eq_of_length_le (by simpa using h)]
theorem FT.Jn (n:Nat) : ∀(l:List AV) (i:Nat) (t:Tr AV),(FT.fill n i l t).n=n
 | [],_,_=>rfl
 | _ :: l,_,_=>FT.Jn n l _ _
theorem FT.Em (n:Nat) : ∀(l:List AV) (i:Nat) (t:Tr AV) (j:Nat),(FT.fill n i l t).at j=if i≤j∧j<i+l.length then (l[j - i]?).getD .undef else (t.get j).getD .undef
 | [],i,t,j=>by
  have : ¬ (i≤j∧j<i+0):=by omega
  simp only [List.length_nil,this,if_false];exact FT.JJ _ _
 | v :: l,i,t,j=>by
  rw [FT.fill,FT.Em n l,Tr.mS]
  by_cases e:j=i
  ·subst e
   have h1 : ¬ (j+1≤j∧j<j+1+l.length):=by omega
   simp [h1,Tr.af]
  ·by_cases h:i≤j∧j<i+(v :: l).length
   ·have h1:i+1≤j∧j<i+1+l.length:=by simp at h;omega
    rw [if_pos h,if_pos h1]
    have:j - i=(j - (i+1))+1:=by omega
    rw [this];rfl
   ·have h1 : ¬ (i+1≤j∧j<i+1+l.length):=by simp at h;omega
    rw [if_neg h,if_neg h1]
    simp [Tr.af,e]
theorem FT.sW (l:List AV) (n:Nat):(FT.DU l (l.length+n)).toL=l ++ List.replicate n .undef:=by
 apply List.ext_getElem?
 intro i
 unfold FT.DU FT.toL
 rw [FT.Jn]
 simp only [List.getElem?_map]
 by_cases h:i<l.length+n
 ·simp only [h,List.getElem?_range,Option.map_some,FT.Em]
  by_cases h1:i<l.length
  ·rw [List.getElem?_append_left h1];simp [h1]
  ·rw [if_neg (by omega)]
   rw [List.getElem?_append_right (by omega),List.getElem?_replicate,if_pos (by omega)]
   rfl
 ·rw [List.getElem?_eq_none (l:=List.range _) (by simp;omega),List.getElem?_eq_none (l:=l ++ _) (by simp;omega)]
  rfl
/-! ### One operation -/
section
variable (P:Program)
noncomputable def jf (f:FT) (x:Operand):Option AV :=
 Operand.rec (motive:=fun _=>Program→FT→Option AV) (fun t _ f=>some (f.look t)) (fun v _ _=>mW v) (fun g P _=>if g<P.globals.size then some (.ptr (some (g,0))) else none) (fun g _ _=>some (.func (.func g) [] [])) x P f
theorem mF (f:FT):jf P f=ev P f.toL:=by
 funext x
 cases x with
 | tmp t =>
  simp only [jf,ev,FT.look_eq]
 | const v=>rfl
 | global g=>rfl
 | func g=>rfl
variable (e:Operand→Option AV) (H:AH)
def qM:List Operand→Option (List AV)
 | []=>some []
 | x :: l=>(e x).bind fun v=>(qM l).map (v :: ·)
def Dm:Option Operand→Option (Option AV)
 | none=>some none
 | some x=>(e x).map some
def Dk:List (Nat×Operand)→Option (List (Nat×AV))
 | []=>some []
 | (i,x) :: l=>(e x).bind fun v=>(Dk l).map ((i,v) :: ·)
theorem kU {T:List AV} : ∀xs,qM (ev P T) xs=qd P T xs
 | []=>rfl
 | x :: l=>by simp only [qM,qd,kU l]
theorem LX {T:List AV} : ∀x,Dm (ev P T) x=Kc P T x
 | none=>rfl
 | some _=>rfl
theorem zg {T:List AV} : ∀xs,Dk (ev P T) xs=En P T xs
 | []=>rfl
 | (i,x) :: l=>by simp only [Dk,En,zg l]
def rL (x:Operand):Option (AV×AH):=(e x).map (·,H)
def nJ (c a b:Operand):Option (AV×AH):=(e c).bind fun c=>match c with
  | .bool true=>(e a).map (·,H)
  | .bool false=>(e b).map (·,H)
  | _=>none
def yK (t:TypeId):Option (AV×AH):=(zeroOf P t).bind fun z=>if z.cells.all AV.one then some (.ptr (some (H.n,0)),H.alloc (.cells z.cells t { whole:=true })) else none
def KZ (t:TypeId) (x:Operand):Option (AV×AH):=(e x).bind fun v=>if v.cells.all AV.one then some (.ptr (some (H.n,0)),H.alloc (.cells v.cells t { whole:=true })) else none
def ue (t:TypeId) (ps:Array (Nat×Operand)):Option (AV×AH):=(Dk e ps.toList).bind fun l=>(vg P t l).map (·,H)
def gL (t:TypeId) (n:Nat) (ps:Array (Nat×Operand)):Option (AV×AH):=(Dk e ps.toList).bind fun l=>gS P H t n l
def DV (t:TypeId) (a:Operand):Option (AV×AH):=(e a).bind fun a=>(j7 P H t a).map (·,H)
def yC (t:TypeId) (a v:Operand):Option (AV×AH):=(e a).bind fun a=>(e v).bind fun v=>(tE P H t a v).map (AV.undef,·)
def FB (x:Operand):Option (AV×AH):=(e x).bind fun v=>if wI P v then some (v,H) else none
def K9 (op:BinOp) (t:TypeId) (x y:Operand):Option (AV×AH):=(e x).bind fun a=>(e y).bind fun b=>(sJ P op t x y a b).map (·,H)
def S5 (op:UnOp) (x:Operand):Option (AV×AH):=(e x).bind fun a=>(P7 op a).map (·,H)
def DW (s d:TypeId) (x:Operand):Option (AV×AH):=(e x).bind fun a=>gR P H s d a
def yH (t:TypeId) (x:Operand):Option (AV×AH):=(e x).bind fun a=>match P.underlying t with
  | some (.interface _)=>none
  | some _=>some (.iface t a,H)
  | none=>none
def AF (f:Fn) (xs ys:Array Operand):Option (AV×AH):=(qM e xs.toList).bind fun a=>(qM e ys.toList).bind fun b=>some (.func f a b,H)
def pE (t:TypeId) (l c:Operand):Option (AV×AH):=(e l).bind fun l=>(e c).bind fun c=>cP P H t l c
def uc (t:TypeId) (x:Operand) (lo hi mx:Option Operand):Option (AV×AH):=(e x).bind fun a=>(Dm e lo).bind fun lo=>(Dm e hi).bind fun hi=>(Dm e mx).bind fun mx=>(bZ P H t a lo hi mx).map (·,H)
def kM (t:TypeId) (x:Operand) (f:Nat):Option (AV×AH):=(e x).bind fun a=>(iV P t a f).map (·,H)
def yI (t:TypeId) (x:Operand) (f:Nat):Option (AV×AH):=(e x).bind fun a=>(uR P t a f).map (·,H)
def kL (t:TypeId) (x i:Operand):Option (AV×AH):=(e x).bind fun a=>(e i).bind fun i=>(fh P t a i).map (·,H)
def yG (t:TypeId) (x i:Operand):Option (AV×AH):=(e x).bind fun a=>(e i).bind fun i=>(mq P t a i).map (·,H)
def yD (t:TypeId) (x:Operand):Option (AV×AH):=(e x).bind fun a=>match P.underlying t,a with
  | some .string,.str s=>some (.ptr (some (H.n,0)),H.alloc (.iter s 0))
  | _,_=>none
def AE (x:Operand):Option (AV×AH):=(e x).bind fun a=>match a with
  | .ptr (some (b,0))=>match H.get b with
   | some (.iter s pos) =>
    if pos<s.length then some (.tuple [.bool true,.int .i64 pos,.int .i32 (ah s pos).1],H.set b (.iter s (pos+(ah s pos).2)))
    else some (.tuple [.bool false],H)
   | _=>none
  | _=>none
def yJ (x:Operand) (t:TypeId) (ok:Bool):Option (AV×AH):=(e x).bind fun a=>(jg P t ok a).map (·,H)
def ud (r:Option Operand):Option (AV×AH):=match r with
 | none=>some (.map (some H.n),H.alloc (.map [] 0))
 | some _=>none
def yF (t:TypeId) (x i:Operand) (ok:Bool):Option (AV×AH):=(e x).bind fun a=>(e i).bind fun i=>(ta P H t ok a i).map (·,H)
def yE (t:TypeId) (m k x:Operand):Option (AV×AH):=(e m).bind fun m=>(e k).bind fun k=>(e x).bind fun x=>(sY P H t m k x).map (AV.undef,·)
def pF (x:Operand) (i:Nat):Option (AV×AH):=(e x).bind fun a=>match a with
  | .tuple vs=>(vs[i]?).map (·,H)
  | _=>none
def l5 (b:Builtin) (args:Array Operand) (ts:Array TypeId):Option (AV×AH):=(qM e args.toList).bind fun l=>iX P H b ts.toList l
def lZ (op:Op):Option (AV×AH) :=
 match op with
 | .move x=>rL e H x
 | .assign x=>rL e H x
 | .pick c a b=>nJ e H c a b
 | .alloc t=>yK P H t
 | .box t x=>KZ e H t x
 | .build t ps=>ue P e H t ps
 | .buildSlice t n ps=>gL P e H t n ps
 | .load t a=>DV P e H t a
 | .store t a v=>yC P e H t a v
 | .nilCheck x=>FB P e H x
 | .binOp op t x y _=>K9 P e H op t x y
 | .unOp op _ x=>S5 e H op x
 | .convert s d x=>DW P e H s d x
 | .makeInterface t x=>yH P e H t x
 | .makeFunc f xs ys=>AF e H f xs ys
 | .makeSlice t l c=>pE P e H t l c
 | .slice t x lo hi mx=>uc P e H t x lo hi mx
 | .fieldAddr t x f=>kM P e H t x f
 | .field t x f=>yI P e H t x f
 | .indexAddr t x i=>kL P e H t x i
 | .index t x i=>yG P e H t x i
 | .range t x=>yD P e H t x
 | .next x true=>AE e H x
 | .typeAssert x _ t ok=>yJ P e H x t ok
 | .extract x i=>pF e H x i
 | .makeMap _ r=>ud H r
 | .lookup t x i ok=>yF P e H t x i ok
 | .mapUpdate t m k x=>yE P e H t m k x
 | .call ⟨.builtin b,args,ts⟩=>l5 P e H b args ts
 | _=>none
theorem om (T:List AV) (o:Oper):lZ P (ev P T) H o.op=p9 P T H o:=by
 obtain ⟨dst,op,ty,pos,after,guard⟩:=o
 cases op <;> simp only [lZ,p9] <;> first
  | rfl
  | rfl
  | (simp only [ue,zg];done)
  | (simp only [gL,zg];done)
  | (simp only [AF,kU];done)
  | (simp only [uc,LX];done)
  | skip
 case next x str=>cases str <;> rfl
 case makeMap t r=>cases r <;> rfl
 case call c =>
  obtain ⟨callee,args,ts⟩:=c
  cases callee with
  | builtin b=>simp only [l5,kU]
  | value f=>rfl
  | invoke x m=>rfl
noncomputable def N7 (op:Op):Program→(Operand→Option AV)→AH→Option (AV×AH) :=
 Op.rec (motive:=fun _=>Program→(Operand→Option AV)→AH→Option (AV×AH))
  (fun x0 _ e H=>rL e H x0)
  (fun x0 _ e H=>rL e H x0)
  (fun x0 x1 x2 _ e H=>nJ e H x0 x1 x2)
  (fun x0 P _ H=>yK P H x0)
  (fun x0 x1 _ e H=>KZ e H x0 x1)
  (fun x0 x1 P e H=>ue P e H x0 x1)
  (fun x0 x1 x2 P e H=>gL P e H x0 x1 x2)
  (fun _ _ _ _ _ _ _=>none)
  (fun x0 x1 P e H=>DV P e H x0 x1)
  (fun x0 x1 x2 P e H=>yC P e H x0 x1 x2)
  (fun _ _ _ _=>none)
  (fun _ _ _ _=>none)
  (fun x0 P e H=>FB P e H x0)
  (fun x0 x1 x2 x3 _ P e H=>K9 P e H x0 x1 x2 x3)
  (fun x0 _ x2 _ e H=>S5 e H x0 x2)
  (fun x0 x1 x2 P e H=>DW P e H x0 x1 x2)
  (fun _ _ _ _ _=>none)
  (fun x0 x1 P e H=>yH P e H x0 x1)
  (fun x0 x1 x2 _ e H=>AF e H x0 x1 x2)
  (fun _ x1 _ _ H=>ud H x1)
  (fun _ _ _ _ _=>none)
  (fun x0 x1 x2 P e H=>pE P e H x0 x1 x2)
  (fun x0 x1 x2 x3 x4 P e H=>uc P e H x0 x1 x2 x3 x4)
  (fun x0 x1 x2 P e H=>kM P e H x0 x1 x2)
  (fun x0 x1 x2 P e H=>yI P e H x0 x1 x2)
  (fun x0 x1 x2 P e H=>kL P e H x0 x1 x2)
  (fun x0 x1 x2 P e H=>yG P e H x0 x1 x2)
  (fun x0 x1 x2 x3 P e H=>yF P e H x0 x1 x2 x3)
  (fun x0 x1 x2 x3 P e H=>yE P e H x0 x1 x2 x3)
  (fun _ _ _ _ _ _=>none)
  (fun _ _ _ _ _ _ _=>none)
  (fun x0 x1 P e H=>yD P e H x0 x1)
  (fun x0 x1 _ e H=>Bool.rec none (AE e H x0) x1)
  (fun _ _ _ _=>none)
  (fun x0 _ x2 x3 P e H=>yJ P e H x0 x2 x3)
  (fun x0 x1 _ e H=>pF e H x0 x1)
  (fun x0 P e H=>Call.rec (motive:=fun _=>Option (AV×AH)) (fun c args ts=>Callee.rec (motive:=fun _=>Option (AV×AH)) (fun _=>none) (fun _ _=>none) (fun b=>l5 P e H b args ts) c) x0)
  (fun _ _ _ _=>none)
  (fun _ _ _ _=>none)
  (fun _ _ _ _=>none)
  (fun _ _ _ _ _=>none)
  (fun _ _ _ _ _ _=>none)
  (fun _ _ _ _ _=>none) op
theorem DT (op:Op):N7 op P e H=lZ P e H op:=by
 cases op
 case next x str=>cases str <;> rfl
 case call c =>
  obtain ⟨callee,args,ts⟩:=c
  cases callee <;> rfl
 all_goals rfl
end
end Go.Am
end
/- The abstract machine's run, made for the kernel. -/
section
namespace Go.Am
open Go.RowKit
structure FS where
 F:FT
 M:List Mk
 H:AH
noncomputable def FS.dn (s:FS):St:=⟨s.F.toL,s.M,s.H⟩
abbrev BK:=Option Nat→Code→FS→Option (dy×FS)
noncomputable def Dn (p:dy×FS):dy×St:=(p.1,p.2.dn)
def jC (rec:Rec) (recF:BK):Prop:=∀r c s,rec r c s.dn=(recF r c s).map Dn
section
variable (P:Program) (X:Ext) (recF:BK)
noncomputable def Fi (F:FT) (H:AH):List ResultVar→Option (List AV)
 | []=>some []
 | .tmp t :: l=>(Fi F H l).map (F.look t :: ·)
 | .cell a t :: l=>(j7 P H t (F.look a)).bind fun v=>(Fi F H l).map (v :: ·)
theorem yd (F:FT) (H:AH) : ∀l,Fi P F H l=dG P F.toL H l
 | []=>rfl
 | .tmp t :: l=>by simp only [Fi,dG,yd F H l,FT.look_eq]
 | .cell a t :: l=>by simp only [Fi,dG,yd F H l,FT.look_eq]
noncomputable def O2:NH:=fun c T H =>
 match recF none c ⟨FT.DU T (T.length+0),[],H⟩ with
 | some (.normal,s)=>some s.dn
 | _=>none
noncomputable def Si:NH:=fun c T H =>
 match recF none c ⟨FT.DU T (T.length+0),[],H⟩ with
 | some (.normal,s)=>some s.dn
 | some (.ret,s)=>some s.dn
 | _=>none
noncomputable def L6 (fn:Func) (s:FS):Option (AV×AH):=(kS P (Si recF) s.M s.H).bind fun H'=>(Fi P s.F H' fn.results.toList).map fun vs=>(oneOf vs,H')
noncomputable def Nw (fn:Func) (c:Code) (args:List AV) (H:AH):Option (AV×AH) :=
 match recF none c ⟨FT.DU args (args.length+(fn.ntmps - args.length)),[],H⟩ with
 | some (.normal,s)=>L6 P recF fn s
 | some (.ret,s)=>L6 P recF fn s
 | _=>none
noncomputable def mG (f:FuncId) (args:List AV) (H:AH):Option (AV×AH) :=
 match P.funcs[f]? with
 | some fn =>
  match fn.body with
  | some c=>bif qJ P f then (match Bt fn c with | some (A,ops,o,rest)=>zu P (O2 recF) (Si recF) fn A ops o rest args H | none=>Nw P recF fn c args H) else none
  | none=>X f args H
 | none=>none
noncomputable def BA (f:FuncId) (args:List AV) (H:AH):Option (AV×AH):=Option.rec (mG P X recF f args H) (fun r=>some r) (X f args H)
noncomputable def BX (b:Nat) (vs:List AV) (H:AH):Option (AV×AH) :=
 match H.get b with
 | some (.loop _ _ T' ps as bd _) =>
  if vs.length=ps.size then
   match recF (some b) as ⟨FT.DU (iK ps.toList vs T') ((iK ps.toList vs T').length+0),[],H⟩ with
   | some (.normal,s) =>
    match s.H.get b with
    | some (.loop .ready pe T₁ jl jA jz d₁)=>(recF (some b) bd ⟨s.F,s.M,s.H.set b (.loop .busy pe T₁ jl jA jz d₁)⟩).bind fun p=>nc b p.1 p.2.dn
    | _=>none
   | _=>none
  else none
 | _=>none
noncomputable def JE (fv:AV) (vs:List AV) (H:AH):Option (AV×AH) :=
 match fv with
 | .func (.func g) x y=>BA P X recF g (x ++ vs ++ y) H
 | .cY b=>BX recF b vs H
 | .func f x _=>(vh P f x).bind fun q=>BA P X recF q.1 (q.2 :: vs) H
 | _=>none
noncomputable def Ol (name:String) (fv:AV) (vs:List AV) (H:AH):Option (AV×AH) :=
 match fv with
 | .iface t u=>(l7 P t name).bind fun g=>BA P X recF g (u :: vs) H
 | _=>none
noncomputable def Qx (op:Op) (F:FT) (H:AH):Option (AV×AH) :=
 match op with
 | .call ⟨.invoke f name,xs,_⟩=>(jf P F f).bind fun fv=>(qM (jf P F) xs.toList).bind fun vs=>Ol P X recF name fv vs H
 | .call ⟨.value f,xs,_⟩=>(jf P F f).bind fun fv=>(qM (jf P F) xs.toList).bind fun vs=>JE P X recF fv vs H
 | op=>lZ P (jf P F) H op
noncomputable def N6 (op:Op):Program→Ext→BK→FT→AH→Option (AV×AH) :=
 Op.rec (motive:=fun _=>Program→Ext→BK→FT→AH→Option (AV×AH))
  (fun x0 P _ _ F H=>rL (jf P F) H x0)
  (fun x0 P _ _ F H=>rL (jf P F) H x0)
  (fun x0 x1 x2 P _ _ F H=>nJ (jf P F) H x0 x1 x2)
  (fun x0 P _ _ _ H=>yK P H x0)
  (fun x0 x1 P _ _ F H=>KZ (jf P F) H x0 x1)
  (fun x0 x1 P _ _ F H=>ue P (jf P F) H x0 x1)
  (fun x0 x1 x2 P _ _ F H=>gL P (jf P F) H x0 x1 x2)
  (fun _ _ _ _ _ _ _ _ _=>none)
  (fun x0 x1 P _ _ F H=>DV P (jf P F) H x0 x1)
  (fun x0 x1 x2 P _ _ F H=>yC P (jf P F) H x0 x1 x2)
  (fun _ _ _ _ _ _=>none)
  (fun _ _ _ _ _ _=>none)
  (fun x0 P _ _ F H=>FB P (jf P F) H x0)
  (fun x0 x1 x2 x3 _ P _ _ F H=>K9 P (jf P F) H x0 x1 x2 x3)
  (fun x0 _ x2 P _ _ F H=>S5 (jf P F) H x0 x2)
  (fun x0 x1 x2 P _ _ F H=>DW P (jf P F) H x0 x1 x2)
  (fun _ _ _ _ _ _ _=>none)
  (fun x0 x1 P _ _ F H=>yH P (jf P F) H x0 x1)
  (fun x0 x1 x2 P _ _ F H=>AF (jf P F) H x0 x1 x2)
  (fun _ x1 _ _ _ _ H=>ud H x1)
  (fun _ _ _ _ _ _ _=>none)
  (fun x0 x1 x2 P _ _ F H=>pE P (jf P F) H x0 x1 x2)
  (fun x0 x1 x2 x3 x4 P _ _ F H=>uc P (jf P F) H x0 x1 x2 x3 x4)
  (fun x0 x1 x2 P _ _ F H=>kM P (jf P F) H x0 x1 x2)
  (fun x0 x1 x2 P _ _ F H=>yI P (jf P F) H x0 x1 x2)
  (fun x0 x1 x2 P _ _ F H=>kL P (jf P F) H x0 x1 x2)
  (fun x0 x1 x2 P _ _ F H=>yG P (jf P F) H x0 x1 x2)
  (fun x0 x1 x2 x3 P _ _ F H=>yF P (jf P F) H x0 x1 x2 x3)
  (fun x0 x1 x2 x3 P _ _ F H=>yE P (jf P F) H x0 x1 x2 x3)
  (fun _ _ _ _ _ _ _ _=>none)
  (fun _ _ _ _ _ _ _ _ _=>none)
  (fun x0 x1 P _ _ F H=>yD P (jf P F) H x0 x1)
  (fun x0 x1 P _ _ F H=>Bool.rec none (AE (jf P F) H x0) x1)
  (fun _ _ _ _ _ _=>none)
  (fun x0 _ x2 x3 P _ _ F H=>yJ P (jf P F) H x0 x2 x3)
  (fun x0 x1 P _ _ F H=>pF (jf P F) H x0 x1)
  (fun x0 P X recF F H=>Call.rec (motive:=fun _=>Option (AV×AH)) (fun c args ts=>Callee.rec (motive:=fun _=>Option (AV×AH)) (fun f=>(jf P F f).bind fun fv=>(qM (jf P F) args.toList).bind fun vs=>JE P X recF fv vs H) (fun f name=>(jf P F f).bind fun fv=>(qM (jf P F) args.toList).bind fun vs=>Ol P X recF name fv vs H) (fun b=>l5 P (jf P F) H b args ts) c) x0)
  (fun _ _ _ _ _ _=>none)
  (fun _ _ _ _ _ _=>none)
  (fun _ _ _ _ _ _=>none)
  (fun _ _ _ _ _ _ _=>none)
  (fun _ _ _ _ _ _ _ _=>none)
  (fun _ _ _ _ _ _ _=>none) op
theorem DS (op:Op) (F:FT) (H:AH):N6 op P X recF F H=Qx P X recF op F H:=by
 cases op
 case next x str=>cases str <;> rfl
 case call c =>
  obtain ⟨callee,args,ts⟩:=c
  cases callee <;> rfl
 all_goals rfl
def Oj (want:Bool):AV→Option Bool
 | .bool b=>some (b == want)
 | .any=>none
 | _=>some false
noncomputable def oL (ops:Array Oper) (F:FT) (g:Option (Nat×Bool)):Option Bool :=
 Option.rec (some true) (fun g=>Prod.rec (fun j want=>Option.rec (some false) (fun d=>Oj want (F.look d)) ((ops[j]?).bind (·.dst))) g) g
theorem nW (ops:Array Oper) (F:FT) (o:Oper):oL ops F o.guard=aT ops F.toL o:=by
 unfold oL aT
 cases o.guard with
 | none=>rfl
 | some g =>
  obtain ⟨j,want⟩:=g
  cases hd:(ops[j]?).bind (·.dst) with
  | none=>simp [hd]
  | some d =>
   simp only [hd,Option.bind_some,FT.look_eq]
   cases hT:F.toL[d]? with
   | none=>rfl
   | some v=>cases v <;> rfl
abbrev SL:=FT→AH→Option (FT×AH)
noncomputable def yy (ops:Array Oper) (o:Oper) (ih:SL) (F:FT) (H:AH):Option (FT×AH) :=
 Option.rec none (fun b=>Bool.rec (ih (F.put o.dst .undef) H) (Option.rec none (fun p=>Prod.rec (fun v H'=>ih (F.put o.dst v) H') p) (N6 o.op P X recF F H)) b) (oL ops F o.guard)
noncomputable def Fw (ops:Array Oper) (l:List Oper):SL:=List.rec (fun F H=>some (F,H)) (fun o _ ih=>yy P X recF ops o ih) l
abbrev BL:=List (Nat×Oper×FT×AV)
noncomputable def MH (ops:Array Oper) (H:AH) (o:Oper) (F:FT) (v:AV):Bool :=
 match oL ops F o.guard with
 | some true=>(match N7 o.op P (jf P F) H with | some (u,_)=>gV u v && qR o.op u | none=>false)
 | some false=>true
 | none=>false
noncomputable def AD (ops:Array Oper) (A:List Nat) (i:Nat) (H:AH):BL→Bool
 | []=>true
 | (j,o,F,v) :: aZ=>(eY A i j || MH P ops H o F v) && AD ops A i H aZ
abbrev EG:=BL→FT→AH→Option (FT×AH)
noncomputable def Br (ops:Array Oper) (A:List Nat) (i k:Nat) (o:Oper) (ih:EG) (aZ:BL) (F:FT) (H:AH):Option (FT×AH) :=
 Option.rec none (fun b=>Bool.rec (ih (if k=2∨k=0 then aZ else (i,o,F,.undef) :: aZ) (F.put o.dst .undef) H)
  (Bool.rec (Option.rec none (fun p=>Prod.rec (fun v _=>bif qR o.op v then ih (if k=0 then aZ else (i,o,F,v) :: aZ) (F.put o.dst v) H else none) p) (N7 o.op P (jf P F) H))
   (Option.rec none (fun p=>Prod.rec (fun v H'=>bif AD P ops A i H' aZ then ih aZ (F.put o.dst v) H' else none) p) (N6 o.op P X recF F H)) (Nat.beq k 2)) b) (oL ops F o.guard)
noncomputable def qQ (ops:Array Oper) (A:List Nat) (q:Nat×Nat) (ih:EG):EG :=
 match ops[q.1]? with
 | none=>fun _ _ _=>none
 | some o=>Br P X recF ops A q.1 q.2 o ih
noncomputable def uU (ops:Array Oper) (A:List Nat) (σ:List (Nat×Nat)):EG:=List.rec (fun _ F H=>some (F,H)) (fun q _ ih=>qQ P X recF ops A q ih) σ
noncomputable def Ce (r:Option Nat) (c:Code) (m:Nat):Code→FS→Option (dy×FS):=Nat.rec (fun _ _=>none) (fun _ ih cur s =>
  match recF r cur s with
  | some (.goto l,s') =>
   match findLabel c l with
   | some rest=>ih rest s'
   | none=>some (.goto l,s')
  | x=>x) m
noncomputable def Iw (r:Option Nat) (c:Code) (m:Nat):FS→Option (dy×FS):=Nat.rec (fun _=>none) (fun _ ih s =>
  match recF r c s with
  | some (.normal,s')=>ih s'
  | x=>x) m
noncomputable def ng (r:Option Nat) (l:Nat) (F:FT) (M:List Mk) (H:AH):Option (dy×FS) :=
 match H.get l with
 | some (.loop st pe _ _ _ _ _) =>
  if CX st then none
  else match pe with
   | none=>some (.normal,⟨F,M,H.set l .dead⟩)
   | some c=>recF r c ⟨F,M,H.set l .dead⟩
 | _=>none
noncomputable def Cx (r:Option Nat) (g:Operand) (ps:Array Tmp) (as bd:Code) (s:FS):Option (dy×FS) :=
 (jf P s.F g).bind fun gv =>
  match gv,r with
  | .func (.func gf) x y,none =>
   if qJ P gf then (mG P X recF gf (x ++ [.cY (s.H.n+1)] ++ y) ((s.H.alloc .deferred).alloc (.loop .ready none s.F.toL ps as bd s.H.n))).bind fun p=>ng recF none (s.H.n+1) s.F (.mark s.H.n :: s.M) p.2 else none
  | .func (.func gf) x y,some b₀ =>
   match s.H.get b₀ with
   | some (.loop _ _ _ _ _ _ d₀) =>
    if qJ P gf then (mG P X recF gf (x ++ [.cY s.H.n] ++ y) (s.H.alloc (.loop .ready none s.F.toL ps as bd d₀))).bind fun p=>ng recF (some b₀) s.H.n s.F s.M p.2 else none
   | _=>none
  | _,_=>none
noncomputable def Qi (r:Option Nat) (a b:Code) (s:FS):Option (dy×FS) :=
 Option.rec none (fun p=>Prod.rec (fun e s'=>dy.rec (recF r b s') (fun id=>some (.exit id,s')) (fun l=>some (.goto l,s')) (some (.ret,s')) e) p) (recF r a s)
def Pg:AV→Option Bool
 | .bool b=>some b
 | _=>none
noncomputable def Nt (r:Option Nat) (c:Operand) (x y:Code) (s:FS):Option (dy×FS) :=
 Option.rec none (fun v=>Option.rec none (fun b=>Bool.rec (recF r y s) (recF r x s) b) (Pg v)) (jf P s.F c)
def JI (M:List Mk) (p:FT×AH):dy×FS:=(.normal,⟨p.1,M,p.2⟩)
noncomputable def DP (o:Oper) (M:List Mk) (F:FT) (H:AH):Option FS :=
 match o with
 | ⟨dst,.defer ⟨.value fo,xs,_⟩,_,_,_,none⟩=>(jf P F fo).bind fun fv=>(qM (jf P F) xs.toList).bind fun vs =>
  match fv with
  | .func (.func g) x y=>some ⟨F.put dst .undef,.call g (x ++ vs) y :: M,H⟩
  | _=>none
 | _=>none
noncomputable def Js (o:Oper) (r:Option Nat) (ops:Array Oper) (s:FS):Option (dy×FS) :=
 match r with
 | none=>(Fw P X recF ops ops.toList.dropLast s.F s.H).bind fun p=>(DP P o s.M p.1 p.2).map fun s=>(.normal,s)
 | some _=>none
noncomputable def Gv:List oH→FT→FT
 | [],F=>F
 | q :: l,F=>Gv l (F.put (some q.d) .any)
noncomputable def rP:List oH→FT→AH→FT×AH
 | [],F,H=>(F,H)
 | q :: l,F,H=>rP l (F.put (some q.d) (.ptr (some (H.n,0)))) (H.alloc (.cells (zc P q.e) q.e { whole:=true }))
noncomputable def za (ops:Array Oper) (p:si) (F:FT) (H:AH):Option (FT×AH) :=
 (uU P X recF (ops.extract 0 p.n) p.A p.front [] (Gv p.cC F) H).bind fun u=>if Iz H u.2 then uU P X recF ops p.A p.back [] (rP P p.cC u.1 u.2).1 (rP P p.cC u.1 u.2).2 else none
noncomputable def pR (ops:Array Oper) (s:FS):Option (dy×FS):=(ql P ops).bind fun p=>(za P X recF ops p s.F s.H).map (JI s.M)
noncomputable def rZ (ops:Array Oper) (s:FS):Option (dy×FS) :=
 match oA ops with
 | some (σ,A)=>(uU P X recF ops A σ [] s.F s.H).map (JI s.M)
 | none=>pR P X recF ops s
noncomputable def oR (n:Nat):BK:=fun r c s =>
 Code.rec (motive:=fun _=>Program→Ext→BK→Nat→Option Nat→FS→Option (dy×FS))
  (fun _ _ _ _ _ s=>some (.normal,s))
  (fun _ ops d P X recF _ r s=>Bool.rec (Option.rec ((Fw P X recF ops ops.toList s.F s.H).map (JI s.M)) (fun o=>Js P X recF o r ops s) (pY ops)) (rZ P X recF ops s) d)
  (fun a b _ _ _ _ recF _ r s=>Qi recF r a b s)
  (fun c x y _ _ P _ recF _ r s=>Nt P recF r c x y s)
  (fun id c _ _ _ recF _ r s=>(recF r c s).map fun p=>(iT id p.1,p.2))
  (fun c _ _ _ recF n r s=>Iw recF r c n s)
  (fun g ps as bd _ _ P X recF _ r s=>Cx P X recF r g ps as bd s)
  (fun id _ _ _ _ _ s=>some (.exit id,s))
  (fun c _ _ _ recF n r s=>Ce recF r c n c s)
  (fun _ _ _ _ _ _ s=>some (.normal,s))
  (fun l _ _ _ _ _ s=>some (.goto l,s))
  (fun _ _ _ _ _ s=>some (.ret,s))
  (fun _ _ _ _ _ _ _=>none) c P X recF n r s
end
noncomputable def yb (P:Program) (X:Ext) (n:Nat):BK:=Nat.rec (fun _ _ _=>none) (fun n ih=>oR P X ih n) n
noncomputable def jX (P:Program) (X:Ext) (n:Nat) (f:FuncId) (args:List AV) (H:AH):Option (AV×AH):=mG P X (yb P X n) f args H
end Go.Am
end
/- The abstract machine's two runs are one. -/
section
namespace Go.Am
open Go.RowKit
section
variable {P:Program} {X:Ext} {rec:Rec} {recF:BK}
theorem O3 (h:jC rec recF):Kb rec=Si recF:=by
 funext c T H
 unfold Kb Si
 have e:rec none c ⟨T,[],H⟩=(recF none c ⟨FT.DU T (T.length+0),[],H⟩).map Dn:=by
  rw [← h];simp only [FS.dn,FT.sW,List.replicate_zero,List.append_nil]
 rw [e]
 cases recF none c ⟨FT.DU T (T.length+0),[],H⟩ with
 | none=>rfl
 | some p =>
  obtain ⟨e,s⟩:=p
  cases e <;> rfl
theorem LS (h:jC rec recF):goN rec=O2 recF:=by
 funext c T H
 unfold goN O2
 have e:rec none c ⟨T,[],H⟩=(recF none c ⟨FT.DU T (T.length+0),[],H⟩).map Dn:=by
  rw [← h];simp only [FS.dn,FT.sW,List.replicate_zero,List.append_nil]
 rw [e]
 cases recF none c ⟨FT.DU T (T.length+0),[],H⟩ with
 | none=>rfl
 | some p =>
  obtain ⟨e,s⟩:=p
  cases e <;> rfl
theorem Eo (fn:Func) (s:FS):((kS P (Si recF) s.dn.M s.dn.H).bind fun H'=>(dG P s.dn.T H' fn.results.toList).map fun vs=>(oneOf vs,H'))=L6 P recF fn s:=by
 unfold L6
 simp only [yd]
 rfl
theorem Ie (o:Oper) (M:List Mk) (F:FT) (H:AH):wD P o M F.toL H=(DP P o M F H).map FS.dn:=by
 unfold wD DP
 split
 ·rename_i dst fo xs ts ty pos after
  simp only [mF,kU]
  cases ev P F.toL fo with
  | none=>rfl
  | some fv =>
   simp only [Option.bind_some]
   cases qd P F.toL xs.toList with
   | none=>rfl
   | some vs =>
    simp only [Option.bind_some]
    split
    ·simp only [Option.map_some,FS.dn,FT.jk]
    ·rfl
 ·rfl
theorem qP (h:jC rec recF) (f:FuncId) (args:List AV) (H:AH):jQ P X rec f args H=mG P X recF f args H:=by
 unfold jQ mG
 cases P.funcs[f]? with
 | none=>rfl
 | some fn =>
  simp only
  cases fn.body with
  | none=>rfl
  | some c =>
   simp only
   cases qJ P f with
   | false=>rfl
   | true =>
    simp only [if_true,cond_true,O3 h,LS h]
    cases Bt fn c with
    | some q=>rfl
    | none =>
    simp only
    have e:rec none c ⟨args ++ List.replicate (fn.ntmps - args.length) .undef,[],H⟩=(recF none c ⟨FT.DU args (args.length+(fn.ntmps - args.length)),[],H⟩).map Dn:=by
     rw [← h];simp only [FS.dn,FT.sW]
    rw [e]
    unfold Nw
    cases recF none c ⟨FT.DU args (args.length+(fn.ntmps - args.length)),[],H⟩ with
    | none=>rfl
    | some p =>
     obtain ⟨e,s⟩:=p
     cases e with
     | normal=>exact Eo fn s
     | ret=>exact Eo fn s
     | exit id=>rfl
     | goto l=>rfl
theorem u9 (h:jC rec recF) (f:FuncId) (args:List AV) (H:AH):u7 P X rec f args H=BA P X recF f args H:=by
 unfold u7 BA
 cases X f args H with
 | none=>exact qP h f args H
 | some r=>rfl
theorem EH (h:jC rec recF) (b:Nat) (vs:List AV) (H:AH):xJ rec b vs H=BX recF b vs H:=by
 unfold xJ BX
 cases H.get b with
 | none=>rfl
 | some o =>
  cases o with
  | loop st pe T' ps as bd d =>
   simp only
   by_cases hl:vs.length=ps.size
   ·rw [if_pos hl,if_pos hl]
    have e:rec (some b) as ⟨iK ps.toList vs T',[],H⟩=(recF (some b) as ⟨FT.DU (iK ps.toList vs T') ((iK ps.toList vs T').length+0),[],H⟩).map Dn:=by
     rw [← h];simp only [FS.dn,FT.sW,List.replicate_zero,List.append_nil]
    rw [e]
    cases recF (some b) as ⟨FT.DU (iK ps.toList vs T') ((iK ps.toList vs T').length+0),[],H⟩ with
    | none=>rfl
    | some p =>
     obtain ⟨e,s⟩:=p
     cases e with
     | normal =>
      simp only [Option.map_some,Dn,FS.dn]
      cases hg:s.H.get b with
      | none=>rfl
      | some o =>
       cases o with
       | loop Qb wE T₁ jl jA jz d₁ =>
        cases Qb with
        | ready =>
         simp only
         have e2:rec (some b) bd ⟨s.F.toL,s.M,s.H.set b (.loop .busy wE T₁ jl jA jz d₁)⟩=(recF (some b) bd ⟨s.F,s.M,s.H.set b (.loop .busy wE T₁ jl jA jz d₁)⟩).map Dn:=h (some b) bd ⟨s.F,s.M,s.H.set b (.loop .busy wE T₁ jl jA jz d₁)⟩
         rw [e2]
         cases recF (some b) bd ⟨s.F,s.M,s.H.set b (.loop .busy wE T₁ jl jA jz d₁)⟩ with
         | none=>rfl
         | some q=>rfl
        | _=>rfl
       | _=>rfl
     | _=>rfl
   ·rw [if_neg hl,if_neg hl]
  | _=>rfl
theorem Ik (h:jC rec recF) (o:Oper) (F:FT) (H:AH):Pw P X rec o F.toL H=Qx P X recF o.op F H:=by
 have key:p9 P F.toL H o=lZ P (jf P F) H o.op:=by rw [mF,om]
 obtain ⟨dst,op,ty,pos,after,guard⟩:=o
 unfold Pw Qx
 cases op
 case call c =>
  obtain ⟨callee,args,ts⟩:=c
  cases callee with
  | value f =>
   simp only [mF,kU]
   cases ev P F.toL f with
   | none=>rfl
   | some fv =>
    simp only [Option.bind_some]
    cases qd P F.toL args.toList with
    | none=>rfl
    | some vs =>
     simp only [Option.bind_some]
     unfold JE
     cases fv with
     | func g x y =>
      cases g with
      | func g=>simp only [u9 h]
      | _=>simp only [u9 h]
     | cY b=>simp only [EH h]
     | _=>rfl
  | builtin b=>exact key
  | invoke x m =>
   simp only [mF,kU]
   cases ev P F.toL x with
   | none=>rfl
   | some fv =>
    simp only [Option.bind_some]
    cases qd P F.toL args.toList with
    | none=>rfl
    | some vs =>
     simp only [Option.bind_some]
     unfold Ol
     cases fv with
     | iface t u =>
      simp only
      cases l7 P t m with
      | none=>rfl
      | some g=>simp only [Option.bind_some,u9 h]
     | _=>rfl
 all_goals exact key
theorem sV (h:jC rec recF) (ops:Array Oper) : ∀(l:List Oper) (F:FT) (H:AH),qn P X rec ops l F.toL H=(Fw P X recF ops l F H).map fun p=>(p.1.toL,p.2)
 | [],F,H=>rfl
 | o :: l,F,H=>by
  show qn P X rec ops (o :: l) F.toL H=(yy P X recF ops o (Fw P X recF ops l) F H).map _
  unfold yy
  simp only [qn,nW]
  cases aT ops F.toL o with
  | none=>rfl
  | some b =>
   cases b with
   | false =>
    simp only
    rw [← FT.jk,sV h ops l]
   | true =>
    simp only [Ik h,DS]
    cases Qx P X recF o.op F H with
    | none=>rfl
    | some p =>
     simp only [Option.bind_some]
     rw [← FT.jk,sV h ops l]
noncomputable def SX (p:Nat×Oper×FT×AV):Nat×Oper×List AV×AV:=(p.1,p.2.1,p.2.2.1.toL,p.2.2.2)
theorem AB (ops:Array Oper) (A:List Nat) (i:Nat) (H:AH) : ∀aZ:BL,wF P ops A i H (aZ.map SX)=AD P ops A i H aZ
 | []=>rfl
 | (j,o,F,v) :: aZ=>by
  simp only [List.map_cons,SX,wF,AD,AB ops A i H aZ,MH,nW,mF,DT,om]
  try rfl
theorem kr (h:jC rec recF) (ops:Array Oper) (A:List Nat) : ∀(σ:List (Nat×Nat)) (aZ:BL) (F:FT) (H:AH),kq P X rec ops A σ (aZ.map SX) F.toL H=(uU P X recF ops A σ aZ F H).map fun p=>(p.1.toL,p.2)
 | [],_,F,H=>rfl
 | (i,k) :: σ,aZ,F,H=>by
  show kq P X rec ops A ((i,k) :: σ) (aZ.map SX) F.toL H=(qQ P X recF ops A (i,k) (uU P X recF ops A σ) aZ F H).map _
  unfold qQ
  simp only [kq]
  cases ops[i]? with
  | none=>rfl
  | some o =>
   simp only
   unfold Br
   simp only [nW]
   cases aT ops F.toL o with
   | none=>rfl
   | some b =>
    cases b with
    | false =>
     simp only
     rw [← FT.jk,← kr h ops A σ]
     split <;> rfl
    | true =>
     simp only
     cases hb:Nat.beq k 2 with
     | true =>
      rw [Nat.beq_eq] at hb
      simp only [hb,if_true,Ik h,DS]
      cases Qx P X recF o.op F H with
      | none=>rfl
      | some p =>
       simp only [Option.bind_some,AB]
       cases AD P ops A i p.2 aZ with
       | true=>simp only [if_true,cond_true];rw [← FT.jk,kr h ops A σ]
       | false=>rfl
     | false =>
      have hk : ¬ k=2:=fun e=>by subst e;cases hb
      simp only [hk,if_false,mF,DT,om]
      cases p9 P F.toL H o with
      | none=>rfl
      | some p =>
       simp only [Option.bind_some]
       cases qR o.op p.1 with
       | true =>
        simp only [if_true,cond_true]
        rw [← FT.jk,← kr h ops A σ]
        split <;> rfl
       | false=>rfl
theorem Ev : ∀(l:List oH) (F:FT),sK l F.toL=(Gv l F).toL
 | [],_=>rfl
 | q :: l,F=>by simp only [sK,Gv,← FT.jk,Ev l]
theorem AX : ∀(l:List oH) (F:FT) (H:AH),j8 P l F.toL H=((rP P l F H).1.toL,(rP P l F H).2)
 | [],_,_=>rfl
 | q :: l,F,H=>by simp only [j8,rP,← FT.jk,AX l]
theorem F9 (h:jC rec recF) (ops:Array Oper) (p:si) (F:FT) (H:AH):qL P X rec ops p F.toL H=(za P X recF ops p F H).map fun q=>(q.1.toL,q.2):=by
 unfold qL za
 have:=kr (P:=P) (X:=X) h (ops.extract 0 p.n) p.A p.front [] (Gv p.cC F) H
 simp only [List.map_nil] at this
 rw [Ev,this]
 cases uU P X recF (ops.extract 0 p.n) p.A p.front [] (Gv p.cC F) H with
 | none=>rfl
 | some u =>
  simp only [Option.map_some,Option.bind_some]
  split
  ·have:=kr (P:=P) (X:=X) h ops p.A p.back [] (rP P p.cC u.1 u.2).1 (rP P p.cC u.1 u.2).2
   simp only [List.map_nil] at this
   rw [AX];exact this
  ·rfl
theorem wk (h:jC rec recF) (r:Option Nat) (c:Code) : ∀(m:Nat) (cur:Code) (s:FS),jI rec r c m cur s.dn=(Ce recF r c m cur s).map Dn
 | 0,_,_=>rfl
 | m+1,cur,s=>by
  show jI rec r c (m+1) cur s.dn=(match recF r cur s with
   | some (.goto l,s')=>match findLabel c l with | some rest=>Ce recF r c m rest s' | none=>some (.goto l,s')
   | x=>x).map Dn
  have hh:=h r cur s
  simp only [jI,hh]
  cases recF r cur s with
  | none=>rfl
  | some p =>
   obtain ⟨e,s'⟩:=p
   cases e with
   | goto l =>
    simp only [Option.map_some,Dn]
    cases findLabel c l with
    | none=>rfl
    | some rest=>exact wk h r c m rest s'
   | _=>rfl
theorem AQ (h:jC rec recF) (r:Option Nat) (c:Code) : ∀(m:Nat) (s:FS),rM rec r c m s.dn=(Iw recF r c m s).map Dn
 | 0,_=>rfl
 | m+1,s=>by
  show rM rec r c (m+1) s.dn=(match recF r c s with
   | some (.normal,s')=>Iw recF r c m s'
   | x=>x).map Dn
  have hh:=h r c s
  simp only [rM,hh]
  cases recF r c s with
  | none=>rfl
  | some p =>
   obtain ⟨e,s'⟩:=p
   cases e with
   | normal=>exact AQ h r c m s'
   | _=>rfl
theorem pW (h:jC rec recF) (r:Option Nat) (l:Nat) (F:FT) (M:List Mk) (H:AH):iH rec r l F.toL M H=(ng recF r l F M H).map Dn:=by
 unfold iH ng
 cases H.get l with
 | none=>rfl
 | some o =>
  cases o with
  | loop st pe T' ps as bd d =>
   simp only
   cases CX st with
   | true=>rfl
   | false =>
    simp only [Bool.false_eq_true,if_false]
    cases pe with
    | none=>rfl
    | some c=>exact h r c ⟨F,M,H.set l .dead⟩
  | _=>rfl
theorem Fj (h:jC rec recF) (r:Option Nat) (g:Operand) (ps:Array Tmp) (as bd:Code) (s:FS):tU P X rec r g ps as bd s.dn=(Cx P X recF r g ps as bd s).map Dn:=by
 unfold tU Cx
 simp only [mF,qP h]
 show (ev P s.F.toL g).bind _=_
 cases ev P s.F.toL g with
 | none=>rfl
 | some gv =>
  simp only [Option.bind_some]
  cases gv with
  | func fn x y =>
   cases fn with
   | func gf =>
    cases r with
    | none =>
     simp only
     cases qJ P gf with
     | false=>rfl
     | true =>
      simp only [if_true,FS.dn]
      cases mG P X recF gf (x ++ [.cY (s.H.n+1)] ++ y) ((s.H.alloc .deferred).alloc (.loop .ready none s.F.toL ps as bd s.H.n)) with
      | none=>rfl
      | some p=>exact pW h none (s.H.n+1) s.F (.mark s.H.n :: s.M) p.2
    | some b₀ =>
     simp only [FS.dn]
     cases s.H.get b₀ with
     | none=>rfl
     | some o =>
      cases o with
      | loop st pe T' Za as' bd' d₀ =>
       simp only
       cases qJ P gf with
       | false=>rfl
       | true =>
        simp only [if_true]
        cases mG P X recF gf (x ++ [.cY s.H.n] ++ y) (s.H.alloc (.loop .ready none s.F.toL ps as bd d₀)) with
        | none=>rfl
        | some p=>exact pW h (some b₀) s.H.n s.F s.M p.2
      | _=>rfl
   | _=>cases r <;> rfl
  | _=>cases r <;> rfl
theorem DK : ∀n,jC (run P X n) (yb P X n)
 | 0=>fun _ _ _=>rfl
 | n+1=>fun r c s=>by
  have h:=DK n
  show run P X (n+1) r c s.dn=(oR P X (yb P X n) n r c s).map Dn
  cases c with
  | skip=>rfl
  | label l=>rfl
  | exit id=>rfl
  | goto l=>rfl
  | ret=>rfl
  | refuse w=>rfl
  | seq a b =>
   have hh:=h r a s
   simp only [run,oR,Qi,hh]
   cases yb P X n r a s with
   | none=>rfl
   | some p =>
    obtain ⟨e,s'⟩:=p
    cases e with
    | normal=>exact h r b s'
    | _=>rfl
  | cond c x y =>
   simp only [run,oR,Nt,mF]
   show (match ev P s.F.toL c with | some (.bool true)=>run P X n r x s.dn | some (.bool false)=>run P X n r y s.dn | _=>none)=_
   cases ev P s.F.toL c with
   | none=>rfl
   | some v =>
    cases v with
    | bool b=>cases b <;> exact h _ _ _
    | _=>rfl
  | block id c =>
   have hh:=h r c s
   simp only [run,oR,hh]
   cases yb P X n r c s with
   | none=>rfl
   | some p=>rfl
  | loop c=>exact AQ h r c n s
  | scope c=>exact wk h r c n c s
  | region id ops draw =>
   cases draw with
   | false =>
    simp only [run,oR]
    cases pY ops with
    | none =>
     show (qn P X (run P X n) ops ops.toList s.F.toL s.H).map _=_
     rw [sV h]
     simp only []
     cases Fw P X (yb P X n) ops ops.toList s.F s.H with
     | none=>rfl
     | some p=>rfl
    | some o =>
     cases r with
     | some _=>rfl
     | none =>
      simp only [Js]
      show (qn P X (run P X n) ops ops.toList.dropLast s.F.toL s.H).bind _=_
      rw [sV h]
      cases Fw P X (yb P X n) ops ops.toList.dropLast s.F s.H with
      | none=>rfl
      | some p =>
       simp only [Option.map_some,Option.bind_some]
       show (wD P o s.M p.1.toL p.2).map _=_
       rw [Ie]
       cases DP P o s.M p.1 p.2 with
       | none=>rfl
       | some q=>rfl
   | true =>
    simp only [run,oR,rZ]
    cases oA ops with
    | none =>
     simp only [pR]
     cases ql P ops with
     | none=>rfl
     | some p =>
      simp only [Option.bind_some]
      show (qL P X (run P X n) ops p s.F.toL s.H).map _=_
      rw [F9 h]
      cases za P X (yb P X n) ops p s.F s.H with
      | none=>rfl
      | some q=>rfl
    | some q =>
     obtain ⟨σ,A⟩:=q
     simp only
     have:=kr (P:=P) (X:=X) h ops A σ [] s.F s.H
     simp only [List.map_nil] at this
     show (kq P X (run P X n) ops A σ [] s.F.toL s.H).map _=_
     rw [this]
     cases uU P X (yb P X n) ops A σ [] s.F s.H with
     | none=>rfl
     | some p=>rfl
  | rangeFunc g ps as bd=>exact Fj h r g ps as bd s
theorem rE (n:Nat) (f:FuncId) (args:List AV) (H:AH):DL P X n f args H=jX P X n f args H:=qP (DK n) f args H
theorem bL.of_run (hm:P.follows .mixedOrders=true) (hX:jF P X) {n:Nat} {f:FuncId} {args:List AV} {H:AH} {v:AV} (ia:qJ P f=true) (h:(jX P X n f args H).map (·.1)=some v) :
  bL P f args H (fun v' _=>v'=v):=by
 obtain ⟨⟨v',H'⟩,hr,rfl⟩:=Option.map_eq_some_iff.1 h
 rw [← rE] at hr
 exact (nI hm hX ia hr).mono fun _ _ h=>h.1
end
end Go.Am
end
/- Calls that are reckoned once, in a heap of their own, and taken as they stand in a greater one. -/
section
namespace Go.Am
open Go.RowKit
structure Sum where
 f:FuncId
 args:List AV
 n:Nat
 pre:List (Nat×aY)
 v:AV
 n' : Nat
 post:List (Nat×aY)
def JH (a b:Fl):Bool:=a.own == b.own && a.fD == b.fD && Nat.beq a.fz b.fz && a.lC == b.lC && a.whole == b.whole
def Gr:List (List UInt8×AV)→List (List UInt8×AV)→Bool
 | [],[]=>true
 | a :: x,b :: y=>decide (a.1=b.1) && gV a.2 b.2 && Gr x y
 | _,_=>false
def Mo:aY→aY→Bool
 | .cells cs e fl,.cells ds d fm=>Nat.beq e d && JH fl fm && mK cs ds
 | .map x c,.map y d=>Nat.beq c d && Gr x y
 | .dead,.dead=>true
 | _,_=>false
theorem JG {a b:Fl} (h:JH a b=true):a=b:=by
 obtain ⟨a1,a2,a3,a4,a5⟩:=a
 obtain ⟨b1,b2,b3,b4,b5⟩:=b
 simp only [JH,Bool.and_eq_true,beq_iff_eq,Nat.beq_eq] at h
 obtain ⟨⟨⟨⟨rfl,rfl⟩,rfl⟩,rfl⟩,rfl⟩:=h
 rfl
theorem Et : ∀ {a b:List (List UInt8×AV)},Gr a b=true→a=b
 | [],[],_=>rfl
 | [],_ :: _,h=>by simp [Gr] at h
 | _ :: _,[],h=>by simp [Gr] at h
 | (k,v) :: x,(l,u) :: y,h=>by
  simp only [Gr,Bool.and_eq_true,decide_eq_true_eq] at h
  obtain ⟨⟨h1,h2⟩,h3⟩:=h
  rw [h1,p6 h2,Et h3]
theorem Es {a b:aY} (h:Mo a b=true):a=b:=by
 cases a <;> cases b <;> simp only [Mo,Bool.false_eq_true,Bool.and_eq_true,Nat.beq_eq] at h
 ·obtain ⟨⟨h1,h2⟩,h3⟩:=h
  rw [h1,JG h2,iY h3]
 ·rfl
 ·rw [h.1,Et h.2]
def qk:List (Nat×aY)→Tr aY→Tr aY
 | [],t=>t
 | p :: l,t=>qk l (Tr.set (p.1+1) t p.1 p.2)
theorem oe : ∀ {l:List (Nat×aY)} {t:Tr aY} {b:Nat} {o:aY},(qk l t).get b=some o→(b,o) ∈ l∨((∀p ∈ l,p.1 ≠ b)∧t.get b=some o)
 | [],_,_,_,h=>.inr ⟨fun _ hp=>(by cases hp),h⟩
 | (c,q) :: l,t,b,o,h=>by
  rcases oe (l:=l) h with h | ⟨h1,h2⟩
  ·exact .inl (List.mem_cons_of_mem _ h)
  ·rw [Tr.af _ _ _ _ _ (by omega)] at h2
   by_cases e:b=c
   ·subst e;rw [if_pos rfl] at h2;cases h2;exact .inl (by simp)
   ·rw [if_neg e] at h2
    refine .inr ⟨fun p hp=>?_,h2⟩
    rcases List.mem_cons.1 hp with rfl | hp
    ·exact fun e'=>e e'.symm
    ·exact h1 p hp
def Sum.heap (s:Sum):AH:=⟨s.n,qk s.pre .nil⟩
def Sum.out (s:Sum) (H:AH):AH:=⟨s.n',qk s.post H.t⟩
def Sum.keys (s:Sum) (b:Nat):Bool:=s.pre.any fun p=>Nat.beq p.1 b
def Sum.RD (s:Sum) (args:List AV) (H:AH):Bool :=
 Nat.beq s.n H.n && (mK s.args args && s.pre.all fun p=>match H.get p.1 with | some o=>Mo p.2 o | none=>false)
def Sum.LV (s:Sum):Bool :=
 s.pre.all (fun p=>p.2.live && s.post.any fun q=>Nat.beq q.1 p.1) && s.post.all fun q=>s.keys q.1 || (Nat.ble s.n q.1 && q.2.owns)
def Sum.is (s:Sum) (v:AV) (H:AH):Bool :=
 Nat.beq H.n s.n' && (gV v s.v && s.post.all fun p=>match H.get p.1 with | some o=>Mo o p.2 | none=>false)
theorem Sum.call {P:Program} {s:Sum} (hr:bL P s.f s.args s.heap fun v H=>s.is v H=true) (hf:s.LV=true) {args:List AV} {H:AH} (hh:s.RD args H=true) :
  bL P s.f args H fun v H'=>v=s.v∧H'=s.out H:=by
 simp only [Sum.RD,Bool.and_eq_true,Nat.beq_eq] at hh
 obtain ⟨hn,ha,hp⟩:=hh
 obtain rfl:=iY ha
 simp only [Sum.LV,Bool.and_eq_true] at hf
 obtain ⟨XT,hf2⟩:=hf
 have FZ : ∀p ∈ s.pre,H.get p.1=some p.2:=fun p Eg=>by
  have:=List.all_eq_true.1 hp p Eg
  split at this
  ·rename_i o ho;rw [ho,Es this]
  ·cases this
 have mw : ∀p ∈ s.pre,p.2.live=true:=fun p Eg=>by
  have:=List.all_eq_true.1 XT p Eg
  simp only [Bool.and_eq_true] at this;exact this.1
 have Ro : ∀p ∈ s.pre,∃q ∈ s.post,q.1=p.1:=fun p Eg=>by
  have:=List.all_eq_true.1 XT p Eg
  simp only [Bool.and_eq_true] at this
  obtain ⟨q,hq,he⟩:=List.any_eq_true.1 this.2
  rw [Nat.beq_eq] at he
  exact ⟨q,hq,he⟩
 have I0 : ∀q ∈ s.post,(∃p ∈ s.pre,p.1=q.1)∨q.2.owns=true:=fun q hq=>by
  have:=List.all_eq_true.1 hf2 q hq
  simp only [Bool.or_eq_true,Bool.and_eq_true,Sum.keys] at this
  rcases this with h | h
  ·obtain ⟨p,hp,he⟩:=List.any_eq_true.1 h
   rw [Nat.beq_eq] at he
   exact .inl ⟨p,hp,he⟩
  ·exact .inr h.2
 have C0 : ∀b o,s.heap.get b=some o→(b,o) ∈ s.pre:=fun b o hb=>by
  rcases oe (show (qk s.pre .nil).get b=some o from hb) with h | h
  ·exact h
  ·simp [Tr.get] at h
 intro E B w bD hH hA
 let B' : eZ:=⟨fun k=>B k∨(k<w.heap.size∧¬ ∃p ∈ s.pre,p.2.owns=true∧∃L,E p.1=some L∧L.bH=k),B.D⟩
 have hHs:HR P E B' s.heap w:=by
  refine ⟨fun b L hb=>by have:=hH.zj b L hb;show b<s.n;omega,fun b o hb=>?_,fun k hk=>hk.elim (hH.base k) fun h=>h.1,hH.ke,fun b b' o o' L L' dm hb dM ho M6 hL cv=>hH.sep b b' o o' L L' dm (FZ _ (C0 b o hb)) (FZ _ (C0 b' o' dM)) ho M6 hL cv⟩
  obtain ⟨L,hL,F0⟩:=hH.obj b o (FZ _ (C0 b o hb))
  exact ⟨L,hL,F0.BD fun ho n hx=>hx.elim n fun h=>h.2 ⟨_,C0 b o hb,ho,L,hL,rfl⟩⟩
 refine Calls.mono (hr E B' w bD hHs hA) ?_
 rintro e w' ⟨v,H₁,E',x,rfl,XM,hE,w7,hv,hb⟩
 simp only [Sum.is,Bool.and_eq_true,Nat.beq_eq] at XM
 obtain ⟨XA,Q8,jO⟩:=XM
 obtain rfl:=p6 Q8
 have Bd : ∀p ∈ s.post,H₁.get p.1=some p.2:=fun p Eg=>by
  have:=List.all_eq_true.1 jO p Eg
  split at this
  ·rename_i o ho;rw [ho,Es this]
  ·cases this
 have hold : ∀b o L,(∀q ∈ s.post,q.1 ≠ b)→H.get b=some o→o.live=true→E b=some L→B' L.bH:=by
  intro b o L hq hg hl hL
  obtain ⟨M,hM,F0⟩:=hH.obj b o hg
  rw [hL] at hM;cases hM
  refine .inr ⟨F0.oD hl,?_⟩
  rintro ⟨p,Eg,ZT,L',cv,he⟩
  obtain ⟨q,zN,ZR⟩:=Ro p Eg
  exact hH.sep p.1 b p.2 o L' L (fun e=>hq q zN (ZR.trans e)) (FZ p Eg) hg ZT hl cv hL he
 have qE : ∀b o,(s.out H).get b=some o→(b,o) ∈ s.post∨((∀p ∈ s.post,p.1 ≠ b)∧H.get b=some o):=fun b o hb=>oe (show (qk s.post H.t).get b=some o from hb)
 have Qy : ∀ {o:aY},o.owns=true→o.live=true:=fun {o} h=>by cases o <;> simp_all [aY.owns,aY.live]
 refine ⟨s.v,s.out H,E',x,rfl,⟨rfl,rfl⟩,hE,?_,hv,hb.uS fun k hk=>.inl hk⟩
 refine ⟨fun b L hbL=>by have:=w7.zj b L hbL;show b<s.n';omega,fun b o RX=>?_,fun k hk=>Nat.lt_of_lt_of_le (hH.base k hk) hb.size,w7.ke,fun b b' o o' L L' dm RX Vy ho M6 hL cv=>?_⟩
 ·rcases qE b o RX with h | ⟨h1,h2⟩
  ·obtain ⟨L,hL,F0⟩:=w7.obj b o (Bd _ h)
   exact ⟨L,hL,F0.BD fun _ n hx=>n (.inl hx)⟩
  ·obtain ⟨L,hL,F0⟩:=hH.obj b o h2
   refine ⟨L,hE _ _ hL,?_⟩
   by_cases hl:o.live=true
   ·exact F0.same hE (hb.block _ (hold b o L h1 h2 hl hL))
   ·cases o <;> first | trivial | exact absurd rfl hl
 ·rcases qE b o RX with h | ⟨h1,h2⟩ <;> rcases qE b' o' Vy with k | ⟨k1,k2⟩
  ·exact w7.sep b b' o o' L L' dm (Bd _ h) (Bd _ k) ho M6 hL cv
  ·obtain ⟨M,hM,F0⟩:=w7.obj b o (Bd _ h)
   rw [hL] at hM;cases hM
   obtain ⟨M',gz,_⟩:=hH.obj b' o' k2
   have:=hE _ _ gz
   rw [cv] at this;cases this
   intro e
   exact F0.off ho (e ▸ hold b' o' _ k1 k2 M6 gz)
  ·obtain ⟨M,hM,_⟩:=hH.obj b o h2
   have:=hE _ _ hM
   rw [hL] at this;cases this
   have GW:=hold b o _ h1 h2 (Qy ho) hM
   rcases I0 _ k with ⟨p,Eg,M0⟩ | gZ
   ·simp only at M0
    obtain ⟨M',gz,_⟩:=hH.obj p.1 p.2 (FZ p Eg)
    have iG:=hE _ _ gz
    rw [M0,cv] at iG;cases iG
    exact hH.sep b p.1 o p.2 _ _ (fun e=>dm (e.trans M0)) h2 (FZ p Eg) ho (mw p Eg) hM gz
   ·obtain ⟨M',gz,U6⟩:=w7.obj b' o' (Bd _ k)
    rw [cv] at gz;cases gz
    exact fun e=>U6.off gZ (e ▸ GW)
  ·obtain ⟨M,hM,_⟩:=hH.obj b o h2
   obtain ⟨M',gz,_⟩:=hH.obj b' o' k2
   have e1:=hE _ _ hM
   rw [hL] at e1;cases e1
   have e2:=hE _ _ gz
   rw [cv] at e2;cases e2
   exact hH.sep b b' o o' _ _ dm h2 k2 ho M6 hM gz
def Sum.Ok (P:Program) (s:Sum):Prop:=qJ P s.f=true∧s.LV=true∧bL P s.f s.args s.heap fun v H=>s.is v H=true
theorem Sum.of_run {P:Program} {X:Ext} {s:Sum} {n:Nat} (hm:P.follows .mixedOrders=true) (hX:jF P X) (h:(qJ P s.f && (s.LV && match jX P X n s.f s.args s.heap with | some p=>s.is p.1 p.2 | none=>false))=true):s.Ok P:=by
 simp only [Bool.and_eq_true] at h
 obtain ⟨h1,h2,h3⟩:=h
 refine ⟨h1,h2,?_⟩
 split at h3
 ·rename_i p hp
  obtain ⟨v,H⟩:=p
  rw [← rE] at hp
  exact (nI hm hX h1 hp).mono fun v' H' ⟨e1,e2⟩=>by subst e1 e2;exact h3
 ·cases h3
inductive JS (P:Program):List Sum→Prop
 | nil:JS P []
 | cons {s:Sum} {l:List Sum}:s.Ok P→JS P l→JS P (s :: l)
end Go.Am
end

/- The abstract machine: its values and heaps, what an operation does, and that the model does the same. -/
import Derived.RangeFuncLeaves
import Derived.RangeFuncRecord
import Derived.Below
import Derived.Laws.Cells
import Derived.Laws.Entries
import Derived.Maps.Range
import Derived.Laws.BytesString
import Derived.Lib.UnsafeStr
/- The abstract machine: values, heap, what an operation does. -/
section
namespace Go.Am
inductive AV where
 | bool (b:Bool)
 | int (k:IntKind) (n:Int)
 | str (s:List UInt8)
 | ptr (a:Option (Nat×Nat))
 | slice (a:Option (Nat×Nat)) (len cap:Nat)
 | func (f:Fn) (first FQ:List AV)
 | nilFunc
 | cV (b:Nat)
 | iface (t:TypeId) (v:AV)
 | nilIface
 | agg (cs:List AV)
 | tuple (vs:List AV)
 | map (a:Option Nat)
 /-- a number of which this alone is known: whether it is lo at least -/
 | half (lo:Int) (b:Bool)
 /-- some byte -/
 | qz
 | any
 deriving Inhabited
abbrev AV.undef:AV:=.tuple []
def AV.cells:AV→List AV
 | .agg cs=>cs
 | v=>[v]
def AV.one:AV→Bool
 | .agg _ | .tuple _ | .any=>false
 | _=>true
def AV.isAny:AV→Bool
 | .any=>true
 | _=>false
mutual
def mA:Value→Option AV
 | .bool b=>some (.bool b)
 | .int k n=>some (.int k n)
 | .string s=>some (.str s.data.toList)
 | .pointer none=>some (.ptr none)
 | .slice none l c=>if l≤c then some (.slice none l c) else none
 | .func f first FQ=>(EV first).bind fun x=>(EV FQ).map fun y=>.func f x y
 | .nilFunc=>some .nilFunc
 | .iface t v=>(mA v).map (.iface t)
 | .nilIface=>some .nilIface
 | .map none=>some (.map none)
 | .agg cs=>(EV cs).map .agg
 | .tuple vs=>(EV vs).map .tuple
 | _=>none
def EV:Array Value→Option (List AV)
 | ⟨l⟩=>HF l
def HF:List Value→Option (List AV)
 | []=>some []
 | v :: l=>(mA v).bind fun x=>(HF l).map (x :: ·)
end
/-! ### The heap -/
inductive Tr (α:Type) where
 | nil
 | node (l:Tr α) (v:Option α) (r:Tr α)
def Tr.get {α:Type}:Tr α→Nat→Option α
 | .nil,_=>none
 | .node _ v _,0=>v
 | .node l _ r,k+1=>if k % 2=0 then l.get (k / 2) else r.get (k / 2)
def Tr.set {α:Type}:Nat→Tr α→Nat→α→Tr α
 | 0,t,_,_=>t
 | _+1,.nil,0,x=>.node .nil (some x) .nil
 | _+1,.node l _ r,0,x=>.node l (some x) r
 | f+1,.nil,k+1,x=>if k % 2=0 then .node (Tr.set f .nil (k / 2) x) none .nil else .node .nil none (Tr.set f .nil (k / 2) x)
 | f+1,.node l v r,k+1,x=>if k % 2=0 then .node (Tr.set f l (k / 2) x) v r else .node l v (Tr.set f r (k / 2) x)
theorem Tr.af {α:Type} : ∀(f:Nat) (t:Tr α) (k:Nat) (x:α) (j:Nat),k<f→(Tr.set f t k x).get j=if j=k then some x else t.get j:=by
 intro f
 induction f with
 | zero=>intro t k x j h;omega
 | succ f ih =>
  intro t k x j h
  cases k with
  | zero=>cases t <;> cases j <;> simp [Tr.set,Tr.get]
  | succ k =>
   have hk:k / 2<f:=by omega
   cases t <;> cases j with
   | zero=>by_cases hb:k % 2=0 <;> simp [Tr.set,Tr.get,hb]
   | succ j =>
    by_cases hb:k % 2=0 <;> by_cases hj:j % 2=0 <;> simp only [Tr.set,Tr.get,hb,hj,if_true,if_false,ih _ _ _ _ hk,Nat.add_right_cancel_iff] <;>
     first
     | rfl
     | (
       by_cases he:j=k
       ·subst he;first | exact absurd hb hj | exact absurd hj hb | simp
       ·have : ¬ j / 2=k / 2:=by omega
        simp [he,this])
     | (
       have : ¬ j=k:=by intro he;subst he;first | exact hb hj | exact hj hb
       simp [this])
structure Fl where
 own:Bool:=true
 fT:Bool:=false
 fz:Nat:=0
 kO:Bool:=false
 whole:Bool:=false
inductive aS where
 | cells (cs:List AV) (elem:TypeId) (fl:Fl)
 | dead
 | iter (s:List UInt8) (pos:Nat)
 | loop (st:LoopState) (aV:Option Code) (T:List AV) (params:Array Tmp) (assign body:Code) (dfr:Nat)
 | deferred
 | map (es:List (List UInt8×AV)) (clock:Nat)
def aS.owns:aS→Bool
 | .cells _ _ fl=>fl.own
 | .dead=>false
 | _=>true
def aS.live:aS→Bool
 | .dead=>false
 | _=>true
structure AH where
 n:Nat
 t:Tr aS
def AH.get (H:AH) (b:Nat):Option aS:=H.t.get b
def AH.set (H:AH) (b:Nat) (o:aS):AH:=⟨H.n,H.t.set (b+1) b o⟩
def AH.alloc (H:AH) (o:aS):AH:=⟨H.n+1,H.t.set (H.n+1) H.n o⟩
theorem AH.af (H:AH) (b:Nat) (o:aS) (c:Nat):(H.set b o).get c=if c=b then some o else H.get c:=Tr.af _ _ _ _ _ (by omega)
theorem AH.aa (H:AH) (o:aS) (c:Nat):(H.alloc o).get c=if c=H.n then some o else H.get c:=Tr.af _ _ _ _ _ (by omega)
@[simp] theorem AH.aZ (H:AH) (b:Nat) (o:aS):(H.set b o).n=H.n:=rfl
@[simp] theorem AH.aC (H:AH) (o:aS):(H.alloc o).n=H.n+1:=rfl
def ax (cs:List AV) (o:Nat) (vs:List AV):List AV:=cs.take o ++ (vs ++ cs.drop (o+vs.length))
def AH.read (H:AH) (b o n:Nat):Option (List AV) :=
 match H.get b with
 | some (.cells cs _ _)=>if o+n≤cs.length then some ((cs.drop o).take n) else none
 | _=>none
def AH.ak (H:AH) (b o:Nat):Option AV :=
 match H.get b with
 | some (.cells cs _ _)=>cs[o]?
 | _=>none
def AH.write (H:AH) (b o:Nat) (vs:List AV):Option AH :=
 match H.get b with
 | some (.cells cs e fl)=>if fl.own=true∧fl.fz≤o∧o+vs.length≤cs.length∧vs.all AV.one=true then some (H.set b (.cells (ax cs o vs) e fl)) else none
 | _=>none
/-! ### Types -/
section types
variable (P:Program)
def bX (t:TypeId):Option Nat:=(P.info? t).map (·.size)
def vj (t:TypeId):Option Nat:=(P.info? t).map (·.bytes)
def zeroOf (t:TypeId):Option AV:=(P.info? t).bind fun i=>i.zero.bind mA
def F1 (t:TypeId):Option Bool :=
 match P.underlying t with
 | some (.struct _) | some (.array _ _)=>some true
 | some _=>some false
 | none=>none
def kF (t:TypeId) (cs:List AV) (off:Nat):Option AV :=
 match F1 P t with
 | some true=>(bX P t).map fun s=>.agg ((cs.drop off).take s)
 | some false=>cs[off]?
 | none=>none
end types
/-! ### What an operation does -/
def ev (P:Program) (T:List AV):Operand→Option AV
 | .tmp t=>some ((T[t]?).getD .undef)
 | .const v=>mA v
 | .global g=>if g<P.globals.size then some (.ptr (some (g,0))) else none
 | .func f=>some (.func (.func f) [] [])
def pL (P:Program) (T:List AV):List Operand→Option (List AV)
 | []=>some []
 | x :: l=>(ev P T x).bind fun v=>(pL P T l).map (v :: ·)
def Jy (P:Program) (T:List AV):Option Operand→Option (Option AV)
 | none=>some none
 | some x=>(ev P T x).map some
def DP (P:Program) (T:List AV):List (Nat×Operand)→Option (List (Nat×AV))
 | []=>some []
 | (i,x) :: l=>(ev P T x).bind fun v=>(DP P T l).map ((i,v) :: ·)
def lX (place:Nat→Option (Nat×Nat)) (cells:List AV):List (Nat×AV)→Option (List AV)
 | []=>some cells
 | (i,v) :: rest =>
  match place i with
  | none=>none
  | some (off,size)=>if v.cells.length=size∧off+v.cells.length≤cells.length∧v.isAny=false then lX place (ax cells off v.cells) rest else none
def cR (zero:List AV):Nat→List AV
 | 0=>[]
 | n+1=>zero ++ cR zero n
section eq
variable (P:Program)
def eqFields (eq:TypeId→AV→AV→Option Bool) (xs ys:List AV):List Field→Option Bool
 | []=>some true
 | f :: fs =>
  if f.name ≠ "_" then
   (kF P f.type xs f.offset).bind fun a=>(kF P f.type ys f.offset).bind fun b=>(eq f.type a b).bind fun r=>bif r then eqFields eq xs ys fs else some false
  else eqFields eq xs ys fs
def kA (eq:TypeId→AV→AV→Option Bool) (elem:TypeId) (xs ys:List AV) (sz:Nat):Nat→Nat→Option Bool
 | _,0=>some true
 | i,n+1 =>
  (kF P elem xs (i*sz)).bind fun a=>(kF P elem ys (i*sz)).bind fun b=>(eq elem a b).bind fun r=>bif r then kA eq elem xs ys sz (i+1) n else some false
def kT:Nat→TypeId→AV→AV→Option Bool
 | 0,_,_,_=>none
 | d+1,t,x,y =>
  match P.underlying t,x,y with
  | some .bool,.bool a,.bool b=>some (a == b)
  | some (.int _),.int k a,.int k' b=>if k=k' then some (a == b) else none
  | some .string,.str a,.str b=>some (a == b)
  | some (.pointer _),.ptr none,.ptr b=>some b.isNone
  | some (.pointer _),.ptr (some _),.ptr none=>some false
  | some (.pointer e),.ptr (some a),.ptr (some b)=>match bX P e with
   | some s=>if a.1=b.1∧s ≠ 0 then some (a.2 == b.2) else none
   | none=>none
  | some (.interface _),.nilIface,.nilIface=>some true
  | some (.interface _),.nilIface,.iface _ _=>some false
  | some (.interface _),.iface _ _,.nilIface=>some false
  | some (.interface _),.iface tx vx,.iface ty vy=>if tx ≠ ty then some false else
   match P.info? tx with
   | some i=>if i.comparable then kT d tx vx vy else none
   | none=>none
  | some (.struct fs),.agg xs,.agg ys=>if P.stoodInHeld t then none else eqFields P (kT d) xs ys fs.toList
  | some (.array len e),.agg xs,.agg ys=>match bX P e with
   | some s=>kA P (kT d) e xs ys s 0 len
   | none=>none
  | some (.slice _),.slice none _ _,.slice b _ _=>some b.isNone
  | some (.slice _),.slice (some _) _ _,.slice none _ _=>some false
  | some (.map _ _),.map none,.map b=>some b.isNone
  | some (.map _ _),.map (some _),.map none=>some false
  | some (.func _ _ _),.nilFunc,.nilFunc=>some true
  | some (.func _ _ _),.nilFunc,.func _ _ _=>some false
  | some (.func _ _ _),.func _ _ _,.nilFunc=>some false
  | _,_,_=>none
def p6:Operand→Bool
 | .const _=>true
 | _=>false
def cz (t:TypeId) (x y:Operand):AV→AV→Bool
 | .nilIface,.nilIface=>p6 x || p6 y
 | .agg _,.agg _=>!P.eqGuardType P.depth t
 | .any,_=>false
 | _,.any=>false
 | _,_=>true
end eq
def ei:List UInt8→List UInt8→Bool
 | _,[]=>false
 | [],_ :: _=>true
 | a :: x,b :: y=>a<b || (a == b && ei x y)
def kq (op:BinOp) (k:IntKind) (a b:Int):Option AV :=
 match op with
 | .add=>some (.int k (k.wrap (a+b)))
 | .sub=>some (.int k (k.wrap (a - b)))
 | .mul=>some (.int k (k.wrap (a*b)))
 | .quo=>if b=0 then none else some (.int k (k.wrap (a.tdiv b)))
 | .rem=>if b=0 then none else some (.int k (a.tmod b))
 | .and=>some (.int k (k.wrap (BitVec.ofInt k.bits a &&& BitVec.ofInt k.bits b).toNat))
 | .or=>some (.int k (k.wrap (BitVec.ofInt k.bits a ||| BitVec.ofInt k.bits b).toNat))
 | .xor=>some (.int k (k.wrap (BitVec.ofInt k.bits a ^^^ BitVec.ofInt k.bits b).toNat))
 | .andNot=>some (.int k (k.wrap (BitVec.ofInt k.bits a &&& ~~~BitVec.ofInt k.bits b).toNat))
 | .eql=>some (.bool (a == b))
 | .neq=>some (.bool (a != b))
 | .lss=>some (.bool (a<b))
 | .leq=>some (.bool (a≤b))
 | .gtr=>some (.bool (a > b))
 | .geq=>some (.bool (a≥b))
 | _=>none
def sH (op:BinOp) (a b:List UInt8):Option AV :=
 match op with
 | .add=>if ((a.length+b.length:Nat):Int) > IntKind.i64.max then none else some (.str (a ++ b))
 | .eql=>some (.bool (a == b))
 | .neq=>some (.bool (!(a == b)))
 | .lss=>some (.bool (ei a b))
 | .leq=>some (.bool (ei a b || a == b))
 | .gtr=>some (.bool (!(ei a b || a == b)))
 | .geq=>some (.bool (!ei a b))
 | _=>none
def rP (P:Program) (op:BinOp) (t:TypeId) (xo yo:Operand) (x y:AV):Option AV :=
 match op,x,y with
 | .shl,.int k a,.int _ b=>if b<0 then none else some (.int k (k.wrap (a*2 ^ min b.toNat k.bits)))
 | .shr,.int k a,.int _ b=>if b<0 then none else some (.int k (a.fdiv (2 ^ min b.toNat k.bits)))
 | op,.int k a,.int k' b=>if k=k' then kq op k a b else none
 | op,.str a,.str b=>sH op a b
 | .leq,.int .i64 n,.half lo b=>if (b=true∧n≤lo)∨(b=false∧lo≤n) then some (.bool b) else none
 | .eql,x,y=>if cz P t xo yo x y then (kT P 8 t x y).map .bool else none
 | .neq,x,y=>if cz P t xo yo x y then (kT P 8 t x y).map fun r=>.bool (!r) else none
 | _,_,_=>none
def Pj (op:UnOp) (x:AV):Option AV :=
 match op,x with
 | .neg,.int k n=>some (.int k (k.wrap (0 - n)))
 | .xor,.int k n=>kq .xor k (if k.signed then -1 else k.max) n
 | .not,.bool b=>some (.bool !b)
 | _,_=>none
def ai (s:List UInt8) (i k:Nat):Nat:=((s[i+k]?).getD 0).toNat
def ah (s:List UInt8) (i:Nat):Nat×Nat :=
 let at' (k:Nat):Nat:=ai s i k
 let cont (k:Nat):Bool:=i+k<s.length && at' k / 64 == 2
 let b0:=at' 0
 if b0<0x80 then (b0,1)
 else if b0 / 32 == 6 && cont 1 then
  let c:=(b0 % 32)*64+at' 1 % 64
  if c≥0x80 then (c,2) else (Utf8.runeError,1)
 else if b0 / 16 == 14 && cont 1 && cont 2 then
  let c:=(b0 % 16)*4096+(at' 1 % 64)*64+at' 2 % 64
  if c≥0x800 && Utf8.valid c then (c,3) else (Utf8.runeError,1)
 else if b0 / 8 == 30 && cont 1 && cont 2 && cont 3 then
  let c:=(b0 % 8)*262144+(at' 1 % 64)*4096+(at' 2 % 64)*64+at' 3 % 64
  if c≥0x10000 && Utf8.valid c then (c,4) else (Utf8.runeError,1)
 else (Utf8.runeError,1)
def cB (r:Int):List UInt8 :=
 let c:=if Utf8.valid r then r.toNat else Utf8.runeError
 let b (n:Nat):UInt8:=UInt8.ofNat n
 if c<0x80 then [b c]
 else if c<0x800 then [b (0xC0+c / 64),b (0x80+c % 64)]
 else if c<0x10000 then [b (0xE0+c / 4096),b (0x80+c / 64 % 64),b (0x80+c % 64)]
 else [b (0xF0+c / 262144),b (0x80+c / 4096 % 64),b (0x80+c / 64 % 64),b (0x80+c % 64)]
def av (s:List UInt8):List AV:=s.map fun b=>.int .u8 b.toNat
def cu:List AV→Option (List UInt8)
 | []=>some []
 | .int .u8 n :: l=>(cu l).map (UInt8.ofNat n.toNat :: ·)
 | _=>none
def AH.steps (P:Program) (H:AH) (b:Nat) (s:Nat):Bool :=
 match H.get b with
 | some (.cells _ e fl)=>!fl.fT || bX P e == some s
 | _=>false
def fR (d:Nat):Option AV→Option Nat
 | none=>some d
 | some (.int _ i)=>if 0≤i then some i.toNat else none
 | some _=>none
def cJ (P:Program) (H:AH) (t:TypeId) (x:AV) (lo hi mx:Option AV):Option AV :=
 match P.underlying t,x with
 | some .string,.str s =>
  if mx.isSome then none else
  (fR 0 lo).bind fun l=>(fR s.length hi).bind fun h=>if l≤h∧h≤s.length then some (.str ((s.drop l).take (h - l))) else none
 | some (.slice e),.slice a len cap =>
  (fR 0 lo).bind fun l=>(fR len hi).bind fun h=>(fR cap mx).bind fun m =>
  if l≤h∧h≤m∧m≤cap∧(mx.isSome→hi.isSome) then
   match a,bX P e with
   | none,some _=>some (.slice none (h - l) (m - l))
   | some (b,o),some s=>if l=0∨H.steps P b s=true then some (.slice (some (b,o+l*s)) (h - l) (m - l)) else none
   | _,_=>none
  else none
 | some (.array n e),.ptr (some (b,o)) =>
  (fR 0 lo).bind fun l=>(fR n hi).bind fun h=>(fR n mx).bind fun m =>
  if l≤h∧h≤m∧m≤n∧(mx.isSome→hi.isSome) then
   match bX P e,H.get b with
   | some s,some (.cells _ _ fl)=>if fl.fT then none else some (.slice (some (b,o+l*s)) (h - l) (m - l))
   | _,_=>none
  else none
 | _,_=>none
def gF (P:Program) (H:AH) (src dst:TypeId) (x:AV):Option (AV×AH) :=
 match P.underlying src,P.underlying dst,x with
 | some _,some (.int k),.int _ n=>some (.int k (k.wrap n),H)
 | some _,some .string,.int _ n=>some (.str (cB n),H)
 | some _,some .string,.str s=>some (.str s,H)
 | some _,some (.slice e),.str s =>
  match P.underlying e with
  | some (.int .u8)=>if bX P e=some 1 then some (.slice (some (H.n,0)) s.length s.length,H.alloc (.cells (av s) e { fT:=true,kO:=true })) else none
  | _=>none
 | some (.pointer t),some .unsafePointer,.ptr (some (b,o)) =>
  match bX P t,H.get b with
  | some s,some (.cells cs _ _)=>if s ≠ 0∧o<cs.length then some (.ptr (some (b,o)),H) else none
  | _,_=>none
 | some .unsafePointer,some (.pointer u),.ptr (some (b,o)) =>
  match bX P u,H.get b with
  | some _,some (.cells cs e fl)=>if fl.whole=true∧liesAt P P.depth e (cs.length / P.cellsOf e) o u 1=true then some (.ptr (some (b,o)),H) else none
  | _,_=>none
 | some (.slice e),some .string,.slice none _ _ =>
  match P.underlying e with
  | some (.int .u8)=>some (.str [],H)
  | _=>none
 | some (.slice e),some .string,.slice (some (b,o)) len _ =>
  match P.underlying e with
  | some (.int .u8)=>(H.read b o len).bind fun cs=>(cu cs).map fun s=>(.str s,H)
  | _=>none
 | some (.slice _),some (.slice e),.slice (some (b,o)) len cap =>
  match P.underlying e,H.get b with
  | some (.int .u8),some (.cells cs el fl) =>
   if src=dst∧0<cap∧fl.own=true∧fl.whole=true∧fl.fz=0∧fl.kO=false then some (.slice (some (b,o)) len cap,H.set b (.cells cs el { fl with kO:=true })) else none
  | _,_=>none
 | _,_,_=>none
def Ag (P:Program) (t:TypeId) (x:AV):Option AV :=
 match P.underlying t,x with
 | some .string,.str s=>some (.int .i64 s.length)
 | some (.array n _),_=>some (.int .i64 n)
 | some (.pointer a),_=>match P.underlying a with
  | some (.array n _)=>some (.int .i64 n)
  | _=>none
 | some (.slice _),.slice _ n _=>some (.int .i64 n)
 | _,_=>none
def IZ (P:Program) (H:AH) (t:TypeId) (x:AV):Option AV :=
 match P.underlying t,x with
 | some (.slice _),.slice none _ c=>some (.int .i64 c)
 | some (.slice _),.slice (some (b,_)) _ c=>match H.get b with
  | some (.cells _ _ fl)=>if fl.fT then none else some (.int .i64 c)
  | _=>none
 | _,_=>none
def y9 (H:AH) (s:Nat):AV→Option (Nat×List AV)
 | .str x=>if s=1 then some (x.length,av x) else none
 | .slice none n _=>if n=0 then some (0,[]) else none
 | .slice (some (b,o)) n _=>(H.read b o (n*s)).map fun cs=>(n,cs)
 | _=>none
def bZ (P:Program) (H:AH) (st xt:TypeId) (x y:AV):Option (AV×AH) :=
 match P.underlying st,P.underlying xt,x with
 | some (.slice e),some xd,.slice a len cap =>
  if (xd matches .int _) then none else
  match bX P e,vj P e with
  | some s,some mT=>(y9 H s y).bind fun (n,new) =>
   let u5:=len+n
   if u5≤cap then
    match a with
    | none=>if new.isEmpty then some (.slice a u5 cap,H) else none
    | some (b,o)=>(H.write b (o+len*s) new).map fun H'=>(.slice a u5 cap,H')
   else if mT=0∨(2*u5+1000)*mT > 2 ^ 48∨new.all AV.one=false∨(zeroOf P e).map (fun z=>z.cells.length) ≠ some s then none else
    match a with
    | none=>if len=0 then some (.slice (some (H.n,0)) u5 u5,H.alloc (.cells new e { fT:=true })) else none
    | some (b,o) =>
     match H.get b with
     | some (.cells cs e' fl) =>
      if o+len*s≤cs.length∧o+cap*s≤cs.length∧(fl.fT=true→e'=e) then
       if fl.fT=true∧o+cap*s=cs.length then
        if fl.own=true∧fl.fz≤o+len*s then
         some (.slice (some (H.n,0)) u5 u5,(H.set b .dead).alloc (.cells ((cs.drop o).take (len*s) ++ new) e { fT:=true,fz:=fl.fz - o,kO:=fl.kO }))
        else none
       else some (.slice (some (H.n,0)) u5 u5,H.alloc (.cells ((cs.drop o).take (len*s) ++ new) e { fT:=true }))
      else none
     | _=>none
  | _,_=>none
 | _,_,_=>none
def copyV (P:Program) (H:AH) (dt:TypeId) (x y:AV):Option (AV×AH) :=
 match P.underlying dt,x with
 | some (.slice e),.slice a vf _ =>
  match bX P e with
  | some s=>(y9 H s y).bind fun (m,new) =>
   let n:=min m vf
   match a with
   | none=>if n=0 then some (.int .i64 0,H) else none
   | some (b,o)=>(H.write b o (new.take (n*s))).map fun H'=>(.int .i64 n,H')
  | none=>none
 | _,_=>none
def cK (P:Program) (H:AH) (t:TypeId) (l c:AV):Option (AV×AH) :=
 match P.underlying t,l,c with
 | some (.slice e),.int .i64 l,.int .i64 c =>
  match bX P e,vj P e,zeroOf P e with
  | some s,some mT,some z =>
   if 0≤l∧l≤c∧mT*c≤2 ^ 48∧c<2 ^ 62∧z.cells.length=s∧0<s∧z.cells.all AV.one=true then
    some (.slice (some (H.n,0)) l.toNat c.toNat,H.alloc (.cells (cR z.cells c.toNat) e {}))
   else none
  | _,_,_=>none
 | _,_,_=>none
def jE (P:Program) (H:AH) (t:TypeId):AV→Option AV
 | .ptr (some (b,o)) =>
  match F1 P t with
  | some true=>(bX P t).bind fun s=>(H.read b o s).map .agg
  | some false=>H.ak b o
  | none=>none
 | _=>none
def sI (P:Program) (H:AH) (t:TypeId) (a v:AV):Option AH :=
 match a with
 | .ptr (some (b,o))=>if some v.cells.length=bX P t then H.write b o v.cells else none
 | _=>none
def iC (P:Program) (s:TypeId) (x:AV) (field:Nat):Option AV :=
 match P.underlying s,x with
 | some (.struct fs),.ptr (some (b,o)) =>
  match fs[field]? with
  | some f=>match bX P f.type with
   | some 0=>none
   | some _=>some (.ptr (some (b,o+f.offset)))
   | none=>none
  | none=>none
 | _,_=>none
def uc (P:Program) (t:TypeId) (x:AV) (field:Nat):Option AV :=
 match P.underlying t,x with
 | some (.struct fs),.agg cs =>
  match fs[field]? with
  | some f=>kF P f.type cs f.offset
  | none=>none
 | _,_=>none
def eW (P:Program) (t:TypeId) (x ix:AV):Option AV :=
 match P.underlying t,x,ix with
 | some (.slice e),.slice (some (b,o)) len _,.int _ i=>match bX P e with
  | some s=>if 0≤i∧i<len then some (.ptr (some (b,o+i.toNat*s))) else none
  | none=>none
 | some (.array len e),.ptr (some (b,o)),.int _ i=>match bX P e with
  | some s=>if 0≤i∧i<len then some (.ptr (some (b,o+i.toNat*s))) else none
  | none=>none
 | _,_,_=>none
def lR (P:Program) (t:TypeId) (x ix:AV):Option AV :=
 match P.underlying t,x,ix with
 | some (.array len e),.agg cs,.int _ i=>match bX P e with
  | some s=>if 0≤i∧i<len then kF P e cs (i.toNat*s) else none
  | none=>none
 | some .string,.str s,.int _ i=>if 0≤i then (s[i.toNat]?).map fun b=>.int .u8 b.toNat else none
 | _,_,_=>none
def uy (P:Program) (t:TypeId) (parts:List (Nat×AV)):Option AV :=
 match P.underlying t,zeroOf P t with
 | some (.struct fs),some z=>(lX (fun i=>(fs[i]?).bind fun f=>(bX P f.type).map fun s=>(f.offset,s)) z.cells parts).bind fun cs =>
  if fs.all (fun f=>(bX P f.type).isSome) then some (.agg cs) else none
 | some (.array _ e),some z=>match bX P e with
  | some s=>(lX (fun i=>some (i*s,s)) z.cells parts).map .agg
  | none=>none
 | _,_=>none
def gH (P:Program) (H:AH) (t:TypeId) (len:Nat) (parts:List (Nat×AV)):Option (AV×AH) :=
 match P.underlying t with
 | some (.slice e) =>
  match bX P e,zeroOf P e with
  | some s,some z =>
   if len*s≤2 ^ 24∧z.cells.length=s∧0<s∧z.cells.all AV.one=true∧parts.all (fun p=>p.2.cells.all AV.one)=true then
    (lX (fun i=>some (i*s,s)) (cR z.cells len) parts).map fun cs=>(.slice (some (H.n,0)) len len,H.alloc (.cells cs e { whole:=true }))
   else none
  | _,_=>none
 | _=>none
def iO (P:Program) (asserted:TypeId) (ok:Bool):AV→Option AV
 | .nilIface =>
  match P.underlying asserted,ok,zeroOf P asserted with
  | some _,true,some z=>some (.tuple [z,.bool false])
  | _,_,_=>none
 | .iface t v =>
  match P.underlying asserted with
  | some (.interface _)=>none
  | some _=>if t=asserted then some (if ok then .tuple [v,.bool true] else v)
   else if ok then (zeroOf P asserted).map fun z=>.tuple [z,.bool false] else none
  | none=>none
 | _=>none
def m8:List (List UInt8×AV)→List UInt8→Option AV
 | [],_=>none
 | (k,v) :: es,s=>if s == k then some v else m8 es s
def nD:List (List UInt8×AV)→List UInt8→AV→List (List UInt8×AV)
 | [],s,x=>[(s,x)]
 | (k,v) :: es,s,x=>if s == k then (k,x) :: es else (k,v) :: nD es s x
def si (P:Program) (H:AH) (t:TypeId) (ok:Bool) (m i:AV):Option AV :=
 match P.underlying t,i with
 | some (.map kt e),.str s =>
  match P.underlying kt,zeroOf P e with
  | some .string,some z =>
   match m with
   | .map none=>some (if ok then .tuple [z,.bool false] else z)
   | .map (some b) =>
    match H.get b with
    | some (.map es _) =>
     match m8 es s with
     | some v=>some (if ok then .tuple [v,.bool true] else v)
     | none=>some (if ok then .tuple [z,.bool false] else z)
    | _=>none
   | _=>none
  | _,_=>none
 | _,_=>none
def r9 (P:Program) (H:AH) (t:TypeId) (m i x:AV):Option AH :=
 match P.underlying t,m,i with
 | some (.map kt _),.map (some b),.str s =>
  match P.underlying kt,H.get b with
  | some .string,some (.map es c)=>some (H.set b (.map (nD es s x) (if (m8 es s).isSome then c else c+1)))
  | _,_=>none
 | _,_,_=>none
def aq (lt:Int→Int→Bool):AV→List AV→Option AV
 | .int k x,[]=>some (.int k x)
 | .int k x,.int _ y :: l=>aq lt (.int k (if lt y x then y else x)) l
 | _,_=>none
def eI (P:Program) (H:AH) (pt:TypeId) (p n:AV):Option (AV×AH) :=
 match p,n with
 | .ptr none,.int _ 0=>some (.str [],H)
 | .ptr (some (b,o)),.int _ n =>
  if n=0 then some (.str [],H) else
  if n<0∨n > IntKind.i64.max then none else
  match P.underlying pt,H.get b with
  | some (.pointer e),some (.cells cs e' fl) =>
   if e=e'∧bX P e=some 1∧fl.own=true∧fl.kO=false∧o+n.toNat≤cs.length then
    (cu ((cs.drop o).take n.toNat)).map fun s=>(.str s,H.set b (.cells cs e' { fl with fz:=max fl.fz (o+n.toNat) }))
   else none
  | _,_=>none
 | _,_=>none
def iE (P:Program) (H:AH) (b:Builtin) (ts:List TypeId) (xs:List AV):Option (AV×AH) :=
 match b,ts,xs with
 | .len,t :: _,x :: _=>(Ag P t x).map (·,H)
 | .cap,t :: _,x :: _=>(IZ P H t x).map (·,H)
 | .append,t :: u :: _,x :: y :: _=>bZ P H t u x y
 | .copy,t :: _,x :: y :: _=>copyV P H t x y
 | .min,_,x :: l=>(aq (fun y x=>decide (y<x)) x l).map (·,H)
 | .max,_,x :: l=>(aq (fun y x=>decide (y > x)) x l).map (·,H)
 | .unsafeSliceData,_,[.slice none _ _]=>some (.ptr none,H)
 | .unsafeSliceData,_,[.slice (some a) _ c]=>if c=0 then none else some (.ptr (some a),H)
 | .unsafeString,t :: _,[p,n]=>eI P H t p n
 | _,_,_=>none
def No (P:Program) (t:TypeId):Option Bool :=
 match P.underlying t with
 | some (.pointer _)=>some true
 | some _=>some false
 | none=>none
def lI (P:Program) (t:TypeId) (name:String):Option FuncId :=
 (P.info? t).bind fun i=>(i.methods.find? (·.name == name)).bind fun m=>match m.path.toList,m.func with
  | [],some (g,p)=>if No P t=some p then some g else none
  | _,_=>none
def uz (P:Program) (f:Fn) (x:List AV):Option (FuncId×AV) :=
 match f,x with
 | .method name,[.iface t u]=>(lI P t name).map fun g=>(g,u)
 | _,_=>none
theorem qY {P:Program} {f:Fn} {x:List AV} {q:FuncId×AV} (h:uz P f x=some q) : ∃name t,f=.method name∧x=[.iface t q.2]∧lI P t name=some q.1:=by
 unfold uz at h
 split at h
 ·obtain ⟨g,hg,rfl⟩:=Option.map_eq_some_iff.1 h
  exact ⟨_,_,rfl,rfl,hg⟩
 ·cases h
def vJ (P:Program):AV→Bool
 | .ptr (some _)=>true
 | .func (.func _) _ _=>true
 | .func f x _=>(uz P f x).isSome
 | .cV _=>true
 | _=>false
def pK (P:Program) (T:List AV) (H:AH) (o:Oper):Option (AV×AH) :=
 match o.op with
 | .move x=>(ev P T x).map (·,H)
 | .assign x=>(ev P T x).map (·,H)
 | .pick c a b=>(ev P T c).bind fun c=>match c with
  | .bool true=>(ev P T a).map (·,H)
  | .bool false=>(ev P T b).map (·,H)
  | _=>none
 | .alloc e=>(zeroOf P e).bind fun z=>if z.cells.all AV.one then some (.ptr (some (H.n,0)),H.alloc (.cells z.cells e { whole:=true })) else none
 | .box e x=>(ev P T x).bind fun v=>if v.cells.all AV.one then some (.ptr (some (H.n,0)),H.alloc (.cells v.cells e { whole:=true })) else none
 | .build t ps=>(DP P T ps.toList).bind fun l=>(uy P t l).map (·,H)
 | .buildSlice t n ps=>(DP P T ps.toList).bind fun l=>gH P H t n l
 | .load t a=>(ev P T a).bind fun a=>(jE P H t a).map (·,H)
 | .store t a v=>(ev P T a).bind fun a=>(ev P T v).bind fun v=>(sI P H t a v).map (AV.undef,·)
 | .nilCheck x=>(ev P T x).bind fun v=>if vJ P v then some (v,H) else none
 | .binOp op t x y _=>(ev P T x).bind fun a=>(ev P T y).bind fun b=>(rP P op t x y a b).map (·,H)
 | .unOp op _ x=>(ev P T x).bind fun a=>(Pj op a).map (·,H)
 | .convert s d x=>(ev P T x).bind fun a=>gF P H s d a
 | .makeInterface t x=>(ev P T x).bind fun a=>match P.underlying t with
  | some (.interface _)=>none
  | some _=>some (.iface t a,H)
  | none=>none
 | .makeFunc f xs ys=>(pL P T xs.toList).bind fun a=>(pL P T ys.toList).bind fun b=>some (.func f a b,H)
 | .makeSlice t l c=>(ev P T l).bind fun l=>(ev P T c).bind fun c=>cK P H t l c
 | .slice t x lo hi mx=>(ev P T x).bind fun a=>(Jy P T lo).bind fun lo=>(Jy P T hi).bind fun hi=>(Jy P T mx).bind fun mx=>(cJ P H t a lo hi mx).map (·,H)
 | .fieldAddr t x f=>(ev P T x).bind fun a=>(iC P t a f).map (·,H)
 | .field t x f=>(ev P T x).bind fun a=>(uc P t a f).map (·,H)
 | .indexAddr t x i=>(ev P T x).bind fun a=>(ev P T i).bind fun i=>(eW P t a i).map (·,H)
 | .index t x i=>(ev P T x).bind fun a=>(ev P T i).bind fun i=>(lR P t a i).map (·,H)
 | .range t x=>(ev P T x).bind fun a=>match P.underlying t,a with
  | some .string,.str s=>some (.ptr (some (H.n,0)),H.alloc (.iter s 0))
  | _,_=>none
 | .next x true=>(ev P T x).bind fun a=>match a with
  | .ptr (some (b,0))=>match H.get b with
   | some (.iter s pos) =>
    if pos<s.length then some (.tuple [.bool true,.int .i64 pos,.int .i32 (ah s pos).1],H.set b (.iter s (pos+(ah s pos).2)))
    else some (.tuple [.bool false],H)
   | _=>none
  | _=>none
 | .typeAssert x _ t ok=>(ev P T x).bind fun a=>(iO P t ok a).map (·,H)
 | .extract x i=>(ev P T x).bind fun a=>match a with
  | .tuple vs=>(vs[i]?).map (·,H)
  | _=>none
 | .makeMap _ none=>some (.map (some H.n),H.alloc (.map [] 0))
 | .lookup t x i ok=>(ev P T x).bind fun a=>(ev P T i).bind fun i=>(si P H t ok a i).map (·,H)
 | .mapUpdate t m k x=>(ev P T m).bind fun m=>(ev P T k).bind fun k=>(ev P T x).bind fun x=>(r9 P H t m k x).map (AV.undef,·)
 | .call ⟨.builtin b,args,ts⟩=>(pL P T args.toList).bind fun l=>iE P H b ts.toList l
 | _=>none
end Go.Am
end
/- The abstract machine's relation to the model's worlds. -/
section
namespace Go.Am
open Go.RowKit
structure Loc where
 bB:Nat
 off:Nat
 size:Nat
 MK:Nat
 extra:Nat
abbrev Env:=Nat→Option Loc
def Env.le (E E' : Env):Prop:=∀b L,E b=some L→E' b=some L
theorem Env.le.refl (E:Env):E.le E:=fun _ _ h=>h
theorem Env.le.trans {E E' Bk:Env} (h:E.le E') (k:E'.le Bk):E.le Bk:=fun b L x=>k b L (h b L x)
mutual
def VR (E:Env):AV→Value→Prop
 | .bool b,v=>v=.bool b
 | .int k n,v=>v=.int k n
 | .str s,v=>v=.string ⟨s.toArray⟩
 | .ptr none,v=>v=.pointer none
 | .ptr (some (b,o)),v=>∃L,E b=some L∧v=.pointer (some ⟨L.bB,L.off+o,none⟩)
 | .slice none l c,v=>v=.slice none l c∧l≤c
 | .slice (some (b,o)) l c,v=>∃L a' c',E b=some L∧v=.slice (some a') l c'∧l≤c∧(c'=c∨(o+c*L.MK=L.size∧c'=c+L.extra)) ∧
   a'.spot=none∧(a'=⟨L.bB,L.off+o,none⟩∨c'=0)
 | .func f x y,v=>∃x' y',v=.func f x' y'∧aI E x x'.toList∧aI E y y'.toList
 | .nilFunc,v=>v=.nilFunc
 | .cV b,v=>∃L,E b=some L∧v=.func (.yield L.bB) #[] #[]
 | .iface t x,v=>∃y,v=.iface t y∧VR E x y
 | .nilIface,v=>v=.nilIface
 | .agg cs,v=>∃vh,v=.agg vh∧aI E cs vh.toList
 | .tuple cs,v=>∃vh,v=.tuple vh∧aI E cs vh.toList
 | .map none,v=>v=.map none
 | .map (some b),v=>∃L,E b=some L∧v=.map (some L.bB)
 | .half lo b,v=>∃m,v=.int .i64 m∧decide (lo≤m)=b
 | .qz,v=>∃m,v=.int .u8 m
 | .any,_=>True
def aI (E:Env):List AV→List Value→Prop
 | [],l=>l=[]
 | x :: xs,l=>∃y ys,l=y :: ys∧VR E x y∧aI E xs ys
end
mutual
theorem VR.mono {E E' : Env} (h:E.le E') : ∀(a:AV) (v:Value),VR E a v→VR E' a v
 | .bool _,_,hv=>hv
 | .int _ _,_,hv=>hv
 | .str _,_,hv=>hv
 | .ptr none,_,hv=>hv
 | .ptr (some (b,o)),_,hv=>by obtain ⟨L,h1,h2⟩:=hv;exact ⟨L,h _ _ h1,h2⟩
 | .slice none _ _,_,hv=>hv
 | .slice (some (b,o)) l c,_,hv=>by obtain ⟨L,a',c',h1,h2⟩:=hv;exact ⟨L,a',c',h _ _ h1,h2⟩
 | .func f x y,_,hv=>by obtain ⟨x',y',h1,h2,h3⟩:=hv;exact ⟨x',y',h1,aI.mono h _ _ h2,aI.mono h _ _ h3⟩
 | .nilFunc,_,hv=>hv
 | .cV _,_,hv=>by obtain ⟨L,h1,h2⟩:=hv;exact ⟨L,h _ _ h1,h2⟩
 | .iface t x,_,hv=>by obtain ⟨y,h1,h2⟩:=hv;exact ⟨y,h1,VR.mono h _ _ h2⟩
 | .nilIface,_,hv=>hv
 | .agg cs,_,hv=>by obtain ⟨y,h1,h2⟩:=hv;exact ⟨y,h1,aI.mono h _ _ h2⟩
 | .tuple cs,_,hv=>by obtain ⟨y,h1,h2⟩:=hv;exact ⟨y,h1,aI.mono h _ _ h2⟩
 | .map none,_,hv=>hv
 | .map (some _),_,hv=>by obtain ⟨L,h1,h2⟩:=hv;exact ⟨L,h _ _ h1,h2⟩
 | .half _ _,_,hv=>hv
 | .qz,_,hv=>hv
 | .any,_,hv=>hv
theorem aI.mono {E E' : Env} (h:E.le E') : ∀(a:List AV) (v:List Value),aI E a v→aI E' a v
 | [],_,hv=>hv
 | x :: xs,_,hv=>by obtain ⟨y,ys,h1,h2,h3⟩:=hv;exact ⟨y,ys,h1,VR.mono h _ _ h2,aI.mono h _ _ h3⟩
end
mutual
theorem VR.of {E:Env} : ∀(v:Value) (a:AV),mA v=some a→VR E a v
 | .bool _,a,h=>by simp only [mA,Option.some.injEq] at h;subst h;rfl
 | .int _ _,a,h=>by simp only [mA,Option.some.injEq] at h;subst h;rfl
 | .string s,a,h=>by simp only [mA,Option.some.injEq] at h;subst h;show _=_;rfl
 | .pointer none,a,h=>by simp only [mA,Option.some.injEq] at h;subst h;rfl
 | .pointer (some _),a,h=>by simp [mA] at h
 | .slice none l c,a,h=>by
  simp only [mA] at h
  split at h
  ·rename_i hl;simp only [Option.some.injEq] at h;subst h;exact ⟨rfl,hl⟩
  ·cases h
 | .slice (some _) _ _,a,h=>by simp [mA] at h
 | .func f x y,a,h=>by
  simp only [mA] at h
  obtain ⟨x',hx,h⟩:=Option.bind_eq_some_iff.1 h
  obtain ⟨y',hy,h⟩:=Option.map_eq_some_iff.1 h
  subst h
  exact ⟨x,y,rfl,aI.R9 x _ hx,aI.R9 y _ hy⟩
 | .nilFunc,a,h=>by simp only [mA,Option.some.injEq] at h;subst h;rfl
 | .iface t v,a,h=>by
  simp only [mA] at h
  obtain ⟨x,hx,h⟩:=Option.map_eq_some_iff.1 h
  subst h
  exact ⟨v,rfl,VR.of v x hx⟩
 | .nilIface,a,h=>by simp only [mA,Option.some.injEq] at h;subst h;rfl
 | .agg cs,a,h=>by
  simp only [mA] at h
  obtain ⟨x,hx,h⟩:=Option.map_eq_some_iff.1 h
  subst h
  exact ⟨cs,rfl,aI.R9 cs x hx⟩
 | .tuple cs,a,h=>by
  simp only [mA] at h
  obtain ⟨x,hx,h⟩:=Option.map_eq_some_iff.1 h
  subst h
  exact ⟨cs,rfl,aI.R9 cs x hx⟩
 | .map none,a,h=>by simp only [mA,Option.some.injEq] at h;subst h;rfl
 | .map (some _),a,h=>by simp [mA] at h
 | .float _ _,a,h=>by simp [mA] at h
 | .complex _ _ _,a,h=>by simp [mA] at h
 | .chan _,a,h=>by simp [mA] at h
theorem aI.R9 {E:Env} : ∀(v:Array Value) (a:List AV),EV v=some a→aI E a v.toList
 | ⟨l⟩,a,h=>by simp only [EV] at h;exact aI.of l a h
theorem aI.of {E:Env} : ∀(v:List Value) (a:List AV),HF v=some a→aI E a v
 | [],a,h=>by simp only [HF,Option.some.injEq] at h;subst h;rfl
 | v :: l,a,h=>by
  simp only [HF] at h
  obtain ⟨x,hx,h⟩:=Option.bind_eq_some_iff.1 h
  obtain ⟨xs,rL,h⟩:=Option.map_eq_some_iff.1 h
  subst h
  exact ⟨v,l,rfl,VR.of v x hx,aI.of l xs rL⟩
end
section lists
variable {E:Env}
theorem aI.nil:aI E [] []:=rfl
theorem aI.cons {x:AV} {y:Value} {xs:List AV} {ys:List Value} (h:VR E x y) (k:aI E xs ys):aI E (x :: xs) (y :: ys):=⟨y,ys,rfl,h,k⟩
theorem aI.length : ∀ {xs:List AV} {ys:List Value},aI E xs ys→xs.length=ys.length
 | [],_,h=>by cases h;rfl
 | _ :: xs,_,h=>by obtain ⟨y,ys,rfl,_,k⟩:=h;simp [aI.length k]
theorem aI.get : ∀ {xs:List AV} {ys:List Value} {i:Nat} {x:AV},aI E xs ys→xs[i]? = some x→∃y,ys[i]? = some y∧VR E x y
 | [],_,_,_,_,h=>by simp at h
 | _ :: xs,_,i,x,h,hx=>by
  obtain ⟨y,ys,rfl,h1,k⟩:=h
  cases i with
  | zero=>simp at hx;subst hx;exact ⟨y,rfl,h1⟩
  | succ i=>simp at hx;simpa using aI.get k hx
theorem aI.append : ∀ {xs:List AV} {ys:List Value} {us:List AV} {vs:List Value},aI E xs ys→aI E us vs→aI E (xs ++ us) (ys ++ vs)
 | [],_,_,_,h,k=>by cases h;exact k
 | _ :: xs,_,_,_,h,k=>by obtain ⟨y,ys,rfl,h1,h2⟩:=h;exact ⟨y,_,rfl,h1,aI.append h2 k⟩
theorem aI.take : ∀ {xs:List AV} {ys:List Value} (n:Nat),aI E xs ys→aI E (xs.take n) (ys.take n)
 | [],_,n,h=>by cases h;simp;exact aI.nil
 | _ :: xs,_,n,h=>by
  obtain ⟨y,ys,rfl,h1,h2⟩:=h
  cases n with
  | zero=>exact aI.nil
  | succ n=>exact ⟨y,_,rfl,h1,aI.take n h2⟩
theorem aI.drop : ∀ {xs:List AV} {ys:List Value} (n:Nat),aI E xs ys→aI E (xs.drop n) (ys.drop n)
 | [],_,n,h=>by cases h;simp;exact aI.nil
 | _ :: xs,_,n,h=>by
  obtain ⟨y,ys,rfl,h1,h2⟩:=h
  cases n with
  | zero=>exact ⟨y,ys,rfl,h1,h2⟩
  | succ n=>exact aI.drop n h2
theorem aI.set : ∀ {xs:List AV} {ys:List Value} {x:AV} {y:Value} (n:Nat),aI E xs ys→VR E x y→aI E (xs.set n x) (ys.set n y)
 | [],_,_,_,n,h,_=>by cases h;exact aI.nil
 | _ :: xs,_,_,_,n,h,k=>by
  obtain ⟨y,ys,rfl,h1,h2⟩:=h
  cases n with
  | zero=>exact ⟨_,ys,rfl,k,h2⟩
  | succ n=>exact ⟨y,_,rfl,h1,aI.set n h2 k⟩
theorem aI.replicate {x:AV} {y:Value} (h:VR E x y) : ∀n,aI E (List.replicate n x) (List.replicate n y)
 | 0=>aI.nil
 | n+1=>⟨y,_,rfl,h,aI.replicate h n⟩
theorem aI.HE : ∀ {xs:List AV} {ys:List Value},xs.length=ys.length→(∀(i:Nat) (x:AV) (y:Value),xs[i]? = some x→ys[i]? = some y→VR E x y)→aI E xs ys
 | [],ys,hl,_=>by cases ys <;> simp_all [aI]
 | x :: xs,[],hl,_=>by simp at hl
 | x :: xs,y :: ys,hl,h=>⟨y,ys,rfl,h 0 x y rfl rfl,aI.HE (by simpa using hl) (fun i a b ha hb=>h (i+1) a b (by simpa using ha) (by simpa using hb))⟩
theorem aI.bytes (s:List UInt8):aI E (av s) (s.map fun b=>.int .u8 b.toNat):=by
 induction s with
 | nil=>rfl
 | cons b s ih=>exact ⟨_,_,rfl,rfl,ih⟩
theorem VR.cells {v:AV} {x:Value} (h:VR E v x) (hn:v.isAny=false):aI E v.cells x.cells.toList:=by
 match v,x,h with
 | .agg cs,_,h=>obtain ⟨vh,rfl,h⟩:=h;exact h
 | .any,x,h=>cases hn
 | .ptr none,_,h=>obtain rfl:=h;exact ⟨_,_,rfl,rfl,rfl⟩
 | .ptr (some (b,o)),_,h=>obtain ⟨L,h1,rfl⟩:=h;exact ⟨_,_,rfl,⟨L,h1,rfl⟩,rfl⟩
 | .slice none l c,_,h=>obtain ⟨rfl,hl⟩:=h;exact ⟨_,_,rfl,⟨rfl,hl⟩,rfl⟩
 | .slice (some (b,o)) l c,_,h=>obtain ⟨L,a',c',h1,rfl,h2⟩:=h;exact ⟨_,_,rfl,⟨L,a',c',h1,rfl,h2⟩,rfl⟩
 | .func f a b,_,h=>obtain ⟨x',y',rfl,h⟩:=h;exact ⟨_,_,rfl,⟨x',y',rfl,h⟩,rfl⟩
 | .iface t a,_,h=>obtain ⟨y,rfl,h⟩:=h;exact ⟨_,_,rfl,⟨y,rfl,h⟩,rfl⟩
 | .tuple cs,_,h=>obtain ⟨y,rfl,h⟩:=h;exact ⟨_,_,rfl,⟨y,rfl,h⟩,rfl⟩
 | .bool _,_,h=>obtain rfl:=h;exact ⟨_,_,rfl,rfl,rfl⟩
 | .int _ _,_,h=>obtain rfl:=h;exact ⟨_,_,rfl,rfl,rfl⟩
 | .str _,_,h=>obtain rfl:=h;exact ⟨_,_,rfl,rfl,rfl⟩
 | .nilFunc,_,h=>obtain rfl:=h;exact ⟨_,_,rfl,rfl,rfl⟩
 | .cV _,_,h=>obtain ⟨L,h1,rfl⟩:=h;exact ⟨_,_,rfl,⟨L,h1,rfl⟩,rfl⟩
 | .nilIface,_,h=>obtain rfl:=h;exact ⟨_,_,rfl,rfl,rfl⟩
 | .map none,_,h=>obtain rfl:=h;exact ⟨_,_,rfl,rfl,rfl⟩
 | .map (some _),_,h=>obtain ⟨L,h1,rfl⟩:=h;exact ⟨_,_,rfl,⟨L,h1,rfl⟩,rfl⟩
 | .half _ _,_,h=>obtain ⟨m,rfl,h1⟩:=h;exact ⟨_,_,rfl,⟨m,rfl,h1⟩,rfl⟩
 | .qz,_,h=>obtain ⟨m,rfl⟩:=h;exact ⟨_,_,rfl,⟨m,rfl⟩,rfl⟩
theorem VR.one {v:AV} {x:Value} (h:VR E v x) (h1:v.one=true):x.oneCell'=true:=by
 match v,x,h with
 | .agg cs,_,h=>cases h1
 | .any,x,h=>cases h1
 | .ptr none,_,h=>obtain rfl:=h;rfl
 | .ptr (some (b,o)),_,h=>obtain ⟨L,h1,rfl⟩:=h;rfl
 | .slice none l c,_,h=>obtain ⟨rfl,hl⟩:=h;rfl
 | .slice (some (b,o)) l c,_,h=>obtain ⟨L,a',c',h1,rfl,h2⟩:=h;rfl
 | .func f a b,_,h=>obtain ⟨x',y',rfl,h⟩:=h;rfl
 | .iface t a,_,h=>obtain ⟨y,rfl,h⟩:=h;rfl
 | .tuple cs,_,h=>cases h1
 | .bool _,_,h=>obtain rfl:=h;rfl
 | .int _ _,_,h=>obtain rfl:=h;rfl
 | .str _,_,h=>obtain rfl:=h;rfl
 | .nilFunc,_,h=>obtain rfl:=h;rfl
 | .cV _,_,h=>obtain ⟨L,h1,rfl⟩:=h;rfl
 | .nilIface,_,h=>obtain rfl:=h;rfl
 | .map none,_,h=>obtain rfl:=h;rfl
 | .map (some _),_,h=>obtain ⟨L,h1,rfl⟩:=h;rfl
 | .half _ _,_,h=>obtain ⟨m,rfl,h1⟩:=h;rfl
 | .qz,_,h=>obtain ⟨m,rfl⟩:=h;rfl
theorem AV.lH {v:AV} (h:v.cells.all AV.one=true):v.isAny=false:=by cases v <;> first | rfl | (simp [AV.cells,AV.one] at h)
theorem B7 {v:Value} {a:AV} (h:mA v=some a):a.isAny=false:=by
 cases a with
 | any =>
  exfalso
  match v with
  | .bool _ | .int _ _ | .string _ | .pointer none | .nilFunc | .nilIface | .map none=>simp [mA] at h
  | .pointer (some _) | .slice (some _) _ _ | .float _ _ | .complex _ _ _ | .map (some _) | .chan _=>simp [mA] at h
  | .slice none l c=>simp only [mA] at h;split at h <;> simp at h
  | .func f x y=>simp only [mA] at h;obtain ⟨_,_,h⟩:=Option.bind_eq_some_iff.1 h;obtain ⟨_,_,h⟩:=Option.map_eq_some_iff.1 h;cases h
  | .iface t v=>simp only [mA] at h;obtain ⟨_,_,h⟩:=Option.map_eq_some_iff.1 h;cases h
  | .agg cs=>simp only [mA] at h;obtain ⟨_,_,h⟩:=Option.map_eq_some_iff.1 h;cases h
  | .tuple cs=>simp only [mA] at h;obtain ⟨_,_,h⟩:=Option.map_eq_some_iff.1 h;cases h
 | _=>rfl
theorem cI {P:Program} {e:TypeId} {z:AV} (h:zeroOf P e=some z):z.isAny=false:=by
 obtain ⟨i,_,h⟩:=Option.bind_eq_some_iff.1 h
 obtain ⟨x,_,h⟩:=Option.bind_eq_some_iff.1 h
 exact B7 h
theorem aI.Nr : ∀ {xs:List AV} {ys:List Value},aI E xs ys→xs.all AV.one=true→∀y ∈ ys,y.oneCell'=true
 | [],_,h,_,y,hy=>by cases h;cases hy
 | x :: xs,_,h,ha,y,hy=>by
  obtain ⟨z,zs,rfl,h1,h2⟩:=h
  simp only [List.all_cons,Bool.and_eq_true] at ha
  rcases List.mem_cons.1 hy with rfl | hy
  ·exact h1.one ha.1
  ·exact aI.Nr h2 ha.2 y hy
end lists
/-! ### Worlds -/
structure eS where
 on:Nat→Prop
 D:List Deferred
instance:CoeFun eS (fun _=>Nat→Prop):=⟨eS.on⟩
def eS.z (B:eS):eS:=⟨B.on,[]⟩
def eS.up (n:Nat):eS:=⟨fun k=>k<n,[]⟩
structure Below (B:eS) (w w' : World):Prop where
 os:w'.os=w.os
 tape:w'.tape=w.tape
 output:w'.output=w.output
 size:w.heap.size≤w'.heap.size
 block : ∀k,B k→w'.heap[k]? = w.heap[k]?
theorem Below.refl (B:eS) (w:World):Below B w w:=⟨rfl,rfl,rfl,Nat.le_refl _,fun _ _=>rfl⟩
theorem Below.trans {B:eS} {a b c:World} (h:Below B a b) (k:Below B b c):Below B a c :=
 ⟨k.os.trans h.os,k.tape.trans h.tape,k.output.trans h.output,Nat.le_trans h.size k.size,fun i hi=>(k.block i hi).trans (h.block i hi)⟩
theorem Below.alloc {B:eS} {a w:World} (h:Below B a w) (hB : ∀k,B k→k<w.heap.size) (o:Obj):Below B a (w.alloc o) :=
 h.trans ⟨rfl,rfl,rfl,by simp,fun k hk=>Go.RowKit.Below.heap_alloc _ _ _ (hB k hk)⟩
theorem Below.putObj {B:eS} {a w:World} (h:Below B a w) {r:Nat} (hr : ¬ B r) (o:Obj):Below B a (w.putObj r o) :=
 h.trans ⟨rfl,rfl,rfl,by simp,fun k hk=>World.putObj_heap_other (fun e=>hr (e ▸ hk))⟩
theorem Below.heap_alloc (w:World) (o:Obj) (k:Nat) (h:k<w.heap.size):(w.alloc o).heap[k]? = w.heap[k]?:=Go.RowKit.Below.heap_alloc w o k h
def F5 (E:Env):List (List UInt8×AV)→List MapEntry→Prop
 | [],l=>l=[]
 | (k,v) :: es,l=>∃e l',l=e :: l'∧e.key=.string ⟨k.toArray⟩∧VR E v e.val∧F5 E es l'
theorem F5.mono {E E' : Env} (h:E.le E') : ∀ {es:List (List UInt8×AV)} {l:List MapEntry},F5 E es l→F5 E' es l
 | [],_,k=>k
 | (_,_) :: _,_,k=>by obtain ⟨e,l',h1,h2,h3,h4⟩:=k;exact ⟨e,l',h1,h2,VR.mono h _ _ h3,F5.mono h h4⟩
def OR (P:Program) (E:Env) (B:eS) (w:World) (L:Loc):aS→Prop
 | .cells cs e fl=>∃(X:Array Value) (lo hi:Nat),w.heap[L.bB]? = some (.cells X e (lo,hi))∧L.size=cs.length∧P.cellsOf e=L.MK ∧
   L.off+(cs.length+L.extra*L.MK)≤X.size∧aI E cs ((X.toList.drop L.off).take cs.length) ∧
   (fl.own=true→¬ B L.bB∧(∀k,L.off+fl.fz≤k→k<X.size→¬ (lo≤k∧k<hi))∧(fl.kO=false→lo=hi∨hi≤L.off+fl.fz))∧(fl.fT=false→L.extra=0) ∧
   (∀v ∈ cs,v.one=true)∧(fl.whole=true→L.off=0∧X.size=cs.length∧(fl.fz=0→fl.kO=false→lo=hi))
 | .dead=>True
 | .iter s pos=>w.heap[L.bB]? = some (.stringIter ⟨s.toArray⟩ pos)∧¬ B L.bB∧L.off=0
 | .loop st pe T ps as bd d=>∃(fn:FuncId) (tmps:Array Value) (Ld:Loc),w.heap[L.bB]? = some (.loop { state:=st,pending:=pe,fn,tmps,params:=ps,assign:=as,body:=bd,defers:=Ld.bB }) ∧
   aI E T tmps.toList∧E d=some Ld∧¬ B L.bB
 | .deferred=>w.heap[L.bB]? = some (.deferred (some []))∧¬ B L.bB
 | .map es c=>∃Bd:Array MapEntry,w.heap[L.bB]? = some (.map Bd c)∧F5 E es Bd.toList∧¬ B L.bB
structure HR (P:Program) (E:Env) (B:eS) (H:AH) (w:World):Prop where
 yy : ∀b L,E b=some L→b<H.n
 obj : ∀b o,H.get b=some o→∃L,E b=some L∧OR P E B w L o
 base : ∀k,B k→k<w.heap.size
 jI : ∀g,g<P.globals.size→∃L,E g=some L∧L.bB=g∧L.off=0
 sep : ∀b b' o o' L L',b ≠ b'→H.get b=some o→H.get b'=some o'→o.owns=true→o'.live=true→E b=some L→E b'=some L'→L.bB ≠ L'.bB
theorem HR.z {P:Program} {E:Env} {B:eS} {H:AH} {w:World} (h:HR P E B H w) (D:List Deferred):HR P E ⟨B.on,D⟩ H w:=⟨h.yy,h.obj,h.base,h.jI,h.sep⟩
theorem HR.yO {P:Program} {E:Env} {B:eS} {H:AH} {w:World} {D:List Deferred} (h:HR P E ⟨B.on,D⟩ H w):HR P E B H w:=⟨h.yy,h.obj,h.base,h.jI,h.sep⟩
theorem Below.yO {B:eS} {w w' : World} {D:List Deferred} (h:Below ⟨B.on,D⟩ w w'):Below B w w':=⟨h.os,h.tape,h.output,h.size,h.block⟩
theorem HR.fresh {P:Program} {E:Env} {B:eS} {H:AH} {w:World} (h:HR P E B H w) : ¬ B w.heap.size:=fun hb=>Nat.lt_irrefl _ (h.base _ hb)
theorem OR.same {P:Program} {E E' : Env} {B:eS} {w w' : World} {L:Loc} {o:aS} (h:OR P E B w L o) (hE:E.le E') (hw:w'.heap[L.bB]? = w.heap[L.bB]?):OR P E' B w' L o:=by
 cases o with
 | cells cs e fl =>
  obtain ⟨X,lo,hi,h1,h2,h3,h4,h5,h6⟩:=h
  exact ⟨X,lo,hi,hw.trans h1,h2,h3,h4,aI.mono hE _ _ h5,h6⟩
 | dead=>trivial
 | iter s pos=>exact ⟨hw.trans h.1,h.2⟩
 | loop st pe T ps as bd d =>
  obtain ⟨fn,tmps,Ld,h1,h2,h3,h4⟩:=h
  exact ⟨fn,tmps,Ld,hw.trans h1,aI.mono hE _ _ h2,hE _ _ h3,h4⟩
 | deferred=>exact ⟨hw.trans h.1,h.2⟩
 | map es c=>obtain ⟨Bd,h1,h2,h3⟩:=h;exact ⟨Bd,hw.trans h1,F5.mono hE h2,h3⟩
end Go.Am
end
/- The abstract machine: reading, writing, making blocks, in the model's worlds. -/
section
namespace Go.Am
open Go.RowKit
def Env.put (E:Env) (b:Nat) (L:Loc):Env:=fun c=>if c=b then some L else E c
section
variable {P:Program} {E:Env} {B:eS} {H:AH} {w:World}
theorem HR.none (h:HR P E B H w):E H.n=none:=by
 cases hE:E H.n with
 | none=>rfl
 | some L=>have:=h.yy _ _ hE;omega
theorem HR.eB (h:HR P E B H w) (L:Loc):E.le (E.put H.n L):=fun b M hb=>by
 unfold Env.put
 by_cases e:b=H.n
 ·subst e;rw [h.none] at hb;cases hb
 ·rw [if_neg e];exact hb
theorem HR.lt (h:HR P E B H w) {b:Nat} {o:aS} (hb:H.get b=some o):b<H.n:=by
 obtain ⟨L,hL,_⟩:=h.obj b o hb
 exact h.yy _ _ hL
theorem OR.nY {L:Loc} {o:aS} (h:OR P E B w L o) (hl:o.live=true):L.bB<w.heap.size:=by
 cases o with
 | cells cs e fl=>obtain ⟨X,lo,hi,h1,_⟩:=h;exact (Array.getElem?_eq_some_iff.1 h1).1
 | dead=>cases hl
 | iter s pos=>exact (Array.getElem?_eq_some_iff.1 h.1).1
 | loop st pe T ps as bd d=>obtain ⟨fn,tmps,Ld,h1,_⟩:=h;exact (Array.getElem?_eq_some_iff.1 h1).1
 | deferred=>exact (Array.getElem?_eq_some_iff.1 h.1).1
 | map es c=>obtain ⟨Bd,h1,_⟩:=h;exact (Array.getElem?_eq_some_iff.1 h1).1
theorem HR.world (h:HR P E B H w) {w' : World} (hw:w'.heap=w.heap):HR P E B H w' :=
 ⟨h.yy,fun b o hb=>by obtain ⟨L,hL,ho⟩:=h.obj b o hb;exact ⟨L,hL,ho.same (Env.le.refl E) (by rw [hw])⟩,fun k hk=>by rw [hw];exact h.base k hk,h.jI,h.sep⟩
theorem HR.alloc (h:HR P E B H w) {o:aS} {o' : Obj} {L:Loc} (hL:L.bB=w.heap.size) (ho:OR P (E.put H.n L) B (w.alloc o') L o) :
  HR P (E.put H.n L) B (H.alloc o) (w.alloc o'):=by
 have hle:=h.eB L
 refine ⟨fun b M hb=>?_,fun b x hb=>?_,?_,fun g hg=>by obtain ⟨M,h1,h2⟩:=h.jI g hg;exact ⟨M,hle _ _ h1,h2⟩,fun b b' x x' M M' cU hx iB gN lU hM gm=>?_⟩
 ·unfold Env.put at hb
  by_cases e:b=H.n
  ·subst e;simp
  ·rw [if_neg e] at hb;have:=h.yy _ _ hb;simp;omega
 ·rw [AH.aa] at hb
  by_cases e:b=H.n
  ·subst e
   rw [if_pos rfl] at hb;cases hb
   exact ⟨L,by simp [Env.put],ho⟩
  ·rw [if_neg e] at hb
   obtain ⟨M,hM,hx⟩:=h.obj b x hb
   refine ⟨M,hle _ _ hM,?_⟩
   by_cases hl:x.live=true
   ·exact hx.same hle (Below.heap_alloc _ _ _ (hx.nY hl))
   ·cases x <;> first | trivial | (exact absurd rfl hl)
 ·intro k hk;have:=h.base k hk;simp;omega
 ·rw [AH.aa] at hx iB
  unfold Env.put at hM gm
  by_cases e:b=H.n
  ·rw [if_pos e] at hx hM
   rw [if_neg (fun e'=>cU (e.trans e'.symm))] at iB gm
   cases hM
   obtain ⟨N,hN,TP⟩:=h.obj b' x' iB
   rw [hN] at gm;cases gm
   have:=TP.nY lU
   omega
  ·rw [if_neg e] at hx hM
   by_cases e' : b'=H.n
   ·rw [if_pos e'] at iB gm
    cases gm
    obtain ⟨N,hN,TP⟩:=h.obj b x hx
    rw [hN] at hM;cases hM
    have:=TP.nY (by cases x <;> simp_all [aS.owns,aS.live])
    omega
   ·rw [if_neg e'] at iB gm
    exact h.sep b b' x x' M M' cU hx iB gN lU hM gm
theorem HR.uV (h:HR P E B H w) {b:Nat} {o o₂:aS} {L:Loc} {o' : Obj} (hb:H.get b=some o) (hL:E b=some L) (gN:o.owns=true)
  (ho:OR P E B (w.putObj L.bB o') L o₂):HR P E B (H.set b o₂) (w.putObj L.bB o'):=by
 refine ⟨fun c M hc=>by simpa using h.yy c M hc,fun c x hc=>?_,fun k hk=>by simpa using h.base k hk,h.jI,fun c c' x x' M M' cU hx iB vX Cw hM gm=>?_⟩
 ·rw [AH.af] at hc
  by_cases e:c=b
  ·subst e;rw [if_pos rfl] at hc;cases hc;exact ⟨L,hL,ho⟩
  ·rw [if_neg e] at hc
   obtain ⟨M,hM,hx⟩:=h.obj c x hc
   refine ⟨M,hM,?_⟩
   by_cases hl:x.live=true
   ·exact hx.same (Env.le.refl E) (World.putObj_heap_other (fun e'=>h.sep b c o x L M (Ne.symm e) hb hc gN hl hL hM e'.symm))
   ·cases x <;> first | trivial | (exact absurd rfl hl)
 ·rw [AH.af] at hx iB
  have lU : ∀ {y:aS},y.owns=true→y.live=true:=fun {y} hy=>by cases y <;> simp_all [aS.owns,aS.live]
  by_cases e:c=b
  ·rw [if_pos e] at hx
   rw [if_neg (fun e'=>cU (e.trans e'.symm))] at iB
   exact h.sep c c' o x' M M' cU (e ▸ hb) iB gN Cw hM gm
  ·rw [if_neg e] at hx
   by_cases e' : c'=b
   ·rw [if_pos e'] at iB
    exact h.sep c c' x o M M' cU hx (e' ▸ hb) vX (lU gN) hM gm
   ·rw [if_neg e'] at iB
    exact h.sep c c' x x' M M' cU hx iB vX Cw hM gm
theorem HR.kill (h:HR P E B H w) {b:Nat} {o:aS} (hb:H.get b=some o):HR P E B (H.set b .dead) w:=by
 refine ⟨fun c M hc=>by simpa using h.yy c M hc,fun c x hc=>?_,h.base,h.jI,fun c c' x x' M M' cU hx iB vX Cw hM gm=>?_⟩
 ·rw [AH.af] at hc
  by_cases e:c=b
  ·subst e;rw [if_pos rfl] at hc;cases hc
   obtain ⟨L,hL,_⟩:=h.obj c o hb
   exact ⟨L,hL,trivial⟩
  ·rw [if_neg e] at hc;exact h.obj c x hc
 ·rw [AH.af] at hx iB
  by_cases e:c=b
  ·rw [if_pos e] at hx;cases hx;cases vX
  ·rw [if_neg e] at hx
   by_cases e' : c'=b
   ·rw [if_pos e'] at iB;cases iB;cases Cw
   ·rw [if_neg e'] at iB;exact h.sep c c' x x' M M' cU hx iB vX Cw hM gm
theorem HR.Nl (h:HR P E B H w) {b:Nat} {o o₂:aS} {L L₂:Loc} {o' : Obj} (hb:H.get b=some o) (hL:E b=some L) (gN:o.owns=true) (Ra:L₂.bB=L.bB)
  (ho:OR P (E.put H.n L₂) B (w.putObj L.bB o') L₂ o₂):HR P (E.put H.n L₂) B ((H.set b .dead).alloc o₂) (w.putObj L.bB o'):=by
 have hle:=h.eB L₂
 have Xa:=h.lt hb
 have lU : ∀ {y:aS},y.owns=true→y.live=true:=fun {y} hy=>by cases y <;> simp_all [aS.owns,aS.live]
 refine ⟨fun c M hc=>?_,fun c x hc=>?_,fun k hk=>by simpa using h.base k hk,fun g hg=>by obtain ⟨M,h1,h2⟩:=h.jI g hg;exact ⟨M,hle _ _ h1,h2⟩,fun c c' x x' M M' cU hx iB vX Cw hM gm=>?_⟩
 ·unfold Env.put at hc
  by_cases e:c=H.n
  ·subst e;simp
  ·rw [if_neg e] at hc;have:=h.yy _ _ hc;simp;omega
 ·rw [AH.aa] at hc
  by_cases e:c=H.n
  ·subst e
   rw [if_pos (by simp)] at hc;cases hc
   exact ⟨L₂,by simp [Env.put],ho⟩
  ·rw [if_neg (by simpa using e),AH.af] at hc
   by_cases e' : c=b
   ·subst e'
    rw [if_pos rfl] at hc;cases hc
    exact ⟨L,hle _ _ hL,trivial⟩
   ·rw [if_neg e'] at hc
    obtain ⟨M,hM,hx⟩:=h.obj c x hc
    refine ⟨M,hle _ _ hM,?_⟩
    by_cases hl:x.live=true
    ·exact hx.same hle (World.putObj_heap_other (fun Z9=>h.sep b c o x L M (Ne.symm e') hb hc gN hl hL hM Z9.symm))
    ·cases x <;> first | trivial | (exact absurd rfl hl)
 ·
  rw [AH.aa] at hx iB
  unfold Env.put at hM gm
  by_cases e:c=H.n
  ·rw [if_pos e] at hM;cases hM
   rw [if_neg (fun e'=>cU (e.trans e'.symm))] at gm
   rw [if_neg (by simpa using fun e'=>cU (e.trans e'.symm)),AH.af] at iB
   by_cases e' : c'=b
   ·rw [if_pos e'] at iB;cases iB;cases Cw
   ·rw [if_neg e'] at iB
    rw [Ra]
    exact h.sep b c' o x' L M' (Ne.symm e') hb iB gN Cw hL gm
  ·rw [if_neg e] at hM
   rw [if_neg (by simpa using e),AH.af] at hx
   by_cases e' : c=b
   ·rw [if_pos e'] at hx;cases hx;cases vX
   ·rw [if_neg e'] at hx
    by_cases e2:c'=H.n
    ·rw [if_pos e2] at gm;cases gm
     rw [Ra]
     exact h.sep c b x o M L e' hx hb vX (lU gN) hM hL
    ·rw [if_neg e2] at gm
     rw [if_neg (by simpa using e2),AH.af] at iB
     by_cases e3:c'=b
     ·rw [if_pos e3] at iB;cases iB;cases Cw
     ·rw [if_neg e3] at iB
      exact h.sep c c' x x' M M' cU hx iB vX Cw hM gm
/-! ### Cells -/
theorem rW {X:Array Value} {off n i:Nat} (hi:i<n):((X.toList.drop off).take n)[i]? = X[off+i]?:=by
 rw [List.getElem?_take_of_lt hi,List.getElem?_drop,Array.getElem?_toList]
theorem BS {L:Loc} {cs:List AV} {e:TypeId} {fl:Fl} (ho:OR P E B w L (.cells cs e fl)) {o n:Nat} (hn:o+n≤cs.length) :
  ∃ys,aI E ((cs.drop o).take n) ys∧(loadCells ⟨L.bB,L.off+o,none⟩ n).run P w=.ok ys.toArray w:=by
 obtain ⟨X,lo,hi,h1,h2,h3,h4,h5,_⟩:=ho
 have h6:=(h5.drop o).take n
 have hl:=h6.length
 refine ⟨_,h6,?_⟩
 have hlen:(List.take n (List.drop o (List.take cs.length (List.drop L.off X.toList)))).length=n:=by rw [← hl];simp;omega
 have:=run_loadCells_list (P:=P) w ⟨L.bB,L.off+o,none⟩ (List.take n (List.drop o (List.take cs.length (List.drop L.off X.toList)))) (fun j v hj=>by
  have Iq:j<n:=by have:=(List.getElem?_eq_some_iff.1 hj).1;omega
  rw [List.getElem?_take_of_lt Iq,List.getElem?_drop,rW (by omega)] at hj
  have CD:(⟨L.bB,L.off+o,none⟩ : Addr).add j=⟨L.bB,L.off+o+j,none⟩:=by unfold Addr.add;split <;> simp_all
  rw [CD]
  simp only [World.cell?,h1]
  simp
  rw [show L.off+o+j=L.off+(o+j) by omega];exact hj)
 rw [hlen] at this
 exact this
theorem zO {L:Loc} {cs:List AV} {e:TypeId} {fl:Fl} (ho:OR P E B w L (.cells cs e fl)) : ∃OG:List Value,aI E cs OG ∧
  ∀w',w'.heap=w.heap→∀o n,o+n≤cs.length→(loadCells ⟨L.bB,L.off+o,none⟩ n).run P w'=.ok ((OG.drop o).take n).toArray w':=by
 obtain ⟨X,lo,hi,h1,h2,h3,h4,h5,_⟩:=ho
 refine ⟨_,h5,fun w' NI o n hn=>?_⟩
 have h6:=(h5.drop o).take n
 have hl:=h6.length
 have hlen:(List.take n (List.drop o (List.take cs.length (List.drop L.off X.toList)))).length=n:=by rw [← hl];simp;omega
 have:=run_loadCells_list (P:=P) w' ⟨L.bB,L.off+o,none⟩ (List.take n (List.drop o (List.take cs.length (List.drop L.off X.toList)))) (fun j v hj=>by
  have Iq:j<n:=by have:=(List.getElem?_eq_some_iff.1 hj).1;omega
  rw [List.getElem?_take_of_lt Iq,List.getElem?_drop,rW (by omega)] at hj
  have CD:(⟨L.bB,L.off+o,none⟩ : Addr).add j=⟨L.bB,L.off+o+j,none⟩:=by unfold Addr.add;split <;> simp_all
  rw [CD]
  simp only [World.cell?,NI,h1]
  simp
  rw [show L.off+o+j=L.off+(o+j) by omega];exact hj)
 rw [hlen] at this
 exact this
theorem AH.vC {b o n:Nat} {vs:List AV} (h:H.read b o n=some vs) : ∃cs e fl,H.get b=some (.cells cs e fl)∧o+n≤cs.length∧vs=(cs.drop o).take n:=by
 unfold AH.read at h
 split at h
 ·rename_i cs e fl hb
  split at h
  ·rename_i hn;cases h;exact ⟨cs,e,fl,hb,hn,rfl⟩
  ·cases h
 ·cases h
theorem run_read (h:HR P E B H w) {b o n:Nat} {vs:List AV} (hr:H.read b o n=some vs) :
  ∃L ys,E b=some L∧aI E vs ys∧(loadCells ⟨L.bB,L.off+o,none⟩ n).run P w=.ok ys.toArray w:=by
 obtain ⟨cs,e,fl,hb,hn,rfl⟩:=AH.vC hr
 obtain ⟨L,hL,ho⟩:=h.obj _ _ hb
 obtain ⟨ys,h1,h2⟩:=BS ho hn
 exact ⟨L,ys,hL,h1,h2⟩
theorem pP (h:HR P E B H w) {b o:Nat} {v:AV} (hr:H.ak b o=some v) :
  ∃L x,E b=some L∧VR E v x∧w.cell? ⟨L.bB,L.off+o,none⟩=some x:=by
 unfold AH.ak at hr
 split at hr
 ·rename_i cs e fl hb
  obtain ⟨L,hL,X,lo,hi,h1,h2,h3,h4,h5,_⟩:=h.obj _ _ hb
  obtain ⟨y,hy,hv⟩:=h5.get hr
  have cv:o<cs.length:=(List.getElem?_eq_some_iff.1 hr).1
  rw [rW cv] at hy
  refine ⟨L,y,hL,hv,?_⟩
  simp only [World.cell?,h1]
  simpa using hy
 ·cases hr
theorem zk {g k:Nat} {X:Array Value} {t:TypeId} {fr:Nat×Nat} (h:w.heap[g]? = some (.cells X t fr)) (v:Value) :
  w.setCell ⟨g,k,none⟩ v=w.putObj g (.cells (X.setIfInBounds k v) t fr):=by
 unfold World.setCell World.putObj
 congr 1
 apply Array.ext_getElem?
 intro i
 rw [Array.getElem?_modify]
 by_cases e:g=i
 ·subst e;obtain ⟨lo,hi⟩:=fr;obtain ⟨cv,hx⟩:=Array.getElem?_eq_some_iff.1 h;simp [cv,hx]
 ·simp [e,Array.getElem?_setIfInBounds_ne e]
def bU (X:Array Value) (o:Nat) (vs:List Value):Array Value:=(X.toList.take o ++ (vs ++ X.toList.drop (o+vs.length))).toArray
theorem qB (X:Array Value) (o:Nat):bU X o []=X:=by simp [bU]
theorem ox (X:Array Value) (o:Nat) (v:Value) (vs:List Value) (h:o<X.size):bU (X.setIfInBounds o v) (o+1) vs=bU X o (v :: vs):=by
 have ho:o<X.toList.length:=by simpa using h
 apply Array.ext'
 simp only [bU,Array.toList_setIfInBounds]
 rw [List.take_succ_eq_append_getElem (by simpa using h)]
 simp only [List.getElem_set_self,List.append_assoc,List.length_cons]
 rw [List.take_set_of_le (Nat.le_refl _)]
 congr 1
 simp only [List.cons_append,List.nil_append]
 congr 1
 congr 1
 rw [List.drop_set_of_lt (by omega)]
 congr 1
 omega
theorem jZ {g:Nat} {t:TypeId} {lo hi off:Nat} : ∀(vs:List Value) (i:Nat) (X:Array Value) (w:World),w.heap[g]? = some (.cells X t (lo,hi))→off+i+vs.length≤X.size →
  (∀k,off+i≤k→k<off+i+vs.length→¬ (lo≤k∧k<hi))→(∀v ∈ vs,v.oneCell'=true) →
  (storeCells ⟨g,off,none⟩ vs i).run P w=.ok () (w.putObj g (.cells (bU X (off+i) vs) t (lo,hi)))
 | [],i,X,w,h,_,_,_=>by
  have hw:w.putObj g (.cells X t (lo,hi))=w:=by
   unfold World.putObj
   have:w.heap.setIfInBounds g (.cells X t (lo,hi))=w.heap:=by
    apply Array.ext_getElem?
    intro j
    by_cases e:g=j
    ·subst e;obtain ⟨cv,hx⟩:=Array.getElem?_eq_some_iff.1 h;simp [cv,hx]
    ·rw [Array.getElem?_setIfInBounds_ne e]
   rw [this]
  rw [qB,hw];rfl
 | v :: vs,i,X,w,h,hlen,KU,ga=>by
  simp only [List.length_cons] at hlen KU
  have CD:(⟨g,off,none⟩ : Addr).add i=⟨g,off+i,none⟩:=by unfold Addr.add;split <;> simp_all
  have hc:w.cell? ⟨g,off+i,none⟩=some X[off+i]:=by simp only [World.cell?,h];simp [show off+i<X.size by omega]
  have hf:w.frozen? ⟨g,off+i,none⟩=false:=by
   have:=KU (off+i) (Nat.le_refl _) (by omega)
   simp only [World.frozen?,h]
   simp only [Bool.and_eq_false_iff,decide_eq_false_iff_not]
   by_cases hl:lo≤off+i
   ·exact .inr (fun hh=>this ⟨hl,hh⟩)
   ·exact .inl hl
  have eF:(store ((⟨g,off,none⟩ : Addr).add i) v).run P w=.ok () (w.putObj g (.cells (X.setIfInBounds (off+i) v) t (lo,hi))):=by
   rw [CD,run_store P w _ v _ (ga v (by simp))]
   simp [hc,hf,zk h]
  have cv:g<w.heap.size:=(Array.getElem?_eq_some_iff.1 h).1
  have ih:=jZ (off:=off) vs (i+1) (X.setIfInBounds (off+i) v) (w.putObj g (.cells (X.setIfInBounds (off+i) v) t (lo,hi))) (World.putObj_heap_same cv) (by simp;omega)
   (fun k h1 h2=>KU k (by omega) (by omega)) (fun x hx=>ga x (by simp [hx]))
  simp only [storeCells,Sem.run_bind,eF,Result.andThen_ok,ih]
  rw [show off+(i+1)=off+i+1 by omega,ox _ _ _ _ (by omega)]
  congr 1
  simp [World.putObj]
theorem sN {cs:List AV} {X:Array Value} {off o:Nat} {vs:List AV} {ys:List Value} (h:aI E cs ((X.toList.drop off).take cs.length)) (hX:off+cs.length≤X.size) (hv:aI E vs ys) (ho:o+vs.length≤cs.length) :
  aI E (ax cs o vs) (((bU X (off+o) ys).toList.drop off).take (ax cs o vs).length):=by
 have hl:=hv.length
 have hlen:(ax cs o vs).length=cs.length:=by simp [ax];omega
 rw [hlen]
 have e:((bU X (off+o) ys).toList.drop off).take cs.length=((X.toList.drop off).take cs.length).take o ++ (ys ++ ((X.toList.drop off).take cs.length).drop (o+vs.length)):=by
  apply List.ext_getElem?
  intro i
  by_cases hi:i<cs.length
  ·rw [List.getElem?_take_of_lt hi,List.getElem?_drop]
   simp only [bU,hl]
   by_cases h1:i<o
   ·rw [List.getElem?_append_left (by simp;omega),List.getElem?_append_left (by simp;omega),List.getElem?_take_of_lt (by omega),List.getElem?_take_of_lt h1,List.getElem?_take_of_lt hi,List.getElem?_drop]
   ·have hA:(List.take (off+o) X.toList).length=off+o:=by simp;omega
    have hB:(List.take o (List.take cs.length (List.drop off X.toList))).length=o:=by simp;omega
    rw [List.getElem?_append_right (l₁:=List.take (off+o) X.toList) (by omega),List.getElem?_append_right (l₁:=List.take o (List.take cs.length (List.drop off X.toList))) (by omega),hA,hB]
    rw [show off+i - (off+o)=i - o by omega]
    by_cases h2:i - o<ys.length
    ·rw [List.getElem?_append_left h2,List.getElem?_append_left h2]
    ·rw [List.getElem?_append_right (l₁:=ys) (by omega),List.getElem?_append_right (l₁:=ys) (by omega),List.getElem?_drop,List.getElem?_drop,List.getElem?_take_of_lt (by omega),List.getElem?_drop]
     congr 1;omega
  ·rw [List.getElem?_eq_none (by simp;omega),List.getElem?_eq_none (by simp;omega)]
 rw [e]
 exact (h.take o).append (hv.append (h.drop _))
theorem qA {cs vs:List AV} {o:Nat} (h : ∀v ∈ cs,v.one=true) (k : ∀v ∈ vs,v.one=true) : ∀v ∈ ax cs o vs,v.one=true:=by
 intro v hv
 simp only [ax,List.mem_append] at hv
 rcases hv with hv | hv | hv
 ·exact h v (List.mem_of_mem_take hv)
 ·exact k v hv
 ·exact h v (List.mem_of_mem_drop hv)
theorem mu (h:HR P E B H w) {b o:Nat} {vs:List AV} {H' : AH} {ys:List Value} (hw:H.write b o vs=some H') (hv:aI E vs ys) :
  ∃L w',E b=some L∧(storeCells ⟨L.bB,L.off+o,none⟩ ys).run P w=.ok () w'∧HR P E B H' w'∧Below B w w':=by
 unfold AH.write at hw
 split at hw
 ·rename_i cs e fl hb
  split at hw
  ·rename_i hc
   obtain ⟨gN,KU,hlen,ga⟩:=hc
   cases hw
   obtain ⟨L,hL,ho⟩:=h.obj _ _ hb
   have Mq:=ho
   obtain ⟨X,lo,hi,h1,h2,h3,h4,h5,h6,h7,h8⟩:=ho
   obtain ⟨hB,hF,hS⟩:=h6 gN
   have hl:=hv.length
   have eF:=jZ (P:=P) (off:=L.off+o) ys 0 X w h1 (by omega) (fun k k1 k2=>hF k (by omega) (by omega)) (aI.Nr hv ga)
   refine ⟨L,_,hL,eF,?_,Below.putObj (Below.refl B w) hB _⟩
   refine h.uV hb hL gN ?_
   have cv:L.bB<w.heap.size:=(Array.getElem?_eq_some_iff.1 h1).1
   have jn:(bU X (L.off+o+0) ys).size=X.size:=by simp [bU];omega
   refine ⟨_,lo,hi,World.putObj_heap_same cv,?_,h3,?_,?_,fun _=>⟨hB,?_,hS⟩,h7,qA h8.1 (by simpa using ga),fun hw=>?_⟩
   ·rw [h2];simp [ax];omega
   ·rw [jn];simp only [ax];simp;omega
   ·exact sN h5 (by omega) hv hlen
   ·rw [jn];exact hF
   ·obtain ⟨g1,g2,g3⟩:=h8.2 hw
    refine ⟨g1,?_,g3⟩
    simp [bU,ax];omega
  ·cases hw
 ·cases hw
end
end Go.Am
end
/- The abstract machine: each operation does in the model what it does here (no heap turned). -/
section
namespace Go.Am
open Go.RowKit
section
variable {P:Program} {E:Env} {B:eS} {H:AH} {w:World}
def jR (P:Program) (E:Env) (w:World) (v:AV) (s:Sem Value):Prop:=∃x,s.run P w=.ok x w∧VR E v x
theorem iD (h:HR P E B H w) {T:List AV} {a:Act} (hT:aI E T a.tmps.toList) {x:Operand} {v:AV} (hv:ev P T x=some v):VR E v (a.eval x):=by
 cases x with
 | tmp t =>
  simp only [ev,Option.some.injEq] at hv
  subst hv
  simp only [Act.eval]
  cases ht:T[t]? with
  | some v =>
   obtain ⟨y,hy,TV⟩:=hT.get ht
   rw [Array.getElem?_toList] at hy
   simpa [Array.getD_eq_getD_getElem?,hy] using TV
  | none =>
   have hl:=hT.length
   have YG:a.tmps[t]? = none:=by
    rw [← Array.getElem?_toList]
    have:=List.getElem?_eq_none_iff.1 ht
    exact List.getElem?_eq_none (by omega)
   simp only [Array.getD_eq_getD_getElem?,YG,Option.getD_none]
   exact ⟨#[],rfl,rfl⟩
 | const v'=>exact VR.of _ _ hv
 | global g =>
  simp only [ev] at hv
  split at hv
  ·rename_i hg
   cases hv
   obtain ⟨L,h1,h2,h3⟩:=h.jI g hg
   exact ⟨L,h1,by simp [Act.eval,h2,h3]⟩
  ·cases hv
 | func f=>simp only [ev,Option.some.injEq] at hv;subst hv;exact ⟨#[],#[],rfl,rfl,rfl⟩
def LN (E:Env):Option AV→Option Value→Prop
 | none,v=>v=none
 | some x,v=>∃y,v=some y∧VR E x y
def MU (E:Env):List (Nat×AV)→List (Nat×Value)→Prop
 | [],l=>l=[]
 | (i,x) :: xs,l=>∃y ys,l=(i,y) :: ys∧VR E x y∧MU E xs ys
theorem Lf (h:HR P E B H w) {T:List AV} {a:Act} (hT:aI E T a.tmps.toList) : ∀ {xs:List (Nat×Operand)} {vs:List (Nat×AV)},DP P T xs=some vs→MU E vs (xs.map fun (i,x)=>(i,a.eval x))
 | [],vs,hv=>by simp only [DP,Option.some.injEq] at hv;subst hv;rfl
 | (i,x) :: xs,vs,hv=>by
  simp only [DP] at hv
  obtain ⟨v,h1,hv⟩:=Option.bind_eq_some_iff.1 hv
  obtain ⟨VF,h2,hv⟩:=Option.map_eq_some_iff.1 hv
  subst hv
  exact ⟨_,_,rfl,iD h hT h1,Lf h hT h2⟩
/-! ### Types -/
theorem aK {t:TypeId} {s:Nat} (h:bX P t=some s) (w:World):(sizeOf t).run P w=.ok s w:=by
 unfold bX at h
 obtain ⟨i,hi,rfl⟩:=Option.map_eq_some_iff.1 h
 simp [sizeOf,typeInfo,hi]
theorem kC {t:TypeId} {s:Nat} (h:bX P t=some s):P.cellsOf t=s:=by
 unfold bX at h
 obtain ⟨i,hi,rfl⟩:=Option.map_eq_some_iff.1 h
 simp [Program.cellsOf,hi]
theorem eK {t:TypeId} {i:TypeInfo} (h:P.info? t=some i) (w:World):(typeInfo t).run P w=.ok i w:=by simp [typeInfo,h]
theorem wH {t:TypeId} {n:Nat} (h:vj P t=some n) : ∃i,P.info? t=some i∧i.bytes=n:=by
 unfold vj at h;exact Option.map_eq_some_iff.1 h
theorem fC {t:TypeId} {z:AV} (h:zeroOf P t=some z) (E:Env) (w:World) : ∃x,(zeroValue t).run P w=.ok x w∧VR E z x:=by
 unfold zeroOf at h
 obtain ⟨i,hi,h⟩:=Option.bind_eq_some_iff.1 h
 obtain ⟨x,hx,h⟩:=Option.bind_eq_some_iff.1 h
 exact ⟨x,by simp [zeroValue,typeInfo,hi,hx],VR.of _ _ h⟩
theorem gV {t:TypeId} {b:Bool} (h:F1 P t=some b) (w:World):(isAgg t).run P w=.ok b w:=by
 unfold F1 at h
 split at h
 ·rename_i fs he;cases h;simp [isAgg,run_underlying he]
 ·rename_i n e he;cases h;simp [isAgg,run_underlying he]
 ·rename_i d hs hn he
  cases h
  simp only [isAgg,Sem.run_bind,run_underlying he,Result.andThen_ok]
  cases d <;> first | rfl | (exact absurd rfl (hs _)) | (exact absurd rfl (hn _ _))
 ·cases h
theorem jy {t:TypeId} {cs:List AV} {xs:Array Value} {off:Nat} {v:AV} (h:kF P t cs off=some v) (hx:aI E cs xs.toList):jR P E w v (part t xs off):=by
 unfold kF at h
 split at h
 ·rename_i ha
  obtain ⟨s,hs,rfl⟩:=Option.map_eq_some_iff.1 h
  refine ⟨.agg (xs.extract off (off+s)),by simp [part,gV ha,aK hs],_,rfl,?_⟩
  have:=(hx.drop off).take s
  have e:(xs.extract off (off+s)).toList=(xs.toList.drop off).take s:=by
   rw [Array.toList_extract];simp [List.extract_eq_take_drop,Nat.add_sub_cancel_left]
  rw [e];exact this
 ·rename_i ha
  obtain ⟨y,hy,hv⟩:=hx.get h
  rw [Array.getElem?_toList] at hy
  exact ⟨y,by simp [part,gV ha,hy],hv⟩
 ·cases h
/-! ### Reading memory -/
theorem EB (h:HR P E B H w) {t:TypeId} {a v:AV} {x:Value} (hv:jE P H t a=some v) (hx:VR E a x):jR P E w v (Instr.loadAt t x):=by
 unfold jE at hv
 split at hv
 ·rename_i b o
  obtain ⟨L,hL,rfl⟩:=hx
  split at hv
  ·rename_i ha
   obtain ⟨s,hs,hv⟩:=Option.bind_eq_some_iff.1 hv
   obtain ⟨vs,hr,rfl⟩:=Option.map_eq_some_iff.1 hv
   obtain ⟨L',ys,cr,rK,di⟩:=run_read h hr
   rw [hL] at cr;cases cr
   exact ⟨.agg ys.toArray,by simp [Instr.loadAt,Instr.sureAddr,loadVar,gV ha,aK hs,di],_,rfl,by simpa using rK⟩
  ·rename_i ha
   obtain ⟨L',y,cr,hy,hc⟩:=pP h hv
   rw [hL] at cr;cases cr
   exact ⟨y,by simp [Instr.loadAt,Instr.sureAddr,loadVar,gV ha,hc],hy⟩
  ·cases hv
 ·cases hv
theorem fK (b o n:Nat):(⟨b,o,none⟩ : Addr).add n=⟨b,o+n,none⟩:=by unfold Addr.add;split <;> simp_all
theorem sW {t:TypeId} {a v:AV} {x:Value} {f:Nat} (hv:iC P t a f=some v) (hx:VR E a x):jR P E w v (Instr.fieldAt t x f):=by
 unfold iC at hv
 split at hv
 ·rename_i fs b o hu
  obtain ⟨L,hL,rfl⟩:=hx
  split at hv
  ·rename_i fd hf
   split at hv
   ·cases hv
   ·rename_i s NO hs
    cases hv
    have h0:s ≠ 0:=NO
    exact ⟨.pointer (some ⟨L.bB,L.off+o+fd.offset,none⟩),by simp [Instr.fieldAt,run_underlying hu,hf,Instr.sureAddr,fieldPlace,aK hs,h0,fK],L,hL,by simp [Nat.add_assoc]⟩
   ·cases hv
  ·cases hv
 ·cases hv
theorem BP {t:TypeId} {a v:AV} {x:Value} {f:Nat} (hv:uc P t a f=some v) (hx:VR E a x):jR P E w v (Instr.field t x f):=by
 unfold uc at hv
 split at hv
 ·rename_i fs cs hu
  obtain ⟨xs,rfl,rL⟩:=hx
  split at hv
  ·rename_i fd hf
   obtain ⟨y,hy,TV⟩:=jy (w:=w) hv rL
   exact ⟨y,by simp [Instr.field,run_underlying hu,hf,asAgg,hy],TV⟩
  ·cases hv
 ·cases hv
theorem sV {t:TypeId} {a i v:AV} {x y:Value} (hv:eW P t a i=some v) (hx:VR E a x) (hy:VR E i y):jR P E w v (Instr.indexAt t x y):=by
 unfold eW at hv
 split at hv
 ·rename_i e b o len cap k n hu
  obtain ⟨L,a',c',hL,rfl,Cv,oW,nR,ha⟩:=hx
  obtain rfl:y=.int k n:=hy
  split at hv
  ·rename_i s hs
   split at hv
   ·rename_i hn
    cases hv
    have Gn:c' ≠ 0:=by rcases oW with rfl | ⟨_,rfl⟩ <;> omega
    rcases ha with rfl | h0
    ·exact ⟨.pointer (some ⟨L.bB,L.off+o+n.toNat*s,none⟩),by simp [Instr.indexAt,asIntOf,run_underlying hu,hn,aK hs,fK],L,hL,by simp [Nat.add_assoc]⟩
    ·exact absurd h0 Gn
   ·cases hv
  ·cases hv
 ·rename_i len e b o k n hu
  obtain ⟨L,hL,rfl⟩:=hx
  obtain rfl:y=.int k n:=hy
  split at hv
  ·rename_i s hs
   split at hv
   ·rename_i hn
    cases hv
    exact ⟨.pointer (some ⟨L.bB,L.off+o+n.toNat*s,none⟩),by simp [Instr.indexAt,asIntOf,run_underlying hu,hn,aK hs,fK,Instr.sureAddr],L,hL,by simp [Nat.add_assoc]⟩
   ·cases hv
  ·cases hv
 ·cases hv
theorem BO {t:TypeId} {a i v:AV} {x y:Value} (hv:lR P t a i=some v) (hx:VR E a x) (hy:VR E i y):jR P E w v (Instr.index t x y):=by
 unfold lR at hv
 split at hv
 ·rename_i len e cs k n hu
  obtain ⟨xs,rfl,rL⟩:=hx
  obtain rfl:y=.int k n:=hy
  split at hv
  ·rename_i s hs
   split at hv
   ·rename_i hn
    obtain ⟨z,hz,YA⟩:=jy (w:=w) hv rL
    exact ⟨z,by simp [Instr.index,asIntOf,run_underlying hu,hn,aK hs,hz],YA⟩
   ·cases hv
  ·cases hv
 ·rename_i s k n hu
  obtain rfl:x=.string ⟨s.toArray⟩:=hx
  obtain rfl:y=.int k n:=hy
  split at hv
  ·rename_i hn
   obtain ⟨b,hb,rfl⟩:=Option.map_eq_some_iff.1 hv
   refine ⟨.int .u8 b.toNat,?_,rfl⟩
   have tS:(⟨s.toArray⟩ : ByteArray)[n.toNat]? = some b:=by
    obtain ⟨cv,hb⟩:=List.getElem?_eq_some_iff.1 hb
    rw [getElem?_pos (⟨s.toArray⟩ : ByteArray) n.toNat (show n.toNat<(⟨s.toArray⟩ : ByteArray).size from cv)]
    exact congrArg some hb
   simp [Instr.index,asIntOf,run_underlying hu,hn,tS]
  ·cases hv
 ·cases hv
/-! ### Parts put together -/
theorem MU.get {x:List (Nat×AV)} {y:List (Nat×Value)} (h:MU E x y):x.length=y.length:=by
 induction x generalizing y with
 | nil=>cases h;rfl
 | cons p x ih=>obtain ⟨i,v⟩:=p;obtain ⟨z,zs,rfl,_,h⟩:=h;simp [ih h]
theorem oZ {place:Nat→Option (Nat×Nat)} : ∀ {parts:List (Nat×AV)} {lE:List (Nat×Value)} {cs:List AV} {vh:Array Value} {r:List AV},
  MU E parts lE→aI E cs vh.toList→lX place cs parts=some r→∃r',Instr.fill place vh lE=some r'∧aI E r r'.toList
 | [],_,cs,vh,r,h,hc,hr=>by cases h;simp only [lX,Option.some.injEq] at hr;subst hr;exact ⟨vh,rfl,hc⟩
 | (i,v) :: parts,_,cs,vh,r,h,hc,hr=>by
  obtain ⟨y,ys,rfl,hv,h⟩:=h
  simp only [lX] at hr
  simp only [Instr.fill]
  cases hp:place i with
  | none=>simp [hp] at hr
  | some os =>
   obtain ⟨off,size⟩:=os
   simp only [hp] at hr ⊢
   split at hr
   ·rename_i Cy
    have DH:v.cells.length=size∧off+v.cells.length≤cs.length:=⟨Cy.1,Cy.2.1⟩
    have Wv:=hv.cells Cy.2.2
    have Cw:=Wv.length
    have QI:=hc.length
    simp only [Array.length_toList] at Cw QI
    rw [if_neg (by simp;omega)]
    have e : ∀(vs:List Value) (k:Nat) (X:Array Value),off+k+vs.length≤X.size →
      (vs.zipIdx k).foldl (fun cs (c,j)=>cs.setIfInBounds (off+j) c) X=bU X (off+k) vs:=by
     intro vs
     induction vs with
     | nil=>intro k X _;simp [qB]
     | cons v vs ih =>
      intro k X hX
      simp only [List.length_cons] at hX
      simp only [List.zipIdx_cons,List.foldl_cons]
      rw [ih (k+1) _ (by simp;omega),← ox _ _ _ _ (by omega)]
      rfl
    have e2:(y.cells.zipIdx.foldl (fun cs (c,j)=>cs.setIfInBounds (off+j) c) vh)=bU vh off y.cells.toList:=by
     have:=e y.cells.toList 0 vh (by simp;omega)
     rw [← Array.foldl_toList,Array.toList_zipIdx]
     simpa using this
    rw [e2]
    refine oZ h ?_ hr
    have:=sN (off:=0) (X:=vh) (o:=off) (vs:=v.cells) (ys:=y.cells.toList) (cs:=cs) (by
     rw [List.drop_zero,hc.length,List.take_length];exact hc) (by omega) Wv (by omega)
    rw [List.drop_zero,Nat.zero_add] at this
    have hlen:(ax cs off v.cells).length=(bU vh off y.cells.toList).toList.length:=by simp [ax,bU];omega
    rw [hlen,List.take_length] at this
    exact this
   ·cases hr
theorem z7 (fs:Array Field) (h:fs.all (fun f=>(bX P f.type).isSome)=true) (w:World) :
  ∃ps:Array (Nat×Nat),(fs.mapM fun (f:Field)=>do pure (f.offset,← sizeOf f.type):Sem (Array (Nat×Nat))).run P w=.ok ps w∧∀i:Nat,ps[i]? = (fs[i]?).bind fun (f:Field)=>(bX P f.type).map fun s=>(f.offset,s):=by
 obtain ⟨l⟩:=fs
 have key : ∀l:List Field,(∀f ∈ l,(bX P f.type).isSome=true)→∃ps:List (Nat×Nat),(l.mapM fun (f:Field)=>do pure (f.offset,← sizeOf f.type):Sem (List (Nat×Nat))).run P w=.ok ps w ∧
   ∀i:Nat,ps[i]? = (l[i]?).bind fun (f:Field)=>(bX P f.type).map fun s=>(f.offset,s):=by
  intro l
  induction l with
  | nil=>intro _;exact ⟨[],by simp,by simp⟩
  | cons f l ih =>
   intro hl
   obtain ⟨ps,h1,h2⟩:=ih (fun g hg=>hl g (by simp [hg]))
   obtain ⟨s,hs⟩:=Option.isSome_iff_exists.1 (hl f (by simp))
   refine ⟨(f.offset,s) :: ps,?_,?_⟩
   ·rw [List.mapM_cons];simp only [bind_pure_comp] at h1 ⊢;simp [aK hs,h1]
   ·intro i
    cases i with
    | zero=>simp [hs]
    | succ i=>simpa using h2 i
 obtain ⟨ps,h1,h2⟩:=key l (by simpa using h)
 refine ⟨⟨ps⟩,?_,by simpa using h2⟩
 rw [List.mapM_toArray]
 simp only [bind_pure_comp] at h1 ⊢
 simp [h1]
theorem BQ {t:TypeId} {parts:List (Nat×AV)} {lE:List (Nat×Value)} {v:AV} (hv:uy P t parts=some v) (hp:MU E parts lE):jR P E w v (Instr.build t lE.toArray):=by
 unfold uy at hv
 split at hv
 ·rename_i fs z hu hz
  obtain ⟨zx,Js,yR⟩:=fC hz E w
  obtain ⟨cs,hf,hv⟩:=Option.bind_eq_some_iff.1 hv
  split at hv
  ·rename_i jo
   cases hv
   obtain ⟨ps,hm,YU⟩:=z7 fs jo w
   have NR:(fun i:Nat=>(fs[i]?).bind fun (f:Field)=>(bX P f.type).map fun s=>(f.offset,s))=(fun i=>ps[i]?):=funext fun i=>(YU i).symm
   rw [NR] at hf
   obtain ⟨r,hr,NP⟩:=oZ hp (yR.cells (cI hz)) hf
   refine ⟨.agg r,?_,r,rfl,NP⟩
   simp only [Instr.build,Sem.run_bind,Js,Result.andThen_ok,run_underlying hu,hm,hr]
   rfl
  ·cases hv
 ·rename_i n e z hu hz
  obtain ⟨zx,Js,yR⟩:=fC hz E w
  split at hv
  ·rename_i s hs
   obtain ⟨cs,hf,rfl⟩:=Option.map_eq_some_iff.1 hv
   obtain ⟨r,hr,NP⟩:=oZ hp (yR.cells (cI hz)) hf
   refine ⟨.agg r,?_,r,rfl,NP⟩
   simp only [Instr.build,Sem.run_bind,Js,Result.andThen_ok,run_underlying hu,aK hs,hr]
   rfl
  ·cases hv
 ·cases hv
end
end Go.Am
end
/- The abstract machine: operators, comparisons, slices. -/
section
namespace Go.Am
open Go.RowKit
section
variable {P:Program} {E:Env} {B:eS} {H:AH} {w:World}
theorem CV (u v:List UInt8):((⟨u.toArray⟩ : ByteArray) == ⟨v.toArray⟩)=true↔u=v:=by
 show (u.toArray == v.toArray)=true↔_
 simp
theorem ku {eq:TypeId→AV→AV→Option Bool} {eq' : TypeId→Value→Value→Sem Bool} (hq : ∀t a b x y r,eq t a b=some r→VR E a x→VR E b y→(eq' t x y).run P w=.ok r w)
  {xs ys:List AV} {LR vn:Array Value} (hx:aI E xs LR.toList) (hy:aI E ys vn.toList) : ∀ {fs:List Field} {r:Bool},eqFields P eq xs ys fs=some r →
  (do
   for f in fs do if f.name ≠ "_" then
     if !(← eq' f.type (← part f.type LR f.offset) (← part f.type vn f.offset)) then return false
   pure true:Sem Bool).run P w=.ok r w
 | [],r,h=>by simp only [eqFields,Option.some.injEq] at h;subst h;simp
 | f :: fs,r,h=>by
  simp only [eqFields] at h
  split at h
  ·rename_i hn
   obtain ⟨a,ha,h⟩:=Option.bind_eq_some_iff.1 h
   obtain ⟨b,hb,h⟩:=Option.bind_eq_some_iff.1 h
   obtain ⟨q,yS,h⟩:=Option.bind_eq_some_iff.1 h
   obtain ⟨x,uO,Ju⟩:=jy (w:=w) ha hx
   obtain ⟨y,Qd,Qa⟩:=jy (w:=w) hb hy
   have di:=hq _ _ _ _ _ _ yS Ju Qa
   cases q with
   | true =>
    have ih:=ku hq hx hy h
    simp only [List.forIn_cons,hn,ne_eq,not_false_eq_true,if_true,bind_assoc,Sem.run_bind,uO,Qd,di,Result.andThen_ok] at ih ⊢
    simpa using ih
   | false =>
    cases h
    simp [List.forIn_cons,hn,uO,Qd,di]
  ·rename_i hn
   have ih:=ku hq hx hy h
   simp only [List.forIn_cons,hn,if_false,bind_assoc,Sem.run_bind] at ih ⊢
   simpa using ih
theorem qV {eq:TypeId→AV→AV→Option Bool} {eq' : TypeId→Value→Value→Sem Bool} (hq : ∀t a b x y r,eq t a b=some r→VR E a x→VR E b y→(eq' t x y).run P w=.ok r w)
  {xs ys:List AV} {LR vn:Array Value} (hx:aI E xs LR.toList) (hy:aI E ys vn.toList) {e:TypeId} {n:Nat} : ∀ {m i:Nat} {r:Bool},kA P eq e xs ys n i m=some r →
  (do
   for i in List.range' i m do if !(← eq' e (← part e LR (i*n)) (← part e vn (i*n))) then return false
   pure true:Sem Bool).run P w=.ok r w
 | 0,i,r,h=>by simp only [kA,Option.some.injEq] at h;subst h;simp
 | m+1,i,r,h=>by
  simp only [kA] at h
  obtain ⟨a,ha,h⟩:=Option.bind_eq_some_iff.1 h
  obtain ⟨b,hb,h⟩:=Option.bind_eq_some_iff.1 h
  obtain ⟨q,yS,h⟩:=Option.bind_eq_some_iff.1 h
  obtain ⟨x,uO,Ju⟩:=jy (w:=w) ha hx
  obtain ⟨y,Qd,Qa⟩:=jy (w:=w) hb hy
  have di:=hq _ _ _ _ _ _ yS Ju Qa
  cases q with
  | true =>
   have ih:=qV hq hx hy h
   simp only [List.range'_succ,List.forIn_cons,bind_assoc,Sem.run_bind,uO,Qd,di,Result.andThen_ok] at ih ⊢
   simpa using ih
  | false =>
   cases h
   simp [List.range'_succ,List.forIn_cons,uO,Qd,di]
set_option maxHeartbeats 1000000 in
theorem lu : ∀(d D:Nat) (t:TypeId) (a b:AV) (x y:Value) (r:Bool),d≤D→kT P d t a b=some r→VR E a x→VR E b y→(Op.equalIn D t x y).run P w=.ok r w
 | 0,_,_,_,_,_,_,_,_,h,_,_=>by simp [kT] at h
 | d+1,0,_,_,_,_,_,_,hd,_,_,_=>by omega
 | d+1,D+1,t,a,b,x,y,r,hd,h,hx,hy=>by
  have ih:=fun t a b x y r=>lu d D t a b x y r (by omega)
  simp only [kT] at h
  simp only [Op.equalIn]
  split at h
  ·rename_i u v hu;cases h;obtain rfl:x=_:=hx;obtain rfl:y=_:=hy;simp [run_underlying hu]
  ·rename_i k0 k u k' v hu
   split at h
   ·rename_i hk;cases h;obtain rfl:x=_:=hx;obtain rfl:y=_:=hy;simp [run_underlying hu,hk]
   ·cases h
  ·rename_i u v hu;cases h;obtain rfl:x=_:=hx;obtain rfl:y=_:=hy
   simp only [Sem.run_bind,run_underlying hu,Result.andThen_ok,Sem.run_pure]
   congr 1
   rw [Bool.eq_iff_iff,CV];simp
  ·rename_i e0 v hu;cases h;obtain rfl:x=_:=hx
   cases v with
   | none=>obtain rfl:y=_:=hy;simp [run_underlying hu]
   | some p=>obtain ⟨pb,po⟩:=p;obtain ⟨L,_,rfl⟩:=hy;simp [run_underlying hu]
  ·rename_i e0 p hu;cases h;obtain ⟨pb,po⟩:=p;obtain ⟨L,_,rfl⟩:=hx;obtain rfl:y=_:=hy;simp [run_underlying hu]
  ·rename_i e0 p q hu
   split at h
   ·rename_i s hs
    split at h
    ·rename_i hc
     obtain ⟨MC,SB⟩:=hc
     cases h
     obtain ⟨pb,po⟩:=p;obtain ⟨qb,qo⟩:=q
     simp only at MC;subst MC
     obtain ⟨L,hL,rfl⟩:=hx;obtain ⟨L',cr,rfl⟩:=hy
     rw [hL] at cr;cases cr
     simp only [Sem.run_bind,run_underlying hu,Result.andThen_ok,aK hs,ne_eq,SB,not_false_eq_true,if_true,sameAddr,BEq.rfl,Sem.run_pure]
     congr 1
     rw [Bool.eq_iff_iff];simp
    ·cases h
   ·cases h
  ·rename_i ms hu;cases h;obtain rfl:x=_:=hx;obtain rfl:y=_:=hy;simp [run_underlying hu]
  ·rename_i ms ty v hu;cases h;obtain rfl:x=_:=hx;obtain ⟨z,rfl,_⟩:=hy;simp [run_underlying hu]
  ·rename_i ms ty v hu;cases h;obtain ⟨z,rfl,_⟩:=hx;obtain rfl:y=_:=hy;simp [run_underlying hu]
  ·rename_i ms tx vx ty vy hu
   obtain ⟨z,rfl,hz⟩:=hx;obtain ⟨z',rfl,iM⟩:=hy
   split at h
   ·rename_i cU;cases h;simp [run_underlying hu,cU]
   ·rename_i cU
    simp only [ne_eq,Decidable.not_not] at cU
    subst cU
    split at h
    ·rename_i i hi
     split at h
     ·rename_i hc
      have:=ih _ _ _ _ _ _ h hz iM
      simp [run_underlying hu,eK hi,hc,this]
     ·cases h
    ·cases h
  ·rename_i fs xs ys hu
   obtain ⟨LR,rfl,rL⟩:=hx;obtain ⟨vn,rfl,rK⟩:=hy
   split at h
   ·cases h
   ·rename_i eF
    have:=ku (eq':=Op.equalIn D) ih rL rK h
    simp only [Sem.run_bind,run_underlying hu,Result.andThen_ok,run_program,eF]
    obtain ⟨fl⟩:=fs
    simpa using this
  ·rename_i len e0 xs ys hu
   obtain ⟨LR,rfl,rL⟩:=hx;obtain ⟨vn,rfl,rK⟩:=hy
   split at h
   ·rename_i s hs
    have:=qV (eq':=Op.equalIn D) ih rL rK h
    simp only [Sem.run_bind,run_underlying hu,Result.andThen_ok,aK hs]
    simpa [Std.Legacy.Range.forIn_eq_forIn_range'] using this
   ·cases h
  ·rename_i e0 l c v QI SB hu;cases h
   obtain ⟨rfl,_⟩:=hx
   cases v with
   | none=>obtain ⟨rfl,_⟩:=hy;simp [run_underlying hu]
   | some p=>obtain ⟨pb,po⟩:=p;obtain ⟨L,a',c',_,rfl,_⟩:=hy;simp [run_underlying hu]
  ·rename_i e0 p l c l2 c2 hu;cases h
   obtain ⟨pb,po⟩:=p
   obtain ⟨L,a',c',_,rfl,_⟩:=hx;obtain ⟨rfl,_⟩:=hy
   simp [run_underlying hu]
  ·rename_i k0 e0 v hu;cases h;obtain rfl:x=_:=hx
   cases v with
   | none=>obtain rfl:y=_:=hy;simp [run_underlying hu]
   | some p=>obtain ⟨L,_,rfl⟩:=hy;simp [run_underlying hu]
  ·rename_i k0 e0 p hu;cases h;obtain ⟨L,_,rfl⟩:=hx;obtain rfl:y=_:=hy;simp [run_underlying hu]
  ·rename_i hu;cases h;obtain rfl:x=_:=hx;obtain rfl:y=_:=hy;simp [run_underlying hu]
  ·rename_i f0 a0 b0 hu;cases h;obtain rfl:x=_:=hx;obtain ⟨x',y',rfl,_⟩:=hy;simp [run_underlying hu]
  ·rename_i f0 a0 b0 hu;cases h;obtain ⟨x',y',rfl,_⟩:=hx;obtain rfl:y=_:=hy;simp [run_underlying hu]
  ·cases h
theorem uw : ∀(a b:List UInt8),Op.bytesLess a b=ei a b
 | _,[]=>by simp [Op.bytesLess,ei]
 | [],_ :: _=>by simp [Op.bytesLess,ei]
 | a :: x,b :: y=>by simp [Op.bytesLess,ei,uw x y]
theorem BN {op:BinOp} {k:IntKind} {a b:Int} {v:AV} (t:TypeId) (h:kq op k a b=some v):jR P E w v (binOp op t (.int k a) (.int k b)):=by
 cases op <;> simp only [kq,Option.some.injEq,reduceCtorEq] at h
 case quo =>
  split at h
  ·cases h
  ·rename_i hb;cases h;refine ⟨_,?_,rfl⟩;simp [binOp,Op.intDiv,hb]
 case rem =>
  split at h
  ·cases h
  ·rename_i hb;cases h;refine ⟨_,?_,rfl⟩;simp [binOp,Op.intDiv,hb]
 all_goals (subst h;refine ⟨_,?_,rfl⟩;simp [binOp,Op.intArith,Op.intBits,Op.intCmp])
theorem BI {op:BinOp} {a b:List UInt8} {v:AV} (t:TypeId) (h:sH op a b=some v):jR P E w v (binOp op t (.string ⟨a.toArray⟩) (.string ⟨b.toArray⟩)):=by
 cases op <;> simp only [sH,Option.some.injEq,reduceCtorEq] at h
 case add =>
  split at h
  ·cases h
  ·rename_i hb
   cases h
   have jn : ∀l:List UInt8,(⟨l.toArray⟩ : ByteArray).size=l.length:=fun l=>rfl
   refine ⟨.string (⟨a.toArray⟩ ++ ⟨b.toArray⟩),?_,?_⟩
   ·simp only [binOp,Op.stringOp,jn]
    rw [if_neg hb];rfl
   ·show _=_
    congr 1
 all_goals (subst h;refine ⟨_,rfl,?_⟩;simp [VR,uw])
theorem qD {op:BinOp} {t:TypeId} {xo yo:Operand} {a b:AV} {x y:Value} (h:cz P t xo yo a b=true) (hx:VR E a x) (hy:VR E b y):(eqGuard op t xo yo x y).run P w=.ok () w:=by
 cases op <;> first | rfl | skip
 all_goals
  unfold eqGuard
  simp only [Bool.not_true,Bool.false_eq_true,if_false]
  split
  ·match a,b,hx,hy,h with
   | .nilIface,.nilIface,_,_,h=>cases xo <;> cases yo <;> first | rfl | (exact absurd h (by simp [cz,p6]))
   | .any,_,_,_,h=>simp [cz] at h
   | .nilIface,.any,_,_,h=>simp [cz] at h
   | .agg _,_,hx,_,_=>obtain ⟨_,e,_⟩:=hx;cases e
  ·match a,b,hx,hy,h with
   | .agg _,.agg _,_,_,h =>
    have h' : P.eqGuardType P.depth t=false:=by simpa [cz] using h
    simp [h']
   | .any,_,_,_,h=>simp [cz] at h
   | .agg _,.any,_,_,h=>simp [cz] at h
  ·rfl
theorem Lj {d:Nat} {t:TypeId} {k:IntKind} {n:Int} {b:AV} {r:Bool} (h:kT P d t (.int k n) b=some r) : ∃k' m,b=.int k' m:=by
 cases d with
 | zero=>simp [kT] at h
 | succ d=>simp only [kT] at h;split at h <;> simp_all
theorem Li {d:Nat} {t:TypeId} {s:List UInt8} {b:AV} {r:Bool} (h:kT P d t (.str s) b=some r) : ∃u,b=.str u:=by
 cases d with
 | zero=>simp [kT] at h
 | succ d=>simp only [kT] at h;split at h <;> simp_all
theorem IK {d:Nat} {t:TypeId} {lo:Int} {u:Bool} {b:AV} {r:Bool} (h:kT P d t (.half lo u) b=some r):False:=by
 cases d with
 | zero=>simp [kT] at h
 | succ d=>simp only [kT] at h;split at h <;> simp_all
theorem Lh {d:Nat} {t:TypeId} {b:AV} {r:Bool} (h:kT P d t .qz b=some r):False:=by
 cases d with
 | zero=>simp [kT] at h
 | succ d=>simp only [kT] at h;split at h <;> simp_all
theorem Ll {d:Nat} {t:TypeId} {b:AV} {r:Bool} (h:kT P d t .any b=some r):False:=by
 cases d with
 | zero=>simp [kT] at h
 | succ d=>simp only [kT] at h;split at h <;> simp_all
theorem qZ {t:TypeId} {d:Nat} {a b:AV} {x y:Value} {r:Bool} (hr:kT P d t a b=some r) (hx:VR E a x) (h1 : ∀k n k' m,a=.int k n→b=.int k' m→False) (h2 : ∀s u,a=.str s→b=.str u→False) :
  binOp .eql t x y=(do pure (.bool (← Op.equal t x y)))∧binOp .neq t x y=(do pure (.bool (!(← Op.equal t x y)))):=by
 match a,hx with
 | .int k n,_=>obtain ⟨k',m,rfl⟩:=Lj hr;exact (h1 _ _ _ _ rfl rfl).elim
 | .str s,_=>obtain ⟨u,rfl⟩:=Li hr;exact (h2 _ _ rfl rfl).elim
 | .any,_=>exact (Ll hr).elim
 | .half _ _,_=>exact (IK hr).elim
 | .qz,_=>exact (Lh hr).elim
 | .bool u,hx=>obtain rfl:x=_:=hx;exact ⟨by simp [binOp],by simp [binOp]⟩
 | .ptr none,hx=>obtain rfl:x=_:=hx;exact ⟨by simp [binOp],by simp [binOp]⟩
 | .ptr (some (p,o)),hx=>obtain ⟨L,_,rfl⟩:=hx;exact ⟨by simp [binOp],by simp [binOp]⟩
 | .slice none l c,hx=>obtain ⟨rfl,_⟩:=hx;exact ⟨by simp [binOp],by simp [binOp]⟩
 | .slice (some (p,o)) l c,hx=>obtain ⟨L,a',c',_,rfl,_⟩:=hx;exact ⟨by simp [binOp],by simp [binOp]⟩
 | .func f u v,hx=>obtain ⟨u',v',rfl,_⟩:=hx;exact ⟨by simp [binOp],by simp [binOp]⟩
 | .nilFunc,hx=>obtain rfl:x=_:=hx;exact ⟨by simp [binOp],by simp [binOp]⟩
 | .cV b,hx=>obtain ⟨L,_,rfl⟩:=hx;exact ⟨by simp [binOp],by simp [binOp]⟩
 | .iface u v,hx=>obtain ⟨z,rfl,_⟩:=hx;exact ⟨by simp [binOp],by simp [binOp]⟩
 | .nilIface,hx=>obtain rfl:x=_:=hx;exact ⟨by simp [binOp],by simp [binOp]⟩
 | .agg cs,hx=>obtain ⟨z,rfl,_⟩:=hx;exact ⟨by simp [binOp],by simp [binOp]⟩
 | .tuple cs,hx=>obtain ⟨z,rfl,_⟩:=hx;exact ⟨by simp [binOp],by simp [binOp]⟩
 | .map none,hx=>obtain rfl:x=_:=hx;exact ⟨by simp [binOp],by simp [binOp]⟩
 | .map (some _),hx=>obtain ⟨L,_,rfl⟩:=hx;exact ⟨by simp [binOp],by simp [binOp]⟩
theorem G6 {op:BinOp} {t:TypeId} {xo yo:Operand} {a b v:AV} {x y:Value} (h:rP P op t xo yo a b=some v) (hx:VR E a x) (hy:VR E b y) :
  jR P E w v (do eqGuard op t xo yo x y;binOp op t x y):=by
 unfold rP at h
 split at h
 ·rename_i k n k' m
  obtain rfl:x=_:=hx;obtain rfl:y=_:=hy
  split at h
  ·cases h
  ·rename_i hm;cases h
   refine ⟨_,?_,rfl⟩
   have:(eqGuard .shl t xo yo (.int k n) (.int k' m)).run P w=.ok () w:=rfl
   simp [this,binOp,Op.shift,hm]
 ·rename_i k n k' m
  obtain rfl:x=_:=hx;obtain rfl:y=_:=hy
  split at h
  ·cases h
  ·rename_i hm;cases h
   refine ⟨_,?_,rfl⟩
   have:(eqGuard .shr t xo yo (.int k n) (.int k' m)).run P w=.ok () w:=rfl
   simp [this,binOp,Op.shift,hm]
 ·rename_i k n k' m h1 h2
  obtain rfl:x=_:=hx;obtain rfl:y=_:=hy
  split at h
  ·rename_i hk;subst hk
   obtain ⟨z,hz,hv⟩:=BN (P:=P) (E:=E) (w:=w) t h
   have:(eqGuard op t xo yo (.int k n) (.int k m)).run P w=.ok () w:=by cases op <;> rfl
   exact ⟨z,by simp [this,hz],hv⟩
  ·cases h
 ·rename_i s u
  obtain rfl:x=_:=hx;obtain rfl:y=_:=hy
  obtain ⟨z,hz,hv⟩:=BI (P:=P) (E:=E) (w:=w) t h
  have:(eqGuard op t xo yo (.string ⟨s.toArray⟩) (.string ⟨u.toArray⟩)).run P w=.ok () w:=by cases op <;> rfl
  exact ⟨z,by simp [this,hz],hv⟩
 ·rename_i n lo u
  split at h
  ·rename_i e
   cases h
   obtain rfl:x=_:=hx
   obtain ⟨m,rfl,hb⟩:=hy
   have:(eqGuard .leq t xo yo (.int .i64 n) (.int .i64 m)).run P w=.ok () w:=rfl
   refine ⟨.bool (decide (n≤m)),by simp [this,binOp,Op.intCmp],?_⟩
   have hd:decide (n≤m)=u:=by
    rcases e with ⟨rfl,e⟩ | ⟨rfl,e⟩
    ·simp only [decide_eq_true_eq] at hb ⊢;omega
    ·simp only [decide_eq_false_iff_not] at hb ⊢;omega
   rw [hd];rfl
  ·cases h
 ·rename_i h1 h2
  split at h
  ·rename_i hg
   obtain ⟨r,hr,rfl⟩:=Option.map_eq_some_iff.1 h
   have KT:=qD (w:=w) (op:=.eql) hg hx hy
   have heq:(Op.equal t x y).run P w=.ok r w:=lu 8 Op.maxDepth t a b x y r (by decide) hr hx hy
   refine ⟨.bool r,?_,rfl⟩
   have hb:=(qZ (y:=y) hr hx (fun k n k' m e e'=>h1 k n k' m e e') (fun s u e e'=>h2 s u e e')).1
   simp [KT,hb,heq]
  ·cases h
 ·rename_i h1 h2
  split at h
  ·rename_i hg
   obtain ⟨r,hr,rfl⟩:=Option.map_eq_some_iff.1 h
   have KT:=qD (w:=w) (op:=.neq) hg hx hy
   have heq:(Op.equal t x y).run P w=.ok r w:=lu 8 Op.maxDepth t a b x y r (by decide) hr hx hy
   refine ⟨.bool (!r),?_,rfl⟩
   have hb:=(qZ (y:=y) hr hx (fun k n k' m e e'=>h1 k n k' m e e') (fun s u e e'=>h2 s u e e')).2
   simp [KT,hb,heq]
  ·cases h
 ·cases h
end
end Go.Am
end
/- The abstract machine: what reads no more than a few cells: slices, lengths, assertions. -/
section
namespace Go.Am
open Go.RowKit
section
variable {P:Program} {E:Env} {B:eS} {H:AH} {w:World}
theorem J4 {op:UnOp} {a v:AV} {x:Value} (h:Pj op a=some v) (hx:VR E a x):jR P E w v (Op.unary op x):=by
 unfold Pj at h
 split at h
 ·cases h;obtain rfl:x=_:=hx;exact ⟨_,rfl,rfl⟩
 ·rename_i k n
  obtain rfl:x=_:=hx
  simp only [kq,Option.some.injEq] at h
  subst h
  refine ⟨_,?_,rfl⟩
  simp [Op.unary,Op.intBits]
 ·cases h;obtain rfl:x=_:=hx;exact ⟨_,rfl,rfl⟩
 ·cases h
theorem G3 {t ty:TypeId} {a v:AV} {x:Value} (ts:Array TypeId) (xs:Array Value) (ht:ts[0]? = some t) (rL:xs[0]? = some x) (h:Ag P t a=some v) (hx:VR E a x):jR P E w v (Builtin.len_ ts ty xs):=by
 unfold Ag at h
 split at h
 ·rename_i s hu;cases h;obtain rfl:x=_:=hx
  refine ⟨_,?_,rfl⟩
  simp [Builtin.len_,ht,rL,run_underlying hu,goInt];rfl
 ·rename_i n e hu;cases h
  refine ⟨_,?_,rfl⟩
  simp [Builtin.len_,ht,rL,run_underlying hu,goInt]
 ·rename_i p hu
  split at h
  ·rename_i n e Ql
   cases h
   refine ⟨_,?_,rfl⟩
   simp [Builtin.len_,ht,rL,run_underlying hu,run_underlying Ql,goInt]
  ·cases h
 ·rename_i e p n c hu;cases h
  refine ⟨_,?_,rfl⟩
  cases p with
  | none=>obtain ⟨rfl,_⟩:=hx;simp [Builtin.len_,ht,rL,run_underlying hu,goInt]
  | some p=>obtain ⟨pb,po⟩:=p;obtain ⟨L,a',c',_,rfl,_⟩:=hx;simp [Builtin.len_,ht,rL,run_underlying hu,goInt]
 ·cases h
theorem G4 (hH:HR P E B H w) {t ty:TypeId} {a v:AV} {x:Value} (ts:Array TypeId) (xs:Array Value) (ht:ts[0]? = some t) (rL:xs[0]? = some x) (h:IZ P H t a=some v) (hx:VR E a x):jR P E w v (Builtin.cap_ ts ty xs):=by
 unfold IZ at h
 split at h
 ·rename_i e l c hu;cases h;obtain ⟨rfl,_⟩:=hx
  refine ⟨_,?_,rfl⟩
  simp [Builtin.cap_,ht,rL,run_underlying hu,goInt]
 ·rename_i e b o l c hu
  split at h
  ·rename_i cs e' fl hb
   split at h
   ·cases h
   ·rename_i Bf
    cases h
    obtain ⟨L,a',c',hL,rfl,Cv,oW,_⟩:=hx
    obtain ⟨L',cr,ho⟩:=hH.obj _ _ hb
    rw [hL] at cr;cases cr
    obtain ⟨X,lo,hi,h1,h2,h3,h4,h5,h6,h7,h8⟩:=ho
    have h0:=h7 (by simpa using Bf)
    have:c'=c:=by rcases oW with e | ⟨_,e⟩ <;> omega
    subst this
    refine ⟨_,?_,rfl⟩
    simp [Builtin.cap_,ht,rL,run_underlying hu,goInt]
  ·cases h
 ·cases h
theorem rD {t st:TypeId} {ok:Bool} {a v:AV} {x:Value} (h:iO P t ok a=some v) (hx:VR E a x):jR P E w v (Instr.typeAssert x st t ok):=by
 unfold iO at h
 split at h
 ·obtain rfl:x=_:=hx
  split at h
  ·rename_i d z hu hz
   cases h
   obtain ⟨zx,Cn,nQ⟩:=fC hz E w
   refine ⟨.tuple #[zx,.bool false],?_,_,rfl,zx,_,rfl,nQ,_,_,rfl,rfl,rfl⟩
   cases d <;> simp [Instr.typeAssert,run_underlying hu,Cn]
  ·cases h
 ·rename_i ty y
  obtain ⟨z,rfl,hz⟩:=hx
  split at h
  ·cases h
  ·rename_i d Ij hu
   split at h
   ·rename_i he
    subst he
    cases h
    cases ok with
    | true =>
     refine ⟨.tuple #[z,.bool true],?_,_,rfl,z,_,rfl,hz,_,_,rfl,rfl,rfl⟩
     cases d <;> first | (exact absurd rfl (Ij _)) | simp [Instr.typeAssert,run_underlying hu]
    | false =>
     refine ⟨z,?_,hz⟩
     cases d <;> first | (exact absurd rfl (Ij _)) | simp [Instr.typeAssert,run_underlying hu]
   ·rename_i he
    split at h
    ·rename_i od
     subst od
     obtain ⟨zz,Yr,rfl⟩:=Option.map_eq_some_iff.1 h
     obtain ⟨zx,Cn,nQ⟩:=fC Yr E w
     refine ⟨.tuple #[zx,.bool false],?_,_,rfl,zx,_,rfl,nQ,_,_,rfl,rfl,rfl⟩
     cases d <;> first | (exact absurd rfl (Ij _)) | simp [Instr.typeAssert,run_underlying hu,he,Cn]
    ·cases h
  ·cases h
 ·cases h
theorem zw : ∀ {l:List AV} {a v:AV} {x:Value} {ys:List Value},aq (fun y x=>decide (y<x)) a l=some v→VR E a x→aI E l ys→jR P E w v (ys.foldlM Builtin.min2 x)
 | [],.int k n,v,x,ys,h,hx,hl=>by
  simp only [aq,Option.some.injEq] at h
  subst h
  cases hl;obtain rfl:x=_:=hx
  exact ⟨_,by simp,rfl⟩
 | .int k' m :: l,.int k n,v,x,ys,h,hx,hl=>by
  simp only [aq] at h
  obtain ⟨y,vn,rfl,hy,hl⟩:=hl
  obtain rfl:x=_:=hx;obtain rfl:y=_:=hy
  obtain ⟨z,hz,hv⟩:=zw h (show VR E _ (.int k (if m<n then m else n)) by simp [VR]) hl
  exact ⟨z,by simp [Builtin.min2,hz],hv⟩
 | .bool _ :: _,.int _ _,_,_,_,h,_,_=>by simp [aq] at h
 | .str _ :: _,.int _ _,_,_,_,h,_,_=>by simp [aq] at h
 | .ptr _ :: _,.int _ _,_,_,_,h,_,_=>by simp [aq] at h
 | .slice _ _ _ :: _,.int _ _,_,_,_,h,_,_=>by simp [aq] at h
 | .func _ _ _ :: _,.int _ _,_,_,_,h,_,_=>by simp [aq] at h
 | .nilFunc :: _,.int _ _,_,_,_,h,_,_=>by simp [aq] at h
 | .cV _ :: _,.int _ _,_,_,_,h,_,_=>by simp [aq] at h
 | .iface _ _ :: _,.int _ _,_,_,_,h,_,_=>by simp [aq] at h
 | .nilIface :: _,.int _ _,_,_,_,h,_,_=>by simp [aq] at h
 | .agg _ :: _,.int _ _,_,_,_,h,_,_=>by simp [aq] at h
 | .tuple _ :: _,.int _ _,_,_,_,h,_,_=>by simp [aq] at h
 | .map _ :: _,.int _ _,_,_,_,h,_,_=>by simp [aq] at h
 | .half _ _ :: _,.int _ _,_,_,_,h,_,_=>by simp [aq] at h
 | .qz :: _,.int _ _,_,_,_,h,_,_=>by simp [aq] at h
 | .any :: _,.int _ _,_,_,_,h,_,_=>by simp [aq] at h
 | _,.bool _,_,_,_,h,_,_=>by simp [aq] at h
 | _,.map _,_,_,_,h,_,_=>by simp [aq] at h
 | _,.half _ _,_,_,_,h,_,_=>by simp [aq] at h
 | _,.qz,_,_,_,h,_,_=>by simp [aq] at h
 | _,.str _,_,_,_,h,_,_=>by simp [aq] at h
 | _,.ptr _,_,_,_,h,_,_=>by simp [aq] at h
 | _,.slice _ _ _,_,_,_,h,_,_=>by simp [aq] at h
 | _,.func _ _ _,_,_,_,h,_,_=>by simp [aq] at h
 | _,.nilFunc,_,_,_,h,_,_=>by simp [aq] at h
 | _,.cV _,_,_,_,h,_,_=>by simp [aq] at h
 | _,.iface _ _,_,_,_,h,_,_=>by simp [aq] at h
 | _,.nilIface,_,_,_,h,_,_=>by simp [aq] at h
 | _,.agg _,_,_,_,h,_,_=>by simp [aq] at h
 | _,.tuple _,_,_,_,h,_,_=>by simp [aq] at h
 | _,.any,_,_,_,h,_,_=>by simp [aq] at h
theorem zy : ∀ {l:List AV} {a v:AV} {x:Value} {ys:List Value},aq (fun y x=>decide (y > x)) a l=some v→VR E a x→aI E l ys→jR P E w v (ys.foldlM Builtin.max2 x)
 | [],.int k n,v,x,ys,h,hx,hl=>by
  simp only [aq,Option.some.injEq] at h
  subst h
  cases hl;obtain rfl:x=_:=hx
  exact ⟨_,by simp,rfl⟩
 | .int k' m :: l,.int k n,v,x,ys,h,hx,hl=>by
  simp only [aq] at h
  obtain ⟨y,vn,rfl,hy,hl⟩:=hl
  obtain rfl:x=_:=hx;obtain rfl:y=_:=hy
  obtain ⟨z,hz,hv⟩:=zy h (show VR E _ (.int k (if m > n then m else n)) by simp [VR]) hl
  exact ⟨z,by simp [Builtin.max2,hz],hv⟩
 | .bool _ :: _,.int _ _,_,_,_,h,_,_=>by simp [aq] at h
 | .str _ :: _,.int _ _,_,_,_,h,_,_=>by simp [aq] at h
 | .ptr _ :: _,.int _ _,_,_,_,h,_,_=>by simp [aq] at h
 | .slice _ _ _ :: _,.int _ _,_,_,_,h,_,_=>by simp [aq] at h
 | .func _ _ _ :: _,.int _ _,_,_,_,h,_,_=>by simp [aq] at h
 | .nilFunc :: _,.int _ _,_,_,_,h,_,_=>by simp [aq] at h
 | .cV _ :: _,.int _ _,_,_,_,h,_,_=>by simp [aq] at h
 | .iface _ _ :: _,.int _ _,_,_,_,h,_,_=>by simp [aq] at h
 | .nilIface :: _,.int _ _,_,_,_,h,_,_=>by simp [aq] at h
 | .agg _ :: _,.int _ _,_,_,_,h,_,_=>by simp [aq] at h
 | .tuple _ :: _,.int _ _,_,_,_,h,_,_=>by simp [aq] at h
 | .map _ :: _,.int _ _,_,_,_,h,_,_=>by simp [aq] at h
 | .half _ _ :: _,.int _ _,_,_,_,h,_,_=>by simp [aq] at h
 | .qz :: _,.int _ _,_,_,_,h,_,_=>by simp [aq] at h
 | .any :: _,.int _ _,_,_,_,h,_,_=>by simp [aq] at h
 | _,.bool _,_,_,_,h,_,_=>by simp [aq] at h
 | _,.map _,_,_,_,h,_,_=>by simp [aq] at h
 | _,.half _ _,_,_,_,h,_,_=>by simp [aq] at h
 | _,.qz,_,_,_,h,_,_=>by simp [aq] at h
 | _,.str _,_,_,_,h,_,_=>by simp [aq] at h
 | _,.ptr _,_,_,_,h,_,_=>by simp [aq] at h
 | _,.slice _ _ _,_,_,_,h,_,_=>by simp [aq] at h
 | _,.func _ _ _,_,_,_,h,_,_=>by simp [aq] at h
 | _,.nilFunc,_,_,_,h,_,_=>by simp [aq] at h
 | _,.cV _,_,_,_,h,_,_=>by simp [aq] at h
 | _,.iface _ _,_,_,_,h,_,_=>by simp [aq] at h
 | _,.nilIface,_,_,_,h,_,_=>by simp [aq] at h
 | _,.agg _,_,_,_,h,_,_=>by simp [aq] at h
 | _,.tuple _,_,_,_,h,_,_=>by simp [aq] at h
 | _,.any,_,_,_,h,_,_=>by simp [aq] at h
theorem eT {b:Bool} {len Ot uo l h m:Nat} {lo hi mx:Option AV} {PW v8 PR:Option Value} (Gj:LN E lo PW) (My:LN E hi v8) (Mt:LN E mx PR)
  (el:fR 0 lo=some l) (eh:fR len hi=some h) (em:fR Ot mx=some m) (h1:l≤h) (h2:h≤m) (h3:m≤Ot) (h4:Ot≤uo) (h5:mx.isSome→hi.isSome) :
  (Instr.sliceBounds b len uo PW v8 PR).run P w=.ok (l,h,if mx.isSome then m else uo) w:=by
 have key : ∀ {d n:Nat} {o:Option AV} {o' : Option Value},LN E o o'→fR d o=some n→(o=none∧o'=none∧n=d)∨(∃k i,o'=some (.int k i)∧o.isSome=true∧0≤i∧i.toNat=n):=by
  intro d n o o' ho hn
  cases o with
  | none=>cases ho;simp only [fR,Option.some.injEq] at hn;exact .inl ⟨rfl,rfl,hn.symm⟩
  | some a =>
   obtain ⟨y,rfl,hy⟩:=ho
   cases a <;> simp only [fR,reduceCtorEq] at hn
   split at hn
   ·rename_i k i hi
    cases hn
    obtain rfl:y=_:=hy
    exact .inr ⟨_,_,rfl,rfl,hi,rfl⟩
   ·cases hn
 have bound : ∀ {k:IntKind} {i:Int} {y:Nat} {c:BoundsCode},0≤i→i.toNat≤y→(Instr.sliceBound (.int k i) y c).run P w=.ok i.toNat w:=by
  intro k i y c h0 hy
  have:0≤i∧i≤y:=⟨h0,by omega⟩
  simp [Instr.sliceBound,asIntOf,this]
 rcases key Gj el with ⟨rfl,rfl,rfl⟩ | ⟨kl,il,rfl,_,vZ,rfl⟩ <;> rcases key My eh with ⟨rfl,rfl,rfl⟩ | ⟨kh,ih,rfl,hs,Sy,rfl⟩ <;> rcases key Mt em with ⟨rfl,rfl,rfl⟩ | ⟨km,im,rfl,Im,Mu,rfl⟩
 ·simp [Instr.sliceBounds]
 ·simp [Im] at h5
 ·have:=bound (k:=kh) (c:=if b then .sliceAcap else .sliceAlen) Sy (show ih.toNat≤uo by omega)
  simp [Instr.sliceBounds,this]
 ·have e1:=bound (k:=km) (c:=if b then .slice3Acap else .slice3Alen) Mu (show im.toNat≤uo by omega)
  have e2:=bound (k:=kh) (c:=.slice3B) Sy h2
  simp [Instr.sliceBounds,e1,e2,Im]
 ·have:=bound (k:=kl) (c:=.sliceB) vZ h1
  simp [Instr.sliceBounds,this]
 ·simp [Im] at h5
 ·have e1:=bound (k:=kh) (c:=if b then .sliceAcap else .sliceAlen) Sy (show ih.toNat≤uo by omega)
  have e2:=bound (k:=kl) (c:=.sliceB) vZ h1
  simp [Instr.sliceBounds,e1,e2]
 ·have e1:=bound (k:=km) (c:=if b then .slice3Acap else .slice3Alen) Mu (show im.toNat≤uo by omega)
  have e2:=bound (k:=kh) (c:=.slice3B) Sy h2
  have e3:=bound (k:=kl) (c:=.slice3C) vZ h1
  simp [Instr.sliceBounds,e1,e2,e3,Im]
theorem BK (hH:HR P E B H w) {t:TypeId} {a v:AV} {x:Value} {lo hi mx:Option AV} {PW v8 PR:Option Value} (h:cJ P H t a lo hi mx=some v) (hx:VR E a x)
  (Gj:LN E lo PW) (My:LN E hi v8) (Mt:LN E mx PR):jR P E w v (Instr.sliceAt t x PW v8 PR):=by
 unfold cJ at h
 split at h
 ·rename_i s hu
  obtain rfl:x=_:=hx
  split at h
  ·cases h
  ·rename_i Im
   obtain ⟨l,el,h⟩:=Option.bind_eq_some_iff.1 h
   obtain ⟨hh,eh,h⟩:=Option.bind_eq_some_iff.1 h
   split at h
   ·rename_i hc
    cases h
    have Up:mx=none:=by cases mx <;> simp_all
    subst Up
    cases Mt
    have hb:=eT (P:=P) (w:=w) (b:=false) (uo:=s.length) Gj My (show LN E none none from rfl) el eh (show fR s.length none=some s.length from rfl) hc.1 hc.2 (Nat.le_refl _) (Nat.le_refl _) (by simp)
    refine ⟨.string ((⟨s.toArray⟩ : ByteArray).extract l hh),?_,?_⟩
    ·have jn:(⟨s.toArray⟩ : ByteArray).size=s.length:=rfl
     simp [Instr.sliceAt,run_underlying hu,Instr.slice,jn,hb]
    ·show _=_
     congr 1
     apply ByteArray.ext
     have:((⟨s.toArray⟩ : ByteArray).extract l hh).data=s.toArray.extract l hh:=by simp [ByteArray.data_extract]
     rw [this]
     apply Array.ext'
     simp [List.extract_eq_take_drop]
   ·cases h
 ·rename_i e p len cap hu
  obtain ⟨l,el,h⟩:=Option.bind_eq_some_iff.1 h
  obtain ⟨hh,eh,h⟩:=Option.bind_eq_some_iff.1 h
  obtain ⟨m,em,h⟩:=Option.bind_eq_some_iff.1 h
  split at h
  ·rename_i hc
   obtain ⟨h1,h2,h3,h5⟩:=hc
   cases hs:bX P e with
   | none=>rw [hs] at h;cases p <;> simp at h
   | some s =>
   rw [hs] at h
   cases p with
   | none =>
    simp only [Option.some.injEq] at h
    subst h
    obtain ⟨rfl,Cv⟩:=hx
    have hb:=eT (P:=P) (w:=w) (b:=true) (uo:=cap) Gj My Mt el eh em h1 h2 h3 (Nat.le_refl _) h5
    have hm:(if mx.isSome=true then m else cap)=m:=by
     cases mx with
     | none=>simp only [fR,Option.some.injEq] at em;simp [em]
     | some _=>rfl
    rw [hm] at hb
    refine ⟨.slice none (hh - l) (m - l),?_,rfl,by omega⟩
    simp [Instr.sliceAt,run_underlying hu,Instr.slice,hb,aK hs]
   | some p =>
    obtain ⟨b,o⟩:=p
    simp only at h
    split at h
    ·rename_i eF
     cases h
     obtain ⟨L,a',c',hL,rfl,Cv,oW,nR,ha⟩:=hx
     have hle:cap≤c':=by rcases oW with e | ⟨_,e⟩ <;> omega
     have hb:=eT (P:=P) (w:=w) (b:=true) (uo:=c') Gj My Mt el eh em h1 h2 h3 hle h5
     refine ⟨.slice (some (if (if mx.isSome=true then m else c')=l then a' else a'.add (l*s))) (hh - l) ((if mx.isSome=true then m else c') - l),?_,?_⟩
     ·generalize (if mx.isSome=true then m else c')=M at hb ⊢
      simp only [Instr.sliceAt,Sem.run_bind,run_underlying hu,Result.andThen_ok,Instr.slice,hb,aK hs,Sem.run_pure]
      congr 2
      by_cases Qz:M=l <;> simp [Qz]
     ·generalize hM:(if mx.isSome=true then m else c')=M
      have ZK:l≤M:=by split at hM <;> omega
      refine ⟨L,_,_,hL,rfl,by omega,?_,?_,?_⟩
      ·
       have ZJ:M=m∨(mx=none∧M=c'∧m=cap):=by
        cases mx with
        | none=>simp only [fR,Option.some.injEq] at em;exact .inr ⟨rfl,by simpa using hM.symm,em.symm⟩
        | some _=>exact .inl (by simpa using hM.symm)
       rcases ZJ with rfl | ⟨rfl,rfl,rfl⟩
       ·exact .inl rfl
       ·rcases oW with rfl | ⟨he,rfl⟩
        ·exact .inl rfl
        ·by_cases hex:L.extra=0
         ·exact .inl (by omega)
         ·refine .inr ⟨?_,by omega⟩
          rcases eF with rfl | eF
          ·simpa using he
          ·unfold AH.steps at eF
           split at eF
           ·rename_i cs e' fl eu
            obtain ⟨L',cr,X,Sb,Av,q1,q2,q3,q4,q5,q6,q7,q8⟩:=hH.obj _ _ eu
            rw [hL] at cr;cases cr
            have Ih:fl.fT=true:=by
             cases ho:fl.fT with
             | true=>rfl
             | false=>exact absurd (q7 ho) hex
            simp only [Ih,Bool.not_true,Bool.false_or,beq_iff_eq] at eF
            have:=kC eF
            have YJ:s=L.MK:=by omega
            subst YJ
            rw [← he,Nat.sub_mul]
            have:l*L.MK≤m*L.MK:=Nat.mul_le_mul_right _ (by omega)
            omega
           ·cases eF
      ·split
       ·exact nR
       ·unfold Addr.add;split <;> simp_all
      ·by_cases Qz:M=l
       ·exact .inr (by omega)
       ·rw [if_neg Qz]
        have Gn:c' ≠ 0:=by
         intro h0
         have:M=m∨M=c':=by split at hM <;> simp_all
         rcases this with rfl | rfl <;> omega
        rcases ha with rfl | h0
        ·exact .inl (by rw [fK,Nat.add_assoc])
        ·exact absurd h0 Gn
    ·cases h
  ·cases h
 ·rename_i n e b o hu
  obtain ⟨l,el,h⟩:=Option.bind_eq_some_iff.1 h
  obtain ⟨hh,eh,h⟩:=Option.bind_eq_some_iff.1 h
  obtain ⟨m,em,h⟩:=Option.bind_eq_some_iff.1 h
  split at h
  ·rename_i hc
   obtain ⟨h1,h2,h3,h5⟩:=hc
   split at h
   ·rename_i s cs e' fl hs eu
    split at h
    ·cases h
    ·rename_i Bf
     cases h
     obtain ⟨L,hL,rfl⟩:=hx
     have hb:=eT (P:=P) (w:=w) (b:=false) (uo:=n) Gj My Mt el eh em h1 h2 h3 (Nat.le_refl _) h5
     have hm:(if mx.isSome=true then m else n)=m:=by
      cases mx with
      | none=>simp only [fR,Option.some.injEq] at em;simp [em]
      | some _=>rfl
     rw [hm] at hb
     refine ⟨.slice (some (if m=l then ⟨L.bB,L.off+o,none⟩ else (⟨L.bB,L.off+o,none⟩ : Addr).add (l*s))) (hh - l) (m - l),?_,L,_,m - l,hL,rfl,by omega,.inl rfl,?_,?_⟩
     ·simp [Instr.sliceAt,run_underlying hu,Instr.sureAddr,hb,aK hs]
     ·split
      ·rfl
      ·rw [fK]
     ·by_cases Qz:m=l
      ·exact .inr (by omega)
      ·rw [if_neg Qz,fK];exact .inl (by rw [Nat.add_assoc])
   ·cases h
  ·cases h
 ·cases h
end
end Go.Am
end
/- The abstract machine: what makes and turns blocks. -/
section
namespace Go.Am
open Go.RowKit
section
variable {P:Program} {E:Env} {B:eS} {H:AH} {w:World}
def Made (P:Program) (E:Env) (B:eS) (w:World) (v:AV) (H' : AH) (s:Sem Value):Prop :=
 ∃x w' E',s.run P w=.ok x w'∧E.le E'∧VR E' v x∧HR P E' B H' w'∧Below B w w'
theorem jR.made (hH:HR P E B H w) {v:AV} {s:Sem Value} (h:jR P E w v s):Made P E B w v H s:=by
 obtain ⟨x,hx,hv⟩:=h
 exact ⟨x,w,E,hx,Env.le.refl E,hv,hH,Below.refl B w⟩
theorem ke (hH:HR P E B H w) {cs:List AV} {X:Array Value} {e:TypeId} {fl:Fl} {extra:Nat} (hX:aI E cs (X.toList.take cs.length)) (ga : ∀v ∈ cs,v.one=true)
  (jn:cs.length+extra*P.cellsOf e≤X.size) (hex:fl.fT=false→extra=0) (lo hi:Nat) (N4 : ∀k,k<X.size→¬ (lo≤k∧k<hi)) (T7:fl.kO=false→lo=hi∨hi≤fl.fz) (Sk:fl.whole=true→X.size=cs.length∧lo=hi:=by intro h;cases h) :
  E.le (E.put H.n ⟨w.heap.size,0,cs.length,P.cellsOf e,extra⟩) ∧
  HR P (E.put H.n ⟨w.heap.size,0,cs.length,P.cellsOf e,extra⟩) B (H.alloc (.cells cs e fl)) (w.alloc (.cells X e (lo,hi)))∧Below B w (w.alloc (.cells X e (lo,hi))):=by
 have hle:=hH.eB ⟨w.heap.size,0,cs.length,P.cellsOf e,extra⟩
 refine ⟨hle,hH.alloc rfl ?_,(Below.refl B w).alloc hH.base _⟩
 refine ⟨X,lo,hi,by simpa using World.alloc_heap_new w _,rfl,rfl,by simpa using jn,?_,fun _=>⟨hH.fresh,fun k _ h2=>N4 k h2,by simpa using T7⟩,hex,ga,fun h=>⟨rfl,(Sk h).1,fun _ _=>(Sk h).2⟩⟩
 simpa using aI.mono hle _ _ hX
theorem fE (b:Nat) (L:Loc):(E.put b L) b=some L:=by simp [Env.put]
theorem BR (hH:HR P E B H w) {e:TypeId} {z:AV} (hz:zeroOf P e=some z) (h1:z.cells.all AV.one=true) :
  Made P E B w (.ptr (some (H.n,0))) (H.alloc (.cells z.cells e { whole:=true })) (Instr.alloc e true (.tuple #[])):=by
 obtain ⟨x,hx,hv⟩:=fC hz E w
 have hc:=hv.cells (cI hz)
 obtain ⟨k1,k2,k3⟩:=ke hH (X:=x.cells) (e:=e) (fl:={ whole:=true }) (extra:=0) (by rw [hc.length,List.take_length];exact hc) (by simpa using h1) (by have:=hc.length;simp at this;omega) (fun _=>rfl) 0 0 (by omega) (by simp) (fun _=>⟨by have:=hc.length;simp at this;omega,rfl⟩)
 exact ⟨.pointer (some ⟨w.heap.size,0,none⟩),_,_,by simp [Instr.alloc,hx,newVar,newRow],k1,⟨_,fE _ _,rfl⟩,k2,k3⟩
theorem G5 (hH:HR P E B H w) {e:TypeId} {v:AV} {x:Value} (hv:VR E v x) (h1:v.cells.all AV.one=true) :
  Made P E B w (.ptr (some (H.n,0))) (H.alloc (.cells v.cells e { whole:=true })) (Instr.box e x):=by
 have hc:=hv.cells (AV.lH h1)
 obtain ⟨k1,k2,k3⟩:=ke hH (X:=x.cells) (e:=e) (fl:={ whole:=true }) (extra:=0) (by rw [hc.length,List.take_length];exact hc) (by simpa using h1) (by have:=hc.length;simp at this;omega) (fun _=>rfl) 0 0 (by omega) (by simp) (fun _=>⟨by have:=hc.length;simp at this;omega,rfl⟩)
 exact ⟨.pointer (some ⟨w.heap.size,0,none⟩),_,_,by simp [Instr.box,newVar,newRow],k1,⟨_,fE _ _,rfl⟩,k2,k3⟩
theorem wP (zs:Array Value) : ∀n:Nat,0<zs.size→((Array.range (n*zs.size)).map fun i=>zs[i % zs.size]!).toList=(List.replicate n zs.toList).flatten:=by
 intro n h
 induction n with
 | zero=>simp
 | succ n ih =>
  rw [List.replicate_succ',List.flatten_append,← ih]
  apply List.ext_getElem?
  intro i
  simp only [Array.toList_map,Array.toList_range,List.getElem?_map]
  by_cases h1:i<n*zs.size
  ·rw [List.getElem?_append_left (by simpa using h1)]
   simp [h1,show i<(n+1)*zs.size by rw [Nat.succ_mul];omega]
  ·rw [List.getElem?_append_right (by simpa using h1)]
   by_cases h2:i<(n+1)*zs.size
   ·have h3:i - n*zs.size<zs.size:=by rw [Nat.succ_mul] at h2;omega
    have h4:i % zs.size=i - n*zs.size:=by
     have:i=zs.size*n+(i - n*zs.size):=by rw [Nat.mul_comm];omega
     rw [this,Nat.mul_add_mod,Nat.mod_eq_of_lt h3]
     rw [Nat.mul_comm];omega
    simp [h2,h4,h3]
   ·have h3 : ¬ i - n*zs.size<zs.size:=by rw [Nat.succ_mul] at h2;omega
    rw [List.getElem?_eq_none (by simp;omega),List.getElem?_eq_none (by simp;omega)]
    rfl
theorem oC {z:List AV} {zs:List Value} (h:aI E z zs) : ∀n,aI E (cR z n) (List.replicate n zs).flatten
 | 0=>rfl
 | n+1=>by rw [List.replicate_succ,List.flatten_cons];exact h.append (oC h n)
theorem jl {z:List AV} (h : ∀v ∈ z,v.one=true) : ∀n,∀v ∈ cR z n,v.one=true
 | 0,v,hv=>by cases hv
 | n+1,v,hv=>by
  rcases List.mem_append.1 hv with hv | hv
  ·exact h v hv
  ·exact jl h n v hv
theorem wv : ∀ {place:Nat→Option (Nat×Nat)} {parts:List (Nat×AV)} {cs r:List AV},lX place cs parts=some r→(∀v ∈ cs,v.one=true)→parts.all (fun p=>p.2.cells.all AV.one)=true→∀v ∈ r,v.one=true
 | _,[],cs,r,h,hc,_=>by simp only [lX,Option.some.injEq] at h;subst h;exact hc
 | place,(i,x) :: parts,cs,r,h,hc,hp=>by
  simp only [lX] at h
  simp only [List.all_cons,Bool.and_eq_true] at hp
  split at h
  ·cases h
  ·split at h
   ·exact wv h (qA hc (by simpa using hp.1)) hp.2
   ·cases h
theorem C4 {s:Nat} {z:AV} {zx:Value} (yR:VR E z zx) (Ys:z.isAny=false) (hl:z.cells.length=s) (h0:0<s) (n:Nat) :
  aI E (cR z.cells n) ((Array.range (n*s)).map fun i=>zx.cells[i % zx.cells.size]!).toList:=by
 have hc:=yR.cells Ys
 have Ft:=hc.length
 simp only [Array.length_toList] at Ft
 have hs:zx.cells.size=s:=by omega
 subst hs
 have:=wP zx.cells n h0
 rw [this]
 exact oC hc n
theorem rE (hH:HR P E B H w) {t:TypeId} {len:Nat} {parts:List (Nat×AV)} {lE:List (Nat×Value)} {v:AV} {H' : AH} (h:gH P H t len parts=some (v,H')) (hp:MU E parts lE) :
  Made P E B w v H' (Instr.buildSlice t len lE.toArray):=by
 unfold gH at h
 split at h
 ·rename_i e hu
  split at h
  ·rename_i s z hs hz
   split at h
   ·rename_i hc
    obtain ⟨h1,h2,h3,h4,h5⟩:=hc
    obtain ⟨cs,hf,h⟩:=Option.map_eq_some_iff.1 h
    cases h
    obtain ⟨zx,Js,yR⟩:=fC hz E w
    have P6:=C4 yR (cI hz) h2 h3 len
    obtain ⟨r,hr,NP⟩:=oZ hp P6 hf
    have hlen:r.size=cs.length:=by rw [NP.length];simp
    obtain ⟨k1,k2,k3⟩:=ke hH (X:=r) (e:=e) (fl:={ whole:=true }) (extra:=0) (by rw [NP.length,List.take_length];exact NP) (wv hf (jl (by simpa using h4) _) h5) (by omega) (fun _=>rfl) 0 0 (by omega) (by simp) (fun _=>⟨hlen,rfl⟩)
    refine ⟨.slice (some ⟨w.heap.size,0,none⟩) len len,_,_,?_,k1,⟨_,_,_,fE _ _,rfl,Nat.le_refl _,.inl rfl,rfl,.inl rfl⟩,k2,k3⟩
    have di:((Array.range (len*s)).map fun i=>(if len*s=0 then #[] else zx.cells)[i % (if len*s=0 then (#[]:Array Value) else zx.cells).size]!)=((Array.range (len*s)).map fun i=>zx.cells[i % zx.cells.size]!):=by
     by_cases h0:len*s=0
     ·simp [h0]
     ·simp [h0]
    simp only [Instr.buildSlice,Sem.run_bind,run_underlying hu,aK hs,Result.andThen_ok]
    rw [if_neg (by omega)]
    have e0:Array.range 0 = #[]:=rfl
    by_cases h0:len*s=0
    ·rw [h0,e0] at hr
     simp at hr
     simp [h0,hr,newRow,e0]
    ·simp [h0,Js,hr,newRow]
   ·cases h
  ·cases h
 ·cases h
theorem sU (hH:HR P E B H w) {t:TypeId} {l c:AV} {x y:Value} {v:AV} {H' : AH} (h:cK P H t l c=some (v,H')) (hx:VR E l x) (hy:VR E c y) :
  Made P E B w v H' (Instr.makeSlice t x y):=by
 unfold cK at h
 split at h
 ·rename_i e l c hu
  obtain rfl:x=_:=hx;obtain rfl:y=_:=hy
  split at h
  ·rename_i s mT z hs Gp hz
   split at h
   ·rename_i hc
    obtain ⟨h1,h2,h3,h4,h5,h6,h7⟩:=hc
    cases h
    obtain ⟨zx,Js,yR⟩:=fC hz E w
    obtain ⟨i,hi,QN⟩:=wH Gp
    have Mh : ∀q:Int,0≤q→q<2 ^ 62→IntKind.i64.wrap q=q:=by
     intro q h0 h1
     simp only [IntKind.wrap,IntKind.bits,IntKind.signed]
     have:q % (2:Int) ^ 64=q:=Int.emod_eq_of_lt h0 (by omega)
     simp only [this,Bool.true_and]
     rw [if_neg (by simp;omega)]
    have TT:=Mh l h1 (by omega)
    have Yy:=Mh c (by omega) h4
    have P6:=C4 yR (cI hz) h5 h6 c.toNat
    obtain ⟨k1,k2,k3⟩:=ke hH (X:=(Array.range (c.toNat*s)).map fun i=>zx.cells[i % zx.cells.size]!) (e:=e) (fl:={}) (extra:=0)
     (by rw [P6.length,List.take_length];exact P6) (jl (by simpa using h7) _) (by have:=P6.length;simp at this ⊢;omega) (fun _=>rfl) 0 0 (by omega) (by simp)
    refine ⟨.slice (some ⟨w.heap.size,0,none⟩) l.toNat c.toNat,_,_,?_,k1,⟨_,_,_,fE _ _,rfl,by omega,.inl rfl,rfl,.inl rfl⟩,k2,k3⟩
    have Sn : ¬ (c<0):=by omega
    have TX : ¬ ((i.bytes:Int)*c > 2 ^ 48):=by rw [QN];omega
    simp only [Instr.makeSlice,Sem.run_bind,run_underlying hu,Result.andThen_ok,asInt,asIntOf,Sem.run_pure,eK hi,TT,Yy]
    have YF : ¬ (l<0):=by omega
    have YE : ¬ (l > c):=by omega
    rw [if_neg (by simp only [Bool.or_eq_true,decide_eq_true_eq,not_or];exact ⟨⟨⟨Sn,TX⟩,YF⟩,YE⟩)]
    by_cases h0:c.toNat*s=0
    ·have e0:Array.range 0 = #[]:=rfl
     have hr:((Array.range (c.toNat*s)).map fun i=>zx.cells[i % zx.cells.size]!) = #[]:=by rw [h0,e0];simp
     rw [hr]
     simp [aK hs,h0,newRow,e0]
    ·simp [aK hs,h0,Js,newRow]
   ·cases h
  ·cases h
 ·cases h
theorem BJ (hH:HR P E B H w) {t:TypeId} {a v:AV} {x y:Value} {H' : AH} (h:sI P H t a v=some H') (hx:VR E a x) (hy:VR E v y) :
  ∃w',(Instr.storeAt t x y).run P w=.ok () w'∧HR P E B H' w'∧Below B w w':=by
 unfold sI at h
 split at h
 ·rename_i b o
  obtain ⟨L,hL,rfl⟩:=hx
  split at h
  ·rename_i hs
   have Yt:v.isAny=false:=by
    unfold AH.write at h
    split at h
    ·split at h
     ·rename_i hq;exact AV.lH hq.2.2.2
     ·cases h
    ·cases h
   have hc:=hy.cells Yt
   obtain ⟨L',w',cr,di,h1,h2⟩:=mu hH h hc
   rw [hL] at cr;cases cr
   have hl:=hc.length
   simp only [Array.length_toList] at hl
   refine ⟨w',?_,h1,h2⟩
   have jn:(sizeOf t).run P w=.ok v.cells.length w:=aK hs.symm w
   simp [Instr.storeAt,Instr.sureAddr,storeVar,jn,hl,di]
  ·cases h
 ·cases h
theorem zv (hH:HR P E B H w) {s:Nat} {y:AV} {yx:Value} {n:Nat} {new:List AV} (h:y9 H s y=some (n,new)) (hy:VR E y yx) :
  ∃ys,aI E new ys∧new.length=n*s∧(∀w,(Builtin.lenOf yx).run P w=.ok n w)∧∀w',w'.heap=w.heap→∀m,m≤n→(Builtin.firstCells s m yx).run P w'=.ok (ys.take (m*s)).toArray w':=by
 unfold y9 at h
 split at h
 ·rename_i x
  obtain rfl:yx=_:=hy
  split at h
  ·rename_i hs
   cases h
   subst hs
   refine ⟨_,aI.bytes x,by simp [av],fun _=>rfl,fun w' _ m hm=>?_⟩
   have hd:((⟨x.toArray⟩ : ByteArray).extract 0 m).data=(x.take m).toArray:=by
    rw [ByteArray.data_extract];apply Array.ext';simp [List.extract_eq_take_drop]
   simp only [Builtin.firstCells,Sem.run_pure,hd]
   simp [List.map_take]
  ·cases h
 ·rename_i l c
  split at h
  ·rename_i vZ
   cases h
   subst vZ
   obtain ⟨rfl,hl⟩:=hy
   exact ⟨[],rfl,by simp,fun _=>rfl,fun w' _ m hm=>by simp [Builtin.firstCells]⟩
  ·cases h
 ·rename_i b o n' c
  obtain ⟨cs,hr,h⟩:=Option.map_eq_some_iff.1 h
  cases h
  obtain ⟨L,a',c',hL,rfl,Cv,oW,nR,ha⟩:=hy
  obtain ⟨vh,e,fl,hb,hle,rfl⟩:=AH.vC hr
  obtain ⟨L',cr,ho⟩:=hH.obj _ _ hb
  rw [hL] at cr;cases cr
  obtain ⟨OG,h1,h2⟩:=zO ho
  refine ⟨(OG.drop o).take (n*s),(h1.drop o).take _,by simp;omega,fun _=>rfl,fun w' NI m hm=>?_⟩
  have Im:m*s≤n*s:=Nat.mul_le_mul_right _ hm
  rcases ha with rfl | h0
  ·rw [List.take_take,Nat.min_eq_left Im]
   exact h2 w' NI o (m*s) (by omega)
  ·have:m=0:=by rcases oW with e | ⟨_,e⟩ <;> omega
   subst this
   have vZ:(loadCells a' 0).run P w'=.ok #[] w':=rfl
   simp [Builtin.firstCells,vZ]
 ·cases h
theorem EC (hH:HR P E B H w) {t ty:TypeId} {ts:Array TypeId} {a y v:AV} {x yx:Value} {xs:Array Value} {H' : AH} (ht:ts[0]? = some t) (Jv:xs[0]? = some x) (uO:xs[1]? = some yx)
  (h:copyV P H t a y=some (v,H')) (hx:VR E a x) (hy:VR E y yx):Made P E B w v H' (Builtin.copy_ ts ty xs):=by
 unfold copyV at h
 split at h
 ·rename_i e p vf cap hu
  split at h
  ·rename_i s hs
   obtain ⟨⟨m,new⟩,Fm,h⟩:=Option.bind_eq_some_iff.1 h
   obtain ⟨ys,h1,h2,h3,h4⟩:=zv hH Fm hy
   have h5:=h4 w rfl (min m vf) (Nat.min_le_left _ _)
   have QA:Nat.min m vf=min m vf:=rfl
   dsimp only at h
   cases p with
   | none =>
    dsimp only at h
    split at h
    ·rename_i Mr
     cases h
     obtain ⟨rfl,_⟩:=hx
     refine jR.made hH ⟨.int .i64 0,?_,rfl⟩
     rw [Mr] at h5
     simp [Builtin.copy_,ht,Jv,uO,run_underlying hu,h3,QA,Mr,aK hs,h5,goInt]
    ·cases h
   | some p =>
    obtain ⟨b,o⟩:=p
    dsimp only at h
    obtain ⟨H2,hw,h⟩:=Option.map_eq_some_iff.1 h
    cases h
    obtain ⟨L,a',c',hL,rfl,Cv,oW,nR,ha⟩:=hx
    obtain ⟨L',w',cr,di,gX,hB⟩:=mu hH hw (h1.take (min m vf*s))
    rw [hL] at cr;cases cr
    refine ⟨.int .i64 (min m vf:Nat),w',E,?_,Env.le.refl E,rfl,gX,hB⟩
    have eF:(storeCells a' (ys.take (min m vf*s))).run P w=.ok () w':=by
     rcases ha with rfl | h0
     ·exact di
     ·have U9:min m vf=0:=by
       have:vf=0:=by rcases oW with e | ⟨_,e⟩ <;> omega
       omega
      rw [U9] at di ⊢
      simpa [storeCells] using di
    simp [Builtin.copy_,ht,Jv,uO,run_underlying hu,h3,aK hs,QA,h5,eF,goInt]
  ·cases h
 ·cases h
theorem wo : ∀(r n c:Nat),c<n→Builtin.growBy n r c≤2*n+192
 | 0,n,c,h=>by simp only [Builtin.growBy];omega
 | r+1,n,c,h=>by
  simp only [Builtin.growBy]
  rw [if_neg (by omega)]
  by_cases h2:c+(c+768) / 4<n
  ·exact wo r n _ h2
  ·cases r with
   | zero=>simp only [Builtin.growBy];omega
   | succ r=>simp only [Builtin.growBy];rw [if_pos (by omega)];omega
theorem nextslicecap_le (n c:Nat) (h:c<n):Builtin.nextslicecap n c≤2*n+192:=by
 unfold Builtin.nextslicecap
 split
 ·omega
 ·split
  ·omega
  ·exact wo _ _ _ h
theorem run_append_grow {u ty e:TypeId} {t:TypeId} {ts:Array TypeId} {xs:Array Value} {yx:Value} {a:Option Addr} {len c' n s mT:Nat} {i:TypeInfo} {zx:Value} {ys xF:List Value} {xd:TypeDesc}
  (ht:ts[0]? = some t) (Ib:ts[1]? = some u) (Jv:xs[0]? = some (.slice a len c')) (uO:xs[1]? = some yx) (hu:P.underlying t=some (.slice e)) (NH:P.underlying u=some xd) (Ij : ∀k,xd ≠ .int k)
  (hs:bX P e=some s) (hi:P.info? e=some i) (Gp:i.bytes=mT) (CC:mT ≠ 0) (Ie:(2*(len+n)+1000)*mT≤2 ^ 48) (cv:c'<len+n) (hlen : ∀w,(Builtin.lenOf yx).run P w=.ok n w)
  (hold : ∀w',w'.heap=w.heap→(Builtin.firstCells s len (.slice a len c')).run P w'=.ok xF.toArray w') (Ik : ∀w',w'.heap=w.heap→(Builtin.firstCells s n yx).run P w'=.ok ys.toArray w') (hz : ∀w,(zeroValue e).run P w=.ok zx w) :
  ∃iu,len+n≤iu∧(Builtin.append_ ts ty xs).run P w=.ok (.slice (some ⟨w.heap.size,0,none⟩) (len+n) iu)
   (w.drew.alloc (.cells (xF.toArray ++ ys.toArray ++ Builtin.zeroCells zx.cells (iu - (len+n))) e)):=by
 refine ⟨(Question.appendCap (len+n) c' e).cut (w.tape w.drawn (.appendCap (len+n) c' e)),by simp [Question.cut],?_⟩
 have CB:Builtin.nextslicecap (len+n) c'*i.bytes≤2 ^ 48:=by
  rw [Gp]
  exact Nat.le_trans (Nat.mul_le_mul_right _ (by have:=nextslicecap_le (len+n) c' cv;omega)) Ie
 have UT : ¬ i.bytes=0:=by rw [Gp];exact CC
 simp only [Builtin.append_,ht,Ib,Jv,uO,Sem.run_bind,run_underlying hu,run_underlying NH,Result.andThen_ok,aK hs,Sem.run_pure,Bool.false_eq_true,if_false,hlen]
 rw [if_neg (by omega)]
 simp only [Sem.run_bind,Sem.run_ite,eK hi,Result.andThen_ok,Sem.run_pure,false_or,UT,and_false,if_false]
 rw [if_neg (by omega)]
 simp only [Sem.run_bind,Sem.run_pure,Result.andThen_ok,run_choose,Question.forced,Bool.false_eq_true,if_false,run_askRoom,hz,newRow,run_newObj,World.alloc]
 have e1:=hold w.drew rfl
 have e2:=Ik w.drew rfl
 simp [e1,e2]
 show w.drew.alloc (Obj.cells _ e)=w.drew.alloc (Obj.cells _ e)
 congr 2
 rw [← List.append_toArray,Array.append_assoc]
theorem sB (zs:Array Value) (n:Nat):(Builtin.zeroCells zs n).size=n*zs.size:=by simp [Builtin.zeroCells]
theorem zF (hH:HR P E B H w) {t u ty:TypeId} {ts:Array TypeId} {a y v:AV} {x yx:Value} {xs:Array Value} {H' : AH} (ht:ts[0]? = some t) (Ib:ts[1]? = some u) (Jv:xs[0]? = some x) (uO:xs[1]? = some yx)
  (h:bZ P H t u a y=some (v,H')) (hx:VR E a x) (hy:VR E y yx):Made P E B w v H' (Builtin.append_ ts ty xs):=by
 unfold bZ at h
 split at h
 ·rename_i e xd p len cap hu NH
  split at h
  ·cases h
  ·rename_i Ij
   cases hs:bX P e with
   | none=>simp [hs] at h
   | some s =>
   cases Gp:vj P e with
   | none=>simp [hs,Gp] at h
   | some mT =>
   simp only [hs,Gp] at h
   obtain ⟨⟨n,new⟩,Fm,h⟩:=Option.bind_eq_some_iff.1 h
   obtain ⟨ys,h1,h2,h3,h4⟩:=zv hH Fm hy
   have h5 : ∀w',w'.heap=w.heap→(Builtin.firstCells s n yx).run P w'=.ok ys.toArray w':=fun w' NI=>by
    have:=h4 w' NI n (Nat.le_refl _)
    rwa [← h2,h1.length,List.take_length] at this
   have fits : ∀(base:Option Addr) (c' : Nat) (w' : World),x=.slice base len c'→len+n≤c' →
     (∀q,base=some q→(storeCells (q.add (len*s)) ys).run P w=.ok () w')→(base=none→w'=w) →
     (Builtin.append_ ts ty xs).run P w=.ok (.slice base (len+n) c') w':=by
    intro base c' w' Qe hle eF hn
    subst Qe
    have e5:=h5 w rfl
    cases base with
    | none =>
     have:=hn rfl
     subst this
     simp only [Builtin.append_,ht,Ib,Jv,uO,Sem.run_bind,run_underlying hu,run_underlying NH,Result.andThen_ok,aK hs,Sem.run_pure,Bool.false_eq_true,if_false,h3]
     rw [if_pos hle]
     simp [e5]
    | some q =>
     have:=eF q rfl
     simp only [Builtin.append_,ht,Ib,Jv,uO,Sem.run_bind,run_underlying hu,run_underlying NH,Result.andThen_ok,aK hs,Sem.run_pure,Bool.false_eq_true,if_false,h3]
     rw [if_pos hle]
     simp [e5,this]
   dsimp only at h
   split at h
   ·
    rename_i rN
    cases p with
    | none =>
     dsimp only at h
     split at h
     ·rename_i he
      cases h
      obtain ⟨rfl,Cv⟩:=hx
      exact jR.made hH ⟨.slice none (len+n) cap,fits none cap w rfl rN (fun q hq=>by cases hq) (fun _=>rfl),rfl,rN⟩
     ·cases h
    | some p =>
     obtain ⟨b,o⟩:=p
     dsimp only at h
     obtain ⟨H2,hw,h⟩:=Option.map_eq_some_iff.1 h
     cases h
     obtain ⟨L,a',c',hL,rfl,Cv,oW,nR,ha⟩:=hx
     obtain ⟨L',w',cr,di,gX,hB⟩:=mu hH hw h1
     rw [hL] at cr;cases cr
     have Zv:cap≤c':=by rcases oW with e | ⟨_,e⟩ <;> omega
     refine ⟨.slice (some a') (len+n) c',w',E,fits (some a') c' w' rfl (by omega) (fun q hq=>?_) (fun hq=>by cases hq),Env.le.refl E,⟨L,a',c',hL,rfl,rN,oW,nR,ha⟩,gX,hB⟩
     cases hq
     rcases ha with rfl | h0
     ·rw [fK,Nat.add_assoc];exact di
     ·have Mr:ys=[]:=by
       have:=h1.length
       have:n=0:=by omega
       subst this
       simp at h2
       simpa [h2] using (h1.length).symm
      subst Mr
      simpa [storeCells] using di
   ·rename_i rN
    split at h
    ·cases h
    ·rename_i W6
     simp only [not_or,ne_eq,Decidable.not_not,Nat.not_lt] at W6
     obtain ⟨CC,Ie,ga,TL⟩:=W6
     have Mp : ∀v ∈ new,v.one=true:=by simpa using ga
     obtain ⟨i,hi,QN⟩:=wH Gp
     obtain ⟨z,hz,hzs⟩:=Option.map_eq_some_iff.1 TL
     obtain ⟨zx,Js,yR⟩:=fC hz E w
     have P7 : ∀w,(zeroValue e).run P w=.ok zx w:=by
      intro w2
      unfold zeroOf at hz
      obtain ⟨i2,Av,hz⟩:=Option.bind_eq_some_iff.1 hz
      obtain ⟨zq,Wo,hz⟩:=Option.bind_eq_some_iff.1 hz
      have e1:(zeroValue e).run P w=.ok zq w:=by simp [zeroValue,typeInfo,Av,Wo]
      have e2:(zeroValue e).run P w2=.ok zq w2:=by simp [zeroValue,typeInfo,Av,Wo]
      rw [e1] at Js;cases Js;exact e2
     have TK:zx.cells.size=s:=by have:=(yR.cells (cI hz)).length;simp at this;omega
     have gE:=kC hs
     have IA : ∀(H2:AH),HR P E B H2 w→H2.n=H.n→∀(base:Option Addr) (c' : Nat) (old:List AV) (xF:List Value),x=.slice base len c'→c'<len+n→aI E old xF→old.length=len*s→(∀v ∈ old,v.one=true) →
       (∀w',w'.heap=w.heap→(Builtin.firstCells s len x).run P w'=.ok xF.toArray w') →
       ∀fl:Fl,fl.fT=true→fl.whole=false→Made P E B w (.slice (some (H.n,0)) (len+n) (len+n)) (H2.alloc (.cells (old ++ new) e fl)) (Builtin.append_ ts ty xs):=by
      intro H2 Oa ZT base c' old xF Qe cv hold Ii vX kR fl Gl TT
      subst Qe
      obtain ⟨iu,WJ,di⟩:=run_append_grow (ty:=ty) ht Ib Jv uO hu NH Ij hs hi QN CC Ie cv h3 kR h5 P7
      have Fj:HR P E B H2 w.drew:=Oa.world rfl
      have QF:(old ++ new).length=(len+n)*s:=by rw [List.length_append,Ii,h2,Nat.add_mul]
      obtain ⟨k1,k2,k3⟩:=ke Fj (cs:=old ++ new) (X:=xF.toArray ++ ys.toArray ++ Builtin.zeroCells zx.cells (iu - (len+n))) (e:=e) (fl:=fl) (extra:=iu - (len+n))
       (by
        have:=hold.append h1
        have QD:=this.length
        have e3:(xF.toArray ++ ys.toArray ++ Builtin.zeroCells zx.cells (iu - (len+n))).toList=(xF ++ ys) ++ (Builtin.zeroCells zx.cells (iu - (len+n))).toList:=by simp
        rw [QD,e3,List.take_left']
        ·exact this
        ·rfl)
       (fun v hv=>(List.mem_append.1 hv).elim (vX v) (Mp v))
       (by
        have q1:=hold.length;have q2:=h1.length
        simp only [Array.size_append,List.size_toArray,sB,TK,gE,List.length_append,q1,q2]
        omega)
       (fun hh=>by rw [Gl] at hh;cases hh) 0 0 (by omega) (by simp) (fun hh=>by rw [TT] at hh;cases hh)
      rw [ZT] at k1 k2
      refine ⟨_,_,_,di,k1,⟨_,_,iu,fE _ _,rfl,Nat.le_refl _,.inr ⟨?_,?_⟩,rfl,.inl rfl⟩,k2,⟨k3.os,k3.tape,k3.output,k3.size,k3.block⟩⟩
      ·show 0+(len+n)*P.cellsOf e=(old ++ new).length
       rw [QF,gE,Nat.zero_add]
      ·show iu=len+n+(iu - (len+n));omega
     cases p with
     | none =>
      dsimp only at h
      split at h
      ·rename_i vZ
       cases h
       obtain ⟨rfl,Cv⟩:=hx
       have:=IA H hH rfl none cap [] [] rfl (by omega) rfl (by simp [vZ]) (by simp) (fun w' _=>by simp [Builtin.firstCells]) {fT:=true} rfl rfl
       simpa using this
      ·cases h
     | some p =>
      obtain ⟨b,o⟩:=p
      dsimp only at h
      split at h
      ·rename_i cs e' fl hb
       split at h
       ·rename_i NQ
        obtain ⟨Qs,yd,Wy⟩:=NQ
        obtain ⟨L,a',c',hL,rfl,Cv,oW,nR,ha⟩:=hx
        obtain ⟨L',cr,ho⟩:=hH.obj _ _ hb
        rw [hL] at cr;cases cr
        obtain ⟨OG,g1,g2⟩:=zO ho
        have hold:=(g1.drop o).take (len*s)
        have kR : ∀w',w'.heap=w.heap→(Builtin.firstCells s len (.slice (some a') len c')).run P w'=.ok ((OG.drop o).take (len*s)).toArray w':=by
         intro w' NI
         rcases ha with rfl | h0
         ·exact g2 w' NI o (len*s) Qs
         ·have vZ:len=0:=by rcases oW with e | ⟨_,e⟩ <;> omega
          subst vZ
          have vZ:(loadCells a' 0).run P w'=.ok #[] w':=rfl
          simp [Builtin.firstCells,vZ]
        have Mq:=ho
        obtain ⟨X,lo,Av,q1,q2,q3,q4,q5,q6,q7,q8⟩:=ho
        have Ii:((cs.drop o).take (len*s)).length=len*s:=by simp;omega
        have vX : ∀v ∈ (cs.drop o).take (len*s),v.one=true:=fun v hv=>q8.1 v (List.mem_of_mem_drop (List.mem_of_mem_take hv))
        split at h
        ·rename_i Ih
         obtain ⟨Bf,Zl⟩:=Ih
         have he:=Wy Bf
         subst he
         split at h
         ·rename_i gN
          obtain ⟨OU,KU⟩:=gN
          cases h
          by_cases cv:c'<len+n
          ·
           exact IA (H.set b .dead) (hH.kill hb) rfl (some a') c' _ _ rfl cv hold Ii vX kR { fT:=true,fz:=fl.fz - o,kO:=fl.kO } rfl rfl
          ·
           obtain ⟨Gt,hF,hS⟩:=q6 OU
           have Gn:c' ≠ 0:=by omega
           have ME:a'=⟨L.bB,L.off+o,none⟩:=ha.resolve_right Gn
           have UP:c'=cap+L.extra∧o+cap*L.MK=L.size:=by
            rcases oW with e | ⟨e1,e2⟩
            ·omega
            ·exact ⟨e2,e1⟩
           have UI:L.MK=s:=by rw [← q3,gE]
           have OO:ys.length=n*s:=by rw [← h1.length,h2]
           have hmul:(len+n)*s≤(cap+L.extra)*s:=Nat.mul_le_mul_right _ (by omega)
           rw [Nat.add_mul,Nat.add_mul] at hmul
           rw [UI] at q4
           have hX:L.off+(o+len*s)+0+ys.length≤X.size:=by omega
           have eF:=jZ (P:=P) (off:=L.off+(o+len*s)) ys 0 X w q1 hX (fun k k1 k2=>hF k (by omega) (by omega)) (aI.Nr h1 (by simpa using ga))
           rw [Nat.add_zero] at eF
           have NV:L.bB<w.heap.size:=(Array.getElem?_eq_some_iff.1 q1).1
           have Ct:((cs.drop o).take (len*s) ++ new).length=(len+n)*s:=by rw [List.length_append,Ii,h2,Nat.add_mul]
           have Uc:=hH.Nl (L₂:=⟨L.bB,L.off+o,((cs.drop o).take (len*s) ++ new).length,P.cellsOf e',c' - (len+n)⟩) (o₂:=.cells ((cs.drop o).take (len*s) ++ new) e' { fT:=true,fz:=fl.fz - o,kO:=fl.kO })
            (o':=.cells (bU X (L.off+(o+len*s)) ys) e' (lo,Av)) hb hL OU rfl (by
             have jn:(bU X (L.off+(o+len*s)) ys).size=X.size:=by simp [bU];omega
             refine ⟨_,lo,Av,World.putObj_heap_same NV,rfl,rfl,?_,?_,fun _=>⟨Gt,?_,?_⟩,by simp,fun v hv=>(List.mem_append.1 hv).elim (vX v) (Mp v),fun h=>(by cases h)⟩
             ·rw [jn,Ct,gE]
              have:(len+n)*s+(c' - (len+n))*s=(cap+L.extra)*s:=by rw [← Nat.add_mul];congr 1;omega
              have e6:(cap+L.extra)*s=cap*s+L.extra*s:=Nat.add_mul _ _ _
              show L.off+o+((len+n)*s+(c' - (len+n))*s)≤X.size
              omega
             ·
              have hle:=hH.eB ⟨L.bB,L.off+o,((cs.drop o).take (len*s) ++ new).length,P.cellsOf e',c' - (len+n)⟩
              have hv:=aI.mono hle _ _ (((q5.drop o).take (len*s)).append h1)
              have e4:((bU X (L.off+(o+len*s)) ys).toList.drop (L.off+o)).take ((cs.drop o).take (len*s) ++ new).length=(((X.toList.drop L.off).take cs.length).drop o).take (len*s) ++ ys:=by
               rw [Ct,Nat.add_mul,← OO]
               simp only [bU]
               have hA:(X.toList.take (L.off+(o+len*s))).length=L.off+(o+len*s):=by simp;omega
               rw [List.drop_append_of_le_length (by omega)]
               have hd:((X.toList.take (L.off+(o+len*s))).drop (L.off+o))=(((X.toList.drop L.off).take cs.length).drop o).take (len*s):=by
                apply List.ext_getElem?
                intro j
                by_cases hj:j<len*s
                ·rw [List.getElem?_drop,List.getElem?_take_of_lt (by omega),List.getElem?_take_of_lt hj,List.getElem?_drop,List.getElem?_take_of_lt (by omega),List.getElem?_drop,Nat.add_assoc]
                ·rw [List.getElem?_eq_none (by simp;omega),List.getElem?_eq_none (by simp;omega)]
               rw [hd]
               have WZ:((((X.toList.drop L.off).take cs.length).drop o).take (len*s)).length=len*s:=by simp;omega
               rw [List.take_append,WZ,List.take_of_length_le (by omega)]
               congr 1
               rw [Nat.add_sub_cancel_left,List.take_left]
              rw [e4];exact hv
             ·rw [jn]
              intro k k1 k2
              exact hF k (by show L.off+fl.fz≤k;have:L.off+o+(fl.fz - o)≤k:=k1;omega) k2
             ·intro Be
              rcases hS Be with e5 | e5
              ·exact .inl e5
              ·exact .inr (show Av≤L.off+o+(fl.fz - o) by omega))
           refine ⟨.slice (some a') (len+n) c',_,_,fits (some a') c' _ rfl (by omega) (fun q hq=>?_) (fun hq=>by cases hq),hH.eB _,⟨_,a',c',fE _ _,rfl,Nat.le_refl _,.inr ⟨?_,?_⟩,nR,.inl ?_⟩,Uc,Below.putObj (Below.refl B w) Gt _⟩
           ·cases hq
            rw [ME,fK,Nat.add_assoc];exact eF
           ·show 0+(len+n)*P.cellsOf e'=((cs.drop o).take (len*s) ++ new).length
            rw [Ct,gE,Nat.zero_add]
           ·show c'=len+n+(c' - (len+n));omega
           ·rw [ME];rfl
         ·cases h
        ·rename_i Ih
         cases h
         have CB:c'=cap:=by
          rcases oW with e | ⟨e1,e2⟩
          ·exact e
          ·by_cases Bf:fl.fT=true
           ·have he:=Wy Bf
            subst he
            exact absurd ⟨Bf,by rw [← gE,q3,e1,q2]⟩ Ih
           ·have:=q7 (by simpa using Bf);omega
         exact IA H hH rfl (some a') c' _ _ rfl (by omega) hold Ii vX kR {fT:=true} rfl rfl
       ·cases h
      ·cases h
 ·cases h
end
end Go.Am
end
/- The abstract machine: conversions, iterators over strings, unsafe.String; then every operation that calls no function. -/
section
namespace Go.Am
open Go.RowKit
section
variable {P:Program} {E:Env} {B:eS} {H:AH} {w:World}
theorem FG (s:List UInt8) (i:Nat):Utf8.decode ⟨s.toArray⟩ i=ah s i:=by
 have h1 : ∀k,((⟨s.toArray⟩ : ByteArray).get! (i+k)).toNat=ai s i k:=by
  intro k
  simp only [ai,ByteArray.get!]
  congr 1
  by_cases h:i+k<s.length
  ·simp [h]
  ·simp [h];rfl
 have h2:(⟨s.toArray⟩ : ByteArray).size=s.length:=rfl
 unfold Utf8.decode ah
 simp only [h1,h2]
theorem FE (r:Int):Utf8.encode r=⟨(cB r).toArray⟩:=by
 unfold Utf8.encode cB
 simp only []
 split <;> (try split) <;> (try split) <;> (try split) <;> rfl
theorem gb : ∀ {cs:List AV} {ys:List Value} {s:List UInt8},aI E cs ys→cu cs=some s→∃ns:List Int,ys=ns.map (Value.int .u8)∧s=ns.map fun n=>UInt8.ofNat n.toNat
 | [],_,s,h,hs=>by simp only [cu,Option.some.injEq] at hs;subst hs;cases h;exact ⟨[],rfl,rfl⟩
 | c :: cs,_,s,h,hs=>by
  obtain ⟨y,ys,rfl,hy,h⟩:=h
  unfold cu at hs
  split at hs
  ·rename_i heq;cases heq
  ·rename_i n l heq
   cases heq
   obtain ⟨t,ht,rfl⟩:=Option.map_eq_some_iff.1 hs
   obtain rfl:y=_:=hy
   obtain ⟨ns,rfl,rfl⟩:=gb h ht
   exact ⟨n :: ns,rfl,rfl⟩
  ·cases hs
def dF (s:List UInt8):List Value:=s.map fun b=>.int .u8 b.toNat
@[simp] theorem Jm (s:List UInt8):(dF s).length=s.length:=by simp [dF]
theorem foldl_push (ns:List Int) : ∀r:ByteArray,ns.foldl (fun r n=>r.push (UInt8.ofNat n.toNat)) r=⟨r.data ++ (ns.map fun n=>UInt8.ofNat n.toNat).toArray⟩:=by
 induction ns with
 | nil=>intro r;simp
 | cons n ns ih=>intro r;simp only [List.foldl_cons,ih,List.map_cons];simp [ByteArray.push]
theorem CH (w:World) (X:Array Value) (e:TypeId):(w.alloc (.cells X e)).freeze ⟨w.heap.size,X.size,none⟩ 1=w.alloc (.cells X e (X.size,X.size+1)):=by
 unfold World.freeze
 simp only [Nat.succ_ne_zero,if_false]
 unfold World.alloc
 congr 1
 apply Array.ext_getElem?
 intro i
 rw [Array.getElem?_modify]
 by_cases h:w.heap.size=i
 ·subst h;simp
 ·simp only [if_neg h]
  rw [Array.getElem?_push,Array.getElem?_push]
  simp [Ne.symm h]
theorem tY {g:Nat} {X:Array Value} {e:TypeId} {lo hi:Nat} (h:w.heap[g]? = some (.cells X e (lo,hi))) {off n:Nat} (hn:n ≠ 0) :
  w.freeze ⟨g,off,none⟩ n=w.putObj g (.cells X e (if lo == hi then (off,off+n) else (min lo off,max hi (off+n)))):=by
 unfold World.freeze World.putObj
 rw [if_neg hn]
 congr 1
 apply Array.ext_getElem?
 intro i
 rw [Array.getElem?_modify]
 by_cases e:g=i
 ·subst e;obtain ⟨cv,hx⟩:=Array.getElem?_eq_some_iff.1 h;simp [cv,hx]
 ·simp [e,Array.getElem?_setIfInBounds_ne e]
theorem ED (hH:HR P E B H w) {s d:TypeId} {a v:AV} {x:Value} {H' : AH} (h:gF P H s d a=some (v,H')) (hx:VR E a x):Made P E B w v H' (convert s d x):=by
 unfold gF at h
 split at h
 ·rename_i sd k k' n hs hd
  cases h;obtain rfl:x=_:=hx
  refine jR.made hH ⟨_,?_,rfl⟩
  simp [convert,run_underlying hs,run_underlying hd,Conv.intToInt]
 ·rename_i sd k' n hs hd
  cases h;obtain rfl:x=_:=hx
  refine jR.made hH ⟨.string (Utf8.encode n),?_,?_⟩
  ·simp [convert,run_underlying hs,run_underlying hd,Conv.intToString]
  ·exact congrArg Value.string (FE n)
 ·rename_i sd u hs hd
  cases h;obtain rfl:x=_:=hx
  refine jR.made hH ⟨_,?_,rfl⟩
  simp [convert,run_underlying hs,run_underlying hd]
 ·rename_i sd e u hs hd
  obtain rfl:x=_:=hx
  split at h
  ·rename_i he
   split at h
   ·rename_i h1
    cases h
    have Fj:HR P E B H w.drew:=hH.world rfl
    have gE:=kC h1
    obtain ⟨cap,CB,di⟩ : ∃cap,u.length≤cap∧(convert s d (.string ⟨u.toArray⟩)).run P w=.ok (.slice (some ⟨w.heap.size,0,none⟩) u.length cap)
      (w.drew.alloc (.cells ((dF u).toArray ++ Array.replicate (cap - u.length) (Value.int .u8 0)) e (cap,cap+1))):=by
     refine ⟨(Question.appendCap u.length 0 e).cut (w.tape w.drawn (.appendCap u.length 0 e)),by simp [Question.cut],?_⟩
     generalize hc:(Question.appendCap u.length 0 e).cut (w.tape w.drawn (.appendCap u.length 0 e))=cap
     have CB:u.length≤cap:=by rw [← hc];simp [Question.cut]
     have jn:(⟨u.toArray⟩ : ByteArray).size=u.length:=rfl
     have hX:((dF u).toArray ++ Array.replicate (cap - u.length) (Value.int .u8 0)).size=cap:=by simp;omega
     have hf:=CH w.drew ((dF u).toArray ++ Array.replicate (cap - u.length) (Value.int .u8 0)) e
     rw [hX] at hf
     have KY:(choose (.appendCap u.length 0 e)).run P w=.ok cap w.drew:=by
      rw [run_choose,if_neg (by simp [Question.forced]),hc];rfl
     have NL:(w.drew.alloc (.cells ((dF u).toArray ++ Array.replicate (cap - u.length) (Value.int .u8 0)) e)).shape? w.heap.size=some (e,cap):=by
      have:(w.drew.alloc (.cells ((dF u).toArray ++ Array.replicate (cap - u.length) (Value.int .u8 0)) e)).heap[w.heap.size]? = some (.cells ((dF u).toArray ++ Array.replicate (cap - u.length) (Value.int .u8 0)) e):=World.alloc_heap_new _ _
      simp only [World.shape?,this,hX]
     have Io:(⟨u.toArray⟩ : ByteArray).data.map (fun b=>Value.int .u8 b.toNat)=(dF u).toArray:=by simp [dF]
     have Im:(markStringish ⟨w.heap.size,0,none⟩).run P (w.drew.alloc (.cells ((dF u).toArray ++ Array.replicate (cap - u.length) (Value.int .u8 0)) e)) =
       .ok () (w.drew.alloc (.cells ((dF u).toArray ++ Array.replicate (cap - u.length) (Value.int .u8 0)) e (cap,cap+1))):=by
      unfold markStringish
      simp only [Sem.run_bind,run_shape,NL,Result.andThen_ok,run_freeze]
      exact congrArg (Result.ok ()) hf
     have Ik : ∀X:Array Value,(newRow e X).run P w.drew=.ok ⟨w.heap.size,0,none⟩ (w.drew.alloc (.cells X e)):=fun X=>rfl
     simp only [convert,Sem.run_bind,run_underlying hs,run_underlying hd,run_underlying he,Result.andThen_ok,Conv.stringToBytes,jn,KY,Io,Ik,Im,Sem.run_pure]
    have hX:((dF u).toArray ++ Array.replicate (cap - u.length) (Value.int .u8 0)).size=cap:=by simp;omega
    obtain ⟨k1,k2,k3⟩:=ke Fj (cs:=av u) (X:=(dF u).toArray ++ Array.replicate (cap - u.length) (Value.int .u8 0)) (e:=e) (fl:={ fT:=true,kO:=true }) (extra:=cap - u.length)
     (by
      have hb:aI E (av u) (dF u):=aI.bytes u
      have e3:((dF u).toArray ++ Array.replicate (cap - u.length) (Value.int .u8 0)).toList=(dF u) ++ List.replicate (cap - u.length) (Value.int .u8 0):=by simp
      rw [e3,hb.length,List.take_left']
      ·exact hb
      ·rfl)
     (by intro v hv;simp only [av,List.mem_map] at hv;obtain ⟨b,_,rfl⟩:=hv;rfl) (by rw [hX,gE];simp [av];omega) (by simp) cap (cap+1) (by rw [hX];omega) (by simp)
    refine ⟨_,_,_,di,k1,⟨_,_,cap,fE _ _,rfl,Nat.le_refl _,.inr ⟨?_,?_⟩,rfl,.inl rfl⟩,k2,⟨k3.os,k3.tape,k3.output,k3.size,k3.block⟩⟩
    ·show 0+u.length*P.cellsOf e=(av u).length
     rw [gE];simp [av]
    ·show cap=u.length+(cap - u.length);omega
   ·cases h
  ·cases h
 ·rename_i t b o hs hd
  split at h
  ·rename_i sz cs e fl jn hb
   split at h
   ·rename_i hc
    cases h
    obtain ⟨L,hL,rfl⟩:=hx
    obtain ⟨L',cr,ho⟩:=hH.obj _ _ hb
    rw [hL] at cr;cases cr
    obtain ⟨X,lo,hi,h1,h2,h3,h4,_⟩:=ho
    obtain ⟨j,hj,Sv⟩:=Option.map_eq_some_iff.1 jn
    have Be:w.shape? L.bB=some (e,X.size):=by simp only [World.shape?,h1]
    refine jR.made hH ⟨_,?_,L,hL,rfl⟩
    simp [convert,run_underlying hs,run_underlying hd,Conv.unsafePointer,Conv.seenAt,viewAt,cellsIn,Be,sizeOf,typeInfo,hj,Sv,hc.1]
    intro h
    omega
   ·cases h
  ·cases h
 ·rename_i u b o hs hd
  split at h
  ·rename_i sz cs e fl jn hb
   split at h
   ·rename_i hc
    cases h
    obtain ⟨L,hL,rfl⟩:=hx
    obtain ⟨L',cr,ho⟩:=hH.obj _ _ hb
    rw [hL] at cr;cases cr
    obtain ⟨X,lo,hi,h1,h2,h3,h4,h5,h6,h7,h8,h9⟩:=ho
    obtain ⟨j,hj,Sv⟩:=Option.map_eq_some_iff.1 jn
    obtain ⟨g1,g2,_⟩:=h9 hc.1
    have Be:w.shape? L.bB=some (e,cs.length):=by simp only [World.shape?,h1,g2]
    refine jR.made hH ⟨_,?_,L,hL,rfl⟩
    have QE:liesAt P P.depth e (cs.length / P.cellsOf e) (L.off+o) u 1=true:=by rw [g1,Nat.zero_add];exact hc.2
    simp [convert,run_underlying hs,run_underlying hd,Conv.unsafePointer,Conv.seenAt,viewAt,Be,variablesAt,QE,sizeOf,typeInfo,hj]
   ·cases h
  ·cases h
 ·rename_i e l c hs hd
  obtain ⟨rfl,_⟩:=hx
  split at h
  ·rename_i he
   cases h
   refine jR.made hH ⟨.string .empty,?_,rfl⟩
   rw [run_convert_bytes_string w s d e none l c hs he hd];rfl
  ·cases h
 ·rename_i e b o l c hs hd
  split at h
  ·rename_i he
   obtain ⟨cs,hr,h⟩:=Option.bind_eq_some_iff.1 h
   obtain ⟨t,ht,h⟩:=Option.map_eq_some_iff.1 h
   cases h
   obtain ⟨L,a',c',hL,rfl,Cv,oW,nR,ha⟩:=hx
   obtain ⟨L',ys,cr,rK,di⟩:=run_read hH hr
   rw [hL] at cr;cases cr
   obtain ⟨ns,rfl,rfl⟩:=gb rK ht
   have Qr:(loadCells a' l).run P w=.ok (ns.map (Value.int .u8)).toArray w:=by
    rcases ha with rfl | h0
    ·exact di
    ·have vZ:l=0:=by rcases oW with e | ⟨_,e⟩ <;> omega
     subst vZ
     exact di
   refine jR.made hH ⟨_,by rw [run_convert_bytes_string w s d e _ l c' hs he hd,run_bytesToString w a' l c' ns Qr],?_⟩
   show _=_
   rw [foldl_push]
   have e0:ByteArray.empty.data = #[]:=rfl
   rw [e0]
   simp
  ·cases h
 ·rename_i es e b o l c hs hd
  split at h
  ·rename_i cs el fl he hb
   split at h
   ·rename_i hc
    obtain ⟨YK,CB,gN,Sk,KU,T7⟩:=hc
    cases h
    obtain ⟨L,a',c',hL,rfl,Cv,oW,nR,ha⟩:=hx
    have Gn:c' ≠ 0:=by rcases oW with e | ⟨_,e⟩ <;> omega
    obtain rfl:=ha.resolve_right Gn
    obtain ⟨L',cr,ho⟩:=hH.obj _ _ hb
    rw [hL] at cr;cases cr
    obtain ⟨X,lo,hi,q1,q2,q3,q4,q5,q6,q7,q8⟩:=ho
    obtain ⟨Gt,hF,hS⟩:=q6 gN
    obtain ⟨g1,g2,g3⟩:=q8.2 Sk
    have cv:L.bB<w.heap.size:=(Array.getElem?_eq_some_iff.1 q1).1
    have N4:=tY (w:=w) q1 (off:=X.size) (n:=1) (by omega)
    rw [if_pos (by simpa using g3 KU T7)] at N4
    have Be:w.shape? L.bB=some (el,X.size):=by simp only [World.shape?,q1]
    have Im:(markStringish ⟨L.bB,L.off+o,none⟩).run P w=.ok () (w.putObj L.bB (.cells X el (X.size,X.size+1))):=by
     unfold markStringish
     simp only [Sem.run_bind,run_shape,Be,Result.andThen_ok,run_freeze]
     exact congrArg (Result.ok ()) N4
    refine ⟨.slice (some ⟨L.bB,L.off+o,none⟩) l c',w.putObj L.bB (.cells X el (X.size,X.size+1)),E,?_,Env.le.refl E,⟨L,_,c',hL,rfl,Cv,oW,rfl,.inl rfl⟩,
     hH.uV hb hL gN ⟨X,X.size,X.size+1,World.putObj_heap_same cv,q2,q3,q4,q5,fun _=>⟨Gt,fun k _ k2=>by omega,fun h=>(by cases h)⟩,q7,q8.1,fun _=>⟨g1,g2,fun _ h=>(by cases h)⟩⟩,
     Below.putObj (Below.refl B w) Gt _⟩
    subst YK
    simp [convert,run_underlying hd,run_underlying he,Im]
   ·cases h
  ·cases h
 ·cases h
theorem BL (hH:HR P E B H w) {t:TypeId} {s:List UInt8} (hu:P.underlying t=some .string):Made P E B w (.ptr (some (H.n,0))) (H.alloc (.iter s 0)) (Instr.range t (.string ⟨s.toArray⟩)):=by
 have hle:=hH.eB ⟨w.heap.size,0,0,0,0⟩
 refine ⟨.pointer (some ⟨w.heap.size,0,none⟩),w.alloc (.stringIter ⟨s.toArray⟩ 0),_,?_,hle,⟨_,fE _ _,rfl⟩,hH.alloc rfl ⟨World.alloc_heap_new w _,hH.fresh,rfl⟩,(Below.refl B w).alloc hH.base _⟩
 simp [Instr.range,run_underlying hu]
theorem EA (hH:HR P E B H w) {b pos:Nat} {s:List UInt8} {x:Value} {ty:TypeId} (hb:H.get b=some (.iter s pos)) (hx:VR E (.ptr (some (b,0))) x) :
  if pos<s.length then Made P E B w (.tuple [.bool true,.int .i64 pos,.int .i32 (ah s pos).1]) (H.set b (.iter s (pos+(ah s pos).2))) (Instr.next x true ty)
  else Made P E B w (.tuple [.bool false]) H (Instr.next x true ty):=by
 obtain ⟨L,hL,rfl⟩:=hx
 obtain ⟨L',cr,h1,h2,h3⟩:=hH.obj _ _ hb
 rw [hL] at cr;cases cr
 have jn:(⟨s.toArray⟩ : ByteArray).size=s.length:=rfl
 have cv:=(Array.getElem?_eq_some_iff.1 h1).1
 split
 ·rename_i hp
  refine ⟨_,w.putObj L.bB (.stringIter ⟨s.toArray⟩ (pos+(ah s pos).2)),E,?_,Env.le.refl E,⟨#[.bool true,goInt pos,.int .i32 (ah s pos).1],rfl,_,_,rfl,rfl,_,_,rfl,rfl,_,_,rfl,rfl,rfl⟩,
   hH.uV hb hL rfl ⟨World.putObj_heap_same cv,h2,h3⟩,Below.putObj (Below.refl B w) h2 _⟩
  simp [Instr.next,h3,getObj,setObj,Sem.run,h1,jn,hp,FG,World.putObj,goInt]
 ·rename_i hp
  refine jR.made hH ⟨.tuple #[.bool false],?_,_,rfl,_,_,rfl,rfl,rfl⟩
  simp [Instr.next,h3,getObj,Sem.run,h1,jn,hp]
theorem u6 {e:TypeId} (hc:P.cellsOf e=1) (count off n:Nat) (hn:off+n≤count):liesAt P P.depth e count off e n=true:=by
 have hd:P.depth=(2*(P.types.size+Made.depth)+1)+1:=rfl
 rw [hd]
 simp only [liesAt,Bool.or_eq_true]
 left
 rw [hd]
 simp [rowAt,hc,hn,sameLayout,Nat.mod_one]
theorem lq : ∀(ns:List Int) (a:Addr) (acc:ByteArray),(∀j x,ns[j]? = some x→w.cell? (a.add j)=some (.int .u8 x)) →
  (loadBytes a acc ns.length).run P w=.ok ⟨acc.data ++ (ns.map fun n=>UInt8.ofNat n.toNat).toArray⟩ w
 | [],a,acc,_=>by simp [loadBytes]
 | x :: l,a,acc,h=>by
  have h0:w.cell? a=some (.int .u8 x):=by
   have:=h 0 x rfl
   simpa [Addr.add] using this
  have ih:=lq l (a.add 1) (acc.push x.toNat.toUInt8) (fun j y hy=>by
   have:=h (j+1) y (by simpa using hy)
   have e:(a.add 1).add j=a.add (j+1):=by
    unfold Addr.add
    by_cases hj:j=0
    ·subst hj;simp
    ·simp [hj];omega
   rw [e];exact this)
  simp only [List.length_cons,loadBytes,Sem.run_bind,run_load,h0,Result.andThen]
  rw [ih]
  congr 1
  apply ByteArray.ext
  simp [ByteArray.push]
theorem oq (ts:Array TypeId) (ty:TypeId) (k:IntKind) (pt:TypeId) (ht:ts[0]? = some pt):(Builtin.unsafeString_ ts ty #[.pointer none,.int k 0]).run P w=.ok (.string .empty) w:=by
 have Cu:IntKind.i64.max=9223372036854775807:=rfl
 show (asInt (.int k 0) >>= _).run P w=_
 simp [asInt,asIntOf,Cu,ht]
theorem om (ts:Array TypeId) (ty:TypeId) (k:IntKind) (a:Addr) (pt:TypeId) (ht:ts[0]? = some pt):(Builtin.unsafeString_ ts ty #[.pointer (some a),.int k 0]).run P w=.ok (.string .empty) w:=by
 have Cu:IntKind.i64.max=9223372036854775807:=rfl
 show (asInt (.int k 0) >>= _).run P w=_
 simp [asInt,asIntOf,Cu,ht]
theorem oo (ts:Array TypeId) (ty:TypeId) (k:IntKind) (n:Int) (a:Addr) (pt e:TypeId) (ht:ts[0]? = some pt) (h0 : ¬ n<0) (h1 : ¬ n > 9223372036854775807) (h2:n ≠ 0) {s:ByteArray}
  (he:(elemOf pt).run P w=.ok e w) (hv:(variablesAt a e n.toNat).run P w=.ok true w) (hl:(loadBytes a .empty n.toNat).run P w=.ok s w) :
  (Builtin.unsafeString_ ts ty #[.pointer (some a),.int k n]).run P w=.ok (.string s) (w.freeze a n.toNat):=by
 have Cu:IntKind.i64.max=9223372036854775807:=rfl
 show (asInt (.int k n) >>= _).run P w=_
 simp only [Sem.run_bind,asInt,asIntOf,ht,Result.andThen_ok,Sem.run_pure,Cu]
 rw [if_neg h0,if_neg h1,if_neg h2]
 simp [he,hv,hl]
theorem oB (hH:HR P E B H w) {pt ty:TypeId} {ts:Array TypeId} {p n v:AV} {x y:Value} {H' : AH} (ht:ts[0]? = some pt) (h:eI P H pt p n=some (v,H')) (hx:VR E p x) (hy:VR E n y) :
  Made P E B w v H' (Builtin.unsafeString_ ts ty #[x,y]):=by
 have Cu:IntKind.i64.max=9223372036854775807:=rfl
 unfold eI at h
 split at h
 ·cases h
  obtain rfl:x=_:=hx;obtain rfl:y=_:=hy
  exact jR.made hH ⟨.string .empty,oq ts ty _ pt ht,rfl⟩
 ·rename_i b o k n
  obtain ⟨L,hL,rfl⟩:=hx
  obtain rfl:y=_:=hy
  split at h
  ·rename_i Mr
   cases h
   refine jR.made hH ⟨.string .empty,?_,rfl⟩
   subst Mr
   exact om ts ty k _ pt ht
  ·rename_i Mr
   split at h
   ·cases h
   ·rename_i Ss
    cases hu:P.underlying pt with
    | none=>simp [hu] at h
    | some d =>
    cases d <;> simp only [hu,reduceCtorEq] at h
    rename_i e
    split at h
    ·rename_i e1 cs e' fl TW hb
     cases TW
     split at h
     ·rename_i hc
      obtain ⟨rfl,h1,h3,h4,h5⟩:=hc
      obtain ⟨s,hs,h⟩:=Option.map_eq_some_iff.1 h
      cases h
      obtain ⟨L',cr,ho⟩:=hH.obj _ _ hb
      rw [hL] at cr;cases cr
      have gE:=kC h1
      obtain ⟨X,lo,hi,q1,q2,q3,q4,q5,q6,q7,q8⟩:=ho
      obtain ⟨Gt,hF,hS⟩:=q6 h3
      obtain ⟨ns,WH,rfl⟩:=gb ((q5.drop o).take n.toNat) hs
      have Ct:ns.length=n.toNat:=by
       have:=congrArg List.length WH
       simp at this;omega
      have hl:(loadBytes ⟨L.bB,L.off+o,none⟩ .empty n.toNat).run P w=.ok ⟨(ns.map fun n=>UInt8.ofNat n.toNat).toArray⟩ w:=by
       have:=lq (P:=P) (w:=w) ns ⟨L.bB,L.off+o,none⟩ .empty (fun j x hj=>by
        have Iq:j<n.toNat:=by have:=(List.getElem?_eq_some_iff.1 hj).1;omega
        have WR:(ns.map (Value.int .u8))[j]? = some (.int .u8 x):=by simp [hj]
        rw [← WH,List.getElem?_take_of_lt Iq,List.getElem?_drop,rW (by omega)] at WR
        rw [fK]
        simp only [World.cell?,q1]
        simp
        rw [show L.off+o+j=L.off+(o+j) by omega];exact WR)
       rw [Ct] at this
       have e0:ByteArray.empty.data = #[]:=rfl
       rw [e0] at this
       simpa using this
      have cv:L.bB<w.heap.size:=(Array.getElem?_eq_some_iff.1 q1).1
      have N4:=tY (w:=w) q1 (off:=L.off+o) (n:=n.toNat) (by omega)
      obtain ⟨Sb,Av,Zf,KW⟩ : ∃Sb Av,(if lo == hi then (L.off+o,L.off+o+n.toNat) else (min lo (L.off+o),max hi (L.off+o+n.toNat)))=(Sb,Av)∧Av≤L.off+max fl.fz (o+n.toNat):=by
       by_cases e5:lo=hi
       ·exact ⟨_,_,by rw [if_pos (by simpa using e5)],by omega⟩
       ·have hS':=hS h4
        exact ⟨_,_,by rw [if_neg (by simpa using e5)],by omega⟩
      rw [Zf] at N4
      have Be:w.shape? L.bB=some (e,X.size):=by simp only [World.shape?,q1]
      have Sl:(variablesAt ⟨L.bB,L.off+o,none⟩ e n.toNat).run P w=.ok true w:=by
       have:=u6 (P:=P) gE (X.size / P.cellsOf e) (L.off+o) n.toNat (by rw [gE,Nat.div_one];omega)
       simp [variablesAt,Be,this]
      refine ⟨.string ⟨(ns.map fun (n:Int)=>UInt8.ofNat n.toNat).toArray⟩,w.putObj L.bB (.cells X e (Sb,Av)),
       E,?_,Env.le.refl E,rfl,?_,?_⟩
      ·rw [Cu] at Ss
       rw [oo ts ty k n _ pt e ht (by omega) (by omega) Mr (by simp [elemOf,run_underlying hu]) Sl hl,N4]
      ·refine hH.uV hb hL h3 ⟨X,_,_,World.putObj_heap_same cv,q2,q3,q4,q5,fun _=>⟨Gt,?_,?_⟩,q7,q8.1,fun hw=>⟨(q8.2 hw).1,(q8.2 hw).2.1,fun hf=>by
        have:max fl.fz (o+n.toNat)=0:=hf
        omega⟩⟩
       ·intro k k1 k2
        have k3:L.off+max fl.fz (o+n.toNat)≤k:=k1
        omega
       ·intro _
        exact .inr KW
      ·exact Below.putObj (Below.refl B w) Gt _
     ·cases h
    ·cases h
 ·cases h
end
end Go.Am
end
/- The abstract machine: one operation, whole. -/
section
namespace Go.Am
open Go.RowKit
section
variable {P:Program} {E:Env} {B:eS} {H:AH} {w:World}
def OB (P:Program) (E:Env) (B:eS) (w:World) (a:Act) (o:Oper) (v:AV) (H' : AH):Prop :=
 ∃E' w' x,((execOp a.eval o).run P w=.ok (.value x) w'∨((execOp a.eval o).run P w=.ok .skip w'∧x=Go.undef))∧E.le E'∧VR E' v x∧HR P E' B H' w'∧Below B w w'
theorem Made.iK {a:Act} {o:Oper} {v:AV} {H' : AH} {s:Sem Value} (he:execOp a.eval o=(do pure (.value (← s)))) (h:Made P E B w v H' s):OB P E B w a o v H':=by
 obtain ⟨x,w',E',h1,h2⟩:=h
 exact ⟨E',w',x,.inl (by rw [he];simp [h1]),h2⟩
theorem jR.iK (hH:HR P E B H w) {a:Act} {o:Oper} {v:AV} {s:Sem Value} (he:execOp a.eval o=(do pure (.value (← s)))) (h:jR P E w v s):OB P E B w a o v H:=(h.made hH).iK he
theorem zE (hH:HR P E B H w) {b:Builtin} {ts:Array TypeId} {ty:TypeId} {cs:Array Bool} {xs:List AV} {ys:Array Value} {v:AV} {H' : AH} (h:iE P H b ts.toList xs=some (v,H')) (hx:aI E xs ys.toList) :
  ∃s,builtin b ts ty cs ys=(do pure (.value (← s)))∧Made P E B w v H' s:=by
 have Qm : ∀ {t:TypeId} {l:List TypeId},ts.toList=t :: l→ts[0]? = some t:=fun e=>by rw [← Array.getElem?_toList,e];rfl
 have Sn : ∀ {t u:TypeId} {l:List TypeId},ts.toList=t :: u :: l→ts[1]? = some u:=fun e=>by rw [← Array.getElem?_toList,e];rfl
 unfold iE at h
 split at h
 ·rename_i t l x r e
  obtain ⟨z,hz,h⟩:=Option.map_eq_some_iff.1 h
  cases h
  obtain ⟨y,vn,hy,tO,_⟩:=hx
  exact ⟨_,rfl,(G3 ts ys (Qm e) (by rw [← Array.getElem?_toList,hy];rfl) hz tO).made hH⟩
 ·rename_i t l x r e
  obtain ⟨z,hz,h⟩:=Option.map_eq_some_iff.1 h
  cases h
  obtain ⟨y,vn,hy,tO,_⟩:=hx
  exact ⟨_,rfl,(G4 hH ts ys (Qm e) (by rw [← Array.getElem?_toList,hy];rfl) hz tO).made hH⟩
 ·rename_i t u l x q r e
  obtain ⟨y,vn,hy,tO,y2,VA,Qb,HY,_⟩:=hx
  subst Qb
  exact ⟨_,rfl,zF hH (Qm e) (Sn e) (by rw [← Array.getElem?_toList,hy];rfl) (by rw [← Array.getElem?_toList,hy];rfl) h tO HY⟩
 ·rename_i t l x q r e
  obtain ⟨y,vn,hy,tO,y2,VA,Qb,HY,_⟩:=hx
  subst Qb
  exact ⟨_,rfl,EC hH (Qm e) (by rw [← Array.getElem?_toList,hy];rfl) (by rw [← Array.getElem?_toList,hy];rfl) h tO HY⟩
 ·rename_i x l
  obtain ⟨z,hz,h⟩:=Option.map_eq_some_iff.1 h
  cases h
  obtain ⟨y,vn,hy,tO,hl⟩:=hx
  refine ⟨Builtin.min_ ts ty ys,rfl,?_⟩
  obtain ⟨q,hq,hv⟩:=zw (P:=P) (w:=w) hz tO hl
  refine jR.made hH ⟨q,?_,hv⟩
  simp [Builtin.min_,hy,hq]
 ·rename_i x l
  obtain ⟨z,hz,h⟩:=Option.map_eq_some_iff.1 h
  cases h
  obtain ⟨y,vn,hy,tO,hl⟩:=hx
  refine ⟨Builtin.max_ ts ty ys,rfl,?_⟩
  obtain ⟨q,hq,hv⟩:=zy (P:=P) (w:=w) hz tO hl
  refine jR.made hH ⟨q,?_,hv⟩
  simp [Builtin.max_,hy,hq]
 ·rename_i l c
  cases h
  obtain ⟨y,vn,hy,⟨rfl,_⟩,rfl⟩:=hx
  obtain rfl:ys = #[.slice none l c]:=Array.ext' hy
  exact ⟨_,rfl,jR.made hH ⟨.pointer none,rfl,rfl⟩⟩
 ·rename_i a l c
  split at h
  ·cases h
  ·rename_i hc
   cases h
   obtain ⟨y,vn,hy,tO,rfl⟩:=hx
   obtain ⟨b,o⟩:=a
   obtain ⟨L,a',c',hL,rfl,Cv,oW,nR,ha⟩:=tO
   obtain rfl:ys = #[.slice (some a') l c']:=Array.ext' hy
   have Gn:c' ≠ 0:=by rcases oW with e | ⟨_,e⟩ <;> omega
   refine ⟨_,rfl,jR.made hH ⟨.pointer (some a'),?_,?_⟩⟩
   ·have:=Lib.run_unsafeSliceData_row (P:=P) w ts ty a' l c' Gn
    exact this
   ·exact ⟨L,hL,by rw [ha.resolve_right Gn]⟩
 ·rename_i t l p n e
  obtain ⟨y,vn,hy,tO,y2,VA,Qb,HY,hn⟩:=hx
  subst Qb
  cases hn
  obtain rfl:ys = #[y,y2]:=Array.ext' hy
  exact ⟨_,rfl,oB hH (Qm e) h tO HY⟩
 ·cases h
theorem run_checkKey {kt:TypeId} (hk:P.underlying kt=some .string) (b:Bool) (s:ByteArray) (w:World):(Instr.checkKey b 10000 kt (.string s)).run P w=.ok () w:=by
 have key : ∀n,(Instr.checkKey b (n+1) kt (.string s)).run P w=.ok () w:=fun n=>by simp [Instr.checkKey,run_underlying hk]
 exact key 9999
theorem F5.now : ∀ {es:List (List UInt8×AV)} {l:List MapEntry} (_:F5 E es l) (s:List UInt8) (i:Nat),
  match m8 es s with
  | none=>Instr.findNow .string (.string ⟨s.toArray⟩) l i=some none
  | some v=>∃j e,Instr.findNow .string (.string ⟨s.toArray⟩) l i=some (some (i+j,e.val))∧l[j]? = some e∧e.key=.string ⟨s.toArray⟩∧VR E v e.val ∧
    ∀x (y:Value),VR E x y→F5 E (nD es s x) (l.modify j fun e=>{ e with key:=.string ⟨s.toArray⟩,val:=y })
 | [],_,h,s,i=>by obtain rfl:=h;rfl
 | (k,v) :: es,_,h,s,i=>by
  obtain ⟨e,l',rfl,h1,h2,h3⟩:=h
  have Ix:((⟨s.toArray⟩ : ByteArray) == ⟨k.toArray⟩)=(s == k):=by rw [Bool.eq_iff_iff,CV];simp
  cases Sq:(s == k) with
  | true =>
   have:s=k:=by simpa using Sq
   subst this
   simp only [m8,Sq,if_true,nD]
   refine ⟨0,e,?_,rfl,h1,h2,fun x y tO=>⟨_,_,rfl,rfl,tO,h3⟩⟩
   simp [Instr.findNow,h1,Instr.sameNow,Ix]
  | false =>
   simp only [m8,Sq,Bool.false_eq_true,if_false,nD]
   have ih:=h3.now s (i+1)
   have jH:Instr.findNow .string (.string ⟨s.toArray⟩) (e :: l') i=Instr.findNow .string (.string ⟨s.toArray⟩) l' (i+1):=by
    simp [Instr.findNow,h1,Instr.sameNow,Ix,Sq]
   cases hl:m8 es s with
   | none=>rw [hl] at ih;simp only at ih ⊢;rw [jH];exact ih
   | some u =>
    rw [hl] at ih
    obtain ⟨j,e',k1,k2,k3,k4,k5⟩:=ih
    refine ⟨j+1,e',by rw [jH,k1];congr 3;omega,by simpa using k2,k3,k4,fun x y tO=>⟨e,_,?_,h1,h2,k5 x y tO⟩⟩
    simp [List.modify]
theorem F5.push : ∀ {es:List (List UInt8×AV)} {l:List MapEntry} (_:F5 E es l) {s:List UInt8} (_:m8 es s=none) {x:AV} {y:Value} (_:VR E x y) (c:Nat),F5 E (nD es s x) (l ++ [{ key:=.string ⟨s.toArray⟩,val:=y,born:=c }])
 | [],_,h,s,_,x,y,tO,c=>by obtain rfl:=h;exact ⟨_,_,rfl,rfl,tO,rfl⟩
 | (k,v) :: es,_,h,s,hs,x,y,tO,c=>by
  obtain ⟨e,l',rfl,h1,h2,h3⟩:=h
  simp only [m8] at hs
  split at hs
  ·cases hs
  ·rename_i cU
   simp only [nD,cU,if_false,Bool.false_eq_true]
   exact ⟨e,_,rfl,h1,h2,h3.push hs tO c⟩
theorem run_findKey {kt:TypeId} (hk:P.underlying kt=some .string) {s:List UInt8} {l:List MapEntry} {r:Option (Nat×Value)} (h:Instr.findNow .string (.string ⟨s.toArray⟩) l 0=some r) (w:World) :
  (Instr.findKey kt (.string ⟨s.toArray⟩) l).run P w=.ok r w:=by
 simp [Instr.findKey,run_underlying hk,h]
theorem zB (hH:HR P E B H w) {t:TypeId} {ok:Bool} {m i v:AV} {x y:Value} (h:si P H t ok m i=some v) (hx:VR E m x) (hy:VR E i y):jR P E w v (Instr.lookup t x y ok):=by
 unfold si at h
 split at h
 ·rename_i kt e s hu
  obtain rfl:y=_:=hy
  split at h
  ·rename_i z hk hz
   obtain ⟨zx,Cn,nQ⟩:=fC hz E w
   have yR:VR E (if ok then .tuple [z,.bool false] else z) (if ok then .tuple #[zx,.bool false] else zx):=by
    cases ok
    ·exact nQ
    ·exact ⟨_,rfl,zx,_,rfl,nQ,_,_,rfl,rfl,rfl⟩
   split at h
   ·obtain rfl:x=_:=hx
    cases h
    have hf:Instr.findNow .string (.string ⟨s.toArray⟩) (#[]:Array MapEntry).toList 0=some none:=rfl
    refine ⟨_,?_,yR⟩
    simp only [Instr.lookup,Sem.run_bind,run_underlying hu,Result.andThen_ok,Sem.run_pure,run_checkKey hk,run_findKey hk hf,Cn]
   ·rename_i b
    obtain ⟨L,hL,rfl⟩:=hx
    split at h
    ·rename_i es c hb
     obtain ⟨L',cr,Bd,hm,SA,_⟩:=hH.obj _ _ hb
     rw [hL] at cr;cases cr
     have hn:=SA.now s 0
     have tS:(getObj L.bB).run P w=.ok (.map Bd c) w:=by simp [getObj,Sem.run,hm]
     split at h
     ·rename_i u NW
      rw [NW] at hn
      obtain ⟨j,e',k1,k2,k3,k4,_⟩:=hn
      cases h
      refine ⟨if ok then .tuple #[e'.val,.bool true] else e'.val,?_,?_⟩
      ·simp only [Instr.lookup,Sem.run_bind,run_underlying hu,Result.andThen_ok,tS,Sem.run_pure,run_checkKey hk,run_findKey hk k1]
      ·cases ok
       ·exact k4
       ·exact ⟨_,rfl,_,_,rfl,k4,_,_,rfl,rfl,rfl⟩
     ·rename_i NW
      rw [NW] at hn
      cases h
      refine ⟨_,?_,yR⟩
      simp only [Instr.lookup,Sem.run_bind,run_underlying hu,Result.andThen_ok,tS,Sem.run_pure,run_checkKey hk,run_findKey hk hn,Cn]
    ·cases h
   ·cases h
  ·cases h
 ·cases h
theorem zA (hH:HR P E B H w) {t:TypeId} {m i u:AV} {x y z:Value} {H' : AH} (h:r9 P H t m i u=some H') (hx:VR E m x) (hy:VR E i y) (hz:VR E u z) :
  ∃w',(Instr.mapUpdate t x y z).run P w=.ok () w'∧HR P E B H' w'∧Below B w w':=by
 unfold r9 at h
 split at h
 ·rename_i kt e b s hu
  obtain ⟨L,hL,rfl⟩:=hx
  obtain rfl:y=_:=hy
  split at h
  ·rename_i es c hk hb
   cases h
   obtain ⟨L',cr,Bd,hm,SA,hB⟩:=hH.obj _ _ hb
   rw [hL] at cr;cases cr
   have hn:=SA.now s 0
   have tS:(getObj L.bB).run P w=.ok (.map Bd c) w:=by simp [getObj,Sem.run,hm]
   have cv:=(Array.getElem?_eq_some_iff.1 hm).1
   cases NW:m8 es s with
   | some v =>
    rw [NW] at hn
    obtain ⟨j,e',k1,k2,k3,k4,k5⟩:=hn
    have ND:Instr.findNow .string (.string ⟨s.toArray⟩) Bd.toList 0=some (some (j,e'.val)):=by rw [k1];simp
    have hj:Bd[j]? = some e':=by rw [← Array.getElem?_toList];exact k2
    refine ⟨w.putObj L.bB (.map (Bd.modify j fun e=>{ e with key:=.string ⟨s.toArray⟩,val:=z }) c),?_,?_,Below.putObj (Below.refl B w) hB _⟩
    ·simp only [Instr.mapUpdate,Sem.run_bind,run_underlying hu,Result.andThen_ok,tS,run_checkKey hk,run_findKey hk ND,hj,Option.map_some,Option.getD_some,k3]
     have QJ:(Instr.keyThatStays (.string ⟨s.toArray⟩) (.string ⟨s.toArray⟩)).run P w=.ok (.string ⟨s.toArray⟩) w:=by
      have hb:((⟨s.toArray⟩ : ByteArray) == ⟨s.toArray⟩)=true:=by rw [CV]
      simp [Instr.keyThatStays,Instr.sameBits,hb]
     have rM : ∀o,(setObj L.bB o).run P w=.ok () (w.putObj L.bB o):=fun o=>by simp [setObj,Sem.run,hm,World.putObj]
     simp [QJ,rM]
    ·refine hH.uV hb hL rfl ⟨_,World.putObj_heap_same cv,?_,hB⟩
     rw [Array.toList_modify]
     exact k5 u z hz
   | none =>
    rw [NW] at hn
    refine ⟨w.putObj L.bB (.map (Bd.push { key:=.string ⟨s.toArray⟩,val:=z,born:=c }) (c+1)),?_,?_,Below.putObj (Below.refl B w) hB _⟩
    ·simp only [Instr.mapUpdate,Sem.run_bind,run_underlying hu,Result.andThen_ok,tS,run_checkKey hk,run_findKey hk hn]
     have rM : ∀o,(setObj L.bB o).run P w=.ok () (w.putObj L.bB o):=fun o=>by simp [setObj,Sem.run,hm,World.putObj]
     simp [rM]
    ·refine hH.uV hb hL rfl ⟨_,World.putObj_heap_same cv,?_,hB⟩
     rw [Array.toList_push]
     exact SA.push NW hz c
  ·cases h
 ·cases h
def nu (P:Program) (E:Env) (T:List AV) (a:Act) (xs:Array Operand):Prop:=∀x,x ∈ xs→∀v,ev P T x=some v→VR E v (a.eval x)
theorem nu.of (hH:HR P E B H w) {T:List AV} {a:Act} (hT:aI E T a.tmps.toList) (xs:Array Operand):nu P E T a xs:=fun _ _ _ hv=>iD hH hT hv
theorem dP {T:List AV} {a:Act} : ∀ {xs:List Operand} {vs:List AV},(∀x,x ∈ xs→∀v,ev P T x=some v→VR E v (a.eval x))→pL P T xs=some vs→aI E vs (xs.map a.eval)
 | [],vs,_,hv=>by simp only [pL,Option.some.injEq] at hv;subst hv;rfl
 | x :: xs,vs,hT,hv=>by
  simp only [pL] at hv
  obtain ⟨v,h1,hv⟩:=Option.bind_eq_some_iff.1 hv
  obtain ⟨VF,h2,hv⟩:=Option.map_eq_some_iff.1 hv
  subst hv
  exact ⟨_,_,rfl,hT x (by simp) v h1,dP (fun y hy=>hT y (by simp [hy])) h2⟩
theorem CM {T:List AV} {a:Act} {x:Option Operand} {v:Option AV} (hT : ∀y,x=some y→∀v,ev P T y=some v→VR E v (a.eval y)) (hv:Jy P T x=some v):LN E v (x.map a.eval):=by
 cases x with
 | none=>simp only [Jy,Option.some.injEq] at hv;subst hv;rfl
 | some x =>
  simp only [Jy] at hv
  obtain ⟨v',h1,hv⟩:=Option.map_eq_some_iff.1 hv
  subst hv
  exact ⟨_,rfl,hT x rfl _ h1⟩
theorem CK {T:List AV} {a:Act} : ∀ {xs:List (Nat×Operand)} {vs:List (Nat×AV)},(∀p,p ∈ xs→∀v,ev P T p.2=some v→VR E v (a.eval p.2))→DP P T xs=some vs→MU E vs (xs.map fun (i,x)=>(i,a.eval x))
 | [],vs,_,hv=>by simp only [DP,Option.some.injEq] at hv;subst hv;rfl
 | (i,x) :: xs,vs,hT,hv=>by
  simp only [DP] at hv
  obtain ⟨v,h1,hv⟩:=Option.bind_eq_some_iff.1 hv
  obtain ⟨VF,h2,hv⟩:=Option.map_eq_some_iff.1 hv
  subst hv
  exact ⟨_,_,rfl,hT (i,x) (by simp) v h1,CK (fun y hy=>hT y (by simp [hy])) h2⟩
theorem xj {t:TypeId} {name:String} {g:FuncId} (h:lI P t name=some g) (n:Nat) (v:Value) (w:World):(nilAhead (n+1) t v name).run P w=.ok (some false) w:=by
 unfold lI at h
 obtain ⟨i,hi,h⟩:=Option.bind_eq_some_iff.1 h
 obtain ⟨m,hm,h⟩:=Option.bind_eq_some_iff.1 h
 split at h
 ·rename_i g' p hp hf
  split at h
  ·rename_i ht
   cases h
   simp only [nilAhead,Sem.run_bind,eK hi,Result.andThen_ok,hm,hp,followBlind,Sem.run_pure,hf]
   cases p with
   | true=>rfl
   | false =>
    unfold No at ht
    split at ht
    ·cases ht
    ·rename_i d hd hu
     cases d <;> first | (exact absurd rfl (hd _)) | simp [run_underlying hu]
    ·cases ht
  ·cases h
 ·cases h
theorem Dh (hH:HR P E B H w) {T:List AV} {a:Act} {o:Oper} (hT:nu P E T a o.op.operands) {v:AV} {H' : AH} (h:pK P T H o=some (v,H')) :
  OB P E B w a o v H'∧(∀c,o.op ≠ .defer c):=by
 obtain ⟨dst,op,ty,pos,after,guard⟩:=o
 have e1:=fun {x:Operand} {v:AV} (hx:x ∈ op.operands) (hv:ev P T x=some v)=>hT x hx v hv
 refine ⟨?_,fun c hc=>by simp only at hc;subst hc;simp [pK] at h⟩
 cases op <;> simp only [pK,reduceCtorEq] at h
 case move x =>
  obtain ⟨z,hz,h⟩:=Option.map_eq_some_iff.1 h;cases h
  exact ⟨E,w,_,.inl rfl,Env.le.refl E,e1 (by simp [Op.operands]) hz,hH,Below.refl B w⟩
 case assign x =>
  obtain ⟨z,hz,h⟩:=Option.map_eq_some_iff.1 h;cases h
  exact ⟨E,w,_,.inl rfl,Env.le.refl E,e1 (by simp [Op.operands]) hz,hH,Below.refl B w⟩
 case pick c x y =>
  obtain ⟨z,hz,h⟩:=Option.bind_eq_some_iff.1 h
  have hc:=e1 (by simp [Op.operands]) hz
  split at h
  ·obtain ⟨q,hq,h⟩:=Option.map_eq_some_iff.1 h;cases h
   have ye:a.eval c=.bool true:=hc
   exact ⟨E,w,_,.inl (by simp [execOp,ye,asBool]),Env.le.refl E,e1 (by simp [Op.operands]) hq,hH,Below.refl B w⟩
  ·obtain ⟨q,hq,h⟩:=Option.map_eq_some_iff.1 h;cases h
   have ye:a.eval c=.bool false:=hc
   exact ⟨E,w,_,.inl (by simp [execOp,ye,asBool]),Env.le.refl E,e1 (by simp [Op.operands]) hq,hH,Below.refl B w⟩
  ·cases h
 case alloc e =>
  obtain ⟨z,hz,h⟩:=Option.bind_eq_some_iff.1 h
  split at h
  ·rename_i ga;cases h;exact (BR hH hz ga).iK rfl
  ·cases h
 case box e x =>
  obtain ⟨z,hz,h⟩:=Option.bind_eq_some_iff.1 h
  split at h
  ·rename_i ga;cases h;exact (G5 hH (e1 (by simp [Op.operands]) hz) ga).iK rfl
  ·cases h
 case build t ps =>
  obtain ⟨l,hl,h⟩:=Option.bind_eq_some_iff.1 h
  obtain ⟨q,hq,h⟩:=Option.map_eq_some_iff.1 h;cases h
  have hp:=CK (a:=a) (fun p hp=>hT p.2 (by simp only [Op.operands,List.mem_toArray,List.mem_map];exact ⟨p,by simpa using hp,rfl⟩)) hl
  have:=BQ (w:=w) hq hp
  refine this.iK hH ?_
  simp only [execOp]
  congr 2
  apply Array.ext';simp
 case buildSlice t n ps =>
  obtain ⟨l,hl,h⟩:=Option.bind_eq_some_iff.1 h
  have hp:=CK (a:=a) (fun p hp=>hT p.2 (by simp only [Op.operands,List.mem_toArray,List.mem_map];exact ⟨p,by simpa using hp,rfl⟩)) hl
  refine (rE hH h hp).iK ?_
  simp only [execOp]
  congr 2
  apply Array.ext';simp
 case load t x =>
  obtain ⟨z,hz,h⟩:=Option.bind_eq_some_iff.1 h
  obtain ⟨q,hq,h⟩:=Option.map_eq_some_iff.1 h;cases h
  exact (EB hH hq (e1 (by simp [Op.operands]) hz)).iK hH rfl
 case store t x y =>
  obtain ⟨z,hz,h⟩:=Option.bind_eq_some_iff.1 h
  obtain ⟨u,hu,h⟩:=Option.bind_eq_some_iff.1 h
  obtain ⟨q,hq,h⟩:=Option.map_eq_some_iff.1 h;cases h
  obtain ⟨w',h1,h2,h3⟩:=BJ hH hq (e1 (by simp [Op.operands]) hz) (e1 (by simp [Op.operands]) hu)
  exact ⟨E,w',_,.inr ⟨by simp [execOp,h1],rfl⟩,Env.le.refl E,⟨#[],rfl,rfl⟩,h2,h3⟩
 case nilCheck x =>
  obtain ⟨z,hz,h⟩:=Option.bind_eq_some_iff.1 h
  have hx:=e1 (by simp [Op.operands]) hz
  split at h
  case isFalse=>cases h
  rename_i od
  cases h
  unfold vJ at od
  split at od
  ·rename_i p
   obtain ⟨pb,po⟩:=p
   obtain ⟨L,hL,he⟩:=hx
   exact ⟨E,w,_,.inl (by simp [execOp,he]),Env.le.refl E,⟨L,hL,rfl⟩,hH,Below.refl B w⟩
  ·obtain ⟨x',y',he,hq⟩:=hx
   exact ⟨E,w,_,.inl (by simp [execOp,he]),Env.le.refl E,⟨x',y',rfl,hq⟩,hH,Below.refl B w⟩
  ·obtain ⟨x',y',he,hq,hy⟩:=hx
   obtain ⟨q,hb⟩:=Option.isSome_iff_exists.1 od
   obtain ⟨name,t,rfl,rfl,hm⟩:=qY hb
   obtain ⟨_,_,Cn,⟨u',rfl,TW⟩,rfl⟩:=hq
   have Jv:x'[0]? = some (.iface t u'):=by rw [← Array.getElem?_toList,Cn];rfl
   obtain ⟨n,Il⟩ : ∃n,P.types.size+Made.depth=n+1:=⟨P.types.size+Made.depth - 1,(Nat.sub_add_cancel (Nat.le_trans (show 1≤Made.depth by decide) (Nat.le_add_left _ _))).symm⟩
   refine ⟨E,w,.func (.method name) x' y',.inl ?_,Env.le.refl E,⟨x',y',rfl,⟨_,_,Cn,⟨u',rfl,TW⟩,rfl⟩,hy⟩,hH,Below.refl B w⟩
   simp [execOp,he,Jv,Il,xj hm,run_program]
  ·obtain ⟨L,hL,he⟩:=hx
   exact ⟨E,w,_,.inl (by simp [execOp,he]),Env.le.refl E,⟨L,hL,rfl⟩,hH,Below.refl B w⟩
  ·cases od
 case binOp op t x y u =>
  obtain ⟨z,hz,h⟩:=Option.bind_eq_some_iff.1 h
  obtain ⟨q,hq,h⟩:=Option.bind_eq_some_iff.1 h
  obtain ⟨r,hr,h⟩:=Option.map_eq_some_iff.1 h;cases h
  exact (G6 hr (e1 (by simp [Op.operands]) hz) (e1 (by simp [Op.operands]) hq)).iK hH rfl
 case unOp op t x =>
  obtain ⟨z,hz,h⟩:=Option.bind_eq_some_iff.1 h
  obtain ⟨r,hr,h⟩:=Option.map_eq_some_iff.1 h;cases h
  exact (J4 hr (e1 (by simp [Op.operands]) hz)).iK hH rfl
 case convert s d x =>
  obtain ⟨z,hz,h⟩:=Option.bind_eq_some_iff.1 h
  exact (ED hH h (e1 (by simp [Op.operands]) hz)).iK rfl
 case makeInterface t x =>
  obtain ⟨z,hz,h⟩:=Option.bind_eq_some_iff.1 h
  have hx:=e1 (by simp [Op.operands]) hz
  split at h
  ·cases h
  ·rename_i d Ij hu
   cases h
   refine ⟨E,w,.iface t (a.eval x),.inl ?_,Env.le.refl E,⟨_,rfl,hx⟩,hH,Below.refl B w⟩
   cases d <;> first | (exact absurd rfl (Ij _)) | simp [execOp,Instr.makeInterface,run_underlying hu]
  ·cases h
 case makeFunc f xs ys =>
  obtain ⟨z,hz,h⟩:=Option.bind_eq_some_iff.1 h
  obtain ⟨q,hq,h⟩:=Option.bind_eq_some_iff.1 h
  cases h
  have h1:=dP (a:=a) (fun y hy=>hT y (by simp [Op.operands];left;simpa using hy)) hz
  have h2:=dP (a:=a) (fun y hy=>hT y (by simp [Op.operands];right;simpa using hy)) hq
  exact ⟨E,w,.func f (xs.map a.eval) (ys.map a.eval),.inl (by simp [execOp,Instr.makeFunc]),Env.le.refl E,⟨_,_,rfl,by simpa using h1,by simpa using h2⟩,hH,Below.refl B w⟩
 case makeSlice t l c =>
  obtain ⟨z,hz,h⟩:=Option.bind_eq_some_iff.1 h
  obtain ⟨q,hq,h⟩:=Option.bind_eq_some_iff.1 h
  exact (sU hH h (e1 (by simp [Op.operands]) hz) (e1 (by simp [Op.operands]) hq)).iK rfl
 case slice t x lo hi mx =>
  obtain ⟨z,hz,h⟩:=Option.bind_eq_some_iff.1 h
  obtain ⟨z1,Cn,h⟩:=Option.bind_eq_some_iff.1 h
  obtain ⟨z2,nQ,h⟩:=Option.bind_eq_some_iff.1 h
  obtain ⟨z3,DC,h⟩:=Option.bind_eq_some_iff.1 h
  obtain ⟨r,hr,h⟩:=Option.map_eq_some_iff.1 h;cases h
  exact (BK hH hr (e1 (by simp [Op.operands]) hz) (CM (fun y hy=>hT y (by subst hy;simp [Op.operands])) Cn) (CM (fun y hy=>hT y (by subst hy;simp [Op.operands])) nQ) (CM (fun y hy=>hT y (by subst hy;simp [Op.operands])) DC)).iK hH rfl
 case fieldAddr t x f =>
  obtain ⟨z,hz,h⟩:=Option.bind_eq_some_iff.1 h
  obtain ⟨r,hr,h⟩:=Option.map_eq_some_iff.1 h;cases h
  exact (sW hr (e1 (by simp [Op.operands]) hz)).iK hH rfl
 case field t x f =>
  obtain ⟨z,hz,h⟩:=Option.bind_eq_some_iff.1 h
  obtain ⟨r,hr,h⟩:=Option.map_eq_some_iff.1 h;cases h
  exact (BP hr (e1 (by simp [Op.operands]) hz)).iK hH rfl
 case indexAddr t x i =>
  obtain ⟨z,hz,h⟩:=Option.bind_eq_some_iff.1 h
  obtain ⟨q,hq,h⟩:=Option.bind_eq_some_iff.1 h
  obtain ⟨r,hr,h⟩:=Option.map_eq_some_iff.1 h;cases h
  exact (sV hr (e1 (by simp [Op.operands]) hz) (e1 (by simp [Op.operands]) hq)).iK hH rfl
 case index t x i =>
  obtain ⟨z,hz,h⟩:=Option.bind_eq_some_iff.1 h
  obtain ⟨q,hq,h⟩:=Option.bind_eq_some_iff.1 h
  obtain ⟨r,hr,h⟩:=Option.map_eq_some_iff.1 h;cases h
  exact (BO hr (e1 (by simp [Op.operands]) hz) (e1 (by simp [Op.operands]) hq)).iK hH rfl
 case range t x =>
  obtain ⟨z,hz,h⟩:=Option.bind_eq_some_iff.1 h
  have hx:=e1 (by simp [Op.operands]) hz
  split at h
  ·rename_i s hu
   cases h
   have iB:a.eval x=.string ⟨s.toArray⟩:=hx
   refine (BL hH hu).iK ?_
   simp only [execOp,iB]
  ·cases h
 case next x str =>
  cases str with
  | false=>simp at h
  | true =>
   simp only at h
   obtain ⟨z,hz,h⟩:=Option.bind_eq_some_iff.1 h
   have hx:=e1 (by simp [Op.operands]) hz
   split at h
   ·rename_i b
    split at h
    ·rename_i s pos hb
     have:=EA (ty:=ty) hH hb hx
     split at h
     ·rename_i hp;cases h;rw [if_pos hp] at this;exact this.iK rfl
     ·rename_i hp;cases h;rw [if_neg hp] at this;exact this.iK rfl
    ·cases h
   ·cases h
 case makeMap t rs =>
  cases rs with
  | some y=>simp at h
  | none =>
   simp only [Option.some.injEq,Prod.mk.injEq] at h
   obtain ⟨rfl,rfl⟩:=h
   refine ⟨E.put H.n ⟨w.heap.size,0,0,0,0⟩,w.alloc (.map #[] 0),.map (some w.heap.size),.inl ?_,hH.eB _,⟨⟨w.heap.size,0,0,0,0⟩,by simp [Env.put],rfl⟩,hH.alloc rfl ⟨#[],World.alloc_heap_new w _,rfl,hH.fresh⟩,(Below.refl B w).alloc hH.base _⟩
   simp [execOp,Instr.makeMap]
 case lookup t x i ok =>
  obtain ⟨z,hz,h⟩:=Option.bind_eq_some_iff.1 h
  obtain ⟨q,hq,h⟩:=Option.bind_eq_some_iff.1 h
  obtain ⟨r,hr,h⟩:=Option.map_eq_some_iff.1 h;cases h
  exact (zB hH hr (e1 (by simp [Op.operands]) hz) (e1 (by simp [Op.operands]) hq)).iK hH rfl
 case mapUpdate t m k x =>
  obtain ⟨z,hz,h⟩:=Option.bind_eq_some_iff.1 h
  obtain ⟨q,hq,h⟩:=Option.bind_eq_some_iff.1 h
  obtain ⟨u,hu,h⟩:=Option.bind_eq_some_iff.1 h
  obtain ⟨r,hr,h⟩:=Option.map_eq_some_iff.1 h;cases h
  obtain ⟨w',h1,h2,h3⟩:=zA hH hr (e1 (by simp [Op.operands]) hz) (e1 (by simp [Op.operands]) hq) (e1 (by simp [Op.operands]) hu)
  exact ⟨E,w',_,.inr ⟨by simp [execOp,h1],rfl⟩,Env.le.refl E,⟨#[],rfl,rfl⟩,h2,h3⟩
 case typeAssert x st t ok =>
  obtain ⟨z,hz,h⟩:=Option.bind_eq_some_iff.1 h
  obtain ⟨r,hr,h⟩:=Option.map_eq_some_iff.1 h;cases h
  exact (rD hr (e1 (by simp [Op.operands]) hz)).iK hH rfl
 case extract x i =>
  obtain ⟨z,hz,h⟩:=Option.bind_eq_some_iff.1 h
  have hx:=e1 (by simp [Op.operands]) hz
  split at h
  ·rename_i vs
   obtain ⟨r,hr,h⟩:=Option.map_eq_some_iff.1 h;cases h
   obtain ⟨cs,he,Zt⟩:=hx
   obtain ⟨y,hy,hv⟩:=Zt.get hr
   rw [Array.getElem?_toList] at hy
   exact ⟨E,w,y,.inl (by simp [execOp,he,Instr.extract,hy]),Env.le.refl E,hv,hH,Below.refl B w⟩
  ·cases h
 case call c =>
  obtain ⟨callee,args,ts⟩:=c
  cases callee with
  | builtin b =>
   simp only at h
   obtain ⟨l,hl,h⟩:=Option.bind_eq_some_iff.1 h
   have kJ:=dP (a:=a) (fun y hy=>hT y (by simp [Op.operands,Call.operands];simpa using hy)) hl
   obtain ⟨s,hs,hm⟩:=zE (ty:=ty) (cs:=args.map fun | .const _=>true | _=>false) (ys:=args.map a.eval) hH h (by simpa using kJ)
   refine hm.iK ?_
   simp only [execOp,resolve,invoke,pure_bind]
   exact hs
  | value f=>simp at h
  | invoke r m=>simp at h
end
end Go.Am
end

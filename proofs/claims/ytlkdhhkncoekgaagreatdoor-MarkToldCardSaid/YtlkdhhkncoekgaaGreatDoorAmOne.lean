/- The abstract machine: its values and heaps, what an operation does, and that the model does the same. -/
import Derived.RangeFuncLeaves
import Derived.RangeFuncRecord
import Derived.Below
import Derived.Laws.Cells
import Derived.Laws.Entries
import Derived.Maps.Range
import Derived.Laws.BytesString
import Derived.Lib.UnsafeStr
/- The abstract machine: values, heap, what an operation does. -/
section
namespace Go.Am
inductive AV where
 | bool (b:Bool)
 | int (k:IntKind) (n:Int)
 | str (s:List UInt8)
 | ptr (a:Option (Nat×Nat))
 | slice (a:Option (Nat×Nat)) (len cap:Nat)
 | func (f:Fn) (first Gn:List AV)
 | nilFunc
 | cY (b:Nat)
 | iface (t:TypeId) (v:AV)
 | nilIface
 | agg (cs:List AV)
 | tuple (vs:List AV)
 | map (a:Option Nat)
 /-- a number of which this alone is known: whether it is lo at least -/
 | half (lo:Int) (b:Bool)
 /-- some byte -/
 | rm
 | any
 deriving Inhabited
abbrev AV.undef:AV:=.tuple []
def AV.cells:AV→List AV
 | .agg cs=>cs
 | v=>[v]
def AV.one:AV→Bool
 | .agg _ | .tuple _ | .any=>false
 | _=>true
def AV.isAny:AV→Bool
 | .any=>true
 | _=>false
mutual
def mW:Value→Option AV
 | .bool b=>some (.bool b)
 | .int k n=>some (.int k n)
 | .string s=>some (.str s.data.toList)
 | .pointer none=>some (.ptr none)
 | .slice none l c=>if l≤c then some (.slice none l c) else none
 | .func f first Gn=>(FA first).bind fun x=>(FA Gn).map fun y=>.func f x y
 | .nilFunc=>some .nilFunc
 | .iface t v=>(mW v).map (.iface t)
 | .nilIface=>some .nilIface
 | .map none=>some (.map none)
 | .agg cs=>(FA cs).map .agg
 | .tuple vs=>(FA vs).map .tuple
 | _=>none
def FA:Array Value→Option (List AV)
 | ⟨l⟩=>Iq l
def Iq:List Value→Option (List AV)
 | []=>some []
 | v :: l=>(mW v).bind fun x=>(Iq l).map (x :: ·)
end
/-! ### The heap -/
inductive Tr (α:Type) where
 | nil
 | node (l:Tr α) (v:Option α) (r:Tr α)
def Tr.get {α:Type}:Tr α→Nat→Option α
 | .nil,_=>none
 | .node _ v _,0=>v
 | .node l _ r,k+1=>if k % 2=0 then l.get (k / 2) else r.get (k / 2)
def Tr.set {α:Type}:Nat→Tr α→Nat→α→Tr α
 | 0,t,_,_=>t
 | _+1,.nil,0,x=>.node .nil (some x) .nil
 | _+1,.node l _ r,0,x=>.node l (some x) r
 | f+1,.nil,k+1,x=>if k % 2=0 then .node (Tr.set f .nil (k / 2) x) none .nil else .node .nil none (Tr.set f .nil (k / 2) x)
 | f+1,.node l v r,k+1,x=>if k % 2=0 then .node (Tr.set f l (k / 2) x) v r else .node l v (Tr.set f r (k / 2) x)
theorem Tr.af {α:Type} : ∀(f:Nat) (t:Tr α) (k:Nat) (x:α) (j:Nat),k<f→(Tr.set f t k x).get j=if j=k then some x else t.get j:=by
 intro f
 induction f with
 | zero=>intro t k x j h;omega
 | succ f ih =>
  intro t k x j h
  cases k with
  | zero=>cases t <;> cases j <;> simp [Tr.set,Tr.get]
  | succ k =>
   have hk:k / 2<f:=by omega
   cases t <;> cases j with
   | zero=>by_cases hb:k % 2=0 <;> simp [Tr.set,Tr.get,hb]
   | succ j =>
    by_cases hb:k % 2=0 <;> by_cases hj:j % 2=0 <;> simp only [Tr.set,Tr.get,hb,hj,if_true,if_false,ih _ _ _ _ hk,Nat.add_right_cancel_iff] <;>
     first
     | rfl
     | (
       by_cases he:j=k
       ·subst he;first | exact absurd hb hj | exact absurd hj hb | simp
       ·have : ¬ j / 2=k / 2:=by omega
        simp [he,this])
     | (
       have : ¬ j=k:=by intro he;subst he;first | exact hb hj | exact hj hb
       simp [this])
structure Fl where
 own:Bool:=true
 fD:Bool:=false
 fz:Nat:=0
 lC:Bool:=false
 whole:Bool:=false
inductive aY where
 | cells (cs:List AV) (elem:TypeId) (fl:Fl)
 | dead
 | iter (s:List UInt8) (pos:Nat)
 | loop (st:LoopState) (aZ:Option Code) (T:List AV) (params:Array Tmp) (assign body:Code) (dfr:Nat)
 | deferred
 | map (es:List (List UInt8×AV)) (clock:Nat)
def aY.owns:aY→Bool
 | .cells _ _ fl=>fl.own
 | .dead=>false
 | _=>true
def aY.live:aY→Bool
 | .dead=>false
 | _=>true
structure AH where
 n:Nat
 t:Tr aY
def AH.get (H:AH) (b:Nat):Option aY:=H.t.get b
def AH.set (H:AH) (b:Nat) (o:aY):AH:=⟨H.n,H.t.set (b+1) b o⟩
def AH.alloc (H:AH) (o:aY):AH:=⟨H.n+1,H.t.set (H.n+1) H.n o⟩
theorem AH.af (H:AH) (b:Nat) (o:aY) (c:Nat):(H.set b o).get c=if c=b then some o else H.get c:=Tr.af _ _ _ _ _ (by omega)
theorem AH.aa (H:AH) (o:aY) (c:Nat):(H.alloc o).get c=if c=H.n then some o else H.get c:=Tr.af _ _ _ _ _ (by omega)
@[simp] theorem AH.bq (H:AH) (b:Nat) (o:aY):(H.set b o).n=H.n:=rfl
@[simp] theorem AH.az (H:AH) (o:aY):(H.alloc o).n=H.n+1:=rfl
def aA (cs:List AV) (o:Nat) (vs:List AV):List AV:=cs.take o ++ (vs ++ cs.drop (o+vs.length))
def AH.read (H:AH) (b o n:Nat):Option (List AV) :=
 match H.get b with
 | some (.cells cs _ _)=>if o+n≤cs.length then some ((cs.drop o).take n) else none
 | _=>none
def AH.ak (H:AH) (b o:Nat):Option AV :=
 match H.get b with
 | some (.cells cs _ _)=>cs[o]?
 | _=>none
def AH.write (H:AH) (b o:Nat) (vs:List AV):Option AH :=
 match H.get b with
 | some (.cells cs e fl)=>if fl.own=true∧fl.fz≤o∧o+vs.length≤cs.length∧vs.all AV.one=true then some (H.set b (.cells (aA cs o vs) e fl)) else none
 | _=>none
/-! ### Types -/
section types
variable (P:Program)
def bY (t:TypeId):Option Nat:=(P.info? t).map (·.size)
def ve (t:TypeId):Option Nat:=(P.info? t).map (·.bytes)
def zeroOf (t:TypeId):Option AV:=(P.info? t).bind fun i=>i.zero.bind mW
def Gx (t:TypeId):Option Bool :=
 match P.underlying t with
 | some (.struct _) | some (.array _ _)=>some true
 | some _=>some false
 | none=>none
def lq (t:TypeId) (cs:List AV) (off:Nat):Option AV :=
 match Gx P t with
 | some true=>(bY P t).map fun s=>.agg ((cs.drop off).take s)
 | some false=>cs[off]?
 | none=>none
end types
/-! ### What an operation does -/
def ev (P:Program) (T:List AV):Operand→Option AV
 | .tmp t=>some ((T[t]?).getD .undef)
 | .const v=>mW v
 | .global g=>if g<P.globals.size then some (.ptr (some (g,0))) else none
 | .func f=>some (.func (.func f) [] [])
def qd (P:Program) (T:List AV):List Operand→Option (List AV)
 | []=>some []
 | x :: l=>(ev P T x).bind fun v=>(qd P T l).map (v :: ·)
def Kc (P:Program) (T:List AV):Option Operand→Option (Option AV)
 | none=>some none
 | some x=>(ev P T x).map some
def En (P:Program) (T:List AV):List (Nat×Operand)→Option (List (Nat×AV))
 | []=>some []
 | (i,x) :: l=>(ev P T x).bind fun v=>(En P T l).map ((i,v) :: ·)
def mB (place:Nat→Option (Nat×Nat)) (cells:List AV):List (Nat×AV)→Option (List AV)
 | []=>some cells
 | (i,v) :: rest =>
  match place i with
  | none=>none
  | some (off,size)=>if v.cells.length=size∧off+v.cells.length≤cells.length∧v.isAny=false then mB place (aA cells off v.cells) rest else none
def cJ (zero:List AV):Nat→List AV
 | 0=>[]
 | n+1=>zero ++ cJ zero n
section eq
variable (P:Program)
def eqFields (eq:TypeId→AV→AV→Option Bool) (xs ys:List AV):List Field→Option Bool
 | []=>some true
 | f :: fs =>
  if f.name ≠ "_" then
   (lq P f.type xs f.offset).bind fun a=>(lq P f.type ys f.offset).bind fun b=>(eq f.type a b).bind fun r=>bif r then eqFields eq xs ys fs else some false
  else eqFields eq xs ys fs
def kX (eq:TypeId→AV→AV→Option Bool) (elem:TypeId) (xs ys:List AV) (sz:Nat):Nat→Nat→Option Bool
 | _,0=>some true
 | i,n+1 =>
  (lq P elem xs (i*sz)).bind fun a=>(lq P elem ys (i*sz)).bind fun b=>(eq elem a b).bind fun r=>bif r then kX eq elem xs ys sz (i+1) n else some false
def lF:Nat→TypeId→AV→AV→Option Bool
 | 0,_,_,_=>none
 | d+1,t,x,y =>
  match P.underlying t,x,y with
  | some .bool,.bool a,.bool b=>some (a == b)
  | some (.int _),.int k a,.int k' b=>if k=k' then some (a == b) else none
  | some .string,.str a,.str b=>some (a == b)
  | some (.pointer _),.ptr none,.ptr b=>some b.isNone
  | some (.pointer _),.ptr (some _),.ptr none=>some false
  | some (.pointer e),.ptr (some a),.ptr (some b)=>match bY P e with
   | some s=>if a.1=b.1∧s ≠ 0 then some (a.2 == b.2) else none
   | none=>none
  | some (.interface _),.nilIface,.nilIface=>some true
  | some (.interface _),.nilIface,.iface _ _=>some false
  | some (.interface _),.iface _ _,.nilIface=>some false
  | some (.interface _),.iface tx vx,.iface ty vy=>if tx ≠ ty then some false else
   match P.info? tx with
   | some i=>if i.comparable then lF d tx vx vy else none
   | none=>none
  | some (.struct fs),.agg xs,.agg ys=>if P.stoodInHeld t then none else eqFields P (lF d) xs ys fs.toList
  | some (.array len e),.agg xs,.agg ys=>match bY P e with
   | some s=>kX P (lF d) e xs ys s 0 len
   | none=>none
  | some (.slice _),.slice none _ _,.slice b _ _=>some b.isNone
  | some (.slice _),.slice (some _) _ _,.slice none _ _=>some false
  | some (.map _ _),.map none,.map b=>some b.isNone
  | some (.map _ _),.map (some _),.map none=>some false
  | some (.func _ _ _),.nilFunc,.nilFunc=>some true
  | some (.func _ _ _),.nilFunc,.func _ _ _=>some false
  | some (.func _ _ _),.func _ _ _,.nilFunc=>some false
  | _,_,_=>none
def qB:Operand→Bool
 | .const _=>true
 | _=>false
def cD (t:TypeId) (x y:Operand):AV→AV→Bool
 | .nilIface,.nilIface=>qB x || qB y
 | .agg _,.agg _=>!P.eqGuardType P.depth t
 | .any,_=>false
 | _,.any=>false
 | _,_=>true
end eq
def eE:List UInt8→List UInt8→Bool
 | _,[]=>false
 | [],_ :: _=>true
 | a :: x,b :: y=>a<b || (a == b && eE x y)
def kT (op:BinOp) (k:IntKind) (a b:Int):Option AV :=
 match op with
 | .add=>some (.int k (k.wrap (a+b)))
 | .sub=>some (.int k (k.wrap (a - b)))
 | .mul=>some (.int k (k.wrap (a*b)))
 | .quo=>if b=0 then none else some (.int k (k.wrap (a.tdiv b)))
 | .rem=>if b=0 then none else some (.int k (a.tmod b))
 | .and=>some (.int k (k.wrap (BitVec.ofInt k.bits a &&& BitVec.ofInt k.bits b).toNat))
 | .or=>some (.int k (k.wrap (BitVec.ofInt k.bits a ||| BitVec.ofInt k.bits b).toNat))
 | .xor=>some (.int k (k.wrap (BitVec.ofInt k.bits a ^^^ BitVec.ofInt k.bits b).toNat))
 | .andNot=>some (.int k (k.wrap (BitVec.ofInt k.bits a &&& ~~~BitVec.ofInt k.bits b).toNat))
 | .eql=>some (.bool (a == b))
 | .neq=>some (.bool (a != b))
 | .lss=>some (.bool (a<b))
 | .leq=>some (.bool (a≤b))
 | .gtr=>some (.bool (a > b))
 | .geq=>some (.bool (a≥b))
 | _=>none
def tD (op:BinOp) (a b:List UInt8):Option AV :=
 match op with
 | .add=>if ((a.length+b.length:Nat):Int) > IntKind.i64.max then none else some (.str (a ++ b))
 | .eql=>some (.bool (a == b))
 | .neq=>some (.bool (!(a == b)))
 | .lss=>some (.bool (eE a b))
 | .leq=>some (.bool (eE a b || a == b))
 | .gtr=>some (.bool (!(eE a b || a == b)))
 | .geq=>some (.bool (!eE a b))
 | _=>none
def sJ (P:Program) (op:BinOp) (t:TypeId) (xo yo:Operand) (x y:AV):Option AV :=
 match op,x,y with
 | .shl,.int k a,.int _ b=>if b<0 then none else some (.int k (k.wrap (a*2 ^ min b.toNat k.bits)))
 | .shr,.int k a,.int _ b=>if b<0 then none else some (.int k (a.fdiv (2 ^ min b.toNat k.bits)))
 | op,.int k a,.int k' b=>if k=k' then kT op k a b else none
 | op,.str a,.str b=>tD op a b
 | .leq,.int .i64 n,.half lo b=>if (b=true∧n≤lo)∨(b=false∧lo≤n) then some (.bool b) else none
 | .eql,x,y=>if cD P t xo yo x y then (lF P 8 t x y).map .bool else none
 | .neq,x,y=>if cD P t xo yo x y then (lF P 8 t x y).map fun r=>.bool (!r) else none
 | _,_,_=>none
def P7 (op:UnOp) (x:AV):Option AV :=
 match op,x with
 | .neg,.int k n=>some (.int k (k.wrap (0 - n)))
 | .xor,.int k n=>kT .xor k (if k.signed then -1 else k.max) n
 | .not,.bool b=>some (.bool !b)
 | _,_=>none
def ai (s:List UInt8) (i k:Nat):Nat:=((s[i+k]?).getD 0).toNat
def ah (s:List UInt8) (i:Nat):Nat×Nat :=
 let at' (k:Nat):Nat:=ai s i k
 let cont (k:Nat):Bool:=i+k<s.length && at' k / 64 == 2
 let b0:=at' 0
 if b0<0x80 then (b0,1)
 else if b0 / 32 == 6 && cont 1 then
  let c:=(b0 % 32)*64+at' 1 % 64
  if c≥0x80 then (c,2) else (Utf8.runeError,1)
 else if b0 / 16 == 14 && cont 1 && cont 2 then
  let c:=(b0 % 16)*4096+(at' 1 % 64)*64+at' 2 % 64
  if c≥0x800 && Utf8.valid c then (c,3) else (Utf8.runeError,1)
 else if b0 / 8 == 30 && cont 1 && cont 2 && cont 3 then
  let c:=(b0 % 8)*262144+(at' 1 % 64)*4096+(at' 2 % 64)*64+at' 3 % 64
  if c≥0x10000 && Utf8.valid c then (c,4) else (Utf8.runeError,1)
 else (Utf8.runeError,1)
def cE (r:Int):List UInt8 :=
 let c:=if Utf8.valid r then r.toNat else Utf8.runeError
 let b (n:Nat):UInt8:=UInt8.ofNat n
 if c<0x80 then [b c]
 else if c<0x800 then [b (0xC0+c / 64),b (0x80+c % 64)]
 else if c<0x10000 then [b (0xE0+c / 4096),b (0x80+c / 64 % 64),b (0x80+c % 64)]
 else [b (0xF0+c / 262144),b (0x80+c / 4096 % 64),b (0x80+c / 64 % 64),b (0x80+c % 64)]
def aC (s:List UInt8):List AV:=s.map fun b=>.int .u8 b.toNat
def cz:List AV→Option (List UInt8)
 | []=>some []
 | .int .u8 n :: l=>(cz l).map (UInt8.ofNat n.toNat :: ·)
 | _=>none
def AH.steps (P:Program) (H:AH) (b:Nat) (s:Nat):Bool :=
 match H.get b with
 | some (.cells _ e fl)=>!fl.fD || bY P e == some s
 | _=>false
def eS (d:Nat):Option AV→Option Nat
 | none=>some d
 | some (.int _ i)=>if 0≤i then some i.toNat else none
 | some _=>none
def bZ (P:Program) (H:AH) (t:TypeId) (x:AV) (lo hi mx:Option AV):Option AV :=
 match P.underlying t,x with
 | some .string,.str s =>
  if mx.isSome then none else
  (eS 0 lo).bind fun l=>(eS s.length hi).bind fun h=>if l≤h∧h≤s.length then some (.str ((s.drop l).take (h - l))) else none
 | some (.slice e),.slice a len cap =>
  (eS 0 lo).bind fun l=>(eS len hi).bind fun h=>(eS cap mx).bind fun m =>
  if l≤h∧h≤m∧m≤cap∧(mx.isSome→hi.isSome) then
   match a,bY P e with
   | none,some _=>some (.slice none (h - l) (m - l))
   | some (b,o),some s=>if l=0∨H.steps P b s=true then some (.slice (some (b,o+l*s)) (h - l) (m - l)) else none
   | _,_=>none
  else none
 | some (.array n e),.ptr (some (b,o)) =>
  (eS 0 lo).bind fun l=>(eS n hi).bind fun h=>(eS n mx).bind fun m =>
  if l≤h∧h≤m∧m≤n∧(mx.isSome→hi.isSome) then
   match bY P e,H.get b with
   | some s,some (.cells _ _ fl)=>if fl.fD then none else some (.slice (some (b,o+l*s)) (h - l) (m - l))
   | _,_=>none
  else none
 | _,_=>none
def gR (P:Program) (H:AH) (src dst:TypeId) (x:AV):Option (AV×AH) :=
 match P.underlying src,P.underlying dst,x with
 | some _,some (.int k),.int _ n=>some (.int k (k.wrap n),H)
 | some _,some .string,.int _ n=>some (.str (cE n),H)
 | some _,some .string,.str s=>some (.str s,H)
 | some _,some (.slice e),.str s =>
  match P.underlying e with
  | some (.int .u8)=>if bY P e=some 1 then some (.slice (some (H.n,0)) s.length s.length,H.alloc (.cells (aC s) e { fD:=true,lC:=true })) else none
  | _=>none
 | some (.pointer t),some .unsafePointer,.ptr (some (b,o)) =>
  match bY P t,H.get b with
  | some s,some (.cells cs _ _)=>if s ≠ 0∧o<cs.length then some (.ptr (some (b,o)),H) else none
  | _,_=>none
 | some .unsafePointer,some (.pointer u),.ptr (some (b,o)) =>
  match bY P u,H.get b with
  | some _,some (.cells cs e fl)=>if fl.whole=true∧liesAt P P.depth e (cs.length / P.cellsOf e) o u 1=true then some (.ptr (some (b,o)),H) else none
  | _,_=>none
 | some (.slice e),some .string,.slice none _ _ =>
  match P.underlying e with
  | some (.int .u8)=>some (.str [],H)
  | _=>none
 | some (.slice e),some .string,.slice (some (b,o)) len _ =>
  match P.underlying e with
  | some (.int .u8)=>(H.read b o len).bind fun cs=>(cz cs).map fun s=>(.str s,H)
  | _=>none
 | some (.slice _),some (.slice e),.slice (some (b,o)) len cap =>
  match P.underlying e,H.get b with
  | some (.int .u8),some (.cells cs el fl) =>
   if src=dst∧0<cap∧fl.own=true∧fl.whole=true∧fl.fz=0∧fl.lC=false then some (.slice (some (b,o)) len cap,H.set b (.cells cs el { fl with lC:=true })) else none
  | _,_=>none
 | _,_,_=>none
def AU (P:Program) (t:TypeId) (x:AV):Option AV :=
 match P.underlying t,x with
 | some .string,.str s=>some (.int .i64 s.length)
 | some (.array n _),_=>some (.int .i64 n)
 | some (.pointer a),_=>match P.underlying a with
  | some (.array n _)=>some (.int .i64 n)
  | _=>none
 | some (.slice _),.slice _ n _=>some (.int .i64 n)
 | _,_=>none
def JD (P:Program) (H:AH) (t:TypeId) (x:AV):Option AV :=
 match P.underlying t,x with
 | some (.slice _),.slice none _ c=>some (.int .i64 c)
 | some (.slice _),.slice (some (b,_)) _ c=>match H.get b with
  | some (.cells _ _ fl)=>if fl.fD then none else some (.int .i64 c)
  | _=>none
 | _,_=>none
def nY (H:AH) (s:Nat):AV→Option (Nat×List AV)
 | .str x=>if s=1 then some (x.length,aC x) else none
 | .slice none n _=>if n=0 then some (0,[]) else none
 | .slice (some (b,o)) n _=>(H.read b o (n*s)).map fun cs=>(n,cs)
 | _=>none
def bV (P:Program) (H:AH) (st xt:TypeId) (x y:AV):Option (AV×AH) :=
 match P.underlying st,P.underlying xt,x with
 | some (.slice e),some xd,.slice a len cap =>
  if (xd matches .int _) then none else
  match bY P e,ve P e with
  | some s,some nA=>(nY H s y).bind fun (n,new) =>
   let vG:=len+n
   if vG≤cap then
    match a with
    | none=>if new.isEmpty then some (.slice a vG cap,H) else none
    | some (b,o)=>(H.write b (o+len*s) new).map fun H'=>(.slice a vG cap,H')
   else if nA=0∨(2*vG+1000)*nA > 2 ^ 48∨new.all AV.one=false∨(zeroOf P e).map (fun z=>z.cells.length) ≠ some s then none else
    match a with
    | none=>if len=0 then some (.slice (some (H.n,0)) vG vG,H.alloc (.cells new e { fD:=true })) else none
    | some (b,o) =>
     match H.get b with
     | some (.cells cs e' fl) =>
      if o+len*s≤cs.length∧o+cap*s≤cs.length∧(fl.fD=true→e'=e) then
       if fl.fD=true∧o+cap*s=cs.length then
        if fl.own=true∧fl.fz≤o+len*s then
         some (.slice (some (H.n,0)) vG vG,(H.set b .dead).alloc (.cells ((cs.drop o).take (len*s) ++ new) e { fD:=true,fz:=fl.fz - o,lC:=fl.lC }))
        else none
       else some (.slice (some (H.n,0)) vG vG,H.alloc (.cells ((cs.drop o).take (len*s) ++ new) e { fD:=true }))
      else none
     | _=>none
  | _,_=>none
 | _,_,_=>none
def copyV (P:Program) (H:AH) (dt:TypeId) (x y:AV):Option (AV×AH) :=
 match P.underlying dt,x with
 | some (.slice e),.slice a vQ _ =>
  match bY P e with
  | some s=>(nY H s y).bind fun (m,new) =>
   let n:=min m vQ
   match a with
   | none=>if n=0 then some (.int .i64 0,H) else none
   | some (b,o)=>(H.write b o (new.take (n*s))).map fun H'=>(.int .i64 n,H')
  | none=>none
 | _,_=>none
def cP (P:Program) (H:AH) (t:TypeId) (l c:AV):Option (AV×AH) :=
 match P.underlying t,l,c with
 | some (.slice e),.int .i64 l,.int .i64 c =>
  match bY P e,ve P e,zeroOf P e with
  | some s,some nA,some z =>
   if 0≤l∧l≤c∧nA*c≤2 ^ 48∧c<2 ^ 62∧z.cells.length=s∧0<s∧z.cells.all AV.one=true then
    some (.slice (some (H.n,0)) l.toNat c.toNat,H.alloc (.cells (cJ z.cells c.toNat) e {}))
   else none
  | _,_,_=>none
 | _,_,_=>none
def j7 (P:Program) (H:AH) (t:TypeId):AV→Option AV
 | .ptr (some (b,o)) =>
  match Gx P t with
  | some true=>(bY P t).bind fun s=>(H.read b o s).map .agg
  | some false=>H.ak b o
  | none=>none
 | _=>none
def tE (P:Program) (H:AH) (t:TypeId) (a v:AV):Option AH :=
 match a with
 | .ptr (some (b,o))=>if some v.cells.length=bY P t then H.write b o v.cells else none
 | _=>none
def iV (P:Program) (s:TypeId) (x:AV) (field:Nat):Option AV :=
 match P.underlying s,x with
 | some (.struct fs),.ptr (some (b,o)) =>
  match fs[field]? with
  | some f=>match bY P f.type with
   | some 0=>none
   | some _=>some (.ptr (some (b,o+f.offset)))
   | none=>none
  | none=>none
 | _,_=>none
def uR (P:Program) (t:TypeId) (x:AV) (field:Nat):Option AV :=
 match P.underlying t,x with
 | some (.struct fs),.agg cs =>
  match fs[field]? with
  | some f=>lq P f.type cs f.offset
  | none=>none
 | _,_=>none
def fh (P:Program) (t:TypeId) (x ix:AV):Option AV :=
 match P.underlying t,x,ix with
 | some (.slice e),.slice (some (b,o)) len _,.int _ i=>match bY P e with
  | some s=>if 0≤i∧i<len then some (.ptr (some (b,o+i.toNat*s))) else none
  | none=>none
 | some (.array len e),.ptr (some (b,o)),.int _ i=>match bY P e with
  | some s=>if 0≤i∧i<len then some (.ptr (some (b,o+i.toNat*s))) else none
  | none=>none
 | _,_,_=>none
def mq (P:Program) (t:TypeId) (x ix:AV):Option AV :=
 match P.underlying t,x,ix with
 | some (.array len e),.agg cs,.int _ i=>match bY P e with
  | some s=>if 0≤i∧i<len then lq P e cs (i.toNat*s) else none
  | none=>none
 | some .string,.str s,.int _ i=>if 0≤i then (s[i.toNat]?).map fun b=>.int .u8 b.toNat else none
 | _,_,_=>none
def vg (P:Program) (t:TypeId) (parts:List (Nat×AV)):Option AV :=
 match P.underlying t,zeroOf P t with
 | some (.struct fs),some z=>(mB (fun i=>(fs[i]?).bind fun f=>(bY P f.type).map fun s=>(f.offset,s)) z.cells parts).bind fun cs =>
  if fs.all (fun f=>(bY P f.type).isSome) then some (.agg cs) else none
 | some (.array _ e),some z=>match bY P e with
  | some s=>(mB (fun i=>some (i*s,s)) z.cells parts).map .agg
  | none=>none
 | _,_=>none
def gS (P:Program) (H:AH) (t:TypeId) (len:Nat) (parts:List (Nat×AV)):Option (AV×AH) :=
 match P.underlying t with
 | some (.slice e) =>
  match bY P e,zeroOf P e with
  | some s,some z =>
   if len*s≤2 ^ 24∧z.cells.length=s∧0<s∧z.cells.all AV.one=true∧parts.all (fun p=>p.2.cells.all AV.one)=true then
    (mB (fun i=>some (i*s,s)) (cJ z.cells len) parts).map fun cs=>(.slice (some (H.n,0)) len len,H.alloc (.cells cs e { whole:=true }))
   else none
  | _,_=>none
 | _=>none
def jg (P:Program) (asserted:TypeId) (ok:Bool):AV→Option AV
 | .nilIface =>
  match P.underlying asserted,ok,zeroOf P asserted with
  | some _,true,some z=>some (.tuple [z,.bool false])
  | _,_,_=>none
 | .iface t v =>
  match P.underlying asserted with
  | some (.interface _)=>none
  | some _=>if t=asserted then some (if ok then .tuple [v,.bool true] else v)
   else if ok then (zeroOf P asserted).map fun z=>.tuple [z,.bool false] else none
  | none=>none
 | _=>none
def nL:List (List UInt8×AV)→List UInt8→Option AV
 | [],_=>none
 | (k,v) :: es,s=>if s == k then some v else nL es s
def ob:List (List UInt8×AV)→List UInt8→AV→List (List UInt8×AV)
 | [],s,x=>[(s,x)]
 | (k,v) :: es,s,x=>if s == k then (k,x) :: es else (k,v) :: ob es s x
def ta (P:Program) (H:AH) (t:TypeId) (ok:Bool) (m i:AV):Option AV :=
 match P.underlying t,i with
 | some (.map kt e),.str s =>
  match P.underlying kt,zeroOf P e with
  | some .string,some z =>
   match m with
   | .map none=>some (if ok then .tuple [z,.bool false] else z)
   | .map (some b) =>
    match H.get b with
    | some (.map es _) =>
     match nL es s with
     | some v=>some (if ok then .tuple [v,.bool true] else v)
     | none=>some (if ok then .tuple [z,.bool false] else z)
    | _=>none
   | _=>none
  | _,_=>none
 | _,_=>none
def sY (P:Program) (H:AH) (t:TypeId) (m i x:AV):Option AH :=
 match P.underlying t,m,i with
 | some (.map kt _),.map (some b),.str s =>
  match P.underlying kt,H.get b with
  | some .string,some (.map es c)=>some (H.set b (.map (ob es s x) (if (nL es s).isSome then c else c+1)))
  | _,_=>none
 | _,_,_=>none
def au (lt:Int→Int→Bool):AV→List AV→Option AV
 | .int k x,[]=>some (.int k x)
 | .int k x,.int _ y :: l=>au lt (.int k (if lt y x then y else x)) l
 | _,_=>none
def eN (P:Program) (H:AH) (pt:TypeId) (p n:AV):Option (AV×AH) :=
 match p,n with
 | .ptr none,.int _ 0=>some (.str [],H)
 | .ptr (some (b,o)),.int _ n =>
  if n=0 then some (.str [],H) else
  if n<0∨n > IntKind.i64.max then none else
  match P.underlying pt,H.get b with
  | some (.pointer e),some (.cells cs e' fl) =>
   if e=e'∧bY P e=some 1∧fl.own=true∧fl.lC=false∧o+n.toNat≤cs.length then
    (cz ((cs.drop o).take n.toNat)).map fun s=>(.str s,H.set b (.cells cs e' { fl with fz:=max fl.fz (o+n.toNat) }))
   else none
  | _,_=>none
 | _,_=>none
def iX (P:Program) (H:AH) (b:Builtin) (ts:List TypeId) (xs:List AV):Option (AV×AH) :=
 match b,ts,xs with
 | .len,t :: _,x :: _=>(AU P t x).map (·,H)
 | .cap,t :: _,x :: _=>(JD P H t x).map (·,H)
 | .append,t :: u :: _,x :: y :: _=>bV P H t u x y
 | .copy,t :: _,x :: y :: _=>copyV P H t x y
 | .min,_,x :: l=>(au (fun y x=>decide (y<x)) x l).map (·,H)
 | .max,_,x :: l=>(au (fun y x=>decide (y > x)) x l).map (·,H)
 | .unsafeSliceData,_,[.slice none _ _]=>some (.ptr none,H)
 | .unsafeSliceData,_,[.slice (some a) _ c]=>if c=0 then none else some (.ptr (some a),H)
 | .unsafeString,t :: _,[p,n]=>eN P H t p n
 | _,_,_=>none
def N5 (P:Program) (t:TypeId):Option Bool :=
 match P.underlying t with
 | some (.pointer _)=>some true
 | some _=>some false
 | none=>none
def l7 (P:Program) (t:TypeId) (name:String):Option FuncId :=
 (P.info? t).bind fun i=>(i.methods.find? (·.name == name)).bind fun m=>match m.path.toList,m.func with
  | [],some (g,p)=>if N5 P t=some p then some g else none
  | _,_=>none
def vh (P:Program) (f:Fn) (x:List AV):Option (FuncId×AV) :=
 match f,x with
 | .method name,[.iface t u]=>(l7 P t name).map fun g=>(g,u)
 | _,_=>none
theorem r5 {P:Program} {f:Fn} {x:List AV} {q:FuncId×AV} (h:vh P f x=some q) : ∃name t,f=.method name∧x=[.iface t q.2]∧l7 P t name=some q.1:=by
 unfold vh at h
 split at h
 ·obtain ⟨g,hg,rfl⟩:=Option.map_eq_some_iff.1 h
  exact ⟨_,_,rfl,rfl,hg⟩
 ·cases h
def wI (P:Program):AV→Bool
 | .ptr (some _)=>true
 | .func (.func _) _ _=>true
 | .func f x _=>(vh P f x).isSome
 | .cY _=>true
 | _=>false
def p9 (P:Program) (T:List AV) (H:AH) (o:Oper):Option (AV×AH) :=
 match o.op with
 | .move x=>(ev P T x).map (·,H)
 | .assign x=>(ev P T x).map (·,H)
 | .pick c a b=>(ev P T c).bind fun c=>match c with
  | .bool true=>(ev P T a).map (·,H)
  | .bool false=>(ev P T b).map (·,H)
  | _=>none
 | .alloc e=>(zeroOf P e).bind fun z=>if z.cells.all AV.one then some (.ptr (some (H.n,0)),H.alloc (.cells z.cells e { whole:=true })) else none
 | .box e x=>(ev P T x).bind fun v=>if v.cells.all AV.one then some (.ptr (some (H.n,0)),H.alloc (.cells v.cells e { whole:=true })) else none
 | .build t ps=>(En P T ps.toList).bind fun l=>(vg P t l).map (·,H)
 | .buildSlice t n ps=>(En P T ps.toList).bind fun l=>gS P H t n l
 | .load t a=>(ev P T a).bind fun a=>(j7 P H t a).map (·,H)
 | .store t a v=>(ev P T a).bind fun a=>(ev P T v).bind fun v=>(tE P H t a v).map (AV.undef,·)
 | .nilCheck x=>(ev P T x).bind fun v=>if wI P v then some (v,H) else none
 | .binOp op t x y _=>(ev P T x).bind fun a=>(ev P T y).bind fun b=>(sJ P op t x y a b).map (·,H)
 | .unOp op _ x=>(ev P T x).bind fun a=>(P7 op a).map (·,H)
 | .convert s d x=>(ev P T x).bind fun a=>gR P H s d a
 | .makeInterface t x=>(ev P T x).bind fun a=>match P.underlying t with
  | some (.interface _)=>none
  | some _=>some (.iface t a,H)
  | none=>none
 | .makeFunc f xs ys=>(qd P T xs.toList).bind fun a=>(qd P T ys.toList).bind fun b=>some (.func f a b,H)
 | .makeSlice t l c=>(ev P T l).bind fun l=>(ev P T c).bind fun c=>cP P H t l c
 | .slice t x lo hi mx=>(ev P T x).bind fun a=>(Kc P T lo).bind fun lo=>(Kc P T hi).bind fun hi=>(Kc P T mx).bind fun mx=>(bZ P H t a lo hi mx).map (·,H)
 | .fieldAddr t x f=>(ev P T x).bind fun a=>(iV P t a f).map (·,H)
 | .field t x f=>(ev P T x).bind fun a=>(uR P t a f).map (·,H)
 | .indexAddr t x i=>(ev P T x).bind fun a=>(ev P T i).bind fun i=>(fh P t a i).map (·,H)
 | .index t x i=>(ev P T x).bind fun a=>(ev P T i).bind fun i=>(mq P t a i).map (·,H)
 | .range t x=>(ev P T x).bind fun a=>match P.underlying t,a with
  | some .string,.str s=>some (.ptr (some (H.n,0)),H.alloc (.iter s 0))
  | _,_=>none
 | .next x true=>(ev P T x).bind fun a=>match a with
  | .ptr (some (b,0))=>match H.get b with
   | some (.iter s pos) =>
    if pos<s.length then some (.tuple [.bool true,.int .i64 pos,.int .i32 (ah s pos).1],H.set b (.iter s (pos+(ah s pos).2)))
    else some (.tuple [.bool false],H)
   | _=>none
  | _=>none
 | .typeAssert x _ t ok=>(ev P T x).bind fun a=>(jg P t ok a).map (·,H)
 | .extract x i=>(ev P T x).bind fun a=>match a with
  | .tuple vs=>(vs[i]?).map (·,H)
  | _=>none
 | .makeMap _ none=>some (.map (some H.n),H.alloc (.map [] 0))
 | .lookup t x i ok=>(ev P T x).bind fun a=>(ev P T i).bind fun i=>(ta P H t ok a i).map (·,H)
 | .mapUpdate t m k x=>(ev P T m).bind fun m=>(ev P T k).bind fun k=>(ev P T x).bind fun x=>(sY P H t m k x).map (AV.undef,·)
 | .call ⟨.builtin b,args,ts⟩=>(qd P T args.toList).bind fun l=>iX P H b ts.toList l
 | _=>none
end Go.Am
end
/- The abstract machine's relation to the model's worlds. -/
section
namespace Go.Am
open Go.RowKit
structure Loc where
 bH:Nat
 off:Nat
 size:Nat
 Ns:Nat
 extra:Nat
abbrev Env:=Nat→Option Loc
def Env.le (E E' : Env):Prop:=∀b L,E b=some L→E' b=some L
theorem Env.le.refl (E:Env):E.le E:=fun _ _ h=>h
theorem Env.le.trans {E E' BW:Env} (h:E.le E') (k:E'.le BW):E.le BW:=fun b L x=>k b L (h b L x)
mutual
def VR (E:Env):AV→Value→Prop
 | .bool b,v=>v=.bool b
 | .int k n,v=>v=.int k n
 | .str s,v=>v=.string ⟨s.toArray⟩
 | .ptr none,v=>v=.pointer none
 | .ptr (some (b,o)),v=>∃L,E b=some L∧v=.pointer (some ⟨L.bH,L.off+o,none⟩)
 | .slice none l c,v=>v=.slice none l c∧l≤c
 | .slice (some (b,o)) l c,v=>∃L a' c',E b=some L∧v=.slice (some a') l c'∧l≤c∧(c'=c∨(o+c*L.Ns=L.size∧c'=c+L.extra)) ∧
   a'.spot=none∧(a'=⟨L.bH,L.off+o,none⟩∨c'=0)
 | .func f x y,v=>∃x' y',v=.func f x' y'∧aJ E x x'.toList∧aJ E y y'.toList
 | .nilFunc,v=>v=.nilFunc
 | .cY b,v=>∃L,E b=some L∧v=.func (.yield L.bH) #[] #[]
 | .iface t x,v=>∃y,v=.iface t y∧VR E x y
 | .nilIface,v=>v=.nilIface
 | .agg cs,v=>∃vS,v=.agg vS∧aJ E cs vS.toList
 | .tuple cs,v=>∃vS,v=.tuple vS∧aJ E cs vS.toList
 | .map none,v=>v=.map none
 | .map (some b),v=>∃L,E b=some L∧v=.map (some L.bH)
 | .half lo b,v=>∃m,v=.int .i64 m∧decide (lo≤m)=b
 | .rm,v=>∃m,v=.int .u8 m
 | .any,_=>True
def aJ (E:Env):List AV→List Value→Prop
 | [],l=>l=[]
 | x :: xs,l=>∃y ys,l=y :: ys∧VR E x y∧aJ E xs ys
end
mutual
theorem VR.mono {E E' : Env} (h:E.le E') : ∀(a:AV) (v:Value),VR E a v→VR E' a v
 | .bool _,_,hv=>hv
 | .int _ _,_,hv=>hv
 | .str _,_,hv=>hv
 | .ptr none,_,hv=>hv
 | .ptr (some (b,o)),_,hv=>by obtain ⟨L,h1,h2⟩:=hv;exact ⟨L,h _ _ h1,h2⟩
 | .slice none _ _,_,hv=>hv
 | .slice (some (b,o)) l c,_,hv=>by obtain ⟨L,a',c',h1,h2⟩:=hv;exact ⟨L,a',c',h _ _ h1,h2⟩
 | .func f x y,_,hv=>by obtain ⟨x',y',h1,h2,h3⟩:=hv;exact ⟨x',y',h1,aJ.mono h _ _ h2,aJ.mono h _ _ h3⟩
 | .nilFunc,_,hv=>hv
 | .cY _,_,hv=>by obtain ⟨L,h1,h2⟩:=hv;exact ⟨L,h _ _ h1,h2⟩
 | .iface t x,_,hv=>by obtain ⟨y,h1,h2⟩:=hv;exact ⟨y,h1,VR.mono h _ _ h2⟩
 | .nilIface,_,hv=>hv
 | .agg cs,_,hv=>by obtain ⟨y,h1,h2⟩:=hv;exact ⟨y,h1,aJ.mono h _ _ h2⟩
 | .tuple cs,_,hv=>by obtain ⟨y,h1,h2⟩:=hv;exact ⟨y,h1,aJ.mono h _ _ h2⟩
 | .map none,_,hv=>hv
 | .map (some _),_,hv=>by obtain ⟨L,h1,h2⟩:=hv;exact ⟨L,h _ _ h1,h2⟩
 | .half _ _,_,hv=>hv
 | .rm,_,hv=>hv
 | .any,_,hv=>hv
theorem aJ.mono {E E' : Env} (h:E.le E') : ∀(a:List AV) (v:List Value),aJ E a v→aJ E' a v
 | [],_,hv=>hv
 | x :: xs,_,hv=>by obtain ⟨y,ys,h1,h2,h3⟩:=hv;exact ⟨y,ys,h1,VR.mono h _ _ h2,aJ.mono h _ _ h3⟩
end
mutual
theorem VR.of {E:Env} : ∀(v:Value) (a:AV),mW v=some a→VR E a v
 | .bool _,a,h=>by simp only [mW,Option.some.injEq] at h;subst h;rfl
 | .int _ _,a,h=>by simp only [mW,Option.some.injEq] at h;subst h;rfl
 | .string s,a,h=>by simp only [mW,Option.some.injEq] at h;subst h;show _=_;rfl
 | .pointer none,a,h=>by simp only [mW,Option.some.injEq] at h;subst h;rfl
 | .pointer (some _),a,h=>by simp [mW] at h
 | .slice none l c,a,h=>by
  simp only [mW] at h
  split at h
  ·rename_i hl;simp only [Option.some.injEq] at h;subst h;exact ⟨rfl,hl⟩
  ·cases h
 | .slice (some _) _ _,a,h=>by simp [mW] at h
 | .func f x y,a,h=>by
  simp only [mW] at h
  obtain ⟨x',hx,h⟩:=Option.bind_eq_some_iff.1 h
  obtain ⟨y',hy,h⟩:=Option.map_eq_some_iff.1 h
  subst h
  exact ⟨x,y,rfl,aJ.S4 x _ hx,aJ.S4 y _ hy⟩
 | .nilFunc,a,h=>by simp only [mW,Option.some.injEq] at h;subst h;rfl
 | .iface t v,a,h=>by
  simp only [mW] at h
  obtain ⟨x,hx,h⟩:=Option.map_eq_some_iff.1 h
  subst h
  exact ⟨v,rfl,VR.of v x hx⟩
 | .nilIface,a,h=>by simp only [mW,Option.some.injEq] at h;subst h;rfl
 | .agg cs,a,h=>by
  simp only [mW] at h
  obtain ⟨x,hx,h⟩:=Option.map_eq_some_iff.1 h
  subst h
  exact ⟨cs,rfl,aJ.S4 cs x hx⟩
 | .tuple cs,a,h=>by
  simp only [mW] at h
  obtain ⟨x,hx,h⟩:=Option.map_eq_some_iff.1 h
  subst h
  exact ⟨cs,rfl,aJ.S4 cs x hx⟩
 | .map none,a,h=>by simp only [mW,Option.some.injEq] at h;subst h;rfl
 | .map (some _),a,h=>by simp [mW] at h
 | .float _ _,a,h=>by simp [mW] at h
 | .complex _ _ _,a,h=>by simp [mW] at h
 | .chan _,a,h=>by simp [mW] at h
theorem aJ.S4 {E:Env} : ∀(v:Array Value) (a:List AV),FA v=some a→aJ E a v.toList
 | ⟨l⟩,a,h=>by simp only [FA] at h;exact aJ.of l a h
theorem aJ.of {E:Env} : ∀(v:List Value) (a:List AV),Iq v=some a→aJ E a v
 | [],a,h=>by simp only [Iq,Option.some.injEq] at h;subst h;rfl
 | v :: l,a,h=>by
  simp only [Iq] at h
  obtain ⟨x,hx,h⟩:=Option.bind_eq_some_iff.1 h
  obtain ⟨xs,sD,h⟩:=Option.map_eq_some_iff.1 h
  subst h
  exact ⟨v,l,rfl,VR.of v x hx,aJ.of l xs sD⟩
end
section lists
variable {E:Env}
theorem aJ.nil:aJ E [] []:=rfl
theorem aJ.cons {x:AV} {y:Value} {xs:List AV} {ys:List Value} (h:VR E x y) (k:aJ E xs ys):aJ E (x :: xs) (y :: ys):=⟨y,ys,rfl,h,k⟩
theorem aJ.length : ∀ {xs:List AV} {ys:List Value},aJ E xs ys→xs.length=ys.length
 | [],_,h=>by cases h;rfl
 | _ :: xs,_,h=>by obtain ⟨y,ys,rfl,_,k⟩:=h;simp [aJ.length k]
theorem aJ.get : ∀ {xs:List AV} {ys:List Value} {i:Nat} {x:AV},aJ E xs ys→xs[i]? = some x→∃y,ys[i]? = some y∧VR E x y
 | [],_,_,_,_,h=>by simp at h
 | _ :: xs,_,i,x,h,hx=>by
  obtain ⟨y,ys,rfl,h1,k⟩:=h
  cases i with
  | zero=>simp at hx;subst hx;exact ⟨y,rfl,h1⟩
  | succ i=>simp at hx;simpa using aJ.get k hx
theorem aJ.append : ∀ {xs:List AV} {ys:List Value} {us:List AV} {vs:List Value},aJ E xs ys→aJ E us vs→aJ E (xs ++ us) (ys ++ vs)
 | [],_,_,_,h,k=>by cases h;exact k
 | _ :: xs,_,_,_,h,k=>by obtain ⟨y,ys,rfl,h1,h2⟩:=h;exact ⟨y,_,rfl,h1,aJ.append h2 k⟩
theorem aJ.take : ∀ {xs:List AV} {ys:List Value} (n:Nat),aJ E xs ys→aJ E (xs.take n) (ys.take n)
 | [],_,n,h=>by cases h;simp;exact aJ.nil
 | _ :: xs,_,n,h=>by
  obtain ⟨y,ys,rfl,h1,h2⟩:=h
  cases n with
  | zero=>exact aJ.nil
  | succ n=>exact ⟨y,_,rfl,h1,aJ.take n h2⟩
theorem aJ.drop : ∀ {xs:List AV} {ys:List Value} (n:Nat),aJ E xs ys→aJ E (xs.drop n) (ys.drop n)
 | [],_,n,h=>by cases h;simp;exact aJ.nil
 | _ :: xs,_,n,h=>by
  obtain ⟨y,ys,rfl,h1,h2⟩:=h
  cases n with
  | zero=>exact ⟨y,ys,rfl,h1,h2⟩
  | succ n=>exact aJ.drop n h2
theorem aJ.set : ∀ {xs:List AV} {ys:List Value} {x:AV} {y:Value} (n:Nat),aJ E xs ys→VR E x y→aJ E (xs.set n x) (ys.set n y)
 | [],_,_,_,n,h,_=>by cases h;exact aJ.nil
 | _ :: xs,_,_,_,n,h,k=>by
  obtain ⟨y,ys,rfl,h1,h2⟩:=h
  cases n with
  | zero=>exact ⟨_,ys,rfl,k,h2⟩
  | succ n=>exact ⟨y,_,rfl,h1,aJ.set n h2 k⟩
theorem aJ.replicate {x:AV} {y:Value} (h:VR E x y) : ∀n,aJ E (List.replicate n x) (List.replicate n y)
 | 0=>aJ.nil
 | n+1=>⟨y,_,rfl,h,aJ.replicate h n⟩
theorem aJ.Ip : ∀ {xs:List AV} {ys:List Value},xs.length=ys.length→(∀(i:Nat) (x:AV) (y:Value),xs[i]? = some x→ys[i]? = some y→VR E x y)→aJ E xs ys
 | [],ys,hl,_=>by cases ys <;> simp_all [aJ]
 | x :: xs,[],hl,_=>by simp at hl
 | x :: xs,y :: ys,hl,h=>⟨y,ys,rfl,h 0 x y rfl rfl,aJ.Ip (by simpa using hl) (fun i a b ha hb=>h (i+1) a b (by simpa using ha) (by simpa using hb))⟩
theorem aJ.bytes (s:List UInt8):aJ E (aC s) (s.map fun b=>.int .u8 b.toNat):=by
 induction s with
 | nil=>rfl
 | cons b s ih=>exact ⟨_,_,rfl,rfl,ih⟩
theorem VR.cells {v:AV} {x:Value} (h:VR E v x) (hn:v.isAny=false):aJ E v.cells x.cells.toList:=by
 match v,x,h with
 | .agg cs,_,h=>obtain ⟨vS,rfl,h⟩:=h;exact h
 | .any,x,h=>cases hn
 | .ptr none,_,h=>obtain rfl:=h;exact ⟨_,_,rfl,rfl,rfl⟩
 | .ptr (some (b,o)),_,h=>obtain ⟨L,h1,rfl⟩:=h;exact ⟨_,_,rfl,⟨L,h1,rfl⟩,rfl⟩
 | .slice none l c,_,h=>obtain ⟨rfl,hl⟩:=h;exact ⟨_,_,rfl,⟨rfl,hl⟩,rfl⟩
 | .slice (some (b,o)) l c,_,h=>obtain ⟨L,a',c',h1,rfl,h2⟩:=h;exact ⟨_,_,rfl,⟨L,a',c',h1,rfl,h2⟩,rfl⟩
 | .func f a b,_,h=>obtain ⟨x',y',rfl,h⟩:=h;exact ⟨_,_,rfl,⟨x',y',rfl,h⟩,rfl⟩
 | .iface t a,_,h=>obtain ⟨y,rfl,h⟩:=h;exact ⟨_,_,rfl,⟨y,rfl,h⟩,rfl⟩
 | .tuple cs,_,h=>obtain ⟨y,rfl,h⟩:=h;exact ⟨_,_,rfl,⟨y,rfl,h⟩,rfl⟩
 | .bool _,_,h=>obtain rfl:=h;exact ⟨_,_,rfl,rfl,rfl⟩
 | .int _ _,_,h=>obtain rfl:=h;exact ⟨_,_,rfl,rfl,rfl⟩
 | .str _,_,h=>obtain rfl:=h;exact ⟨_,_,rfl,rfl,rfl⟩
 | .nilFunc,_,h=>obtain rfl:=h;exact ⟨_,_,rfl,rfl,rfl⟩
 | .cY _,_,h=>obtain ⟨L,h1,rfl⟩:=h;exact ⟨_,_,rfl,⟨L,h1,rfl⟩,rfl⟩
 | .nilIface,_,h=>obtain rfl:=h;exact ⟨_,_,rfl,rfl,rfl⟩
 | .map none,_,h=>obtain rfl:=h;exact ⟨_,_,rfl,rfl,rfl⟩
 | .map (some _),_,h=>obtain ⟨L,h1,rfl⟩:=h;exact ⟨_,_,rfl,⟨L,h1,rfl⟩,rfl⟩
 | .half _ _,_,h=>obtain ⟨m,rfl,h1⟩:=h;exact ⟨_,_,rfl,⟨m,rfl,h1⟩,rfl⟩
 | .rm,_,h=>obtain ⟨m,rfl⟩:=h;exact ⟨_,_,rfl,⟨m,rfl⟩,rfl⟩
theorem VR.one {v:AV} {x:Value} (h:VR E v x) (h1:v.one=true):x.oneCell'=true:=by
 match v,x,h with
 | .agg cs,_,h=>cases h1
 | .any,x,h=>cases h1
 | .ptr none,_,h=>obtain rfl:=h;rfl
 | .ptr (some (b,o)),_,h=>obtain ⟨L,h1,rfl⟩:=h;rfl
 | .slice none l c,_,h=>obtain ⟨rfl,hl⟩:=h;rfl
 | .slice (some (b,o)) l c,_,h=>obtain ⟨L,a',c',h1,rfl,h2⟩:=h;rfl
 | .func f a b,_,h=>obtain ⟨x',y',rfl,h⟩:=h;rfl
 | .iface t a,_,h=>obtain ⟨y,rfl,h⟩:=h;rfl
 | .tuple cs,_,h=>cases h1
 | .bool _,_,h=>obtain rfl:=h;rfl
 | .int _ _,_,h=>obtain rfl:=h;rfl
 | .str _,_,h=>obtain rfl:=h;rfl
 | .nilFunc,_,h=>obtain rfl:=h;rfl
 | .cY _,_,h=>obtain ⟨L,h1,rfl⟩:=h;rfl
 | .nilIface,_,h=>obtain rfl:=h;rfl
 | .map none,_,h=>obtain rfl:=h;rfl
 | .map (some _),_,h=>obtain ⟨L,h1,rfl⟩:=h;rfl
 | .half _ _,_,h=>obtain ⟨m,rfl,h1⟩:=h;rfl
 | .rm,_,h=>obtain ⟨m,rfl⟩:=h;rfl
theorem AV.l6 {v:AV} (h:v.cells.all AV.one=true):v.isAny=false:=by cases v <;> first | rfl | (simp [AV.cells,AV.one] at h)
theorem CL {v:Value} {a:AV} (h:mW v=some a):a.isAny=false:=by
 cases a with
 | any =>
  exfalso
  match v with
  | .bool _ | .int _ _ | .string _ | .pointer none | .nilFunc | .nilIface | .map none=>simp [mW] at h
  | .pointer (some _) | .slice (some _) _ _ | .float _ _ | .complex _ _ _ | .map (some _) | .chan _=>simp [mW] at h
  | .slice none l c=>simp only [mW] at h;split at h <;> simp at h
  | .func f x y=>simp only [mW] at h;obtain ⟨_,_,h⟩:=Option.bind_eq_some_iff.1 h;obtain ⟨_,_,h⟩:=Option.map_eq_some_iff.1 h;cases h
  | .iface t v=>simp only [mW] at h;obtain ⟨_,_,h⟩:=Option.map_eq_some_iff.1 h;cases h
  | .agg cs=>simp only [mW] at h;obtain ⟨_,_,h⟩:=Option.map_eq_some_iff.1 h;cases h
  | .tuple cs=>simp only [mW] at h;obtain ⟨_,_,h⟩:=Option.map_eq_some_iff.1 h;cases h
 | _=>rfl
theorem cO {P:Program} {e:TypeId} {z:AV} (h:zeroOf P e=some z):z.isAny=false:=by
 obtain ⟨i,_,h⟩:=Option.bind_eq_some_iff.1 h
 obtain ⟨x,_,h⟩:=Option.bind_eq_some_iff.1 h
 exact CL h
theorem aJ.N8 : ∀ {xs:List AV} {ys:List Value},aJ E xs ys→xs.all AV.one=true→∀y ∈ ys,y.oneCell'=true
 | [],_,h,_,y,hy=>by cases h;cases hy
 | x :: xs,_,h,ha,y,hy=>by
  obtain ⟨z,zs,rfl,h1,h2⟩:=h
  simp only [List.all_cons,Bool.and_eq_true] at ha
  rcases List.mem_cons.1 hy with rfl | hy
  ·exact h1.one ha.1
  ·exact aJ.N8 h2 ha.2 y hy
end lists
/-! ### Worlds -/
structure eZ where
 on:Nat→Prop
 D:List Deferred
instance:CoeFun eZ (fun _=>Nat→Prop):=⟨eZ.on⟩
def eZ.z (B:eZ):eZ:=⟨B.on,[]⟩
def eZ.up (n:Nat):eZ:=⟨fun k=>k<n,[]⟩
structure Below (B:eZ) (w w' : World):Prop where
 os:w'.os=w.os
 tape:w'.tape=w.tape
 output:w'.output=w.output
 size:w.heap.size≤w'.heap.size
 block : ∀k,B k→w'.heap[k]? = w.heap[k]?
theorem Below.refl (B:eZ) (w:World):Below B w w:=⟨rfl,rfl,rfl,Nat.le_refl _,fun _ _=>rfl⟩
theorem Below.trans {B:eZ} {a b c:World} (h:Below B a b) (k:Below B b c):Below B a c :=
 ⟨k.os.trans h.os,k.tape.trans h.tape,k.output.trans h.output,Nat.le_trans h.size k.size,fun i hi=>(k.block i hi).trans (h.block i hi)⟩
theorem Below.alloc {B:eZ} {a w:World} (h:Below B a w) (hB : ∀k,B k→k<w.heap.size) (o:Obj):Below B a (w.alloc o) :=
 h.trans ⟨rfl,rfl,rfl,by simp,fun k hk=>Go.RowKit.Below.heap_alloc _ _ _ (hB k hk)⟩
theorem Below.putObj {B:eZ} {a w:World} (h:Below B a w) {r:Nat} (hr : ¬ B r) (o:Obj):Below B a (w.putObj r o) :=
 h.trans ⟨rfl,rfl,rfl,by simp,fun k hk=>World.putObj_heap_other (fun e=>hr (e ▸ hk))⟩
theorem Below.heap_alloc (w:World) (o:Obj) (k:Nat) (h:k<w.heap.size):(w.alloc o).heap[k]? = w.heap[k]?:=Go.RowKit.Below.heap_alloc w o k h
def GB (E:Env):List (List UInt8×AV)→List MapEntry→Prop
 | [],l=>l=[]
 | (k,v) :: es,l=>∃e l',l=e :: l'∧e.key=.string ⟨k.toArray⟩∧VR E v e.val∧GB E es l'
theorem GB.mono {E E' : Env} (h:E.le E') : ∀ {es:List (List UInt8×AV)} {l:List MapEntry},GB E es l→GB E' es l
 | [],_,k=>k
 | (_,_) :: _,_,k=>by obtain ⟨e,l',h1,h2,h3,h4⟩:=k;exact ⟨e,l',h1,h2,VR.mono h _ _ h3,GB.mono h h4⟩
def OR (P:Program) (E:Env) (B:eZ) (w:World) (L:Loc):aY→Prop
 | .cells cs e fl=>∃(X:Array Value) (lo hi:Nat),w.heap[L.bH]? = some (.cells X e (lo,hi))∧L.size=cs.length∧P.cellsOf e=L.Ns ∧
   L.off+(cs.length+L.extra*L.Ns)≤X.size∧aJ E cs ((X.toList.drop L.off).take cs.length) ∧
   (fl.own=true→¬ B L.bH∧(∀k,L.off+fl.fz≤k→k<X.size→¬ (lo≤k∧k<hi))∧(fl.lC=false→lo=hi∨hi≤L.off+fl.fz))∧(fl.fD=false→L.extra=0) ∧
   (∀v ∈ cs,v.one=true)∧(fl.whole=true→L.off=0∧X.size=cs.length∧(fl.fz=0→fl.lC=false→lo=hi))
 | .dead=>True
 | .iter s pos=>w.heap[L.bH]? = some (.stringIter ⟨s.toArray⟩ pos)∧¬ B L.bH∧L.off=0
 | .loop st pe T ps as bd d=>∃(fn:FuncId) (tmps:Array Value) (Ld:Loc),w.heap[L.bH]? = some (.loop { state:=st,pending:=pe,fn,tmps,params:=ps,assign:=as,body:=bd,defers:=Ld.bH }) ∧
   aJ E T tmps.toList∧E d=some Ld∧¬ B L.bH
 | .deferred=>w.heap[L.bH]? = some (.deferred (some []))∧¬ B L.bH
 | .map es c=>∃BR:Array MapEntry,w.heap[L.bH]? = some (.map BR c)∧GB E es BR.toList∧¬ B L.bH
structure HR (P:Program) (E:Env) (B:eZ) (H:AH) (w:World):Prop where
 zj : ∀b L,E b=some L→b<H.n
 obj : ∀b o,H.get b=some o→∃L,E b=some L∧OR P E B w L o
 base : ∀k,B k→k<w.heap.size
 ke : ∀g,g<P.globals.size→∃L,E g=some L∧L.bH=g∧L.off=0
 sep : ∀b b' o o' L L',b ≠ b'→H.get b=some o→H.get b'=some o'→o.owns=true→o'.live=true→E b=some L→E b'=some L'→L.bH ≠ L'.bH
theorem HR.z {P:Program} {E:Env} {B:eZ} {H:AH} {w:World} (h:HR P E B H w) (D:List Deferred):HR P E ⟨B.on,D⟩ H w:=⟨h.zj,h.obj,h.base,h.ke,h.sep⟩
theorem HR.zI {P:Program} {E:Env} {B:eZ} {H:AH} {w:World} {D:List Deferred} (h:HR P E ⟨B.on,D⟩ H w):HR P E B H w:=⟨h.zj,h.obj,h.base,h.ke,h.sep⟩
theorem Below.zI {B:eZ} {w w' : World} {D:List Deferred} (h:Below ⟨B.on,D⟩ w w'):Below B w w':=⟨h.os,h.tape,h.output,h.size,h.block⟩
theorem HR.fresh {P:Program} {E:Env} {B:eZ} {H:AH} {w:World} (h:HR P E B H w) : ¬ B w.heap.size:=fun hb=>Nat.lt_irrefl _ (h.base _ hb)
theorem OR.same {P:Program} {E E' : Env} {B:eZ} {w w' : World} {L:Loc} {o:aY} (h:OR P E B w L o) (hE:E.le E') (hw:w'.heap[L.bH]? = w.heap[L.bH]?):OR P E' B w' L o:=by
 cases o with
 | cells cs e fl =>
  obtain ⟨X,lo,hi,h1,h2,h3,h4,h5,h6⟩:=h
  exact ⟨X,lo,hi,hw.trans h1,h2,h3,h4,aJ.mono hE _ _ h5,h6⟩
 | dead=>trivial
 | iter s pos=>exact ⟨hw.trans h.1,h.2⟩
 | loop st pe T ps as bd d =>
  obtain ⟨fn,tmps,Ld,h1,h2,h3,h4⟩:=h
  exact ⟨fn,tmps,Ld,hw.trans h1,aJ.mono hE _ _ h2,hE _ _ h3,h4⟩
 | deferred=>exact ⟨hw.trans h.1,h.2⟩
 | map es c=>obtain ⟨BR,h1,h2,h3⟩:=h;exact ⟨BR,hw.trans h1,GB.mono hE h2,h3⟩
end Go.Am
end
/- The abstract machine: reading, writing, making blocks, in the model's worlds. -/
section
namespace Go.Am
open Go.RowKit
def Env.put (E:Env) (b:Nat) (L:Loc):Env:=fun c=>if c=b then some L else E c
section
variable {P:Program} {E:Env} {B:eZ} {H:AH} {w:World}
theorem HR.none (h:HR P E B H w):E H.n=none:=by
 cases hE:E H.n with
 | none=>rfl
 | some L=>have:=h.zj _ _ hE;omega
theorem HR.eI (h:HR P E B H w) (L:Loc):E.le (E.put H.n L):=fun b M hb=>by
 unfold Env.put
 by_cases e:b=H.n
 ·subst e;rw [h.none] at hb;cases hb
 ·rw [if_neg e];exact hb
theorem HR.lt (h:HR P E B H w) {b:Nat} {o:aY} (hb:H.get b=some o):b<H.n:=by
 obtain ⟨L,hL,_⟩:=h.obj b o hb
 exact h.zj _ _ hL
theorem OR.oD {L:Loc} {o:aY} (h:OR P E B w L o) (hl:o.live=true):L.bH<w.heap.size:=by
 cases o with
 | cells cs e fl=>obtain ⟨X,lo,hi,h1,_⟩:=h;exact (Array.getElem?_eq_some_iff.1 h1).1
 | dead=>cases hl
 | iter s pos=>exact (Array.getElem?_eq_some_iff.1 h.1).1
 | loop st pe T ps as bd d=>obtain ⟨fn,tmps,Ld,h1,_⟩:=h;exact (Array.getElem?_eq_some_iff.1 h1).1
 | deferred=>exact (Array.getElem?_eq_some_iff.1 h.1).1
 | map es c=>obtain ⟨BR,h1,_⟩:=h;exact (Array.getElem?_eq_some_iff.1 h1).1
theorem HR.world (h:HR P E B H w) {w' : World} (hw:w'.heap=w.heap):HR P E B H w' :=
 ⟨h.zj,fun b o hb=>by obtain ⟨L,hL,ho⟩:=h.obj b o hb;exact ⟨L,hL,ho.same (Env.le.refl E) (by rw [hw])⟩,fun k hk=>by rw [hw];exact h.base k hk,h.ke,h.sep⟩
theorem HR.alloc (h:HR P E B H w) {o:aY} {o' : Obj} {L:Loc} (hL:L.bH=w.heap.size) (ho:OR P (E.put H.n L) B (w.alloc o') L o) :
  HR P (E.put H.n L) B (H.alloc o) (w.alloc o'):=by
 have hle:=h.eI L
 refine ⟨fun b M hb=>?_,fun b x hb=>?_,?_,fun g hg=>by obtain ⟨M,h1,h2⟩:=h.ke g hg;exact ⟨M,hle _ _ h1,h2⟩,fun b b' x x' M M' dm hx iU gZ mw hM gz=>?_⟩
 ·unfold Env.put at hb
  by_cases e:b=H.n
  ·subst e;simp
  ·rw [if_neg e] at hb;have:=h.zj _ _ hb;simp;omega
 ·rw [AH.aa] at hb
  by_cases e:b=H.n
  ·subst e
   rw [if_pos rfl] at hb;cases hb
   exact ⟨L,by simp [Env.put],ho⟩
  ·rw [if_neg e] at hb
   obtain ⟨M,hM,hx⟩:=h.obj b x hb
   refine ⟨M,hle _ _ hM,?_⟩
   by_cases hl:x.live=true
   ·exact hx.same hle (Below.heap_alloc _ _ _ (hx.oD hl))
   ·cases x <;> first | trivial | (exact absurd rfl hl)
 ·intro k hk;have:=h.base k hk;simp;omega
 ·rw [AH.aa] at hx iU
  unfold Env.put at hM gz
  by_cases e:b=H.n
  ·rw [if_pos e] at hx hM
   rw [if_neg (fun e'=>dm (e.trans e'.symm))] at iU gz
   cases hM
   obtain ⟨N,hN,UD⟩:=h.obj b' x' iU
   rw [hN] at gz;cases gz
   have:=UD.oD mw
   omega
  ·rw [if_neg e] at hx hM
   by_cases e' : b'=H.n
   ·rw [if_pos e'] at iU gz
    cases gz
    obtain ⟨N,hN,UD⟩:=h.obj b x hx
    rw [hN] at hM;cases hM
    have:=UD.oD (by cases x <;> simp_all [aY.owns,aY.live])
    omega
   ·rw [if_neg e'] at iU gz
    exact h.sep b b' x x' M M' dm hx iU gZ mw hM gz
theorem HR.vA (h:HR P E B H w) {b:Nat} {o o₂:aY} {L:Loc} {o' : Obj} (hb:H.get b=some o) (hL:E b=some L) (gZ:o.owns=true)
  (ho:OR P E B (w.putObj L.bH o') L o₂):HR P E B (H.set b o₂) (w.putObj L.bH o'):=by
 refine ⟨fun c M hc=>by simpa using h.zj c M hc,fun c x hc=>?_,fun k hk=>by simpa using h.base k hk,h.ke,fun c c' x x' M M' dm hx iU wV C7 hM gz=>?_⟩
 ·rw [AH.af] at hc
  by_cases e:c=b
  ·subst e;rw [if_pos rfl] at hc;cases hc;exact ⟨L,hL,ho⟩
  ·rw [if_neg e] at hc
   obtain ⟨M,hM,hx⟩:=h.obj c x hc
   refine ⟨M,hM,?_⟩
   by_cases hl:x.live=true
   ·exact hx.same (Env.le.refl E) (World.putObj_heap_other (fun e'=>h.sep b c o x L M (Ne.symm e) hb hc gZ hl hL hM e'.symm))
   ·cases x <;> first | trivial | (exact absurd rfl hl)
 ·rw [AH.af] at hx iU
  have mw : ∀ {y:aY},y.owns=true→y.live=true:=fun {y} hy=>by cases y <;> simp_all [aY.owns,aY.live]
  by_cases e:c=b
  ·rw [if_pos e] at hx
   rw [if_neg (fun e'=>dm (e.trans e'.symm))] at iU
   exact h.sep c c' o x' M M' dm (e ▸ hb) iU gZ C7 hM gz
  ·rw [if_neg e] at hx
   by_cases e' : c'=b
   ·rw [if_pos e'] at iU
    exact h.sep c c' x o M M' dm hx (e' ▸ hb) wV (mw gZ) hM gz
   ·rw [if_neg e'] at iU
    exact h.sep c c' x x' M M' dm hx iU wV C7 hM gz
theorem HR.kill (h:HR P E B H w) {b:Nat} {o:aY} (hb:H.get b=some o):HR P E B (H.set b .dead) w:=by
 refine ⟨fun c M hc=>by simpa using h.zj c M hc,fun c x hc=>?_,h.base,h.ke,fun c c' x x' M M' dm hx iU wV C7 hM gz=>?_⟩
 ·rw [AH.af] at hc
  by_cases e:c=b
  ·subst e;rw [if_pos rfl] at hc;cases hc
   obtain ⟨L,hL,_⟩:=h.obj c o hb
   exact ⟨L,hL,trivial⟩
  ·rw [if_neg e] at hc;exact h.obj c x hc
 ·rw [AH.af] at hx iU
  by_cases e:c=b
  ·rw [if_pos e] at hx;cases hx;cases wV
  ·rw [if_neg e] at hx
   by_cases e' : c'=b
   ·rw [if_pos e'] at iU;cases iU;cases C7
   ·rw [if_neg e'] at iU;exact h.sep c c' x x' M M' dm hx iU wV C7 hM gz
theorem HR.N1 (h:HR P E B H w) {b:Nat} {o o₂:aY} {L L₂:Loc} {o' : Obj} (hb:H.get b=some o) (hL:E b=some L) (gZ:o.owns=true) (RZ:L₂.bH=L.bH)
  (ho:OR P (E.put H.n L₂) B (w.putObj L.bH o') L₂ o₂):HR P (E.put H.n L₂) B ((H.set b .dead).alloc o₂) (w.putObj L.bH o'):=by
 have hle:=h.eI L₂
 have X0:=h.lt hb
 have mw : ∀ {y:aY},y.owns=true→y.live=true:=fun {y} hy=>by cases y <;> simp_all [aY.owns,aY.live]
 refine ⟨fun c M hc=>?_,fun c x hc=>?_,fun k hk=>by simpa using h.base k hk,fun g hg=>by obtain ⟨M,h1,h2⟩:=h.ke g hg;exact ⟨M,hle _ _ h1,h2⟩,fun c c' x x' M M' dm hx iU wV C7 hM gz=>?_⟩
 ·unfold Env.put at hc
  by_cases e:c=H.n
  ·subst e;simp
  ·rw [if_neg e] at hc;have:=h.zj _ _ hc;simp;omega
 ·rw [AH.aa] at hc
  by_cases e:c=H.n
  ·subst e
   rw [if_pos (by simp)] at hc;cases hc
   exact ⟨L₂,by simp [Env.put],ho⟩
  ·rw [if_neg (by simpa using e),AH.af] at hc
   by_cases e' : c=b
   ·subst e'
    rw [if_pos rfl] at hc;cases hc
    exact ⟨L,hle _ _ hL,trivial⟩
   ·rw [if_neg e'] at hc
    obtain ⟨M,hM,hx⟩:=h.obj c x hc
    refine ⟨M,hle _ _ hM,?_⟩
    by_cases hl:x.live=true
    ·exact hx.same hle (World.putObj_heap_other (fun e''=>h.sep b c o x L M (Ne.symm e') hb hc gZ hl hL hM e''.symm))
    ·cases x <;> first | trivial | (exact absurd rfl hl)
 ·
  rw [AH.aa] at hx iU
  unfold Env.put at hM gz
  by_cases e:c=H.n
  ·rw [if_pos e] at hM;cases hM
   rw [if_neg (fun e'=>dm (e.trans e'.symm))] at gz
   rw [if_neg (by simpa using fun e'=>dm (e.trans e'.symm)),AH.af] at iU
   by_cases e' : c'=b
   ·rw [if_pos e'] at iU;cases iU;cases C7
   ·rw [if_neg e'] at iU
    rw [RZ]
    exact h.sep b c' o x' L M' (Ne.symm e') hb iU gZ C7 hL gz
  ·rw [if_neg e] at hM
   rw [if_neg (by simpa using e),AH.af] at hx
   by_cases e' : c=b
   ·rw [if_pos e'] at hx;cases hx;cases wV
   ·rw [if_neg e'] at hx
    by_cases e2:c'=H.n
    ·rw [if_pos e2] at gz;cases gz
     rw [RZ]
     exact h.sep c b x o M L e' hx hb wV (mw gZ) hM hL
    ·rw [if_neg e2] at gz
     rw [if_neg (by simpa using e2),AH.af] at iU
     by_cases e3:c'=b
     ·rw [if_pos e3] at iU;cases iU;cases C7
     ·rw [if_neg e3] at iU
      exact h.sep c c' x x' M M' dm hx iU wV C7 hM gz
/-! ### Cells -/
theorem sQ {X:Array Value} {off n i:Nat} (hi:i<n):((X.toList.drop off).take n)[i]? = X[off+i]?:=by
 rw [List.getElem?_take_of_lt hi,List.getElem?_drop,Array.getElem?_toList]
theorem Cv {L:Loc} {cs:List AV} {e:TypeId} {fl:Fl} (ho:OR P E B w L (.cells cs e fl)) {o n:Nat} (hn:o+n≤cs.length) :
  ∃ys,aJ E ((cs.drop o).take n) ys∧(loadCells ⟨L.bH,L.off+o,none⟩ n).run P w=.ok ys.toArray w:=by
 obtain ⟨X,lo,hi,h1,h2,h3,h4,h5,_⟩:=ho
 have h6:=(h5.drop o).take n
 have hl:=h6.length
 refine ⟨_,h6,?_⟩
 have hlen:(List.take n (List.drop o (List.take cs.length (List.drop L.off X.toList)))).length=n:=by rw [← hl];simp;omega
 have:=run_loadCells_list (P:=P) w ⟨L.bH,L.off+o,none⟩ (List.take n (List.drop o (List.take cs.length (List.drop L.off X.toList)))) (fun j v hj=>by
  have Nd:j<n:=by have:=(List.getElem?_eq_some_iff.1 hj).1;omega
  rw [List.getElem?_take_of_lt Nd,List.getElem?_drop,sQ (by omega)] at hj
  have Dc:(⟨L.bH,L.off+o,none⟩ : Addr).add j=⟨L.bH,L.off+o+j,none⟩:=by unfold Addr.add;split <;> simp_all
  rw [Dc]
  simp only [World.cell?,h1]
  simp
  rw [show L.off+o+j=L.off+(o+j) by omega];exact hj)
 rw [hlen] at this
 exact this
theorem Ax {L:Loc} {cs:List AV} {e:TypeId} {fl:Fl} (ho:OR P E B w L (.cells cs e fl)) : ∃Pq:List Value,aJ E cs Pq ∧
  ∀w',w'.heap=w.heap→∀o n,o+n≤cs.length→(loadCells ⟨L.bH,L.off+o,none⟩ n).run P w'=.ok ((Pq.drop o).take n).toArray w':=by
 obtain ⟨X,lo,hi,h1,h2,h3,h4,h5,_⟩:=ho
 refine ⟨_,h5,fun w' Oo o n hn=>?_⟩
 have h6:=(h5.drop o).take n
 have hl:=h6.length
 have hlen:(List.take n (List.drop o (List.take cs.length (List.drop L.off X.toList)))).length=n:=by rw [← hl];simp;omega
 have:=run_loadCells_list (P:=P) w' ⟨L.bH,L.off+o,none⟩ (List.take n (List.drop o (List.take cs.length (List.drop L.off X.toList)))) (fun j v hj=>by
  have Nd:j<n:=by have:=(List.getElem?_eq_some_iff.1 hj).1;omega
  rw [List.getElem?_take_of_lt Nd,List.getElem?_drop,sQ (by omega)] at hj
  have Dc:(⟨L.bH,L.off+o,none⟩ : Addr).add j=⟨L.bH,L.off+o+j,none⟩:=by unfold Addr.add;split <;> simp_all
  rw [Dc]
  simp only [World.cell?,Oo,h1]
  simp
  rw [show L.off+o+j=L.off+(o+j) by omega];exact hj)
 rw [hlen] at this
 exact this
theorem AH.wv {b o n:Nat} {vs:List AV} (h:H.read b o n=some vs) : ∃cs e fl,H.get b=some (.cells cs e fl)∧o+n≤cs.length∧vs=(cs.drop o).take n:=by
 unfold AH.read at h
 split at h
 ·rename_i cs e fl hb
  split at h
  ·rename_i hn;cases h;exact ⟨cs,e,fl,hb,hn,rfl⟩
  ·cases h
 ·cases h
theorem run_read (h:HR P E B H w) {b o n:Nat} {vs:List AV} (hr:H.read b o n=some vs) :
  ∃L ys,E b=some L∧aJ E vs ys∧(loadCells ⟨L.bH,L.off+o,none⟩ n).run P w=.ok ys.toArray w:=by
 obtain ⟨cs,e,fl,hb,hn,rfl⟩:=AH.wv hr
 obtain ⟨L,hL,ho⟩:=h.obj _ _ hb
 obtain ⟨ys,h1,h2⟩:=Cv ho hn
 exact ⟨L,ys,hL,h1,h2⟩
theorem qh (h:HR P E B H w) {b o:Nat} {v:AV} (hr:H.ak b o=some v) :
  ∃L x,E b=some L∧VR E v x∧w.cell? ⟨L.bH,L.off+o,none⟩=some x:=by
 unfold AH.ak at hr
 split at hr
 ·rename_i cs e fl hb
  obtain ⟨L,hL,X,lo,hi,h1,h2,h3,h4,h5,_⟩:=h.obj _ _ hb
  obtain ⟨y,hy,hv⟩:=h5.get hr
  have cu:o<cs.length:=(List.getElem?_eq_some_iff.1 hr).1
  rw [sQ cu] at hy
  refine ⟨L,y,hL,hv,?_⟩
  simp only [World.cell?,h1]
  simpa using hy
 ·cases hr
theorem Ad {g k:Nat} {X:Array Value} {t:TypeId} {fr:Nat×Nat} (h:w.heap[g]? = some (.cells X t fr)) (v:Value) :
  w.setCell ⟨g,k,none⟩ v=w.putObj g (.cells (X.setIfInBounds k v) t fr):=by
 unfold World.setCell World.putObj
 congr 1
 apply Array.ext_getElem?
 intro i
 rw [Array.getElem?_modify]
 by_cases e:g=i
 ·subst e;obtain ⟨lo,hi⟩:=fr;obtain ⟨cu,hx⟩:=Array.getElem?_eq_some_iff.1 h;simp [cu,hx]
 ·simp [e,Array.getElem?_setIfInBounds_ne e]
def cm (X:Array Value) (o:Nat) (vs:List Value):Array Value:=(X.toList.take o ++ (vs ++ X.toList.drop (o+vs.length))).toArray
theorem ru (X:Array Value) (o:Nat):cm X o []=X:=by simp [cm]
theorem oS (X:Array Value) (o:Nat) (v:Value) (vs:List Value) (h:o<X.size):cm (X.setIfInBounds o v) (o+1) vs=cm X o (v :: vs):=by
 have ho:o<X.toList.length:=by simpa using h
 apply Array.ext'
 simp only [cm,Array.toList_setIfInBounds]
 rw [List.take_succ_eq_append_getElem (by simpa using h)]
 simp only [List.getElem_set_self,List.append_assoc,List.length_cons]
 rw [List.take_set_of_le (Nat.le_refl _)]
 congr 1
 simp only [List.cons_append,List.nil_append]
 congr 1
 congr 1
 rw [List.drop_set_of_lt (by omega)]
 congr 1
 omega
theorem kF {g:Nat} {t:TypeId} {lo hi off:Nat} : ∀(vs:List Value) (i:Nat) (X:Array Value) (w:World),w.heap[g]? = some (.cells X t (lo,hi))→off+i+vs.length≤X.size →
  (∀k,off+i≤k→k<off+i+vs.length→¬ (lo≤k∧k<hi))→(∀v ∈ vs,v.oneCell'=true) →
  (storeCells ⟨g,off,none⟩ vs i).run P w=.ok () (w.putObj g (.cells (cm X (off+i) vs) t (lo,hi)))
 | [],i,X,w,h,_,_,_=>by
  have hw:w.putObj g (.cells X t (lo,hi))=w:=by
   unfold World.putObj
   have:w.heap.setIfInBounds g (.cells X t (lo,hi))=w.heap:=by
    apply Array.ext_getElem?
    intro j
    by_cases e:g=j
    ·subst e;obtain ⟨cu,hx⟩:=Array.getElem?_eq_some_iff.1 h;simp [cu,hx]
    ·rw [Array.getElem?_setIfInBounds_ne e]
   rw [this]
  rw [ru,hw];rfl
 | v :: vs,i,X,w,h,hlen,LL,gh=>by
  simp only [List.length_cons] at hlen LL
  have Dc:(⟨g,off,none⟩ : Addr).add i=⟨g,off+i,none⟩:=by unfold Addr.add;split <;> simp_all
  have hc:w.cell? ⟨g,off+i,none⟩=some X[off+i]:=by simp only [World.cell?,h];simp [show off+i<X.size by omega]
  have hf:w.frozen? ⟨g,off+i,none⟩=false:=by
   have:=LL (off+i) (Nat.le_refl _) (by omega)
   simp only [World.frozen?,h]
   simp only [Bool.and_eq_false_iff,decide_eq_false_iff_not]
   by_cases hl:lo≤off+i
   ·exact .inr (fun hh=>this ⟨hl,hh⟩)
   ·exact .inl hl
  have fU:(store ((⟨g,off,none⟩ : Addr).add i) v).run P w=.ok () (w.putObj g (.cells (X.setIfInBounds (off+i) v) t (lo,hi))):=by
   rw [Dc,run_store P w _ v _ (gh v (by simp))]
   simp [hc,hf,Ad h]
  have cu:g<w.heap.size:=(Array.getElem?_eq_some_iff.1 h).1
  have ih:=kF (off:=off) vs (i+1) (X.setIfInBounds (off+i) v) (w.putObj g (.cells (X.setIfInBounds (off+i) v) t (lo,hi))) (World.putObj_heap_same cu) (by simp;omega)
   (fun k h1 h2=>LL k (by omega) (by omega)) (fun x hx=>gh x (by simp [hx]))
  simp only [storeCells,Sem.run_bind,fU,Result.andThen_ok,ih]
  rw [show off+(i+1)=off+i+1 by omega,oS _ _ _ _ (by omega)]
  congr 1
  simp [World.putObj]
theorem tJ {cs:List AV} {X:Array Value} {off o:Nat} {vs:List AV} {ys:List Value} (h:aJ E cs ((X.toList.drop off).take cs.length)) (hX:off+cs.length≤X.size) (hv:aJ E vs ys) (ho:o+vs.length≤cs.length) :
  aJ E (aA cs o vs) (((cm X (off+o) ys).toList.drop off).take (aA cs o vs).length):=by
 have hl:=hv.length
 have hlen:(aA cs o vs).length=cs.length:=by simp [aA];omega
 rw [hlen]
 have e:((cm X (off+o) ys).toList.drop off).take cs.length=((X.toList.drop off).take cs.length).take o ++ (ys ++ ((X.toList.drop off).take cs.length).drop (o+vs.length)):=by
  apply List.ext_getElem?
  intro i
  by_cases hi:i<cs.length
  ·rw [List.getElem?_take_of_lt hi,List.getElem?_drop]
   simp only [cm,hl]
   by_cases h1:i<o
   ·rw [List.getElem?_append_left (by simp;omega),List.getElem?_append_left (by simp;omega),List.getElem?_take_of_lt (by omega),List.getElem?_take_of_lt h1,List.getElem?_take_of_lt hi,List.getElem?_drop]
   ·have hA:(List.take (off+o) X.toList).length=off+o:=by simp;omega
    have hB:(List.take o (List.take cs.length (List.drop off X.toList))).length=o:=by simp;omega
    rw [List.getElem?_append_right (l₁:=List.take (off+o) X.toList) (by omega),List.getElem?_append_right (l₁:=List.take o (List.take cs.length (List.drop off X.toList))) (by omega),hA,hB]
    rw [show off+i - (off+o)=i - o by omega]
    by_cases h2:i - o<ys.length
    ·rw [List.getElem?_append_left h2,List.getElem?_append_left h2]
    ·rw [List.getElem?_append_right (l₁:=ys) (by omega),List.getElem?_append_right (l₁:=ys) (by omega),List.getElem?_drop,List.getElem?_drop,List.getElem?_take_of_lt (by omega),List.getElem?_drop]
     congr 1;omega
  ·rw [List.getElem?_eq_none (by simp;omega),List.getElem?_eq_none (by simp;omega)]
 rw [e]
 exact (h.take o).append (hv.append (h.drop _))
theorem rq {cs vs:List AV} {o:Nat} (h : ∀v ∈ cs,v.one=true) (k : ∀v ∈ vs,v.one=true) : ∀v ∈ aA cs o vs,v.one=true:=by
 intro v hv
 simp only [aA,List.mem_append] at hv
 rcases hv with hv | hv | hv
 ·exact h v (List.mem_of_mem_take hv)
 ·exact k v hv
 ·exact h v (List.mem_of_mem_drop hv)
theorem mT (h:HR P E B H w) {b o:Nat} {vs:List AV} {H' : AH} {ys:List Value} (hw:H.write b o vs=some H') (hv:aJ E vs ys) :
  ∃L w',E b=some L∧(storeCells ⟨L.bH,L.off+o,none⟩ ys).run P w=.ok () w'∧HR P E B H' w'∧Below B w w':=by
 unfold AH.write at hw
 split at hw
 ·rename_i cs e fl hb
  split at hw
  ·rename_i hc
   obtain ⟨gZ,LL,hlen,gh⟩:=hc
   cases hw
   obtain ⟨L,hL,ho⟩:=h.obj _ _ hb
   have M6:=ho
   obtain ⟨X,lo,hi,h1,h2,h3,h4,h5,h6,h7,h8⟩:=ho
   obtain ⟨hB,hF,hS⟩:=h6 gZ
   have hl:=hv.length
   have fU:=kF (P:=P) (off:=L.off+o) ys 0 X w h1 (by omega) (fun k k1 k2=>hF k (by omega) (by omega)) (aJ.N8 hv gh)
   refine ⟨L,_,hL,fU,?_,Below.putObj (Below.refl B w) hB _⟩
   refine h.vA hb hL gZ ?_
   have cu:L.bH<w.heap.size:=(Array.getElem?_eq_some_iff.1 h1).1
   have jN:(cm X (L.off+o+0) ys).size=X.size:=by simp [cm];omega
   refine ⟨_,lo,hi,World.putObj_heap_same cu,?_,h3,?_,?_,fun _=>⟨hB,?_,hS⟩,h7,rq h8.1 (by simpa using gh),fun hw=>?_⟩
   ·rw [h2];simp [aA];omega
   ·rw [jN];simp only [aA];simp;omega
   ·exact tJ h5 (by omega) hv hlen
   ·rw [jN];exact hF
   ·obtain ⟨g1,g2,g3⟩:=h8.2 hw
    refine ⟨g1,?_,g3⟩
    simp [cm,aA];omega
  ·cases hw
 ·cases hw
end
end Go.Am
end
/- The abstract machine: each operation does in the model what it does here (no heap turned). -/
section
namespace Go.Am
open Go.RowKit
section
variable {P:Program} {E:Env} {B:eZ} {H:AH} {w:World}
def kz (P:Program) (E:Env) (w:World) (v:AV) (s:Sem Value):Prop:=∃x,s.run P w=.ok x w∧VR E v x
theorem iW (h:HR P E B H w) {T:List AV} {a:Act} (hT:aJ E T a.tmps.toList) {x:Operand} {v:AV} (hv:ev P T x=some v):VR E v (a.eval x):=by
 cases x with
 | tmp t =>
  simp only [ev,Option.some.injEq] at hv
  subst hv
  simp only [Act.eval]
  cases ht:T[t]? with
  | some v =>
   obtain ⟨y,hy,UJ⟩:=hT.get ht
   rw [Array.getElem?_toList] at hy
   simpa [Array.getD_eq_getD_getElem?,hy] using UJ
  | none =>
   have hl:=hT.length
   have ZF:a.tmps[t]? = none:=by
    rw [← Array.getElem?_toList]
    have:=List.getElem?_eq_none_iff.1 ht
    exact List.getElem?_eq_none (by omega)
   simp only [Array.getD_eq_getD_getElem?,ZF,Option.getD_none]
   exact ⟨#[],rfl,rfl⟩
 | const v'=>exact VR.of _ _ hv
 | global g =>
  simp only [ev] at hv
  split at hv
  ·rename_i hg
   cases hv
   obtain ⟨L,h1,h2,h3⟩:=h.ke g hg
   exact ⟨L,h1,by simp [Act.eval,h2,h3]⟩
  ·cases hv
 | func f=>simp only [ev,Option.some.injEq] at hv;subst hv;exact ⟨#[],#[],rfl,rfl,rfl⟩
def Mv (E:Env):Option AV→Option Value→Prop
 | none,v=>v=none
 | some x,v=>∃y,v=some y∧VR E x y
def NC (E:Env):List (Nat×AV)→List (Nat×Value)→Prop
 | [],l=>l=[]
 | (i,x) :: xs,l=>∃y ys,l=(i,y) :: ys∧VR E x y∧NC E xs ys
theorem LW (h:HR P E B H w) {T:List AV} {a:Act} (hT:aJ E T a.tmps.toList) : ∀ {xs:List (Nat×Operand)} {vs:List (Nat×AV)},En P T xs=some vs→NC E vs (xs.map fun (i,x)=>(i,a.eval x))
 | [],vs,hv=>by simp only [En,Option.some.injEq] at hv;subst hv;rfl
 | (i,x) :: xs,vs,hv=>by
  simp only [En] at hv
  obtain ⟨v,h1,hv⟩:=Option.bind_eq_some_iff.1 hv
  obtain ⟨Wx,h2,hv⟩:=Option.map_eq_some_iff.1 hv
  subst hv
  exact ⟨_,_,rfl,iW h hT h1,LW h hT h2⟩
/-! ### Types -/
theorem aN {t:TypeId} {s:Nat} (h:bY P t=some s) (w:World):(sizeOf t).run P w=.ok s w:=by
 unfold bY at h
 obtain ⟨i,hi,rfl⟩:=Option.map_eq_some_iff.1 h
 simp [sizeOf,typeInfo,hi]
theorem kZ {t:TypeId} {s:Nat} (h:bY P t=some s):P.cellsOf t=s:=by
 unfold bY at h
 obtain ⟨i,hi,rfl⟩:=Option.map_eq_some_iff.1 h
 simp [Program.cellsOf,hi]
theorem eP {t:TypeId} {i:TypeInfo} (h:P.info? t=some i) (w:World):(typeInfo t).run P w=.ok i w:=by simp [typeInfo,h]
theorem xx {t:TypeId} {n:Nat} (h:ve P t=some n) : ∃i,P.info? t=some i∧i.bytes=n:=by
 unfold ve at h;exact Option.map_eq_some_iff.1 h
theorem fJ {t:TypeId} {z:AV} (h:zeroOf P t=some z) (E:Env) (w:World) : ∃x,(zeroValue t).run P w=.ok x w∧VR E z x:=by
 unfold zeroOf at h
 obtain ⟨i,hi,h⟩:=Option.bind_eq_some_iff.1 h
 obtain ⟨x,hx,h⟩:=Option.bind_eq_some_iff.1 h
 exact ⟨x,by simp [zeroValue,typeInfo,hi,hx],VR.of _ _ h⟩
theorem iA {t:TypeId} {b:Bool} (h:Gx P t=some b) (w:World):(isAgg t).run P w=.ok b w:=by
 unfold Gx at h
 split at h
 ·rename_i fs he;cases h;simp [isAgg,run_underlying he]
 ·rename_i n e he;cases h;simp [isAgg,run_underlying he]
 ·rename_i d hs hn he
  cases h
  simp only [isAgg,Sem.run_bind,run_underlying he,Result.andThen_ok]
  cases d <;> first | rfl | (exact absurd rfl (hs _)) | (exact absurd rfl (hn _ _))
 ·cases h
theorem jW {t:TypeId} {cs:List AV} {xs:Array Value} {off:Nat} {v:AV} (h:lq P t cs off=some v) (hx:aJ E cs xs.toList):kz P E w v (part t xs off):=by
 unfold lq at h
 split at h
 ·rename_i ha
  obtain ⟨s,hs,rfl⟩:=Option.map_eq_some_iff.1 h
  refine ⟨.agg (xs.extract off (off+s)),by simp [part,iA ha,aN hs],_,rfl,?_⟩
  have:=(hx.drop off).take s
  have e:(xs.extract off (off+s)).toList=(xs.toList.drop off).take s:=by
   rw [Array.toList_extract];simp [List.extract_eq_take_drop,Nat.add_sub_cancel_left]
  rw [e];exact this
 ·rename_i ha
  obtain ⟨y,hy,hv⟩:=hx.get h
  rw [Array.getElem?_toList] at hy
  exact ⟨y,by simp [part,iA ha,hy],hv⟩
 ·cases h
/-! ### Reading memory -/
theorem Fa (h:HR P E B H w) {t:TypeId} {a v:AV} {x:Value} (hv:j7 P H t a=some v) (hx:VR E a x):kz P E w v (Instr.loadAt t x):=by
 unfold j7 at hv
 split at hv
 ·rename_i b o
  obtain ⟨L,hL,rfl⟩:=hx
  split at hv
  ·rename_i ha
   obtain ⟨s,hs,hv⟩:=Option.bind_eq_some_iff.1 hv
   obtain ⟨vs,hr,rfl⟩:=Option.map_eq_some_iff.1 hv
   obtain ⟨L',ys,cv,sC,dx⟩:=run_read h hr
   rw [hL] at cv;cases cv
   exact ⟨.agg ys.toArray,by simp [Instr.loadAt,Instr.sureAddr,loadVar,iA ha,aN hs,dx],_,rfl,by simpa using sC⟩
  ·rename_i ha
   obtain ⟨L',y,cv,hy,hc⟩:=qh h hv
   rw [hL] at cv;cases cv
   exact ⟨y,by simp [Instr.loadAt,Instr.sureAddr,loadVar,iA ha,hc],hy⟩
  ·cases hv
 ·cases hv
theorem fS (b o n:Nat):(⟨b,o,none⟩ : Addr).add n=⟨b,o+n,none⟩:=by unfold Addr.add;split <;> simp_all
theorem tR {t:TypeId} {a v:AV} {x:Value} {f:Nat} (hv:iV P t a f=some v) (hx:VR E a x):kz P E w v (Instr.fieldAt t x f):=by
 unfold iV at hv
 split at hv
 ·rename_i fs b o hu
  obtain ⟨L,hL,rfl⟩:=hx
  split at hv
  ·rename_i fd hf
   split at hv
   ·cases hv
   ·rename_i s Ow hs
    cases hv
    have h0:s ≠ 0:=Ow
    exact ⟨.pointer (some ⟨L.bH,L.off+o+fd.offset,none⟩),by simp [Instr.fieldAt,run_underlying hu,hf,Instr.sureAddr,fieldPlace,aN hs,h0,fS],L,hL,by simp [Nat.add_assoc]⟩
   ·cases hv
  ·cases hv
 ·cases hv
theorem Cs {t:TypeId} {a v:AV} {x:Value} {f:Nat} (hv:uR P t a f=some v) (hx:VR E a x):kz P E w v (Instr.field t x f):=by
 unfold uR at hv
 split at hv
 ·rename_i fs cs hu
  obtain ⟨xs,rfl,sD⟩:=hx
  split at hv
  ·rename_i fd hf
   obtain ⟨y,hy,UJ⟩:=jW (w:=w) hv sD
   exact ⟨y,by simp [Instr.field,run_underlying hu,hf,asAgg,hy],UJ⟩
  ·cases hv
 ·cases hv
theorem tQ {t:TypeId} {a i v:AV} {x y:Value} (hv:fh P t a i=some v) (hx:VR E a x) (hy:VR E i y):kz P E w v (Instr.indexAt t x y):=by
 unfold fh at hv
 split at hv
 ·rename_i e b o len cap k n hu
  obtain ⟨L,a',c',hL,rfl,C6,pO,lA,ha⟩:=hx
  obtain rfl:y=.int k n:=hy
  split at hv
  ·rename_i s hs
   split at hv
   ·rename_i hn
    cases hv
    have GR:c' ≠ 0:=by rcases pO with rfl | ⟨_,rfl⟩ <;> omega
    rcases ha with rfl | h0
    ·exact ⟨.pointer (some ⟨L.bH,L.off+o+n.toNat*s,none⟩),by simp [Instr.indexAt,asIntOf,run_underlying hu,hn,aN hs,fS],L,hL,by simp [Nat.add_assoc]⟩
    ·exact absurd h0 GR
   ·cases hv
  ·cases hv
 ·rename_i len e b o k n hu
  obtain ⟨L,hL,rfl⟩:=hx
  obtain rfl:y=.int k n:=hy
  split at hv
  ·rename_i s hs
   split at hv
   ·rename_i hn
    cases hv
    exact ⟨.pointer (some ⟨L.bH,L.off+o+n.toNat*s,none⟩),by simp [Instr.indexAt,asIntOf,run_underlying hu,hn,aN hs,fS,Instr.sureAddr],L,hL,by simp [Nat.add_assoc]⟩
   ·cases hv
  ·cases hv
 ·cases hv
theorem Cr {t:TypeId} {a i v:AV} {x y:Value} (hv:mq P t a i=some v) (hx:VR E a x) (hy:VR E i y):kz P E w v (Instr.index t x y):=by
 unfold mq at hv
 split at hv
 ·rename_i len e cs k n hu
  obtain ⟨xs,rfl,sD⟩:=hx
  obtain rfl:y=.int k n:=hy
  split at hv
  ·rename_i s hs
   split at hv
   ·rename_i hn
    obtain ⟨z,hz,Zy⟩:=jW (w:=w) hv sD
    exact ⟨z,by simp [Instr.index,asIntOf,run_underlying hu,hn,aN hs,hz],Zy⟩
   ·cases hv
  ·cases hv
 ·rename_i s k n hu
  obtain rfl:x=.string ⟨s.toArray⟩:=hx
  obtain rfl:y=.int k n:=hy
  split at hv
  ·rename_i hn
   obtain ⟨b,hb,rfl⟩:=Option.map_eq_some_iff.1 hv
   refine ⟨.int .u8 b.toNat,?_,rfl⟩
   have qE:(⟨s.toArray⟩ : ByteArray)[n.toNat]? = some b:=by
    obtain ⟨cu,hb⟩:=List.getElem?_eq_some_iff.1 hb
    rw [getElem?_pos (⟨s.toArray⟩ : ByteArray) n.toNat (show n.toNat<(⟨s.toArray⟩ : ByteArray).size from cu)]
    exact congrArg some hb
   simp [Instr.index,asIntOf,run_underlying hu,hn,qE]
  ·cases hv
 ·cases hv
/-! ### Parts put together -/
theorem NC.get {x:List (Nat×AV)} {y:List (Nat×Value)} (h:NC E x y):x.length=y.length:=by
 induction x generalizing y with
 | nil=>cases h;rfl
 | cons p x ih=>obtain ⟨i,v⟩:=p;obtain ⟨z,zs,rfl,_,h⟩:=h;simp [ih h]
theorem pT {place:Nat→Option (Nat×Nat)} : ∀ {parts:List (Nat×AV)} {lY:List (Nat×Value)} {cs:List AV} {vS:Array Value} {r:List AV},
  NC E parts lY→aJ E cs vS.toList→mB place cs parts=some r→∃r',Instr.fill place vS lY=some r'∧aJ E r r'.toList
 | [],_,cs,vS,r,h,hc,hr=>by cases h;simp only [mB,Option.some.injEq] at hr;subst hr;exact ⟨vS,rfl,hc⟩
 | (i,v) :: parts,_,cs,vS,r,h,hc,hr=>by
  obtain ⟨y,ys,rfl,hv,h⟩:=h
  simp only [mB] at hr
  simp only [Instr.fill]
  cases hp:place i with
  | none=>simp [hp] at hr
  | some os =>
   obtain ⟨off,size⟩:=os
   simp only [hp] at hr ⊢
   split at hr
   ·rename_i C9
    have rU:v.cells.length=size∧off+v.cells.length≤cs.length:=⟨C9.1,C9.2.1⟩
    have Xq:=hv.cells C9.2.2
    have C7:=Xq.length
    have OJ:=hc.length
    simp only [Array.length_toList] at C7 OJ
    rw [if_neg (by simp;omega)]
    have e : ∀(vs:List Value) (k:Nat) (X:Array Value),off+k+vs.length≤X.size →
      (vs.zipIdx k).foldl (fun cs (c,j)=>cs.setIfInBounds (off+j) c) X=cm X (off+k) vs:=by
     intro vs
     induction vs with
     | nil=>intro k X _;simp [ru]
     | cons v vs ih =>
      intro k X hX
      simp only [List.length_cons] at hX
      simp only [List.zipIdx_cons,List.foldl_cons]
      rw [ih (k+1) _ (by simp;omega),← oS _ _ _ _ (by omega)]
      rfl
    have e2:(y.cells.zipIdx.foldl (fun cs (c,j)=>cs.setIfInBounds (off+j) c) vS)=cm vS off y.cells.toList:=by
     have:=e y.cells.toList 0 vS (by simp;omega)
     rw [← Array.foldl_toList,Array.toList_zipIdx]
     simpa using this
    rw [e2]
    refine pT h ?_ hr
    have:=tJ (off:=0) (X:=vS) (o:=off) (vs:=v.cells) (ys:=y.cells.toList) (cs:=cs) (by
     rw [List.drop_zero,hc.length,List.take_length];exact hc) (by omega) Xq (by omega)
    rw [List.drop_zero,Nat.zero_add] at this
    have hlen:(aA cs off v.cells).length=(cm vS off y.cells.toList).toList.length:=by simp [aA,cm];omega
    rw [hlen,List.take_length] at this
    exact this
   ·cases hr
theorem AM (fs:Array Field) (h:fs.all (fun f=>(bY P f.type).isSome)=true) (w:World) :
  ∃ps:Array (Nat×Nat),(fs.mapM fun (f:Field)=>do pure (f.offset,← sizeOf f.type):Sem (Array (Nat×Nat))).run P w=.ok ps w∧∀i:Nat,ps[i]? = (fs[i]?).bind fun (f:Field)=>(bY P f.type).map fun s=>(f.offset,s):=by
 obtain ⟨l⟩:=fs
 have key : ∀l:List Field,(∀f ∈ l,(bY P f.type).isSome=true)→∃ps:List (Nat×Nat),(l.mapM fun (f:Field)=>do pure (f.offset,← sizeOf f.type):Sem (List (Nat×Nat))).run P w=.ok ps w ∧
   ∀i:Nat,ps[i]? = (l[i]?).bind fun (f:Field)=>(bY P f.type).map fun s=>(f.offset,s):=by
  intro l
  induction l with
  | nil=>intro _;exact ⟨[],by simp,by simp⟩
  | cons f l ih =>
   intro hl
   obtain ⟨ps,h1,h2⟩:=ih (fun g hg=>hl g (by simp [hg]))
   obtain ⟨s,hs⟩:=Option.isSome_iff_exists.1 (hl f (by simp))
   refine ⟨(f.offset,s) :: ps,?_,?_⟩
   ·rw [List.mapM_cons];simp only [bind_pure_comp] at h1 ⊢;simp [aN hs,h1]
   ·intro i
    cases i with
    | zero=>simp [hs]
    | succ i=>simpa using h2 i
 obtain ⟨ps,h1,h2⟩:=key l (by simpa using h)
 refine ⟨⟨ps⟩,?_,by simpa using h2⟩
 rw [List.mapM_toArray]
 simp only [bind_pure_comp] at h1 ⊢
 simp [h1]
theorem Ct {t:TypeId} {parts:List (Nat×AV)} {lY:List (Nat×Value)} {v:AV} (hv:vg P t parts=some v) (hp:NC E parts lY):kz P E w v (Instr.build t lY.toArray):=by
 unfold vg at hv
 split at hv
 ·rename_i fs z hu hz
  obtain ⟨zx,J3,zM⟩:=fJ hz E w
  obtain ⟨cs,hf,hv⟩:=Option.bind_eq_some_iff.1 hv
  split at hv
  ·rename_i jO
   cases hv
   obtain ⟨ps,hm,ZS⟩:=AM fs jO w
   have OB:(fun i:Nat=>(fs[i]?).bind fun (f:Field)=>(bY P f.type).map fun s=>(f.offset,s))=(fun i=>ps[i]?):=funext fun i=>(ZS i).symm
   rw [OB] at hf
   obtain ⟨r,hr,Ox⟩:=pT hp (zM.cells (cO hz)) hf
   refine ⟨.agg r,?_,r,rfl,Ox⟩
   simp only [Instr.build,Sem.run_bind,J3,Result.andThen_ok,run_underlying hu,hm,hr]
   rfl
  ·cases hv
 ·rename_i n e z hu hz
  obtain ⟨zx,J3,zM⟩:=fJ hz E w
  split at hv
  ·rename_i s hs
   obtain ⟨cs,hf,rfl⟩:=Option.map_eq_some_iff.1 hv
   obtain ⟨r,hr,Ox⟩:=pT hp (zM.cells (cO hz)) hf
   refine ⟨.agg r,?_,r,rfl,Ox⟩
   simp only [Instr.build,Sem.run_bind,J3,Result.andThen_ok,run_underlying hu,aN hs,hr]
   rfl
  ·cases hv
 ·cases hv
end
end Go.Am
end
/- The abstract machine: operators, comparisons, slices. -/
section
namespace Go.Am
open Go.RowKit
section
variable {P:Program} {E:Env} {B:eZ} {H:AH} {w:World}
theorem Du (u v:List UInt8):((⟨u.toArray⟩ : ByteArray) == ⟨v.toArray⟩)=true↔u=v:=by
 show (u.toArray == v.toArray)=true↔_
 simp
theorem kV {eq:TypeId→AV→AV→Option Bool} {eq' : TypeId→Value→Value→Sem Bool} (hq : ∀t a b x y r,eq t a b=some r→VR E a x→VR E b y→(eq' t x y).run P w=.ok r w)
  {xs ys:List AV} {My vW:Array Value} (hx:aJ E xs My.toList) (hy:aJ E ys vW.toList) : ∀ {fs:List Field} {r:Bool},eqFields P eq xs ys fs=some r →
  (do
   for f in fs do if f.name ≠ "_" then
     if !(← eq' f.type (← part f.type My f.offset) (← part f.type vW f.offset)) then return false
   pure true:Sem Bool).run P w=.ok r w
 | [],r,h=>by simp only [eqFields,Option.some.injEq] at h;subst h;simp
 | f :: fs,r,h=>by
  simp only [eqFields] at h
  split at h
  ·rename_i hn
   obtain ⟨a,ha,h⟩:=Option.bind_eq_some_iff.1 h
   obtain ⟨b,hb,h⟩:=Option.bind_eq_some_iff.1 h
   obtain ⟨q,zN,h⟩:=Option.bind_eq_some_iff.1 h
   obtain ⟨x,vu,J4⟩:=jW (w:=w) ha hx
   obtain ⟨y,Q1,QZ⟩:=jW (w:=w) hb hy
   have dx:=hq _ _ _ _ _ _ zN J4 QZ
   cases q with
   | true =>
    have ih:=kV hq hx hy h
    simp only [List.forIn_cons,hn,ne_eq,not_false_eq_true,if_true,bind_assoc,Sem.run_bind,vu,Q1,dx,Result.andThen_ok] at ih ⊢
    simpa using ih
   | false =>
    cases h
    simp [List.forIn_cons,hn,vu,Q1,dx]
  ·rename_i hn
   have ih:=kV hq hx hy h
   simp only [List.forIn_cons,hn,if_false,bind_assoc,Sem.run_bind] at ih ⊢
   simpa using ih
theorem rX {eq:TypeId→AV→AV→Option Bool} {eq' : TypeId→Value→Value→Sem Bool} (hq : ∀t a b x y r,eq t a b=some r→VR E a x→VR E b y→(eq' t x y).run P w=.ok r w)
  {xs ys:List AV} {My vW:Array Value} (hx:aJ E xs My.toList) (hy:aJ E ys vW.toList) {e:TypeId} {n:Nat} : ∀ {m i:Nat} {r:Bool},kX P eq e xs ys n i m=some r →
  (do
   for i in List.range' i m do if !(← eq' e (← part e My (i*n)) (← part e vW (i*n))) then return false
   pure true:Sem Bool).run P w=.ok r w
 | 0,i,r,h=>by simp only [kX,Option.some.injEq] at h;subst h;simp
 | m+1,i,r,h=>by
  simp only [kX] at h
  obtain ⟨a,ha,h⟩:=Option.bind_eq_some_iff.1 h
  obtain ⟨b,hb,h⟩:=Option.bind_eq_some_iff.1 h
  obtain ⟨q,zN,h⟩:=Option.bind_eq_some_iff.1 h
  obtain ⟨x,vu,J4⟩:=jW (w:=w) ha hx
  obtain ⟨y,Q1,QZ⟩:=jW (w:=w) hb hy
  have dx:=hq _ _ _ _ _ _ zN J4 QZ
  cases q with
  | true =>
   have ih:=rX hq hx hy h
   simp only [List.range'_succ,List.forIn_cons,bind_assoc,Sem.run_bind,vu,Q1,dx,Result.andThen_ok] at ih ⊢
   simpa using ih
  | false =>
   cases h
   simp [List.range'_succ,List.forIn_cons,vu,Q1,dx]
set_option maxHeartbeats 1000000 in
theorem lU : ∀(d D:Nat) (t:TypeId) (a b:AV) (x y:Value) (r:Bool),d≤D→lF P d t a b=some r→VR E a x→VR E b y→(Op.equalIn D t x y).run P w=.ok r w
 | 0,_,_,_,_,_,_,_,_,h,_,_=>by simp [lF] at h
 | d+1,0,_,_,_,_,_,_,hd,_,_,_=>by omega
 | d+1,D+1,t,a,b,x,y,r,hd,h,hx,hy=>by
  have ih:=fun t a b x y r=>lU d D t a b x y r (by omega)
  simp only [lF] at h
  simp only [Op.equalIn]
  split at h
  ·rename_i u v hu;cases h;obtain rfl:x=_:=hx;obtain rfl:y=_:=hy;simp [run_underlying hu]
  ·rename_i k0 k u k' v hu
   split at h
   ·rename_i hk;cases h;obtain rfl:x=_:=hx;obtain rfl:y=_:=hy;simp [run_underlying hu,hk]
   ·cases h
  ·rename_i u v hu;cases h;obtain rfl:x=_:=hx;obtain rfl:y=_:=hy
   simp only [Sem.run_bind,run_underlying hu,Result.andThen_ok,Sem.run_pure]
   congr 1
   rw [Bool.eq_iff_iff,Du];simp
  ·rename_i e0 v hu;cases h;obtain rfl:x=_:=hx
   cases v with
   | none=>obtain rfl:y=_:=hy;simp [run_underlying hu]
   | some p=>obtain ⟨pb,po⟩:=p;obtain ⟨L,_,rfl⟩:=hy;simp [run_underlying hu]
  ·rename_i e0 p hu;cases h;obtain ⟨pb,po⟩:=p;obtain ⟨L,_,rfl⟩:=hx;obtain rfl:y=_:=hy;simp [run_underlying hu]
  ·rename_i e0 p q hu
   split at h
   ·rename_i s hs
    split at h
    ·rename_i hc
     obtain ⟨Nk,Tv⟩:=hc
     cases h
     obtain ⟨pb,po⟩:=p;obtain ⟨qb,qo⟩:=q
     simp only at Nk;subst Nk
     obtain ⟨L,hL,rfl⟩:=hx;obtain ⟨L',cv,rfl⟩:=hy
     rw [hL] at cv;cases cv
     simp only [Sem.run_bind,run_underlying hu,Result.andThen_ok,aN hs,ne_eq,Tv,not_false_eq_true,if_true,sameAddr,BEq.rfl,Sem.run_pure]
     congr 1
     rw [Bool.eq_iff_iff];simp
    ·cases h
   ·cases h
  ·rename_i ms hu;cases h;obtain rfl:x=_:=hx;obtain rfl:y=_:=hy;simp [run_underlying hu]
  ·rename_i ms ty v hu;cases h;obtain rfl:x=_:=hx;obtain ⟨z,rfl,_⟩:=hy;simp [run_underlying hu]
  ·rename_i ms ty v hu;cases h;obtain ⟨z,rfl,_⟩:=hx;obtain rfl:y=_:=hy;simp [run_underlying hu]
  ·rename_i ms tx vx ty vy hu
   obtain ⟨z,rfl,hz⟩:=hx;obtain ⟨z',rfl,iE⟩:=hy
   split at h
   ·rename_i dm;cases h;simp [run_underlying hu,dm]
   ·rename_i dm
    simp only [ne_eq,Decidable.not_not] at dm
    subst dm
    split at h
    ·rename_i i hi
     split at h
     ·rename_i hc
      have:=ih _ _ _ _ _ _ h hz iE
      simp [run_underlying hu,eP hi,hc,this]
     ·cases h
    ·cases h
  ·rename_i fs xs ys hu
   obtain ⟨My,rfl,sD⟩:=hx;obtain ⟨vW,rfl,sC⟩:=hy
   split at h
   ·cases h
   ·rename_i fU
    have:=kV (eq':=Op.equalIn D) ih sD sC h
    simp only [Sem.run_bind,run_underlying hu,Result.andThen_ok,run_program,fU]
    obtain ⟨fl⟩:=fs
    simpa using this
  ·rename_i len e0 xs ys hu
   obtain ⟨My,rfl,sD⟩:=hx;obtain ⟨vW,rfl,sC⟩:=hy
   split at h
   ·rename_i s hs
    have:=rX (eq':=Op.equalIn D) ih sD sC h
    simp only [Sem.run_bind,run_underlying hu,Result.andThen_ok,aN hs]
    simpa [Std.Legacy.Range.forIn_eq_forIn_range'] using this
   ·cases h
  ·rename_i e0 l c v OJ Tv hu;cases h
   obtain ⟨rfl,_⟩:=hx
   cases v with
   | none=>obtain ⟨rfl,_⟩:=hy;simp [run_underlying hu]
   | some p=>obtain ⟨pb,po⟩:=p;obtain ⟨L,a',c',_,rfl,_⟩:=hy;simp [run_underlying hu]
  ·rename_i e0 p l c l2 c2 hu;cases h
   obtain ⟨pb,po⟩:=p
   obtain ⟨L,a',c',_,rfl,_⟩:=hx;obtain ⟨rfl,_⟩:=hy
   simp [run_underlying hu]
  ·rename_i k0 e0 v hu;cases h;obtain rfl:x=_:=hx
   cases v with
   | none=>obtain rfl:y=_:=hy;simp [run_underlying hu]
   | some p=>obtain ⟨L,_,rfl⟩:=hy;simp [run_underlying hu]
  ·rename_i k0 e0 p hu;cases h;obtain ⟨L,_,rfl⟩:=hx;obtain rfl:y=_:=hy;simp [run_underlying hu]
  ·rename_i hu;cases h;obtain rfl:x=_:=hx;obtain rfl:y=_:=hy;simp [run_underlying hu]
  ·rename_i f0 a0 b0 hu;cases h;obtain rfl:x=_:=hx;obtain ⟨x',y',rfl,_⟩:=hy;simp [run_underlying hu]
  ·rename_i f0 a0 b0 hu;cases h;obtain ⟨x',y',rfl,_⟩:=hx;obtain rfl:y=_:=hy;simp [run_underlying hu]
  ·cases h
theorem vc : ∀(a b:List UInt8),Op.bytesLess a b=eE a b
 | _,[]=>by simp [Op.bytesLess,eE]
 | [],_ :: _=>by simp [Op.bytesLess,eE]
 | a :: x,b :: y=>by simp [Op.bytesLess,eE,vc x y]
theorem Cq {op:BinOp} {k:IntKind} {a b:Int} {v:AV} (t:TypeId) (h:kT op k a b=some v):kz P E w v (binOp op t (.int k a) (.int k b)):=by
 cases op <;> simp only [kT,Option.some.injEq,reduceCtorEq] at h
 case quo =>
  split at h
  ·cases h
  ·rename_i hb;cases h;refine ⟨_,?_,rfl⟩;simp [binOp,Op.intDiv,hb]
 case rem =>
  split at h
  ·cases h
  ·rename_i hb;cases h;refine ⟨_,?_,rfl⟩;simp [binOp,Op.intDiv,hb]
 all_goals (subst h;refine ⟨_,?_,rfl⟩;simp [binOp,Op.intArith,Op.intBits,Op.intCmp])
theorem Cl {op:BinOp} {a b:List UInt8} {v:AV} (t:TypeId) (h:tD op a b=some v):kz P E w v (binOp op t (.string ⟨a.toArray⟩) (.string ⟨b.toArray⟩)):=by
 cases op <;> simp only [tD,Option.some.injEq,reduceCtorEq] at h
 case add =>
  split at h
  ·cases h
  ·rename_i hb
   cases h
   have jN : ∀l:List UInt8,(⟨l.toArray⟩ : ByteArray).size=l.length:=fun l=>rfl
   refine ⟨.string (⟨a.toArray⟩ ++ ⟨b.toArray⟩),?_,?_⟩
   ·simp only [binOp,Op.stringOp,jN]
    rw [if_neg hb];rfl
   ·show _=_
    congr 1
 all_goals (subst h;refine ⟨_,rfl,?_⟩;simp [VR,vc])
theorem rD {op:BinOp} {t:TypeId} {xo yo:Operand} {a b:AV} {x y:Value} (h:cD P t xo yo a b=true) (hx:VR E a x) (hy:VR E b y):(eqGuard op t xo yo x y).run P w=.ok () w:=by
 cases op <;> first | rfl | skip
 all_goals
  unfold eqGuard
  simp only [Bool.not_true,Bool.false_eq_true,if_false]
  split
  ·match a,b,hx,hy,h with
   | .nilIface,.nilIface,_,_,h=>cases xo <;> cases yo <;> first | rfl | (exact absurd h (by simp [cD,qB]))
   | .any,_,_,_,h=>simp [cD] at h
   | .nilIface,.any,_,_,h=>simp [cD] at h
   | .agg _,_,hx,_,_=>obtain ⟨_,e,_⟩:=hx;cases e
  ·match a,b,hx,hy,h with
   | .agg _,.agg _,_,_,h =>
    have h' : P.eqGuardType P.depth t=false:=by simpa [cD] using h
    simp [h']
   | .any,_,_,_,h=>simp [cD] at h
   | .agg _,.any,_,_,h=>simp [cD] at h
  ·rfl
theorem L0 {d:Nat} {t:TypeId} {k:IntKind} {n:Int} {b:AV} {r:Bool} (h:lF P d t (.int k n) b=some r) : ∃k' m,b=.int k' m:=by
 cases d with
 | zero=>simp [lF] at h
 | succ d=>simp only [lF] at h;split at h <;> simp_all
theorem LZ {d:Nat} {t:TypeId} {s:List UInt8} {b:AV} {r:Bool} (h:lF P d t (.str s) b=some r) : ∃u,b=.str u:=by
 cases d with
 | zero=>simp [lF] at h
 | succ d=>simp only [lF] at h;split at h <;> simp_all
theorem Jp {d:Nat} {t:TypeId} {lo:Int} {u:Bool} {b:AV} {r:Bool} (h:lF P d t (.half lo u) b=some r):False:=by
 cases d with
 | zero=>simp [lF] at h
 | succ d=>simp only [lF] at h;split at h <;> simp_all
theorem LY {d:Nat} {t:TypeId} {b:AV} {r:Bool} (h:lF P d t .rm b=some r):False:=by
 cases d with
 | zero=>simp [lF] at h
 | succ d=>simp only [lF] at h;split at h <;> simp_all
theorem L2 {d:Nat} {t:TypeId} {b:AV} {r:Bool} (h:lF P d t .any b=some r):False:=by
 cases d with
 | zero=>simp [lF] at h
 | succ d=>simp only [lF] at h;split at h <;> simp_all
theorem r7 {t:TypeId} {d:Nat} {a b:AV} {x y:Value} {r:Bool} (hr:lF P d t a b=some r) (hx:VR E a x) (h1 : ∀k n k' m,a=.int k n→b=.int k' m→False) (h2 : ∀s u,a=.str s→b=.str u→False) :
  binOp .eql t x y=(do pure (.bool (← Op.equal t x y)))∧binOp .neq t x y=(do pure (.bool (!(← Op.equal t x y)))):=by
 match a,hx with
 | .int k n,_=>obtain ⟨k',m,rfl⟩:=L0 hr;exact (h1 _ _ _ _ rfl rfl).elim
 | .str s,_=>obtain ⟨u,rfl⟩:=LZ hr;exact (h2 _ _ rfl rfl).elim
 | .any,_=>exact (L2 hr).elim
 | .half _ _,_=>exact (Jp hr).elim
 | .rm,_=>exact (LY hr).elim
 | .bool u,hx=>obtain rfl:x=_:=hx;exact ⟨by simp [binOp],by simp [binOp]⟩
 | .ptr none,hx=>obtain rfl:x=_:=hx;exact ⟨by simp [binOp],by simp [binOp]⟩
 | .ptr (some (p,o)),hx=>obtain ⟨L,_,rfl⟩:=hx;exact ⟨by simp [binOp],by simp [binOp]⟩
 | .slice none l c,hx=>obtain ⟨rfl,_⟩:=hx;exact ⟨by simp [binOp],by simp [binOp]⟩
 | .slice (some (p,o)) l c,hx=>obtain ⟨L,a',c',_,rfl,_⟩:=hx;exact ⟨by simp [binOp],by simp [binOp]⟩
 | .func f u v,hx=>obtain ⟨u',v',rfl,_⟩:=hx;exact ⟨by simp [binOp],by simp [binOp]⟩
 | .nilFunc,hx=>obtain rfl:x=_:=hx;exact ⟨by simp [binOp],by simp [binOp]⟩
 | .cY b,hx=>obtain ⟨L,_,rfl⟩:=hx;exact ⟨by simp [binOp],by simp [binOp]⟩
 | .iface u v,hx=>obtain ⟨z,rfl,_⟩:=hx;exact ⟨by simp [binOp],by simp [binOp]⟩
 | .nilIface,hx=>obtain rfl:x=_:=hx;exact ⟨by simp [binOp],by simp [binOp]⟩
 | .agg cs,hx=>obtain ⟨z,rfl,_⟩:=hx;exact ⟨by simp [binOp],by simp [binOp]⟩
 | .tuple cs,hx=>obtain ⟨z,rfl,_⟩:=hx;exact ⟨by simp [binOp],by simp [binOp]⟩
 | .map none,hx=>obtain rfl:x=_:=hx;exact ⟨by simp [binOp],by simp [binOp]⟩
 | .map (some _),hx=>obtain ⟨L,_,rfl⟩:=hx;exact ⟨by simp [binOp],by simp [binOp]⟩
theorem HI {op:BinOp} {t:TypeId} {xo yo:Operand} {a b v:AV} {x y:Value} (h:sJ P op t xo yo a b=some v) (hx:VR E a x) (hy:VR E b y) :
  kz P E w v (do eqGuard op t xo yo x y;binOp op t x y):=by
 unfold sJ at h
 split at h
 ·rename_i k n k' m
  obtain rfl:x=_:=hx;obtain rfl:y=_:=hy
  split at h
  ·cases h
  ·rename_i hm;cases h
   refine ⟨_,?_,rfl⟩
   have:(eqGuard .shl t xo yo (.int k n) (.int k' m)).run P w=.ok () w:=rfl
   simp [this,binOp,Op.shift,hm]
 ·rename_i k n k' m
  obtain rfl:x=_:=hx;obtain rfl:y=_:=hy
  split at h
  ·cases h
  ·rename_i hm;cases h
   refine ⟨_,?_,rfl⟩
   have:(eqGuard .shr t xo yo (.int k n) (.int k' m)).run P w=.ok () w:=rfl
   simp [this,binOp,Op.shift,hm]
 ·rename_i k n k' m h1 h2
  obtain rfl:x=_:=hx;obtain rfl:y=_:=hy
  split at h
  ·rename_i hk;subst hk
   obtain ⟨z,hz,hv⟩:=Cq (P:=P) (E:=E) (w:=w) t h
   have:(eqGuard op t xo yo (.int k n) (.int k m)).run P w=.ok () w:=by cases op <;> rfl
   exact ⟨z,by simp [this,hz],hv⟩
  ·cases h
 ·rename_i s u
  obtain rfl:x=_:=hx;obtain rfl:y=_:=hy
  obtain ⟨z,hz,hv⟩:=Cl (P:=P) (E:=E) (w:=w) t h
  have:(eqGuard op t xo yo (.string ⟨s.toArray⟩) (.string ⟨u.toArray⟩)).run P w=.ok () w:=by cases op <;> rfl
  exact ⟨z,by simp [this,hz],hv⟩
 ·rename_i n lo u
  split at h
  ·rename_i e
   cases h
   obtain rfl:x=_:=hx
   obtain ⟨m,rfl,hb⟩:=hy
   have:(eqGuard .leq t xo yo (.int .i64 n) (.int .i64 m)).run P w=.ok () w:=rfl
   refine ⟨.bool (decide (n≤m)),by simp [this,binOp,Op.intCmp],?_⟩
   have hd:decide (n≤m)=u:=by
    rcases e with ⟨rfl,e⟩ | ⟨rfl,e⟩
    ·simp only [decide_eq_true_eq] at hb ⊢;omega
    ·simp only [decide_eq_false_iff_not] at hb ⊢;omega
   rw [hd];rfl
  ·cases h
 ·rename_i h1 h2
  split at h
  ·rename_i hg
   obtain ⟨r,hr,rfl⟩:=Option.map_eq_some_iff.1 h
   have OO:=rD (w:=w) (op:=.eql) hg hx hy
   have heq:(Op.equal t x y).run P w=.ok r w:=lU 8 Op.maxDepth t a b x y r (by decide) hr hx hy
   refine ⟨.bool r,?_,rfl⟩
   have hb:=(r7 (y:=y) hr hx (fun k n k' m e e'=>h1 k n k' m e e') (fun s u e e'=>h2 s u e e')).1
   simp [OO,hb,heq]
  ·cases h
 ·rename_i h1 h2
  split at h
  ·rename_i hg
   obtain ⟨r,hr,rfl⟩:=Option.map_eq_some_iff.1 h
   have OO:=rD (w:=w) (op:=.neq) hg hx hy
   have heq:(Op.equal t x y).run P w=.ok r w:=lU 8 Op.maxDepth t a b x y r (by decide) hr hx hy
   refine ⟨.bool (!r),?_,rfl⟩
   have hb:=(r7 (y:=y) hr hx (fun k n k' m e e'=>h1 k n k' m e e') (fun s u e e'=>h2 s u e e')).2
   simp [OO,hb,heq]
  ·cases h
 ·cases h
end
end Go.Am
end
/- The abstract machine: what reads no more than a few cells: slices, lengths, assertions. -/
section
namespace Go.Am
open Go.RowKit
section
variable {P:Program} {E:Env} {B:eZ} {H:AH} {w:World}
theorem KH {op:UnOp} {a v:AV} {x:Value} (h:P7 op a=some v) (hx:VR E a x):kz P E w v (Op.unary op x):=by
 unfold P7 at h
 split at h
 ·cases h;obtain rfl:x=_:=hx;exact ⟨_,rfl,rfl⟩
 ·rename_i k n
  obtain rfl:x=_:=hx
  simp only [kT,Option.some.injEq] at h
  subst h
  refine ⟨_,?_,rfl⟩
  simp [Op.unary,Op.intBits]
 ·cases h;obtain rfl:x=_:=hx;exact ⟨_,rfl,rfl⟩
 ·cases h
theorem HF {t ty:TypeId} {a v:AV} {x:Value} (ts:Array TypeId) (xs:Array Value) (ht:ts[0]? = some t) (sD:xs[0]? = some x) (h:AU P t a=some v) (hx:VR E a x):kz P E w v (Builtin.len_ ts ty xs):=by
 unfold AU at h
 split at h
 ·rename_i s hu;cases h;obtain rfl:x=_:=hx
  refine ⟨_,?_,rfl⟩
  simp [Builtin.len_,ht,sD,run_underlying hu,goInt];rfl
 ·rename_i n e hu;cases h
  refine ⟨_,?_,rfl⟩
  simp [Builtin.len_,ht,sD,run_underlying hu,goInt]
 ·rename_i p hu
  split at h
  ·rename_i n e Ra
   cases h
   refine ⟨_,?_,rfl⟩
   simp [Builtin.len_,ht,sD,run_underlying hu,run_underlying Ra,goInt]
  ·cases h
 ·rename_i e p n c hu;cases h
  refine ⟨_,?_,rfl⟩
  cases p with
  | none=>obtain ⟨rfl,_⟩:=hx;simp [Builtin.len_,ht,sD,run_underlying hu,goInt]
  | some p=>obtain ⟨pb,po⟩:=p;obtain ⟨L,a',c',_,rfl,_⟩:=hx;simp [Builtin.len_,ht,sD,run_underlying hu,goInt]
 ·cases h
theorem HG (hH:HR P E B H w) {t ty:TypeId} {a v:AV} {x:Value} (ts:Array TypeId) (xs:Array Value) (ht:ts[0]? = some t) (sD:xs[0]? = some x) (h:JD P H t a=some v) (hx:VR E a x):kz P E w v (Builtin.cap_ ts ty xs):=by
 unfold JD at h
 split at h
 ·rename_i e l c hu;cases h;obtain ⟨rfl,_⟩:=hx
  refine ⟨_,?_,rfl⟩
  simp [Builtin.cap_,ht,sD,run_underlying hu,goInt]
 ·rename_i e b o l c hu
  split at h
  ·rename_i cs e' fl hb
   split at h
   ·cases h
   ·rename_i BU
    cases h
    obtain ⟨L,a',c',hL,rfl,C6,pO,_⟩:=hx
    obtain ⟨L',cv,ho⟩:=hH.obj _ _ hb
    rw [hL] at cv;cases cv
    obtain ⟨X,lo,hi,h1,h2,h3,h4,h5,h6,h7,h8⟩:=ho
    have h0:=h7 (by simpa using BU)
    have:c'=c:=by rcases pO with e | ⟨_,e⟩ <;> omega
    subst this
    refine ⟨_,?_,rfl⟩
    simp [Builtin.cap_,ht,sD,run_underlying hu,goInt]
  ·cases h
 ·cases h
theorem sq {t st:TypeId} {ok:Bool} {a v:AV} {x:Value} (h:jg P t ok a=some v) (hx:VR E a x):kz P E w v (Instr.typeAssert x st t ok):=by
 unfold jg at h
 split at h
 ·obtain rfl:x=_:=hx
  split at h
  ·rename_i d z hu hz
   cases h
   obtain ⟨zx,CZ,ju⟩:=fJ hz E w
   refine ⟨.tuple #[zx,.bool false],?_,_,rfl,zx,_,rfl,ju,_,_,rfl,rfl,rfl⟩
   cases d <;> simp [Instr.typeAssert,run_underlying hu,CZ]
  ·cases h
 ·rename_i ty y
  obtain ⟨z,rfl,hz⟩:=hx
  split at h
  ·cases h
  ·rename_i d IZ hu
   split at h
   ·rename_i he
    subst he
    cases h
    cases ok with
    | true =>
     refine ⟨.tuple #[z,.bool true],?_,_,rfl,z,_,rfl,hz,_,_,rfl,rfl,rfl⟩
     cases d <;> first | (exact absurd rfl (IZ _)) | simp [Instr.typeAssert,run_underlying hu]
    | false =>
     refine ⟨z,?_,hz⟩
     cases d <;> first | (exact absurd rfl (IZ _)) | simp [Instr.typeAssert,run_underlying hu]
   ·rename_i he
    split at h
    ·rename_i oJ
     subst oJ
     obtain ⟨zz,Zp,rfl⟩:=Option.map_eq_some_iff.1 h
     obtain ⟨zx,CZ,ju⟩:=fJ Zp E w
     refine ⟨.tuple #[zx,.bool false],?_,_,rfl,zx,_,rfl,ju,_,_,rfl,rfl,rfl⟩
     cases d <;> first | (exact absurd rfl (IZ _)) | simp [Instr.typeAssert,run_underlying hu,he,CZ]
    ·cases h
  ·cases h
 ·cases h
theorem Aj : ∀ {l:List AV} {a v:AV} {x:Value} {ys:List Value},au (fun y x=>decide (y<x)) a l=some v→VR E a x→aJ E l ys→kz P E w v (ys.foldlM Builtin.min2 x)
 | [],.int k n,v,x,ys,h,hx,hl=>by
  simp only [au,Option.some.injEq] at h
  subst h
  cases hl;obtain rfl:x=_:=hx
  exact ⟨_,by simp,rfl⟩
 | .int k' m :: l,.int k n,v,x,ys,h,hx,hl=>by
  simp only [au] at h
  obtain ⟨y,vW,rfl,hy,hl⟩:=hl
  obtain rfl:x=_:=hx;obtain rfl:y=_:=hy
  obtain ⟨z,hz,hv⟩:=Aj h (show VR E _ (.int k (if m<n then m else n)) by simp [VR]) hl
  exact ⟨z,by simp [Builtin.min2,hz],hv⟩
 | .bool _ :: _,.int _ _,_,_,_,h,_,_=>by simp [au] at h
 | .str _ :: _,.int _ _,_,_,_,h,_,_=>by simp [au] at h
 | .ptr _ :: _,.int _ _,_,_,_,h,_,_=>by simp [au] at h
 | .slice _ _ _ :: _,.int _ _,_,_,_,h,_,_=>by simp [au] at h
 | .func _ _ _ :: _,.int _ _,_,_,_,h,_,_=>by simp [au] at h
 | .nilFunc :: _,.int _ _,_,_,_,h,_,_=>by simp [au] at h
 | .cY _ :: _,.int _ _,_,_,_,h,_,_=>by simp [au] at h
 | .iface _ _ :: _,.int _ _,_,_,_,h,_,_=>by simp [au] at h
 | .nilIface :: _,.int _ _,_,_,_,h,_,_=>by simp [au] at h
 | .agg _ :: _,.int _ _,_,_,_,h,_,_=>by simp [au] at h
 | .tuple _ :: _,.int _ _,_,_,_,h,_,_=>by simp [au] at h
 | .map _ :: _,.int _ _,_,_,_,h,_,_=>by simp [au] at h
 | .half _ _ :: _,.int _ _,_,_,_,h,_,_=>by simp [au] at h
 | .rm :: _,.int _ _,_,_,_,h,_,_=>by simp [au] at h
 | .any :: _,.int _ _,_,_,_,h,_,_=>by simp [au] at h
 | _,.bool _,_,_,_,h,_,_=>by simp [au] at h
 | _,.map _,_,_,_,h,_,_=>by simp [au] at h
 | _,.half _ _,_,_,_,h,_,_=>by simp [au] at h
 | _,.rm,_,_,_,h,_,_=>by simp [au] at h
 | _,.str _,_,_,_,h,_,_=>by simp [au] at h
 | _,.ptr _,_,_,_,h,_,_=>by simp [au] at h
 | _,.slice _ _ _,_,_,_,h,_,_=>by simp [au] at h
 | _,.func _ _ _,_,_,_,h,_,_=>by simp [au] at h
 | _,.nilFunc,_,_,_,h,_,_=>by simp [au] at h
 | _,.cY _,_,_,_,h,_,_=>by simp [au] at h
 | _,.iface _ _,_,_,_,h,_,_=>by simp [au] at h
 | _,.nilIface,_,_,_,h,_,_=>by simp [au] at h
 | _,.agg _,_,_,_,h,_,_=>by simp [au] at h
 | _,.tuple _,_,_,_,h,_,_=>by simp [au] at h
 | _,.any,_,_,_,h,_,_=>by simp [au] at h
theorem Ak : ∀ {l:List AV} {a v:AV} {x:Value} {ys:List Value},au (fun y x=>decide (y > x)) a l=some v→VR E a x→aJ E l ys→kz P E w v (ys.foldlM Builtin.max2 x)
 | [],.int k n,v,x,ys,h,hx,hl=>by
  simp only [au,Option.some.injEq] at h
  subst h
  cases hl;obtain rfl:x=_:=hx
  exact ⟨_,by simp,rfl⟩
 | .int k' m :: l,.int k n,v,x,ys,h,hx,hl=>by
  simp only [au] at h
  obtain ⟨y,vW,rfl,hy,hl⟩:=hl
  obtain rfl:x=_:=hx;obtain rfl:y=_:=hy
  obtain ⟨z,hz,hv⟩:=Ak h (show VR E _ (.int k (if m > n then m else n)) by simp [VR]) hl
  exact ⟨z,by simp [Builtin.max2,hz],hv⟩
 | .bool _ :: _,.int _ _,_,_,_,h,_,_=>by simp [au] at h
 | .str _ :: _,.int _ _,_,_,_,h,_,_=>by simp [au] at h
 | .ptr _ :: _,.int _ _,_,_,_,h,_,_=>by simp [au] at h
 | .slice _ _ _ :: _,.int _ _,_,_,_,h,_,_=>by simp [au] at h
 | .func _ _ _ :: _,.int _ _,_,_,_,h,_,_=>by simp [au] at h
 | .nilFunc :: _,.int _ _,_,_,_,h,_,_=>by simp [au] at h
 | .cY _ :: _,.int _ _,_,_,_,h,_,_=>by simp [au] at h
 | .iface _ _ :: _,.int _ _,_,_,_,h,_,_=>by simp [au] at h
 | .nilIface :: _,.int _ _,_,_,_,h,_,_=>by simp [au] at h
 | .agg _ :: _,.int _ _,_,_,_,h,_,_=>by simp [au] at h
 | .tuple _ :: _,.int _ _,_,_,_,h,_,_=>by simp [au] at h
 | .map _ :: _,.int _ _,_,_,_,h,_,_=>by simp [au] at h
 | .half _ _ :: _,.int _ _,_,_,_,h,_,_=>by simp [au] at h
 | .rm :: _,.int _ _,_,_,_,h,_,_=>by simp [au] at h
 | .any :: _,.int _ _,_,_,_,h,_,_=>by simp [au] at h
 | _,.bool _,_,_,_,h,_,_=>by simp [au] at h
 | _,.map _,_,_,_,h,_,_=>by simp [au] at h
 | _,.half _ _,_,_,_,h,_,_=>by simp [au] at h
 | _,.rm,_,_,_,h,_,_=>by simp [au] at h
 | _,.str _,_,_,_,h,_,_=>by simp [au] at h
 | _,.ptr _,_,_,_,h,_,_=>by simp [au] at h
 | _,.slice _ _ _,_,_,_,h,_,_=>by simp [au] at h
 | _,.func _ _ _,_,_,_,h,_,_=>by simp [au] at h
 | _,.nilFunc,_,_,_,h,_,_=>by simp [au] at h
 | _,.cY _,_,_,_,h,_,_=>by simp [au] at h
 | _,.iface _ _,_,_,_,h,_,_=>by simp [au] at h
 | _,.nilIface,_,_,_,h,_,_=>by simp [au] at h
 | _,.agg _,_,_,_,h,_,_=>by simp [au] at h
 | _,.tuple _,_,_,_,h,_,_=>by simp [au] at h
 | _,.any,_,_,_,h,_,_=>by simp [au] at h
theorem fc {b:Bool} {len Pb u5 l h m:Nat} {lo hi mx:Option AV} {QG wY QC:Option Value} (GO:Mv E lo QG) (Ng:Mv E hi wY) (M8:Mv E mx QC)
  (el:eS 0 lo=some l) (eh:eS len hi=some h) (em:eS Pb mx=some m) (h1:l≤h) (h2:h≤m) (h3:m≤Pb) (h4:Pb≤u5) (h5:mx.isSome→hi.isSome) :
  (Instr.sliceBounds b len u5 QG wY QC).run P w=.ok (l,h,if mx.isSome then m else u5) w:=by
 have key : ∀ {d n:Nat} {o:Option AV} {o' : Option Value},Mv E o o'→eS d o=some n→(o=none∧o'=none∧n=d)∨(∃k i,o'=some (.int k i)∧o.isSome=true∧0≤i∧i.toNat=n):=by
  intro d n o o' ho hn
  cases o with
  | none=>cases ho;simp only [eS,Option.some.injEq] at hn;exact .inl ⟨rfl,rfl,hn.symm⟩
  | some a =>
   obtain ⟨y,rfl,hy⟩:=ho
   cases a <;> simp only [eS,reduceCtorEq] at hn
   split at hn
   ·rename_i k i hi
    cases hn
    obtain rfl:y=_:=hy
    exact .inr ⟨_,_,rfl,rfl,hi,rfl⟩
   ·cases hn
 have bound : ∀ {k:IntKind} {i:Int} {y:Nat} {c:BoundsCode},0≤i→i.toNat≤y→(Instr.sliceBound (.int k i) y c).run P w=.ok i.toNat w:=by
  intro k i y c h0 hy
  have:0≤i∧i≤y:=⟨h0,by omega⟩
  simp [Instr.sliceBound,asIntOf,this]
 rcases key GO el with ⟨rfl,rfl,rfl⟩ | ⟨kl,il,rfl,_,wX,rfl⟩ <;> rcases key Ng eh with ⟨rfl,rfl,rfl⟩ | ⟨kh,ih,rfl,hs,Tq,rfl⟩ <;> rcases key M8 em with ⟨rfl,rfl,rfl⟩ | ⟨km,im,rfl,I4,M9,rfl⟩
 ·simp [Instr.sliceBounds]
 ·simp [I4] at h5
 ·have:=bound (k:=kh) (c:=if b then .sliceAcap else .sliceAlen) Tq (show ih.toNat≤u5 by omega)
  simp [Instr.sliceBounds,this]
 ·have e1:=bound (k:=km) (c:=if b then .slice3Acap else .slice3Alen) M9 (show im.toNat≤u5 by omega)
  have e2:=bound (k:=kh) (c:=.slice3B) Tq h2
  simp [Instr.sliceBounds,e1,e2,I4]
 ·have:=bound (k:=kl) (c:=.sliceB) wX h1
  simp [Instr.sliceBounds,this]
 ·simp [I4] at h5
 ·have e1:=bound (k:=kh) (c:=if b then .sliceAcap else .sliceAlen) Tq (show ih.toNat≤u5 by omega)
  have e2:=bound (k:=kl) (c:=.sliceB) wX h1
  simp [Instr.sliceBounds,e1,e2]
 ·have e1:=bound (k:=km) (c:=if b then .slice3Acap else .slice3Alen) M9 (show im.toNat≤u5 by omega)
  have e2:=bound (k:=kh) (c:=.slice3B) Tq h2
  have e3:=bound (k:=kl) (c:=.slice3C) wX h1
  simp [Instr.sliceBounds,e1,e2,e3,I4]
theorem Cn (hH:HR P E B H w) {t:TypeId} {a v:AV} {x:Value} {lo hi mx:Option AV} {QG wY QC:Option Value} (h:bZ P H t a lo hi mx=some v) (hx:VR E a x)
  (GO:Mv E lo QG) (Ng:Mv E hi wY) (M8:Mv E mx QC):kz P E w v (Instr.sliceAt t x QG wY QC):=by
 unfold bZ at h
 split at h
 ·rename_i s hu
  obtain rfl:x=_:=hx
  split at h
  ·cases h
  ·rename_i I4
   obtain ⟨l,el,h⟩:=Option.bind_eq_some_iff.1 h
   obtain ⟨hh,eh,h⟩:=Option.bind_eq_some_iff.1 h
   split at h
   ·rename_i hc
    cases h
    have Va:mx=none:=by cases mx <;> simp_all
    subst Va
    cases M8
    have hb:=fc (P:=P) (w:=w) (b:=false) (u5:=s.length) GO Ng (show Mv E none none from rfl) el eh (show eS s.length none=some s.length from rfl) hc.1 hc.2 (Nat.le_refl _) (Nat.le_refl _) (by simp)
    refine ⟨.string ((⟨s.toArray⟩ : ByteArray).extract l hh),?_,?_⟩
    ·have jN:(⟨s.toArray⟩ : ByteArray).size=s.length:=rfl
     simp [Instr.sliceAt,run_underlying hu,Instr.slice,jN,hb]
    ·show _=_
     congr 1
     apply ByteArray.ext
     have:((⟨s.toArray⟩ : ByteArray).extract l hh).data=s.toArray.extract l hh:=by simp [ByteArray.data_extract]
     rw [this]
     apply Array.ext'
     simp [List.extract_eq_take_drop]
   ·cases h
 ·rename_i e p len cap hu
  obtain ⟨l,el,h⟩:=Option.bind_eq_some_iff.1 h
  obtain ⟨hh,eh,h⟩:=Option.bind_eq_some_iff.1 h
  obtain ⟨m,em,h⟩:=Option.bind_eq_some_iff.1 h
  split at h
  ·rename_i hc
   obtain ⟨h1,h2,h3,h5⟩:=hc
   cases hs:bY P e with
   | none=>rw [hs] at h;cases p <;> simp at h
   | some s =>
   rw [hs] at h
   cases p with
   | none =>
    simp only [Option.some.injEq] at h
    subst h
    obtain ⟨rfl,C6⟩:=hx
    have hb:=fc (P:=P) (w:=w) (b:=true) (u5:=cap) GO Ng M8 el eh em h1 h2 h3 (Nat.le_refl _) h5
    have hm:(if mx.isSome=true then m else cap)=m:=by
     cases mx with
     | none=>simp only [eS,Option.some.injEq] at em;simp [em]
     | some _=>rfl
    rw [hm] at hb
    refine ⟨.slice none (hh - l) (m - l),?_,rfl,by omega⟩
    simp [Instr.sliceAt,run_underlying hu,Instr.slice,hb,aN hs]
   | some p =>
    obtain ⟨b,o⟩:=p
    simp only at h
    split at h
    ·rename_i fU
     cases h
     obtain ⟨L,a',c',hL,rfl,C6,pO,lA,ha⟩:=hx
     have hle:cap≤c':=by rcases pO with e | ⟨_,e⟩ <;> omega
     have hb:=fc (P:=P) (w:=w) (b:=true) (u5:=c') GO Ng M8 el eh em h1 h2 h3 hle h5
     refine ⟨.slice (some (if (if mx.isSome=true then m else c')=l then a' else a'.add (l*s))) (hh - l) ((if mx.isSome=true then m else c') - l),?_,?_⟩
     ·generalize (if mx.isSome=true then m else c')=M at hb ⊢
      simp only [Instr.sliceAt,Sem.run_bind,run_underlying hu,Result.andThen_ok,Instr.slice,hb,aN hs,Sem.run_pure]
      congr 2
      by_cases PF:M=l <;> simp [PF]
     ·generalize hM:(if mx.isSome=true then m else c')=M
      have X7:l≤M:=by split at hM <;> omega
      refine ⟨L,_,_,hL,rfl,by omega,?_,?_,?_⟩
      ·
       have hMm:M=m∨(mx=none∧M=c'∧m=cap):=by
        cases mx with
        | none=>simp only [eS,Option.some.injEq] at em;exact .inr ⟨rfl,by simpa using hM.symm,em.symm⟩
        | some _=>exact .inl (by simpa using hM.symm)
       rcases hMm with rfl | ⟨rfl,rfl,rfl⟩
       ·exact .inl rfl
       ·rcases pO with rfl | ⟨he,rfl⟩
        ·exact .inl rfl
        ·by_cases hex:L.extra=0
         ·exact .inl (by omega)
         ·refine .inr ⟨?_,by omega⟩
          rcases fU with rfl | fU
          ·simpa using he
          ·unfold AH.steps at fU
           split at fU
           ·rename_i cs e' fl dM
            obtain ⟨L',cv,X,S6,Bg,q1,q2,q3,q4,q5,q6,q7,q8⟩:=hH.obj _ _ dM
            rw [hL] at cv;cases cv
            have IY:fl.fD=true:=by
             cases ho:fl.fD with
             | true=>rfl
             | false=>exact absurd (q7 ho) hex
            simp only [IY,Bool.not_true,Bool.false_or,beq_iff_eq] at fU
            have:=kZ fU
            have ZI:s=L.Ns:=by omega
            subst ZI
            rw [← he,Nat.sub_mul]
            have:l*L.Ns≤m*L.Ns:=Nat.mul_le_mul_right _ (by omega)
            omega
           ·cases fU
      ·split
       ·exact lA
       ·unfold Addr.add;split <;> simp_all
      ·by_cases PF:M=l
       ·exact .inr (by omega)
       ·rw [if_neg PF]
        have GR:c' ≠ 0:=by
         intro h0
         have:M=m∨M=c':=by split at hM <;> simp_all
         rcases this with rfl | rfl <;> omega
        rcases ha with rfl | h0
        ·exact .inl (by rw [fS,Nat.add_assoc])
        ·exact absurd h0 GR
    ·cases h
  ·cases h
 ·rename_i n e b o hu
  obtain ⟨l,el,h⟩:=Option.bind_eq_some_iff.1 h
  obtain ⟨hh,eh,h⟩:=Option.bind_eq_some_iff.1 h
  obtain ⟨m,em,h⟩:=Option.bind_eq_some_iff.1 h
  split at h
  ·rename_i hc
   obtain ⟨h1,h2,h3,h5⟩:=hc
   split at h
   ·rename_i s cs e' fl hs dM
    split at h
    ·cases h
    ·rename_i BU
     cases h
     obtain ⟨L,hL,rfl⟩:=hx
     have hb:=fc (P:=P) (w:=w) (b:=false) (u5:=n) GO Ng M8 el eh em h1 h2 h3 (Nat.le_refl _) h5
     have hm:(if mx.isSome=true then m else n)=m:=by
      cases mx with
      | none=>simp only [eS,Option.some.injEq] at em;simp [em]
      | some _=>rfl
     rw [hm] at hb
     refine ⟨.slice (some (if m=l then ⟨L.bH,L.off+o,none⟩ else (⟨L.bH,L.off+o,none⟩ : Addr).add (l*s))) (hh - l) (m - l),?_,L,_,m - l,hL,rfl,by omega,.inl rfl,?_,?_⟩
     ·simp [Instr.sliceAt,run_underlying hu,Instr.sureAddr,hb,aN hs]
     ·split
      ·rfl
      ·rw [fS]
     ·by_cases PF:m=l
      ·exact .inr (by omega)
      ·rw [if_neg PF,fS];exact .inl (by rw [Nat.add_assoc])
   ·cases h
  ·cases h
 ·cases h
end
end Go.Am
end
/- The abstract machine: what makes and turns blocks. -/
section
namespace Go.Am
open Go.RowKit
section
variable {P:Program} {E:Env} {B:eZ} {H:AH} {w:World}
def Made (P:Program) (E:Env) (B:eZ) (w:World) (v:AV) (H' : AH) (s:Sem Value):Prop :=
 ∃x w' E',s.run P w=.ok x w'∧E.le E'∧VR E' v x∧HR P E' B H' w'∧Below B w w'
theorem kz.made (hH:HR P E B H w) {v:AV} {s:Sem Value} (h:kz P E w v s):Made P E B w v H s:=by
 obtain ⟨x,hx,hv⟩:=h
 exact ⟨x,w,E,hx,Env.le.refl E,hv,hH,Below.refl B w⟩
theorem kN (hH:HR P E B H w) {cs:List AV} {X:Array Value} {e:TypeId} {fl:Fl} {extra:Nat} (hX:aJ E cs (X.toList.take cs.length)) (gh : ∀v ∈ cs,v.one=true)
  (jN:cs.length+extra*P.cellsOf e≤X.size) (hex:fl.fD=false→extra=0) (lo hi:Nat) (OQ : ∀k,k<X.size→¬ (lo≤k∧k<hi)) (UP:fl.lC=false→lo=hi∨hi≤fl.fz) (Tf:fl.whole=true→X.size=cs.length∧lo=hi:=by intro h;cases h) :
  E.le (E.put H.n ⟨w.heap.size,0,cs.length,P.cellsOf e,extra⟩) ∧
  HR P (E.put H.n ⟨w.heap.size,0,cs.length,P.cellsOf e,extra⟩) B (H.alloc (.cells cs e fl)) (w.alloc (.cells X e (lo,hi)))∧Below B w (w.alloc (.cells X e (lo,hi))):=by
 have hle:=hH.eI ⟨w.heap.size,0,cs.length,P.cellsOf e,extra⟩
 refine ⟨hle,hH.alloc rfl ?_,(Below.refl B w).alloc hH.base _⟩
 refine ⟨X,lo,hi,by simpa using World.alloc_heap_new w _,rfl,rfl,by simpa using jN,?_,fun _=>⟨hH.fresh,fun k _ h2=>OQ k h2,by simpa using UP⟩,hex,gh,fun h=>⟨rfl,(Tf h).1,fun _ _=>(Tf h).2⟩⟩
 simpa using aJ.mono hle _ _ hX
theorem fK (b:Nat) (L:Loc):(E.put b L) b=some L:=by simp [Env.put]
theorem Cu (hH:HR P E B H w) {e:TypeId} {z:AV} (hz:zeroOf P e=some z) (h1:z.cells.all AV.one=true) :
  Made P E B w (.ptr (some (H.n,0))) (H.alloc (.cells z.cells e { whole:=true })) (Instr.alloc e true (.tuple #[])):=by
 obtain ⟨x,hx,hv⟩:=fJ hz E w
 have hc:=hv.cells (cO hz)
 obtain ⟨k1,k2,k3⟩:=kN hH (X:=x.cells) (e:=e) (fl:={ whole:=true }) (extra:=0) (by rw [hc.length,List.take_length];exact hc) (by simpa using h1) (by have:=hc.length;simp at this;omega) (fun _=>rfl) 0 0 (by omega) (by simp) (fun _=>⟨by have:=hc.length;simp at this;omega,rfl⟩)
 exact ⟨.pointer (some ⟨w.heap.size,0,none⟩),_,_,by simp [Instr.alloc,hx,newVar,newRow],k1,⟨_,fK _ _,rfl⟩,k2,k3⟩
theorem HH (hH:HR P E B H w) {e:TypeId} {v:AV} {x:Value} (hv:VR E v x) (h1:v.cells.all AV.one=true) :
  Made P E B w (.ptr (some (H.n,0))) (H.alloc (.cells v.cells e { whole:=true })) (Instr.box e x):=by
 have hc:=hv.cells (AV.l6 h1)
 obtain ⟨k1,k2,k3⟩:=kN hH (X:=x.cells) (e:=e) (fl:={ whole:=true }) (extra:=0) (by rw [hc.length,List.take_length];exact hc) (by simpa using h1) (by have:=hc.length;simp at this;omega) (fun _=>rfl) 0 0 (by omega) (by simp) (fun _=>⟨by have:=hc.length;simp at this;omega,rfl⟩)
 exact ⟨.pointer (some ⟨w.heap.size,0,none⟩),_,_,by simp [Instr.box,newVar,newRow],k1,⟨_,fK _ _,rfl⟩,k2,k3⟩
theorem xI (zs:Array Value) : ∀n:Nat,0<zs.size→((Array.range (n*zs.size)).map fun i=>zs[i % zs.size]!).toList=(List.replicate n zs.toList).flatten:=by
 intro n h
 induction n with
 | zero=>simp
 | succ n ih =>
  rw [List.replicate_succ',List.flatten_append,← ih]
  apply List.ext_getElem?
  intro i
  simp only [Array.toList_map,Array.toList_range,List.getElem?_map]
  by_cases h1:i<n*zs.size
  ·rw [List.getElem?_append_left (by simpa using h1)]
   simp [h1,show i<(n+1)*zs.size by rw [Nat.succ_mul];omega]
  ·rw [List.getElem?_append_right (by simpa using h1)]
   by_cases h2:i<(n+1)*zs.size
   ·have h3:i - n*zs.size<zs.size:=by rw [Nat.succ_mul] at h2;omega
    have h4:i % zs.size=i - n*zs.size:=by
     have:i=zs.size*n+(i - n*zs.size):=by rw [Nat.mul_comm];omega
     rw [this,Nat.mul_add_mod,Nat.mod_eq_of_lt h3]
     rw [Nat.mul_comm];omega
    simp [h2,h4,h3]
   ·have h3 : ¬ i - n*zs.size<zs.size:=by rw [Nat.succ_mul] at h2;omega
    rw [List.getElem?_eq_none (by simp;omega),List.getElem?_eq_none (by simp;omega)]
    rfl
theorem oW {z:List AV} {zs:List Value} (h:aJ E z zs) : ∀n,aJ E (cJ z n) (List.replicate n zs).flatten
 | 0=>rfl
 | n+1=>by rw [List.replicate_succ,List.flatten_cons];exact h.append (oW h n)
theorem jJ {z:List AV} (h : ∀v ∈ z,v.one=true) : ∀n,∀v ∈ cJ z n,v.one=true
 | 0,v,hv=>by cases hv
 | n+1,v,hv=>by
  rcases List.mem_append.1 hv with hv | hv
  ·exact h v hv
  ·exact jJ h n v hv
theorem xh : ∀ {place:Nat→Option (Nat×Nat)} {parts:List (Nat×AV)} {cs r:List AV},mB place cs parts=some r→(∀v ∈ cs,v.one=true)→parts.all (fun p=>p.2.cells.all AV.one)=true→∀v ∈ r,v.one=true
 | _,[],cs,r,h,hc,_=>by simp only [mB,Option.some.injEq] at h;subst h;exact hc
 | place,(i,x) :: parts,cs,r,h,hc,hp=>by
  simp only [mB] at h
  simp only [List.all_cons,Bool.and_eq_true] at hp
  split at h
  ·cases h
  ·split at h
   ·exact xh h (rq hc (by simpa using hp.1)) hp.2
   ·cases h
theorem DD {s:Nat} {z:AV} {zx:Value} (zM:VR E z zx) (Zq:z.isAny=false) (hl:z.cells.length=s) (h0:0<s) (n:Nat) :
  aJ E (cJ z.cells n) ((Array.range (n*s)).map fun i=>zx.cells[i % zx.cells.size]!).toList:=by
 have hc:=zM.cells Zq
 have PK:=hc.length
 simp only [Array.length_toList] at PK
 have hs:zx.cells.size=s:=by omega
 subst hs
 have:=xI zx.cells n h0
 rw [this]
 exact oW hc n
theorem sr (hH:HR P E B H w) {t:TypeId} {len:Nat} {parts:List (Nat×AV)} {lY:List (Nat×Value)} {v:AV} {H' : AH} (h:gS P H t len parts=some (v,H')) (hp:NC E parts lY) :
  Made P E B w v H' (Instr.buildSlice t len lY.toArray):=by
 unfold gS at h
 split at h
 ·rename_i e hu
  split at h
  ·rename_i s z hs hz
   split at h
   ·rename_i hc
    obtain ⟨h1,h2,h3,h4,h5⟩:=hc
    obtain ⟨cs,hf,h⟩:=Option.map_eq_some_iff.1 h
    cases h
    obtain ⟨zx,J3,zM⟩:=fJ hz E w
    have QU:=DD zM (cO hz) h2 h3 len
    obtain ⟨r,hr,Ox⟩:=pT hp QU hf
    have hlen:r.size=cs.length:=by rw [Ox.length];simp
    obtain ⟨k1,k2,k3⟩:=kN hH (X:=r) (e:=e) (fl:={ whole:=true }) (extra:=0) (by rw [Ox.length,List.take_length];exact Ox) (xh hf (jJ (by simpa using h4) _) h5) (by omega) (fun _=>rfl) 0 0 (by omega) (by simp) (fun _=>⟨hlen,rfl⟩)
    refine ⟨.slice (some ⟨w.heap.size,0,none⟩) len len,_,_,?_,k1,⟨_,_,_,fK _ _,rfl,Nat.le_refl _,.inl rfl,rfl,.inl rfl⟩,k2,k3⟩
    have dx:((Array.range (len*s)).map fun i=>(if len*s=0 then #[] else zx.cells)[i % (if len*s=0 then (#[]:Array Value) else zx.cells).size]!)=((Array.range (len*s)).map fun i=>zx.cells[i % zx.cells.size]!):=by
     by_cases h0:len*s=0
     ·simp [h0]
     ·simp [h0]
    simp only [Instr.buildSlice,Sem.run_bind,run_underlying hu,aN hs,Result.andThen_ok]
    rw [if_neg (by omega)]
    have e0:Array.range 0 = #[]:=rfl
    by_cases h0:len*s=0
    ·rw [h0,e0] at hr
     simp at hr
     simp [h0,hr,newRow,e0]
    ·simp [h0,J3,hr,newRow]
   ·cases h
  ·cases h
 ·cases h
theorem tP (hH:HR P E B H w) {t:TypeId} {l c:AV} {x y:Value} {v:AV} {H' : AH} (h:cP P H t l c=some (v,H')) (hx:VR E l x) (hy:VR E c y) :
  Made P E B w v H' (Instr.makeSlice t x y):=by
 unfold cP at h
 split at h
 ·rename_i e l c hu
  obtain rfl:x=_:=hx;obtain rfl:y=_:=hy
  split at h
  ·rename_i s nA z hs J8 hz
   split at h
   ·rename_i hc
    obtain ⟨h1,h2,h3,h4,h5,h6,h7⟩:=hc
    cases h
    obtain ⟨zx,J3,zM⟩:=fJ hz E w
    obtain ⟨i,hi,RE⟩:=xx J8
    have MU : ∀q:Int,0≤q→q<2 ^ 62→IntKind.i64.wrap q=q:=by
     intro q h0 h1
     simp only [IntKind.wrap,IntKind.bits,IntKind.signed]
     have:q % (2:Int) ^ 64=q:=Int.emod_eq_of_lt h0 (by omega)
     simp only [this,Bool.true_and]
     rw [if_neg (by simp;omega)]
    have UH:=MU l h1 (by omega)
    have Zw:=MU c (by omega) h4
    have QU:=DD zM (cO hz) h5 h6 c.toNat
    obtain ⟨k1,k2,k3⟩:=kN hH (X:=(Array.range (c.toNat*s)).map fun i=>zx.cells[i % zx.cells.size]!) (e:=e) (fl:={}) (extra:=0)
     (by rw [QU.length,List.take_length];exact QU) (jJ (by simpa using h7) _) (by have:=QU.length;simp at this ⊢;omega) (fun _=>rfl) 0 0 (by omega) (by simp)
    refine ⟨.slice (some ⟨w.heap.size,0,none⟩) l.toNat c.toNat,_,_,?_,k1,⟨_,_,_,fK _ _,rfl,by omega,.inl rfl,rfl,.inl rfl⟩,k2,k3⟩
    have Rb : ¬ (c<0):=by omega
    have UM : ¬ ((i.bytes:Int)*c > 2 ^ 48):=by rw [RE];omega
    simp only [Instr.makeSlice,Sem.run_bind,run_underlying hu,Result.andThen_ok,asInt,asIntOf,Sem.run_pure,eP hi,UH,Zw]
    have ZE : ¬ (l<0):=by omega
    have ZD : ¬ (l > c):=by omega
    rw [if_neg (by simp only [Bool.or_eq_true,decide_eq_true_eq,not_or];exact ⟨⟨⟨Rb,UM⟩,ZE⟩,ZD⟩)]
    by_cases h0:c.toNat*s=0
    ·have e0:Array.range 0 = #[]:=rfl
     have hr:((Array.range (c.toNat*s)).map fun i=>zx.cells[i % zx.cells.size]!) = #[]:=by rw [h0,e0];simp
     rw [hr]
     simp [aN hs,h0,newRow,e0]
    ·simp [aN hs,h0,J3,newRow]
   ·cases h
  ·cases h
 ·cases h
theorem Cm (hH:HR P E B H w) {t:TypeId} {a v:AV} {x y:Value} {H' : AH} (h:tE P H t a v=some H') (hx:VR E a x) (hy:VR E v y) :
  ∃w',(Instr.storeAt t x y).run P w=.ok () w'∧HR P E B H' w'∧Below B w w':=by
 unfold tE at h
 split at h
 ·rename_i b o
  obtain ⟨L,hL,rfl⟩:=hx
  split at h
  ·rename_i hs
   have Zr:v.isAny=false:=by
    unfold AH.write at h
    split at h
    ·split at h
     ·rename_i hq;exact AV.l6 hq.2.2.2
     ·cases h
    ·cases h
   have hc:=hy.cells Zr
   obtain ⟨L',w',cv,dx,h1,h2⟩:=mT hH h hc
   rw [hL] at cv;cases cv
   have hl:=hc.length
   simp only [Array.length_toList] at hl
   refine ⟨w',?_,h1,h2⟩
   have jN:(sizeOf t).run P w=.ok v.cells.length w:=aN hs.symm w
   simp [Instr.storeAt,Instr.sureAddr,storeVar,jN,hl,dx]
  ·cases h
 ·cases h
theorem Ai (hH:HR P E B H w) {s:Nat} {y:AV} {yx:Value} {n:Nat} {new:List AV} (h:nY H s y=some (n,new)) (hy:VR E y yx) :
  ∃ys,aJ E new ys∧new.length=n*s∧(∀w,(Builtin.lenOf yx).run P w=.ok n w)∧∀w',w'.heap=w.heap→∀m,m≤n→(Builtin.firstCells s m yx).run P w'=.ok (ys.take (m*s)).toArray w':=by
 unfold nY at h
 split at h
 ·rename_i x
  obtain rfl:yx=_:=hy
  split at h
  ·rename_i hs
   cases h
   subst hs
   refine ⟨_,aJ.bytes x,by simp [aC],fun _=>rfl,fun w' _ m hm=>?_⟩
   have hd:((⟨x.toArray⟩ : ByteArray).extract 0 m).data=(x.take m).toArray:=by
    rw [ByteArray.data_extract];apply Array.ext';simp [List.extract_eq_take_drop]
   simp only [Builtin.firstCells,Sem.run_pure,hd]
   simp [List.map_take]
  ·cases h
 ·rename_i l c
  split at h
  ·rename_i wX
   cases h
   subst wX
   obtain ⟨rfl,hl⟩:=hy
   exact ⟨[],rfl,by simp,fun _=>rfl,fun w' _ m hm=>by simp [Builtin.firstCells]⟩
  ·cases h
 ·rename_i b o n' c
  obtain ⟨cs,hr,h⟩:=Option.map_eq_some_iff.1 h
  cases h
  obtain ⟨L,a',c',hL,rfl,C6,pO,lA,ha⟩:=hy
  obtain ⟨vS,e,fl,hb,hle,rfl⟩:=AH.wv hr
  obtain ⟨L',cv,ho⟩:=hH.obj _ _ hb
  rw [hL] at cv;cases cv
  obtain ⟨Pq,h1,h2⟩:=Ax ho
  refine ⟨(Pq.drop o).take (n*s),(h1.drop o).take _,by simp;omega,fun _=>rfl,fun w' Oo m hm=>?_⟩
  have I4:m*s≤n*s:=Nat.mul_le_mul_right _ hm
  rcases ha with rfl | h0
  ·rw [List.take_take,Nat.min_eq_left I4]
   exact h2 w' Oo o (m*s) (by omega)
  ·have:m=0:=by rcases pO with e | ⟨_,e⟩ <;> omega
   subst this
   have wX:(loadCells a' 0).run P w'=.ok #[] w':=rfl
   simp [Builtin.firstCells,wX]
 ·cases h
theorem Fb (hH:HR P E B H w) {t ty:TypeId} {ts:Array TypeId} {a y v:AV} {x yx:Value} {xs:Array Value} {H' : AH} (ht:ts[0]? = some t) (J6:xs[0]? = some x) (vu:xs[1]? = some yx)
  (h:copyV P H t a y=some (v,H')) (hx:VR E a x) (hy:VR E y yx):Made P E B w v H' (Builtin.copy_ ts ty xs):=by
 unfold copyV at h
 split at h
 ·rename_i e p vQ cap hu
  split at h
  ·rename_i s hs
   obtain ⟨⟨m,new⟩,FY,h⟩:=Option.bind_eq_some_iff.1 h
   obtain ⟨ys,h1,h2,h3,h4⟩:=Ai hH FY hy
   have h5:=h4 w rfl (min m vQ) (Nat.min_le_left _ _)
   have Rt:Nat.min m vQ=min m vQ:=rfl
   dsimp only at h
   cases p with
   | none =>
    dsimp only at h
    split at h
    ·rename_i M7
     cases h
     obtain ⟨rfl,_⟩:=hx
     refine kz.made hH ⟨.int .i64 0,?_,rfl⟩
     rw [M7] at h5
     simp [Builtin.copy_,ht,J6,vu,run_underlying hu,h3,Rt,M7,aN hs,h5,goInt]
    ·cases h
   | some p =>
    obtain ⟨b,o⟩:=p
    dsimp only at h
    obtain ⟨H2,hw,h⟩:=Option.map_eq_some_iff.1 h
    cases h
    obtain ⟨L,a',c',hL,rfl,C6,pO,lA,ha⟩:=hx
    obtain ⟨L',w',cv,dx,iF,hB⟩:=mT hH hw (h1.take (min m vQ*s))
    rw [hL] at cv;cases cv
    refine ⟨.int .i64 (min m vQ:Nat),w',E,?_,Env.le.refl E,rfl,iF,hB⟩
    have fU:(storeCells a' (ys.take (min m vQ*s))).run P w=.ok () w':=by
     rcases ha with rfl | h0
     ·exact dx
     ·have VW:min m vQ=0:=by
       have:vQ=0:=by rcases pO with e | ⟨_,e⟩ <;> omega
       omega
      rw [VW] at dx ⊢
      simpa [storeCells] using dx
    simp [Builtin.copy_,ht,J6,vu,run_underlying hu,h3,aN hs,Rt,h5,fU,goInt]
  ·cases h
 ·cases h
theorem xb : ∀(r n c:Nat),c<n→Builtin.growBy n r c≤2*n+192
 | 0,n,c,h=>by simp only [Builtin.growBy];omega
 | r+1,n,c,h=>by
  simp only [Builtin.growBy]
  rw [if_neg (by omega)]
  by_cases h2:c+(c+768) / 4<n
  ·exact xb r n _ h2
  ·cases r with
   | zero=>simp only [Builtin.growBy];omega
   | succ r=>simp only [Builtin.growBy];rw [if_pos (by omega)];omega
theorem nextslicecap_le (n c:Nat) (h:c<n):Builtin.nextslicecap n c≤2*n+192:=by
 unfold Builtin.nextslicecap
 split
 ·omega
 ·split
  ·omega
  ·exact xb _ _ _ h
theorem run_append_grow {u ty e:TypeId} {t:TypeId} {ts:Array TypeId} {xs:Array Value} {yx:Value} {a:Option Addr} {len c' n s nA:Nat} {i:TypeInfo} {zx:Value} {ys yz:List Value} {xd:TypeDesc}
  (ht:ts[0]? = some t) (IV:ts[1]? = some u) (J6:xs[0]? = some (.slice a len c')) (vu:xs[1]? = some yx) (hu:P.underlying t=some (.slice e)) (On:P.underlying u=some xd) (IZ : ∀k,xd ≠ .int k)
  (hs:bY P e=some s) (hi:P.info? e=some i) (J8:i.bytes=nA) (Db:nA ≠ 0) (IX:(2*(len+n)+1000)*nA≤2 ^ 48) (cu:c'<len+n) (hlen : ∀w,(Builtin.lenOf yx).run P w=.ok n w)
  (hold : ∀w',w'.heap=w.heap→(Builtin.firstCells s len (.slice a len c')).run P w'=.ok yz.toArray w') (I0 : ∀w',w'.heap=w.heap→(Builtin.firstCells s n yx).run P w'=.ok ys.toArray w') (hz : ∀w,(zeroValue e).run P w=.ok zx w) :
  ∃iP,len+n≤iP∧(Builtin.append_ ts ty xs).run P w=.ok (.slice (some ⟨w.heap.size,0,none⟩) (len+n) iP)
   (w.drew.alloc (.cells (yz.toArray ++ ys.toArray ++ Builtin.zeroCells zx.cells (iP - (len+n))) e)):=by
 refine ⟨(Question.appendCap (len+n) c' e).cut (w.tape w.drawn (.appendCap (len+n) c' e)),by simp [Question.cut],?_⟩
 have Da:Builtin.nextslicecap (len+n) c'*i.bytes≤2 ^ 48:=by
  rw [J8]
  exact Nat.le_trans (Nat.mul_le_mul_right _ (by have:=nextslicecap_le (len+n) c' cu;omega)) IX
 have VD : ¬ i.bytes=0:=by rw [J8];exact Db
 simp only [Builtin.append_,ht,IV,J6,vu,Sem.run_bind,run_underlying hu,run_underlying On,Result.andThen_ok,aN hs,Sem.run_pure,Bool.false_eq_true,if_false,hlen]
 rw [if_neg (by omega)]
 simp only [Sem.run_bind,Sem.run_ite,eP hi,Result.andThen_ok,Sem.run_pure,false_or,VD,and_false,if_false]
 rw [if_neg (by omega)]
 simp only [Sem.run_bind,Sem.run_pure,Result.andThen_ok,run_choose,Question.forced,Bool.false_eq_true,if_false,run_askRoom,hz,newRow,run_newObj,World.alloc]
 have e1:=hold w.drew rfl
 have e2:=I0 w.drew rfl
 simp [e1,e2]
 show w.drew.alloc (Obj.cells _ e)=w.drew.alloc (Obj.cells _ e)
 congr 2
 rw [← List.append_toArray,Array.append_assoc]
theorem tu (zs:Array Value) (n:Nat):(Builtin.zeroCells zs n).size=n*zs.size:=by simp [Builtin.zeroCells]
theorem Aq (hH:HR P E B H w) {t u ty:TypeId} {ts:Array TypeId} {a y v:AV} {x yx:Value} {xs:Array Value} {H' : AH} (ht:ts[0]? = some t) (IV:ts[1]? = some u) (J6:xs[0]? = some x) (vu:xs[1]? = some yx)
  (h:bV P H t u a y=some (v,H')) (hx:VR E a x) (hy:VR E y yx):Made P E B w v H' (Builtin.append_ ts ty xs):=by
 unfold bV at h
 split at h
 ·rename_i e xd p len cap hu On
  split at h
  ·cases h
  ·rename_i IZ
   cases hs:bY P e with
   | none=>simp [hs] at h
   | some s =>
   cases J8:ve P e with
   | none=>simp [hs,J8] at h
   | some nA =>
   simp only [hs,J8] at h
   obtain ⟨⟨n,new⟩,FY,h⟩:=Option.bind_eq_some_iff.1 h
   obtain ⟨ys,h1,h2,h3,h4⟩:=Ai hH FY hy
   have h5 : ∀w',w'.heap=w.heap→(Builtin.firstCells s n yx).run P w'=.ok ys.toArray w':=fun w' Oo=>by
    have:=h4 w' Oo n (Nat.le_refl _)
    rwa [← h2,h1.length,List.take_length] at this
   have fits : ∀(base:Option Addr) (c' : Nat) (w' : World),x=.slice base len c'→len+n≤c' →
     (∀q,base=some q→(storeCells (q.add (len*s)) ys).run P w=.ok () w')→(base=none→w'=w) →
     (Builtin.append_ ts ty xs).run P w=.ok (.slice base (len+n) c') w':=by
    intro base c' w' Q3 hle fU hn
    subst Q3
    have e5:=h5 w rfl
    cases base with
    | none =>
     have:=hn rfl
     subst this
     simp only [Builtin.append_,ht,IV,J6,vu,Sem.run_bind,run_underlying hu,run_underlying On,Result.andThen_ok,aN hs,Sem.run_pure,Bool.false_eq_true,if_false,h3]
     rw [if_pos hle]
     simp [e5]
    | some q =>
     have:=fU q rfl
     simp only [Builtin.append_,ht,IV,J6,vu,Sem.run_bind,run_underlying hu,run_underlying On,Result.andThen_ok,aN hs,Sem.run_pure,Bool.false_eq_true,if_false,h3]
     rw [if_pos hle]
     simp [e5,this]
   dsimp only at h
   split at h
   ·
    rename_i sG
    cases p with
    | none =>
     dsimp only at h
     split at h
     ·rename_i he
      cases h
      obtain ⟨rfl,C6⟩:=hx
      exact kz.made hH ⟨.slice none (len+n) cap,fits none cap w rfl sG (fun q hq=>by cases hq) (fun _=>rfl),rfl,sG⟩
     ·cases h
    | some p =>
     obtain ⟨b,o⟩:=p
     dsimp only at h
     obtain ⟨H2,hw,h⟩:=Option.map_eq_some_iff.1 h
     cases h
     obtain ⟨L,a',c',hL,rfl,C6,pO,lA,ha⟩:=hx
     obtain ⟨L',w',cv,dx,iF,hB⟩:=mT hH hw h1
     rw [hL] at cv;cases cv
     have aav:cap≤c':=by rcases pO with e | ⟨_,e⟩ <;> omega
     refine ⟨.slice (some a') (len+n) c',w',E,fits (some a') c' w' rfl (by omega) (fun q hq=>?_) (fun hq=>by cases hq),Env.le.refl E,⟨L,a',c',hL,rfl,sG,pO,lA,ha⟩,iF,hB⟩
     cases hq
     rcases ha with rfl | h0
     ·rw [fS,Nat.add_assoc];exact dx
     ·have M7:ys=[]:=by
       have:=h1.length
       have:n=0:=by omega
       subst this
       simp at h2
       simpa [h2] using (h1.length).symm
      subst M7
      simpa [storeCells] using dx
   ·rename_i sG
    split at h
    ·cases h
    ·rename_i XX
     simp only [not_or,ne_eq,Decidable.not_not,Nat.not_lt] at XX
     obtain ⟨Db,IX,gh,UB⟩:=XX
     have M5 : ∀v ∈ new,v.one=true:=by simpa using gh
     obtain ⟨i,hi,RE⟩:=xx J8
     obtain ⟨z,hz,hzs⟩:=Option.map_eq_some_iff.1 UB
     obtain ⟨zx,J3,zM⟩:=fJ hz E w
     have QV : ∀w,(zeroValue e).run P w=.ok zx w:=by
      intro w2
      unfold zeroOf at hz
      obtain ⟨i2,Bg,hz⟩:=Option.bind_eq_some_iff.1 hz
      obtain ⟨zq,Xj,hz⟩:=Option.bind_eq_some_iff.1 hz
      have e1:(zeroValue e).run P w=.ok zq w:=by simp [zeroValue,typeInfo,Bg,Xj]
      have e2:(zeroValue e).run P w2=.ok zq w2:=by simp [zeroValue,typeInfo,Bg,Xj]
      rw [e1] at J3;cases J3;exact e2
     have UA:zx.cells.size=s:=by have:=(zM.cells (cO hz)).length;simp at this;omega
     have gN:=kZ hs
     have Jh : ∀(H2:AH),HR P E B H2 w→H2.n=H.n→∀(base:Option Addr) (c' : Nat) (old:List AV) (yz:List Value),x=.slice base len c'→c'<len+n→aJ E old yz→old.length=len*s→(∀v ∈ old,v.one=true) →
       (∀w',w'.heap=w.heap→(Builtin.firstCells s len x).run P w'=.ok yz.toArray w') →
       ∀fl:Fl,fl.fD=true→fl.whole=false→Made P E B w (.slice (some (H.n,0)) (len+n) (len+n)) (H2.alloc (.cells (old ++ new) e fl)) (Builtin.append_ ts ty xs):=by
      intro H2 OX hHn base c' old yz Q3 cu hold GM wV iu fl GP UH
      subst Q3
      obtain ⟨iP,XD,dx⟩:=run_append_grow (ty:=ty) ht IV J6 vu hu On IZ hs hi RE Db IX cu h3 iu h5 QV
      have FW:HR P E B H2 w.drew:=OX.world rfl
      have Ry:(old ++ new).length=(len+n)*s:=by rw [List.length_append,GM,h2,Nat.add_mul]
      obtain ⟨k1,k2,k3⟩:=kN FW (cs:=old ++ new) (X:=yz.toArray ++ ys.toArray ++ Builtin.zeroCells zx.cells (iP - (len+n))) (e:=e) (fl:=fl) (extra:=iP - (len+n))
       (by
        have:=hold.append h1
        have Rw:=this.length
        have e3:(yz.toArray ++ ys.toArray ++ Builtin.zeroCells zx.cells (iP - (len+n))).toList=(yz ++ ys) ++ (Builtin.zeroCells zx.cells (iP - (len+n))).toList:=by simp
        rw [Rw,e3,List.take_left']
        ·exact this
        ·rfl)
       (fun v hv=>(List.mem_append.1 hv).elim (wV v) (M5 v))
       (by
        have q1:=hold.length;have q2:=h1.length
        simp only [Array.size_append,List.size_toArray,tu,UA,gN,List.length_append,q1,q2]
        omega)
       (fun hh=>by rw [GP] at hh;cases hh) 0 0 (by omega) (by simp) (fun hh=>by rw [UH] at hh;cases hh)
      rw [hHn] at k1 k2
      refine ⟨_,_,_,dx,k1,⟨_,_,iP,fK _ _,rfl,Nat.le_refl _,.inr ⟨?_,?_⟩,rfl,.inl rfl⟩,k2,⟨k3.os,k3.tape,k3.output,k3.size,k3.block⟩⟩
      ·show 0+(len+n)*P.cellsOf e=(old ++ new).length
       rw [Ry,gN,Nat.zero_add]
      ·show iP=len+n+(iP - (len+n));omega
     cases p with
     | none =>
      dsimp only at h
      split at h
      ·rename_i wX
       cases h
       obtain ⟨rfl,C6⟩:=hx
       have:=Jh H hH rfl none cap [] [] rfl (by omega) rfl (by simp [wX]) (by simp) (fun w' _=>by simp [Builtin.firstCells]) {fD:=true} rfl rfl
       simpa using this
      ·cases h
     | some p =>
      obtain ⟨b,o⟩:=p
      dsimp only at h
      split at h
      ·rename_i cs e' fl hb
       split at h
       ·rename_i Oy
        obtain ⟨Oz,yW,Xt⟩:=Oy
        obtain ⟨L,a',c',hL,rfl,C6,pO,lA,ha⟩:=hx
        obtain ⟨L',cv,ho⟩:=hH.obj _ _ hb
        rw [hL] at cv;cases cv
        obtain ⟨Pq,g1,g2⟩:=Ax ho
        have hold:=(g1.drop o).take (len*s)
        have iu : ∀w',w'.heap=w.heap→(Builtin.firstCells s len (.slice (some a') len c')).run P w'=.ok ((Pq.drop o).take (len*s)).toArray w':=by
         intro w' Oo
         rcases ha with rfl | h0
         ·exact g2 w' Oo o (len*s) Oz
         ·have wX:len=0:=by rcases pO with e | ⟨_,e⟩ <;> omega
          subst wX
          have wX:(loadCells a' 0).run P w'=.ok #[] w':=rfl
          simp [Builtin.firstCells,wX]
        have M6:=ho
        obtain ⟨X,lo,Bg,q1,q2,q3,q4,q5,q6,q7,q8⟩:=ho
        have GM:((cs.drop o).take (len*s)).length=len*s:=by simp;omega
        have wV : ∀v ∈ (cs.drop o).take (len*s),v.one=true:=fun v hv=>q8.1 v (List.mem_of_mem_drop (List.mem_of_mem_take hv))
        split at h
        ·rename_i IY
         obtain ⟨BU,aak⟩:=IY
         have he:=Xt BU
         subst he
         split at h
         ·rename_i gZ
          obtain ⟨PC,LL⟩:=gZ
          cases h
          by_cases cu:c'<len+n
          ·
           exact Jh (H.set b .dead) (hH.kill hb) rfl (some a') c' _ _ rfl cu hold GM wV iu { fD:=true,fz:=fl.fz - o,lC:=fl.lC } rfl rfl
          ·
           obtain ⟨GW,hF,hS⟩:=q6 PC
           have GR:c' ≠ 0:=by omega
           have J9:a'=⟨L.bH,L.off+o,none⟩:=ha.resolve_right GR
           have Vw:c'=cap+L.extra∧o+cap*L.Ns=L.size:=by
            rcases pO with e | ⟨e1,e2⟩
            ·omega
            ·exact ⟨e2,e1⟩
           have Vn:L.Ns=s:=by rw [← q3,gN]
           have PA:ys.length=n*s:=by rw [← h1.length,h2]
           have hmul:(len+n)*s≤(cap+L.extra)*s:=Nat.mul_le_mul_right _ (by omega)
           rw [Nat.add_mul,Nat.add_mul] at hmul
           rw [Vn] at q4
           have hX:L.off+(o+len*s)+0+ys.length≤X.size:=by omega
           have fU:=kF (P:=P) (off:=L.off+(o+len*s)) ys 0 X w q1 hX (fun k k1 k2=>hF k (by omega) (by omega)) (aJ.N8 h1 (by simpa using gh))
           rw [Nat.add_zero] at fU
           have OG:L.bH<w.heap.size:=(Array.getElem?_eq_some_iff.1 q1).1
           have C4:((cs.drop o).take (len*s) ++ new).length=(len+n)*s:=by rw [List.length_append,GM,h2,Nat.add_mul]
           have UW:=hH.N1 (L₂:=⟨L.bH,L.off+o,((cs.drop o).take (len*s) ++ new).length,P.cellsOf e',c' - (len+n)⟩) (o₂:=.cells ((cs.drop o).take (len*s) ++ new) e' { fD:=true,fz:=fl.fz - o,lC:=fl.lC })
            (o':=.cells (cm X (L.off+(o+len*s)) ys) e' (lo,Bg)) hb hL PC rfl (by
             have jN:(cm X (L.off+(o+len*s)) ys).size=X.size:=by simp [cm];omega
             refine ⟨_,lo,Bg,World.putObj_heap_same OG,rfl,rfl,?_,?_,fun _=>⟨GW,?_,?_⟩,by simp,fun v hv=>(List.mem_append.1 hv).elim (wV v) (M5 v),fun h=>(by cases h)⟩
             ·rw [jN,C4,gN]
              have:(len+n)*s+(c' - (len+n))*s=(cap+L.extra)*s:=by rw [← Nat.add_mul];congr 1;omega
              have e6:(cap+L.extra)*s=cap*s+L.extra*s:=Nat.add_mul _ _ _
              show L.off+o+((len+n)*s+(c' - (len+n))*s)≤X.size
              omega
             ·
              have hle:=hH.eI ⟨L.bH,L.off+o,((cs.drop o).take (len*s) ++ new).length,P.cellsOf e',c' - (len+n)⟩
              have hv:=aJ.mono hle _ _ (((q5.drop o).take (len*s)).append h1)
              have e4:((cm X (L.off+(o+len*s)) ys).toList.drop (L.off+o)).take ((cs.drop o).take (len*s) ++ new).length=(((X.toList.drop L.off).take cs.length).drop o).take (len*s) ++ ys:=by
               rw [C4,Nat.add_mul,← PA]
               simp only [cm]
               have hA:(X.toList.take (L.off+(o+len*s))).length=L.off+(o+len*s):=by simp;omega
               rw [List.drop_append_of_le_length (by omega)]
               have hd:((X.toList.take (L.off+(o+len*s))).drop (L.off+o))=(((X.toList.drop L.off).take cs.length).drop o).take (len*s):=by
                apply List.ext_getElem?
                intro j
                by_cases hj:j<len*s
                ·rw [List.getElem?_drop,List.getElem?_take_of_lt (by omega),List.getElem?_take_of_lt hj,List.getElem?_drop,List.getElem?_take_of_lt (by omega),List.getElem?_drop,Nat.add_assoc]
                ·rw [List.getElem?_eq_none (by simp;omega),List.getElem?_eq_none (by simp;omega)]
               rw [hd]
               have Vq:((((X.toList.drop L.off).take cs.length).drop o).take (len*s)).length=len*s:=by simp;omega
               rw [List.take_append,Vq,List.take_of_length_le (by omega)]
               congr 1
               rw [Nat.add_sub_cancel_left,List.take_left]
              rw [e4];exact hv
             ·rw [jN]
              intro k k1 k2
              exact hF k (by show L.off+fl.fz≤k;have:L.off+o+(fl.fz - o)≤k:=k1;omega) k2
             ·intro BS
              rcases hS BS with e5 | e5
              ·exact .inl e5
              ·exact .inr (show Bg≤L.off+o+(fl.fz - o) by omega))
           refine ⟨.slice (some a') (len+n) c',_,_,fits (some a') c' _ rfl (by omega) (fun q hq=>?_) (fun hq=>by cases hq),hH.eI _,⟨_,a',c',fK _ _,rfl,Nat.le_refl _,.inr ⟨?_,?_⟩,lA,.inl ?_⟩,UW,Below.putObj (Below.refl B w) GW _⟩
           ·cases hq
            rw [J9,fS,Nat.add_assoc];exact fU
           ·show 0+(len+n)*P.cellsOf e'=((cs.drop o).take (len*s) ++ new).length
            rw [C4,gN,Nat.zero_add]
           ·show c'=len+n+(c' - (len+n));omega
           ·rw [J9];rfl
         ·cases h
        ·rename_i IY
         cases h
         have Da:c'=cap:=by
          rcases pO with e | ⟨e1,e2⟩
          ·exact e
          ·by_cases BU:fl.fD=true
           ·have he:=Xt BU
            subst he
            exact absurd ⟨BU,by rw [← gN,q3,e1,q2]⟩ IY
           ·have:=q7 (by simpa using BU);omega
         exact Jh H hH rfl (some a') c' _ _ rfl (by omega) hold GM wV iu {fD:=true} rfl rfl
       ·cases h
      ·cases h
 ·cases h
end
end Go.Am
end
/- The abstract machine: conversions, iterators over strings, unsafe.String; then every operation that calls no function. -/
section
namespace Go.Am
open Go.RowKit
section
variable {P:Program} {E:Env} {B:eZ} {H:AH} {w:World}
theorem Gf (s:List UInt8) (i:Nat):Utf8.decode ⟨s.toArray⟩ i=ah s i:=by
 have h1 : ∀k,((⟨s.toArray⟩ : ByteArray).get! (i+k)).toNat=ai s i k:=by
  intro k
  simp only [ai,ByteArray.get!]
  congr 1
  by_cases h:i+k<s.length
  ·simp [h]
  ·simp [h];rfl
 have h2:(⟨s.toArray⟩ : ByteArray).size=s.length:=rfl
 unfold Utf8.decode ah
 simp only [h1,h2]
theorem Gd (r:Int):Utf8.encode r=⟨(cE r).toArray⟩:=by
 unfold Utf8.encode cE
 simp only []
 split <;> (try split) <;> (try split) <;> (try split) <;> rfl
theorem gi : ∀ {cs:List AV} {ys:List Value} {s:List UInt8},aJ E cs ys→cz cs=some s→∃ns:List Int,ys=ns.map (Value.int .u8)∧s=ns.map fun n=>UInt8.ofNat n.toNat
 | [],_,s,h,hs=>by simp only [cz,Option.some.injEq] at hs;subst hs;cases h;exact ⟨[],rfl,rfl⟩
 | c :: cs,_,s,h,hs=>by
  obtain ⟨y,ys,rfl,hy,h⟩:=h
  unfold cz at hs
  split at hs
  ·rename_i heq;cases heq
  ·rename_i n l heq
   cases heq
   obtain ⟨t,ht,rfl⟩:=Option.map_eq_some_iff.1 hs
   obtain rfl:y=_:=hy
   obtain ⟨ns,rfl,rfl⟩:=gi h ht
   exact ⟨n :: ns,rfl,rfl⟩
  ·cases hs
def dP (s:List UInt8):List Value:=s.map fun b=>.int .u8 b.toNat
@[simp] theorem JV (s:List UInt8):(dP s).length=s.length:=by simp [dP]
theorem foldl_push (ns:List Int) : ∀r:ByteArray,ns.foldl (fun r n=>r.push (UInt8.ofNat n.toNat)) r=⟨r.data ++ (ns.map fun n=>UInt8.ofNat n.toNat).toArray⟩:=by
 induction ns with
 | nil=>intro r;simp
 | cons n ns ih=>intro r;simp only [List.foldl_cons,ih,List.map_cons];simp [ByteArray.push]
theorem Dg (w:World) (X:Array Value) (e:TypeId):(w.alloc (.cells X e)).freeze ⟨w.heap.size,X.size,none⟩ 1=w.alloc (.cells X e (X.size,X.size+1)):=by
 unfold World.freeze
 simp only [Nat.succ_ne_zero,if_false]
 unfold World.alloc
 congr 1
 apply Array.ext_getElem?
 intro i
 rw [Array.getElem?_modify]
 by_cases h:w.heap.size=i
 ·subst h;simp
 ·simp only [if_neg h]
  rw [Array.getElem?_push,Array.getElem?_push]
  simp [Ne.symm h]
theorem uO {g:Nat} {X:Array Value} {e:TypeId} {lo hi:Nat} (h:w.heap[g]? = some (.cells X e (lo,hi))) {off n:Nat} (hn:n ≠ 0) :
  w.freeze ⟨g,off,none⟩ n=w.putObj g (.cells X e (if lo == hi then (off,off+n) else (min lo off,max hi (off+n)))):=by
 unfold World.freeze World.putObj
 rw [if_neg hn]
 congr 1
 apply Array.ext_getElem?
 intro i
 rw [Array.getElem?_modify]
 by_cases e:g=i
 ·subst e;obtain ⟨cu,hx⟩:=Array.getElem?_eq_some_iff.1 h;simp [cu,hx]
 ·simp [e,Array.getElem?_setIfInBounds_ne e]
theorem Fe (hH:HR P E B H w) {s d:TypeId} {a v:AV} {x:Value} {H' : AH} (h:gR P H s d a=some (v,H')) (hx:VR E a x):Made P E B w v H' (convert s d x):=by
 unfold gR at h
 split at h
 ·rename_i sd k k' n hs hd
  cases h;obtain rfl:x=_:=hx
  refine kz.made hH ⟨_,?_,rfl⟩
  simp [convert,run_underlying hs,run_underlying hd,Conv.intToInt]
 ·rename_i sd k' n hs hd
  cases h;obtain rfl:x=_:=hx
  refine kz.made hH ⟨.string (Utf8.encode n),?_,?_⟩
  ·simp [convert,run_underlying hs,run_underlying hd,Conv.intToString]
  ·exact congrArg Value.string (Gd n)
 ·rename_i sd u hs hd
  cases h;obtain rfl:x=_:=hx
  refine kz.made hH ⟨_,?_,rfl⟩
  simp [convert,run_underlying hs,run_underlying hd]
 ·rename_i sd e u hs hd
  obtain rfl:x=_:=hx
  split at h
  ·rename_i he
   split at h
   ·rename_i h1
    cases h
    have FW:HR P E B H w.drew:=hH.world rfl
    have gN:=kZ h1
    obtain ⟨cap,Da,dx⟩ : ∃cap,u.length≤cap∧(convert s d (.string ⟨u.toArray⟩)).run P w=.ok (.slice (some ⟨w.heap.size,0,none⟩) u.length cap)
      (w.drew.alloc (.cells ((dP u).toArray ++ Array.replicate (cap - u.length) (Value.int .u8 0)) e (cap,cap+1))):=by
     refine ⟨(Question.appendCap u.length 0 e).cut (w.tape w.drawn (.appendCap u.length 0 e)),by simp [Question.cut],?_⟩
     generalize hc:(Question.appendCap u.length 0 e).cut (w.tape w.drawn (.appendCap u.length 0 e))=cap
     have Da:u.length≤cap:=by rw [← hc];simp [Question.cut]
     have jN:(⟨u.toArray⟩ : ByteArray).size=u.length:=rfl
     have hX:((dP u).toArray ++ Array.replicate (cap - u.length) (Value.int .u8 0)).size=cap:=by simp;omega
     have hf:=Dg w.drew ((dP u).toArray ++ Array.replicate (cap - u.length) (Value.int .u8 0)) e
     rw [hX] at hf
     have LP:(choose (.appendCap u.length 0 e)).run P w=.ok cap w.drew:=by
      rw [run_choose,if_neg (by simp [Question.forced]),hc];rfl
     have Ou:(w.drew.alloc (.cells ((dP u).toArray ++ Array.replicate (cap - u.length) (Value.int .u8 0)) e)).shape? w.heap.size=some (e,cap):=by
      have:(w.drew.alloc (.cells ((dP u).toArray ++ Array.replicate (cap - u.length) (Value.int .u8 0)) e)).heap[w.heap.size]? = some (.cells ((dP u).toArray ++ Array.replicate (cap - u.length) (Value.int .u8 0)) e):=World.alloc_heap_new _ _
      simp only [World.shape?,this,hX]
     have I5:(⟨u.toArray⟩ : ByteArray).data.map (fun b=>Value.int .u8 b.toNat)=(dP u).toArray:=by simp [dP]
     have I4:(markStringish ⟨w.heap.size,0,none⟩).run P (w.drew.alloc (.cells ((dP u).toArray ++ Array.replicate (cap - u.length) (Value.int .u8 0)) e)) =
       .ok () (w.drew.alloc (.cells ((dP u).toArray ++ Array.replicate (cap - u.length) (Value.int .u8 0)) e (cap,cap+1))):=by
      unfold markStringish
      simp only [Sem.run_bind,run_shape,Ou,Result.andThen_ok,run_freeze]
      exact congrArg (Result.ok ()) hf
     have I0 : ∀X:Array Value,(newRow e X).run P w.drew=.ok ⟨w.heap.size,0,none⟩ (w.drew.alloc (.cells X e)):=fun X=>rfl
     simp only [convert,Sem.run_bind,run_underlying hs,run_underlying hd,run_underlying he,Result.andThen_ok,Conv.stringToBytes,jN,LP,I5,I0,I4,Sem.run_pure]
    have hX:((dP u).toArray ++ Array.replicate (cap - u.length) (Value.int .u8 0)).size=cap:=by simp;omega
    obtain ⟨k1,k2,k3⟩:=kN FW (cs:=aC u) (X:=(dP u).toArray ++ Array.replicate (cap - u.length) (Value.int .u8 0)) (e:=e) (fl:={ fD:=true,lC:=true }) (extra:=cap - u.length)
     (by
      have hb:aJ E (aC u) (dP u):=aJ.bytes u
      have e3:((dP u).toArray ++ Array.replicate (cap - u.length) (Value.int .u8 0)).toList=(dP u) ++ List.replicate (cap - u.length) (Value.int .u8 0):=by simp
      rw [e3,hb.length,List.take_left']
      ·exact hb
      ·rfl)
     (by intro v hv;simp only [aC,List.mem_map] at hv;obtain ⟨b,_,rfl⟩:=hv;rfl) (by rw [hX,gN];simp [aC];omega) (by simp) cap (cap+1) (by rw [hX];omega) (by simp)
    refine ⟨_,_,_,dx,k1,⟨_,_,cap,fK _ _,rfl,Nat.le_refl _,.inr ⟨?_,?_⟩,rfl,.inl rfl⟩,k2,⟨k3.os,k3.tape,k3.output,k3.size,k3.block⟩⟩
    ·show 0+u.length*P.cellsOf e=(aC u).length
     rw [gN];simp [aC]
    ·show cap=u.length+(cap - u.length);omega
   ·cases h
  ·cases h
 ·rename_i t b o hs hd
  split at h
  ·rename_i sz cs e fl jN hb
   split at h
   ·rename_i hc
    cases h
    obtain ⟨L,hL,rfl⟩:=hx
    obtain ⟨L',cv,ho⟩:=hH.obj _ _ hb
    rw [hL] at cv;cases cv
    obtain ⟨X,lo,hi,h1,h2,h3,h4,_⟩:=ho
    obtain ⟨j,hj,Tn⟩:=Option.map_eq_some_iff.1 jN
    have BS:w.shape? L.bH=some (e,X.size):=by simp only [World.shape?,h1]
    refine kz.made hH ⟨_,?_,L,hL,rfl⟩
    simp [convert,run_underlying hs,run_underlying hd,Conv.unsafePointer,Conv.seenAt,viewAt,cellsIn,BS,sizeOf,typeInfo,hj,Tn,hc.1]
    intro h
    omega
   ·cases h
  ·cases h
 ·rename_i u b o hs hd
  split at h
  ·rename_i sz cs e fl jN hb
   split at h
   ·rename_i hc
    cases h
    obtain ⟨L,hL,rfl⟩:=hx
    obtain ⟨L',cv,ho⟩:=hH.obj _ _ hb
    rw [hL] at cv;cases cv
    obtain ⟨X,lo,hi,h1,h2,h3,h4,h5,h6,h7,h8,h9⟩:=ho
    obtain ⟨j,hj,Tn⟩:=Option.map_eq_some_iff.1 jN
    obtain ⟨g1,g2,_⟩:=h9 hc.1
    have BS:w.shape? L.bH=some (e,cs.length):=by simp only [World.shape?,h1,g2]
    refine kz.made hH ⟨_,?_,L,hL,rfl⟩
    have Rx:liesAt P P.depth e (cs.length / P.cellsOf e) (L.off+o) u 1=true:=by rw [g1,Nat.zero_add];exact hc.2
    simp [convert,run_underlying hs,run_underlying hd,Conv.unsafePointer,Conv.seenAt,viewAt,BS,variablesAt,Rx,sizeOf,typeInfo,hj]
   ·cases h
  ·cases h
 ·rename_i e l c hs hd
  obtain ⟨rfl,_⟩:=hx
  split at h
  ·rename_i he
   cases h
   refine kz.made hH ⟨.string .empty,?_,rfl⟩
   rw [run_convert_bytes_string w s d e none l c hs he hd];rfl
  ·cases h
 ·rename_i e b o l c hs hd
  split at h
  ·rename_i he
   obtain ⟨cs,hr,h⟩:=Option.bind_eq_some_iff.1 h
   obtain ⟨t,ht,h⟩:=Option.map_eq_some_iff.1 h
   cases h
   obtain ⟨L,a',c',hL,rfl,C6,pO,lA,ha⟩:=hx
   obtain ⟨L',ys,cv,sC,dx⟩:=run_read hH hr
   rw [hL] at cv;cases cv
   obtain ⟨ns,rfl,rfl⟩:=gi sC ht
   have Rk:(loadCells a' l).run P w=.ok (ns.map (Value.int .u8)).toArray w:=by
    rcases ha with rfl | h0
    ·exact dx
    ·have wX:l=0:=by rcases pO with e | ⟨_,e⟩ <;> omega
     subst wX
     exact dx
   refine kz.made hH ⟨_,by rw [run_convert_bytes_string w s d e _ l c' hs he hd,run_bytesToString w a' l c' ns Rk],?_⟩
   show _=_
   rw [foldl_push]
   have e0:ByteArray.empty.data = #[]:=rfl
   rw [e0]
   simp
  ·cases h
 ·rename_i es e b o l c hs hd
  split at h
  ·rename_i cs el fl he hb
   split at h
   ·rename_i hc
    obtain ⟨ZJ,Da,gZ,Tf,LL,UP⟩:=hc
    cases h
    obtain ⟨L,a',c',hL,rfl,C6,pO,lA,ha⟩:=hx
    have GR:c' ≠ 0:=by rcases pO with e | ⟨_,e⟩ <;> omega
    obtain rfl:=ha.resolve_right GR
    obtain ⟨L',cv,ho⟩:=hH.obj _ _ hb
    rw [hL] at cv;cases cv
    obtain ⟨X,lo,hi,q1,q2,q3,q4,q5,q6,q7,q8⟩:=ho
    obtain ⟨GW,hF,hS⟩:=q6 gZ
    obtain ⟨g1,g2,g3⟩:=q8.2 Tf
    have cu:L.bH<w.heap.size:=(Array.getElem?_eq_some_iff.1 q1).1
    have OQ:=uO (w:=w) q1 (off:=X.size) (n:=1) (by omega)
    rw [if_pos (by simpa using g3 LL UP)] at OQ
    have BS:w.shape? L.bH=some (el,X.size):=by simp only [World.shape?,q1]
    have I4:(markStringish ⟨L.bH,L.off+o,none⟩).run P w=.ok () (w.putObj L.bH (.cells X el (X.size,X.size+1))):=by
     unfold markStringish
     simp only [Sem.run_bind,run_shape,BS,Result.andThen_ok,run_freeze]
     exact congrArg (Result.ok ()) OQ
    refine ⟨.slice (some ⟨L.bH,L.off+o,none⟩) l c',w.putObj L.bH (.cells X el (X.size,X.size+1)),E,?_,Env.le.refl E,⟨L,_,c',hL,rfl,C6,pO,rfl,.inl rfl⟩,
     hH.vA hb hL gZ ⟨X,X.size,X.size+1,World.putObj_heap_same cu,q2,q3,q4,q5,fun _=>⟨GW,fun k _ k2=>by omega,fun h=>(by cases h)⟩,q7,q8.1,fun _=>⟨g1,g2,fun _ h=>(by cases h)⟩⟩,
     Below.putObj (Below.refl B w) GW _⟩
    subst ZJ
    simp [convert,run_underlying hd,run_underlying he,I4]
   ·cases h
  ·cases h
 ·cases h
theorem Co (hH:HR P E B H w) {t:TypeId} {s:List UInt8} (hu:P.underlying t=some .string):Made P E B w (.ptr (some (H.n,0))) (H.alloc (.iter s 0)) (Instr.range t (.string ⟨s.toArray⟩)):=by
 have hle:=hH.eI ⟨w.heap.size,0,0,0,0⟩
 refine ⟨.pointer (some ⟨w.heap.size,0,none⟩),w.alloc (.stringIter ⟨s.toArray⟩ 0),_,?_,hle,⟨_,fK _ _,rfl⟩,hH.alloc rfl ⟨World.alloc_heap_new w _,hH.fresh,rfl⟩,(Below.refl B w).alloc hH.base _⟩
 simp [Instr.range,run_underlying hu]
theorem E9 (hH:HR P E B H w) {b pos:Nat} {s:List UInt8} {x:Value} {ty:TypeId} (hb:H.get b=some (.iter s pos)) (hx:VR E (.ptr (some (b,0))) x) :
  if pos<s.length then Made P E B w (.tuple [.bool true,.int .i64 pos,.int .i32 (ah s pos).1]) (H.set b (.iter s (pos+(ah s pos).2))) (Instr.next x true ty)
  else Made P E B w (.tuple [.bool false]) H (Instr.next x true ty):=by
 obtain ⟨L,hL,rfl⟩:=hx
 obtain ⟨L',cv,h1,h2,h3⟩:=hH.obj _ _ hb
 rw [hL] at cv;cases cv
 have jN:(⟨s.toArray⟩ : ByteArray).size=s.length:=rfl
 have cu:=(Array.getElem?_eq_some_iff.1 h1).1
 split
 ·rename_i hp
  refine ⟨_,w.putObj L.bH (.stringIter ⟨s.toArray⟩ (pos+(ah s pos).2)),E,?_,Env.le.refl E,⟨#[.bool true,goInt pos,.int .i32 (ah s pos).1],rfl,_,_,rfl,rfl,_,_,rfl,rfl,_,_,rfl,rfl,rfl⟩,
   hH.vA hb hL rfl ⟨World.putObj_heap_same cu,h2,h3⟩,Below.putObj (Below.refl B w) h2 _⟩
  simp [Instr.next,h3,getObj,setObj,Sem.run,h1,jN,hp,Gf,World.putObj,goInt]
 ·rename_i hp
  refine kz.made hH ⟨.tuple #[.bool false],?_,_,rfl,_,_,rfl,rfl,rfl⟩
  simp [Instr.next,h3,getObj,Sem.run,h1,jN,hp]
theorem vH {e:TypeId} (hc:P.cellsOf e=1) (count off n:Nat) (hn:off+n≤count):liesAt P P.depth e count off e n=true:=by
 have hd:P.depth=(2*(P.types.size+Made.depth)+1)+1:=rfl
 rw [hd]
 simp only [liesAt,Bool.or_eq_true]
 left
 rw [hd]
 simp [rowAt,hc,hn,sameLayout,Nat.mod_one]
theorem lT : ∀(ns:List Int) (a:Addr) (acc:ByteArray),(∀j x,ns[j]? = some x→w.cell? (a.add j)=some (.int .u8 x)) →
  (loadBytes a acc ns.length).run P w=.ok ⟨acc.data ++ (ns.map fun n=>UInt8.ofNat n.toNat).toArray⟩ w
 | [],a,acc,_=>by simp [loadBytes]
 | x :: l,a,acc,h=>by
  have h0:w.cell? a=some (.int .u8 x):=by
   have:=h 0 x rfl
   simpa [Addr.add] using this
  have ih:=lT l (a.add 1) (acc.push x.toNat.toUInt8) (fun j y hy=>by
   have:=h (j+1) y (by simpa using hy)
   have e:(a.add 1).add j=a.add (j+1):=by
    unfold Addr.add
    by_cases hj:j=0
    ·subst hj;simp
    ·simp [hj];omega
   rw [e];exact this)
  simp only [List.length_cons,loadBytes,Sem.run_bind,run_load,h0,Result.andThen]
  rw [ih]
  congr 1
  apply ByteArray.ext
  simp [ByteArray.push]
theorem oO (ts:Array TypeId) (ty:TypeId) (k:IntKind) (pt:TypeId) (ht:ts[0]? = some pt):(Builtin.unsafeString_ ts ty #[.pointer none,.int k 0]).run P w=.ok (.string .empty) w:=by
 have C5:IntKind.i64.max=9223372036854775807:=rfl
 show (asInt (.int k 0) >>= _).run P w=_
 simp [asInt,asIntOf,C5,ht]
theorem oM (ts:Array TypeId) (ty:TypeId) (k:IntKind) (a:Addr) (pt:TypeId) (ht:ts[0]? = some pt):(Builtin.unsafeString_ ts ty #[.pointer (some a),.int k 0]).run P w=.ok (.string .empty) w:=by
 have C5:IntKind.i64.max=9223372036854775807:=rfl
 show (asInt (.int k 0) >>= _).run P w=_
 simp [asInt,asIntOf,C5,ht]
theorem oN (ts:Array TypeId) (ty:TypeId) (k:IntKind) (n:Int) (a:Addr) (pt e:TypeId) (ht:ts[0]? = some pt) (h0 : ¬ n<0) (h1 : ¬ n > 9223372036854775807) (h2:n ≠ 0) {s:ByteArray}
  (he:(elemOf pt).run P w=.ok e w) (hv:(variablesAt a e n.toNat).run P w=.ok true w) (hl:(loadBytes a .empty n.toNat).run P w=.ok s w) :
  (Builtin.unsafeString_ ts ty #[.pointer (some a),.int k n]).run P w=.ok (.string s) (w.freeze a n.toNat):=by
 have C5:IntKind.i64.max=9223372036854775807:=rfl
 show (asInt (.int k n) >>= _).run P w=_
 simp only [Sem.run_bind,asInt,asIntOf,ht,Result.andThen_ok,Sem.run_pure,C5]
 rw [if_neg h0,if_neg h1,if_neg h2]
 simp [he,hv,hl]
theorem oV (hH:HR P E B H w) {pt ty:TypeId} {ts:Array TypeId} {p n v:AV} {x y:Value} {H' : AH} (ht:ts[0]? = some pt) (h:eN P H pt p n=some (v,H')) (hx:VR E p x) (hy:VR E n y) :
  Made P E B w v H' (Builtin.unsafeString_ ts ty #[x,y]):=by
 have C5:IntKind.i64.max=9223372036854775807:=rfl
 unfold eN at h
 split at h
 ·cases h
  obtain rfl:x=_:=hx;obtain rfl:y=_:=hy
  exact kz.made hH ⟨.string .empty,oO ts ty _ pt ht,rfl⟩
 ·rename_i b o k n
  obtain ⟨L,hL,rfl⟩:=hx
  obtain rfl:y=_:=hy
  split at h
  ·rename_i M7
   cases h
   refine kz.made hH ⟨.string .empty,?_,rfl⟩
   subst M7
   exact oM ts ty k _ pt ht
  ·rename_i M7
   split at h
   ·cases h
   ·rename_i OE
    cases hu:P.underlying pt with
    | none=>simp [hu] at h
    | some d =>
    cases d <;> simp only [hu,reduceCtorEq] at h
    rename_i e
    split at h
    ·rename_i e1 cs e' fl UL hb
     cases UL
     split at h
     ·rename_i hc
      obtain ⟨rfl,h1,h3,h4,h5⟩:=hc
      obtain ⟨s,hs,h⟩:=Option.map_eq_some_iff.1 h
      cases h
      obtain ⟨L',cv,ho⟩:=hH.obj _ _ hb
      rw [hL] at cv;cases cv
      have gN:=kZ h1
      obtain ⟨X,lo,hi,q1,q2,q3,q4,q5,q6,q7,q8⟩:=ho
      obtain ⟨GW,hF,hS⟩:=q6 h3
      obtain ⟨ns,XB,rfl⟩:=gi ((q5.drop o).take n.toNat) hs
      have C4:ns.length=n.toNat:=by
       have:=congrArg List.length XB
       simp at this;omega
      have hl:(loadBytes ⟨L.bH,L.off+o,none⟩ .empty n.toNat).run P w=.ok ⟨(ns.map fun n=>UInt8.ofNat n.toNat).toArray⟩ w:=by
       have:=lT (P:=P) (w:=w) ns ⟨L.bH,L.off+o,none⟩ .empty (fun j x hj=>by
        have Nd:j<n.toNat:=by have:=(List.getElem?_eq_some_iff.1 hj).1;omega
        have XL:(ns.map (Value.int .u8))[j]? = some (.int .u8 x):=by simp [hj]
        rw [← XB,List.getElem?_take_of_lt Nd,List.getElem?_drop,sQ (by omega)] at XL
        rw [fS]
        simp only [World.cell?,q1]
        simp
        rw [show L.off+o+j=L.off+(o+j) by omega];exact XL)
       rw [C4] at this
       have e0:ByteArray.empty.data = #[]:=rfl
       rw [e0] at this
       simpa using this
      have cu:L.bH<w.heap.size:=(Array.getElem?_eq_some_iff.1 q1).1
      have OQ:=uO (w:=w) q1 (off:=L.off+o) (n:=n.toNat) (by omega)
      obtain ⟨S6,Bg,hfp,LN⟩ : ∃S6 Bg,(if lo == hi then (L.off+o,L.off+o+n.toNat) else (min lo (L.off+o),max hi (L.off+o+n.toNat)))=(S6,Bg)∧Bg≤L.off+max fl.fz (o+n.toNat):=by
       by_cases e5:lo=hi
       ·exact ⟨_,_,by rw [if_pos (by simpa using e5)],by omega⟩
       ·have hS':=hS h4
        exact ⟨_,_,by rw [if_neg (by simpa using e5)],by omega⟩
      rw [hfp] at OQ
      have BS:w.shape? L.bH=some (e,X.size):=by simp only [World.shape?,q1]
      have Tg:(variablesAt ⟨L.bH,L.off+o,none⟩ e n.toNat).run P w=.ok true w:=by
       have:=vH (P:=P) gN (X.size / P.cellsOf e) (L.off+o) n.toNat (by rw [gN,Nat.div_one];omega)
       simp [variablesAt,BS,this]
      refine ⟨.string ⟨(ns.map fun (n:Int)=>UInt8.ofNat n.toNat).toArray⟩,w.putObj L.bH (.cells X e (S6,Bg)),
       E,?_,Env.le.refl E,rfl,?_,?_⟩
      ·rw [C5] at OE
       rw [oN ts ty k n _ pt e ht (by omega) (by omega) M7 (by simp [elemOf,run_underlying hu]) Tg hl,OQ]
      ·refine hH.vA hb hL h3 ⟨X,_,_,World.putObj_heap_same cu,q2,q3,q4,q5,fun _=>⟨GW,?_,?_⟩,q7,q8.1,fun hw=>⟨(q8.2 hw).1,(q8.2 hw).2.1,fun hf=>by
        have:max fl.fz (o+n.toNat)=0:=hf
        omega⟩⟩
       ·intro k k1 k2
        have k3:L.off+max fl.fz (o+n.toNat)≤k:=k1
        omega
       ·intro _
        exact .inr LN
      ·exact Below.putObj (Below.refl B w) GW _
     ·cases h
    ·cases h
 ·cases h
end
end Go.Am
end
/- The abstract machine: one operation, whole. -/
section
namespace Go.Am
open Go.RowKit
section
variable {P:Program} {E:Env} {B:eZ} {H:AH} {w:World}
def Pk (P:Program) (E:Env) (B:eZ) (w:World) (a:Act) (o:Oper) (v:AV) (H' : AH):Prop :=
 ∃E' w' x,((execOp a.eval o).run P w=.ok (.value x) w'∨((execOp a.eval o).run P w=.ok .skip w'∧x=Go.undef))∧E.le E'∧VR E' v x∧HR P E' B H' w'∧Below B w w'
theorem Made.je {a:Act} {o:Oper} {v:AV} {H' : AH} {s:Sem Value} (he:execOp a.eval o=(do pure (.value (← s)))) (h:Made P E B w v H' s):Pk P E B w a o v H':=by
 obtain ⟨x,w',E',h1,h2⟩:=h
 exact ⟨E',w',x,.inl (by rw [he];simp [h1]),h2⟩
theorem kz.je (hH:HR P E B H w) {a:Act} {o:Oper} {v:AV} {s:Sem Value} (he:execOp a.eval o=(do pure (.value (← s)))) (h:kz P E w v s):Pk P E B w a o v H:=(h.made hH).je he
theorem Ap (hH:HR P E B H w) {b:Builtin} {ts:Array TypeId} {ty:TypeId} {cs:Array Bool} {xs:List AV} {ys:Array Value} {v:AV} {H' : AH} (h:iX P H b ts.toList xs=some (v,H')) (hx:aJ E xs ys.toList) :
  ∃s,builtin b ts ty cs ys=(do pure (.value (← s)))∧Made P E B w v H' s:=by
 have Rc : ∀ {t:TypeId} {l:List TypeId},ts.toList=t :: l→ts[0]? = some t:=fun e=>by rw [← Array.getElem?_toList,e];rfl
 have Rb : ∀ {t u:TypeId} {l:List TypeId},ts.toList=t :: u :: l→ts[1]? = some u:=fun e=>by rw [← Array.getElem?_toList,e];rfl
 unfold iX at h
 split at h
 ·rename_i t l x r e
  obtain ⟨z,hz,h⟩:=Option.map_eq_some_iff.1 h
  cases h
  obtain ⟨y,vW,hy,uC,_⟩:=hx
  exact ⟨_,rfl,(HF ts ys (Rc e) (by rw [← Array.getElem?_toList,hy];rfl) hz uC).made hH⟩
 ·rename_i t l x r e
  obtain ⟨z,hz,h⟩:=Option.map_eq_some_iff.1 h
  cases h
  obtain ⟨y,vW,hy,uC,_⟩:=hx
  exact ⟨_,rfl,(HG hH ts ys (Rc e) (by rw [← Array.getElem?_toList,hy];rfl) hz uC).made hH⟩
 ·rename_i t u l x q r e
  obtain ⟨y,vW,hy,uC,y2,Ws,Q0,IS,_⟩:=hx
  subst Q0
  exact ⟨_,rfl,Aq hH (Rc e) (Rb e) (by rw [← Array.getElem?_toList,hy];rfl) (by rw [← Array.getElem?_toList,hy];rfl) h uC IS⟩
 ·rename_i t l x q r e
  obtain ⟨y,vW,hy,uC,y2,Ws,Q0,IS,_⟩:=hx
  subst Q0
  exact ⟨_,rfl,Fb hH (Rc e) (by rw [← Array.getElem?_toList,hy];rfl) (by rw [← Array.getElem?_toList,hy];rfl) h uC IS⟩
 ·rename_i x l
  obtain ⟨z,hz,h⟩:=Option.map_eq_some_iff.1 h
  cases h
  obtain ⟨y,vW,hy,uC,hl⟩:=hx
  refine ⟨Builtin.min_ ts ty ys,rfl,?_⟩
  obtain ⟨q,hq,hv⟩:=Aj (P:=P) (w:=w) hz uC hl
  refine kz.made hH ⟨q,?_,hv⟩
  simp [Builtin.min_,hy,hq]
 ·rename_i x l
  obtain ⟨z,hz,h⟩:=Option.map_eq_some_iff.1 h
  cases h
  obtain ⟨y,vW,hy,uC,hl⟩:=hx
  refine ⟨Builtin.max_ ts ty ys,rfl,?_⟩
  obtain ⟨q,hq,hv⟩:=Ak (P:=P) (w:=w) hz uC hl
  refine kz.made hH ⟨q,?_,hv⟩
  simp [Builtin.max_,hy,hq]
 ·rename_i l c
  cases h
  obtain ⟨y,vW,hy,⟨rfl,_⟩,rfl⟩:=hx
  obtain rfl:ys = #[.slice none l c]:=Array.ext' hy
  exact ⟨_,rfl,kz.made hH ⟨.pointer none,rfl,rfl⟩⟩
 ·rename_i a l c
  split at h
  ·cases h
  ·rename_i hc
   cases h
   obtain ⟨y,vW,hy,uC,rfl⟩:=hx
   obtain ⟨b,o⟩:=a
   obtain ⟨L,a',c',hL,rfl,C6,pO,lA,ha⟩:=uC
   obtain rfl:ys = #[.slice (some a') l c']:=Array.ext' hy
   have GR:c' ≠ 0:=by rcases pO with e | ⟨_,e⟩ <;> omega
   refine ⟨_,rfl,kz.made hH ⟨.pointer (some a'),?_,?_⟩⟩
   ·have:=Lib.run_unsafeSliceData_row (P:=P) w ts ty a' l c' GR
    exact this
   ·exact ⟨L,hL,by rw [ha.resolve_right GR]⟩
 ·rename_i t l p n e
  obtain ⟨y,vW,hy,uC,y2,Ws,Q0,IS,hn⟩:=hx
  subst Q0
  cases hn
  obtain rfl:ys = #[y,y2]:=Array.ext' hy
  exact ⟨_,rfl,oV hH (Rc e) h uC IS⟩
 ·cases h
theorem run_checkKey {kt:TypeId} (hk:P.underlying kt=some .string) (b:Bool) (s:ByteArray) (w:World):(Instr.checkKey b 10000 kt (.string s)).run P w=.ok () w:=by
 have key : ∀n,(Instr.checkKey b (n+1) kt (.string s)).run P w=.ok () w:=fun n=>by simp [Instr.checkKey,run_underlying hk]
 exact key 9999
theorem GB.now : ∀ {es:List (List UInt8×AV)} {l:List MapEntry} (_:GB E es l) (s:List UInt8) (i:Nat),
  match nL es s with
  | none=>Instr.findNow .string (.string ⟨s.toArray⟩) l i=some none
  | some v=>∃j e,Instr.findNow .string (.string ⟨s.toArray⟩) l i=some (some (i+j,e.val))∧l[j]? = some e∧e.key=.string ⟨s.toArray⟩∧VR E v e.val ∧
    ∀x (y:Value),VR E x y→GB E (ob es s x) (l.modify j fun e=>{ e with key:=.string ⟨s.toArray⟩,val:=y })
 | [],_,h,s,i=>by obtain rfl:=h;rfl
 | (k,v) :: es,_,h,s,i=>by
  obtain ⟨e,l',rfl,h1,h2,h3⟩:=h
  have Jc:((⟨s.toArray⟩ : ByteArray) == ⟨k.toArray⟩)=(s == k):=by rw [Bool.eq_iff_iff,Du];simp
  cases Tj:(s == k) with
  | true =>
   have:s=k:=by simpa using Tj
   subst this
   simp only [nL,Tj,if_true,ob]
   refine ⟨0,e,?_,rfl,h1,h2,fun x y uC=>⟨_,_,rfl,rfl,uC,h3⟩⟩
   simp [Instr.findNow,h1,Instr.sameNow,Jc]
  | false =>
   simp only [nL,Tj,Bool.false_eq_true,if_false,ob]
   have ih:=h3.now s (i+1)
   have j9:Instr.findNow .string (.string ⟨s.toArray⟩) (e :: l') i=Instr.findNow .string (.string ⟨s.toArray⟩) l' (i+1):=by
    simp [Instr.findNow,h1,Instr.sameNow,Jc,Tj]
   cases hl:nL es s with
   | none=>rw [hl] at ih;simp only at ih ⊢;rw [j9];exact ih
   | some u =>
    rw [hl] at ih
    obtain ⟨j,e',k1,k2,k3,k4,k5⟩:=ih
    refine ⟨j+1,e',by rw [j9,k1];congr 3;omega,by simpa using k2,k3,k4,fun x y uC=>⟨e,_,?_,h1,h2,k5 x y uC⟩⟩
    simp [List.modify]
theorem GB.push : ∀ {es:List (List UInt8×AV)} {l:List MapEntry} (_:GB E es l) {s:List UInt8} (_:nL es s=none) {x:AV} {y:Value} (_:VR E x y) (c:Nat),GB E (ob es s x) (l ++ [{ key:=.string ⟨s.toArray⟩,val:=y,born:=c }])
 | [],_,h,s,_,x,y,uC,c=>by obtain rfl:=h;exact ⟨_,_,rfl,rfl,uC,rfl⟩
 | (k,v) :: es,_,h,s,hs,x,y,uC,c=>by
  obtain ⟨e,l',rfl,h1,h2,h3⟩:=h
  simp only [nL] at hs
  split at hs
  ·cases hs
  ·rename_i dm
   simp only [ob,dm,if_false,Bool.false_eq_true]
   exact ⟨e,_,rfl,h1,h2,h3.push hs uC c⟩
theorem run_findKey {kt:TypeId} (hk:P.underlying kt=some .string) {s:List UInt8} {l:List MapEntry} {r:Option (Nat×Value)} (h:Instr.findNow .string (.string ⟨s.toArray⟩) l 0=some r) (w:World) :
  (Instr.findKey kt (.string ⟨s.toArray⟩) l).run P w=.ok r w:=by
 simp [Instr.findKey,run_underlying hk,h]
theorem An (hH:HR P E B H w) {t:TypeId} {ok:Bool} {m i v:AV} {x y:Value} (h:ta P H t ok m i=some v) (hx:VR E m x) (hy:VR E i y):kz P E w v (Instr.lookup t x y ok):=by
 unfold ta at h
 split at h
 ·rename_i kt e s hu
  obtain rfl:y=_:=hy
  split at h
  ·rename_i z hk hz
   obtain ⟨zx,CZ,ju⟩:=fJ hz E w
   have zM:VR E (if ok then .tuple [z,.bool false] else z) (if ok then .tuple #[zx,.bool false] else zx):=by
    cases ok
    ·exact ju
    ·exact ⟨_,rfl,zx,_,rfl,ju,_,_,rfl,rfl,rfl⟩
   split at h
   ·obtain rfl:x=_:=hx
    cases h
    have hf:Instr.findNow .string (.string ⟨s.toArray⟩) (#[]:Array MapEntry).toList 0=some none:=rfl
    refine ⟨_,?_,zM⟩
    simp only [Instr.lookup,Sem.run_bind,run_underlying hu,Result.andThen_ok,Sem.run_pure,run_checkKey hk,run_findKey hk hf,CZ]
   ·rename_i b
    obtain ⟨L,hL,rfl⟩:=hx
    split at h
    ·rename_i es c hb
     obtain ⟨L',cv,BR,hm,Tu,_⟩:=hH.obj _ _ hb
     rw [hL] at cv;cases cv
     have hn:=Tu.now s 0
     have qE:(getObj L.bH).run P w=.ok (.map BR c) w:=by simp [getObj,Sem.run,hm]
     split at h
     ·rename_i u OH
      rw [OH] at hn
      obtain ⟨j,e',k1,k2,k3,k4,_⟩:=hn
      cases h
      refine ⟨if ok then .tuple #[e'.val,.bool true] else e'.val,?_,?_⟩
      ·simp only [Instr.lookup,Sem.run_bind,run_underlying hu,Result.andThen_ok,qE,Sem.run_pure,run_checkKey hk,run_findKey hk k1]
      ·cases ok
       ·exact k4
       ·exact ⟨_,rfl,_,_,rfl,k4,_,_,rfl,rfl,rfl⟩
     ·rename_i OH
      rw [OH] at hn
      cases h
      refine ⟨_,?_,zM⟩
      simp only [Instr.lookup,Sem.run_bind,run_underlying hu,Result.andThen_ok,qE,Sem.run_pure,run_checkKey hk,run_findKey hk hn,CZ]
    ·cases h
   ·cases h
  ·cases h
 ·cases h
theorem Al (hH:HR P E B H w) {t:TypeId} {m i u:AV} {x y z:Value} {H' : AH} (h:sY P H t m i u=some H') (hx:VR E m x) (hy:VR E i y) (hz:VR E u z) :
  ∃w',(Instr.mapUpdate t x y z).run P w=.ok () w'∧HR P E B H' w'∧Below B w w':=by
 unfold sY at h
 split at h
 ·rename_i kt e b s hu
  obtain ⟨L,hL,rfl⟩:=hx
  obtain rfl:y=_:=hy
  split at h
  ·rename_i es c hk hb
   cases h
   obtain ⟨L',cv,BR,hm,Tu,hB⟩:=hH.obj _ _ hb
   rw [hL] at cv;cases cv
   have hn:=Tu.now s 0
   have qE:(getObj L.bH).run P w=.ok (.map BR c) w:=by simp [getObj,Sem.run,hm]
   have cu:=(Array.getElem?_eq_some_iff.1 hm).1
   cases OH:nL es s with
   | some v =>
    rw [OH] at hn
    obtain ⟨j,e',k1,k2,k3,k4,k5⟩:=hn
    have Oi:Instr.findNow .string (.string ⟨s.toArray⟩) BR.toList 0=some (some (j,e'.val)):=by rw [k1];simp
    have hj:BR[j]? = some e':=by rw [← Array.getElem?_toList];exact k2
    refine ⟨w.putObj L.bH (.map (BR.modify j fun e=>{ e with key:=.string ⟨s.toArray⟩,val:=z }) c),?_,?_,Below.putObj (Below.refl B w) hB _⟩
    ·simp only [Instr.mapUpdate,Sem.run_bind,run_underlying hu,Result.andThen_ok,qE,run_checkKey hk,run_findKey hk Oi,hj,Option.map_some,Option.getD_some,k3]
     have RA:(Instr.keyThatStays (.string ⟨s.toArray⟩) (.string ⟨s.toArray⟩)).run P w=.ok (.string ⟨s.toArray⟩) w:=by
      have hb:((⟨s.toArray⟩ : ByteArray) == ⟨s.toArray⟩)=true:=by rw [Du]
      simp [Instr.keyThatStays,Instr.sameBits,hb]
     have sE : ∀o,(setObj L.bH o).run P w=.ok () (w.putObj L.bH o):=fun o=>by simp [setObj,Sem.run,hm,World.putObj]
     simp [RA,sE]
    ·refine hH.vA hb hL rfl ⟨_,World.putObj_heap_same cu,?_,hB⟩
     rw [Array.toList_modify]
     exact k5 u z hz
   | none =>
    rw [OH] at hn
    refine ⟨w.putObj L.bH (.map (BR.push { key:=.string ⟨s.toArray⟩,val:=z,born:=c }) (c+1)),?_,?_,Below.putObj (Below.refl B w) hB _⟩
    ·simp only [Instr.mapUpdate,Sem.run_bind,run_underlying hu,Result.andThen_ok,qE,run_checkKey hk,run_findKey hk hn]
     have sE : ∀o,(setObj L.bH o).run P w=.ok () (w.putObj L.bH o):=fun o=>by simp [setObj,Sem.run,hm,World.putObj]
     simp [sE]
    ·refine hH.vA hb hL rfl ⟨_,World.putObj_heap_same cu,?_,hB⟩
     rw [Array.toList_push]
     exact Tu.push OH hz c
  ·cases h
 ·cases h
def nS (P:Program) (E:Env) (T:List AV) (a:Act) (xs:Array Operand):Prop:=∀x,x ∈ xs→∀v,ev P T x=some v→VR E v (a.eval x)
theorem nS.of (hH:HR P E B H w) {T:List AV} {a:Act} (hT:aJ E T a.tmps.toList) (xs:Array Operand):nS P E T a xs:=fun _ _ _ hv=>iW hH hT hv
theorem ec {T:List AV} {a:Act} : ∀ {xs:List Operand} {vs:List AV},(∀x,x ∈ xs→∀v,ev P T x=some v→VR E v (a.eval x))→qd P T xs=some vs→aJ E vs (xs.map a.eval)
 | [],vs,_,hv=>by simp only [qd,Option.some.injEq] at hv;subst hv;rfl
 | x :: xs,vs,hT,hv=>by
  simp only [qd] at hv
  obtain ⟨v,h1,hv⟩:=Option.bind_eq_some_iff.1 hv
  obtain ⟨Wx,h2,hv⟩:=Option.map_eq_some_iff.1 hv
  subst hv
  exact ⟨_,_,rfl,hT x (by simp) v h1,ec (fun y hy=>hT y (by simp [hy])) h2⟩
theorem Dl {T:List AV} {a:Act} {x:Option Operand} {v:Option AV} (hT : ∀y,x=some y→∀v,ev P T y=some v→VR E v (a.eval y)) (hv:Kc P T x=some v):Mv E v (x.map a.eval):=by
 cases x with
 | none=>simp only [Kc,Option.some.injEq] at hv;subst hv;rfl
 | some x =>
  simp only [Kc] at hv
  obtain ⟨v',h1,hv⟩:=Option.map_eq_some_iff.1 hv
  subst hv
  exact ⟨_,rfl,hT x rfl _ h1⟩
theorem Dj {T:List AV} {a:Act} : ∀ {xs:List (Nat×Operand)} {vs:List (Nat×AV)},(∀p,p ∈ xs→∀v,ev P T p.2=some v→VR E v (a.eval p.2))→En P T xs=some vs→NC E vs (xs.map fun (i,x)=>(i,a.eval x))
 | [],vs,_,hv=>by simp only [En,Option.some.injEq] at hv;subst hv;rfl
 | (i,x) :: xs,vs,hT,hv=>by
  simp only [En] at hv
  obtain ⟨v,h1,hv⟩:=Option.bind_eq_some_iff.1 hv
  obtain ⟨Wx,h2,hv⟩:=Option.map_eq_some_iff.1 hv
  subst hv
  exact ⟨_,_,rfl,hT (i,x) (by simp) v h1,Dj (fun y hy=>hT y (by simp [hy])) h2⟩
theorem ya {t:TypeId} {name:String} {g:FuncId} (h:l7 P t name=some g) (n:Nat) (v:Value) (w:World):(nilAhead (n+1) t v name).run P w=.ok (some false) w:=by
 unfold l7 at h
 obtain ⟨i,hi,h⟩:=Option.bind_eq_some_iff.1 h
 obtain ⟨m,hm,h⟩:=Option.bind_eq_some_iff.1 h
 split at h
 ·rename_i g' p hp hf
  split at h
  ·rename_i ht
   cases h
   simp only [nilAhead,Sem.run_bind,eP hi,Result.andThen_ok,hm,hp,followBlind,Sem.run_pure,hf]
   cases p with
   | true=>rfl
   | false =>
    unfold N5 at ht
    split at ht
    ·cases ht
    ·rename_i d hd hu
     cases d <;> first | (exact absurd rfl (hd _)) | simp [run_underlying hu]
    ·cases ht
  ·cases h
 ·cases h
theorem DR (hH:HR P E B H w) {T:List AV} {a:Act} {o:Oper} (hT:nS P E T a o.op.operands) {v:AV} {H' : AH} (h:p9 P T H o=some (v,H')) :
  Pk P E B w a o v H'∧(∀c,o.op ≠ .defer c):=by
 obtain ⟨dst,op,ty,pos,after,guard⟩:=o
 have e1:=fun {x:Operand} {v:AV} (hx:x ∈ op.operands) (hv:ev P T x=some v)=>hT x hx v hv
 refine ⟨?_,fun c hc=>by simp only at hc;subst hc;simp [p9] at h⟩
 cases op <;> simp only [p9,reduceCtorEq] at h
 case move x =>
  obtain ⟨z,hz,h⟩:=Option.map_eq_some_iff.1 h;cases h
  exact ⟨E,w,_,.inl rfl,Env.le.refl E,e1 (by simp [Op.operands]) hz,hH,Below.refl B w⟩
 case assign x =>
  obtain ⟨z,hz,h⟩:=Option.map_eq_some_iff.1 h;cases h
  exact ⟨E,w,_,.inl rfl,Env.le.refl E,e1 (by simp [Op.operands]) hz,hH,Below.refl B w⟩
 case pick c x y =>
  obtain ⟨z,hz,h⟩:=Option.bind_eq_some_iff.1 h
  have hc:=e1 (by simp [Op.operands]) hz
  split at h
  ·obtain ⟨q,hq,h⟩:=Option.map_eq_some_iff.1 h;cases h
   have y5:a.eval c=.bool true:=hc
   exact ⟨E,w,_,.inl (by simp [execOp,y5,asBool]),Env.le.refl E,e1 (by simp [Op.operands]) hq,hH,Below.refl B w⟩
  ·obtain ⟨q,hq,h⟩:=Option.map_eq_some_iff.1 h;cases h
   have y5:a.eval c=.bool false:=hc
   exact ⟨E,w,_,.inl (by simp [execOp,y5,asBool]),Env.le.refl E,e1 (by simp [Op.operands]) hq,hH,Below.refl B w⟩
  ·cases h
 case alloc e =>
  obtain ⟨z,hz,h⟩:=Option.bind_eq_some_iff.1 h
  split at h
  ·rename_i gh;cases h;exact (Cu hH hz gh).je rfl
  ·cases h
 case box e x =>
  obtain ⟨z,hz,h⟩:=Option.bind_eq_some_iff.1 h
  split at h
  ·rename_i gh;cases h;exact (HH hH (e1 (by simp [Op.operands]) hz) gh).je rfl
  ·cases h
 case build t ps =>
  obtain ⟨l,hl,h⟩:=Option.bind_eq_some_iff.1 h
  obtain ⟨q,hq,h⟩:=Option.map_eq_some_iff.1 h;cases h
  have hp:=Dj (a:=a) (fun p hp=>hT p.2 (by simp only [Op.operands,List.mem_toArray,List.mem_map];exact ⟨p,by simpa using hp,rfl⟩)) hl
  have:=Ct (w:=w) hq hp
  refine this.je hH ?_
  simp only [execOp]
  congr 2
  apply Array.ext';simp
 case buildSlice t n ps =>
  obtain ⟨l,hl,h⟩:=Option.bind_eq_some_iff.1 h
  have hp:=Dj (a:=a) (fun p hp=>hT p.2 (by simp only [Op.operands,List.mem_toArray,List.mem_map];exact ⟨p,by simpa using hp,rfl⟩)) hl
  refine (sr hH h hp).je ?_
  simp only [execOp]
  congr 2
  apply Array.ext';simp
 case load t x =>
  obtain ⟨z,hz,h⟩:=Option.bind_eq_some_iff.1 h
  obtain ⟨q,hq,h⟩:=Option.map_eq_some_iff.1 h;cases h
  exact (Fa hH hq (e1 (by simp [Op.operands]) hz)).je hH rfl
 case store t x y =>
  obtain ⟨z,hz,h⟩:=Option.bind_eq_some_iff.1 h
  obtain ⟨u,hu,h⟩:=Option.bind_eq_some_iff.1 h
  obtain ⟨q,hq,h⟩:=Option.map_eq_some_iff.1 h;cases h
  obtain ⟨w',h1,h2,h3⟩:=Cm hH hq (e1 (by simp [Op.operands]) hz) (e1 (by simp [Op.operands]) hu)
  exact ⟨E,w',_,.inr ⟨by simp [execOp,h1],rfl⟩,Env.le.refl E,⟨#[],rfl,rfl⟩,h2,h3⟩
 case nilCheck x =>
  obtain ⟨z,hz,h⟩:=Option.bind_eq_some_iff.1 h
  have hx:=e1 (by simp [Op.operands]) hz
  split at h
  case isFalse=>cases h
  rename_i oJ
  cases h
  unfold wI at oJ
  split at oJ
  ·rename_i p
   obtain ⟨pb,po⟩:=p
   obtain ⟨L,hL,he⟩:=hx
   exact ⟨E,w,_,.inl (by simp [execOp,he]),Env.le.refl E,⟨L,hL,rfl⟩,hH,Below.refl B w⟩
  ·obtain ⟨x',y',he,hq⟩:=hx
   exact ⟨E,w,_,.inl (by simp [execOp,he]),Env.le.refl E,⟨x',y',rfl,hq⟩,hH,Below.refl B w⟩
  ·obtain ⟨x',y',he,hq,hy⟩:=hx
   obtain ⟨q,hb⟩:=Option.isSome_iff_exists.1 oJ
   obtain ⟨name,t,rfl,rfl,hm⟩:=r5 hb
   obtain ⟨_,_,CZ,⟨u',rfl,UL⟩,rfl⟩:=hq
   have J6:x'[0]? = some (.iface t u'):=by rw [← Array.getElem?_toList,CZ];rfl
   obtain ⟨n,I3⟩ : ∃n,P.types.size+Made.depth=n+1:=⟨P.types.size+Made.depth - 1,(Nat.sub_add_cancel (Nat.le_trans (show 1≤Made.depth by decide) (Nat.le_add_left _ _))).symm⟩
   refine ⟨E,w,.func (.method name) x' y',.inl ?_,Env.le.refl E,⟨x',y',rfl,⟨_,_,CZ,⟨u',rfl,UL⟩,rfl⟩,hy⟩,hH,Below.refl B w⟩
   simp [execOp,he,J6,I3,ya hm,run_program]
  ·obtain ⟨L,hL,he⟩:=hx
   exact ⟨E,w,_,.inl (by simp [execOp,he]),Env.le.refl E,⟨L,hL,rfl⟩,hH,Below.refl B w⟩
  ·cases oJ
 case binOp op t x y u =>
  obtain ⟨z,hz,h⟩:=Option.bind_eq_some_iff.1 h
  obtain ⟨q,hq,h⟩:=Option.bind_eq_some_iff.1 h
  obtain ⟨r,hr,h⟩:=Option.map_eq_some_iff.1 h;cases h
  exact (HI hr (e1 (by simp [Op.operands]) hz) (e1 (by simp [Op.operands]) hq)).je hH rfl
 case unOp op t x =>
  obtain ⟨z,hz,h⟩:=Option.bind_eq_some_iff.1 h
  obtain ⟨r,hr,h⟩:=Option.map_eq_some_iff.1 h;cases h
  exact (KH hr (e1 (by simp [Op.operands]) hz)).je hH rfl
 case convert s d x =>
  obtain ⟨z,hz,h⟩:=Option.bind_eq_some_iff.1 h
  exact (Fe hH h (e1 (by simp [Op.operands]) hz)).je rfl
 case makeInterface t x =>
  obtain ⟨z,hz,h⟩:=Option.bind_eq_some_iff.1 h
  have hx:=e1 (by simp [Op.operands]) hz
  split at h
  ·cases h
  ·rename_i d IZ hu
   cases h
   refine ⟨E,w,.iface t (a.eval x),.inl ?_,Env.le.refl E,⟨_,rfl,hx⟩,hH,Below.refl B w⟩
   cases d <;> first | (exact absurd rfl (IZ _)) | simp [execOp,Instr.makeInterface,run_underlying hu]
  ·cases h
 case makeFunc f xs ys =>
  obtain ⟨z,hz,h⟩:=Option.bind_eq_some_iff.1 h
  obtain ⟨q,hq,h⟩:=Option.bind_eq_some_iff.1 h
  cases h
  have h1:=ec (a:=a) (fun y hy=>hT y (by simp [Op.operands];left;simpa using hy)) hz
  have h2:=ec (a:=a) (fun y hy=>hT y (by simp [Op.operands];right;simpa using hy)) hq
  exact ⟨E,w,.func f (xs.map a.eval) (ys.map a.eval),.inl (by simp [execOp,Instr.makeFunc]),Env.le.refl E,⟨_,_,rfl,by simpa using h1,by simpa using h2⟩,hH,Below.refl B w⟩
 case makeSlice t l c =>
  obtain ⟨z,hz,h⟩:=Option.bind_eq_some_iff.1 h
  obtain ⟨q,hq,h⟩:=Option.bind_eq_some_iff.1 h
  exact (tP hH h (e1 (by simp [Op.operands]) hz) (e1 (by simp [Op.operands]) hq)).je rfl
 case slice t x lo hi mx =>
  obtain ⟨z,hz,h⟩:=Option.bind_eq_some_iff.1 h
  obtain ⟨z1,CZ,h⟩:=Option.bind_eq_some_iff.1 h
  obtain ⟨z2,ju,h⟩:=Option.bind_eq_some_iff.1 h
  obtain ⟨z3,m7,h⟩:=Option.bind_eq_some_iff.1 h
  obtain ⟨r,hr,h⟩:=Option.map_eq_some_iff.1 h;cases h
  exact (Cn hH hr (e1 (by simp [Op.operands]) hz) (Dl (fun y hy=>hT y (by subst hy;simp [Op.operands])) CZ) (Dl (fun y hy=>hT y (by subst hy;simp [Op.operands])) ju) (Dl (fun y hy=>hT y (by subst hy;simp [Op.operands])) m7)).je hH rfl
 case fieldAddr t x f =>
  obtain ⟨z,hz,h⟩:=Option.bind_eq_some_iff.1 h
  obtain ⟨r,hr,h⟩:=Option.map_eq_some_iff.1 h;cases h
  exact (tR hr (e1 (by simp [Op.operands]) hz)).je hH rfl
 case field t x f =>
  obtain ⟨z,hz,h⟩:=Option.bind_eq_some_iff.1 h
  obtain ⟨r,hr,h⟩:=Option.map_eq_some_iff.1 h;cases h
  exact (Cs hr (e1 (by simp [Op.operands]) hz)).je hH rfl
 case indexAddr t x i =>
  obtain ⟨z,hz,h⟩:=Option.bind_eq_some_iff.1 h
  obtain ⟨q,hq,h⟩:=Option.bind_eq_some_iff.1 h
  obtain ⟨r,hr,h⟩:=Option.map_eq_some_iff.1 h;cases h
  exact (tQ hr (e1 (by simp [Op.operands]) hz) (e1 (by simp [Op.operands]) hq)).je hH rfl
 case index t x i =>
  obtain ⟨z,hz,h⟩:=Option.bind_eq_some_iff.1 h
  obtain ⟨q,hq,h⟩:=Option.bind_eq_some_iff.1 h
  obtain ⟨r,hr,h⟩:=Option.map_eq_some_iff.1 h;cases h
  exact (Cr hr (e1 (by simp [Op.operands]) hz) (e1 (by simp [Op.operands]) hq)).je hH rfl
 case range t x =>
  obtain ⟨z,hz,h⟩:=Option.bind_eq_some_iff.1 h
  have hx:=e1 (by simp [Op.operands]) hz
  split at h
  ·rename_i s hu
   cases h
   have iU:a.eval x=.string ⟨s.toArray⟩:=hx
   refine (Co hH hu).je ?_
   simp only [execOp,iU]
  ·cases h
 case next x str =>
  cases str with
  | false=>simp at h
  | true =>
   simp only at h
   obtain ⟨z,hz,h⟩:=Option.bind_eq_some_iff.1 h
   have hx:=e1 (by simp [Op.operands]) hz
   split at h
   ·rename_i b
    split at h
    ·rename_i s pos hb
     have:=E9 (ty:=ty) hH hb hx
     split at h
     ·rename_i hp;cases h;rw [if_pos hp] at this;exact this.je rfl
     ·rename_i hp;cases h;rw [if_neg hp] at this;exact this.je rfl
    ·cases h
   ·cases h
 case makeMap t rs =>
  cases rs with
  | some y=>simp at h
  | none =>
   simp only [Option.some.injEq,Prod.mk.injEq] at h
   obtain ⟨rfl,rfl⟩:=h
   refine ⟨E.put H.n ⟨w.heap.size,0,0,0,0⟩,w.alloc (.map #[] 0),.map (some w.heap.size),.inl ?_,hH.eI _,⟨⟨w.heap.size,0,0,0,0⟩,by simp [Env.put],rfl⟩,hH.alloc rfl ⟨#[],World.alloc_heap_new w _,rfl,hH.fresh⟩,(Below.refl B w).alloc hH.base _⟩
   simp [execOp,Instr.makeMap]
 case lookup t x i ok =>
  obtain ⟨z,hz,h⟩:=Option.bind_eq_some_iff.1 h
  obtain ⟨q,hq,h⟩:=Option.bind_eq_some_iff.1 h
  obtain ⟨r,hr,h⟩:=Option.map_eq_some_iff.1 h;cases h
  exact (An hH hr (e1 (by simp [Op.operands]) hz) (e1 (by simp [Op.operands]) hq)).je hH rfl
 case mapUpdate t m k x =>
  obtain ⟨z,hz,h⟩:=Option.bind_eq_some_iff.1 h
  obtain ⟨q,hq,h⟩:=Option.bind_eq_some_iff.1 h
  obtain ⟨u,hu,h⟩:=Option.bind_eq_some_iff.1 h
  obtain ⟨r,hr,h⟩:=Option.map_eq_some_iff.1 h;cases h
  obtain ⟨w',h1,h2,h3⟩:=Al hH hr (e1 (by simp [Op.operands]) hz) (e1 (by simp [Op.operands]) hq) (e1 (by simp [Op.operands]) hu)
  exact ⟨E,w',_,.inr ⟨by simp [execOp,h1],rfl⟩,Env.le.refl E,⟨#[],rfl,rfl⟩,h2,h3⟩
 case typeAssert x st t ok =>
  obtain ⟨z,hz,h⟩:=Option.bind_eq_some_iff.1 h
  obtain ⟨r,hr,h⟩:=Option.map_eq_some_iff.1 h;cases h
  exact (sq hr (e1 (by simp [Op.operands]) hz)).je hH rfl
 case extract x i =>
  obtain ⟨z,hz,h⟩:=Option.bind_eq_some_iff.1 h
  have hx:=e1 (by simp [Op.operands]) hz
  split at h
  ·rename_i vs
   obtain ⟨r,hr,h⟩:=Option.map_eq_some_iff.1 h;cases h
   obtain ⟨cs,he,hcs⟩:=hx
   obtain ⟨y,hy,hv⟩:=hcs.get hr
   rw [Array.getElem?_toList] at hy
   exact ⟨E,w,y,.inl (by simp [execOp,he,Instr.extract,hy]),Env.le.refl E,hv,hH,Below.refl B w⟩
  ·cases h
 case call c =>
  obtain ⟨callee,args,ts⟩:=c
  cases callee with
  | builtin b =>
   simp only at h
   obtain ⟨l,hl,h⟩:=Option.bind_eq_some_iff.1 h
   have jw:=ec (a:=a) (fun y hy=>hT y (by simp [Op.operands,Call.operands];simpa using hy)) hl
   obtain ⟨s,hs,hm⟩:=Ap (ty:=ty) (cs:=args.map fun | .const _=>true | _=>false) (ys:=args.map a.eval) hH h (by simpa using jw)
   refine hm.je ?_
   simp only [execOp,resolve,invoke,pure_bind]
   exact hs
  | value f=>simp at h
  | invoke r m=>simp at h
end
end Go.Am
end

/- What code asks: the conditions of operations, of statements, of functions, with labels, cuts and ranges over functions; that they are sound. -/
import Derived.Test.YtlkdhhkncoekgaaDoorAmTwo
/- What an operation asks, reckoned without looking into numbers, texts, heaps. -/
section
namespace Go.Am
open Go.RowKit
structure aN where
 wrap:IntKind→Int→Int
 call:FuncId→List AV→AH→(AV→AH→Prop)→Prop
 cV:Nat→List AV→AH→(AV→AH→Prop)→Prop
 cfn:AV→List AV→AH→(AV→AH→Prop)→Prop
 n:AH→Nat
 get:AH→Nat→Option aS
 set:AH→Nat→aS→AH
 al:AH→aS→AH
 aM:AH→Nat→Nat→Option AV
 bP:AH→Nat→Nat→Nat→Option (List AV)
 wr:AH→Nat→Nat→List AV→Option AH
 app:TypeId→TypeId→AV→AV→AH→Option (AV×AH)
 Vd:TypeId→AV→AV→AH→Option (AV×AH)
 PS:TypeId→Int→Int→AH→Option (AV×AH)
 JS:TypeId→AV→Option AV→Option AV→Option AV→AH→Option AV
 str:AV→AH→Option (List UInt8)
 bs:TypeId→TypeId→List UInt8→AH→Option (AV×AH)
 idx:TypeId→AV→AV→Option AV
 FQ:TypeId→AV→AH→Option AV
 M6:TypeId→AV→AV→AH→Option (AV×AH)
 tm:List Mk→AH→Option AH
 Rz:TypeId→TypeId→AV→AH→Option (AV×AH)
inductive S1 where
 | bool | int (k:IntKind) | str | ptr | slice | other | cV
section
variable (P:Program)
def Nj (t:TypeId):S1 :=
 match P.underlying t with
 | some .bool=>.bool
 | some (.int k)=>.int k
 | some .string=>.str
 | some (.pointer _)=>.ptr
 | some .unsafePointer=>.ptr
 | some (.slice _)=>.slice
 | _=>.other
def X5 (t:TypeId):S1 :=
 match P.underlying t with
 | some (.func ..)=>.cV
 | _=>Nj P t
def Py (l:List S1):Nat→List S1
 | 0=>[]
 | n+1=>l ++ Py l n
def yG:Nat→TypeId→List S1
 | 0,_=>[]
 | d+1,t =>
  match P.underlying t with
  | some (.struct fs)=>fs.toList.foldr (fun f l=>yG d f.type ++ l) []
  | some (.array n e)=>Py (yG d e) n
  | _=>[Nj P t]
end
def FB (s:S1) (k:AV→Prop):Prop :=
 match s with
 | .bool=>∃b,k (.bool b)
 | .int kd=>∃n,k (.int kd n)
 | .str=>∃s,k (.str s)
 | .ptr=>(∃b o,k (.ptr (some (b,o))))∨k (.ptr none)
 | .slice=>∃a l c,k (.slice a l c)
 | .other=>∃v,k v
 | .cV=>∃b,k (.cV b)
def sq:List S1→(List AV→Prop)→Prop
 | [],k=>k []
 | s :: l,k=>FB s fun v=>sq l fun vs=>k (v :: vs)
theorem o8 {s:S1} {k:AV→Prop} (h:FB s k) : ∃v,k v:=by
 cases s <;> simp only [FB] at h
 ·obtain ⟨b,h⟩:=h;exact ⟨_,h⟩
 ·obtain ⟨b,h⟩:=h;exact ⟨_,h⟩
 ·obtain ⟨b,h⟩:=h;exact ⟨_,h⟩
 ·rcases h with ⟨b,o,h⟩ | h
  ·exact ⟨_,h⟩
  ·exact ⟨_,h⟩
 ·obtain ⟨b,o,c,h⟩:=h;exact ⟨_,h⟩
 ·exact h
 ·obtain ⟨b,h⟩:=h;exact ⟨_,h⟩
theorem lY : ∀ {l:List S1} {k:List AV→Prop},sq l k→∃vs,k vs
 | [],_,h=>⟨_,h⟩
 | s :: l,k,h=>by
  obtain ⟨v,h⟩:=o8 h
  obtain ⟨vs,h⟩:=lY h
  exact ⟨_,h⟩
def imp (φ:Option Bool) (p:Prop):Prop :=
 match φ with
 | none=>p
 | some b=>b=true→p
theorem c7 {φ:Option Bool} {p:Prop} (h:imp φ p) (hφ:φ.getD true=true):p:=by
 cases φ with
 | none=>exact h
 | some b=>exact h hφ
def vK (v:Option AV) (k:AV→Prop):Prop :=
 match v with
 | some v=>k v
 | none=>False
theorem aQ {v:Option AV} {k:AV→Prop} (h:vK v k) : ∃x,v=some x∧k x:=by
 cases v with
 | none=>exact h.elim
 | some v=>exact ⟨v,rfl,h⟩
def Rv (P:Program) (t:TypeId) (k:AV→Prop):Prop :=
 match F1 P t with
 | some true=>sq (yG P 12 t) fun cs=>k (.agg cs)
 | some false=>FB (Nj P t) k
 | none=>False
theorem yp {P:Program} {t:TypeId} {k:AV→Prop} (h:Rv P t k) : ∃v,k v:=by
 unfold Rv at h
 split at h
 ·obtain ⟨cs,h⟩:=lY h;exact ⟨_,h⟩
 ·exact o8 h
 ·exact h.elim
section eq
variable (P:Program)
def jM (eq:TypeId→AV→AV→Option Bool) (xs ys:List AV):List Field→Option Bool
 | []=>some true
 | f :: fs =>
  if f.name ≠ "_" then
   (kF P f.type xs f.offset).bind fun a=>(kF P f.type ys f.offset).bind fun b=>(eq f.type a b).bind fun r=>(jM eq xs ys fs).map fun q=>r && q
  else jM eq xs ys fs
theorem kz {eq eq' : TypeId→AV→AV→Option Bool} (he : ∀t a b r,eq t a b=some r→eq' t a b=some r) {xs ys:List AV} : ∀ {fs:List Field} {r:Bool},jM P eq xs ys fs=some r→eqFields P eq' xs ys fs=some r
 | [],_,h=>h
 | f :: fs,r,h=>by
  simp only [jM] at h
  simp only [eqFields]
  split at h
  ·rename_i hn
   rw [if_pos hn]
   obtain ⟨a,ha,h⟩:=Option.bind_eq_some_iff.1 h
   obtain ⟨b,hb,h⟩:=Option.bind_eq_some_iff.1 h
   obtain ⟨u,hu,h⟩:=Option.bind_eq_some_iff.1 h
   obtain ⟨q,hq,rfl⟩:=Option.map_eq_some_iff.1 h
   rw [ha,Option.bind_some,hb,Option.bind_some,he _ _ _ _ hu,Option.bind_some]
   cases u with
   | true=>simpa using kz he hq
   | false=>rfl
  ·rename_i hn
   rw [if_neg hn]
   exact kz he h
def o9 (eq:TypeId→AV→AV→Option Bool) (elem:TypeId) (xs ys:List AV) (sz:Nat):Nat→Nat→Option Bool
 | _,0=>some true
 | i,n+1 =>
  (kF P elem xs (i*sz)).bind fun a=>(kF P elem ys (i*sz)).bind fun b=>(eq elem a b).bind fun r=>(o9 eq elem xs ys sz (i+1) n).map fun q=>r && q
theorem qW {eq eq' : TypeId→AV→AV→Option Bool} (he : ∀t a b r,eq t a b=some r→eq' t a b=some r) {elem:TypeId} {xs ys:List AV} {sz:Nat} : ∀ {n i:Nat} {r:Bool},o9 P eq elem xs ys sz i n=some r→kA P eq' elem xs ys sz i n=some r
 | 0,_,_,h=>h
 | n+1,i,r,h=>by
  simp only [o9] at h
  simp only [kA]
  obtain ⟨a,ha,h⟩:=Option.bind_eq_some_iff.1 h
  obtain ⟨b,hb,h⟩:=Option.bind_eq_some_iff.1 h
  obtain ⟨u,hu,h⟩:=Option.bind_eq_some_iff.1 h
  obtain ⟨q,hq,rfl⟩:=Option.map_eq_some_iff.1 h
  rw [ha,Option.bind_some,hb,Option.bind_some,he _ _ _ _ hu,Option.bind_some]
  cases u with
  | true=>simpa using qW he hq
  | false=>rfl
def O8:Nat→TypeId→AV→AV→Option Bool
 | 0,_,_,_=>none
 | d+1,t,x,y =>
  match P.underlying t,x,y with
  | some .bool,.bool a,.bool b=>some (a == b)
  | some (.int _),.int k a,.int k' b=>if k=k' then some (a == b) else none
  | some .string,.str a,.str b=>some (a == b)
  | some (.struct fs),.agg xs,.agg ys=>if P.stoodInHeld t then none else jM P (O8 d) xs ys fs.toList
  | some (.array len e),.agg xs,.agg ys=>match bX P e with
   | some s=>o9 P (O8 d) e xs ys s 0 len
   | none=>none
  | _,x,y=>kT P (d+1) t x y
theorem yu : ∀ {d:Nat} {t:TypeId} {x y:AV} {r:Bool},O8 P d t x y=some r→kT P d t x y=some r
 | 0,_,_,_,_,h=>by cases h
 | d+1,t,x,y,r,h=>by
  unfold O8 at h
  split at h
  ·rename_i hu;simp only [kT,hu];exact h
  ·rename_i hu;simp only [kT,hu];exact h
  ·rename_i hu;simp only [kT,hu];exact h
  ·rename_i hu
   simp only [kT,hu]
   split at h
   ·cases h
   ·rename_i hn
    rw [if_neg hn]
    exact kz P (fun t a b r h=>yu h) h
  ·rename_i hu
   simp only [kT,hu]
   split at h
   ·rename_i hs
    rw [hs]
    exact qW P (fun t a b r h=>yu h) h
   ·cases h
  ·exact h
end eq
section
variable (X:aN) (P:Program)
def KA (φ:Option Bool) (op:BinOp) (k:IntKind) (a b:Int) (K:AV→Prop):Prop :=
 match op with
 | .add=>K (.int k (X.wrap k (a+b)))
 | .sub=>K (.int k (X.wrap k (a - b)))
 | .mul=>K (.int k (X.wrap k (a*b)))
 | .quo=>imp φ (b ≠ 0)∧K (.int k (X.wrap k (a.tdiv b)))
 | .rem=>imp φ (b ≠ 0)∧K (.int k (a.tmod b))
 | .and=>K (.int k (X.wrap k (BitVec.ofInt k.bits a &&& BitVec.ofInt k.bits b).toNat))
 | .or=>K (.int k (X.wrap k (BitVec.ofInt k.bits a ||| BitVec.ofInt k.bits b).toNat))
 | .xor=>K (.int k (X.wrap k (BitVec.ofInt k.bits a ^^^ BitVec.ofInt k.bits b).toNat))
 | .andNot=>K (.int k (X.wrap k (BitVec.ofInt k.bits a &&& ~~~BitVec.ofInt k.bits b).toNat))
 | .eql=>K (.bool (a == b))
 | .neq=>K (.bool (a != b))
 | .lss=>K (.bool (decide (a<b)))
 | .leq=>K (.bool (decide (a≤b)))
 | .gtr=>K (.bool (decide (a > b)))
 | .geq=>K (.bool (decide (a≥b)))
 | _=>False
def JR (φ:Option Bool) (op:BinOp) (a b:List UInt8) (K:AV→Prop):Prop :=
 match op with
 | .add=>imp φ (((a.length+b.length:Nat):Int)≤9223372036854775807)∧K (.str (a ++ b))
 | .eql=>K (.bool (a == b))
 | .neq=>K (.bool (!(a == b)))
 | .lss=>K (.bool (ei a b))
 | .leq=>K (.bool (ei a b || a == b))
 | .gtr=>K (.bool (!(ei a b || a == b)))
 | .geq=>K (.bool (!ei a b))
 | _=>False
def Oz (φ:Option Bool) (op:BinOp) (t:TypeId) (xo yo:Operand) (x y:AV) (K:AV→Prop):Prop :=
 match op,x,y with
 | .shl,.int k a,.int _ b=>imp φ (0≤b)∧K (.int k (X.wrap k (a*2 ^ min b.toNat k.bits)))
 | .shr,.int k a,.int _ b=>imp φ (0≤b)∧K (.int k (a.fdiv (2 ^ min b.toNat k.bits)))
 | op,.int k a,.int k' b=>if k=k' then KA X φ op k a b K else False
 | op,.str a,.str b=>JR φ op a b K
 | .eql,.ptr a,.ptr b=>∃r,imp φ (kT P 8 t (.ptr a) (.ptr b)=some r)∧K (.bool r)
 | .neq,.ptr a,.ptr b=>∃r,imp φ (kT P 8 t (.ptr a) (.ptr b)=some r)∧K (.bool (!r))
 | .eql,x,y=>bif cz P t xo yo x y then vK ((O8 P 8 t x y).map .bool) K else False
 | .neq,x,y=>bif cz P t xo yo x y then vK ((O8 P 8 t x y).map fun r=>.bool (!r)) K else False
 | _,_,_=>False
def Te (op:UnOp) (x:AV) (K:AV→Prop):Prop :=
 match op,x with
 | .neg,.int k n=>K (.int k (X.wrap k (0 - n)))
 | .xor,.int k n=>K (.int k (X.wrap k (BitVec.ofInt k.bits (if k.signed then -1 else k.max) ^^^ BitVec.ofInt k.bits n).toNat))
 | .not,.bool b=>K (.bool !b)
 | _,_=>False
def yH (d:Int) (v:Option AV) (k:Int→Prop):Prop :=
 match v with
 | none=>k d
 | some (.int _ i)=>k i
 | some _=>False
def Bw (φ:Option Bool) (H:AH) (t:TypeId) (x:AV) (lo hi mx:Option AV) (K:AV→Prop):Prop :=
 match P.underlying t,x with
 | some .string,.str s =>
  match mx with
  | some _=>False
  | none=>yH 0 lo fun l=>yH s.length hi fun h=>imp φ (0≤l∧l≤h∧h≤s.length)∧K (.str ((s.drop l.toNat).take (h - l).toNat))
 | _,_=>∃a l c,imp φ (X.JS t x lo hi mx H=some (.slice a l c))∧K (.slice a l c)
def IP (φ:Option Bool) (H:AH) (src dst:TypeId) (x:AV) (K:AV→AH→Prop):Prop :=
 match P.underlying src,P.underlying dst,x with
 | some _,some (.int k),.int _ n=>K (.int k (X.wrap k n)) H
 | some _,some .string,.int _ n=>K (.str (cB n)) H
 | some _,some .string,.str s=>K (.str s) H
 | some _,some (.slice _),.str s=>match φ with
  | none=>∃a l c H',X.bs src dst s H=some (.slice a l c,H')∧K (.slice a l c) H'
  | some _=>False
 | some (.slice e),some .string,.slice a l c =>
  match P.underlying e with
  | some (.int .u8)=>∃s,imp φ (X.str (.slice a l c) H=some s)∧K (.str s) H
  | _=>False
 | some (.slice _),some (.slice _),.slice a l c=>match φ with
  | none=>∃H',X.Rz src dst (.slice a l c) H=some (.slice a l c,H')∧K (.slice a l c) H'
  | some _=>False
 | some (.pointer _),some .unsafePointer,.ptr (some a)=>match φ with
  | none=>X.Rz src dst (.ptr (some a)) H=some (.ptr (some a),H)∧K (.ptr (some a)) H
  | some _=>False
 | some .unsafePointer,some (.pointer _),.ptr (some a)=>match φ with
  | none=>X.Rz src dst (.ptr (some a)) H=some (.ptr (some a),H)∧K (.ptr (some a)) H
  | some _=>False
 | _,_,_=>False
def Ny (t:TypeId) (x:AV) (K:AV→Prop):Prop :=
 match P.underlying t,x with
 | some .string,.str s=>K (.int .i64 s.length)
 | some (.slice _),.slice _ n _=>K (.int .i64 n)
 | some (.array n _),_=>K (.int .i64 n)
 | some (.pointer a),_=>match P.underlying a with
  | some (.array n _)=>K (.int .i64 n)
  | _=>False
 | _,_=>False
def Af (φ:Option Bool) (H:AH) (t:TypeId) (a:AV) (K:AV→Prop):Prop :=
 match a with
 | .ptr (some (b,o)) =>
  match F1 P t with
  | some true=>match bX P t with
   | some s=>sq (yG P 12 t) fun cs=>imp φ (X.bP H b o s=some cs)∧K (.agg cs)
   | none=>False
  | some false=>FB (X5 P t) fun v=>imp φ (X.aM H b o=some v)∧K v
  | none=>False
 | _=>False
def nP (φ:Option Bool) (t:TypeId) (x ix:AV) (K:AV→Prop):Prop :=
 match P.underlying t,x,ix with
 | some (.slice e),.slice a len _,.int _ i=>match bX P e with
  | some s=>∃b o,imp φ (a=some (b,o)∧0≤i∧i<len)∧K (.ptr (some (b,o+i.toNat*s)))
  | none=>False
 | some (.array len e),.ptr (some (b,o)),.int _ i=>match bX P e with
  | some s=>imp φ (0≤i∧i<len)∧K (.ptr (some (b,o+i.toNat*s)))
  | none=>False
 | _,_,_=>False
def Cm (φ:Option Bool) (ty t:TypeId) (x ix:AV) (K:AV→Prop):Prop :=
 match P.underlying t,x,ix with
 | some .string,.str s,.int _ i=>imp φ (0≤i∧i<s.length)∧K (.int .u8 ((s[i.toNat]?).getD 0).toNat)
 | _,x,ix=>Rv P ty fun v=>imp φ (X.idx t x ix=some v)∧K v
def Ko (K:AV→Prop):AV→List AV→Prop
 | .int k x,[]=>K (.int k x)
 | .int k x,.int _ y :: l=>Ko K (.int k (if y<x then y else x)) l
 | _,_=>False
def Kp (K:AV→Prop):AV→List AV→Prop
 | .int k x,[]=>K (.int k x)
 | .int k x,.int _ y :: l=>Kp K (.int k (if y > x then y else x)) l
 | _,_=>False
def FC (e:Operand→Option AV):List Operand→(List AV→Prop)→Prop
 | [],k=>k []
 | x :: l,k=>vK (e x) fun v=>FC e l fun vs=>k (v :: vs)
def ux (φ:Option Bool) (H:AH) (b:Builtin) (ts:List TypeId) (xs:List AV) (K:AV→AH→Prop):Prop :=
 match b,ts,xs with
 | .len,t :: _,x :: _=>Ny P t x fun v=>K v H
 | .cap,t :: _,x :: _=>FB (.int .i64) fun v=>imp φ (X.FQ t x H=some v)∧K v H
 | .min,_,x :: l=>Ko (fun v=>K v H) x l
 | .max,_,x :: l=>Kp (fun v=>K v H) x l
 | .append,t :: u :: _,x :: y :: _=>match φ with
  | none=>∃a l c H',X.app t u x y H=some (.slice a l c,H')∧K (.slice a l c) H'
  | some _=>False
 | .copy,t :: _,x :: y :: _=>match φ with
  | none=>∃n H',X.Vd t x y H=some (.int .i64 n,H')∧K (.int .i64 n) H'
  | some _=>False
 | .unsafeSliceData,_,[.slice a _ c]=>∃q,imp φ (c ≠ 0∧a=some q)∧K (.ptr (some q)) H
 | .unsafeString,t :: _,[p,n]=>match φ with
  | none=>∃s H',X.M6 t p n H=some (.str s,H')∧K (.str s) H'
  | some _=>False
 | _,_,_=>False
def L4 (φ:Option Bool) (e:Operand→Option AV) (H:AH) (op:Op) (ty:TypeId) (K:AV→AH→Prop):Prop :=
 match op with
 | .move x=>vK (e x) fun v=>K v H
 | .assign x=>vK (e x) fun v=>K v H
 | .pick c a b=>vK (e c) fun c'=>match c' with
  | .bool u=>cond u (vK (e a) fun v=>K v H) (vK (e b) fun v=>K v H)
  | _=>False
 | .alloc t=>match φ,zeroOf P t with
  | none,some z=>bif z.cells.all AV.one then K (.ptr (some (X.n H,0))) (X.al H (.cells z.cells t { whole:=true })) else False
  | _,_=>False
 | .box t x=>match φ with
  | none=>vK (e x) fun v=>v.cells.all AV.one=true∧K (.ptr (some (X.n H,0))) (X.al H (.cells v.cells t { whole:=true }))
  | some _=>False
 | .build t ps=>match CL e ps.toList with
  | some l=>vK (uy P t l) fun v=>K v H
  | none=>False
 | .buildSlice t n ps=>match φ,CL e ps.toList,P.underlying t with
  | none,some l,some (.slice el)=>match bX P el,zeroOf P el with
   | some s,some z =>
    match lX (fun i=>some (i*s,s)) (cR z.cells n) l with
    | some cs=>(n*s≤2 ^ 24∧z.cells.length=s∧0<s∧z.cells.all AV.one=true∧l.all (fun p=>p.2.cells.all AV.one)=true)∧K (.slice (some (X.n H,0)) n n) (X.al H (.cells cs el { whole:=true }))
    | none=>False
   | _,_=>False
  | _,_,_=>False
 | .load t a=>vK (e a) fun a=>Af X P φ H t a fun v=>K v H
 | .store t a v=>match φ with
  | none=>vK (e a) fun a=>vK (e v) fun v=>match a,bX P t with
   | .ptr (some (b,o)),some s=>v.cells.length=s∧∃H',X.wr H b o v.cells=some H'∧K .undef H'
   | _,_=>False
  | some _=>False
 | .nilCheck x=>vK (e x) fun v=>match v with
  | .ptr (some _)=>K v H
  | .func (.func _) _ _=>K v H
  | .cV _=>K v H
  | _=>False
 | .binOp op t x y _=>vK (e x) fun a=>vK (e y) fun b=>Oz X P φ op t x y a b fun v=>K v H
 | .unOp op _ x=>vK (e x) fun a=>Te X op a fun v=>K v H
 | .convert s d x=>vK (e x) fun a=>IP X P φ H s d a K
 | .makeInterface t x=>vK (e x) fun a=>match P.underlying t with
  | some (.interface _)=>False
  | some _=>K (.iface t a) H
  | none=>False
 | .makeFunc f xs ys=>FC e xs.toList fun a=>FC e ys.toList fun b=>K (.func f a b) H
 | .makeSlice t l c=>match φ with
  | none=>vK (e l) fun l=>vK (e c) fun c=>match l,c with
   | .int .i64 l,.int .i64 c=>∃a n m H',X.PS t l c H=some (.slice a n m,H')∧K (.slice a n m) H'
   | _,_=>False
  | some _=>False
 | .slice t x lo hi mx=>vK (e x) fun a=>match CN e lo,CN e hi,CN e mx with
  | some lo,some hi,some mx=>Bw X P φ H t a lo hi mx fun v=>K v H
  | _,_,_=>False
 | .fieldAddr t x f=>vK (e x) fun a=>vK (iC P t a f) fun v=>K v H
 | .field t x f=>vK (e x) fun a=>vK (uc P t a f) fun v=>K v H
 | .indexAddr t x i=>vK (e x) fun a=>vK (e i) fun i=>nP P φ t a i fun v=>K v H
 | .index t x i=>vK (e x) fun a=>vK (e i) fun i=>Cm X P φ ty t a i fun v=>K v H
 | .range t x=>match φ with
  | none=>vK (e x) fun a=>match P.underlying t,a with
   | some .string,.str s=>K (.ptr (some (X.n H,0))) (X.al H (.iter s 0))
   | _,_=>False
  | some _=>False
 | .next x true=>match φ with
  | none=>vK (e x) fun a=>match a with
   | .ptr (some (b,0))=>∃s pos,X.get H b=some (.iter s pos) ∧
     (pos<s.length→K (.tuple [.bool true,.int .i64 pos,.int .i32 (ah s pos).1]) (X.set H b (.iter s (pos+(ah s pos).2)))) ∧
     (¬ pos<s.length→K (.tuple [.bool false]) H)
   | _=>False
  | some _=>False
 | .extract x i=>vK (e x) fun a=>match a with
  | .tuple vs=>vK vs[i]? fun v=>K v H
  | _=>False
 | .call ⟨.builtin b,args,ts⟩=>FC e args.toList fun l=>ux X P φ H b ts.toList l K
 | _=>False
end
theorem lZ {e:Operand→Option AV} : ∀ {l:List Operand} {k:List AV→Prop},FC e l k→∃vs,qh e l=some vs∧k vs
 | [],_,h=>⟨_,rfl,h⟩
 | x :: l,k,h=>by
  obtain ⟨v,hv,h⟩:=aQ h
  obtain ⟨vs,Ia,h⟩:=lZ h
  exact ⟨v :: vs,by simp [qh,hv,Ia],h⟩
end Go.Am
end
/- What an operation asks: it is enough. -/
section
namespace Go.Am
open Go.RowKit
def uI (P:Program) (r:Option Nat) (fv:AV) (vs:List AV) (H:AH) (K:AV→AH→Prop):Prop :=
 ∀(dst:Option Tmp) (f:Operand) (xs:Array Operand) (ts:Array TypeId) (ty:TypeId) (pos:String) (after:Array Edge) (guard:Option (Nat×Bool)) (T:List AV),
  ev P T f=some fv→pL P T xs.toList=some vs→jw P r ⟨dst,.call { callee:=.value f,args:=xs,argTypes:=ts },ty,pos,after,guard⟩ T H K
def mO (H:AH):AV→Option (List UInt8)
 | .slice none _ _=>some []
 | .slice (some (b,o)) len _=>(H.read b o len).bind cu
 | _=>none
def real (P:Program) (r:Option Nat):aN where
 wrap:=IntKind.wrap
 call:=az P
 cV:=fun b=>uI P r (.cV b)
 cfn:=uI P r
 n:=AH.n
 get:=AH.get
 set:=AH.set
 al:=AH.alloc
 aM:=AH.ak
 bP:=AH.read
 wr:=AH.write
 app:=fun t u x y H=>bZ P H t u x y
 Vd:=fun t x y H=>copyV P H t x y
 PS:=fun t l c H=>cK P H t (.int .i64 l) (.int .i64 c)
 JS:=fun t x lo hi mx H=>cJ P H t x lo hi mx
 str:=fun v H=>mO H v
 bs:=fun s d x H=>gF P H s d (.str x)
 idx:=lR P
 FQ:=fun t x H=>IZ P H t x
 M6:=fun t p n H=>eI P H t p n
 tm:=bM
 Rz:=fun s d x H=>gF P H s d x
section
variable {P:Program} {r:Option Nat} {φ:Option Bool} {H:AH}
def Comes (φ:Option Bool) (x:Option AV) (K:AV→Prop):Prop:=∃v,(φ.getD true=true→x=some v)∧K v
theorem Comes.same {x y:Option AV} {K:AV→Prop} (h:Comes φ x K) (e:φ.getD true=true→x=y):Comes φ y K:=by
 obtain ⟨v,h1,h2⟩:=h
 exact ⟨v,fun hp=>by rw [← e hp];exact h1 hp,h2⟩
theorem Kz {op:BinOp} {k:IntKind} {a b:Int} {K:AV→Prop} (h:KA (real P r) φ op k a b K):Comes φ (kq op k a b) K:=by
 cases op <;> simp only [KA] at h
 case quo=>exact ⟨_,fun hp=>by simp only [kq];rw [if_neg (c7 h.1 hp)];rfl,h.2⟩
 case rem=>exact ⟨_,fun hp=>by simp only [kq];rw [if_neg (c7 h.1 hp)],h.2⟩
 all_goals exact ⟨_,fun _=>rfl,h⟩
theorem JQ {op:BinOp} {a b:List UInt8} {K:AV→Prop} (h:JR φ op a b K):Comes φ (sH op a b) K:=by
 cases op <;> simp only [JR] at h
 case add=>exact ⟨_,fun hp=>by simp only [sH];rw [if_neg (by have:=c7 h.1 hp;show ¬ (_ > (9223372036854775807:Int));omega)],h.2⟩
 all_goals exact ⟨_,fun _=>rfl,h⟩
theorem cP {b:Bool} {p:Prop} (h:bif b then p else False):b=true∧p:=by
 cases b with
 | true=>exact ⟨rfl,h⟩
 | false=>exact h.elim
theorem LG {op:BinOp} {t:TypeId} {xo yo:Operand} {x y:AV} {K:AV→Prop} (h:Oz (real P r) P φ op t xo yo x y K):Comes φ (rP P op t xo yo x y) K:=by
 unfold Oz at h
 split at h
 ·rename_i k a kb b
  refine ⟨_,fun hp=>?_,h.2⟩
  have:=c7 h.1 hp
  simp only [rP];rw [if_neg (by omega)];rfl
 ·rename_i k a kb b
  refine ⟨_,fun hp=>?_,h.2⟩
  have:=c7 h.1 hp
  simp only [rP];rw [if_neg (by omega)]
 ·rename_i op k a kb b KP Gi
  split at h
  ·rename_i hk
   refine (Kz h).same fun _=>?_
   subst hk
   cases op <;> first | (simp only [rP,if_true];done) | (simp only [kq] at *;simp_all [KA])
  ·exact h.elim
 ·rename_i a b
  refine (JQ h).same fun _=>?_
  cases op <;> first | rfl | (simp only [JR] at h)
 ·obtain ⟨r,h1,h2⟩:=h
  refine ⟨_,fun hp=>?_,h2⟩
  have:=c7 h1 hp
  show (kT P 8 t _ _).map AV.bool=_
  rw [this];rfl
 ·obtain ⟨r,h1,h2⟩:=h
  refine ⟨_,fun hp=>?_,h2⟩
  have:=c7 h1 hp
  show (kT P 8 t _ _).map (fun r=>AV.bool (!r))=_
  rw [this];rfl
 ·rename_i KP Gi _
  obtain ⟨h1,h2⟩:=cP h
  obtain ⟨v,hv,hk⟩:=aQ h2
  obtain ⟨q,hq,rfl⟩:=Option.map_eq_some_iff.1 hv
  refine ⟨_,fun _=>?_,hk⟩
  have:rP P .eql t xo yo x y=if cz P t xo yo x y then (kT P 8 t x y).map .bool else none:=by
   unfold rP
   cases x <;> cases y <;> first | rfl | exact (KP _ _ _ _ rfl rfl).elim | exact (Gi _ _ rfl rfl).elim
  rw [this,if_pos h1,yu _ hq];rfl
 ·rename_i KP Gi _
  obtain ⟨h1,h2⟩:=cP h
  obtain ⟨v,hv,hk⟩:=aQ h2
  obtain ⟨q,hq,rfl⟩:=Option.map_eq_some_iff.1 hv
  refine ⟨_,fun _=>?_,hk⟩
  have:rP P .neq t xo yo x y=if cz P t xo yo x y then (kT P 8 t x y).map (fun r=>.bool (!r)) else none:=by
   unfold rP
   cases x <;> cases y <;> first | rfl | exact (KP _ _ _ _ rfl rfl).elim | exact (Gi _ _ rfl rfl).elim
  rw [this,if_pos h1,yu _ hq];rfl
 ·exact h.elim
theorem M7 {op:UnOp} {x:AV} {K:AV→Prop} (h:Te (real P r) op x K):Comes φ (Pj op x) K:=by
 unfold Te at h
 split at h
 ·exact ⟨_,fun _=>rfl,h⟩
 ·exact ⟨_,fun _=>rfl,h⟩
 ·exact ⟨_,fun _=>rfl,h⟩
 ·exact h.elim
theorem uA {d:Nat} {v:Option AV} {k:Int→Prop} (h:yH d v k) : ∃i,k i∧(0≤i→fR d v=some i.toNat):=by
 unfold yH at h
 split at h
 ·exact ⟨_,h,fun _=>by simp [fR]⟩
 ·exact ⟨_,h,fun h0=>by simp [fR,h0]⟩
 ·exact h.elim
theorem Eo {t:TypeId} {x:AV} {lo hi mx:Option AV} {K:AV→Prop} (h:Bw (real P r) P φ H t x lo hi mx K):Comes φ (cJ P H t x lo hi mx) K:=by
 unfold Bw at h
 split at h
 ·rename_i s hu
  split at h
  ·exact h.elim
  ·obtain ⟨l,h,hl⟩:=uA (d:=0) h
   obtain ⟨u,h,hh⟩:=uA (d:=s.length) h
   refine ⟨_,fun hp=>?_,h.2⟩
   obtain ⟨g1,g2,g3⟩:=c7 h.1 hp
   unfold cJ
   simp only [hu,Option.isSome_none,Bool.false_eq_true,if_false]
   rw [hl g1,Option.bind_some,hh (by omega),Option.bind_some,if_pos (by omega)]
   rw [show u.toNat - l.toNat=(u - l).toNat by omega]
 ·obtain ⟨a,l,c,h1,h2⟩:=h
  exact ⟨_,fun hp=>c7 h1 hp,h2⟩
theorem Ku {t:TypeId} {x:AV} {K:AV→Prop} (h:Ny P t x K):Comes φ (Ag P t x) K:=by
 unfold Ny at h
 split at h
 ·rename_i hu;exact ⟨_,fun _=>by simp only [Ag,hu],h⟩
 ·rename_i hu;exact ⟨_,fun _=>by simp only [Ag,hu],h⟩
 ·rename_i hu;exact ⟨_,fun _=>by simp only [Ag,hu],h⟩
 ·rename_i hu
  split at h
  ·rename_i Ql;exact ⟨_,fun _=>by simp only [Ag,hu,Ql],h⟩
  ·exact h.elim
 ·exact h.elim
theorem tB {t:TypeId} {a:AV} {K:AV→Prop} (h:Af (real P r) P φ H t a K):Comes φ (jE P H t a) K:=by
 unfold Af at h
 split at h
 ·rename_i b o
  split at h
  ·rename_i ha
   split at h
   ·rename_i s hs
    obtain ⟨cs,h1,h2⟩:=lY h
    refine ⟨_,fun hp=>?_,h2⟩
    have:=c7 h1 hp
    simp only [jE,ha,hs,Option.bind_some]
    rw [show AH.read H b o s=some cs from this];rfl
   ·exact h.elim
  ·rename_i ha
   obtain ⟨v,h1,h2⟩:=o8 h
   refine ⟨_,fun hp=>?_,h2⟩
   have:=c7 h1 hp
   simp only [jE,ha];exact this
  ·exact h.elim
 ·exact h.elim
theorem u9 {t:TypeId} {x ix:AV} {K:AV→Prop} (h:nP P φ t x ix K):Comes φ (eW P t x ix) K:=by
 unfold nP at h
 split at h
 ·rename_i e a len c kd i hu
  split at h
  ·rename_i s hs
   obtain ⟨b,o,h1,h2⟩:=h
   refine ⟨_,fun hp=>?_,h2⟩
   obtain ⟨rfl,g1,g2⟩:=c7 h1 hp
   simp only [eW,hu,hs];rw [if_pos ⟨g1,g2⟩]
  ·exact h.elim
 ·rename_i len e b o kd i hu
  split at h
  ·rename_i s hs
   refine ⟨_,fun hp=>?_,h.2⟩
   simp only [eW,hu,hs];rw [if_pos (c7 h.1 hp)]
  ·exact h.elim
 ·exact h.elim
theorem Fh {ty t:TypeId} {x ix:AV} {K:AV→Prop} (h:Cm (real P r) P φ ty t x ix K):Comes φ (lR P t x ix) K:=by
 unfold Cm at h
 split at h
 ·rename_i s kd i hu
  refine ⟨_,fun hp=>?_,h.2⟩
  obtain ⟨g1,g2⟩:=c7 h.1 hp
  simp only [lR,hu]
  rw [if_pos g1]
  have:i.toNat<s.length:=by omega
  rw [List.getElem?_eq_getElem this]
  simp
 ·obtain ⟨v,h1,h2⟩:=yp h
  exact ⟨_,fun hp=>c7 h1 hp,h2⟩
theorem Ds {K:AV→Prop} : ∀ {l:List AV} {x:AV},Ko K x l→Comes φ (aq (fun y x=>decide (y<x)) x l) K
 | [],.int k x,h=>⟨_,fun _=>rfl,h⟩
 | .int k' y :: l,.int k x,h=>by
  have:=Ds (l:=l) (x:=.int k (if y<x then y else x)) h
  refine this.same fun _=>?_
  simp only [aq,decide_eq_true_eq]
 | .bool _ :: _,.int _ _,h | .str _ :: _,.int _ _,h | .ptr _ :: _,.int _ _,h | .slice _ _ _ :: _,.int _ _,h | .func _ _ _ :: _,.int _ _,h | .nilFunc :: _,.int _ _,h
 | .cV _ :: _,.int _ _,h | .iface _ _ :: _,.int _ _,h | .nilIface :: _,.int _ _,h | .agg _ :: _,.int _ _,h | .tuple _ :: _,.int _ _,h | .map _ :: _,.int _ _,h | .half _ _ :: _,.int _ _,h | .qz :: _,.int _ _,h | .any :: _,.int _ _,h=>h.elim
 | _,.bool _,h | _,.str _,h | _,.ptr _,h | _,.slice _ _ _,h | _,.func _ _ _,h | _,.nilFunc,h | _,.cV _,h | _,.iface _ _,h | _,.nilIface,h | _,.agg _,h | _,.tuple _,h | _,.map _,h | _,.half _ _,h | _,.qz,h | _,.any,h=>by
  simp [Ko] at h
theorem Dt {K:AV→Prop} : ∀ {l:List AV} {x:AV},Kp K x l→Comes φ (aq (fun y x=>decide (y > x)) x l) K
 | [],.int k x,h=>⟨_,fun _=>rfl,h⟩
 | .int k' y :: l,.int k x,h=>by
  have:=Dt (l:=l) (x:=.int k (if y > x then y else x)) h
  refine this.same fun _=>?_
  simp only [aq,decide_eq_true_eq]
 | .bool _ :: _,.int _ _,h | .str _ :: _,.int _ _,h | .ptr _ :: _,.int _ _,h | .slice _ _ _ :: _,.int _ _,h | .func _ _ _ :: _,.int _ _,h | .nilFunc :: _,.int _ _,h
 | .cV _ :: _,.int _ _,h | .iface _ _ :: _,.int _ _,h | .nilIface :: _,.int _ _,h | .agg _ :: _,.int _ _,h | .tuple _ :: _,.int _ _,h | .map _ :: _,.int _ _,h | .half _ _ :: _,.int _ _,h | .qz :: _,.int _ _,h | .any :: _,.int _ _,h=>h.elim
 | _,.bool _,h | _,.str _,h | _,.ptr _,h | _,.slice _ _ _,h | _,.func _ _ _,h | _,.nilFunc,h | _,.cV _,h | _,.iface _ _,h | _,.nilIface,h | _,.agg _,h | _,.tuple _,h | _,.map _,h | _,.half _ _,h | _,.qz,h | _,.any,h=>by
  simp [Kp] at h
def aW (φ:Option Bool) (H:AH) (x:Option (AV×AH)) (K:AV→AH→Prop):Prop:=∃v H',(φ.getD true=true→x=some (v,H'))∧(φ ≠ none→H'=H)∧K v H'
theorem Comes.heap {x:Option AV} {K:AV→AH→Prop} (h:Comes φ x fun v=>K v H):aW φ H (x.map (·,H)) K:=by
 obtain ⟨v,h1,h2⟩:=h
 exact ⟨v,H,fun hp=>by rw [h1 hp];rfl,fun _=>rfl,h2⟩
theorem aW.none {x:Option (AV×AH)} {K:AV→AH→Prop} {v:AV} {H' : AH} (h:x=some (v,H')) (k:K v H'):aW none H x K:=⟨v,H',fun _=>h,fun h=>absurd rfl h,k⟩
theorem aW.still {x:Option (AV×AH)} {K:AV→AH→Prop} {v:AV} (h:x=some (v,H)) (k:K v H):aW φ H x K:=⟨v,H,fun _=>h,fun _=>rfl,k⟩
theorem aW.same {x y:Option (AV×AH)} {K:AV→AH→Prop} (h:aW φ H x K) (e:φ.getD true=true→x=y):aW φ H y K:=by
 obtain ⟨v,H',h1,h2,h3⟩:=h
 exact ⟨v,H',fun hp=>by rw [← e hp];exact h1 hp,h2,h3⟩
theorem IN {s d:TypeId} {x:AV} {K:AV→AH→Prop} (h:IP (real P r) P φ H s d x K):aW φ H (gF P H s d x) K:=by
 unfold IP at h
 split at h
 ·rename_i hs hd;exact aW.still (by simp only [gF,hs,hd];rfl) h
 ·rename_i hs hd;exact aW.still (by simp only [gF,hs,hd]) h
 ·rename_i hs hd;exact aW.still (by simp only [gF,hs,hd]) h
 ·split at h
  ·obtain ⟨a,l,c,H',h1,h2⟩:=h
   exact aW.none h1 h2
  ·exact h.elim
 ·rename_i e a l c hs hd
  split at h
  ·rename_i he
   obtain ⟨s,h1,h2⟩:=h
   refine ⟨_,_,fun hp=>?_,fun _=>rfl,h2⟩
   have:=c7 h1 hp
   cases a with
   | none =>
    simp only [real,mO,Option.some.injEq] at this
    subst this
    simp only [gF,hs,hd,he]
   | some q =>
    obtain ⟨b,o⟩:=q
    simp only [real,mO] at this
    obtain ⟨cs,hc,hb⟩:=Option.bind_eq_some_iff.1 this
    simp only [gF,hs,hd,he,hc,Option.bind_some,hb,Option.map_some]
  ·exact h.elim
 ·split at h
  ·obtain ⟨H',h1,h2⟩:=h
   exact aW.none h1 h2
  ·exact h.elim
 ·split at h
  ·exact aW.none h.1 h.2
  ·exact h.elim
 ·split at h
  ·exact aW.none h.1 h.2
  ·exact h.elim
 ·exact h.elim
theorem AR {b:Builtin} {ts:List TypeId} {xs:List AV} {K:AV→AH→Prop} (h:ux (real P r) P φ H b ts xs K):aW φ H (iE P H b ts xs) K:=by
 unfold ux at h
 split at h
 ·exact (Ku h).heap
 ·obtain ⟨v,h1,h2⟩:=o8 h
  exact Comes.heap ⟨v,fun hp=>c7 h1 hp,h2⟩
 ·exact (Ds h).heap
 ·exact (Dt h).heap
 ·split at h
  ·obtain ⟨a,l,c,H',h1,h2⟩:=h;exact aW.none h1 h2
  ·exact h.elim
 ·split at h
  ·obtain ⟨n,H',h1,h2⟩:=h;exact aW.none h1 h2
  ·exact h.elim
 ·rename_i ts a l c
  obtain ⟨q,h1,h2⟩:=h
  refine ⟨_,_,fun hp=>?_,fun _=>rfl,h2⟩
  obtain ⟨g1,rfl⟩:=c7 h1 hp
  cases ts <;> simp [iE,g1]
 ·split at h
  ·obtain ⟨s,H',h1,h2⟩:=h;exact aW.none h1 h2
  ·exact h.elim
 ·exact h.elim
theorem B3 {e:Operand→Option AV} {op:Op} {ty:TypeId} {K:AV→AH→Prop} (h:L4 (real P r) P φ e H op ty K):aW φ H (lF P e H op) K:=by
 unfold L4 at h
 split at h
 ·obtain ⟨v,hv,h⟩:=aQ h;exact aW.still (by simp [lF,qJ,hv]) h
 ·obtain ⟨v,hv,h⟩:=aQ h;exact aW.still (by simp [lF,qJ,hv]) h
 ·obtain ⟨c',hc,h⟩:=aQ h
  split at h
  ·rename_i u
   cases u with
   | true=>obtain ⟨v,hv,h⟩:=aQ (show vK _ _ from h);exact aW.still (by simp [lF,m7,hc,hv]) h
   | false=>obtain ⟨v,hv,h⟩:=aQ (show vK _ _ from h);exact aW.still (by simp [lF,m7,hc,hv]) h
  ·exact h.elim
 ·split at h
  ·rename_i z hz
   obtain ⟨h1,h2⟩:=cP h
   exact aW.none (by simp only [lF,xP,hz,Option.bind_some];rw [if_pos h1];rfl) h2
  ·exact h.elim
 ·split at h
  ·obtain ⟨v,hv,h1,h2⟩:=aQ h
   exact aW.none (by simp only [lF,Ki,hv,Option.bind_some];rw [if_pos h1];rfl) h2
  ·exact h.elim
 ·split at h
  ·rename_i l hl
   obtain ⟨v,hv,h⟩:=aQ h
   exact aW.still (by simp [lF,tu,hl,hv]) h
  ·exact h.elim
 ·split at h
  ·rename_i l el hl hu
   split at h
   ·rename_i s z hs hz
    split at h
    ·rename_i cs hf
     exact aW.none (by simp only [lF,gz,hl,Option.bind_some,gH,hu,hs,hz];rw [if_pos h.1,hf];rfl) h.2
    ·exact h.elim
   ·exact h.elim
  ·exact h.elim
 ·obtain ⟨a,ha,h⟩:=aQ h
  exact (tB h).heap.same fun _=>by simp [lF,Dl,ha]
 ·split at h
  ·obtain ⟨a,ha,h⟩:=aQ h
   obtain ⟨v,hv,h⟩:=aQ h
   split at h
   ·rename_i b o s hs hold
    obtain ⟨h1,H',h2,h3⟩:=h
    exact aW.none (by simp only [lF,xH,ha,hv,Option.bind_some,sI];rw [if_pos (by rw [hs,h1]),show AH.write H b o v.cells=some H' from h2];rfl) h3
   ·exact h.elim
  ·exact h.elim
 ·obtain ⟨v,hv,h⟩:=aQ h
  split at h
  ·exact aW.still (by simp [lF,EW,vJ,hv]) h
  ·exact aW.still (by simp [lF,EW,vJ,hv]) h
  ·exact aW.still (by simp [lF,EW,vJ,hv]) h
  ·exact h.elim
 ·obtain ⟨a,ha,h⟩:=aQ h
  obtain ⟨b,hb,h⟩:=aQ h
  exact (LG h).heap.same fun _=>by simp [lF,Kj,ha,hb]
 ·obtain ⟨a,ha,h⟩:=aQ h
  exact (M7 h).heap.same fun _=>by simp [lF,Sa,ha]
 ·obtain ⟨a,ha,h⟩:=aQ h
  exact (IN h).same fun _=>by simp [lF,Dm,ha]
 ·obtain ⟨a,ha,h⟩:=aQ h
  split at h
  ·exact h.elim
  ·rename_i d Ij hu
   refine aW.still ?_ h
   simp only [lF,xM,ha,Option.bind_some,hu]
  ·exact h.elim
 ·obtain ⟨a,ha,h⟩:=lZ h
  obtain ⟨b,hb,h⟩:=lZ h
  exact aW.still (by simp [lF,zV,ha,hb]) h
 ·split at h
  ·obtain ⟨a,ha,h⟩:=aQ h
   obtain ⟨b,hb,h⟩:=aQ h
   split at h
   ·obtain ⟨q,n,m,H',h1,h2⟩:=h
    exact aW.none (by simp only [lF,oN,ha,hb,Option.bind_some];exact h1) h2
   ·exact h.elim
  ·exact h.elim
 ·obtain ⟨a,ha,h⟩:=aQ h
  split at h
  ·rename_i lo hi mx Gj My Mt
   exact (Eo h).heap.same fun _=>by simp [lF,tq,ha,Gj,My,Mt]
  ·exact h.elim
 ·obtain ⟨a,ha,h⟩:=aQ h
  obtain ⟨v,hv,h⟩:=aQ h
  exact aW.still (by simp [lF,j9,ha,hv]) h
 ·obtain ⟨a,ha,h⟩:=aQ h
  obtain ⟨v,hv,h⟩:=aQ h
  exact aW.still (by simp [lF,xN,ha,hv]) h
 ·obtain ⟨a,ha,h⟩:=aQ h
  obtain ⟨b,hb,h⟩:=aQ h
  exact (u9 h).heap.same fun _=>by simp [lF,j8,ha,hb]
 ·obtain ⟨a,ha,h⟩:=aQ h
  obtain ⟨b,hb,h⟩:=aQ h
  exact (Fh h).heap.same fun _=>by simp [lF,xL,ha,hb]
 ·split at h
  ·obtain ⟨a,ha,h⟩:=aQ h
   split at h
   ·rename_i s hu
    exact aW.none (by simp only [lF,xI,ha,Option.bind_some,hu];rfl) h
   ·exact h.elim
  ·exact h.elim
 ·split at h
  ·obtain ⟨a,ha,h⟩:=aQ h
   split at h
   ·rename_i b
    obtain ⟨s,pos,h1,h2,h3⟩:=h
    have hg:AH.get H b=some (.iter s pos):=h1
    by_cases hp:pos<s.length
    ·exact aW.none (by simp only [lF,zU,ha,Option.bind_some,hg];rw [if_pos hp];rfl) (h2 hp)
    ·exact aW.none (by simp only [lF,zU,ha,Option.bind_some,hg];rw [if_neg hp]) (h3 hp)
   ·exact h.elim
  ·exact h.elim
 ·obtain ⟨a,ha,h⟩:=aQ h
  split at h
  ·obtain ⟨v,hv,h⟩:=aQ h
   exact aW.still (by simp [lF,oO,ha,hv]) h
  ·exact h.elim
 ·obtain ⟨l,hl,h⟩:=lZ h
  exact (AR h).same fun _=>by simp [lF,lG,hl]
 ·exact h.elim
end
end Go.Am
end
/- What a region asks. -/
section
namespace Go.Am
open Go.RowKit
abbrev Cd:=List (Tmp×(Nat×Bool))
section
variable (ops:Array Oper)
def lV (g:Nat):Option Tmp:=(ops[g]?).bind (·.dst)
def eH (T:List AV) (gd:Nat×Bool):Option Bool :=
 match (lV ops gd.1).bind (T[·]?) with
 | some (.bool b)=>some (b == gd.2)
 | some .any=>none
 | _=>some false
theorem fX (T:List AV) (o:Oper):aO ops T o=match o.guard with | none=>some true | some gd=>eH ops T gd:=by
 unfold aO eH lV
 cases o.guard with
 | none=>rfl
 | some gd=>rfl
def u0 (T:List AV) (cd:Cd):Nat→Nat×Bool→Option Bool
 | 0,_=>none
 | d+1,gd =>
  match lV ops gd.1 with
  | some t=>match T[t]? with
   | some (.bool u)=>match cd.lookup t with
    | none=>some (u == gd.2)
    | some g2=>(u0 T cd d g2).map fun p=>p && (u == gd.2)
   | _=>none
  | none=>none
structure Rel (T:List AV) (cd:Cd) (Ta:List AV):Prop where
 len:Ta.length=T.length
 pl : ∀t,cd.lookup t=none→Ta[t]? = T[t]?
 cn : ∀t gd,cd.lookup t=some gd→∃p,eH ops Ta gd=some p∧(p=true→Ta[t]? = T[t]?)∧(p=false→Ta[t]? = some .undef∨Ta[t]? = none)
variable {ops}
theorem oH {T:List AV} {cd:Cd} {Ta:List AV} (h:Rel ops T cd Ta) : ∀ {d:Nat} {gd:Nat×Bool} {p:Bool},u0 ops T cd d gd=some p→eH ops Ta gd=some p
 | 0,_,_,hp=>by cases hp
 | d+1,gd,p,hp=>by
  simp only [u0] at hp
  split at hp
  ·rename_i t ht
   split at hp
   ·rename_i u hu
    split at hp
    ·rename_i hc
     cases hp
     simp only [eH,ht,Option.bind_some,h.pl t hc,hu]
    ·rename_i g2 hc
     obtain ⟨q,hq,rfl⟩:=Option.map_eq_some_iff.1 hp
     obtain ⟨q',h1,h2,h3⟩:=h.cn t g2 hc
     rw [oH h hq] at h1
     cases h1
     cases q with
     | true=>simp only [eH,ht,Option.bind_some,h2 rfl,hu,Bool.true_and]
     | false =>
      rcases h3 rfl with e | e <;> simp [eH,ht,e]
   ·cases hp
  ·cases hp
def yh (ops:Array Oper) (cd:Cd) (dst:Option Tmp):Bool :=
 match dst with
 | none=>true
 | some d=>cd.all fun p=>!(Nat.beq p.1 d) && match lV ops p.2.1 with | some t=>!(Nat.beq t d) | none=>true
theorem qL {β:Type} {t:Nat} {g:β} : ∀ {cd:List (Nat×β)},cd.lookup t=some g→(t,g) ∈ cd
 | [],h=>by cases h
 | (a,b) :: l,h=>by
  rw [List.lookup_cons] at h
  split at h
  ·rename_i e;simp only [beq_iff_eq] at e;cases h;subst e;simp
  ·exact List.mem_cons_of_mem _ (qL h)
theorem qU {cd:Cd} {d:Tmp} (h:yh ops cd (some d)=true) {t:Tmp} {gd:Nat×Bool} (hc:cd.lookup t=some gd):t ≠ d∧lV ops gd.1 ≠ some d:=by
 have:=List.all_eq_true.1 h _ (qL hc)
 simp only [Bool.and_eq_true,Bool.not_eq_true'] at this
 refine ⟨fun e=>?_,fun e=>?_⟩
 ·have h1:=this.1;rw [e,Nat.beq_refl] at h1;cases h1
 ·have h2:=this.2;rw [e] at h2;simp at h2
theorem mj {T:List AV} {dst:Option Tmp} {v:AV} {gd:Nat×Bool} (h : ∀d,dst=some d→lV ops gd.1 ≠ some d):eH ops (aP T dst v) gd=eH ops T gd:=by
 cases dst with
 | none=>rfl
 | some d =>
  unfold eH
  cases ht:lV ops gd.1 with
  | none=>rfl
  | some t =>
   have:d ≠ t:=fun e=>h d rfl (by rw [ht,e])
   simp [aP,this]
theorem Rel.put {T:List AV} {cd:Cd} {Ta:List AV} (h:Rel ops T cd Ta) {dst:Option Tmp} (hf:yh ops cd dst=true) (v:AV):Rel ops (aP T dst v) cd (aP Ta dst v):=by
 cases dst with
 | none=>exact h
 | some d =>
  refine ⟨by simp [aP,h.len],fun t ht=>?_,fun t gd hc=>?_⟩
  ·simp only [aP,List.getElem?_set,h.pl t ht,h.len]
  ·obtain ⟨p,h1,h2,h3⟩:=h.cn t gd hc
   obtain ⟨e1,e2⟩:=qU hf hc
   refine ⟨p,by rw [mj (fun d' Ax=>by cases Ax;exact e2)];exact h1,?_,?_⟩
   ·simpa [aP,List.getElem?_set,Ne.symm e1] using h2
   ·simpa [aP,List.getElem?_set,Ne.symm e1] using h3
def D5 (dst:Option Tmp) (gd:Nat×Bool) (cd:Cd):Cd :=
 match dst with
 | some d=>(d,gd) :: cd
 | none=>cd
theorem Rel.PE {T:List AV} {cd:Cd} {Ta:List AV} (h:Rel ops T cd Ta) {dst:Option Tmp} (hf:yh ops cd dst=true) {gd:Nat×Bool} (hg : ∀d,dst=some d→lV ops gd.1 ≠ some d) {p:Bool} (hw:eH ops Ta gd=some p) (v:AV) :
  Rel ops (aP T dst v) (D5 dst gd cd) (aP Ta dst (if p then v else .undef)):=by
 cases dst with
 | none=>exact h
 | some d =>
  refine ⟨by simp [aP,h.len],fun t ht=>?_,fun t Z5 hc=>?_⟩
  ·simp only [D5,List.lookup_cons] at ht
   split at ht
   ·cases ht
   ·rename_i e
    have:d ≠ t:=fun h=>by simp [h] at e
    simp [aP,this,h.pl t ht]
  ·simp only [D5,List.lookup_cons] at hc
   split at hc
   ·rename_i e
    simp only [beq_iff_eq] at e
    cases hc;subst e
    refine ⟨p,by rw [mj (fun d' Ax=>by cases Ax;exact hg _ rfl)];exact hw,fun hp=>?_,fun hp=>?_⟩
    ·subst hp;simp [aP,List.getElem?_set,h.len]
    ·subst hp
     simp only [aP,List.getElem?_set,Bool.false_eq_true,if_false,if_true]
     split <;> simp
   ·rename_i e
    have cU:d ≠ t:=fun h=>by simp [h] at e
    obtain ⟨q,h1,h2,h3⟩:=h.cn t Z5 hc
    obtain ⟨e1,e2⟩:=qU hf hc
    refine ⟨q,by rw [mj (fun d' Ax=>by cases Ax;exact e2)];exact h1,?_,?_⟩
    ·simpa [aP,List.getElem?_set,cU] using h2
    ·simpa [aP,List.getElem?_set,cU] using h3
theorem Rel.nil (T:List AV):Rel ops T [] T:=⟨rfl,fun _ _=>rfl,fun t gd h=>by cases h⟩
def nU (T:List AV):Cd→List AV
 | []=>T
 | (t,_) :: cd=>nU (T.set t .any) cd
structure Wk (T T' : List AV):Prop where
 len:T.length=T'.length
 at' : ∀(i:Nat) (v:AV),T[i]? = some v→v=AV.any∨T'[i]? = some v
theorem Wk.refl (T:List AV):Wk T T:=⟨rfl,fun _ _ h=>.inr h⟩
theorem Wk.trans {A B C:List AV} (h:Wk A B) (k:Wk B C):Wk A C:=⟨h.len.trans k.len,fun i v hv=>by
 rcases h.at' i v hv with e | e
 ·exact .inl e
 ·exact k.at' i v e⟩
theorem ue : ∀ {cd:Cd} {T:List AV} {i:Nat} {v:AV},(nU T cd)[i]? = some v→v=AV.any∨(cd.lookup i=none∧T[i]? = some v)
 | [],T,i,v,h=>.inr ⟨rfl,h⟩
 | (t,g) :: cd,T,i,v,h=>by
  rcases ue (cd:=cd) h with e | ⟨e1,e2⟩
  ·exact .inl e
  ·rw [List.getElem?_set] at e2
   split at e2
   ·split at e2
    ·cases e2;exact .inl rfl
    ·cases e2
   ·rename_i cU
    refine .inr ⟨?_,e2⟩
    rw [List.lookup_cons]
    have:(i == t)=false:=by simpa using fun h=>cU h.symm
    rw [this];exact e1
theorem nq : ∀ {cd:Cd} {T:List AV},(nU T cd).length=T.length
 | [],_=>rfl
 | (t,g) :: cd,T=>by rw [nU,nq];simp
theorem Rel.drop {T:List AV} {cd:Cd} {Ta:List AV} (h:Rel ops T cd Ta):Wk (nU T cd) Ta:=by
 refine ⟨by rw [nq,h.len],fun i v hv=>?_⟩
 rcases ue hv with e | ⟨e1,e2⟩
 ·exact .inl e
 ·exact .inr (by rw [h.pl i e1];exact e2)
end
/-! ### One operation in a region -/
section
variable (X:aN) (P:Program) (ops:Array Oper)
def qC (a b:Nat×Bool):Bool:=Nat.beq a.1 b.1 && (a.2 == b.2)
def oF (T:List AV) (cd:Cd) (gd:Option (Nat×Bool)) (φ:Option Bool) (x:Operand) (k:Prop):Prop :=
 match x with
 | .tmp t=>match cd.lookup t with
  | none=>k
  | some g =>
   bif (match gd with | some g'=>qC g g' | none=>false) then k
   else match u0 ops T cd 8 g with
    | some p=>imp φ (p=true)∧k
    | none=>False
 | _=>k
def jm (T:List AV) (cd:Cd) (gd:Option (Nat×Bool)) (φ:Option Bool):List Operand→Prop→Prop
 | [],k=>k
 | x :: l,k=>oF ops T cd gd φ x (jm T cd gd φ l k)
variable {ops}
theorem lB {T:List AV} {cd:Cd} {Ta:List AV} (h:Rel ops T cd Ta) {gd:Option (Nat×Bool)} {φ:Option Bool} (hφ:φ.getD true=true) (hg : ∀g,gd=some g→eH ops Ta g=some true) {x:Operand} {k:Prop} (hr:oF ops T cd gd φ x k) :
  ev P Ta x=ev P T x∧k:=by
 unfold oF at hr
 split at hr
 ·rename_i t
  split at hr
  ·rename_i hc
   exact ⟨by simp only [ev,h.pl t hc],hr⟩
  ·rename_i g hc
   obtain ⟨q,h1,h2,_⟩:=h.cn t g hc
   cases hb:(match gd with | some g'=>qC g g' | none=>false) with
   | true =>
    rw [hb] at hr
    refine ⟨?_,hr⟩
    cases gd with
    | none=>cases hb
    | some g' =>
     simp only [qC,Bool.and_eq_true,beq_iff_eq] at hb
     have e:g=g':=by
      obtain ⟨a,b⟩:=g;obtain ⟨c,d⟩:=g'
      simp only at hb
      rw [Nat.eq_of_beq_eq_true hb.1,hb.2]
     subst e
     rw [hg g rfl] at h1;cases h1
     simp only [ev,h2 rfl]
   | false =>
    rw [hb] at hr
    simp only [cond_false] at hr
    split at hr
    ·rename_i p hp
     obtain ⟨Qs,yd⟩:=hr
     have e:=c7 Qs hφ
     subst e
     rw [oH h hp] at h1;cases h1
     exact ⟨by simp only [ev,h2 rfl],yd⟩
    ·exact hr.elim
 ·rename_i hx
  refine ⟨?_,hr⟩
  cases x with
  | tmp t=>exact absurd rfl (hx t)
  | _=>rfl
theorem mz {T:List AV} {cd:Cd} {Ta:List AV} (h:Rel ops T cd Ta) {gd:Option (Nat×Bool)} {φ:Option Bool} (hφ:φ.getD true=true) (hg : ∀g,gd=some g→eH ops Ta g=some true) : ∀ {l:List Operand} {k:Prop},jm ops T cd gd φ l k →
  (∀x ∈ l,ev P Ta x=ev P T x)∧k
 | [],k,hr=>⟨fun _ h=>(by cases h),hr⟩
 | x :: l,k,hr=>by
  obtain ⟨h1,hr⟩:=lB P h hφ hg hr
  obtain ⟨h2,hk⟩:=mz h hφ hg hr
  refine ⟨fun y hy=>?_,hk⟩
  rcases List.mem_cons.1 hy with rfl | hy
  ·exact h1
  ·exact h2 y hy
theorem oE {T:List AV} {cd:Cd} {gd:Option (Nat×Bool)} {φ:Option Bool} {x:Operand} {k:Prop} (hr:oF ops T cd gd φ x k):k:=by
 unfold oF at hr
 split at hr
 ·split at hr
  ·exact hr
  ·rename_i g _
   cases hb:(match gd with | some g'=>qC g g' | none=>false) with
   | true=>rw [hb] at hr;exact hr
   | false =>
    rw [hb] at hr
    simp only [cond_false] at hr
    split at hr
    ·exact hr.2
    ·exact hr.elim
 ·exact hr
theorem zN {T:List AV} {cd:Cd} {gd:Option (Nat×Bool)} {φ:Option Bool} : ∀ {l:List Operand} {k:Prop},jm ops T cd gd φ l k→k
 | [],_,h=>h
 | _ :: _,_,h=>zN (oE h)
/-! pick -/
def DV (ops:Array Oper) (cd:Cd) (c:Operand) (want:Bool) (x:Operand):Bool :=
 match x with
 | .tmp t=>match cd.lookup t with
  | none=>true
  | some g=>(g.2 == want) && match c,lV ops g.1 with
   | .tmp tc,some tg=>Nat.beq tc tg
   | _,_=>false
 | _=>true
def xT (a b:Operand) (u x y:Bool) (K:AV→Prop):Prop :=
 match a,b with
 | .const (.bool true),_=>K (.bool (u || y))
 | _,.const (.bool false)=>K (.bool (u && x))
 | _,_=>K (.bool (cond u x y))
theorem E4 {T:List AV} {a b:Operand} {u x y:Bool} {K:AV→Prop} (ha:ev P T a=some (.bool x)) (hb:ev P T b=some (.bool y)) (h:xT a b u x y K):K (.bool (cond u x y)):=by
 unfold xT at h
 split at h
 ·simp [ev,mA] at ha;subst ha;cases u <;> exact h
 ·simp [ev,mA] at hb;subst hb;cases u <;> exact h
 ·exact h
def Hz (T:List AV) (cd:Cd) (φ:Option Bool) (c a b:Operand) (K:AV→Prop):Prop :=
 bif DV ops cd c true a && DV ops cd c false b then
  vK (ev P T c) fun c'=>vK (ev P T a) fun a'=>vK (ev P T b) fun b' =>
   match c',a',b' with
   | .bool u,.bool x,.bool y=>xT a b u x y K
   | .bool u,x,y=>match φ with
    | none=>(u=true→K x)∧(u=false→K y)
    | some _=>False
   | _,_,_=>False
 else False
theorem yI {T:List AV} {cd:Cd} {Ta:List AV} (h:Rel ops T cd Ta) {c:Operand} {u:Bool} (hc:ev P Ta c=some (.bool u)) {x:Operand} (ha:DV ops cd c u x=true):ev P Ta x=ev P T x:=by
 unfold DV at ha
 split at ha
 ·rename_i t
  split at ha
  ·rename_i hl;simp only [ev,h.pl t hl]
  ·rename_i g hl
   simp only [Bool.and_eq_true,beq_iff_eq] at ha
   obtain ⟨h1,h2⟩:=ha
   split at h2
   ·rename_i tc tg hg
    obtain rfl:=Nat.eq_of_beq_eq_true h2
    obtain ⟨p,k1,k2,_⟩:=h.cn t g hl
    have hT:Ta[tc]? = some (.bool u):=by
     simp only [ev,Option.some.injEq] at hc
     cases hx:Ta[tc]? with
     | none=>rw [hx] at hc;simp [AV.undef] at hc
     | some v=>rw [hx] at hc;simp at hc;rw [hc]
    have:eH ops Ta g=some true:=by
     simp only [eH,hg,Option.bind_some,hT,h1,BEq.rfl]
    rw [this] at k1;cases k1
    simp only [ev,k2 rfl]
   ·cases h2
 ·rename_i hx
  cases x with
  | tmp t=>exact absurd rfl (hx t)
  | _=>rfl
theorem Hy {T:List AV} {cd:Cd} {Ta:List AV} (h:Rel ops T cd Ta) {φ:Option Bool} {c a b:Operand} {K:AV→Prop} (hc:φ.getD true=true→ev P Ta c=ev P T c) (hp:Hz P (ops:=ops) T cd φ c a b K) (H:AH) :
  ∃v,(φ.getD true=true→m7 (ev P Ta) H c a b=some (v,H))∧K v:=by
 unfold Hz at hp
 obtain ⟨h0,hp⟩:=cP hp
 simp only [Bool.and_eq_true] at h0
 obtain ⟨c',ye,hp⟩:=aQ hp
 obtain ⟨a',ME,hp⟩:=aQ hp
 obtain ⟨b',eu,hp⟩:=aQ hp
 have key : ∃u,c'=.bool u∧((∃x y,a'=.bool x∧b'=.bool y∧xT a b u x y K)∨(φ=none∧(u=true→K a')∧(u=false→K b'))):=by
  cases c' with
  | bool u =>
   refine ⟨u,rfl,?_⟩
   cases a' <;> cases b' <;> first
    | exact .inl ⟨_,_,rfl,rfl,hp⟩
    | (cases φ with
     | none=>exact .inr ⟨rfl,hp⟩
     | some _=>exact hp.elim)
  | _=>exact hp.elim
 obtain ⟨u,rfl,⟨x,y,rfl,rfl,hk⟩ | ⟨rfl,hk⟩⟩:=key
 ·refine ⟨_,fun hφ=>?_,E4 P ME eu hk⟩
  have KX:=(hc hφ).trans ye
  cases u with
  | true=>simp only [m7,KX,Option.bind_some];rw [yI P h KX h0.1,ME];rfl
  | false=>simp only [m7,KX,Option.bind_some];rw [yI P h KX h0.2,eu];rfl
 ·have KX:=(hc rfl).trans ye
  cases u with
  | true=>exact ⟨_,fun _=>by simp only [m7,KX,Option.bind_some];rw [yI P h KX h0.1,ME];rfl,hk.1 rfl⟩
  | false=>exact ⟨_,fun _=>by simp only [m7,KX,Option.bind_some];rw [yI P h KX h0.2,eu];rfl,hk.2 rfl⟩
end
end Go.Am
end
/- What a region, a statement, a function asks. -/
section
namespace Go.Am
open Go.RowKit
section
variable (X:aN) (P:Program)
def Oj:List TypeId→(List AV→Prop)→Prop
 | [],k=>k []
 | t :: ts,k=>Rv P t fun v=>Oj ts fun vs=>k (v :: vs)
theorem AE {P:Program} : ∀ {ts:List TypeId} {k:List AV→Prop},Oj P ts k→∃vs,k vs
 | [],_,h=>⟨_,h⟩
 | _ :: _,_,h=>by
  obtain ⟨v,h⟩:=yp h
  obtain ⟨vs,h⟩:=AE h
  exact ⟨_,h⟩
def Of (f:FuncId) (v:AV) (K:AV→Prop):Prop :=
 match P.funcs[f]? with
 | some fn=>match fn.resultTypes.toList with
  | []=>K v
  | [t]=>Rv P t fun u=>v=u∧K u
  | ts=>Oj P ts fun us=>v=.tuple us∧K (.tuple us)
 | none=>False
theorem IB {f:FuncId} {v:AV} {K:AV→Prop} (h:Of P f v K):K v:=by
 unfold Of at h
 split at h
 ·split at h
  ·exact h
  ·obtain ⟨u,hv,hk⟩:=yp h;rw [hv];exact hk
  ·obtain ⟨u,hv,hk⟩:=AE h;rw [hv];exact hk
 ·exact h.elim
def MM (fv:AV) (vs:List AV) (H:AH) (K:AV→AH→Prop):Prop :=
 match fv with
 | .func (.func g) x y=>X.call g (x ++ vs ++ y) H fun v H'=>Of P g v fun v=>K v H'
 | .cV b=>X.cV b vs H fun v H'=>∃t,v=.bool t∧K (.bool t) H'
 | _=>False
def kZ (T:List AV) (H:AH) (o:Oper) (K:AV→AH→Prop):Prop :=
 match o.op with
 | .call ⟨.value f,xs,_⟩=>vK (ev P T f) fun fv=>FC (ev P T) xs.toList fun vs=>MM X P fv vs H K
 | op=>L4 X P none (ev P T) H op o.type K
def yb:Op→Bool
 | .pick ..=>true
 | _=>false
def GK:Op→Bool
 | .load .. | .slice ..=>true
 | .call ⟨.builtin b,_,_⟩=>match b with | .len | .cap | .min | .max=>true | _=>false
 | .convert ..=>true
 | o=>nS o
abbrev Kn:=List ((Nat×Bool)×Bool)
def xV (gd:Nat×Bool):Kn→Option Bool
 | []=>none
 | (g,p) :: l=>bif qC g gd then some p else xV gd l
def iZ (ops:Array Oper) (kn:Kn) (dst:Option Tmp):Bool :=
 match dst with
 | none=>true
 | some d=>kn.all fun p=>match lV ops p.1.1 with | some t=>!(Nat.beq t d) | none=>true
def Aj (ops:Array Oper) (c:Operand):Kn→Option Bool
 | []=>none
 | (g,p) :: l =>
  bif (match c,lV ops g.1 with | .tmp tc,some tg=>Nat.beq tc tg | _,_=>false) then some (bif p then g.2 else !g.2) else Aj ops c l
def DS (ops:Array Oper) (a:Operand):Bool :=
 match a with
 | .tmp t=>ops.toList.any fun o=>(match o.dst with | some d=>Nat.beq d t | none=>false) && (match o.op with | .indexAddr ..=>true | _=>false)
 | _=>false
def sK (ops:Array Oper) (kn:Kn) (T:List AV) (cd:Cd) (gd:Option (Nat×Bool)) (φ:Option Bool) (H:AH) (o:Oper) (K:AV→AH→Prop):Prop :=
 match o.op with
 | .pick c a b=>match Aj ops c kn with
  | some u=>oF ops T cd gd φ c (vK (ev P T c) fun c'=>match c' with
   | .bool _=>oF ops T cd gd φ (bif u then a else b) (vK (ev P T (bif u then a else b)) fun v=>K v H)
   | _=>False)
  | none=>oF ops T cd gd φ c (Hz P (ops:=ops) T cd φ c a b fun v=>K v H)
 | .load t a=>oF ops T cd gd φ a (vK (ev P T a) fun x=>Af X P (bif DS ops a then φ else none) H t x fun v=>K v H)
 | op=>jm ops T cd gd φ op.operands.toList (L4 X P φ (ev P T) H op o.type K)
def nc (ops:Array Oper) (cd:Cd) (g:Nat) (b:Bool) (T:List AV):List AV :=
 match lV ops g with
 | some t=>match cd.lookup t with
  | none=>T.set t (.bool b)
  | some _=>T
 | none=>T
def jB (ops:Array Oper):List Oper→List AV→Cd→Kn→AH→(List AV→Cd→AH→Prop)→Prop
 | [],T,cd,_,H,K=>K T cd H
 | o :: l,T,cd,kn,H,K =>
  bif yh ops cd o.dst && iZ ops kn o.dst then
   match o.guard with
   | none =>
    bif yb o.op then sK X P ops kn T cd none none H o fun v H'=>jB ops l (aP T o.dst v) cd kn H' K
    else jm ops T cd none none o.op.operands.toList (kZ X P T H o fun v H'=>jB ops l (aP T o.dst v) cd kn H' K)
   | some gd =>
    match xV gd kn with
    | some true =>
     bif yb o.op then sK X P ops kn T cd (some gd) none H o fun v H'=>jB ops l (aP T o.dst v) cd kn H' K
     else jm ops T cd (some gd) none o.op.operands.toList (kZ X P T H o fun v H'=>jB ops l (aP T o.dst v) cd kn H' K)
    | some false=>jB ops l (aP T o.dst .undef) cd kn H K
    | none =>
    match u0 ops T cd 8 gd with
    | none=>False
    | some p =>
     bif GK o.op then
      bif (match o.dst,lV ops gd.1 with | some d,some t=>!(Nat.beq d t) | _,_=>true) then
       sK X P ops kn T cd (some gd) (some p) H o fun v H'=>jB ops l (aP T o.dst v) (D5 o.dst gd cd) kn H' K
      else False
     else
      bif iZ ops [(gd,true)] o.dst then
      cond p
       (jm ops (nc ops cd gd.1 gd.2 T) cd (some gd) none o.op.operands.toList
        (kZ X P (nc ops cd gd.1 gd.2 T) H o fun v H'=>jB ops l (aP (nc ops cd gd.1 gd.2 T) o.dst v) cd ((gd,true) :: kn) H' K))
       (match u0 ops T cd 1 gd with
        | some _=>jB ops l (aP (nc ops cd gd.1 (!gd.2) T) o.dst .undef) cd ((gd,false) :: kn) H K
        | none=>jB ops l (aP T o.dst .undef) cd ((gd,false) :: kn) H K)
      else False
  else False
end
section
variable {P:Program} {r:Option Nat} {ops:Array Oper}
theorem sJ {T Ta:List AV} {H:AH} {o:Oper} {K:AV→AH→Prop} (he : ∀x ∈ o.op.operands.toList,ev P Ta x=ev P T x) (h:kZ (real P r) P T H o K):jw P r o Ta H K:=by
 unfold kZ at h
 split at h
 ·rename_i f xs ts heq
  obtain ⟨fv,hf,h⟩:=aQ h
  obtain ⟨vs,Ia,h⟩:=lZ h
  obtain ⟨dst,op,ty,pos,after,guard⟩:=o
  simp only at heq;subst heq
  have Fs:ev P Ta f=some fv:=by rw [he f (by simp [Op.operands,Call.operands])];exact hf
  have iB:pL P Ta xs.toList=some vs:=by
   rw [jL (T':=T) fun y hy=>he y (by simp [Op.operands,Call.operands];right;simpa using hy),← kr];exact Ia
  unfold MM at h
  split at h
  ·refine jw.callee Fs iB ?_
   have h' : az P _ _ H _:=h
   rcases h' with ⟨h1,h2⟩ | h2
   ·exact .inl ⟨h1,h2.mono fun v H' hk=>IB P hk⟩
   ·refine .inr fun E B w bJ hH ha=>?_
    obtain ⟨v,H',E',w',x,k1,k2,k3⟩:=h2 E B w bJ hH ha
    exact ⟨v,H',E',w',x,k1,IB P k2,k3⟩
  ·exact jw.mono (h _ _ _ _ _ _ _ _ Ta Fs iB) fun v H' hk=>by obtain ⟨t,rfl,hk⟩:=hk;exact hk
  ·exact h.elim
 ·rename_i hn
  obtain ⟨v,H',h1,h2,h3⟩:=B3 h
  refine jw.nK (v:=v) (H':=H') ?_ h3
  rw [pV (T':=T) H (fun x hx=>he x (by simpa using hx)),← nJ]
  exact h1 rfl
def JJ (ops:Array Oper) (kn:Kn) (Ta:List AV):Prop:=∀q ∈ kn,eH ops Ta q.1=some q.2
theorem GW {a b:Nat×Bool} (h:qC a b=true):a=b:=by
 simp only [qC,Bool.and_eq_true,beq_iff_eq] at h
 obtain ⟨a1,a2⟩:=a;obtain ⟨b1,b2⟩:=b
 simp only at h
 rw [Nat.eq_of_beq_eq_true h.1,h.2]
theorem nL {gd:Nat×Bool} {p:Bool} : ∀ {kn:Kn},xV gd kn=some p→(gd,p) ∈ kn
 | [],h=>by cases h
 | (g,q) :: l,h=>by
  simp only [xV] at h
  cases hb:qC g gd with
  | true=>rw [hb] at h;cases h;rw [GW hb];simp
  | false=>rw [hb] at h;exact List.mem_cons_of_mem _ (nL h)
theorem JJ.put {kn:Kn} {Ta:List AV} (h:JJ ops kn Ta) {dst:Option Tmp} (hf:iZ ops kn dst=true) (v:AV):JJ ops kn (aP Ta dst v):=by
 intro q hq
 rw [mj (fun d hd e=>?_)]
 ·exact h q hq
 ·subst hd
  have:=List.all_eq_true.1 hf _ hq
  rw [e] at this
  simp at this
theorem JJ.add {kn:Kn} {Ta:List AV} (h:JJ ops kn Ta) {gd:Nat×Bool} {p:Bool} (hw:eH ops Ta gd=some p):JJ ops ((gd,p) :: kn) Ta:=by
 intro q hq
 rcases List.mem_cons.1 hq with rfl | hq
 ·exact hw
 ·exact h q hq
theorem lW {kn:Kn} {gd:Nat×Bool} {p q:Bool} {dst:Option Tmp} (h:iZ ops kn dst=true) (h1:iZ ops [(gd,q)] dst=true):iZ ops ((gd,p) :: kn) dst=true:=by
 cases dst with
 | none=>rfl
 | some d =>
  simp only [iZ,List.all_cons,Bool.and_eq_true] at h h1 ⊢
  exact ⟨h1.1,h⟩
theorem HP {kn:Kn} {Ta:List AV} (hN:JJ ops kn Ta) {c:Operand} {u v:Bool} (hc:ev P Ta c=some (.bool v)) (h:Aj ops c kn=some u):v=u:=by
 have key : ∀ {l:Kn},(∀q ∈ l,eH ops Ta q.1=some q.2)→Aj ops c l=some u→v=u:=by
  intro l
  induction l with
  | nil=>intro _ h;cases h
  | cons q l ih =>
   intro hq h
   obtain ⟨g,p⟩:=q
   simp only [Aj] at h
   cases hb:(match c,lV ops g.1 with | .tmp tc,some tg=>Nat.beq tc tg | _,_=>false) with
   | false=>rw [hb] at h;exact ih (fun q hm=>hq q (List.mem_cons_of_mem _ hm)) h
   | true =>
    rw [hb] at h
    simp only [cond_true,Option.some.injEq] at h
    have hw:=hq _ (List.mem_cons_self ..)
    simp only at hw
    split at hb
    ·rename_i tc tg hg
     obtain rfl:=Nat.eq_of_beq_eq_true hb
     have hT:Ta[tc]? = some (.bool v):=by
      simp only [ev,Option.some.injEq] at hc
      cases hx:Ta[tc]? with
      | none=>rw [hx] at hc;simp [AV.undef] at hc
      | some x=>rw [hx] at hc;simp at hc;rw [hc]
     simp only [eH,hg,Option.bind_some,hT,Option.some.injEq] at hw
     subst hw
     rw [← h]
     cases v <;> cases g.2 <;> rfl
    ·cases hb
 exact key hN h
theorem zb {T Ta:List AV} {cd:Cd} {kn:Kn} (hR:Rel ops T cd Ta) (hN:JJ ops kn Ta) {gd:Option (Nat×Bool)} {φ:Option Bool} (hg:φ.getD true=true→∀g,gd=some g→eH ops Ta g=some true) {H:AH} {o:Oper} {K:AV→AH→Prop} (h:sK (real P r) P ops kn T cd gd φ H o K) :
  ∃v H',(φ.getD true=true→pK P Ta H o=some (v,H'))∧(φ ≠ none→H'=H)∧K v H':=by
 obtain ⟨dst,op,ty,pos,after,guard⟩:=o
 unfold sK at h
 split at h
 ·rename_i c a b heq
  simp only at heq;subst heq
  split at h
  ·rename_i u hu
   obtain ⟨c',ye,hk⟩:=aQ (oE h)
   split at hk
   ·rename_i b'
    obtain ⟨v,hv,Fq⟩:=aQ (oE hk)
    refine ⟨v,H,fun hφ=>?_,fun _=>rfl,Fq⟩
    have h1:=((lB P hR hφ (hg hφ) h).1).trans ye
    have h2:=((lB P hR hφ (hg hφ) hk).1).trans hv
    obtain rfl:=HP hN h1 hu
    cases b' with
    | true=>simp only [pK,h1,Option.bind_some];rw [show ev P Ta a=some v from h2];rfl
    | false=>simp only [pK,h1,Option.bind_some];rw [show ev P Ta b=some v from h2];rfl
   ·exact hk.elim
  ·obtain ⟨v,h1,h2⟩:=Hy P hR (fun hφ=>(lB P hR hφ (hg hφ) h).1) (oE h) H
   exact ⟨v,H,fun hφ=>by rw [← nJ];exact h1 hφ,fun _=>rfl,h2⟩
 ·rename_i t a heq
  simp only at heq;subst heq
  obtain ⟨x,hx,hl⟩:=aQ (oE h)
  obtain ⟨v,h1,h2⟩:=tB hl
  refine ⟨v,H,fun hφ=>?_,fun _=>rfl,h2⟩
  have hv:jE P H t x=some v:=h1 (by cases DS ops a <;> first | rfl | exact hφ)
  have iB:ev P Ta a=some x:=((lB P hR hφ (hg hφ) h).1).trans hx
  simp only [pK,iB,Option.bind_some,hv,Option.map_some]
 ·rename_i hn
  obtain ⟨v,H',h1,h2,h3⟩:=B3 (zN h)
  refine ⟨v,H',fun hφ=>?_,h2,h3⟩
  rw [pV (T':=T) H (fun x hx=>(mz P hR hφ (hg hφ) h).1 x (by simpa using hx)),← nJ]
  exact h1 hφ
theorem Rel.Kv {T Ta:List AV} {cd:Cd} (_:Rel ops T cd Ta) {d:Nat} {gd:Nat×Bool} {p:Bool} (hp:u0 ops T cd (d+1) gd=some p) {b:Bool} (hb : ∀u,lV ops gd.1 ≠ none→p=(u == gd.2)→u=b):nc ops cd gd.1 b T=T:=by
 unfold nc
 simp only [u0] at hp
 split at hp
 ·rename_i t ht
  try rw [ht]
  try simp only
  split at hp
  ·rename_i u hu
   split at hp
   ·rename_i hc
    try rw [hc]
    cases hp
    have e:=hb u (by rw [ht];simp) rfl
    subst e
    apply List.ext_getElem?
    intro i
    rw [List.getElem?_set]
    split
    ·rename_i e;subst e
     rw [hu];simp [(List.getElem?_eq_some_iff.1 hu).1]
    ·rfl
   ·rename_i g2 hc
    first | rfl | rw [hc]
  ·cases hp
 ·cases hp
theorem gS {K:List AV→Cd→AH→Prop} : ∀ {l:List Oper} {T Ta:List AV} {cd:Cd} {kn:Kn} {H:AH},jB (real P r) P ops l T cd kn H K→Rel ops T cd Ta→JJ ops kn Ta →
  kW P r ops (fun Vp H'=>∃T' RC,Rel ops T' RC Vp∧K T' RC H') l Ta H
 | [],T,Ta,cd,kn,H,h,hR,hN=>⟨T,cd,hR,h⟩
 | o :: l,T,Ta,cd,kn,H,h,hR,hN=>by
  simp only [jB] at h
  obtain ⟨WX,h⟩:=cP h
  simp only [Bool.and_eq_true] at WX
  obtain ⟨hf,MB⟩:=WX
  have Ry : ∀(gd:Option (Nat×Bool)),(∀g,gd=some g→eH ops Ta g=some true)→aO ops Ta o=some true →
    (bif yb o.op then sK (real P r) P ops kn T cd gd none H o fun v H'=>jB (real P r) P ops l (aP T o.dst v) cd kn H' K
     else jm ops T cd gd none o.op.operands.toList (kZ (real P r) P T H o fun v H'=>jB (real P r) P ops l (aP T o.dst v) cd kn H' K)) →
    kW P r ops (fun Vp H'=>∃T' RC,Rel ops T' RC Vp∧K T' RC H') (o :: l) Ta H:=by
   intro gd hg hw h
   cases WD:yb o.op with
   | true =>
    rw [WD] at h
    have h' : sK (real P r) P ops kn T cd gd none H o fun v H'=>jB (real P r) P ops l (aP T o.dst v) cd kn H' K:=h
    obtain ⟨v,H',h1,_,h3⟩:=zb (gd:=gd) (φ:=none) hR hN (fun _=>hg) h'
    exact .inl ⟨hw,jw.nK (h1 rfl) (gS h3 (hR.put hf v) (hN.put MB v))⟩
   | false =>
    rw [WD] at h
    have h' : jm ops T cd gd none o.op.operands.toList (kZ (real P r) P T H o fun v H'=>jB (real P r) P ops l (aP T o.dst v) cd kn H' K):=h
    obtain ⟨he,hk⟩:=mz P hR (gd:=gd) (φ:=none) rfl hg h'
    exact .inl ⟨hw,(sJ he hk).mono fun v H' hk=>gS hk (hR.put hf v) (hN.put MB v)⟩
  split at h
  ·rename_i Zc
   exact Ry none (fun _ h=>by cases h) (by rw [fX,Zc]) h
  ·rename_i gd UG
   split at h
   ·rename_i KQ
    have HZ:=hN _ (nL KQ)
    exact Ry (some gd) (fun g QV=>by cases QV;exact HZ) (by rw [fX,UG];exact HZ) h
   ·rename_i KQ
    have HZ:=hN _ (nL KQ)
    exact .inr ⟨by rw [fX,UG];exact HZ,gS h (hR.put hf .undef) (hN.put MB .undef)⟩
   split at h
   ·exact h.elim
   ·rename_i p hp
    have HZ:=oH hR hp
    have hw:aO ops Ta o=some p:=by rw [fX,UG];exact HZ
    cases hs:GK o.op with
    | true =>
     rw [hs] at h
     obtain ⟨hd,h⟩:=cP (show bif (match o.dst,lV ops gd.1 with | some d,some t=>!(Nat.beq d t) | _,_=>true) then _ else False from h)
     have Zr : ∀d,o.dst=some d→lV ops gd.1 ≠ some d:=fun d W3 e=>by rw [W3,e] at hd;simp at hd
     obtain ⟨v,H',h1,h2,h3⟩:=zb hR hN (fun hφ g QV=>by cases QV;rw [HZ];exact congrArg some hφ) h
     obtain rfl:H'=H:=h2 (by simp)
     have Xg:=hR.PE hf Zr HZ v
     cases p with
     | true=>exact .inl ⟨hw,jw.nK (h1 rfl) (gS h3 Xg (hN.put MB v))⟩
     | false=>exact .inr ⟨hw,gS h3 Xg (hN.put MB .undef)⟩
    | false =>
     rw [hs] at h
     obtain ⟨UH,h⟩:=cP (show bif iZ ops [(gd,true)] o.dst then _ else False from h)
     have U3:JJ ops ((gd,p) :: kn) Ta:=hN.add HZ
     cases p with
     | true =>
      have hT:nc ops cd gd.1 gd.2 T=T:=hR.Kv hp (fun u _ e=>by simpa using e)
      rw [hT] at h
      have h' : jm ops T cd (some gd) none o.op.operands.toList (kZ (real P r) P T H o fun v H'=>jB (real P r) P ops l (aP T o.dst v) cd ((gd,true) :: kn) H' K):=h
      obtain ⟨he,hk⟩:=mz P hR (gd:=some gd) (φ:=none) rfl (fun g QV=>by cases QV;exact HZ) h'
      exact .inl ⟨hw,(sJ he hk).mono fun v H' hk=>gS hk (hR.put hf v) (U3.put (lW MB UH) v)⟩
     | false =>
      have h' : (match u0 ops T cd 1 gd with
        | some _=>jB (real P r) P ops l (aP (nc ops cd gd.1 (!gd.2) T) o.dst .undef) cd ((gd,false) :: kn) H K
        | none=>jB (real P r) P ops l (aP T o.dst .undef) cd ((gd,false) :: kn) H K):=h
      refine .inr ⟨hw,?_⟩
      split at h'
      ·rename_i q hq
       have e:=oH hR hq
       rw [HZ] at e;cases e
       rw [hR.Kv hq (fun u _ e=>by revert e;cases u <;> cases gd.2 <;> decide)] at h'
       exact gS h' (hR.put hf .undef) (U3.put (lW MB UH) .undef)
      ·exact gS h' (hR.put hf .undef) (U3.put (lW MB UH) .undef)
end
end Go.Am
end
/- What a statement, a function asks. -/
section
namespace Go.Am
open Go.RowKit
section
variable (X:aN) (P:Program)
def uq:Op→Option Bool
 | .convert ..=>some true
 | _=>none
theorem DR {P:Program} {r:Option Nat} {T:List AV} {H:AH} {o:Oper} {K:AV→AH→Prop} (hq:cE o.op=true) (h:L4 (real P r) P (uq o.op) (ev P T) H o.op o.type K) : ∃v,pK P T H o=some (v,H)∧K v H:=by
 obtain ⟨v,H',h1,h2,h3⟩:=B3 h
 have he:pK P T H o=some (v,H'):=by rw [← nJ];exact h1 (by cases o.op <;> rfl)
 have:H'=H:=by
  obtain ⟨dst,op,ty,pos,after,guard⟩:=o
  cases op
  case convert=>exact h2 (by simp [uq])
  all_goals exact j6 hq he rfl
 subst this
 exact ⟨v,he,h3⟩
def td (A:List Nat) (i:Nat) (H:AH):qt→Prop→Prop
 | [],k=>k
 | (j,o,T,v) :: aV,k=>bif eR A i j then td A i H aV k else bif cE o.op then L4 X P (uq o.op) (ev P T) H o.op o.type (fun u _=>u=v)∧td A i H aV k else False
def nr (ops:Array Oper) (A:List Nat):List (Nat×Nat)→qt→List AV→AH→(List AV→AH→Prop)→Prop
 | [],_,T,H,K=>K T H
 | (i,k) :: σ,aV,T,H,K =>
  match ops[i]? with
  | none=>False
  | some o =>
   let done:List AV→Prop:=fun T =>
    bif Nat.beq k 2 then kZ X P T H o fun v H'=>td X P A i H' aV (nr ops A σ aV (aP T o.dst v) H' K)
    else bif cE o.op then L4 X P (uq o.op) (ev P T) H o.op o.type fun v _=>nr ops A σ (bif Nat.beq k 0 then aV else (i,o,T,v) :: aV) (aP T o.dst v) H K
    else False
   match o.guard with
   | none=>done T
   | some gd =>
    match u0 ops T [] 1 gd with
    | some p=>cond p (done (nc ops [] gd.1 gd.2 T)) (nr ops A σ aV (aP (nc ops [] gd.1 (!gd.2) T) o.dst .undef) H K)
    | none=>False
def look (T:List AV) (t:Tmp):AV:=(T[t]?).getD .undef
structure dz where
 key:Nat
 α:Type
 live:List Tmp
 pN:α→List AV
 inv:α→AH→Nat→Prop
def cS:Code→Option Nat
 | .region id _ _=>some id
 | .seq a b=>match cS a with | some i=>some i | none=>cS b
 | .cond _ a b=>match cS a with | some i=>some i | none=>cS b
 | .block _ c=>cS c
 | .loop c=>cS c
 | .scope c=>cS c
 | .rangeFunc _ _ a b=>match cS a with | some i=>some i | none=>cS b
 | _=>none
def gT (k:Nat):List dz→Option dz
 | []=>none
 | a :: l=>bif Nat.beq a.key k then some a else gT k l
def Bz:List Tmp→List AV→List AV→List AV
 | t :: ts,v :: vs,T=>Bz ts vs (T.set t v)
 | _,_,T=>T
def Jr (n:Nat) (live:List Tmp) (vs:List AV):List AV:=Bz live vs (List.replicate n .any)
abbrev VK:=dm→List AV→List Mk→AH→Prop
def C9 (M2 M:List Mk) (k:Prop):Prop :=
 match M2,M with
 | [],[]=>k
 | a,b=>a=b∧k
theorem vv {M2 M:List Mk} {k:Prop} (h:C9 M2 M k):M2=M∧k:=by
 unfold C9 at h
 split at h
 ·exact ⟨rfl,h⟩
 ·exact h
def Jl (aT:List dz):Code→VK→List AV→List Mk→AH→Prop
 | .skip,K,T,M,H=>K .normal T M H
 | .label _,K,T,M,H=>K .normal T M H
 | .exit id,K,T,M,H=>K (.exit id) T M H
 | .goto l,K,T,M,H=>K (.goto l) T M H
 | .ret,K,T,M,H=>K .ret T M H
 | .seq a b,K,T,M,H=>Jl aT a (fun e T M H=>match e with | .normal=>Jl aT b K T M H | e=>K e T M H) T M H
 | .cond c x y,K,T,M,H=>vK (ev P T c) fun v=>match v with
  | .bool u=>cond u (Jl aT x K T M H) (Jl aT y K T M H)
  | _=>False
 | .block id c,K,T,M,H=>Jl aT c (fun e=>K (iA id e)) T M H
 | .loop c,K,T,M,H=>match cS c with
  | some k=>match gT k aT with
   | some a=>(∃x j,a.live.map (look T)=a.pN x∧a.inv x H j)∧∀x H' j,a.inv x H' j →
     Jl aT c (fun e T2 M2 H2=>match e with
      | .normal=>bif Nat.beq T2.length T.length then C9 M2 M (∃x' j',j'<j∧a.live.map (look T2)=a.pN x'∧a.inv x' H2 j') else False
      | e=>K e T2 M2 H2) (Jr T.length a.live (a.pN x)) M H'
   | none=>False
  | none=>False
 | .region _ ops false,K,T,M,H=>jB X P ops ops.toList T [] [] H fun T' cd H'=>K .normal (nU T' cd) M H'
 | .region _ ops true,K,T,M,H=>match nV ops with
  | some (σ,A)=>nr X P ops A σ [] T H fun T' H'=>K .normal T' M H'
  | none=>False
 | _,_,_,_,_=>False
def lJ (M:List Mk) (H:AH) (k:AH→Prop):Prop :=
 match M with
 | []=>k H
 | M=>∃H',X.tm M H=some H'∧k H'
def xm (T:List AV) (H:AH):List ResultVar→(List AV→Prop)→Prop
 | [],k=>k []
 | .tmp t :: l,k=>xm T H l fun vs=>k (look T t :: vs)
 | .cell a t :: l,k=>Af X P none H t (look T a) fun v=>xm T H l fun vs=>k (v :: vs)
def Px (fn:Func) (Q:AV→AH→Prop):VK:=fun e T M H =>
 match e with
 | .normal=>lJ X M H fun H'=>xm X P T H' fn.results.toList fun vs=>Q (oneOf vs) H'
 | .ret=>lJ X M H fun H'=>xm X P T H' fn.results.toList fun vs=>Q (oneOf vs) H'
 | _=>False
def gP (aT:List dz) (f:FuncId) (args:List AV) (H:AH) (Q:AV→AH→Prop):Prop :=
 match P.funcs[f]? with
 | some fn=>match fn.body with
  | some c=>Jl X P aT c (Px X P fn Q) (args ++ List.replicate (fn.ntmps - args.length) .undef) [] H
  | none=>False
 | none=>False
end
section
variable {P:Program} {r:Option Nat}
theorem ta {A:List Nat} {i:Nat} {H:AH} : ∀ {aV:qt} {k:Prop},td (real P r) P A i H aV k→(∀p ∈ aV,eR A i p.1=false→pK P p.2.2.1 H p.2.1=some (p.2.2.2,H))∧k
 | [],_,h=>⟨fun _ h=>(by cases h),h⟩
 | (j,o,T,v) :: aV,k,h=>by
  simp only [td] at h
  cases hb:eR A i j with
  | true =>
   rw [hb] at h
   obtain ⟨h1,h2⟩:=ta h
   refine ⟨fun p hp ha=>?_,h2⟩
   rcases List.mem_cons.1 hp with rfl | hp
   ·simp only at ha;rw [hb] at ha;cases ha
   ·exact h1 p hp ha
  | false =>
   rw [hb] at h
   obtain ⟨hq,h0,h⟩:=cP (show bif cE o.op then _ else False from h)
   obtain ⟨h1,h2⟩:=ta h
   refine ⟨fun p hp ha=>?_,h2⟩
   rcases List.mem_cons.1 hp with rfl | hp
   ·obtain ⟨u,k1,k3⟩:=DR hq h0
    subst k3
    exact k1
   ·exact h1 p hp ha
def RP (ops:Array Oper) (aV lD:qt):Prop :=
 ∀p ∈ lD,(p ∈ aV∧aO ops p.2.2.1 p.2.1=some true∧cE p.2.1.op=true)∨(aO ops p.2.2.1 p.2.1=some false∧p.2.2.2=.undef)
theorem l7 {ops:Array Oper} {A:List Nat} {K:List AV→AH→Prop} : ∀ {σ:List (Nat×Nat)} {aV lD:qt} {T:List AV} {H:AH},nr (real P r) P ops A σ aV T H K→RP ops aV lD→fW P r ops (eR A) K σ lD T H
 | [],_,_,_,_,h,_=>h
 | (i,k) :: σ,aV,lD,T,H,h,hp=>by
  simp only [nr] at h
  split at h
  ·exact h.elim
  ·rename_i o ho
   refine ⟨o,ho,?_⟩
   have done:aO ops T o=some true→(bif Nat.beq k 2 then kZ (real P r) P T H o fun v H'=>td (real P r) P A i H' aV (nr (real P r) P ops A σ aV (aP T o.dst v) H' K)
     else bif cE o.op then L4 (real P r) P (uq o.op) (ev P T) H o.op o.type fun v _=>nr (real P r) P ops A σ (bif Nat.beq k 0 then aV else (i,o,T,v) :: aV) (aP T o.dst v) H K else False) →
     if k=2 then (aO ops T o=some false∧fW P r ops (eR A) K σ lD (aP T o.dst .undef) H) ∨
      (aO ops T o=some true∧jw P r o T H fun v H'=>xA P ops (eR A) i H' lD∧fW P r ops (eR A) K σ lD (aP T o.dst v) H')
     else ∃v,eC P ops o T H v∧fW P r ops (eR A) K σ (if k=0 then lD else (i,o,T,v) :: lD) (aP T o.dst v) H:=by
    intro hw h
    by_cases hk:k=2
    ·subst hk
     rw [if_pos rfl]
     have h' : kZ (real P r) P T H o fun v H'=>td (real P r) P A i H' aV (nr (real P r) P ops A σ aV (aP T o.dst v) H' K):=h
     refine .inr ⟨hw,(sJ (fun _ _=>rfl) h').mono fun v H' hv=>?_⟩
     obtain ⟨h1,h2⟩:=ta hv
     refine ⟨fun p Qx ha=>?_,l7 h2 hp⟩
     rcases hp p Qx with ⟨k1,k2,k3⟩ | ⟨k1,k2⟩
     ·exact .inr ⟨k2,h1 p k1 ha⟩
     ·exact .inl ⟨k1,k2⟩
    ·rw [if_neg hk]
     have hb:Nat.beq k 2=false:=by
      cases hb:Nat.beq k 2 with
      | false=>rfl
      | true=>exact absurd (Nat.eq_of_beq_eq_true hb) hk
     rw [hb] at h
     obtain ⟨hq,h⟩:=cP (show bif cE o.op then _ else False from h)
     obtain ⟨v,he,h3⟩:=DR hq h
     refine ⟨v,.inr ⟨hw,he⟩,l7 h3 ?_⟩
     by_cases h0:k=0
     ·subst h0;rw [if_pos rfl];exact hp
     ·rw [if_neg h0]
      have CC:Nat.beq k 0=false:=by
       cases hb:Nat.beq k 0 with
       | false=>rfl
       | true=>exact absurd (Nat.eq_of_beq_eq_true hb) h0
      rw [CC]
      intro p Qx
      rcases List.mem_cons.1 Qx with rfl | Qx
      ·exact .inl ⟨by simp,hw,hq⟩
      ·rcases hp p Qx with ⟨k1,k2⟩ | k2
       ·exact .inl ⟨by simp [k1],k2⟩
       ·exact .inr k2
   split at h
   ·rename_i hg
    exact done (by rw [fX,hg]) h
   ·rename_i gd hg
    split at h
    ·rename_i p Uj
     have hw:aO ops T o=some p:=by rw [fX,hg];exact oH (Rel.nil T) Uj
     cases p with
     | true =>
      have h' : _:=h
      simp only [cond_true] at h'
      rw [(Rel.nil T).Kv Uj (fun u _ e=>by simpa using e)] at h'
      exact done hw h'
     | false =>
      simp only [cond_false] at h
      rw [(Rel.nil T).Kv Uj (fun u _ e=>by revert e;cases u <;> cases gd.2 <;> decide)] at h
      by_cases hk:k=2
      ·rw [if_pos hk];exact .inl ⟨hw,l7 h hp⟩
      ·rw [if_neg hk]
       refine ⟨.undef,.inl ⟨hw,rfl⟩,l7 h ?_⟩
       by_cases h0:k=0
       ·rw [if_pos h0];exact hp
       ·rw [if_neg h0]
        intro q nj
        rcases List.mem_cons.1 nj with rfl | nj
        ·exact .inr ⟨hw,rfl⟩
        ·exact hp q nj
    ·exact h.elim
theorem aI.weaken {E:Env} {T Ta:List AV} (h:Wk T Ta) {X:List Value} (k:aI E Ta X):aI E T X:=by
 refine aI.HE (by rw [h.len];exact k.length) fun i x y hx hy=>?_
 rcases h.at' i x hx with rfl | e
 ·trivial
 ·obtain ⟨y',h1,h2⟩:=k.get e
  rw [hy] at h1;cases h1;exact h2
theorem bC.weaken {c:Code} {Q:dm→St→Prop} {T Ta:List AV} {M:List Mk} {H:AH} (h:Wk T Ta) (k:bC P r c Q ⟨T,M,H⟩):bC P r c Q ⟨Ta,M,H⟩ :=
 fun E B w a rc hs hr=>k E B w a rc ⟨hs.heap,aI.weaken h hs.tmps,hs.marks⟩ hr
def F3 (K:VK):dm→St→Prop:=fun e s=>∃T,Wk T s.T∧K e T s.M s.H
theorem vt {T:List AV} : ∀ {live:List Tmp} {T0:List AV},Wk T0 T→Wk (Bz live (live.map (look T)) T0) T
 | [],_,h=>h
 | t :: ts,T0,h=>by
  refine vt (live:=ts) ⟨by simpa using h.len,fun i v hv=>?_⟩
  rw [List.getElem?_set] at hv
  split at hv
  ·rename_i e;subst e
   split at hv
   ·rename_i cv
    cases hv
    refine .inr ?_
    have:t<T.length:=by rw [← h.len];exact cv
    unfold look
    rw [List.getElem?_eq_getElem this];rfl
   ·cases hv
  ·exact h.at' i v hv
theorem xR {T:List AV} {n:Nat} (hn:n=T.length) (live:List Tmp):Wk (Jr n live (live.map (look T))) T:=by
 refine vt ⟨by simp [hn],fun i v hv=>?_⟩
 rw [List.getElem?_replicate] at hv
 split at hv
 ·cases hv;exact .inl rfl
 ·cases hv
theorem GD (hm:P.follows .mixedOrders=true) {aT:List dz} : ∀ {c:Code} {K:VK} {T:List AV} {M:List Mk} {H:AH},Jl (real P r) P aT c K T M H→bC P r c (F3 K) ⟨T,M,H⟩:=by
 intro c
 induction c with
 | skip=>intro K T M H h;exact bC.skip ⟨T,Wk.refl T,h⟩
 | label l=>intro K T M H h;exact bC.label ⟨T,Wk.refl T,h⟩
 | exit id=>intro K T M H h;exact bC.exit ⟨T,Wk.refl T,h⟩
 | goto l=>intro K T M H h;exact bC.goto ⟨T,Wk.refl T,h⟩
 | ret=>intro K T M H h;exact bC.ret ⟨T,Wk.refl T,h⟩
 | refuse w=>intro K T M H h;exact h.elim
 | scope c ih=>intro K T M H h;exact h.elim
 | rangeFunc g ps a b KB Aq=>intro K T M H h;exact h.elim
 | seq a b KB Aq =>
  intro K T M H h
  refine bC.seq ((KB h).mono ?_)
  rintro e s ⟨T',hw,hk⟩
  cases e with
  | normal=>exact bC.weaken hw (Aq hk)
  | exit id=>exact ⟨T',hw,hk⟩
  | goto l=>exact ⟨T',hw,hk⟩
  | ret=>exact ⟨T',hw,hk⟩
 | cond c x y Yo Yn =>
  intro K T M H h
  obtain ⟨v,hv,h⟩:=aQ h
  split at h
  ·rename_i u
   refine bC.cond hv ?_
   cases u with
   | true=>exact Yo h
   | false=>exact Yn h
  ·exact h.elim
 | block id c ih =>
  intro K T M H h
  refine bC.block ((ih h).mono ?_)
  rintro e s ⟨T',hw,hk⟩
  cases e with
  | exit i =>
   simp only [lS]
   simp only [iA] at hk
   split
   ·rename_i e;rw [if_pos e] at hk;exact ⟨T',hw,hk⟩
   ·rename_i e;rw [if_neg e] at hk;exact ⟨T',hw,hk⟩
  | normal=>exact ⟨T',hw,hk⟩
  | goto l=>exact ⟨T',hw,hk⟩
  | ret=>exact ⟨T',hw,hk⟩
 | loop c ih =>
  intro K T M H h
  simp only [Jl] at h
  split at h
  ·split at h
   ·rename_i a _
    obtain ⟨⟨x,j,hl,hi⟩,h⟩:=h
    refine bC.loop (j:=j) (fun j s=>∃x,a.inv x s.H j∧s.M=M∧Wk (Jr T.length a.live (a.pN x)) s.T) ⟨x,hi,rfl,by rw [← hl];exact xR rfl _⟩ ?_
    rintro j ⟨T1,M1,H1⟩ ⟨x,hi,rfl,hw⟩
    refine bC.weaken hw ((ih (h x H1 j hi)).mono ?_)
    rintro e s ⟨T2,Fj,hk⟩
    cases e with
    | normal =>
     obtain ⟨hlen,hk⟩:=cP hk
     obtain ⟨hM,x',j',hj,Mw,v8⟩:=vv hk
     refine ⟨j',hj,x',v8,hM,?_⟩
     rw [← Mw]
     exact (xR (Nat.eq_of_beq_eq_true hlen).symm _).trans Fj
    | exit id=>exact ⟨T2,Fj,hk⟩
    | goto l=>exact ⟨T2,Fj,hk⟩
    | ret=>exact ⟨T2,Fj,hk⟩
   ·exact h.elim
  ·exact h.elim
 | region id ops draw =>
  intro K T M H h
  cases draw with
  | false =>
   refine bC.mono (bC.region (Q:=F3 K) ?_) fun _ _ h=>h
   have key : ∀ {l:List Oper} {T:List AV} {H:AH} {K1 K2:List AV→AH→Prop},(∀T H,K1 T H→K2 T H)→kW P r ops K1 l T H→kW P r ops K2 l T H:=by
    intro l
    induction l with
    | nil=>intro T H K1 K2 hk h;exact hk _ _ h
    | cons o l ih =>
     intro T H K1 K2 hk h
     rcases h with ⟨h1,h2⟩ | ⟨h1,h2⟩
     ·exact .inl ⟨h1,h2.mono fun v H' h=>ih hk h⟩
     ·exact .inr ⟨h1,ih hk h2⟩
   refine key ?_ (gS h (Rel.nil T) (fun _ h=>by cases h))
   rintro T' H' ⟨T2,cd,hR,hk⟩
   exact ⟨_,hR.drop,hk⟩
  | true =>
   simp only [Jl] at h
   split at h
   ·rename_i σ A hd
    obtain ⟨cc,hd⟩:=wA hd
    unfold ug at hd
    simp only at hd
    split at hd
    ·rename_i hc
     simp only [Option.some.injEq,Prod.mk.injEq] at hd
     obtain ⟨rfl,rfl⟩:=hd
     simp only [Bool.and_eq_true,decide_eq_true_eq] at hc
     refine bC.draw hm (mP hc.1.1.2) hc.1.1.1 hc.1.2 ?_
     have key : ∀ {σ:List (Nat×Nat)} {aV:qt} {T:List AV} {H:AH} {A:List Nat} {K1 K2:List AV→AH→Prop},(∀T H,K1 T H→K2 T H)→fW P r ops (eR A) K1 σ aV T H→fW P r ops (eR A) K2 σ aV T H:=by
      intro σ
      induction σ with
      | nil=>intro aV T H A K1 K2 hk h;exact hk _ _ h
      | cons ik σ ih =>
       intro aV T H A K1 K2 hk h
       obtain ⟨o,ho,h⟩:=h
       refine ⟨o,ho,?_⟩
       split at h
       ·rename_i Fq
        rw [if_pos Fq]
        rcases h with ⟨h1,h2⟩ | ⟨h1,h2⟩
        ·exact .inl ⟨h1,ih hk h2⟩
        ·exact .inr ⟨h1,h2.mono fun v H' h=>⟨h.1,ih hk h.2⟩⟩
       ·rename_i Fq
        rw [if_neg Fq]
        obtain ⟨v,h1,h2⟩:=h
        exact ⟨v,h1,ih hk h2⟩
     refine key ?_ (l7 (lD:=[]) h (fun p hp=>by cases hp))
     intro T' H' hk
     exact ⟨_,Wk.refl _,hk⟩
    ·cases hd
   ·exact h.elim
theorem mw {T:List AV} {H:AH} : ∀ {l:List ResultVar} {k:List AV→Prop},xm (real P r) P T H l k→∃vs,dx P T H l=some vs∧k vs
 | [],_,h=>⟨[],rfl,h⟩
 | .tmp t :: l,k,h=>by
  obtain ⟨vs,h1,h2⟩:=mw (l:=l) h
  exact ⟨_,by simp [dx,h1];rfl,h2⟩
 | .cell a t :: l,k,h=>by
  obtain ⟨v,h1,h2⟩:=tB (φ:=none) h
  obtain ⟨vs,h3,h4⟩:=mw h2
  exact ⟨v :: vs,by simp only [dx];rw [show jE P H t ((T[a]?).getD .undef)=some v from h1 rfl,h3];rfl,h4⟩
theorem mB {M:List Mk} {H:AH} {k:AH→Prop} (h:lJ (real P r) M H k) : ∃H',bM M H=some H'∧k H':=by
 unfold lJ at h
 split at h
 ·exact ⟨H,rfl,h⟩
 ·exact h
theorem ew (hm:P.follows .mixedOrders=true) {aT:List dz} {f:FuncId} {args:List AV} {H:AH} {Q:AV→AH→Prop} (h:gP (real P none) P aT f args H Q):bH P f args H Q:=by
 unfold gP at h
 split at h
 ·rename_i fn hf
  split at h
  ·rename_i c hb
   refine bH.body hf hb ?_
   intro E B w a rc hs hr
   refine Go.wpIn_mono (GD hm h E B w a rc hs hr) ?_
   rintro e a' w' ⟨ae,s',E',h1,⟨T',hw,hk⟩,h3,h4,h5⟩
   refine ⟨ae,⟨T',s'.M,s'.H⟩,E',h1,?_,h3,⟨h4.heap,aI.weaken hw h4.tmps,h4.marks⟩,h5⟩
   cases ae with
   | normal =>
    obtain ⟨H',h6,h7⟩:=mB (P:=P) (r:=none) (show lJ (real P none) s'.M s'.H (fun H'=>xm (real P none) P T' H' fn.results.toList fun vs=>Q (oneOf vs) H') from hk)
    obtain ⟨vs,h8,h9⟩:=mw h7
    exact ⟨.inl rfl,H',vs,h6,h8,h9⟩
   | ret =>
    obtain ⟨H',h6,h7⟩:=mB (P:=P) (r:=none) (show lJ (real P none) s'.M s'.H (fun H'=>xm (real P none) P T' H' fn.results.toList fun vs=>Q (oneOf vs) H') from hk)
    obtain ⟨vs,h8,h9⟩:=mw h7
    exact ⟨.inr rfl,H',vs,h6,h8,h9⟩
   | exit id=>exact hk.elim
   | goto l=>exact hk.elim
  ·exact h.elim
 ·exact h.elim
end
end Go.Am
end
/- Contracts: pure functions leave the heap as it lies; small laws. -/
section
namespace Go.Am
open Go.RowKit
section
variable {P:Program} {r:Option Nat}
@[simp] theorem aL:(real P r).wrap=IntKind.wrap:=rfl
@[simp] theorem aJ:(real P r).call=az P:=rfl
@[simp] theorem Hf:(real P r).cV=fun b=>uI P r (.cV b):=rfl
@[simp] theorem bL:(real P r).n=AH.n:=rfl
@[simp] theorem Hi:(real P r).get=AH.get:=rfl
@[simp] theorem zL:(real P r).set=AH.set:=rfl
@[simp] theorem bq:(real P r).al=AH.alloc:=rfl
@[simp] theorem aY:(real P r).aM=AH.ak:=rfl
@[simp] theorem bh:(real P r).bP=AH.read:=rfl
@[simp] theorem cm:(real P r).wr=AH.write:=rfl
@[simp] theorem fD:(real P r).app=fun t u x y H=>bZ P H t u x y:=rfl
@[simp] theorem PB:(real P r).Vd=fun t x y H=>copyV P H t x y:=rfl
@[simp] theorem zM:(real P r).PS=fun t l c H=>cK P H t (.int .i64 l) (.int .i64 c):=rfl
@[simp] theorem lA:(real P r).JS=fun t x lo hi mx H=>cJ P H t x lo hi mx:=rfl
@[simp] theorem Hg:(real P r).str=fun v H=>mO H v:=rfl
@[simp] theorem J6:(real P r).bs=fun s d x H=>gF P H s d (.str x):=rfl
@[simp] theorem Pz:(real P r).idx=lR P:=rfl
@[simp] theorem OJ:(real P r).FQ=fun t x H=>IZ P H t x:=rfl
@[simp] theorem OI:(real P r).M6=fun t p n H=>eI P H t p n:=rfl
@[simp] theorem Dc:(real P r).tm=bM:=rfl
@[simp] theorem PA:(real P r).Rz=fun s d x H=>gF P H s d x:=rfl
end
theorem wrap_i64 {n:Int} (h : -9223372036854775808≤n) (h' : n≤9223372036854775807):IntKind.i64.wrap n=n:=by
 simp only [IntKind.wrap,IntKind.bits,IntKind.signed]
 by_cases h0:0≤n
 ·have:n % (2:Int) ^ 64=n:=Int.emod_eq_of_lt h0 (by omega)
  simp only [this,Bool.true_and]
  rw [if_neg (by simp;omega)]
 ·have:n % (2:Int) ^ 64=n+18446744073709551616:=by
   rw [show (2:Int) ^ 64=18446744073709551616 by decide]
   omega
  simp only [this,Bool.true_and]
  rw [if_pos (by simp;omega)]
  omega
theorem wrap_u64 {n:Int} (h:0≤n) (h' : n<18446744073709551616):IntKind.u64.wrap n=n:=by
 have:n % 18446744073709551616=n:=Int.emod_eq_of_lt h (by omega)
 simp [IntKind.wrap,IntKind.bits,IntKind.signed,this]
/-! ### Values without places -/
mutual
def AV.bY:AV→Bool
 | .bool _ | .int _ _ | .str _ | .ptr none | .slice none _ _ | .nilFunc | .nilIface | .map none=>true
 | .func _ x y=>AV.dc x && AV.dc y
 | .agg cs=>AV.dc cs
 | .tuple vs=>AV.dc vs
 | .iface _ v=>v.bY
 | _=>false
def AV.dc:List AV→Bool
 | []=>true
 | v :: l=>v.bY && AV.dc l
end
mutual
theorem VR.bY {E E' : Env} : ∀ {v:AV} {x:Value},v.bY=true→VR E v x→VR E' v x
 | .bool _,_,_,h=>h
 | .int _ _,_,_,h=>h
 | .str _,_,_,h=>h
 | .ptr none,_,_,h=>h
 | .ptr (some _),_,hs,_=>by simp [AV.bY] at hs
 | .slice none _ _,_,_,h=>h
 | .slice (some _) _ _,_,hs,_=>by simp [AV.bY] at hs
 | .func f x y,_,hs,h=>by
  simp only [AV.bY,Bool.and_eq_true] at hs
  obtain ⟨x',y',h1,h2,h3⟩:=h
  exact ⟨x',y',h1,aI.bY hs.1 h2,aI.bY hs.2 h3⟩
 | .nilFunc,_,_,h=>h
 | .cV _,_,hs,_=>by simp [AV.bY] at hs
 | .iface t v,_,hs,h=>by
  obtain ⟨y,h1,h2⟩:=h
  exact ⟨y,h1,VR.bY (by simpa [AV.bY] using hs) h2⟩
 | .nilIface,_,_,h=>h
 | .map none,_,_,h=>h
 | .map (some _),_,hs,_=>by simp [AV.bY] at hs
 | .half _ _,_,hs,_=>by simp [AV.bY] at hs
 | .qz,_,hs,_=>by simp [AV.bY] at hs
 | .agg cs,_,hs,h=>by
  obtain ⟨y,h1,h2⟩:=h
  exact ⟨y,h1,aI.bY (by simpa [AV.bY] using hs) h2⟩
 | .tuple cs,_,hs,h=>by
  obtain ⟨y,h1,h2⟩:=h
  exact ⟨y,h1,aI.bY (by simpa [AV.bY] using hs) h2⟩
 | .any,_,hs,_=>by simp [AV.bY] at hs
theorem aI.bY {E E' : Env} : ∀ {vs:List AV} {xs:List Value},AV.dc vs=true→aI E vs xs→aI E' vs xs
 | [],_,_,h=>h
 | v :: vs,_,hs,h=>by
  simp only [AV.dc,Bool.and_eq_true] at hs
  obtain ⟨y,ys,h1,h2,h3⟩:=h
  exact ⟨y,ys,h1,VR.bY hs.1 h2,aI.bY hs.2 h3⟩
end
section
variable {P:Program}
def aR (P:Program):AH:=⟨P.globals.size,.nil⟩
theorem HR.empty {E:Env} {B:eS} {H:AH} {w:World} (h:HR P E B H w):HR P (fun b=>if b<P.globals.size then E b else (Option.none:Option Loc)) (eS.up w.heap.size) (aR P) w:=by
 refine ⟨fun b L hb=>?_,fun b o hb=>(by cases hb),fun _ h=>h,fun g hg=>?_,fun b b' o o' L L' _ hb=>(by cases hb)⟩
 ·by_cases cv:b<P.globals.size
  ·exact cv
  ·rw [if_neg cv] at hb;cases hb
 ·obtain ⟨L,h1,h2⟩:=h.jI g hg
  exact ⟨L,by rw [if_pos hg];exact h1,h2⟩
theorem HR.kept {E:Env} {B:eS} {H:AH} {w w' : World} (h:HR P E B H w) (hb:Below (eS.up w.heap.size) w w'):HR P E B H w'∧Below B w w':=by
 refine ⟨⟨h.yy,fun b o Q9=>?_,fun k hk=>Nat.lt_of_lt_of_le (h.base k hk) hb.size,h.jI,h.sep⟩,⟨hb.os,hb.tape,hb.output,hb.size,fun k hk=>hb.block k (h.base k hk)⟩⟩
 obtain ⟨L,hL,ho⟩:=h.obj b o Q9
 refine ⟨L,hL,?_⟩
 by_cases hl:o.live=true
 ·exact ho.same (Env.le.refl E) (hb.block _ (ho.nY hl))
 ·cases o <;> first | trivial | exact absurd rfl hl
theorem bH.pure {f:FuncId} {args:List AV} {R:AV→Prop} (h:bH P f args (aR P) fun v' _=>R v') (ha:AV.dc args=true) (hv : ∀v,R v→v.bY=true) (H:AH):bH P f args H fun v' H'=>R v'∧H'=H:=by
 intro E B w bJ hH kJ
 refine Calls.mono (h _ _ w bJ hH.empty (aI.bY ha kJ)) ?_
 rintro e w' ⟨v',H',E',x,rfl,hR,_,_,hx,hb⟩
 obtain ⟨h1,h2⟩:=hH.kept hb
 exact ⟨_,H,E,x,rfl,⟨hR,rfl⟩,Env.le.refl E,h1,VR.bY (hv _ hR) hx,h2⟩
theorem az.mono {f:FuncId} {args:List AV} {H:AH} {Q Q' : AV→AH→Prop} (h:az P f args H Q) (hq : ∀v H,Q v H→Q' v H):az P f args H Q':=by
 rcases h with ⟨h1,h2⟩ | h
 ·exact .inl ⟨h1,h2.mono hq⟩
 ·refine .inr fun E B w bJ hH ha=>?_
  obtain ⟨v,H',E',w',x,k1,k2,k3⟩:=h E B w bJ hH ha
  exact ⟨v,H',E',w',x,k1,hq _ _ k2,k3⟩
def gR (P:Program) (f:FuncId) (args:List AV) (R:AV→Prop):Prop:=∀H,az P f args H fun v' H'=>R v'∧H'=H
abbrev Pure (P:Program) (f:FuncId) (args:List AV) (v:AV):Prop:=gR P f args fun v'=>v'=v
theorem gR.fU (hm:P.follows .mixedOrders=true) {f:FuncId} {args:List AV} {R:AV→Prop} (aT:List dz) (hg:qT P f=true) (ha:AV.dc args=true) (hv : ∀v,R v→v.bY=true)
  (h:gP (real P none) P aT f args (aR P) fun v' _=>R v'):gR P f args R:=fun H=>.inl ⟨aB hg,bH.pure (ew hm h) ha hv H⟩
theorem Pure.fU (hm:P.follows .mixedOrders=true) {f:FuncId} {args:List AV} {v:AV} (aT:List dz) (hg:qT P f=true) (ha:AV.dc args=true) (hv:v.bY=true)
  (h:gP (real P none) P aT f args (aR P) fun v' _=>v'=v):Pure P f args v:=gR.fU hm aT hg ha (fun _ e=>by rw [e];exact hv) h
theorem gR.use {f:FuncId} {args:List AV} {R:AV→Prop} (h:gR P f args R) {H:AH} {K:AV→AH→Prop} (k : ∀v,R v→K v H):az P f args H K:=(h H).mono fun v _ ⟨h1,h2⟩=>by rw [h2];exact k v h1
theorem gR.dS {f:FuncId} {args:List AV} {v:AV} (h:Pure P f args v) {H:AH} {K:AV→AH→Prop} (k:K v H):az P f args H K:=h.use fun _ e=>by rw [e];exact k
/-! Functions that read tables -/
def gh (l:nZ) (H:AH):Prop:=∀t ∈ l,H.get t.1=some (.cells t.2.2 t.2.1 { own:=false })
theorem gh.alloc {l:nZ} {H:AH} (h:gh l H) (hl : ∀t ∈ l,t.1<H.n) (o:aS):gh l (H.alloc o):=fun t ht=>by
 rw [AH.aa,if_neg (Nat.ne_of_lt (hl t ht))];exact h t ht
theorem gh.set {l:nZ} {H:AH} (h:gh l H) {b:Nat} (hb : ∀t ∈ l,t.1 ≠ b) (o:aS):gh l (H.set b o):=fun t ht=>by
 rw [AH.af,if_neg (hb t ht)];exact h t ht
theorem HR.Th {E:Env} {B:eS} {H:AH} {w:World} {l:nZ} (h:HR P E B H w) (hl:gh l H) (hg : ∀t ∈ l,t.1<P.globals.size∧AV.dc t.2.2=true) :
  HR P (fun b=>if b<P.globals.size then E b else (Option.none:Option Loc)) (eS.up w.heap.size) (fA P.globals.size l) w:=by
 have h0:=h.empty
 refine ⟨fun b L hb=>?_,fun b o hb=>?_,fun _ h=>h,h0.jI,fun b b' o o' L L' _ hb _ ho _ _ _=>?_⟩
 ·rw [y8];exact h0.yy b L hb
 ·obtain ⟨cs,rfl,_,e,hm,rfl⟩:=jV hb
  obtain ⟨cv,T9⟩:=hg _ hm
  obtain ⟨L,hL,X,lo,hi,h1,h2,h3,h4,h5,h6,h7,h8⟩:=h.obj _ _ (hl _ hm)
  exact ⟨L,by rw [if_pos cv];exact hL,X,lo,hi,h1,h2,h3,h4,aI.bY T9 h5,fun h=>(by cases h),h7,h8⟩
 ·obtain ⟨cs,rfl,_⟩:=jV hb
  cases ho
def wN (P:Program) (l:nZ) (f:FuncId) (args:List AV) (R:AV→Prop):Prop:=∀H,gh l H→az P f args H fun v' H'=>R v'∧H'=H
theorem wN.oM {l:nZ} {f:FuncId} {args:List AV} {R:AV→Prop} (hg:qT P f=true) (hl : ∀t ∈ l,t.1<P.globals.size∧AV.dc t.2.2=true) (h:bH P f args (fA P.globals.size l) fun v' _=>R v')
  (ha:AV.dc args=true) (hv : ∀v,R v→v.bY=true):wN P l f args R:=by
 intro H hT
 refine .inl ⟨aB hg,fun E B w bJ hH kJ=>?_⟩
 refine Calls.mono (h _ _ w bJ (hH.Th hT hl) (aI.bY ha kJ)) ?_
 rintro e w' ⟨v',H',E',x,rfl,hR,_,_,hx,hb⟩
 obtain ⟨h1,h2⟩:=hH.kept hb
 exact ⟨_,H,E,x,rfl,⟨hR,rfl⟩,Env.le.refl E,h1,VR.bY (hv _ hR) hx,h2⟩
theorem wN.use {l:nZ} {f:FuncId} {args:List AV} {R:AV→Prop} (h:wN P l f args R) {H:AH} (hT:gh l H) {K:AV→AH→Prop} (k : ∀v,R v→K v H):az P f args H K:=(h H hT).mono fun v _ ⟨h1,h2⟩=>by rw [h2];exact k v h1
theorem Pure.ext {X:Ext} (hX:jg P X) {f:FuncId} {args:List AV} {v:AV} (h : ∀H,X f args H=some (v,H)):Pure P f args v:=fun H=>hX f args H v H (h H)
end
/-! ### Runes -/
theorem cM (s:List UInt8) (i:Nat) :
  (ai s i 0<0x80∧ah s i=(ai s i 0,1)) ∨
  (0x80≤ai s i 0∧0x80≤(ah s i).1∧1≤(ah s i).2∧(ah s i).2≤4∧∀k,1≤k→k<(ah s i).2→i+k<s.length∧ai s i k / 64=2):=by
 unfold ah
 simp only
 have he:Utf8.runeError=65533:=rfl
 split
 ·exact .inl ⟨by assumption,rfl⟩
 ·rename_i h0
  refine .inr ?_
  have Oe:0x80≤ai s i 0:=by omega
  split
  ·rename_i h1
   simp only [Bool.and_eq_true,beq_iff_eq,decide_eq_true_eq] at h1
   split
   ·rename_i h2
    exact ⟨Oe,h2,by omega,by omega,fun k k1 k2=>by
     have e:k=1:=(by simp at k2;omega);subst e;exact h1.2⟩
   ·exact ⟨Oe,by rw [he];decide,Nat.le_refl 1,(by decide:1≤4),fun k k1 k2=>by simp at k2;omega⟩
  ·split
   ·rename_i h1
    simp only [Bool.and_eq_true,beq_iff_eq,decide_eq_true_eq] at h1
    split
    ·rename_i h2
     simp only [Bool.and_eq_true,decide_eq_true_eq] at h2
     refine ⟨Oe,by have:=h2.1;simp only;omega,(by decide:1≤3),(by decide:3≤4),fun k k1 k2=>?_⟩
     have Sf:k<3:=k2
     rcases (by omega:k=1∨k=2) with rfl | rfl
     ·exact h1.1.2
     ·exact h1.2
    ·exact ⟨Oe,by rw [he];decide,Nat.le_refl 1,(by decide:1≤4),fun k k1 k2=>by simp at k2;omega⟩
   ·split
    ·rename_i h1
     simp only [Bool.and_eq_true,beq_iff_eq,decide_eq_true_eq] at h1
     split
     ·rename_i h2
      simp only [Bool.and_eq_true,decide_eq_true_eq] at h2
      refine ⟨Oe,by have:=h2.1;simp only;omega,(by decide:1≤4),(by decide:4≤4),fun k k1 k2=>?_⟩
      have Sf:k<4:=k2
      rcases (by omega:k=1∨k=2∨k=3) with rfl | rfl | rfl
      ·exact h1.1.1.2
      ·exact h1.1.2
      ·exact h1.2
     ·exact ⟨Oe,by rw [he];decide,Nat.le_refl 1,(by decide:1≤4),fun k k1 k2=>by simp at k2;omega⟩
    ·exact ⟨Oe,by rw [he];decide,Nat.le_refl 1,(by decide:1≤4),fun k k1 k2=>by simp at k2;omega⟩
theorem ct (s:List UInt8) (i:Nat) (h:i<s.length):1≤(ah s i).2∧i+(ah s i).2≤s.length:=by
 rcases cM s i with ⟨h1,h2⟩ | ⟨h1,h2,h3,h4,h5⟩
 ·rw [h2];exact ⟨Nat.le_refl 1,h⟩
 ·refine ⟨h3,?_⟩
  by_cases e:(ah s i).2=1
  ·rw [e];exact h
  ·have:=(h5 ((ah s i).2 - 1) (by omega) (by omega)).1;omega
end Go.Am
end
/- Iterators: what a range over a function asks. -/
section
namespace Go.Am
open Go.RowKit
def Iter (P:Program) (gf:FuncId) (x y:List AV) (Cap:AH→Prop) (xs:List (List AV)):Prop :=
 ∀(b:Nat) (J:Nat→List Nat→AH→Prop) (D:List Nat→AH→Prop) (H0:AH),b<H0.n →
  (∀i W H o,J i W H→J i (H.n :: W) (H.alloc o))→(∀i W H c o,c ∈ W→J i W H→J i W (H.set c o)) →
  (∀W H o,D W H→D (H.n :: W) (H.alloc o))→(∀W H c o,c ∈ W→D W H→D W (H.set c o)) →
  (∀i W H,J i W H→Cap H)→J 0 [] H0 →
  (∀r i W H1 vs,xs[i]? = some vs→J i W H1→(∀c ∈ W,c<H1.n)→uI P r (.cV b) vs H1 fun v H2 =>
   H1.n≤H2.n∧(∀c ∈ W,H2.get c=H1.get c)∧((v=.bool true∧J (i+1) W H2)∨(v=.bool false∧D W H2))) →
  bH P gf (x ++ [.cV b] ++ y) H0 fun _ H'=>∃W,J xs.length W H'∨D W H'
def codeOf:dm→Code
 | .normal=>.skip
 | .ret=>.ret
 | .exit id=>.exit id
 | .goto l=>.goto l
structure qv (b:Nat) (H H' : AH):Prop where
 n:H'.n=H.n
 get : ∀c,c ≠ b→H'.get c=H.get c
 put : ∃o,H'=H.set b o
structure yK (H H2:AH):Prop where
 n:H2.n=H.n+2
 get : ∀c,c<H.n→H2.get c=H.get c
 made : ∃o1 o2,H2=(H.alloc o1).alloc o2
theorem qv.set (b:Nat) (H:AH) (o:aS):qv b H (H.set b o):=⟨rfl,fun c hc=>by rw [AH.af,if_neg hc],o,rfl⟩
section
variable {P:Program}
theorem bC.BT {g:Operand} {ps:Array Tmp} {as bd:Code} {gf:FuncId} {x y T:List AV} {M:List Mk} {H:AH} {Q:dm→St→Prop} (iJ:Goes P gf) (hg:ev P T g=some (.func (.func gf) x y))
  {Cap:AH→Prop} {xs:List (List AV)} (hI:Iter P gf x y Cap xs) (inv:Nat→List Nat→AH→Prop) (stop:dm→List Nat→AH→Prop)
  (s1 : ∀i W H o,inv i W H→inv i (H.n :: W) (H.alloc o)) (s2 : ∀i W H c o,c ∈ W→inv i W H→inv i W (H.set c o))
  (s3 : ∀e W H o,stop e W H→stop e (H.n :: W) (H.alloc o)) (s4 : ∀e W H c o,c ∈ W→stop e W H→stop e W (H.set c o))
  (hC : ∀i W H,inv i W H→Cap H) (h0 : ∀H2,yK H H2→inv 0 [H.n+1,H.n] H2) (hl : ∀vs ∈ xs,vs.length=ps.size)
  (hb : ∀i W H1 vs,xs[i]? = some vs→inv i W H1→(∀c ∈ W,c<H1.n)→H.n+1 ∈ W→bC P (some (H.n+1)) as (C8 (fun s=>H1.n≤s.H.n∧(∀c ∈ W,s.H.get c=H1.get c)∧∀H4,qv (H.n+1) s.H H4 →
   bC P (some (H.n+1)) bd (fun e s2=>H1.n≤s2.H.n∧(∀c ∈ W,s2.H.get c=H4.get c)∧∀H6,qv (H.n+1) s2.H H6→match e with | .normal=>inv (i+1) W H6 | e=>stop e W H6) ⟨s.T,s.M,H4⟩)
   (fun _ _=>False)) ⟨ie ps.toList vs T,[],H1⟩)
  (ha : ∀W H1,inv xs.length W H1→∀H6,qv (H.n+1) H1 H6→H6.get H.n=some .deferred→Q .normal ⟨T,.mark H.n :: M,H6⟩)
  (hs : ∀e W H1,stop e W H1→∀H6,qv (H.n+1) H1 H6→H6.get H.n=some .deferred→Q e ⟨T,.mark H.n :: M,H6⟩) :
  bC P none (.rangeFunc g ps as bd) Q ⟨T,M,H⟩:=by
 refine bC.rangeFunc iJ hg ?_
 show bH P gf (x ++ [.cV (H.n+1)] ++ y) ((H.alloc .deferred).alloc (.loop .ready none T ps as bd H.n)) _
 have Ob:((H.alloc .deferred).alloc (.loop .ready none T ps as bd H.n)).n=H.n+2:=rfl
 refine (hI (H.n+1) (fun i W H'=>inv i (W ++ [H.n+1,H.n]) H'∧H'.get (H.n+1)=some (.loop .ready none T ps as bd H.n)∧H'.get H.n=some .deferred∧H.n+1 ∉ W∧H.n ∉ W∧H.n+1<H'.n)
  (fun W H'=>∃e,e ≠ .normal∧stop e (W ++ [H.n+1,H.n]) H'∧H'.get (H.n+1)=some (.loop .done (some (codeOf e)) T ps as bd H.n)∧H'.get H.n=some .deferred∧H.n+1 ∉ W∧H.n ∉ W∧H.n+1<H'.n)
  _ (by rw [Ob];omega) ?_ ?_ ?_ ?_ ?_ ?_ ?_).mono ?_
 ·rintro i W H' o ⟨k1,k2,k3,k4,k5,k6⟩
  refine ⟨s1 _ _ _ _ k1,by rw [AH.aa,if_neg (by omega)];exact k2,by rw [AH.aa,if_neg (by omega)];exact k3,?_,?_,by simp;omega⟩
  ·simp only [List.mem_cons,not_or];exact ⟨by omega,k4⟩
  ·simp only [List.mem_cons,not_or];exact ⟨by omega,k5⟩
 ·rintro i W H' c o hc ⟨k1,k2,k3,k4,k5,k6⟩
  have n1:c ≠ H.n+1:=fun e=>k4 (e ▸ hc)
  have n2:c ≠ H.n:=fun e=>k5 (e ▸ hc)
  exact ⟨s2 _ _ _ _ _ (List.mem_append_left _ hc) k1,by rw [AH.af,if_neg (Ne.symm n1)];exact k2,by rw [AH.af,if_neg (Ne.symm n2)];exact k3,k4,k5,by simpa using k6⟩
 ·rintro W H' o ⟨e,k0,k1,k2,k3,k4,k5,k6⟩
  refine ⟨e,k0,s3 _ _ _ _ k1,by rw [AH.aa,if_neg (by omega)];exact k2,by rw [AH.aa,if_neg (by omega)];exact k3,?_,?_,by simp;omega⟩
  ·simp only [List.mem_cons,not_or];exact ⟨by omega,k4⟩
  ·simp only [List.mem_cons,not_or];exact ⟨by omega,k5⟩
 ·rintro W H' c o hc ⟨e,k0,k1,k2,k3,k4,k5,k6⟩
  have n1:c ≠ H.n+1:=fun e=>k4 (e ▸ hc)
  have n2:c ≠ H.n:=fun e=>k5 (e ▸ hc)
  exact ⟨e,k0,s4 _ _ _ _ _ (List.mem_append_left _ hc) k1,by rw [AH.af,if_neg (Ne.symm n1)];exact k2,by rw [AH.af,if_neg (Ne.symm n2)];exact k3,k4,k5,by simpa using k6⟩
 ·rintro i W H' ⟨k1,_⟩;exact hC _ _ _ k1
 ·refine ⟨h0 _ ⟨Ob,fun c hc=>?_,_,_,rfl⟩,?_,?_,by simp,by simp,by rw [Ob];omega⟩
  ·rw [AH.aa,if_neg (by simp;omega),AH.aa,if_neg (by omega)]
  ·rw [AH.aa,if_pos (by simp)]
  ·rw [AH.aa,if_neg (by simp),AH.aa,if_pos rfl]
 ·rintro r i W H1 vs Ia ⟨k1,k2,k3,k4,k5,k6⟩ hW
  intro dst f LR ts ty pos after guard T1 hf hx
  refine jw.yield hf hx k2 (hl vs (List.mem_iff_getElem?.2 ⟨i,Ia⟩)) ?_
  have UY : ∀c ∈ W ++ [H.n+1,H.n],c<H1.n:=by
   intro c hc
   simp only [List.mem_append,List.mem_cons,List.mem_nil_iff,or_false] at hc
   rcases hc with hc | rfl | rfl
   ·exact hW c hc
   ·exact k6
   ·omega
  refine (hb i (W ++ [H.n+1,H.n]) H1 vs Ia k1 UY (by simp)).mono ?_
  intro e s hp
  cases e with
  | exit id=>exact hp.elim
  | goto l=>exact hp.elim
  | ret=>exact hp.elim
  | normal =>
   obtain ⟨hn,Ic,Iw⟩:=hp
   have YL:=(Ic (H.n+1) (by simp)).trans k2
   refine ⟨_,_,_,_,_,_,YL,?_⟩
   have UQ:=qv.set (H.n+1) s.H (.loop .busy none T ps as bd H.n)
   refine (Iw _ UQ).mono ?_
   rintro e s2 ⟨Gi,Cq,KV⟩
   have Fu:s2.H.get (H.n+1)=some (.loop .busy none T ps as bd H.n):=by rw [Cq _ (by simp),AH.af,if_pos rfl]
   have N5:s2.H.get H.n=some .deferred:=by rw [Cq _ (by simp),AH.af,if_neg (by omega),Ic _ (by simp)];exact k3
   refine ⟨_,_,_,_,_,_,_,Fu,?_⟩
   have fin : ∀o:aS,(s2.H.set (H.n+1) o).get H.n=some .deferred:=fun o=>by rw [AH.af,if_neg (by omega)];exact N5
   have own : ∀(o:aS) c,c ∈ W→(s2.H.set (H.n+1) o).get c=H1.get c:=fun o c hc=>by
    have n1:c ≠ H.n+1:=fun e=>k4 (e ▸ hc)
    rw [AH.af,if_neg n1,Cq c (List.mem_append_left _ hc),AH.af,if_neg n1,Ic c (List.mem_append_left _ hc)]
   have rM : ∀o:aS,qv (H.n+1) s2.H (s2.H.set (H.n+1) o):=fun o=>qv.set _ _ _
   cases e with
   | normal=>exact ⟨Gi,own _,.inl ⟨rfl,KV _ (rM _),by rw [AH.af,if_pos rfl],fin _,k4,k5,by simp;omega⟩⟩
   | ret=>exact ⟨Gi,own _,.inr ⟨rfl,.ret,by simp,KV _ (rM _),by rw [AH.af,if_pos rfl];rfl,fin _,k4,k5,by simp;omega⟩⟩
   | exit id=>exact ⟨Gi,own _,.inr ⟨rfl,.exit id,by simp,KV _ (rM _),by rw [AH.af,if_pos rfl];rfl,fin _,k4,k5,by simp;omega⟩⟩
   | goto l=>exact ⟨Gi,own _,.inr ⟨rfl,.goto l,by simp,KV _ (rM _),by rw [AH.af,if_pos rfl];rfl,fin _,k4,k5,by simp;omega⟩⟩
 ·rintro v H' ⟨W,⟨k1,k2,k3,k4,k5,k6⟩ | ⟨e,k0,k1,k2,k3,k4,k5,k6⟩⟩
  ·refine ⟨_,_,_,_,_,_,_,k2,by simp,?_⟩
   exact ha _ _ k1 _ (qv.set _ _ _) (by rw [AH.af,if_neg (by show ¬ H.n=H.n+1;omega)];exact k3)
  ·refine ⟨_,_,_,_,_,_,_,k2,by simp,?_⟩
   have hq:=hs e _ _ k1 _ (qv.set (H.n+1) H' .dead) (by rw [AH.af,if_neg (by show ¬ H.n=H.n+1;omega)];exact k3)
   cases e with
   | normal=>exact absurd rfl k0
   | ret=>exact bC.ret hq
   | exit id=>exact bC.exit hq
   | goto l=>exact bC.goto hq
end
end Go.Am
end
/- What code asks, with labels, and with ranges over functions. -/
section
namespace Go.Am
open Go.RowKit
structure mh where
 key:Nat
 β:Type
 γ:Type
 fn:FuncId
 held:β→List AV×List AV
 el:γ→List AV
 xs:β→List γ
 cap:β→AH→Prop
 inv:β→Nat→List Nat→AH→Prop
 outs:List dm
 stop:β→dm→List Nat→AH→Prop
def DN (k:Nat):List mh→Option mh
 | []=>none
 | a :: l=>bif Nat.beq a.key k then some a else DN k l
def Lm:dm→dm→Bool
 | .normal,.normal=>true
 | .ret,.ret=>true
 | .exit a,.exit b=>Nat.beq a b
 | .goto a,.goto b=>Nat.beq a b
 | _,_=>false
theorem FD {a b:dm} (h:Lm a b=true):a=b:=by
 cases a <;> cases b <;> simp only [Lm] at h <;> first | rfl | cases h | (rw [Nat.eq_of_beq_eq_true h])
def zZ (e:dm):List dm→Bool
 | []=>false
 | a :: l=>bif Lm e a then true else zZ e l
structure sx (inv:Nat→List Nat→AH→Prop) (stop:dm→List Nat→AH→Prop) (cap:AH→Prop):Prop where
 s1 : ∀i W H o,inv i W H→inv i (H.n :: W) (H.alloc o)
 s2 : ∀i W H c o,c ∈ W→inv i W H→inv i W (H.set c o)
 s3 : ∀e W H o,stop e W H→stop e (H.n :: W) (H.alloc o)
 s4 : ∀e W H c o,c ∈ W→stop e W H→stop e W (H.set c o)
 cap : ∀i W H,inv i W H→cap H
def Jk (W:List Nat) (H:AH):Prop:=∀c ∈ W,c<H.n
def Still (W:List Nat) (H1 H H' : AH):Prop:=H1.n≤H'.n∧∀c ∈ W,H'.get c=H.get c
def Vr (b:Nat) (W:List Nat):Prop:=b ∈ W
def GC (b:Nat) (H:AH):Prop:=H.get b=some .deferred
def LL {α:Type}:List α→(α→Prop)→Prop
 | [],_=>True
 | [a],f=>f a
 | a :: l,f=>f a∧LL l f
theorem uC {α:Type} : ∀ {l:List α} {f:α→Prop},LL l f→∀a ∈ l,f a
 | [],_,_,_,h=>by cases h
 | [a],f,h,b,hb=>by simp at hb;exact hb ▸ h
 | a :: c :: l,f,h,b,hb=>by
  rcases List.mem_cons.1 hb with rfl | hb
  ·exact h.1
  ·exact uC (l:=c :: l) h.2 b hb
def dM:Code→List Nat
 | .seq a b=>dM a ++ dM b
 | .label l=>[l]
 | _=>[]
theorem ve : ∀ {c:Code} {l:Nat} {rest:Code},findLabel c l=some rest→l ∈ dM c:=by
 intro c
 induction c with
 | seq a b KB Aq =>
  intro l rest h
  simp only [findLabel] at h
  simp only [dM,List.mem_append]
  split at h
  ·rename_i hr;exact .inl (KB hr)
  ·exact .inr (Aq h)
 | label l' =>
  intro l rest h
  simp only [findLabel] at h
  split at h
  ·rename_i e;simp only [dM,List.mem_singleton];exact (beq_iff_eq.1 e).symm
  ·cases h
 | _=>intro l rest h;cases h
def bp:Code→Nat→Option Code
 | .seq a b,l=>match a with
  | .label l'=>if l' == l then some b else bp b l
  | _=>bp b l
 | _,_=>none
def nk:Code→Bool
 | .seq a b=>(match a with | .label l=>!(dM b).contains l | a=>(dM a).isEmpty) && nk b
 | .label _=>false
 | _=>true
theorem nA : ∀ {c:Code} {l:Nat} {b:Code},bp c l=some b→l ∈ dM c:=by
 intro c
 induction c with
 | seq a b KB Aq =>
  intro l b' h
  simp only [dM,List.mem_append]
  cases a with
  | label l' =>
   simp only [bp] at h
   split at h
   ·rename_i e;exact .inl (by simp only [dM,List.mem_singleton];exact (beq_iff_eq.1 e).symm)
   ·exact .inr (Aq h)
  | _=>exact .inr (Aq h)
 | _=>intro l b h;cases h
theorem wT : ∀ {c:Code} {l:Nat} {b:Code},bp c l=some b→(findLabel c l).isSome=true:=by
 intro c
 induction c with
 | seq a b KB Aq =>
  intro l b' h
  simp only [findLabel]
  split
  ·rfl
  ·rename_i hn
   cases a with
   | label l' =>
    simp only [bp] at h
    simp only [findLabel] at hn
    split at h
    ·rename_i e;rw [if_pos e] at hn;cases hn
    ·exact Aq h
   | _=>exact Aq h
 | _=>intro l b h;cases h
theorem yZ : ∀ {c:Code} {l:Nat} {b:Code},nk c=true→bp c l=some b→nk b=true∧∀l',(bp b l').isSome=true→bp c l'=bp b l':=by
 intro c
 induction c with
 | seq a b KB Aq =>
  intro l b' hf h
  simp only [nk,Bool.and_eq_true] at hf
  have sub : ∀l',(bp b l').isSome=true→bp (.seq a b) l'=bp b l':=by
   intro l' hs
   cases a with
   | label l2 =>
    simp only [bp]
    rw [if_neg]
    intro e
    obtain ⟨b2,Fu⟩:=Option.isSome_iff_exists.1 hs
    have:=nA Fu
    have h1:=hf.1
    simp only [Bool.not_eq_true'] at h1
    rw [← beq_iff_eq.1 e] at this
    rw [List.contains_iff_mem.2 this] at h1
    cases h1
   | _=>rfl
  have rest:bp b l=some b'→nk b'=true∧∀l',(bp b' l').isSome=true→bp (.seq a b) l'=bp b' l':=by
   intro h
   obtain ⟨h1,h2⟩:=Aq hf.2 h
   refine ⟨h1,fun l' hs=>?_⟩
   have:=h2 l' hs
   rw [← this]
   exact sub l' (by rw [this];exact hs)
  cases a with
  | label l2 =>
   simp only [bp] at h
   split at h
   ·cases h;exact ⟨hf.2,sub⟩
   ·exact rest h
  | _=>exact rest h
 | _=>intro l b _ h;cases h
theorem ua : ∀ {c:Code} {l:Nat} {rest:Code},nk c=true→findLabel c l=some rest→∃b,bp c l=some b∧rest=.seq .skip b:=by
 intro c
 induction c with
 | seq a b KB Aq =>
  intro l rest hf h
  simp only [nk,Bool.and_eq_true] at hf
  simp only [findLabel] at h
  split at h
  ·rename_i ra hr
   have hm:=ve hr
   cases a with
   | label l' =>
    simp only [findLabel] at hr
    split at hr
    ·rename_i e
     cases hr;cases h
     exact ⟨b,by simp only [bp];rw [if_pos e],rfl⟩
    ·cases hr
   | _=>have h1:=hf.1;simp only [List.isEmpty_iff] at h1;rw [h1] at hm;cases hm
  ·rename_i hr
   obtain ⟨b',h1,h2⟩:=Aq hf.2 h
   refine ⟨b',?_,h2⟩
   cases a with
   | label l' =>
    simp only [findLabel] at hr
    split at hr
    ·cases hr
    ·rename_i e;simp only [bp];rw [if_neg e];exact h1
   | _=>exact h1
 | label l'=>intro l rest hf h;cases hf
 | _=>intro l rest _ h;cases h
section
variable (X:Option Nat→aN) (It:FuncId→List AV→List AV→(AH→Prop)→List (List AV)→Prop) (P:Program) (aT:List dz) (dY:List mh)
def Dx (a:dz) (n:Nat) (M:List Mk) (low:Nat→Prop) (T:List AV) (M2:List Mk) (H:AH):Prop :=
 bif Nat.beq T.length n then C9 M2 M (∃x j,low j∧a.live.map (look T)=a.pN x∧a.inv x H j) else False
def qR (c:Code) (n:Nat) (M:List Mk) (low:Nat→Prop) (K:VK):VK:=fun e T M2 H =>
 match e with
 | .goto l=>match findLabel c l with
  | some _=>match gT (100000+l) aT with
   | some a=>Dx a n M low T M2 H
   | none=>False
  | none=>K (.goto l) T M2 H
 | e=>K e T M2 H
def nB (V:Code→VK→List AV→List Mk→AH→Prop):Code→VK→List AV→List Mk→AH→Prop
 | .seq a b,K,T,M,H=>match a with
  | .label l=>match gT (100000+l) aT with
   | some _=>K (.goto l) T M H
   | none=>nB V b K T M H
  | a=>V a (fun e T M H=>match e with | .normal=>nB V b K T M H | e=>K e T M H) T M H
 | c,K,T,M,H=>V c K T M H
def RA (b:Code):Option dz :=
 match cS b with
 | some k=>gT (200000+k) aT
 | none=>none
def uU:Nat→Option Nat→Code→VK→List AV→List Mk→AH→Prop
 | 0,_,_,_,_,_,_=>False
 | n+1,r,c,K,T,M,H=>match c with
  | .skip=>K .normal T M H
  | .label _=>K .normal T M H
  | .exit id=>K (.exit id) T M H
  | .goto l=>K (.goto l) T M H
  | .ret=>K .ret T M H
  | .refuse _=>False
  | .seq a b=>match RA aT b with
   | some an=>∃J:an.α→AH→Prop,uU n r a (fun e T2 M2 H2=>match e with
      | .normal=>Dx { an with inv:=fun x H _=>J x H } T.length M (fun _=>True) T2 M2 H2
      | e=>K e T2 M2 H2) T M H∧∀x H',J x H'→uU n r b K (Jr T.length an.live (an.pN x)) M H'
   | none=>uU n r a (fun e T M H=>match e with | .normal=>uU n r b K T M H | e=>K e T M H) T M H
  | .cond c x y=>vK (ev P T c) fun v=>match v with
   | .bool u=>cond u (uU n r x K T M H) (uU n r y K T M H)
   | _=>False
  | .block id c=>uU n r c (fun e=>K (iA id e)) T M H
  | .loop c=>match cS c with
   | some k=>match gT k aT with
    | some a=>∃I:a.α→AH→Nat→Prop,(∃x j,a.live.map (look T)=a.pN x∧I x H j)∧∀x H' j,I x H' j →
      uU n r c (fun e T2 M2 H2=>match e with
       | .normal=>Dx { a with inv:=I } T.length M (fun j'=>j'<j) T2 M2 H2
       | e=>K e T2 M2 H2) (Jr T.length a.live (a.pN x)) M H'
    | none=>False
   | none=>False
  | .scope c=>cond (nk c) (nB aT (uU n r) c (qR aT c T.length M (fun _=>True) K) T M H∧LL (dM c) fun l =>
    match gT (100000+l) aT with
    | some a=>match bp c l with
     | some rest=>∀x H' j,a.inv x H' j→nB aT (uU n r) rest (qR aT c T.length M (fun j'=>j'<j) K) (Jr T.length a.live (a.pN x)) M H'
     | none=>True
    | none=>True) False
  | .rangeFunc g ps as bd=>match r with
   | some _=>False
   | none=>match DN ((cS (.rangeFunc g ps as bd)).getD 0) dY with
    | none=>False
    | some a=>vK (ev P T g) fun v=>cond (qT P a.fn) (∃z:a.β,v=.func (.func a.fn) (a.held z).1 (a.held z).2∧It a.fn (a.held z).1 (a.held z).2 (a.cap z) ((a.xs z).map a.el)∧sx (a.inv z) (a.stop z) (a.cap z)∧(∀k:a.γ,(a.el k).length=ps.size) ∧
       (∀H2,yK H H2→a.inv z 0 [(X none).n H+1,(X none).n H] H2) ∧
       (∀i W H1 (k:a.γ),(a.xs z)[i]? = some k→a.inv z i W H1→Jk W H1→Vr ((X none).n H+1) W →
        uU n (some ((X none).n H+1)) as (fun e T3 M3 H3=>match e with
         | .normal=>Still W H1 H1 H3∧∀H4,qv ((X none).n H+1) H3 H4→uU n (some ((X none).n H+1)) bd (fun e _ _ H5=>Still W H1 H4 H5∧∀H6,qv ((X none).n H+1) H5 H6 →
           match e with
           | .normal=>a.inv z (i+1) W H6
           | e=>cond (zZ e a.outs) (a.stop z e W H6) False) T3 M3 H4
         | _=>False) (ie ps.toList (a.el k) T) [] H1) ∧
       (∀W H1 H6,a.inv z (a.xs z).length W H1→qv ((X none).n H+1) H1 H6→GC ((X none).n H) H6→K .normal T (.mark ((X none).n H) :: M) H6) ∧
       LL a.outs fun e=>∀W H1 H6,a.stop z e W H1→qv ((X none).n H+1) H1 H6→GC ((X none).n H) H6→K e T (.mark ((X none).n H) :: M) H6) False
  | .region _ ops draw=>match draw with
   | false=>jB (X r) P ops ops.toList T [] [] H fun T' cd H'=>K .normal (nU T' cd) M H'
   | true=>match nV ops with
    | some (σ,A)=>nr (X r) P ops A σ [] T H fun T' H'=>K .normal T' M H'
    | none=>False
def oh (f:FuncId) (args:List AV) (H:AH) (Q:AV→AH→Prop):Prop :=
 match P.funcs[f]? with
 | some fn=>match fn.body with
  | some c=>uU X It P aT dY 4000 none c (Px (X none) P fn Q) (args ++ List.replicate (fn.ntmps - args.length) .undef) [] H
  | none=>False
 | none=>False
end
section
variable {P:Program} {aT:List dz} {dY:List mh}
theorem nM {a:dz} {n:Nat} {M:List Mk} {low:Nat→Prop} {T:List AV} {M2:List Mk} {H:AH} (h:Dx a n M low T M2 H) : ∃x j,low j∧M2=M∧a.inv x H j∧Wk (Jr n a.live (a.pN x)) T:=by
 obtain ⟨hlen,hk⟩:=cP h
 obtain ⟨hM,x,j,hj,hl,hi⟩:=vv hk
 exact ⟨x,j,hj,hM,hi,by rw [← hl];exact xR (Nat.eq_of_beq_eq_true hlen).symm _⟩
theorem M5 (hm:P.follows .mixedOrders=true) : ∀ {n:Nat} {r:Option Nat} {c:Code} {K:VK} {T:List AV} {M:List Mk} {H:AH},uU (real P) (Iter P) P aT dY n r c K T M H→bC P r c (F3 K) ⟨T,M,H⟩:=by
 intro n
 induction n with
 | zero=>intro r c K T M H h;exact h.elim
 | succ n ih =>
 intro r c K T M H h
 cases c with
 | skip=>exact bC.skip ⟨T,Wk.refl T,h⟩
 | label l=>exact bC.label ⟨T,Wk.refl T,h⟩
 | exit id=>exact bC.exit ⟨T,Wk.refl T,h⟩
 | goto l=>exact bC.goto ⟨T,Wk.refl T,h⟩
 | ret=>exact bC.ret ⟨T,Wk.refl T,h⟩
 | refuse w=>exact h.elim
 | scope c =>
  obtain ⟨hf,h0,hl⟩:=cP h
  have jump : ∀ {low:Nat→Prop} {e:dm} {s:St},F3 (qR aT c T.length M low K) e s →
    c6 c (fun l s=>∃j,low j∧∃a x,gT (100000+l) aT=some a∧a.inv x s.H j∧s.M=M∧Wk (Jr T.length a.live (a.pN x)) s.T) (F3 K) e s:=by
   rintro low e s ⟨T2,hw,hk⟩
   cases e with
   | normal=>exact ⟨T2,hw,hk⟩
   | exit id=>exact ⟨T2,hw,hk⟩
   | ret=>exact ⟨T2,hw,hk⟩
   | goto l =>
    simp only [c6]
    simp only [qR] at hk
    split at hk
    ·rename_i hf
     rw [if_pos (by rw [hf];rfl)]
     split at hk
     ·rename_i a ha
      obtain ⟨x,j,hj,hM,hi,Qh⟩:=nM hk
      exact ⟨j,hj,a,x,ha,hi,hM,Qh.trans hw⟩
     ·exact hk.elim
    ·rename_i hf
     rw [if_neg (by rw [hf];simp)]
     exact ⟨T2,hw,hk⟩
  have up : ∀ {J1 J2:Nat→St→Prop} {e:dm} {s:St},(∀l s,J1 l s→J2 l s)→c6 c J1 (F3 K) e s→c6 c J2 (F3 K) e s:=by
   intro J1 J2 e s hJ h
   cases e with
   | goto l =>
    simp only [c6] at h ⊢
    split at h
    ·rename_i hs;rw [if_pos hs];exact hJ _ _ h
    ·rename_i hs;rw [if_neg hs];exact h
   | normal=>exact h
   | exit id=>exact h
   | ret=>exact h
  obtain ⟨G,hG⟩ : ∃G:Nat→Nat→St→Prop,G=fun l j s=>∃a x,gT (100000+l) aT=some a∧a.inv x s.H j∧s.M=M∧Wk (Jr T.length a.live (a.pN x)) s.T:=⟨_,rfl⟩
  have Al : ∀ {low:Nat→Prop} {e:dm} {s:St},F3 (qR aT c T.length M low K) e s→c6 c (fun l s=>∃j,low j∧G l j s) (F3 K) e s:=by rw [hG];exact jump
  have row : ∀(low:Nat→Prop),(∀l b j s,low j→bp c l=some b→G l j s→bC P r b (c6 c (fun l s=>∃j,low j∧G l j s) (F3 K)) s) →
    ∀ {b:Code} {T1:List AV} {M1:List Mk} {H1:AH},nk b=true→(∀l,(bp b l).isSome=true→bp c l=bp b l)→nB aT (uU (real P) (Iter P) P aT dY n r) b (qR aT c T.length M low K) T1 M1 H1 →
     bC P r b (c6 c (fun l s=>∃j,low j∧G l j s) (F3 K)) ⟨T1,M1,H1⟩:=by
   intro low hyp b
   induction b with
   | seq a b KB Aq =>
    intro T1 M1 H1 KW Co h
    have Zh:=KW
    simp only [nk,Bool.and_eq_true] at KW
    have Mj : ∀l,(bp b l).isSome=true→bp c l=bp b l:=by
     intro l' hs
     have:bp (.seq a b) l'=bp b l':=by
      cases a with
      | label l2 =>
       simp only [bp]
       rw [if_neg]
       intro e
       obtain ⟨b2,Fu⟩:=Option.isSome_iff_exists.1 hs
       have OX:=nA Fu
       have h1:=KW.1
       simp only [Bool.not_eq_true'] at h1
       rw [← beq_iff_eq.1 e] at OX
       rw [List.contains_iff_mem.2 OX] at h1
       cases h1
      | _=>rfl
     rw [← this];exact Co l' (by rw [this];exact hs)
    have other:uU (real P) (Iter P) P aT dY n r a (fun e T2 M2 H2=>match e with | .normal=>nB aT (uU (real P) (Iter P) P aT dY n r) b (qR aT c T.length M low K) T2 M2 H2 | e=>qR aT c T.length M low K e T2 M2 H2) T1 M1 H1 →
      bC P r (.seq a b) (c6 c (fun l s=>∃j,low j∧G l j s) (F3 K)) ⟨T1,M1,H1⟩:=by
     intro h
     refine bC.seq ((ih h).mono ?_)
     rintro e s ⟨T',hw,hk⟩
     cases e with
     | normal=>exact bC.weaken hw (Aq KW.2 Mj hk)
     | exit id=>exact Al ⟨T',hw,hk⟩
     | goto l=>exact Al ⟨T',hw,hk⟩
     | ret=>exact Al ⟨T',hw,hk⟩
    cases a with
    | label l =>
     simp only [nB] at h
     refine bC.seq (bC.label ?_)
     split at h
     ·have ht:bp (.seq (.label l) b) l=some b:=by simp [bp]
      have hc:bp c l=some b:=(Co l (by rw [ht];rfl)).trans ht
      have hj:=Al (e:=.goto l) (s:=⟨T1,M1,H1⟩) ⟨T1,Wk.refl T1,h⟩
      simp only [c6] at hj
      rw [if_pos (wT hc)] at hj
      obtain ⟨j,hl,hg⟩:=hj
      exact hyp l b j _ hl hc hg
     ·exact Aq KW.2 Mj h
    | _=>exact other h
   | label l=>intro T1 M1 H1 KW;cases KW
   | _=>intro T1 M1 H1 _ _ h;exact (ih h).mono fun e s hp=>Al hp
  have A : ∀j l b s,bp c l=some b→G l j s→bC P r b (c6 c (fun l s=>∃i,i<j∧G l i s) (F3 K)) s:=by
   intro j
   induction j using Nat.strongRecOn with
   | ind j Yp =>
    intro l b s ht hg
    have WV:=hg
    rw [hG] at WV
    obtain ⟨a,x,ha,hi,hM,hw⟩:=WV
    have hr:=uC hl l (nA ht)
    rw [ha,ht] at hr
    obtain ⟨k1,k2⟩:=yZ hf ht
    obtain ⟨Ts,Ms,Hs⟩:=s
    obtain rfl:Ms=M:=hM
    exact bC.weaken hw (row (fun i=>i<j) (fun l b i s hi ht hg=>(Yp i hi l b s ht hg).mono fun e s=>up fun l s ⟨i',h1,h2⟩=>⟨i',Nat.lt_trans h1 hi,h2⟩) k1 k2 (hr x Hs j hi))
  refine bC.scope (fun j l s=>G l j s) ((row (fun _=>True) (fun l b i s _ ht hg=>(A i l b s ht hg).mono fun e s=>up fun l s ⟨i',_,h2⟩=>⟨i',trivial,h2⟩) hf (fun l _=>rfl) h0).mono fun e s=>up fun l s ⟨j,_,h⟩=>⟨j,h⟩) ?_
  intro j l s rest Gl hJ
  obtain ⟨b,ht,rfl⟩:=ua hf Gl
  exact bC.seq (bC.skip (A j l b s ht hJ))
 | seq a b =>
  simp only [uU] at h
  split at h
  ·rename_i an _
   obtain ⟨J,h1,h2⟩:=h
   refine bC.seq ((ih h1).mono ?_)
   rintro e ⟨Ts,Ms,Hs⟩ ⟨T',hw,hk⟩
   cases e with
   | normal =>
    obtain ⟨x,j,_,hM,hi,Qh⟩:=nM hk
    obtain rfl:Ms=M:=hM
    exact bC.weaken (Qh.trans hw) (ih (h2 x Hs hi))
   | exit id=>exact ⟨T',hw,hk⟩
   | goto l=>exact ⟨T',hw,hk⟩
   | ret=>exact ⟨T',hw,hk⟩
  ·refine bC.seq ((ih h).mono ?_)
   rintro e s ⟨T',hw,hk⟩
   cases e with
   | normal=>exact bC.weaken hw (ih hk)
   | exit id=>exact ⟨T',hw,hk⟩
   | goto l=>exact ⟨T',hw,hk⟩
   | ret=>exact ⟨T',hw,hk⟩
 | cond c x y =>
  obtain ⟨v,hv,h⟩:=aQ h
  split at h
  ·rename_i u
   refine bC.cond hv ?_
   cases u with
   | true=>exact ih h
   | false=>exact ih h
  ·exact h.elim
 | block id c =>
  refine bC.block ((ih (show uU (real P) (Iter P) P aT dY n r c _ T M H from h)).mono ?_)
  rintro e s ⟨T',hw,hk⟩
  cases e with
  | exit i =>
   simp only [lS]
   simp only [iA] at hk
   split
   ·rename_i e;rw [if_pos e] at hk;exact ⟨T',hw,hk⟩
   ·rename_i e;rw [if_neg e] at hk;exact ⟨T',hw,hk⟩
  | normal=>exact ⟨T',hw,hk⟩
  | goto l=>exact ⟨T',hw,hk⟩
  | ret=>exact ⟨T',hw,hk⟩
 | loop c =>
  simp only [uU] at h
  split at h
  ·split at h
   ·rename_i a _
    obtain ⟨I,⟨x,j,hl,hi⟩,h⟩:=h
    refine bC.loop (j:=j) (fun j s=>∃x,I x s.H j∧s.M=M∧Wk (Jr T.length a.live (a.pN x)) s.T) ⟨x,hi,rfl,by rw [← hl];exact xR rfl _⟩ ?_
    rintro j ⟨T1,M1,H1⟩ ⟨x,hi,rfl,hw⟩
    refine bC.weaken hw ((ih (h x H1 j hi)).mono ?_)
    rintro e s ⟨T2,Fj,hk⟩
    cases e with
    | normal =>
     obtain ⟨x',j',hj,hM,v8,Qh⟩:=nM hk
     exact ⟨j',hj,x',v8,hM,Qh.trans Fj⟩
    | exit id=>exact ⟨T2,Fj,hk⟩
    | goto l=>exact ⟨T2,Fj,hk⟩
    | ret=>exact ⟨T2,Fj,hk⟩
   ·exact h.elim
  ·exact h.elim
 | rangeFunc g ps as bd =>
  simp only [uU] at h
  split at h
  ·exact h.elim
  ·split at h
   ·exact h.elim
   ·rename_i a _
    obtain ⟨v,hv,h⟩:=aQ h
    ·obtain ⟨iJ,z,rfl,hI,hC,hlen,h0,hb,ha,hs⟩:=cP h
     refine bC.BT (aB iJ) hv hI (a.inv z) (fun e W H=>zZ e a.outs=true∧a.stop z e W H) hC.s1 hC.s2 (fun e W H o h=>⟨h.1,hC.s3 _ _ _ _ h.2⟩) (fun e W H c o hc h=>⟨h.1,hC.s4 _ _ _ _ _ hc h.2⟩) hC.cap
      h0 ?_ ?_ ?_ ?_
     ·rintro vs Ia
      obtain ⟨k,_,rfl⟩:=List.mem_map.1 Ia
      exact hlen k
     ·intro i W H1 vs Ia hi hW iX
      rw [List.getElem?_map] at Ia
      obtain ⟨k,hk,rfl⟩:=Option.map_eq_some_iff.1 Ia
      refine (ih (hb i W H1 k hk hi hW iX)).mono ?_
      rintro e s ⟨T3,Yz,Su⟩
      cases e with
      | exit id=>exact Su.elim
      | goto l=>exact Su.elim
      | ret=>exact Su.elim
      | normal =>
       obtain ⟨⟨k1,k2⟩,k3⟩:=Su
       refine ⟨k1,k2,fun H4 ZW=>bC.weaken Yz ((ih (k3 H4 ZW)).mono ?_)⟩
       rintro e s2 ⟨T5,hw5,⟨k4,k5⟩,k6⟩
       refine ⟨k4,k5,fun H6 ZV=>?_⟩
       have:=k6 H6 ZV
       cases e with
       | normal=>exact this
       | exit id=>exact cP this
       | goto l=>exact cP this
       | ret=>exact cP this
     ·intro W H1 hi H6 h6 hd
      rw [List.length_map] at hi
      exact ⟨T,Wk.refl T,ha W H1 H6 hi h6 hd⟩
     ·rintro e W H1 ⟨Y3,eF⟩ H6 h6 hd
      have kS : ∀ {l:List dm},zZ e l=true→e ∈ l:=by
       intro l
       induction l with
       | nil=>intro h;cases h
       | cons b l ih =>
        intro h
        simp only [zZ] at h
        cases hb:Lm e b with
        | true=>exact List.mem_cons.2 (.inl (FD hb))
        | false=>rw [hb] at h;exact List.mem_cons_of_mem _ (ih h)
      exact ⟨T,Wk.refl T,uC hs e (kS Y3) W H1 H6 eF h6 hd⟩
 | region id ops draw =>
  refine GD (aT:=aT) hm ?_
  cases draw with
  | false=>exact h
  | true=>exact h
theorem ck (hm:P.follows .mixedOrders=true) {f:FuncId} {args:List AV} {H:AH} {Q:AV→AH→Prop} (h:oh (real P) (Iter P) P aT dY f args H Q):bH P f args H Q:=by
 unfold oh at h
 split at h
 ·rename_i fn hf
  split at h
  ·rename_i c hb
   refine bH.body hf hb ?_
   intro E B w a rc hs hr
   refine Go.wpIn_mono (M5 hm h E B w a rc hs hr) ?_
   rintro e a' w' ⟨ae,s',E',h1,⟨T',hw,hk⟩,h3,h4,h5⟩
   refine ⟨ae,⟨T',s'.M,s'.H⟩,E',h1,?_,h3,⟨h4.heap,aI.weaken hw h4.tmps,h4.marks⟩,h5⟩
   cases ae with
   | normal =>
    obtain ⟨H',h6,h7⟩:=mB (P:=P) (r:=none) (show lJ (real P none) s'.M s'.H (fun H'=>xm (real P none) P T' H' fn.results.toList fun vs=>Q (oneOf vs) H') from hk)
    obtain ⟨vs,h8,h9⟩:=mw h7
    exact ⟨.inl rfl,H',vs,h6,h8,h9⟩
   | ret =>
    obtain ⟨H',h6,h7⟩:=mB (P:=P) (r:=none) (show lJ (real P none) s'.M s'.H (fun H'=>xm (real P none) P T' H' fn.results.toList fun vs=>Q (oneOf vs) H') from hk)
    obtain ⟨vs,h8,h9⟩:=mw h7
    exact ⟨.inr rfl,H',vs,h6,h8,h9⟩
   | exit id=>exact hk.elim
   | goto l=>exact hk.elim
  ·exact h.elim
 ·exact h.elim
end
end Go.Am
end
/- Functions that read one block, and change nothing. -/
section
namespace Go.Am
open Go.RowKit
variable {P:Program}
theorem gR.oM {f:FuncId} {args:List AV} {R:AV→Prop} (h:bH P f args (aR P) fun v' _=>R v') (hg:qT P f=true) (ha:AV.dc args=true) (hv : ∀v,R v→v.bY=true):gR P f args R :=
 fun H=>.inl ⟨aB hg,bH.pure h ha hv H⟩
theorem gR.B6 (hm:P.follows .mixedOrders=true) {f:FuncId} {args:List AV} {R:AV→Prop} (aT:List dz) (dY:List mh) (hg:qT P f=true) (ha:AV.dc args=true) (hv : ∀v,R v→v.bY=true)
  (h:oh (real P) (Iter P) P aT dY f args (aR P) fun v' _=>R v'):gR P f args R:=.oM (ck hm h) hg ha hv
/-! ### Other numbers for the blocks -/
mutual
def AV.yQ (ρ:Nat→Nat):AV→AV
 | .ptr (some (b,o))=>.ptr (some (ρ b,o))
 | .slice (some (b,o)) l c=>.slice (some (ρ b,o)) l c
 | .cV b=>.cV (ρ b)
 | .func f x y=>.func f (AV.oD ρ x) (AV.oD ρ y)
 | .iface t v=>.iface t (AV.yQ ρ v)
 | .agg cs=>.agg (AV.oD ρ cs)
 | .tuple cs=>.tuple (AV.oD ρ cs)
 | .bool b=>.bool b
 | .int k n=>.int k n
 | .str s=>.str s
 | .ptr none=>.ptr none
 | .slice none l c=>.slice none l c
 | .nilFunc=>.nilFunc
 | .nilIface=>.nilIface
 | .map none=>.map none
 | .map (some b)=>.map (some (ρ b))
 | .half lo b=>.half lo b
 | .qz=>.qz
 | .any=>.any
def AV.oD (ρ:Nat→Nat):List AV→List AV
 | []=>[]
 | v :: l=>AV.yQ ρ v :: AV.oD ρ l
end
mutual
theorem VR.ot {E:Env} {ρ:Nat→Nat} : ∀ {v:AV} {x:Value},VR E (v.yQ ρ) x→VR (fun c=>E (ρ c)) v x
 | .bool _,_,h=>h
 | .int _ _,_,h=>h
 | .str _,_,h=>h
 | .ptr none,_,h=>h
 | .ptr (some (_,_)),_,h=>h
 | .slice none _ _,_,h=>h
 | .slice (some (_,_)) _ _,_,h=>h
 | .func f x y,_,h=>by
  obtain ⟨x',y',h1,h2,h3⟩:=h
  exact ⟨x',y',h1,aI.ot h2,aI.ot h3⟩
 | .nilFunc,_,h=>h
 | .cV _,_,h=>h
 | .iface t v,_,h=>by
  obtain ⟨y,h1,h2⟩:=h
  exact ⟨y,h1,VR.ot h2⟩
 | .nilIface,_,h=>h
 | .map none,_,h=>h
 | .map (some _),_,h=>h
 | .half _ _,_,h=>h
 | .qz,_,h=>h
 | .agg cs,_,h=>by
  obtain ⟨y,h1,h2⟩:=h
  exact ⟨y,h1,aI.ot h2⟩
 | .tuple cs,_,h=>by
  obtain ⟨y,h1,h2⟩:=h
  exact ⟨y,h1,aI.ot h2⟩
 | .any,_,h=>h
theorem aI.ot {E:Env} {ρ:Nat→Nat} : ∀ {vs:List AV} {xs:List Value},aI E (AV.oD ρ vs) xs→aI (fun c=>E (ρ c)) vs xs
 | [],_,h=>h
 | v :: vs,_,h=>by
  obtain ⟨y,ys,h1,h2,h3⟩:=h
  exact ⟨y,ys,h1,VR.ot h2,aI.ot h3⟩
end
mutual
theorem AV.zK {ρ:Nat→Nat} : ∀ {v:AV},v.bY=true→v.yQ ρ=v
 | .bool _,_=>by simp [AV.yQ]
 | .int _ _,_=>by simp [AV.yQ]
 | .str _,_=>by simp [AV.yQ]
 | .ptr none,_=>by simp [AV.yQ]
 | .ptr (some _),h=>by simp [AV.bY] at h
 | .slice none _ _,_=>by simp [AV.yQ]
 | .slice (some _) _ _,h=>by simp [AV.bY] at h
 | .func f x y,h=>by
  simp only [AV.bY,Bool.and_eq_true] at h
  simp only [AV.yQ];rw [AV.gW h.1,AV.gW h.2]
 | .nilFunc,_=>by simp [AV.yQ]
 | .cV _,h=>by simp [AV.bY] at h
 | .iface t v,h=>by simp only [AV.yQ];rw [AV.zK (by simpa [AV.bY] using h)]
 | .nilIface,_=>by simp [AV.yQ]
 | .map none,_=>by simp [AV.yQ]
 | .map (some _),h=>by simp [AV.bY] at h
 | .half _ _,h=>by simp [AV.bY] at h
 | .qz,h=>by simp [AV.bY] at h
 | .agg cs,h=>by simp only [AV.yQ];rw [AV.gW (by simpa [AV.bY] using h)]
 | .tuple cs,h=>by simp only [AV.yQ];rw [AV.gW (by simpa [AV.bY] using h)]
 | .any,h=>by simp [AV.bY] at h
theorem AV.gW {ρ:Nat→Nat} : ∀ {vs:List AV},AV.dc vs=true→AV.oD ρ vs=vs
 | [],_=>by simp [AV.oD]
 | v :: vs,h=>by
  simp only [AV.dc,Bool.and_eq_true] at h
  simp only [AV.oD];rw [AV.zK h.1,AV.gW h.2]
end
theorem AV.qF {ρ:Nat→Nat} : ∀ {vs:List AV},(AV.oD ρ vs).length=vs.length
 | []=>rfl
 | _ :: vs=>by simp [AV.oD,AV.qF (vs:=vs)]
theorem AV.J5 {ρ:Nat→Nat} {v:AV} (h:(v.yQ ρ).one=true):v.one=true:=by
 unfold AV.yQ at h
 split at h <;> first | rfl | exact h
theorem AV.zJ {ρ:Nat→Nat} : ∀ {vs:List AV},(∀v ∈ AV.oD ρ vs,v.one=true)→∀v ∈ vs,v.one=true
 | [],_,_,h=>by cases h
 | u :: vs,k,v,h=>by
  simp only [AV.oD,List.mem_cons,forall_eq_or_imp] at k
  rcases List.mem_cons.1 h with rfl | h
  ·exact AV.J5 k.1
  ·exact AV.zJ k.2 v h
def Jc (P:Program) (ρ:Nat→Nat) (H0 H:AH):Prop :=
 (∀c,c<P.globals.size→ρ c=c)∧(∀c,H0.n≤c→H.n≤ρ c) ∧
 ∀c o,H0.get c=some o→∃cs e fl,o=.cells cs e { own:=false,fT:=true }∧H.get (ρ c)=some (.cells (AV.oD ρ cs) e fl)
theorem HR.VI {E:Env} {B:eS} {H H0:AH} {w:World} {ρ:Nat→Nat} (h:HR P E B H w) (hs:Jc P ρ H0 H):HR P (fun c=>E (ρ c)) (eS.up w.heap.size) H0 w:=by
 obtain ⟨h1,h2,h3⟩:=hs
 refine ⟨fun c L hc=>?_,fun c o hc=>?_,fun _ h=>h,fun g hg=>?_,fun c c' o o' L L' cU ho Mq gN _ _ _=>?_⟩
 ·rcases Nat.lt_or_ge c H0.n with cv | KT
  ·exact cv
  ·exact absurd (h.yy _ _ hc) (Nat.not_lt.2 (h2 c KT))
 ·obtain ⟨cs,e,fl,rfl,hg⟩:=h3 c o hc
  obtain ⟨L,hL,X,lo,hi,k1,k2,k3,k4,k5,k6,k7,k8,k9⟩:=h.obj _ _ hg
  rw [AV.qF] at k2 k4 k5
  exact ⟨L,hL,X,lo,hi,k1,k2,k3,k4,aI.ot k5,fun h=>(by cases h),fun h=>(by cases h),AV.zJ k8,fun h=>(by cases h)⟩
 ·rw [h1 g hg];exact h.jI g hg
 ·obtain ⟨cs,e,fl,rfl,_⟩:=h3 c o ho
  cases gN
end Go.Am
end

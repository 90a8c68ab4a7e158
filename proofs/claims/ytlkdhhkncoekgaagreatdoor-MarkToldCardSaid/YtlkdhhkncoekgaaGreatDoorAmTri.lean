/- What code asks: the conditions of operations, of statements, of functions, with labels, cuts and ranges over functions; that they are sound. -/
import Derived.Test.YtlkdhhkncoekgaaGreatDoorAmTwo
/- What an operation asks, reckoned without looking into numbers, texts, heaps. -/
section
namespace Go.Am
open Go.RowKit
structure aO where
 wrap:IntKind→Int→Int
 call:FuncId→List AV→AH→(AV→AH→Prop)→Prop
 cY:Nat→List AV→AH→(AV→AH→Prop)→Prop
 cfn:AV→List AV→AH→(AV→AH→Prop)→Prop
 n:AH→Nat
 get:AH→Nat→Option aY
 set:AH→Nat→aY→AH
 al:AH→aY→AH
 aM:AH→Nat→Nat→Option AV
 bC:AH→Nat→Nat→Nat→Option (List AV)
 wr:AH→Nat→Nat→List AV→Option AH
 app:TypeId→TypeId→AV→AV→AH→Option (AV×AH)
 V2:TypeId→AV→AV→AH→Option (AV×AH)
 Px:TypeId→Int→Int→AH→Option (AV×AH)
 Hp:TypeId→AV→Option AV→Option AV→Option AV→AH→Option AV
 str:AV→AH→Option (List UInt8)
 bs:TypeId→TypeId→List UInt8→AH→Option (AV×AH)
 idx:TypeId→AV→AV→Option AV
 Gn:TypeId→AV→AH→Option AV
 NL:TypeId→AV→AV→AH→Option (AV×AH)
 tm:List Mk→AH→Option AH
 Sp:TypeId→TypeId→AV→AH→Option (AV×AH)
inductive S1 where
 | bool | int (k:IntKind) | str | ptr | slice | other | cY
section
variable (P:Program)
def NY (t:TypeId):S1 :=
 match P.underlying t with
 | some .bool=>.bool
 | some (.int k)=>.int k
 | some .string=>.str
 | some (.pointer _)=>.ptr
 | some .unsafePointer=>.ptr
 | some (.slice _)=>.slice
 | _=>.other
def Y0 (t:TypeId):S1 :=
 match P.underlying t with
 | some (.func ..)=>.cY
 | _=>NY P t
def Qm (l:List S1):Nat→List S1
 | 0=>[]
 | n+1=>l ++ Qm l n
def zv:Nat→TypeId→List S1
 | 0,_=>[]
 | d+1,t =>
  match P.underlying t with
  | some (.struct fs)=>fs.toList.foldr (fun f l=>zv d f.type ++ l) []
  | some (.array n e)=>Qm (zv d e) n
  | _=>[NY P t]
end
def Ga (s:S1) (k:AV→Prop):Prop :=
 match s with
 | .bool=>∃b,k (.bool b)
 | .int kd=>∃n,k (.int kd n)
 | .str=>∃s,k (.str s)
 | .ptr=>(∃b o,k (.ptr (some (b,o))))∨k (.ptr none)
 | .slice=>∃a l c,k (.slice a l c)
 | .other=>∃v,k v
 | .cY=>∃b,k (.cY b)
def td:List S1→(List AV→Prop)→Prop
 | [],k=>k []
 | s :: l,k=>Ga s fun v=>td l fun vs=>k (v :: vs)
theorem pU {s:S1} {k:AV→Prop} (h:Ga s k) : ∃v,k v:=by
 cases s <;> simp only [Ga] at h
 ·obtain ⟨b,h⟩:=h;exact ⟨_,h⟩
 ·obtain ⟨b,h⟩:=h;exact ⟨_,h⟩
 ·obtain ⟨b,h⟩:=h;exact ⟨_,h⟩
 ·rcases h with ⟨b,o,h⟩ | h
  ·exact ⟨_,h⟩
  ·exact ⟨_,h⟩
 ·obtain ⟨b,o,c,h⟩:=h;exact ⟨_,h⟩
 ·exact h
 ·obtain ⟨b,h⟩:=h;exact ⟨_,h⟩
theorem mC : ∀ {l:List S1} {k:List AV→Prop},td l k→∃vs,k vs
 | [],_,h=>⟨_,h⟩
 | s :: l,k,h=>by
  obtain ⟨v,h⟩:=pU h
  obtain ⟨vs,h⟩:=mC h
  exact ⟨_,h⟩
def imp (φ:Option Bool) (p:Prop):Prop :=
 match φ with
 | none=>p
 | some b=>b=true→p
theorem dh {φ:Option Bool} {p:Prop} (h:imp φ p) (hφ:φ.getD true=true):p:=by
 cases φ with
 | none=>exact h
 | some b=>exact h hφ
def vK (v:Option AV) (k:AV→Prop):Prop :=
 match v with
 | some v=>k v
 | none=>False
theorem aW {v:Option AV} {k:AV→Prop} (h:vK v k) : ∃x,v=some x∧k x:=by
 cases v with
 | none=>exact h.elim
 | some v=>exact ⟨v,rfl,h⟩
def Sl (P:Program) (t:TypeId) (k:AV→Prop):Prop :=
 match Gx P t with
 | some true=>td (zv P 12 t) fun cs=>k (.agg cs)
 | some false=>Ga (NY P t) k
 | none=>False
theorem zf {P:Program} {t:TypeId} {k:AV→Prop} (h:Sl P t k) : ∃v,k v:=by
 unfold Sl at h
 split at h
 ·obtain ⟨cs,h⟩:=mC h;exact ⟨_,h⟩
 ·exact pU h
 ·exact h.elim
section eq
variable (P:Program)
def ko (eq:TypeId→AV→AV→Option Bool) (xs ys:List AV):List Field→Option Bool
 | []=>some true
 | f :: fs =>
  if f.name ≠ "_" then
   (lq P f.type xs f.offset).bind fun a=>(lq P f.type ys f.offset).bind fun b=>(eq f.type a b).bind fun r=>(ko eq xs ys fs).map fun q=>r && q
  else ko eq xs ys fs
theorem kW {eq eq' : TypeId→AV→AV→Option Bool} (he : ∀t a b r,eq t a b=some r→eq' t a b=some r) {xs ys:List AV} : ∀ {fs:List Field} {r:Bool},ko P eq xs ys fs=some r→eqFields P eq' xs ys fs=some r
 | [],_,h=>h
 | f :: fs,r,h=>by
  simp only [ko] at h
  simp only [eqFields]
  split at h
  ·rename_i hn
   rw [if_pos hn]
   obtain ⟨a,ha,h⟩:=Option.bind_eq_some_iff.1 h
   obtain ⟨b,hb,h⟩:=Option.bind_eq_some_iff.1 h
   obtain ⟨u,hu,h⟩:=Option.bind_eq_some_iff.1 h
   obtain ⟨q,hq,rfl⟩:=Option.map_eq_some_iff.1 h
   rw [ha,Option.bind_some,hb,Option.bind_some,he _ _ _ _ hu,Option.bind_some]
   cases u with
   | true=>simpa using kW he hq
   | false=>rfl
  ·rename_i hn
   rw [if_neg hn]
   exact kW he h
def pV (eq:TypeId→AV→AV→Option Bool) (elem:TypeId) (xs ys:List AV) (sz:Nat):Nat→Nat→Option Bool
 | _,0=>some true
 | i,n+1 =>
  (lq P elem xs (i*sz)).bind fun a=>(lq P elem ys (i*sz)).bind fun b=>(eq elem a b).bind fun r=>(pV eq elem xs ys sz (i+1) n).map fun q=>r && q
theorem rY {eq eq' : TypeId→AV→AV→Option Bool} (he : ∀t a b r,eq t a b=some r→eq' t a b=some r) {elem:TypeId} {xs ys:List AV} {sz:Nat} : ∀ {n i:Nat} {r:Bool},pV P eq elem xs ys sz i n=some r→kX P eq' elem xs ys sz i n=some r
 | 0,_,_,h=>h
 | n+1,i,r,h=>by
  simp only [pV] at h
  simp only [kX]
  obtain ⟨a,ha,h⟩:=Option.bind_eq_some_iff.1 h
  obtain ⟨b,hb,h⟩:=Option.bind_eq_some_iff.1 h
  obtain ⟨u,hu,h⟩:=Option.bind_eq_some_iff.1 h
  obtain ⟨q,hq,rfl⟩:=Option.map_eq_some_iff.1 h
  rw [ha,Option.bind_some,hb,Option.bind_some,he _ _ _ _ hu,Option.bind_some]
  cases u with
  | true=>simpa using rY he hq
  | false=>rfl
def PY:Nat→TypeId→AV→AV→Option Bool
 | 0,_,_,_=>none
 | d+1,t,x,y =>
  match P.underlying t,x,y with
  | some .bool,.bool a,.bool b=>some (a == b)
  | some (.int _),.int k a,.int k' b=>if k=k' then some (a == b) else none
  | some .string,.str a,.str b=>some (a == b)
  | some (.struct fs),.agg xs,.agg ys=>if P.stoodInHeld t then none else ko P (PY d) xs ys fs.toList
  | some (.array len e),.agg xs,.agg ys=>match bY P e with
   | some s=>pV P (PY d) e xs ys s 0 len
   | none=>none
  | _,x,y=>lF P (d+1) t x y
theorem zh : ∀ {d:Nat} {t:TypeId} {x y:AV} {r:Bool},PY P d t x y=some r→lF P d t x y=some r
 | 0,_,_,_,_,h=>by cases h
 | d+1,t,x,y,r,h=>by
  unfold PY at h
  split at h
  ·rename_i hu;simp only [lF,hu];exact h
  ·rename_i hu;simp only [lF,hu];exact h
  ·rename_i hu;simp only [lF,hu];exact h
  ·rename_i hu
   simp only [lF,hu]
   split at h
   ·cases h
   ·rename_i hn
    rw [if_neg hn]
    exact kW P (fun t a b r h=>zh h) h
  ·rename_i hu
   simp only [lF,hu]
   split at h
   ·rename_i hs
    rw [hs]
    exact rY P (fun t a b r h=>zh h) h
   ·cases h
  ·exact h
end eq
section
variable (X:aO) (P:Program)
def Lt (φ:Option Bool) (op:BinOp) (k:IntKind) (a b:Int) (K:AV→Prop):Prop :=
 match op with
 | .add=>K (.int k (X.wrap k (a+b)))
 | .sub=>K (.int k (X.wrap k (a - b)))
 | .mul=>K (.int k (X.wrap k (a*b)))
 | .quo=>imp φ (b ≠ 0)∧K (.int k (X.wrap k (a.tdiv b)))
 | .rem=>imp φ (b ≠ 0)∧K (.int k (a.tmod b))
 | .and=>K (.int k (X.wrap k (BitVec.ofInt k.bits a &&& BitVec.ofInt k.bits b).toNat))
 | .or=>K (.int k (X.wrap k (BitVec.ofInt k.bits a ||| BitVec.ofInt k.bits b).toNat))
 | .xor=>K (.int k (X.wrap k (BitVec.ofInt k.bits a ^^^ BitVec.ofInt k.bits b).toNat))
 | .andNot=>K (.int k (X.wrap k (BitVec.ofInt k.bits a &&& ~~~BitVec.ofInt k.bits b).toNat))
 | .eql=>K (.bool (a == b))
 | .neq=>K (.bool (a != b))
 | .lss=>K (.bool (decide (a<b)))
 | .leq=>K (.bool (decide (a≤b)))
 | .gtr=>K (.bool (decide (a > b)))
 | .geq=>K (.bool (decide (a≥b)))
 | _=>False
def Kx (φ:Option Bool) (op:BinOp) (a b:List UInt8) (K:AV→Prop):Prop :=
 match op with
 | .add=>imp φ (((a.length+b.length:Nat):Int)≤9223372036854775807)∧K (.str (a ++ b))
 | .eql=>K (.bool (a == b))
 | .neq=>K (.bool (!(a == b)))
 | .lss=>K (.bool (eE a b))
 | .leq=>K (.bool (eE a b || a == b))
 | .gtr=>K (.bool (!(eE a b || a == b)))
 | .geq=>K (.bool (!eE a b))
 | _=>False
def Ph (φ:Option Bool) (op:BinOp) (t:TypeId) (xo yo:Operand) (x y:AV) (K:AV→Prop):Prop :=
 match op,x,y with
 | .shl,.int k a,.int _ b=>imp φ (0≤b)∧K (.int k (X.wrap k (a*2 ^ min b.toNat k.bits)))
 | .shr,.int k a,.int _ b=>imp φ (0≤b)∧K (.int k (a.fdiv (2 ^ min b.toNat k.bits)))
 | op,.int k a,.int k' b=>if k=k' then Lt X φ op k a b K else False
 | op,.str a,.str b=>Kx φ op a b K
 | .eql,.ptr a,.ptr b=>∃r,imp φ (lF P 8 t (.ptr a) (.ptr b)=some r)∧K (.bool r)
 | .neq,.ptr a,.ptr b=>∃r,imp φ (lF P 8 t (.ptr a) (.ptr b)=some r)∧K (.bool (!r))
 | .eql,x,y=>bif cD P t xo yo x y then vK ((PY P 8 t x y).map .bool) K else False
 | .neq,x,y=>bif cD P t xo yo x y then vK ((PY P 8 t x y).map fun r=>.bool (!r)) K else False
 | _,_,_=>False
def T7 (op:UnOp) (x:AV) (K:AV→Prop):Prop :=
 match op,x with
 | .neg,.int k n=>K (.int k (X.wrap k (0 - n)))
 | .xor,.int k n=>K (.int k (X.wrap k (BitVec.ofInt k.bits (if k.signed then -1 else k.max) ^^^ BitVec.ofInt k.bits n).toNat))
 | .not,.bool b=>K (.bool !b)
 | _,_=>False
def zw (d:Int) (v:Option AV) (k:Int→Prop):Prop :=
 match v with
 | none=>k d
 | some (.int _ i)=>k i
 | some _=>False
def B8 (φ:Option Bool) (H:AH) (t:TypeId) (x:AV) (lo hi mx:Option AV) (K:AV→Prop):Prop :=
 match P.underlying t,x with
 | some .string,.str s =>
  match mx with
  | some _=>False
  | none=>zw 0 lo fun l=>zw s.length hi fun h=>imp φ (0≤l∧l≤h∧h≤s.length)∧K (.str ((s.drop l.toNat).take (h - l).toNat))
 | _,_=>∃a l c,imp φ (X.Hp t x lo hi mx H=some (.slice a l c))∧K (.slice a l c)
def Ju (φ:Option Bool) (H:AH) (src dst:TypeId) (x:AV) (K:AV→AH→Prop):Prop :=
 match P.underlying src,P.underlying dst,x with
 | some _,some (.int k),.int _ n=>K (.int k (X.wrap k n)) H
 | some _,some .string,.int _ n=>K (.str (cE n)) H
 | some _,some .string,.str s=>K (.str s) H
 | some _,some (.slice _),.str s=>match φ with
  | none=>∃a l c H',X.bs src dst s H=some (.slice a l c,H')∧K (.slice a l c) H'
  | some _=>False
 | some (.slice e),some .string,.slice a l c =>
  match P.underlying e with
  | some (.int .u8)=>∃s,imp φ (X.str (.slice a l c) H=some s)∧K (.str s) H
  | _=>False
 | some (.slice _),some (.slice _),.slice a l c=>match φ with
  | none=>∃H',X.Sp src dst (.slice a l c) H=some (.slice a l c,H')∧K (.slice a l c) H'
  | some _=>False
 | some (.pointer _),some .unsafePointer,.ptr (some a)=>match φ with
  | none=>X.Sp src dst (.ptr (some a)) H=some (.ptr (some a),H)∧K (.ptr (some a)) H
  | some _=>False
 | some .unsafePointer,some (.pointer _),.ptr (some a)=>match φ with
  | none=>X.Sp src dst (.ptr (some a)) H=some (.ptr (some a),H)∧K (.ptr (some a)) H
  | some _=>False
 | _,_,_=>False
def Of (t:TypeId) (x:AV) (K:AV→Prop):Prop :=
 match P.underlying t,x with
 | some .string,.str s=>K (.int .i64 s.length)
 | some (.slice _),.slice _ n _=>K (.int .i64 n)
 | some (.array n _),_=>K (.int .i64 n)
 | some (.pointer a),_=>match P.underlying a with
  | some (.array n _)=>K (.int .i64 n)
  | _=>False
 | _,_=>False
def AT (φ:Option Bool) (H:AH) (t:TypeId) (a:AV) (K:AV→Prop):Prop :=
 match a with
 | .ptr (some (b,o)) =>
  match Gx P t with
  | some true=>match bY P t with
   | some s=>td (zv P 12 t) fun cs=>imp φ (X.bC H b o s=some cs)∧K (.agg cs)
   | none=>False
  | some false=>Ga (Y0 P t) fun v=>imp φ (X.aM H b o=some v)∧K v
  | none=>False
 | _=>False
def ow (φ:Option Bool) (t:TypeId) (x ix:AV) (K:AV→Prop):Prop :=
 match P.underlying t,x,ix with
 | some (.slice e),.slice a len _,.int _ i=>match bY P e with
  | some s=>∃b o,imp φ (a=some (b,o)∧0≤i∧i<len)∧K (.ptr (some (b,o+i.toNat*s)))
  | none=>False
 | some (.array len e),.ptr (some (b,o)),.int _ i=>match bY P e with
  | some s=>imp φ (0≤i∧i<len)∧K (.ptr (some (b,o+i.toNat*s)))
  | none=>False
 | _,_,_=>False
def CY (φ:Option Bool) (ty t:TypeId) (x ix:AV) (K:AV→Prop):Prop :=
 match P.underlying t,x,ix with
 | some .string,.str s,.int _ i=>imp φ (0≤i∧i<s.length)∧K (.int .u8 ((s[i.toNat]?).getD 0).toNat)
 | _,x,ix=>Sl P ty fun v=>imp φ (X.idx t x ix=some v)∧K v
def Le (K:AV→Prop):AV→List AV→Prop
 | .int k x,[]=>K (.int k x)
 | .int k x,.int _ y :: l=>Le K (.int k (if y<x then y else x)) l
 | _,_=>False
def Lf (K:AV→Prop):AV→List AV→Prop
 | .int k x,[]=>K (.int k x)
 | .int k x,.int _ y :: l=>Lf K (.int k (if y > x then y else x)) l
 | _,_=>False
def Gb (e:Operand→Option AV):List Operand→(List AV→Prop)→Prop
 | [],k=>k []
 | x :: l,k=>vK (e x) fun v=>Gb e l fun vs=>k (v :: vs)
def vf (φ:Option Bool) (H:AH) (b:Builtin) (ts:List TypeId) (xs:List AV) (K:AV→AH→Prop):Prop :=
 match b,ts,xs with
 | .len,t :: _,x :: _=>Of P t x fun v=>K v H
 | .cap,t :: _,x :: _=>Ga (.int .i64) fun v=>imp φ (X.Gn t x H=some v)∧K v H
 | .min,_,x :: l=>Le (fun v=>K v H) x l
 | .max,_,x :: l=>Lf (fun v=>K v H) x l
 | .append,t :: u :: _,x :: y :: _=>match φ with
  | none=>∃a l c H',X.app t u x y H=some (.slice a l c,H')∧K (.slice a l c) H'
  | some _=>False
 | .copy,t :: _,x :: y :: _=>match φ with
  | none=>∃n H',X.V2 t x y H=some (.int .i64 n,H')∧K (.int .i64 n) H'
  | some _=>False
 | .unsafeSliceData,_,[.slice a _ c]=>∃q,imp φ (c ≠ 0∧a=some q)∧K (.ptr (some q)) H
 | .unsafeString,t :: _,[p,n]=>match φ with
  | none=>∃s H',X.NL t p n H=some (.str s,H')∧K (.str s) H'
  | some _=>False
 | _,_,_=>False
def MI (φ:Option Bool) (e:Operand→Option AV) (H:AH) (op:Op) (ty:TypeId) (K:AV→AH→Prop):Prop :=
 match op with
 | .move x=>vK (e x) fun v=>K v H
 | .assign x=>vK (e x) fun v=>K v H
 | .pick c a b=>vK (e c) fun c'=>match c' with
  | .bool u=>cond u (vK (e a) fun v=>K v H) (vK (e b) fun v=>K v H)
  | _=>False
 | .alloc t=>match φ,zeroOf P t with
  | none,some z=>bif z.cells.all AV.one then K (.ptr (some (X.n H,0))) (X.al H (.cells z.cells t { whole:=true })) else False
  | _,_=>False
 | .box t x=>match φ with
  | none=>vK (e x) fun v=>v.cells.all AV.one=true∧K (.ptr (some (X.n H,0))) (X.al H (.cells v.cells t { whole:=true }))
  | some _=>False
 | .build t ps=>match Dk e ps.toList with
  | some l=>vK (vg P t l) fun v=>K v H
  | none=>False
 | .buildSlice t n ps=>match φ,Dk e ps.toList,P.underlying t with
  | none,some l,some (.slice el)=>match bY P el,zeroOf P el with
   | some s,some z =>
    match mB (fun i=>some (i*s,s)) (cJ z.cells n) l with
    | some cs=>(n*s≤2 ^ 24∧z.cells.length=s∧0<s∧z.cells.all AV.one=true∧l.all (fun p=>p.2.cells.all AV.one)=true)∧K (.slice (some (X.n H,0)) n n) (X.al H (.cells cs el { whole:=true }))
    | none=>False
   | _,_=>False
  | _,_,_=>False
 | .load t a=>vK (e a) fun a=>AT X P φ H t a fun v=>K v H
 | .store t a v=>match φ with
  | none=>vK (e a) fun a=>vK (e v) fun v=>match a,bY P t with
   | .ptr (some (b,o)),some s=>v.cells.length=s∧∃H',X.wr H b o v.cells=some H'∧K .undef H'
   | _,_=>False
  | some _=>False
 | .nilCheck x=>vK (e x) fun v=>match v with
  | .ptr (some _)=>K v H
  | .func (.func _) _ _=>K v H
  | .cY _=>K v H
  | _=>False
 | .binOp op t x y _=>vK (e x) fun a=>vK (e y) fun b=>Ph X P φ op t x y a b fun v=>K v H
 | .unOp op _ x=>vK (e x) fun a=>T7 X op a fun v=>K v H
 | .convert s d x=>vK (e x) fun a=>Ju X P φ H s d a K
 | .makeInterface t x=>vK (e x) fun a=>match P.underlying t with
  | some (.interface _)=>False
  | some _=>K (.iface t a) H
  | none=>False
 | .makeFunc f xs ys=>Gb e xs.toList fun a=>Gb e ys.toList fun b=>K (.func f a b) H
 | .makeSlice t l c=>match φ with
  | none=>vK (e l) fun l=>vK (e c) fun c=>match l,c with
   | .int .i64 l,.int .i64 c=>∃a n m H',X.Px t l c H=some (.slice a n m,H')∧K (.slice a n m) H'
   | _,_=>False
  | some _=>False
 | .slice t x lo hi mx=>vK (e x) fun a=>match Dm e lo,Dm e hi,Dm e mx with
  | some lo,some hi,some mx=>B8 X P φ H t a lo hi mx fun v=>K v H
  | _,_,_=>False
 | .fieldAddr t x f=>vK (e x) fun a=>vK (iV P t a f) fun v=>K v H
 | .field t x f=>vK (e x) fun a=>vK (uR P t a f) fun v=>K v H
 | .indexAddr t x i=>vK (e x) fun a=>vK (e i) fun i=>ow P φ t a i fun v=>K v H
 | .index t x i=>vK (e x) fun a=>vK (e i) fun i=>CY X P φ ty t a i fun v=>K v H
 | .range t x=>match φ with
  | none=>vK (e x) fun a=>match P.underlying t,a with
   | some .string,.str s=>K (.ptr (some (X.n H,0))) (X.al H (.iter s 0))
   | _,_=>False
  | some _=>False
 | .next x true=>match φ with
  | none=>vK (e x) fun a=>match a with
   | .ptr (some (b,0))=>∃s pos,X.get H b=some (.iter s pos) ∧
     (pos<s.length→K (.tuple [.bool true,.int .i64 pos,.int .i32 (ah s pos).1]) (X.set H b (.iter s (pos+(ah s pos).2)))) ∧
     (¬ pos<s.length→K (.tuple [.bool false]) H)
   | _=>False
  | some _=>False
 | .extract x i=>vK (e x) fun a=>match a with
  | .tuple vs=>vK vs[i]? fun v=>K v H
  | _=>False
 | .call ⟨.builtin b,args,ts⟩=>Gb e args.toList fun l=>vf X P φ H b ts.toList l K
 | _=>False
end
theorem mE {e:Operand→Option AV} : ∀ {l:List Operand} {k:List AV→Prop},Gb e l k→∃vs,qM e l=some vs∧k vs
 | [],_,h=>⟨_,rfl,h⟩
 | x :: l,k,h=>by
  obtain ⟨v,hv,h⟩:=aW h
  obtain ⟨vs,IU,h⟩:=mE h
  exact ⟨v :: vs,by simp [qM,hv,IU],h⟩
end Go.Am
end
/- What an operation asks: it is enough. -/
section
namespace Go.Am
open Go.RowKit
def vq (P:Program) (r:Option Nat) (fv:AV) (vs:List AV) (H:AH) (K:AV→AH→Prop):Prop :=
 ∀(dst:Option Tmp) (f:Operand) (xs:Array Operand) (ts:Array TypeId) (ty:TypeId) (pos:String) (after:Array Edge) (guard:Option (Nat×Bool)) (T:List AV),
  ev P T f=some fv→qd P T xs.toList=some vs→jT P r ⟨dst,.call { callee:=.value f,args:=xs,argTypes:=ts },ty,pos,after,guard⟩ T H K
def nr (H:AH):AV→Option (List UInt8)
 | .slice none _ _=>some []
 | .slice (some (b,o)) len _=>(H.read b o len).bind cz
 | _=>none
def real (P:Program) (r:Option Nat):aO where
 wrap:=IntKind.wrap
 call:=aD P
 cY:=fun b=>vq P r (.cY b)
 cfn:=vq P r
 n:=AH.n
 get:=AH.get
 set:=AH.set
 al:=AH.alloc
 aM:=AH.ak
 bC:=AH.read
 wr:=AH.write
 app:=fun t u x y H=>bV P H t u x y
 V2:=fun t x y H=>copyV P H t x y
 Px:=fun t l c H=>cP P H t (.int .i64 l) (.int .i64 c)
 Hp:=fun t x lo hi mx H=>bZ P H t x lo hi mx
 str:=fun v H=>nr H v
 bs:=fun s d x H=>gR P H s d (.str x)
 idx:=mq P
 Gn:=fun t x H=>JD P H t x
 NL:=fun t p n H=>eN P H t p n
 tm:=bR
 Sp:=fun s d x H=>gR P H s d x
section
variable {P:Program} {r:Option Nat} {φ:Option Bool} {H:AH}
def Comes (φ:Option Bool) (x:Option AV) (K:AV→Prop):Prop:=∃v,(φ.getD true=true→x=some v)∧K v
theorem Comes.same {x y:Option AV} {K:AV→Prop} (h:Comes φ x K) (e:φ.getD true=true→x=y):Comes φ y K:=by
 obtain ⟨v,h1,h2⟩:=h
 exact ⟨v,fun hp=>by rw [← e hp];exact h1 hp,h2⟩
theorem Ls {op:BinOp} {k:IntKind} {a b:Int} {K:AV→Prop} (h:Lt (real P r) φ op k a b K):Comes φ (kT op k a b) K:=by
 cases op <;> simp only [Lt] at h
 case quo=>exact ⟨_,fun hp=>by simp only [kT];rw [if_neg (dh h.1 hp)];rfl,h.2⟩
 case rem=>exact ⟨_,fun hp=>by simp only [kT];rw [if_neg (dh h.1 hp)],h.2⟩
 all_goals exact ⟨_,fun _=>rfl,h⟩
theorem Kw {op:BinOp} {a b:List UInt8} {K:AV→Prop} (h:Kx φ op a b K):Comes φ (tD op a b) K:=by
 cases op <;> simp only [Kx] at h
 case add=>exact ⟨_,fun hp=>by simp only [tD];rw [if_neg (by have:=dh h.1 hp;show ¬ (_ > (9223372036854775807:Int));omega)],h.2⟩
 all_goals exact ⟨_,fun _=>rfl,h⟩
theorem cV {b:Bool} {p:Prop} (h:bif b then p else False):b=true∧p:=by
 cases b with
 | true=>exact ⟨rfl,h⟩
 | false=>exact h.elim
theorem Mn {op:BinOp} {t:TypeId} {xo yo:Operand} {x y:AV} {K:AV→Prop} (h:Ph (real P r) P φ op t xo yo x y K):Comes φ (sJ P op t xo yo x y) K:=by
 unfold Ph at h
 split at h
 ·rename_i k a kb b
  refine ⟨_,fun hp=>?_,h.2⟩
  have:=dh h.1 hp
  simp only [sJ];rw [if_neg (by omega)];rfl
 ·rename_i k a kb b
  refine ⟨_,fun hp=>?_,h.2⟩
  have:=dh h.1 hp
  simp only [sJ];rw [if_neg (by omega)]
 ·rename_i op k a kb b LI GN
  split at h
  ·rename_i hk
   refine (Ls h).same fun _=>?_
   subst hk
   cases op <;> first | (simp only [sJ,if_true];done) | (simp only [kT] at *;simp_all [Lt])
  ·exact h.elim
 ·rename_i a b
  refine (Kw h).same fun _=>?_
  cases op <;> first | rfl | (simp only [Kx] at h)
 ·obtain ⟨r,h1,h2⟩:=h
  refine ⟨_,fun hp=>?_,h2⟩
  have:=dh h1 hp
  show (lF P 8 t _ _).map AV.bool=_
  rw [this];rfl
 ·obtain ⟨r,h1,h2⟩:=h
  refine ⟨_,fun hp=>?_,h2⟩
  have:=dh h1 hp
  show (lF P 8 t _ _).map (fun r=>AV.bool (!r))=_
  rw [this];rfl
 ·rename_i LI GN _
  obtain ⟨h1,h2⟩:=cV h
  obtain ⟨v,hv,hk⟩:=aW h2
  obtain ⟨q,hq,rfl⟩:=Option.map_eq_some_iff.1 hv
  refine ⟨_,fun _=>?_,hk⟩
  have:sJ P .eql t xo yo x y=if cD P t xo yo x y then (lF P 8 t x y).map .bool else none:=by
   unfold sJ
   cases x <;> cases y <;> first | rfl | exact (LI _ _ _ _ rfl rfl).elim | exact (GN _ _ rfl rfl).elim
  rw [this,if_pos h1,zh _ hq];rfl
 ·rename_i LI GN _
  obtain ⟨h1,h2⟩:=cV h
  obtain ⟨v,hv,hk⟩:=aW h2
  obtain ⟨q,hq,rfl⟩:=Option.map_eq_some_iff.1 hv
  refine ⟨_,fun _=>?_,hk⟩
  have:sJ P .neq t xo yo x y=if cD P t xo yo x y then (lF P 8 t x y).map (fun r=>.bool (!r)) else none:=by
   unfold sJ
   cases x <;> cases y <;> first | rfl | exact (LI _ _ _ _ rfl rfl).elim | exact (GN _ _ rfl rfl).elim
  rw [this,if_pos h1,zh _ hq];rfl
 ·exact h.elim
theorem NM {op:UnOp} {x:AV} {K:AV→Prop} (h:T7 (real P r) op x K):Comes φ (P7 op x) K:=by
 unfold T7 at h
 split at h
 ·exact ⟨_,fun _=>rfl,h⟩
 ·exact ⟨_,fun _=>rfl,h⟩
 ·exact ⟨_,fun _=>rfl,h⟩
 ·exact h.elim
theorem vi {d:Nat} {v:Option AV} {k:Int→Prop} (h:zw d v k) : ∃i,k i∧(0≤i→eS d v=some i.toNat):=by
 unfold zw at h
 split at h
 ·exact ⟨_,h,fun _=>by simp [eS]⟩
 ·exact ⟨_,h,fun h0=>by simp [eS,h0]⟩
 ·exact h.elim
theorem EU {t:TypeId} {x:AV} {lo hi mx:Option AV} {K:AV→Prop} (h:B8 (real P r) P φ H t x lo hi mx K):Comes φ (bZ P H t x lo hi mx) K:=by
 unfold B8 at h
 split at h
 ·rename_i s hu
  split at h
  ·exact h.elim
  ·obtain ⟨l,h,hl⟩:=vi (d:=0) h
   obtain ⟨u,h,hh⟩:=vi (d:=s.length) h
   refine ⟨_,fun hp=>?_,h.2⟩
   obtain ⟨g1,g2,g3⟩:=dh h.1 hp
   unfold bZ
   simp only [hu,Option.isSome_none,Bool.false_eq_true,if_false]
   rw [hl g1,Option.bind_some,hh (by omega),Option.bind_some,if_pos (by omega)]
   rw [show u.toNat - l.toNat=(u - l).toNat by omega]
 ·obtain ⟨a,l,c,h1,h2⟩:=h
  exact ⟨_,fun hp=>dh h1 hp,h2⟩
theorem Ll {t:TypeId} {x:AV} {K:AV→Prop} (h:Of P t x K):Comes φ (AU P t x) K:=by
 unfold Of at h
 split at h
 ·rename_i hu;exact ⟨_,fun _=>by simp only [AU,hu],h⟩
 ·rename_i hu;exact ⟨_,fun _=>by simp only [AU,hu],h⟩
 ·rename_i hu;exact ⟨_,fun _=>by simp only [AU,hu],h⟩
 ·rename_i hu
  split at h
  ·rename_i Ra;exact ⟨_,fun _=>by simp only [AU,hu,Ra],h⟩
  ·exact h.elim
 ·exact h.elim
theorem uj {t:TypeId} {a:AV} {K:AV→Prop} (h:AT (real P r) P φ H t a K):Comes φ (j7 P H t a) K:=by
 unfold AT at h
 split at h
 ·rename_i b o
  split at h
  ·rename_i ha
   split at h
   ·rename_i s hs
    obtain ⟨cs,h1,h2⟩:=mC h
    refine ⟨_,fun hp=>?_,h2⟩
    have:=dh h1 hp
    simp only [j7,ha,hs,Option.bind_some]
    rw [show AH.read H b o s=some cs from this];rfl
   ·exact h.elim
  ·rename_i ha
   obtain ⟨v,h1,h2⟩:=pU h
   refine ⟨_,fun hp=>?_,h2⟩
   have:=dh h1 hp
   simp only [j7,ha];exact this
  ·exact h.elim
 ·exact h.elim
theorem vM {t:TypeId} {x ix:AV} {K:AV→Prop} (h:ow P φ t x ix K):Comes φ (fh P t x ix) K:=by
 unfold ow at h
 split at h
 ·rename_i e a len c kd i hu
  split at h
  ·rename_i s hs
   obtain ⟨b,o,h1,h2⟩:=h
   refine ⟨_,fun hp=>?_,h2⟩
   obtain ⟨rfl,g1,g2⟩:=dh h1 hp
   simp only [fh,hu,hs];rw [if_pos ⟨g1,g2⟩]
  ·exact h.elim
 ·rename_i len e b o kd i hu
  split at h
  ·rename_i s hs
   refine ⟨_,fun hp=>?_,h.2⟩
   simp only [fh,hu,hs];rw [if_pos (dh h.1 hp)]
  ·exact h.elim
 ·exact h.elim
theorem FU {ty t:TypeId} {x ix:AV} {K:AV→Prop} (h:CY (real P r) P φ ty t x ix K):Comes φ (mq P t x ix) K:=by
 unfold CY at h
 split at h
 ·rename_i s kd i hu
  refine ⟨_,fun hp=>?_,h.2⟩
  obtain ⟨g1,g2⟩:=dh h.1 hp
  simp only [mq,hu]
  rw [if_pos g1]
  have:i.toNat<s.length:=by omega
  rw [List.getElem?_eq_getElem this]
  simp
 ·obtain ⟨v,h1,h2⟩:=zf h
  exact ⟨_,fun hp=>dh h1 hp,h2⟩
theorem D6 {K:AV→Prop} : ∀ {l:List AV} {x:AV},Le K x l→Comes φ (au (fun y x=>decide (y<x)) x l) K
 | [],.int k x,h=>⟨_,fun _=>rfl,h⟩
 | .int k' y :: l,.int k x,h=>by
  have:=D6 (l:=l) (x:=.int k (if y<x then y else x)) h
  refine this.same fun _=>?_
  simp only [au,decide_eq_true_eq]
 | .bool _ :: _,.int _ _,h | .str _ :: _,.int _ _,h | .ptr _ :: _,.int _ _,h | .slice _ _ _ :: _,.int _ _,h | .func _ _ _ :: _,.int _ _,h | .nilFunc :: _,.int _ _,h
 | .cY _ :: _,.int _ _,h | .iface _ _ :: _,.int _ _,h | .nilIface :: _,.int _ _,h | .agg _ :: _,.int _ _,h | .tuple _ :: _,.int _ _,h | .map _ :: _,.int _ _,h | .half _ _ :: _,.int _ _,h | .rm :: _,.int _ _,h | .any :: _,.int _ _,h=>h.elim
 | _,.bool _,h | _,.str _,h | _,.ptr _,h | _,.slice _ _ _,h | _,.func _ _ _,h | _,.nilFunc,h | _,.cY _,h | _,.iface _ _,h | _,.nilIface,h | _,.agg _,h | _,.tuple _,h | _,.map _,h | _,.half _ _,h | _,.rm,h | _,.any,h=>by
  simp [Le] at h
theorem D7 {K:AV→Prop} : ∀ {l:List AV} {x:AV},Lf K x l→Comes φ (au (fun y x=>decide (y > x)) x l) K
 | [],.int k x,h=>⟨_,fun _=>rfl,h⟩
 | .int k' y :: l,.int k x,h=>by
  have:=D7 (l:=l) (x:=.int k (if y > x then y else x)) h
  refine this.same fun _=>?_
  simp only [au,decide_eq_true_eq]
 | .bool _ :: _,.int _ _,h | .str _ :: _,.int _ _,h | .ptr _ :: _,.int _ _,h | .slice _ _ _ :: _,.int _ _,h | .func _ _ _ :: _,.int _ _,h | .nilFunc :: _,.int _ _,h
 | .cY _ :: _,.int _ _,h | .iface _ _ :: _,.int _ _,h | .nilIface :: _,.int _ _,h | .agg _ :: _,.int _ _,h | .tuple _ :: _,.int _ _,h | .map _ :: _,.int _ _,h | .half _ _ :: _,.int _ _,h | .rm :: _,.int _ _,h | .any :: _,.int _ _,h=>h.elim
 | _,.bool _,h | _,.str _,h | _,.ptr _,h | _,.slice _ _ _,h | _,.func _ _ _,h | _,.nilFunc,h | _,.cY _,h | _,.iface _ _,h | _,.nilIface,h | _,.agg _,h | _,.tuple _,h | _,.map _,h | _,.half _ _,h | _,.rm,h | _,.any,h=>by
  simp [Lf] at h
def bf (φ:Option Bool) (H:AH) (x:Option (AV×AH)) (K:AV→AH→Prop):Prop:=∃v H',(φ.getD true=true→x=some (v,H'))∧(φ ≠ none→H'=H)∧K v H'
theorem Comes.heap {x:Option AV} {K:AV→AH→Prop} (h:Comes φ x fun v=>K v H):bf φ H (x.map (·,H)) K:=by
 obtain ⟨v,h1,h2⟩:=h
 exact ⟨v,H,fun hp=>by rw [h1 hp];rfl,fun _=>rfl,h2⟩
theorem bf.none {x:Option (AV×AH)} {K:AV→AH→Prop} {v:AV} {H' : AH} (h:x=some (v,H')) (k:K v H'):bf none H x K:=⟨v,H',fun _=>h,fun h=>absurd rfl h,k⟩
theorem bf.still {x:Option (AV×AH)} {K:AV→AH→Prop} {v:AV} (h:x=some (v,H)) (k:K v H):bf φ H x K:=⟨v,H,fun _=>h,fun _=>rfl,k⟩
theorem bf.same {x y:Option (AV×AH)} {K:AV→AH→Prop} (h:bf φ H x K) (e:φ.getD true=true→x=y):bf φ H y K:=by
 obtain ⟨v,H',h1,h2,h3⟩:=h
 exact ⟨v,H',fun hp=>by rw [← e hp];exact h1 hp,h2,h3⟩
theorem Jt {s d:TypeId} {x:AV} {K:AV→AH→Prop} (h:Ju (real P r) P φ H s d x K):bf φ H (gR P H s d x) K:=by
 unfold Ju at h
 split at h
 ·rename_i hs hd;exact bf.still (by simp only [gR,hs,hd];rfl) h
 ·rename_i hs hd;exact bf.still (by simp only [gR,hs,hd]) h
 ·rename_i hs hd;exact bf.still (by simp only [gR,hs,hd]) h
 ·split at h
  ·obtain ⟨a,l,c,H',h1,h2⟩:=h
   exact bf.none h1 h2
  ·exact h.elim
 ·rename_i e a l c hs hd
  split at h
  ·rename_i he
   obtain ⟨s,h1,h2⟩:=h
   refine ⟨_,_,fun hp=>?_,fun _=>rfl,h2⟩
   have:=dh h1 hp
   cases a with
   | none =>
    simp only [real,nr,Option.some.injEq] at this
    subst this
    simp only [gR,hs,hd,he]
   | some q =>
    obtain ⟨b,o⟩:=q
    simp only [real,nr] at this
    obtain ⟨cs,hc,hb⟩:=Option.bind_eq_some_iff.1 this
    simp only [gR,hs,hd,he,hc,Option.bind_some,hb,Option.map_some]
  ·exact h.elim
 ·split at h
  ·obtain ⟨H',h1,h2⟩:=h
   exact bf.none h1 h2
  ·exact h.elim
 ·split at h
  ·exact bf.none h.1 h.2
  ·exact h.elim
 ·split at h
  ·exact bf.none h.1 h.2
  ·exact h.elim
 ·exact h.elim
theorem BB {b:Builtin} {ts:List TypeId} {xs:List AV} {K:AV→AH→Prop} (h:vf (real P r) P φ H b ts xs K):bf φ H (iX P H b ts xs) K:=by
 unfold vf at h
 split at h
 ·exact (Ll h).heap
 ·obtain ⟨v,h1,h2⟩:=pU h
  exact Comes.heap ⟨v,fun hp=>dh h1 hp,h2⟩
 ·exact (D6 h).heap
 ·exact (D7 h).heap
 ·split at h
  ·obtain ⟨a,l,c,H',h1,h2⟩:=h;exact bf.none h1 h2
  ·exact h.elim
 ·split at h
  ·obtain ⟨n,H',h1,h2⟩:=h;exact bf.none h1 h2
  ·exact h.elim
 ·rename_i ts a l c
  obtain ⟨q,h1,h2⟩:=h
  refine ⟨_,_,fun hp=>?_,fun _=>rfl,h2⟩
  obtain ⟨g1,rfl⟩:=dh h1 hp
  cases ts <;> simp [iX,g1]
 ·split at h
  ·obtain ⟨s,H',h1,h2⟩:=h;exact bf.none h1 h2
  ·exact h.elim
 ·exact h.elim
theorem CH {e:Operand→Option AV} {op:Op} {ty:TypeId} {K:AV→AH→Prop} (h:MI (real P r) P φ e H op ty K):bf φ H (lZ P e H op) K:=by
 unfold MI at h
 split at h
 ·obtain ⟨v,hv,h⟩:=aW h;exact bf.still (by simp [lZ,rL,hv]) h
 ·obtain ⟨v,hv,h⟩:=aW h;exact bf.still (by simp [lZ,rL,hv]) h
 ·obtain ⟨c',hc,h⟩:=aW h
  split at h
  ·rename_i u
   cases u with
   | true=>obtain ⟨v,hv,h⟩:=aW (show vK _ _ from h);exact bf.still (by simp [lZ,nJ,hc,hv]) h
   | false=>obtain ⟨v,hv,h⟩:=aW (show vK _ _ from h);exact bf.still (by simp [lZ,nJ,hc,hv]) h
  ·exact h.elim
 ·split at h
  ·rename_i z hz
   obtain ⟨h1,h2⟩:=cV h
   exact bf.none (by simp only [lZ,yK,hz,Option.bind_some];rw [if_pos h1];rfl) h2
  ·exact h.elim
 ·split at h
  ·obtain ⟨v,hv,h1,h2⟩:=aW h
   exact bf.none (by simp only [lZ,KZ,hv,Option.bind_some];rw [if_pos h1];rfl) h2
  ·exact h.elim
 ·split at h
  ·rename_i l hl
   obtain ⟨v,hv,h⟩:=aW h
   exact bf.still (by simp [lZ,ue,hl,hv]) h
  ·exact h.elim
 ·split at h
  ·rename_i l el hl hu
   split at h
   ·rename_i s z hs hz
    split at h
    ·rename_i cs hf
     exact bf.none (by simp only [lZ,gL,hl,Option.bind_some,gS,hu,hs,hz];rw [if_pos h.1,hf];rfl) h.2
    ·exact h.elim
   ·exact h.elim
  ·exact h.elim
 ·obtain ⟨a,ha,h⟩:=aW h
  exact (uj h).heap.same fun _=>by simp [lZ,DV,ha]
 ·split at h
  ·obtain ⟨a,ha,h⟩:=aW h
   obtain ⟨v,hv,h⟩:=aW h
   split at h
   ·rename_i b o s hs hold
    obtain ⟨h1,H',h2,h3⟩:=h
    exact bf.none (by simp only [lZ,yC,ha,hv,Option.bind_some,tE];rw [if_pos (by rw [hs,h1]),show AH.write H b o v.cells=some H' from h2];rfl) h3
   ·exact h.elim
  ·exact h.elim
 ·obtain ⟨v,hv,h⟩:=aW h
  split at h
  ·exact bf.still (by simp [lZ,FB,wI,hv]) h
  ·exact bf.still (by simp [lZ,FB,wI,hv]) h
  ·exact bf.still (by simp [lZ,FB,wI,hv]) h
  ·exact h.elim
 ·obtain ⟨a,ha,h⟩:=aW h
  obtain ⟨b,hb,h⟩:=aW h
  exact (Mn h).heap.same fun _=>by simp [lZ,K9,ha,hb]
 ·obtain ⟨a,ha,h⟩:=aW h
  exact (NM h).heap.same fun _=>by simp [lZ,S5,ha]
 ·obtain ⟨a,ha,h⟩:=aW h
  exact (Jt h).same fun _=>by simp [lZ,DW,ha]
 ·obtain ⟨a,ha,h⟩:=aW h
  split at h
  ·exact h.elim
  ·rename_i d IZ hu
   refine bf.still ?_ h
   simp only [lZ,yH,ha,Option.bind_some,hu]
  ·exact h.elim
 ·obtain ⟨a,ha,h⟩:=mE h
  obtain ⟨b,hb,h⟩:=mE h
  exact bf.still (by simp [lZ,AF,ha,hb]) h
 ·split at h
  ·obtain ⟨a,ha,h⟩:=aW h
   obtain ⟨b,hb,h⟩:=aW h
   split at h
   ·obtain ⟨q,n,m,H',h1,h2⟩:=h
    exact bf.none (by simp only [lZ,pE,ha,hb,Option.bind_some];exact h1) h2
   ·exact h.elim
  ·exact h.elim
 ·obtain ⟨a,ha,h⟩:=aW h
  split at h
  ·rename_i lo hi mx GO Ng M8
   exact (EU h).heap.same fun _=>by simp [lZ,uc,ha,GO,Ng,M8]
  ·exact h.elim
 ·obtain ⟨a,ha,h⟩:=aW h
  obtain ⟨v,hv,h⟩:=aW h
  exact bf.still (by simp [lZ,kM,ha,hv]) h
 ·obtain ⟨a,ha,h⟩:=aW h
  obtain ⟨v,hv,h⟩:=aW h
  exact bf.still (by simp [lZ,yI,ha,hv]) h
 ·obtain ⟨a,ha,h⟩:=aW h
  obtain ⟨b,hb,h⟩:=aW h
  exact (vM h).heap.same fun _=>by simp [lZ,kL,ha,hb]
 ·obtain ⟨a,ha,h⟩:=aW h
  obtain ⟨b,hb,h⟩:=aW h
  exact (FU h).heap.same fun _=>by simp [lZ,yG,ha,hb]
 ·split at h
  ·obtain ⟨a,ha,h⟩:=aW h
   split at h
   ·rename_i s hu
    exact bf.none (by simp only [lZ,yD,ha,Option.bind_some,hu];rfl) h
   ·exact h.elim
  ·exact h.elim
 ·split at h
  ·obtain ⟨a,ha,h⟩:=aW h
   split at h
   ·rename_i b
    obtain ⟨s,pos,h1,h2,h3⟩:=h
    have hg:AH.get H b=some (.iter s pos):=h1
    by_cases hp:pos<s.length
    ·exact bf.none (by simp only [lZ,AE,ha,Option.bind_some,hg];rw [if_pos hp];rfl) (h2 hp)
    ·exact bf.none (by simp only [lZ,AE,ha,Option.bind_some,hg];rw [if_neg hp]) (h3 hp)
   ·exact h.elim
  ·exact h.elim
 ·obtain ⟨a,ha,h⟩:=aW h
  split at h
  ·obtain ⟨v,hv,h⟩:=aW h
   exact bf.still (by simp [lZ,pF,ha,hv]) h
  ·exact h.elim
 ·obtain ⟨l,hl,h⟩:=mE h
  exact (BB h).same fun _=>by simp [lZ,l5,hl]
 ·exact h.elim
end
end Go.Am
end
/- What a region asks. -/
section
namespace Go.Am
open Go.RowKit
abbrev Cd:=List (Tmp×(Nat×Bool))
section
variable (ops:Array Oper)
def mz (g:Nat):Option Tmp:=(ops[g]?).bind (·.dst)
def eM (T:List AV) (gd:Nat×Bool):Option Bool :=
 match (mz ops gd.1).bind (T[·]?) with
 | some (.bool b)=>some (b == gd.2)
 | some .any=>none
 | _=>some false
theorem fY (T:List AV) (o:Oper):aT ops T o=match o.guard with | none=>some true | some gd=>eM ops T gd:=by
 unfold aT eM mz
 cases o.guard with
 | none=>rfl
 | some gd=>rfl
def vF (T:List AV) (cd:Cd):Nat→Nat×Bool→Option Bool
 | 0,_=>none
 | d+1,gd =>
  match mz ops gd.1 with
  | some t=>match T[t]? with
   | some (.bool u)=>match cd.lookup t with
    | none=>some (u == gd.2)
    | some g2=>(vF T cd d g2).map fun p=>p && (u == gd.2)
   | _=>none
  | none=>none
structure Rel (T:List AV) (cd:Cd) (Ta:List AV):Prop where
 len:Ta.length=T.length
 pl : ∀t,cd.lookup t=none→Ta[t]? = T[t]?
 cn : ∀t gd,cd.lookup t=some gd→∃p,eM ops Ta gd=some p∧(p=true→Ta[t]? = T[t]?)∧(p=false→Ta[t]? = some .undef∨Ta[t]? = none)
variable {ops}
theorem o8 {T:List AV} {cd:Cd} {Ta:List AV} (h:Rel ops T cd Ta) : ∀ {d:Nat} {gd:Nat×Bool} {p:Bool},vF ops T cd d gd=some p→eM ops Ta gd=some p
 | 0,_,_,hp=>by cases hp
 | d+1,gd,p,hp=>by
  simp only [vF] at hp
  split at hp
  ·rename_i t ht
   split at hp
   ·rename_i u hu
    split at hp
    ·rename_i hc
     cases hp
     simp only [eM,ht,Option.bind_some,h.pl t hc,hu]
    ·rename_i g2 hc
     obtain ⟨q,hq,rfl⟩:=Option.map_eq_some_iff.1 hp
     obtain ⟨q',h1,h2,h3⟩:=h.cn t g2 hc
     rw [o8 h hq] at h1
     cases h1
     cases q with
     | true=>simp only [eM,ht,Option.bind_some,h2 rfl,hu,Bool.true_and]
     | false =>
      rcases h3 rfl with e | e <;> simp [eM,ht,e]
   ·cases hp
  ·cases hp
def y8 (ops:Array Oper) (cd:Cd) (dst:Option Tmp):Bool :=
 match dst with
 | none=>true
 | some d=>cd.all fun p=>!(Nat.beq p.1 d) && match mz ops p.2.1 with | some t=>!(Nat.beq t d) | none=>true
theorem rN {β:Type} {t:Nat} {g:β} : ∀ {cd:List (Nat×β)},cd.lookup t=some g→(t,g) ∈ cd
 | [],h=>by cases h
 | (a,b) :: l,h=>by
  rw [List.lookup_cons] at h
  split at h
  ·rename_i e;simp only [beq_iff_eq] at e;cases h;subst e;simp
  ·exact List.mem_cons_of_mem _ (rN h)
theorem rW {cd:Cd} {d:Tmp} (h:y8 ops cd (some d)=true) {t:Tmp} {gd:Nat×Bool} (hc:cd.lookup t=some gd):t ≠ d∧mz ops gd.1 ≠ some d:=by
 have:=List.all_eq_true.1 h _ (rN hc)
 simp only [Bool.and_eq_true,Bool.not_eq_true'] at this
 refine ⟨fun e=>?_,fun e=>?_⟩
 ·have h1:=this.1;rw [e,Nat.beq_refl] at h1;cases h1
 ·have h2:=this.2;rw [e] at h2;simp at h2
theorem mP {T:List AV} {dst:Option Tmp} {v:AV} {gd:Nat×Bool} (h : ∀d,dst=some d→mz ops gd.1 ≠ some d):eM ops (aV T dst v) gd=eM ops T gd:=by
 cases dst with
 | none=>rfl
 | some d =>
  unfold eM
  cases ht:mz ops gd.1 with
  | none=>rfl
  | some t =>
   have:d ≠ t:=fun e=>h d rfl (by rw [ht,e])
   simp [aV,this]
theorem Rel.put {T:List AV} {cd:Cd} {Ta:List AV} (h:Rel ops T cd Ta) {dst:Option Tmp} (hf:y8 ops cd dst=true) (v:AV):Rel ops (aV T dst v) cd (aV Ta dst v):=by
 cases dst with
 | none=>exact h
 | some d =>
  refine ⟨by simp [aV,h.len],fun t ht=>?_,fun t gd hc=>?_⟩
  ·simp only [aV,List.getElem?_set,h.pl t ht,h.len]
  ·obtain ⟨p,h1,h2,h3⟩:=h.cn t gd hc
   obtain ⟨e1,e2⟩:=rW hf hc
   refine ⟨p,by rw [mP (fun d' Bi=>by cases Bi;exact e2)];exact h1,?_,?_⟩
   ·simpa [aV,List.getElem?_set,Ne.symm e1] using h2
   ·simpa [aV,List.getElem?_set,Ne.symm e1] using h3
def Ez (dst:Option Tmp) (gd:Nat×Bool) (cd:Cd):Cd :=
 match dst with
 | some d=>(d,gd) :: cd
 | none=>cd
theorem Rel.Qt {T:List AV} {cd:Cd} {Ta:List AV} (h:Rel ops T cd Ta) {dst:Option Tmp} (hf:y8 ops cd dst=true) {gd:Nat×Bool} (hg : ∀d,dst=some d→mz ops gd.1 ≠ some d) {p:Bool} (hw:eM ops Ta gd=some p) (v:AV) :
  Rel ops (aV T dst v) (Ez dst gd cd) (aV Ta dst (if p then v else .undef)):=by
 cases dst with
 | none=>exact h
 | some d =>
  refine ⟨by simp [aV,h.len],fun t ht=>?_,fun t gd' hc=>?_⟩
  ·simp only [Ez,List.lookup_cons] at ht
   split at ht
   ·cases ht
   ·rename_i e
    have:d ≠ t:=fun h=>by simp [h] at e
    simp [aV,this,h.pl t ht]
  ·simp only [Ez,List.lookup_cons] at hc
   split at hc
   ·rename_i e
    simp only [beq_iff_eq] at e
    cases hc;subst e
    refine ⟨p,by rw [mP (fun d' Bi=>by cases Bi;exact hg _ rfl)];exact hw,fun hp=>?_,fun hp=>?_⟩
    ·subst hp;simp [aV,List.getElem?_set,h.len]
    ·subst hp
     simp only [aV,List.getElem?_set,Bool.false_eq_true,if_false,if_true]
     split <;> simp
   ·rename_i e
    have dm:d ≠ t:=fun h=>by simp [h] at e
    obtain ⟨q,h1,h2,h3⟩:=h.cn t gd' hc
    obtain ⟨e1,e2⟩:=rW hf hc
    refine ⟨q,by rw [mP (fun d' Bi=>by cases Bi;exact e2)];exact h1,?_,?_⟩
    ·simpa [aV,List.getElem?_set,dm] using h2
    ·simpa [aV,List.getElem?_set,dm] using h3
theorem Rel.nil (T:List AV):Rel ops T [] T:=⟨rfl,fun _ _=>rfl,fun t gd h=>by cases h⟩
def oz (T:List AV):Cd→List AV
 | []=>T
 | (t,_) :: cd=>oz (T.set t .any) cd
structure Wk (T T' : List AV):Prop where
 len:T.length=T'.length
 at' : ∀(i:Nat) (v:AV),T[i]? = some v→v=AV.any∨T'[i]? = some v
theorem Wk.refl (T:List AV):Wk T T:=⟨rfl,fun _ _ h=>.inr h⟩
theorem Wk.trans {A B C:List AV} (h:Wk A B) (k:Wk B C):Wk A C:=⟨h.len.trans k.len,fun i v hv=>by
 rcases h.at' i v hv with e | e
 ·exact .inl e
 ·exact k.at' i v e⟩
theorem uT : ∀ {cd:Cd} {T:List AV} {i:Nat} {v:AV},(oz T cd)[i]? = some v→v=AV.any∨(cd.lookup i=none∧T[i]? = some v)
 | [],T,i,v,h=>.inr ⟨rfl,h⟩
 | (t,g) :: cd,T,i,v,h=>by
  rcases uT (cd:=cd) h with e | ⟨e1,e2⟩
  ·exact .inl e
  ·rw [List.getElem?_set] at e2
   split at e2
   ·split at e2
    ·cases e2;exact .inl rfl
    ·cases e2
   ·rename_i dm
    refine .inr ⟨?_,e2⟩
    rw [List.lookup_cons]
    have:(i == t)=false:=by simpa using fun h=>dm h.symm
    rw [this];exact e1
theorem nQ : ∀ {cd:Cd} {T:List AV},(oz T cd).length=T.length
 | [],_=>rfl
 | (t,g) :: cd,T=>by rw [oz,nQ];simp
theorem Rel.drop {T:List AV} {cd:Cd} {Ta:List AV} (h:Rel ops T cd Ta):Wk (oz T cd) Ta:=by
 refine ⟨by rw [nQ,h.len],fun i v hv=>?_⟩
 rcases uT hv with e | ⟨e1,e2⟩
 ·exact .inl e
 ·exact .inr (by rw [h.pl i e1];exact e2)
end
/-! ### One operation in a region -/
section
variable (X:aO) (P:Program) (ops:Array Oper)
def rC (a b:Nat×Bool):Bool:=Nat.beq a.1 b.1 && (a.2 == b.2)
def oY (T:List AV) (cd:Cd) (gd:Option (Nat×Bool)) (φ:Option Bool) (x:Operand) (k:Prop):Prop :=
 match x with
 | .tmp t=>match cd.lookup t with
  | none=>k
  | some g =>
   bif (match gd with | some g'=>rC g g' | none=>false) then k
   else match vF ops T cd 8 g with
    | some p=>imp φ (p=true)∧k
    | none=>False
 | _=>k
def jK (T:List AV) (cd:Cd) (gd:Option (Nat×Bool)) (φ:Option Bool):List Operand→Prop→Prop
 | [],k=>k
 | x :: l,k=>oY ops T cd gd φ x (jK T cd gd φ l k)
variable {ops}
theorem lW {T:List AV} {cd:Cd} {Ta:List AV} (h:Rel ops T cd Ta) {gd:Option (Nat×Bool)} {φ:Option Bool} (hφ:φ.getD true=true) (hg : ∀g,gd=some g→eM ops Ta g=some true) {x:Operand} {k:Prop} (hr:oY ops T cd gd φ x k) :
  ev P Ta x=ev P T x∧k:=by
 unfold oY at hr
 split at hr
 ·rename_i t
  split at hr
  ·rename_i hc
   exact ⟨by simp only [ev,h.pl t hc],hr⟩
  ·rename_i g hc
   obtain ⟨q,h1,h2,_⟩:=h.cn t g hc
   cases hb:(match gd with | some g'=>rC g g' | none=>false) with
   | true =>
    rw [hb] at hr
    refine ⟨?_,hr⟩
    cases gd with
    | none=>cases hb
    | some g' =>
     simp only [rC,Bool.and_eq_true,beq_iff_eq] at hb
     have e:g=g':=by
      obtain ⟨a,b⟩:=g;obtain ⟨c,d⟩:=g'
      simp only at hb
      rw [Nat.eq_of_beq_eq_true hb.1,hb.2]
     subst e
     rw [hg g rfl] at h1;cases h1
     simp only [ev,h2 rfl]
   | false =>
    rw [hb] at hr
    simp only [cond_false] at hr
    split at hr
    ·rename_i p hp
     obtain ⟨Oz,yW⟩:=hr
     have e:=dh Oz hφ
     subst e
     rw [o8 h hp] at h1;cases h1
     exact ⟨by simp only [ev,h2 rfl],yW⟩
    ·exact hr.elim
 ·rename_i hx
  refine ⟨?_,hr⟩
  cases x with
  | tmp t=>exact absurd rfl (hx t)
  | _=>rfl
theorem mV {T:List AV} {cd:Cd} {Ta:List AV} (h:Rel ops T cd Ta) {gd:Option (Nat×Bool)} {φ:Option Bool} (hφ:φ.getD true=true) (hg : ∀g,gd=some g→eM ops Ta g=some true) : ∀ {l:List Operand} {k:Prop},jK ops T cd gd φ l k →
  (∀x ∈ l,ev P Ta x=ev P T x)∧k
 | [],k,hr=>⟨fun _ h=>(by cases h),hr⟩
 | x :: l,k,hr=>by
  obtain ⟨h1,hr⟩:=lW P h hφ hg hr
  obtain ⟨h2,hk⟩:=mV h hφ hg hr
  refine ⟨fun y hy=>?_,hk⟩
  rcases List.mem_cons.1 hy with rfl | hy
  ·exact h1
  ·exact h2 y hy
theorem oX {T:List AV} {cd:Cd} {gd:Option (Nat×Bool)} {φ:Option Bool} {x:Operand} {k:Prop} (hr:oY ops T cd gd φ x k):k:=by
 unfold oY at hr
 split at hr
 ·split at hr
  ·exact hr
  ·rename_i g _
   cases hb:(match gd with | some g'=>rC g g' | none=>false) with
   | true=>rw [hb] at hr;exact hr
   | false =>
    rw [hb] at hr
    simp only [cond_false] at hr
    split at hr
    ·exact hr.2
    ·exact hr.elim
 ·exact hr
theorem Aw {T:List AV} {cd:Cd} {gd:Option (Nat×Bool)} {φ:Option Bool} : ∀ {l:List Operand} {k:Prop},jK ops T cd gd φ l k→k
 | [],_,h=>h
 | _ :: _,_,h=>Aw (oX h)
/-! pick -/
def Eu (ops:Array Oper) (cd:Cd) (c:Operand) (want:Bool) (x:Operand):Bool :=
 match x with
 | .tmp t=>match cd.lookup t with
  | none=>true
  | some g=>(g.2 == want) && match c,mz ops g.1 with
   | .tmp tc,some tg=>Nat.beq tc tg
   | _,_=>false
 | _=>true
def yO (a b:Operand) (u x y:Bool) (K:AV→Prop):Prop :=
 match a,b with
 | .const (.bool true),_=>K (.bool (u || y))
 | _,.const (.bool false)=>K (.bool (u && x))
 | _,_=>K (.bool (cond u x y))
theorem FF {T:List AV} {a b:Operand} {u x y:Bool} {K:AV→Prop} (ha:ev P T a=some (.bool x)) (hb:ev P T b=some (.bool y)) (h:yO a b u x y K):K (.bool (cond u x y)):=by
 unfold yO at h
 split at h
 ·simp [ev,mW] at ha;subst ha;cases u <;> exact h
 ·simp [ev,mW] at hb;subst hb;cases u <;> exact h
 ·exact h
def Ij (T:List AV) (cd:Cd) (φ:Option Bool) (c a b:Operand) (K:AV→Prop):Prop :=
 bif Eu ops cd c true a && Eu ops cd c false b then
  vK (ev P T c) fun c'=>vK (ev P T a) fun a'=>vK (ev P T b) fun b' =>
   match c',a',b' with
   | .bool u,.bool x,.bool y=>yO a b u x y K
   | .bool u,x,y=>match φ with
    | none=>(u=true→K x)∧(u=false→K y)
    | some _=>False
   | _,_,_=>False
 else False
theorem zy {T:List AV} {cd:Cd} {Ta:List AV} (h:Rel ops T cd Ta) {c:Operand} {u:Bool} (hc:ev P Ta c=some (.bool u)) {x:Operand} (ha:Eu ops cd c u x=true):ev P Ta x=ev P T x:=by
 unfold Eu at ha
 split at ha
 ·rename_i t
  split at ha
  ·rename_i hl;simp only [ev,h.pl t hl]
  ·rename_i g hl
   simp only [Bool.and_eq_true,beq_iff_eq] at ha
   obtain ⟨h1,h2⟩:=ha
   split at h2
   ·rename_i tc tg hg
    obtain rfl:=Nat.eq_of_beq_eq_true h2
    obtain ⟨p,k1,k2,_⟩:=h.cn t g hl
    have hT:Ta[tc]? = some (.bool u):=by
     simp only [ev,Option.some.injEq] at hc
     cases hx:Ta[tc]? with
     | none=>rw [hx] at hc;simp [AV.undef] at hc
     | some v=>rw [hx] at hc;simp at hc;rw [hc]
    have:eM ops Ta g=some true:=by
     simp only [eM,hg,Option.bind_some,hT,h1,BEq.rfl]
    rw [this] at k1;cases k1
    simp only [ev,k2 rfl]
   ·cases h2
 ·rename_i hx
  cases x with
  | tmp t=>exact absurd rfl (hx t)
  | _=>rfl
theorem Ii {T:List AV} {cd:Cd} {Ta:List AV} (h:Rel ops T cd Ta) {φ:Option Bool} {c a b:Operand} {K:AV→Prop} (hc:φ.getD true=true→ev P Ta c=ev P T c) (hp:Ij P (ops:=ops) T cd φ c a b K) (H:AH) :
  ∃v,(φ.getD true=true→nJ (ev P Ta) H c a b=some (v,H))∧K v:=by
 unfold Ij at hp
 obtain ⟨h0,hp⟩:=cV hp
 simp only [Bool.and_eq_true] at h0
 obtain ⟨c',y5,hp⟩:=aW hp
 obtain ⟨a',J9,hp⟩:=aW hp
 obtain ⟨b',dM,hp⟩:=aW hp
 have key : ∃u,c'=.bool u∧((∃x y,a'=.bool x∧b'=.bool y∧yO a b u x y K)∨(φ=none∧(u=true→K a')∧(u=false→K b'))):=by
  cases c' with
  | bool u =>
   refine ⟨u,rfl,?_⟩
   cases a' <;> cases b' <;> first
    | exact .inl ⟨_,_,rfl,rfl,hp⟩
    | (cases φ with
     | none=>exact .inr ⟨rfl,hp⟩
     | some _=>exact hp.elim)
  | _=>exact hp.elim
 obtain ⟨u,rfl,⟨x,y,rfl,rfl,hk⟩ | ⟨rfl,hk⟩⟩:=key
 ·refine ⟨_,fun hφ=>?_,FF P J9 dM hk⟩
  have LO:=(hc hφ).trans y5
  cases u with
  | true=>simp only [nJ,LO,Option.bind_some];rw [zy P h LO h0.1,J9];rfl
  | false=>simp only [nJ,LO,Option.bind_some];rw [zy P h LO h0.2,dM];rfl
 ·have LO:=(hc rfl).trans y5
  cases u with
  | true=>exact ⟨_,fun _=>by simp only [nJ,LO,Option.bind_some];rw [zy P h LO h0.1,J9];rfl,hk.1 rfl⟩
  | false=>exact ⟨_,fun _=>by simp only [nJ,LO,Option.bind_some];rw [zy P h LO h0.2,dM];rfl,hk.2 rfl⟩
end
end Go.Am
end
/- What a region, a statement, a function asks. -/
section
namespace Go.Am
open Go.RowKit
section
variable (X:aO) (P:Program)
def O5:List TypeId→(List AV→Prop)→Prop
 | [],k=>k []
 | t :: ts,k=>Sl P t fun v=>O5 ts fun vs=>k (v :: vs)
theorem Bq {P:Program} : ∀ {ts:List TypeId} {k:List AV→Prop},O5 P ts k→∃vs,k vs
 | [],_,h=>⟨_,h⟩
 | _ :: _,_,h=>by
  obtain ⟨v,h⟩:=zf h
  obtain ⟨vs,h⟩:=Bq h
  exact ⟨_,h⟩
def O1 (f:FuncId) (v:AV) (K:AV→Prop):Prop :=
 match P.funcs[f]? with
 | some fn=>match fn.resultTypes.toList with
  | []=>K v
  | [t]=>Sl P t fun u=>v=u∧K u
  | ts=>O5 P ts fun us=>v=.tuple us∧K (.tuple us)
 | none=>False
theorem Ji {f:FuncId} {v:AV} {K:AV→Prop} (h:O1 P f v K):K v:=by
 unfold O1 at h
 split at h
 ·split at h
  ·exact h
  ·obtain ⟨u,hv,hk⟩:=zf h;rw [hv];exact hk
  ·obtain ⟨u,hv,hk⟩:=Bq h;rw [hv];exact hk
 ·exact h.elim
def Nu (fv:AV) (vs:List AV) (H:AH) (K:AV→AH→Prop):Prop :=
 match fv with
 | .func (.func g) x y=>X.call g (x ++ vs ++ y) H fun v H'=>O1 P g v fun v=>K v H'
 | .cY b=>X.cY b vs H fun v H'=>∃t,v=.bool t∧K (.bool t) H'
 | _=>False
def lP (T:List AV) (H:AH) (o:Oper) (K:AV→AH→Prop):Prop :=
 match o.op with
 | .call ⟨.value f,xs,_⟩=>vK (ev P T f) fun fv=>Gb (ev P T) xs.toList fun vs=>Nu X P fv vs H K
 | op=>MI X P none (ev P T) H op o.type K
def yV:Op→Bool
 | .pick ..=>true
 | _=>false
def Hg:Op→Bool
 | .load .. | .slice ..=>true
 | .call ⟨.builtin b,_,_⟩=>match b with | .len | .cap | .min | .max=>true | _=>false
 | .convert ..=>true
 | o=>ox o
abbrev Kn:=List ((Nat×Bool)×Bool)
def yQ (gd:Nat×Bool):Kn→Option Bool
 | []=>none
 | (g,p) :: l=>bif rC g gd then some p else yQ gd l
def jx (ops:Array Oper) (kn:Kn) (dst:Option Tmp):Bool :=
 match dst with
 | none=>true
 | some d=>kn.all fun p=>match mz ops p.1.1 with | some t=>!(Nat.beq t d) | none=>true
def AZ (ops:Array Oper) (c:Operand):Kn→Option Bool
 | []=>none
 | (g,p) :: l =>
  bif (match c,mz ops g.1 with | .tmp tc,some tg=>Nat.beq tc tg | _,_=>false) then some (bif p then g.2 else !g.2) else AZ ops c l
def Er (ops:Array Oper) (a:Operand):Bool :=
 match a with
 | .tmp t=>ops.toList.any fun o=>(match o.dst with | some d=>Nat.beq d t | none=>false) && (match o.op with | .indexAddr ..=>true | _=>false)
 | _=>false
def tG (ops:Array Oper) (kn:Kn) (T:List AV) (cd:Cd) (gd:Option (Nat×Bool)) (φ:Option Bool) (H:AH) (o:Oper) (K:AV→AH→Prop):Prop :=
 match o.op with
 | .pick c a b=>match AZ ops c kn with
  | some u=>oY ops T cd gd φ c (vK (ev P T c) fun c'=>match c' with
   | .bool _=>oY ops T cd gd φ (bif u then a else b) (vK (ev P T (bif u then a else b)) fun v=>K v H)
   | _=>False)
  | none=>oY ops T cd gd φ c (Ij P (ops:=ops) T cd φ c a b fun v=>K v H)
 | .load t a=>oY ops T cd gd φ a (vK (ev P T a) fun x=>AT X P (bif Er ops a then φ else none) H t x fun v=>K v H)
 | op=>jK ops T cd gd φ op.operands.toList (MI X P φ (ev P T) H op o.type K)
def nN (ops:Array Oper) (cd:Cd) (g:Nat) (b:Bool) (T:List AV):List AV :=
 match mz ops g with
 | some t=>match cd.lookup t with
  | none=>T.set t (.bool b)
  | some _=>T
 | none=>T
def j4 (ops:Array Oper):List Oper→List AV→Cd→Kn→AH→(List AV→Cd→AH→Prop)→Prop
 | [],T,cd,_,H,K=>K T cd H
 | o :: l,T,cd,kn,H,K =>
  bif y8 ops cd o.dst && jx ops kn o.dst then
   match o.guard with
   | none =>
    bif yV o.op then tG X P ops kn T cd none none H o fun v H'=>j4 ops l (aV T o.dst v) cd kn H' K
    else jK ops T cd none none o.op.operands.toList (lP X P T H o fun v H'=>j4 ops l (aV T o.dst v) cd kn H' K)
   | some gd =>
    match yQ gd kn with
    | some true =>
     bif yV o.op then tG X P ops kn T cd (some gd) none H o fun v H'=>j4 ops l (aV T o.dst v) cd kn H' K
     else jK ops T cd (some gd) none o.op.operands.toList (lP X P T H o fun v H'=>j4 ops l (aV T o.dst v) cd kn H' K)
    | some false=>j4 ops l (aV T o.dst .undef) cd kn H K
    | none =>
    match vF ops T cd 8 gd with
    | none=>False
    | some p =>
     bif Hg o.op then
      bif (match o.dst,mz ops gd.1 with | some d,some t=>!(Nat.beq d t) | _,_=>true) then
       tG X P ops kn T cd (some gd) (some p) H o fun v H'=>j4 ops l (aV T o.dst v) (Ez o.dst gd cd) kn H' K
      else False
     else
      bif jx ops [(gd,true)] o.dst then
      cond p
       (jK ops (nN ops cd gd.1 gd.2 T) cd (some gd) none o.op.operands.toList
        (lP X P (nN ops cd gd.1 gd.2 T) H o fun v H'=>j4 ops l (aV (nN ops cd gd.1 gd.2 T) o.dst v) cd ((gd,true) :: kn) H' K))
       (match vF ops T cd 1 gd with
        | some _=>j4 ops l (aV (nN ops cd gd.1 (!gd.2) T) o.dst .undef) cd ((gd,false) :: kn) H K
        | none=>j4 ops l (aV T o.dst .undef) cd ((gd,false) :: kn) H K)
      else False
  else False
end
section
variable {P:Program} {r:Option Nat} {ops:Array Oper}
theorem tF {T Ta:List AV} {H:AH} {o:Oper} {K:AV→AH→Prop} (he : ∀x ∈ o.op.operands.toList,ev P Ta x=ev P T x) (h:lP (real P r) P T H o K):jT P r o Ta H K:=by
 unfold lP at h
 split at h
 ·rename_i f xs ts heq
  obtain ⟨fv,hf,h⟩:=aW h
  obtain ⟨vs,IU,h⟩:=mE h
  obtain ⟨dst,op,ty,pos,after,guard⟩:=o
  simp only at heq;subst heq
  have F3:ev P Ta f=some fv:=by rw [he f (by simp [Op.operands,Call.operands])];exact hf
  have iU:qd P Ta xs.toList=some vs:=by
   rw [kj (T':=T) fun y hy=>he y (by simp [Op.operands,Call.operands];right;simpa using hy),← kU];exact IU
  unfold Nu at h
  split at h
  ·refine jT.callee F3 iU ?_
   have h' : aD P _ _ H _:=h
   rcases h' with ⟨h1,h2⟩ | h2
   ·exact .inl ⟨h1,h2.mono fun v H' hk=>Ji P hk⟩
   ·refine .inr fun E B w bD hH ha=>?_
    obtain ⟨v,H',E',w',x,k1,k2,k3⟩:=h2 E B w bD hH ha
    exact ⟨v,H',E',w',x,k1,Ji P k2,k3⟩
  ·exact jT.mono (h _ _ _ _ _ _ _ _ Ta F3 iU) fun v H' hk=>by obtain ⟨t,rfl,hk⟩:=hk;exact hk
  ·exact h.elim
 ·rename_i hn
  obtain ⟨v,H',h1,h2,h3⟩:=CH h
  refine jT.oo (v:=v) (H':=H') ?_ h3
  rw [qq (T':=T) H (fun x hx=>he x (by simpa using hx)),← om]
  exact h1 rfl
def Kp (ops:Array Oper) (kn:Kn) (Ta:List AV):Prop:=∀q ∈ kn,eM ops Ta q.1=some q.2
theorem Hx {a b:Nat×Bool} (h:rC a b=true):a=b:=by
 simp only [rC,Bool.and_eq_true,beq_iff_eq] at h
 obtain ⟨a1,a2⟩:=a;obtain ⟨b1,b2⟩:=b
 simp only at h
 rw [Nat.eq_of_beq_eq_true h.1,h.2]
theorem oq {gd:Nat×Bool} {p:Bool} : ∀ {kn:Kn},yQ gd kn=some p→(gd,p) ∈ kn
 | [],h=>by cases h
 | (g,q) :: l,h=>by
  simp only [yQ] at h
  cases hb:rC g gd with
  | true=>rw [hb] at h;cases h;rw [Hx hb];simp
  | false=>rw [hb] at h;exact List.mem_cons_of_mem _ (oq h)
theorem Kp.put {kn:Kn} {Ta:List AV} (h:Kp ops kn Ta) {dst:Option Tmp} (hf:jx ops kn dst=true) (v:AV):Kp ops kn (aV Ta dst v):=by
 intro q hq
 rw [mP (fun d hd e=>?_)]
 ·exact h q hq
 ·subst hd
  have:=List.all_eq_true.1 hf _ hq
  rw [e] at this
  simp at this
theorem Kp.add {kn:Kn} {Ta:List AV} (h:Kp ops kn Ta) {gd:Nat×Bool} {p:Bool} (hw:eM ops Ta gd=some p):Kp ops ((gd,p) :: kn) Ta:=by
 intro q hq
 rcases List.mem_cons.1 hq with rfl | hq
 ·exact hw
 ·exact h q hq
theorem mA {kn:Kn} {gd:Nat×Bool} {p q:Bool} {dst:Option Tmp} (h:jx ops kn dst=true) (h1:jx ops [(gd,q)] dst=true):jx ops ((gd,p) :: kn) dst=true:=by
 cases dst with
 | none=>rfl
 | some d =>
  simp only [jx,List.all_cons,Bool.and_eq_true] at h h1 ⊢
  exact ⟨h1.1,h⟩
theorem IC {kn:Kn} {Ta:List AV} (hN:Kp ops kn Ta) {c:Operand} {u v:Bool} (hc:ev P Ta c=some (.bool v)) (h:AZ ops c kn=some u):v=u:=by
 have key : ∀ {l:Kn},(∀q ∈ l,eM ops Ta q.1=some q.2)→AZ ops c l=some u→v=u:=by
  intro l
  induction l with
  | nil=>intro _ h;cases h
  | cons q l ih =>
   intro hq h
   obtain ⟨g,p⟩:=q
   simp only [AZ] at h
   cases hb:(match c,mz ops g.1 with | .tmp tc,some tg=>Nat.beq tc tg | _,_=>false) with
   | false=>rw [hb] at h;exact ih (fun q hm=>hq q (List.mem_cons_of_mem _ hm)) h
   | true =>
    rw [hb] at h
    simp only [cond_true,Option.some.injEq] at h
    have hw:=hq _ (List.mem_cons_self ..)
    simp only at hw
    split at hb
    ·rename_i tc tg hg
     obtain rfl:=Nat.eq_of_beq_eq_true hb
     have hT:Ta[tc]? = some (.bool v):=by
      simp only [ev,Option.some.injEq] at hc
      cases hx:Ta[tc]? with
      | none=>rw [hx] at hc;simp [AV.undef] at hc
      | some x=>rw [hx] at hc;simp at hc;rw [hc]
     simp only [eM,hg,Option.bind_some,hT,Option.some.injEq] at hw
     subst hw
     rw [← h]
     cases v <;> cases g.2 <;> rfl
    ·cases hb
 exact key hN h
theorem zZ {T Ta:List AV} {cd:Cd} {kn:Kn} (hR:Rel ops T cd Ta) (hN:Kp ops kn Ta) {gd:Option (Nat×Bool)} {φ:Option Bool} (hg:φ.getD true=true→∀g,gd=some g→eM ops Ta g=some true) {H:AH} {o:Oper} {K:AV→AH→Prop} (h:tG (real P r) P ops kn T cd gd φ H o K) :
  ∃v H',(φ.getD true=true→p9 P Ta H o=some (v,H'))∧(φ ≠ none→H'=H)∧K v H':=by
 obtain ⟨dst,op,ty,pos,after,guard⟩:=o
 unfold tG at h
 split at h
 ·rename_i c a b heq
  simp only at heq;subst heq
  split at h
  ·rename_i u hu
   obtain ⟨c',y5,hk⟩:=aW (oX h)
   split at hk
   ·rename_i b'
    obtain ⟨v,hv,F2⟩:=aW (oX hk)
    refine ⟨v,H,fun hφ=>?_,fun _=>rfl,F2⟩
    have h1:=((lW P hR hφ (hg hφ) h).1).trans y5
    have h2:=((lW P hR hφ (hg hφ) hk).1).trans hv
    obtain rfl:=IC hN h1 hu
    cases b' with
    | true=>simp only [p9,h1,Option.bind_some];rw [show ev P Ta a=some v from h2];rfl
    | false=>simp only [p9,h1,Option.bind_some];rw [show ev P Ta b=some v from h2];rfl
   ·exact hk.elim
  ·obtain ⟨v,h1,h2⟩:=Ii P hR (fun hφ=>(lW P hR hφ (hg hφ) h).1) (oX h) H
   exact ⟨v,H,fun hφ=>by rw [← om];exact h1 hφ,fun _=>rfl,h2⟩
 ·rename_i t a heq
  simp only at heq;subst heq
  obtain ⟨x,hx,hl⟩:=aW (oX h)
  obtain ⟨v,h1,h2⟩:=uj hl
  refine ⟨v,H,fun hφ=>?_,fun _=>rfl,h2⟩
  have hv:j7 P H t x=some v:=h1 (by cases Er ops a <;> first | rfl | exact hφ)
  have iU:ev P Ta a=some x:=((lW P hR hφ (hg hφ) h).1).trans hx
  simp only [p9,iU,Option.bind_some,hv,Option.map_some]
 ·rename_i hn
  obtain ⟨v,H',h1,h2,h3⟩:=CH (Aw h)
  refine ⟨v,H',fun hφ=>?_,h2,h3⟩
  rw [qq (T':=T) H (fun x hx=>(mV P hR hφ (hg hφ) h).1 x (by simpa using hx)),← om]
  exact h1 hφ
theorem Rel.Ln {T Ta:List AV} {cd:Cd} (_:Rel ops T cd Ta) {d:Nat} {gd:Nat×Bool} {p:Bool} (hp:vF ops T cd (d+1) gd=some p) {b:Bool} (hb : ∀u,mz ops gd.1 ≠ none→p=(u == gd.2)→u=b):nN ops cd gd.1 b T=T:=by
 unfold nN
 simp only [vF] at hp
 split at hp
 ·rename_i t ht
  try rw [ht]
  try simp only
  split at hp
  ·rename_i u hu
   split at hp
   ·rename_i hc
    try rw [hc]
    cases hp
    have e:=hb u (by rw [ht];simp) rfl
    subst e
    apply List.ext_getElem?
    intro i
    rw [List.getElem?_set]
    split
    ·rename_i e;subst e
     rw [hu];simp [(List.getElem?_eq_some_iff.1 hu).1]
    ·rfl
   ·rename_i g2 hc
    first | rfl | rw [hc]
  ·cases hp
 ·cases hp
theorem ij {K:List AV→Cd→AH→Prop} : ∀ {l:List Oper} {T Ta:List AV} {cd:Cd} {kn:Kn} {H:AH},j4 (real P r) P ops l T cd kn H K→Rel ops T cd Ta→Kp ops kn Ta →
  lI P r ops (fun Wg H'=>∃T' Su,Rel ops T' Su Wg∧K T' Su H') l Ta H
 | [],T,Ta,cd,kn,H,h,hR,hN=>⟨T,cd,hR,h⟩
 | o :: l,T,Ta,cd,kn,H,h,hR,hN=>by
  simp only [j4] at h
  obtain ⟨XS,h⟩:=cV h
  simp only [Bool.and_eq_true] at XS
  obtain ⟨hf,Nj⟩:=XS
  have So : ∀(gd:Option (Nat×Bool)),(∀g,gd=some g→eM ops Ta g=some true)→aT ops Ta o=some true →
    (bif yV o.op then tG (real P r) P ops kn T cd gd none H o fun v H'=>j4 (real P r) P ops l (aV T o.dst v) cd kn H' K
     else jK ops T cd gd none o.op.operands.toList (lP (real P r) P T H o fun v H'=>j4 (real P r) P ops l (aV T o.dst v) cd kn H' K)) →
    lI P r ops (fun Wg H'=>∃T' Su,Rel ops T' Su Wg∧K T' Su H') (o :: l) Ta H:=by
   intro gd hg hw h
   cases Xy:yV o.op with
   | true =>
    rw [Xy] at h
    have h' : tG (real P r) P ops kn T cd gd none H o fun v H'=>j4 (real P r) P ops l (aV T o.dst v) cd kn H' K:=h
    obtain ⟨v,H',h1,_,h3⟩:=zZ (gd:=gd) (φ:=none) hR hN (fun _=>hg) h'
    exact .inl ⟨hw,jT.oo (h1 rfl) (ij h3 (hR.put hf v) (hN.put Nj v))⟩
   | false =>
    rw [Xy] at h
    have h' : jK ops T cd gd none o.op.operands.toList (lP (real P r) P T H o fun v H'=>j4 (real P r) P ops l (aV T o.dst v) cd kn H' K):=h
    obtain ⟨he,hk⟩:=mV P hR (gd:=gd) (φ:=none) rfl hg h'
    exact .inl ⟨hw,(tF he hk).mono fun v H' hk=>ij hk (hR.put hf v) (hN.put Nj v)⟩
  split at h
  ·rename_i hgn
   exact So none (fun _ h=>by cases h) (by rw [fY,hgn]) h
  ·rename_i gd Vl
   split at h
   ·rename_i LJ
    have IT:=hN _ (oq LJ)
    exact So (some gd) (fun g RJ=>by cases RJ;exact IT) (by rw [fY,Vl];exact IT) h
   ·rename_i LJ
    have IT:=hN _ (oq LJ)
    exact .inr ⟨by rw [fY,Vl];exact IT,ij h (hR.put hf .undef) (hN.put Nj .undef)⟩
   split at h
   ·exact h.elim
   ·rename_i p hp
    have IT:=o8 hR hp
    have hw:aT ops Ta o=some p:=by rw [fY,Vl];exact IT
    cases hs:Hg o.op with
    | true =>
     rw [hs] at h
     obtain ⟨hd,h⟩:=cV (show bif (match o.dst,mz ops gd.1 with | some d,some t=>!(Nat.beq d t) | _,_=>true) then _ else False from h)
     have hdg : ∀d,o.dst=some d→mz ops gd.1 ≠ some d:=fun d XU e=>by rw [XU,e] at hd;simp at hd
     obtain ⟨v,H',h1,h2,h3⟩:=zZ hR hN (fun hφ g RJ=>by cases RJ;rw [IT];exact congrArg some hφ) h
     obtain rfl:H'=H:=h2 (by simp)
     have X6:=hR.Qt hf hdg IT v
     cases p with
     | true=>exact .inl ⟨hw,jT.oo (h1 rfl) (ij h3 X6 (hN.put Nj v))⟩
     | false=>exact .inr ⟨hw,ij h3 X6 (hN.put Nj .undef)⟩
    | false =>
     rw [hs] at h
     obtain ⟨Vm,h⟩:=cV (show bif jx ops [(gd,true)] o.dst then _ else False from h)
     have R4:Kp ops ((gd,p) :: kn) Ta:=hN.add IT
     cases p with
     | true =>
      have hT:nN ops cd gd.1 gd.2 T=T:=hR.Ln hp (fun u _ e=>by simpa using e)
      rw [hT] at h
      have h' : jK ops T cd (some gd) none o.op.operands.toList (lP (real P r) P T H o fun v H'=>j4 (real P r) P ops l (aV T o.dst v) cd ((gd,true) :: kn) H' K):=h
      obtain ⟨he,hk⟩:=mV P hR (gd:=some gd) (φ:=none) rfl (fun g RJ=>by cases RJ;exact IT) h'
      exact .inl ⟨hw,(tF he hk).mono fun v H' hk=>ij hk (hR.put hf v) (R4.put (mA Nj Vm) v)⟩
     | false =>
      have h' : (match vF ops T cd 1 gd with
        | some _=>j4 (real P r) P ops l (aV (nN ops cd gd.1 (!gd.2) T) o.dst .undef) cd ((gd,false) :: kn) H K
        | none=>j4 (real P r) P ops l (aV T o.dst .undef) cd ((gd,false) :: kn) H K):=h
      refine .inr ⟨hw,?_⟩
      split at h'
      ·rename_i q hq
       have e:=o8 hR hq
       rw [IT] at e;cases e
       rw [hR.Ln hq (fun u _ e=>by revert e;cases u <;> cases gd.2 <;> decide)] at h'
       exact ij h' (hR.put hf .undef) (R4.put (mA Nj Vm) .undef)
      ·exact ij h' (hR.put hf .undef) (R4.put (mA Nj Vm) .undef)
end
end Go.Am
end
/- What a statement, a function asks. -/
section
namespace Go.Am
open Go.RowKit
section
variable (X:aO) (P:Program)
def u6:Op→Option Bool
 | .convert ..=>some true
 | _=>none
theorem Ep {P:Program} {r:Option Nat} {T:List AV} {H:AH} {o:Oper} {K:AV→AH→Prop} (hq:cK o.op=true) (h:MI (real P r) P (u6 o.op) (ev P T) H o.op o.type K) : ∃v,p9 P T H o=some (v,H)∧K v H:=by
 obtain ⟨v,H',h1,h2,h3⟩:=CH h
 have he:p9 P T H o=some (v,H'):=by rw [← om];exact h1 (by cases o.op <;> rfl)
 have:H'=H:=by
  obtain ⟨dst,op,ty,pos,after,guard⟩:=o
  cases op
  case convert=>exact h2 (by simp [u6])
  all_goals exact kJ hq he rfl
 subst this
 exact ⟨v,he,h3⟩
def tZ (A:List Nat) (i:Nat) (H:AH):qY→Prop→Prop
 | [],k=>k
 | (j,o,T,v) :: aZ,k=>bif eY A i j then tZ A i H aZ k else bif cK o.op then MI X P (u6 o.op) (ev P T) H o.op o.type (fun u _=>u=v)∧tZ A i H aZ k else False
def nR (ops:Array Oper) (A:List Nat):List (Nat×Nat)→qY→List AV→AH→(List AV→AH→Prop)→Prop
 | [],_,T,H,K=>K T H
 | (i,k) :: σ,aZ,T,H,K =>
  match ops[i]? with
  | none=>False
  | some o =>
   let done:List AV→Prop:=fun T =>
    bif Nat.beq k 2 then lP X P T H o fun v H'=>tZ X P A i H' aZ (nR ops A σ aZ (aV T o.dst v) H' K)
    else bif cK o.op then MI X P (u6 o.op) (ev P T) H o.op o.type fun v _=>nR ops A σ (bif Nat.beq k 0 then aZ else (i,o,T,v) :: aZ) (aV T o.dst v) H K
    else False
   match o.guard with
   | none=>done T
   | some gd =>
    match vF ops T [] 1 gd with
    | some p=>cond p (done (nN ops [] gd.1 gd.2 T)) (nR ops A σ aZ (aV (nN ops [] gd.1 (!gd.2) T) o.dst .undef) H K)
    | none=>False
def look (T:List AV) (t:Tmp):AV:=(T[t]?).getD .undef
structure dK where
 key:Nat
 α:Type
 live:List Tmp
 qe:α→List AV
 inv:α→AH→Nat→Prop
def cX:Code→Option Nat
 | .region id _ _=>some id
 | .seq a b=>match cX a with | some i=>some i | none=>cX b
 | .cond _ a b=>match cX a with | some i=>some i | none=>cX b
 | .block _ c=>cX c
 | .loop c=>cX c
 | .scope c=>cX c
 | .rangeFunc _ _ a b=>match cX a with | some i=>some i | none=>cX b
 | _=>none
def iw (k:Nat):List dK→Option dK
 | []=>none
 | a :: l=>bif Nat.beq a.key k then some a else iw k l
def Cb:List Tmp→List AV→List AV→List AV
 | t :: ts,v :: vs,T=>Cb ts vs (T.set t v)
 | _,_,T=>T
def JZ (n:Nat) (live:List Tmp) (vs:List AV):List AV:=Cb live vs (List.replicate n .any)
abbrev VK:=dy→List AV→List Mk→AH→Prop
def DJ (M2 M:List Mk) (k:Prop):Prop :=
 match M2,M with
 | [],[]=>k
 | a,b=>a=b∧k
theorem wo {M2 M:List Mk} {k:Prop} (h:DJ M2 M k):M2=M∧k:=by
 unfold DJ at h
 split at h
 ·exact ⟨rfl,h⟩
 ·exact h
def JU (aS:List dK):Code→VK→List AV→List Mk→AH→Prop
 | .skip,K,T,M,H=>K .normal T M H
 | .label _,K,T,M,H=>K .normal T M H
 | .exit id,K,T,M,H=>K (.exit id) T M H
 | .goto l,K,T,M,H=>K (.goto l) T M H
 | .ret,K,T,M,H=>K .ret T M H
 | .seq a b,K,T,M,H=>JU aS a (fun e T M H=>match e with | .normal=>JU aS b K T M H | e=>K e T M H) T M H
 | .cond c x y,K,T,M,H=>vK (ev P T c) fun v=>match v with
  | .bool u=>cond u (JU aS x K T M H) (JU aS y K T M H)
  | _=>False
 | .block id c,K,T,M,H=>JU aS c (fun e=>K (iT id e)) T M H
 | .loop c,K,T,M,H=>match cX c with
  | some k=>match iw k aS with
   | some a=>(∃x j,a.live.map (look T)=a.qe x∧a.inv x H j)∧∀x H' j,a.inv x H' j →
     JU aS c (fun e T2 M2 H2=>match e with
      | .normal=>bif Nat.beq T2.length T.length then DJ M2 M (∃x' j',j'<j∧a.live.map (look T2)=a.qe x'∧a.inv x' H2 j') else False
      | e=>K e T2 M2 H2) (JZ T.length a.live (a.qe x)) M H'
   | none=>False
  | none=>False
 | .region _ ops false,K,T,M,H=>j4 X P ops ops.toList T [] [] H fun T' cd H'=>K .normal (oz T' cd) M H'
 | .region _ ops true,K,T,M,H=>match oA ops with
  | some (σ,A)=>nR X P ops A σ [] T H fun T' H'=>K .normal T' M H'
  | none=>False
 | _,_,_,_,_=>False
def l8 (M:List Mk) (H:AH) (k:AH→Prop):Prop :=
 match M with
 | []=>k H
 | M=>∃H',X.tm M H=some H'∧k H'
def yc (T:List AV) (H:AH):List ResultVar→(List AV→Prop)→Prop
 | [],k=>k []
 | .tmp t :: l,k=>yc T H l fun vs=>k (look T t :: vs)
 | .cell a t :: l,k=>AT X P none H t (look T a) fun v=>yc T H l fun vs=>k (v :: vs)
def Ql (fn:Func) (Q:AV→AH→Prop):VK:=fun e T M H =>
 match e with
 | .normal=>l8 X M H fun H'=>yc X P T H' fn.results.toList fun vs=>Q (oneOf vs) H'
 | .ret=>l8 X M H fun H'=>yc X P T H' fn.results.toList fun vs=>Q (oneOf vs) H'
 | _=>False
def fG (aS:List dK) (f:FuncId) (args:List AV) (H:AH) (Q:AV→AH→Prop):Prop :=
 match P.funcs[f]? with
 | some fn=>match fn.body with
  | some c=>JU X P aS c (Ql X P fn Q) (args ++ List.replicate (fn.ntmps - args.length) .undef) [] H
  | none=>False
 | none=>False
end
section
variable {P:Program} {r:Option Nat}
theorem tY {A:List Nat} {i:Nat} {H:AH} : ∀ {aZ:qY} {k:Prop},tZ (real P r) P A i H aZ k→(∀p ∈ aZ,eY A i p.1=false→p9 P p.2.2.1 H p.2.1=some (p.2.2.2,H))∧k
 | [],_,h=>⟨fun _ h=>(by cases h),h⟩
 | (j,o,T,v) :: aZ,k,h=>by
  simp only [tZ] at h
  cases hb:eY A i j with
  | true =>
   rw [hb] at h
   obtain ⟨h1,h2⟩:=tY h
   refine ⟨fun p hp ha=>?_,h2⟩
   rcases List.mem_cons.1 hp with rfl | hp
   ·simp only at ha;rw [hb] at ha;cases ha
   ·exact h1 p hp ha
  | false =>
   rw [hb] at h
   obtain ⟨hq,h0,h⟩:=cV (show bif cK o.op then _ else False from h)
   obtain ⟨h1,h2⟩:=tY h
   refine ⟨fun p hp ha=>?_,h2⟩
   rcases List.mem_cons.1 hp with rfl | hp
   ·obtain ⟨u,k1,k3⟩:=Ep hq h0
    subst k3
    exact k1
   ·exact h1 p hp ha
def SH (ops:Array Oper) (aZ lX:qY):Prop :=
 ∀p ∈ lX,(p ∈ aZ∧aT ops p.2.2.1 p.2.1=some true∧cK p.2.1.op=true)∨(aT ops p.2.2.1 p.2.1=some false∧p.2.2.2=.undef)
theorem mH {ops:Array Oper} {A:List Nat} {K:List AV→AH→Prop} : ∀ {σ:List (Nat×Nat)} {aZ lX:qY} {T:List AV} {H:AH},nR (real P r) P ops A σ aZ T H K→SH ops aZ lX→fX P r ops (eY A) K σ lX T H
 | [],_,_,_,_,h,_=>h
 | (i,k) :: σ,aZ,lX,T,H,h,hp=>by
  simp only [nR] at h
  split at h
  ·exact h.elim
  ·rename_i o ho
   refine ⟨o,ho,?_⟩
   have done:aT ops T o=some true→(bif Nat.beq k 2 then lP (real P r) P T H o fun v H'=>tZ (real P r) P A i H' aZ (nR (real P r) P ops A σ aZ (aV T o.dst v) H' K)
     else bif cK o.op then MI (real P r) P (u6 o.op) (ev P T) H o.op o.type fun v _=>nR (real P r) P ops A σ (bif Nat.beq k 0 then aZ else (i,o,T,v) :: aZ) (aV T o.dst v) H K else False) →
     if k=2 then (aT ops T o=some false∧fX P r ops (eY A) K σ lX (aV T o.dst .undef) H) ∨
      (aT ops T o=some true∧jT P r o T H fun v H'=>yq P ops (eY A) i H' lX∧fX P r ops (eY A) K σ lX (aV T o.dst v) H')
     else ∃v,eJ P ops o T H v∧fX P r ops (eY A) K σ (if k=0 then lX else (i,o,T,v) :: lX) (aV T o.dst v) H:=by
    intro hw h
    by_cases hk:k=2
    ·subst hk
     rw [if_pos rfl]
     have h' : lP (real P r) P T H o fun v H'=>tZ (real P r) P A i H' aZ (nR (real P r) P ops A σ aZ (aV T o.dst v) H' K):=h
     refine .inr ⟨hw,(tF (fun _ _=>rfl) h').mono fun v H' hv=>?_⟩
     obtain ⟨h1,h2⟩:=tY hv
     refine ⟨fun p Rr ha=>?_,mH h2 hp⟩
     rcases hp p Rr with ⟨k1,k2,k3⟩ | ⟨k1,k2⟩
     ·exact .inr ⟨k2,h1 p k1 ha⟩
     ·exact .inl ⟨k1,k2⟩
    ·rw [if_neg hk]
     have hb:Nat.beq k 2=false:=by
      cases hb:Nat.beq k 2 with
      | false=>rfl
      | true=>exact absurd (Nat.eq_of_beq_eq_true hb) hk
     rw [hb] at h
     obtain ⟨hq,h⟩:=cV (show bif cK o.op then _ else False from h)
     obtain ⟨v,he,h3⟩:=Ep hq h
     refine ⟨v,.inr ⟨hw,he⟩,mH h3 ?_⟩
     by_cases h0:k=0
     ·subst h0;rw [if_pos rfl];exact hp
     ·rw [if_neg h0]
      have Db:Nat.beq k 0=false:=by
       cases hb:Nat.beq k 0 with
       | false=>rfl
       | true=>exact absurd (Nat.eq_of_beq_eq_true hb) h0
      rw [Db]
      intro p Rr
      rcases List.mem_cons.1 Rr with rfl | Rr
      ·exact .inl ⟨by simp,hw,hq⟩
      ·rcases hp p Rr with ⟨k1,k2⟩ | k2
       ·exact .inl ⟨by simp [k1],k2⟩
       ·exact .inr k2
   split at h
   ·rename_i hg
    exact done (by rw [fY,hg]) h
   ·rename_i gd hg
    split at h
    ·rename_i p U3
     have hw:aT ops T o=some p:=by rw [fY,hg];exact o8 (Rel.nil T) U3
     cases p with
     | true =>
      have h' : _:=h
      simp only [cond_true] at h'
      rw [(Rel.nil T).Ln U3 (fun u _ e=>by simpa using e)] at h'
      exact done hw h'
     | false =>
      simp only [cond_false] at h
      rw [(Rel.nil T).Ln U3 (fun u _ e=>by revert e;cases u <;> cases gd.2 <;> decide)] at h
      by_cases hk:k=2
      ·rw [if_pos hk];exact .inl ⟨hw,mH h hp⟩
      ·rw [if_neg hk]
       refine ⟨.undef,.inl ⟨hw,rfl⟩,mH h ?_⟩
       by_cases h0:k=0
       ·rw [if_pos h0];exact hp
       ·rw [if_neg h0]
        intro q qD
        rcases List.mem_cons.1 qD with rfl | qD
        ·exact .inr ⟨hw,rfl⟩
        ·exact hp q qD
    ·exact h.elim
theorem aJ.weaken {E:Env} {T Ta:List AV} (h:Wk T Ta) {X:List Value} (k:aJ E Ta X):aJ E T X:=by
 refine aJ.Ip (by rw [h.len];exact k.length) fun i x y hx hy=>?_
 rcases h.at' i x hx with rfl | e
 ·trivial
 ·obtain ⟨y',h1,h2⟩:=k.get e
  rw [hy] at h1;cases h1;exact h2
theorem bK.weaken {c:Code} {Q:dy→St→Prop} {T Ta:List AV} {M:List Mk} {H:AH} (h:Wk T Ta) (k:bK P r c Q ⟨T,M,H⟩):bK P r c Q ⟨Ta,M,H⟩ :=
 fun E B w a rc hs hr=>k E B w a rc ⟨hs.heap,aJ.weaken h hs.tmps,hs.marks⟩ hr
def Gz (K:VK):dy→St→Prop:=fun e s=>∃T,Wk T s.T∧K e T s.M s.H
theorem wh {T:List AV} : ∀ {live:List Tmp} {T0:List AV},Wk T0 T→Wk (Cb live (live.map (look T)) T0) T
 | [],_,h=>h
 | t :: ts,T0,h=>by
  refine wh (live:=ts) ⟨by simpa using h.len,fun i v hv=>?_⟩
  rw [List.getElem?_set] at hv
  split at hv
  ·rename_i e;subst e
   split at hv
   ·rename_i cu
    cases hv
    refine .inr ?_
    have:t<T.length:=by rw [← h.len];exact cu
    unfold look
    rw [List.getElem?_eq_getElem this];rfl
   ·cases hv
  ·exact h.at' i v hv
theorem yM {T:List AV} {n:Nat} (hn:n=T.length) (live:List Tmp):Wk (JZ n live (live.map (look T))) T:=by
 refine wh ⟨by simp [hn],fun i v hv=>?_⟩
 rw [List.getElem?_replicate] at hv
 split at hv
 ·cases hv;exact .inl rfl
 ·cases hv
theorem G5 (hm:P.follows .mixedOrders=true) {aS:List dK} : ∀ {c:Code} {K:VK} {T:List AV} {M:List Mk} {H:AH},JU (real P r) P aS c K T M H→bK P r c (Gz K) ⟨T,M,H⟩:=by
 intro c
 induction c with
 | skip=>intro K T M H h;exact bK.skip ⟨T,Wk.refl T,h⟩
 | label l=>intro K T M H h;exact bK.label ⟨T,Wk.refl T,h⟩
 | exit id=>intro K T M H h;exact bK.exit ⟨T,Wk.refl T,h⟩
 | goto l=>intro K T M H h;exact bK.goto ⟨T,Wk.refl T,h⟩
 | ret=>intro K T M H h;exact bK.ret ⟨T,Wk.refl T,h⟩
 | refuse w=>intro K T M H h;exact h.elim
 | scope c ih=>intro K T M H h;exact h.elim
 | rangeFunc g ps a b Lu Bc=>intro K T M H h;exact h.elim
 | seq a b Lu Bc =>
  intro K T M H h
  refine bK.seq ((Lu h).mono ?_)
  rintro e s ⟨T',hw,hk⟩
  cases e with
  | normal=>exact bK.weaken hw (Bc hk)
  | exit id=>exact ⟨T',hw,hk⟩
  | goto l=>exact ⟨T',hw,hk⟩
  | ret=>exact ⟨T',hw,hk⟩
 | cond c x y Zm Zl =>
  intro K T M H h
  obtain ⟨v,hv,h⟩:=aW h
  split at h
  ·rename_i u
   refine bK.cond hv ?_
   cases u with
   | true=>exact Zm h
   | false=>exact Zl h
  ·exact h.elim
 | block id c ih =>
  intro K T M H h
  refine bK.block ((ih h).mono ?_)
  rintro e s ⟨T',hw,hk⟩
  cases e with
  | exit i =>
   simp only [mu]
   simp only [iT] at hk
   split
   ·rename_i e;rw [if_pos e] at hk;exact ⟨T',hw,hk⟩
   ·rename_i e;rw [if_neg e] at hk;exact ⟨T',hw,hk⟩
  | normal=>exact ⟨T',hw,hk⟩
  | goto l=>exact ⟨T',hw,hk⟩
  | ret=>exact ⟨T',hw,hk⟩
 | loop c ih =>
  intro K T M H h
  simp only [JU] at h
  split at h
  ·split at h
   ·rename_i a _
    obtain ⟨⟨x,j,hl,hi⟩,h⟩:=h
    refine bK.loop (j:=j) (fun j s=>∃x,a.inv x s.H j∧s.M=M∧Wk (JZ T.length a.live (a.qe x)) s.T) ⟨x,hi,rfl,by rw [← hl];exact yM rfl _⟩ ?_
    rintro j ⟨T1,M1,H1⟩ ⟨x,hi,rfl,hw⟩
    refine bK.weaken hw ((ih (h x H1 j hi)).mono ?_)
    rintro e s ⟨T2,FW,hk⟩
    cases e with
    | normal =>
     obtain ⟨hlen,hk⟩:=cV hk
     obtain ⟨hM,x',j',hj,J7,wY⟩:=wo hk
     refine ⟨j',hj,x',wY,hM,?_⟩
     rw [← J7]
     exact (yM (Nat.eq_of_beq_eq_true hlen).symm _).trans FW
    | exit id=>exact ⟨T2,FW,hk⟩
    | goto l=>exact ⟨T2,FW,hk⟩
    | ret=>exact ⟨T2,FW,hk⟩
   ·exact h.elim
  ·exact h.elim
 | region id ops draw =>
  intro K T M H h
  cases draw with
  | false =>
   refine bK.mono (bK.region (Q:=Gz K) ?_) fun _ _ h=>h
   have key : ∀ {l:List Oper} {T:List AV} {H:AH} {K1 K2:List AV→AH→Prop},(∀T H,K1 T H→K2 T H)→lI P r ops K1 l T H→lI P r ops K2 l T H:=by
    intro l
    induction l with
    | nil=>intro T H K1 K2 hk h;exact hk _ _ h
    | cons o l ih =>
     intro T H K1 K2 hk h
     rcases h with ⟨h1,h2⟩ | ⟨h1,h2⟩
     ·exact .inl ⟨h1,h2.mono fun v H' h=>ih hk h⟩
     ·exact .inr ⟨h1,ih hk h2⟩
   refine key ?_ (ij h (Rel.nil T) (fun _ h=>by cases h))
   rintro T' H' ⟨T2,cd,hR,hk⟩
   exact ⟨_,hR.drop,hk⟩
  | true =>
   simp only [JU] at h
   split at h
   ·rename_i σ A hd
    obtain ⟨cc,hd⟩:=xl hd
    unfold uV at hd
    simp only at hd
    split at hd
    ·rename_i hc
     simp only [Option.some.injEq,Prod.mk.injEq] at hd
     obtain ⟨rfl,rfl⟩:=hd
     simp only [Bool.and_eq_true,decide_eq_true_eq] at hc
     refine bK.draw hm (nu hc.1.1.2) hc.1.1.1 hc.1.2 ?_
     have key : ∀ {σ:List (Nat×Nat)} {aZ:qY} {T:List AV} {H:AH} {A:List Nat} {K1 K2:List AV→AH→Prop},(∀T H,K1 T H→K2 T H)→fX P r ops (eY A) K1 σ aZ T H→fX P r ops (eY A) K2 σ aZ T H:=by
      intro σ
      induction σ with
      | nil=>intro aZ T H A K1 K2 hk h;exact hk _ _ h
      | cons ik σ ih =>
       intro aZ T H A K1 K2 hk h
       obtain ⟨o,ho,h⟩:=h
       refine ⟨o,ho,?_⟩
       split at h
       ·rename_i F2
        rw [if_pos F2]
        rcases h with ⟨h1,h2⟩ | ⟨h1,h2⟩
        ·exact .inl ⟨h1,ih hk h2⟩
        ·exact .inr ⟨h1,h2.mono fun v H' h=>⟨h.1,ih hk h.2⟩⟩
       ·rename_i F2
        rw [if_neg F2]
        obtain ⟨v,h1,h2⟩:=h
        exact ⟨v,h1,ih hk h2⟩
     refine key ?_ (mH (lX:=[]) h (fun p hp=>by cases hp))
     intro T' H' hk
     exact ⟨_,Wk.refl _,hk⟩
    ·cases hd
   ·exact h.elim
theorem mU {T:List AV} {H:AH} : ∀ {l:List ResultVar} {k:List AV→Prop},yc (real P r) P T H l k→∃vs,dG P T H l=some vs∧k vs
 | [],_,h=>⟨[],rfl,h⟩
 | .tmp t :: l,k,h=>by
  obtain ⟨vs,h1,h2⟩:=mU (l:=l) h
  exact ⟨_,by simp [dG,h1];rfl,h2⟩
 | .cell a t :: l,k,h=>by
  obtain ⟨v,h1,h2⟩:=uj (φ:=none) h
  obtain ⟨vs,h3,h4⟩:=mU h2
  exact ⟨v :: vs,by simp only [dG];rw [show j7 P H t ((T[a]?).getD .undef)=some v from h1 rfl,h3];rfl,h4⟩
theorem mX {M:List Mk} {H:AH} {k:AH→Prop} (h:l8 (real P r) M H k) : ∃H',bR M H=some H'∧k H':=by
 unfold l8 at h
 split at h
 ·exact ⟨H,rfl,h⟩
 ·exact h
theorem c6 (hm:P.follows .mixedOrders=true) {aS:List dK} {f:FuncId} {args:List AV} {H:AH} {Q:AV→AH→Prop} (h:fG (real P none) P aS f args H Q):bL P f args H Q:=by
 unfold fG at h
 split at h
 ·rename_i fn hf
  split at h
  ·rename_i c hb
   refine bL.body hf hb ?_
   intro E B w a rc hs hr
   refine Go.wpIn_mono (G5 hm h E B w a rc hs hr) ?_
   rintro e a' w' ⟨ae,s',E',h1,⟨T',hw,hk⟩,h3,h4,h5⟩
   refine ⟨ae,⟨T',s'.M,s'.H⟩,E',h1,?_,h3,⟨h4.heap,aJ.weaken hw h4.tmps,h4.marks⟩,h5⟩
   cases ae with
   | normal =>
    obtain ⟨H',h6,h7⟩:=mX (P:=P) (r:=none) (show l8 (real P none) s'.M s'.H (fun H'=>yc (real P none) P T' H' fn.results.toList fun vs=>Q (oneOf vs) H') from hk)
    obtain ⟨vs,h8,h9⟩:=mU h7
    exact ⟨.inl rfl,H',vs,h6,h8,h9⟩
   | ret =>
    obtain ⟨H',h6,h7⟩:=mX (P:=P) (r:=none) (show l8 (real P none) s'.M s'.H (fun H'=>yc (real P none) P T' H' fn.results.toList fun vs=>Q (oneOf vs) H') from hk)
    obtain ⟨vs,h8,h9⟩:=mU h7
    exact ⟨.inr rfl,H',vs,h6,h8,h9⟩
   | exit id=>exact hk.elim
   | goto l=>exact hk.elim
  ·exact h.elim
 ·exact h.elim
end
end Go.Am
end
/- Contracts: pure functions leave the heap as it lies; small laws. -/
section
namespace Go.Am
open Go.RowKit
section
variable {P:Program} {r:Option Nat}
@[simp] theorem aK:(real P r).wrap=IntKind.wrap:=rfl
@[simp] theorem aF:(real P r).call=aD P:=rfl
@[simp] theorem HN:(real P r).cY=fun b=>vq P r (.cY b):=rfl
@[simp] theorem bu:(real P r).n=AH.n:=rfl
@[simp] theorem HP:(real P r).get=AH.get:=rfl
@[simp] theorem Av:(real P r).set=AH.set:=rfl
@[simp] theorem aU:(real P r).al=AH.alloc:=rfl
@[simp] theorem aQ:(real P r).aM=AH.ak:=rfl
@[simp] theorem aP:(real P r).bC=AH.read:=rfl
@[simp] theorem bU:(real P r).wr=AH.write:=rfl
@[simp] theorem eR:(real P r).app=fun t u x y H=>bV P H t u x y:=rfl
@[simp] theorem Qp:(real P r).V2=fun t x y H=>copyV P H t x y:=rfl
@[simp] theorem tT:(real P r).Px=fun t l c H=>cP P H t (.int .i64 l) (.int .i64 c):=rfl
@[simp] theorem jY:(real P r).Hp=fun t x lo hi mx H=>bZ P H t x lo hi mx:=rfl
@[simp] theorem HO:(real P r).str=fun v H=>nr H v:=rfl
@[simp] theorem KK:(real P r).bs=fun s d x H=>gR P H s d (.str x):=rfl
@[simp] theorem Qn:(real P r).idx=mq P:=rfl
@[simp] theorem Pv:(real P r).Gn=fun t x H=>JD P H t x:=rfl
@[simp] theorem Pu:(real P r).NL=fun t p n H=>eN P H t p n:=rfl
@[simp] theorem DM:(real P r).tm=bR:=rfl
@[simp] theorem Qo:(real P r).Sp=fun s d x H=>gR P H s d x:=rfl
end
theorem wrap_i64 {n:Int} (h : -9223372036854775808≤n) (h' : n≤9223372036854775807):IntKind.i64.wrap n=n:=by
 simp only [IntKind.wrap,IntKind.bits,IntKind.signed]
 by_cases h0:0≤n
 ·have:n % (2:Int) ^ 64=n:=Int.emod_eq_of_lt h0 (by omega)
  simp only [this,Bool.true_and]
  rw [if_neg (by simp;omega)]
 ·have:n % (2:Int) ^ 64=n+18446744073709551616:=by
   rw [show (2:Int) ^ 64=18446744073709551616 by decide]
   omega
  simp only [this,Bool.true_and]
  rw [if_pos (by simp;omega)]
  omega
theorem wrap_u64 {n:Int} (h:0≤n) (h' : n<18446744073709551616):IntKind.u64.wrap n=n:=by
 have:n % 18446744073709551616=n:=Int.emod_eq_of_lt h (by omega)
 simp [IntKind.wrap,IntKind.bits,IntKind.signed,this]
/-! ### Values without places -/
mutual
def AV.bT:AV→Bool
 | .bool _ | .int _ _ | .str _ | .ptr none | .slice none _ _ | .nilFunc | .nilIface | .map none=>true
 | .func _ x y=>AV.cZ x && AV.cZ y
 | .agg cs=>AV.cZ cs
 | .tuple vs=>AV.cZ vs
 | .iface _ v=>v.bT
 | _=>false
def AV.cZ:List AV→Bool
 | []=>true
 | v :: l=>v.bT && AV.cZ l
end
mutual
theorem VR.bT {E E' : Env} : ∀ {v:AV} {x:Value},v.bT=true→VR E v x→VR E' v x
 | .bool _,_,_,h=>h
 | .int _ _,_,_,h=>h
 | .str _,_,_,h=>h
 | .ptr none,_,_,h=>h
 | .ptr (some _),_,hs,_=>by simp [AV.bT] at hs
 | .slice none _ _,_,_,h=>h
 | .slice (some _) _ _,_,hs,_=>by simp [AV.bT] at hs
 | .func f x y,_,hs,h=>by
  simp only [AV.bT,Bool.and_eq_true] at hs
  obtain ⟨x',y',h1,h2,h3⟩:=h
  exact ⟨x',y',h1,aJ.bT hs.1 h2,aJ.bT hs.2 h3⟩
 | .nilFunc,_,_,h=>h
 | .cY _,_,hs,_=>by simp [AV.bT] at hs
 | .iface t v,_,hs,h=>by
  obtain ⟨y,h1,h2⟩:=h
  exact ⟨y,h1,VR.bT (by simpa [AV.bT] using hs) h2⟩
 | .nilIface,_,_,h=>h
 | .map none,_,_,h=>h
 | .map (some _),_,hs,_=>by simp [AV.bT] at hs
 | .half _ _,_,hs,_=>by simp [AV.bT] at hs
 | .rm,_,hs,_=>by simp [AV.bT] at hs
 | .agg cs,_,hs,h=>by
  obtain ⟨y,h1,h2⟩:=h
  exact ⟨y,h1,aJ.bT (by simpa [AV.bT] using hs) h2⟩
 | .tuple cs,_,hs,h=>by
  obtain ⟨y,h1,h2⟩:=h
  exact ⟨y,h1,aJ.bT (by simpa [AV.bT] using hs) h2⟩
 | .any,_,hs,_=>by simp [AV.bT] at hs
theorem aJ.bT {E E' : Env} : ∀ {vs:List AV} {xs:List Value},AV.cZ vs=true→aJ E vs xs→aJ E' vs xs
 | [],_,_,h=>h
 | v :: vs,_,hs,h=>by
  simp only [AV.cZ,Bool.and_eq_true] at hs
  obtain ⟨y,ys,h1,h2,h3⟩:=h
  exact ⟨y,ys,h1,VR.bT hs.1 h2,aJ.bT hs.2 h3⟩
end
section
variable {P:Program}
def aL (P:Program):AH:=⟨P.globals.size,.nil⟩
theorem HR.empty {E:Env} {B:eZ} {H:AH} {w:World} (h:HR P E B H w):HR P (fun b=>if b<P.globals.size then E b else (Option.none:Option Loc)) (eZ.up w.heap.size) (aL P) w:=by
 refine ⟨fun b L hb=>?_,fun b o hb=>(by cases hb),fun _ h=>h,fun g hg=>?_,fun b b' o o' L L' _ hb=>(by cases hb)⟩
 ·by_cases cu:b<P.globals.size
  ·exact cu
  ·rw [if_neg cu] at hb;cases hb
 ·obtain ⟨L,h1,h2⟩:=h.ke g hg
  exact ⟨L,by rw [if_pos hg];exact h1,h2⟩
theorem HR.kept {E:Env} {B:eZ} {H:AH} {w w' : World} (h:HR P E B H w) (hb:Below (eZ.up w.heap.size) w w'):HR P E B H w'∧Below B w w':=by
 refine ⟨⟨h.zj,fun b o RX=>?_,fun k hk=>Nat.lt_of_lt_of_le (h.base k hk) hb.size,h.ke,h.sep⟩,⟨hb.os,hb.tape,hb.output,hb.size,fun k hk=>hb.block k (h.base k hk)⟩⟩
 obtain ⟨L,hL,ho⟩:=h.obj b o RX
 refine ⟨L,hL,?_⟩
 by_cases hl:o.live=true
 ·exact ho.same (Env.le.refl E) (hb.block _ (ho.oD hl))
 ·cases o <;> first | trivial | exact absurd rfl hl
theorem bL.pure {f:FuncId} {args:List AV} {R:AV→Prop} (h:bL P f args (aL P) fun v' _=>R v') (ha:AV.cZ args=true) (hv : ∀v,R v→v.bT=true) (H:AH):bL P f args H fun v' H'=>R v'∧H'=H:=by
 intro E B w bD hH jw
 refine Calls.mono (h _ _ w bD hH.empty (aJ.bT ha jw)) ?_
 rintro e w' ⟨v',H',E',x,rfl,hR,_,_,hx,hb⟩
 obtain ⟨h1,h2⟩:=hH.kept hb
 exact ⟨_,H,E,x,rfl,⟨hR,rfl⟩,Env.le.refl E,h1,VR.bT (hv _ hR) hx,h2⟩
theorem aD.mono {f:FuncId} {args:List AV} {H:AH} {Q Q' : AV→AH→Prop} (h:aD P f args H Q) (hq : ∀v H,Q v H→Q' v H):aD P f args H Q':=by
 rcases h with ⟨h1,h2⟩ | h
 ·exact .inl ⟨h1,h2.mono hq⟩
 ·refine .inr fun E B w bD hH ha=>?_
  obtain ⟨v,H',E',w',x,k1,k2,k3⟩:=h E B w bD hH ha
  exact ⟨v,H',E',w',x,k1,hq _ _ k2,k3⟩
def ie (P:Program) (f:FuncId) (args:List AV) (R:AV→Prop):Prop:=∀H,aD P f args H fun v' H'=>R v'∧H'=H
abbrev Pure (P:Program) (f:FuncId) (args:List AV) (v:AV):Prop:=ie P f args fun v'=>v'=v
theorem ie.fB (hm:P.follows .mixedOrders=true) {f:FuncId} {args:List AV} {R:AV→Prop} (aS:List dK) (hg:qJ P f=true) (ha:AV.cZ args=true) (hv : ∀v,R v→v.bT=true)
  (h:fG (real P none) P aS f args (aL P) fun v' _=>R v'):ie P f args R:=fun H=>.inl ⟨aB hg,bL.pure (c6 hm h) ha hv H⟩
theorem Pure.fB (hm:P.follows .mixedOrders=true) {f:FuncId} {args:List AV} {v:AV} (aS:List dK) (hg:qJ P f=true) (ha:AV.cZ args=true) (hv:v.bT=true)
  (h:fG (real P none) P aS f args (aL P) fun v' _=>v'=v):Pure P f args v:=ie.fB hm aS hg ha (fun _ e=>by rw [e];exact hv) h
theorem ie.use {f:FuncId} {args:List AV} {R:AV→Prop} (h:ie P f args R) {H:AH} {K:AV→AH→Prop} (k : ∀v,R v→K v H):aD P f args H K:=(h H).mono fun v _ ⟨h1,h2⟩=>by rw [h2];exact k v h1
theorem ie.c7 {f:FuncId} {args:List AV} {v:AV} (h:Pure P f args v) {H:AH} {K:AV→AH→Prop} (k:K v H):aD P f args H K:=h.use fun _ e=>by rw [e];exact k
/-! Functions that read tables -/
def gm (l:oF) (H:AH):Prop:=∀t ∈ l,H.get t.1=some (.cells t.2.2 t.2.1 { own:=false })
theorem gm.alloc {l:oF} {H:AH} (h:gm l H) (hl : ∀t ∈ l,t.1<H.n) (o:aY):gm l (H.alloc o):=fun t ht=>by
 rw [AH.aa,if_neg (Nat.ne_of_lt (hl t ht))];exact h t ht
theorem gm.set {l:oF} {H:AH} (h:gm l H) {b:Nat} (hb : ∀t ∈ l,t.1 ≠ b) (o:aY):gm l (H.set b o):=fun t ht=>by
 rw [AH.af,if_neg (hb t ht)];exact h t ht
theorem HR.Ua {E:Env} {B:eZ} {H:AH} {w:World} {l:oF} (h:HR P E B H w) (hl:gm l H) (hg : ∀t ∈ l,t.1<P.globals.size∧AV.cZ t.2.2=true) :
  HR P (fun b=>if b<P.globals.size then E b else (Option.none:Option Loc)) (eZ.up w.heap.size) (fH P.globals.size l) w:=by
 have h0:=h.empty
 refine ⟨fun b L hb=>?_,fun b o hb=>?_,fun _ h=>h,h0.ke,fun b b' o o' L L' _ hb _ ho _ _ _=>?_⟩
 ·rw [zX];exact h0.zj b L hb
 ·obtain ⟨cs,rfl,_,e,hm,rfl⟩:=kB hb
  obtain ⟨cu,UR⟩:=hg _ hm
  obtain ⟨L,hL,X,lo,hi,h1,h2,h3,h4,h5,h6,h7,h8⟩:=h.obj _ _ (hl _ hm)
  exact ⟨L,by rw [if_pos cu];exact hL,X,lo,hi,h1,h2,h3,h4,aJ.bT UR h5,fun h=>(by cases h),h7,h8⟩
 ·obtain ⟨cs,rfl,_⟩:=kB hb
  cases ho
def xE (P:Program) (l:oF) (f:FuncId) (args:List AV) (R:AV→Prop):Prop:=∀H,gm l H→aD P f args H fun v' H'=>R v'∧H'=H
theorem xE.pz {l:oF} {f:FuncId} {args:List AV} {R:AV→Prop} (hg:qJ P f=true) (hl : ∀t ∈ l,t.1<P.globals.size∧AV.cZ t.2.2=true) (h:bL P f args (fH P.globals.size l) fun v' _=>R v')
  (ha:AV.cZ args=true) (hv : ∀v,R v→v.bT=true):xE P l f args R:=by
 intro H hT
 refine .inl ⟨aB hg,fun E B w bD hH jw=>?_⟩
 refine Calls.mono (h _ _ w bD (hH.Ua hT hl) (aJ.bT ha jw)) ?_
 rintro e w' ⟨v',H',E',x,rfl,hR,_,_,hx,hb⟩
 obtain ⟨h1,h2⟩:=hH.kept hb
 exact ⟨_,H,E,x,rfl,⟨hR,rfl⟩,Env.le.refl E,h1,VR.bT (hv _ hR) hx,h2⟩
theorem xE.use {l:oF} {f:FuncId} {args:List AV} {R:AV→Prop} (h:xE P l f args R) {H:AH} (hT:gm l H) {K:AV→AH→Prop} (k : ∀v,R v→K v H):aD P f args H K:=(h H hT).mono fun v _ ⟨h1,h2⟩=>by rw [h2];exact k v h1
theorem Pure.ext {X:Ext} (hX:jF P X) {f:FuncId} {args:List AV} {v:AV} (h : ∀H,X f args H=some (v,H)):Pure P f args v:=fun H=>hX f args H v H (h H)
end
/-! ### Runes -/
theorem cR (s:List UInt8) (i:Nat) :
  (ai s i 0<0x80∧ah s i=(ai s i 0,1)) ∨
  (0x80≤ai s i 0∧0x80≤(ah s i).1∧1≤(ah s i).2∧(ah s i).2≤4∧∀k,1≤k→k<(ah s i).2→i+k<s.length∧ai s i k / 64=2):=by
 unfold ah
 simp only
 have he:Utf8.runeError=65533:=rfl
 split
 ·exact .inl ⟨by assumption,rfl⟩
 ·rename_i h0
  refine .inr ?_
  have O0:0x80≤ai s i 0:=by omega
  split
  ·rename_i h1
   simp only [Bool.and_eq_true,beq_iff_eq,decide_eq_true_eq] at h1
   split
   ·rename_i h2
    exact ⟨O0,h2,by omega,by omega,fun k k1 k2=>by
     have e:k=1:=(by simp at k2;omega);subst e;exact h1.2⟩
   ·exact ⟨O0,by rw [he];decide,Nat.le_refl 1,(by decide:1≤4),fun k k1 k2=>by simp at k2;omega⟩
  ·split
   ·rename_i h1
    simp only [Bool.and_eq_true,beq_iff_eq,decide_eq_true_eq] at h1
    split
    ·rename_i h2
     simp only [Bool.and_eq_true,decide_eq_true_eq] at h2
     refine ⟨O0,by have:=h2.1;simp only;omega,(by decide:1≤3),(by decide:3≤4),fun k k1 k2=>?_⟩
     have Tb:k<3:=k2
     rcases (by omega:k=1∨k=2) with rfl | rfl
     ·exact h1.1.2
     ·exact h1.2
    ·exact ⟨O0,by rw [he];decide,Nat.le_refl 1,(by decide:1≤4),fun k k1 k2=>by simp at k2;omega⟩
   ·split
    ·rename_i h1
     simp only [Bool.and_eq_true,beq_iff_eq,decide_eq_true_eq] at h1
     split
     ·rename_i h2
      simp only [Bool.and_eq_true,decide_eq_true_eq] at h2
      refine ⟨O0,by have:=h2.1;simp only;omega,(by decide:1≤4),(by decide:4≤4),fun k k1 k2=>?_⟩
      have Tb:k<4:=k2
      rcases (by omega:k=1∨k=2∨k=3) with rfl | rfl | rfl
      ·exact h1.1.1.2
      ·exact h1.1.2
      ·exact h1.2
     ·exact ⟨O0,by rw [he];decide,Nat.le_refl 1,(by decide:1≤4),fun k k1 k2=>by simp at k2;omega⟩
    ·exact ⟨O0,by rw [he];decide,Nat.le_refl 1,(by decide:1≤4),fun k k1 k2=>by simp at k2;omega⟩
theorem cw (s:List UInt8) (i:Nat) (h:i<s.length):1≤(ah s i).2∧i+(ah s i).2≤s.length:=by
 rcases cR s i with ⟨h1,h2⟩ | ⟨h1,h2,h3,h4,h5⟩
 ·rw [h2];exact ⟨Nat.le_refl 1,h⟩
 ·refine ⟨h3,?_⟩
  by_cases e:(ah s i).2=1
  ·rw [e];exact h
  ·have:=(h5 ((ah s i).2 - 1) (by omega) (by omega)).1;omega
theorem HE {s:List UInt8} {i k:Nat} (h:i+k<s.length):ai s i k=(s[i+k]'h).toNat:=by
 unfold ai;rw [List.getElem?_eq_getElem h];rfl
end Go.Am
end
/- Iterators: what a range over a function asks. -/
section
namespace Go.Am
open Go.RowKit
def Iter (P:Program) (gf:FuncId) (x y:List AV) (Cap:AH→Prop) (xs:List (List AV)):Prop :=
 ∀(b:Nat) (J:Nat→List Nat→AH→Prop) (D:List Nat→AH→Prop) (H0:AH),b<H0.n →
  (∀i W H o,J i W H→J i (H.n :: W) (H.alloc o))→(∀i W H c o,c ∈ W→J i W H→J i W (H.set c o)) →
  (∀W H o,D W H→D (H.n :: W) (H.alloc o))→(∀W H c o,c ∈ W→D W H→D W (H.set c o)) →
  (∀i W H,J i W H→Cap H)→J 0 [] H0 →
  (∀r i W H1 vs,xs[i]? = some vs→J i W H1→(∀c ∈ W,c<H1.n)→vq P r (.cY b) vs H1 fun v H2 =>
   H1.n≤H2.n∧(∀c ∈ W,H2.get c=H1.get c)∧((v=.bool true∧J (i+1) W H2)∨(v=.bool false∧D W H2))) →
  bL P gf (x ++ [.cY b] ++ y) H0 fun _ H'=>∃W,J xs.length W H'∨D W H'
def codeOf:dy→Code
 | .normal=>.skip
 | .ret=>.ret
 | .exit id=>.exit id
 | .goto l=>.goto l
structure ri (b:Nat) (H H' : AH):Prop where
 n:H'.n=H.n
 get : ∀c,c ≠ b→H'.get c=H.get c
 put : ∃o,H'=H.set b o
structure zB (H H2:AH):Prop where
 n:H2.n=H.n+2
 get : ∀c,c<H.n→H2.get c=H.get c
 made : ∃o1 o2,H2=(H.alloc o1).alloc o2
theorem ri.set (b:Nat) (H:AH) (o:aY):ri b H (H.set b o):=⟨rfl,fun c hc=>by rw [AH.af,if_neg hc],o,rfl⟩
section
variable {P:Program}
theorem bK.Cw {g:Operand} {ps:Array Tmp} {as bd:Code} {gf:FuncId} {x y T:List AV} {M:List Mk} {H:AH} {Q:dy→St→Prop} (ia:Goes P gf) (hg:ev P T g=some (.func (.func gf) x y))
  {Cap:AH→Prop} {xs:List (List AV)} (hI:Iter P gf x y Cap xs) (inv:Nat→List Nat→AH→Prop) (stop:dy→List Nat→AH→Prop)
  (s1 : ∀i W H o,inv i W H→inv i (H.n :: W) (H.alloc o)) (s2 : ∀i W H c o,c ∈ W→inv i W H→inv i W (H.set c o))
  (s3 : ∀e W H o,stop e W H→stop e (H.n :: W) (H.alloc o)) (s4 : ∀e W H c o,c ∈ W→stop e W H→stop e W (H.set c o))
  (hC : ∀i W H,inv i W H→Cap H) (h0 : ∀H2,zB H H2→inv 0 [H.n+1,H.n] H2) (hl : ∀vs ∈ xs,vs.length=ps.size)
  (hb : ∀i W H1 vs,xs[i]? = some vs→inv i W H1→(∀c ∈ W,c<H1.n)→H.n+1 ∈ W→bK P (some (H.n+1)) as (DI (fun s=>H1.n≤s.H.n∧(∀c ∈ W,s.H.get c=H1.get c)∧∀H4,ri (H.n+1) s.H H4 →
   bK P (some (H.n+1)) bd (fun e s2=>H1.n≤s2.H.n∧(∀c ∈ W,s2.H.get c=H4.get c)∧∀H6,ri (H.n+1) s2.H H6→match e with | .normal=>inv (i+1) W H6 | e=>stop e W H6) ⟨s.T,s.M,H4⟩)
   (fun _ _=>False)) ⟨iK ps.toList vs T,[],H1⟩)
  (ha : ∀W H1,inv xs.length W H1→∀H6,ri (H.n+1) H1 H6→H6.get H.n=some .deferred→Q .normal ⟨T,.mark H.n :: M,H6⟩)
  (hs : ∀e W H1,stop e W H1→∀H6,ri (H.n+1) H1 H6→H6.get H.n=some .deferred→Q e ⟨T,.mark H.n :: M,H6⟩) :
  bK P none (.rangeFunc g ps as bd) Q ⟨T,M,H⟩:=by
 refine bK.rangeFunc ia hg ?_
 show bL P gf (x ++ [.cY (H.n+1)] ++ y) ((H.alloc .deferred).alloc (.loop .ready none T ps as bd H.n)) _
 have OY:((H.alloc .deferred).alloc (.loop .ready none T ps as bd H.n)).n=H.n+2:=rfl
 refine (hI (H.n+1) (fun i W H'=>inv i (W ++ [H.n+1,H.n]) H'∧H'.get (H.n+1)=some (.loop .ready none T ps as bd H.n)∧H'.get H.n=some .deferred∧H.n+1 ∉ W∧H.n ∉ W∧H.n+1<H'.n)
  (fun W H'=>∃e,e ≠ .normal∧stop e (W ++ [H.n+1,H.n]) H'∧H'.get (H.n+1)=some (.loop .done (some (codeOf e)) T ps as bd H.n)∧H'.get H.n=some .deferred∧H.n+1 ∉ W∧H.n ∉ W∧H.n+1<H'.n)
  _ (by rw [OY];omega) ?_ ?_ ?_ ?_ ?_ ?_ ?_).mono ?_
 ·rintro i W H' o ⟨k1,k2,k3,k4,k5,k6⟩
  refine ⟨s1 _ _ _ _ k1,by rw [AH.aa,if_neg (by omega)];exact k2,by rw [AH.aa,if_neg (by omega)];exact k3,?_,?_,by simp;omega⟩
  ·simp only [List.mem_cons,not_or];exact ⟨by omega,k4⟩
  ·simp only [List.mem_cons,not_or];exact ⟨by omega,k5⟩
 ·rintro i W H' c o hc ⟨k1,k2,k3,k4,k5,k6⟩
  have n1:c ≠ H.n+1:=fun e=>k4 (e ▸ hc)
  have n2:c ≠ H.n:=fun e=>k5 (e ▸ hc)
  exact ⟨s2 _ _ _ _ _ (List.mem_append_left _ hc) k1,by rw [AH.af,if_neg (Ne.symm n1)];exact k2,by rw [AH.af,if_neg (Ne.symm n2)];exact k3,k4,k5,by simpa using k6⟩
 ·rintro W H' o ⟨e,k0,k1,k2,k3,k4,k5,k6⟩
  refine ⟨e,k0,s3 _ _ _ _ k1,by rw [AH.aa,if_neg (by omega)];exact k2,by rw [AH.aa,if_neg (by omega)];exact k3,?_,?_,by simp;omega⟩
  ·simp only [List.mem_cons,not_or];exact ⟨by omega,k4⟩
  ·simp only [List.mem_cons,not_or];exact ⟨by omega,k5⟩
 ·rintro W H' c o hc ⟨e,k0,k1,k2,k3,k4,k5,k6⟩
  have n1:c ≠ H.n+1:=fun e=>k4 (e ▸ hc)
  have n2:c ≠ H.n:=fun e=>k5 (e ▸ hc)
  exact ⟨e,k0,s4 _ _ _ _ _ (List.mem_append_left _ hc) k1,by rw [AH.af,if_neg (Ne.symm n1)];exact k2,by rw [AH.af,if_neg (Ne.symm n2)];exact k3,k4,k5,by simpa using k6⟩
 ·rintro i W H' ⟨k1,_⟩;exact hC _ _ _ k1
 ·refine ⟨h0 _ ⟨OY,fun c hc=>?_,_,_,rfl⟩,?_,?_,by simp,by simp,by rw [OY];omega⟩
  ·rw [AH.aa,if_neg (by simp;omega),AH.aa,if_neg (by omega)]
  ·rw [AH.aa,if_pos (by simp)]
  ·rw [AH.aa,if_neg (by simp),AH.aa,if_pos rfl]
 ·rintro r i W H1 vs IU ⟨k1,k2,k3,k4,k5,k6⟩ hW
  intro dst f My ts ty pos after guard T1 hf hx
  refine jT.yield hf hx k2 (hl vs (List.mem_iff_getElem?.2 ⟨i,IU⟩)) ?_
  have VH : ∀c ∈ W ++ [H.n+1,H.n],c<H1.n:=by
   intro c hc
   simp only [List.mem_append,List.mem_cons,List.mem_nil_iff,or_false] at hc
   rcases hc with hc | rfl | rfl
   ·exact hW c hc
   ·exact k6
   ·omega
  refine (hb i (W ++ [H.n+1,H.n]) H1 vs IU k1 VH (by simp)).mono ?_
  intro e s hp
  cases e with
  | exit id=>exact hp.elim
  | goto l=>exact hp.elim
  | ret=>exact hp.elim
  | normal =>
   obtain ⟨hn,wT,Jb⟩:=hp
   have ZK:=(wT (H.n+1) (by simp)).trans k2
   refine ⟨_,_,_,_,_,_,ZK,?_⟩
   have Vx:=ri.set (H.n+1) s.H (.loop .busy none T ps as bd H.n)
   refine (Jb _ Vx).mono ?_
   rintro e s2 ⟨GN,C2,LM⟩
   have F4:s2.H.get (H.n+1)=some (.loop .busy none T ps as bd H.n):=by rw [C2 _ (by simp),AH.af,if_pos rfl]
   have OS:s2.H.get H.n=some .deferred:=by rw [C2 _ (by simp),AH.af,if_neg (by omega),wT _ (by simp)];exact k3
   refine ⟨_,_,_,_,_,_,_,F4,?_⟩
   have fin : ∀o:aY,(s2.H.set (H.n+1) o).get H.n=some .deferred:=fun o=>by rw [AH.af,if_neg (by omega)];exact OS
   have own : ∀(o:aY) c,c ∈ W→(s2.H.set (H.n+1) o).get c=H1.get c:=fun o c hc=>by
    have n1:c ≠ H.n+1:=fun e=>k4 (e ▸ hc)
    rw [AH.af,if_neg n1,C2 c (List.mem_append_left _ hc),AH.af,if_neg n1,wT c (List.mem_append_left _ hc)]
   have sE : ∀o:aY,ri (H.n+1) s2.H (s2.H.set (H.n+1) o):=fun o=>ri.set _ _ _
   cases e with
   | normal=>exact ⟨GN,own _,.inl ⟨rfl,LM _ (sE _),by rw [AH.af,if_pos rfl],fin _,k4,k5,by simp;omega⟩⟩
   | ret=>exact ⟨GN,own _,.inr ⟨rfl,.ret,by simp,LM _ (sE _),by rw [AH.af,if_pos rfl];rfl,fin _,k4,k5,by simp;omega⟩⟩
   | exit id=>exact ⟨GN,own _,.inr ⟨rfl,.exit id,by simp,LM _ (sE _),by rw [AH.af,if_pos rfl];rfl,fin _,k4,k5,by simp;omega⟩⟩
   | goto l=>exact ⟨GN,own _,.inr ⟨rfl,.goto l,by simp,LM _ (sE _),by rw [AH.af,if_pos rfl];rfl,fin _,k4,k5,by simp;omega⟩⟩
 ·rintro v H' ⟨W,⟨k1,k2,k3,k4,k5,k6⟩ | ⟨e,k0,k1,k2,k3,k4,k5,k6⟩⟩
  ·refine ⟨_,_,_,_,_,_,_,k2,by simp,?_⟩
   exact ha _ _ k1 _ (ri.set _ _ _) (by rw [AH.af,if_neg (by show ¬ H.n=H.n+1;omega)];exact k3)
  ·refine ⟨_,_,_,_,_,_,_,k2,by simp,?_⟩
   have hq:=hs e _ _ k1 _ (ri.set (H.n+1) H' .dead) (by rw [AH.af,if_neg (by show ¬ H.n=H.n+1;omega)];exact k3)
   cases e with
   | normal=>exact absurd rfl k0
   | ret=>exact bK.ret hq
   | exit id=>exact bK.exit hq
   | goto l=>exact bK.goto hq
end
end Go.Am
end
/- What code asks, with labels, and with ranges over functions. -/
section
namespace Go.Am
open Go.RowKit
structure mO where
 key:Nat
 β:Type
 γ:Type
 fn:FuncId
 held:β→List AV×List AV
 el:γ→List AV
 xs:β→List γ
 cap:β→AH→Prop
 inv:β→Nat→List Nat→AH→Prop
 outs:List dy
 stop:β→dy→List Nat→AH→Prop
def El (k:Nat):List mO→Option mO
 | []=>none
 | a :: l=>bif Nat.beq a.key k then some a else El k l
def L4:dy→dy→Bool
 | .normal,.normal=>true
 | .ret,.ret=>true
 | .exit a,.exit b=>Nat.beq a b
 | .goto a,.goto b=>Nat.beq a b
 | _,_=>false
theorem Gc {a b:dy} (h:L4 a b=true):a=b:=by
 cases a <;> cases b <;> simp only [L4] at h <;> first | rfl | cases h | (rw [Nat.eq_of_beq_eq_true h])
def AK (e:dy):List dy→Bool
 | []=>false
 | a :: l=>bif L4 e a then true else AK e l
structure tq (inv:Nat→List Nat→AH→Prop) (stop:dy→List Nat→AH→Prop) (cap:AH→Prop):Prop where
 s1 : ∀i W H o,inv i W H→inv i (H.n :: W) (H.alloc o)
 s2 : ∀i W H c o,c ∈ W→inv i W H→inv i W (H.set c o)
 s3 : ∀e W H o,stop e W H→stop e (H.n :: W) (H.alloc o)
 s4 : ∀e W H c o,c ∈ W→stop e W H→stop e W (H.set c o)
 cap : ∀i W H,inv i W H→cap H
def JT (W:List Nat) (H:AH):Prop:=∀c ∈ W,c<H.n
def Still (W:List Nat) (H1 H H' : AH):Prop:=H1.n≤H'.n∧∀c ∈ W,H'.get c=H.get c
def Wi (b:Nat) (W:List Nat):Prop:=b ∈ W
def G4 (b:Nat) (H:AH):Prop:=H.get b=some .deferred
def Mt {α:Type}:List α→(α→Prop)→Prop
 | [],_=>True
 | [a],f=>f a
 | a :: l,f=>f a∧Mt l f
theorem vk {α:Type} : ∀ {l:List α} {f:α→Prop},Mt l f→∀a ∈ l,f a
 | [],_,_,_,h=>by cases h
 | [a],f,h,b,hb=>by simp at hb;exact hb ▸ h
 | a :: c :: l,f,h,b,hb=>by
  rcases List.mem_cons.1 hb with rfl | hb
  ·exact h.1
  ·exact vk (l:=c :: l) h.2 b hb
def dY:Code→List Nat
 | .seq a b=>dY a ++ dY b
 | .label l=>[l]
 | _=>[]
theorem vP : ∀ {c:Code} {l:Nat} {rest:Code},findLabel c l=some rest→l ∈ dY c:=by
 intro c
 induction c with
 | seq a b Lu Bc =>
  intro l rest h
  simp only [findLabel] at h
  simp only [dY,List.mem_append]
  split at h
  ·rename_i hr;exact .inl (Lu hr)
  ·exact .inr (Bc h)
 | label l' =>
  intro l rest h
  simp only [findLabel] at h
  split at h
  ·rename_i e;simp only [dY,List.mem_singleton];exact (beq_iff_eq.1 e).symm
  ·cases h
 | _=>intro l rest h;cases h
def bx:Code→Nat→Option Code
 | .seq a b,l=>match a with
  | .label l'=>if l' == l then some b else bx b l
  | _=>bx b l
 | _,_=>none
def nP:Code→Bool
 | .seq a b=>(match a with | .label l=>!(dY b).contains l | a=>(dY a).isEmpty) && nP b
 | .label _=>false
 | _=>true
theorem nX : ∀ {c:Code} {l:Nat} {b:Code},bx c l=some b→l ∈ dY c:=by
 intro c
 induction c with
 | seq a b Lu Bc =>
  intro l b' h
  simp only [dY,List.mem_append]
  cases a with
  | label l' =>
   simp only [bx] at h
   split at h
   ·rename_i e;exact .inl (by simp only [dY,List.mem_singleton];exact (beq_iff_eq.1 e).symm)
   ·exact .inr (Bc h)
  | _=>exact .inr (Bc h)
 | _=>intro l b h;cases h
theorem xM : ∀ {c:Code} {l:Nat} {b:Code},bx c l=some b→(findLabel c l).isSome=true:=by
 intro c
 induction c with
 | seq a b Lu Bc =>
  intro l b' h
  simp only [findLabel]
  split
  ·rfl
  ·rename_i hn
   cases a with
   | label l' =>
    simp only [bx] at h
    simp only [findLabel] at hn
    split at h
    ·rename_i e;rw [if_pos e] at hn;cases hn
    ·exact Bc h
   | _=>exact Bc h
 | _=>intro l b h;cases h
theorem zT : ∀ {c:Code} {l:Nat} {b:Code},nP c=true→bx c l=some b→nP b=true∧∀l',(bx b l').isSome=true→bx c l'=bx b l':=by
 intro c
 induction c with
 | seq a b Lu Bc =>
  intro l b' hf h
  simp only [nP,Bool.and_eq_true] at hf
  have sub : ∀l',(bx b l').isSome=true→bx (.seq a b) l'=bx b l':=by
   intro l' hs
   cases a with
   | label l2 =>
    simp only [bx]
    rw [if_neg]
    intro e
    obtain ⟨b2,F4⟩:=Option.isSome_iff_exists.1 hs
    have:=nX F4
    have h1:=hf.1
    simp only [Bool.not_eq_true'] at h1
    rw [← beq_iff_eq.1 e] at this
    rw [List.contains_iff_mem.2 this] at h1
    cases h1
   | _=>rfl
  have rest:bx b l=some b'→nP b'=true∧∀l',(bx b' l').isSome=true→bx (.seq a b) l'=bx b' l':=by
   intro h
   obtain ⟨h1,h2⟩:=Bc hf.2 h
   refine ⟨h1,fun l' hs=>?_⟩
   have:=h2 l' hs
   rw [← this]
   exact sub l' (by rw [this];exact hs)
  cases a with
  | label l2 =>
   simp only [bx] at h
   split at h
   ·cases h;exact ⟨hf.2,sub⟩
   ·exact rest h
  | _=>exact rest h
 | _=>intro l b _ h;cases h
theorem uQ : ∀ {c:Code} {l:Nat} {rest:Code},nP c=true→findLabel c l=some rest→∃b,bx c l=some b∧rest=.seq .skip b:=by
 intro c
 induction c with
 | seq a b Lu Bc =>
  intro l rest hf h
  simp only [nP,Bool.and_eq_true] at hf
  simp only [findLabel] at h
  split at h
  ·rename_i ra hr
   have hm:=vP hr
   cases a with
   | label l' =>
    simp only [findLabel] at hr
    split at hr
    ·rename_i e
     cases hr;cases h
     exact ⟨b,by simp only [bx];rw [if_pos e],rfl⟩
    ·cases hr
   | _=>have h1:=hf.1;simp only [List.isEmpty_iff] at h1;rw [h1] at hm;cases hm
  ·rename_i hr
   obtain ⟨b',h1,h2⟩:=Bc hf.2 h
   refine ⟨b',?_,h2⟩
   cases a with
   | label l' =>
    simp only [findLabel] at hr
    split at hr
    ·cases hr
    ·rename_i e;simp only [bx];rw [if_neg e];exact h1
   | _=>exact h1
 | label l'=>intro l rest hf h;cases hf
 | _=>intro l rest _ h;cases h
section
variable (X:Option Nat→aO) (It:FuncId→List AV→List AV→(AH→Prop)→List (List AV)→Prop) (P:Program) (aS:List dK) (c9:List mO)
def Eb (a:dK) (n:Nat) (M:List Mk) (low:Nat→Prop) (T:List AV) (M2:List Mk) (H:AH):Prop :=
 bif Nat.beq T.length n then DJ M2 M (∃x j,low j∧a.live.map (look T)=a.qe x∧a.inv x H j) else False
def rT (c:Code) (n:Nat) (M:List Mk) (low:Nat→Prop) (K:VK):VK:=fun e T M2 H =>
 match e with
 | .goto l=>match findLabel c l with
  | some _=>match iw (100000+l) aS with
   | some a=>Eb a n M low T M2 H
   | none=>False
  | none=>K (.goto l) T M2 H
 | e=>K e T M2 H
def nZ (V:Code→VK→List AV→List Mk→AH→Prop):Code→VK→List AV→List Mk→AH→Prop
 | .seq a b,K,T,M,H=>match a with
  | .label l=>match iw (100000+l) aS with
   | some _=>K (.goto l) T M H
   | none=>nZ V b K T M H
  | a=>V a (fun e T M H=>match e with | .normal=>nZ V b K T M H | e=>K e T M H) T M H
 | c,K,T,M,H=>V c K T M H
def Sq (b:Code):Option dK :=
 match cX b with
 | some k=>iw (200000+k) aS
 | none=>none
def vz:Nat→Option Nat→Code→VK→List AV→List Mk→AH→Prop
 | 0,_,_,_,_,_,_=>False
 | n+1,r,c,K,T,M,H=>match c with
  | .skip=>K .normal T M H
  | .label _=>K .normal T M H
  | .exit id=>K (.exit id) T M H
  | .goto l=>K (.goto l) T M H
  | .ret=>K .ret T M H
  | .refuse _=>False
  | .seq a b=>match Sq aS b with
   | some an=>∃J:an.α→AH→Prop,vz n r a (fun e T2 M2 H2=>match e with
      | .normal=>Eb { an with inv:=fun x H _=>J x H } T.length M (fun _=>True) T2 M2 H2
      | e=>K e T2 M2 H2) T M H∧∀x H',J x H'→vz n r b K (JZ T.length an.live (an.qe x)) M H'
   | none=>vz n r a (fun e T M H=>match e with | .normal=>vz n r b K T M H | e=>K e T M H) T M H
  | .cond c x y=>vK (ev P T c) fun v=>match v with
   | .bool u=>cond u (vz n r x K T M H) (vz n r y K T M H)
   | _=>False
  | .block id c=>vz n r c (fun e=>K (iT id e)) T M H
  | .loop c=>match cX c with
   | some k=>match iw k aS with
    | some a=>∃I:a.α→AH→Nat→Prop,(∃x j,a.live.map (look T)=a.qe x∧I x H j)∧∀x H' j,I x H' j →
      vz n r c (fun e T2 M2 H2=>match e with
       | .normal=>Eb { a with inv:=I } T.length M (fun j'=>j'<j) T2 M2 H2
       | e=>K e T2 M2 H2) (JZ T.length a.live (a.qe x)) M H'
    | none=>False
   | none=>False
  | .scope c=>cond (nP c) (nZ aS (vz n r) c (rT aS c T.length M (fun _=>True) K) T M H∧Mt (dY c) fun l =>
    match iw (100000+l) aS with
    | some a=>match bx c l with
     | some rest=>∀x H' j,a.inv x H' j→nZ aS (vz n r) rest (rT aS c T.length M (fun j'=>j'<j) K) (JZ T.length a.live (a.qe x)) M H'
     | none=>True
    | none=>True) False
  | .rangeFunc g ps as bd=>match r with
   | some _=>False
   | none=>match El ((cX (.rangeFunc g ps as bd)).getD 0) c9 with
    | none=>False
    | some a=>vK (ev P T g) fun v=>cond (qJ P a.fn) (∃z:a.β,v=.func (.func a.fn) (a.held z).1 (a.held z).2∧It a.fn (a.held z).1 (a.held z).2 (a.cap z) ((a.xs z).map a.el)∧tq (a.inv z) (a.stop z) (a.cap z)∧(∀k:a.γ,(a.el k).length=ps.size) ∧
       (∀H2,zB H H2→a.inv z 0 [(X none).n H+1,(X none).n H] H2) ∧
       (∀i W H1 (k:a.γ),(a.xs z)[i]? = some k→a.inv z i W H1→JT W H1→Wi ((X none).n H+1) W →
        vz n (some ((X none).n H+1)) as (fun e T3 M3 H3=>match e with
         | .normal=>Still W H1 H1 H3∧∀H4,ri ((X none).n H+1) H3 H4→vz n (some ((X none).n H+1)) bd (fun e _ _ H5=>Still W H1 H4 H5∧∀H6,ri ((X none).n H+1) H5 H6 →
           match e with
           | .normal=>a.inv z (i+1) W H6
           | e=>cond (AK e a.outs) (a.stop z e W H6) False) T3 M3 H4
         | _=>False) (iK ps.toList (a.el k) T) [] H1) ∧
       (∀W H1 H6,a.inv z (a.xs z).length W H1→ri ((X none).n H+1) H1 H6→G4 ((X none).n H) H6→K .normal T (.mark ((X none).n H) :: M) H6) ∧
       Mt a.outs fun e=>∀W H1 H6,a.stop z e W H1→ri ((X none).n H+1) H1 H6→G4 ((X none).n H) H6→K e T (.mark ((X none).n H) :: M) H6) False
  | .region _ ops draw=>match draw with
   | false=>j4 (X r) P ops ops.toList T [] [] H fun T' cd H'=>K .normal (oz T' cd) M H'
   | true=>match oA ops with
    | some (σ,A)=>nR (X r) P ops A σ [] T H fun T' H'=>K .normal T' M H'
    | none=>False
def nx (f:FuncId) (args:List AV) (H:AH) (Q:AV→AH→Prop):Prop :=
 match P.funcs[f]? with
 | some fn=>match fn.body with
  | some c=>vz X It P aS c9 4000 none c (Ql (X none) P fn Q) (args ++ List.replicate (fn.ntmps - args.length) .undef) [] H
  | none=>False
 | none=>False
end
section
variable {P:Program} {aS:List dK} {c9:List mO}
theorem ot {a:dK} {n:Nat} {M:List Mk} {low:Nat→Prop} {T:List AV} {M2:List Mk} {H:AH} (h:Eb a n M low T M2 H) : ∃x j,low j∧M2=M∧a.inv x H j∧Wk (JZ n a.live (a.qe x)) T:=by
 obtain ⟨hlen,hk⟩:=cV h
 obtain ⟨hM,x,j,hj,hl,hi⟩:=wo hk
 exact ⟨x,j,hj,hM,hi,by rw [← hl];exact yM (Nat.eq_of_beq_eq_true hlen).symm _⟩
theorem NK (hm:P.follows .mixedOrders=true) : ∀ {n:Nat} {r:Option Nat} {c:Code} {K:VK} {T:List AV} {M:List Mk} {H:AH},vz (real P) (Iter P) P aS c9 n r c K T M H→bK P r c (Gz K) ⟨T,M,H⟩:=by
 intro n
 induction n with
 | zero=>intro r c K T M H h;exact h.elim
 | succ n ih =>
 intro r c K T M H h
 cases c with
 | skip=>exact bK.skip ⟨T,Wk.refl T,h⟩
 | label l=>exact bK.label ⟨T,Wk.refl T,h⟩
 | exit id=>exact bK.exit ⟨T,Wk.refl T,h⟩
 | goto l=>exact bK.goto ⟨T,Wk.refl T,h⟩
 | ret=>exact bK.ret ⟨T,Wk.refl T,h⟩
 | refuse w=>exact h.elim
 | scope c =>
  obtain ⟨hf,h0,hl⟩:=cV h
  have jump : ∀ {low:Nat→Prop} {e:dy} {s:St},Gz (rT aS c T.length M low K) e s →
    dc c (fun l s=>∃j,low j∧∃a x,iw (100000+l) aS=some a∧a.inv x s.H j∧s.M=M∧Wk (JZ T.length a.live (a.qe x)) s.T) (Gz K) e s:=by
   rintro low e s ⟨T2,hw,hk⟩
   cases e with
   | normal=>exact ⟨T2,hw,hk⟩
   | exit id=>exact ⟨T2,hw,hk⟩
   | ret=>exact ⟨T2,hw,hk⟩
   | goto l =>
    simp only [dc]
    simp only [rT] at hk
    split at hk
    ·rename_i hf
     rw [if_pos (by rw [hf];rfl)]
     split at hk
     ·rename_i a ha
      obtain ⟨x,j,hj,hM,hi,Q6⟩:=ot hk
      exact ⟨j,hj,a,x,ha,hi,hM,Q6.trans hw⟩
     ·exact hk.elim
    ·rename_i hf
     rw [if_neg (by rw [hf];simp)]
     exact ⟨T2,hw,hk⟩
  have up : ∀ {J1 J2:Nat→St→Prop} {e:dy} {s:St},(∀l s,J1 l s→J2 l s)→dc c J1 (Gz K) e s→dc c J2 (Gz K) e s:=by
   intro J1 J2 e s hJ h
   cases e with
   | goto l =>
    simp only [dc] at h ⊢
    split at h
    ·rename_i hs;rw [if_pos hs];exact hJ _ _ h
    ·rename_i hs;rw [if_neg hs];exact h
   | normal=>exact h
   | exit id=>exact h
   | ret=>exact h
  obtain ⟨G,hG⟩ : ∃G:Nat→Nat→St→Prop,G=fun l j s=>∃a x,iw (100000+l) aS=some a∧a.inv x s.H j∧s.M=M∧Wk (JZ T.length a.live (a.qe x)) s.T:=⟨_,rfl⟩
  have A8 : ∀ {low:Nat→Prop} {e:dy} {s:St},Gz (rT aS c T.length M low K) e s→dc c (fun l s=>∃j,low j∧G l j s) (Gz K) e s:=by rw [hG];exact jump
  have row : ∀(low:Nat→Prop),(∀l b j s,low j→bx c l=some b→G l j s→bK P r b (dc c (fun l s=>∃j,low j∧G l j s) (Gz K)) s) →
    ∀ {b:Code} {T1:List AV} {M1:List Mk} {H1:AH},nP b=true→(∀l,(bx b l).isSome=true→bx c l=bx b l)→nZ aS (vz (real P) (Iter P) P aS c9 n r) b (rT aS c T.length M low K) T1 M1 H1 →
     bK P r b (dc c (fun l s=>∃j,low j∧G l j s) (Gz K)) ⟨T1,M1,H1⟩:=by
   intro low hyp b
   induction b with
   | seq a b Lu Bc =>
    intro T1 M1 H1 LN C0 h
    have aag:=LN
    simp only [nP,Bool.and_eq_true] at LN
    have MW : ∀l,(bx b l).isSome=true→bx c l=bx b l:=by
     intro l' hs
     have:bx (.seq a b) l'=bx b l':=by
      cases a with
      | label l2 =>
       simp only [bx]
       rw [if_neg]
       intro e
       obtain ⟨b2,F4⟩:=Option.isSome_iff_exists.1 hs
       have PG:=nX F4
       have h1:=LN.1
       simp only [Bool.not_eq_true'] at h1
       rw [← beq_iff_eq.1 e] at PG
       rw [List.contains_iff_mem.2 PG] at h1
       cases h1
      | _=>rfl
     rw [← this];exact C0 l' (by rw [this];exact hs)
    have other:vz (real P) (Iter P) P aS c9 n r a (fun e T2 M2 H2=>match e with | .normal=>nZ aS (vz (real P) (Iter P) P aS c9 n r) b (rT aS c T.length M low K) T2 M2 H2 | e=>rT aS c T.length M low K e T2 M2 H2) T1 M1 H1 →
      bK P r (.seq a b) (dc c (fun l s=>∃j,low j∧G l j s) (Gz K)) ⟨T1,M1,H1⟩:=by
     intro h
     refine bK.seq ((ih h).mono ?_)
     rintro e s ⟨T',hw,hk⟩
     cases e with
     | normal=>exact bK.weaken hw (Bc LN.2 MW hk)
     | exit id=>exact A8 ⟨T',hw,hk⟩
     | goto l=>exact A8 ⟨T',hw,hk⟩
     | ret=>exact A8 ⟨T',hw,hk⟩
    cases a with
    | label l =>
     simp only [nZ] at h
     refine bK.seq (bK.label ?_)
     split at h
     ·have ht:bx (.seq (.label l) b) l=some b:=by simp [bx]
      have hc:bx c l=some b:=(C0 l (by rw [ht];rfl)).trans ht
      have hj:=A8 (e:=.goto l) (s:=⟨T1,M1,H1⟩) ⟨T1,Wk.refl T1,h⟩
      simp only [dc] at hj
      rw [if_pos (xM hc)] at hj
      obtain ⟨j,hl,hg⟩:=hj
      exact hyp l b j _ hl hc hg
     ·exact Bc LN.2 MW h
    | _=>exact other h
   | label l=>intro T1 M1 H1 LN;cases LN
   | _=>intro T1 M1 H1 _ _ h;exact (ih h).mono fun e s hp=>A8 hp
  have A : ∀j l b s,bx c l=some b→G l j s→bK P r b (dc c (fun l s=>∃i,i<j∧G l i s) (Gz K)) s:=by
   intro j
   induction j using Nat.strongRecOn with
   | ind j Zn =>
    intro l b s ht hg
    have XQ:=hg
    rw [hG] at XQ
    obtain ⟨a,x,ha,hi,hM,hw⟩:=XQ
    have hr:=vk hl l (nX ht)
    rw [ha,ht] at hr
    obtain ⟨k1,k2⟩:=zT hf ht
    obtain ⟨Ts,Ms,Hs⟩:=s
    obtain rfl:Ms=M:=hM
    exact bK.weaken hw (row (fun i=>i<j) (fun l b i s hi ht hg=>(Zn i hi l b s ht hg).mono fun e s=>up fun l s ⟨i',h1,h2⟩=>⟨i',Nat.lt_trans h1 hi,h2⟩) k1 k2 (hr x Hs j hi))
  refine bK.scope (fun j l s=>G l j s) ((row (fun _=>True) (fun l b i s _ ht hg=>(A i l b s ht hg).mono fun e s=>up fun l s ⟨i',_,h2⟩=>⟨i',trivial,h2⟩) hf (fun l _=>rfl) h0).mono fun e s=>up fun l s ⟨j,_,h⟩=>⟨j,h⟩) ?_
  intro j l s rest GP hJ
  obtain ⟨b,ht,rfl⟩:=uQ hf GP
  exact bK.seq (bK.skip (A j l b s ht hJ))
 | seq a b =>
  simp only [vz] at h
  split at h
  ·rename_i an _
   obtain ⟨J,h1,h2⟩:=h
   refine bK.seq ((ih h1).mono ?_)
   rintro e ⟨Ts,Ms,Hs⟩ ⟨T',hw,hk⟩
   cases e with
   | normal =>
    obtain ⟨x,j,_,hM,hi,Q6⟩:=ot hk
    obtain rfl:Ms=M:=hM
    exact bK.weaken (Q6.trans hw) (ih (h2 x Hs hi))
   | exit id=>exact ⟨T',hw,hk⟩
   | goto l=>exact ⟨T',hw,hk⟩
   | ret=>exact ⟨T',hw,hk⟩
  ·refine bK.seq ((ih h).mono ?_)
   rintro e s ⟨T',hw,hk⟩
   cases e with
   | normal=>exact bK.weaken hw (ih hk)
   | exit id=>exact ⟨T',hw,hk⟩
   | goto l=>exact ⟨T',hw,hk⟩
   | ret=>exact ⟨T',hw,hk⟩
 | cond c x y =>
  obtain ⟨v,hv,h⟩:=aW h
  split at h
  ·rename_i u
   refine bK.cond hv ?_
   cases u with
   | true=>exact ih h
   | false=>exact ih h
  ·exact h.elim
 | block id c =>
  refine bK.block ((ih (show vz (real P) (Iter P) P aS c9 n r c _ T M H from h)).mono ?_)
  rintro e s ⟨T',hw,hk⟩
  cases e with
  | exit i =>
   simp only [mu]
   simp only [iT] at hk
   split
   ·rename_i e;rw [if_pos e] at hk;exact ⟨T',hw,hk⟩
   ·rename_i e;rw [if_neg e] at hk;exact ⟨T',hw,hk⟩
  | normal=>exact ⟨T',hw,hk⟩
  | goto l=>exact ⟨T',hw,hk⟩
  | ret=>exact ⟨T',hw,hk⟩
 | loop c =>
  simp only [vz] at h
  split at h
  ·split at h
   ·rename_i a _
    obtain ⟨I,⟨x,j,hl,hi⟩,h⟩:=h
    refine bK.loop (j:=j) (fun j s=>∃x,I x s.H j∧s.M=M∧Wk (JZ T.length a.live (a.qe x)) s.T) ⟨x,hi,rfl,by rw [← hl];exact yM rfl _⟩ ?_
    rintro j ⟨T1,M1,H1⟩ ⟨x,hi,rfl,hw⟩
    refine bK.weaken hw ((ih (h x H1 j hi)).mono ?_)
    rintro e s ⟨T2,FW,hk⟩
    cases e with
    | normal =>
     obtain ⟨x',j',hj,hM,wY,Q6⟩:=ot hk
     exact ⟨j',hj,x',wY,hM,Q6.trans FW⟩
    | exit id=>exact ⟨T2,FW,hk⟩
    | goto l=>exact ⟨T2,FW,hk⟩
    | ret=>exact ⟨T2,FW,hk⟩
   ·exact h.elim
  ·exact h.elim
 | rangeFunc g ps as bd =>
  simp only [vz] at h
  split at h
  ·exact h.elim
  ·split at h
   ·exact h.elim
   ·rename_i a _
    obtain ⟨v,hv,h⟩:=aW h
    ·obtain ⟨ia,z,rfl,hI,hC,hlen,h0,hb,ha,hs⟩:=cV h
     refine bK.Cw (aB ia) hv hI (a.inv z) (fun e W H=>AK e a.outs=true∧a.stop z e W H) hC.s1 hC.s2 (fun e W H o h=>⟨h.1,hC.s3 _ _ _ _ h.2⟩) (fun e W H c o hc h=>⟨h.1,hC.s4 _ _ _ _ _ hc h.2⟩) hC.cap
      h0 ?_ ?_ ?_ ?_
     ·rintro vs IU
      obtain ⟨k,_,rfl⟩:=List.mem_map.1 IU
      exact hlen k
     ·intro i W H1 vs IU hi hW fO
      rw [List.getElem?_map] at IU
      obtain ⟨k,hk,rfl⟩:=Option.map_eq_some_iff.1 IU
      refine (ih (hb i W H1 k hk hi hW fO)).mono ?_
      rintro e s ⟨T3,Zx,Tm⟩
      cases e with
      | exit id=>exact Tm.elim
      | goto l=>exact Tm.elim
      | ret=>exact Tm.elim
      | normal =>
       obtain ⟨⟨k1,k2⟩,k3⟩:=Tm
       refine ⟨k1,k2,fun H4 hH4=>bK.weaken Zx ((ih (k3 H4 hH4)).mono ?_)⟩
       rintro e s2 ⟨T5,hw5,⟨k4,k5⟩,k6⟩
       refine ⟨k4,k5,fun H6 hH6=>?_⟩
       have:=k6 H6 hH6
       cases e with
       | normal=>exact this
       | exit id=>exact cV this
       | goto l=>exact cV this
       | ret=>exact cV this
     ·intro W H1 hi H6 h6 hd
      rw [List.length_map] at hi
      exact ⟨T,Wk.refl T,ha W H1 H6 hi h6 hd⟩
     ·rintro e W H1 ⟨Z1,fU⟩ H6 h6 hd
      have lE : ∀ {l:List dy},AK e l=true→e ∈ l:=by
       intro l
       induction l with
       | nil=>intro h;cases h
       | cons b l ih =>
        intro h
        simp only [AK] at h
        cases hb:L4 e b with
        | true=>exact List.mem_cons.2 (.inl (Gc hb))
        | false=>rw [hb] at h;exact List.mem_cons_of_mem _ (ih h)
      exact ⟨T,Wk.refl T,vk hs e (lE Z1) W H1 H6 fU h6 hd⟩
 | region id ops draw =>
  refine G5 (aS:=aS) hm ?_
  cases draw with
  | false=>exact h
  | true=>exact h
theorem bP (hm:P.follows .mixedOrders=true) {f:FuncId} {args:List AV} {H:AH} {Q:AV→AH→Prop} (h:nx (real P) (Iter P) P aS c9 f args H Q):bL P f args H Q:=by
 unfold nx at h
 split at h
 ·rename_i fn hf
  split at h
  ·rename_i c hb
   refine bL.body hf hb ?_
   intro E B w a rc hs hr
   refine Go.wpIn_mono (NK hm h E B w a rc hs hr) ?_
   rintro e a' w' ⟨ae,s',E',h1,⟨T',hw,hk⟩,h3,h4,h5⟩
   refine ⟨ae,⟨T',s'.M,s'.H⟩,E',h1,?_,h3,⟨h4.heap,aJ.weaken hw h4.tmps,h4.marks⟩,h5⟩
   cases ae with
   | normal =>
    obtain ⟨H',h6,h7⟩:=mX (P:=P) (r:=none) (show l8 (real P none) s'.M s'.H (fun H'=>yc (real P none) P T' H' fn.results.toList fun vs=>Q (oneOf vs) H') from hk)
    obtain ⟨vs,h8,h9⟩:=mU h7
    exact ⟨.inl rfl,H',vs,h6,h8,h9⟩
   | ret =>
    obtain ⟨H',h6,h7⟩:=mX (P:=P) (r:=none) (show l8 (real P none) s'.M s'.H (fun H'=>yc (real P none) P T' H' fn.results.toList fun vs=>Q (oneOf vs) H') from hk)
    obtain ⟨vs,h8,h9⟩:=mU h7
    exact ⟨.inr rfl,H',vs,h6,h8,h9⟩
   | exit id=>exact hk.elim
   | goto l=>exact hk.elim
  ·exact h.elim
 ·exact h.elim
end
end Go.Am
end
/- Functions that read one block, and change nothing. -/
section
namespace Go.Am
open Go.RowKit
variable {P:Program}
theorem ie.pz {f:FuncId} {args:List AV} {R:AV→Prop} (h:bL P f args (aL P) fun v' _=>R v') (hg:qJ P f=true) (ha:AV.cZ args=true) (hv : ∀v,R v→v.bT=true):ie P f args R :=
 fun H=>.inl ⟨aB hg,bL.pure h ha hv H⟩
theorem ie.CK (hm:P.follows .mixedOrders=true) {f:FuncId} {args:List AV} {R:AV→Prop} (aS:List dK) (c9:List mO) (hg:qJ P f=true) (ha:AV.cZ args=true) (hv : ∀v,R v→v.bT=true)
  (h:nx (real P) (Iter P) P aS c9 f args (aL P) fun v' _=>R v'):ie P f args R:=.pz (bP hm h) hg ha hv
/-! ### Other numbers for the blocks -/
mutual
def AV.zJ (ρ:Nat→Nat):AV→AV
 | .ptr (some (b,o))=>.ptr (some (ρ b,o))
 | .slice (some (b,o)) l c=>.slice (some (ρ b,o)) l c
 | .cY b=>.cY (ρ b)
 | .func f x y=>.func f (AV.od ρ x) (AV.od ρ y)
 | .iface t v=>.iface t (AV.zJ ρ v)
 | .agg cs=>.agg (AV.od ρ cs)
 | .tuple cs=>.tuple (AV.od ρ cs)
 | .bool b=>.bool b
 | .int k n=>.int k n
 | .str s=>.str s
 | .ptr none=>.ptr none
 | .slice none l c=>.slice none l c
 | .nilFunc=>.nilFunc
 | .nilIface=>.nilIface
 | .map none=>.map none
 | .map (some b)=>.map (some (ρ b))
 | .half lo b=>.half lo b
 | .rm=>.rm
 | .any=>.any
def AV.od (ρ:Nat→Nat):List AV→List AV
 | []=>[]
 | v :: l=>AV.zJ ρ v :: AV.od ρ l
end
mutual
theorem VR.nD {E:Env} {ρ:Nat→Nat} : ∀ {v:AV} {x:Value},VR E (v.zJ ρ) x→VR (fun c=>E (ρ c)) v x
 | .bool _,_,h=>h
 | .int _ _,_,h=>h
 | .str _,_,h=>h
 | .ptr none,_,h=>h
 | .ptr (some (_,_)),_,h=>h
 | .slice none _ _,_,h=>h
 | .slice (some (_,_)) _ _,_,h=>h
 | .func f x y,_,h=>by
  obtain ⟨x',y',h1,h2,h3⟩:=h
  exact ⟨x',y',h1,aJ.nD h2,aJ.nD h3⟩
 | .nilFunc,_,h=>h
 | .cY _,_,h=>h
 | .iface t v,_,h=>by
  obtain ⟨y,h1,h2⟩:=h
  exact ⟨y,h1,VR.nD h2⟩
 | .nilIface,_,h=>h
 | .map none,_,h=>h
 | .map (some _),_,h=>h
 | .half _ _,_,h=>h
 | .rm,_,h=>h
 | .agg cs,_,h=>by
  obtain ⟨y,h1,h2⟩:=h
  exact ⟨y,h1,aJ.nD h2⟩
 | .tuple cs,_,h=>by
  obtain ⟨y,h1,h2⟩:=h
  exact ⟨y,h1,aJ.nD h2⟩
 | .any,_,h=>h
theorem aJ.nD {E:Env} {ρ:Nat→Nat} : ∀ {vs:List AV} {xs:List Value},aJ E (AV.od ρ vs) xs→aJ (fun c=>E (ρ c)) vs xs
 | [],_,h=>h
 | v :: vs,_,h=>by
  obtain ⟨y,ys,h1,h2,h3⟩:=h
  exact ⟨y,ys,h1,VR.nD h2,aJ.nD h3⟩
end
mutual
theorem AV.Au {ρ:Nat→Nat} : ∀ {v:AV},v.bT=true→v.zJ ρ=v
 | .bool _,_=>by simp [AV.zJ]
 | .int _ _,_=>by simp [AV.zJ]
 | .str _,_=>by simp [AV.zJ]
 | .ptr none,_=>by simp [AV.zJ]
 | .ptr (some _),h=>by simp [AV.bT] at h
 | .slice none _ _,_=>by simp [AV.zJ]
 | .slice (some _) _ _,h=>by simp [AV.bT] at h
 | .func f x y,h=>by
  simp only [AV.bT,Bool.and_eq_true] at h
  simp only [AV.zJ];rw [AV.iB h.1,AV.iB h.2]
 | .nilFunc,_=>by simp [AV.zJ]
 | .cY _,h=>by simp [AV.bT] at h
 | .iface t v,h=>by simp only [AV.zJ];rw [AV.Au (by simpa [AV.bT] using h)]
 | .nilIface,_=>by simp [AV.zJ]
 | .map none,_=>by simp [AV.zJ]
 | .map (some _),h=>by simp [AV.bT] at h
 | .half _ _,h=>by simp [AV.bT] at h
 | .rm,h=>by simp [AV.bT] at h
 | .agg cs,h=>by simp only [AV.zJ];rw [AV.iB (by simpa [AV.bT] using h)]
 | .tuple cs,h=>by simp only [AV.zJ];rw [AV.iB (by simpa [AV.bT] using h)]
 | .any,h=>by simp [AV.bT] at h
theorem AV.iB {ρ:Nat→Nat} : ∀ {vs:List AV},AV.cZ vs=true→AV.od ρ vs=vs
 | [],_=>by simp [AV.od]
 | v :: vs,h=>by
  simp only [AV.cZ,Bool.and_eq_true] at h
  simp only [AV.od];rw [AV.Au h.1,AV.iB h.2]
end
theorem AV.rF {ρ:Nat→Nat} : ∀ {vs:List AV},(AV.od ρ vs).length=vs.length
 | []=>rfl
 | _ :: vs=>by simp [AV.od,AV.rF (vs:=vs)]
theorem AV.KJ {ρ:Nat→Nat} {v:AV} (h:(v.zJ ρ).one=true):v.one=true:=by
 unfold AV.zJ at h
 split at h <;> first | rfl | exact h
theorem AV.At {ρ:Nat→Nat} : ∀ {vs:List AV},(∀v ∈ AV.od ρ vs,v.one=true)→∀v ∈ vs,v.one=true
 | [],_,_,h=>by cases h
 | u :: vs,k,v,h=>by
  simp only [AV.od,List.mem_cons,forall_eq_or_imp] at k
  rcases List.mem_cons.1 h with rfl | h
  ·exact AV.KJ k.1
  ·exact AV.At k.2 v h
def EB (P:Program) (ρ:Nat→Nat) (H0 H:AH):Prop :=
 (∀c,c<P.globals.size→ρ c=c)∧(∀c,H0.n≤c→H.n≤ρ c) ∧
 ∀c o,H0.get c=some o→∃cs e fl,o=.cells cs e { own:=false,fD:=true }∧H.get (ρ c)=some (.cells (AV.od ρ cs) e fl)
theorem HR.Qf {E:Env} {B:eZ} {H H0:AH} {w:World} {ρ:Nat→Nat} (h:HR P E B H w) (hs:EB P ρ H0 H):HR P (fun c=>E (ρ c)) (eZ.up w.heap.size) H0 w:=by
 obtain ⟨h1,h2,h3⟩:=hs
 refine ⟨fun c L hc=>?_,fun c o hc=>?_,fun _ h=>h,fun g hg=>?_,fun c c' o o' L L' dm ho M6 gZ _ _ _=>?_⟩
 ·rcases Nat.lt_or_ge c H0.n with cu | OO
  ·exact cu
  ·exact absurd (h.zj _ _ hc) (Nat.not_lt.2 (h2 c OO))
 ·obtain ⟨cs,e,fl,rfl,hg⟩:=h3 c o hc
  obtain ⟨L,hL,X,lo,hi,k1,k2,k3,k4,k5,k6,k7,k8,k9⟩:=h.obj _ _ hg
  rw [AV.rF] at k2 k4 k5
  exact ⟨L,hL,X,lo,hi,k1,k2,k3,k4,aJ.nD k5,fun h=>(by cases h),fun h=>(by cases h),AV.At k8,fun h=>(by cases h)⟩
 ·rw [h1 g hg];exact h.ke g hg
 ·obtain ⟨cs,e,fl,rfl,_⟩:=h3 c o ho
  cases gZ
theorem bL.ro {f:FuncId} {R:AV→Prop} {args:List AV} {H0:AH} (h:bL P f args H0 fun v _=>R v) (hg:qJ P f=true) (hv : ∀v,R v→v.bT=true)
  {H:AH} {bD:List AV} (ρ:Nat→Nat) (ha:bD=AV.od ρ args) (hs:EB P ρ H0 H):aD P f bD H fun v H'=>R v∧H'=H:=by
 subst ha
 refine .inl ⟨aB hg,fun E B w bD hH jw=>?_⟩
 refine Calls.mono (h _ _ w bD (hH.Qf hs) (aJ.nD jw)) ?_
 rintro e w' ⟨v',H',E',x,rfl,hR,_,_,hx,hb⟩
 obtain ⟨h1,h2⟩:=hH.kept hb
 exact ⟨_,H,E,x,rfl,⟨hR,rfl⟩,Env.le.refl E,h1,VR.bT (hv _ hR) hx,h2⟩
end Go.Am
end

/- The abstract machine: values, heap, what an operation does. -/
import Derived.RangeFuncLeaves
import Derived.RangeFuncRecord
namespace Go.Am

/-- A value of the abstract machine: addresses are places in blocks of its own. -/
inductive AV where
  | bool (b : Bool)
  | int (k : IntKind) (n : Int)
  | str (s : List UInt8)
  | ptr (a : Option (Nat × Nat))
  | slice (a : Option (Nat × Nat)) (len cap : Nat)
  | func (f : Fn) (first caps : List AV)
  | nilFunc
  | yld (b : Nat)
  | iface (t : TypeId) (v : AV)
  | nilIface
  | agg (cs : List AV)
  | tuple (vs : List AV)
  | any
  deriving Inhabited

abbrev AV.undef : AV := .tuple []

def AV.cells : AV → List AV
  | .agg cs => cs
  | v => [v]

/-- Does it fill one cell? -/
def AV.one : AV → Bool
  | .agg _ | .tuple _ | .any => false
  | _ => true

/-- Nothing is known of it. -/
def AV.isAny : AV → Bool
  | .any => true
  | _ => false

mutual
def ofV : Value → Option AV
  | .bool b => some (.bool b)
  | .int k n => some (.int k n)
  | .string s => some (.str s.data.toList)
  | .pointer none => some (.ptr none)
  | .slice none l c => if l ≤ c then some (.slice none l c) else none
  | .func f first caps => (ofVA first).bind fun x => (ofVA caps).map fun y => .func f x y
  | .nilFunc => some .nilFunc
  | .iface t v => (ofV v).map (.iface t)
  | .nilIface => some .nilIface
  | .agg cs => (ofVA cs).map .agg
  | .tuple vs => (ofVA vs).map .tuple
  | _ => none
def ofVA : Array Value → Option (List AV)
  | ⟨l⟩ => ofVL l
def ofVL : List Value → Option (List AV)
  | [] => some []
  | v :: l => (ofV v).bind fun x => (ofVL l).map (x :: ·)
end

/-! ### The heap -/

inductive Tr (α : Type) where
  | nil
  | node (l : Tr α) (v : Option α) (r : Tr α)

def Tr.get {α : Type} : Tr α → Nat → Option α
  | .nil, _ => none
  | .node _ v _, 0 => v
  | .node l _ r, k + 1 => if k % 2 = 0 then l.get (k / 2) else r.get (k / 2)

def Tr.set {α : Type} : Nat → Tr α → Nat → α → Tr α
  | 0, t, _, _ => t
  | _ + 1, .nil, 0, x => .node .nil (some x) .nil
  | _ + 1, .node l _ r, 0, x => .node l (some x) r
  | f + 1, .nil, k + 1, x => if k % 2 = 0 then .node (Tr.set f .nil (k / 2) x) none .nil else .node .nil none (Tr.set f .nil (k / 2) x)
  | f + 1, .node l v r, k + 1, x => if k % 2 = 0 then .node (Tr.set f l (k / 2) x) v r else .node l v (Tr.set f r (k / 2) x)

theorem Tr.get_set {α : Type} : ∀ (f : Nat) (t : Tr α) (k : Nat) (x : α) (j : Nat), k < f → (Tr.set f t k x).get j = if j = k then some x else t.get j := by
  intro f
  induction f with
  | zero => intro t k x j h; omega
  | succ f ih =>
    intro t k x j h
    cases k with
    | zero => cases t <;> cases j <;> simp [Tr.set, Tr.get]
    | succ k =>
      have hk : k / 2 < f := by omega
      cases t <;> cases j with
      | zero => by_cases hb : k % 2 = 0 <;> simp [Tr.set, Tr.get, hb]
      | succ j =>
        by_cases hb : k % 2 = 0 <;> by_cases hj : j % 2 = 0 <;> simp only [Tr.set, Tr.get, hb, hj, if_true, if_false, ih _ _ _ _ hk, Nat.add_right_cancel_iff] <;>
          first
          | rfl
          | (by_cases he : j = k
             · subst he; first | exact absurd hb hj | exact absurd hj hb | simp
             · have : ¬ j / 2 = k / 2 := by omega
               simp [he, this])
          | (have : ¬ j = k := by intro he; subst he; first | exact hb hj | exact hj hb
             simp [this])

/-- What is known of a block of cells. own: it was made in the call and may be written; opn: its room behind its cells isn't known; fz: no cell from here on is frozen; sish: it was made of a string; whole: it is all of the model's block. -/
structure Fl where
  own : Bool := true
  opn : Bool := false
  fz : Nat := 0
  sish : Bool := false
  whole : Bool := false

inductive AObj where
  | cells (cs : List AV) (elem : TypeId) (fl : Fl)
  | dead
  | iter (s : List UInt8) (pos : Nat)
  | loop (st : LoopState) (pend : Option Code) (T : List AV) (params : Array Tmp) (assign body : Code) (dfr : Nat)
  | deferred

/-- May it be turned by the call (so that no other block may lie over it)? -/
def AObj.owns : AObj → Bool
  | .cells _ _ fl => fl.own
  | .dead => false
  | _ => true

def AObj.live : AObj → Bool
  | .dead => false
  | _ => true

structure AH where
  n : Nat
  t : Tr AObj

def AH.get (H : AH) (b : Nat) : Option AObj := H.t.get b
def AH.set (H : AH) (b : Nat) (o : AObj) : AH := ⟨H.n, H.t.set (b + 1) b o⟩
def AH.alloc (H : AH) (o : AObj) : AH := ⟨H.n + 1, H.t.set (H.n + 1) H.n o⟩

theorem AH.get_set (H : AH) (b : Nat) (o : AObj) (c : Nat) : (H.set b o).get c = if c = b then some o else H.get c := Tr.get_set _ _ _ _ _ (by omega)
theorem AH.get_alloc (H : AH) (o : AObj) (c : Nat) : (H.alloc o).get c = if c = H.n then some o else H.get c := Tr.get_set _ _ _ _ _ (by omega)
@[simp] theorem AH.n_set (H : AH) (b : Nat) (o : AObj) : (H.set b o).n = H.n := rfl
@[simp] theorem AH.n_alloc (H : AH) (o : AObj) : (H.alloc o).n = H.n + 1 := rfl

def splice (cs : List AV) (o : Nat) (vs : List AV) : List AV := cs.take o ++ (vs ++ cs.drop (o + vs.length))

/-- n cells from o on. -/
def AH.read (H : AH) (b o n : Nat) : Option (List AV) :=
  match H.get b with
  | some (.cells cs _ _) => if o + n ≤ cs.length then some ((cs.drop o).take n) else none
  | _ => none

def AH.read1 (H : AH) (b o : Nat) : Option AV :=
  match H.get b with
  | some (.cells cs _ _) => cs[o]?
  | _ => none

def AH.write (H : AH) (b o : Nat) (vs : List AV) : Option AH :=
  match H.get b with
  | some (.cells cs e fl) => if fl.own = true ∧ fl.fz ≤ o ∧ o + vs.length ≤ cs.length ∧ vs.all AV.one = true then some (H.set b (.cells (splice cs o vs) e fl)) else none
  | _ => none

/-! ### Types -/

section types
variable (P : Program)
def szOf (t : TypeId) : Option Nat := (P.info? t).map (·.size)
def byOf (t : TypeId) : Option Nat := (P.info? t).map (·.bytes)
def zeroOf (t : TypeId) : Option AV := (P.info? t).bind fun i => i.zero.bind ofV
def aggT (t : TypeId) : Option Bool :=
  match P.underlying t with
  | some (.struct _) | some (.array _ _) => some true
  | some _ => some false
  | none => none
def partV (t : TypeId) (cs : List AV) (off : Nat) : Option AV :=
  match aggT P t with
  | some true => (szOf P t).map fun s => .agg ((cs.drop off).take s)
  | some false => cs[off]?
  | none => none
end types

/-! ### What an operation does -/

def ev (P : Program) (T : List AV) : Operand → Option AV
  | .tmp t => some ((T[t]?).getD .undef)
  | .const v => ofV v
  | .global g => if g < P.globals.size then some (.ptr (some (g, 0))) else none
  | .func f => some (.func (.func f) [] [])

def evs (P : Program) (T : List AV) : List Operand → Option (List AV)
  | [] => some []
  | x :: l => (ev P T x).bind fun v => (evs P T l).map (v :: ·)

def evo (P : Program) (T : List AV) : Option Operand → Option (Option AV)
  | none => some none
  | some x => (ev P T x).map some

def evp (P : Program) (T : List AV) : List (Nat × Operand) → Option (List (Nat × AV))
  | [] => some []
  | (i, x) :: l => (ev P T x).bind fun v => (evp P T l).map ((i, v) :: ·)

def fillV (place : Nat → Option (Nat × Nat)) (cells : List AV) : List (Nat × AV) → Option (List AV)
  | [] => some cells
  | (i, v) :: rest =>
    match place i with
    | none => none
    | some (off, size) => if v.cells.length = size ∧ off + v.cells.length ≤ cells.length ∧ v.isAny = false then fillV place (splice cells off v.cells) rest else none

def repCells (zero : List AV) : Nat → List AV
  | 0 => []
  | n + 1 => zero ++ repCells zero n

section eq
variable (P : Program)
def eqFields (eq : TypeId → AV → AV → Option Bool) (xs ys : List AV) : List Field → Option Bool
  | [] => some true
  | f :: fs =>
    if f.name ≠ "_" then
      (partV P f.type xs f.offset).bind fun a => (partV P f.type ys f.offset).bind fun b => (eq f.type a b).bind fun r => bif r then eqFields eq xs ys fs else some false
    else eqFields eq xs ys fs

def eqElems (eq : TypeId → AV → AV → Option Bool) (elem : TypeId) (xs ys : List AV) (sz : Nat) : Nat → Nat → Option Bool
  | _, 0 => some true
  | i, n + 1 =>
    (partV P elem xs (i * sz)).bind fun a => (partV P elem ys (i * sz)).bind fun b => (eq elem a b).bind fun r => bif r then eqElems eq elem xs ys sz (i + 1) n else some false

def eqV : Nat → TypeId → AV → AV → Option Bool
  | 0, _, _, _ => none
  | d + 1, t, x, y =>
    match P.underlying t, x, y with
    | some .bool, .bool a, .bool b => some (a == b)
    | some (.int _), .int k a, .int k' b => if k = k' then some (a == b) else none
    | some .string, .str a, .str b => some (a == b)
    | some (.pointer _), .ptr none, .ptr b => some b.isNone
    | some (.pointer _), .ptr (some _), .ptr none => some false
    | some (.pointer e), .ptr (some a), .ptr (some b) => match szOf P e with
      | some s => if a.1 = b.1 ∧ s ≠ 0 then some (a.2 == b.2) else none
      | none => none
    | some (.interface _), .nilIface, .nilIface => some true
    | some (.interface _), .nilIface, .iface _ _ => some false
    | some (.interface _), .iface _ _, .nilIface => some false
    | some (.interface _), .iface tx vx, .iface ty vy => if tx ≠ ty then some false else
      match P.info? tx with
      | some i => if i.comparable then eqV d tx vx vy else none
      | none => none
    | some (.struct fs), .agg xs, .agg ys => if P.stoodInHeld t then none else eqFields P (eqV d) xs ys fs.toList
    | some (.array len e), .agg xs, .agg ys => match szOf P e with
      | some s => eqElems P (eqV d) e xs ys s 0 len
      | none => none
    | some (.slice _), .slice none _ _, .slice b _ _ => some b.isNone
    | some (.slice _), .slice (some _) _ _, .slice none _ _ => some false
    | some (.func _ _ _), .nilFunc, .nilFunc => some true
    | some (.func _ _ _), .nilFunc, .func _ _ _ => some false
    | some (.func _ _ _), .func _ _ _, .nilFunc => some false
    | _, _, _ => none

def isConstOp : Operand → Bool
  | .const _ => true
  | _ => false

/-- The guard ahead of '==' goes through. -/
def eqGuardOk (t : TypeId) (x y : Operand) : AV → AV → Bool
  | .nilIface, .nilIface => isConstOp x || isConstOp y
  | .agg _, .agg _ => !P.eqGuardType P.depth t
  | .any, _ => false
  | _, .any => false
  | _, _ => true
end eq

def bytesLt : List UInt8 → List UInt8 → Bool
  | _, [] => false
  | [], _ :: _ => true
  | a :: x, b :: y => a < b || (a == b && bytesLt x y)

def intBin (op : BinOp) (k : IntKind) (a b : Int) : Option AV :=
  match op with
  | .add => some (.int k (k.wrap (a + b)))
  | .sub => some (.int k (k.wrap (a - b)))
  | .mul => some (.int k (k.wrap (a * b)))
  | .quo => if b = 0 then none else some (.int k (k.wrap (a.tdiv b)))
  | .rem => if b = 0 then none else some (.int k (a.tmod b))
  | .and => some (.int k (k.wrap (BitVec.ofInt k.bits a &&& BitVec.ofInt k.bits b).toNat))
  | .or => some (.int k (k.wrap (BitVec.ofInt k.bits a ||| BitVec.ofInt k.bits b).toNat))
  | .xor => some (.int k (k.wrap (BitVec.ofInt k.bits a ^^^ BitVec.ofInt k.bits b).toNat))
  | .andNot => some (.int k (k.wrap (BitVec.ofInt k.bits a &&& ~~~BitVec.ofInt k.bits b).toNat))
  | .eql => some (.bool (a == b))
  | .neq => some (.bool (a != b))
  | .lss => some (.bool (a < b))
  | .leq => some (.bool (a ≤ b))
  | .gtr => some (.bool (a > b))
  | .geq => some (.bool (a ≥ b))
  | _ => none

def strBin (op : BinOp) (a b : List UInt8) : Option AV :=
  match op with
  | .add => if ((a.length + b.length : Nat) : Int) > IntKind.i64.max then none else some (.str (a ++ b))
  | .eql => some (.bool (a == b))
  | .neq => some (.bool (!(a == b)))
  | .lss => some (.bool (bytesLt a b))
  | .leq => some (.bool (bytesLt a b || a == b))
  | .gtr => some (.bool (!(bytesLt a b || a == b)))
  | .geq => some (.bool (!bytesLt a b))
  | _ => none

def binV (P : Program) (op : BinOp) (t : TypeId) (xo yo : Operand) (x y : AV) : Option AV :=
  match op, x, y with
  | .shl, .int k a, .int _ b => if b < 0 then none else some (.int k (k.wrap (a * 2 ^ min b.toNat k.bits)))
  | .shr, .int k a, .int _ b => if b < 0 then none else some (.int k (a.fdiv (2 ^ min b.toNat k.bits)))
  | op, .int k a, .int k' b => if k = k' then intBin op k a b else none
  | op, .str a, .str b => strBin op a b
  | .eql, x, y => if eqGuardOk P t xo yo x y then (eqV P 8 t x y).map .bool else none
  | .neq, x, y => if eqGuardOk P t xo yo x y then (eqV P 8 t x y).map fun r => .bool (!r) else none
  | _, _, _ => none

def unV (op : UnOp) (x : AV) : Option AV :=
  match op, x with
  | .neg, .int k n => some (.int k (k.wrap (0 - n)))
  | .xor, .int k n => intBin .xor k (if k.signed then -1 else k.max) n
  | .not, .bool b => some (.bool !b)
  | _, _ => none

def rune1 (s : List UInt8) (i k : Nat) : Nat := ((s[i + k]?).getD 0).toNat
/-- Utf8.decode over a list. -/
def decodeL (s : List UInt8) (i : Nat) : Nat × Nat :=
  let at' (k : Nat) : Nat := rune1 s i k
  let cont (k : Nat) : Bool := i + k < s.length && at' k / 64 == 2
  let b0 := at' 0
  if b0 < 0x80 then (b0, 1)
  else if b0 / 32 == 6 && cont 1 then
    let c := (b0 % 32) * 64 + at' 1 % 64
    if c ≥ 0x80 then (c, 2) else (Utf8.runeError, 1)
  else if b0 / 16 == 14 && cont 1 && cont 2 then
    let c := (b0 % 16) * 4096 + (at' 1 % 64) * 64 + at' 2 % 64
    if c ≥ 0x800 && Utf8.valid c then (c, 3) else (Utf8.runeError, 1)
  else if b0 / 8 == 30 && cont 1 && cont 2 && cont 3 then
    let c := (b0 % 8) * 262144 + (at' 1 % 64) * 4096 + (at' 2 % 64) * 64 + at' 3 % 64
    if c ≥ 0x10000 && Utf8.valid c then (c, 4) else (Utf8.runeError, 1)
  else (Utf8.runeError, 1)

def encodeL (r : Int) : List UInt8 :=
  let c := if Utf8.valid r then r.toNat else Utf8.runeError
  let b (n : Nat) : UInt8 := UInt8.ofNat n
  if c < 0x80 then [b c]
  else if c < 0x800 then [b (0xC0 + c / 64), b (0x80 + c % 64)]
  else if c < 0x10000 then [b (0xE0 + c / 4096), b (0x80 + c / 64 % 64), b (0x80 + c % 64)]
  else [b (0xF0 + c / 262144), b (0x80 + c / 4096 % 64), b (0x80 + c / 64 % 64), b (0x80 + c % 64)]

def byteCellsA (s : List UInt8) : List AV := s.map fun b => .int .u8 b.toNat

def bytesOfCells : List AV → Option (List UInt8)
  | [] => some []
  | .int .u8 n :: l => (bytesOfCells l).map (UInt8.ofNat n.toNat :: ·)
  | _ => none

/-- Does a block's slice of this element type keep its room in step (or is there nothing to know)? -/
def AH.steps (P : Program) (H : AH) (b : Nat) (s : Nat) : Bool :=
  match H.get b with
  | some (.cells _ e fl) => !fl.opn || szOf P e == some s
  | _ => false

def idxV (d : Nat) : Option AV → Option Nat
  | none => some d
  | some (.int _ i) => if 0 ≤ i then some i.toNat else none
  | some _ => none

def sliceV (P : Program) (H : AH) (t : TypeId) (x : AV) (lo hi mx : Option AV) : Option AV :=
  match P.underlying t, x with
  | some .string, .str s =>
    if mx.isSome then none else
    (idxV 0 lo).bind fun l => (idxV s.length hi).bind fun h => if l ≤ h ∧ h ≤ s.length then some (.str ((s.drop l).take (h - l))) else none
  | some (.slice e), .slice a len cap =>
    (idxV 0 lo).bind fun l => (idxV len hi).bind fun h => (idxV cap mx).bind fun m =>
    if l ≤ h ∧ h ≤ m ∧ m ≤ cap ∧ (mx.isSome → hi.isSome) then
      match a, szOf P e with
      | none, some _ => some (.slice none (h - l) (m - l))
      | some (b, o), some s => if l = 0 ∨ H.steps P b s = true then some (.slice (some (b, o + l * s)) (h - l) (m - l)) else none
      | _, _ => none
    else none
  | some (.array n e), .ptr (some (b, o)) =>
    (idxV 0 lo).bind fun l => (idxV n hi).bind fun h => (idxV n mx).bind fun m =>
    if l ≤ h ∧ h ≤ m ∧ m ≤ n ∧ (mx.isSome → hi.isSome) then
      match szOf P e, H.get b with
      | some s, some (.cells _ _ fl) => if fl.opn then none else some (.slice (some (b, o + l * s)) (h - l) (m - l))
      | _, _ => none
    else none
  | _, _ => none

def convV (P : Program) (H : AH) (src dst : TypeId) (x : AV) : Option (AV × AH) :=
  match P.underlying src, P.underlying dst, x with
  | some _, some (.int k), .int _ n => some (.int k (k.wrap n), H)
  | some _, some .string, .int _ n => some (.str (encodeL n), H)
  | some _, some .string, .str s => some (.str s, H)
  | some _, some (.slice e), .str s =>
    match P.underlying e with
    | some (.int .u8) => if szOf P e = some 1 then some (.slice (some (H.n, 0)) s.length s.length, H.alloc (.cells (byteCellsA s) e { opn := true, sish := true })) else none
    | _ => none
  | some (.pointer t), some .unsafePointer, .ptr (some (b, o)) =>
    match szOf P t, H.get b with
    | some s, some (.cells cs _ _) => if s ≠ 0 ∧ o < cs.length then some (.ptr (some (b, o)), H) else none
    | _, _ => none
  | some .unsafePointer, some (.pointer u), .ptr (some (b, o)) =>
    match szOf P u, H.get b with
    | some _, some (.cells cs e fl) => if fl.whole = true ∧ liesAt P P.depth e (cs.length / P.cellsOf e) o u 1 = true then some (.ptr (some (b, o)), H) else none
    | _, _ => none
  | some (.slice e), some .string, .slice none _ _ =>
    match P.underlying e with
    | some (.int .u8) => some (.str [], H)
    | _ => none
  | some (.slice e), some .string, .slice (some (b, o)) len _ =>
    match P.underlying e with
    | some (.int .u8) => (H.read b o len).bind fun cs => (bytesOfCells cs).map fun s => (.str s, H)
    | _ => none
  | some (.slice _), some (.slice e), .slice (some (b, o)) len cap =>
    match P.underlying e, H.get b with
    | some (.int .u8), some (.cells cs el fl) =>
      if src = dst ∧ 0 < cap ∧ fl.own = true ∧ fl.whole = true ∧ fl.fz = 0 ∧ fl.sish = false then some (.slice (some (b, o)) len cap, H.set b (.cells cs el { fl with sish := true })) else none
    | _, _ => none
  | _, _, _ => none

def lenV (P : Program) (t : TypeId) (x : AV) : Option AV :=
  match P.underlying t, x with
  | some .string, .str s => some (.int .i64 s.length)
  | some (.array n _), _ => some (.int .i64 n)
  | some (.pointer a), _ => match P.underlying a with
    | some (.array n _) => some (.int .i64 n)
    | _ => none
  | some (.slice _), .slice _ n _ => some (.int .i64 n)
  | _, _ => none

/-- The room of a slice, where it is known. -/
def capV (P : Program) (H : AH) (t : TypeId) (x : AV) : Option AV :=
  match P.underlying t, x with
  | some (.slice _), .slice none _ c => some (.int .i64 c)
  | some (.slice _), .slice (some (b, _)) _ c => match H.get b with
    | some (.cells _ _ fl) => if fl.opn then none else some (.int .i64 c)
    | _ => none
  | _, _ => none

/-- What is appended: how many elements, their cells. -/
def srcV (H : AH) (s : Nat) : AV → Option (Nat × List AV)
  | .str x => if s = 1 then some (x.length, byteCellsA x) else none
  | .slice none n _ => if n = 0 then some (0, []) else none
  | .slice (some (b, o)) n _ => (H.read b o (n * s)).map fun cs => (n, cs)
  | _ => none

def appendV (P : Program) (H : AH) (st xt : TypeId) (x y : AV) : Option (AV × AH) :=
  match P.underlying st, P.underlying xt, x with
  | some (.slice e), some xd, .slice a len cap =>
    if (xd matches .int _) then none else
    match szOf P e, byOf P e with
    | some s, some by_ => (srcV H s y).bind fun (n, new) =>
      let need := len + n
      if need ≤ cap then
        match a with
        | none => if new.isEmpty then some (.slice a need cap, H) else none
        | some (b, o) => (H.write b (o + len * s) new).map fun H' => (.slice a need cap, H')
      else if by_ = 0 ∨ (2 * need + 1000) * by_ > 2 ^ 48 ∨ new.all AV.one = false ∨ (zeroOf P e).map (fun z => z.cells.length) ≠ some s then none else
        match a with
        | none => if len = 0 then some (.slice (some (H.n, 0)) need need, H.alloc (.cells new e { opn := true })) else none
        | some (b, o) =>
          match H.get b with
          | some (.cells cs e' fl) =>
            if o + len * s ≤ cs.length ∧ o + cap * s ≤ cs.length ∧ (fl.opn = true → e' = e) then
              if fl.opn = true ∧ o + cap * s = cs.length then
                if fl.own = true ∧ fl.fz ≤ o + len * s then
                  some (.slice (some (H.n, 0)) need need, (H.set b .dead).alloc (.cells ((cs.drop o).take (len * s) ++ new) e { opn := true, fz := fl.fz - o, sish := fl.sish }))
                else none
              else some (.slice (some (H.n, 0)) need need, H.alloc (.cells ((cs.drop o).take (len * s) ++ new) e { opn := true }))
            else none
          | _ => none
    | _, _ => none
  | _, _, _ => none

def copyV (P : Program) (H : AH) (dt : TypeId) (x y : AV) : Option (AV × AH) :=
  match P.underlying dt, x with
  | some (.slice e), .slice a dlen _ =>
    match szOf P e with
    | some s => (srcV H s y).bind fun (m, new) =>
      let n := min m dlen
      match a with
      | none => if n = 0 then some (.int .i64 0, H) else none
      | some (b, o) => (H.write b o (new.take (n * s))).map fun H' => (.int .i64 n, H')
    | none => none
  | _, _ => none

def makeSliceV (P : Program) (H : AH) (t : TypeId) (l c : AV) : Option (AV × AH) :=
  match P.underlying t, l, c with
  | some (.slice e), .int .i64 l, .int .i64 c =>
    match szOf P e, byOf P e, zeroOf P e with
    | some s, some by_, some z =>
      if 0 ≤ l ∧ l ≤ c ∧ by_ * c ≤ 2 ^ 48 ∧ c < 2 ^ 62 ∧ z.cells.length = s ∧ 0 < s ∧ z.cells.all AV.one = true then
        some (.slice (some (H.n, 0)) l.toNat c.toNat, H.alloc (.cells (repCells z.cells c.toNat) e {}))
      else none
    | _, _, _ => none
  | _, _, _ => none

def loadV (P : Program) (H : AH) (t : TypeId) : AV → Option AV
  | .ptr (some (b, o)) =>
    match aggT P t with
    | some true => (szOf P t).bind fun s => (H.read b o s).map .agg
    | some false => H.read1 b o
    | none => none
  | _ => none

def storeV (P : Program) (H : AH) (t : TypeId) (a v : AV) : Option AH :=
  match a with
  | .ptr (some (b, o)) => if some v.cells.length = szOf P t then H.write b o v.cells else none
  | _ => none

def fieldAddrV (P : Program) (s : TypeId) (x : AV) (field : Nat) : Option AV :=
  match P.underlying s, x with
  | some (.struct fs), .ptr (some (b, o)) =>
    match fs[field]? with
    | some f => match szOf P f.type with
      | some 0 => none
      | some _ => some (.ptr (some (b, o + f.offset)))
      | none => none
    | none => none
  | _, _ => none

def fieldV (P : Program) (t : TypeId) (x : AV) (field : Nat) : Option AV :=
  match P.underlying t, x with
  | some (.struct fs), .agg cs =>
    match fs[field]? with
    | some f => partV P f.type cs f.offset
    | none => none
  | _, _ => none

def indexAddrV (P : Program) (t : TypeId) (x ix : AV) : Option AV :=
  match P.underlying t, x, ix with
  | some (.slice e), .slice (some (b, o)) len _, .int _ i => match szOf P e with
    | some s => if 0 ≤ i ∧ i < len then some (.ptr (some (b, o + i.toNat * s))) else none
    | none => none
  | some (.array len e), .ptr (some (b, o)), .int _ i => match szOf P e with
    | some s => if 0 ≤ i ∧ i < len then some (.ptr (some (b, o + i.toNat * s))) else none
    | none => none
  | _, _, _ => none

def indexV (P : Program) (t : TypeId) (x ix : AV) : Option AV :=
  match P.underlying t, x, ix with
  | some (.array len e), .agg cs, .int _ i => match szOf P e with
    | some s => if 0 ≤ i ∧ i < len then partV P e cs (i.toNat * s) else none
    | none => none
  | some .string, .str s, .int _ i => if 0 ≤ i then (s[i.toNat]?).map fun b => .int .u8 b.toNat else none
  | _, _, _ => none

def buildV (P : Program) (t : TypeId) (parts : List (Nat × AV)) : Option AV :=
  match P.underlying t, zeroOf P t with
  | some (.struct fs), some z => (fillV (fun i => (fs[i]?).bind fun f => (szOf P f.type).map fun s => (f.offset, s)) z.cells parts).bind fun cs =>
    if fs.all (fun f => (szOf P f.type).isSome) then some (.agg cs) else none
  | some (.array _ e), some z => match szOf P e with
    | some s => (fillV (fun i => some (i * s, s)) z.cells parts).map .agg
    | none => none
  | _, _ => none

def buildSliceV (P : Program) (H : AH) (t : TypeId) (len : Nat) (parts : List (Nat × AV)) : Option (AV × AH) :=
  match P.underlying t with
  | some (.slice e) =>
    match szOf P e, zeroOf P e with
    | some s, some z =>
      if len * s ≤ 2 ^ 24 ∧ z.cells.length = s ∧ 0 < s ∧ z.cells.all AV.one = true ∧ parts.all (fun p => p.2.cells.all AV.one) = true then
        (fillV (fun i => some (i * s, s)) (repCells z.cells len) parts).map fun cs => (.slice (some (H.n, 0)) len len, H.alloc (.cells cs e { whole := true }))
      else none
    | _, _ => none
  | _ => none

def typeAssertV (P : Program) (asserted : TypeId) (ok : Bool) : AV → Option AV
  | .nilIface =>
    match P.underlying asserted, ok, zeroOf P asserted with
    | some _, true, some z => some (.tuple [z, .bool false])
    | _, _, _ => none
  | .iface t v =>
    match P.underlying asserted with
    | some (.interface _) => none
    | some _ => if t = asserted then some (if ok then .tuple [v, .bool true] else v)
      else if ok then (zeroOf P asserted).map fun z => .tuple [z, .bool false] else none
    | none => none
  | _ => none

def minMaxV (lt : Int → Int → Bool) : AV → List AV → Option AV
  | .int k x, [] => some (.int k x)
  | .int k x, .int _ y :: l => minMaxV lt (.int k (if lt y x then y else x)) l
  | _, _ => none

/-- unsafe.String: a string out of bytes; they are frozen. -/
def unsafeStringV (P : Program) (H : AH) (pt : TypeId) (p n : AV) : Option (AV × AH) :=
  match p, n with
  | .ptr none, .int _ 0 => some (.str [], H)
  | .ptr (some (b, o)), .int _ n =>
    if n = 0 then some (.str [], H) else
    if n < 0 ∨ n > IntKind.i64.max then none else
    match P.underlying pt, H.get b with
    | some (.pointer e), some (.cells cs e' fl) =>
      if e = e' ∧ szOf P e = some 1 ∧ fl.own = true ∧ fl.sish = false ∧ o + n.toNat ≤ cs.length then
        (bytesOfCells ((cs.drop o).take n.toNat)).map fun s => (.str s, H.set b (.cells cs e' { fl with fz := max fl.fz (o + n.toNat) }))
      else none
    | _, _ => none
  | _, _ => none

def builtinV (P : Program) (H : AH) (b : Builtin) (ts : List TypeId) (xs : List AV) : Option (AV × AH) :=
  match b, ts, xs with
  | .len, t :: _, x :: _ => (lenV P t x).map (·, H)
  | .cap, t :: _, x :: _ => (capV P H t x).map (·, H)
  | .append, t :: u :: _, x :: y :: _ => appendV P H t u x y
  | .copy, t :: _, x :: y :: _ => copyV P H t x y
  | .min, _, x :: l => (minMaxV (fun y x => decide (y < x)) x l).map (·, H)
  | .max, _, x :: l => (minMaxV (fun y x => decide (y > x)) x l).map (·, H)
  | .unsafeSliceData, _, [.slice none _ _] => some (.ptr none, H)
  | .unsafeSliceData, _, [.slice (some a) _ c] => if c = 0 then none else some (.ptr (some a), H)
  | .unsafeString, t :: _, [p, n] => unsafeStringV P H t p n
  | _, _, _ => none

/-- An operation that calls no function of Go: its value, the heap behind it. -/
def opV (P : Program) (T : List AV) (H : AH) (o : Oper) : Option (AV × AH) :=
  match o.op with
  | .move x => (ev P T x).map (·, H)
  | .assign x => (ev P T x).map (·, H)
  | .pick c a b => (ev P T c).bind fun c => match c with
    | .bool true => (ev P T a).map (·, H)
    | .bool false => (ev P T b).map (·, H)
    | _ => none
  | .alloc e => (zeroOf P e).bind fun z => if z.cells.all AV.one then some (.ptr (some (H.n, 0)), H.alloc (.cells z.cells e { whole := true })) else none
  | .box e x => (ev P T x).bind fun v => if v.cells.all AV.one then some (.ptr (some (H.n, 0)), H.alloc (.cells v.cells e { whole := true })) else none
  | .build t ps => (evp P T ps.toList).bind fun l => (buildV P t l).map (·, H)
  | .buildSlice t n ps => (evp P T ps.toList).bind fun l => buildSliceV P H t n l
  | .load t a => (ev P T a).bind fun a => (loadV P H t a).map (·, H)
  | .store t a v => (ev P T a).bind fun a => (ev P T v).bind fun v => (storeV P H t a v).map (AV.undef, ·)
  | .nilCheck x => (ev P T x).bind fun v => match v with
    | .ptr (some _) => some (v, H)
    | .func (.func _) _ _ => some (v, H)
    | .yld _ => some (v, H)
    | _ => none
  | .binOp op t x y _ => (ev P T x).bind fun a => (ev P T y).bind fun b => (binV P op t x y a b).map (·, H)
  | .unOp op _ x => (ev P T x).bind fun a => (unV op a).map (·, H)
  | .convert s d x => (ev P T x).bind fun a => convV P H s d a
  | .makeInterface t x => (ev P T x).bind fun a => match P.underlying t with
    | some (.interface _) => none
    | some _ => some (.iface t a, H)
    | none => none
  | .makeFunc f xs ys => (evs P T xs.toList).bind fun a => (evs P T ys.toList).bind fun b => some (.func f a b, H)
  | .makeSlice t l c => (ev P T l).bind fun l => (ev P T c).bind fun c => makeSliceV P H t l c
  | .slice t x lo hi mx => (ev P T x).bind fun a => (evo P T lo).bind fun lo => (evo P T hi).bind fun hi => (evo P T mx).bind fun mx => (sliceV P H t a lo hi mx).map (·, H)
  | .fieldAddr t x f => (ev P T x).bind fun a => (fieldAddrV P t a f).map (·, H)
  | .field t x f => (ev P T x).bind fun a => (fieldV P t a f).map (·, H)
  | .indexAddr t x i => (ev P T x).bind fun a => (ev P T i).bind fun i => (indexAddrV P t a i).map (·, H)
  | .index t x i => (ev P T x).bind fun a => (ev P T i).bind fun i => (indexV P t a i).map (·, H)
  | .range t x => (ev P T x).bind fun a => match P.underlying t, a with
    | some .string, .str s => some (.ptr (some (H.n, 0)), H.alloc (.iter s 0))
    | _, _ => none
  | .next x true => (ev P T x).bind fun a => match a with
    | .ptr (some (b, 0)) => match H.get b with
      | some (.iter s pos) =>
        if pos < s.length then some (.tuple [.bool true, .int .i64 pos, .int .i32 (decodeL s pos).1], H.set b (.iter s (pos + (decodeL s pos).2)))
        else some (.tuple [.bool false], H)
      | _ => none
    | _ => none
  | .typeAssert x _ t ok => (ev P T x).bind fun a => (typeAssertV P t ok a).map (·, H)
  | .extract x i => (ev P T x).bind fun a => match a with
    | .tuple vs => (vs[i]?).map (·, H)
    | _ => none
  | .call ⟨.builtin b, args, ts⟩ => (evs P T args.toList).bind fun l => builtinV P H b ts.toList l
  | _ => none

end Go.Am

/- What code asks: the conditions of operations, of statements, of functions, with labels, cuts and ranges over functions; that they are sound. -/
import Derived.Test.YtlkdhhkncoekgaaDoorAmTwo

/- What an operation asks, reckoned without looking into numbers, texts, heaps. -/
section
namespace Go.Am
open Go.RowKit

structure Atoms where
  wrap : IntKind → Int → Int
  call : FuncId → List AV → AH → (AV → AH → Prop) → Prop
  yld : Nat → List AV → AH → (AV → AH → Prop) → Prop
  cfn : AV → List AV → AH → (AV → AH → Prop) → Prop
  n : AH → Nat
  get : AH → Nat → Option AObj
  set : AH → Nat → AObj → AH
  al : AH → AObj → AH
  rd1 : AH → Nat → Nat → Option AV
  rdn : AH → Nat → Nat → Nat → Option (List AV)
  wr : AH → Nat → Nat → List AV → Option AH
  app : TypeId → TypeId → AV → AV → AH → Option (AV × AH)
  cpy : TypeId → AV → AV → AH → Option (AV × AH)
  mks : TypeId → Int → Int → AH → Option (AV × AH)
  slc : TypeId → AV → Option AV → Option AV → Option AV → AH → Option AV
  str : AV → AH → Option (List UInt8)
  bs : TypeId → TypeId → List UInt8 → AH → Option (AV × AH)
  idx : TypeId → AV → AV → Option AV
  caps : TypeId → AV → AH → Option AV
  ustr : TypeId → AV → AV → AH → Option (AV × AH)
  tm : List Mk → AH → Option AH
  cvs : TypeId → TypeId → AV → AH → Option (AV × AH)

inductive S1 where
  | bool | int (k : IntKind) | str | ptr | slice | other

section
variable (P : Program)
def s1Of (t : TypeId) : S1 :=
  match P.underlying t with
  | some .bool => .bool
  | some (.int k) => .int k
  | some .string => .str
  | some (.pointer _) => .ptr
  | some .unsafePointer => .ptr
  | some (.slice _) => .slice
  | _ => .other

def repS (l : List S1) : Nat → List S1
  | 0 => []
  | n + 1 => l ++ repS l n

def cellsS : Nat → TypeId → List S1
  | 0, _ => []
  | d + 1, t =>
    match P.underlying t with
    | some (.struct fs) => fs.toList.foldr (fun f l => cellsS d f.type ++ l) []
    | some (.array n e) => repS (cellsS d e) n
    | _ => [s1Of P t]
end

def exS1 (s : S1) (k : AV → Prop) : Prop :=
  match s with
  | .bool => ∃ b, k (.bool b)
  | .int kd => ∃ n, k (.int kd n)
  | .str => ∃ s, k (.str s)
  | .ptr => (∃ b o, k (.ptr (some (b, o)))) ∨ k (.ptr none)
  | .slice => ∃ a l c, k (.slice a l c)
  | .other => ∃ v, k v
def exCells : List S1 → (List AV → Prop) → Prop
  | [], k => k []
  | s :: l, k => exS1 s fun v => exCells l fun vs => k (v :: vs)

theorem exS1_iff {s : S1} {k : AV → Prop} (h : exS1 s k) : ∃ v, k v := by
  cases s <;> simp only [exS1] at h
  · obtain ⟨b, h⟩ := h; exact ⟨_, h⟩
  · obtain ⟨b, h⟩ := h; exact ⟨_, h⟩
  · obtain ⟨b, h⟩ := h; exact ⟨_, h⟩
  · rcases h with ⟨b, o, h⟩ | h
    · exact ⟨_, h⟩
    · exact ⟨_, h⟩
  · obtain ⟨b, o, c, h⟩ := h; exact ⟨_, h⟩
  · exact h
theorem exCells_iff : ∀ {l : List S1} {k : List AV → Prop}, exCells l k → ∃ vs, k vs
  | [], _, h => ⟨_, h⟩
  | s :: l, k, h => by
    obtain ⟨v, h⟩ := exS1_iff h
    obtain ⟨vs, h⟩ := exCells_iff h
    exact ⟨_, h⟩

def imp (φ : Option Bool) (p : Prop) : Prop :=
  match φ with
  | none => p
  | some b => b = true → p

theorem imp_of {φ : Option Bool} {p : Prop} (h : imp φ p) (hφ : φ.getD true = true) : p := by
  cases φ with
  | none => exact h
  | some b => exact h hφ

def vK (v : Option AV) (k : AV → Prop) : Prop :=
  match v with
  | some v => k v
  | none => False
theorem vK_iff {v : Option AV} {k : AV → Prop} (h : vK v k) : ∃ x, v = some x ∧ k x := by
  cases v with
  | none => exact h.elim
  | some v => exact ⟨v, rfl, h⟩

def exV (P : Program) (t : TypeId) (k : AV → Prop) : Prop :=
  match aggT P t with
  | some true => exCells (cellsS P 12 t) fun cs => k (.agg cs)
  | some false => exS1 (s1Of P t) k
  | none => False
theorem exV_iff {P : Program} {t : TypeId} {k : AV → Prop} (h : exV P t k) : ∃ v, k v := by
  unfold exV at h
  split at h
  · obtain ⟨cs, h⟩ := exCells_iff h; exact ⟨_, h⟩
  · exact exS1_iff h
  · exact h.elim

section eq
variable (P : Program)
def eqFieldsS (eq : TypeId → AV → AV → Option Bool) (xs ys : List AV) : List Field → Option Bool
  | [] => some true
  | f :: fs =>
    if f.name ≠ "_" then
      (partV P f.type xs f.offset).bind fun a => (partV P f.type ys f.offset).bind fun b => (eq f.type a b).bind fun r => (eqFieldsS eq xs ys fs).map fun q => r && q
    else eqFieldsS eq xs ys fs

theorem eqFieldsS_ok {eq eq' : TypeId → AV → AV → Option Bool} (he : ∀ t a b r, eq t a b = some r → eq' t a b = some r) {xs ys : List AV} : ∀ {fs : List Field} {r : Bool}, eqFieldsS P eq xs ys fs = some r → eqFields P eq' xs ys fs = some r
  | [], _, h => h
  | f :: fs, r, h => by
    simp only [eqFieldsS] at h
    simp only [eqFields]
    split at h
    · rename_i hn
      rw [if_pos hn]
      obtain ⟨a, ha, h⟩ := Option.bind_eq_some_iff.1 h
      obtain ⟨b, hb, h⟩ := Option.bind_eq_some_iff.1 h
      obtain ⟨u, hu, h⟩ := Option.bind_eq_some_iff.1 h
      obtain ⟨q, hq, rfl⟩ := Option.map_eq_some_iff.1 h
      rw [ha, Option.bind_some, hb, Option.bind_some, he _ _ _ _ hu, Option.bind_some]
      cases u with
      | true => simpa using eqFieldsS_ok he hq
      | false => rfl
    · rename_i hn
      rw [if_neg hn]
      exact eqFieldsS_ok he h

def eqElemsS (eq : TypeId → AV → AV → Option Bool) (elem : TypeId) (xs ys : List AV) (sz : Nat) : Nat → Nat → Option Bool
  | _, 0 => some true
  | i, n + 1 =>
    (partV P elem xs (i * sz)).bind fun a => (partV P elem ys (i * sz)).bind fun b => (eq elem a b).bind fun r => (eqElemsS eq elem xs ys sz (i + 1) n).map fun q => r && q

theorem eqElemsS_ok {eq eq' : TypeId → AV → AV → Option Bool} (he : ∀ t a b r, eq t a b = some r → eq' t a b = some r) {elem : TypeId} {xs ys : List AV} {sz : Nat} : ∀ {n i : Nat} {r : Bool}, eqElemsS P eq elem xs ys sz i n = some r → eqElems P eq' elem xs ys sz i n = some r
  | 0, _, _, h => h
  | n + 1, i, r, h => by
    simp only [eqElemsS] at h
    simp only [eqElems]
    obtain ⟨a, ha, h⟩ := Option.bind_eq_some_iff.1 h
    obtain ⟨b, hb, h⟩ := Option.bind_eq_some_iff.1 h
    obtain ⟨u, hu, h⟩ := Option.bind_eq_some_iff.1 h
    obtain ⟨q, hq, rfl⟩ := Option.map_eq_some_iff.1 h
    rw [ha, Option.bind_some, hb, Option.bind_some, he _ _ _ _ hu, Option.bind_some]
    cases u with
    | true => simpa using eqElemsS_ok he hq
    | false => rfl

def eqS : Nat → TypeId → AV → AV → Option Bool
  | 0, _, _, _ => none
  | d + 1, t, x, y =>
    match P.underlying t, x, y with
    | some .bool, .bool a, .bool b => some (a == b)
    | some (.int _), .int k a, .int k' b => if k = k' then some (a == b) else none
    | some .string, .str a, .str b => some (a == b)
    | some (.struct fs), .agg xs, .agg ys => if P.stoodInHeld t then none else eqFieldsS P (eqS d) xs ys fs.toList
    | some (.array len e), .agg xs, .agg ys => match szOf P e with
      | some s => eqElemsS P (eqS d) e xs ys s 0 len
      | none => none
    | _, x, y => eqV P (d + 1) t x y

theorem eqS_ok : ∀ {d : Nat} {t : TypeId} {x y : AV} {r : Bool}, eqS P d t x y = some r → eqV P d t x y = some r
  | 0, _, _, _, _, h => by cases h
  | d + 1, t, x, y, r, h => by
    unfold eqS at h
    split at h
    · rename_i hu; simp only [eqV, hu]; exact h
    · rename_i hu; simp only [eqV, hu]; exact h
    · rename_i hu; simp only [eqV, hu]; exact h
    · rename_i hu
      simp only [eqV, hu]
      split at h
      · cases h
      · rename_i hn
        rw [if_neg hn]
        exact eqFieldsS_ok P (fun t a b r h => eqS_ok h) h
    · rename_i hu
      simp only [eqV, hu]
      split at h
      · rename_i hs
        rw [hs]
        exact eqElemsS_ok P (fun t a b r h => eqS_ok h) h
      · cases h
    · exact h
end eq

section
variable (X : Atoms) (P : Program)

def intK (φ : Option Bool) (op : BinOp) (k : IntKind) (a b : Int) (K : AV → Prop) : Prop :=
  match op with
  | .add => K (.int k (X.wrap k (a + b)))
  | .sub => K (.int k (X.wrap k (a - b)))
  | .mul => K (.int k (X.wrap k (a * b)))
  | .quo => imp φ (b ≠ 0) ∧ K (.int k (X.wrap k (a.tdiv b)))
  | .rem => imp φ (b ≠ 0) ∧ K (.int k (a.tmod b))
  | .and => K (.int k (X.wrap k (BitVec.ofInt k.bits a &&& BitVec.ofInt k.bits b).toNat))
  | .or => K (.int k (X.wrap k (BitVec.ofInt k.bits a ||| BitVec.ofInt k.bits b).toNat))
  | .xor => K (.int k (X.wrap k (BitVec.ofInt k.bits a ^^^ BitVec.ofInt k.bits b).toNat))
  | .andNot => K (.int k (X.wrap k (BitVec.ofInt k.bits a &&& ~~~BitVec.ofInt k.bits b).toNat))
  | .eql => K (.bool (a == b))
  | .neq => K (.bool (a != b))
  | .lss => K (.bool (decide (a < b)))
  | .leq => K (.bool (decide (a ≤ b)))
  | .gtr => K (.bool (decide (a > b)))
  | .geq => K (.bool (decide (a ≥ b)))
  | _ => False

def strK (φ : Option Bool) (op : BinOp) (a b : List UInt8) (K : AV → Prop) : Prop :=
  match op with
  | .add => imp φ (((a.length + b.length : Nat) : Int) ≤ 9223372036854775807) ∧ K (.str (a ++ b))
  | .eql => K (.bool (a == b))
  | .neq => K (.bool (!(a == b)))
  | .lss => K (.bool (bytesLt a b))
  | .leq => K (.bool (bytesLt a b || a == b))
  | .gtr => K (.bool (!(bytesLt a b || a == b)))
  | .geq => K (.bool (!bytesLt a b))
  | _ => False

def binK (φ : Option Bool) (op : BinOp) (t : TypeId) (xo yo : Operand) (x y : AV) (K : AV → Prop) : Prop :=
  match op, x, y with
  | .shl, .int k a, .int _ b => imp φ (0 ≤ b) ∧ K (.int k (X.wrap k (a * 2 ^ min b.toNat k.bits)))
  | .shr, .int k a, .int _ b => imp φ (0 ≤ b) ∧ K (.int k (a.fdiv (2 ^ min b.toNat k.bits)))
  | op, .int k a, .int k' b => if k = k' then intK X φ op k a b K else False
  | op, .str a, .str b => strK φ op a b K
  | .eql, .ptr a, .ptr b => ∃ r, imp φ (eqV P 8 t (.ptr a) (.ptr b) = some r) ∧ K (.bool r)
  | .neq, .ptr a, .ptr b => ∃ r, imp φ (eqV P 8 t (.ptr a) (.ptr b) = some r) ∧ K (.bool (!r))
  | .eql, x, y => bif eqGuardOk P t xo yo x y then vK ((eqS P 8 t x y).map .bool) K else False
  | .neq, x, y => bif eqGuardOk P t xo yo x y then vK ((eqS P 8 t x y).map fun r => .bool (!r)) K else False
  | _, _, _ => False

def unK (op : UnOp) (x : AV) (K : AV → Prop) : Prop :=
  match op, x with
  | .neg, .int k n => K (.int k (X.wrap k (0 - n)))
  | .xor, .int k n => K (.int k (X.wrap k (BitVec.ofInt k.bits (if k.signed then -1 else k.max) ^^^ BitVec.ofInt k.bits n).toNat))
  | .not, .bool b => K (.bool !b)
  | _, _ => False

def boundK (d : Int) (v : Option AV) (k : Int → Prop) : Prop :=
  match v with
  | none => k d
  | some (.int _ i) => k i
  | some _ => False

def sliceK (φ : Option Bool) (H : AH) (t : TypeId) (x : AV) (lo hi mx : Option AV) (K : AV → Prop) : Prop :=
  match P.underlying t, x with
  | some .string, .str s =>
    match mx with
    | some _ => False
    | none => boundK 0 lo fun l => boundK s.length hi fun h => imp φ (0 ≤ l ∧ l ≤ h ∧ h ≤ s.length) ∧ K (.str ((s.drop l.toNat).take (h - l).toNat))
  | _, _ => ∃ a l c, imp φ (X.slc t x lo hi mx H = some (.slice a l c)) ∧ K (.slice a l c)

def convK (φ : Option Bool) (H : AH) (src dst : TypeId) (x : AV) (K : AV → AH → Prop) : Prop :=
  match P.underlying src, P.underlying dst, x with
  | some _, some (.int k), .int _ n => K (.int k (X.wrap k n)) H
  | some _, some .string, .int _ n => K (.str (encodeL n)) H
  | some _, some .string, .str s => K (.str s) H
  | some _, some (.slice _), .str s => match φ with
    | none => ∃ a l c H', X.bs src dst s H = some (.slice a l c, H') ∧ K (.slice a l c) H'
    | some _ => False
  | some (.slice e), some .string, .slice a l c =>
    match P.underlying e with
    | some (.int .u8) => ∃ s, imp φ (X.str (.slice a l c) H = some s) ∧ K (.str s) H
    | _ => False
  | some (.slice _), some (.slice _), .slice a l c => match φ with
    | none => ∃ H', X.cvs src dst (.slice a l c) H = some (.slice a l c, H') ∧ K (.slice a l c) H'
    | some _ => False
  | some (.pointer _), some .unsafePointer, .ptr (some a) => match φ with
    | none => X.cvs src dst (.ptr (some a)) H = some (.ptr (some a), H) ∧ K (.ptr (some a)) H
    | some _ => False
  | some .unsafePointer, some (.pointer _), .ptr (some a) => match φ with
    | none => X.cvs src dst (.ptr (some a)) H = some (.ptr (some a), H) ∧ K (.ptr (some a)) H
    | some _ => False
  | _, _, _ => False

def lenK (t : TypeId) (x : AV) (K : AV → Prop) : Prop :=
  match P.underlying t, x with
  | some .string, .str s => K (.int .i64 s.length)
  | some (.slice _), .slice _ n _ => K (.int .i64 n)
  | some (.array n _), _ => K (.int .i64 n)
  | some (.pointer a), _ => match P.underlying a with
    | some (.array n _) => K (.int .i64 n)
    | _ => False
  | _, _ => False

def loadK (φ : Option Bool) (H : AH) (t : TypeId) (a : AV) (K : AV → Prop) : Prop :=
  match a with
  | .ptr (some (b, o)) =>
    match aggT P t with
    | some true => match szOf P t with
      | some s => exCells (cellsS P 12 t) fun cs => imp φ (X.rdn H b o s = some cs) ∧ K (.agg cs)
      | none => False
    | some false => exS1 (s1Of P t) fun v => imp φ (X.rd1 H b o = some v) ∧ K v
    | none => False
  | _ => False

def indexAddrK (φ : Option Bool) (t : TypeId) (x ix : AV) (K : AV → Prop) : Prop :=
  match P.underlying t, x, ix with
  | some (.slice e), .slice a len _, .int _ i => match szOf P e with
    | some s => ∃ b o, imp φ (a = some (b, o) ∧ 0 ≤ i ∧ i < len) ∧ K (.ptr (some (b, o + i.toNat * s)))
    | none => False
  | some (.array len e), .ptr (some (b, o)), .int _ i => match szOf P e with
    | some s => imp φ (0 ≤ i ∧ i < len) ∧ K (.ptr (some (b, o + i.toNat * s)))
    | none => False
  | _, _, _ => False

def indexK (φ : Option Bool) (ty t : TypeId) (x ix : AV) (K : AV → Prop) : Prop :=
  match P.underlying t, x, ix with
  | some .string, .str s, .int _ i => imp φ (0 ≤ i ∧ i < s.length) ∧ K (.int .u8 ((s[i.toNat]?).getD 0).toNat)
  | _, x, ix => exV P ty fun v => imp φ (X.idx t x ix = some v) ∧ K v

def minK (K : AV → Prop) : AV → List AV → Prop
  | .int k x, [] => K (.int k x)
  | .int k x, .int _ y :: l => minK K (.int k (if y < x then y else x)) l
  | _, _ => False
def maxK (K : AV → Prop) : AV → List AV → Prop
  | .int k x, [] => K (.int k x)
  | .int k x, .int _ y :: l => maxK K (.int k (if y > x then y else x)) l
  | _, _ => False

def evsK (e : Operand → Option AV) : List Operand → (List AV → Prop) → Prop
  | [], k => k []
  | x :: l, k => vK (e x) fun v => evsK e l fun vs => k (v :: vs)

def builtinK (φ : Option Bool) (H : AH) (b : Builtin) (ts : List TypeId) (xs : List AV) (K : AV → AH → Prop) : Prop :=
  match b, ts, xs with
  | .len, t :: _, x :: _ => lenK P t x fun v => K v H
  | .cap, t :: _, x :: _ => exS1 (.int .i64) fun v => imp φ (X.caps t x H = some v) ∧ K v H
  | .min, _, x :: l => minK (fun v => K v H) x l
  | .max, _, x :: l => maxK (fun v => K v H) x l
  | .append, t :: u :: _, x :: y :: _ => match φ with
    | none => ∃ a l c H', X.app t u x y H = some (.slice a l c, H') ∧ K (.slice a l c) H'
    | some _ => False
  | .copy, t :: _, x :: y :: _ => match φ with
    | none => ∃ n H', X.cpy t x y H = some (.int .i64 n, H') ∧ K (.int .i64 n) H'
    | some _ => False
  | .unsafeSliceData, _, [.slice a _ c] => ∃ q, imp φ (c ≠ 0 ∧ a = some q) ∧ K (.ptr (some q)) H
  | .unsafeString, t :: _, [p, n] => match φ with
    | none => ∃ s H', X.ustr t p n H = some (.str s, H') ∧ K (.str s) H'
    | some _ => False
  | _, _, _ => False

def opK (φ : Option Bool) (e : Operand → Option AV) (H : AH) (op : Op) (ty : TypeId) (K : AV → AH → Prop) : Prop :=
  match op with
  | .move x => vK (e x) fun v => K v H
  | .assign x => vK (e x) fun v => K v H
  | .pick c a b => vK (e c) fun c' => match c' with
    | .bool u => cond u (vK (e a) fun v => K v H) (vK (e b) fun v => K v H)
    | _ => False
  | .alloc t => match φ, zeroOf P t with
    | none, some z => bif z.cells.all AV.one then K (.ptr (some (X.n H, 0))) (X.al H (.cells z.cells t { whole := true })) else False
    | _, _ => False
  | .box t x => match φ with
    | none => vK (e x) fun v => v.cells.all AV.one = true ∧ K (.ptr (some (X.n H, 0))) (X.al H (.cells v.cells t { whole := true }))
    | some _ => False
  | .build t ps => match evpE e ps.toList with
    | some l => vK (buildV P t l) fun v => K v H
    | none => False
  | .buildSlice t n ps => match φ, evpE e ps.toList, P.underlying t with
    | none, some l, some (.slice el) => match szOf P el, zeroOf P el with
      | some s, some z =>
        match fillV (fun i => some (i * s, s)) (repCells z.cells n) l with
        | some cs => (n * s ≤ 2 ^ 24 ∧ z.cells.length = s ∧ 0 < s ∧ z.cells.all AV.one = true ∧ l.all (fun p => p.2.cells.all AV.one) = true) ∧ K (.slice (some (X.n H, 0)) n n) (X.al H (.cells cs el { whole := true }))
        | none => False
      | _, _ => False
    | _, _, _ => False
  | .load t a => vK (e a) fun a => loadK X P φ H t a fun v => K v H
  | .store t a v => match φ with
    | none => vK (e a) fun a => vK (e v) fun v => match a, szOf P t with
      | .ptr (some (b, o)), some s => v.cells.length = s ∧ ∃ H', X.wr H b o v.cells = some H' ∧ K .undef H'
      | _, _ => False
    | some _ => False
  | .nilCheck x => vK (e x) fun v => match v with
    | .ptr (some _) => K v H
    | .func (.func _) _ _ => K v H
    | .yld _ => K v H
    | _ => False
  | .binOp op t x y _ => vK (e x) fun a => vK (e y) fun b => binK X P φ op t x y a b fun v => K v H
  | .unOp op _ x => vK (e x) fun a => unK X op a fun v => K v H
  | .convert s d x => vK (e x) fun a => convK X P φ H s d a K
  | .makeInterface t x => vK (e x) fun a => match P.underlying t with
    | some (.interface _) => False
    | some _ => K (.iface t a) H
    | none => False
  | .makeFunc f xs ys => evsK e xs.toList fun a => evsK e ys.toList fun b => K (.func f a b) H
  | .makeSlice t l c => match φ with
    | none => vK (e l) fun l => vK (e c) fun c => match l, c with
      | .int .i64 l, .int .i64 c => ∃ a n m H', X.mks t l c H = some (.slice a n m, H') ∧ K (.slice a n m) H'
      | _, _ => False
    | some _ => False
  | .slice t x lo hi mx => vK (e x) fun a => match evoE e lo, evoE e hi, evoE e mx with
    | some lo, some hi, some mx => sliceK X P φ H t a lo hi mx fun v => K v H
    | _, _, _ => False
  | .fieldAddr t x f => vK (e x) fun a => vK (fieldAddrV P t a f) fun v => K v H
  | .field t x f => vK (e x) fun a => vK (fieldV P t a f) fun v => K v H
  | .indexAddr t x i => vK (e x) fun a => vK (e i) fun i => indexAddrK P φ t a i fun v => K v H
  | .index t x i => vK (e x) fun a => vK (e i) fun i => indexK X P φ ty t a i fun v => K v H
  | .range t x => match φ with
    | none => vK (e x) fun a => match P.underlying t, a with
      | some .string, .str s => K (.ptr (some (X.n H, 0))) (X.al H (.iter s 0))
      | _, _ => False
    | some _ => False
  | .next x true => match φ with
    | none => vK (e x) fun a => match a with
      | .ptr (some (b, 0)) => ∃ s pos, X.get H b = some (.iter s pos) ∧
          (pos < s.length → K (.tuple [.bool true, .int .i64 pos, .int .i32 (decodeL s pos).1]) (X.set H b (.iter s (pos + (decodeL s pos).2)))) ∧
          (¬ pos < s.length → K (.tuple [.bool false]) H)
      | _ => False
    | some _ => False
  | .extract x i => vK (e x) fun a => match a with
    | .tuple vs => vK vs[i]? fun v => K v H
    | _ => False
  | .call ⟨.builtin b, args, ts⟩ => evsK e args.toList fun l => builtinK X P φ H b ts.toList l K
  | _ => False
end

theorem evsK_iff {e : Operand → Option AV} : ∀ {l : List Operand} {k : List AV → Prop}, evsK e l k → ∃ vs, evsE e l = some vs ∧ k vs
  | [], _, h => ⟨_, rfl, h⟩
  | x :: l, k, h => by
    obtain ⟨v, hv, h⟩ := vK_iff h
    obtain ⟨vs, hvs, h⟩ := evsK_iff h
    exact ⟨v :: vs, by simp [evsE, hv, hvs], h⟩

end Go.Am
end

/- What an operation asks: it is enough. -/
section
namespace Go.Am
open Go.RowKit

def ACfn (P : Program) (r : Option Nat) (fv : AV) (vs : List AV) (H : AH) (K : AV → AH → Prop) : Prop :=
  ∀ (dst : Option Tmp) (f : Operand) (xs : Array Operand) (ts : Array TypeId) (ty : TypeId) (pos : String) (after : Array Edge) (guard : Option (Nat × Bool)) (T : List AV),
    ev P T f = some fv → evs P T xs.toList = some vs → AOp P r ⟨dst, .call { callee := .value f, args := xs, argTypes := ts }, ty, pos, after, guard⟩ T H K

def bytesAt (H : AH) : AV → Option (List UInt8)
  | .slice none _ _ => some []
  | .slice (some (b, o)) len _ => (H.read b o len).bind bytesOfCells
  | _ => none

def real (P : Program) (r : Option Nat) : Atoms where
  wrap := IntKind.wrap
  call := ACallee P
  yld := fun b => ACfn P r (.yld b)
  cfn := ACfn P r
  n := AH.n
  get := AH.get
  set := AH.set
  al := AH.alloc
  rd1 := AH.read1
  rdn := AH.read
  wr := AH.write
  app := fun t u x y H => appendV P H t u x y
  cpy := fun t x y H => copyV P H t x y
  mks := fun t l c H => makeSliceV P H t (.int .i64 l) (.int .i64 c)
  slc := fun t x lo hi mx H => sliceV P H t x lo hi mx
  str := fun v H => bytesAt H v
  bs := fun s d x H => convV P H s d (.str x)
  idx := indexV P
  caps := fun t x H => capV P H t x
  ustr := fun t p n H => unsafeStringV P H t p n
  tm := takeMarks
  cvs := fun s d x H => convV P H s d x

section
variable {P : Program} {r : Option Nat} {φ : Option Bool} {H : AH}

def Comes (φ : Option Bool) (x : Option AV) (K : AV → Prop) : Prop := ∃ v, (φ.getD true = true → x = some v) ∧ K v

theorem Comes.same {x y : Option AV} {K : AV → Prop} (h : Comes φ x K) (e : φ.getD true = true → x = y) : Comes φ y K := by
  obtain ⟨v, h1, h2⟩ := h
  exact ⟨v, fun hp => by rw [← e hp]; exact h1 hp, h2⟩

theorem intK_ok {op : BinOp} {k : IntKind} {a b : Int} {K : AV → Prop} (h : intK (real P r) φ op k a b K) : Comes φ (intBin op k a b) K := by
  cases op <;> simp only [intK] at h
  case quo => exact ⟨_, fun hp => by simp only [intBin]; rw [if_neg (imp_of h.1 hp)]; rfl, h.2⟩
  case rem => exact ⟨_, fun hp => by simp only [intBin]; rw [if_neg (imp_of h.1 hp)], h.2⟩
  all_goals exact ⟨_, fun _ => rfl, h⟩

theorem strK_ok {op : BinOp} {a b : List UInt8} {K : AV → Prop} (h : strK φ op a b K) : Comes φ (strBin op a b) K := by
  cases op <;> simp only [strK] at h
  case add => exact ⟨_, fun hp => by simp only [strBin]; rw [if_neg (by have := imp_of h.1 hp; show ¬ (_ > (9223372036854775807 : Int)); omega)], h.2⟩
  all_goals exact ⟨_, fun _ => rfl, h⟩

theorem bool_if {b : Bool} {p : Prop} (h : bif b then p else False) : b = true ∧ p := by
  cases b with
  | true => exact ⟨rfl, h⟩
  | false => exact h.elim

theorem binK_ok {op : BinOp} {t : TypeId} {xo yo : Operand} {x y : AV} {K : AV → Prop} (h : binK (real P r) P φ op t xo yo x y K) : Comes φ (binV P op t xo yo x y) K := by
  unfold binK at h
  split at h
  · rename_i k a kb b
    refine ⟨_, fun hp => ?_, h.2⟩
    have := imp_of h.1 hp
    simp only [binV]; rw [if_neg (by omega)]; rfl
  · rename_i k a kb b
    refine ⟨_, fun hp => ?_, h.2⟩
    have := imp_of h.1 hp
    simp only [binV]; rw [if_neg (by omega)]
  · rename_i op k a kb b hn1 hn2
    split at h
    · rename_i hk
      refine (intK_ok h).same fun _ => ?_
      subst hk
      cases op <;> first | (simp only [binV, if_true]; done) | (simp only [intBin] at *; simp_all [intK])
    · exact h.elim
  · rename_i a b
    refine (strK_ok h).same fun _ => ?_
    cases op <;> first | rfl | (simp only [strK] at h)
  · obtain ⟨r, h1, h2⟩ := h
    refine ⟨_, fun hp => ?_, h2⟩
    have := imp_of h1 hp
    show (eqV P 8 t _ _).map AV.bool = _
    rw [this]; rfl
  · obtain ⟨r, h1, h2⟩ := h
    refine ⟨_, fun hp => ?_, h2⟩
    have := imp_of h1 hp
    show (eqV P 8 t _ _).map (fun r => AV.bool (!r)) = _
    rw [this]; rfl
  · rename_i hn1 hn2 _
    obtain ⟨h1, h2⟩ := bool_if h
    obtain ⟨v, hv, hk⟩ := vK_iff h2
    obtain ⟨q, hq, rfl⟩ := Option.map_eq_some_iff.1 hv
    refine ⟨_, fun _ => ?_, hk⟩
    have : binV P .eql t xo yo x y = if eqGuardOk P t xo yo x y then (eqV P 8 t x y).map .bool else none := by
      unfold binV
      cases x <;> cases y <;> first | rfl | exact (hn1 _ _ _ _ rfl rfl).elim | exact (hn2 _ _ rfl rfl).elim
    rw [this, if_pos h1, eqS_ok _ hq]; rfl
  · rename_i hn1 hn2 _
    obtain ⟨h1, h2⟩ := bool_if h
    obtain ⟨v, hv, hk⟩ := vK_iff h2
    obtain ⟨q, hq, rfl⟩ := Option.map_eq_some_iff.1 hv
    refine ⟨_, fun _ => ?_, hk⟩
    have : binV P .neq t xo yo x y = if eqGuardOk P t xo yo x y then (eqV P 8 t x y).map (fun r => .bool (!r)) else none := by
      unfold binV
      cases x <;> cases y <;> first | rfl | exact (hn1 _ _ _ _ rfl rfl).elim | exact (hn2 _ _ rfl rfl).elim
    rw [this, if_pos h1, eqS_ok _ hq]; rfl
  · exact h.elim

theorem unK_ok {op : UnOp} {x : AV} {K : AV → Prop} (h : unK (real P r) op x K) : Comes φ (unV op x) K := by
  unfold unK at h
  split at h
  · exact ⟨_, fun _ => rfl, h⟩
  · exact ⟨_, fun _ => rfl, h⟩
  · exact ⟨_, fun _ => rfl, h⟩
  · exact h.elim

theorem boundK_iff {d : Nat} {v : Option AV} {k : Int → Prop} (h : boundK d v k) : ∃ i, k i ∧ (0 ≤ i → idxV d v = some i.toNat) := by
  unfold boundK at h
  split at h
  · exact ⟨_, h, fun _ => by simp [idxV]⟩
  · exact ⟨_, h, fun h0 => by simp [idxV, h0]⟩
  · exact h.elim

theorem sliceK_ok {t : TypeId} {x : AV} {lo hi mx : Option AV} {K : AV → Prop} (h : sliceK (real P r) P φ H t x lo hi mx K) : Comes φ (sliceV P H t x lo hi mx) K := by
  unfold sliceK at h
  split at h
  · rename_i s hu
    split at h
    · exact h.elim
    · obtain ⟨l, h, hl⟩ := boundK_iff (d := 0) h
      obtain ⟨u, h, hh⟩ := boundK_iff (d := s.length) h
      refine ⟨_, fun hp => ?_, h.2⟩
      obtain ⟨g1, g2, g3⟩ := imp_of h.1 hp
      unfold sliceV
      simp only [hu, Option.isSome_none, Bool.false_eq_true, if_false]
      rw [hl g1, Option.bind_some, hh (by omega), Option.bind_some, if_pos (by omega)]
      rw [show u.toNat - l.toNat = (u - l).toNat by omega]
  · obtain ⟨a, l, c, h1, h2⟩ := h
    exact ⟨_, fun hp => imp_of h1 hp, h2⟩

theorem lenK_ok {t : TypeId} {x : AV} {K : AV → Prop} (h : lenK P t x K) : Comes φ (lenV P t x) K := by
  unfold lenK at h
  split at h
  · rename_i hu; exact ⟨_, fun _ => by simp only [lenV, hu], h⟩
  · rename_i hu; exact ⟨_, fun _ => by simp only [lenV, hu], h⟩
  · rename_i hu; exact ⟨_, fun _ => by simp only [lenV, hu], h⟩
  · rename_i hu
    split at h
    · rename_i hu2; exact ⟨_, fun _ => by simp only [lenV, hu, hu2], h⟩
    · exact h.elim
  · exact h.elim

theorem loadK_ok {t : TypeId} {a : AV} {K : AV → Prop} (h : loadK (real P r) P φ H t a K) : Comes φ (loadV P H t a) K := by
  unfold loadK at h
  split at h
  · rename_i b o
    split at h
    · rename_i ha
      split at h
      · rename_i s hs
        obtain ⟨cs, h1, h2⟩ := exCells_iff h
        refine ⟨_, fun hp => ?_, h2⟩
        have := imp_of h1 hp
        simp only [loadV, ha, hs, Option.bind_some]
        rw [show AH.read H b o s = some cs from this]; rfl
      · exact h.elim
    · rename_i ha
      obtain ⟨v, h1, h2⟩ := exS1_iff h
      refine ⟨_, fun hp => ?_, h2⟩
      have := imp_of h1 hp
      simp only [loadV, ha]; exact this
    · exact h.elim
  · exact h.elim

theorem indexAddrK_ok {t : TypeId} {x ix : AV} {K : AV → Prop} (h : indexAddrK P φ t x ix K) : Comes φ (indexAddrV P t x ix) K := by
  unfold indexAddrK at h
  split at h
  · rename_i e a len c kd i hu
    split at h
    · rename_i s hs
      obtain ⟨b, o, h1, h2⟩ := h
      refine ⟨_, fun hp => ?_, h2⟩
      obtain ⟨rfl, g1, g2⟩ := imp_of h1 hp
      simp only [indexAddrV, hu, hs]; rw [if_pos ⟨g1, g2⟩]
    · exact h.elim
  · rename_i len e b o kd i hu
    split at h
    · rename_i s hs
      refine ⟨_, fun hp => ?_, h.2⟩
      simp only [indexAddrV, hu, hs]; rw [if_pos (imp_of h.1 hp)]
    · exact h.elim
  · exact h.elim

theorem indexK_ok {ty t : TypeId} {x ix : AV} {K : AV → Prop} (h : indexK (real P r) P φ ty t x ix K) : Comes φ (indexV P t x ix) K := by
  unfold indexK at h
  split at h
  · rename_i s kd i hu
    refine ⟨_, fun hp => ?_, h.2⟩
    obtain ⟨g1, g2⟩ := imp_of h.1 hp
    simp only [indexV, hu]
    rw [if_pos g1]
    have : i.toNat < s.length := by omega
    rw [List.getElem?_eq_getElem this]
    simp
  · obtain ⟨v, h1, h2⟩ := exV_iff h
    exact ⟨_, fun hp => imp_of h1 hp, h2⟩

theorem minK_ok {K : AV → Prop} : ∀ {l : List AV} {x : AV}, minK K x l → Comes φ (minMaxV (fun y x => decide (y < x)) x l) K
  | [], .int k x, h => ⟨_, fun _ => rfl, h⟩
  | .int k' y :: l, .int k x, h => by
    have := minK_ok (l := l) (x := .int k (if y < x then y else x)) h
    refine this.same fun _ => ?_
    simp only [minMaxV, decide_eq_true_eq]
  | .bool _ :: _, .int _ _, h | .str _ :: _, .int _ _, h | .ptr _ :: _, .int _ _, h | .slice _ _ _ :: _, .int _ _, h | .func _ _ _ :: _, .int _ _, h | .nilFunc :: _, .int _ _, h
  | .yld _ :: _, .int _ _, h | .iface _ _ :: _, .int _ _, h | .nilIface :: _, .int _ _, h | .agg _ :: _, .int _ _, h | .tuple _ :: _, .int _ _, h | .map _ :: _, .int _ _, h | .half _ _ :: _, .int _ _, h | .unk :: _, .int _ _, h | .any :: _, .int _ _, h => h.elim
  | _, .bool _, h | _, .str _, h | _, .ptr _, h | _, .slice _ _ _, h | _, .func _ _ _, h | _, .nilFunc, h | _, .yld _, h | _, .iface _ _, h | _, .nilIface, h | _, .agg _, h | _, .tuple _, h | _, .map _, h | _, .half _ _, h | _, .unk, h | _, .any, h => by
    simp [minK] at h

theorem maxK_ok {K : AV → Prop} : ∀ {l : List AV} {x : AV}, maxK K x l → Comes φ (minMaxV (fun y x => decide (y > x)) x l) K
  | [], .int k x, h => ⟨_, fun _ => rfl, h⟩
  | .int k' y :: l, .int k x, h => by
    have := maxK_ok (l := l) (x := .int k (if y > x then y else x)) h
    refine this.same fun _ => ?_
    simp only [minMaxV, decide_eq_true_eq]
  | .bool _ :: _, .int _ _, h | .str _ :: _, .int _ _, h | .ptr _ :: _, .int _ _, h | .slice _ _ _ :: _, .int _ _, h | .func _ _ _ :: _, .int _ _, h | .nilFunc :: _, .int _ _, h
  | .yld _ :: _, .int _ _, h | .iface _ _ :: _, .int _ _, h | .nilIface :: _, .int _ _, h | .agg _ :: _, .int _ _, h | .tuple _ :: _, .int _ _, h | .map _ :: _, .int _ _, h | .half _ _ :: _, .int _ _, h | .unk :: _, .int _ _, h | .any :: _, .int _ _, h => h.elim
  | _, .bool _, h | _, .str _, h | _, .ptr _, h | _, .slice _ _ _, h | _, .func _ _ _, h | _, .nilFunc, h | _, .yld _, h | _, .iface _ _, h | _, .nilIface, h | _, .agg _, h | _, .tuple _, h | _, .map _, h | _, .half _ _, h | _, .unk, h | _, .any, h => by
    simp [maxK] at h

def ComesH (φ : Option Bool) (H : AH) (x : Option (AV × AH)) (K : AV → AH → Prop) : Prop := ∃ v H', (φ.getD true = true → x = some (v, H')) ∧ (φ ≠ none → H' = H) ∧ K v H'

theorem Comes.heap {x : Option AV} {K : AV → AH → Prop} (h : Comes φ x fun v => K v H) : ComesH φ H (x.map (·, H)) K := by
  obtain ⟨v, h1, h2⟩ := h
  exact ⟨v, H, fun hp => by rw [h1 hp]; rfl, fun _ => rfl, h2⟩
theorem ComesH.none {x : Option (AV × AH)} {K : AV → AH → Prop} {v : AV} {H' : AH} (h : x = some (v, H')) (k : K v H') : ComesH none H x K := ⟨v, H', fun _ => h, fun h => absurd rfl h, k⟩
theorem ComesH.still {x : Option (AV × AH)} {K : AV → AH → Prop} {v : AV} (h : x = some (v, H)) (k : K v H) : ComesH φ H x K := ⟨v, H, fun _ => h, fun _ => rfl, k⟩
theorem ComesH.same {x y : Option (AV × AH)} {K : AV → AH → Prop} (h : ComesH φ H x K) (e : φ.getD true = true → x = y) : ComesH φ H y K := by
  obtain ⟨v, H', h1, h2, h3⟩ := h
  exact ⟨v, H', fun hp => by rw [← e hp]; exact h1 hp, h2, h3⟩

theorem convK_ok {s d : TypeId} {x : AV} {K : AV → AH → Prop} (h : convK (real P r) P φ H s d x K) : ComesH φ H (convV P H s d x) K := by
  unfold convK at h
  split at h
  · rename_i hs hd; exact ComesH.still (by simp only [convV, hs, hd]; rfl) h
  · rename_i hs hd; exact ComesH.still (by simp only [convV, hs, hd]) h
  · rename_i hs hd; exact ComesH.still (by simp only [convV, hs, hd]) h
  · split at h
    · obtain ⟨a, l, c, H', h1, h2⟩ := h
      exact ComesH.none h1 h2
    · exact h.elim
  · rename_i e a l c hs hd
    split at h
    · rename_i he
      obtain ⟨s, h1, h2⟩ := h
      refine ⟨_, _, fun hp => ?_, fun _ => rfl, h2⟩
      have := imp_of h1 hp
      cases a with
      | none =>
        simp only [real, bytesAt, Option.some.injEq] at this
        subst this
        simp only [convV, hs, hd, he]
      | some q =>
        obtain ⟨b, o⟩ := q
        simp only [real, bytesAt] at this
        obtain ⟨cs, hc, hb⟩ := Option.bind_eq_some_iff.1 this
        simp only [convV, hs, hd, he, hc, Option.bind_some, hb, Option.map_some]
    · exact h.elim
  · split at h
    · obtain ⟨H', h1, h2⟩ := h
      exact ComesH.none h1 h2
    · exact h.elim
  · split at h
    · exact ComesH.none h.1 h.2
    · exact h.elim
  · split at h
    · exact ComesH.none h.1 h.2
    · exact h.elim
  · exact h.elim

theorem builtinK_ok {b : Builtin} {ts : List TypeId} {xs : List AV} {K : AV → AH → Prop} (h : builtinK (real P r) P φ H b ts xs K) : ComesH φ H (builtinV P H b ts xs) K := by
  unfold builtinK at h
  split at h
  · exact (lenK_ok h).heap
  · obtain ⟨v, h1, h2⟩ := exS1_iff h
    exact Comes.heap ⟨v, fun hp => imp_of h1 hp, h2⟩
  · exact (minK_ok h).heap
  · exact (maxK_ok h).heap
  · split at h
    · obtain ⟨a, l, c, H', h1, h2⟩ := h; exact ComesH.none h1 h2
    · exact h.elim
  · split at h
    · obtain ⟨n, H', h1, h2⟩ := h; exact ComesH.none h1 h2
    · exact h.elim
  · rename_i ts a l c
    obtain ⟨q, h1, h2⟩ := h
    refine ⟨_, _, fun hp => ?_, fun _ => rfl, h2⟩
    obtain ⟨g1, rfl⟩ := imp_of h1 hp
    cases ts <;> simp [builtinV, g1]
  · split at h
    · obtain ⟨s, H', h1, h2⟩ := h; exact ComesH.none h1 h2
    · exact h.elim
  · exact h.elim

theorem opK_ok {e : Operand → Option AV} {op : Op} {ty : TypeId} {K : AV → AH → Prop} (h : opK (real P r) P φ e H op ty K) : ComesH φ H (opE P e H op) K := by
  unfold opK at h
  split at h
  · obtain ⟨v, hv, h⟩ := vK_iff h; exact ComesH.still (by simp [opE, oMove, hv]) h
  · obtain ⟨v, hv, h⟩ := vK_iff h; exact ComesH.still (by simp [opE, oMove, hv]) h
  · obtain ⟨c', hc, h⟩ := vK_iff h
    split at h
    · rename_i u
      cases u with
      | true => obtain ⟨v, hv, h⟩ := vK_iff (show vK _ _ from h); exact ComesH.still (by simp [opE, oPick, hc, hv]) h
      | false => obtain ⟨v, hv, h⟩ := vK_iff (show vK _ _ from h); exact ComesH.still (by simp [opE, oPick, hc, hv]) h
    · exact h.elim
  · split at h
    · rename_i z hz
      obtain ⟨h1, h2⟩ := bool_if h
      exact ComesH.none (by simp only [opE, oAlloc, hz, Option.bind_some]; rw [if_pos h1]; rfl) h2
    · exact h.elim
  · split at h
    · obtain ⟨v, hv, h1, h2⟩ := vK_iff h
      exact ComesH.none (by simp only [opE, oBox, hv, Option.bind_some]; rw [if_pos h1]; rfl) h2
    · exact h.elim
  · split at h
    · rename_i l hl
      obtain ⟨v, hv, h⟩ := vK_iff h
      exact ComesH.still (by simp [opE, oBuild, hl, hv]) h
    · exact h.elim
  · split at h
    · rename_i l el hl hu
      split at h
      · rename_i s z hs hz
        split at h
        · rename_i cs hf
          exact ComesH.none (by simp only [opE, oBuildSlice, hl, Option.bind_some, buildSliceV, hu, hs, hz]; rw [if_pos h.1, hf]; rfl) h.2
        · exact h.elim
      · exact h.elim
    · exact h.elim
  · obtain ⟨a, ha, h⟩ := vK_iff h
    exact (loadK_ok h).heap.same fun _ => by simp [opE, oLoad, ha]
  · split at h
    · obtain ⟨a, ha, h⟩ := vK_iff h
      obtain ⟨v, hv, h⟩ := vK_iff h
      split at h
      · rename_i b o s hs hold
        obtain ⟨h1, H', h2, h3⟩ := h
        exact ComesH.none (by simp only [opE, oStore, ha, hv, Option.bind_some, storeV]; rw [if_pos (by rw [hs, h1]), show AH.write H b o v.cells = some H' from h2]; rfl) h3
      · exact h.elim
    · exact h.elim
  · obtain ⟨v, hv, h⟩ := vK_iff h
    split at h
    · exact ComesH.still (by simp [opE, oNil, nilOk, hv]) h
    · exact ComesH.still (by simp [opE, oNil, nilOk, hv]) h
    · exact ComesH.still (by simp [opE, oNil, nilOk, hv]) h
    · exact h.elim
  · obtain ⟨a, ha, h⟩ := vK_iff h
    obtain ⟨b, hb, h⟩ := vK_iff h
    exact (binK_ok h).heap.same fun _ => by simp [opE, oBin, ha, hb]
  · obtain ⟨a, ha, h⟩ := vK_iff h
    exact (unK_ok h).heap.same fun _ => by simp [opE, oUn, ha]
  · obtain ⟨a, ha, h⟩ := vK_iff h
    exact (convK_ok h).same fun _ => by simp [opE, oConv, ha]
  · obtain ⟨a, ha, h⟩ := vK_iff h
    split at h
    · exact h.elim
    · rename_i d hni hu
      refine ComesH.still ?_ h
      simp only [opE, oIface, ha, Option.bind_some, hu]
    · exact h.elim
  · obtain ⟨a, ha, h⟩ := evsK_iff h
    obtain ⟨b, hb, h⟩ := evsK_iff h
    exact ComesH.still (by simp [opE, oFunc, ha, hb]) h
  · split at h
    · obtain ⟨a, ha, h⟩ := vK_iff h
      obtain ⟨b, hb, h⟩ := vK_iff h
      split at h
      · obtain ⟨q, n, m, H', h1, h2⟩ := h
        exact ComesH.none (by simp only [opE, oMkSlice, ha, hb, Option.bind_some]; exact h1) h2
      · exact h.elim
    · exact h.elim
  · obtain ⟨a, ha, h⟩ := vK_iff h
    split at h
    · rename_i lo hi mx hlo hhi hmx
      exact (sliceK_ok h).heap.same fun _ => by simp [opE, oSlice, ha, hlo, hhi, hmx]
    · exact h.elim
  · obtain ⟨a, ha, h⟩ := vK_iff h
    obtain ⟨v, hv, h⟩ := vK_iff h
    exact ComesH.still (by simp [opE, oFieldAddr, ha, hv]) h
  · obtain ⟨a, ha, h⟩ := vK_iff h
    obtain ⟨v, hv, h⟩ := vK_iff h
    exact ComesH.still (by simp [opE, oField, ha, hv]) h
  · obtain ⟨a, ha, h⟩ := vK_iff h
    obtain ⟨b, hb, h⟩ := vK_iff h
    exact (indexAddrK_ok h).heap.same fun _ => by simp [opE, oIndexAddr, ha, hb]
  · obtain ⟨a, ha, h⟩ := vK_iff h
    obtain ⟨b, hb, h⟩ := vK_iff h
    exact (indexK_ok h).heap.same fun _ => by simp [opE, oIndex, ha, hb]
  · split at h
    · obtain ⟨a, ha, h⟩ := vK_iff h
      split at h
      · rename_i s hu
        exact ComesH.none (by simp only [opE, oRange, ha, Option.bind_some, hu]; rfl) h
      · exact h.elim
    · exact h.elim
  · split at h
    · obtain ⟨a, ha, h⟩ := vK_iff h
      split at h
      · rename_i b
        obtain ⟨s, pos, h1, h2, h3⟩ := h
        have hg : AH.get H b = some (.iter s pos) := h1
        by_cases hp : pos < s.length
        · exact ComesH.none (by simp only [opE, oNext, ha, Option.bind_some, hg]; rw [if_pos hp]; rfl) (h2 hp)
        · exact ComesH.none (by simp only [opE, oNext, ha, Option.bind_some, hg]; rw [if_neg hp]) (h3 hp)
      · exact h.elim
    · exact h.elim
  · obtain ⟨a, ha, h⟩ := vK_iff h
    split at h
    · obtain ⟨v, hv, h⟩ := vK_iff h
      exact ComesH.still (by simp [opE, oExtract, ha, hv]) h
    · exact h.elim
  · obtain ⟨l, hl, h⟩ := evsK_iff h
    exact (builtinK_ok h).same fun _ => by simp [opE, oBuiltin, hl]
  · exact h.elim

end
end Go.Am
end

/- What a region asks. -/
section
namespace Go.Am
open Go.RowKit

abbrev Cd := List (Tmp × (Nat × Bool))

section
variable (ops : Array Oper)

def gTmp (g : Nat) : Option Tmp := (ops[g]?).bind (·.dst)

def wantG (T : List AV) (gd : Nat × Bool) : Option Bool :=
  match (gTmp ops gd.1).bind (T[·]?) with
  | some (.bool b) => some (b == gd.2)
  | some .any => none
  | _ => some false

theorem wantedV_eq (T : List AV) (o : Oper) : wantedV ops T o = match o.guard with | none => some true | some gd => wantG ops T gd := by
  unfold wantedV wantG gTmp
  cases o.guard with
  | none => rfl
  | some gd => rfl

def phiS (T : List AV) (cd : Cd) : Nat → Nat × Bool → Option Bool
  | 0, _ => none
  | d + 1, gd =>
    match gTmp ops gd.1 with
    | some t => match T[t]? with
      | some (.bool u) => match cd.lookup t with
        | none => some (u == gd.2)
        | some g2 => (phiS T cd d g2).map fun p => p && (u == gd.2)
      | _ => none
    | none => none

structure Rel (T : List AV) (cd : Cd) (Ta : List AV) : Prop where
  len : Ta.length = T.length
  pl : ∀ t, cd.lookup t = none → Ta[t]? = T[t]?
  cn : ∀ t gd, cd.lookup t = some gd → ∃ p, wantG ops Ta gd = some p ∧ (p = true → Ta[t]? = T[t]?) ∧ (p = false → Ta[t]? = some .undef ∨ Ta[t]? = none)

variable {ops}
theorem phiS_ok {T : List AV} {cd : Cd} {Ta : List AV} (h : Rel ops T cd Ta) : ∀ {d : Nat} {gd : Nat × Bool} {p : Bool}, phiS ops T cd d gd = some p → wantG ops Ta gd = some p
  | 0, _, _, hp => by cases hp
  | d + 1, gd, p, hp => by
    simp only [phiS] at hp
    split at hp
    · rename_i t ht
      split at hp
      · rename_i u hu
        split at hp
        · rename_i hc
          cases hp
          simp only [wantG, ht, Option.bind_some, h.pl t hc, hu]
        · rename_i g2 hc
          obtain ⟨q, hq, rfl⟩ := Option.map_eq_some_iff.1 hp
          obtain ⟨q', h1, h2, h3⟩ := h.cn t g2 hc
          rw [phiS_ok h hq] at h1
          cases h1
          cases q with
          | true => simp only [wantG, ht, Option.bind_some, h2 rfl, hu, Bool.true_and]
          | false =>
            rcases h3 rfl with e | e <;> simp [wantG, ht, e]
      · cases hp
    · cases hp

def freshB (ops : Array Oper) (cd : Cd) (dst : Option Tmp) : Bool :=
  match dst with
  | none => true
  | some d => cd.all fun p => !(Nat.beq p.1 d) && match gTmp ops p.2.1 with | some t => !(Nat.beq t d) | none => true

theorem lookup_mem' {β : Type} {t : Nat} {g : β} : ∀ {cd : List (Nat × β)}, cd.lookup t = some g → (t, g) ∈ cd
  | [], h => by cases h
  | (a, b) :: l, h => by
    rw [List.lookup_cons] at h
    split at h
    · rename_i e; simp only [beq_iff_eq] at e; cases h; subst e; simp
    · exact List.mem_cons_of_mem _ (lookup_mem' h)

theorem freshB_spec {cd : Cd} {d : Tmp} (h : freshB ops cd (some d) = true) {t : Tmp} {gd : Nat × Bool} (hc : cd.lookup t = some gd) : t ≠ d ∧ gTmp ops gd.1 ≠ some d := by
  have := List.all_eq_true.1 h _ (lookup_mem' hc)
  simp only [Bool.and_eq_true, Bool.not_eq_true'] at this
  refine ⟨fun e => ?_, fun e => ?_⟩
  · have h1 := this.1; rw [e, Nat.beq_refl] at h1; cases h1
  · have h2 := this.2; rw [e] at h2; simp at h2

theorem wantG_put {T : List AV} {dst : Option Tmp} {v : AV} {gd : Nat × Bool} (h : ∀ d, dst = some d → gTmp ops gd.1 ≠ some d) : wantG ops (putT T dst v) gd = wantG ops T gd := by
  cases dst with
  | none => rfl
  | some d =>
    unfold wantG
    cases ht : gTmp ops gd.1 with
    | none => rfl
    | some t =>
      have : d ≠ t := fun e => h d rfl (by rw [ht, e])
      simp [putT, this]

theorem Rel.put {T : List AV} {cd : Cd} {Ta : List AV} (h : Rel ops T cd Ta) {dst : Option Tmp} (hf : freshB ops cd dst = true) (v : AV) : Rel ops (putT T dst v) cd (putT Ta dst v) := by
  cases dst with
  | none => exact h
  | some d =>
    refine ⟨by simp [putT, h.len], fun t ht => ?_, fun t gd hc => ?_⟩
    · simp only [putT, List.getElem?_set, h.pl t ht, h.len]
    · obtain ⟨p, h1, h2, h3⟩ := h.cn t gd hc
      obtain ⟨e1, e2⟩ := freshB_spec hf hc
      refine ⟨p, by rw [wantG_put (fun d' hd' => by cases hd'; exact e2)]; exact h1, ?_, ?_⟩
      · simpa [putT, List.getElem?_set, Ne.symm e1] using h2
      · simpa [putT, List.getElem?_set, Ne.symm e1] using h3

def addCd (dst : Option Tmp) (gd : Nat × Bool) (cd : Cd) : Cd :=
  match dst with
  | some d => (d, gd) :: cd
  | none => cd

theorem Rel.putCd {T : List AV} {cd : Cd} {Ta : List AV} (h : Rel ops T cd Ta) {dst : Option Tmp} (hf : freshB ops cd dst = true) {gd : Nat × Bool} (hg : ∀ d, dst = some d → gTmp ops gd.1 ≠ some d) {p : Bool} (hw : wantG ops Ta gd = some p) (v : AV) :
    Rel ops (putT T dst v) (addCd dst gd cd) (putT Ta dst (if p then v else .undef)) := by
  cases dst with
  | none => exact h
  | some d =>
    refine ⟨by simp [putT, h.len], fun t ht => ?_, fun t gd' hc => ?_⟩
    · simp only [addCd, List.lookup_cons] at ht
      split at ht
      · cases ht
      · rename_i e
        have : d ≠ t := fun h => by simp [h] at e
        simp [putT, this, h.pl t ht]
    · simp only [addCd, List.lookup_cons] at hc
      split at hc
      · rename_i e
        simp only [beq_iff_eq] at e
        cases hc; subst e
        refine ⟨p, by rw [wantG_put (fun d' hd' => by cases hd'; exact hg _ rfl)]; exact hw, fun hp => ?_, fun hp => ?_⟩
        · subst hp; simp [putT, List.getElem?_set, h.len]
        · subst hp
          simp only [putT, List.getElem?_set, Bool.false_eq_true, if_false, if_true]
          split <;> simp
      · rename_i e
        have hne : d ≠ t := fun h => by simp [h] at e
        obtain ⟨q, h1, h2, h3⟩ := h.cn t gd' hc
        obtain ⟨e1, e2⟩ := freshB_spec hf hc
        refine ⟨q, by rw [wantG_put (fun d' hd' => by cases hd'; exact e2)]; exact h1, ?_, ?_⟩
        · simpa [putT, List.getElem?_set, hne] using h2
        · simpa [putT, List.getElem?_set, hne] using h3

theorem Rel.nil (T : List AV) : Rel ops T [] T := ⟨rfl, fun _ _ => rfl, fun t gd h => by cases h⟩

def dropCd (T : List AV) : Cd → List AV
  | [] => T
  | (t, _) :: cd => dropCd (T.set t .any) cd

structure Wk (T T' : List AV) : Prop where
  len : T.length = T'.length
  at' : ∀ (i : Nat) (v : AV), T[i]? = some v → v = AV.any ∨ T'[i]? = some v

theorem Wk.refl (T : List AV) : Wk T T := ⟨rfl, fun _ _ h => .inr h⟩
theorem Wk.trans {A B C : List AV} (h : Wk A B) (k : Wk B C) : Wk A C := ⟨h.len.trans k.len, fun i v hv => by
  rcases h.at' i v hv with e | e
  · exact .inl e
  · exact k.at' i v e⟩

theorem dropCd_get : ∀ {cd : Cd} {T : List AV} {i : Nat} {v : AV}, (dropCd T cd)[i]? = some v → v = AV.any ∨ (cd.lookup i = none ∧ T[i]? = some v)
  | [], T, i, v, h => .inr ⟨rfl, h⟩
  | (t, g) :: cd, T, i, v, h => by
    rcases dropCd_get (cd := cd) h with e | ⟨e1, e2⟩
    · exact .inl e
    · rw [List.getElem?_set] at e2
      split at e2
      · split at e2
        · cases e2; exact .inl rfl
        · cases e2
      · rename_i hne
        refine .inr ⟨?_, e2⟩
        rw [List.lookup_cons]
        have : (i == t) = false := by simpa using fun h => hne h.symm
        rw [this]; exact e1
theorem dropCd_length : ∀ {cd : Cd} {T : List AV}, (dropCd T cd).length = T.length
  | [], _ => rfl
  | (t, g) :: cd, T => by rw [dropCd, dropCd_length]; simp

theorem Rel.drop {T : List AV} {cd : Cd} {Ta : List AV} (h : Rel ops T cd Ta) : Wk (dropCd T cd) Ta := by
  refine ⟨by rw [dropCd_length, h.len], fun i v hv => ?_⟩
  rcases dropCd_get hv with e | ⟨e1, e2⟩
  · exact .inl e
  · exact .inr (by rw [h.pl i e1]; exact e2)
end

/-! ### One operation in a region -/
section
variable (X : Atoms) (P : Program) (ops : Array Oper)

def sameG (a b : Nat × Bool) : Bool := Nat.beq a.1 b.1 && (a.2 == b.2)

def readK (T : List AV) (cd : Cd) (gd : Option (Nat × Bool)) (φ : Option Bool) (x : Operand) (k : Prop) : Prop :=
  match x with
  | .tmp t => match cd.lookup t with
    | none => k
    | some g =>
      bif (match gd with | some g' => sameG g g' | none => false) then k
      else match phiS ops T cd 8 g with
        | some p => imp φ (p = true) ∧ k
        | none => False
  | _ => k

def readsK (T : List AV) (cd : Cd) (gd : Option (Nat × Bool)) (φ : Option Bool) : List Operand → Prop → Prop
  | [], k => k
  | x :: l, k => readK ops T cd gd φ x (readsK T cd gd φ l k)

variable {ops}
theorem readK_ok {T : List AV} {cd : Cd} {Ta : List AV} (h : Rel ops T cd Ta) {gd : Option (Nat × Bool)} {φ : Option Bool} (hφ : φ.getD true = true) (hg : ∀ g, gd = some g → wantG ops Ta g = some true) {x : Operand} {k : Prop} (hr : readK ops T cd gd φ x k) :
    ev P Ta x = ev P T x ∧ k := by
  unfold readK at hr
  split at hr
  · rename_i t
    split at hr
    · rename_i hc
      exact ⟨by simp only [ev, h.pl t hc], hr⟩
    · rename_i g hc
      obtain ⟨q, h1, h2, _⟩ := h.cn t g hc
      cases hb : (match gd with | some g' => sameG g g' | none => false) with
      | true =>
        rw [hb] at hr
        refine ⟨?_, hr⟩
        cases gd with
        | none => cases hb
        | some g' =>
          simp only [sameG, Bool.and_eq_true, beq_iff_eq] at hb
          have e : g = g' := by
            obtain ⟨a, b⟩ := g; obtain ⟨c, d⟩ := g'
            simp only at hb
            rw [Nat.eq_of_beq_eq_true hb.1, hb.2]
          subst e
          rw [hg g rfl] at h1; cases h1
          simp only [ev, h2 rfl]
      | false =>
        rw [hb] at hr
        simp only [cond_false] at hr
        split at hr
        · rename_i p hp
          obtain ⟨hr1, hr2⟩ := hr
          have e := imp_of hr1 hφ
          subst e
          rw [phiS_ok h hp] at h1; cases h1
          exact ⟨by simp only [ev, h2 rfl], hr2⟩
        · exact hr.elim
  · rename_i hx
    refine ⟨?_, hr⟩
    cases x with
    | tmp t => exact absurd rfl (hx t)
    | _ => rfl

theorem readsK_ok {T : List AV} {cd : Cd} {Ta : List AV} (h : Rel ops T cd Ta) {gd : Option (Nat × Bool)} {φ : Option Bool} (hφ : φ.getD true = true) (hg : ∀ g, gd = some g → wantG ops Ta g = some true) : ∀ {l : List Operand} {k : Prop}, readsK ops T cd gd φ l k →
    (∀ x ∈ l, ev P Ta x = ev P T x) ∧ k
  | [], k, hr => ⟨fun _ h => (by cases h), hr⟩
  | x :: l, k, hr => by
    obtain ⟨h1, hr⟩ := readK_ok P h hφ hg hr
    obtain ⟨h2, hk⟩ := readsK_ok h hφ hg hr
    refine ⟨fun y hy => ?_, hk⟩
    rcases List.mem_cons.1 hy with rfl | hy
    · exact h1
    · exact h2 y hy

theorem readK_k {T : List AV} {cd : Cd} {gd : Option (Nat × Bool)} {φ : Option Bool} {x : Operand} {k : Prop} (hr : readK ops T cd gd φ x k) : k := by
  unfold readK at hr
  split at hr
  · split at hr
    · exact hr
    · rename_i g _
      cases hb : (match gd with | some g' => sameG g g' | none => false) with
      | true => rw [hb] at hr; exact hr
      | false =>
        rw [hb] at hr
        simp only [cond_false] at hr
        split at hr
        · exact hr.2
        · exact hr.elim
  · exact hr
theorem readsK_k {T : List AV} {cd : Cd} {gd : Option (Nat × Bool)} {φ : Option Bool} : ∀ {l : List Operand} {k : Prop}, readsK ops T cd gd φ l k → k
  | [], _, h => h
  | _ :: _, _, h => readsK_k (readK_k h)

/-! pick -/

def armOk (ops : Array Oper) (cd : Cd) (c : Operand) (want : Bool) (x : Operand) : Bool :=
  match x with
  | .tmp t => match cd.lookup t with
    | none => true
    | some g => (g.2 == want) && match c, gTmp ops g.1 with
      | .tmp tc, some tg => Nat.beq tc tg
      | _, _ => false
  | _ => true

def mergeK (a b : Operand) (u x y : Bool) (K : AV → Prop) : Prop :=
  match a, b with
  | .const (.bool true), _ => K (.bool (u || y))
  | _, .const (.bool false) => K (.bool (u && x))
  | _, _ => K (.bool (cond u x y))

theorem mergeK_eq {T : List AV} {a b : Operand} {u x y : Bool} {K : AV → Prop} (ha : ev P T a = some (.bool x)) (hb : ev P T b = some (.bool y)) (h : mergeK a b u x y K) : K (.bool (cond u x y)) := by
  unfold mergeK at h
  split at h
  · simp [ev, ofV] at ha; subst ha; cases u <;> exact h
  · simp [ev, ofV] at hb; subst hb; cases u <;> exact h
  · exact h

def pickK (T : List AV) (cd : Cd) (φ : Option Bool) (c a b : Operand) (K : AV → Prop) : Prop :=
  bif armOk ops cd c true a && armOk ops cd c false b then
    vK (ev P T c) fun c' => vK (ev P T a) fun a' => vK (ev P T b) fun b' =>
      match c', a', b' with
      | .bool u, .bool x, .bool y => mergeK a b u x y K
      | .bool u, x, y => match φ with
        | none => (u = true → K x) ∧ (u = false → K y)
        | some _ => False
      | _, _, _ => False
  else False

theorem arm_ok {T : List AV} {cd : Cd} {Ta : List AV} (h : Rel ops T cd Ta) {c : Operand} {u : Bool} (hc : ev P Ta c = some (.bool u)) {x : Operand} (ha : armOk ops cd c u x = true) : ev P Ta x = ev P T x := by
  unfold armOk at ha
  split at ha
  · rename_i t
    split at ha
    · rename_i hl; simp only [ev, h.pl t hl]
    · rename_i g hl
      simp only [Bool.and_eq_true, beq_iff_eq] at ha
      obtain ⟨h1, h2⟩ := ha
      split at h2
      · rename_i tc tg hg
        obtain rfl := Nat.eq_of_beq_eq_true h2
        obtain ⟨p, k1, k2, _⟩ := h.cn t g hl
        have hT : Ta[tc]? = some (.bool u) := by
          simp only [ev, Option.some.injEq] at hc
          cases hx : Ta[tc]? with
          | none => rw [hx] at hc; simp [AV.undef] at hc
          | some v => rw [hx] at hc; simp at hc; rw [hc]
        have : wantG ops Ta g = some true := by
          simp only [wantG, hg, Option.bind_some, hT, h1, BEq.rfl]
        rw [this] at k1; cases k1
        simp only [ev, k2 rfl]
      · cases h2
  · rename_i hx
    cases x with
    | tmp t => exact absurd rfl (hx t)
    | _ => rfl

theorem pickK_ok {T : List AV} {cd : Cd} {Ta : List AV} (h : Rel ops T cd Ta) {φ : Option Bool} {c a b : Operand} {K : AV → Prop} (hc : φ.getD true = true → ev P Ta c = ev P T c) (hp : pickK P (ops := ops) T cd φ c a b K) (H : AH) :
    ∃ v, (φ.getD true = true → oPick (ev P Ta) H c a b = some (v, H)) ∧ K v := by
  unfold pickK at hp
  obtain ⟨h0, hp⟩ := bool_if hp
  simp only [Bool.and_eq_true] at h0
  obtain ⟨c', hc', hp⟩ := vK_iff hp
  obtain ⟨a', ha', hp⟩ := vK_iff hp
  obtain ⟨b', hb', hp⟩ := vK_iff hp
  have key : ∃ u, c' = .bool u ∧ ((∃ x y, a' = .bool x ∧ b' = .bool y ∧ mergeK a b u x y K) ∨ (φ = none ∧ (u = true → K a') ∧ (u = false → K b'))) := by
    cases c' with
    | bool u =>
      refine ⟨u, rfl, ?_⟩
      cases a' <;> cases b' <;> first
        | exact .inl ⟨_, _, rfl, rfl, hp⟩
        | (cases φ with
          | none => exact .inr ⟨rfl, hp⟩
          | some _ => exact hp.elim)
    | _ => exact hp.elim
  obtain ⟨u, rfl, ⟨x, y, rfl, rfl, hk⟩ | ⟨rfl, hk⟩⟩ := key
  · refine ⟨_, fun hφ => ?_, mergeK_eq P ha' hb' hk⟩
    have hcu := (hc hφ).trans hc'
    cases u with
    | true => simp only [oPick, hcu, Option.bind_some]; rw [arm_ok P h hcu h0.1, ha']; rfl
    | false => simp only [oPick, hcu, Option.bind_some]; rw [arm_ok P h hcu h0.2, hb']; rfl
  · have hcu := (hc rfl).trans hc'
    cases u with
    | true => exact ⟨_, fun _ => by simp only [oPick, hcu, Option.bind_some]; rw [arm_ok P h hcu h0.1, ha']; rfl, hk.1 rfl⟩
    | false => exact ⟨_, fun _ => by simp only [oPick, hcu, Option.bind_some]; rw [arm_ok P h hcu h0.2, hb']; rfl, hk.2 rfl⟩

end
end Go.Am
end

/- What a region, a statement, a function asks. -/
section
namespace Go.Am
open Go.RowKit

section
variable (X : Atoms) (P : Program)

def exVs : List TypeId → (List AV → Prop) → Prop
  | [], k => k []
  | t :: ts, k => exV P t fun v => exVs ts fun vs => k (v :: vs)

theorem exVs_iff {P : Program} : ∀ {ts : List TypeId} {k : List AV → Prop}, exVs P ts k → ∃ vs, k vs
  | [], _, h => ⟨_, h⟩
  | _ :: _, _, h => by
    obtain ⟨v, h⟩ := exV_iff h
    obtain ⟨vs, h⟩ := exVs_iff h
    exact ⟨_, h⟩

def gotK (f : FuncId) (v : AV) (K : AV → Prop) : Prop :=
  match P.funcs[f]? with
  | some fn => match fn.resultTypes.toList with
    | [] => K v
    | [t] => exV P t fun u => v = u ∧ K u
    | ts => exVs P ts fun us => v = .tuple us ∧ K (.tuple us)
  | none => False

theorem gotK_k {f : FuncId} {v : AV} {K : AV → Prop} (h : gotK P f v K) : K v := by
  unfold gotK at h
  split at h
  · split at h
    · exact h
    · obtain ⟨u, hv, hk⟩ := exV_iff h; rw [hv]; exact hk
    · obtain ⟨u, hv, hk⟩ := exVs_iff h; rw [hv]; exact hk
  · exact h.elim

def callK (fv : AV) (vs : List AV) (H : AH) (K : AV → AH → Prop) : Prop :=
  match fv with
  | .func (.func g) x y => X.call g (x ++ vs ++ y) H fun v H' => gotK P g v fun v => K v H'
  | .yld b => X.yld b vs H fun v H' => ∃ t, v = .bool t ∧ K (.bool t) H'
  | _ => False

def stepK (T : List AV) (H : AH) (o : Oper) (K : AV → AH → Prop) : Prop :=
  match o.op with
  | .call ⟨.value f, xs, _⟩ => vK (ev P T f) fun fv => evsK (ev P T) xs.toList fun vs => callK X P fv vs H K
  | op => opK X P none (ev P T) H op o.type K

def isPick : Op → Bool
  | .pick .. => true
  | _ => false

def specOp : Op → Bool
  | .load .. | .slice .. => true
  | .call ⟨.builtin b, _, _⟩ => match b with | .len | .cap | .min | .max => true | _ => false
  | .convert .. => true
  | o => freeOp o

abbrev Kn := List ((Nat × Bool) × Bool)
def lookKn (gd : Nat × Bool) : Kn → Option Bool
  | [] => none
  | (g, p) :: l => bif sameG g gd then some p else lookKn gd l
def freshKn (ops : Array Oper) (kn : Kn) (dst : Option Tmp) : Bool :=
  match dst with
  | none => true
  | some d => kn.all fun p => match gTmp ops p.1.1 with | some t => !(Nat.beq t d) | none => true

def knVal (ops : Array Oper) (c : Operand) : Kn → Option Bool
  | [] => none
  | (g, p) :: l =>
    bif (match c, gTmp ops g.1 with | .tmp tc, some tg => Nat.beq tc tg | _, _ => false) then some (bif p then g.2 else !g.2) else knVal ops c l

def byIndex (ops : Array Oper) (a : Operand) : Bool :=
  match a with
  | .tmp t => ops.toList.any fun o => (match o.dst with | some d => Nat.beq d t | none => false) && (match o.op with | .indexAddr .. => true | _ => false)
  | _ => false

def specK (ops : Array Oper) (kn : Kn) (T : List AV) (cd : Cd) (gd : Option (Nat × Bool)) (φ : Option Bool) (H : AH) (o : Oper) (K : AV → AH → Prop) : Prop :=
  match o.op with
  | .pick c a b => match knVal ops c kn with
    | some u => readK ops T cd gd φ c (vK (ev P T c) fun c' => match c' with
      | .bool _ => readK ops T cd gd φ (bif u then a else b) (vK (ev P T (bif u then a else b)) fun v => K v H)
      | _ => False)
    | none => readK ops T cd gd φ c (pickK P (ops := ops) T cd φ c a b fun v => K v H)
  | .load t a => readK ops T cd gd φ a (vK (ev P T a) fun x => loadK X P (bif byIndex ops a then φ else none) H t x fun v => K v H)
  | op => readsK ops T cd gd φ op.operands.toList (opK X P φ (ev P T) H op o.type K)

def knowT (ops : Array Oper) (cd : Cd) (g : Nat) (b : Bool) (T : List AV) : List AV :=
  match gTmp ops g with
  | some t => match cd.lookup t with
    | none => T.set t (.bool b)
    | some _ => T
  | none => T

def opsK (ops : Array Oper) : List Oper → List AV → Cd → Kn → AH → (List AV → Cd → AH → Prop) → Prop
  | [], T, cd, _, H, K => K T cd H
  | o :: l, T, cd, kn, H, K =>
    bif freshB ops cd o.dst && freshKn ops kn o.dst then
      match o.guard with
      | none =>
        bif isPick o.op then specK X P ops kn T cd none none H o fun v H' => opsK ops l (putT T o.dst v) cd kn H' K
        else readsK ops T cd none none o.op.operands.toList (stepK X P T H o fun v H' => opsK ops l (putT T o.dst v) cd kn H' K)
      | some gd =>
        match lookKn gd kn with
        | some true =>
          bif isPick o.op then specK X P ops kn T cd (some gd) none H o fun v H' => opsK ops l (putT T o.dst v) cd kn H' K
          else readsK ops T cd (some gd) none o.op.operands.toList (stepK X P T H o fun v H' => opsK ops l (putT T o.dst v) cd kn H' K)
        | some false => opsK ops l (putT T o.dst .undef) cd kn H K
        | none =>
        match phiS ops T cd 8 gd with
        | none => False
        | some p =>
          bif specOp o.op then
            bif (match o.dst, gTmp ops gd.1 with | some d, some t => !(Nat.beq d t) | _, _ => true) then
              specK X P ops kn T cd (some gd) (some p) H o fun v H' => opsK ops l (putT T o.dst v) (addCd o.dst gd cd) kn H' K
            else False
          else
            bif freshKn ops [(gd, true)] o.dst then
            cond p
              (readsK ops (knowT ops cd gd.1 gd.2 T) cd (some gd) none o.op.operands.toList
                (stepK X P (knowT ops cd gd.1 gd.2 T) H o fun v H' => opsK ops l (putT (knowT ops cd gd.1 gd.2 T) o.dst v) cd ((gd, true) :: kn) H' K))
              (match phiS ops T cd 1 gd with
                | some _ => opsK ops l (putT (knowT ops cd gd.1 (!gd.2) T) o.dst .undef) cd ((gd, false) :: kn) H K
                | none => opsK ops l (putT T o.dst .undef) cd ((gd, false) :: kn) H K)
            else False
    else False

end

section
variable {P : Program} {r : Option Nat} {ops : Array Oper}

theorem stepK_ok {T Ta : List AV} {H : AH} {o : Oper} {K : AV → AH → Prop} (he : ∀ x ∈ o.op.operands.toList, ev P Ta x = ev P T x) (h : stepK (real P r) P T H o K) : AOp P r o Ta H K := by
  unfold stepK at h
  split at h
  · rename_i f xs ts heq
    obtain ⟨fv, hf, h⟩ := vK_iff h
    obtain ⟨vs, hvs, h⟩ := evsK_iff h
    obtain ⟨dst, op, ty, pos, after, guard⟩ := o
    simp only at heq; subst heq
    have hf' : ev P Ta f = some fv := by rw [he f (by simp [Op.operands, Call.operands])]; exact hf
    have hx' : evs P Ta xs.toList = some vs := by
      rw [evs_congr (T' := T) fun y hy => he y (by simp [Op.operands, Call.operands]; right; simpa using hy), ← evsE_eq]; exact hvs
    unfold callK at h
    split at h
    · refine AOp.callee hf' hx' ?_
      have h' : ACallee P _ _ H _ := h
      rcases h' with ⟨h1, h2⟩ | h2
      · exact .inl ⟨h1, h2.mono fun v H' hk => gotK_k P hk⟩
      · refine .inr fun E B w args' hH ha => ?_
        obtain ⟨v, H', E', w', x, k1, k2, k3⟩ := h2 E B w args' hH ha
        exact ⟨v, H', E', w', x, k1, gotK_k P k2, k3⟩
    · exact AOp.mono (h _ _ _ _ _ _ _ _ Ta hf' hx') fun v H' hk => by obtain ⟨t, rfl, hk⟩ := hk; exact hk
    · exact h.elim
  · rename_i hn
    obtain ⟨v, H', h1, h2, h3⟩ := opK_ok h
    refine AOp.of_opV (v := v) (H' := H') ?_ h3
    rw [opV_congr (T' := T) H (fun x hx => he x (by simpa using hx)), ← opE_eq]
    exact h1 rfl

def KnR (ops : Array Oper) (kn : Kn) (Ta : List AV) : Prop := ∀ q ∈ kn, wantG ops Ta q.1 = some q.2

theorem sameG_eq {a b : Nat × Bool} (h : sameG a b = true) : a = b := by
  simp only [sameG, Bool.and_eq_true, beq_iff_eq] at h
  obtain ⟨a1, a2⟩ := a; obtain ⟨b1, b2⟩ := b
  simp only at h
  rw [Nat.eq_of_beq_eq_true h.1, h.2]

theorem lookKn_mem {gd : Nat × Bool} {p : Bool} : ∀ {kn : Kn}, lookKn gd kn = some p → (gd, p) ∈ kn
  | [], h => by cases h
  | (g, q) :: l, h => by
    simp only [lookKn] at h
    cases hb : sameG g gd with
    | true => rw [hb] at h; cases h; rw [sameG_eq hb]; simp
    | false => rw [hb] at h; exact List.mem_cons_of_mem _ (lookKn_mem h)

theorem KnR.put {kn : Kn} {Ta : List AV} (h : KnR ops kn Ta) {dst : Option Tmp} (hf : freshKn ops kn dst = true) (v : AV) : KnR ops kn (putT Ta dst v) := by
  intro q hq
  rw [wantG_put (fun d hd e => ?_)]
  · exact h q hq
  · subst hd
    have := List.all_eq_true.1 hf _ hq
    rw [e] at this
    simp at this

theorem KnR.add {kn : Kn} {Ta : List AV} (h : KnR ops kn Ta) {gd : Nat × Bool} {p : Bool} (hw : wantG ops Ta gd = some p) : KnR ops ((gd, p) :: kn) Ta := by
  intro q hq
  rcases List.mem_cons.1 hq with rfl | hq
  · exact hw
  · exact h q hq

theorem freshKn_add {kn : Kn} {gd : Nat × Bool} {p q : Bool} {dst : Option Tmp} (h : freshKn ops kn dst = true) (h1 : freshKn ops [(gd, q)] dst = true) : freshKn ops ((gd, p) :: kn) dst = true := by
  cases dst with
  | none => rfl
  | some d =>
    simp only [freshKn, List.all_cons, Bool.and_eq_true] at h h1 ⊢
    exact ⟨h1.1, h⟩

theorem knVal_ok {kn : Kn} {Ta : List AV} (hN : KnR ops kn Ta) {c : Operand} {u v : Bool} (hc : ev P Ta c = some (.bool v)) (h : knVal ops c kn = some u) : v = u := by
  have key : ∀ {l : Kn}, (∀ q ∈ l, wantG ops Ta q.1 = some q.2) → knVal ops c l = some u → v = u := by
    intro l
    induction l with
    | nil => intro _ h; cases h
    | cons q l ih =>
      intro hq h
      obtain ⟨g, p⟩ := q
      simp only [knVal] at h
      cases hb : (match c, gTmp ops g.1 with | .tmp tc, some tg => Nat.beq tc tg | _, _ => false) with
      | false => rw [hb] at h; exact ih (fun q hm => hq q (List.mem_cons_of_mem _ hm)) h
      | true =>
        rw [hb] at h
        simp only [cond_true, Option.some.injEq] at h
        have hw := hq _ (List.mem_cons_self ..)
        simp only at hw
        split at hb
        · rename_i tc tg hg
          obtain rfl := Nat.eq_of_beq_eq_true hb
          have hT : Ta[tc]? = some (.bool v) := by
            simp only [ev, Option.some.injEq] at hc
            cases hx : Ta[tc]? with
            | none => rw [hx] at hc; simp [AV.undef] at hc
            | some x => rw [hx] at hc; simp at hc; rw [hc]
          simp only [wantG, hg, Option.bind_some, hT, Option.some.injEq] at hw
          subst hw
          rw [← h]
          cases v <;> cases g.2 <;> rfl
        · cases hb
  exact key hN h

theorem specK_ok {T Ta : List AV} {cd : Cd} {kn : Kn} (hR : Rel ops T cd Ta) (hN : KnR ops kn Ta) {gd : Option (Nat × Bool)} {φ : Option Bool} (hg : φ.getD true = true → ∀ g, gd = some g → wantG ops Ta g = some true) {H : AH} {o : Oper} {K : AV → AH → Prop} (h : specK (real P r) P ops kn T cd gd φ H o K) :
    ∃ v H', (φ.getD true = true → opV P Ta H o = some (v, H')) ∧ (φ ≠ none → H' = H) ∧ K v H' := by
  obtain ⟨dst, op, ty, pos, after, guard⟩ := o
  unfold specK at h
  split at h
  · rename_i c a b heq
    simp only at heq; subst heq
    split at h
    · rename_i u hu
      obtain ⟨c', hc', hk⟩ := vK_iff (readK_k h)
      split at hk
      · rename_i b'
        obtain ⟨v, hv, hk2⟩ := vK_iff (readK_k hk)
        refine ⟨v, H, fun hφ => ?_, fun _ => rfl, hk2⟩
        have h1 := ((readK_ok P hR hφ (hg hφ) h).1).trans hc'
        have h2 := ((readK_ok P hR hφ (hg hφ) hk).1).trans hv
        obtain rfl := knVal_ok hN h1 hu
        cases b' with
        | true => simp only [opV, h1, Option.bind_some]; rw [show ev P Ta a = some v from h2]; rfl
        | false => simp only [opV, h1, Option.bind_some]; rw [show ev P Ta b = some v from h2]; rfl
      · exact hk.elim
    · obtain ⟨v, h1, h2⟩ := pickK_ok P hR (fun hφ => (readK_ok P hR hφ (hg hφ) h).1) (readK_k h) H
      exact ⟨v, H, fun hφ => by rw [← opE_eq]; exact h1 hφ, fun _ => rfl, h2⟩
  · rename_i t a heq
    simp only at heq; subst heq
    obtain ⟨x, hx, hl⟩ := vK_iff (readK_k h)
    obtain ⟨v, h1, h2⟩ := loadK_ok hl
    refine ⟨v, H, fun hφ => ?_, fun _ => rfl, h2⟩
    have hv : loadV P H t x = some v := h1 (by cases byIndex ops a <;> first | rfl | exact hφ)
    have hx' : ev P Ta a = some x := ((readK_ok P hR hφ (hg hφ) h).1).trans hx
    simp only [opV, hx', Option.bind_some, hv, Option.map_some]
  · rename_i hn
    obtain ⟨v, H', h1, h2, h3⟩ := opK_ok (readsK_k h)
    refine ⟨v, H', fun hφ => ?_, h2, h3⟩
    rw [opV_congr (T' := T) H (fun x hx => (readsK_ok P hR hφ (hg hφ) h).1 x (by simpa using hx)), ← opE_eq]
    exact h1 hφ

theorem Rel.know {T Ta : List AV} {cd : Cd} (_ : Rel ops T cd Ta) {d : Nat} {gd : Nat × Bool} {p : Bool} (hp : phiS ops T cd (d + 1) gd = some p) {b : Bool} (hb : ∀ u, gTmp ops gd.1 ≠ none → p = (u == gd.2) → u = b) : knowT ops cd gd.1 b T = T := by
  unfold knowT
  simp only [phiS] at hp
  split at hp
  · rename_i t ht
    try rw [ht]
    try simp only
    split at hp
    · rename_i u hu
      split at hp
      · rename_i hc
        try rw [hc]
        cases hp
        have e := hb u (by rw [ht]; simp) rfl
        subst e
        apply List.ext_getElem?
        intro i
        rw [List.getElem?_set]
        split
        · rename_i e; subst e
          rw [hu]; simp [(List.getElem?_eq_some_iff.1 hu).1]
        · rfl
      · rename_i g2 hc
        first | rfl | rw [hc]
    · cases hp
  · cases hp

theorem opsK_ok {K : List AV → Cd → AH → Prop} : ∀ {l : List Oper} {T Ta : List AV} {cd : Cd} {kn : Kn} {H : AH}, opsK (real P r) P ops l T cd kn H K → Rel ops T cd Ta → KnR ops kn Ta →
    AOps P r ops (fun Ta' H' => ∃ T' cd', Rel ops T' cd' Ta' ∧ K T' cd' H') l Ta H
  | [], T, Ta, cd, kn, H, h, hR, hN => ⟨T, cd, hR, h⟩
  | o :: l, T, Ta, cd, kn, H, h, hR, hN => by
    simp only [opsK] at h
    obtain ⟨hff, h⟩ := bool_if h
    simp only [Bool.and_eq_true] at hff
    obtain ⟨hf, hfk⟩ := hff
    have doIt : ∀ (gd : Option (Nat × Bool)), (∀ g, gd = some g → wantG ops Ta g = some true) → wantedV ops Ta o = some true →
        (bif isPick o.op then specK (real P r) P ops kn T cd gd none H o fun v H' => opsK (real P r) P ops l (putT T o.dst v) cd kn H' K
          else readsK ops T cd gd none o.op.operands.toList (stepK (real P r) P T H o fun v H' => opsK (real P r) P ops l (putT T o.dst v) cd kn H' K)) →
        AOps P r ops (fun Ta' H' => ∃ T' cd', Rel ops T' cd' Ta' ∧ K T' cd' H') (o :: l) Ta H := by
      intro gd hg hw h
      cases hpk : isPick o.op with
      | true =>
        rw [hpk] at h
        have h' : specK (real P r) P ops kn T cd gd none H o fun v H' => opsK (real P r) P ops l (putT T o.dst v) cd kn H' K := h
        obtain ⟨v, H', h1, _, h3⟩ := specK_ok (gd := gd) (φ := none) hR hN (fun _ => hg) h'
        exact .inl ⟨hw, AOp.of_opV (h1 rfl) (opsK_ok h3 (hR.put hf v) (hN.put hfk v))⟩
      | false =>
        rw [hpk] at h
        have h' : readsK ops T cd gd none o.op.operands.toList (stepK (real P r) P T H o fun v H' => opsK (real P r) P ops l (putT T o.dst v) cd kn H' K) := h
        obtain ⟨he, hk⟩ := readsK_ok P hR (gd := gd) (φ := none) rfl hg h'
        exact .inl ⟨hw, (stepK_ok he hk).mono fun v H' hk => opsK_ok hk (hR.put hf v) (hN.put hfk v)⟩
    split at h
    · rename_i hgn
      exact doIt none (fun _ h => by cases h) (by rw [wantedV_eq, hgn]) h
    · rename_i gd hgd
      split at h
      · rename_i hkn
        have hwg := hN _ (lookKn_mem hkn)
        exact doIt (some gd) (fun g hgg => by cases hgg; exact hwg) (by rw [wantedV_eq, hgd]; exact hwg) h
      · rename_i hkn
        have hwg := hN _ (lookKn_mem hkn)
        exact .inr ⟨by rw [wantedV_eq, hgd]; exact hwg, opsK_ok h (hR.put hf .undef) (hN.put hfk .undef)⟩
      split at h
      · exact h.elim
      · rename_i p hp
        have hwg := phiS_ok hR hp
        have hw : wantedV ops Ta o = some p := by rw [wantedV_eq, hgd]; exact hwg
        cases hs : specOp o.op with
        | true =>
          rw [hs] at h
          obtain ⟨hd, h⟩ := bool_if (show bif (match o.dst, gTmp ops gd.1 with | some d, some t => !(Nat.beq d t) | _, _ => true) then _ else False from h)
          have hdg : ∀ d, o.dst = some d → gTmp ops gd.1 ≠ some d := fun d hdd e => by rw [hdd, e] at hd; simp at hd
          obtain ⟨v, H', h1, h2, h3⟩ := specK_ok hR hN (fun hφ g hgg => by cases hgg; rw [hwg]; exact congrArg some hφ) h
          obtain rfl : H' = H := h2 (by simp)
          have hR' := hR.putCd hf hdg hwg v
          cases p with
          | true => exact .inl ⟨hw, AOp.of_opV (h1 rfl) (opsK_ok h3 hR' (hN.put hfk v))⟩
          | false => exact .inr ⟨hw, opsK_ok h3 hR' (hN.put hfk .undef)⟩
        | false =>
          rw [hs] at h
          obtain ⟨hfg, h⟩ := bool_if (show bif freshKn ops [(gd, true)] o.dst then _ else False from h)
          have hN' : KnR ops ((gd, p) :: kn) Ta := hN.add hwg
          cases p with
          | true =>
            have hT : knowT ops cd gd.1 gd.2 T = T := hR.know hp (fun u _ e => by simpa using e)
            rw [hT] at h
            have h' : readsK ops T cd (some gd) none o.op.operands.toList (stepK (real P r) P T H o fun v H' => opsK (real P r) P ops l (putT T o.dst v) cd ((gd, true) :: kn) H' K) := h
            obtain ⟨he, hk⟩ := readsK_ok P hR (gd := some gd) (φ := none) rfl (fun g hgg => by cases hgg; exact hwg) h'
            exact .inl ⟨hw, (stepK_ok he hk).mono fun v H' hk => opsK_ok hk (hR.put hf v) (hN'.put (freshKn_add hfk hfg) v)⟩
          | false =>
            have h' : (match phiS ops T cd 1 gd with
                | some _ => opsK (real P r) P ops l (putT (knowT ops cd gd.1 (!gd.2) T) o.dst .undef) cd ((gd, false) :: kn) H K
                | none => opsK (real P r) P ops l (putT T o.dst .undef) cd ((gd, false) :: kn) H K) := h
            refine .inr ⟨hw, ?_⟩
            split at h'
            · rename_i q hq
              have e := phiS_ok hR hq
              rw [hwg] at e; cases e
              rw [hR.know hq (fun u _ e => by revert e; cases u <;> cases gd.2 <;> decide)] at h'
              exact opsK_ok h' (hR.put hf .undef) (hN'.put (freshKn_add hfk hfg) .undef)
            · exact opsK_ok h' (hR.put hf .undef) (hN'.put (freshKn_add hfk hfg) .undef)

end
end Go.Am
end

/- What a statement, a function asks. -/
section
namespace Go.Am
open Go.RowKit

section
variable (X : Atoms) (P : Program)

def calmφ : Op → Option Bool
  | .convert .. => some true
  | _ => none

theorem calm_ok {P : Program} {r : Option Nat} {T : List AV} {H : AH} {o : Oper} {K : AV → AH → Prop} (hq : quietOp o.op = true) (h : opK (real P r) P (calmφ o.op) (ev P T) H o.op o.type K) : ∃ v, opV P T H o = some (v, H) ∧ K v H := by
  obtain ⟨v, H', h1, h2, h3⟩ := opK_ok h
  have he : opV P T H o = some (v, H') := by rw [← opE_eq]; exact h1 (by cases o.op <;> rfl)
  have : H' = H := by
    obtain ⟨dst, op, ty, pos, after, guard⟩ := o
    cases op
    case convert => exact h2 (by simp [calmφ])
    all_goals exact quietOp_spec hq he rfl
  subst this
  exact ⟨v, he, h3⟩

def pendK (A : List Nat) (i : Nat) (H : AH) : Pend → Prop → Prop
  | [], k => k
  | (j, o, T, v) :: pend, k => bif ancOf A i j then pendK A i H pend k else bif quietOp o.op then opK X P (calmφ o.op) (ev P T) H o.op o.type (fun u _ => u = v) ∧ pendK A i H pend k else False

def drawK (ops : Array Oper) (A : List Nat) : List (Nat × Nat) → Pend → List AV → AH → (List AV → AH → Prop) → Prop
  | [], _, T, H, K => K T H
  | (i, k) :: σ, pend, T, H, K =>
    match ops[i]? with
    | none => False
    | some o =>
      let done : List AV → Prop := fun T =>
        bif Nat.beq k 2 then stepK X P T H o fun v H' => pendK X P A i H' pend (drawK ops A σ pend (putT T o.dst v) H' K)
        else bif quietOp o.op then opK X P (calmφ o.op) (ev P T) H o.op o.type fun v _ => drawK ops A σ (bif Nat.beq k 0 then pend else (i, o, T, v) :: pend) (putT T o.dst v) H K
        else False
      match o.guard with
      | none => done T
      | some gd =>
        match phiS ops T [] 1 gd with
        | some p => cond p (done (knowT ops [] gd.1 gd.2 T)) (drawK ops A σ pend (putT (knowT ops [] gd.1 (!gd.2) T) o.dst .undef) H K)
        | none => False

def look (T : List AV) (t : Tmp) : AV := (T[t]?).getD .undef

structure LoopAnn where
  key : Nat
  α : Type
  live : List Tmp
  tmpl : α → List AV
  inv : α → AH → Nat → Prop

def firstReg : Code → Option Nat
  | .region id _ _ => some id
  | .seq a b => match firstReg a with | some i => some i | none => firstReg b
  | .cond _ a b => match firstReg a with | some i => some i | none => firstReg b
  | .block _ c => firstReg c
  | .loop c => firstReg c
  | .scope c => firstReg c
  | .rangeFunc _ _ a b => match firstReg a with | some i => some i | none => firstReg b
  | _ => none

def findAnn (k : Nat) : List LoopAnn → Option LoopAnn
  | [] => none
  | a :: l => bif Nat.beq a.key k then some a else findAnn k l

def setAll : List Tmp → List AV → List AV → List AV
  | t :: ts, v :: vs, T => setAll ts vs (T.set t v)
  | _, _, T => T
def mkT (n : Nat) (live : List Tmp) (vs : List AV) : List AV := setAll live vs (List.replicate n .any)

abbrev VK := AEx → List AV → List Mk → AH → Prop

def sameM (M2 M : List Mk) (k : Prop) : Prop :=
  match M2, M with
  | [], [] => k
  | a, b => a = b ∧ k
theorem sameM_iff {M2 M : List Mk} {k : Prop} (h : sameM M2 M k) : M2 = M ∧ k := by
  unfold sameM at h
  split at h
  · exact ⟨rfl, h⟩
  · exact h

def vcC (anns : List LoopAnn) : Code → VK → List AV → List Mk → AH → Prop
  | .skip, K, T, M, H => K .normal T M H
  | .label _, K, T, M, H => K .normal T M H
  | .exit id, K, T, M, H => K (.exit id) T M H
  | .goto l, K, T, M, H => K (.goto l) T M H
  | .ret, K, T, M, H => K .ret T M H
  | .seq a b, K, T, M, H => vcC anns a (fun e T M H => match e with | .normal => vcC anns b K T M H | e => K e T M H) T M H
  | .cond c x y, K, T, M, H => vK (ev P T c) fun v => match v with
    | .bool u => cond u (vcC anns x K T M H) (vcC anns y K T M H)
    | _ => False
  | .block id c, K, T, M, H => vcC anns c (fun e => K (inBlockX id e)) T M H
  | .loop c, K, T, M, H => match firstReg c with
    | some k => match findAnn k anns with
      | some a => (∃ x j, a.live.map (look T) = a.tmpl x ∧ a.inv x H j) ∧ ∀ x H' j, a.inv x H' j →
          vcC anns c (fun e T2 M2 H2 => match e with
            | .normal => bif Nat.beq T2.length T.length then sameM M2 M (∃ x' j', j' < j ∧ a.live.map (look T2) = a.tmpl x' ∧ a.inv x' H2 j') else False
            | e => K e T2 M2 H2) (mkT T.length a.live (a.tmpl x)) M H'
      | none => False
    | none => False
  | .region _ ops false, K, T, M, H => opsK X P ops ops.toList T [] [] H fun T' cd H' => K .normal (dropCd T' cd) M H'
  | .region _ ops true, K, T, M, H => match drawOf ops with
    | some (σ, A) => drawK X P ops A σ [] T H fun T' H' => K .normal T' M H'
    | none => False
  | _, _, _, _, _ => False

def marksK (M : List Mk) (H : AH) (k : AH → Prop) : Prop :=
  match M with
  | [] => k H
  | M => ∃ H', X.tm M H = some H' ∧ k H'

def resK (T : List AV) (H : AH) : List ResultVar → (List AV → Prop) → Prop
  | [], k => k []
  | .tmp t :: l, k => resK T H l fun vs => k (look T t :: vs)
  | .cell a t :: l, k => loadK X P none H t (look T a) fun v => resK T H l fun vs => k (v :: vs)

def retK (fn : Func) (Q : AV → AH → Prop) : VK := fun e T M H =>
  match e with
  | .normal => marksK X M H fun H' => resK X P T H' fn.results.toList fun vs => Q (oneOf vs) H'
  | .ret => marksK X M H fun H' => resK X P T H' fn.results.toList fun vs => Q (oneOf vs) H'
  | _ => False

def vcF (anns : List LoopAnn) (f : FuncId) (args : List AV) (H : AH) (Q : AV → AH → Prop) : Prop :=
  match P.funcs[f]? with
  | some fn => match fn.body with
    | some c => vcC X P anns c (retK X P fn Q) (args ++ List.replicate (fn.ntmps - args.length) .undef) [] H
    | none => False
  | none => False
end

section
variable {P : Program} {r : Option Nat}

theorem pendK_ok {A : List Nat} {i : Nat} {H : AH} : ∀ {pend : Pend} {k : Prop}, pendK (real P r) P A i H pend k → (∀ p ∈ pend, ancOf A i p.1 = false → opV P p.2.2.1 H p.2.1 = some (p.2.2.2, H)) ∧ k
  | [], _, h => ⟨fun _ h => (by cases h), h⟩
  | (j, o, T, v) :: pend, k, h => by
    simp only [pendK] at h
    cases hb : ancOf A i j with
    | true =>
      rw [hb] at h
      obtain ⟨h1, h2⟩ := pendK_ok h
      refine ⟨fun p hp ha => ?_, h2⟩
      rcases List.mem_cons.1 hp with rfl | hp
      · simp only at ha; rw [hb] at ha; cases ha
      · exact h1 p hp ha
    | false =>
      rw [hb] at h
      obtain ⟨hq, h0, h⟩ := bool_if (show bif quietOp o.op then _ else False from h)
      obtain ⟨h1, h2⟩ := pendK_ok h
      refine ⟨fun p hp ha => ?_, h2⟩
      rcases List.mem_cons.1 hp with rfl | hp
      · obtain ⟨u, k1, k3⟩ := calm_ok hq h0
        subst k3
        exact k1
      · exact h1 p hp ha

def PendR (ops : Array Oper) (pend pendA : Pend) : Prop :=
  ∀ p ∈ pendA, (p ∈ pend ∧ wantedV ops p.2.2.1 p.2.1 = some true ∧ quietOp p.2.1.op = true) ∨ (wantedV ops p.2.2.1 p.2.1 = some false ∧ p.2.2.2 = .undef)

theorem drawK_ok {ops : Array Oper} {A : List Nat} {K : List AV → AH → Prop} : ∀ {σ : List (Nat × Nat)} {pend pendA : Pend} {T : List AV} {H : AH}, drawK (real P r) P ops A σ pend T H K → PendR ops pend pendA → ADraw P r ops (ancOf A) K σ pendA T H
  | [], _, _, _, _, h, _ => h
  | (i, k) :: σ, pend, pendA, T, H, h, hp => by
    simp only [drawK] at h
    split at h
    · exact h.elim
    · rename_i o ho
      refine ⟨o, ho, ?_⟩
      have done : wantedV ops T o = some true → (bif Nat.beq k 2 then stepK (real P r) P T H o fun v H' => pendK (real P r) P A i H' pend (drawK (real P r) P ops A σ pend (putT T o.dst v) H' K)
          else bif quietOp o.op then opK (real P r) P (calmφ o.op) (ev P T) H o.op o.type fun v _ => drawK (real P r) P ops A σ (bif Nat.beq k 0 then pend else (i, o, T, v) :: pend) (putT T o.dst v) H K else False) →
          if k = 2 then (wantedV ops T o = some false ∧ ADraw P r ops (ancOf A) K σ pendA (putT T o.dst .undef) H) ∨
            (wantedV ops T o = some true ∧ AOp P r o T H fun v H' => pendOk P ops (ancOf A) i H' pendA ∧ ADraw P r ops (ancOf A) K σ pendA (putT T o.dst v) H')
          else ∃ v, Stills P ops o T H v ∧ ADraw P r ops (ancOf A) K σ (if k = 0 then pendA else (i, o, T, v) :: pendA) (putT T o.dst v) H := by
        intro hw h
        by_cases hk : k = 2
        · subst hk
          rw [if_pos rfl]
          have h' : stepK (real P r) P T H o fun v H' => pendK (real P r) P A i H' pend (drawK (real P r) P ops A σ pend (putT T o.dst v) H' K) := h
          refine .inr ⟨hw, (stepK_ok (fun _ _ => rfl) h').mono fun v H' hv => ?_⟩
          obtain ⟨h1, h2⟩ := pendK_ok hv
          refine ⟨fun p hpa ha => ?_, drawK_ok h2 hp⟩
          rcases hp p hpa with ⟨k1, k2, k3⟩ | ⟨k1, k2⟩
          · exact .inr ⟨k2, h1 p k1 ha⟩
          · exact .inl ⟨k1, k2⟩
        · rw [if_neg hk]
          have hb : Nat.beq k 2 = false := by
            cases hb : Nat.beq k 2 with
            | false => rfl
            | true => exact absurd (Nat.eq_of_beq_eq_true hb) hk
          rw [hb] at h
          obtain ⟨hq, h⟩ := bool_if (show bif quietOp o.op then _ else False from h)
          obtain ⟨v, he, h3⟩ := calm_ok hq h
          refine ⟨v, .inr ⟨hw, he⟩, drawK_ok h3 ?_⟩
          by_cases h0 : k = 0
          · subst h0; rw [if_pos rfl]; exact hp
          · rw [if_neg h0]
            have hb0 : Nat.beq k 0 = false := by
              cases hb : Nat.beq k 0 with
              | false => rfl
              | true => exact absurd (Nat.eq_of_beq_eq_true hb) h0
            rw [hb0]
            intro p hpa
            rcases List.mem_cons.1 hpa with rfl | hpa
            · exact .inl ⟨by simp, hw, hq⟩
            · rcases hp p hpa with ⟨k1, k2⟩ | k2
              · exact .inl ⟨by simp [k1], k2⟩
              · exact .inr k2
      split at h
      · rename_i hg
        exact done (by rw [wantedV_eq, hg]) h
      · rename_i gd hg
        split at h
        · rename_i p hph
          have hw : wantedV ops T o = some p := by rw [wantedV_eq, hg]; exact phiS_ok (Rel.nil T) hph
          cases p with
          | true =>
            have h' : _ := h
            simp only [cond_true] at h'
            rw [(Rel.nil T).know hph (fun u _ e => by simpa using e)] at h'
            exact done hw h'
          | false =>
            simp only [cond_false] at h
            rw [(Rel.nil T).know hph (fun u _ e => by revert e; cases u <;> cases gd.2 <;> decide)] at h
            by_cases hk : k = 2
            · rw [if_pos hk]; exact .inl ⟨hw, drawK_ok h hp⟩
            · rw [if_neg hk]
              refine ⟨.undef, .inl ⟨hw, rfl⟩, drawK_ok h ?_⟩
              by_cases h0 : k = 0
              · rw [if_pos h0]; exact hp
              · rw [if_neg h0]
                intro q hqa
                rcases List.mem_cons.1 hqa with rfl | hqa
                · exact .inr ⟨hw, rfl⟩
                · exact hp q hqa
        · exact h.elim

theorem VRs.weaken {E : Env} {T Ta : List AV} (h : Wk T Ta) {X : List Value} (k : VRs E Ta X) : VRs E T X := by
  refine VRs.of_get (by rw [h.len]; exact k.length) fun i x y hx hy => ?_
  rcases h.at' i x hx with rfl | e
  · trivial
  · obtain ⟨y', h1, h2⟩ := k.get e
    rw [hy] at h1; cases h1; exact h2

theorem AWp.weaken {c : Code} {Q : AEx → St → Prop} {T Ta : List AV} {M : List Mk} {H : AH} (h : Wk T Ta) (k : AWp P r c Q ⟨T, M, H⟩) : AWp P r c Q ⟨Ta, M, H⟩ :=
  fun E B w a rc hs hr => k E B w a rc ⟨hs.heap, VRs.weaken h hs.tmps, hs.marks⟩ hr

def WkP (K : VK) : AEx → St → Prop := fun e s => ∃ T, Wk T s.T ∧ K e T s.M s.H

theorem setAll_wk {T : List AV} : ∀ {live : List Tmp} {T0 : List AV}, Wk T0 T → Wk (setAll live (live.map (look T)) T0) T
  | [], _, h => h
  | t :: ts, T0, h => by
    refine setAll_wk (live := ts) ⟨by simpa using h.len, fun i v hv => ?_⟩
    rw [List.getElem?_set] at hv
    split at hv
    · rename_i e; subst e
      split at hv
      · rename_i hlt
        cases hv
        refine .inr ?_
        have : t < T.length := by rw [← h.len]; exact hlt
        unfold look
        rw [List.getElem?_eq_getElem this]; rfl
      · cases hv
    · exact h.at' i v hv

theorem mkT_wk {T : List AV} {n : Nat} (hn : n = T.length) (live : List Tmp) : Wk (mkT n live (live.map (look T))) T := by
  refine setAll_wk ⟨by simp [hn], fun i v hv => ?_⟩
  rw [List.getElem?_replicate] at hv
  split at hv
  · cases hv; exact .inl rfl
  · cases hv

theorem vcC_ok (hm : P.follows .mixedOrders = true) {anns : List LoopAnn} : ∀ {c : Code} {K : VK} {T : List AV} {M : List Mk} {H : AH}, vcC (real P r) P anns c K T M H → AWp P r c (WkP K) ⟨T, M, H⟩ := by
  intro c
  induction c with
  | skip => intro K T M H h; exact AWp.skip ⟨T, Wk.refl T, h⟩
  | label l => intro K T M H h; exact AWp.label ⟨T, Wk.refl T, h⟩
  | exit id => intro K T M H h; exact AWp.exit ⟨T, Wk.refl T, h⟩
  | goto l => intro K T M H h; exact AWp.goto ⟨T, Wk.refl T, h⟩
  | ret => intro K T M H h; exact AWp.ret ⟨T, Wk.refl T, h⟩
  | refuse w => intro K T M H h; exact h.elim
  | scope c ih => intro K T M H h; exact h.elim
  | rangeFunc g ps a b iha ihb => intro K T M H h; exact h.elim
  | seq a b iha ihb =>
    intro K T M H h
    refine AWp.seq ((iha h).mono ?_)
    rintro e s ⟨T', hw, hk⟩
    cases e with
    | normal => exact AWp.weaken hw (ihb hk)
    | exit id => exact ⟨T', hw, hk⟩
    | goto l => exact ⟨T', hw, hk⟩
    | ret => exact ⟨T', hw, hk⟩
  | cond c x y ihx ihy =>
    intro K T M H h
    obtain ⟨v, hv, h⟩ := vK_iff h
    split at h
    · rename_i u
      refine AWp.cond hv ?_
      cases u with
      | true => exact ihx h
      | false => exact ihy h
    · exact h.elim
  | block id c ih =>
    intro K T M H h
    refine AWp.block ((ih h).mono ?_)
    rintro e s ⟨T', hw, hk⟩
    cases e with
    | exit i =>
      simp only [inBlockA]
      simp only [inBlockX] at hk
      split
      · rename_i e; rw [if_pos e] at hk; exact ⟨T', hw, hk⟩
      · rename_i e; rw [if_neg e] at hk; exact ⟨T', hw, hk⟩
    | normal => exact ⟨T', hw, hk⟩
    | goto l => exact ⟨T', hw, hk⟩
    | ret => exact ⟨T', hw, hk⟩
  | loop c ih =>
    intro K T M H h
    simp only [vcC] at h
    split at h
    · split at h
      · rename_i a _
        obtain ⟨⟨x, j, hl, hi⟩, h⟩ := h
        refine AWp.loop (j := j) (fun j s => ∃ x, a.inv x s.H j ∧ s.M = M ∧ Wk (mkT T.length a.live (a.tmpl x)) s.T) ⟨x, hi, rfl, by rw [← hl]; exact mkT_wk rfl _⟩ ?_
        rintro j ⟨T1, M1, H1⟩ ⟨x, hi, rfl, hw⟩
        refine AWp.weaken hw ((ih (h x H1 j hi)).mono ?_)
        rintro e s ⟨T2, hw2, hk⟩
        cases e with
        | normal =>
          obtain ⟨hlen, hk⟩ := bool_if hk
          obtain ⟨hM, x', j', hj, hl', hi'⟩ := sameM_iff hk
          refine ⟨j', hj, x', hi', hM, ?_⟩
          rw [← hl']
          exact (mkT_wk (Nat.eq_of_beq_eq_true hlen).symm _).trans hw2
        | exit id => exact ⟨T2, hw2, hk⟩
        | goto l => exact ⟨T2, hw2, hk⟩
        | ret => exact ⟨T2, hw2, hk⟩
      · exact h.elim
    · exact h.elim
  | region id ops draw =>
    intro K T M H h
    cases draw with
    | false =>
      refine AWp.mono (AWp.region (Q := WkP K) ?_) fun _ _ h => h
      have key : ∀ {l : List Oper} {T : List AV} {H : AH} {K1 K2 : List AV → AH → Prop}, (∀ T H, K1 T H → K2 T H) → AOps P r ops K1 l T H → AOps P r ops K2 l T H := by
        intro l
        induction l with
        | nil => intro T H K1 K2 hk h; exact hk _ _ h
        | cons o l ih =>
          intro T H K1 K2 hk h
          rcases h with ⟨h1, h2⟩ | ⟨h1, h2⟩
          · exact .inl ⟨h1, h2.mono fun v H' h => ih hk h⟩
          · exact .inr ⟨h1, ih hk h2⟩
      refine key ?_ (opsK_ok h (Rel.nil T) (fun _ h => by cases h))
      rintro T' H' ⟨T2, cd, hR, hk⟩
      exact ⟨_, hR.drop, hk⟩
    | true =>
      simp only [vcC] at h
      split at h
      · rename_i σ A hd
        obtain ⟨cc, hd⟩ := drawOf_as hd
        unfold drawAs at hd
        simp only at hd
        split at hd
        · rename_i hc
          simp only [Option.some.injEq, Prod.mk.injEq] at hd
          obtain ⟨rfl, rfl⟩ := hd
          simp only [Bool.and_eq_true, decide_eq_true_eq] at hc
          refine AWp.draw hm (ancB_spec hc.1.1.2) hc.1.1.1 hc.1.2 ?_
          have key : ∀ {σ : List (Nat × Nat)} {pend : Pend} {T : List AV} {H : AH} {A : List Nat} {K1 K2 : List AV → AH → Prop}, (∀ T H, K1 T H → K2 T H) → ADraw P r ops (ancOf A) K1 σ pend T H → ADraw P r ops (ancOf A) K2 σ pend T H := by
            intro σ
            induction σ with
            | nil => intro pend T H A K1 K2 hk h; exact hk _ _ h
            | cons ik σ ih =>
              intro pend T H A K1 K2 hk h
              obtain ⟨o, ho, h⟩ := h
              refine ⟨o, ho, ?_⟩
              split at h
              · rename_i hk2
                rw [if_pos hk2]
                rcases h with ⟨h1, h2⟩ | ⟨h1, h2⟩
                · exact .inl ⟨h1, ih hk h2⟩
                · exact .inr ⟨h1, h2.mono fun v H' h => ⟨h.1, ih hk h.2⟩⟩
              · rename_i hk2
                rw [if_neg hk2]
                obtain ⟨v, h1, h2⟩ := h
                exact ⟨v, h1, ih hk h2⟩
          refine key ?_ (drawK_ok (pendA := []) h (fun p hp => by cases hp))
          intro T' H' hk
          exact ⟨_, Wk.refl _, hk⟩
        · cases hd
      · exact h.elim

theorem resK_ok {T : List AV} {H : AH} : ∀ {l : List ResultVar} {k : List AV → Prop}, resK (real P r) P T H l k → ∃ vs, resVs P T H l = some vs ∧ k vs
  | [], _, h => ⟨[], rfl, h⟩
  | .tmp t :: l, k, h => by
    obtain ⟨vs, h1, h2⟩ := resK_ok (l := l) h
    exact ⟨_, by simp [resVs, h1]; rfl, h2⟩
  | .cell a t :: l, k, h => by
    obtain ⟨v, h1, h2⟩ := loadK_ok (φ := none) h
    obtain ⟨vs, h3, h4⟩ := resK_ok h2
    exact ⟨v :: vs, by simp only [resVs]; rw [show loadV P H t ((T[a]?).getD .undef) = some v from h1 rfl, h3]; rfl, h4⟩

theorem marksK_ok {M : List Mk} {H : AH} {k : AH → Prop} (h : marksK (real P r) M H k) : ∃ H', takeMarks M H = some H' ∧ k H' := by
  unfold marksK at h
  split at h
  · exact ⟨H, rfl, h⟩
  · exact h

theorem vcF_ok (hm : P.follows .mixedOrders = true) {anns : List LoopAnn} {f : FuncId} {args : List AV} {H : AH} {Q : AV → AH → Prop} (h : vcF (real P none) P anns f args H Q) : ACall P f args H Q := by
  unfold vcF at h
  split at h
  · rename_i fn hf
    split at h
    · rename_i c hb
      refine ACall.body hf hb ?_
      intro E B w a rc hs hr
      refine Go.wpIn_mono (vcC_ok hm h E B w a rc hs hr) ?_
      rintro e a' w' ⟨ae, s', E', h1, ⟨T', hw, hk⟩, h3, h4, h5⟩
      refine ⟨ae, ⟨T', s'.M, s'.H⟩, E', h1, ?_, h3, ⟨h4.heap, VRs.weaken hw h4.tmps, h4.marks⟩, h5⟩
      cases ae with
      | normal =>
        obtain ⟨H', h6, h7⟩ := marksK_ok (P := P) (r := none) (show marksK (real P none) s'.M s'.H (fun H' => resK (real P none) P T' H' fn.results.toList fun vs => Q (oneOf vs) H') from hk)
        obtain ⟨vs, h8, h9⟩ := resK_ok h7
        exact ⟨.inl rfl, H', vs, h6, h8, h9⟩
      | ret =>
        obtain ⟨H', h6, h7⟩ := marksK_ok (P := P) (r := none) (show marksK (real P none) s'.M s'.H (fun H' => resK (real P none) P T' H' fn.results.toList fun vs => Q (oneOf vs) H') from hk)
        obtain ⟨vs, h8, h9⟩ := resK_ok h7
        exact ⟨.inr rfl, H', vs, h6, h8, h9⟩
      | exit id => exact hk.elim
      | goto l => exact hk.elim
    · exact h.elim
  · exact h.elim

end
end Go.Am
end

/- Contracts: pure functions leave the heap as it lies; small laws. -/
section
namespace Go.Am
open Go.RowKit

section
variable {P : Program} {r : Option Nat}
@[simp] theorem real_wrap : (real P r).wrap = IntKind.wrap := rfl
@[simp] theorem real_call : (real P r).call = ACallee P := rfl
@[simp] theorem real_yld : (real P r).yld = fun b => ACfn P r (.yld b) := rfl
@[simp] theorem real_n : (real P r).n = AH.n := rfl
@[simp] theorem real_get : (real P r).get = AH.get := rfl
@[simp] theorem real_set : (real P r).set = AH.set := rfl
@[simp] theorem real_al : (real P r).al = AH.alloc := rfl
@[simp] theorem real_rd1 : (real P r).rd1 = AH.read1 := rfl
@[simp] theorem real_rdn : (real P r).rdn = AH.read := rfl
@[simp] theorem real_wr : (real P r).wr = AH.write := rfl
@[simp] theorem real_app : (real P r).app = fun t u x y H => appendV P H t u x y := rfl
@[simp] theorem real_cpy : (real P r).cpy = fun t x y H => copyV P H t x y := rfl
@[simp] theorem real_mks : (real P r).mks = fun t l c H => makeSliceV P H t (.int .i64 l) (.int .i64 c) := rfl
@[simp] theorem real_slc : (real P r).slc = fun t x lo hi mx H => sliceV P H t x lo hi mx := rfl
@[simp] theorem real_str : (real P r).str = fun v H => bytesAt H v := rfl
@[simp] theorem real_bs : (real P r).bs = fun s d x H => convV P H s d (.str x) := rfl
@[simp] theorem real_idx : (real P r).idx = indexV P := rfl
@[simp] theorem real_caps : (real P r).caps = fun t x H => capV P H t x := rfl
@[simp] theorem real_ustr : (real P r).ustr = fun t p n H => unsafeStringV P H t p n := rfl
@[simp] theorem real_tm : (real P r).tm = takeMarks := rfl
@[simp] theorem real_cvs : (real P r).cvs = fun s d x H => convV P H s d x := rfl
end

theorem wrap_i64 {n : Int} (h : -9223372036854775808 ≤ n) (h' : n ≤ 9223372036854775807) : IntKind.i64.wrap n = n := by
  simp only [IntKind.wrap, IntKind.bits, IntKind.signed]
  by_cases h0 : 0 ≤ n
  · have : n % (2 : Int) ^ 64 = n := Int.emod_eq_of_lt h0 (by omega)
    simp only [this, Bool.true_and]
    rw [if_neg (by simp; omega)]
  · have : n % (2 : Int) ^ 64 = n + 18446744073709551616 := by
      rw [show (2 : Int) ^ 64 = 18446744073709551616 by decide]
      omega
    simp only [this, Bool.true_and]
    rw [if_pos (by simp; omega)]
    omega

theorem wrap_u64 {n : Int} (h : 0 ≤ n) (h' : n < 18446744073709551616) : IntKind.u64.wrap n = n := by
  have : n % 18446744073709551616 = n := Int.emod_eq_of_lt h (by omega)
  simp [IntKind.wrap, IntKind.bits, IntKind.signed, this]

/-! ### Values without places -/

mutual
def AV.scal : AV → Bool
  | .bool _ | .int _ _ | .str _ | .ptr none | .slice none _ _ | .nilFunc | .nilIface | .map none => true
  | .func _ x y => AV.scals x && AV.scals y
  | .agg cs => AV.scals cs
  | .tuple vs => AV.scals vs
  | .iface _ v => v.scal
  | _ => false
def AV.scals : List AV → Bool
  | [] => true
  | v :: l => v.scal && AV.scals l
end

mutual
theorem VR.scal {E E' : Env} : ∀ {v : AV} {x : Value}, v.scal = true → VR E v x → VR E' v x
  | .bool _, _, _, h => h
  | .int _ _, _, _, h => h
  | .str _, _, _, h => h
  | .ptr none, _, _, h => h
  | .ptr (some _), _, hs, _ => by simp [AV.scal] at hs
  | .slice none _ _, _, _, h => h
  | .slice (some _) _ _, _, hs, _ => by simp [AV.scal] at hs
  | .func f x y, _, hs, h => by
    simp only [AV.scal, Bool.and_eq_true] at hs
    obtain ⟨x', y', h1, h2, h3⟩ := h
    exact ⟨x', y', h1, VRs.scal hs.1 h2, VRs.scal hs.2 h3⟩
  | .nilFunc, _, _, h => h
  | .yld _, _, hs, _ => by simp [AV.scal] at hs
  | .iface t v, _, hs, h => by
    obtain ⟨y, h1, h2⟩ := h
    exact ⟨y, h1, VR.scal (by simpa [AV.scal] using hs) h2⟩
  | .nilIface, _, _, h => h
  | .map none, _, _, h => h
  | .map (some _), _, hs, _ => by simp [AV.scal] at hs
  | .half _ _, _, hs, _ => by simp [AV.scal] at hs
  | .unk, _, hs, _ => by simp [AV.scal] at hs
  | .agg cs, _, hs, h => by
    obtain ⟨y, h1, h2⟩ := h
    exact ⟨y, h1, VRs.scal (by simpa [AV.scal] using hs) h2⟩
  | .tuple cs, _, hs, h => by
    obtain ⟨y, h1, h2⟩ := h
    exact ⟨y, h1, VRs.scal (by simpa [AV.scal] using hs) h2⟩
  | .any, _, hs, _ => by simp [AV.scal] at hs
theorem VRs.scal {E E' : Env} : ∀ {vs : List AV} {xs : List Value}, AV.scals vs = true → VRs E vs xs → VRs E' vs xs
  | [], _, _, h => h
  | v :: vs, _, hs, h => by
    simp only [AV.scals, Bool.and_eq_true] at hs
    obtain ⟨y, ys, h1, h2, h3⟩ := h
    exact ⟨y, ys, h1, VR.scal hs.1 h2, VRs.scal hs.2 h3⟩
end

section
variable {P : Program}

def emptyH (P : Program) : AH := ⟨P.globals.size, .nil⟩

theorem HR.empty {E : Env} {B : Bnd} {H : AH} {w : World} (h : HR P E B H w) : HR P (fun b => if b < P.globals.size then E b else (Option.none : Option Loc)) (Bnd.up w.heap.size) (emptyH P) w := by
  refine ⟨fun b L hb => ?_, fun b o hb => (by cases hb), fun _ h => h, fun g hg => ?_, fun b b' o o' L L' _ hb => (by cases hb)⟩
  · by_cases hlt : b < P.globals.size
    · exact hlt
    · rw [if_neg hlt] at hb; cases hb
  · obtain ⟨L, h1, h2⟩ := h.glob g hg
    exact ⟨L, by rw [if_pos hg]; exact h1, h2⟩

theorem HR.kept {E : Env} {B : Bnd} {H : AH} {w w' : World} (h : HR P E B H w) (hb : Below (Bnd.up w.heap.size) w w') : HR P E B H w' ∧ Below B w w' := by
  refine ⟨⟨h.dom, fun b o hbo => ?_, fun k hk => Nat.lt_of_lt_of_le (h.base k hk) hb.size, h.glob, h.sep⟩, ⟨hb.os, hb.tape, hb.output, hb.size, fun k hk => hb.block k (h.base k hk)⟩⟩
  obtain ⟨L, hL, ho⟩ := h.obj b o hbo
  refine ⟨L, hL, ?_⟩
  by_cases hl : o.live = true
  · exact ho.same (Env.le.refl E) (hb.block _ (ho.blk_lt hl))
  · cases o <;> first | trivial | exact absurd rfl hl

theorem ACall.pure {f : FuncId} {args : List AV} {R : AV → Prop} (h : ACall P f args (emptyH P) fun v' _ => R v') (ha : AV.scals args = true) (hv : ∀ v, R v → v.scal = true) (H : AH) : ACall P f args H fun v' H' => R v' ∧ H' = H := by
  intro E B w args' hH hargs
  refine Calls.mono (h _ _ w args' hH.empty (VRs.scal ha hargs)) ?_
  rintro e w' ⟨v', H', E', x, rfl, hR, _, _, hx, hb⟩
  obtain ⟨h1, h2⟩ := hH.kept hb
  exact ⟨_, H, E, x, rfl, ⟨hR, rfl⟩, Env.le.refl E, h1, VR.scal (hv _ hR) hx, h2⟩

theorem ACallee.mono {f : FuncId} {args : List AV} {H : AH} {Q Q' : AV → AH → Prop} (h : ACallee P f args H Q) (hq : ∀ v H, Q v H → Q' v H) : ACallee P f args H Q' := by
  rcases h with ⟨h1, h2⟩ | h
  · exact .inl ⟨h1, h2.mono hq⟩
  · refine .inr fun E B w args' hH ha => ?_
    obtain ⟨v, H', E', w', x, k1, k2, k3⟩ := h E B w args' hH ha
    exact ⟨v, H', E', w', x, k1, hq _ _ k2, k3⟩

def PureR (P : Program) (f : FuncId) (args : List AV) (R : AV → Prop) : Prop := ∀ H, ACallee P f args H fun v' H' => R v' ∧ H' = H
abbrev Pure (P : Program) (f : FuncId) (args : List AV) (v : AV) : Prop := PureR P f args fun v' => v' = v

theorem PureR.of_vc (hm : P.follows .mixedOrders = true) {f : FuncId} {args : List AV} {R : AV → Prop} (anns : List LoopAnn) (hg : goB P f = true) (ha : AV.scals args = true) (hv : ∀ v, R v → v.scal = true)
    (h : vcF (real P none) P anns f args (emptyH P) fun v' _ => R v') : PureR P f args R := fun H => .inl ⟨goB_spec hg, ACall.pure (vcF_ok hm h) ha hv H⟩
theorem Pure.of_vc (hm : P.follows .mixedOrders = true) {f : FuncId} {args : List AV} {v : AV} (anns : List LoopAnn) (hg : goB P f = true) (ha : AV.scals args = true) (hv : v.scal = true)
    (h : vcF (real P none) P anns f args (emptyH P) fun v' _ => v' = v) : Pure P f args v := PureR.of_vc hm anns hg ha (fun _ e => by rw [e]; exact hv) h

theorem PureR.use {f : FuncId} {args : List AV} {R : AV → Prop} (h : PureR P f args R) {H : AH} {K : AV → AH → Prop} (k : ∀ v, R v → K v H) : ACallee P f args H K := (h H).mono fun v _ ⟨h1, h2⟩ => by rw [h2]; exact k v h1
theorem PureR.use1 {f : FuncId} {args : List AV} {v : AV} (h : Pure P f args v) {H : AH} {K : AV → AH → Prop} (k : K v H) : ACallee P f args H K := h.use fun _ e => by rw [e]; exact k

/-! Functions that read tables -/

def TabsIn (l : Tabs) (H : AH) : Prop := ∀ t ∈ l, H.get t.1 = some (.cells t.2.2 t.2.1 { own := false })

theorem TabsIn.alloc {l : Tabs} {H : AH} (h : TabsIn l H) (hl : ∀ t ∈ l, t.1 < H.n) (o : AObj) : TabsIn l (H.alloc o) := fun t ht => by
  rw [AH.get_alloc, if_neg (Nat.ne_of_lt (hl t ht))]; exact h t ht
theorem TabsIn.set {l : Tabs} {H : AH} (h : TabsIn l H) {b : Nat} (hb : ∀ t ∈ l, t.1 ≠ b) (o : AObj) : TabsIn l (H.set b o) := fun t ht => by
  rw [AH.get_set, if_neg (hb t ht)]; exact h t ht

theorem HR.tabs {E : Env} {B : Bnd} {H : AH} {w : World} {l : Tabs} (h : HR P E B H w) (hl : TabsIn l H) (hg : ∀ t ∈ l, t.1 < P.globals.size ∧ AV.scals t.2.2 = true) :
    HR P (fun b => if b < P.globals.size then E b else (Option.none : Option Loc)) (Bnd.up w.heap.size) (startH P.globals.size l) w := by
  have h0 := h.empty
  refine ⟨fun b L hb => ?_, fun b o hb => ?_, fun _ h => h, h0.glob, fun b b' o o' L L' _ hb _ ho _ _ _ => ?_⟩
  · rw [startH_n]; exact h0.dom b L hb
  · obtain ⟨cs, rfl, _, e, hm, rfl⟩ := startH_get hb
    obtain ⟨hlt, hsc⟩ := hg _ hm
    obtain ⟨L, hL, X, lo, hi, h1, h2, h3, h4, h5, h6, h7, h8⟩ := h.obj _ _ (hl _ hm)
    exact ⟨L, by rw [if_pos hlt]; exact hL, X, lo, hi, h1, h2, h3, h4, VRs.scal hsc h5, fun h => (by cases h), h7, h8⟩
  · obtain ⟨cs, rfl, _⟩ := startH_get hb
    cases ho

def PureT (P : Program) (l : Tabs) (f : FuncId) (args : List AV) (R : AV → Prop) : Prop := ∀ H, TabsIn l H → ACallee P f args H fun v' H' => R v' ∧ H' = H

theorem PureT.of_call {l : Tabs} {f : FuncId} {args : List AV} {R : AV → Prop} (hg : goB P f = true) (hl : ∀ t ∈ l, t.1 < P.globals.size ∧ AV.scals t.2.2 = true) (h : ACall P f args (startH P.globals.size l) fun v' _ => R v')
    (ha : AV.scals args = true) (hv : ∀ v, R v → v.scal = true) : PureT P l f args R := by
  intro H hT
  refine .inl ⟨goB_spec hg, fun E B w args' hH hargs => ?_⟩
  refine Calls.mono (h _ _ w args' (hH.tabs hT hl) (VRs.scal ha hargs)) ?_
  rintro e w' ⟨v', H', E', x, rfl, hR, _, _, hx, hb⟩
  obtain ⟨h1, h2⟩ := hH.kept hb
  exact ⟨_, H, E, x, rfl, ⟨hR, rfl⟩, Env.le.refl E, h1, VR.scal (hv _ hR) hx, h2⟩

theorem PureT.use {l : Tabs} {f : FuncId} {args : List AV} {R : AV → Prop} (h : PureT P l f args R) {H : AH} (hT : TabsIn l H) {K : AV → AH → Prop} (k : ∀ v, R v → K v H) : ACallee P f args H K := (h H hT).mono fun v _ ⟨h1, h2⟩ => by rw [h2]; exact k v h1

theorem Pure.ext {X : Ext} (hX : ExtOk P X) {f : FuncId} {args : List AV} {v : AV} (h : ∀ H, X f args H = some (v, H)) : Pure P f args v := fun H => hX f args H v H (h H)
end

/-! ### Runes -/

theorem decodeL_cases (s : List UInt8) (i : Nat) :
    (rune1 s i 0 < 0x80 ∧ decodeL s i = (rune1 s i 0, 1)) ∨
    (0x80 ≤ rune1 s i 0 ∧ 0x80 ≤ (decodeL s i).1 ∧ 1 ≤ (decodeL s i).2 ∧ (decodeL s i).2 ≤ 4 ∧ ∀ k, 1 ≤ k → k < (decodeL s i).2 → i + k < s.length ∧ rune1 s i k / 64 = 2) := by
  unfold decodeL
  simp only
  have he : Utf8.runeError = 65533 := rfl
  split
  · exact .inl ⟨by assumption, rfl⟩
  · rename_i h0
    refine .inr ?_
    have h0' : 0x80 ≤ rune1 s i 0 := by omega
    split
    · rename_i h1
      simp only [Bool.and_eq_true, beq_iff_eq, decide_eq_true_eq] at h1
      split
      · rename_i h2
        exact ⟨h0', h2, by omega, by omega, fun k k1 k2 => by obtain rfl : k = 1 := by simp at k2; omega
                                                              exact h1.2⟩
      · exact ⟨h0', by rw [he]; decide, Nat.le_refl 1, (by decide : 1 ≤ 4), fun k k1 k2 => by simp at k2; omega⟩
    · split
      · rename_i h1
        simp only [Bool.and_eq_true, beq_iff_eq, decide_eq_true_eq] at h1
        split
        · rename_i h2
          simp only [Bool.and_eq_true, decide_eq_true_eq] at h2
          refine ⟨h0', by have := h2.1; simp only; omega, (by decide : 1 ≤ 3), (by decide : 3 ≤ 4), fun k k1 k2 => ?_⟩
          have k2' : k < 3 := k2
          rcases (by omega : k = 1 ∨ k = 2) with rfl | rfl
          · exact h1.1.2
          · exact h1.2
        · exact ⟨h0', by rw [he]; decide, Nat.le_refl 1, (by decide : 1 ≤ 4), fun k k1 k2 => by simp at k2; omega⟩
      · split
        · rename_i h1
          simp only [Bool.and_eq_true, beq_iff_eq, decide_eq_true_eq] at h1
          split
          · rename_i h2
            simp only [Bool.and_eq_true, decide_eq_true_eq] at h2
            refine ⟨h0', by have := h2.1; simp only; omega, (by decide : 1 ≤ 4), (by decide : 4 ≤ 4), fun k k1 k2 => ?_⟩
            have k2' : k < 4 := k2
            rcases (by omega : k = 1 ∨ k = 2 ∨ k = 3) with rfl | rfl | rfl
            · exact h1.1.1.2
            · exact h1.1.2
            · exact h1.2
          · exact ⟨h0', by rw [he]; decide, Nat.le_refl 1, (by decide : 1 ≤ 4), fun k k1 k2 => by simp at k2; omega⟩
        · exact ⟨h0', by rw [he]; decide, Nat.le_refl 1, (by decide : 1 ≤ 4), fun k k1 k2 => by simp at k2; omega⟩

theorem decodeL_size (s : List UInt8) (i : Nat) (h : i < s.length) : 1 ≤ (decodeL s i).2 ∧ i + (decodeL s i).2 ≤ s.length := by
  rcases decodeL_cases s i with ⟨h1, h2⟩ | ⟨h1, h2, h3, h4, h5⟩
  · rw [h2]; exact ⟨Nat.le_refl 1, h⟩
  · refine ⟨h3, ?_⟩
    by_cases e : (decodeL s i).2 = 1
    · rw [e]; exact h
    · have := (h5 ((decodeL s i).2 - 1) (by omega) (by omega)).1; omega

theorem rune1_at {s : List UInt8} {i k : Nat} (h : i + k < s.length) : rune1 s i k = (s[i + k]'h).toNat := by
  unfold rune1; rw [List.getElem?_eq_getElem h]; rfl
end Go.Am
end

/- Iterators: what a range over a function asks. -/
section
namespace Go.Am
open Go.RowKit

def Iter (P : Program) (gf : FuncId) (x y : List AV) (Cap : AH → Prop) (xs : List (List AV)) : Prop :=
  ∀ (b : Nat) (J : Nat → List Nat → AH → Prop) (D : List Nat → AH → Prop) (H0 : AH), b < H0.n →
    (∀ i W H o, J i W H → J i (H.n :: W) (H.alloc o)) → (∀ i W H c o, c ∈ W → J i W H → J i W (H.set c o)) →
    (∀ W H o, D W H → D (H.n :: W) (H.alloc o)) → (∀ W H c o, c ∈ W → D W H → D W (H.set c o)) →
    (∀ i W H, J i W H → Cap H) → J 0 [] H0 →
    (∀ r i W H1 vs, xs[i]? = some vs → J i W H1 → (∀ c ∈ W, c < H1.n) → ACfn P r (.yld b) vs H1 fun v H2 =>
      H1.n ≤ H2.n ∧ (∀ c ∈ W, H2.get c = H1.get c) ∧ ((v = .bool true ∧ J (i + 1) W H2) ∨ (v = .bool false ∧ D W H2))) →
    ACall P gf (x ++ [.yld b] ++ y) H0 fun _ H' => ∃ W, J xs.length W H' ∨ D W H'

def codeOf : AEx → Code
  | .normal => .skip
  | .ret => .ret
  | .exit id => .exit id
  | .goto l => .goto l

def But (b : Nat) (H H' : AH) : Prop := H'.n = H.n ∧ ∀ c, c ≠ b → H'.get c = H.get c

theorem But.set (b : Nat) (H : AH) (o : AObj) : But b H (H.set b o) := ⟨rfl, fun c hc => by rw [AH.get_set, if_neg hc]⟩

section
variable {P : Program}

theorem AWp.range_iter {g : Operand} {ps : Array Tmp} {as bd : Code} {gf : FuncId} {x y T : List AV} {M : List Mk} {H : AH} {Q : AEx → St → Prop} (hgo : Goes P gf) (hg : ev P T g = some (.func (.func gf) x y))
    {Cap : AH → Prop} {xs : List (List AV)} (hI : Iter P gf x y Cap xs) (inv : Nat → List Nat → AH → Prop) (stop : AEx → List Nat → AH → Prop)
    (s1 : ∀ i W H o, inv i W H → inv i (H.n :: W) (H.alloc o)) (s2 : ∀ i W H c o, c ∈ W → inv i W H → inv i W (H.set c o))
    (s3 : ∀ e W H o, stop e W H → stop e (H.n :: W) (H.alloc o)) (s4 : ∀ e W H c o, c ∈ W → stop e W H → stop e W (H.set c o))
    (hC : ∀ i W H, inv i W H → Cap H) (h0 : ∀ H2, H2.n = H.n + 2 → (∀ c, c < H.n → H2.get c = H.get c) → inv 0 [H.n + 1, H.n] H2) (hl : ∀ vs ∈ xs, vs.length = ps.size)
    (hb : ∀ i W H1 vs, xs[i]? = some vs → inv i W H1 → (∀ c ∈ W, c < H1.n) → H.n + 1 ∈ W → AWp P (some (H.n + 1)) as (thenA (fun s => H1.n ≤ s.H.n ∧ (∀ c ∈ W, s.H.get c = H1.get c) ∧ ∀ H4, But (H.n + 1) s.H H4 →
      AWp P (some (H.n + 1)) bd (fun e s2 => H1.n ≤ s2.H.n ∧ (∀ c ∈ W, s2.H.get c = H4.get c) ∧ ∀ H6, But (H.n + 1) s2.H H6 → match e with | .normal => inv (i + 1) W H6 | e => stop e W H6) ⟨s.T, s.M, H4⟩)
      (fun _ _ => False)) ⟨setPs ps.toList vs T, [], H1⟩)
    (ha : ∀ W H1, inv xs.length W H1 → ∀ H6, But (H.n + 1) H1 H6 → H6.get H.n = some .deferred → Q .normal ⟨T, .mark H.n :: M, H6⟩)
    (hs : ∀ e W H1, stop e W H1 → ∀ H6, But (H.n + 1) H1 H6 → H6.get H.n = some .deferred → Q e ⟨T, .mark H.n :: M, H6⟩) :
    AWp P none (.rangeFunc g ps as bd) Q ⟨T, M, H⟩ := by
  refine AWp.rangeFunc hgo hg ?_
  show ACall P gf (x ++ [.yld (H.n + 1)] ++ y) ((H.alloc .deferred).alloc (.loop .ready none T ps as bd H.n)) _
  have hH0n : ((H.alloc .deferred).alloc (.loop .ready none T ps as bd H.n)).n = H.n + 2 := rfl
  refine (hI (H.n + 1) (fun i W H' => inv i (W ++ [H.n + 1, H.n]) H' ∧ H'.get (H.n + 1) = some (.loop .ready none T ps as bd H.n) ∧ H'.get H.n = some .deferred ∧ H.n + 1 ∉ W ∧ H.n ∉ W ∧ H.n + 1 < H'.n)
    (fun W H' => ∃ e, e ≠ .normal ∧ stop e (W ++ [H.n + 1, H.n]) H' ∧ H'.get (H.n + 1) = some (.loop .done (some (codeOf e)) T ps as bd H.n) ∧ H'.get H.n = some .deferred ∧ H.n + 1 ∉ W ∧ H.n ∉ W ∧ H.n + 1 < H'.n)
    _ (by rw [hH0n]; omega) ?_ ?_ ?_ ?_ ?_ ?_ ?_).mono ?_
  · rintro i W H' o ⟨k1, k2, k3, k4, k5, k6⟩
    refine ⟨s1 _ _ _ _ k1, by rw [AH.get_alloc, if_neg (by omega)]; exact k2, by rw [AH.get_alloc, if_neg (by omega)]; exact k3, ?_, ?_, by simp; omega⟩
    · simp only [List.mem_cons, not_or]; exact ⟨by omega, k4⟩
    · simp only [List.mem_cons, not_or]; exact ⟨by omega, k5⟩
  · rintro i W H' c o hc ⟨k1, k2, k3, k4, k5, k6⟩
    have n1 : c ≠ H.n + 1 := fun e => k4 (e ▸ hc)
    have n2 : c ≠ H.n := fun e => k5 (e ▸ hc)
    exact ⟨s2 _ _ _ _ _ (List.mem_append_left _ hc) k1, by rw [AH.get_set, if_neg (Ne.symm n1)]; exact k2, by rw [AH.get_set, if_neg (Ne.symm n2)]; exact k3, k4, k5, by simpa using k6⟩
  · rintro W H' o ⟨e, k0, k1, k2, k3, k4, k5, k6⟩
    refine ⟨e, k0, s3 _ _ _ _ k1, by rw [AH.get_alloc, if_neg (by omega)]; exact k2, by rw [AH.get_alloc, if_neg (by omega)]; exact k3, ?_, ?_, by simp; omega⟩
    · simp only [List.mem_cons, not_or]; exact ⟨by omega, k4⟩
    · simp only [List.mem_cons, not_or]; exact ⟨by omega, k5⟩
  · rintro W H' c o hc ⟨e, k0, k1, k2, k3, k4, k5, k6⟩
    have n1 : c ≠ H.n + 1 := fun e => k4 (e ▸ hc)
    have n2 : c ≠ H.n := fun e => k5 (e ▸ hc)
    exact ⟨e, k0, s4 _ _ _ _ _ (List.mem_append_left _ hc) k1, by rw [AH.get_set, if_neg (Ne.symm n1)]; exact k2, by rw [AH.get_set, if_neg (Ne.symm n2)]; exact k3, k4, k5, by simpa using k6⟩
  · rintro i W H' ⟨k1, _⟩; exact hC _ _ _ k1
  · refine ⟨h0 _ hH0n fun c hc => ?_, ?_, ?_, by simp, by simp, by rw [hH0n]; omega⟩
    · rw [AH.get_alloc, if_neg (by simp; omega), AH.get_alloc, if_neg (by omega)]
    · rw [AH.get_alloc, if_pos (by simp)]
    · rw [AH.get_alloc, if_neg (by simp), AH.get_alloc, if_pos rfl]
  · rintro r i W H1 vs hvs ⟨k1, k2, k3, k4, k5, k6⟩ hW
    intro dst f xs' ts ty pos after guard T1 hf hx
    refine AOp.yield hf hx k2 (hl vs (List.mem_iff_getElem?.2 ⟨i, hvs⟩)) ?_
    have hW' : ∀ c ∈ W ++ [H.n + 1, H.n], c < H1.n := by
      intro c hc
      simp only [List.mem_append, List.mem_cons, List.mem_nil_iff, or_false] at hc
      rcases hc with hc | rfl | rfl
      · exact hW c hc
      · exact k6
      · omega
    refine (hb i (W ++ [H.n + 1, H.n]) H1 vs hvs k1 hW' (by simp)).mono ?_
    intro e s hp
    cases e with
    | exit id => exact hp.elim
    | goto l => exact hp.elim
    | ret => exact hp.elim
    | normal =>
      obtain ⟨hn, hsame, hbody⟩ := hp
      have hsb := (hsame (H.n + 1) (by simp)).trans k2
      refine ⟨_, _, _, _, _, _, hsb, ?_⟩
      have hbut := But.set (H.n + 1) s.H (.loop .busy none T ps as bd H.n)
      refine (hbody _ hbut).mono ?_
      rintro e s2 ⟨hn2, hsame2, hfin⟩
      have hb2 : s2.H.get (H.n + 1) = some (.loop .busy none T ps as bd H.n) := by rw [hsame2 _ (by simp), AH.get_set, if_pos rfl]
      have hd2 : s2.H.get H.n = some .deferred := by rw [hsame2 _ (by simp), AH.get_set, if_neg (by omega), hsame _ (by simp)]; exact k3
      refine ⟨_, _, _, _, _, _, _, hb2, ?_⟩
      have fin : ∀ o : AObj, (s2.H.set (H.n + 1) o).get H.n = some .deferred := fun o => by rw [AH.get_set, if_neg (by omega)]; exact hd2
      have own : ∀ (o : AObj) c, c ∈ W → (s2.H.set (H.n + 1) o).get c = H1.get c := fun o c hc => by
        have n1 : c ≠ H.n + 1 := fun e => k4 (e ▸ hc)
        rw [AH.get_set, if_neg n1, hsame2 c (List.mem_append_left _ hc), AH.get_set, if_neg n1, hsame c (List.mem_append_left _ hc)]
      have hset : ∀ o : AObj, But (H.n + 1) s2.H (s2.H.set (H.n + 1) o) := fun o => But.set _ _ _
      cases e with
      | normal => exact ⟨hn2, own _, .inl ⟨rfl, hfin _ (hset _), by rw [AH.get_set, if_pos rfl], fin _, k4, k5, by simp; omega⟩⟩
      | ret => exact ⟨hn2, own _, .inr ⟨rfl, .ret, by simp, hfin _ (hset _), by rw [AH.get_set, if_pos rfl]; rfl, fin _, k4, k5, by simp; omega⟩⟩
      | exit id => exact ⟨hn2, own _, .inr ⟨rfl, .exit id, by simp, hfin _ (hset _), by rw [AH.get_set, if_pos rfl]; rfl, fin _, k4, k5, by simp; omega⟩⟩
      | goto l => exact ⟨hn2, own _, .inr ⟨rfl, .goto l, by simp, hfin _ (hset _), by rw [AH.get_set, if_pos rfl]; rfl, fin _, k4, k5, by simp; omega⟩⟩
  · rintro v H' ⟨W, ⟨k1, k2, k3, k4, k5, k6⟩ | ⟨e, k0, k1, k2, k3, k4, k5, k6⟩⟩
    · refine ⟨_, _, _, _, _, _, _, k2, by simp, ?_⟩
      exact ha _ _ k1 _ (But.set _ _ _) (by rw [AH.get_set, if_neg (by show ¬ H.n = H.n + 1; omega)]; exact k3)
    · refine ⟨_, _, _, _, _, _, _, k2, by simp, ?_⟩
      have hq := hs e _ _ k1 _ (But.set (H.n + 1) H' .dead) (by rw [AH.get_set, if_neg (by show ¬ H.n = H.n + 1; omega)]; exact k3)
      cases e with
      | normal => exact absurd rfl k0
      | ret => exact AWp.ret hq
      | exit id => exact AWp.exit hq
      | goto l => exact AWp.goto hq
end
end Go.Am
end

/- What code asks, with labels, and with ranges over functions. -/
section
namespace Go.Am
open Go.RowKit

structure RangeAnn where
  key : Nat
  β : Type
  γ : Type
  fn : FuncId
  held : β → List AV × List AV
  el : γ → List AV
  xs : β → List γ
  cap : β → AH → Prop
  inv : β → Nat → List Nat → AH → Prop
  outs : List AEx
  stop : β → AEx → List Nat → AH → Prop

def findRan (k : Nat) : List RangeAnn → Option RangeAnn
  | [] => none
  | a :: l => bif Nat.beq a.key k then some a else findRan k l

def eqEx : AEx → AEx → Bool
  | .normal, .normal => true
  | .ret, .ret => true
  | .exit a, .exit b => Nat.beq a b
  | .goto a, .goto b => Nat.beq a b
  | _, _ => false
theorem eqEx_spec {a b : AEx} (h : eqEx a b = true) : a = b := by
  cases a <;> cases b <;> simp only [eqEx] at h <;> first | rfl | cases h | (rw [Nat.eq_of_beq_eq_true h])
def memEx (e : AEx) : List AEx → Bool
  | [] => false
  | a :: l => bif eqEx e a then true else memEx e l

structure RClosed (inv : Nat → List Nat → AH → Prop) (stop : AEx → List Nat → AH → Prop) (cap : AH → Prop) : Prop where
  s1 : ∀ i W H o, inv i W H → inv i (H.n :: W) (H.alloc o)
  s2 : ∀ i W H c o, c ∈ W → inv i W H → inv i W (H.set c o)
  s3 : ∀ e W H o, stop e W H → stop e (H.n :: W) (H.alloc o)
  s4 : ∀ e W H c o, c ∈ W → stop e W H → stop e W (H.set c o)
  cap : ∀ i W H, inv i W H → cap H

def RBegin (H H2 : AH) : Prop := H2.n = H.n + 2 ∧ ∀ c, c < H.n → H2.get c = H.get c
def AllLt (W : List Nat) (H : AH) : Prop := ∀ c ∈ W, c < H.n
def Still (W : List Nat) (H1 H H' : AH) : Prop := H1.n ≤ H'.n ∧ ∀ c ∈ W, H'.get c = H.get c
def InW (b : Nat) (W : List Nat) : Prop := b ∈ W
def Dfr (b : Nat) (H : AH) : Prop := H.get b = some .deferred

def allP {α : Type} : List α → (α → Prop) → Prop
  | [], _ => True
  | [a], f => f a
  | a :: l, f => f a ∧ allP l f
theorem allP_mem {α : Type} : ∀ {l : List α} {f : α → Prop}, allP l f → ∀ a ∈ l, f a
  | [], _, _, _, h => by cases h
  | [a], f, h, b, hb => by simp at hb; exact hb ▸ h
  | a :: c :: l, f, h, b, hb => by
    rcases List.mem_cons.1 hb with rfl | hb
    · exact h.1
    · exact allP_mem (l := c :: l) h.2 b hb

def labelsOf : Code → List Nat
  | .seq a b => labelsOf a ++ labelsOf b
  | .label l => [l]
  | _ => []

theorem findLabel_mem : ∀ {c : Code} {l : Nat} {rest : Code}, findLabel c l = some rest → l ∈ labelsOf c := by
  intro c
  induction c with
  | seq a b iha ihb =>
    intro l rest h
    simp only [findLabel] at h
    simp only [labelsOf, List.mem_append]
    split at h
    · rename_i hr; exact .inl (iha hr)
    · exact .inr (ihb h)
  | label l' =>
    intro l rest h
    simp only [findLabel] at h
    split at h
    · rename_i e; simp only [labelsOf, List.mem_singleton]; exact (beq_iff_eq.1 e).symm
    · cases h
  | _ => intro l rest h; cases h

def tailOf : Code → Nat → Option Code
  | .seq a b, l => match a with
    | .label l' => if l' == l then some b else tailOf b l
    | _ => tailOf b l
  | _, _ => none

def flatB : Code → Bool
  | .seq a b => (match a with | .label l => !(labelsOf b).contains l | a => (labelsOf a).isEmpty) && flatB b
  | .label _ => false
  | _ => true

theorem tailOf_mem : ∀ {c : Code} {l : Nat} {b : Code}, tailOf c l = some b → l ∈ labelsOf c := by
  intro c
  induction c with
  | seq a b iha ihb =>
    intro l b' h
    simp only [labelsOf, List.mem_append]
    cases a with
    | label l' =>
      simp only [tailOf] at h
      split at h
      · rename_i e; exact .inl (by simp only [labelsOf, List.mem_singleton]; exact (beq_iff_eq.1 e).symm)
      · exact .inr (ihb h)
    | _ => exact .inr (ihb h)
  | _ => intro l b h; cases h

theorem tailOf_found : ∀ {c : Code} {l : Nat} {b : Code}, tailOf c l = some b → (findLabel c l).isSome = true := by
  intro c
  induction c with
  | seq a b iha ihb =>
    intro l b' h
    simp only [findLabel]
    split
    · rfl
    · rename_i hn
      cases a with
      | label l' =>
        simp only [tailOf] at h
        simp only [findLabel] at hn
        split at h
        · rename_i e; rw [if_pos e] at hn; cases hn
        · exact ihb h
      | _ => exact ihb h
  | _ => intro l b h; cases h

theorem tailOf_tail : ∀ {c : Code} {l : Nat} {b : Code}, flatB c = true → tailOf c l = some b → flatB b = true ∧ ∀ l', (tailOf b l').isSome = true → tailOf c l' = tailOf b l' := by
  intro c
  induction c with
  | seq a b iha ihb =>
    intro l b' hf h
    simp only [flatB, Bool.and_eq_true] at hf
    have sub : ∀ l', (tailOf b l').isSome = true → tailOf (.seq a b) l' = tailOf b l' := by
      intro l' hs
      cases a with
      | label l2 =>
        simp only [tailOf]
        rw [if_neg]
        intro e
        obtain ⟨b2, hb2⟩ := Option.isSome_iff_exists.1 hs
        have := tailOf_mem hb2
        have h1 := hf.1
        simp only [Bool.not_eq_true'] at h1
        rw [← beq_iff_eq.1 e] at this
        rw [List.contains_iff_mem.2 this] at h1
        cases h1
      | _ => rfl
    have rest : tailOf b l = some b' → flatB b' = true ∧ ∀ l', (tailOf b' l').isSome = true → tailOf (.seq a b) l' = tailOf b' l' := by
      intro h
      obtain ⟨h1, h2⟩ := ihb hf.2 h
      refine ⟨h1, fun l' hs => ?_⟩
      have := h2 l' hs
      rw [← this]
      exact sub l' (by rw [this]; exact hs)
    cases a with
    | label l2 =>
      simp only [tailOf] at h
      split at h
      · cases h; exact ⟨hf.2, sub⟩
      · exact rest h
    | _ => exact rest h
  | _ => intro l b _ h; cases h

theorem findLabel_flat : ∀ {c : Code} {l : Nat} {rest : Code}, flatB c = true → findLabel c l = some rest → ∃ b, tailOf c l = some b ∧ rest = .seq .skip b := by
  intro c
  induction c with
  | seq a b iha ihb =>
    intro l rest hf h
    simp only [flatB, Bool.and_eq_true] at hf
    simp only [findLabel] at h
    split at h
    · rename_i ra hr
      have hm := findLabel_mem hr
      cases a with
      | label l' =>
        simp only [findLabel] at hr
        split at hr
        · rename_i e
          cases hr; cases h
          exact ⟨b, by simp only [tailOf]; rw [if_pos e], rfl⟩
        · cases hr
      | _ => have h1 := hf.1; simp only [List.isEmpty_iff] at h1; rw [h1] at hm; cases hm
    · rename_i hr
      obtain ⟨b', h1, h2⟩ := ihb hf.2 h
      refine ⟨b', ?_, h2⟩
      cases a with
      | label l' =>
        simp only [findLabel] at hr
        split at hr
        · cases hr
        · rename_i e; simp only [tailOf]; rw [if_neg e]; exact h1
      | _ => exact h1
  | label l' => intro l rest hf h; cases hf
  | _ => intro l rest _ h; cases h

section
variable (X : Option Nat → Atoms) (It : FuncId → List AV → List AV → (AH → Prop) → List (List AV) → Prop) (P : Program) (anns : List LoopAnn) (rans : List RangeAnn)

def landK (a : LoopAnn) (n : Nat) (M : List Mk) (low : Nat → Prop) (T : List AV) (M2 : List Mk) (H : AH) : Prop :=
  bif Nat.beq T.length n then sameM M2 M (∃ x j, low j ∧ a.live.map (look T) = a.tmpl x ∧ a.inv x H j) else False

def jumpK (c : Code) (n : Nat) (M : List Mk) (low : Nat → Prop) (K : VK) : VK := fun e T M2 H =>
  match e with
  | .goto l => match findLabel c l with
    | some _ => match findAnn (100000 + l) anns with
      | some a => landK a n M low T M2 H
      | none => False
    | none => K (.goto l) T M2 H
  | e => K e T M2 H

def spineK (V : Code → VK → List AV → List Mk → AH → Prop) : Code → VK → List AV → List Mk → AH → Prop
  | .seq a b, K, T, M, H => match a with
    | .label l => match findAnn (100000 + l) anns with
      | some _ => K (.goto l) T M H
      | none => spineK V b K T M H
    | a => V a (fun e T M H => match e with | .normal => spineK V b K T M H | e => K e T M H) T M H
  | c, K, T, M, H => V c K T M H

def cutOf (b : Code) : Option LoopAnn :=
  match firstReg b with
  | some k => findAnn (200000 + k) anns
  | none => none

def vcN : Nat → Option Nat → Code → VK → List AV → List Mk → AH → Prop
  | 0, _, _, _, _, _, _ => False
  | n + 1, r, c, K, T, M, H => match c with
    | .skip => K .normal T M H
    | .label _ => K .normal T M H
    | .exit id => K (.exit id) T M H
    | .goto l => K (.goto l) T M H
    | .ret => K .ret T M H
    | .refuse _ => False
    | .seq a b => match cutOf anns b with
      | some an => ∃ J : an.α → AH → Prop, vcN n r a (fun e T2 M2 H2 => match e with
            | .normal => landK { an with inv := fun x H _ => J x H } T.length M (fun _ => True) T2 M2 H2
            | e => K e T2 M2 H2) T M H ∧ ∀ x H', J x H' → vcN n r b K (mkT T.length an.live (an.tmpl x)) M H'
      | none => vcN n r a (fun e T M H => match e with | .normal => vcN n r b K T M H | e => K e T M H) T M H
    | .cond c x y => vK (ev P T c) fun v => match v with
      | .bool u => cond u (vcN n r x K T M H) (vcN n r y K T M H)
      | _ => False
    | .block id c => vcN n r c (fun e => K (inBlockX id e)) T M H
    | .loop c => match firstReg c with
      | some k => match findAnn k anns with
        | some a => ∃ I : a.α → AH → Nat → Prop, (∃ x j, a.live.map (look T) = a.tmpl x ∧ I x H j) ∧ ∀ x H' j, I x H' j →
            vcN n r c (fun e T2 M2 H2 => match e with
              | .normal => landK { a with inv := I } T.length M (fun j' => j' < j) T2 M2 H2
              | e => K e T2 M2 H2) (mkT T.length a.live (a.tmpl x)) M H'
        | none => False
      | none => False
    | .scope c => cond (flatB c) (spineK anns (vcN n r) c (jumpK anns c T.length M (fun _ => True) K) T M H ∧ allP (labelsOf c) fun l =>
        match findAnn (100000 + l) anns with
        | some a => match tailOf c l with
          | some rest => ∀ x H' j, a.inv x H' j → spineK anns (vcN n r) rest (jumpK anns c T.length M (fun j' => j' < j) K) (mkT T.length a.live (a.tmpl x)) M H'
          | none => True
        | none => True) False
    | .rangeFunc g ps as bd => match r with
      | some _ => False
      | none => match findRan ((firstReg (.rangeFunc g ps as bd)).getD 0) rans with
        | none => False
        | some a => vK (ev P T g) fun v => cond (goB P a.fn) (∃ z : a.β, v = .func (.func a.fn) (a.held z).1 (a.held z).2 ∧ It a.fn (a.held z).1 (a.held z).2 (a.cap z) ((a.xs z).map a.el) ∧ RClosed (a.inv z) (a.stop z) (a.cap z) ∧ (∀ k : a.γ, (a.el k).length = ps.size) ∧
              (∀ H2, RBegin H H2 → a.inv z 0 [(X none).n H + 1, (X none).n H] H2) ∧
              (∀ i W H1 (k : a.γ), (a.xs z)[i]? = some k → a.inv z i W H1 → AllLt W H1 → InW ((X none).n H + 1) W →
                vcN n (some ((X none).n H + 1)) as (fun e T3 M3 H3 => match e with
                  | .normal => Still W H1 H1 H3 ∧ ∀ H4, But ((X none).n H + 1) H3 H4 → vcN n (some ((X none).n H + 1)) bd (fun e _ _ H5 => Still W H1 H4 H5 ∧ ∀ H6, But ((X none).n H + 1) H5 H6 →
                      match e with
                      | .normal => a.inv z (i + 1) W H6
                      | e => cond (memEx e a.outs) (a.stop z e W H6) False) T3 M3 H4
                  | _ => False) (setPs ps.toList (a.el k) T) [] H1) ∧
              (∀ W H1 H6, a.inv z (a.xs z).length W H1 → But ((X none).n H + 1) H1 H6 → Dfr ((X none).n H) H6 → K .normal T (.mark ((X none).n H) :: M) H6) ∧
              allP a.outs fun e => ∀ W H1 H6, a.stop z e W H1 → But ((X none).n H + 1) H1 H6 → Dfr ((X none).n H) H6 → K e T (.mark ((X none).n H) :: M) H6) False
    | .region _ ops draw => match draw with
      | false => opsK (X r) P ops ops.toList T [] [] H fun T' cd H' => K .normal (dropCd T' cd) M H'
      | true => match drawOf ops with
        | some (σ, A) => drawK (X r) P ops A σ [] T H fun T' H' => K .normal T' M H'
        | none => False

def vcG (f : FuncId) (args : List AV) (H : AH) (Q : AV → AH → Prop) : Prop :=
  match P.funcs[f]? with
  | some fn => match fn.body with
    | some c => vcN X It P anns rans 4000 none c (retK (X none) P fn Q) (args ++ List.replicate (fn.ntmps - args.length) .undef) [] H
    | none => False
  | none => False
end

section
variable {P : Program} {anns : List LoopAnn} {rans : List RangeAnn}

theorem landK_spec {a : LoopAnn} {n : Nat} {M : List Mk} {low : Nat → Prop} {T : List AV} {M2 : List Mk} {H : AH} (h : landK a n M low T M2 H) : ∃ x j, low j ∧ M2 = M ∧ a.inv x H j ∧ Wk (mkT n a.live (a.tmpl x)) T := by
  obtain ⟨hlen, hk⟩ := bool_if h
  obtain ⟨hM, x, j, hj, hl, hi⟩ := sameM_iff hk
  exact ⟨x, j, hj, hM, hi, by rw [← hl]; exact mkT_wk (Nat.eq_of_beq_eq_true hlen).symm _⟩

theorem vcN_ok (hm : P.follows .mixedOrders = true) : ∀ {n : Nat} {r : Option Nat} {c : Code} {K : VK} {T : List AV} {M : List Mk} {H : AH}, vcN (real P) (Iter P) P anns rans n r c K T M H → AWp P r c (WkP K) ⟨T, M, H⟩ := by
  intro n
  induction n with
  | zero => intro r c K T M H h; exact h.elim
  | succ n ih =>
  intro r c K T M H h
  cases c with
  | skip => exact AWp.skip ⟨T, Wk.refl T, h⟩
  | label l => exact AWp.label ⟨T, Wk.refl T, h⟩
  | exit id => exact AWp.exit ⟨T, Wk.refl T, h⟩
  | goto l => exact AWp.goto ⟨T, Wk.refl T, h⟩
  | ret => exact AWp.ret ⟨T, Wk.refl T, h⟩
  | refuse w => exact h.elim
  | scope c =>
    obtain ⟨hf, h0, hl⟩ := bool_if h
    have jump : ∀ {low : Nat → Prop} {e : AEx} {s : St}, WkP (jumpK anns c T.length M low K) e s →
        jumpsA c (fun l s => ∃ j, low j ∧ ∃ a x, findAnn (100000 + l) anns = some a ∧ a.inv x s.H j ∧ s.M = M ∧ Wk (mkT T.length a.live (a.tmpl x)) s.T) (WkP K) e s := by
      rintro low e s ⟨T2, hw, hk⟩
      cases e with
      | normal => exact ⟨T2, hw, hk⟩
      | exit id => exact ⟨T2, hw, hk⟩
      | ret => exact ⟨T2, hw, hk⟩
      | goto l =>
        simp only [jumpsA]
        simp only [jumpK] at hk
        split at hk
        · rename_i hf
          rw [if_pos (by rw [hf]; rfl)]
          split at hk
          · rename_i a ha
            obtain ⟨x, j, hj, hM, hi, hwk⟩ := landK_spec hk
            exact ⟨j, hj, a, x, ha, hi, hM, hwk.trans hw⟩
          · exact hk.elim
        · rename_i hf
          rw [if_neg (by rw [hf]; simp)]
          exact ⟨T2, hw, hk⟩
    have up : ∀ {J1 J2 : Nat → St → Prop} {e : AEx} {s : St}, (∀ l s, J1 l s → J2 l s) → jumpsA c J1 (WkP K) e s → jumpsA c J2 (WkP K) e s := by
      intro J1 J2 e s hJ h
      cases e with
      | goto l =>
        simp only [jumpsA] at h ⊢
        split at h
        · rename_i hs; rw [if_pos hs]; exact hJ _ _ h
        · rename_i hs; rw [if_neg hs]; exact h
      | normal => exact h
      | exit id => exact h
      | ret => exact h
    obtain ⟨G, hG⟩ : ∃ G : Nat → Nat → St → Prop, G = fun l j s => ∃ a x, findAnn (100000 + l) anns = some a ∧ a.inv x s.H j ∧ s.M = M ∧ Wk (mkT T.length a.live (a.tmpl x)) s.T := ⟨_, rfl⟩
    have jump' : ∀ {low : Nat → Prop} {e : AEx} {s : St}, WkP (jumpK anns c T.length M low K) e s → jumpsA c (fun l s => ∃ j, low j ∧ G l j s) (WkP K) e s := by rw [hG]; exact jump
    have row : ∀ (low : Nat → Prop), (∀ l b j s, low j → tailOf c l = some b → G l j s → AWp P r b (jumpsA c (fun l s => ∃ j, low j ∧ G l j s) (WkP K)) s) →
        ∀ {b : Code} {T1 : List AV} {M1 : List Mk} {H1 : AH}, flatB b = true → (∀ l, (tailOf b l).isSome = true → tailOf c l = tailOf b l) → spineK anns (vcN (real P) (Iter P) P anns rans n r) b (jumpK anns c T.length M low K) T1 M1 H1 →
          AWp P r b (jumpsA c (fun l s => ∃ j, low j ∧ G l j s) (WkP K)) ⟨T1, M1, H1⟩ := by
      intro low hyp b
      induction b with
      | seq a b iha ihb =>
        intro T1 M1 H1 hfb hsub h
        have hfb' := hfb
        simp only [flatB, Bool.and_eq_true] at hfb
        have hsub' : ∀ l, (tailOf b l).isSome = true → tailOf c l = tailOf b l := by
          intro l' hs
          have : tailOf (.seq a b) l' = tailOf b l' := by
            cases a with
            | label l2 =>
              simp only [tailOf]
              rw [if_neg]
              intro e
              obtain ⟨b2, hb2⟩ := Option.isSome_iff_exists.1 hs
              have hm2 := tailOf_mem hb2
              have h1 := hfb.1
              simp only [Bool.not_eq_true'] at h1
              rw [← beq_iff_eq.1 e] at hm2
              rw [List.contains_iff_mem.2 hm2] at h1
              cases h1
            | _ => rfl
          rw [← this]; exact hsub l' (by rw [this]; exact hs)
        have other : vcN (real P) (Iter P) P anns rans n r a (fun e T2 M2 H2 => match e with | .normal => spineK anns (vcN (real P) (Iter P) P anns rans n r) b (jumpK anns c T.length M low K) T2 M2 H2 | e => jumpK anns c T.length M low K e T2 M2 H2) T1 M1 H1 →
            AWp P r (.seq a b) (jumpsA c (fun l s => ∃ j, low j ∧ G l j s) (WkP K)) ⟨T1, M1, H1⟩ := by
          intro h
          refine AWp.seq ((ih h).mono ?_)
          rintro e s ⟨T', hw, hk⟩
          cases e with
          | normal => exact AWp.weaken hw (ihb hfb.2 hsub' hk)
          | exit id => exact jump' ⟨T', hw, hk⟩
          | goto l => exact jump' ⟨T', hw, hk⟩
          | ret => exact jump' ⟨T', hw, hk⟩
        cases a with
        | label l =>
          simp only [spineK] at h
          refine AWp.seq (AWp.label ?_)
          split at h
          · have ht : tailOf (.seq (.label l) b) l = some b := by simp [tailOf]
            have hc : tailOf c l = some b := (hsub l (by rw [ht]; rfl)).trans ht
            have hj := jump' (e := .goto l) (s := ⟨T1, M1, H1⟩) ⟨T1, Wk.refl T1, h⟩
            simp only [jumpsA] at hj
            rw [if_pos (tailOf_found hc)] at hj
            obtain ⟨j, hl, hg⟩ := hj
            exact hyp l b j _ hl hc hg
          · exact ihb hfb.2 hsub' h
        | _ => exact other h
      | label l => intro T1 M1 H1 hfb; cases hfb
      | _ => intro T1 M1 H1 _ _ h; exact (ih h).mono fun e s hp => jump' hp
    have A : ∀ j l b s, tailOf c l = some b → G l j s → AWp P r b (jumpsA c (fun l s => ∃ i, i < j ∧ G l i s) (WkP K)) s := by
      intro j
      induction j using Nat.strongRecOn with
      | ind j ihj =>
        intro l b s ht hg
        have hg' := hg
        rw [hG] at hg'
        obtain ⟨a, x, ha, hi, hM, hw⟩ := hg'
        have hr := allP_mem hl l (tailOf_mem ht)
        rw [ha, ht] at hr
        obtain ⟨k1, k2⟩ := tailOf_tail hf ht
        obtain ⟨Ts, Ms, Hs⟩ := s
        obtain rfl : Ms = M := hM
        exact AWp.weaken hw (row (fun i => i < j) (fun l b i s hi ht hg => (ihj i hi l b s ht hg).mono fun e s => up fun l s ⟨i', h1, h2⟩ => ⟨i', Nat.lt_trans h1 hi, h2⟩) k1 k2 (hr x Hs j hi))
    refine AWp.scope (fun j l s => G l j s) ((row (fun _ => True) (fun l b i s _ ht hg => (A i l b s ht hg).mono fun e s => up fun l s ⟨i', _, h2⟩ => ⟨i', trivial, h2⟩) hf (fun l _ => rfl) h0).mono fun e s => up fun l s ⟨j, _, h⟩ => ⟨j, h⟩) ?_
    intro j l s rest hfl hJ
    obtain ⟨b, ht, rfl⟩ := findLabel_flat hf hfl
    exact AWp.seq (AWp.skip (A j l b s ht hJ))
  | seq a b =>
    simp only [vcN] at h
    split at h
    · rename_i an _
      obtain ⟨J, h1, h2⟩ := h
      refine AWp.seq ((ih h1).mono ?_)
      rintro e ⟨Ts, Ms, Hs⟩ ⟨T', hw, hk⟩
      cases e with
      | normal =>
        obtain ⟨x, j, _, hM, hi, hwk⟩ := landK_spec hk
        obtain rfl : Ms = M := hM
        exact AWp.weaken (hwk.trans hw) (ih (h2 x Hs hi))
      | exit id => exact ⟨T', hw, hk⟩
      | goto l => exact ⟨T', hw, hk⟩
      | ret => exact ⟨T', hw, hk⟩
    · refine AWp.seq ((ih h).mono ?_)
      rintro e s ⟨T', hw, hk⟩
      cases e with
      | normal => exact AWp.weaken hw (ih hk)
      | exit id => exact ⟨T', hw, hk⟩
      | goto l => exact ⟨T', hw, hk⟩
      | ret => exact ⟨T', hw, hk⟩
  | cond c x y =>
    obtain ⟨v, hv, h⟩ := vK_iff h
    split at h
    · rename_i u
      refine AWp.cond hv ?_
      cases u with
      | true => exact ih h
      | false => exact ih h
    · exact h.elim
  | block id c =>
    refine AWp.block ((ih (show vcN (real P) (Iter P) P anns rans n r c _ T M H from h)).mono ?_)
    rintro e s ⟨T', hw, hk⟩
    cases e with
    | exit i =>
      simp only [inBlockA]
      simp only [inBlockX] at hk
      split
      · rename_i e; rw [if_pos e] at hk; exact ⟨T', hw, hk⟩
      · rename_i e; rw [if_neg e] at hk; exact ⟨T', hw, hk⟩
    | normal => exact ⟨T', hw, hk⟩
    | goto l => exact ⟨T', hw, hk⟩
    | ret => exact ⟨T', hw, hk⟩
  | loop c =>
    simp only [vcN] at h
    split at h
    · split at h
      · rename_i a _
        obtain ⟨I, ⟨x, j, hl, hi⟩, h⟩ := h
        refine AWp.loop (j := j) (fun j s => ∃ x, I x s.H j ∧ s.M = M ∧ Wk (mkT T.length a.live (a.tmpl x)) s.T) ⟨x, hi, rfl, by rw [← hl]; exact mkT_wk rfl _⟩ ?_
        rintro j ⟨T1, M1, H1⟩ ⟨x, hi, rfl, hw⟩
        refine AWp.weaken hw ((ih (h x H1 j hi)).mono ?_)
        rintro e s ⟨T2, hw2, hk⟩
        cases e with
        | normal =>
          obtain ⟨x', j', hj, hM, hi', hwk⟩ := landK_spec hk
          exact ⟨j', hj, x', hi', hM, hwk.trans hw2⟩
        | exit id => exact ⟨T2, hw2, hk⟩
        | goto l => exact ⟨T2, hw2, hk⟩
        | ret => exact ⟨T2, hw2, hk⟩
      · exact h.elim
    · exact h.elim
  | rangeFunc g ps as bd =>
    simp only [vcN] at h
    split at h
    · exact h.elim
    · split at h
      · exact h.elim
      · rename_i a _
        obtain ⟨v, hv, h⟩ := vK_iff h
        · obtain ⟨hgo, z, rfl, hI, hC, hlen, h0, hb, ha, hs⟩ := bool_if h
          refine AWp.range_iter (goB_spec hgo) hv hI (a.inv z) (fun e W H => memEx e a.outs = true ∧ a.stop z e W H) hC.s1 hC.s2 (fun e W H o h => ⟨h.1, hC.s3 _ _ _ _ h.2⟩) (fun e W H c o hc h => ⟨h.1, hC.s4 _ _ _ _ _ hc h.2⟩) hC.cap
            (fun H2 h1 h2 => h0 H2 ⟨h1, h2⟩) ?_ ?_ ?_ ?_
          · rintro vs hvs
            obtain ⟨k, _, rfl⟩ := List.mem_map.1 hvs
            exact hlen k
          · intro i W H1 vs hvs hi hW hin
            rw [List.getElem?_map] at hvs
            obtain ⟨k, hk, rfl⟩ := Option.map_eq_some_iff.1 hvs
            refine (ih (hb i W H1 k hk hi hW hin)).mono ?_
            rintro e s ⟨T3, hw3, hk3⟩
            cases e with
            | exit id => exact hk3.elim
            | goto l => exact hk3.elim
            | ret => exact hk3.elim
            | normal =>
              obtain ⟨⟨k1, k2⟩, k3⟩ := hk3
              refine ⟨k1, k2, fun H4 hH4 => AWp.weaken hw3 ((ih (k3 H4 hH4)).mono ?_)⟩
              rintro e s2 ⟨T5, hw5, ⟨k4, k5⟩, k6⟩
              refine ⟨k4, k5, fun H6 hH6 => ?_⟩
              have := k6 H6 hH6
              cases e with
              | normal => exact this
              | exit id => exact bool_if this
              | goto l => exact bool_if this
              | ret => exact bool_if this
          · intro W H1 hi H6 h6 hd
            rw [List.length_map] at hi
            exact ⟨T, Wk.refl T, ha W H1 H6 hi h6 hd⟩
          · rintro e W H1 ⟨hm', hst⟩ H6 h6 hd
            have hmem : ∀ {l : List AEx}, memEx e l = true → e ∈ l := by
              intro l
              induction l with
              | nil => intro h; cases h
              | cons b l ih =>
                intro h
                simp only [memEx] at h
                cases hb : eqEx e b with
                | true => exact List.mem_cons.2 (.inl (eqEx_spec hb))
                | false => rw [hb] at h; exact List.mem_cons_of_mem _ (ih h)
            exact ⟨T, Wk.refl T, allP_mem hs e (hmem hm') W H1 H6 hst h6 hd⟩
  | region id ops draw =>
    refine vcC_ok (anns := anns) hm ?_
    cases draw with
    | false => exact h
    | true => exact h

theorem vcG_ok (hm : P.follows .mixedOrders = true) {f : FuncId} {args : List AV} {H : AH} {Q : AV → AH → Prop} (h : vcG (real P) (Iter P) P anns rans f args H Q) : ACall P f args H Q := by
  unfold vcG at h
  split at h
  · rename_i fn hf
    split at h
    · rename_i c hb
      refine ACall.body hf hb ?_
      intro E B w a rc hs hr
      refine Go.wpIn_mono (vcN_ok hm h E B w a rc hs hr) ?_
      rintro e a' w' ⟨ae, s', E', h1, ⟨T', hw, hk⟩, h3, h4, h5⟩
      refine ⟨ae, ⟨T', s'.M, s'.H⟩, E', h1, ?_, h3, ⟨h4.heap, VRs.weaken hw h4.tmps, h4.marks⟩, h5⟩
      cases ae with
      | normal =>
        obtain ⟨H', h6, h7⟩ := marksK_ok (P := P) (r := none) (show marksK (real P none) s'.M s'.H (fun H' => resK (real P none) P T' H' fn.results.toList fun vs => Q (oneOf vs) H') from hk)
        obtain ⟨vs, h8, h9⟩ := resK_ok h7
        exact ⟨.inl rfl, H', vs, h6, h8, h9⟩
      | ret =>
        obtain ⟨H', h6, h7⟩ := marksK_ok (P := P) (r := none) (show marksK (real P none) s'.M s'.H (fun H' => resK (real P none) P T' H' fn.results.toList fun vs => Q (oneOf vs) H') from hk)
        obtain ⟨vs, h8, h9⟩ := resK_ok h7
        exact ⟨.inr rfl, H', vs, h6, h8, h9⟩
      | exit id => exact hk.elim
      | goto l => exact hk.elim
    · exact h.elim
  · exact h.elim
end
end Go.Am
end

/- Functions that read one block, and change nothing. -/
section
namespace Go.Am
open Go.RowKit
variable {P : Program}

theorem PureR.of_call {f : FuncId} {args : List AV} {R : AV → Prop} (h : ACall P f args (emptyH P) fun v' _ => R v') (hg : goB P f = true) (ha : AV.scals args = true) (hv : ∀ v, R v → v.scal = true) : PureR P f args R :=
  fun H => .inl ⟨goB_spec hg, ACall.pure h ha hv H⟩
theorem PureR.of_vcG (hm : P.follows .mixedOrders = true) {f : FuncId} {args : List AV} {R : AV → Prop} (anns : List LoopAnn) (rans : List RangeAnn) (hg : goB P f = true) (ha : AV.scals args = true) (hv : ∀ v, R v → v.scal = true)
    (h : vcG (real P) (Iter P) P anns rans f args (emptyH P) fun v' _ => R v') : PureR P f args R := .of_call (vcG_ok hm h) hg ha hv

/-! ### Other numbers for the blocks -/







end Go.Am
end

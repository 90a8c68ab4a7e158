/- What an operation asks, reckoned without looking into numbers, texts, heaps. -/
import Derived.Test.YtlkdhhkncoekgaaDoorAmS
namespace Go.Am
open Go.RowKit

/-- What is left as it stands. -/
structure Atoms where
  wrap : IntKind → Int → Int
  call : FuncId → List AV → AH → (AV → AH → Prop) → Prop
  yld : Nat → List AV → AH → (AV → AH → Prop) → Prop
  cfn : AV → List AV → AH → (AV → AH → Prop) → Prop
  n : AH → Nat
  get : AH → Nat → Option AObj
  set : AH → Nat → AObj → AH
  al : AH → AObj → AH
  rd1 : AH → Nat → Nat → Option AV
  rdn : AH → Nat → Nat → Nat → Option (List AV)
  wr : AH → Nat → Nat → List AV → Option AH
  app : TypeId → TypeId → AV → AV → AH → Option (AV × AH)
  cpy : TypeId → AV → AV → AH → Option (AV × AH)
  mks : TypeId → Int → Int → AH → Option (AV × AH)
  slc : TypeId → AV → Option AV → Option AV → Option AV → AH → Option AV
  str : AV → AH → Option (List UInt8)
  bs : TypeId → TypeId → List UInt8 → AH → Option (AV × AH)
  idx : TypeId → AV → AV → Option AV
  caps : TypeId → AV → AH → Option AV
  ustr : TypeId → AV → AV → AH → Option (AV × AH)
  tm : List Nat → AH → Option AH
  cvs : TypeId → TypeId → AV → AH → Option (AV × AH)

/-- The kinds of one-celled values. -/
inductive S1 where
  | bool | int (k : IntKind) | str | ptr | slice | other

section
variable (P : Program)
def s1Of (t : TypeId) : S1 :=
  match P.underlying t with
  | some .bool => .bool
  | some (.int k) => .int k
  | some .string => .str
  | some (.pointer _) => .ptr
  | some (.slice _) => .slice
  | _ => .other

def repS (l : List S1) : Nat → List S1
  | 0 => []
  | n + 1 => l ++ repS l n

/-- The cells of a type. -/
def cellsS : Nat → TypeId → List S1
  | 0, _ => []
  | d + 1, t =>
    match P.underlying t with
    | some (.struct fs) => fs.toList.foldr (fun f l => cellsS d f.type ++ l) []
    | some (.array n e) => repS (cellsS d e) n
    | _ => [s1Of P t]
end

def exS1 (s : S1) (k : AV → Prop) : Prop :=
  match s with
  | .bool => ∃ b, k (.bool b)
  | .int kd => ∃ n, k (.int kd n)
  | .str => ∃ s, k (.str s)
  | .ptr => ∃ b o, k (.ptr (some (b, o)))
  | .slice => ∃ a l c, k (.slice a l c)
  | .other => ∃ v, k v
def exCells : List S1 → (List AV → Prop) → Prop
  | [], k => k []
  | s :: l, k => exS1 s fun v => exCells l fun vs => k (v :: vs)

theorem exS1_iff {s : S1} {k : AV → Prop} (h : exS1 s k) : ∃ v, k v := by
  cases s <;> simp only [exS1] at h
  · obtain ⟨b, h⟩ := h; exact ⟨_, h⟩
  · obtain ⟨b, h⟩ := h; exact ⟨_, h⟩
  · obtain ⟨b, h⟩ := h; exact ⟨_, h⟩
  · obtain ⟨b, o, h⟩ := h; exact ⟨_, h⟩
  · obtain ⟨b, o, c, h⟩ := h; exact ⟨_, h⟩
  · exact h
theorem exCells_iff : ∀ {l : List S1} {k : List AV → Prop}, exCells l k → ∃ vs, k vs
  | [], _, h => ⟨_, h⟩
  | s :: l, k, h => by
    obtain ⟨v, h⟩ := exS1_iff h
    obtain ⟨vs, h⟩ := exCells_iff h
    exact ⟨_, h⟩

/-- p, where the condition holds. -/
def imp (φ : Option Bool) (p : Prop) : Prop :=
  match φ with
  | none => p
  | some b => b = true → p

theorem imp_of {φ : Option Bool} {p : Prop} (h : imp φ p) (hφ : φ.getD true = true) : p := by
  cases φ with
  | none => exact h
  | some b => exact h hφ

def vK (v : Option AV) (k : AV → Prop) : Prop :=
  match v with
  | some v => k v
  | none => False
theorem vK_iff {v : Option AV} {k : AV → Prop} (h : vK v k) : ∃ x, v = some x ∧ k x := by
  cases v with
  | none => exact h.elim
  | some v => exact ⟨v, rfl, h⟩

/-- A value of this type, or a struct of so many cells. -/
def exV (P : Program) (t : TypeId) (k : AV → Prop) : Prop :=
  match aggT P t with
  | some true => exCells (cellsS P 12 t) fun cs => k (.agg cs)
  | some false => exS1 (s1Of P t) k
  | none => False
theorem exV_iff {P : Program} {t : TypeId} {k : AV → Prop} (h : exV P t k) : ∃ v, k v := by
  unfold exV at h
  split at h
  · obtain ⟨cs, h⟩ := exCells_iff h; exact ⟨_, h⟩
  · exact exS1_iff h
  · exact h.elim

section eq
variable (P : Program)
def eqFieldsS (eq : TypeId → AV → AV → Option Bool) (xs ys : List AV) : List Field → Option Bool
  | [] => some true
  | f :: fs =>
    if f.name ≠ "_" then
      (partV P f.type xs f.offset).bind fun a => (partV P f.type ys f.offset).bind fun b => (eq f.type a b).bind fun r => (eqFieldsS eq xs ys fs).map fun q => r && q
    else eqFieldsS eq xs ys fs

theorem eqFieldsS_ok {eq eq' : TypeId → AV → AV → Option Bool} (he : ∀ t a b r, eq t a b = some r → eq' t a b = some r) {xs ys : List AV} : ∀ {fs : List Field} {r : Bool}, eqFieldsS P eq xs ys fs = some r → eqFields P eq' xs ys fs = some r
  | [], _, h => h
  | f :: fs, r, h => by
    simp only [eqFieldsS] at h
    simp only [eqFields]
    split at h
    · rename_i hn
      rw [if_pos hn]
      obtain ⟨a, ha, h⟩ := Option.bind_eq_some_iff.1 h
      obtain ⟨b, hb, h⟩ := Option.bind_eq_some_iff.1 h
      obtain ⟨u, hu, h⟩ := Option.bind_eq_some_iff.1 h
      obtain ⟨q, hq, rfl⟩ := Option.map_eq_some_iff.1 h
      rw [ha, Option.bind_some, hb, Option.bind_some, he _ _ _ _ hu, Option.bind_some]
      cases u with
      | true => simpa using eqFieldsS_ok he hq
      | false => rfl
    · rename_i hn
      rw [if_neg hn]
      exact eqFieldsS_ok he h

def eqElemsS (eq : TypeId → AV → AV → Option Bool) (elem : TypeId) (xs ys : List AV) (sz : Nat) : Nat → Nat → Option Bool
  | _, 0 => some true
  | i, n + 1 =>
    (partV P elem xs (i * sz)).bind fun a => (partV P elem ys (i * sz)).bind fun b => (eq elem a b).bind fun r => (eqElemsS eq elem xs ys sz (i + 1) n).map fun q => r && q

theorem eqElemsS_ok {eq eq' : TypeId → AV → AV → Option Bool} (he : ∀ t a b r, eq t a b = some r → eq' t a b = some r) {elem : TypeId} {xs ys : List AV} {sz : Nat} : ∀ {n i : Nat} {r : Bool}, eqElemsS P eq elem xs ys sz i n = some r → eqElems P eq' elem xs ys sz i n = some r
  | 0, _, _, h => h
  | n + 1, i, r, h => by
    simp only [eqElemsS] at h
    simp only [eqElems]
    obtain ⟨a, ha, h⟩ := Option.bind_eq_some_iff.1 h
    obtain ⟨b, hb, h⟩ := Option.bind_eq_some_iff.1 h
    obtain ⟨u, hu, h⟩ := Option.bind_eq_some_iff.1 h
    obtain ⟨q, hq, rfl⟩ := Option.map_eq_some_iff.1 h
    rw [ha, Option.bind_some, hb, Option.bind_some, he _ _ _ _ hu, Option.bind_some]
    cases u with
    | true => simpa using eqElemsS_ok he hq
    | false => rfl

/-- Are they alike? Scalars, and structs of them. -/
def eqS : Nat → TypeId → AV → AV → Option Bool
  | 0, _, _, _ => none
  | d + 1, t, x, y =>
    match P.underlying t, x, y with
    | some .bool, .bool a, .bool b => some (a == b)
    | some (.int _), .int k a, .int k' b => if k = k' then some (a == b) else none
    | some .string, .str a, .str b => some (a == b)
    | some (.struct fs), .agg xs, .agg ys => if P.stoodInHeld t then none else eqFieldsS P (eqS d) xs ys fs.toList
    | some (.array len e), .agg xs, .agg ys => match szOf P e with
      | some s => eqElemsS P (eqS d) e xs ys s 0 len
      | none => none
    | _, x, y => eqV P (d + 1) t x y

theorem eqS_ok : ∀ {d : Nat} {t : TypeId} {x y : AV} {r : Bool}, eqS P d t x y = some r → eqV P d t x y = some r
  | 0, _, _, _, _, h => by cases h
  | d + 1, t, x, y, r, h => by
    unfold eqS at h
    split at h
    · rename_i hu; simp only [eqV, hu]; exact h
    · rename_i hu; simp only [eqV, hu]; exact h
    · rename_i hu; simp only [eqV, hu]; exact h
    · rename_i hu
      simp only [eqV, hu]
      split at h
      · cases h
      · rename_i hn
        rw [if_neg hn]
        exact eqFieldsS_ok P (fun t a b r h => eqS_ok h) h
    · rename_i hu
      simp only [eqV, hu]
      split at h
      · rename_i hs
        rw [hs]
        exact eqElemsS_ok P (fun t a b r h => eqS_ok h) h
      · cases h
    · exact h
end eq

section
variable (X : Atoms) (P : Program)

def intK (φ : Option Bool) (op : BinOp) (k : IntKind) (a b : Int) (K : AV → Prop) : Prop :=
  match op with
  | .add => K (.int k (X.wrap k (a + b)))
  | .sub => K (.int k (X.wrap k (a - b)))
  | .mul => K (.int k (X.wrap k (a * b)))
  | .quo => imp φ (b ≠ 0) ∧ K (.int k (X.wrap k (a.tdiv b)))
  | .rem => imp φ (b ≠ 0) ∧ K (.int k (a.tmod b))
  | .and => K (.int k (X.wrap k (BitVec.ofInt k.bits a &&& BitVec.ofInt k.bits b).toNat))
  | .or => K (.int k (X.wrap k (BitVec.ofInt k.bits a ||| BitVec.ofInt k.bits b).toNat))
  | .xor => K (.int k (X.wrap k (BitVec.ofInt k.bits a ^^^ BitVec.ofInt k.bits b).toNat))
  | .andNot => K (.int k (X.wrap k (BitVec.ofInt k.bits a &&& ~~~BitVec.ofInt k.bits b).toNat))
  | .eql => K (.bool (a == b))
  | .neq => K (.bool (a != b))
  | .lss => K (.bool (decide (a < b)))
  | .leq => K (.bool (decide (a ≤ b)))
  | .gtr => K (.bool (decide (a > b)))
  | .geq => K (.bool (decide (a ≥ b)))
  | _ => False

def strK (φ : Option Bool) (op : BinOp) (a b : List UInt8) (K : AV → Prop) : Prop :=
  match op with
  | .add => imp φ (((a.length + b.length : Nat) : Int) ≤ 9223372036854775807) ∧ K (.str (a ++ b))
  | .eql => K (.bool (a == b))
  | .neq => K (.bool (!(a == b)))
  | .lss => K (.bool (bytesLt a b))
  | .leq => K (.bool (bytesLt a b || a == b))
  | .gtr => K (.bool (!(bytesLt a b || a == b)))
  | .geq => K (.bool (!bytesLt a b))
  | _ => False

def binK (φ : Option Bool) (op : BinOp) (t : TypeId) (xo yo : Operand) (x y : AV) (K : AV → Prop) : Prop :=
  match op, x, y with
  | .shl, .int k a, .int _ b => imp φ (0 ≤ b) ∧ K (.int k (X.wrap k (a * 2 ^ min b.toNat k.bits)))
  | .shr, .int k a, .int _ b => imp φ (0 ≤ b) ∧ K (.int k (a.fdiv (2 ^ min b.toNat k.bits)))
  | op, .int k a, .int k' b => if k = k' then intK X φ op k a b K else False
  | op, .str a, .str b => strK φ op a b K
  | .eql, x, y => bif eqGuardOk P t xo yo x y then vK ((eqS P 8 t x y).map .bool) K else False
  | .neq, x, y => bif eqGuardOk P t xo yo x y then vK ((eqS P 8 t x y).map fun r => .bool (!r)) K else False
  | _, _, _ => False

def unK (op : UnOp) (x : AV) (K : AV → Prop) : Prop :=
  match op, x with
  | .neg, .int k n => K (.int k (X.wrap k (0 - n)))
  | .xor, .int k n => K (.int k (X.wrap k (BitVec.ofInt k.bits (if k.signed then -1 else k.max) ^^^ BitVec.ofInt k.bits n).toNat))
  | .not, .bool b => K (.bool !b)
  | _, _ => False

/-- A bound of a slice expression. -/
def boundK (d : Int) (v : Option AV) (k : Int → Prop) : Prop :=
  match v with
  | none => k d
  | some (.int _ i) => k i
  | some _ => False

def sliceK (φ : Option Bool) (H : AH) (t : TypeId) (x : AV) (lo hi mx : Option AV) (K : AV → Prop) : Prop :=
  match P.underlying t, x with
  | some .string, .str s =>
    match mx with
    | some _ => False
    | none => boundK 0 lo fun l => boundK s.length hi fun h => imp φ (0 ≤ l ∧ l ≤ h ∧ h ≤ s.length) ∧ K (.str ((s.drop l.toNat).take (h - l).toNat))
  | _, _ => ∃ a l c, imp φ (X.slc t x lo hi mx H = some (.slice a l c)) ∧ K (.slice a l c)

def convK (φ : Option Bool) (H : AH) (src dst : TypeId) (x : AV) (K : AV → AH → Prop) : Prop :=
  match P.underlying src, P.underlying dst, x with
  | some _, some (.int k), .int _ n => K (.int k (X.wrap k n)) H
  | some _, some .string, .int _ n => K (.str (encodeL n)) H
  | some _, some .string, .str s => K (.str s) H
  | some _, some (.slice _), .str s => match φ with
    | none => ∃ a l c H', X.bs src dst s H = some (.slice a l c, H') ∧ K (.slice a l c) H'
    | some _ => False
  | some (.slice e), some .string, .slice a l c =>
    match P.underlying e with
    | some (.int .u8) => ∃ s, imp φ (X.str (.slice a l c) H = some s) ∧ K (.str s) H
    | _ => False
  | some (.slice _), some (.slice _), .slice a l c => match φ with
    | none => ∃ H', X.cvs src dst (.slice a l c) H = some (.slice a l c, H') ∧ K (.slice a l c) H'
    | some _ => False
  | _, _, _ => False

def lenK (t : TypeId) (x : AV) (K : AV → Prop) : Prop :=
  match P.underlying t, x with
  | some .string, .str s => K (.int .i64 s.length)
  | some (.slice _), .slice _ n _ => K (.int .i64 n)
  | some (.array n _), _ => K (.int .i64 n)
  | some (.pointer a), _ => match P.underlying a with
    | some (.array n _) => K (.int .i64 n)
    | _ => False
  | _, _ => False

def loadK (φ : Option Bool) (H : AH) (t : TypeId) (a : AV) (K : AV → Prop) : Prop :=
  match a with
  | .ptr (some (b, o)) =>
    match aggT P t with
    | some true => match szOf P t with
      | some s => exCells (cellsS P 12 t) fun cs => imp φ (X.rdn H b o s = some cs) ∧ K (.agg cs)
      | none => False
    | some false => exS1 (s1Of P t) fun v => imp φ (X.rd1 H b o = some v) ∧ K v
    | none => False
  | _ => False

def indexAddrK (φ : Option Bool) (t : TypeId) (x ix : AV) (K : AV → Prop) : Prop :=
  match P.underlying t, x, ix with
  | some (.slice e), .slice a len _, .int _ i => match szOf P e with
    | some s => ∃ b o, imp φ (a = some (b, o) ∧ 0 ≤ i ∧ i < len) ∧ K (.ptr (some (b, o + i.toNat * s)))
    | none => False
  | some (.array len e), .ptr (some (b, o)), .int _ i => match szOf P e with
    | some s => imp φ (0 ≤ i ∧ i < len) ∧ K (.ptr (some (b, o + i.toNat * s)))
    | none => False
  | _, _, _ => False

def indexK (φ : Option Bool) (ty t : TypeId) (x ix : AV) (K : AV → Prop) : Prop :=
  match P.underlying t, x, ix with
  | some .string, .str s, .int _ i => imp φ (0 ≤ i ∧ i < s.length) ∧ K (.int .u8 ((s[i.toNat]?).getD 0).toNat)
  | _, x, ix => exV P ty fun v => imp φ (X.idx t x ix = some v) ∧ K v

def minK (K : AV → Prop) : AV → List AV → Prop
  | .int k x, [] => K (.int k x)
  | .int k x, .int _ y :: l => minK K (.int k (if y < x then y else x)) l
  | _, _ => False
def maxK (K : AV → Prop) : AV → List AV → Prop
  | .int k x, [] => K (.int k x)
  | .int k x, .int _ y :: l => maxK K (.int k (if y > x then y else x)) l
  | _, _ => False

def evsK (e : Operand → Option AV) : List Operand → (List AV → Prop) → Prop
  | [], k => k []
  | x :: l, k => vK (e x) fun v => evsK e l fun vs => k (v :: vs)

def builtinK (φ : Option Bool) (H : AH) (b : Builtin) (ts : List TypeId) (xs : List AV) (K : AV → AH → Prop) : Prop :=
  match b, ts, xs with
  | .len, t :: _, x :: _ => lenK P t x fun v => K v H
  | .cap, t :: _, x :: _ => exS1 (.int .i64) fun v => imp φ (X.caps t x H = some v) ∧ K v H
  | .min, _, x :: l => minK (fun v => K v H) x l
  | .max, _, x :: l => maxK (fun v => K v H) x l
  | .append, t :: u :: _, x :: y :: _ => match φ with
    | none => ∃ a l c H', X.app t u x y H = some (.slice a l c, H') ∧ K (.slice a l c) H'
    | some _ => False
  | .copy, t :: _, x :: y :: _ => match φ with
    | none => ∃ n H', X.cpy t x y H = some (.int .i64 n, H') ∧ K (.int .i64 n) H'
    | some _ => False
  | .unsafeSliceData, _, [.slice a _ c] => ∃ q, imp φ (c ≠ 0 ∧ a = some q) ∧ K (.ptr (some q)) H
  | .unsafeString, t :: _, [p, n] => match φ with
    | none => ∃ s H', X.ustr t p n H = some (.str s, H') ∧ K (.str s) H'
    | some _ => False
  | _, _, _ => False

/-- What an operation asks that calls nothing. φ: the condition under which it is done at all. -/
def opK (φ : Option Bool) (e : Operand → Option AV) (H : AH) (op : Op) (ty : TypeId) (K : AV → AH → Prop) : Prop :=
  match op with
  | .move x => vK (e x) fun v => K v H
  | .assign x => vK (e x) fun v => K v H
  | .pick c a b => vK (e c) fun c' => match c' with
    | .bool u => cond u (vK (e a) fun v => K v H) (vK (e b) fun v => K v H)
    | _ => False
  | .alloc t => match φ, zeroOf P t with
    | none, some z => bif z.cells.all AV.one then K (.ptr (some (X.n H, 0))) (X.al H (.cells z.cells t { whole := true })) else False
    | _, _ => False
  | .box t x => match φ with
    | none => vK (e x) fun v => v.cells.all AV.one = true ∧ K (.ptr (some (X.n H, 0))) (X.al H (.cells v.cells t { whole := true }))
    | some _ => False
  | .build t ps => match evpE e ps.toList with
    | some l => vK (buildV P t l) fun v => K v H
    | none => False
  | .buildSlice t n ps => match φ, evpE e ps.toList, P.underlying t with
    | none, some l, some (.slice el) => match szOf P el, zeroOf P el with
      | some s, some z =>
        match fillV (fun i => some (i * s, s)) (repCells z.cells n) l with
        | some cs => (n * s ≤ 2 ^ 24 ∧ z.cells.length = s ∧ 0 < s ∧ z.cells.all AV.one = true ∧ l.all (fun p => p.2.cells.all AV.one) = true) ∧ K (.slice (some (X.n H, 0)) n n) (X.al H (.cells cs el { whole := true }))
        | none => False
      | _, _ => False
    | _, _, _ => False
  | .load t a => vK (e a) fun a => loadK X P φ H t a fun v => K v H
  | .store t a v => match φ with
    | none => vK (e a) fun a => vK (e v) fun v => match a, szOf P t with
      | .ptr (some (b, o)), some s => v.cells.length = s ∧ ∃ H', X.wr H b o v.cells = some H' ∧ K .undef H'
      | _, _ => False
    | some _ => False
  | .nilCheck x => vK (e x) fun v => match v with
    | .ptr (some _) => K v H
    | .func (.func _) _ _ => K v H
    | .yld _ => K v H
    | _ => False
  | .binOp op t x y _ => vK (e x) fun a => vK (e y) fun b => binK X P φ op t x y a b fun v => K v H
  | .unOp op _ x => vK (e x) fun a => unK X op a fun v => K v H
  | .convert s d x => vK (e x) fun a => convK X P φ H s d a K
  | .makeInterface t x => vK (e x) fun a => match P.underlying t with
    | some (.interface _) => False
    | some _ => K (.iface t a) H
    | none => False
  | .makeFunc f xs ys => evsK e xs.toList fun a => evsK e ys.toList fun b => K (.func f a b) H
  | .makeSlice t l c => match φ with
    | none => vK (e l) fun l => vK (e c) fun c => match l, c with
      | .int .i64 l, .int .i64 c => ∃ a n m H', X.mks t l c H = some (.slice a n m, H') ∧ K (.slice a n m) H'
      | _, _ => False
    | some _ => False
  | .slice t x lo hi mx => vK (e x) fun a => match evoE e lo, evoE e hi, evoE e mx with
    | some lo, some hi, some mx => sliceK X P φ H t a lo hi mx fun v => K v H
    | _, _, _ => False
  | .fieldAddr t x f => vK (e x) fun a => vK (fieldAddrV P t a f) fun v => K v H
  | .field t x f => vK (e x) fun a => vK (fieldV P t a f) fun v => K v H
  | .indexAddr t x i => vK (e x) fun a => vK (e i) fun i => indexAddrK P φ t a i fun v => K v H
  | .index t x i => vK (e x) fun a => vK (e i) fun i => indexK X P φ ty t a i fun v => K v H
  | .range t x => match φ with
    | none => vK (e x) fun a => match P.underlying t, a with
      | some .string, .str s => K (.ptr (some (X.n H, 0))) (X.al H (.iter s 0))
      | _, _ => False
    | some _ => False
  | .next x true => match φ with
    | none => vK (e x) fun a => match a with
      | .ptr (some (b, 0)) => ∃ s pos, X.get H b = some (.iter s pos) ∧
          (pos < s.length → K (.tuple [.bool true, .int .i64 pos, .int .i32 (decodeL s pos).1]) (X.set H b (.iter s (pos + (decodeL s pos).2)))) ∧
          (¬ pos < s.length → K (.tuple [.bool false]) H)
      | _ => False
    | some _ => False
  | .extract x i => vK (e x) fun a => match a with
    | .tuple vs => vK vs[i]? fun v => K v H
    | _ => False
  | .call ⟨.builtin b, args, ts⟩ => evsK e args.toList fun l => builtinK X P φ H b ts.toList l K
  | _ => False
end

theorem evsK_iff {e : Operand → Option AV} : ∀ {l : List Operand} {k : List AV → Prop}, evsK e l k → ∃ vs, evsE e l = some vs ∧ k vs
  | [], _, h => ⟨_, rfl, h⟩
  | x :: l, k, h => by
    obtain ⟨v, hv, h⟩ := vK_iff h
    obtain ⟨vs, hvs, h⟩ := evsK_iff h
    exact ⟨v :: vs, by simp [evsE, hv, hvs], h⟩

end Go.Am

/- The abstract machine's own run: a program that reckons what a statement, a call leaves. -/
import Derived.Test.YtlkdhhkncoekgaaDoorAmM
namespace Go.Am
open Go.RowKit

/-! ### Equality of values, as far as it is wanted -/
mutual
def beqV : AV → AV → Bool
  | .bool a, .bool b => a == b
  | .int k n, .int l m => decide (k = l) && decide (n = m)
  | .str s, .str t => decide (s = t)
  | .ptr a, .ptr b => decide (a = b)
  | .slice a l c, .slice b m d => decide (a = b) && decide (l = m) && decide (c = d)
  | .nilFunc, .nilFunc => true
  | .nilIface, .nilIface => true
  | .agg a, .agg b => beqVs a b
  | .tuple a, .tuple b => beqVs a b
  | _, _ => false
def beqVs : List AV → List AV → Bool
  | [], [] => true
  | a :: x, b :: y => beqV a b && beqVs x y
  | _, _ => false
end

mutual
theorem beqV_eq : ∀ {a b : AV}, beqV a b = true → a = b
  | .bool a, b, h => by cases b <;> simp_all [beqV]
  | .int k n, b, h => by cases b <;> simp_all [beqV]
  | .str s, b, h => by cases b <;> simp_all [beqV]
  | .ptr a, b, h => by cases b <;> simp_all [beqV]
  | .slice a l c, b, h => by cases b <;> simp_all [beqV]
  | .nilFunc, b, h => by cases b <;> simp_all [beqV]
  | .nilIface, b, h => by cases b <;> simp_all [beqV]
  | .yld _, b, h => by simp [beqV] at h
  | .func _ _ _, b, h => by simp [beqV] at h
  | .iface _ _, b, h => by simp [beqV] at h
  | .any, b, h => by simp [beqV] at h
  | .agg a, b, h => by
    cases b <;> simp only [beqV, Bool.false_eq_true] at h
    rw [beqVs_eq h]
  | .tuple a, b, h => by
    cases b <;> simp only [beqV, Bool.false_eq_true] at h
    rw [beqVs_eq h]
theorem beqVs_eq : ∀ {a b : List AV}, beqVs a b = true → a = b
  | [], [], _ => rfl
  | [], _ :: _, h => by simp [beqVs] at h
  | _ :: _, [], h => by simp [beqVs] at h
  | a :: x, b :: y, h => by
    simp only [beqVs, Bool.and_eq_true] at h
    rw [beqV_eq h.1, beqVs_eq h.2]
end

/-! ### The order of a region -/

/-- Operations that leave the heap (a conversion: where it makes a number). -/
def quietOp : Op → Bool
  | .load .. | .slice .. | .convert .. => true
  | .call ⟨.builtin b, _, _⟩ => match b with | .len | .cap | .min | .max => true | _ => false
  | o => freeOp o

def intB : AV → Bool
  | .int _ _ => true
  | _ => false
def convOk (op : Op) (v : AV) : Bool :=
  match op with
  | .convert .. => intB v
  | _ => true

theorem convV_quiet {P : Program} {H H' : AH} {s d : TypeId} {x v : AV} (h : convV P H s d x = some (v, H')) (hi : intB v = true) : H' = H := by
  unfold convV at h
  split at h
  · cases h; rfl
  · cases h; rfl
  · cases h; rfl
  · split at h
    · split at h
      · cases h; cases hi
      · cases h
    · cases h
  · split at h
    · split at h
      · cases h; rfl
      · cases h
    · cases h
  · split at h
    · split at h
      · cases h; rfl
      · cases h
    · cases h
  · split at h
    · cases h; rfl
    · cases h
  · split at h
    · obtain ⟨z, hz, h⟩ := Option.bind_eq_some_iff.1 h
      obtain ⟨y, hy, h⟩ := Option.map_eq_some_iff.1 h
      cases h; rfl
    · cases h
  · split at h
    · split at h
      · cases h; cases hi
      · cases h
    · cases h
  · cases h

theorem quietOp_spec {P : Program} {o : Oper} {T : List AV} {H H' : AH} {v : AV} (hf : quietOp o.op = true) (h : opV P T H o = some (v, H')) (hi : convOk o.op v = true) : H' = H := by
  obtain ⟨dst, op, ty, pos, after, guard⟩ := o
  have key : ∀ {x : Option AV}, x.map (·, H) = some (v, H') → H' = H := fun h => by
    obtain ⟨z, hz, h⟩ := Option.map_eq_some_iff.1 h
    exact (congrArg Prod.snd h).symm
  cases op <;> simp only [quietOp, freeOp, Bool.false_eq_true] at hf <;> simp only [opV] at h
  case move => exact key h
  case assign => exact key h
  case pick =>
    obtain ⟨z, hz, h⟩ := Option.bind_eq_some_iff.1 h
    split at h
    · exact key h
    · exact key h
    · cases h
  case build => obtain ⟨z, hz, h⟩ := Option.bind_eq_some_iff.1 h; exact key h
  case load => obtain ⟨z, hz, h⟩ := Option.bind_eq_some_iff.1 h; exact key h
  case nilCheck =>
    obtain ⟨z, hz, h⟩ := Option.bind_eq_some_iff.1 h
    split at h
    all_goals first | (simp only [Option.some.injEq, Prod.mk.injEq] at h; exact h.2.symm) | cases h
  case binOp => obtain ⟨z, hz, h⟩ := Option.bind_eq_some_iff.1 h; obtain ⟨z', hz', h⟩ := Option.bind_eq_some_iff.1 h; exact key h
  case convert => obtain ⟨z, hz, h⟩ := Option.bind_eq_some_iff.1 h; exact convV_quiet h hi
  case unOp => obtain ⟨z, hz, h⟩ := Option.bind_eq_some_iff.1 h; exact key h
  case makeInterface =>
    obtain ⟨z, hz, h⟩ := Option.bind_eq_some_iff.1 h
    split at h
    · cases h
    · simp only [Option.some.injEq, Prod.mk.injEq] at h; exact h.2.symm
    · cases h
  case makeFunc =>
    obtain ⟨z, hz, h⟩ := Option.bind_eq_some_iff.1 h; obtain ⟨z', hz', h⟩ := Option.bind_eq_some_iff.1 h
    simp only [Option.some.injEq, Prod.mk.injEq] at h; exact h.2.symm
  case slice =>
    obtain ⟨z, hz, h⟩ := Option.bind_eq_some_iff.1 h; obtain ⟨z', hz', h⟩ := Option.bind_eq_some_iff.1 h
    obtain ⟨z2, hz2, h⟩ := Option.bind_eq_some_iff.1 h; obtain ⟨z3, hz3, h⟩ := Option.bind_eq_some_iff.1 h; exact key h
  case fieldAddr => obtain ⟨z, hz, h⟩ := Option.bind_eq_some_iff.1 h; exact key h
  case field => obtain ⟨z, hz, h⟩ := Option.bind_eq_some_iff.1 h; exact key h
  case indexAddr => obtain ⟨z, hz, h⟩ := Option.bind_eq_some_iff.1 h; obtain ⟨z', hz', h⟩ := Option.bind_eq_some_iff.1 h; exact key h
  case index => obtain ⟨z, hz, h⟩ := Option.bind_eq_some_iff.1 h; obtain ⟨z', hz', h⟩ := Option.bind_eq_some_iff.1 h; exact key h
  case typeAssert => obtain ⟨z, hz, h⟩ := Option.bind_eq_some_iff.1 h; exact key h
  case extract =>
    obtain ⟨z, hz, h⟩ := Option.bind_eq_some_iff.1 h
    split at h
    · exact key h
    · cases h
  case call c =>
    obtain ⟨callee, args, ts⟩ := c
    cases callee with
    | value f => simp at hf
    | invoke x m => simp at hf
    | builtin b =>
      simp only at h
      obtain ⟨l, hl, h⟩ := Option.bind_eq_some_iff.1 h
      cases b <;> simp only [Bool.false_eq_true] at hf <;> unfold builtinV at h <;> split at h <;> first | contradiction | (exact key h) | (cases h)


/-- Reads first, what acts when nothing else is left. -/
def calmOp (c : Bool) : Op → Bool
  | .convert .. => c
  | o => quietOp o

def pickOne (c : Bool) (ops : Array Oper) (ready : List Nat) : Option (Nat × Nat) :=
  match ready.find? fun i => match ops[i]? with | some o => calmOp c o.op | none => false with
  | some i => some (i, match ops[i]? with | some o => if freeOp o.op then 0 else 1 | none => 2)
  | none => match ready with
    | i :: _ => some (i, 2)
    | [] => none

def orderOf (c : Bool) (ops : Array Oper) : Nat → Array Bool → List (Nat × Nat)
  | 0, _ => []
  | n + 1, listed =>
    match pickOne c ops (Region.ready .any ops listed) with
    | some (i, k) => (i, k) :: orderOf c ops n (listed.setIfInBounds i true)
    | none => []

/-- What stands before what, reckoned along the order. -/
def ancFill (ops : Array Oper) : List (Nat × Nat) → List Nat → List Nat
  | [], A => A
  | (i, _) :: σ, A =>
    match ops[i]? with
    | some o => ancFill ops σ (A.set i (o.after.toList.foldl (fun m e => if Region.binds .any e then m ||| ((1 <<< e.on) ||| (A[e.on]?.getD 0)) else m) 0))
    | none => ancFill ops σ A

/-- The order of a region and its table; none: it won't do. -/
def drawAs (c : Bool) (ops : Array Oper) : Option (List (Nat × Nat) × List Nat) :=
  let σ := orderOf c ops ops.size (Array.replicate ops.size false)
  let A := ancFill ops σ (List.replicate ops.size 0)
  if drawOk .any ops σ (Array.replicate ops.size false) && ancB .any ops A && decide (σ.length = ops.size) && σ.all (fun p => p.2 == 2 || match ops[p.1]? with | some o => quietOp o.op | none => false) then some (σ, A) else none

def drawOf (ops : Array Oper) : Option (List (Nat × Nat) × List Nat) :=
  match drawAs false ops with
  | some x => some x
  | none => drawAs true ops

theorem drawOf_as {ops : Array Oper} {x : List (Nat × Nat) × List Nat} (h : drawOf ops = some x) : ∃ c, drawAs c ops = some x := by
  unfold drawOf at h
  split at h
  · rename_i y hy; cases h; exact ⟨_, hy⟩
  · exact ⟨_, h⟩

/-! ### The run -/
section run
variable (P : Program)

/-- The model's own functions: what they answer. -/
abbrev Ext := FuncId → List AV → AH → Option (AV × AH)

def goB (g : FuncId) : Bool :=
  match P.funcs[g]? with
  | some fn => fn.body.isSome && !(fn.name == "runtime.NumGoroutine")
  | none => false

abbrev Rec := Option Nat → Code → St → Option (AEx × St)

def callX (X : Ext) (rec : Rec) (f : FuncId) (args : List AV) (H : AH) : Option (AV × AH) :=
  match P.funcs[f]? with
  | some fn =>
    match fn.body with
    | some c =>
      if goB P f then
        match rec none c ⟨args ++ List.replicate (fn.ntmps - args.length) .undef, [], H⟩ with
        | some (.normal, s) | some (.ret, s) => (takeMarks s.M s.H).bind fun H' => (resVs P s.T H' fn.results.toList).map fun vs => (oneOf vs, H')
        | _ => none
      else none
    | none => X f args H
  | none => none

def endRoundX (b : Nat) : AEx → St → Option (AV × AH) := fun e s =>
  match s.H.get b with
  | some (.loop _ _ T' ps as bd d) =>
    match e with
    | .normal => some (.bool true, s.H.set b (.loop .ready none T' ps as bd d))
    | .ret => some (.bool false, s.H.set b (.loop .done (some .ret) T' ps as bd d))
    | .exit id => some (.bool false, s.H.set b (.loop .done (some (.exit id)) T' ps as bd d))
    | .goto l => some (.bool false, s.H.set b (.loop .done (some (.goto l)) T' ps as bd d))
  | _ => none

def yieldX (rec : Rec) (b : Nat) (vs : List AV) (H : AH) : Option (AV × AH) :=
  match H.get b with
  | some (.loop _ _ T' ps as bd _) =>
    if vs.length = ps.size then
      match rec (some b) as ⟨setPs ps.toList vs T', [], H⟩ with
      | some (.normal, s) =>
        match s.H.get b with
        | some (.loop .ready pe T₁ ps₁ as₁ bd₁ d₁) => (rec (some b) bd ⟨s.T, s.M, s.H.set b (.loop .busy pe T₁ ps₁ as₁ bd₁ d₁)⟩).bind fun (e, s) => endRoundX b e s
        | _ => none
      | _ => none
    else none
  | _ => none

def opX (X : Ext) (rec : Rec) (o : Oper) (T : List AV) (H : AH) : Option (AV × AH) :=
  match o.op with
  | .call ⟨.value f, xs, _⟩ => (ev P T f).bind fun fv => (evs P T xs.toList).bind fun vs =>
    match fv with
    | .func (.func g) x y => callX P X rec g (x ++ vs ++ y) H
    | .yld b => yieldX rec b vs H
    | _ => none
  | _ => opV P T H o

def opsX (X : Ext) (rec : Rec) (ops : Array Oper) : List Oper → List AV → AH → Option (List AV × AH)
  | [], T, H => some (T, H)
  | o :: l, T, H =>
    match wantedV ops T o with
    | some true => (opX P X rec o T H).bind fun (v, H') => opsX X rec ops l (putT T o.dst v) H'
    | some false => opsX X rec ops l (putT T o.dst .undef) H
    | none => none

def pendB (ops : Array Oper) (A : List Nat) (i : Nat) (H : AH) : Pend → Bool
  | [] => true
  | (j, o, T, v) :: pend => (ancOf A i j || match wantedV ops T o with
      | some true => (match opV P T H o with | some (u, _) => beqV u v && convOk o.op u | none => false)
      | some false => true
      | none => false) && pendB ops A i H pend

def drawX (X : Ext) (rec : Rec) (ops : Array Oper) (A : List Nat) : List (Nat × Nat) → Pend → List AV → AH → Option (List AV × AH)
  | [], _, T, H => some (T, H)
  | (i, k) :: σ, pend, T, H =>
    match ops[i]? with
    | none => none
    | some o =>
      match wantedV ops T o with
      | none => none
      | some false => drawX X rec ops A σ (if k = 2 ∨ k = 0 then pend else (i, o, T, .undef) :: pend) (putT T o.dst .undef) H
      | some true =>
        if k = 2 then (opX P X rec o T H).bind fun (v, H') => if pendB P ops A i H' pend then drawX X rec ops A σ pend (putT T o.dst v) H' else none
        else (opV P T H o).bind fun (v, _) => if convOk o.op v then drawX X rec ops A σ (if k = 0 then pend else (i, o, T, v) :: pend) (putT T o.dst v) H else none

def scopeX (rec : Rec) (r : Option Nat) (c : Code) : Nat → Code → St → Option (AEx × St)
  | 0, _, _ => none
  | m + 1, cur, s =>
    match rec r cur s with
    | some (.goto l, s') =>
      match findLabel c l with
      | some rest => scopeX rec r c m rest s'
      | none => some (.goto l, s')
    | x => x

def loopX (rec : Rec) (r : Option Nat) (c : Code) : Nat → St → Option (AEx × St)
  | 0, _ => none
  | m + 1, s =>
    match rec r c s with
    | some (.normal, s') => loopX rec r c m s'
    | x => x

def isBusy : LoopState → Bool
  | .busy => true
  | _ => false

def endRangeX (rec : Rec) (r : Option Nat) (l : Nat) (T : List AV) (M : List Nat) (H : AH) : Option (AEx × St) :=
  match H.get l with
  | some (.loop st pe _ _ _ _ _) =>
    if isBusy st then none
    else match pe with
      | none => some (.normal, ⟨T, M, H.set l .dead⟩)
      | some c => rec r c ⟨T, M, H.set l .dead⟩
  | _ => none

def rangeX (X : Ext) (rec : Rec) (r : Option Nat) (g : Operand) (ps : Array Tmp) (as bd : Code) (s : St) : Option (AEx × St) :=
  (ev P s.T g).bind fun gv =>
    match gv, r with
    | .func (.func gf) x y, none =>
      if goB P gf then (callX P X rec gf (x ++ [.yld (s.H.n + 1)] ++ y) ((s.H.alloc .deferred).alloc (.loop .ready none s.T ps as bd s.H.n))).bind fun (_, H) => endRangeX rec none (s.H.n + 1) s.T (s.H.n :: s.M) H else none
    | .func (.func gf) x y, some b₀ =>
      match s.H.get b₀ with
      | some (.loop _ _ _ _ _ _ d₀) =>
        if goB P gf then (callX P X rec gf (x ++ [.yld s.H.n] ++ y) (s.H.alloc (.loop .ready none s.T ps as bd d₀))).bind fun (_, H) => endRangeX rec (some b₀) s.H.n s.T s.M H else none
      | _ => none
    | _, _ => none

def inBlockX (id : Nat) : AEx → AEx
  | .exit i => if i = id then .normal else .exit i
  | e => e

/-- The run of a statement, with so much fuel. -/
def run (X : Ext) : Nat → Rec
  | 0 => fun _ _ _ => none
  | n + 1 => fun r c s =>
    match c with
    | .skip => some (.normal, s)
    | .label _ => some (.normal, s)
    | .exit id => some (.exit id, s)
    | .goto l => some (.goto l, s)
    | .ret => some (.ret, s)
    | .refuse _ => none
    | .seq a b =>
      match run X n r a s with
      | some (.normal, s') => run X n r b s'
      | x => x
    | .cond c x y =>
      match ev P s.T c with
      | some (.bool true) => run X n r x s
      | some (.bool false) => run X n r y s
      | _ => none
    | .block id c => (run X n r c s).map fun (e, s') => (inBlockX id e, s')
    | .loop c => loopX (run X n) r c n s
    | .scope c => scopeX (run X n) r c n c s
    | .region _ ops false => (opsX P X (run X n) ops ops.toList s.T s.H).map fun (T, H) => (.normal, ⟨T, s.M, H⟩)
    | .region _ ops true =>
      match drawOf ops with
      | some (σ, A) => (drawX P X (run X n) ops A σ [] s.T s.H).map fun (T, H) => (.normal, ⟨T, s.M, H⟩)
      | none => none
    | .rangeFunc g ps as bd => rangeX P X (run X n) r g ps as bd s

/-- The run of a call. -/
def runCall (X : Ext) (n : Nat) (f : FuncId) (args : List AV) (H : AH) : Option (AV × AH) := callX P X (run P X n) f args H
end run

end Go.Am

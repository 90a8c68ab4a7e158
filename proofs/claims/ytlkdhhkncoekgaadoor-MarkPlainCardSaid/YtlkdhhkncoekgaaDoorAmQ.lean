/- The abstract machine's run, made for the kernel: temporaries in a tree, small cases. -/
import Derived.Test.YtlkdhhkncoekgaaDoorAmP
namespace Go.Am
open Go.RowKit

/-- The temporaries: how many; a tree of them. -/
structure FT where
  n : Nat
  t : Tr AV

def FT.at (f : FT) (i : Nat) : AV := (f.t.get i).getD .undef
def FT.put (f : FT) (dst : Option Tmp) (v : AV) : FT :=
  match dst with
  | some d => bif Nat.blt d f.n then ⟨f.n, Tr.set (d + 1) f.t d v⟩ else f
  | none => f
def FT.look (f : FT) (i : Nat) : AV := bif Nat.blt i f.n then f.at i else .undef
def FT.toL (f : FT) : List AV := (List.range f.n).map f.at
def FT.fill (n : Nat) : Nat → List AV → Tr AV → FT
  | _, [], t => ⟨n, t⟩
  | i, v :: l, t => FT.fill n (i + 1) l (Tr.set (i + 1) t i v)
def FT.ofL (l : List AV) (n : Nat) : FT := FT.fill n 0 l .nil

@[simp] theorem FT.length (f : FT) : f.toL.length = f.n := by simp [FT.toL]

theorem FT.get_toL (f : FT) (i : Nat) : (f.toL[i]?).getD .undef = if i < f.n then f.at i else .undef := by
  unfold FT.toL
  by_cases h : i < f.n
  · simp [h]
  · simp [h]

theorem FT.look_eq (f : FT) (i : Nat) : f.look i = (f.toL[i]?).getD .undef := by
  rw [FT.get_toL]
  unfold FT.look
  by_cases h : i < f.n
  · have hb : Nat.blt i f.n = true := by simpa [Nat.blt_eq] using h
    rw [hb, if_pos h]; rfl
  · have hb : Nat.blt i f.n = false := by
      cases hb : Nat.blt i f.n with
      | false => rfl
      | true => exact absurd (by simpa [Nat.blt_eq] using hb) h
    rw [hb, if_neg h]; rfl

theorem FT.put_toL (f : FT) (dst : Option Tmp) (v : AV) : (f.put dst v).toL = putT f.toL dst v := by
  cases dst with
  | none => rfl
  | some d =>
    simp only [FT.put, putT]
    by_cases h : d < f.n
    · have hb : Nat.blt d f.n = true := by simpa [Nat.blt_eq] using h
      rw [hb]
      simp only [cond_true]
      apply List.ext_getElem?
      intro i
      simp only [FT.toL, List.getElem?_map, List.getElem?_set, List.length_map, List.length_range]
      by_cases hi : i < f.n
      · by_cases e : d = i
        · subst e; simp [hi, FT.at, Tr.get_set]
        · have e' : ¬ i = d := fun h => e h.symm
          simp [hi, e, e', FT.at, Tr.get_set]
      · by_cases e : d = i
        · subst e; exact absurd h hi
        · simp [hi, e]
    · have hb : Nat.blt d f.n = false := by
        cases hb : Nat.blt d f.n with
        | false => rfl
        | true => exact absurd (by simpa [Nat.blt_eq] using hb) h
      rw [hb]
      simp only [cond_false]
      rw [List.set_eq_of_length_le (by simpa using h)]

theorem FT.fill_n (n : Nat) : ∀ (l : List AV) (i : Nat) (t : Tr AV), (FT.fill n i l t).n = n
  | [], _, _ => rfl
  | _ :: l, _, _ => FT.fill_n n l _ _

theorem FT.fill_at (n : Nat) : ∀ (l : List AV) (i : Nat) (t : Tr AV) (j : Nat), (FT.fill n i l t).at j = if i ≤ j ∧ j < i + l.length then (l[j - i]?).getD .undef else (t.get j).getD .undef
  | [], i, t, j => by
    have : ¬ (i ≤ j ∧ j < i + 0) := by omega
    simp only [List.length_nil, this, if_false]; rfl
  | v :: l, i, t, j => by
    rw [FT.fill, FT.fill_at n l]
    by_cases e : j = i
    · subst e
      have h1 : ¬ (j + 1 ≤ j ∧ j < j + 1 + l.length) := by omega
      simp [h1, Tr.get_set]
    · by_cases h : i ≤ j ∧ j < i + (v :: l).length
      · have h1 : i + 1 ≤ j ∧ j < i + 1 + l.length := by simp at h; omega
        rw [if_pos h, if_pos h1]
        have : j - i = (j - (i + 1)) + 1 := by omega
        rw [this]; rfl
      · have h1 : ¬ (i + 1 ≤ j ∧ j < i + 1 + l.length) := by simp at h; omega
        rw [if_neg h, if_neg h1]
        simp [Tr.get_set, e]

theorem FT.ofL_toL (l : List AV) (n : Nat) : (FT.ofL l (l.length + n)).toL = l ++ List.replicate n .undef := by
  apply List.ext_getElem?
  intro i
  unfold FT.ofL FT.toL
  rw [FT.fill_n]
  simp only [List.getElem?_map]
  by_cases h : i < l.length + n
  · simp only [h, List.getElem?_range, Option.map_some, FT.fill_at]
    by_cases h1 : i < l.length
    · rw [List.getElem?_append_left h1]; simp [h1]
    · rw [if_neg (by omega)]
      rw [List.getElem?_append_right (by omega), List.getElem?_replicate, if_pos (by omega)]
      rfl
  · rw [List.getElem?_eq_none (l := List.range _) (by simp; omega), List.getElem?_eq_none (l := l ++ _) (by simp; omega)]
    rfl

/-! ### One operation -/
section
variable (P : Program)

def evF (f : FT) : Operand → Option AV
  | .tmp t => some (f.look t)
  | .const v => ofV v
  | .global g => if g < P.globals.size then some (.ptr (some (g, 0))) else none
  | .func f => some (.func (.func f) [] [])

theorem evF_eq (f : FT) : evF P f = ev P f.toL := by
  funext x
  cases x with
  | tmp t =>
    simp only [evF, ev, FT.look_eq]
  | const v => rfl
  | global g => rfl
  | func g => rfl

variable (e : Operand → Option AV) (H : AH)

def evsE : List Operand → Option (List AV)
  | [] => some []
  | x :: l => (e x).bind fun v => (evsE l).map (v :: ·)
def evoE : Option Operand → Option (Option AV)
  | none => some none
  | some x => (e x).map some
def evpE : List (Nat × Operand) → Option (List (Nat × AV))
  | [] => some []
  | (i, x) :: l => (e x).bind fun v => (evpE l).map ((i, v) :: ·)

theorem evsE_eq {T : List AV} : ∀ xs, evsE (ev P T) xs = evs P T xs
  | [] => rfl
  | x :: l => by simp only [evsE, evs, evsE_eq l]
theorem evoE_eq {T : List AV} : ∀ x, evoE (ev P T) x = evo P T x
  | none => rfl
  | some _ => rfl
theorem evpE_eq {T : List AV} : ∀ xs, evpE (ev P T) xs = evp P T xs
  | [] => rfl
  | (i, x) :: l => by simp only [evpE, evp, evpE_eq l]

def oMove (x : Operand) : Option (AV × AH) := (e x).map (·, H)
def oPick (c a b : Operand) : Option (AV × AH) := (e c).bind fun c => match c with
    | .bool true => (e a).map (·, H)
    | .bool false => (e b).map (·, H)
    | _ => none
def oAlloc (t : TypeId) : Option (AV × AH) := (zeroOf P t).bind fun z => if z.cells.all AV.one then some (.ptr (some (H.n, 0)), H.alloc (.cells z.cells t { whole := true })) else none
def oBox (t : TypeId) (x : Operand) : Option (AV × AH) := (e x).bind fun v => if v.cells.all AV.one then some (.ptr (some (H.n, 0)), H.alloc (.cells v.cells t { whole := true })) else none
def oBuild (t : TypeId) (ps : Array (Nat × Operand)) : Option (AV × AH) := (evpE e ps.toList).bind fun l => (buildV P t l).map (·, H)
def oBuildSlice (t : TypeId) (n : Nat) (ps : Array (Nat × Operand)) : Option (AV × AH) := (evpE e ps.toList).bind fun l => buildSliceV P H t n l
def oLoad (t : TypeId) (a : Operand) : Option (AV × AH) := (e a).bind fun a => (loadV P H t a).map (·, H)
def oStore (t : TypeId) (a v : Operand) : Option (AV × AH) := (e a).bind fun a => (e v).bind fun v => (storeV P H t a v).map (AV.undef, ·)
def oNil (x : Operand) : Option (AV × AH) := (e x).bind fun v => match v with
    | .ptr (some _) => some (v, H)
    | .func (.func _) _ _ => some (v, H)
    | .yld _ => some (v, H)
    | _ => none
def oBin (op : BinOp) (t : TypeId) (x y : Operand) : Option (AV × AH) := (e x).bind fun a => (e y).bind fun b => (binV P op t x y a b).map (·, H)
def oUn (op : UnOp) (x : Operand) : Option (AV × AH) := (e x).bind fun a => (unV op a).map (·, H)
def oConv (s d : TypeId) (x : Operand) : Option (AV × AH) := (e x).bind fun a => convV P H s d a
def oIface (t : TypeId) (x : Operand) : Option (AV × AH) := (e x).bind fun a => match P.underlying t with
    | some (.interface _) => none
    | some _ => some (.iface t a, H)
    | none => none
def oFunc (f : Fn) (xs ys : Array Operand) : Option (AV × AH) := (evsE e xs.toList).bind fun a => (evsE e ys.toList).bind fun b => some (.func f a b, H)
def oMkSlice (t : TypeId) (l c : Operand) : Option (AV × AH) := (e l).bind fun l => (e c).bind fun c => makeSliceV P H t l c
def oSlice (t : TypeId) (x : Operand) (lo hi mx : Option Operand) : Option (AV × AH) := (e x).bind fun a => (evoE e lo).bind fun lo => (evoE e hi).bind fun hi => (evoE e mx).bind fun mx => (sliceV P H t a lo hi mx).map (·, H)
def oFieldAddr (t : TypeId) (x : Operand) (f : Nat) : Option (AV × AH) := (e x).bind fun a => (fieldAddrV P t a f).map (·, H)
def oField (t : TypeId) (x : Operand) (f : Nat) : Option (AV × AH) := (e x).bind fun a => (fieldV P t a f).map (·, H)
def oIndexAddr (t : TypeId) (x i : Operand) : Option (AV × AH) := (e x).bind fun a => (e i).bind fun i => (indexAddrV P t a i).map (·, H)
def oIndex (t : TypeId) (x i : Operand) : Option (AV × AH) := (e x).bind fun a => (e i).bind fun i => (indexV P t a i).map (·, H)
def oRange (t : TypeId) (x : Operand) : Option (AV × AH) := (e x).bind fun a => match P.underlying t, a with
    | some .string, .str s => some (.ptr (some (H.n, 0)), H.alloc (.iter s 0))
    | _, _ => none
def oNext (x : Operand) : Option (AV × AH) := (e x).bind fun a => match a with
    | .ptr (some (b, 0)) => match H.get b with
      | some (.iter s pos) =>
        if pos < s.length then some (.tuple [.bool true, .int .i64 pos, .int .i32 (decodeL s pos).1], H.set b (.iter s (pos + (decodeL s pos).2)))
        else some (.tuple [.bool false], H)
      | _ => none
    | _ => none
def oAssert (x : Operand) (t : TypeId) (ok : Bool) : Option (AV × AH) := (e x).bind fun a => (typeAssertV P t ok a).map (·, H)
def oExtract (x : Operand) (i : Nat) : Option (AV × AH) := (e x).bind fun a => match a with
    | .tuple vs => (vs[i]?).map (·, H)
    | _ => none
def oBuiltin (b : Builtin) (args : Array Operand) (ts : Array TypeId) : Option (AV × AH) := (evsE e args.toList).bind fun l => builtinV P H b ts.toList l

def opE (op : Op) : Option (AV × AH) :=
  match op with
  | .move x => oMove e H x
  | .assign x => oMove e H x
  | .pick c a b => oPick e H c a b
  | .alloc t => oAlloc P H t
  | .box t x => oBox e H t x
  | .build t ps => oBuild P e H t ps
  | .buildSlice t n ps => oBuildSlice P e H t n ps
  | .load t a => oLoad P e H t a
  | .store t a v => oStore P e H t a v
  | .nilCheck x => oNil e H x
  | .binOp op t x y _ => oBin P e H op t x y
  | .unOp op _ x => oUn e H op x
  | .convert s d x => oConv P e H s d x
  | .makeInterface t x => oIface P e H t x
  | .makeFunc f xs ys => oFunc e H f xs ys
  | .makeSlice t l c => oMkSlice P e H t l c
  | .slice t x lo hi mx => oSlice P e H t x lo hi mx
  | .fieldAddr t x f => oFieldAddr P e H t x f
  | .field t x f => oField P e H t x f
  | .indexAddr t x i => oIndexAddr P e H t x i
  | .index t x i => oIndex P e H t x i
  | .range t x => oRange P e H t x
  | .next x true => oNext e H x
  | .typeAssert x _ t ok => oAssert P e H x t ok
  | .extract x i => oExtract e H x i
  | .call ⟨.builtin b, args, ts⟩ => oBuiltin P e H b args ts
  | _ => none

theorem opE_eq (T : List AV) (o : Oper) : opE P (ev P T) H o.op = opV P T H o := by
  obtain ⟨dst, op, ty, pos, after, guard⟩ := o
  cases op <;> simp only [opE, opV] <;> first
    | rfl
    | rfl
    | (simp only [oBuild, evpE_eq]; done)
    | (simp only [oBuildSlice, evpE_eq]; done)
    | (simp only [oFunc, evsE_eq]; done)
    | (simp only [oSlice, evoE_eq]; done)
    | skip
  case next x str => cases str <;> rfl
  case call c =>
    obtain ⟨callee, args, ts⟩ := c
    cases callee with
    | builtin b => simp only [oBuiltin, evsE_eq]
    | value f => rfl
    | invoke x m => rfl
end

end Go.Am

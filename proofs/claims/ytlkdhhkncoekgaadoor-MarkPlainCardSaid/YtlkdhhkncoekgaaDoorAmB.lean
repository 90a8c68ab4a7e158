/- The abstract machine's relation to the model's worlds. -/
import Derived.Test.YtlkdhhkncoekgaaDoorAmA
import Derived.Below
import Derived.Laws.Cells
import Derived.Laws.Entries
namespace Go.Am
open Go.RowKit

/-- Where a block lies: its block and cell, how many cells; the size of its elements, how many more there is room for. -/
structure Loc where
  blk : Nat
  off : Nat
  size : Nat
  esz : Nat
  extra : Nat

abbrev Env := Nat → Option Loc
def Env.le (E E' : Env) : Prop := ∀ b L, E b = some L → E' b = some L
theorem Env.le.refl (E : Env) : E.le E := fun _ _ h => h
theorem Env.le.trans {E E' E'' : Env} (h : E.le E') (k : E'.le E'') : E.le E'' := fun b L x => k b L (h b L x)

mutual
def VR (E : Env) : AV → Value → Prop
  | .bool b, v => v = .bool b
  | .int k n, v => v = .int k n
  | .str s, v => v = .string ⟨s.toArray⟩
  | .ptr none, v => v = .pointer none
  | .ptr (some (b, o)), v => ∃ L, E b = some L ∧ v = .pointer (some ⟨L.blk, L.off + o, none⟩)
  | .slice none l c, v => v = .slice none l c ∧ l ≤ c
  | .slice (some (b, o)) l c, v => ∃ L a' c', E b = some L ∧ v = .slice (some a') l c' ∧ l ≤ c ∧ (c' = c ∨ (o + c * L.esz = L.size ∧ c' = c + L.extra)) ∧
      a'.spot = none ∧ (a' = ⟨L.blk, L.off + o, none⟩ ∨ c' = 0)
  | .func f x y, v => ∃ x' y', v = .func f x' y' ∧ VRs E x x'.toList ∧ VRs E y y'.toList
  | .nilFunc, v => v = .nilFunc
  | .yld b, v => ∃ L, E b = some L ∧ v = .func (.yield L.blk) #[] #[]
  | .iface t x, v => ∃ y, v = .iface t y ∧ VR E x y
  | .nilIface, v => v = .nilIface
  | .agg cs, v => ∃ cs', v = .agg cs' ∧ VRs E cs cs'.toList
  | .tuple cs, v => ∃ cs', v = .tuple cs' ∧ VRs E cs cs'.toList
  | .any, _ => True
def VRs (E : Env) : List AV → List Value → Prop
  | [], l => l = []
  | x :: xs, l => ∃ y ys, l = y :: ys ∧ VR E x y ∧ VRs E xs ys
end

mutual
theorem VR.mono {E E' : Env} (h : E.le E') : ∀ (a : AV) (v : Value), VR E a v → VR E' a v
  | .bool _, _, hv => hv
  | .int _ _, _, hv => hv
  | .str _, _, hv => hv
  | .ptr none, _, hv => hv
  | .ptr (some (b, o)), _, hv => by obtain ⟨L, h1, h2⟩ := hv; exact ⟨L, h _ _ h1, h2⟩
  | .slice none _ _, _, hv => hv
  | .slice (some (b, o)) l c, _, hv => by obtain ⟨L, a', c', h1, h2⟩ := hv; exact ⟨L, a', c', h _ _ h1, h2⟩
  | .func f x y, _, hv => by obtain ⟨x', y', h1, h2, h3⟩ := hv; exact ⟨x', y', h1, VRs.mono h _ _ h2, VRs.mono h _ _ h3⟩
  | .nilFunc, _, hv => hv
  | .yld _, _, hv => by obtain ⟨L, h1, h2⟩ := hv; exact ⟨L, h _ _ h1, h2⟩
  | .iface t x, _, hv => by obtain ⟨y, h1, h2⟩ := hv; exact ⟨y, h1, VR.mono h _ _ h2⟩
  | .nilIface, _, hv => hv
  | .agg cs, _, hv => by obtain ⟨y, h1, h2⟩ := hv; exact ⟨y, h1, VRs.mono h _ _ h2⟩
  | .tuple cs, _, hv => by obtain ⟨y, h1, h2⟩ := hv; exact ⟨y, h1, VRs.mono h _ _ h2⟩
  | .any, _, hv => hv
theorem VRs.mono {E E' : Env} (h : E.le E') : ∀ (a : List AV) (v : List Value), VRs E a v → VRs E' a v
  | [], _, hv => hv
  | x :: xs, _, hv => by obtain ⟨y, ys, h1, h2, h3⟩ := hv; exact ⟨y, ys, h1, VR.mono h _ _ h2, VRs.mono h _ _ h3⟩
end

mutual
theorem VR.of {E : Env} : ∀ (v : Value) (a : AV), ofV v = some a → VR E a v
  | .bool _, a, h => by simp only [ofV, Option.some.injEq] at h; subst h; rfl
  | .int _ _, a, h => by simp only [ofV, Option.some.injEq] at h; subst h; rfl
  | .string s, a, h => by simp only [ofV, Option.some.injEq] at h; subst h; show _ = _; rfl
  | .pointer none, a, h => by simp only [ofV, Option.some.injEq] at h; subst h; rfl
  | .pointer (some _), a, h => by simp [ofV] at h
  | .slice none l c, a, h => by
    simp only [ofV] at h
    split at h
    · rename_i hl; simp only [Option.some.injEq] at h; subst h; exact ⟨rfl, hl⟩
    · cases h
  | .slice (some _) _ _, a, h => by simp [ofV] at h
  | .func f x y, a, h => by
    simp only [ofV] at h
    obtain ⟨x', hx, h⟩ := Option.bind_eq_some_iff.1 h
    obtain ⟨y', hy, h⟩ := Option.map_eq_some_iff.1 h
    subst h
    exact ⟨x, y, rfl, VRs.ofA x _ hx, VRs.ofA y _ hy⟩
  | .nilFunc, a, h => by simp only [ofV, Option.some.injEq] at h; subst h; rfl
  | .iface t v, a, h => by
    simp only [ofV] at h
    obtain ⟨x, hx, h⟩ := Option.map_eq_some_iff.1 h
    subst h
    exact ⟨v, rfl, VR.of v x hx⟩
  | .nilIface, a, h => by simp only [ofV, Option.some.injEq] at h; subst h; rfl
  | .agg cs, a, h => by
    simp only [ofV] at h
    obtain ⟨x, hx, h⟩ := Option.map_eq_some_iff.1 h
    subst h
    exact ⟨cs, rfl, VRs.ofA cs x hx⟩
  | .tuple cs, a, h => by
    simp only [ofV] at h
    obtain ⟨x, hx, h⟩ := Option.map_eq_some_iff.1 h
    subst h
    exact ⟨cs, rfl, VRs.ofA cs x hx⟩
  | .float _ _, a, h => by simp [ofV] at h
  | .complex _ _ _, a, h => by simp [ofV] at h
  | .map _, a, h => by simp [ofV] at h
  | .chan _, a, h => by simp [ofV] at h
theorem VRs.ofA {E : Env} : ∀ (v : Array Value) (a : List AV), ofVA v = some a → VRs E a v.toList
  | ⟨l⟩, a, h => by simp only [ofVA] at h; exact VRs.of l a h
theorem VRs.of {E : Env} : ∀ (v : List Value) (a : List AV), ofVL v = some a → VRs E a v
  | [], a, h => by simp only [ofVL, Option.some.injEq] at h; subst h; rfl
  | v :: l, a, h => by
    simp only [ofVL] at h
    obtain ⟨x, hx, h⟩ := Option.bind_eq_some_iff.1 h
    obtain ⟨xs, hxs, h⟩ := Option.map_eq_some_iff.1 h
    subst h
    exact ⟨v, l, rfl, VR.of v x hx, VRs.of l xs hxs⟩
end

section lists
variable {E : Env}
theorem VRs.nil : VRs E [] [] := rfl
theorem VRs.cons {x : AV} {y : Value} {xs : List AV} {ys : List Value} (h : VR E x y) (k : VRs E xs ys) : VRs E (x :: xs) (y :: ys) := ⟨y, ys, rfl, h, k⟩
theorem VRs.length : ∀ {xs : List AV} {ys : List Value}, VRs E xs ys → xs.length = ys.length
  | [], _, h => by cases h; rfl
  | _ :: xs, _, h => by obtain ⟨y, ys, rfl, _, k⟩ := h; simp [VRs.length k]
theorem VRs.get : ∀ {xs : List AV} {ys : List Value} {i : Nat} {x : AV}, VRs E xs ys → xs[i]? = some x → ∃ y, ys[i]? = some y ∧ VR E x y
  | [], _, _, _, _, h => by simp at h
  | _ :: xs, _, i, x, h, hx => by
    obtain ⟨y, ys, rfl, h1, k⟩ := h
    cases i with
    | zero => simp at hx; subst hx; exact ⟨y, rfl, h1⟩
    | succ i => simp at hx; simpa using VRs.get k hx
theorem VRs.append : ∀ {xs : List AV} {ys : List Value} {us : List AV} {vs : List Value}, VRs E xs ys → VRs E us vs → VRs E (xs ++ us) (ys ++ vs)
  | [], _, _, _, h, k => by cases h; exact k
  | _ :: xs, _, _, _, h, k => by obtain ⟨y, ys, rfl, h1, h2⟩ := h; exact ⟨y, _, rfl, h1, VRs.append h2 k⟩
theorem VRs.take : ∀ {xs : List AV} {ys : List Value} (n : Nat), VRs E xs ys → VRs E (xs.take n) (ys.take n)
  | [], _, n, h => by cases h; simp; exact VRs.nil
  | _ :: xs, _, n, h => by
    obtain ⟨y, ys, rfl, h1, h2⟩ := h
    cases n with
    | zero => exact VRs.nil
    | succ n => exact ⟨y, _, rfl, h1, VRs.take n h2⟩
theorem VRs.drop : ∀ {xs : List AV} {ys : List Value} (n : Nat), VRs E xs ys → VRs E (xs.drop n) (ys.drop n)
  | [], _, n, h => by cases h; simp; exact VRs.nil
  | _ :: xs, _, n, h => by
    obtain ⟨y, ys, rfl, h1, h2⟩ := h
    cases n with
    | zero => exact ⟨y, ys, rfl, h1, h2⟩
    | succ n => exact VRs.drop n h2
theorem VRs.set : ∀ {xs : List AV} {ys : List Value} {x : AV} {y : Value} (n : Nat), VRs E xs ys → VR E x y → VRs E (xs.set n x) (ys.set n y)
  | [], _, _, _, n, h, _ => by cases h; exact VRs.nil
  | _ :: xs, _, _, _, n, h, k => by
    obtain ⟨y, ys, rfl, h1, h2⟩ := h
    cases n with
    | zero => exact ⟨_, ys, rfl, k, h2⟩
    | succ n => exact ⟨y, _, rfl, h1, VRs.set n h2 k⟩
theorem VRs.replicate {x : AV} {y : Value} (h : VR E x y) : ∀ n, VRs E (List.replicate n x) (List.replicate n y)
  | 0 => VRs.nil
  | n + 1 => ⟨y, _, rfl, h, VRs.replicate h n⟩
theorem VRs.of_get : ∀ {xs : List AV} {ys : List Value}, xs.length = ys.length → (∀ (i : Nat) (x : AV) (y : Value), xs[i]? = some x → ys[i]? = some y → VR E x y) → VRs E xs ys
  | [], ys, hl, _ => by cases ys <;> simp_all [VRs]
  | x :: xs, [], hl, _ => by simp at hl
  | x :: xs, y :: ys, hl, h => ⟨y, ys, rfl, h 0 x y rfl rfl, VRs.of_get (by simpa using hl) (fun i a b ha hb => h (i + 1) a b (by simpa using ha) (by simpa using hb))⟩
theorem VRs.bytes (s : List UInt8) : VRs E (byteCellsA s) (s.map fun b => .int .u8 b.toNat) := by
  induction s with
  | nil => rfl
  | cons b s ih => exact ⟨_, _, rfl, rfl, ih⟩
theorem VR.cells {v : AV} {x : Value} (h : VR E v x) (hn : v.isAny = false) : VRs E v.cells x.cells.toList := by
  match v, x, h with
  | .agg cs, _, h => obtain ⟨cs', rfl, h⟩ := h; exact h
  | .any, x, h => cases hn
  | .ptr none, _, h => obtain rfl := h; exact ⟨_, _, rfl, rfl, rfl⟩
  | .ptr (some (b, o)), _, h => obtain ⟨L, h1, rfl⟩ := h; exact ⟨_, _, rfl, ⟨L, h1, rfl⟩, rfl⟩
  | .slice none l c, _, h => obtain ⟨rfl, hl⟩ := h; exact ⟨_, _, rfl, ⟨rfl, hl⟩, rfl⟩
  | .slice (some (b, o)) l c, _, h => obtain ⟨L, a', c', h1, rfl, h2⟩ := h; exact ⟨_, _, rfl, ⟨L, a', c', h1, rfl, h2⟩, rfl⟩
  | .func f a b, _, h => obtain ⟨x', y', rfl, h⟩ := h; exact ⟨_, _, rfl, ⟨x', y', rfl, h⟩, rfl⟩
  | .iface t a, _, h => obtain ⟨y, rfl, h⟩ := h; exact ⟨_, _, rfl, ⟨y, rfl, h⟩, rfl⟩
  | .tuple cs, _, h => obtain ⟨y, rfl, h⟩ := h; exact ⟨_, _, rfl, ⟨y, rfl, h⟩, rfl⟩
  | .bool _, _, h => obtain rfl := h; exact ⟨_, _, rfl, rfl, rfl⟩
  | .int _ _, _, h => obtain rfl := h; exact ⟨_, _, rfl, rfl, rfl⟩
  | .str _, _, h => obtain rfl := h; exact ⟨_, _, rfl, rfl, rfl⟩
  | .nilFunc, _, h => obtain rfl := h; exact ⟨_, _, rfl, rfl, rfl⟩
  | .yld _, _, h => obtain ⟨L, h1, rfl⟩ := h; exact ⟨_, _, rfl, ⟨L, h1, rfl⟩, rfl⟩
  | .nilIface, _, h => obtain rfl := h; exact ⟨_, _, rfl, rfl, rfl⟩
theorem VR.one {v : AV} {x : Value} (h : VR E v x) (h1 : v.one = true) : x.oneCell' = true := by
  match v, x, h with
  | .agg cs, _, h => cases h1
  | .any, x, h => cases h1
  | .ptr none, _, h => obtain rfl := h; rfl
  | .ptr (some (b, o)), _, h => obtain ⟨L, h1, rfl⟩ := h; rfl
  | .slice none l c, _, h => obtain ⟨rfl, hl⟩ := h; rfl
  | .slice (some (b, o)) l c, _, h => obtain ⟨L, a', c', h1, rfl, h2⟩ := h; rfl
  | .func f a b, _, h => obtain ⟨x', y', rfl, h⟩ := h; rfl
  | .iface t a, _, h => obtain ⟨y, rfl, h⟩ := h; rfl
  | .tuple cs, _, h => cases h1
  | .bool _, _, h => obtain rfl := h; rfl
  | .int _ _, _, h => obtain rfl := h; rfl
  | .str _, _, h => obtain rfl := h; rfl
  | .nilFunc, _, h => obtain rfl := h; rfl
  | .yld _, _, h => obtain ⟨L, h1, rfl⟩ := h; rfl
  | .nilIface, _, h => obtain rfl := h; rfl
theorem AV.notAny_of_ones {v : AV} (h : v.cells.all AV.one = true) : v.isAny = false := by cases v <;> first | rfl | (simp [AV.cells, AV.one] at h)
theorem ofV_notAny {v : Value} {a : AV} (h : ofV v = some a) : a.isAny = false := by
  cases a with
  | any =>
    exfalso
    match v with
    | .bool _ | .int _ _ | .string _ | .pointer none | .nilFunc | .nilIface => simp [ofV] at h
    | .pointer (some _) | .slice (some _) _ _ | .float _ _ | .complex _ _ _ | .map _ | .chan _ => simp [ofV] at h
    | .slice none l c => simp only [ofV] at h; split at h <;> simp at h
    | .func f x y => simp only [ofV] at h; obtain ⟨_, _, h⟩ := Option.bind_eq_some_iff.1 h; obtain ⟨_, _, h⟩ := Option.map_eq_some_iff.1 h; cases h
    | .iface t v => simp only [ofV] at h; obtain ⟨_, _, h⟩ := Option.map_eq_some_iff.1 h; cases h
    | .agg cs => simp only [ofV] at h; obtain ⟨_, _, h⟩ := Option.map_eq_some_iff.1 h; cases h
    | .tuple cs => simp only [ofV] at h; obtain ⟨_, _, h⟩ := Option.map_eq_some_iff.1 h; cases h
  | _ => rfl
theorem zeroOf_notAny {P : Program} {e : TypeId} {z : AV} (h : zeroOf P e = some z) : z.isAny = false := by
  obtain ⟨i, _, h⟩ := Option.bind_eq_some_iff.1 h
  obtain ⟨x, _, h⟩ := Option.bind_eq_some_iff.1 h
  exact ofV_notAny h
theorem VRs.ones : ∀ {xs : List AV} {ys : List Value}, VRs E xs ys → xs.all AV.one = true → ∀ y ∈ ys, y.oneCell' = true
  | [], _, h, _, y, hy => by cases h; cases hy
  | x :: xs, _, h, ha, y, hy => by
    obtain ⟨z, zs, rfl, h1, h2⟩ := h
    simp only [List.all_cons, Bool.and_eq_true] at ha
    rcases List.mem_cons.1 hy with rfl | hy
    · exact h1.one ha.1
    · exact VRs.ones h2 ha.2 y hy
end lists

/-! ### Worlds -/

/-- Blocks that a call leaves as they lie. -/
abbrev Bnd := Nat → Prop

/-- Nothing but the heap, the draws and the marks has turned, and no block of B. -/
structure Below (B : Bnd) (w w' : World) : Prop where
  os : w'.os = w.os
  tape : w'.tape = w.tape
  output : w'.output = w.output
  size : w.heap.size ≤ w'.heap.size
  block : ∀ k, B k → w'.heap[k]? = w.heap[k]?

theorem Below.refl (B : Bnd) (w : World) : Below B w w := ⟨rfl, rfl, rfl, Nat.le_refl _, fun _ _ => rfl⟩
theorem Below.trans {B : Bnd} {a b c : World} (h : Below B a b) (k : Below B b c) : Below B a c :=
  ⟨k.os.trans h.os, k.tape.trans h.tape, k.output.trans h.output, Nat.le_trans h.size k.size, fun i hi => (k.block i hi).trans (h.block i hi)⟩
theorem Below.alloc {B : Bnd} {a w : World} (h : Below B a w) (hB : ∀ k, B k → k < w.heap.size) (o : Obj) : Below B a (w.alloc o) :=
  h.trans ⟨rfl, rfl, rfl, by simp, fun k hk => Go.RowKit.Below.heap_alloc _ _ _ (hB k hk)⟩
theorem Below.putObj {B : Bnd} {a w : World} (h : Below B a w) {r : Nat} (hr : ¬ B r) (o : Obj) : Below B a (w.putObj r o) :=
  h.trans ⟨rfl, rfl, rfl, by simp, fun k hk => World.putObj_heap_other (fun e => hr (e ▸ hk))⟩
theorem Below.heap_alloc (w : World) (o : Obj) (k : Nat) (h : k < w.heap.size) : (w.alloc o).heap[k]? = w.heap[k]? := Go.RowKit.Below.heap_alloc w o k h

/-- What a block's object says of the world. -/
def OR (P : Program) (E : Env) (B : Bnd) (w : World) (L : Loc) : AObj → Prop
  | .cells cs e fl => ∃ (X : Array Value) (lo hi : Nat), w.heap[L.blk]? = some (.cells X e (lo, hi)) ∧ L.size = cs.length ∧ P.cellsOf e = L.esz ∧
      L.off + (cs.length + L.extra * L.esz) ≤ X.size ∧ VRs E cs ((X.toList.drop L.off).take cs.length) ∧
      (fl.own = true → ¬ B L.blk ∧ (∀ k, L.off + fl.fz ≤ k → k < X.size → ¬ (lo ≤ k ∧ k < hi)) ∧ (fl.sish = false → lo = hi ∨ hi ≤ L.off + fl.fz)) ∧ (fl.opn = false → L.extra = 0) ∧
      (∀ v ∈ cs, v.one = true) ∧ (fl.whole = true → L.off = 0 ∧ X.size = cs.length ∧ (fl.fz = 0 → fl.sish = false → lo = hi))
  | .dead => True
  | .iter s pos => w.heap[L.blk]? = some (.stringIter ⟨s.toArray⟩ pos) ∧ ¬ B L.blk ∧ L.off = 0
  | .loop st pe T ps as bd d => ∃ (fn : FuncId) (tmps : Array Value) (Ld : Loc), w.heap[L.blk]? = some (.loop { state := st, pending := pe, fn, tmps, params := ps, assign := as, body := bd, defers := Ld.blk }) ∧
      VRs E T tmps.toList ∧ E d = some Ld ∧ ¬ B L.blk
  | .deferred => w.heap[L.blk]? = some (.deferred (some [])) ∧ ¬ B L.blk

structure HR (P : Program) (E : Env) (B : Bnd) (H : AH) (w : World) : Prop where
  dom : ∀ b L, E b = some L → b < H.n
  obj : ∀ b o, H.get b = some o → ∃ L, E b = some L ∧ OR P E B w L o
  base : ∀ k, B k → k < w.heap.size
  glob : ∀ g, g < P.globals.size → ∃ L, E g = some L ∧ L.blk = g ∧ L.off = 0
  sep : ∀ b b' o o' L L', b ≠ b' → H.get b = some o → H.get b' = some o' → o.owns = true → o'.live = true → E b = some L → E b' = some L' → L.blk ≠ L'.blk

/-- A block whose object lies as it lay says the same of another world. -/
theorem HR.fresh {P : Program} {E : Env} {B : Bnd} {H : AH} {w : World} (h : HR P E B H w) : ¬ B w.heap.size := fun hb => Nat.lt_irrefl _ (h.base _ hb)

theorem OR.same {P : Program} {E E' : Env} {B : Bnd} {w w' : World} {L : Loc} {o : AObj} (h : OR P E B w L o) (hE : E.le E') (hw : w'.heap[L.blk]? = w.heap[L.blk]?) : OR P E' B w' L o := by
  cases o with
  | cells cs e fl =>
    obtain ⟨X, lo, hi, h1, h2, h3, h4, h5, h6⟩ := h
    exact ⟨X, lo, hi, hw.trans h1, h2, h3, h4, VRs.mono hE _ _ h5, h6⟩
  | dead => trivial
  | iter s pos => exact ⟨hw.trans h.1, h.2⟩
  | loop st pe T ps as bd d =>
    obtain ⟨fn, tmps, Ld, h1, h2, h3, h4⟩ := h
    exact ⟨fn, tmps, Ld, hw.trans h1, VRs.mono hE _ _ h2, hE _ _ h3, h4⟩
  | deferred => exact ⟨hw.trans h.1, h.2⟩

end Go.Am

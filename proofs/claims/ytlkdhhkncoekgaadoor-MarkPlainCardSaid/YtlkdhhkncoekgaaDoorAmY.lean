/- Contracts: pure functions leave the heap as it lies; small laws. -/
import Derived.Test.YtlkdhhkncoekgaaDoorAmX
namespace Go.Am
open Go.RowKit

section
variable {P : Program} {r : Option Nat}
@[simp] theorem real_wrap : (real P r).wrap = IntKind.wrap := rfl
@[simp] theorem real_call : (real P r).call = ACallee P := rfl
@[simp] theorem real_yld : (real P r).yld = fun b => ACfn P r (.yld b) := rfl
@[simp] theorem real_n : (real P r).n = AH.n := rfl
@[simp] theorem real_get : (real P r).get = AH.get := rfl
@[simp] theorem real_set : (real P r).set = AH.set := rfl
@[simp] theorem real_al : (real P r).al = AH.alloc := rfl
@[simp] theorem real_rd1 : (real P r).rd1 = AH.read1 := rfl
@[simp] theorem real_rdn : (real P r).rdn = AH.read := rfl
@[simp] theorem real_wr : (real P r).wr = AH.write := rfl
@[simp] theorem real_app : (real P r).app = fun t u x y H => appendV P H t u x y := rfl
@[simp] theorem real_cpy : (real P r).cpy = fun t x y H => copyV P H t x y := rfl
@[simp] theorem real_mks : (real P r).mks = fun t l c H => makeSliceV P H t (.int .i64 l) (.int .i64 c) := rfl
@[simp] theorem real_slc : (real P r).slc = fun t x lo hi mx H => sliceV P H t x lo hi mx := rfl
@[simp] theorem real_str : (real P r).str = fun v H => bytesAt H v := rfl
@[simp] theorem real_bs : (real P r).bs = fun s d x H => convV P H s d (.str x) := rfl
@[simp] theorem real_idx : (real P r).idx = indexV P := rfl
@[simp] theorem real_caps : (real P r).caps = fun t x H => capV P H t x := rfl
@[simp] theorem real_ustr : (real P r).ustr = fun t p n H => unsafeStringV P H t p n := rfl
@[simp] theorem real_tm : (real P r).tm = takeMarks := rfl
@[simp] theorem real_cvs : (real P r).cvs = fun s d x H => convV P H s d x := rfl
end

theorem wrap_i64 {n : Int} (h : -9223372036854775808 ≤ n) (h' : n ≤ 9223372036854775807) : IntKind.i64.wrap n = n := by
  simp only [IntKind.wrap, IntKind.bits, IntKind.signed]
  by_cases h0 : 0 ≤ n
  · have : n % (2 : Int) ^ 64 = n := Int.emod_eq_of_lt h0 (by omega)
    simp only [this, Bool.true_and]
    rw [if_neg (by simp; omega)]
  · have : n % (2 : Int) ^ 64 = n + 18446744073709551616 := by
      rw [show (2 : Int) ^ 64 = 18446744073709551616 by decide]
      omega
    simp only [this, Bool.true_and]
    rw [if_pos (by simp; omega)]
    omega

theorem wrap_u64 {n : Int} (h : 0 ≤ n) (h' : n < 18446744073709551616) : IntKind.u64.wrap n = n := by
  have : n % 18446744073709551616 = n := Int.emod_eq_of_lt h (by omega)
  simp [IntKind.wrap, IntKind.bits, IntKind.signed, this]

/-! ### Values without places -/

mutual
def AV.scal : AV → Bool
  | .bool _ | .int _ _ | .str _ | .ptr none | .slice none _ _ | .nilFunc | .nilIface => true
  | .func _ x y => AV.scals x && AV.scals y
  | .agg cs => AV.scals cs
  | .tuple vs => AV.scals vs
  | .iface _ v => v.scal
  | _ => false
def AV.scals : List AV → Bool
  | [] => true
  | v :: l => v.scal && AV.scals l
end

mutual
theorem VR.scal {E E' : Env} : ∀ {v : AV} {x : Value}, v.scal = true → VR E v x → VR E' v x
  | .bool _, _, _, h => h
  | .int _ _, _, _, h => h
  | .str _, _, _, h => h
  | .ptr none, _, _, h => h
  | .ptr (some _), _, hs, _ => by simp [AV.scal] at hs
  | .slice none _ _, _, _, h => h
  | .slice (some _) _ _, _, hs, _ => by simp [AV.scal] at hs
  | .func f x y, _, hs, h => by
    simp only [AV.scal, Bool.and_eq_true] at hs
    obtain ⟨x', y', h1, h2, h3⟩ := h
    exact ⟨x', y', h1, VRs.scal hs.1 h2, VRs.scal hs.2 h3⟩
  | .nilFunc, _, _, h => h
  | .yld _, _, hs, _ => by simp [AV.scal] at hs
  | .iface t v, _, hs, h => by
    obtain ⟨y, h1, h2⟩ := h
    exact ⟨y, h1, VR.scal (by simpa [AV.scal] using hs) h2⟩
  | .nilIface, _, _, h => h
  | .agg cs, _, hs, h => by
    obtain ⟨y, h1, h2⟩ := h
    exact ⟨y, h1, VRs.scal (by simpa [AV.scal] using hs) h2⟩
  | .tuple cs, _, hs, h => by
    obtain ⟨y, h1, h2⟩ := h
    exact ⟨y, h1, VRs.scal (by simpa [AV.scal] using hs) h2⟩
  | .any, _, hs, _ => by simp [AV.scal] at hs
theorem VRs.scal {E E' : Env} : ∀ {vs : List AV} {xs : List Value}, AV.scals vs = true → VRs E vs xs → VRs E' vs xs
  | [], _, _, h => h
  | v :: vs, _, hs, h => by
    simp only [AV.scals, Bool.and_eq_true] at hs
    obtain ⟨y, ys, h1, h2, h3⟩ := h
    exact ⟨y, ys, h1, VR.scal hs.1 h2, VRs.scal hs.2 h3⟩
end

section
variable {P : Program}

def emptyH (P : Program) : AH := ⟨P.globals.size, .nil⟩

theorem HR.empty {E : Env} {B : Bnd} {H : AH} {w : World} (h : HR P E B H w) : HR P (fun b => if b < P.globals.size then E b else (Option.none : Option Loc)) (fun k => k < w.heap.size) (emptyH P) w := by
  refine ⟨fun b L hb => ?_, fun b o hb => (by cases hb), fun _ h => h, fun g hg => ?_, fun b b' o o' L L' _ hb => (by cases hb)⟩
  · by_cases hlt : b < P.globals.size
    · exact hlt
    · rw [if_neg hlt] at hb; cases hb
  · obtain ⟨L, h1, h2⟩ := h.glob g hg
    exact ⟨L, by rw [if_pos hg]; exact h1, h2⟩

/-- What lay stays, if nothing but new blocks came. -/
theorem HR.kept {E : Env} {B : Bnd} {H : AH} {w w' : World} (h : HR P E B H w) (hb : Below (fun k => k < w.heap.size) w w') : HR P E B H w' ∧ Below B w w' := by
  refine ⟨⟨h.dom, fun b o hbo => ?_, fun k hk => Nat.lt_of_lt_of_le (h.base k hk) hb.size, h.glob, h.sep⟩, ⟨hb.os, hb.tape, hb.output, hb.size, fun k hk => hb.block k (h.base k hk)⟩⟩
  obtain ⟨L, hL, ho⟩ := h.obj b o hbo
  refine ⟨L, hL, ?_⟩
  by_cases hl : o.live = true
  · exact ho.same (Env.le.refl E) (hb.block _ (ho.blk_lt hl))
  · cases o <;> first | trivial | exact absurd rfl hl

/-- A function of values without places, that hands back such a one: the heap stays as it lies. -/
theorem ACall.pure {f : FuncId} {args : List AV} {R : AV → Prop} (h : ACall P f args (emptyH P) fun v' _ => R v') (ha : AV.scals args = true) (hv : ∀ v, R v → v.scal = true) (H : AH) : ACall P f args H fun v' H' => R v' ∧ H' = H := by
  intro E B w args' hH hargs
  refine Calls.mono (h _ _ w args' hH.empty (VRs.scal ha hargs)) ?_
  rintro e w' ⟨v', H', E', x, rfl, hR, _, _, hx, hb⟩
  obtain ⟨h1, h2⟩ := hH.kept hb
  exact ⟨_, H, E, x, rfl, ⟨hR, rfl⟩, Env.le.refl E, h1, VR.scal (hv _ hR) hx, h2⟩

theorem ACallee.mono {f : FuncId} {args : List AV} {H : AH} {Q Q' : AV → AH → Prop} (h : ACallee P f args H Q) (hq : ∀ v H, Q v H → Q' v H) : ACallee P f args H Q' := by
  rcases h with ⟨h1, h2⟩ | h
  · exact .inl ⟨h1, h2.mono hq⟩
  · refine .inr fun E B w args' hH ha => ?_
    obtain ⟨v, H', E', w', x, k1, k2, k3⟩ := h E B w args' hH ha
    exact ⟨v, H', E', w', x, k1, hq _ _ k2, k3⟩

/-- What the function hands back R takes, and it leaves the heap as it lies. -/
def PureR (P : Program) (f : FuncId) (args : List AV) (R : AV → Prop) : Prop := ∀ H, ACallee P f args H fun v' H' => R v' ∧ H' = H
abbrev Pure (P : Program) (f : FuncId) (args : List AV) (v : AV) : Prop := PureR P f args fun v' => v' = v

theorem PureR.of_vc (hm : P.follows .mixedOrders = true) {f : FuncId} {args : List AV} {R : AV → Prop} (anns : List LoopAnn) (hg : goB P f = true) (ha : AV.scals args = true) (hv : ∀ v, R v → v.scal = true)
    (h : vcF (real P none) P anns f args (emptyH P) fun v' _ => R v') : PureR P f args R := fun H => .inl ⟨goB_spec hg, ACall.pure (vcF_ok hm h) ha hv H⟩
theorem Pure.of_vc (hm : P.follows .mixedOrders = true) {f : FuncId} {args : List AV} {v : AV} (anns : List LoopAnn) (hg : goB P f = true) (ha : AV.scals args = true) (hv : v.scal = true)
    (h : vcF (real P none) P anns f args (emptyH P) fun v' _ => v' = v) : Pure P f args v := PureR.of_vc hm anns hg ha (fun _ e => by rw [e]; exact hv) h

theorem PureR.use {f : FuncId} {args : List AV} {R : AV → Prop} (h : PureR P f args R) {H : AH} {K : AV → AH → Prop} (k : ∀ v, R v → K v H) : ACallee P f args H K := (h H).mono fun v _ ⟨h1, h2⟩ => by rw [h2]; exact k v h1
theorem PureR.use1 {f : FuncId} {args : List AV} {v : AV} (h : Pure P f args v) {H : AH} {K : AV → AH → Prop} (k : K v H) : ACallee P f args H K := h.use fun _ e => by rw [e]; exact k

/-! Functions that read tables -/

def TabsIn (l : Tabs) (H : AH) : Prop := ∀ t ∈ l, H.get t.1 = some (.cells t.2.2 t.2.1 { own := false })

theorem TabsIn.alloc {l : Tabs} {H : AH} (h : TabsIn l H) (hl : ∀ t ∈ l, t.1 < H.n) (o : AObj) : TabsIn l (H.alloc o) := fun t ht => by
  rw [AH.get_alloc, if_neg (Nat.ne_of_lt (hl t ht))]; exact h t ht
theorem TabsIn.set {l : Tabs} {H : AH} (h : TabsIn l H) {b : Nat} (hb : ∀ t ∈ l, t.1 ≠ b) (o : AObj) : TabsIn l (H.set b o) := fun t ht => by
  rw [AH.get_set, if_neg (hb t ht)]; exact h t ht

theorem HR.tabs {E : Env} {B : Bnd} {H : AH} {w : World} {l : Tabs} (h : HR P E B H w) (hl : TabsIn l H) (hg : ∀ t ∈ l, t.1 < P.globals.size ∧ AV.scals t.2.2 = true) :
    HR P (fun b => if b < P.globals.size then E b else (Option.none : Option Loc)) (fun k => k < w.heap.size) (startH P.globals.size l) w := by
  have h0 := h.empty
  refine ⟨fun b L hb => ?_, fun b o hb => ?_, fun _ h => h, h0.glob, fun b b' o o' L L' _ hb _ ho _ _ _ => ?_⟩
  · rw [startH_n]; exact h0.dom b L hb
  · obtain ⟨cs, rfl, _, e, hm, rfl⟩ := startH_get hb
    obtain ⟨hlt, hsc⟩ := hg _ hm
    obtain ⟨L, hL, X, lo, hi, h1, h2, h3, h4, h5, h6, h7, h8⟩ := h.obj _ _ (hl _ hm)
    exact ⟨L, by rw [if_pos hlt]; exact hL, X, lo, hi, h1, h2, h3, h4, VRs.scal hsc h5, fun h => (by cases h), h7, h8⟩
  · obtain ⟨cs, rfl, _⟩ := startH_get hb
    cases ho

def PureT (P : Program) (l : Tabs) (f : FuncId) (args : List AV) (R : AV → Prop) : Prop := ∀ H, TabsIn l H → ACallee P f args H fun v' H' => R v' ∧ H' = H

theorem PureT.of_call {l : Tabs} {f : FuncId} {args : List AV} {R : AV → Prop} (hg : goB P f = true) (hl : ∀ t ∈ l, t.1 < P.globals.size ∧ AV.scals t.2.2 = true) (h : ACall P f args (startH P.globals.size l) fun v' _ => R v')
    (ha : AV.scals args = true) (hv : ∀ v, R v → v.scal = true) : PureT P l f args R := by
  intro H hT
  refine .inl ⟨goB_spec hg, fun E B w args' hH hargs => ?_⟩
  refine Calls.mono (h _ _ w args' (hH.tabs hT hl) (VRs.scal ha hargs)) ?_
  rintro e w' ⟨v', H', E', x, rfl, hR, _, _, hx, hb⟩
  obtain ⟨h1, h2⟩ := hH.kept hb
  exact ⟨_, H, E, x, rfl, ⟨hR, rfl⟩, Env.le.refl E, h1, VR.scal (hv _ hR) hx, h2⟩

theorem PureT.use {l : Tabs} {f : FuncId} {args : List AV} {R : AV → Prop} (h : PureT P l f args R) {H : AH} (hT : TabsIn l H) {K : AV → AH → Prop} (k : ∀ v, R v → K v H) : ACallee P f args H K := (h H hT).mono fun v _ ⟨h1, h2⟩ => by rw [h2]; exact k v h1

theorem Pure.ext {X : Ext} (hX : ExtOk P X) {f : FuncId} {args : List AV} {v : AV} (h : ∀ H, X f args H = some (v, H)) : Pure P f args v := fun H => hX f args H v H (h H)
end

/-! ### Runes -/

theorem decodeL_cases (s : List UInt8) (i : Nat) :
    (rune1 s i 0 < 0x80 ∧ decodeL s i = (rune1 s i 0, 1)) ∨
    (0x80 ≤ rune1 s i 0 ∧ 0x80 ≤ (decodeL s i).1 ∧ 1 ≤ (decodeL s i).2 ∧ (decodeL s i).2 ≤ 4 ∧ ∀ k, 1 ≤ k → k < (decodeL s i).2 → i + k < s.length ∧ rune1 s i k / 64 = 2) := by
  unfold decodeL
  simp only
  have he : Utf8.runeError = 65533 := rfl
  split
  · exact .inl ⟨by assumption, rfl⟩
  · rename_i h0
    refine .inr ?_
    have h0' : 0x80 ≤ rune1 s i 0 := by omega
    split
    · rename_i h1
      simp only [Bool.and_eq_true, beq_iff_eq, decide_eq_true_eq] at h1
      split
      · rename_i h2
        exact ⟨h0', h2, by omega, by omega, fun k k1 k2 => by obtain rfl : k = 1 := by simp at k2; omega
                                                              exact h1.2⟩
      · exact ⟨h0', by rw [he]; decide, Nat.le_refl 1, (by decide : 1 ≤ 4), fun k k1 k2 => by simp at k2; omega⟩
    · split
      · rename_i h1
        simp only [Bool.and_eq_true, beq_iff_eq, decide_eq_true_eq] at h1
        split
        · rename_i h2
          simp only [Bool.and_eq_true, decide_eq_true_eq] at h2
          refine ⟨h0', by have := h2.1; simp only; omega, (by decide : 1 ≤ 3), (by decide : 3 ≤ 4), fun k k1 k2 => ?_⟩
          have k2' : k < 3 := k2
          rcases (by omega : k = 1 ∨ k = 2) with rfl | rfl
          · exact h1.1.2
          · exact h1.2
        · exact ⟨h0', by rw [he]; decide, Nat.le_refl 1, (by decide : 1 ≤ 4), fun k k1 k2 => by simp at k2; omega⟩
      · split
        · rename_i h1
          simp only [Bool.and_eq_true, beq_iff_eq, decide_eq_true_eq] at h1
          split
          · rename_i h2
            simp only [Bool.and_eq_true, decide_eq_true_eq] at h2
            refine ⟨h0', by have := h2.1; simp only; omega, (by decide : 1 ≤ 4), (by decide : 4 ≤ 4), fun k k1 k2 => ?_⟩
            have k2' : k < 4 := k2
            rcases (by omega : k = 1 ∨ k = 2 ∨ k = 3) with rfl | rfl | rfl
            · exact h1.1.1.2
            · exact h1.1.2
            · exact h1.2
          · exact ⟨h0', by rw [he]; decide, Nat.le_refl 1, (by decide : 1 ≤ 4), fun k k1 k2 => by simp at k2; omega⟩
        · exact ⟨h0', by rw [he]; decide, Nat.le_refl 1, (by decide : 1 ≤ 4), fun k k1 k2 => by simp at k2; omega⟩

theorem decodeL_size (s : List UInt8) (i : Nat) (h : i < s.length) : 1 ≤ (decodeL s i).2 ∧ i + (decodeL s i).2 ≤ s.length := by
  rcases decodeL_cases s i with ⟨h1, h2⟩ | ⟨h1, h2, h3, h4, h5⟩
  · rw [h2]; exact ⟨Nat.le_refl 1, h⟩
  · refine ⟨h3, ?_⟩
    by_cases e : (decodeL s i).2 = 1
    · rw [e]; exact h
    · have := (h5 ((decodeL s i).2 - 1) (by omega) (by omega)).1; omega

theorem rune1_at {s : List UInt8} {i k : Nat} (h : i + k < s.length) : rune1 s i k = (s[i + k]'h).toNat := by
  unfold rune1; rw [List.getElem?_eq_getElem h]; rfl
end Go.Am

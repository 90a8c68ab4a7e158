/- Functions that read one block, and change nothing. -/
import Derived.Test.YtlkdhhkncoekgaaDoorAmZ
namespace Go.Am
open Go.RowKit
variable {P : Program}

theorem PureR.of_call {f : FuncId} {args : List AV} {R : AV → Prop} (h : ACall P f args (emptyH P) fun v' _ => R v') (hg : goB P f = true) (ha : AV.scals args = true) (hv : ∀ v, R v → v.scal = true) : PureR P f args R :=
  fun H => .inl ⟨goB_spec hg, ACall.pure h ha hv H⟩
theorem PureR.of_vcG (hm : P.follows .mixedOrders = true) {f : FuncId} {args : List AV} {R : AV → Prop} (anns : List LoopAnn) (rans : List RangeAnn) (hg : goB P f = true) (ha : AV.scals args = true) (hv : ∀ v, R v → v.scal = true)
    (h : vcG (real P) (Iter P) P anns rans f args (emptyH P) fun v' _ => R v') : PureR P f args R := .of_call (vcG_ok hm h) hg ha hv

/-! ### Other numbers for the blocks -/

mutual
def AV.ren (ρ : Nat → Nat) : AV → AV
  | .ptr (some (b, o)) => .ptr (some (ρ b, o))
  | .slice (some (b, o)) l c => .slice (some (ρ b, o)) l c
  | .yld b => .yld (ρ b)
  | .func f x y => .func f (AV.rens ρ x) (AV.rens ρ y)
  | .iface t v => .iface t (AV.ren ρ v)
  | .agg cs => .agg (AV.rens ρ cs)
  | .tuple cs => .tuple (AV.rens ρ cs)
  | .bool b => .bool b
  | .int k n => .int k n
  | .str s => .str s
  | .ptr none => .ptr none
  | .slice none l c => .slice none l c
  | .nilFunc => .nilFunc
  | .nilIface => .nilIface
  | .any => .any
def AV.rens (ρ : Nat → Nat) : List AV → List AV
  | [] => []
  | v :: l => AV.ren ρ v :: AV.rens ρ l
end

mutual
theorem VR.unren {E : Env} {ρ : Nat → Nat} : ∀ {v : AV} {x : Value}, VR E (v.ren ρ) x → VR (fun c => E (ρ c)) v x
  | .bool _, _, h => h
  | .int _ _, _, h => h
  | .str _, _, h => h
  | .ptr none, _, h => h
  | .ptr (some (_, _)), _, h => h
  | .slice none _ _, _, h => h
  | .slice (some (_, _)) _ _, _, h => h
  | .func f x y, _, h => by
    obtain ⟨x', y', h1, h2, h3⟩ := h
    exact ⟨x', y', h1, VRs.unren h2, VRs.unren h3⟩
  | .nilFunc, _, h => h
  | .yld _, _, h => h
  | .iface t v, _, h => by
    obtain ⟨y, h1, h2⟩ := h
    exact ⟨y, h1, VR.unren h2⟩
  | .nilIface, _, h => h
  | .agg cs, _, h => by
    obtain ⟨y, h1, h2⟩ := h
    exact ⟨y, h1, VRs.unren h2⟩
  | .tuple cs, _, h => by
    obtain ⟨y, h1, h2⟩ := h
    exact ⟨y, h1, VRs.unren h2⟩
  | .any, _, h => h
theorem VRs.unren {E : Env} {ρ : Nat → Nat} : ∀ {vs : List AV} {xs : List Value}, VRs E (AV.rens ρ vs) xs → VRs (fun c => E (ρ c)) vs xs
  | [], _, h => h
  | v :: vs, _, h => by
    obtain ⟨y, ys, h1, h2, h3⟩ := h
    exact ⟨y, ys, h1, VR.unren h2, VRs.unren h3⟩
end

mutual
theorem AV.ren_scal {ρ : Nat → Nat} : ∀ {v : AV}, v.scal = true → v.ren ρ = v
  | .bool _, _ => by simp [AV.ren]
  | .int _ _, _ => by simp [AV.ren]
  | .str _, _ => by simp [AV.ren]
  | .ptr none, _ => by simp [AV.ren]
  | .ptr (some _), h => by simp [AV.scal] at h
  | .slice none _ _, _ => by simp [AV.ren]
  | .slice (some _) _ _, h => by simp [AV.scal] at h
  | .func f x y, h => by
    simp only [AV.scal, Bool.and_eq_true] at h
    simp only [AV.ren]; rw [AV.rens_scal h.1, AV.rens_scal h.2]
  | .nilFunc, _ => by simp [AV.ren]
  | .yld _, h => by simp [AV.scal] at h
  | .iface t v, h => by simp only [AV.ren]; rw [AV.ren_scal (by simpa [AV.scal] using h)]
  | .nilIface, _ => by simp [AV.ren]
  | .agg cs, h => by simp only [AV.ren]; rw [AV.rens_scal (by simpa [AV.scal] using h)]
  | .tuple cs, h => by simp only [AV.ren]; rw [AV.rens_scal (by simpa [AV.scal] using h)]
  | .any, h => by simp [AV.scal] at h
theorem AV.rens_scal {ρ : Nat → Nat} : ∀ {vs : List AV}, AV.scals vs = true → AV.rens ρ vs = vs
  | [], _ => by simp [AV.rens]
  | v :: vs, h => by
    simp only [AV.scals, Bool.and_eq_true] at h
    simp only [AV.rens]; rw [AV.ren_scal h.1, AV.rens_scal h.2]
end

theorem AV.rens_length {ρ : Nat → Nat} : ∀ {vs : List AV}, (AV.rens ρ vs).length = vs.length
  | [] => rfl
  | _ :: vs => by simp [AV.rens, AV.rens_length (vs := vs)]
theorem AV.ren_one {ρ : Nat → Nat} {v : AV} (h : (v.ren ρ).one = true) : v.one = true := by
  unfold AV.ren at h
  split at h <;> first | rfl | exact h
theorem AV.rens_one {ρ : Nat → Nat} : ∀ {vs : List AV}, (∀ v ∈ AV.rens ρ vs, v.one = true) → ∀ v ∈ vs, v.one = true
  | [], _, _, h => by cases h
  | u :: vs, k, v, h => by
    simp only [AV.rens, List.mem_cons, forall_eq_or_imp] at k
    rcases List.mem_cons.1 h with rfl | h
    · exact AV.ren_one k.1
    · exact AV.rens_one k.2 v h

/-- H0 shows blocks of H, by other numbers, to be read alone. -/
def Shows (P : Program) (ρ : Nat → Nat) (H0 H : AH) : Prop :=
  (∀ c, c < P.globals.size → ρ c = c) ∧ (∀ c, H0.n ≤ c → H.n ≤ ρ c) ∧
  ∀ c o, H0.get c = some o → ∃ cs e fl, o = .cells cs e { own := false, opn := true } ∧ H.get (ρ c) = some (.cells (AV.rens ρ cs) e fl)

theorem HR.shows {E : Env} {B : Bnd} {H H0 : AH} {w : World} {ρ : Nat → Nat} (h : HR P E B H w) (hs : Shows P ρ H0 H) : HR P (fun c => E (ρ c)) (fun k => k < w.heap.size) H0 w := by
  obtain ⟨h1, h2, h3⟩ := hs
  refine ⟨fun c L hc => ?_, fun c o hc => ?_, fun _ h => h, fun g hg => ?_, fun c c' o o' L L' hne ho ho' hown _ _ _ => ?_⟩
  · rcases Nat.lt_or_ge c H0.n with hlt | hge
    · exact hlt
    · exact absurd (h.dom _ _ hc) (Nat.not_lt.2 (h2 c hge))
  · obtain ⟨cs, e, fl, rfl, hg⟩ := h3 c o hc
    obtain ⟨L, hL, X, lo, hi, k1, k2, k3, k4, k5, k6, k7, k8, k9⟩ := h.obj _ _ hg
    rw [AV.rens_length] at k2 k4 k5
    exact ⟨L, hL, X, lo, hi, k1, k2, k3, k4, VRs.unren k5, fun h => (by cases h), fun h => (by cases h), AV.rens_one k8, fun h => (by cases h)⟩
  · rw [h1 g hg]; exact h.glob g hg
  · obtain ⟨cs, e, fl, rfl, _⟩ := h3 c o ho
    cases hown

/-- What reads blocks of the caller, and hands back a value without places, leaves the heap as it lies. -/
theorem ACall.ro {f : FuncId} {R : AV → Prop} {args : List AV} {H0 : AH} (h : ACall P f args H0 fun v _ => R v) (hg : goB P f = true) (hv : ∀ v, R v → v.scal = true)
    {H : AH} {args' : List AV} (ρ : Nat → Nat) (ha : args' = AV.rens ρ args) (hs : Shows P ρ H0 H) : ACallee P f args' H fun v H' => R v ∧ H' = H := by
  subst ha
  refine .inl ⟨goB_spec hg, fun E B w args' hH hargs => ?_⟩
  refine Calls.mono (h _ _ w args' (hH.shows hs) (VRs.unren hargs)) ?_
  rintro e w' ⟨v', H', E', x, rfl, hR, _, _, hx, hb⟩
  obtain ⟨h1, h2⟩ := hH.kept hb
  exact ⟨_, H, E, x, rfl, ⟨hR, rfl⟩, Env.le.refl E, h1, VR.scal (hv _ hR) hx, h2⟩
end Go.Am

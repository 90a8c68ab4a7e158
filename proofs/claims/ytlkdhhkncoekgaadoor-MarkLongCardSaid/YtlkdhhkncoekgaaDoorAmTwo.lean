/- The abstract machine: statements, calls, yields, ranges over functions, runs of closed code; that they are sound. -/
import Derived.Test.YtlkdhhkncoekgaaDoorAmOne
import Derived.OrdersIn
import Derived.TacticsIn
import Derived.Scope
import Derived.RangeFuncLeaves
import Derived.RangeFuncRecord
import Derived.ProofKit
import Derived.WalkKit
import Derived.OpenShut
import Derived.Lib.LaidTab
import Derived.Lib.Bytealg
import Derived.Deep.DeepHandedRow
import Derived.Stop.LaidErr

/- The abstract machine: activations, statements, operations in a region, calls. -/
section
namespace Go

section
variable {F : Fence} {n : Nat} {P : Program} {Q : Exit → Act → World → Prop} {a : Act} {w : World}

/-- A loop, by a number that falls. -/
theorem wpIn_loop_ix {c : Code} (I : Nat → Act → World → Prop) {j : Nat} (h₀ : I j a w)
    (round : ∀ j a w, I j a w → c.wpIn F n P (Exit.then (fun a' w' => ∃ i, i < j ∧ I i a' w') Q) a w) : (Code.loop c).wpIn F n P Q a w := by
  intro b k cs hro hb hr
  have key : ∀ j a w, I j a w →
      ∃ e a' w', Q e a' w' ∧ ArrivesIn (Machine.fenced P F) P (lone (b.atR a (.code c :: .inLoop c :: k)) cs w) b k cs e a' w' := by
    intro j
    induction j using Nat.strongRecOn with
    | _ j ih =>
      intro a w hI
      obtain ⟨e, a₁, w₁, hq, harr⟩ := round j a w hI b (.inLoop c :: k) cs hro hb hr
      cases e with
      | normal =>
        obtain ⟨i, hlt, hI₁⟩ := hq
        obtain ⟨e₂, a₂, w₂, hq₂, harr₂⟩ := ih i hlt a₁ w₁ hI₁
        exact ⟨e₂, a₂, w₂, hq₂, .of_steps (StepsIn.trans harr (.one (fenced_calm hb hr rfl) stepR_inLoop)) harr₂⟩
      | exit id => exact ⟨_, a₁, w₁, hq, .pass (x := .inLoop c) rfl (fun _ _ => .inl (by simp)) harr⟩
      | goto l => exact ⟨_, a₁, w₁, hq, .pass (x := .inLoop c) rfl (fun _ _ => .inl (by simp)) harr⟩
      | ret => exact ⟨_, a₁, w₁, hq, .pass (x := .inLoop c) rfl (fun _ _ => .inl (by simp)) harr⟩
      | panic ch => exact ⟨_, a₁, w₁, hq, .pass (x := .inLoop c) rfl (fun _ _ => .inl (by simp)) harr⟩
      | outgrown => exact ⟨_, a₁, w₁, hq, .pass (x := .inLoop c) rfl (fun _ _ => .inl (by simp)) harr⟩
  obtain ⟨e, a', w', hq, harr⟩ := key _ a w h₀
  exact ⟨e, a', w', hq, .of_steps (.one (fenced_calm hb hr rfl) stepR_loop) harr⟩

theorem stepR_scope {b : Frame} {c : Code} {k : List Item} {cs : List Frame} : step P (lone (b.atR a (.code (.scope c) :: k)) cs w) = .next (lone (b.atR a (.code c :: .inScope c :: k)) cs w) :=
  step_lone_go (by simp [stepG, stepG.exec, Frame.atR])
theorem stepR_inScope {b : Frame} {c : Code} {k : List Item} {cs : List Frame} : step P (lone (b.atR a (.inScope c :: k)) cs w) = .next (lone (b.atR a k) cs w) :=
  step_lone_go (by simp [stepG, stepG.exec, Frame.atR])

/-- As Q; by a goto to a label that the scope holds: J. -/
def Exit.jumps (c : Code) (J : Nat → Act → World → Prop) (Q : Exit → Act → World → Prop) : Exit → Act → World → Prop
  | .goto l, a, w => if (findLabel c l).isSome then J l a w else Q (.goto l) a w
  | e, a, w => Q e a w

theorem wpIn_scope_ix {c : Code} (J : Nat → Nat → Act → World → Prop) (first : c.wpIn F n P (Exit.jumps c (fun l a w => ∃ j, J j l a w) Q) a w)
    (pass : ∀ j l a w rest, findLabel c l = some rest → J j l a w → rest.wpIn F n P (Exit.jumps c (fun l' a' w' => ∃ i, i < j ∧ J i l' a' w') Q) a w) : (Code.scope c).wpIn F n P Q a w := by
  intro b k cs hro hb hr
  have hx : ∀ id, exitTo id (.inScope c :: k) = exitTo id k := fun id => by simp [exitTo]
  have hg0 : ∀ l, (findLabel c l).isSome = false → gotoIn l (.inScope c :: k) = gotoIn l k := fun l h => by
    cases hf : findLabel c l with
    | none => simp [gotoIn, hf]
    | some r => rw [hf] at h; cases h
  have hg1 : ∀ l rest, findLabel c l = some rest → gotoIn l (.inScope c :: k) = some (.code rest :: .inScope c :: k) := fun l rest h => by simp [gotoIn, h]
  have key : ∀ j l a w rest, findLabel c l = some rest → J j l a w → ∃ e a' w', Q e a' w' ∧ ArrivesIn (Machine.fenced P F) P (lone (b.atR a (.code rest :: .inScope c :: k)) cs w) b k cs e a' w' := by
    intro j
    induction j using Nat.strongRecOn with
    | _ j ih =>
      intro l a w rest hf hJ
      obtain ⟨e, a₁, w₁, hq, harr⟩ := pass j l a w rest hf hJ b (.inScope c :: k) cs hro hb hr
      cases e with
      | normal => exact ⟨.normal, a₁, w₁, hq, StepsIn.trans harr (.one (fenced_calm hb hr rfl) stepR_inScope)⟩
      | exit id => exact ⟨.exit id, a₁, w₁, hq, fun k' hk => harr.1 k' (by rw [hx]; exact hk), fun hr' hk => harr.2 hr' (by rw [hx]; exact hk)⟩
      | goto l' =>
        simp only [Exit.jumps] at hq
        split at hq
        · rename_i hs
          obtain ⟨rest', hf'⟩ := Option.isSome_iff_exists.1 hs
          obtain ⟨i, hlt, hJ'⟩ := hq
          obtain ⟨e₂, a₂, w₂, hq₂, harr₂⟩ := ih i hlt l' a₁ w₁ rest' hf' hJ'
          exact ⟨e₂, a₂, w₂, hq₂, .of_steps (harr.1 _ (hg1 _ _ hf')) harr₂⟩
        · rename_i hs
          have := hg0 l' (by simpa using hs)
          exact ⟨.goto l', a₁, w₁, hq, fun k' hk => harr.1 k' (by rw [this]; exact hk), fun hr' hk => harr.2 hr' (by rw [this]; exact hk)⟩
      | ret => exact ⟨_, a₁, w₁, hq, harr⟩
      | panic ch => exact ⟨_, a₁, w₁, hq, harr⟩
      | outgrown => exact ⟨_, a₁, w₁, hq, harr⟩
  have h0 : StepsIn (Machine.fenced P F) P (lone (b.atR a (.code (.scope c) :: k)) cs w) (lone (b.atR a (.code c :: .inScope c :: k)) cs w) := .one (fenced_calm hb hr rfl) stepR_scope
  obtain ⟨e, a₁, w₁, hq, harr⟩ := first b (.inScope c :: k) cs hro hb hr
  cases e with
  | normal => exact ⟨.normal, a₁, w₁, hq, h0.trans (StepsIn.trans harr (.one (fenced_calm hb hr rfl) stepR_inScope))⟩
  | exit id => exact ⟨.exit id, a₁, w₁, hq, .of_steps h0 ⟨fun k' hk => harr.1 k' (by rw [hx]; exact hk), fun hr' hk => harr.2 hr' (by rw [hx]; exact hk)⟩⟩
  | goto l' =>
    simp only [Exit.jumps] at hq
    split at hq
    · rename_i hs
      obtain ⟨rest', hf'⟩ := Option.isSome_iff_exists.1 hs
      obtain ⟨j, hJ'⟩ := hq
      obtain ⟨e₂, a₂, w₂, hq₂, harr₂⟩ := key j l' a₁ w₁ rest' hf' hJ'
      exact ⟨e₂, a₂, w₂, hq₂, .of_steps (h0.trans (harr.1 _ (hg1 _ _ hf'))) harr₂⟩
    · rename_i hs
      have := hg0 l' (by simpa using hs)
      exact ⟨.goto l', a₁, w₁, hq, .of_steps h0 ⟨fun k' hk => harr.1 k' (by rw [this]; exact hk), fun hr' hk => harr.2 hr' (by rw [this]; exact hk)⟩⟩
  | ret => exact ⟨_, a₁, w₁, hq, .of_steps h0 harr⟩
  | panic ch => exact ⟨_, a₁, w₁, hq, .of_steps h0 harr⟩
  | outgrown => exact ⟨_, a₁, w₁, hq, .of_steps h0 harr⟩
end

namespace Am
open Go.RowKit

/-- Where an activation stands: its temporaries, the marks among its deferred calls, the heap. -/
structure St where
  T : List AV
  M : List Nat
  H : AH

inductive AEx where
  | normal
  | exit (id : Nat)
  | goto (l : Nat)
  | ret
  deriving DecidableEq

def AEx.toExit : AEx → Exit
  | .normal => .normal
  | .exit id => .exit id
  | .goto l => .goto l
  | .ret => .ret

/-- The widest fence, in a round or not. -/
def Fr (rc : Option Nat) : Fence := { Fence.wide with round := rc }

theorem callsIn_fr {rc : Option Nat} {n : Nat} {P : Program} {f : FuncId} {args : Array Value} {w : World} {R : Ending → World → Prop} : CallsIn (Fr rc) n P f args w R ↔ Calls P f args w R :=
  show CallsIn Fence.wide n P f args w R ↔ _ from callsIn_wide

def MR (E : Env) : List Nat → List Deferred → Prop
  | [], ds => ds = []
  | m :: ms, ds => ∃ L ds', E m = some L ∧ ds = { target := .collected L.blk, args := #[] } :: ds' ∧ MR E ms ds'

theorem MR.mono {E E' : Env} (h : E.le E') : ∀ {ms : List Nat} {ds : List Deferred}, MR E ms ds → MR E' ms ds
  | [], _, k => k
  | _ :: _, _, k => by obtain ⟨L, ds', h1, h2, h3⟩ := k; exact ⟨L, ds', h _ _ h1, h2, MR.mono h h3⟩

def RR (E : Env) : Option Nat → Option Nat → Prop
  | none, rc => rc = none
  | some l, rc => ∃ L, E l = some L ∧ rc = some L.blk

theorem RR.mono {E E' : Env} (h : E.le E') {r rc : Option Nat} (k : RR E r rc) : RR E' r rc := by
  cases r with
  | none => exact k
  | some l => obtain ⟨L, h1, h2⟩ := k; exact ⟨L, h _ _ h1, h2⟩

structure SR (P : Program) (E : Env) (B : Bnd) (s : St) (a : Act) (w : World) : Prop where
  heap : HR P E B s.H w
  tmps : VRs E s.T a.tmps.toList
  marks : MR E s.M a.defers

def APost (P : Program) (E : Env) (B : Bnd) (w : World) (Q : AEx → St → Prop) : Exit → Act → World → Prop := fun e a' w' =>
  ∃ ae s' E', e = AEx.toExit ae ∧ Q ae s' ∧ E.le E' ∧ SR P E' B s' a' w' ∧ Below B w w'

/-- The statement c, from s on, is left in a way that Q takes. -/
def AWp (P : Program) (r : Option Nat) (c : Code) (Q : AEx → St → Prop) (s : St) : Prop :=
  ∀ E B w a rc, SR P E B s a w → RR E r rc → c.wpIn (Fr rc) 0 P (APost P E B w Q) a w

/-- The function f returns a value, and leaves a heap, that Q takes. -/
def ACall (P : Program) (f : FuncId) (args : List AV) (H : AH) (Q : AV → AH → Prop) : Prop :=
  ∀ E B w args', HR P E B H w → VRs E args args'.toList →
    Calls P f args' w (fun e w' => ∃ v H' E' x, e = .returned x ∧ Q v H' ∧ E.le E' ∧ HR P E' B H' w' ∧ VR E' v x ∧ Below B w w')

section rules
variable {P : Program} {r : Option Nat} {Q : AEx → St → Prop} {s : St}

theorem APost.trans {E E' : Env} {B : Bnd} {w w' : World} {Q : AEx → St → Prop} {e : Exit} {a : Act} {w'' : World} (hE : E.le E') (hb : Below B w w') (h : APost P E' B w' Q e a w'') : APost P E B w Q e a w'' := by
  obtain ⟨ae, s', E'', h1, h2, h3, h4, h5⟩ := h
  exact ⟨ae, s', E'', h1, h2, hE.trans h3, h4, hb.trans h5⟩

theorem AWp.mono {c : Code} {Q' : AEx → St → Prop} (h : AWp P r c Q s) (hq : ∀ e s, Q e s → Q' e s) : AWp P r c Q' s :=
  fun E B w a rc hs hr => Go.wpIn_mono (h E B w a rc hs hr) fun _ _ _ ⟨ae, s', E', h1, h2, h3⟩ => ⟨ae, s', E', h1, hq _ _ h2, h3⟩

theorem ACall.mono {f : FuncId} {args : List AV} {H : AH} {Q Q' : AV → AH → Prop} (h : ACall P f args H Q) (hq : ∀ v H, Q v H → Q' v H) : ACall P f args H Q' :=
  fun E B w args' hH ha => Calls.mono (h E B w args' hH ha) fun _ _ ⟨v, H', E', x, h1, h2, h3⟩ => ⟨v, H', E', x, h1, hq _ _ h2, h3⟩

/-- As Q; off its end: K. -/
def thenA (K : St → Prop) (Q : AEx → St → Prop) : AEx → St → Prop
  | .normal, s => K s
  | e, s => Q e s

/-- As Q; by an exit of this block: as off its end. -/
def inBlockA (id : Nat) (Q : AEx → St → Prop) : AEx → St → Prop
  | .exit i, s => if i = id then Q .normal s else Q (.exit i) s
  | e, s => Q e s

def jumpsA (c : Code) (J : Nat → St → Prop) (Q : AEx → St → Prop) : AEx → St → Prop
  | .goto l, s => if (findLabel c l).isSome then J l s else Q (.goto l) s
  | e, s => Q e s

theorem AWp.skip (h : Q .normal s) : AWp P r .skip Q s := fun E B w _ _ hs _ => wpIn_skip ⟨.normal, s, E, rfl, h, Env.le.refl E, hs, Below.refl B w⟩
theorem AWp.label {l : Nat} (h : Q .normal s) : AWp P r (.label l) Q s := fun E B w _ _ hs _ => wpIn_label ⟨.normal, s, E, rfl, h, Env.le.refl E, hs, Below.refl B w⟩
theorem AWp.exit {id : Nat} (h : Q (.exit id) s) : AWp P r (.exit id) Q s := fun E B w _ _ hs _ => wpIn_exit ⟨.exit id, s, E, rfl, h, Env.le.refl E, hs, Below.refl B w⟩
theorem AWp.goto {l : Nat} (h : Q (.goto l) s) : AWp P r (.goto l) Q s := fun E B w _ _ hs _ => wpIn_goto ⟨.goto l, s, E, rfl, h, Env.le.refl E, hs, Below.refl B w⟩
theorem AWp.ret (h : Q .ret s) : AWp P r .ret Q s := fun E B w _ _ hs _ => wpIn_ret ⟨.ret, s, E, rfl, h, Env.le.refl E, hs, Below.refl B w⟩

theorem AWp.seq {x y : Code} (h : AWp P r x (thenA (AWp P r y Q) Q) s) : AWp P r (.seq x y) Q s := by
  intro E B w a rc hs hr
  refine wpIn_seq (Go.wpIn_mono (h E B w a rc hs hr) ?_)
  rintro e a' w' ⟨ae, s', E', rfl, hq, hE, hs', hb⟩
  cases ae with
  | normal => exact Go.wpIn_mono (hq E' B w' a' rc hs' (hr.mono hE)) fun e a w h => h.trans hE hb
  | exit id => exact ⟨.exit id, s', E', rfl, hq, hE, hs', hb⟩
  | goto l => exact ⟨.goto l, s', E', rfl, hq, hE, hs', hb⟩
  | ret => exact ⟨.ret, s', E', rfl, hq, hE, hs', hb⟩

theorem AWp.cond {c : Operand} {x y : Code} {b : Bool} (hc : ev P s.T c = some (.bool b)) (h : AWp P r (if b then x else y) Q s) : AWp P r (.cond c x y) Q s := by
  intro E B w a rc hs hr
  have : a.eval c = .bool b := eval_sim hs.heap hs.tmps hc
  exact wpIn_cond this (by cases b <;> exact h E B w a rc hs hr)

theorem AWp.block {id : Nat} {c : Code} (h : AWp P r c (inBlockA id Q) s) : AWp P r (.block id c) Q s := by
  intro E B w a rc hs hr
  refine wpIn_block (Go.wpIn_mono (h E B w a rc hs hr) ?_)
  rintro e a' w' ⟨ae, s', E', rfl, hq, hE, hs', hb⟩
  cases ae with
  | normal => exact ⟨.normal, s', E', rfl, hq, hE, hs', hb⟩
  | exit i =>
    simp only [inBlockA] at hq
    simp only [AEx.toExit, Exit.inBlock]
    by_cases e : i = id
    · rw [if_pos e] at hq; simp only [e, if_true]; exact ⟨.normal, s', E', rfl, hq, hE, hs', hb⟩
    · rw [if_neg e] at hq; simp only [e, if_false]; exact ⟨.exit i, s', E', rfl, hq, hE, hs', hb⟩
  | goto l => exact ⟨.goto l, s', E', rfl, hq, hE, hs', hb⟩
  | ret => exact ⟨.ret, s', E', rfl, hq, hE, hs', hb⟩

/-- A loop, by an invariant and a number that falls. -/
theorem AWp.loop {c : Code} (I : Nat → St → Prop) {j : Nat} (h₀ : I j s) (h : ∀ j s, I j s → AWp P r c (thenA (fun s' => ∃ i, i < j ∧ I i s') Q) s) : AWp P r (.loop c) Q s := by
  intro E B w a rc hs hr
  refine wpIn_loop_ix (j := j) (fun j a' w' => ∃ E' s', I j s' ∧ E.le E' ∧ SR P E' B s' a' w' ∧ Below B w w') ⟨E, s, h₀, Env.le.refl E, hs, Below.refl B w⟩ ?_
  rintro j a₁ w₁ ⟨E₁, s₁, hI, hE, hs₁, hb⟩
  refine Go.wpIn_mono (h j s₁ hI E₁ B w₁ a₁ rc hs₁ (hr.mono hE)) ?_
  rintro e a' w' ⟨ae, s', E', rfl, hq, hE', hs', hb'⟩
  cases ae with
  | normal => obtain ⟨i, hi, hI'⟩ := hq; exact ⟨i, hi, E', s', hI', hE.trans hE', hs', hb.trans hb'⟩
  | exit id => exact ⟨.exit id, s', E', rfl, hq, hE.trans hE', hs', hb.trans hb'⟩
  | goto l => exact ⟨.goto l, s', E', rfl, hq, hE.trans hE', hs', hb.trans hb'⟩
  | ret => exact ⟨.ret, s', E', rfl, hq, hE.trans hE', hs', hb.trans hb'⟩

theorem AWp.scope {c : Code} (J : Nat → Nat → St → Prop) (h₀ : AWp P r c (jumpsA c (fun l s => ∃ j, J j l s) Q) s)
    (h : ∀ j l s rest, findLabel c l = some rest → J j l s → AWp P r rest (jumpsA c (fun l' s' => ∃ i, i < j ∧ J i l' s') Q) s) : AWp P r (.scope c) Q s := by
  intro E B w a rc hs hr
  have key : ∀ {E₁ : Env} {w₁ : World} {e : Exit} {a' : Act} {w' : World} {K : Nat → St → Prop} {K' : Nat → Act → World → Prop}, E.le E₁ → Below B w w₁ →
      (∀ l E' s', K l s' → E.le E' → SR P E' B s' a' w' → Below B w w' → K' l a' w') → APost P E₁ B w₁ (jumpsA c K Q) e a' w' → Exit.jumps c K' (APost P E B w Q) e a' w' := by
    rintro E₁ w₁ e a' w' K K' hE hb hK ⟨ae, s', E', rfl, hq, hE', hs', hb'⟩
    cases ae with
    | normal => exact ⟨.normal, s', E', rfl, hq, hE.trans hE', hs', hb.trans hb'⟩
    | exit id => exact ⟨.exit id, s', E', rfl, hq, hE.trans hE', hs', hb.trans hb'⟩
    | goto l =>
      simp only [jumpsA] at hq
      simp only [AEx.toExit, Exit.jumps]
      split at hq
      · rename_i hl; rw [if_pos hl]; exact hK l E' s' hq (hE.trans hE') hs' (hb.trans hb')
      · rename_i hl; rw [if_neg hl]; exact ⟨.goto l, s', E', rfl, hq, hE.trans hE', hs', hb.trans hb'⟩
    | ret => exact ⟨.ret, s', E', rfl, hq, hE.trans hE', hs', hb.trans hb'⟩
  refine wpIn_scope_ix (fun j l a' w' => ∃ E' s', J j l s' ∧ E.le E' ∧ SR P E' B s' a' w' ∧ Below B w w') (Go.wpIn_mono (h₀ E B w a rc hs hr) fun _ _ _ hp => key (Env.le.refl E) (Below.refl B w) ?_ hp) ?_
  · rintro l E' s' ⟨j, hJ⟩ hE' hs' hb'; exact ⟨j, E', s', hJ, hE', hs', hb'⟩
  · rintro j l a₁ w₁ rest hf ⟨E₁, s₁, hJ, hE, hs₁, hb⟩
    refine Go.wpIn_mono (h j l s₁ rest hf hJ E₁ B w₁ a₁ rc hs₁ (hr.mono hE)) fun _ _ _ hp => key hE hb ?_ hp
    rintro l E' s' ⟨i, hi, hJ'⟩ hE' hs' hb'; exact ⟨i, hi, E', s', hJ', hE', hs', hb'⟩

end rules
end Am
end Go
end

/- The abstract machine: operations in a region, calls of functions, rounds. -/
section
namespace Go.Am
open Go.RowKit

def putT (T : List AV) (dst : Option Tmp) (v : AV) : List AV :=
  match dst with
  | some d => T.set d v
  | none => T

theorem VRs.put {E : Env} {T : List AV} {a : Act} (h : VRs E T a.tmps.toList) (dst : Option Tmp) {v : AV} {x : Value} (hv : VR E v x) : VRs E (putT T dst v) (a.put dst x).tmps.toList := by
  cases dst with
  | none => exact h
  | some d => simpa [putT, Act.put] using VRs.set d h hv

@[simp] theorem put_defers (a : Act) (dst : Option Tmp) (x : Value) : (a.put dst x).defers = a.defers := by cases dst <;> rfl

/-- Is the operation done? (none: not known) -/
def wantedV (ops : Array Oper) (T : List AV) (o : Oper) : Option Bool :=
  match o.guard with
  | none => some true
  | some (j, want) =>
    match ((ops[j]?).bind (·.dst)).bind (T[·]?) with
    | some (.bool b) => some (b == want)
    | some .any => none
    | _ => some false

theorem wanted_sim {E : Env} {T : List AV} {a : Act} {ops : Array Oper} {o : Oper} {b : Bool} (h : VRs E T a.tmps.toList) (hw : wantedV ops T o = some b) : Region.wanted o (yielded ops a.tmps) = b := by
  unfold wantedV at hw
  unfold Region.wanted
  cases hg : o.guard with
  | none => rw [hg] at hw; simpa using hw
  | some g =>
    obtain ⟨j, want⟩ := g
    rw [hg] at hw
    simp only at hw ⊢
    unfold yielded
    cases hd : (ops[j]?).bind (·.dst) with
    | none => rw [hd] at hw; simp at hw; simp [hw]
    | some d =>
      rw [hd] at hw
      simp only [Option.bind_some] at hw ⊢
      cases hT : T[d]? with
      | none =>
        have : a.tmps[d]? = none := by
          rw [← Array.getElem?_toList, List.getElem?_eq_none_iff, ← h.length]; exact List.getElem?_eq_none_iff.1 hT
        rw [hT] at hw; simp at hw
        simp [this, hw]
      | some v =>
        obtain ⟨y, hy, hv⟩ := h.get hT
        rw [Array.getElem?_toList] at hy
        rw [hT] at hw
        rw [hy]
        match v, hv with
        | .bool u, hv => obtain rfl : y = _ := hv; simp at hw; subst hw; simp
        | .any, _ => simp at hw
        | .int _ _, hv => obtain rfl : y = _ := hv; simp at hw; subst hw; rfl
        | .str _, hv => obtain rfl : y = _ := hv; simp at hw; subst hw; rfl
        | .ptr none, hv => obtain rfl : y = _ := hv; simp at hw; subst hw; rfl
        | .ptr (some (p, q)), hv => obtain ⟨L, _, rfl⟩ := hv; simp at hw; subst hw; rfl
        | .slice none l c, hv => obtain ⟨rfl, _⟩ := hv; simp at hw; subst hw; rfl
        | .slice (some (p, q)) l c, hv => obtain ⟨L, a', c', _, rfl, _⟩ := hv; simp at hw; subst hw; rfl
        | .func f u v, hv => obtain ⟨u', v', rfl, _⟩ := hv; simp at hw; subst hw; rfl
        | .nilFunc, hv => obtain rfl : y = _ := hv; simp at hw; subst hw; rfl
        | .yld u, hv => obtain ⟨L, _, rfl⟩ := hv; simp at hw; subst hw; rfl
        | .iface u v, hv => obtain ⟨z, rfl, _⟩ := hv; simp at hw; subst hw; rfl
        | .nilIface, hv => obtain rfl : y = _ := hv; simp at hw; subst hw; rfl
        | .agg cs, hv => obtain ⟨z, rfl, _⟩ := hv; simp at hw; subst hw; rfl
        | .tuple cs, hv => obtain ⟨z, rfl, _⟩ := hv; simp at hw; subst hw; rfl

/-- One operation, at the temporaries T and the heap H: what it yields, and the heap behind it, is taken by K. -/
def AOp (P : Program) (r : Option Nat) (o : Oper) (T : List AV) (H : AH) (K : AV → AH → Prop) : Prop :=
  ∀ E B w a rc (next : Act → World → Prop) (Q' : Exit → Act → World → Prop), HR P E B H w → OpsOk P E T a o.op.operands → RR E r rc →
    (∀ v H' E' w' x, K v H' → E.le E' → HR P E' B H' w' → VR E' v x → Below B w w' → next (a.put o.dst x) w') → o.wpIn (Fr rc) 0 P a w next Q'

section
variable {P : Program} {r : Option Nat} {o : Oper} {T : List AV} {H : AH} {K : AV → AH → Prop}

theorem AOp.mono {K' : AV → AH → Prop} (h : AOp P r o T H K) (hk : ∀ v H, K v H → K' v H) : AOp P r o T H K' :=
  fun E B w a rc next Q' hH hT hr hn => h E B w a rc next Q' hH hT hr fun v H' E' w' x hv => hn v H' E' w' x (hk v H' hv)

theorem semAt_plain (rc : Option Nat) (ρ : Operand → Value) (o : Oper) (h : ∀ c, o.op ≠ .defer c) : Oper.semAt (Fr rc).round ρ o = execOp ρ o := Oper.semAt_eq _ _ _ h

/-- An operation that calls nothing. -/
theorem AOp.of_opV {v : AV} {H' : AH} (h : opV P T H o = some (v, H')) (k : K v H') : AOp P r o T H K := by
  intro E B w a rc next Q' hH hT hr hn
  obtain ⟨⟨E', w', x, hx, hE, hv, hH', hb⟩, hd⟩ := opV_sim hH hT h
  refine ⟨fun _ _ => trivial, ?_⟩
  rw [semAt_plain rc _ _ hd]
  rcases hx with hx | ⟨hx, rfl⟩
  · rw [hx, Oper.uponIn_value]; exact hn v H' E' w' x k hE hH' hv hb
  · rw [hx, Oper.uponIn_skip]; exact hn v H' E' w' _ k hE hH' hv hb

/-- A call of this function enters it. -/
def Goes (P : Program) (g : FuncId) : Prop := ∀ args w, (callFunc g args).run P w = .ok (.enter g args) w

theorem run_resolve_value {ρ : Operand → Value} {f : Operand} {fn : Fn} {x y : Array Value} (h : ρ f = .func fn x y) (xs : Array Operand) (ts : Array TypeId) (ty : TypeId) (w : World) :
    (resolve ρ { callee := .value f, args := xs, argTypes := ts } ty).run P w = .ok { target := .fn fn y, args := x ++ xs.map ρ } w := by
  simp [resolve, h, Deferred.ofValue]

/-- The function g, called: one of the Go text, or one of the model's own. -/
def ACallee (P : Program) (g : FuncId) (args : List AV) (H : AH) (K : AV → AH → Prop) : Prop :=
  (Goes P g ∧ ACall P g args H K) ∨
  (∀ E B w args', HR P E B H w → VRs E args args'.toList → ∃ v H' E' w' x, (callFunc g args').run P w = .ok (.value x) w' ∧ K v H' ∧ E.le E' ∧ HR P E' B H' w' ∧ VR E' v x ∧ Below B w w')

/-- A call of a Go function. -/
theorem AOp.call {dst : Option Tmp} {f : Operand} {xs : Array Operand} {ts : Array TypeId} {ty : TypeId} {pos : String} {after : Array Edge} {guard : Option (Nat × Bool)} {g : FuncId} {x y vs : List AV}
    (hgo : Goes P g) (hf : ev P T f = some (.func (.func g) x y)) (hx : evs P T xs.toList = some vs) (h : ACall P g (x ++ vs ++ y) H K) :
    AOp P r ⟨dst, .call { callee := .value f, args := xs, argTypes := ts }, ty, pos, after, guard⟩ T H K := by
  intro E B w a rc next Q' hH hT hr hn
  refine ⟨fun _ _ => trivial, ?_⟩
  rw [semAt_plain rc _ _ (by simp)]
  have h1 := evals_ok (a := a) (fun y hy => hT y (by simp [Op.operands, Call.operands]; right; simpa using hy)) hx
  obtain ⟨x', y', h2, h3, h4⟩ := hT f (by simp [Op.operands, Call.operands]) _ hf
  have he : (execOp a.eval ⟨dst, .call { callee := .value f, args := xs, argTypes := ts }, ty, pos, after, guard⟩).run P w = .ok (.enter g (x' ++ xs.map a.eval ++ y')) w := by
    simp only [execOp, Sem.run_bind, run_resolve_value h2, Result.andThen_ok, invoke]
    exact hgo _ _
  rw [he, Oper.uponIn_enter]
  refine ⟨fun h => by simp [Fr, Fence.wide] at h, callsIn_fr.2 (Calls.mono (h E B w _ hH ?_) ?_)⟩
  · simpa using (h3.append (by simpa using h1)).append h4
  · rintro e w' ⟨v, H', E', x, rfl, hq, hE, hH', hv, hb⟩
    exact hn v H' E' w' x hq hE hH' hv hb

theorem AOp.callee {dst : Option Tmp} {f : Operand} {xs : Array Operand} {ts : Array TypeId} {ty : TypeId} {pos : String} {after : Array Edge} {guard : Option (Nat × Bool)} {g : FuncId} {x y vs : List AV}
    (hf : ev P T f = some (.func (.func g) x y)) (hx : evs P T xs.toList = some vs) (h : ACallee P g (x ++ vs ++ y) H K) :
    AOp P r ⟨dst, .call { callee := .value f, args := xs, argTypes := ts }, ty, pos, after, guard⟩ T H K := by
  rcases h with ⟨hgo, h⟩ | h
  · exact AOp.call hgo hf hx h
  · intro E B w a rc next Q' hH hT hr hn
    refine ⟨fun _ _ => trivial, ?_⟩
    rw [semAt_plain rc _ _ (by simp)]
    have h1 := evals_ok (a := a) (fun y hy => hT y (by simp [Op.operands, Call.operands]; right; simpa using hy)) hx
    obtain ⟨x', y', h2, h3, h4⟩ := hT f (by simp [Op.operands, Call.operands]) _ hf
    obtain ⟨v, H', E', w', u, hrun, hk, hE, hH', hv, hb⟩ := h E B w (x' ++ xs.map a.eval ++ y') hH (by simpa using (h3.append (by simpa using h1)).append h4)
    have he : (execOp a.eval ⟨dst, .call { callee := .value f, args := xs, argTypes := ts }, ty, pos, after, guard⟩).run P w = .ok (.value u) w' := by
      simp only [execOp, Sem.run_bind, run_resolve_value h2, Result.andThen_ok, invoke]
      exact hrun
    rw [he, Oper.uponIn_value]
    exact hn v H' E' w' u hk hE hH' hv hb

/-- yield's arguments in the parameters. -/
def setPs : List Tmp → List AV → List AV → List AV
  | p :: ps, v :: vs, T => setPs ps vs (T.set p v)
  | _, _, T => T

theorem setPs_sim {E : Env} : ∀ (ps : List Tmp) {vs : List AV} {ys : List Value} {T : List AV} {X : Array Value}, VRs E vs ys → VRs E T X.toList →
    VRs E (setPs ps vs T) (((ps.zip ys).foldl (fun t (p, v) => t.setIfInBounds p v) X).toList)
  | [], vs, ys, T, X, _, hT => by cases vs <;> exact hT
  | p :: ps, [], ys, T, X, hv, hT => by cases hv; exact hT
  | p :: ps, v :: vs, ys, T, X, hv, hT => by
    obtain ⟨y, ys', rfl, h1, h2⟩ := hv
    simp only [setPs, List.zip_cons_cons, List.foldl_cons]
    exact setPs_sim ps h2 (by simpa using VRs.set p hT h1)

/-- How a round ends: what yield hands back. -/
def roundA (b : Nat) (K : AV → AH → Prop) : AEx → St → Prop := fun e s =>
  ∃ st pe T' ps as bd d, s.H.get b = some (.loop st pe T' ps as bd d) ∧
  match e with
  | .normal => K (.bool true) (s.H.set b (.loop .ready none T' ps as bd d))
  | .ret => K (.bool false) (s.H.set b (.loop .done (some .ret) T' ps as bd d))
  | .exit id => K (.bool false) (s.H.set b (.loop .done (some (.exit id)) T' ps as bd d))
  | .goto l => K (.bool false) (s.H.set b (.loop .done (some (.goto l)) T' ps as bd d))

theorem HR.loop {E : Env} {B : Bnd} {w : World} (hH : HR P E B H w) {b : Nat} {L : Loc} (hL : E b = some L) {st : LoopState} {pe : Option Code} {T' : List AV} {ps : Array Tmp} {as bd : Code} {d : Nat}
    (hb : H.get b = some (.loop st pe T' ps as bd d)) : ∃ rec : Loop, w.heap[L.blk]? = some (.loop rec) ∧ rec.state = st ∧ rec.pending = pe ∧ rec.params = ps ∧ rec.assign = as ∧ rec.body = bd ∧ VRs E T' rec.tmps.toList ∧
      ∀ st' pe', HR P E B (H.set b (.loop st' pe' T' ps as bd d)) (w.putObj L.blk (.loop { rec with state := st', pending := pe' })) ∧ Below B w (w.putObj L.blk (.loop { rec with state := st', pending := pe' })) := by
  obtain ⟨L', hL', ho⟩ := hH.obj _ _ hb
  rw [hL] at hL'; cases hL'
  obtain ⟨fn, tmps, Ld, h1, h2, h3, h4⟩ := ho
  refine ⟨_, h1, rfl, rfl, rfl, rfl, rfl, h2, fun st' pe' => ⟨hH.turn hb hL rfl ⟨fn, tmps, Ld, World.putObj_heap_same (Array.getElem?_eq_some_iff.1 h1).1, h2, h3, h4⟩, Below.putObj (Below.refl B w) h4 _⟩⟩

/-- A call of yield: a round of the loop. -/
theorem AOp.yield {dst : Option Tmp} {f : Operand} {xs : Array Operand} {ts : Array TypeId} {ty : TypeId} {pos : String} {after : Array Edge} {guard : Option (Nat × Bool)} {b : Nat} {vs : List AV}
    {st : LoopState} {pe : Option Code} {T' : List AV} {ps : Array Tmp} {as bd : Code} {d : Nat}
    (hf : ev P T f = some (.yld b)) (hx : evs P T xs.toList = some vs) (hb : H.get b = some (.loop st pe T' ps as bd d)) (hl : vs.length = ps.size)
    (h : AWp P (some b) as (thenA (fun s => ∃ pe' T₁ ps₁ as₁ bd₁ d₁, s.H.get b = some (.loop .ready pe' T₁ ps₁ as₁ bd₁ d₁) ∧
      AWp P (some b) bd (roundA b K) ⟨s.T, s.M, s.H.set b (.loop .busy pe' T₁ ps₁ as₁ bd₁ d₁)⟩) (fun _ _ => False)) ⟨setPs ps.toList vs T', [], H⟩) :
    AOp P r ⟨dst, .call { callee := .value f, args := xs, argTypes := ts }, ty, pos, after, guard⟩ T H K := by
  intro E B w a rc next Q' hH hT hr hn
  refine ⟨fun _ _ => trivial, ?_⟩
  rw [semAt_plain rc _ _ (by simp)]
  have h1 := evals_ok (a := a) (fun y hy => hT y (by simp [Op.operands, Call.operands]; right; simpa using hy)) hx
  obtain ⟨L, hL, h2⟩ := hT f (by simp [Op.operands, Call.operands]) _ hf
  obtain ⟨rec, hrec, rfl, rfl, rfl, rfl, rfl, hT', hset⟩ := hH.loop hL hb
  have hsz : (xs.map a.eval).size = rec.params.size := by rw [← hl, h1.length]; simp
  have he : (execOp a.eval ⟨dst, .call { callee := .value f, args := xs, argTypes := ts }, ty, pos, after, guard⟩).run P w =
      .ok (.round L.blk rec.fn ((rec.params.zip (xs.map a.eval)).foldl (fun tmps (t, a) => tmps.setIfInBounds t a) rec.tmps) rec.assign rec.body) w := by
    simp only [execOp, Sem.run_bind, run_resolve_value h2, Result.andThen_ok, invoke]
    have := run_yield (P := P) (w := w) (args := xs.map a.eval) hrec hsz
    simpa using this
  rw [he, Oper.uponIn_round]
  refine ⟨fun h => by simp [Fr, Fence.wide] at h, roundIn_of_wpIn trivial ?_⟩
  have hTs : VRs E (setPs rec.params.toList vs T') ((rec.params.zip (xs.map a.eval)).foldl (fun tmps (t, a) => tmps.setIfInBounds t a) rec.tmps).toList := by
    have := setPs_sim rec.params.toList h1 hT'
    rw [← Array.foldl_toList, Array.toList_zip]
    simpa using this
  have hw := h E B w ⟨(rec.params.zip (xs.map a.eval)).foldl (fun tmps (t, a) => tmps.setIfInBounds t a) rec.tmps, []⟩ (some L.blk) ⟨hH, hTs, rfl⟩ ⟨L, hL, rfl⟩
  refine Go.wpIn_mono (show Code.wpIn ((Fr rc).inRound L.blk) 0 P _ _ _ _ from hw) ?_
  rintro e a₁ w₁ ⟨ae, s₁, E₁, rfl, hq, hE₁, hs₁, hb₁⟩
  cases ae with
  | normal =>
    obtain ⟨pe', T₁, ps₁, as₁, bd₁, d₁, hb', hbody⟩ := hq
    obtain ⟨rec₁, hrec₁, e1, e2, e3, e4, e5, hT₁, hset₁⟩ := hs₁.heap.loop (hE₁ _ _ hL) hb'
    obtain ⟨hH₂, hb₂⟩ := hset₁ .busy pe'
    refine ⟨_, run_beginRound hrec₁ e1, ?_⟩
    have ee : ({ rec₁ with state := .busy } : Loop) = { rec₁ with state := .busy, pending := pe' } := by rw [← e2]
    rw [ee]
    have hw₂ := hbody E₁ B _ a₁ (some L.blk) ⟨hH₂, hs₁.tmps, hs₁.marks⟩ ⟨L, hE₁ _ _ hL, rfl⟩
    refine Go.wpIn_mono (show Code.wpIn ((Fr rc).inRound L.blk) 0 P _ _ _ _ from hw₂) ?_
    rintro e a₂ w₂ ⟨ae, s₂, E₂, rfl, ⟨st₂, pe₂, T₂, ps₂, as₂, bd₂, d₂, hg₂, hq₂⟩, hE₂, hs₂, hb₂'⟩
    obtain ⟨rec₂, hrec₂, e1', e2', e3', e4', e5', hT₂, hset₂⟩ := hs₂.heap.loop (hE₂ _ _ (hE₁ _ _ hL)) hg₂
    have hbb : Below B w w₂ := hb₁.trans (hb₂.trans hb₂')
    have fin : ∀ (jump : Option Code) (v : AV), v = .bool jump.isNone → K v (s₂.H.set b (.loop (if jump.isNone then .ready else .done) jump T₂ ps₂ as₂ bd₂ d₂)) →
        ∃ v w', (Instr.endRound L.blk jump).run P w₂ = .ok v w' ∧ next (a.put dst v) w' := by
      intro jump v ev hk
      obtain ⟨hH₃, hb₃⟩ := hset₂ (if jump.isNone then .ready else .done) jump
      exact ⟨_, _, run_endRound jump hrec₂, hn _ _ E₂ _ _ hk (hE₁.trans hE₂) hH₃ (by rw [ev]; rfl) (hbb.trans hb₃)⟩
    cases ae with
    | normal => exact fin none _ rfl hq₂
    | ret => exact fin (some .ret) _ rfl hq₂
    | exit id => exact fin (some (.exit id)) _ rfl hq₂
    | goto l => exact fin (some (.goto l)) _ rfl hq₂
  | exit id => exact hq.elim
  | goto l => exact hq.elim
  | ret => exact hq.elim

end

/-! ### A region in its own order -/
section
variable {P : Program} {r : Option Nat}

def AOps (P : Program) (r : Option Nat) (ops : Array Oper) (K : List AV → AH → Prop) : List Oper → List AV → AH → Prop
  | [], T, H => K T H
  | o :: l, T, H => (wantedV ops T o = some true ∧ AOp P r o T H fun v H' => AOps P r ops K l (putT T o.dst v) H') ∨ (wantedV ops T o = some false ∧ AOps P r ops K l (putT T o.dst .undef) H)

theorem AOps.sim {ops : Array Oper} {K : List AV → AH → Prop} {B : Bnd} {M : List Nat} {rc : Option Nat} {Qc : Exit → Act → World → Prop} : ∀ {l : List Oper} {T : List AV} {H : AH} {E : Env} {a : Act} {w : World},
    AOps P r ops K l T H → HR P E B H w → VRs E T a.tmps.toList → MR E M a.defers → RR E r rc →
    (∀ T' H' E' a' w', K T' H' → E.le E' → HR P E' B H' w' → VRs E' T' a'.tmps.toList → MR E' M a'.defers → Below B w w' → Qc .normal a' w') → wpListIn (Fr rc) 0 P ops Qc l a w
  | [], T, H, E, a, w, h, hH, hT, hM, hr, hq => hq T H E a w h (Env.le.refl E) hH hT hM (Below.refl B w)
  | o :: l, T, H, E, a, w, h, hH, hT, hM, hr, hq => by
    rcases h with ⟨hw, h⟩ | ⟨hw, h⟩
    · have := wanted_sim (a := a) hT hw
      simp only [wpListIn, this, if_true]
      refine h E B w a rc _ Qc hH (OpsOk.of hH hT _) hr ?_
      intro v H' E' w' x hk hE hH' hv hb
      exact AOps.sim hk hH' ((VRs.mono hE _ _ hT).put o.dst hv) (by rw [put_defers]; exact hM.mono hE) (hr.mono hE)
        fun T' H'' E'' a' w'' hk' hE' h1 h2 h3 h4 => hq T' H'' E'' a' w'' hk' (hE.trans hE') h1 h2 h3 (hb.trans h4)
    · have := wanted_sim (a := a) hT hw
      simp only [wpListIn, this, Bool.false_eq_true, if_false]
      refine ⟨fun _ _ => trivial, ?_⟩
      exact AOps.sim h hH (hT.put o.dst (v := .undef) (x := undef) ⟨#[], rfl, rfl⟩) (by rw [put_defers]; exact hM) hr hq

theorem AWp.region {id : Nat} {ops : Array Oper} {Q : AEx → St → Prop} {s : St} (h : AOps P r ops (fun T H => Q .normal ⟨T, s.M, H⟩) ops.toList s.T s.H) : AWp P r (.region id ops false) Q s := by
  intro E B w a rc hs hr
  refine wpIn_region_list (h.sim hs.heap hs.tmps hs.marks hr ?_)
  intro T' H' E' a' w' hq hE h1 h2 h3 h4
  exact ⟨.normal, ⟨T', s.M, H'⟩, E', rfl, hq, hE, ⟨h1, h2, h3⟩, h4⟩
end

end Go.Am
end

/- The abstract machine: a range over a function; a function out of its body. -/
section
namespace Go.Am
open Go.RowKit

section
variable {P : Program} {Q : AEx → St → Prop} {s : St}

/-- What is asked when the function that was ranged over has returned. -/
def rangeA (P : Program) (r : Option Nat) (l : Nat) (T : List AV) (M : List Nat) (Q : AEx → St → Prop) : AV → AH → Prop := fun _ H' =>
  ∃ st pe T' ps as bd d, H'.get l = some (.loop st pe T' ps as bd d) ∧ st ≠ .busy ∧
    match pe with
    | none => Q .normal ⟨T, M, H'.set l .dead⟩
    | some c => AWp P r c Q ⟨T, M, H'.set l .dead⟩

theorem rangeA_sim {r rc : Option Nat} {l : Nat} {T : List AV} {M : List Nat} {v : AV} {H' : AH} (h : rangeA P r l T M Q v H')
    {E E' : Env} {B : Bnd} {w w' : World} {a : Act} {L : Loc} (hL : E' l = some L) (hE : E.le E') (hH : HR P E' B H' w') (hT : VRs E' T a.tmps.toList) (hM : MR E' M a.defers) (hr : RR E' r rc) (hb : Below B w w') (u : Value) :
    rangePost (Fr rc) 0 P L.blk (APost P E B w Q) a (.returned u) w' := by
  obtain ⟨st, pe, T', ps, as, bd, d, hg, hne, hpe⟩ := h
  obtain ⟨rec, hrec, rfl, rfl, rfl, rfl, rfl, hT', hset⟩ := hH.loop hL hg
  have hBl : ¬ B L.blk := by
    obtain ⟨L', hL', ho⟩ := hH.obj _ _ hg
    rw [hL] at hL'; cases hL'
    obtain ⟨_, _, _, _, _, _, h4⟩ := ho
    exact h4
  have hH'' : HR P E' B (H'.set l .dead) (w'.putObj L.blk (.loop { rec with state := .exhausted })) := hH.turn hg hL rfl trivial
  have hb' : Below B w (w'.putObj L.blk (.loop { rec with state := .exhausted })) := Below.putObj hb hBl _
  refine ⟨_, _, run_endLoop hrec hne, ?_⟩
  generalize (w'.putObj L.blk (.loop { rec with state := .exhausted })) = W2 at hH'' hb'
  cases hp : rec.pending with
  | none =>
    rw [hp] at hpe
    exact ⟨.normal, _, E', rfl, hpe, hE, ⟨hH'', hT, hM⟩, hb'⟩
  | some c =>
    rw [hp] at hpe
    exact Go.wpIn_mono (hpe E' B _ a rc ⟨hH'', hT, hM⟩ hr) fun e a w h => h.trans hE hb'

/-- A range over a function, outside a round. -/
theorem AWp.rangeFunc {g : Operand} {ps : Array Tmp} {as bd : Code} {gf : FuncId} {x y : List AV} (hgo : Goes P gf) (hg : ev P s.T g = some (.func (.func gf) x y))
    (h : ACall P gf (x ++ [.yld (s.H.n + 1)] ++ y) ((s.H.alloc .deferred).alloc (.loop .ready none s.T ps as bd s.H.n)) (rangeA P none (s.H.n + 1) s.T (s.H.n :: s.M) Q)) :
    AWp P none (.rangeFunc g ps as bd) Q s := by
  intro E B w a rc hs hr
  obtain rfl : rc = none := hr
  obtain ⟨x', y', h2, h3, h4⟩ := eval_sim hs.heap hs.tmps hg
  refine wpIn_rangeFunc fun fn _ => ?_
  obtain ⟨W0, hW0⟩ : ∃ W0, w.alloc (.deferred (some [])) = W0 := ⟨_, rfl⟩
  have hs0 : W0.heap.size = w.heap.size + 1 := by rw [← hW0]; simp
  have hH0 : HR P (E.put s.H.n ⟨w.heap.size, 0, 0, 0, 0⟩) B (s.H.alloc .deferred) W0 := by
    rw [← hW0]
    exact hs.heap.alloc rfl ⟨World.alloc_heap_new w _, hs.heap.fresh⟩
  have hE0 : E.le (E.put s.H.n ⟨w.heap.size, 0, 0, 0, 0⟩) := hs.heap.put_le _
  generalize hE0' : E.put s.H.n ⟨w.heap.size, 0, 0, 0, 0⟩ = E0 at hH0 hE0
  have hEd : E0 s.H.n = some ⟨w.heap.size, 0, 0, 0, 0⟩ := by rw [← hE0']; simp [Env.put]
  have hE1 : E0.le (E0.put (s.H.n + 1) ⟨W0.heap.size, 0, 0, 0, 0⟩) := hH0.put_le ⟨W0.heap.size, 0, 0, 0, 0⟩
  have hH1 : HR P (E0.put (s.H.n + 1) ⟨W0.heap.size, 0, 0, 0, 0⟩) B ((s.H.alloc .deferred).alloc (.loop .ready none s.T ps as bd s.H.n))
      (W0.alloc (.loop { state := .ready, pending := none, fn, tmps := a.tmps, params := ps, assign := as, body := bd, defers := w.heap.size })) :=
    hH0.alloc rfl ⟨fn, a.tmps, ⟨w.heap.size, 0, 0, 0, 0⟩, World.alloc_heap_new W0 _, VRs.mono (hE0.trans hE1) _ _ hs.tmps, hE1 _ _ hEd, hH0.fresh⟩
  generalize hE1' : E0.put (s.H.n + 1) ⟨W0.heap.size, 0, 0, 0, 0⟩ = E1 at hH1 hE1
  have hEl : E1 (s.H.n + 1) = some ⟨W0.heap.size, 0, 0, 0, 0⟩ := by rw [← hE1']; simp [Env.put]
  generalize hW1 : W0.alloc (.loop { state := .ready, pending := none, fn, tmps := a.tmps, params := ps, assign := as, body := bd, defers := w.heap.size }) = W1 at hH1
  have hb1 : Below B w W1 := by
    rw [← hW1, ← hW0]
    exact ((Below.refl B w).alloc hs.heap.base _).alloc (fun k hk => by have := hs.heap.base k hk; simp; omega) _
  have hE := hE0.trans hE1
  refine ⟨W0.heap.size, [{ target := .collected w.heap.size, args := #[] }], W1, { target := .fn (.func gf) y', args := x' ++ #[.func (.yield W0.heap.size) #[] #[]] }, W1, gf,
    x' ++ #[.func (.yield W0.heap.size) #[] #[]] ++ y', W1, ?_, ?_, fun _ _ => trivial, ?_, fun h => by simp [Fr, Fence.wide] at h, callsIn_fr.2 (Calls.mono (h E1 B W1 _ hH1 ?_) ?_)⟩
  · rw [hs0, ← hW1, ← hW0]
    exact run_enterLoop_outer fn a.tmps ps as bd
  · have := run_resolve_value (P := P) h2 #[.const (.func (.yield W0.heap.size) #[] #[])] #[] 0 W1
    simpa [Act.eval] using this
  · simp only [invoke]; exact hgo _ _
  · have : VRs E1 [.yld (s.H.n + 1)] [Value.func (.yield W0.heap.size) #[] #[]] := ⟨_, _, rfl, ⟨_, hEl, rfl⟩, rfl⟩
    simpa using ((VRs.mono hE _ _ h3).append this).append (VRs.mono hE _ _ h4)
  · rintro e w' ⟨v, H', E', u, rfl, hq, hE', hH', _, hb⟩
    refine rangeA_sim (a := { a with defers := [{ target := .collected w.heap.size, args := #[] }] ++ a.defers }) hq (hE' _ _ hEl) (hE.trans hE') hH' (VRs.mono (hE.trans hE') _ _ hs.tmps) ?_ rfl (hb1.trans hb) u
    exact ⟨_, _, hE' _ _ (hE1 _ _ hEd), rfl, hs.marks.mono (hE.trans hE')⟩

/-- A range over a function, in a round of another. -/
theorem AWp.rangeFunc_in {b₀ : Nat} {g : Operand} {ps : Array Tmp} {as bd : Code} {gf : FuncId} {x y : List AV} {st₀ : LoopState} {pe₀ : Option Code} {T₀ : List AV} {ps₀ : Array Tmp} {as₀ bd₀ : Code} {d₀ : Nat}
    (hb₀ : s.H.get b₀ = some (.loop st₀ pe₀ T₀ ps₀ as₀ bd₀ d₀)) (hgo : Goes P gf) (hg : ev P s.T g = some (.func (.func gf) x y))
    (h : ACall P gf (x ++ [.yld s.H.n] ++ y) (s.H.alloc (.loop .ready none s.T ps as bd d₀)) (rangeA P (some b₀) s.H.n s.T s.M Q)) :
    AWp P (some b₀) (.rangeFunc g ps as bd) Q s := by
  intro E B w a rc hs hr
  have hr₀ := hr
  obtain ⟨L₀, hL₀, rfl⟩ := hr
  obtain ⟨x', y', h2, h3, h4⟩ := eval_sim hs.heap hs.tmps hg
  obtain ⟨L₀', hL₀', fn₀, tmps₀, Ld, hrec₀, _, hLd, _⟩ := hs.heap.obj _ _ hb₀
  rw [hL₀] at hL₀'; cases hL₀'
  refine wpIn_rangeFunc fun fn _ => ?_
  have hE1 : E.le (E.put s.H.n ⟨w.heap.size, 0, 0, 0, 0⟩) := hs.heap.put_le ⟨w.heap.size, 0, 0, 0, 0⟩
  have hH1 : HR P (E.put s.H.n ⟨w.heap.size, 0, 0, 0, 0⟩) B (s.H.alloc (.loop .ready none s.T ps as bd d₀))
      (w.alloc (.loop { state := .ready, pending := none, fn, tmps := a.tmps, params := ps, assign := as, body := bd, defers := Ld.blk })) :=
    hs.heap.alloc rfl ⟨fn, a.tmps, Ld, World.alloc_heap_new w _, VRs.mono hE1 _ _ hs.tmps, hE1 _ _ hLd, hs.heap.fresh⟩
  generalize hE1' : E.put s.H.n ⟨w.heap.size, 0, 0, 0, 0⟩ = E1 at hH1 hE1
  have hEl : E1 s.H.n = some ⟨w.heap.size, 0, 0, 0, 0⟩ := by rw [← hE1']; simp [Env.put]
  generalize hW1 : w.alloc (.loop { state := .ready, pending := none, fn, tmps := a.tmps, params := ps, assign := as, body := bd, defers := Ld.blk }) = W1 at hH1
  have hb1 : Below B w W1 := by rw [← hW1]; exact (Below.refl B w).alloc hs.heap.base _
  refine ⟨w.heap.size, [], W1, { target := .fn (.func gf) y', args := x' ++ #[.func (.yield w.heap.size) #[] #[]] }, W1, gf,
    x' ++ #[.func (.yield w.heap.size) #[] #[]] ++ y', W1, ?_, ?_, fun _ _ => trivial, ?_, fun h => by simp [Fr, Fence.wide] at h, callsIn_fr.2 (Calls.mono (h E1 B W1 _ hH1 ?_) ?_)⟩
  · rw [← hW1]
    show (Instr.enterLoop fn a.tmps ps as bd (some L₀.blk)).run P w = _
    unfold Instr.enterLoop
    simp only [Sem.run_bind, run_getLoop hrec₀, run_newObj_alloc, Result.andThen, Sem.run_pure]
  · have := run_resolve_value (P := P) h2 #[.const (.func (.yield w.heap.size) #[] #[])] #[] 0 W1
    simpa [Act.eval] using this
  · simp only [invoke]; exact hgo _ _
  · have : VRs E1 [.yld s.H.n] [Value.func (.yield w.heap.size) #[] #[]] := ⟨_, _, rfl, ⟨_, hEl, rfl⟩, rfl⟩
    simpa using ((VRs.mono hE1 _ _ h3).append this).append (VRs.mono hE1 _ _ h4)
  · rintro e w' ⟨v, H', E', u, rfl, hq, hE', hH', _, hb⟩
    exact rangeA_sim (a := { a with defers := [] ++ a.defers }) hq (hE' _ _ hEl) (hE1.trans hE') hH' (VRs.mono (hE1.trans hE') _ _ hs.tmps) (hs.marks.mono (hE1.trans hE')) (hr₀.mono (hE1.trans hE')) (hb1.trans hb) u

end

/-! ### A function -/
section
variable {P : Program}

def takeMarks : List Nat → AH → Option AH
  | [], H => some H
  | m :: ms, H =>
    match H.get m with
    | some .deferred => takeMarks ms (H.set m .dead)
    | _ => none

def resVs (P : Program) (T : List AV) (H : AH) : List ResultVar → Option (List AV)
  | [] => some []
  | .tmp t :: l => (resVs P T H l).map ((T[t]?).getD .undef :: ·)
  | .cell a t :: l => (loadV P H t ((T[a]?).getD .undef)).bind fun v => (resVs P T H l).map (v :: ·)

def oneOf : List AV → AV
  | [v] => v
  | vs => .tuple vs

def retA (P : Program) (fn : Func) (Q : AV → AH → Prop) : AEx → St → Prop := fun e s =>
  (e = .normal ∨ e = .ret) ∧ ∃ H' vs, takeMarks s.M s.H = some H' ∧ resVs P s.T H' fn.results.toList = some vs ∧ Q (oneOf vs) H'

theorem VRs.getD {E : Env} {T : List AV} {X : Array Value} (h : VRs E T X.toList) (t : Nat) : VR E ((T[t]?).getD .undef) (X.getD t undef) := by
  cases hT : T[t]? with
  | none =>
    have : X[t]? = none := by
      rw [← Array.getElem?_toList, List.getElem?_eq_none_iff, ← h.length]; exact List.getElem?_eq_none_iff.1 hT
    rw [Array.getD_eq_getD_getElem?, this]
    exact ⟨#[], rfl, rfl⟩
  | some v =>
    obtain ⟨y, hy, hv⟩ := h.get hT
    rw [Array.getElem?_toList] at hy
    rw [Array.getD_eq_getD_getElem?, hy]
    exact hv

theorem run_loadVar {E : Env} {B : Bnd} {H : AH} {w : World} (h : HR P E B H w) {t : TypeId} {a v : AV} {x : Value} (hv : loadV P H t a = some v) (hx : VR E a x) :
    Got P E w v (do loadVar t (← asAddr x)) := by
  unfold loadV at hv
  split at hv
  · rename_i b o
    obtain ⟨L, hL, rfl⟩ := hx
    split at hv
    · rename_i ha
      obtain ⟨s, hs, hv⟩ := Option.bind_eq_some_iff.1 hv
      obtain ⟨vs, hr, rfl⟩ := Option.map_eq_some_iff.1 hv
      obtain ⟨L', ys, hL', hys, hrun⟩ := run_read h hr
      rw [hL] at hL'; cases hL'
      exact ⟨.agg ys.toArray, by simp [asAddr, loadVar, run_isAgg ha, run_sizeOf' hs, hrun], _, rfl, by simpa using hys⟩
    · rename_i ha
      obtain ⟨L', y, hL', hy, hc⟩ := run_read1 h hv
      rw [hL] at hL'; cases hL'
      exact ⟨y, by simp [asAddr, loadVar, run_isAgg ha, hc], hy⟩
    · cases hv
  · cases hv

def resOf (X : Array Value) : ResultVar → Sem Value
  | .tmp t => pure (X.getD t undef)
  | .cell a t => do loadVar t (← asAddr (X.getD a undef))

theorem run_results {E : Env} {B : Bnd} {H : AH} {w : World} (h : HR P E B H w) {fn : Func} {T : List AV} {X : Array Value} {vs : List AV} (hT : VRs E T X.toList) (hv : resVs P T H fn.results.toList = some vs) :
    Got P E w (oneOf vs) (results fn X) := by
  have key : ∀ (l : List ResultVar) (vs : List AV), resVs P T H l = some vs → ∃ ys : List Value, VRs E vs ys ∧
      (l.mapM (resOf X)).run P w = .ok ys w := by
    intro l
    induction l with
    | nil => intro vs hv; simp only [resVs, Option.some.injEq] at hv; subst hv; exact ⟨[], rfl, by simp⟩
    | cons rv l ih =>
      intro vs hv
      cases rv with
      | tmp t =>
        obtain ⟨us, hu, rfl⟩ := Option.map_eq_some_iff.1 hv
        obtain ⟨ys, hys, hrun⟩ := ih us hu
        refine ⟨_ :: ys, VRs.cons (hT.getD t) hys, ?_⟩
        rw [List.mapM_cons, Sem.run_bind, show (resOf X (.tmp t)).run P w = .ok (X.getD t undef) w from rfl, Result.andThen_ok, Sem.run_bind, hrun]
        rfl
      | cell a t =>
        obtain ⟨v, hv1, hv⟩ := Option.bind_eq_some_iff.1 hv
        obtain ⟨us, hu, rfl⟩ := Option.map_eq_some_iff.1 hv
        obtain ⟨ys, hys, hrun⟩ := ih us hu
        obtain ⟨y, hy, hyv⟩ := run_loadVar h hv1 (hT.getD a)
        refine ⟨y :: ys, VRs.cons hyv hys, ?_⟩
        rw [List.mapM_cons, Sem.run_bind, show (resOf X (.cell a t)).run P w = .ok y w from hy, Result.andThen_ok, Sem.run_bind, hrun]
        rfl
  obtain ⟨ys, hys, hrun⟩ := key _ _ hv
  have hl := hys.length
  refine ⟨if h : ys.toArray.size = 1 then ys.toArray[0] else .tuple ys.toArray, ?_, ?_⟩
  · have h1 : (fn.results.mapM (resOf X)).run P w = .ok ys.toArray w := by
      rw [Array.mapM_eq_mapM_toList, ← bind_pure_comp, Sem.run_bind, hrun]; rfl
    show (do let vs ← fn.results.mapM (resOf X); pure (if h : vs.size = 1 then vs[0] else .tuple vs)).run P w = _
    rw [Sem.run_bind, h1]
    rfl
  · match vs, ys, hys, hl with
    | [v], [y], hys, _ => obtain ⟨y', ys', e, h1, _⟩ := hys; cases e; simpa [oneOf] using h1
    | [], [], hys, _ => exact ⟨#[], by simp, rfl⟩
    | v :: v' :: vs, y :: y' :: ys, hys, _ => exact ⟨_, by simp; rfl, by simpa using hys⟩

theorem leaves_sim {fn : Func} {B : Bnd} {R : Ending → World → Prop} {T : List AV} {X : Array Value} {vs : List AV} : ∀ {M : List Nat} {ds : List Deferred} {E : Env} {H H' : AH} {w : World},
    HR P E B H w → VRs E T X.toList → MR E M ds → takeMarks M H = some H' → resVs P T H' fn.results.toList = some vs →
    (∀ w' x, HR P E B H' w' → VR E (oneOf vs) x → Below B w w' → R (.returned x) w') → LeavesInM (Fr none) 0 P fn X R ds .returning w
  | [], ds, E, H, H', w, hH, hT, hM, ht, hv, hR => by
    obtain rfl : ds = [] := hM
    simp only [takeMarks, Option.some.injEq] at ht
    subst ht
    obtain ⟨x, hx, hxv⟩ := run_results hH hT hv
    exact ⟨x, hx, hR w x hH hxv (Below.refl B w)⟩
  | m :: M, ds, E, H, H', w, hH, hT, hM, ht, hv, hR => by
    obtain ⟨L, ds', hL, rfl, hM'⟩ := hM
    simp only [takeMarks] at ht
    split at ht
    · rename_i hg
      obtain ⟨L', hL', ho⟩ := hH.obj _ _ hg
      rw [hL] at hL'; cases hL'
      have hH' : HR P E B (H.set m .dead) (w.putObj L.blk (.deferred none)) := hH.turn hg hL rfl trivial
      refine ⟨by simp, .inl ⟨L.blk, _, rfl, run_takeDeferred ho.1, leaves_sim hH' hT hM' ht hv fun w' x h1 h2 h3 => hR w' x h1 h2 ((Below.putObj (Below.refl B w) ho.2 _).trans h3)⟩⟩
    · cases ht

/-- A function, out of its body. -/
theorem ACall.body {f : FuncId} {fn : Func} {c : Code} {args : List AV} {H : AH} {Q : AV → AH → Prop} (hf : P.funcs[f]? = some fn) (hb : fn.body = some c)
    (h : AWp P none c (retA P fn Q) ⟨args ++ List.replicate (fn.ntmps - args.length) .undef, [], H⟩) : ACall P f args H Q := by
  intro E B w args' hH ha
  refine callsIn_fr (rc := none) (n := 0) |>.1 (callsIn_of_wp_marks hf hb trivial ?_)
  have hT : VRs E (args ++ List.replicate (fn.ntmps - args.length) .undef) (args' ++ Array.replicate (fn.ntmps - args'.size) undef).toList := by
    have hl : args.length = args'.size := by simpa using ha.length
    rw [hl]
    simpa using ha.append (VRs.replicate (x := .undef) (y := undef) ⟨#[], rfl, rfl⟩ (fn.ntmps - args'.size))
  refine Go.wpIn_mono (h E B w ⟨args' ++ Array.replicate (fn.ntmps - args'.size) undef, []⟩ none ⟨hH, hT, rfl⟩ rfl) ?_
  rintro e a' w' ⟨ae, s', E', rfl, ⟨he, H', vs, h1, h2, h3⟩, hE, hs, hb⟩
  have := leaves_sim (fn := fn) (R := fun e w' => ∃ v H' E' x, e = .returned x ∧ Q v H' ∧ E.le E' ∧ HR P E' B H' w' ∧ VR E' v x ∧ Below B w w') hs.heap hs.tmps hs.marks h1 h2
    fun w'' x hH'' hx hb' => ⟨_, H', E', x, rfl, h3, hE, hH'', hx, hb.trans hb'⟩
  rcases he with rfl | rfl <;> exact this
end

end Go.Am
end

/- The abstract machine: a region that draws its order. -/
section
namespace Go.Am
open Go.RowKit

section congr
variable {P : Program} {r : Option Nat} {T T' : List AV}

theorem evs_congr : ∀ {xs : List Operand}, (∀ x ∈ xs, ev P T x = ev P T' x) → evs P T xs = evs P T' xs
  | [], _ => rfl
  | x :: xs, h => by simp only [evs, h x (by simp), evs_congr (xs := xs) fun y hy => h y (by simp [hy])]

theorem evo_congr {x : Option Operand} (h : ∀ y, x = some y → ev P T y = ev P T' y) : evo P T x = evo P T' x := by
  cases x with
  | none => rfl
  | some x => simp only [evo, h x rfl]

theorem evp_congr : ∀ {xs : List (Nat × Operand)}, (∀ p ∈ xs, ev P T p.2 = ev P T' p.2) → evp P T xs = evp P T' xs
  | [], _ => rfl
  | (i, x) :: xs, h => by simp only [evp, h (i, x) (by simp), evp_congr (xs := xs) fun y hy => h y (by simp [hy])]

theorem opV_congr {o : Oper} (H : AH) (h : ∀ x ∈ o.op.operands, ev P T x = ev P T' x) : opV P T H o = opV P T' H o := by
  obtain ⟨dst, op, ty, pos, after, guard⟩ := o
  simp only at h
  cases op <;> simp only [opV]
  case build t ps => rw [evp_congr (T' := T') fun p hp => h p.2 (by simp only [Op.operands, List.mem_toArray, List.mem_map]; exact ⟨p, hp, rfl⟩)]
  case buildSlice t n ps => rw [evp_congr (T' := T') fun p hp => h p.2 (by simp only [Op.operands, List.mem_toArray, List.mem_map]; exact ⟨p, hp, rfl⟩)]
  case makeFunc f xs ys =>
    rw [evs_congr (T' := T') fun y hy => h y (by simp [Op.operands]; left; simpa using hy), evs_congr (xs := ys.toList) (T' := T') fun y hy => h y (by simp [Op.operands]; right; simpa using hy)]
  case slice t x lo hi mx =>
    rw [h x (by simp [Op.operands]), evo_congr (x := lo) (T' := T') fun y hy => h y (by subst hy; simp [Op.operands]), evo_congr (x := hi) (T' := T') fun y hy => h y (by subst hy; simp [Op.operands]),
      evo_congr (x := mx) (T' := T') fun y hy => h y (by subst hy; simp [Op.operands])]
  case call c =>
    obtain ⟨callee, args, ts⟩ := c
    cases callee with
    | builtin b =>
      simp only
      rw [evs_congr (T' := T') fun y hy => h y (by simp [Op.operands, Call.operands]; simpa using hy)]
    | value f => rfl
    | invoke x m => rfl
  case next x str => 
    cases str with
    | false => rfl
    | true => simp only []; rw [h x (by simp [Op.operands])]
  all_goals (simp [Op.operands] at h; simp only [h])

theorem AOp.congr {o : Oper} {H : AH} {K : AV → AH → Prop} (h : ∀ x ∈ o.op.operands, ev P T x = ev P T' x) (k : AOp P r o T H K) : AOp P r o T' H K :=
  fun E B w a rc next Q' hH hT hr hn => k E B w a rc next Q' hH (fun x hx v hv => hT x hx v (by rw [← h x hx]; exact hv)) hr hn

theorem ev_put {x : Operand} {dst : Option Tmp} {v : AV} (h : ∀ d, dst = some d → x ≠ .tmp d) : ev P (putT T dst v) x = ev P T x := by
  cases dst with
  | none => rfl
  | some d =>
    cases x with
    | tmp t =>
      have : d ≠ t := fun e => h d rfl (by rw [e])
      simp [ev, putT, this]
    | const c => rfl
    | global g => rfl
    | func f => rfl

theorem ev_put_op {o : Oper} {ops : Array Oper} {dst : Option Tmp} {v : AV} (h : ∀ d, dst = some d → d ∉ o.looksAt ops) : ∀ x ∈ o.op.operands, ev P (putT T dst v) x = ev P T x := fun x hx =>
  ev_put fun d hd hxd => h d hd (by subst hxd; exact List.mem_append_left _ (List.mem_filterMap.2 ⟨.tmp d, by simpa using hx, rfl⟩))

theorem wantedV_put {o : Oper} {ops : Array Oper} {dst : Option Tmp} {v : AV} (h : ∀ d, dst = some d → d ∉ o.looksAt ops) : wantedV ops (putT T dst v) o = wantedV ops T o := by
  cases dst with
  | none => rfl
  | some d =>
    unfold wantedV
    cases hg : o.guard with
    | none => rfl
    | some gw =>
      obtain ⟨g, want⟩ := gw
      cases ht : (ops[g]?).bind (·.dst) with
      | none => simp [ht]
      | some t =>
        have hne : d ≠ t := fun e => h d rfl (by subst e; simp [Oper.looksAt, hg, ht])
        simp [ht, putT, List.getElem?_set, hne]

theorem putT_comm (T : List AV) {x y : Option Tmp} (v u : AV) (h : ∀ d, x = some d → y ≠ some d) : putT (putT T x v) y u = putT (putT T y u) x v := by
  cases x with
  | none => rfl
  | some d =>
    cases y with
    | none => rfl
    | some e =>
      have : d ≠ e := fun k => h d rfl (by rw [k])
      simp only [putT]
      rw [List.set_comm _ _ this]
end congr

section
variable {P : Program} {r : Option Nat} {ops : Array Oper} {md : Region.Mode} {anc : Nat → Nat → Bool}

/-- The operation yields v and leaves the heap. -/
def Stills (P : Program) (ops : Array Oper) (o : Oper) (T : List AV) (H : AH) (v : AV) : Prop :=
  (wantedV ops T o = some false ∧ v = .undef) ∨ (wantedV ops T o = some true ∧ opV P T H o = some (v, H))

theorem Stills.put {o : Oper} {T : List AV} {H : AH} {v : AV} {dst : Option Tmp} {u : AV} (h : ∀ d, dst = some d → d ∉ o.looksAt ops) : Stills P ops o (putT T dst u) H v ↔ Stills P ops o T H v := by
  unfold Stills
  rw [wantedV_put h, opV_congr H (ev_put_op h)]

/-- Operation number i comes up. R: what is asked of the heap behind it, if it acts. -/
def AStep (P : Program) (r : Option Nat) (ops : Array Oper) (R : AH → Prop) (i : Nat) (T : List AV) (H : AH) (K : List AV → AH → Prop) : Prop :=
  match ops[i]? with
  | none => K T H
  | some o => (∃ v, Stills P ops o T H v ∧ K (putT T o.dst v) H) ∨ (wantedV ops T o = some true ∧ AOp P r o T H fun v H' => R H' ∧ K (putT T o.dst v) H')

def AAny (P : Program) (r : Option Nat) (ops : Array Oper) (md : Region.Mode) (R : Nat → AH → Prop) (K : List AV → AH → Prop) : Nat → Array Bool → List AV → AH → Prop
  | 0, listed, T, H => Region.ready md ops listed = [] ∧ K T H
  | fuel + 1, listed, T, H => (Region.ready md ops listed = [] → K T H) ∧ ∀ i ∈ Region.ready md ops listed, AStep P r ops (R i) i T H (AAny P r ops md R K fuel (listed.setIfInBounds i true))

theorem AStep.mono {R R' : AH → Prop} {i : Nat} {T : List AV} {H : AH} {K K' : List AV → AH → Prop} (hR : ∀ H, R H → R' H) (hK : ∀ T H, K T H → K' T H) (h : AStep P r ops R i T H K) : AStep P r ops R' i T H K' := by
  unfold AStep at *
  cases ho : ops[i]? with
  | none => rw [ho] at h; exact hK _ _ h
  | some o =>
    rw [ho] at h
    rcases h with ⟨v, h1, h2⟩ | ⟨h1, h2⟩
    · exact .inl ⟨v, h1, hK _ _ h2⟩
    · exact .inr ⟨h1, h2.mono fun v H' h => ⟨hR _ h.1, hK _ _ h.2⟩⟩

theorem AAny.mono {R R' : Nat → AH → Prop} {K : List AV → AH → Prop} (hR : ∀ j H, R j H → R' j H) : ∀ {fuel : Nat} {listed : Array Bool} {T : List AV} {H : AH}, AAny P r ops md R K fuel listed T H → AAny P r ops md R' K fuel listed T H
  | 0, _, _, _, h => h
  | _ + 1, _, _, _, h => ⟨h.1, fun i hi => (h.2 i hi).mono (hR i) fun _ _ => AAny.mono hR⟩

/-- anc knows of no more than what the edges say. -/
def AncOk (md : Region.Mode) (ops : Array Oper) (anc : Nat → Nat → Bool) : Prop :=
  ∀ j o, ops[j]? = some o → ∀ i, anc j i = true → ∃ e ∈ o.after, Region.binds md e = true ∧ (e.on = i ∨ anc e.on i = true)

def Closed (anc : Nat → Nat → Bool) (listed : Array Bool) : Prop := ∀ j i, listed.getD j false = true → anc j i = true → listed.getD i false = true

theorem Closed.anc_of_ready (hA : AncOk md ops anc) {listed : Array Bool} (hc : Closed anc listed) {j : Nat} (hj : j ∈ Region.ready md ops listed) {i : Nat} (h : anc j i = true) : listed.getD i false = true := by
  obtain ⟨_, o, ho, hall⟩ := mem_ready.1 hj
  obtain ⟨e, he, hb, h'⟩ := hA j o ho i h
  have := hall e he hb
  rcases h' with rfl | h'
  · exact this
  · exact hc _ _ this h'

theorem Closed.list (hA : AncOk md ops anc) {listed : Array Bool} (hc : Closed anc listed) {j : Nat} (hj : j ∈ Region.ready md ops listed) : Closed anc (listed.setIfInBounds j true) := by
  intro k i hk h
  by_cases e : j = k
  · subst e; exact getD_set_true (hc.anc_of_ready hA hj h)
  · rw [getD_set_ne false e] at hk
    exact getD_set_true (hc k i hk h)

theorem AStep.put {R : AH → Prop} {j : Nat} {oi oj : Oper} {v : AV} (hj : ops[j]? = some oj) (hap : oi.apart ops oj = true) {T : List AV} {H : AH} {K : List AV → AH → Prop} {Y : AH → Prop} (hY : Y H)
    (h : AStep P r ops (fun H' => R H' ∧ Y H') j (putT T oi.dst v) H K) : AStep P r ops R j T H (fun T' H' => (∃ u, T' = putT T oj.dst u) ∧ Y H' ∧ K (putT T' oi.dst v) H') := by
  obtain ⟨h1, h2, h3⟩ := Oper.apart_spec hap
  unfold AStep at *
  rw [hj] at h ⊢
  rcases h with ⟨u, hs, hk⟩ | ⟨hw, hk⟩
  · exact .inl ⟨u, (Stills.put h1).1 hs, ⟨u, rfl⟩, hY, by rw [← putT_comm T v u h2]; exact hk⟩
  · rw [wantedV_put h1] at hw
    refine .inr ⟨hw, (hk.congr (ev_put_op h1)).mono fun u H' hu => ⟨hu.1.1, ⟨u, rfl⟩, hu.1.2, ?_⟩⟩
    rw [← putT_comm T v u h2]; exact hu.2

/-- A still operation may be taken first, if what acts before it leaves its value as it is. -/
theorem AAny.first (hA : AncOk md ops anc) {K : List AV → AH → Prop} {i : Nat} {oi : Oper} {v : AV} {T₀ : List AV} (hi : ops[i]? = some oi) : ∀ (fuel : Nat) (R : Nat → AH → Prop) (listed : Array Bool) (T : List AV) (H : AH), Closed anc listed →
    (∀ j oj, ops[j]? = some oj → j ≠ i → listed.getD j true = false → (∀ e ∈ oj.after, Region.binds md e = true → e.on ≠ i) → oi.apart ops oj = true) →
    i ∈ Region.ready md ops listed → (∀ H', Stills P ops oi T H' v ↔ Stills P ops oi T₀ H' v) → Stills P ops oi T₀ H v →
    AAny P r ops md (fun j H' => R j H' ∧ (anc j i = false → Stills P ops oi T₀ H' v)) K fuel (listed.setIfInBounds i true) (putT T oi.dst v) H → AAny P r ops md R K (fuel + 1) listed T H := by
  intro fuel
  induction fuel with
  | zero =>
    intro R listed T H hc hfree hr hT hy H0
    refine ⟨fun h => (by rw [h] at hr; cases hr), fun j hj => ?_⟩
    by_cases hji : j = i
    · subst hji
      unfold AStep; rw [hi]
      exact .inl ⟨v, (hT H).2 hy, AAny.mono (fun _ _ h => h.1) H0⟩
    · have := ready_mono hj hji
      rw [H0.1] at this
      cases this
  | succ fuel ih =>
    intro R listed T H hc hfree hr hT hy H0
    refine ⟨fun h => (by rw [h] at hr; cases hr), fun j hj => ?_⟩
    by_cases hji : j = i
    · subst hji
      unfold AStep; rw [hi]
      exact .inl ⟨v, (hT H).2 hy, AAny.mono (fun _ _ h => h.1) H0⟩
    · have h1 := H0.2 j (ready_mono hj hji)
      obtain ⟨hjun, oj, hoj, hall⟩ := mem_ready.1 hj
      have hiun : listed.getD i false = false := by
        have h0 := (mem_ready.1 hr).1
        rcases Nat.lt_or_ge i listed.size with h' | h'
        · simp [h'] at h0 ⊢; exact h0
        · simp [Array.getElem?_eq_none h'] at h0
      have hanc : anc j i = false := by
        cases e : anc j i with
        | false => rfl
        | true => rw [hc.anc_of_ready hA hj e] at hiun; cases hiun
      have hnot : ∀ e ∈ oj.after, Region.binds md e = true → e.on ≠ i := fun e he hb heq => by
        have h1 := hall e he hb
        rw [heq, hiun] at h1; cases h1
      have hap := hfree j oj hoj hji hjun hnot
      have h2 := AStep.put (R := R j) (Y := fun H' => Stills P ops oi T₀ H' v) hoj hap hy (h1.mono (R' := fun H' => R j H' ∧ Stills P ops oi T₀ H' v) (fun H' h => ⟨h.1, h.2 hanc⟩) fun _ _ h => h)
      have hfree' : ∀ k ok, ops[k]? = some ok → k ≠ i → (listed.setIfInBounds j true).getD k true = false →
          (∀ e ∈ ok.after, Region.binds md e = true → e.on ≠ i) → oi.apart ops ok = true := fun k ok hk hki hun hno => by
        refine hfree k ok hk hki ?_ hno
        by_cases hjk : j = k
        · subst hjk; exact hjun
        · rw [getD_set_ne true hjk] at hun; exact hun
      refine h2.mono (fun _ h => h) ?_
      rintro T' H' ⟨⟨u, rfl⟩, hy', hk⟩
      refine ih R (listed.setIfInBounds j true) _ H' (hc.list hA hj) hfree' (ready_mono hr (Ne.symm hji)) (fun H'' => ?_) hy' ?_
      · rw [Stills.put (Oper.apart_spec hap).2.2]; exact hT H''
      · rw [Array.setIfInBounds_comm _ _ hji]; exact hk

/-! ### The walk -/

/-- Operations that don't ask the heap. -/
def freeOp : Op → Bool
  | .move _ | .assign _ | .pick .. | .build .. | .nilCheck _ | .binOp .. | .unOp .. | .makeInterface .. | .makeFunc .. | .fieldAddr .. | .field .. | .indexAddr .. | .index .. | .typeAssert .. | .extract .. => true
  | _ => false

theorem freeOp_spec {o : Oper} {T : List AV} {H H' : AH} {v : AV} (hf : freeOp o.op = true) (h : opV P T H o = some (v, H)) : opV P T H' o = some (v, H') := by
  obtain ⟨dst, op, ty, pos, after, guard⟩ := o
  have key : ∀ {x : Option AV}, x.map (·, H) = some (v, H) → x.map (·, H') = some (v, H') := fun h => by
    obtain ⟨z, hz, h⟩ := Option.map_eq_some_iff.1 h
    simp only [Prod.mk.injEq, and_true] at h
    subst h; rw [hz]; rfl
  cases op <;> simp only [freeOp, Bool.false_eq_true] at hf <;> simp only [opV] at h ⊢
  case move => exact key h
  case assign => exact key h
  case pick =>
    obtain ⟨z, hz, h⟩ := Option.bind_eq_some_iff.1 h
    rw [hz]; simp only [Option.bind_some]
    split at h
    · exact key h
    · exact key h
    · cases h
  case build => obtain ⟨z, hz, h⟩ := Option.bind_eq_some_iff.1 h; rw [hz]; exact key h
  case nilCheck =>
    obtain ⟨z, hz, h⟩ := Option.bind_eq_some_iff.1 h
    rw [hz]; simp only [Option.bind_some]
    split at h
    all_goals first | (simp only [Option.some.injEq, Prod.mk.injEq, and_true] at h; subst h; rfl) | cases h
  case binOp => obtain ⟨z, hz, h⟩ := Option.bind_eq_some_iff.1 h; obtain ⟨z', hz', h⟩ := Option.bind_eq_some_iff.1 h; rw [hz, Option.bind_some, hz']; exact key h
  case unOp => obtain ⟨z, hz, h⟩ := Option.bind_eq_some_iff.1 h; rw [hz]; exact key h
  case makeInterface =>
    obtain ⟨z, hz, h⟩ := Option.bind_eq_some_iff.1 h
    rw [hz]; simp only [Option.bind_some]
    split at h
    · cases h
    · rename_i d hni hu
      simp only [Option.some.injEq, Prod.mk.injEq, and_true] at h
      subst h
      cases d <;> first | rfl | exact absurd rfl (hni _)
    · cases h
  case makeFunc =>
    obtain ⟨z, hz, h⟩ := Option.bind_eq_some_iff.1 h; obtain ⟨z', hz', h⟩ := Option.bind_eq_some_iff.1 h
    rw [hz, Option.bind_some, hz']
    simp only [Option.some.injEq, Prod.mk.injEq, and_true] at h
    subst h; rfl
  case fieldAddr => obtain ⟨z, hz, h⟩ := Option.bind_eq_some_iff.1 h; rw [hz]; exact key h
  case field => obtain ⟨z, hz, h⟩ := Option.bind_eq_some_iff.1 h; rw [hz]; exact key h
  case indexAddr => obtain ⟨z, hz, h⟩ := Option.bind_eq_some_iff.1 h; obtain ⟨z', hz', h⟩ := Option.bind_eq_some_iff.1 h; rw [hz, Option.bind_some, hz']; exact key h
  case index => obtain ⟨z, hz, h⟩ := Option.bind_eq_some_iff.1 h; obtain ⟨z', hz', h⟩ := Option.bind_eq_some_iff.1 h; rw [hz, Option.bind_some, hz']; exact key h
  case typeAssert => obtain ⟨z, hz, h⟩ := Option.bind_eq_some_iff.1 h; rw [hz]; exact key h
  case extract =>
    obtain ⟨z, hz, h⟩ := Option.bind_eq_some_iff.1 h
    rw [hz]; simp only [Option.bind_some]
    split at h
    · exact key h
    · cases h

abbrev Pend := List (Nat × Oper × List AV × AV)

/-- What the reads that may still be to come in ask of a heap behind an operation that acts. -/
def pendOk (P : Program) (ops : Array Oper) (anc : Nat → Nat → Bool) (i : Nat) (H : AH) (pend : Pend) : Prop := ∀ p ∈ pend, anc i p.1 = false → Stills P ops p.2.1 p.2.2.1 H p.2.2.2

/-- A walk along an order: 0: doesn't ask the heap · 1: leaves the heap · 2: acts. -/
def ADraw (P : Program) (r : Option Nat) (ops : Array Oper) (anc : Nat → Nat → Bool) (K : List AV → AH → Prop) : List (Nat × Nat) → Pend → List AV → AH → Prop
  | [], _, T, H => K T H
  | (i, k) :: σ, pend, T, H => ∃ o, ops[i]? = some o ∧
    if k = 2 then (wantedV ops T o = some false ∧ ADraw P r ops anc K σ pend (putT T o.dst .undef) H) ∨
        (wantedV ops T o = some true ∧ AOp P r o T H fun v H' => pendOk P ops anc i H' pend ∧ ADraw P r ops anc K σ pend (putT T o.dst v) H')
    else ∃ v, Stills P ops o T H v ∧ ADraw P r ops anc K σ (if k = 0 then pend else (i, o, T, v) :: pend) (putT T o.dst v) H

def drawOk (md : Region.Mode) (ops : Array Oper) : List (Nat × Nat) → Array Bool → Bool
  | [], listed => (Region.ready md ops listed).isEmpty
  | (i, k) :: σ, listed =>
    (match ops[i]? with
      | none => false
      | some o => if k = 2 then Region.ready md ops listed == [i] else (Region.ready md ops listed).contains i && Region.free md ops listed i && (k != 0 || freeOp o.op)) && drawOk md ops σ (listed.setIfInBounds i true)

theorem ADraw.any (hA : AncOk md ops anc) {K : List AV → AH → Prop} : ∀ {σ : List (Nat × Nat)} {listed : Array Bool} {pend : Pend} {T : List AV} {H : AH}, drawOk md ops σ listed = true → Closed anc listed → ADraw P r ops anc K σ pend T H →
    AAny P r ops md (fun j H' => pendOk P ops anc j H' pend) K σ.length listed T H
  | [], listed, pend, T, H, hd, _, h => ⟨by simpa [drawOk] using hd, h⟩
  | (i, k) :: σ, listed, pend, T, H, hd, hc, h => by
    obtain ⟨o, ho, h⟩ := h
    simp only [drawOk, ho, Bool.and_eq_true] at hd
    obtain ⟨hd, hd'⟩ := hd
    by_cases hk : k = 2
    · rw [if_pos hk] at hd h
      have hr : Region.ready md ops listed = [i] := by simpa using hd
      refine ⟨fun h => (by rw [hr] at h; cases h), fun j hj => ?_⟩
      have hij : j = i := by rw [hr] at hj; simpa using hj
      subst hij
      have hc' := hc.list hA hj
      unfold AStep; rw [ho]
      rcases h with ⟨hw, h⟩ | ⟨hw, h⟩
      · exact .inl ⟨.undef, .inl ⟨hw, rfl⟩, ADraw.any hA hd' hc' h⟩
      · exact .inr ⟨hw, h.mono fun v H' hv => ⟨hv.1, ADraw.any hA hd' hc' hv.2⟩⟩
    · rw [if_neg hk] at hd h
      simp only [Bool.and_eq_true] at hd
      obtain ⟨⟨hr, hf⟩, hfree⟩ := hd
      obtain ⟨v, hv, h⟩ := h
      have hr' : i ∈ Region.ready md ops listed := by simpa using hr
      refine AAny.first hA (T₀ := T) ho σ.length _ listed T H hc (Region.free_spec ho hf) hr' (fun _ => Iff.rfl) hv ?_
      refine AAny.mono (fun j H' hp => ?_) (ADraw.any hA hd' (hc.list hA hr') h)
      by_cases h0 : k = 0
      · rw [if_pos h0] at hp
        refine ⟨hp, fun _ => ?_⟩
        rcases hv with ⟨hw, e⟩ | ⟨hw, e⟩
        · exact .inl ⟨hw, e⟩
        · exact .inr ⟨hw, freeOp_spec (by simpa [h0] using hfree) e⟩
      · rw [if_neg h0] at hp
        exact ⟨fun p hp' => hp p (List.mem_cons_of_mem _ hp'), hp (i, o, T, v) (by simp)⟩

theorem AAny.sim {R : Nat → AH → Prop} {K : List AV → AH → Prop} {B : Bnd} {M : List Nat} {rc : Option Nat} {Qc : Exit → Act → World → Prop} : ∀ {fuel : Nat} {listed : Array Bool} {T : List AV} {H : AH} {E : Env} {a : Act} {w : World},
    AAny P r ops md R K fuel listed T H → HR P E B H w → VRs E T a.tmps.toList → MR E M a.defers → RR E r rc →
    (∀ T' H' E' a' w', K T' H' → E.le E' → HR P E' B H' w' → VRs E' T' a'.tmps.toList → MR E' M a'.defers → Below B w w' → Qc .normal a' w') → wpAnyIn (Fr rc) 0 P md ops Qc fuel listed a w
  | 0, listed, T, H, E, a, w, h, hH, hT, hM, hr, hq => ⟨h.1, hq T H E a w h.2 (Env.le.refl E) hH hT hM (Below.refl B w)⟩
  | fuel + 1, listed, T, H, E, a, w, h, hH, hT, hM, hr, hq => by
    refine ⟨fun h0 => hq T H E a w (h.1 h0) (Env.le.refl E) hH hT hM (Below.refl B w), fun i hi => ?_⟩
    have hs := h.2 i hi
    unfold AStep at hs
    unfold wpOpIn
    cases ho : ops[i]? with
    | none =>
      rw [ho] at hs
      exact AAny.sim hs hH hT hM hr hq
    | some o =>
      rw [ho] at hs
      have step : ∀ {K' : AV → AH → Prop}, wantedV ops T o = some true → AOp P r o T H K' → (∀ v H', K' v H' → AAny P r ops md R K fuel (listed.setIfInBounds i true) (putT T o.dst v) H') →
          (if Region.wanted o (yielded ops a.tmps) then o.wpIn (Fr rc) 0 P a w (wpAnyIn (Fr rc) 0 P md ops Qc fuel (listed.setIfInBounds i true)) Qc
            else (∀ f, o.about P w a.eval = some f → (Fr rc).fn f) ∧ wpAnyIn (Fr rc) 0 P md ops Qc fuel (listed.setIfInBounds i true) (a.put o.dst undef) w) := by
        intro K' hw hop hK
        rw [if_pos (wanted_sim (a := a) hT hw)]
        refine hop E B w a rc _ Qc hH (OpsOk.of hH hT _) hr ?_
        intro v H' E' w' x hk hE hH' hv hb
        exact AAny.sim (hK v H' hk) hH' ((VRs.mono hE _ _ hT).put o.dst hv) (by rw [put_defers]; exact hM.mono hE) (hr.mono hE)
          fun T' H'' E'' a' w'' hk' hE' h1 h2 h3 h4 => hq T' H'' E'' a' w'' hk' (hE.trans hE') h1 h2 h3 (hb.trans h4)
      rcases hs with ⟨v, ⟨hw, rfl⟩ | ⟨hw, hv⟩, hk⟩ | ⟨hw, hop⟩
      · simp only [wanted_sim (a := a) hT hw, Bool.false_eq_true, if_false]
        refine ⟨fun _ _ => trivial, ?_⟩
        exact AAny.sim hk hH (hT.put o.dst (v := .undef) (x := undef) ⟨#[], rfl, rfl⟩) (by rw [put_defers]; exact hM) hr hq
      · exact step (K' := fun v' H' => v' = v ∧ H' = H) hw (AOp.of_opV hv ⟨rfl, rfl⟩) (by rintro _ _ ⟨rfl, rfl⟩; exact hk)
      · exact step hw hop fun v H' h => h.2

theorem AWp.draw {id : Nat} {σ : List (Nat × Nat)} {Q : AEx → St → Prop} {s : St} (hm : P.follows .mixedOrders = true) (hA : AncOk .any ops anc) (hd : drawOk .any ops σ (Array.replicate ops.size false) = true) (hl : σ.length = ops.size)
    (h : ADraw P r ops anc (fun T H => Q .normal ⟨T, s.M, H⟩) σ [] s.T s.H) : AWp P r (.region id ops true) Q s := by
  intro E B w a rc hs hr
  have hc : Closed anc (Array.replicate ops.size false) := fun j i hj _ => by
    exfalso
    rcases Nat.lt_or_ge j ops.size with h' | h' <;> simp [h'] at hj
  have hb0 : Below B w { w with drawn := w.drawn + 1 } := ⟨rfl, rfl, rfl, Nat.le_refl _, fun _ _ => rfl⟩
  refine wpIn_region_any hm ?_
  rw [← hl]
  rw [← hl] at hd hc
  refine (h.any hA hd hc).sim (hs.heap.world rfl) hs.tmps hs.marks hr ?_
  intro T' H' E' a' w' hq hE h1 h2 h3 h4
  exact ⟨.normal, ⟨T', s.M, H'⟩, E', rfl, hq, hE, ⟨h1, h2, h3⟩, hb0.trans h4⟩

/-! ### The table of what stands before what -/

def ancOf (A : List Nat) (j i : Nat) : Bool := (A[j]?.getD 0).testBit i

def ancB (md : Region.Mode) (ops : Array Oper) (A : List Nat) : Bool :=
  (List.range ops.size).all fun j =>
    match ops[j]? with
    | none => true
    | some o => (A[j]?.getD 0) == o.after.toList.foldl (fun m e => if Region.binds md e then m ||| ((1 <<< e.on) ||| (A[e.on]?.getD 0)) else m) 0

theorem ancB_spec {A : List Nat} (h : ancB md ops A = true) : AncOk md ops (ancOf A) := by
  intro j o ho i hi
  have hj : j < ops.size := (Array.getElem?_eq_some_iff.1 ho).1
  have := List.all_eq_true.1 h j (List.mem_range.2 hj)
  simp only [ho, beq_iff_eq] at this
  unfold ancOf at hi
  rw [this] at hi
  have key : ∀ (l : List Edge) (m : Nat), (l.foldl (fun m e => if Region.binds md e then m ||| ((1 <<< e.on) ||| (A[e.on]?.getD 0)) else m) m).testBit i = true →
      m.testBit i = true ∨ ∃ e ∈ l, Region.binds md e = true ∧ (e.on = i ∨ ancOf A e.on i = true) := by
    intro l
    induction l with
    | nil => intro m h; exact .inl h
    | cons e l ih =>
      intro m h
      rcases ih _ h with h | ⟨e', he', h⟩
      · simp only [] at h
        split at h
        · rename_i hb
          rw [Nat.testBit_or, Nat.testBit_or] at h
          simp only [Bool.or_eq_true] at h
          rcases h with h | h | h
          · exact .inl h
          · refine .inr ⟨e, by simp, hb, .inl ?_⟩
            rw [Nat.one_shiftLeft, Nat.testBit_two_pow] at h
            simpa using h
          · exact .inr ⟨e, by simp, hb, .inr h⟩
        · exact .inl h
      · exact .inr ⟨e', by simp [he'], h⟩
  rcases key _ _ hi with h | ⟨e, he, h⟩
  · simp at h
  · exact ⟨e, by simpa using he, h⟩

end
end Go.Am
end

/- The abstract machine's own run: a program that reckons what a statement, a call leaves. -/
section
namespace Go.Am
open Go.RowKit

/-! ### Equality of values, as far as it is wanted -/
mutual
def beqV : AV → AV → Bool
  | .bool a, .bool b => a == b
  | .int k n, .int l m => decide (k = l) && decide (n = m)
  | .str s, .str t => decide (s = t)
  | .ptr a, .ptr b => decide (a = b)
  | .slice a l c, .slice b m d => decide (a = b) && decide (l = m) && decide (c = d)
  | .nilFunc, .nilFunc => true
  | .nilIface, .nilIface => true
  | .agg a, .agg b => beqVs a b
  | .tuple a, .tuple b => beqVs a b
  | _, _ => false
def beqVs : List AV → List AV → Bool
  | [], [] => true
  | a :: x, b :: y => beqV a b && beqVs x y
  | _, _ => false
end

mutual
theorem beqV_eq : ∀ {a b : AV}, beqV a b = true → a = b
  | .bool a, b, h => by cases b <;> simp_all [beqV]
  | .int k n, b, h => by cases b <;> simp_all [beqV]
  | .str s, b, h => by cases b <;> simp_all [beqV]
  | .ptr a, b, h => by cases b <;> simp_all [beqV]
  | .slice a l c, b, h => by cases b <;> simp_all [beqV]
  | .nilFunc, b, h => by cases b <;> simp_all [beqV]
  | .nilIface, b, h => by cases b <;> simp_all [beqV]
  | .yld _, b, h => by simp [beqV] at h
  | .func _ _ _, b, h => by simp [beqV] at h
  | .iface _ _, b, h => by simp [beqV] at h
  | .any, b, h => by simp [beqV] at h
  | .agg a, b, h => by
    cases b <;> simp only [beqV, Bool.false_eq_true] at h
    rw [beqVs_eq h]
  | .tuple a, b, h => by
    cases b <;> simp only [beqV, Bool.false_eq_true] at h
    rw [beqVs_eq h]
theorem beqVs_eq : ∀ {a b : List AV}, beqVs a b = true → a = b
  | [], [], _ => rfl
  | [], _ :: _, h => by simp [beqVs] at h
  | _ :: _, [], h => by simp [beqVs] at h
  | a :: x, b :: y, h => by
    simp only [beqVs, Bool.and_eq_true] at h
    rw [beqV_eq h.1, beqVs_eq h.2]
end

/-! ### The order of a region -/

/-- Operations that leave the heap (a conversion: where it makes a number). -/
def quietOp : Op → Bool
  | .load .. | .slice .. | .convert .. => true
  | .call ⟨.builtin b, _, _⟩ => match b with | .len | .cap | .min | .max => true | _ => false
  | o => freeOp o

def intB : AV → Bool
  | .int _ _ => true
  | _ => false
def convOk (op : Op) (v : AV) : Bool :=
  match op with
  | .convert .. => intB v
  | _ => true

theorem convV_quiet {P : Program} {H H' : AH} {s d : TypeId} {x v : AV} (h : convV P H s d x = some (v, H')) (hi : intB v = true) : H' = H := by
  unfold convV at h
  split at h
  · cases h; rfl
  · cases h; rfl
  · cases h; rfl
  · split at h
    · split at h
      · cases h; cases hi
      · cases h
    · cases h
  · split at h
    · split at h
      · cases h; rfl
      · cases h
    · cases h
  · split at h
    · split at h
      · cases h; rfl
      · cases h
    · cases h
  · split at h
    · cases h; rfl
    · cases h
  · split at h
    · obtain ⟨z, hz, h⟩ := Option.bind_eq_some_iff.1 h
      obtain ⟨y, hy, h⟩ := Option.map_eq_some_iff.1 h
      cases h; rfl
    · cases h
  · split at h
    · split at h
      · cases h; cases hi
      · cases h
    · cases h
  · cases h

theorem quietOp_spec {P : Program} {o : Oper} {T : List AV} {H H' : AH} {v : AV} (hf : quietOp o.op = true) (h : opV P T H o = some (v, H')) (hi : convOk o.op v = true) : H' = H := by
  obtain ⟨dst, op, ty, pos, after, guard⟩ := o
  have key : ∀ {x : Option AV}, x.map (·, H) = some (v, H') → H' = H := fun h => by
    obtain ⟨z, hz, h⟩ := Option.map_eq_some_iff.1 h
    exact (congrArg Prod.snd h).symm
  cases op <;> simp only [quietOp, freeOp, Bool.false_eq_true] at hf <;> simp only [opV] at h
  case move => exact key h
  case assign => exact key h
  case pick =>
    obtain ⟨z, hz, h⟩ := Option.bind_eq_some_iff.1 h
    split at h
    · exact key h
    · exact key h
    · cases h
  case build => obtain ⟨z, hz, h⟩ := Option.bind_eq_some_iff.1 h; exact key h
  case load => obtain ⟨z, hz, h⟩ := Option.bind_eq_some_iff.1 h; exact key h
  case nilCheck =>
    obtain ⟨z, hz, h⟩ := Option.bind_eq_some_iff.1 h
    split at h
    all_goals first | (simp only [Option.some.injEq, Prod.mk.injEq] at h; exact h.2.symm) | cases h
  case binOp => obtain ⟨z, hz, h⟩ := Option.bind_eq_some_iff.1 h; obtain ⟨z', hz', h⟩ := Option.bind_eq_some_iff.1 h; exact key h
  case convert => obtain ⟨z, hz, h⟩ := Option.bind_eq_some_iff.1 h; exact convV_quiet h hi
  case unOp => obtain ⟨z, hz, h⟩ := Option.bind_eq_some_iff.1 h; exact key h
  case makeInterface =>
    obtain ⟨z, hz, h⟩ := Option.bind_eq_some_iff.1 h
    split at h
    · cases h
    · simp only [Option.some.injEq, Prod.mk.injEq] at h; exact h.2.symm
    · cases h
  case makeFunc =>
    obtain ⟨z, hz, h⟩ := Option.bind_eq_some_iff.1 h; obtain ⟨z', hz', h⟩ := Option.bind_eq_some_iff.1 h
    simp only [Option.some.injEq, Prod.mk.injEq] at h; exact h.2.symm
  case slice =>
    obtain ⟨z, hz, h⟩ := Option.bind_eq_some_iff.1 h; obtain ⟨z', hz', h⟩ := Option.bind_eq_some_iff.1 h
    obtain ⟨z2, hz2, h⟩ := Option.bind_eq_some_iff.1 h; obtain ⟨z3, hz3, h⟩ := Option.bind_eq_some_iff.1 h; exact key h
  case fieldAddr => obtain ⟨z, hz, h⟩ := Option.bind_eq_some_iff.1 h; exact key h
  case field => obtain ⟨z, hz, h⟩ := Option.bind_eq_some_iff.1 h; exact key h
  case indexAddr => obtain ⟨z, hz, h⟩ := Option.bind_eq_some_iff.1 h; obtain ⟨z', hz', h⟩ := Option.bind_eq_some_iff.1 h; exact key h
  case index => obtain ⟨z, hz, h⟩ := Option.bind_eq_some_iff.1 h; obtain ⟨z', hz', h⟩ := Option.bind_eq_some_iff.1 h; exact key h
  case typeAssert => obtain ⟨z, hz, h⟩ := Option.bind_eq_some_iff.1 h; exact key h
  case extract =>
    obtain ⟨z, hz, h⟩ := Option.bind_eq_some_iff.1 h
    split at h
    · exact key h
    · cases h
  case call c =>
    obtain ⟨callee, args, ts⟩ := c
    cases callee with
    | value f => simp at hf
    | invoke x m => simp at hf
    | builtin b =>
      simp only at h
      obtain ⟨l, hl, h⟩ := Option.bind_eq_some_iff.1 h
      cases b <;> simp only [Bool.false_eq_true] at hf <;> unfold builtinV at h <;> split at h <;> first | contradiction | (exact key h) | (cases h)


/-- Reads first, what acts when nothing else is left. -/
def calmOp (c : Bool) : Op → Bool
  | .convert .. => c
  | o => quietOp o

def pickOne (c : Bool) (ops : Array Oper) (ready : List Nat) : Option (Nat × Nat) :=
  match ready.find? fun i => match ops[i]? with | some o => calmOp c o.op | none => false with
  | some i => some (i, match ops[i]? with | some o => if freeOp o.op then 0 else 1 | none => 2)
  | none => match ready with
    | i :: _ => some (i, 2)
    | [] => none

def orderOf (c : Bool) (ops : Array Oper) : Nat → Array Bool → List (Nat × Nat)
  | 0, _ => []
  | n + 1, listed =>
    match pickOne c ops (Region.ready .any ops listed) with
    | some (i, k) => (i, k) :: orderOf c ops n (listed.setIfInBounds i true)
    | none => []

/-- What stands before what, reckoned along the order. -/
def ancFill (ops : Array Oper) : List (Nat × Nat) → List Nat → List Nat
  | [], A => A
  | (i, _) :: σ, A =>
    match ops[i]? with
    | some o => ancFill ops σ (A.set i (o.after.toList.foldl (fun m e => if Region.binds .any e then m ||| ((1 <<< e.on) ||| (A[e.on]?.getD 0)) else m) 0))
    | none => ancFill ops σ A

/-- The order of a region and its table; none: it won't do. -/
def drawAs (c : Bool) (ops : Array Oper) : Option (List (Nat × Nat) × List Nat) :=
  let σ := orderOf c ops ops.size (Array.replicate ops.size false)
  let A := ancFill ops σ (List.replicate ops.size 0)
  if drawOk .any ops σ (Array.replicate ops.size false) && ancB .any ops A && decide (σ.length = ops.size) && σ.all (fun p => p.2 == 2 || match ops[p.1]? with | some o => quietOp o.op | none => false) then some (σ, A) else none

def drawOf (ops : Array Oper) : Option (List (Nat × Nat) × List Nat) :=
  match drawAs false ops with
  | some x => some x
  | none => drawAs true ops

theorem drawOf_as {ops : Array Oper} {x : List (Nat × Nat) × List Nat} (h : drawOf ops = some x) : ∃ c, drawAs c ops = some x := by
  unfold drawOf at h
  split at h
  · rename_i y hy; cases h; exact ⟨_, hy⟩
  · exact ⟨_, h⟩

/-! ### The run -/
section run
variable (P : Program)

/-- The model's own functions: what they answer. -/
abbrev Ext := FuncId → List AV → AH → Option (AV × AH)

def goB (g : FuncId) : Bool :=
  match P.funcs[g]? with
  | some fn => fn.body.isSome && !(fn.name == "runtime.NumGoroutine")
  | none => false

abbrev Rec := Option Nat → Code → St → Option (AEx × St)

def callX (X : Ext) (rec : Rec) (f : FuncId) (args : List AV) (H : AH) : Option (AV × AH) :=
  match P.funcs[f]? with
  | some fn =>
    match fn.body with
    | some c =>
      if goB P f then
        match rec none c ⟨args ++ List.replicate (fn.ntmps - args.length) .undef, [], H⟩ with
        | some (.normal, s) | some (.ret, s) => (takeMarks s.M s.H).bind fun H' => (resVs P s.T H' fn.results.toList).map fun vs => (oneOf vs, H')
        | _ => none
      else none
    | none => X f args H
  | none => none

def endRoundX (b : Nat) : AEx → St → Option (AV × AH) := fun e s =>
  match s.H.get b with
  | some (.loop _ _ T' ps as bd d) =>
    match e with
    | .normal => some (.bool true, s.H.set b (.loop .ready none T' ps as bd d))
    | .ret => some (.bool false, s.H.set b (.loop .done (some .ret) T' ps as bd d))
    | .exit id => some (.bool false, s.H.set b (.loop .done (some (.exit id)) T' ps as bd d))
    | .goto l => some (.bool false, s.H.set b (.loop .done (some (.goto l)) T' ps as bd d))
  | _ => none

def yieldX (rec : Rec) (b : Nat) (vs : List AV) (H : AH) : Option (AV × AH) :=
  match H.get b with
  | some (.loop _ _ T' ps as bd _) =>
    if vs.length = ps.size then
      match rec (some b) as ⟨setPs ps.toList vs T', [], H⟩ with
      | some (.normal, s) =>
        match s.H.get b with
        | some (.loop .ready pe T₁ ps₁ as₁ bd₁ d₁) => (rec (some b) bd ⟨s.T, s.M, s.H.set b (.loop .busy pe T₁ ps₁ as₁ bd₁ d₁)⟩).bind fun (e, s) => endRoundX b e s
        | _ => none
      | _ => none
    else none
  | _ => none

def opX (X : Ext) (rec : Rec) (o : Oper) (T : List AV) (H : AH) : Option (AV × AH) :=
  match o.op with
  | .call ⟨.value f, xs, _⟩ => (ev P T f).bind fun fv => (evs P T xs.toList).bind fun vs =>
    match fv with
    | .func (.func g) x y => callX P X rec g (x ++ vs ++ y) H
    | .yld b => yieldX rec b vs H
    | _ => none
  | _ => opV P T H o

def opsX (X : Ext) (rec : Rec) (ops : Array Oper) : List Oper → List AV → AH → Option (List AV × AH)
  | [], T, H => some (T, H)
  | o :: l, T, H =>
    match wantedV ops T o with
    | some true => (opX P X rec o T H).bind fun (v, H') => opsX X rec ops l (putT T o.dst v) H'
    | some false => opsX X rec ops l (putT T o.dst .undef) H
    | none => none

def pendB (ops : Array Oper) (A : List Nat) (i : Nat) (H : AH) : Pend → Bool
  | [] => true
  | (j, o, T, v) :: pend => (ancOf A i j || match wantedV ops T o with
      | some true => (match opV P T H o with | some (u, _) => beqV u v && convOk o.op u | none => false)
      | some false => true
      | none => false) && pendB ops A i H pend

def drawX (X : Ext) (rec : Rec) (ops : Array Oper) (A : List Nat) : List (Nat × Nat) → Pend → List AV → AH → Option (List AV × AH)
  | [], _, T, H => some (T, H)
  | (i, k) :: σ, pend, T, H =>
    match ops[i]? with
    | none => none
    | some o =>
      match wantedV ops T o with
      | none => none
      | some false => drawX X rec ops A σ (if k = 2 ∨ k = 0 then pend else (i, o, T, .undef) :: pend) (putT T o.dst .undef) H
      | some true =>
        if k = 2 then (opX P X rec o T H).bind fun (v, H') => if pendB P ops A i H' pend then drawX X rec ops A σ pend (putT T o.dst v) H' else none
        else (opV P T H o).bind fun (v, _) => if convOk o.op v then drawX X rec ops A σ (if k = 0 then pend else (i, o, T, v) :: pend) (putT T o.dst v) H else none

def scopeX (rec : Rec) (r : Option Nat) (c : Code) : Nat → Code → St → Option (AEx × St)
  | 0, _, _ => none
  | m + 1, cur, s =>
    match rec r cur s with
    | some (.goto l, s') =>
      match findLabel c l with
      | some rest => scopeX rec r c m rest s'
      | none => some (.goto l, s')
    | x => x

def loopX (rec : Rec) (r : Option Nat) (c : Code) : Nat → St → Option (AEx × St)
  | 0, _ => none
  | m + 1, s =>
    match rec r c s with
    | some (.normal, s') => loopX rec r c m s'
    | x => x

def isBusy : LoopState → Bool
  | .busy => true
  | _ => false

def endRangeX (rec : Rec) (r : Option Nat) (l : Nat) (T : List AV) (M : List Nat) (H : AH) : Option (AEx × St) :=
  match H.get l with
  | some (.loop st pe _ _ _ _ _) =>
    if isBusy st then none
    else match pe with
      | none => some (.normal, ⟨T, M, H.set l .dead⟩)
      | some c => rec r c ⟨T, M, H.set l .dead⟩
  | _ => none

def rangeX (X : Ext) (rec : Rec) (r : Option Nat) (g : Operand) (ps : Array Tmp) (as bd : Code) (s : St) : Option (AEx × St) :=
  (ev P s.T g).bind fun gv =>
    match gv, r with
    | .func (.func gf) x y, none =>
      if goB P gf then (callX P X rec gf (x ++ [.yld (s.H.n + 1)] ++ y) ((s.H.alloc .deferred).alloc (.loop .ready none s.T ps as bd s.H.n))).bind fun (_, H) => endRangeX rec none (s.H.n + 1) s.T (s.H.n :: s.M) H else none
    | .func (.func gf) x y, some b₀ =>
      match s.H.get b₀ with
      | some (.loop _ _ _ _ _ _ d₀) =>
        if goB P gf then (callX P X rec gf (x ++ [.yld s.H.n] ++ y) (s.H.alloc (.loop .ready none s.T ps as bd d₀))).bind fun (_, H) => endRangeX rec (some b₀) s.H.n s.T s.M H else none
      | _ => none
    | _, _ => none

def inBlockX (id : Nat) : AEx → AEx
  | .exit i => if i = id then .normal else .exit i
  | e => e

/-- The run of a statement, with so much fuel. -/
def run (X : Ext) : Nat → Rec
  | 0 => fun _ _ _ => none
  | n + 1 => fun r c s =>
    match c with
    | .skip => some (.normal, s)
    | .label _ => some (.normal, s)
    | .exit id => some (.exit id, s)
    | .goto l => some (.goto l, s)
    | .ret => some (.ret, s)
    | .refuse _ => none
    | .seq a b =>
      match run X n r a s with
      | some (.normal, s') => run X n r b s'
      | x => x
    | .cond c x y =>
      match ev P s.T c with
      | some (.bool true) => run X n r x s
      | some (.bool false) => run X n r y s
      | _ => none
    | .block id c => (run X n r c s).map fun (e, s') => (inBlockX id e, s')
    | .loop c => loopX (run X n) r c n s
    | .scope c => scopeX (run X n) r c n c s
    | .region _ ops false => (opsX P X (run X n) ops ops.toList s.T s.H).map fun (T, H) => (.normal, ⟨T, s.M, H⟩)
    | .region _ ops true =>
      match drawOf ops with
      | some (σ, A) => (drawX P X (run X n) ops A σ [] s.T s.H).map fun (T, H) => (.normal, ⟨T, s.M, H⟩)
      | none => none
    | .rangeFunc g ps as bd => rangeX P X (run X n) r g ps as bd s

/-- The run of a call. -/
def runCall (X : Ext) (n : Nat) (f : FuncId) (args : List AV) (H : AH) : Option (AV × AH) := callX P X (run P X n) f args H
end run

end Go.Am
end

/- The abstract machine's own run is sound. -/
section
namespace Go.Am
open Go.RowKit

section
variable {P : Program} {X : Ext} {rec : Rec}

def RecOk (P : Program) (rec : Rec) : Prop := ∀ r c s e s', rec r c s = some (e, s') → AWp P r c (fun e' s'' => e' = e ∧ s'' = s') s
def ExtOk (P : Program) (X : Ext) : Prop := ∀ g vs H v H', X g vs H = some (v, H') → ACallee P g vs H (fun v' H'' => v' = v ∧ H'' = H')

theorem goB_spec {g : FuncId} (h : goB P g = true) : Goes P g := by
  intro args w
  unfold goB at h
  cases hf : P.funcs[g]? with
  | none => rw [hf] at h; cases h
  | some fn =>
    rw [hf] at h
    simp only [Bool.and_eq_true, Bool.not_eq_true'] at h
    obtain ⟨h1, h2⟩ := h
    have h2' : fn.name ≠ "runtime.NumGoroutine" := by simpa using h2
    have h3 : fn.body ≠ none := by intro e; rw [e] at h1; cases h1
    simp [callFunc, hf, h2', h3]

theorem callX_go (hr : RecOk P rec) {f : FuncId} {args : List AV} {H : AH} {v : AV} {H' : AH} (hgo : goB P f = true) (h : callX P X rec f args H = some (v, H')) :
    ACall P f args H (fun v' H'' => v' = v ∧ H'' = H') := by
  unfold callX at h
  cases hf : P.funcs[f]? with
  | none => rw [hf] at h; cases h
  | some fn =>
    rw [hf] at h
    simp only at h
    cases hb : fn.body with
    | none => unfold goB at hgo; rw [hf] at hgo; simp [hb] at hgo
    | some c =>
      rw [hb] at h
      simp only [hgo, if_true] at h
      refine ACall.body hf hb ?_
      split at h
      all_goals first | cases h | skip
      all_goals
        rename_i s' hs
        obtain ⟨H₁, h1, h⟩ := Option.bind_eq_some_iff.1 h
        obtain ⟨vs, h2, h'⟩ := Option.map_eq_some_iff.1 h
        simp only [Prod.mk.injEq] at h'
        refine (hr _ _ _ _ _ hs).mono ?_
        rintro e s'' ⟨rfl, rfl⟩
        exact ⟨by simp, H₁, vs, h1, h2, h'.1, h'.2⟩

theorem callX_sound (hr : RecOk P rec) (hX : ExtOk P X) {f : FuncId} {args : List AV} {H : AH} {v : AV} {H' : AH} (h : callX P X rec f args H = some (v, H')) :
    ACallee P f args H (fun v' H'' => v' = v ∧ H'' = H') := by
  cases hgo : goB P f with
  | true => exact .inl ⟨goB_spec hgo, callX_go hr hgo h⟩
  | false =>
    unfold callX at h
    cases hf : P.funcs[f]? with
    | none => rw [hf] at h; cases h
    | some fn =>
      rw [hf] at h
      simp only at h
      cases hb : fn.body with
      | none => rw [hb] at h; exact hX _ _ _ _ _ h
      | some c => rw [hb] at h; simp [hgo] at h

theorem endRoundX_sound {b : Nat} {e : AEx} {s : St} {v : AV} {H' : AH} (h : endRoundX b e s = some (v, H')) : roundA b (fun v' H'' => v' = v ∧ H'' = H') e s := by
  unfold endRoundX at h
  split at h
  · rename_i st pe T' ps as bd d hg
    refine ⟨st, pe, T', ps, as, bd, d, hg, ?_⟩
    cases e <;> simp only [Option.some.injEq, Prod.mk.injEq] at h ⊢ <;> exact ⟨h.1, h.2⟩
  · cases h

theorem opX_sound (hr : RecOk P rec) (hX : ExtOk P X) {r : Option Nat} {o : Oper} {T : List AV} {H : AH} {v : AV} {H' : AH} (h : opX P X rec o T H = some (v, H')) :
    AOp P r o T H (fun v' H'' => v' = v ∧ H'' = H') := by
  obtain ⟨dst, op, ty, pos, after, guard⟩ := o
  unfold opX at h
  split at h
  · rename_i f xs ts e
    simp only at e
    subst e
    obtain ⟨fv, hf, h⟩ := Option.bind_eq_some_iff.1 h
    obtain ⟨vs, hx, h⟩ := Option.bind_eq_some_iff.1 h
    split at h
    · exact AOp.callee hf hx (callX_sound hr hX h)
    · rename_i b
      unfold yieldX at h
      split at h
      · rename_i st pe T' ps as bd d hg
        split at h
        · rename_i hl
          split at h
          · rename_i s hs
            split at h
            · rename_i pe₁ T₁ ps₁ as₁ bd₁ d₁ hg₁
              obtain ⟨⟨e, s₂⟩, h2, h⟩ := Option.bind_eq_some_iff.1 h
              refine AOp.yield hf hx hg hl ((hr _ _ _ _ _ hs).mono ?_)
              rintro e' s' ⟨rfl, rfl⟩
              refine ⟨pe₁, T₁, ps₁, as₁, bd₁, d₁, hg₁, (hr _ _ _ _ _ h2).mono ?_⟩
              rintro e' s' ⟨rfl, rfl⟩
              exact endRoundX_sound h
            · cases h
          · cases h
        · cases h
      · cases h
    · cases h
  · exact AOp.of_opV h ⟨rfl, rfl⟩

theorem opsX_sound (hr : RecOk P rec) (hX : ExtOk P X) {r : Option Nat} {ops : Array Oper} {K : List AV → AH → Prop} : ∀ {l : List Oper} {T : List AV} {H : AH} {T' : List AV} {H' : AH}, opsX P X rec ops l T H = some (T', H') → K T' H' → AOps P r ops K l T H
  | [], T, H, T', H', h, hk => by simp only [opsX, Option.some.injEq, Prod.mk.injEq] at h; obtain ⟨rfl, rfl⟩ := h; exact hk
  | o :: l, T, H, T', H', h, hk => by
    simp only [opsX] at h
    split at h
    · rename_i hw
      obtain ⟨⟨v, H₁⟩, h1, h⟩ := Option.bind_eq_some_iff.1 h
      refine .inl ⟨hw, (opX_sound hr hX h1).mono ?_⟩
      rintro v' H'' ⟨rfl, rfl⟩
      exact opsX_sound hr hX h hk
    · rename_i hw
      exact .inr ⟨hw, opsX_sound hr hX h hk⟩
    · cases h

theorem pendB_sound {ops : Array Oper} {A : List Nat} {i : Nat} {H : AH} : ∀ {pend : Pend}, (∀ p ∈ pend, quietOp p.2.1.op = true ∧ (wantedV ops p.2.2.1 p.2.1 = some false → p.2.2.2 = .undef)) → pendB P ops A i H pend = true → pendOk P ops (ancOf A) i H pend
  | [], _, _ => fun p hp => by cases hp
  | (j, o, T, v) :: pend, hq, h => by
    simp only [pendB, Bool.and_eq_true] at h
    intro p hp ha
    rcases List.mem_cons.1 hp with rfl | hp
    · simp only at ha
      simp only [ha, Bool.false_or] at h
      obtain ⟨h, _⟩ := h
      obtain ⟨q1, q2⟩ := hq _ (by simp : ((j, o, T, v) : Nat × Oper × List AV × AV) ∈ (j, o, T, v) :: pend)
      split at h
      · rename_i hw
        split at h
        · rename_i u H'' hu
          simp only [Bool.and_eq_true] at h
          have := quietOp_spec q1 hu h.2
          subst this
          exact .inr ⟨hw, by rw [hu, beqV_eq h.1]⟩
        · cases h
      · rename_i hw; exact .inl ⟨hw, q2 hw⟩
      · cases h
    · exact pendB_sound (fun p hp => hq p (List.mem_cons_of_mem _ hp)) h.2 p hp ha

theorem drawX_sound (hr : RecOk P rec) (hX : ExtOk P X) {r : Option Nat} {ops : Array Oper} {A : List Nat} {K : List AV → AH → Prop} : ∀ {σ : List (Nat × Nat)} {pend : Pend} {T : List AV} {H : AH} {T' : List AV} {H' : AH},
    (∀ p ∈ σ, p.2 = 2 ∨ ∀ o, ops[p.1]? = some o → quietOp o.op = true) → (∀ p ∈ pend, quietOp p.2.1.op = true ∧ (wantedV ops p.2.2.1 p.2.1 = some false → p.2.2.2 = .undef)) →
    drawX P X rec ops A σ pend T H = some (T', H') → K T' H' → ADraw P r ops (ancOf A) K σ pend T H
  | [], pend, T, H, T', H', _, _, h, hk => by simp only [drawX, Option.some.injEq, Prod.mk.injEq] at h; obtain ⟨rfl, rfl⟩ := h; exact hk
  | (i, k) :: σ, pend, T, H, T', H', hσ, hp, h, hk => by
    simp only [drawX] at h
    split at h
    · cases h
    rename_i o ho
    have hσ' : ∀ p ∈ σ, p.2 = 2 ∨ ∀ o, ops[p.1]? = some o → quietOp o.op = true := fun p hp => hσ p (List.mem_cons_of_mem _ hp)
    refine ⟨o, ho, ?_⟩
    split at h
    · cases h
    · rename_i hw
      by_cases h2 : k = 2
      · rw [if_pos (.inl h2)] at h
        rw [if_pos h2]
        exact .inl ⟨hw, drawX_sound hr hX hσ' hp h hk⟩
      · rw [if_neg h2]
        refine ⟨.undef, .inl ⟨hw, rfl⟩, ?_⟩
        have hq := (hσ (i, k) (by simp)).resolve_left h2 o ho
        by_cases h0 : k = 0
        · rw [if_pos (.inr h0)] at h; rw [if_pos h0]; exact drawX_sound hr hX hσ' hp h hk
        · rw [if_neg (by omega)] at h; rw [if_neg h0]
          refine drawX_sound hr hX hσ' (fun p hp' => ?_) h hk
          rcases List.mem_cons.1 hp' with rfl | hp'
          · exact ⟨hq, fun _ => rfl⟩
          · exact hp p hp'
    · rename_i hw
      by_cases h2 : k = 2
      · rw [if_pos h2] at h ⊢
        obtain ⟨⟨v, H₁⟩, h1, h⟩ := Option.bind_eq_some_iff.1 h
        simp only at h
        split at h
        · rename_i hpb
          refine .inr ⟨hw, (opX_sound hr hX h1).mono ?_⟩
          rintro v' H'' ⟨rfl, rfl⟩
          exact ⟨pendB_sound hp hpb, drawX_sound hr hX hσ' hp h hk⟩
        · cases h
      · rw [if_neg h2] at h ⊢
        obtain ⟨⟨v, H₁⟩, h1, h⟩ := Option.bind_eq_some_iff.1 h
        have hq := (hσ (i, k) (by simp)).resolve_left h2 o ho
        simp only at h
        split at h
        case isFalse => cases h
        rename_i hcv
        have hHH := quietOp_spec hq h1 hcv
        subst hHH
        refine ⟨v, .inr ⟨hw, h1⟩, ?_⟩
        by_cases h0 : k = 0
        · simp only [h0, if_true] at h ⊢; exact drawX_sound hr hX hσ' hp h hk
        · simp only [h0, if_false] at h ⊢
          refine drawX_sound hr hX hσ' (fun p hp' => ?_) h hk
          rcases List.mem_cons.1 hp' with rfl | hp'
          · exact ⟨hq, fun h' => by rw [hw] at h'; cases h'⟩
          · exact hp p hp'

theorem loopX_sound (hr : RecOk P rec) {r : Option Nat} {c : Code} {m : Nat} {s : St} {e : AEx} {s' : St} (h : loopX rec r c m s = some (e, s')) : AWp P r (.loop c) (fun e' s'' => e' = e ∧ s'' = s') s := by
  refine AWp.loop (j := m) (fun j s => loopX rec r c j s = some (e, s')) h ?_
  intro j s hj
  cases j with
  | zero => cases hj
  | succ j =>
    simp only [loopX] at hj
    split at hj
    · rename_i s₁ hs
      refine (hr _ _ _ _ _ hs).mono ?_
      rintro e' s'' ⟨rfl, rfl⟩
      exact ⟨j, Nat.lt_succ_self j, hj⟩
    · rename_i hne
      refine (hr _ _ _ _ _ hj).mono ?_
      rintro e' s'' ⟨rfl, rfl⟩
      cases e' with
      | normal => exact (hne _ hj).elim
      | exit id => exact ⟨rfl, rfl⟩
      | goto l => exact ⟨rfl, rfl⟩
      | ret => exact ⟨rfl, rfl⟩

theorem scopeX_sound (hr : RecOk P rec) {r : Option Nat} {c : Code} {m : Nat} {s : St} {e : AEx} {s' : St} (h : scopeX rec r c m c s = some (e, s')) : AWp P r (.scope c) (fun e' s'' => e' = e ∧ s'' = s') s := by
  have step : ∀ {m : Nat} {cur : Code} {s : St}, scopeX rec r c (m + 1) cur s = some (e, s') →
      AWp P r cur (jumpsA c (fun l s => ∃ rest, findLabel c l = some rest ∧ scopeX rec r c m rest s = some (e, s')) (fun e' s'' => e' = e ∧ s'' = s')) s := by
    intro m cur s h
    simp only [scopeX] at h
    split at h
    · rename_i l s₁ hs
      refine (hr _ _ _ _ _ hs).mono ?_
      rintro e' s'' ⟨rfl, rfl⟩
      simp only [jumpsA]
      split at h
      · rename_i rest hf
        rw [if_pos (by rw [hf]; rfl)]
        exact ⟨rest, hf, h⟩
      · rename_i hf
        rw [if_neg (by rw [hf]; simp)]
        simp only [Option.some.injEq, Prod.mk.injEq] at h
        exact ⟨h.1, h.2⟩
    · rename_i hne
      refine (hr _ _ _ _ _ h).mono ?_
      rintro e' s'' ⟨rfl, rfl⟩
      cases e' with
      | normal => exact ⟨rfl, rfl⟩
      | exit id => exact ⟨rfl, rfl⟩
      | goto l => exact (hne _ _ h).elim
      | ret => exact ⟨rfl, rfl⟩
  refine AWp.scope (fun j l s => ∃ rest, findLabel c l = some rest ∧ scopeX rec r c j rest s = some (e, s')) ?_ ?_
  · cases m with
    | zero => cases h
    | succ m =>
      refine (step h).mono fun e' s'' hq => ?_
      cases e' with
      | goto l =>
        simp only [jumpsA] at hq ⊢
        split at hq
        · rename_i hl; rw [if_pos hl]; exact ⟨m, hq⟩
        · rename_i hl; rw [if_neg hl]; exact hq
      | normal => exact hq
      | exit id => exact hq
      | ret => exact hq
  · rintro j l s rest hf ⟨rest', hf', hj⟩
    rw [hf] at hf'; cases hf'
    cases j with
    | zero => cases hj
    | succ j =>
      refine (step hj).mono fun e' s'' hq => ?_
      cases e' with
      | goto l =>
        simp only [jumpsA] at hq ⊢
        split at hq
        · rename_i hl; rw [if_pos hl]; exact ⟨j, Nat.lt_succ_self j, hq⟩
        · rename_i hl; rw [if_neg hl]; exact hq
      | normal => exact hq
      | exit id => exact hq
      | ret => exact hq

theorem endRangeX_sound (hr : RecOk P rec) {r : Option Nat} {l : Nat} {T : List AV} {M : List Nat} {H : AH} {v : AV} {e : AEx} {s' : St} (h : endRangeX rec r l T M H = some (e, s')) :
    rangeA P r l T M (fun e' s'' => e' = e ∧ s'' = s') v H := by
  unfold endRangeX at h
  split at h
  · rename_i st pe T' ps as bd d hg
    split at h
    · cases h
    · rename_i hb
      refine ⟨st, pe, T', ps, as, bd, d, hg, fun hb' => ?_, ?_⟩
      · subst hb'; exact hb rfl
      · cases pe with
        | none => simp only [Option.some.injEq, Prod.mk.injEq] at h ⊢; exact ⟨h.1, h.2⟩
        | some c => exact hr _ _ _ _ _ h
  · cases h

theorem rangeX_sound (hr : RecOk P rec) {r : Option Nat} {g : Operand} {ps : Array Tmp} {as bd : Code} {s : St} {e : AEx} {s' : St} (h : rangeX P X rec r g ps as bd s = some (e, s')) :
    AWp P r (.rangeFunc g ps as bd) (fun e' s'' => e' = e ∧ s'' = s') s := by
  unfold rangeX at h
  obtain ⟨gv, hg, h⟩ := Option.bind_eq_some_iff.1 h
  split at h
  · rename_i gf x y
    split at h
    · rename_i hgo
      obtain ⟨⟨v, H⟩, hc, h⟩ := Option.bind_eq_some_iff.1 h
      refine AWp.rangeFunc (goB_spec hgo) hg ((callX_go hr hgo hc).mono ?_)
      rintro v' H'' ⟨rfl, rfl⟩
      exact endRangeX_sound hr h
    · cases h
  · rename_i gf x y b₀
    split at h
    · rename_i st pe T' ps' as' bd' d₀ hb₀
      split at h
      · rename_i hgo
        obtain ⟨⟨v, H⟩, hc, h⟩ := Option.bind_eq_some_iff.1 h
        refine AWp.rangeFunc_in hb₀ (goB_spec hgo) hg ((callX_go hr hgo hc).mono ?_)
        rintro v' H'' ⟨rfl, rfl⟩
        exact endRangeX_sound hr h
      · cases h
    · cases h
  · cases h

theorem run_sound (hm : P.follows .mixedOrders = true) (hX : ExtOk P X) : ∀ n, RecOk P (run P X n)
  | 0 => fun r c s e s' h => by cases h
  | n + 1 => fun r c s e s' h => by
    have ih := run_sound hm hX n
    cases c with
    | skip => simp only [run, Option.some.injEq, Prod.mk.injEq] at h; exact AWp.skip ⟨h.1, h.2⟩
    | label l => simp only [run, Option.some.injEq, Prod.mk.injEq] at h; exact AWp.label ⟨h.1, h.2⟩
    | exit id => simp only [run, Option.some.injEq, Prod.mk.injEq] at h; exact AWp.exit ⟨h.1, h.2⟩
    | goto l => simp only [run, Option.some.injEq, Prod.mk.injEq] at h; exact AWp.goto ⟨h.1, h.2⟩
    | ret => simp only [run, Option.some.injEq, Prod.mk.injEq] at h; exact AWp.ret ⟨h.1, h.2⟩
    | refuse why => cases h
    | seq a b =>
      simp only [run] at h
      refine AWp.seq ?_
      split at h
      · rename_i s₁ hs
        refine (ih _ _ _ _ _ hs).mono ?_
        rintro e' s'' ⟨rfl, rfl⟩
        exact ih _ _ _ _ _ h
      · rename_i hne
        refine (ih _ _ _ _ _ h).mono ?_
        rintro e' s'' ⟨rfl, rfl⟩
        cases e' with
        | normal => exact (hne _ h).elim
        | exit id => exact ⟨rfl, rfl⟩
        | goto l => exact ⟨rfl, rfl⟩
        | ret => exact ⟨rfl, rfl⟩
    | cond c x y =>
      simp only [run] at h
      split at h
      · rename_i hc; exact AWp.cond hc (ih _ _ _ _ _ h)
      · rename_i hc; exact AWp.cond hc (ih _ _ _ _ _ h)
      · cases h
    | block id c =>
      simp only [run] at h
      obtain ⟨⟨e₁, s₁⟩, hs, h⟩ := Option.map_eq_some_iff.1 h
      refine AWp.block ((ih _ _ _ _ _ hs).mono ?_)
      rintro e' s'' ⟨rfl, rfl⟩
      simp only [Prod.mk.injEq] at h
      cases e' with
      | exit i =>
        simp only [inBlockX] at h
        simp only [inBlockA]
        split
        · rename_i hi; rw [if_pos hi] at h; exact ⟨h.1, h.2⟩
        · rename_i hi; rw [if_neg hi] at h; exact ⟨h.1, h.2⟩
      | normal => exact ⟨h.1, h.2⟩
      | goto l => exact ⟨h.1, h.2⟩
      | ret => exact ⟨h.1, h.2⟩
    | loop c => exact loopX_sound ih h
    | scope c => exact scopeX_sound ih h
    | region id ops draw =>
      cases draw with
      | false =>
        simp only [run] at h
        obtain ⟨⟨T, H⟩, hs, h⟩ := Option.map_eq_some_iff.1 h
        simp only [Prod.mk.injEq] at h
        obtain ⟨rfl, rfl⟩ := h
        exact AWp.region (opsX_sound ih hX hs ⟨rfl, rfl⟩)
      | true =>
        simp only [run] at h
        split at h
        · rename_i σ A hd
          obtain ⟨⟨T, H⟩, hs, h⟩ := Option.map_eq_some_iff.1 h
          simp only [Prod.mk.injEq] at h
          obtain ⟨rfl, rfl⟩ := h
          obtain ⟨cc, hd⟩ := drawOf_as hd
          unfold drawAs at hd
          simp only at hd
          split at hd
          · rename_i hg
            simp only [Option.some.injEq, Prod.mk.injEq] at hd
            obtain ⟨rfl, rfl⟩ := hd
            simp only [Bool.and_eq_true, decide_eq_true_eq] at hg
            obtain ⟨⟨⟨h1, h2⟩, h3⟩, h4⟩ := hg
            refine AWp.draw hm (ancB_spec h2) h1 h3 (drawX_sound ih hX ?_ (fun p hp => by cases hp) hs ⟨rfl, rfl⟩)
            intro p hp
            have := List.all_eq_true.1 h4 p hp
            simp only [Bool.or_eq_true, beq_iff_eq] at this
            refine this.imp (fun h => h) fun h o ho => ?_
            rw [ho] at h; exact h
          · cases hd
        · cases h
    | rangeFunc g ps as bd => exact rangeX_sound ih h

theorem runCall_sound (hm : P.follows .mixedOrders = true) (hX : ExtOk P X) {n : Nat} {f : FuncId} {args : List AV} {H : AH} {v : AV} {H' : AH} (hgo : goB P f = true) (h : runCall P X n f args H = some (v, H')) :
    ACall P f args H (fun v' H'' => v' = v ∧ H'' = H') := callX_go (run_sound hm hX n) hgo h

end
end Go.Am
end

/- The abstract machine: the model's own functions; where a row's call begins; what it says at its end. -/
section
namespace Go.Am
open Go.RowKit Go.ChangeShapes

/-! ### The model's own functions -/

inductive XK where
  | indexByte
  | countByte
  | same
  deriving DecidableEq

def XK.sem : XK → Array Value → Sem Value
  | .indexByte => Extern.BytealgIndexByte.indexByte
  | .countByte => Extern.BytealgCount.count
  | .same => Extern.AbiNoEscape.same

def XK.val (k : XK) (vs : List AV) : Option AV :=
  match k, vs with
  | .indexByte, [.str s, .int .u8 c] => some (.int .i64 (Lib.indexByte s c.toNat.toUInt8))
  | .countByte, [.str s, .int .u8 c] => some (.int .i64 (Lib.countByte s c.toNat.toUInt8))
  | .same, [x] => some x
  | _, _ => none

def extOf (l : List (FuncId × XK)) : Ext := fun g vs H => (l.lookup g).bind fun k => (k.val vs).map (·, H)

theorem XK.sim {P : Program} {E : Env} {k : XK} {vs : List AV} {v : AV} {args : Array Value} (h : k.val vs = some v) (ha : VRs E vs args.toList) (w : World) : ∃ x, (k.sem args).run P w = .ok x w ∧ VR E v x := by
  unfold XK.val at h
  split at h
  · rename_i s c
    cases h
    obtain ⟨x, xs, hx, rfl, y, ys, rfl, rfl, rfl⟩ := ha
    obtain rfl : args = #[.string ⟨s.toArray⟩, .int .u8 c] := Array.ext' hx
    exact ⟨_, Lib.run_indexByteString (P := P) ⟨s.toArray⟩ c w, rfl⟩
  · rename_i s c
    cases h
    obtain ⟨x, xs, hx, rfl, y, ys, rfl, rfl, rfl⟩ := ha
    obtain rfl : args = #[.string ⟨s.toArray⟩, .int .u8 c] := Array.ext' hx
    exact ⟨_, Lib.run_countString (P := P) ⟨s.toArray⟩ c w, rfl⟩
  · cases h
    obtain ⟨x, xs, hx, hv, rfl⟩ := ha
    obtain rfl : args = #[x] := Array.ext' hx
    exact ⟨x, rfl, hv⟩
  · cases h

/-- Function g of the program is this one of the model's. -/
def XOk (P : Program) (g : FuncId) (k : XK) : Prop := ∀ args w, (callFunc g args).run P w = ((k.sem args).run P w).andThen fun v w' => .ok (.value v) w'

theorem lookup_mem {α : Type} {g : Nat} {k : α} : ∀ {l : List (Nat × α)}, l.lookup g = some k → (g, k) ∈ l
  | [], h => by cases h
  | (a, b) :: l, h => by
    rw [List.lookup_cons] at h
    split at h
    · rename_i e
      simp only [beq_iff_eq] at e
      cases h; subst e; simp
    · exact List.mem_cons_of_mem _ (lookup_mem h)

theorem extOf_ok {P : Program} {l : List (FuncId × XK)} (h : ∀ p ∈ l, XOk P p.1 p.2) : ExtOk P (extOf l) := by
  intro g vs H v H' hx
  obtain ⟨k, hk, hx⟩ := Option.bind_eq_some_iff.1 hx
  obtain ⟨u, hu, hx⟩ := Option.map_eq_some_iff.1 hx
  cases hx
  have hmem := lookup_mem hk
  refine .inr fun E B w args' hH ha => ?_
  obtain ⟨x, hx, hv⟩ := XK.sim (P := P) hu ha w
  exact ⟨v, _, E, w, x, by rw [h _ hmem, hx]; rfl, ⟨rfl, rfl⟩, Env.le.refl E, hH, hv, Below.refl _ w⟩

/-! ### The heap where a row's call begins -/

/-- Tables that lie: the variable's number, its elements' type, its cells. -/
abbrev Tabs := List (Nat × TypeId × List AV)

def startH (n : Nat) : Tabs → AH
  | [] => ⟨n, .nil⟩
  | (g, e, cs) :: l => (startH n l).set g (.cells cs e { own := false })

def tabSize (l : Tabs) (b : Nat) : Nat :=
  match l with
  | [] => 0
  | (g, _, cs) :: l => if b = g then cs.length else tabSize l b
def tabElem (l : Tabs) (b : Nat) : TypeId :=
  match l with
  | [] => 0
  | (g, e, _) :: l => if b = g then e else tabElem l b

def startE (P : Program) (n : Nat) (l : Tabs) : Env := fun b => if b < n then some ⟨b, 0, tabSize l b, P.cellsOf (tabElem l b), 0⟩ else none

/-- The table lies in the world. -/
def TabAt (W : World) (g : Nat) (e : TypeId) (cs : List AV) : Prop := ∃ X fr, W.heap[g]? = some (.cells X e fr) ∧ cs.length = X.size ∧ (∀ E, VRs E cs X.toList) ∧ ∀ v ∈ cs, v.one = true

theorem startH_n (n : Nat) (l : Tabs) : (startH n l).n = n := by
  induction l with
  | nil => rfl
  | cons p l ih => obtain ⟨g, e, cs⟩ := p; simpa [startH] using ih

theorem startH_get {n : Nat} {l : Tabs} {b : Nat} {o : AObj} (h : (startH n l).get b = some o) : ∃ cs, o = .cells cs (tabElem l b) { own := false } ∧ tabSize l b = cs.length ∧ ∃ e, (b, e, cs) ∈ l ∧ e = tabElem l b := by
  induction l with
  | nil => cases h
  | cons p l ih =>
    obtain ⟨g, e, cs⟩ := p
    simp only [startH, AH.get_set] at h
    by_cases hb : b = g
    · subst hb
      rw [if_pos rfl] at h; cases h
      exact ⟨cs, by simp [tabElem], by simp [tabSize], e, by simp, by simp [tabElem]⟩
    · rw [if_neg hb] at h
      obtain ⟨cs', h1, h2, e', h3, h4⟩ := ih h
      exact ⟨cs', by simp [tabElem, hb, h1], by simp [tabSize, hb, h2], e', by simp [h3], by simp [tabElem, hb, h4]⟩

theorem HR.start {P : Program} {W : World} {l : Tabs} (hl : ∀ t ∈ l, t.1 < P.globals.size ∧ TabAt W t.1 t.2.1 t.2.2) :
    HR P (startE P P.globals.size l) (fun k => k < W.heap.size) (startH P.globals.size l) W := by
  refine ⟨fun b L hb => ?_, fun b o hb => ?_, fun _ h => h, fun g hg => ⟨_, if_pos hg, rfl, rfl⟩, fun b b' o o' L L' hne hb hb' ho _ _ _ => ?_⟩
  · rw [startH_n]
    unfold startE at hb
    split at hb
    · assumption
    · cases hb
  · obtain ⟨cs, rfl, hs, e, hm, he⟩ := startH_get hb
    obtain ⟨hg, X, fr, h1, h2, h3, h4⟩ := hl _ hm
    simp only at hg h1 h2 h3 h4
    refine ⟨_, if_pos hg, X, fr.1, fr.2, by rw [h1, he], hs, rfl, by simp [h2], ?_, fun h => (by cases h), fun _ => rfl, h4, fun h => (by cases h)⟩
    have := h3 (startE P P.globals.size l)
    rw [h2]
    simpa [← Array.length_toList] using this
  · obtain ⟨cs, rfl, _⟩ := startH_get hb
    cases ho

/-! ### The tables out of a row's list -/

theorem cells_of_pairs {H : Type} {enc : TypeId × Value → H} {P : Program} {w : World} {base : Nat} {sp : Nat → Bool} {held : Bool} {fuel : Nat} {t e : TypeId} {n : Nat} {k : IntKind} {cs : List Value} {zs : List (Int × Int)} {p : List MemPlace} {f0 f1 : Field}
    (ht : P.underlying t = some (.array n e)) (he : P.underlying e = some (.struct #[f0, f1])) (h0 : P.underlying f0.type = some (.int k)) (h1 : P.underlying f1.type = some (.int k)) (ho0 : f0.offset = 0) (ho1 : f1.offset = 1)
    (hc0 : P.cellsOf f0.type = 1) (hc1 : P.cellsOf f1.type = 1) (hce : P.cellsOf e = 2) (hct : P.cellsOf t = n * 2)
    (h : DataW.trod enc P w base sp held fuel t cs = some (.agg (zs.map fun z => .agg [.lit (.int k z.1), .lit (.int k z.2)]), p)) : cs = zs.flatMap fun z => [Value.int k z.1, .int k z.2] := by
  cases fuel with
  | zero => simp [DataW.trod] at h
  | succ fuel =>
    simp only [DataW.trod, ht, hce, hct] at h
    split at h
    · rename_i hl
      obtain ⟨xs, hm, hx⟩ := Option.map_eq_some_iff.1 h
      have hxs : xs.map (·.1) = zs.map fun z => (DataW.agg [.lit (.int k z.1), .lit (.int k z.2)] : DataW H) := by
        have := congrArg Prod.fst hx
        simpa using this
      have hxl : xs.length = n := by simpa using Lib.mapM_length hm
      have hzl : zs.length = n := by
        have := congrArg List.length hxs
        simp at this
        omega
      have hpair : ∀ i, i < n → ∃ z, zs[i]? = some z ∧ (cs.drop (i * 2)).take 2 = [.int k z.1, .int k z.2] := by
        intro i hi
        obtain ⟨b, hb, hf⟩ := Lib.mapM_at hm i i (by simp [hi])
        obtain ⟨y0, y1, m, rfl, hlen, g0, g1⟩ := trod_struct2 he hf
        obtain ⟨a0, c0, rfl, _⟩ := DataW.trod_int h0 g0
        obtain ⟨a1, c1, rfl, _⟩ := DataW.trod_int h1 g1
        have h2 : (xs.map (·.1))[i]? = some (DataW.agg [.lit (.int k a0), .lit (.int k a1)] : DataW H) := by simp [hb]
        rw [hxs] at h2
        simp only [List.getElem?_map, Option.map_eq_some_iff, DataW.agg.injEq, List.cons.injEq, DataW.lit.injEq, Lit.int.injEq, true_and, and_true] at h2
        obtain ⟨z, hz, rfl, rfl⟩ := h2
        refine ⟨z, hz, ?_⟩
        rw [ho0, hc0] at c0; rw [ho1, hc1] at c1
        rw [hce] at hlen
        match h5 : (cs.drop (i * 2)).take 2, hlen with
        | [u, v], _ =>
          rw [h5] at c0 c1
          simp at c0 c1
          rw [c0, c1]
      clear hm h hx
      have key : ∀ (m : Nat) (cs : List Value) (zs : List (Int × Int)), cs.length = m * 2 → zs.length = m → (∀ i, i < m → ∃ z, zs[i]? = some z ∧ (cs.drop (i * 2)).take 2 = [.int k z.1, .int k z.2]) → cs = zs.flatMap fun z => [Value.int k z.1, .int k z.2] := by
        intro m
        induction m with
        | zero => intro cs zs h1 h2 _; simp at h1 h2; subst h1; subst h2; rfl
        | succ m ih =>
          intro cs zs h1 h2 h3
          match cs, zs, h1, h2, h3 with
          | [], _, h1, _, _ => exfalso; simp at h1
          | [_], _, h1, _, _ => exfalso; simp at h1; omega
          | _ :: _ :: _, [], _, h2, _ => exact absurd h2 (by simp)
          | a :: b :: cs, z :: zs, h1, h2, h3 =>
            obtain ⟨z', hz', e⟩ := h3 0 (by omega)
            simp at hz' e
            subst hz'
            rw [e.1, e.2, ih cs zs (by simp at h1; omega) (by simpa using h2) fun i hi => by
              obtain ⟨z', hz', e'⟩ := h3 (i + 1) (by omega)
              refine ⟨z', by simpa using hz', ?_⟩
              rw [show (i + 1) * 2 = i * 2 + 2 by omega] at e'
              simpa using e']
            rfl
      exact key n cs zs hl hzl hpair
    · cases h

theorem tab_of_cells {W : World} {P : Program} {name : String} {cs : Array Value} {g : Nat} (hg : P.globalNamed name = some g) (hv : W.var? P name = some cs) {vs : List AV} (h : ∀ E, VRs E vs cs.toList) (h1 : ∀ v ∈ vs, v.one = true) : ∃ e, TabAt W g e vs := by
  unfold World.var? at hv
  rw [hg] at hv
  simp only [Option.bind_some] at hv
  split at hv
  · rename_i X e fr hX
    cases hv
    have hl := (h (fun _ => none)).length
    exact ⟨e, cs, fr, hX, by simpa using hl, h, h1⟩
  · cases hv

def intsAV (k : IntKind) (zs : List Int) : List AV := zs.map (AV.int k)

theorem intsAV_sim (k : IntKind) (zs : List Int) (E : Env) : VRs E (intsAV k zs) (zs.map (Value.int k)) := by
  induction zs with
  | nil => rfl
  | cons z zs ih => exact ⟨_, _, rfl, rfl, ih⟩
theorem intsAV_one (k : IntKind) (zs : List Int) : ∀ v ∈ intsAV k zs, v.one = true := by
  intro v hv
  simp only [intsAV, List.mem_map] at hv
  obtain ⟨z, _, rfl⟩ := hv
  rfl

theorem Below.old {W W' : World} (h : Below (fun k => k < W.heap.size) W W') : Go.RowKit.Below W.heap.size W W' := ⟨h.os, h.tape, h.output, h.size, h.block⟩

/-! ### What a law's row asks at the end -/
section
variable {H : Type} {enc : TypeId × Value → H} {P : Program}

theorem trodAll_stays (hl : laidOutB P = true) {W W' : World} (hb : Go.RowKit.Below W.heap.size W W') {sp : Nat → Bool} : ∀ {ts : List TypeId} {vs : List Value} {ds : List (DataW H)} {ps : List MemPlace}, (ts.all fun t => P.readableRec t && decide (t < P.types.size)) = true →
    DataW.TrodAll enc P W 0 (fun _ => true) true ts vs ds ps → (∀ x ∈ ps, x.block < W.heap.size) → (∀ x ∈ ps, sp x.block = true) → DataW.TrodAll enc P W' 0 sp true ts vs ds ps
  | [], _, _, _, _, h, _, _ => by
    obtain ⟨rfl, rfl, rfl⟩ := trodAll_nil h
    rfl
  | t :: ts, _, _, _, hr, h, hlt, hsp => by
    obtain ⟨v, vs, d, ds, p, q, rfl, rfl, rfl, h1, h2⟩ := trodAll_cons h
    simp only [List.all_cons, Bool.and_eq_true, decide_eq_true_eq] at hr
    exact ⟨p, q, WideElems.Trod_stays hl hr.1.1 hr.1.2 h1 (fun x hx => hb.same (hlt x (by simp [hx]))) (fun x hx => hsp x (by simp [hx])),
      trodAll_stays hl hb hr.2 h2 (fun x hx => hlt x (by simp [hx])) (fun x hx => hsp x (by simp [hx])), rfl⟩

/-- A law's row: the function returns true; below the old heap's end nothing has turned. -/
theorem post_law (hl : laidOutB P = true) {f : Func} {s : ChangeSpec} {apart fresh handsOn again : Bool} {W W' : World} {args : Array Value} {ds gs : List (DataW H)} {before : List MemPlace} {tb : TypeId}
    (hW : DataW.Whole enc P f.params.toList s.vars apart W args.toList ds gs before) (hv : s.vars = []) (hr : (f.params.toList.all fun t => P.readableRec t && decide (t < P.types.size)) = true)
    (hb : Go.RowKit.Below W.heap.size W W') (hs : s.fn H (ds ++ gs) = { results := [.lit (.bool true)], args := ds }) (ht : f.resultTypes = #[tb]) (hu : P.underlying tb = some .bool) :
    s.post enc P f apart fresh handsOn again W args (.bool true) W' := by
  have hlt := hW.lt
  have hW0 := hW
  obtain ⟨p, q, hA, hV, rfl, hz, hn⟩ := hW0
  rw [hv] at hV
  obtain ⟨rfl, rfl⟩ := trodVars_none hV
  simp only [List.append_nil] at hs hlt hz hn hW
  have hsv : (s.fn H ds).vars = [] := by rw [hs]
  have hargs : ∀ sp : Nat → Bool, (∀ x ∈ p, sp x.block = true) → DataW.TrodAll enc P W' 0 sp true f.params.toList args.toList (s.fn H (ds ++ [])).args p := fun sp hsp => by
    rw [List.append_nil, hs]
    exact trodAll_stays hl hb hr hA (fun x hx => hlt x hx) hsp
  have hvars : ∀ sp : Nat → Bool, DataW.TrodVars enc P W' sp s.vars (s.fn H (ds ++ [])).vars [] := fun sp => by
    rw [List.append_nil, hv, hsv]; rfl
  have hres : ∀ (b : Nat) (sp : Nat → Bool) (hd : Bool), DataW.TrodAll enc P W' b sp hd f.resultTypes.toList ((Value.bool true).resultList f.resultTypes.size) (s.fn H (ds ++ [])).results [] := fun b sp hd => by
    rw [List.append_nil, hs, ht]
    exact trodAll_cons_mk (shut_bool hu _) trodAll_mk0
  have hold : ∀ x ∈ p, (fun b => decide (b < W.heap.size)) x.block = true := fun x hx => by simpa using hlt x hx
  refine ⟨ds, [], p, [], p, [], hW, hres _ _ _, hargs _ hold, hvars _, World.keptBut_mono (fun _ hp => ⟨hp, Or.inr (by simpa using hp)⟩) (hb.frame _), fun _ => ?_⟩
  refine ⟨ok_one ht rfl (okWide_bool_mk hu _), _, _, ([] ++ p) ++ [], ⟨[] ++ p, [], trodAll_append (hargs _ (fun _ _ => rfl)) (hres _ _ _), hvars _, rfl, ?_, ?_⟩, ?_⟩
  · intro b off hp
    have hp' : MemPlace.cell b off ∈ p := by simpa using hp
    rw [hb.frozen (p := ⟨b, off, none⟩) (hlt _ hp')]
    exact hz b off hp'
  · intro ha
    simpa using hn ha
  · intro x hx _
    simpa using hx
end

end Go.Am
end

/- The abstract machine's run, made for the kernel: temporaries in a tree, small cases. -/
section
namespace Go.Am
open Go.RowKit

/-- The temporaries: how many; a tree of them. -/
structure FT where
  n : Nat
  t : Tr AV

def FT.at (f : FT) (i : Nat) : AV := (f.t.get i).getD .undef
def FT.put (f : FT) (dst : Option Tmp) (v : AV) : FT :=
  match dst with
  | some d => bif Nat.blt d f.n then ⟨f.n, Tr.set (d + 1) f.t d v⟩ else f
  | none => f
def FT.look (f : FT) (i : Nat) : AV := bif Nat.blt i f.n then f.at i else .undef
def FT.toL (f : FT) : List AV := (List.range f.n).map f.at
def FT.fill (n : Nat) : Nat → List AV → Tr AV → FT
  | _, [], t => ⟨n, t⟩
  | i, v :: l, t => FT.fill n (i + 1) l (Tr.set (i + 1) t i v)
def FT.ofL (l : List AV) (n : Nat) : FT := FT.fill n 0 l .nil

@[simp] theorem FT.length (f : FT) : f.toL.length = f.n := by simp [FT.toL]

theorem FT.get_toL (f : FT) (i : Nat) : (f.toL[i]?).getD .undef = if i < f.n then f.at i else .undef := by
  unfold FT.toL
  by_cases h : i < f.n
  · simp [h]
  · simp [h]

theorem FT.look_eq (f : FT) (i : Nat) : f.look i = (f.toL[i]?).getD .undef := by
  rw [FT.get_toL]
  unfold FT.look
  by_cases h : i < f.n
  · have hb : Nat.blt i f.n = true := by simpa [Nat.blt_eq] using h
    rw [hb, if_pos h]; rfl
  · have hb : Nat.blt i f.n = false := by
      cases hb : Nat.blt i f.n with
      | false => rfl
      | true => exact absurd (by simpa [Nat.blt_eq] using hb) h
    rw [hb, if_neg h]; rfl

theorem FT.put_toL (f : FT) (dst : Option Tmp) (v : AV) : (f.put dst v).toL = putT f.toL dst v := by
  cases dst with
  | none => rfl
  | some d =>
    simp only [FT.put, putT]
    by_cases h : d < f.n
    · have hb : Nat.blt d f.n = true := by simpa [Nat.blt_eq] using h
      rw [hb]
      simp only [cond_true]
      apply List.ext_getElem?
      intro i
      simp only [FT.toL, List.getElem?_map, List.getElem?_set, List.length_map, List.length_range]
      by_cases hi : i < f.n
      · by_cases e : d = i
        · subst e; simp [hi, FT.at, Tr.get_set]
        · have e' : ¬ i = d := fun h => e h.symm
          simp [hi, e, e', FT.at, Tr.get_set]
      · by_cases e : d = i
        · subst e; exact absurd h hi
        · simp [hi, e]
    · have hb : Nat.blt d f.n = false := by
        cases hb : Nat.blt d f.n with
        | false => rfl
        | true => exact absurd (by simpa [Nat.blt_eq] using hb) h
      rw [hb]
      simp only [cond_false]
      rw [List.set_eq_of_length_le (by simpa using h)]

theorem FT.fill_n (n : Nat) : ∀ (l : List AV) (i : Nat) (t : Tr AV), (FT.fill n i l t).n = n
  | [], _, _ => rfl
  | _ :: l, _, _ => FT.fill_n n l _ _

theorem FT.fill_at (n : Nat) : ∀ (l : List AV) (i : Nat) (t : Tr AV) (j : Nat), (FT.fill n i l t).at j = if i ≤ j ∧ j < i + l.length then (l[j - i]?).getD .undef else (t.get j).getD .undef
  | [], i, t, j => by
    have : ¬ (i ≤ j ∧ j < i + 0) := by omega
    simp only [List.length_nil, this, if_false]; rfl
  | v :: l, i, t, j => by
    rw [FT.fill, FT.fill_at n l]
    by_cases e : j = i
    · subst e
      have h1 : ¬ (j + 1 ≤ j ∧ j < j + 1 + l.length) := by omega
      simp [h1, Tr.get_set]
    · by_cases h : i ≤ j ∧ j < i + (v :: l).length
      · have h1 : i + 1 ≤ j ∧ j < i + 1 + l.length := by simp at h; omega
        rw [if_pos h, if_pos h1]
        have : j - i = (j - (i + 1)) + 1 := by omega
        rw [this]; rfl
      · have h1 : ¬ (i + 1 ≤ j ∧ j < i + 1 + l.length) := by simp at h; omega
        rw [if_neg h, if_neg h1]
        simp [Tr.get_set, e]

theorem FT.ofL_toL (l : List AV) (n : Nat) : (FT.ofL l (l.length + n)).toL = l ++ List.replicate n .undef := by
  apply List.ext_getElem?
  intro i
  unfold FT.ofL FT.toL
  rw [FT.fill_n]
  simp only [List.getElem?_map]
  by_cases h : i < l.length + n
  · simp only [h, List.getElem?_range, Option.map_some, FT.fill_at]
    by_cases h1 : i < l.length
    · rw [List.getElem?_append_left h1]; simp [h1]
    · rw [if_neg (by omega)]
      rw [List.getElem?_append_right (by omega), List.getElem?_replicate, if_pos (by omega)]
      rfl
  · rw [List.getElem?_eq_none (l := List.range _) (by simp; omega), List.getElem?_eq_none (l := l ++ _) (by simp; omega)]
    rfl

/-! ### One operation -/
section
variable (P : Program)

def evF (f : FT) : Operand → Option AV
  | .tmp t => some (f.look t)
  | .const v => ofV v
  | .global g => if g < P.globals.size then some (.ptr (some (g, 0))) else none
  | .func f => some (.func (.func f) [] [])

theorem evF_eq (f : FT) : evF P f = ev P f.toL := by
  funext x
  cases x with
  | tmp t =>
    simp only [evF, ev, FT.look_eq]
  | const v => rfl
  | global g => rfl
  | func g => rfl

variable (e : Operand → Option AV) (H : AH)

def evsE : List Operand → Option (List AV)
  | [] => some []
  | x :: l => (e x).bind fun v => (evsE l).map (v :: ·)
def evoE : Option Operand → Option (Option AV)
  | none => some none
  | some x => (e x).map some
def evpE : List (Nat × Operand) → Option (List (Nat × AV))
  | [] => some []
  | (i, x) :: l => (e x).bind fun v => (evpE l).map ((i, v) :: ·)

theorem evsE_eq {T : List AV} : ∀ xs, evsE (ev P T) xs = evs P T xs
  | [] => rfl
  | x :: l => by simp only [evsE, evs, evsE_eq l]
theorem evoE_eq {T : List AV} : ∀ x, evoE (ev P T) x = evo P T x
  | none => rfl
  | some _ => rfl
theorem evpE_eq {T : List AV} : ∀ xs, evpE (ev P T) xs = evp P T xs
  | [] => rfl
  | (i, x) :: l => by simp only [evpE, evp, evpE_eq l]

def oMove (x : Operand) : Option (AV × AH) := (e x).map (·, H)
def oPick (c a b : Operand) : Option (AV × AH) := (e c).bind fun c => match c with
    | .bool true => (e a).map (·, H)
    | .bool false => (e b).map (·, H)
    | _ => none
def oAlloc (t : TypeId) : Option (AV × AH) := (zeroOf P t).bind fun z => if z.cells.all AV.one then some (.ptr (some (H.n, 0)), H.alloc (.cells z.cells t { whole := true })) else none
def oBox (t : TypeId) (x : Operand) : Option (AV × AH) := (e x).bind fun v => if v.cells.all AV.one then some (.ptr (some (H.n, 0)), H.alloc (.cells v.cells t { whole := true })) else none
def oBuild (t : TypeId) (ps : Array (Nat × Operand)) : Option (AV × AH) := (evpE e ps.toList).bind fun l => (buildV P t l).map (·, H)
def oBuildSlice (t : TypeId) (n : Nat) (ps : Array (Nat × Operand)) : Option (AV × AH) := (evpE e ps.toList).bind fun l => buildSliceV P H t n l
def oLoad (t : TypeId) (a : Operand) : Option (AV × AH) := (e a).bind fun a => (loadV P H t a).map (·, H)
def oStore (t : TypeId) (a v : Operand) : Option (AV × AH) := (e a).bind fun a => (e v).bind fun v => (storeV P H t a v).map (AV.undef, ·)
def oNil (x : Operand) : Option (AV × AH) := (e x).bind fun v => match v with
    | .ptr (some _) => some (v, H)
    | .func (.func _) _ _ => some (v, H)
    | .yld _ => some (v, H)
    | _ => none
def oBin (op : BinOp) (t : TypeId) (x y : Operand) : Option (AV × AH) := (e x).bind fun a => (e y).bind fun b => (binV P op t x y a b).map (·, H)
def oUn (op : UnOp) (x : Operand) : Option (AV × AH) := (e x).bind fun a => (unV op a).map (·, H)
def oConv (s d : TypeId) (x : Operand) : Option (AV × AH) := (e x).bind fun a => convV P H s d a
def oIface (t : TypeId) (x : Operand) : Option (AV × AH) := (e x).bind fun a => match P.underlying t with
    | some (.interface _) => none
    | some _ => some (.iface t a, H)
    | none => none
def oFunc (f : Fn) (xs ys : Array Operand) : Option (AV × AH) := (evsE e xs.toList).bind fun a => (evsE e ys.toList).bind fun b => some (.func f a b, H)
def oMkSlice (t : TypeId) (l c : Operand) : Option (AV × AH) := (e l).bind fun l => (e c).bind fun c => makeSliceV P H t l c
def oSlice (t : TypeId) (x : Operand) (lo hi mx : Option Operand) : Option (AV × AH) := (e x).bind fun a => (evoE e lo).bind fun lo => (evoE e hi).bind fun hi => (evoE e mx).bind fun mx => (sliceV P H t a lo hi mx).map (·, H)
def oFieldAddr (t : TypeId) (x : Operand) (f : Nat) : Option (AV × AH) := (e x).bind fun a => (fieldAddrV P t a f).map (·, H)
def oField (t : TypeId) (x : Operand) (f : Nat) : Option (AV × AH) := (e x).bind fun a => (fieldV P t a f).map (·, H)
def oIndexAddr (t : TypeId) (x i : Operand) : Option (AV × AH) := (e x).bind fun a => (e i).bind fun i => (indexAddrV P t a i).map (·, H)
def oIndex (t : TypeId) (x i : Operand) : Option (AV × AH) := (e x).bind fun a => (e i).bind fun i => (indexV P t a i).map (·, H)
def oRange (t : TypeId) (x : Operand) : Option (AV × AH) := (e x).bind fun a => match P.underlying t, a with
    | some .string, .str s => some (.ptr (some (H.n, 0)), H.alloc (.iter s 0))
    | _, _ => none
def oNext (x : Operand) : Option (AV × AH) := (e x).bind fun a => match a with
    | .ptr (some (b, 0)) => match H.get b with
      | some (.iter s pos) =>
        if pos < s.length then some (.tuple [.bool true, .int .i64 pos, .int .i32 (decodeL s pos).1], H.set b (.iter s (pos + (decodeL s pos).2)))
        else some (.tuple [.bool false], H)
      | _ => none
    | _ => none
def oAssert (x : Operand) (t : TypeId) (ok : Bool) : Option (AV × AH) := (e x).bind fun a => (typeAssertV P t ok a).map (·, H)
def oExtract (x : Operand) (i : Nat) : Option (AV × AH) := (e x).bind fun a => match a with
    | .tuple vs => (vs[i]?).map (·, H)
    | _ => none
def oBuiltin (b : Builtin) (args : Array Operand) (ts : Array TypeId) : Option (AV × AH) := (evsE e args.toList).bind fun l => builtinV P H b ts.toList l

def opE (op : Op) : Option (AV × AH) :=
  match op with
  | .move x => oMove e H x
  | .assign x => oMove e H x
  | .pick c a b => oPick e H c a b
  | .alloc t => oAlloc P H t
  | .box t x => oBox e H t x
  | .build t ps => oBuild P e H t ps
  | .buildSlice t n ps => oBuildSlice P e H t n ps
  | .load t a => oLoad P e H t a
  | .store t a v => oStore P e H t a v
  | .nilCheck x => oNil e H x
  | .binOp op t x y _ => oBin P e H op t x y
  | .unOp op _ x => oUn e H op x
  | .convert s d x => oConv P e H s d x
  | .makeInterface t x => oIface P e H t x
  | .makeFunc f xs ys => oFunc e H f xs ys
  | .makeSlice t l c => oMkSlice P e H t l c
  | .slice t x lo hi mx => oSlice P e H t x lo hi mx
  | .fieldAddr t x f => oFieldAddr P e H t x f
  | .field t x f => oField P e H t x f
  | .indexAddr t x i => oIndexAddr P e H t x i
  | .index t x i => oIndex P e H t x i
  | .range t x => oRange P e H t x
  | .next x true => oNext e H x
  | .typeAssert x _ t ok => oAssert P e H x t ok
  | .extract x i => oExtract e H x i
  | .call ⟨.builtin b, args, ts⟩ => oBuiltin P e H b args ts
  | _ => none

theorem opE_eq (T : List AV) (o : Oper) : opE P (ev P T) H o.op = opV P T H o := by
  obtain ⟨dst, op, ty, pos, after, guard⟩ := o
  cases op <;> simp only [opE, opV] <;> first
    | rfl
    | rfl
    | (simp only [oBuild, evpE_eq]; done)
    | (simp only [oBuildSlice, evpE_eq]; done)
    | (simp only [oFunc, evsE_eq]; done)
    | (simp only [oSlice, evoE_eq]; done)
    | skip
  case next x str => cases str <;> rfl
  case call c =>
    obtain ⟨callee, args, ts⟩ := c
    cases callee with
    | builtin b => simp only [oBuiltin, evsE_eq]
    | value f => rfl
    | invoke x m => rfl
end

end Go.Am
end

/- The abstract machine's run, made for the kernel. -/
section
namespace Go.Am
open Go.RowKit

structure FS where
  F : FT
  M : List Nat
  H : AH

def FS.dn (s : FS) : St := ⟨s.F.toL, s.M, s.H⟩

abbrev RecF := Option Nat → Code → FS → Option (AEx × FS)

def dn2 (p : AEx × FS) : AEx × St := (p.1, p.2.dn)

def RecEq (rec : Rec) (recF : RecF) : Prop := ∀ r c s, rec r c s.dn = (recF r c s).map dn2

section
variable (P : Program) (X : Ext) (recF : RecF)

def resF (F : FT) (H : AH) : List ResultVar → Option (List AV)
  | [] => some []
  | .tmp t :: l => (resF F H l).map (F.look t :: ·)
  | .cell a t :: l => (loadV P H t (F.look a)).bind fun v => (resF F H l).map (v :: ·)

theorem resF_eq (F : FT) (H : AH) : ∀ l, resF P F H l = resVs P F.toL H l
  | [] => rfl
  | .tmp t :: l => by simp only [resF, resVs, resF_eq F H l, FT.look_eq]
  | .cell a t :: l => by simp only [resF, resVs, resF_eq F H l, FT.look_eq]

def endF (fn : Func) (s : FS) : Option (AV × AH) := (takeMarks s.M s.H).bind fun H' => (resF P s.F H' fn.results.toList).map fun vs => (oneOf vs, H')

def bodyF (fn : Func) (c : Code) (args : List AV) (H : AH) : Option (AV × AH) :=
  match recF none c ⟨FT.ofL args (args.length + (fn.ntmps - args.length)), [], H⟩ with
  | some (.normal, s) => endF P fn s
  | some (.ret, s) => endF P fn s
  | _ => none

def callF (f : FuncId) (args : List AV) (H : AH) : Option (AV × AH) :=
  match P.funcs[f]? with
  | some fn =>
    match fn.body with
    | some c => bif goB P f then bodyF P recF fn c args H else none
    | none => X f args H
  | none => none

def yieldF (b : Nat) (vs : List AV) (H : AH) : Option (AV × AH) :=
  match H.get b with
  | some (.loop _ _ T' ps as bd _) =>
    if vs.length = ps.size then
      match recF (some b) as ⟨FT.ofL (setPs ps.toList vs T') ((setPs ps.toList vs T').length + 0), [], H⟩ with
      | some (.normal, s) =>
        match s.H.get b with
        | some (.loop .ready pe T₁ ps₁ as₁ bd₁ d₁) => (recF (some b) bd ⟨s.F, s.M, s.H.set b (.loop .busy pe T₁ ps₁ as₁ bd₁ d₁)⟩).bind fun p => endRoundX b p.1 p.2.dn
        | _ => none
      | _ => none
    else none
  | _ => none

def callV (fv : AV) (vs : List AV) (H : AH) : Option (AV × AH) :=
  match fv with
  | .func (.func g) x y => callF P X recF g (x ++ vs ++ y) H
  | .yld b => yieldF recF b vs H
  | _ => none

def opF (op : Op) (F : FT) (H : AH) : Option (AV × AH) :=
  match op with
  | .call ⟨.value f, xs, _⟩ => (evF P F f).bind fun fv => (evsE (evF P F) xs.toList).bind fun vs => callV P X recF fv vs H
  | op => opE P (evF P F) H op

def wantedF (ops : Array Oper) (F : FT) (g : Option (Nat × Bool)) : Option Bool :=
  match g with
  | none => some true
  | some (j, want) =>
    match (ops[j]?).bind (·.dst) with
    | none => some false
    | some d =>
      match F.look d with
      | .bool b => some (b == want)
      | .any => none
      | _ => some false

theorem wantedF_eq (ops : Array Oper) (F : FT) (o : Oper) : wantedF ops F o.guard = wantedV ops F.toL o := by
  unfold wantedF wantedV
  cases o.guard with
  | none => rfl
  | some g =>
    obtain ⟨j, want⟩ := g
    cases hd : (ops[j]?).bind (·.dst) with
    | none => simp [hd]
    | some d =>
      simp only [hd, Option.bind_some, FT.look_eq]
      cases hT : F.toL[d]? with
      | none => rfl
      | some v => cases v <;> rfl

abbrev OpsK := FT → AH → Option (FT × AH)

def opsStep (ops : Array Oper) (o : Oper) (ih : OpsK) (F : FT) (H : AH) : Option (FT × AH) :=
  match wantedF ops F o.guard with
  | some true => (opF P X recF o.op F H).bind fun p => ih (F.put o.dst p.1) p.2
  | some false => ih (F.put o.dst .undef) H
  | none => none

noncomputable def opsF (ops : Array Oper) (l : List Oper) : OpsK := List.rec (fun F H => some (F, H)) (fun o _ ih => opsStep P X recF ops o ih) l

abbrev PendF := List (Nat × Oper × FT × AV)

def pend1 (ops : Array Oper) (H : AH) (o : Oper) (F : FT) (v : AV) : Bool :=
  match wantedF ops F o.guard with
  | some true => (match opE P (evF P F) H o.op with | some (u, _) => beqV u v && convOk o.op u | none => false)
  | some false => true
  | none => false

def pendF (ops : Array Oper) (A : List Nat) (i : Nat) (H : AH) : PendF → Bool
  | [] => true
  | (j, o, F, v) :: pend => (ancOf A i j || pend1 P ops H o F v) && pendF ops A i H pend

abbrev DrawK := PendF → FT → AH → Option (FT × AH)

def drawStep (ops : Array Oper) (A : List Nat) (i k : Nat) (o : Oper) (ih : DrawK) (pend : PendF) (F : FT) (H : AH) : Option (FT × AH) :=
  match wantedF ops F o.guard with
  | none => none
  | some false => ih (if k = 2 ∨ k = 0 then pend else (i, o, F, .undef) :: pend) (F.put o.dst .undef) H
  | some true =>
    if k = 2 then (opF P X recF o.op F H).bind fun p => if pendF P ops A i p.2 pend then ih pend (F.put o.dst p.1) p.2 else none
    else (opE P (evF P F) H o.op).bind fun p => if convOk o.op p.1 then ih (if k = 0 then pend else (i, o, F, p.1) :: pend) (F.put o.dst p.1) H else none

def drawStep0 (ops : Array Oper) (A : List Nat) (q : Nat × Nat) (ih : DrawK) : DrawK :=
  match ops[q.1]? with
  | none => fun _ _ _ => none
  | some o => drawStep P X recF ops A q.1 q.2 o ih

noncomputable def drawF (ops : Array Oper) (A : List Nat) (σ : List (Nat × Nat)) : DrawK := List.rec (fun _ F H => some (F, H)) (fun q _ ih => drawStep0 P X recF ops A q ih) σ

noncomputable def scopeF (r : Option Nat) (c : Code) (m : Nat) : Code → FS → Option (AEx × FS) := Nat.rec (fun _ _ => none) (fun _ ih cur s =>
    match recF r cur s with
    | some (.goto l, s') =>
      match findLabel c l with
      | some rest => ih rest s'
      | none => some (.goto l, s')
    | x => x) m

noncomputable def loopF (r : Option Nat) (c : Code) (m : Nat) : FS → Option (AEx × FS) := Nat.rec (fun _ => none) (fun _ ih s =>
    match recF r c s with
    | some (.normal, s') => ih s'
    | x => x) m

def endRangeF (r : Option Nat) (l : Nat) (F : FT) (M : List Nat) (H : AH) : Option (AEx × FS) :=
  match H.get l with
  | some (.loop st pe _ _ _ _ _) =>
    if isBusy st then none
    else match pe with
      | none => some (.normal, ⟨F, M, H.set l .dead⟩)
      | some c => recF r c ⟨F, M, H.set l .dead⟩
  | _ => none

def rangeF (r : Option Nat) (g : Operand) (ps : Array Tmp) (as bd : Code) (s : FS) : Option (AEx × FS) :=
  (evF P s.F g).bind fun gv =>
    match gv, r with
    | .func (.func gf) x y, none =>
      if goB P gf then (callF P X recF gf (x ++ [.yld (s.H.n + 1)] ++ y) ((s.H.alloc .deferred).alloc (.loop .ready none s.F.toL ps as bd s.H.n))).bind fun p => endRangeF recF none (s.H.n + 1) s.F (s.H.n :: s.M) p.2 else none
    | .func (.func gf) x y, some b₀ =>
      match s.H.get b₀ with
      | some (.loop _ _ _ _ _ _ d₀) =>
        if goB P gf then (callF P X recF gf (x ++ [.yld s.H.n] ++ y) (s.H.alloc (.loop .ready none s.F.toL ps as bd d₀))).bind fun p => endRangeF recF (some b₀) s.H.n s.F s.M p.2 else none
      | _ => none
    | _, _ => none

def seqF (r : Option Nat) (a b : Code) (s : FS) : Option (AEx × FS) :=
  match recF r a s with
  | some (.normal, s') => recF r b s'
  | x => x

def condF (r : Option Nat) (c : Operand) (x y : Code) (s : FS) : Option (AEx × FS) :=
  match evF P s.F c with
  | some (.bool true) => recF r x s
  | some (.bool false) => recF r y s
  | _ => none

def backF (M : List Nat) (p : FT × AH) : AEx × FS := (.normal, ⟨p.1, M, p.2⟩)

noncomputable def drawRegionF (ops : Array Oper) (s : FS) : Option (AEx × FS) :=
  match drawOf ops with
  | some (σ, A) => (drawF P X recF ops A σ [] s.F s.H).map (backF s.M)
  | none => none

noncomputable def stepF (n : Nat) : RecF := fun r c s =>
  match c with
  | .skip => some (.normal, s)
  | .label _ => some (.normal, s)
  | .exit id => some (.exit id, s)
  | .goto l => some (.goto l, s)
  | .ret => some (.ret, s)
  | .refuse _ => none
  | .seq a b => seqF recF r a b s
  | .cond c x y => condF P recF r c x y s
  | .block id c => (recF r c s).map fun p => (inBlockX id p.1, p.2)
  | .loop c => loopF recF r c n s
  | .scope c => scopeF recF r c n c s
  | .region _ ops false => (opsF P X recF ops ops.toList s.F s.H).map (backF s.M)
  | .region _ ops true => drawRegionF P X recF ops s
  | .rangeFunc g ps as bd => rangeF P X recF r g ps as bd s
end

noncomputable def runF (P : Program) (X : Ext) (n : Nat) : RecF := Nat.rec (fun _ _ _ => none) (fun n ih => stepF P X ih n) n

noncomputable def runCallF (P : Program) (X : Ext) (n : Nat) (f : FuncId) (args : List AV) (H : AH) : Option (AV × AH) := callF P X (runF P X n) f args H

end Go.Am
end

/- The abstract machine's two runs are one. -/
section
namespace Go.Am
open Go.RowKit

section
variable {P : Program} {X : Ext} {rec : Rec} {recF : RecF}

theorem endF_eq (fn : Func) (s : FS) : ((takeMarks s.dn.M s.dn.H).bind fun H' => (resVs P s.dn.T H' fn.results.toList).map fun vs => (oneOf vs, H')) = endF P fn s := by
  unfold endF
  simp only [resF_eq]
  rfl

theorem callF_eq (h : RecEq rec recF) (f : FuncId) (args : List AV) (H : AH) : callX P X rec f args H = callF P X recF f args H := by
  unfold callX callF
  cases P.funcs[f]? with
  | none => rfl
  | some fn =>
    simp only
    cases fn.body with
    | none => rfl
    | some c =>
      simp only
      cases goB P f with
      | false => rfl
      | true =>
        simp only [if_true, cond_true]
        have e : rec none c ⟨args ++ List.replicate (fn.ntmps - args.length) .undef, [], H⟩ = (recF none c ⟨FT.ofL args (args.length + (fn.ntmps - args.length)), [], H⟩).map dn2 := by
          rw [← h]; simp only [FS.dn, FT.ofL_toL]
        rw [e]
        unfold bodyF
        cases recF none c ⟨FT.ofL args (args.length + (fn.ntmps - args.length)), [], H⟩ with
        | none => rfl
        | some p =>
          obtain ⟨e, s⟩ := p
          cases e with
          | normal => exact endF_eq fn s
          | ret => exact endF_eq fn s
          | exit id => rfl
          | goto l => rfl

theorem yieldF_eq (h : RecEq rec recF) (b : Nat) (vs : List AV) (H : AH) : yieldX rec b vs H = yieldF recF b vs H := by
  unfold yieldX yieldF
  cases H.get b with
  | none => rfl
  | some o =>
    cases o with
    | loop st pe T' ps as bd d =>
      simp only
      by_cases hl : vs.length = ps.size
      · rw [if_pos hl, if_pos hl]
        have e : rec (some b) as ⟨setPs ps.toList vs T', [], H⟩ = (recF (some b) as ⟨FT.ofL (setPs ps.toList vs T') ((setPs ps.toList vs T').length + 0), [], H⟩).map dn2 := by
          rw [← h]; simp only [FS.dn, FT.ofL_toL, List.replicate_zero, List.append_nil]
        rw [e]
        cases recF (some b) as ⟨FT.ofL (setPs ps.toList vs T') ((setPs ps.toList vs T').length + 0), [], H⟩ with
        | none => rfl
        | some p =>
          obtain ⟨e, s⟩ := p
          cases e with
          | normal =>
            simp only [Option.map_some, dn2, FS.dn]
            cases hg : s.H.get b with
            | none => rfl
            | some o =>
              cases o with
              | loop st₁ pe₁ T₁ ps₁ as₁ bd₁ d₁ =>
                cases st₁ with
                | ready =>
                  simp only
                  have e2 : rec (some b) bd ⟨s.F.toL, s.M, s.H.set b (.loop .busy pe₁ T₁ ps₁ as₁ bd₁ d₁)⟩ = (recF (some b) bd ⟨s.F, s.M, s.H.set b (.loop .busy pe₁ T₁ ps₁ as₁ bd₁ d₁)⟩).map dn2 := h (some b) bd ⟨s.F, s.M, s.H.set b (.loop .busy pe₁ T₁ ps₁ as₁ bd₁ d₁)⟩
                  rw [e2]
                  cases recF (some b) bd ⟨s.F, s.M, s.H.set b (.loop .busy pe₁ T₁ ps₁ as₁ bd₁ d₁)⟩ with
                  | none => rfl
                  | some q => rfl
                | _ => rfl
              | _ => rfl
          | _ => rfl
      · rw [if_neg hl, if_neg hl]
    | _ => rfl

theorem opF_eq (h : RecEq rec recF) (o : Oper) (F : FT) (H : AH) : opX P X rec o F.toL H = opF P X recF o.op F H := by
  have key : opV P F.toL H o = opE P (evF P F) H o.op := by rw [evF_eq, opE_eq]
  obtain ⟨dst, op, ty, pos, after, guard⟩ := o
  unfold opX opF
  cases op
  case call c =>
    obtain ⟨callee, args, ts⟩ := c
    cases callee with
    | value f =>
      simp only [evF_eq, evsE_eq]
      cases ev P F.toL f with
      | none => rfl
      | some fv =>
        simp only [Option.bind_some]
        cases evs P F.toL args.toList with
        | none => rfl
        | some vs =>
          simp only [Option.bind_some]
          unfold callV
          cases fv with
          | func g x y =>
            cases g with
            | func g => simp only [callF_eq h]
            | _ => rfl
          | yld b => simp only [yieldF_eq h]
          | _ => rfl
    | builtin b => exact key
    | invoke x m => exact key
  all_goals exact key

theorem opsF_eq (h : RecEq rec recF) (ops : Array Oper) : ∀ (l : List Oper) (F : FT) (H : AH), opsX P X rec ops l F.toL H = (opsF P X recF ops l F H).map fun p => (p.1.toL, p.2)
  | [], F, H => rfl
  | o :: l, F, H => by
    show opsX P X rec ops (o :: l) F.toL H = (opsStep P X recF ops o (opsF P X recF ops l) F H).map _
    unfold opsStep
    simp only [opsX, wantedF_eq]
    cases wantedV ops F.toL o with
    | none => rfl
    | some b =>
      cases b with
      | false =>
        simp only
        rw [← FT.put_toL, opsF_eq h ops l]
      | true =>
        simp only [opF_eq h]
        cases opF P X recF o.op F H with
        | none => rfl
        | some p =>
          simp only [Option.bind_some]
          rw [← FT.put_toL, opsF_eq h ops l]

def upP (p : Nat × Oper × FT × AV) : Nat × Oper × List AV × AV := (p.1, p.2.1, p.2.2.1.toL, p.2.2.2)

theorem pendF_eq (ops : Array Oper) (A : List Nat) (i : Nat) (H : AH) : ∀ pend : PendF, pendB P ops A i H (pend.map upP) = pendF P ops A i H pend
  | [] => rfl
  | (j, o, F, v) :: pend => by
    simp only [List.map_cons, upP, pendB, pendF, pendF_eq ops A i H pend, pend1, wantedF_eq, evF_eq, opE_eq]
    try rfl

theorem drawF_eq (h : RecEq rec recF) (ops : Array Oper) (A : List Nat) : ∀ (σ : List (Nat × Nat)) (pend : PendF) (F : FT) (H : AH), drawX P X rec ops A σ (pend.map upP) F.toL H = (drawF P X recF ops A σ pend F H).map fun p => (p.1.toL, p.2)
  | [], _, F, H => rfl
  | (i, k) :: σ, pend, F, H => by
    show drawX P X rec ops A ((i, k) :: σ) (pend.map upP) F.toL H = (drawStep0 P X recF ops A (i, k) (drawF P X recF ops A σ) pend F H).map _
    unfold drawStep0
    simp only [drawX]
    cases ops[i]? with
    | none => rfl
    | some o =>
      simp only
      unfold drawStep
      simp only [wantedF_eq]
      cases wantedV ops F.toL o with
      | none => rfl
      | some b =>
        cases b with
        | false =>
          simp only
          rw [← FT.put_toL, ← drawF_eq h ops A σ]
          split <;> rfl
        | true =>
          simp only
          by_cases hk : k = 2
          · simp only [hk, if_true, opF_eq h]
            cases opF P X recF o.op F H with
            | none => rfl
            | some p =>
              simp only [Option.bind_some, pendF_eq]
              split
              · rw [← FT.put_toL, drawF_eq h ops A σ]
              · rfl
          · simp only [hk, if_false, evF_eq, opE_eq]
            cases opV P F.toL H o with
            | none => rfl
            | some p =>
              simp only [Option.bind_some]
              split
              · rw [← FT.put_toL, ← drawF_eq h ops A σ]
                split <;> rfl
              · rfl

theorem scopeF_eq (h : RecEq rec recF) (r : Option Nat) (c : Code) : ∀ (m : Nat) (cur : Code) (s : FS), scopeX rec r c m cur s.dn = (scopeF recF r c m cur s).map dn2
  | 0, _, _ => rfl
  | m + 1, cur, s => by
    show scopeX rec r c (m + 1) cur s.dn = (match recF r cur s with
      | some (.goto l, s') => match findLabel c l with | some rest => scopeF recF r c m rest s' | none => some (.goto l, s')
      | x => x).map dn2
    have hh := h r cur s
    simp only [scopeX, hh]
    cases recF r cur s with
    | none => rfl
    | some p =>
      obtain ⟨e, s'⟩ := p
      cases e with
      | goto l =>
        simp only [Option.map_some, dn2]
        cases findLabel c l with
        | none => rfl
        | some rest => exact scopeF_eq h r c m rest s'
      | _ => rfl

theorem loopF_eq (h : RecEq rec recF) (r : Option Nat) (c : Code) : ∀ (m : Nat) (s : FS), loopX rec r c m s.dn = (loopF recF r c m s).map dn2
  | 0, _ => rfl
  | m + 1, s => by
    show loopX rec r c (m + 1) s.dn = (match recF r c s with
      | some (.normal, s') => loopF recF r c m s'
      | x => x).map dn2
    have hh := h r c s
    simp only [loopX, hh]
    cases recF r c s with
    | none => rfl
    | some p =>
      obtain ⟨e, s'⟩ := p
      cases e with
      | normal => exact loopF_eq h r c m s'
      | _ => rfl

theorem endRangeF_eq (h : RecEq rec recF) (r : Option Nat) (l : Nat) (F : FT) (M : List Nat) (H : AH) : endRangeX rec r l F.toL M H = (endRangeF recF r l F M H).map dn2 := by
  unfold endRangeX endRangeF
  cases H.get l with
  | none => rfl
  | some o =>
    cases o with
    | loop st pe T' ps as bd d =>
      simp only
      cases isBusy st with
      | true => rfl
      | false =>
        simp only [Bool.false_eq_true, if_false]
        cases pe with
        | none => rfl
        | some c => exact h r c ⟨F, M, H.set l .dead⟩
    | _ => rfl

theorem rangeF_eq (h : RecEq rec recF) (r : Option Nat) (g : Operand) (ps : Array Tmp) (as bd : Code) (s : FS) : rangeX P X rec r g ps as bd s.dn = (rangeF P X recF r g ps as bd s).map dn2 := by
  unfold rangeX rangeF
  simp only [evF_eq, callF_eq h]
  show (ev P s.F.toL g).bind _ = _
  cases ev P s.F.toL g with
  | none => rfl
  | some gv =>
    simp only [Option.bind_some]
    cases gv with
    | func fn x y =>
      cases fn with
      | func gf =>
        cases r with
        | none =>
          simp only
          cases goB P gf with
          | false => rfl
          | true =>
            simp only [if_true, FS.dn]
            cases callF P X recF gf (x ++ [.yld (s.H.n + 1)] ++ y) ((s.H.alloc .deferred).alloc (.loop .ready none s.F.toL ps as bd s.H.n)) with
            | none => rfl
            | some p => exact endRangeF_eq h none (s.H.n + 1) s.F (s.H.n :: s.M) p.2
        | some b₀ =>
          simp only [FS.dn]
          cases s.H.get b₀ with
          | none => rfl
          | some o =>
            cases o with
            | loop st pe T' ps' as' bd' d₀ =>
              simp only
              cases goB P gf with
              | false => rfl
              | true =>
                simp only [if_true]
                cases callF P X recF gf (x ++ [.yld s.H.n] ++ y) (s.H.alloc (.loop .ready none s.F.toL ps as bd d₀)) with
                | none => rfl
                | some p => exact endRangeF_eq h (some b₀) s.H.n s.F s.M p.2
            | _ => rfl
      | _ => cases r <;> rfl
    | _ => cases r <;> rfl

theorem runF_eq : ∀ n, RecEq (run P X n) (runF P X n)
  | 0 => fun _ _ _ => rfl
  | n + 1 => fun r c s => by
    have h := runF_eq n
    show run P X (n + 1) r c s.dn = (stepF P X (runF P X n) n r c s).map dn2
    cases c with
    | skip => rfl
    | label l => rfl
    | exit id => rfl
    | goto l => rfl
    | ret => rfl
    | refuse w => rfl
    | seq a b =>
      have hh := h r a s
      simp only [run, stepF, seqF, hh]
      cases runF P X n r a s with
      | none => rfl
      | some p =>
        obtain ⟨e, s'⟩ := p
        cases e with
        | normal => exact h r b s'
        | _ => rfl
    | cond c x y =>
      simp only [run, stepF, condF, evF_eq]
      show (match ev P s.F.toL c with | some (.bool true) => run P X n r x s.dn | some (.bool false) => run P X n r y s.dn | _ => none) = _
      cases ev P s.F.toL c with
      | none => rfl
      | some v =>
        cases v with
        | bool b => cases b <;> exact h _ _ _
        | _ => rfl
    | block id c =>
      have hh := h r c s
      simp only [run, stepF, hh]
      cases runF P X n r c s with
      | none => rfl
      | some p => rfl
    | loop c => exact loopF_eq h r c n s
    | scope c => exact scopeF_eq h r c n c s
    | region id ops draw =>
      cases draw with
      | false =>
        simp only [run, stepF]
        show (opsX P X (run P X n) ops ops.toList s.F.toL s.H).map _ = _
        rw [opsF_eq h]
        cases opsF P X (runF P X n) ops ops.toList s.F s.H with
        | none => rfl
        | some p => rfl
      | true =>
        simp only [run, stepF, drawRegionF]
        cases drawOf ops with
        | none => rfl
        | some q =>
          obtain ⟨σ, A⟩ := q
          simp only
          have := drawF_eq (P := P) (X := X) h ops A σ [] s.F s.H
          simp only [List.map_nil] at this
          show (drawX P X (run P X n) ops A σ [] s.F.toL s.H).map _ = _
          rw [this]
          cases drawF P X (runF P X n) ops A σ [] s.F s.H with
          | none => rfl
          | some p => rfl
    | rangeFunc g ps as bd => exact rangeF_eq h r g ps as bd s

theorem runCallF_eq (n : Nat) (f : FuncId) (args : List AV) (H : AH) : runCall P X n f args H = runCallF P X n f args H := callF_eq (runF_eq n) f args H

/-- A call, by the run. -/
theorem ACall.of_run (hm : P.follows .mixedOrders = true) (hX : ExtOk P X) {n : Nat} {f : FuncId} {args : List AV} {H : AH} {v : AV} (hgo : goB P f = true) (h : (runCallF P X n f args H).map (·.1) = some v) :
    ACall P f args H (fun v' _ => v' = v) := by
  obtain ⟨⟨v', H'⟩, hr, rfl⟩ := Option.map_eq_some_iff.1 h
  rw [← runCallF_eq] at hr
  exact (runCall_sound hm hX hgo hr).mono fun _ _ h => h.1
end

end Go.Am
end

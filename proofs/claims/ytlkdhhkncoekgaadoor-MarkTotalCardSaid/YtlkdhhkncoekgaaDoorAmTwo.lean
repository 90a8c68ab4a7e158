/- The abstract machine: statements, calls, yields, ranges over functions, runs of closed code; that they are sound. -/
import Derived.Test.YtlkdhhkncoekgaaDoorAmOne
import Derived.OrdersIn
import Derived.TacticsIn
import Derived.Scope
import Derived.RangeFuncLeaves
import Derived.RangeFuncRecord
import Derived.RecoverIn
import Derived.ProofKit
import Derived.WalkKit
import Derived.OpenShut
import Derived.Lib.LaidTab
import Derived.Lib.Bytealg
import Derived.Lib.MakeNoZero
import Derived.Lib.IndexEntry
import Derived.Conc.AtomicLaws2
import Derived.Deep.DeepHandedRow
import Derived.Stop.LaidErr

/- The abstract machine: activations, statements, operations in a region, calls. -/
section
namespace Go

section
variable {F : Fence} {n : Nat} {P : Program} {Q : Exit → Act → World → Prop} {a : Act} {w : World}

theorem wpIn_loop_ix {c : Code} (I : Nat → Act → World → Prop) {j : Nat} (h₀ : I j a w)
    (round : ∀ j a w, I j a w → c.wpIn F n P (Exit.then (fun a' w' => ∃ i, i < j ∧ I i a' w') Q) a w) : (Code.loop c).wpIn F n P Q a w := by
  intro b k cs hro hb hr
  have key : ∀ j a w, I j a w →
      ∃ e a' w', Q e a' w' ∧ ArrivesIn (Machine.fenced P F) P (lone (b.atR a (.code c :: .inLoop c :: k)) cs w) b k cs e a' w' := by
    intro j
    induction j using Nat.strongRecOn with
    | _ j ih =>
      intro a w hI
      obtain ⟨e, a₁, w₁, hq, harr⟩ := round j a w hI b (.inLoop c :: k) cs hro hb hr
      cases e with
      | normal =>
        obtain ⟨i, hlt, hI₁⟩ := hq
        obtain ⟨e₂, a₂, w₂, hq₂, harr₂⟩ := ih i hlt a₁ w₁ hI₁
        exact ⟨e₂, a₂, w₂, hq₂, .of_steps (StepsIn.trans harr (.one (fenced_calm hb hr rfl) stepR_inLoop)) harr₂⟩
      | exit id => exact ⟨_, a₁, w₁, hq, .pass (x := .inLoop c) rfl (fun _ _ => .inl (by simp)) harr⟩
      | goto l => exact ⟨_, a₁, w₁, hq, .pass (x := .inLoop c) rfl (fun _ _ => .inl (by simp)) harr⟩
      | ret => exact ⟨_, a₁, w₁, hq, .pass (x := .inLoop c) rfl (fun _ _ => .inl (by simp)) harr⟩
      | panic ch => exact ⟨_, a₁, w₁, hq, .pass (x := .inLoop c) rfl (fun _ _ => .inl (by simp)) harr⟩
      | outgrown => exact ⟨_, a₁, w₁, hq, .pass (x := .inLoop c) rfl (fun _ _ => .inl (by simp)) harr⟩
  obtain ⟨e, a', w', hq, harr⟩ := key _ a w h₀
  exact ⟨e, a', w', hq, .of_steps (.one (fenced_calm hb hr rfl) stepR_loop) harr⟩

theorem stepR_scope {b : Frame} {c : Code} {k : List Item} {cs : List Frame} : step P (lone (b.atR a (.code (.scope c) :: k)) cs w) = .next (lone (b.atR a (.code c :: .inScope c :: k)) cs w) :=
  step_lone_go (by simp [stepG, stepG.exec, Frame.atR])
theorem stepR_inScope {b : Frame} {c : Code} {k : List Item} {cs : List Frame} : step P (lone (b.atR a (.inScope c :: k)) cs w) = .next (lone (b.atR a k) cs w) :=
  step_lone_go (by simp [stepG, stepG.exec, Frame.atR])

def Exit.jumps (c : Code) (J : Nat → Act → World → Prop) (Q : Exit → Act → World → Prop) : Exit → Act → World → Prop
  | .goto l, a, w => if (findLabel c l).isSome then J l a w else Q (.goto l) a w
  | e, a, w => Q e a w

theorem wpIn_scope_ix {c : Code} (J : Nat → Nat → Act → World → Prop) (first : c.wpIn F n P (Exit.jumps c (fun l a w => ∃ j, J j l a w) Q) a w)
    (pass : ∀ j l a w rest, findLabel c l = some rest → J j l a w → rest.wpIn F n P (Exit.jumps c (fun l' a' w' => ∃ i, i < j ∧ J i l' a' w') Q) a w) : (Code.scope c).wpIn F n P Q a w := by
  intro b k cs hro hb hr
  have hx : ∀ id, exitTo id (.inScope c :: k) = exitTo id k := fun id => by simp [exitTo]
  have hg0 : ∀ l, (findLabel c l).isSome = false → gotoIn l (.inScope c :: k) = gotoIn l k := fun l h => by
    cases hf : findLabel c l with
    | none => simp [gotoIn, hf]
    | some r => rw [hf] at h; cases h
  have hg1 : ∀ l rest, findLabel c l = some rest → gotoIn l (.inScope c :: k) = some (.code rest :: .inScope c :: k) := fun l rest h => by simp [gotoIn, h]
  have key : ∀ j l a w rest, findLabel c l = some rest → J j l a w → ∃ e a' w', Q e a' w' ∧ ArrivesIn (Machine.fenced P F) P (lone (b.atR a (.code rest :: .inScope c :: k)) cs w) b k cs e a' w' := by
    intro j
    induction j using Nat.strongRecOn with
    | _ j ih =>
      intro l a w rest hf hJ
      obtain ⟨e, a₁, w₁, hq, harr⟩ := pass j l a w rest hf hJ b (.inScope c :: k) cs hro hb hr
      cases e with
      | normal => exact ⟨.normal, a₁, w₁, hq, StepsIn.trans harr (.one (fenced_calm hb hr rfl) stepR_inScope)⟩
      | exit id => exact ⟨.exit id, a₁, w₁, hq, fun k' hk => harr.1 k' (by rw [hx]; exact hk), fun hr' hk => harr.2 hr' (by rw [hx]; exact hk)⟩
      | goto l' =>
        simp only [Exit.jumps] at hq
        split at hq
        · rename_i hs
          obtain ⟨rest', hf'⟩ := Option.isSome_iff_exists.1 hs
          obtain ⟨i, hlt, hJ'⟩ := hq
          obtain ⟨e₂, a₂, w₂, hq₂, harr₂⟩ := ih i hlt l' a₁ w₁ rest' hf' hJ'
          exact ⟨e₂, a₂, w₂, hq₂, .of_steps (harr.1 _ (hg1 _ _ hf')) harr₂⟩
        · rename_i hs
          have := hg0 l' (by simpa using hs)
          exact ⟨.goto l', a₁, w₁, hq, fun k' hk => harr.1 k' (by rw [this]; exact hk), fun hr' hk => harr.2 hr' (by rw [this]; exact hk)⟩
      | ret => exact ⟨_, a₁, w₁, hq, harr⟩
      | panic ch => exact ⟨_, a₁, w₁, hq, harr⟩
      | outgrown => exact ⟨_, a₁, w₁, hq, harr⟩
  have h0 : StepsIn (Machine.fenced P F) P (lone (b.atR a (.code (.scope c) :: k)) cs w) (lone (b.atR a (.code c :: .inScope c :: k)) cs w) := .one (fenced_calm hb hr rfl) stepR_scope
  obtain ⟨e, a₁, w₁, hq, harr⟩ := first b (.inScope c :: k) cs hro hb hr
  cases e with
  | normal => exact ⟨.normal, a₁, w₁, hq, h0.trans (StepsIn.trans harr (.one (fenced_calm hb hr rfl) stepR_inScope))⟩
  | exit id => exact ⟨.exit id, a₁, w₁, hq, .of_steps h0 ⟨fun k' hk => harr.1 k' (by rw [hx]; exact hk), fun hr' hk => harr.2 hr' (by rw [hx]; exact hk)⟩⟩
  | goto l' =>
    simp only [Exit.jumps] at hq
    split at hq
    · rename_i hs
      obtain ⟨rest', hf'⟩ := Option.isSome_iff_exists.1 hs
      obtain ⟨j, hJ'⟩ := hq
      obtain ⟨e₂, a₂, w₂, hq₂, harr₂⟩ := key j l' a₁ w₁ rest' hf' hJ'
      exact ⟨e₂, a₂, w₂, hq₂, .of_steps (h0.trans (harr.1 _ (hg1 _ _ hf'))) harr₂⟩
    · rename_i hs
      have := hg0 l' (by simpa using hs)
      exact ⟨.goto l', a₁, w₁, hq, .of_steps h0 ⟨fun k' hk => harr.1 k' (by rw [this]; exact hk), fun hr' hk => harr.2 hr' (by rw [this]; exact hk)⟩⟩
  | ret => exact ⟨_, a₁, w₁, hq, .of_steps h0 harr⟩
  | panic ch => exact ⟨_, a₁, w₁, hq, .of_steps h0 harr⟩
  | outgrown => exact ⟨_, a₁, w₁, hq, .of_steps h0 harr⟩
end

namespace Am
open Go.RowKit

inductive Mk where
  | mark (m : Nat)
  | call (g : FuncId) (a y : List AV)


structure St where
  T : List AV
  M : List Mk
  H : AH

inductive AEx where
  | normal
  | exit (id : Nat)
  | goto (l : Nat)
  | ret
  deriving DecidableEq

def AEx.toExit : AEx → Exit
  | .normal => .normal
  | .exit id => .exit id
  | .goto l => .goto l
  | .ret => .ret

def Fr (rc : Option Nat) : Fence := { Fence.wide with round := rc }

theorem callsIn_fr {rc : Option Nat} {n : Nat} {P : Program} {f : FuncId} {args : Array Value} {w : World} {R : Ending → World → Prop} : CallsIn (Fr rc) n P f args w R ↔ Calls P f args w R :=
  show CallsIn Fence.wide n P f args w R ↔ _ from callsIn_wide

def MR (D : List Deferred) (E : Env) : List Mk → List Deferred → Prop
  | [], ds => ds = D
  | .mark m :: ms, ds => ∃ L ds', E m = some L ∧ ds = { target := .collected L.blk, args := #[] } :: ds' ∧ MR D E ms ds'
  | .call g a y :: ms, ds => ∃ a' y' ds', VRs E a a'.toList ∧ VRs E y y'.toList ∧ ds = { target := .fn (.func g) y', args := a' } :: ds' ∧ MR D E ms ds'

theorem MR.mono {D : List Deferred} {E E' : Env} (h : E.le E') : ∀ {ms : List Mk} {ds : List Deferred}, MR D E ms ds → MR D E' ms ds
  | [], _, k => k
  | .mark _ :: _, _, k => by obtain ⟨L, ds', h1, h2, h3⟩ := k; exact ⟨L, ds', h _ _ h1, h2, MR.mono h h3⟩
  | .call _ _ _ :: _, _, k => by obtain ⟨a', y', ds', h1, h2, h3, h4⟩ := k; exact ⟨a', y', ds', VRs.mono h _ _ h1, VRs.mono h _ _ h2, h3, MR.mono h h4⟩

def RR (E : Env) : Option Nat → Option Nat → Prop
  | none, rc => rc = none
  | some l, rc => ∃ L, E l = some L ∧ rc = some L.blk

theorem RR.mono {E E' : Env} (h : E.le E') {r rc : Option Nat} (k : RR E r rc) : RR E' r rc := by
  cases r with
  | none => exact k
  | some l => obtain ⟨L, h1, h2⟩ := k; exact ⟨L, h _ _ h1, h2⟩

structure SR (P : Program) (E : Env) (B : Bnd) (s : St) (a : Act) (w : World) : Prop where
  heap : HR P E B s.H w
  tmps : VRs E s.T a.tmps.toList
  marks : MR B.D E s.M a.defers

def APost (P : Program) (E : Env) (B : Bnd) (w : World) (Q : AEx → St → Prop) : Exit → Act → World → Prop := fun e a' w' =>
  ∃ ae s' E', e = AEx.toExit ae ∧ Q ae s' ∧ E.le E' ∧ SR P E' B s' a' w' ∧ Below B w w'

def AWp (P : Program) (r : Option Nat) (c : Code) (Q : AEx → St → Prop) (s : St) : Prop :=
  ∀ E B w a rc, SR P E B s a w → RR E r rc → c.wpIn (Fr rc) 0 P (APost P E B w Q) a w

def ACall (P : Program) (f : FuncId) (args : List AV) (H : AH) (Q : AV → AH → Prop) : Prop :=
  ∀ E B w args', HR P E B H w → VRs E args args'.toList →
    Calls P f args' w (fun e w' => ∃ v H' E' x, e = .returned x ∧ Q v H' ∧ E.le E' ∧ HR P E' B H' w' ∧ VR E' v x ∧ Below B w w')

section rules
variable {P : Program} {r : Option Nat} {Q : AEx → St → Prop} {s : St}

theorem APost.trans {E E' : Env} {B : Bnd} {w w' : World} {Q : AEx → St → Prop} {e : Exit} {a : Act} {w'' : World} (hE : E.le E') (hb : Below B w w') (h : APost P E' B w' Q e a w'') : APost P E B w Q e a w'' := by
  obtain ⟨ae, s', E'', h1, h2, h3, h4, h5⟩ := h
  exact ⟨ae, s', E'', h1, h2, hE.trans h3, h4, hb.trans h5⟩

theorem AWp.mono {c : Code} {Q' : AEx → St → Prop} (h : AWp P r c Q s) (hq : ∀ e s, Q e s → Q' e s) : AWp P r c Q' s :=
  fun E B w a rc hs hr => Go.wpIn_mono (h E B w a rc hs hr) fun _ _ _ ⟨ae, s', E', h1, h2, h3⟩ => ⟨ae, s', E', h1, hq _ _ h2, h3⟩

theorem ACall.mono {f : FuncId} {args : List AV} {H : AH} {Q Q' : AV → AH → Prop} (h : ACall P f args H Q) (hq : ∀ v H, Q v H → Q' v H) : ACall P f args H Q' :=
  fun E B w args' hH ha => Calls.mono (h E B w args' hH ha) fun _ _ ⟨v, H', E', x, h1, h2, h3⟩ => ⟨v, H', E', x, h1, hq _ _ h2, h3⟩

def thenA (K : St → Prop) (Q : AEx → St → Prop) : AEx → St → Prop
  | .normal, s => K s
  | e, s => Q e s

def inBlockA (id : Nat) (Q : AEx → St → Prop) : AEx → St → Prop
  | .exit i, s => if i = id then Q .normal s else Q (.exit i) s
  | e, s => Q e s

def jumpsA (c : Code) (J : Nat → St → Prop) (Q : AEx → St → Prop) : AEx → St → Prop
  | .goto l, s => if (findLabel c l).isSome then J l s else Q (.goto l) s
  | e, s => Q e s

theorem AWp.skip (h : Q .normal s) : AWp P r .skip Q s := fun E B w _ _ hs _ => wpIn_skip ⟨.normal, s, E, rfl, h, Env.le.refl E, hs, Below.refl B w⟩
theorem AWp.label {l : Nat} (h : Q .normal s) : AWp P r (.label l) Q s := fun E B w _ _ hs _ => wpIn_label ⟨.normal, s, E, rfl, h, Env.le.refl E, hs, Below.refl B w⟩
theorem AWp.exit {id : Nat} (h : Q (.exit id) s) : AWp P r (.exit id) Q s := fun E B w _ _ hs _ => wpIn_exit ⟨.exit id, s, E, rfl, h, Env.le.refl E, hs, Below.refl B w⟩
theorem AWp.goto {l : Nat} (h : Q (.goto l) s) : AWp P r (.goto l) Q s := fun E B w _ _ hs _ => wpIn_goto ⟨.goto l, s, E, rfl, h, Env.le.refl E, hs, Below.refl B w⟩
theorem AWp.ret (h : Q .ret s) : AWp P r .ret Q s := fun E B w _ _ hs _ => wpIn_ret ⟨.ret, s, E, rfl, h, Env.le.refl E, hs, Below.refl B w⟩

theorem AWp.seq {x y : Code} (h : AWp P r x (thenA (AWp P r y Q) Q) s) : AWp P r (.seq x y) Q s := by
  intro E B w a rc hs hr
  refine wpIn_seq (Go.wpIn_mono (h E B w a rc hs hr) ?_)
  rintro e a' w' ⟨ae, s', E', rfl, hq, hE, hs', hb⟩
  cases ae with
  | normal => exact Go.wpIn_mono (hq E' B w' a' rc hs' (hr.mono hE)) fun e a w h => h.trans hE hb
  | exit id => exact ⟨.exit id, s', E', rfl, hq, hE, hs', hb⟩
  | goto l => exact ⟨.goto l, s', E', rfl, hq, hE, hs', hb⟩
  | ret => exact ⟨.ret, s', E', rfl, hq, hE, hs', hb⟩

theorem AWp.cond {c : Operand} {x y : Code} {b : Bool} (hc : ev P s.T c = some (.bool b)) (h : AWp P r (if b then x else y) Q s) : AWp P r (.cond c x y) Q s := by
  intro E B w a rc hs hr
  have : a.eval c = .bool b := eval_sim hs.heap hs.tmps hc
  exact wpIn_cond this (by cases b <;> exact h E B w a rc hs hr)

theorem AWp.block {id : Nat} {c : Code} (h : AWp P r c (inBlockA id Q) s) : AWp P r (.block id c) Q s := by
  intro E B w a rc hs hr
  refine wpIn_block (Go.wpIn_mono (h E B w a rc hs hr) ?_)
  rintro e a' w' ⟨ae, s', E', rfl, hq, hE, hs', hb⟩
  cases ae with
  | normal => exact ⟨.normal, s', E', rfl, hq, hE, hs', hb⟩
  | exit i =>
    simp only [inBlockA] at hq
    simp only [AEx.toExit, Exit.inBlock]
    by_cases e : i = id
    · rw [if_pos e] at hq; simp only [e, if_true]; exact ⟨.normal, s', E', rfl, hq, hE, hs', hb⟩
    · rw [if_neg e] at hq; simp only [e, if_false]; exact ⟨.exit i, s', E', rfl, hq, hE, hs', hb⟩
  | goto l => exact ⟨.goto l, s', E', rfl, hq, hE, hs', hb⟩
  | ret => exact ⟨.ret, s', E', rfl, hq, hE, hs', hb⟩

theorem AWp.loop {c : Code} (I : Nat → St → Prop) {j : Nat} (h₀ : I j s) (h : ∀ j s, I j s → AWp P r c (thenA (fun s' => ∃ i, i < j ∧ I i s') Q) s) : AWp P r (.loop c) Q s := by
  intro E B w a rc hs hr
  refine wpIn_loop_ix (j := j) (fun j a' w' => ∃ E' s', I j s' ∧ E.le E' ∧ SR P E' B s' a' w' ∧ Below B w w') ⟨E, s, h₀, Env.le.refl E, hs, Below.refl B w⟩ ?_
  rintro j a₁ w₁ ⟨E₁, s₁, hI, hE, hs₁, hb⟩
  refine Go.wpIn_mono (h j s₁ hI E₁ B w₁ a₁ rc hs₁ (hr.mono hE)) ?_
  rintro e a' w' ⟨ae, s', E', rfl, hq, hE', hs', hb'⟩
  cases ae with
  | normal => obtain ⟨i, hi, hI'⟩ := hq; exact ⟨i, hi, E', s', hI', hE.trans hE', hs', hb.trans hb'⟩
  | exit id => exact ⟨.exit id, s', E', rfl, hq, hE.trans hE', hs', hb.trans hb'⟩
  | goto l => exact ⟨.goto l, s', E', rfl, hq, hE.trans hE', hs', hb.trans hb'⟩
  | ret => exact ⟨.ret, s', E', rfl, hq, hE.trans hE', hs', hb.trans hb'⟩

theorem AWp.scope {c : Code} (J : Nat → Nat → St → Prop) (h₀ : AWp P r c (jumpsA c (fun l s => ∃ j, J j l s) Q) s)
    (h : ∀ j l s rest, findLabel c l = some rest → J j l s → AWp P r rest (jumpsA c (fun l' s' => ∃ i, i < j ∧ J i l' s') Q) s) : AWp P r (.scope c) Q s := by
  intro E B w a rc hs hr
  have key : ∀ {E₁ : Env} {w₁ : World} {e : Exit} {a' : Act} {w' : World} {K : Nat → St → Prop} {K' : Nat → Act → World → Prop}, E.le E₁ → Below B w w₁ →
      (∀ l E' s', K l s' → E.le E' → SR P E' B s' a' w' → Below B w w' → K' l a' w') → APost P E₁ B w₁ (jumpsA c K Q) e a' w' → Exit.jumps c K' (APost P E B w Q) e a' w' := by
    rintro E₁ w₁ e a' w' K K' hE hb hK ⟨ae, s', E', rfl, hq, hE', hs', hb'⟩
    cases ae with
    | normal => exact ⟨.normal, s', E', rfl, hq, hE.trans hE', hs', hb.trans hb'⟩
    | exit id => exact ⟨.exit id, s', E', rfl, hq, hE.trans hE', hs', hb.trans hb'⟩
    | goto l =>
      simp only [jumpsA] at hq
      simp only [AEx.toExit, Exit.jumps]
      split at hq
      · rename_i hl; rw [if_pos hl]; exact hK l E' s' hq (hE.trans hE') hs' (hb.trans hb')
      · rename_i hl; rw [if_neg hl]; exact ⟨.goto l, s', E', rfl, hq, hE.trans hE', hs', hb.trans hb'⟩
    | ret => exact ⟨.ret, s', E', rfl, hq, hE.trans hE', hs', hb.trans hb'⟩
  refine wpIn_scope_ix (fun j l a' w' => ∃ E' s', J j l s' ∧ E.le E' ∧ SR P E' B s' a' w' ∧ Below B w w') (Go.wpIn_mono (h₀ E B w a rc hs hr) fun _ _ _ hp => key (Env.le.refl E) (Below.refl B w) ?_ hp) ?_
  · rintro l E' s' ⟨j, hJ⟩ hE' hs' hb'; exact ⟨j, E', s', hJ, hE', hs', hb'⟩
  · rintro j l a₁ w₁ rest hf ⟨E₁, s₁, hJ, hE, hs₁, hb⟩
    refine Go.wpIn_mono (h j l s₁ rest hf hJ E₁ B w₁ a₁ rc hs₁ (hr.mono hE)) fun _ _ _ hp => key hE hb ?_ hp
    rintro l E' s' ⟨i, hi, hJ'⟩ hE' hs' hb'; exact ⟨i, hi, E', s', hJ', hE', hs', hb'⟩

end rules
end Am
end Go
end

/- The abstract machine: operations in a region, calls of functions, rounds. -/
section
namespace Go.Am
open Go.RowKit

def putT (T : List AV) (dst : Option Tmp) (v : AV) : List AV :=
  match dst with
  | some d => T.set d v
  | none => T

theorem VRs.put {E : Env} {T : List AV} {a : Act} (h : VRs E T a.tmps.toList) (dst : Option Tmp) {v : AV} {x : Value} (hv : VR E v x) : VRs E (putT T dst v) (a.put dst x).tmps.toList := by
  cases dst with
  | none => exact h
  | some d => simpa [putT, Act.put] using VRs.set d h hv

@[simp] theorem put_defers (a : Act) (dst : Option Tmp) (x : Value) : (a.put dst x).defers = a.defers := by cases dst <;> rfl

def wantedV (ops : Array Oper) (T : List AV) (o : Oper) : Option Bool :=
  match o.guard with
  | none => some true
  | some (j, want) =>
    match ((ops[j]?).bind (·.dst)).bind (T[·]?) with
    | some (.bool b) => some (b == want)
    | some .any => none
    | _ => some false

theorem wanted_sim {E : Env} {T : List AV} {a : Act} {ops : Array Oper} {o : Oper} {b : Bool} (h : VRs E T a.tmps.toList) (hw : wantedV ops T o = some b) : Region.wanted o (yielded ops a.tmps) = b := by
  unfold wantedV at hw
  unfold Region.wanted
  cases hg : o.guard with
  | none => rw [hg] at hw; simpa using hw
  | some g =>
    obtain ⟨j, want⟩ := g
    rw [hg] at hw
    simp only at hw ⊢
    unfold yielded
    cases hd : (ops[j]?).bind (·.dst) with
    | none => rw [hd] at hw; simp at hw; simp [hw]
    | some d =>
      rw [hd] at hw
      simp only [Option.bind_some] at hw ⊢
      cases hT : T[d]? with
      | none =>
        have : a.tmps[d]? = none := by
          rw [← Array.getElem?_toList, List.getElem?_eq_none_iff, ← h.length]; exact List.getElem?_eq_none_iff.1 hT
        rw [hT] at hw; simp at hw
        simp [this, hw]
      | some v =>
        obtain ⟨y, hy, hv⟩ := h.get hT
        rw [Array.getElem?_toList] at hy
        rw [hT] at hw
        rw [hy]
        match v, hv with
        | .bool u, hv => obtain rfl : y = _ := hv; simp at hw; subst hw; simp
        | .any, _ => simp at hw
        | .int _ _, hv => obtain rfl : y = _ := hv; simp at hw; subst hw; rfl
        | .str _, hv => obtain rfl : y = _ := hv; simp at hw; subst hw; rfl
        | .ptr none, hv => obtain rfl : y = _ := hv; simp at hw; subst hw; rfl
        | .ptr (some (p, q)), hv => obtain ⟨L, _, rfl⟩ := hv; simp at hw; subst hw; rfl
        | .slice none l c, hv => obtain ⟨rfl, _⟩ := hv; simp at hw; subst hw; rfl
        | .slice (some (p, q)) l c, hv => obtain ⟨L, a', c', _, rfl, _⟩ := hv; simp at hw; subst hw; rfl
        | .func f u v, hv => obtain ⟨u', v', rfl, _⟩ := hv; simp at hw; subst hw; rfl
        | .nilFunc, hv => obtain rfl : y = _ := hv; simp at hw; subst hw; rfl
        | .yld u, hv => obtain ⟨L, _, rfl⟩ := hv; simp at hw; subst hw; rfl
        | .iface u v, hv => obtain ⟨z, rfl, _⟩ := hv; simp at hw; subst hw; rfl
        | .nilIface, hv => obtain rfl : y = _ := hv; simp at hw; subst hw; rfl
        | .map none, hv => obtain rfl : y = _ := hv; simp at hw; subst hw; rfl
        | .map (some _), hv => obtain ⟨L, _, rfl⟩ := hv; simp at hw; subst hw; rfl
        | .half _ _, hv => obtain ⟨m, rfl, _⟩ := hv; simp at hw; subst hw; rfl
        | .unk, hv => obtain ⟨m, rfl⟩ := hv; simp at hw; subst hw; rfl
        | .agg cs, hv => obtain ⟨z, rfl, _⟩ := hv; simp at hw; subst hw; rfl
        | .tuple cs, hv => obtain ⟨z, rfl, _⟩ := hv; simp at hw; subst hw; rfl

def AOp (P : Program) (r : Option Nat) (o : Oper) (T : List AV) (H : AH) (K : AV → AH → Prop) : Prop :=
  ∀ E B w a rc (next : Act → World → Prop) (Q' : Exit → Act → World → Prop), HR P E B H w → OpsOk P E T a o.op.operands → RR E r rc →
    (∀ v H' E' w' x, K v H' → E.le E' → HR P E' B H' w' → VR E' v x → Below B w w' → next (a.put o.dst x) w') → o.wpIn (Fr rc) 0 P a w next Q'

section
variable {P : Program} {r : Option Nat} {o : Oper} {T : List AV} {H : AH} {K : AV → AH → Prop}

theorem AOp.mono {K' : AV → AH → Prop} (h : AOp P r o T H K) (hk : ∀ v H, K v H → K' v H) : AOp P r o T H K' :=
  fun E B w a rc next Q' hH hT hr hn => h E B w a rc next Q' hH hT hr fun v H' E' w' x hv => hn v H' E' w' x (hk v H' hv)

theorem semAt_plain (rc : Option Nat) (ρ : Operand → Value) (o : Oper) (h : ∀ c, o.op ≠ .defer c) : Oper.semAt (Fr rc).round ρ o = execOp ρ o := Oper.semAt_eq _ _ _ h

theorem AOp.of_opV {v : AV} {H' : AH} (h : opV P T H o = some (v, H')) (k : K v H') : AOp P r o T H K := by
  intro E B w a rc next Q' hH hT hr hn
  obtain ⟨⟨E', w', x, hx, hE, hv, hH', hb⟩, hd⟩ := opV_sim hH hT h
  refine ⟨fun _ _ => trivial, ?_⟩
  rw [semAt_plain rc _ _ hd]
  rcases hx with hx | ⟨hx, rfl⟩
  · rw [hx, Oper.uponIn_value]; exact hn v H' E' w' x k hE hH' hv hb
  · rw [hx, Oper.uponIn_skip]; exact hn v H' E' w' _ k hE hH' hv hb

def Goes (P : Program) (g : FuncId) : Prop := ∀ args w, (callFunc g args).run P w = .ok (.enter g args) w

theorem run_resolve_value {ρ : Operand → Value} {f : Operand} {fn : Fn} {x y : Array Value} (h : ρ f = .func fn x y) (xs : Array Operand) (ts : Array TypeId) (ty : TypeId) (w : World) :
    (resolve ρ { callee := .value f, args := xs, argTypes := ts } ty).run P w = .ok { target := .fn fn y, args := x ++ xs.map ρ } w := by
  simp [resolve, h, Deferred.ofValue]

def ACallee (P : Program) (g : FuncId) (args : List AV) (H : AH) (K : AV → AH → Prop) : Prop :=
  (Goes P g ∧ ACall P g args H K) ∨
  (∀ E B w args', HR P E B H w → VRs E args args'.toList → ∃ v H' E' w' x, (callFunc g args').run P w = .ok (.value x) w' ∧ K v H' ∧ E.le E' ∧ HR P E' B H' w' ∧ VR E' v x ∧ Below B w w')

theorem AOp.call {dst : Option Tmp} {f : Operand} {xs : Array Operand} {ts : Array TypeId} {ty : TypeId} {pos : String} {after : Array Edge} {guard : Option (Nat × Bool)} {g : FuncId} {x y vs : List AV}
    (hgo : Goes P g) (hf : ev P T f = some (.func (.func g) x y)) (hx : evs P T xs.toList = some vs) (h : ACall P g (x ++ vs ++ y) H K) :
    AOp P r ⟨dst, .call { callee := .value f, args := xs, argTypes := ts }, ty, pos, after, guard⟩ T H K := by
  intro E B w a rc next Q' hH hT hr hn
  refine ⟨fun _ _ => trivial, ?_⟩
  rw [semAt_plain rc _ _ (by simp)]
  have h1 := evals_ok (a := a) (fun y hy => hT y (by simp [Op.operands, Call.operands]; right; simpa using hy)) hx
  obtain ⟨x', y', h2, h3, h4⟩ := hT f (by simp [Op.operands, Call.operands]) _ hf
  have he : (execOp a.eval ⟨dst, .call { callee := .value f, args := xs, argTypes := ts }, ty, pos, after, guard⟩).run P w = .ok (.enter g (x' ++ xs.map a.eval ++ y')) w := by
    simp only [execOp, Sem.run_bind, run_resolve_value h2, Result.andThen_ok, invoke]
    exact hgo _ _
  rw [he, Oper.uponIn_enter]
  refine ⟨fun h => by simp [Fr, Fence.wide] at h, callsIn_fr.2 (Calls.mono (h E B w _ hH ?_) ?_)⟩
  · simpa using (h3.append (by simpa using h1)).append h4
  · rintro e w' ⟨v, H', E', x, rfl, hq, hE, hH', hv, hb⟩
    exact hn v H' E' w' x hq hE hH' hv hb

theorem AOp.callee {dst : Option Tmp} {f : Operand} {xs : Array Operand} {ts : Array TypeId} {ty : TypeId} {pos : String} {after : Array Edge} {guard : Option (Nat × Bool)} {g : FuncId} {x y vs : List AV}
    (hf : ev P T f = some (.func (.func g) x y)) (hx : evs P T xs.toList = some vs) (h : ACallee P g (x ++ vs ++ y) H K) :
    AOp P r ⟨dst, .call { callee := .value f, args := xs, argTypes := ts }, ty, pos, after, guard⟩ T H K := by
  rcases h with ⟨hgo, h⟩ | h
  · exact AOp.call hgo hf hx h
  · intro E B w a rc next Q' hH hT hr hn
    refine ⟨fun _ _ => trivial, ?_⟩
    rw [semAt_plain rc _ _ (by simp)]
    have h1 := evals_ok (a := a) (fun y hy => hT y (by simp [Op.operands, Call.operands]; right; simpa using hy)) hx
    obtain ⟨x', y', h2, h3, h4⟩ := hT f (by simp [Op.operands, Call.operands]) _ hf
    obtain ⟨v, H', E', w', u, hrun, hk, hE, hH', hv, hb⟩ := h E B w (x' ++ xs.map a.eval ++ y') hH (by simpa using (h3.append (by simpa using h1)).append h4)
    have he : (execOp a.eval ⟨dst, .call { callee := .value f, args := xs, argTypes := ts }, ty, pos, after, guard⟩).run P w = .ok (.value u) w' := by
      simp only [execOp, Sem.run_bind, run_resolve_value h2, Result.andThen_ok, invoke]
      exact hrun
    rw [he, Oper.uponIn_value]
    exact hn v H' E' w' u hk hE hH' hv hb

theorem run_method {t : TypeId} {name : String} {g : FuncId} (h : methB P t name = some g) (n : Nat) (v : Value) (w : World) : (method (n + 1) t v name).run P w = .ok (g, v) w := by
  unfold methB at h
  obtain ⟨i, hi, h⟩ := Option.bind_eq_some_iff.1 h
  obtain ⟨m, hm, h⟩ := Option.bind_eq_some_iff.1 h
  split at h
  · rename_i g' p hp hf
    split at h
    · rename_i ht
      cases h
      simp only [method, Sem.run_bind, run_typeInfo' hi, Result.andThen_ok, hm, hp, follow, Sem.run_pure, hf]
      unfold ptrT at ht
      split at ht
      · rename_i e hu
        cases ht
        simp [receiverAt, run_underlying hu, Place.get]
      · rename_i d hd hu
        cases ht
        cases d <;> first | (exact absurd rfl (hd _)) | simp [receiverAt, run_underlying hu, Place.get]
      · cases ht
    · cases h
  · cases h

theorem AOp.byIface {dst : Option Tmp} {f : Operand} {name : String} {xs : Array Operand} {ts : Array TypeId} {ty : TypeId} {pos : String} {after : Array Edge} {guard : Option (Nat × Bool)} {t : TypeId} {u : AV} {g : FuncId} {vs : List AV}
    (hf : ev P T f = some (.iface t u)) (hm : methB P t name = some g) (hx : evs P T xs.toList = some vs) (h : ACallee P g (u :: vs) H K) :
    AOp P r ⟨dst, .call { callee := .invoke f name, args := xs, argTypes := ts }, ty, pos, after, guard⟩ T H K := by
  intro E B w a rc next Q' hH hT hr hn
  refine ⟨fun _ _ => trivial, ?_⟩
  rw [semAt_plain rc _ _ (by simp)]
  have h1 := evals_ok (a := a) (fun y hy => hT y (by simp [Op.operands, Call.operands]; right; simpa using hy)) hx
  obtain ⟨z, h2, h3⟩ := hT f (by simp [Op.operands, Call.operands]) _ hf
  have hv : VRs E (u :: vs) (#[z] ++ xs.map a.eval).toList := by
    simpa using VRs.cons h3 (by simpa using h1)
  obtain ⟨n, hn'⟩ : ∃ n, P.types.size + Made.depth = n + 1 := ⟨P.types.size + Made.depth - 1, (Nat.sub_add_cancel (Nat.le_trans (show 1 ≤ Made.depth by decide) (Nat.le_add_left _ _))).symm⟩
  have he : ∀ {R : Result Next}, (callFunc g (#[z] ++ xs.map a.eval)).run P w = R → (execOp a.eval ⟨dst, .call { callee := .invoke f name, args := xs, argTypes := ts }, ty, pos, after, guard⟩).run P w = R := by
    intro R hR
    have : (#[a.eval f] ++ xs.map a.eval)[0]? = some (.iface t z) := by simp [h2, Array.getElem?_append]
    have hex : (Array.map a.eval xs).extract 0 xs.size = Array.map a.eval xs := by simp
    simp only [execOp, Sem.run_bind, resolve, Sem.run_pure, Result.andThen_ok, Go.invoke, this, callMethod, run_program, hn', run_method hm]
    simpa [hex] using hR
  rcases h with ⟨hgo, h⟩ | h
  · rw [he (hgo _ _), Oper.uponIn_enter]
    refine ⟨fun h => by simp [Fr, Fence.wide] at h, callsIn_fr.2 (Calls.mono (h E B w _ hH hv) ?_)⟩
    rintro e w' ⟨v, H', E', x, rfl, hq, hE, hH', hv, hb⟩
    exact hn v H' E' w' x hq hE hH' hv hb
  · obtain ⟨v, H', E', w', u, hrun, hk, hE, hH', hv, hb⟩ := h E B w _ hH hv
    rw [he hrun, Oper.uponIn_value]
    exact hn v H' E' w' u hk hE hH' hv hb

theorem AOp.byMethod {dst : Option Tmp} {f : Operand} {name : String} {xs : Array Operand} {ts : Array TypeId} {ty : TypeId} {pos : String} {after : Array Edge} {guard : Option (Nat × Bool)} {t : TypeId} {u : AV} {y : List AV} {g : FuncId} {vs : List AV}
    (hf : ev P T f = some (.func (.method name) [.iface t u] y)) (hm : methB P t name = some g) (hx : evs P T xs.toList = some vs) (h : ACallee P g (u :: vs) H K) :
    AOp P r ⟨dst, .call { callee := .value f, args := xs, argTypes := ts }, ty, pos, after, guard⟩ T H K := by
  intro E B w a rc next Q' hH hT hr hn
  refine ⟨fun _ _ => trivial, ?_⟩
  rw [semAt_plain rc _ _ (by simp)]
  have h1 := evals_ok (a := a) (fun y hy => hT y (by simp [Op.operands, Call.operands]; right; simpa using hy)) hx
  obtain ⟨x', y', h2, ⟨_, _, hz1, ⟨z, rfl, h3⟩, rfl⟩, _⟩ := hT f (by simp [Op.operands, Call.operands]) _ hf
  obtain rfl : x' = #[.iface t z] := Array.ext' hz1
  have hv : VRs E (u :: vs) (#[z] ++ xs.map a.eval).toList := by
    simpa using VRs.cons h3 (by simpa using h1)
  obtain ⟨n, hn'⟩ : ∃ n, P.types.size + Made.depth = n + 1 := ⟨P.types.size + Made.depth - 1, (Nat.sub_add_cancel (Nat.le_trans (show 1 ≤ Made.depth by decide) (Nat.le_add_left _ _))).symm⟩
  have he : ∀ {R : Result Next}, (callFunc g (#[z] ++ xs.map a.eval)).run P w = R → (execOp a.eval ⟨dst, .call { callee := .value f, args := xs, argTypes := ts }, ty, pos, after, guard⟩).run P w = R := by
    intro R hR
    have : (#[Value.iface t z] ++ xs.map a.eval)[0]? = some (.iface t z) := by simp [Array.getElem?_append]
    have hex : (Array.map a.eval xs).extract 0 xs.size = Array.map a.eval xs := by simp
    simp only [execOp, Sem.run_bind, run_resolve_value h2, Result.andThen_ok, Go.invoke, this, callMethod, run_program, hn', run_method hm]
    simpa [hex] using hR
  rcases h with ⟨hgo, h⟩ | h
  · rw [he (hgo _ _), Oper.uponIn_enter]
    refine ⟨fun h => by simp [Fr, Fence.wide] at h, callsIn_fr.2 (Calls.mono (h E B w _ hH hv) ?_)⟩
    rintro e w' ⟨v, H', E', x, rfl, hq, hE, hH', hv, hb⟩
    exact hn v H' E' w' x hq hE hH' hv hb
  · obtain ⟨v, H', E', w', u, hrun, hk, hE, hH', hv, hb⟩ := h E B w _ hH hv
    rw [he hrun, Oper.uponIn_value]
    exact hn v H' E' w' u hk hE hH' hv hb

def setPs : List Tmp → List AV → List AV → List AV
  | p :: ps, v :: vs, T => setPs ps vs (T.set p v)
  | _, _, T => T

theorem setPs_sim {E : Env} : ∀ (ps : List Tmp) {vs : List AV} {ys : List Value} {T : List AV} {X : Array Value}, VRs E vs ys → VRs E T X.toList →
    VRs E (setPs ps vs T) (((ps.zip ys).foldl (fun t (p, v) => t.setIfInBounds p v) X).toList)
  | [], vs, ys, T, X, _, hT => by cases vs <;> exact hT
  | p :: ps, [], ys, T, X, hv, hT => by cases hv; exact hT
  | p :: ps, v :: vs, ys, T, X, hv, hT => by
    obtain ⟨y, ys', rfl, h1, h2⟩ := hv
    simp only [setPs, List.zip_cons_cons, List.foldl_cons]
    exact setPs_sim ps h2 (by simpa using VRs.set p hT h1)

def roundA (b : Nat) (K : AV → AH → Prop) : AEx → St → Prop := fun e s =>
  ∃ st pe T' ps as bd d, s.H.get b = some (.loop st pe T' ps as bd d) ∧
  match e with
  | .normal => K (.bool true) (s.H.set b (.loop .ready none T' ps as bd d))
  | .ret => K (.bool false) (s.H.set b (.loop .done (some .ret) T' ps as bd d))
  | .exit id => K (.bool false) (s.H.set b (.loop .done (some (.exit id)) T' ps as bd d))
  | .goto l => K (.bool false) (s.H.set b (.loop .done (some (.goto l)) T' ps as bd d))

theorem HR.loop {E : Env} {B : Bnd} {w : World} (hH : HR P E B H w) {b : Nat} {L : Loc} (hL : E b = some L) {st : LoopState} {pe : Option Code} {T' : List AV} {ps : Array Tmp} {as bd : Code} {d : Nat}
    (hb : H.get b = some (.loop st pe T' ps as bd d)) : ∃ rec : Loop, w.heap[L.blk]? = some (.loop rec) ∧ rec.state = st ∧ rec.pending = pe ∧ rec.params = ps ∧ rec.assign = as ∧ rec.body = bd ∧ VRs E T' rec.tmps.toList ∧
      ∀ st' pe', HR P E B (H.set b (.loop st' pe' T' ps as bd d)) (w.putObj L.blk (.loop { rec with state := st', pending := pe' })) ∧ Below B w (w.putObj L.blk (.loop { rec with state := st', pending := pe' })) := by
  obtain ⟨L', hL', ho⟩ := hH.obj _ _ hb
  rw [hL] at hL'; cases hL'
  obtain ⟨fn, tmps, Ld, h1, h2, h3, h4⟩ := ho
  refine ⟨_, h1, rfl, rfl, rfl, rfl, rfl, h2, fun st' pe' => ⟨hH.turn hb hL rfl ⟨fn, tmps, Ld, World.putObj_heap_same (Array.getElem?_eq_some_iff.1 h1).1, h2, h3, h4⟩, Below.putObj (Below.refl B w) h4 _⟩⟩

theorem AOp.yield {dst : Option Tmp} {f : Operand} {xs : Array Operand} {ts : Array TypeId} {ty : TypeId} {pos : String} {after : Array Edge} {guard : Option (Nat × Bool)} {b : Nat} {vs : List AV}
    {st : LoopState} {pe : Option Code} {T' : List AV} {ps : Array Tmp} {as bd : Code} {d : Nat}
    (hf : ev P T f = some (.yld b)) (hx : evs P T xs.toList = some vs) (hb : H.get b = some (.loop st pe T' ps as bd d)) (hl : vs.length = ps.size)
    (h : AWp P (some b) as (thenA (fun s => ∃ pe' T₁ ps₁ as₁ bd₁ d₁, s.H.get b = some (.loop .ready pe' T₁ ps₁ as₁ bd₁ d₁) ∧
      AWp P (some b) bd (roundA b K) ⟨s.T, s.M, s.H.set b (.loop .busy pe' T₁ ps₁ as₁ bd₁ d₁)⟩) (fun _ _ => False)) ⟨setPs ps.toList vs T', [], H⟩) :
    AOp P r ⟨dst, .call { callee := .value f, args := xs, argTypes := ts }, ty, pos, after, guard⟩ T H K := by
  intro E B w a rc next Q' hH0 hT hr hn
  have hH := hH0.z []
  refine ⟨fun _ _ => trivial, ?_⟩
  rw [semAt_plain rc _ _ (by simp)]
  have h1 := evals_ok (a := a) (fun y hy => hT y (by simp [Op.operands, Call.operands]; right; simpa using hy)) hx
  obtain ⟨L, hL, h2⟩ := hT f (by simp [Op.operands, Call.operands]) _ hf
  obtain ⟨rec, hrec, rfl, rfl, rfl, rfl, rfl, hT', hset⟩ := hH.loop hL hb
  have hsz : (xs.map a.eval).size = rec.params.size := by rw [← hl, h1.length]; simp
  have he : (execOp a.eval ⟨dst, .call { callee := .value f, args := xs, argTypes := ts }, ty, pos, after, guard⟩).run P w =
      .ok (.round L.blk rec.fn ((rec.params.zip (xs.map a.eval)).foldl (fun tmps (t, a) => tmps.setIfInBounds t a) rec.tmps) rec.assign rec.body) w := by
    simp only [execOp, Sem.run_bind, run_resolve_value h2, Result.andThen_ok, invoke]
    have := run_yield (P := P) (w := w) (args := xs.map a.eval) hrec hsz
    simpa using this
  rw [he, Oper.uponIn_round]
  refine ⟨fun h => by simp [Fr, Fence.wide] at h, roundIn_of_wpIn trivial ?_⟩
  have hTs : VRs E (setPs rec.params.toList vs T') ((rec.params.zip (xs.map a.eval)).foldl (fun tmps (t, a) => tmps.setIfInBounds t a) rec.tmps).toList := by
    have := setPs_sim rec.params.toList h1 hT'
    rw [← Array.foldl_toList, Array.toList_zip]
    simpa using this
  have hw := h E ⟨B.on, []⟩ w ⟨(rec.params.zip (xs.map a.eval)).foldl (fun tmps (t, a) => tmps.setIfInBounds t a) rec.tmps, []⟩ (some L.blk) ⟨hH, hTs, rfl⟩ ⟨L, hL, rfl⟩
  refine Go.wpIn_mono (show Code.wpIn ((Fr rc).inRound L.blk) 0 P _ _ _ _ from hw) ?_
  rintro e a₁ w₁ ⟨ae, s₁, E₁, rfl, hq, hE₁, hs₁, hb₁⟩
  cases ae with
  | normal =>
    obtain ⟨pe', T₁, ps₁, as₁, bd₁, d₁, hb', hbody⟩ := hq
    obtain ⟨rec₁, hrec₁, e1, e2, e3, e4, e5, hT₁, hset₁⟩ := hs₁.heap.loop (hE₁ _ _ hL) hb'
    obtain ⟨hH₂, hb₂⟩ := hset₁ .busy pe'
    refine ⟨_, run_beginRound hrec₁ e1, ?_⟩
    have ee : ({ rec₁ with state := .busy } : Loop) = { rec₁ with state := .busy, pending := pe' } := by rw [← e2]
    rw [ee]
    have hw₂ := hbody E₁ ⟨B.on, []⟩ _ a₁ (some L.blk) ⟨hH₂, hs₁.tmps, hs₁.marks⟩ ⟨L, hE₁ _ _ hL, rfl⟩
    refine Go.wpIn_mono (show Code.wpIn ((Fr rc).inRound L.blk) 0 P _ _ _ _ from hw₂) ?_
    rintro e a₂ w₂ ⟨ae, s₂, E₂, rfl, ⟨st₂, pe₂, T₂, ps₂, as₂, bd₂, d₂, hg₂, hq₂⟩, hE₂, hs₂, hb₂'⟩
    obtain ⟨rec₂, hrec₂, e1', e2', e3', e4', e5', hT₂, hset₂⟩ := hs₂.heap.loop (hE₂ _ _ (hE₁ _ _ hL)) hg₂
    have hbb : Below ⟨B.on, []⟩ w w₂ := hb₁.trans (hb₂.trans hb₂')
    have fin : ∀ (jump : Option Code) (v : AV), v = .bool jump.isNone → K v (s₂.H.set b (.loop (if jump.isNone then .ready else .done) jump T₂ ps₂ as₂ bd₂ d₂)) →
        ∃ v w', (Instr.endRound L.blk jump).run P w₂ = .ok v w' ∧ next (a.put dst v) w' := by
      intro jump v ev hk
      obtain ⟨hH₃, hb₃⟩ := hset₂ (if jump.isNone then .ready else .done) jump
      exact ⟨_, _, run_endRound jump hrec₂, hn _ _ E₂ _ _ hk (hE₁.trans hE₂) hH₃.unz (by rw [ev]; rfl) (hbb.trans hb₃).unz⟩
    cases ae with
    | normal => exact fin none _ rfl hq₂
    | ret => exact fin (some .ret) _ rfl hq₂
    | exit id => exact fin (some (.exit id)) _ rfl hq₂
    | goto l => exact fin (some (.goto l)) _ rfl hq₂
  | exit id => exact hq.elim
  | goto l => exact hq.elim
  | ret => exact hq.elim

end

/-! ### A region in its own order -/
section
variable {P : Program} {r : Option Nat}

def AOps (P : Program) (r : Option Nat) (ops : Array Oper) (K : List AV → AH → Prop) : List Oper → List AV → AH → Prop
  | [], T, H => K T H
  | o :: l, T, H => (wantedV ops T o = some true ∧ AOp P r o T H fun v H' => AOps P r ops K l (putT T o.dst v) H') ∨ (wantedV ops T o = some false ∧ AOps P r ops K l (putT T o.dst .undef) H)

theorem AOps.simK {ops : Array Oper} {K : List AV → AH → Prop} {B : Bnd} {M : List Mk} {rc : Option Nat} {Qc : Exit → Act → World → Prop} {m : List Oper} : ∀ {l : List Oper} {T : List AV} {H : AH} {E : Env} {a : Act} {w : World},
    AOps P r ops K l T H → HR P E B H w → VRs E T a.tmps.toList → MR B.D E M a.defers → RR E r rc →
    (∀ T' H' E' a' w', K T' H' → E.le E' → HR P E' B H' w' → VRs E' T' a'.tmps.toList → MR B.D E' M a'.defers → Below B w w' → wpListIn (Fr rc) 0 P ops Qc m a' w') → wpListIn (Fr rc) 0 P ops Qc (l ++ m) a w
  | [], T, H, E, a, w, h, hH, hT, hM, hr, hq => hq T H E a w h (Env.le.refl E) hH hT hM (Below.refl B w)
  | o :: l, T, H, E, a, w, h, hH, hT, hM, hr, hq => by
    rw [List.cons_append]
    rcases h with ⟨hw, h⟩ | ⟨hw, h⟩
    · have := wanted_sim (a := a) hT hw
      simp only [wpListIn, this, if_true]
      refine h E B w a rc _ Qc hH (OpsOk.of hH hT _) hr ?_
      intro v H' E' w' x hk hE hH' hv hb
      exact AOps.simK hk hH' ((VRs.mono hE _ _ hT).put o.dst hv) (by rw [put_defers]; exact hM.mono hE) (hr.mono hE)
        fun T' H'' E'' a' w'' hk' hE' h1 h2 h3 h4 => hq T' H'' E'' a' w'' hk' (hE.trans hE') h1 h2 h3 (hb.trans h4)
    · have := wanted_sim (a := a) hT hw
      simp only [wpListIn, this, Bool.false_eq_true, if_false]
      refine ⟨fun _ _ => trivial, ?_⟩
      exact AOps.simK h hH (hT.put o.dst (v := .undef) (x := undef) ⟨#[], rfl, rfl⟩) (by rw [put_defers]; exact hM) hr hq

theorem AOps.sim {ops : Array Oper} {K : List AV → AH → Prop} {B : Bnd} {M : List Mk} {rc : Option Nat} {Qc : Exit → Act → World → Prop} {l : List Oper} {T : List AV} {H : AH} {E : Env} {a : Act} {w : World}
    (h : AOps P r ops K l T H) (hH : HR P E B H w) (hT : VRs E T a.tmps.toList) (hM : MR B.D E M a.defers) (hr : RR E r rc)
    (hq : ∀ T' H' E' a' w', K T' H' → E.le E' → HR P E' B H' w' → VRs E' T' a'.tmps.toList → MR B.D E' M a'.defers → Below B w w' → Qc .normal a' w') : wpListIn (Fr rc) 0 P ops Qc l a w := by
  have := AOps.simK (m := []) h hH hT hM hr hq
  rwa [List.append_nil] at this

theorem AWp.region {id : Nat} {ops : Array Oper} {Q : AEx → St → Prop} {s : St} (h : AOps P r ops (fun T H => Q .normal ⟨T, s.M, H⟩) ops.toList s.T s.H) : AWp P r (.region id ops false) Q s := by
  intro E B w a rc hs hr
  refine wpIn_region_list (h.sim hs.heap hs.tmps hs.marks hr ?_)
  intro T' H' E' a' w' hq hE h1 h2 h3 h4
  exact ⟨.normal, ⟨T', s.M, H'⟩, E', rfl, hq, hE, ⟨h1, h2, h3⟩, h4⟩
end

end Go.Am
end

/- The abstract machine: a range over a function; a function out of its body. -/
section
namespace Go.Am
open Go.RowKit

section
variable {P : Program} {Q : AEx → St → Prop} {s : St}

def rangeA (P : Program) (r : Option Nat) (l : Nat) (T : List AV) (M : List Mk) (Q : AEx → St → Prop) : AV → AH → Prop := fun _ H' =>
  ∃ st pe T' ps as bd d, H'.get l = some (.loop st pe T' ps as bd d) ∧ st ≠ .busy ∧
    match pe with
    | none => Q .normal ⟨T, M, H'.set l .dead⟩
    | some c => AWp P r c Q ⟨T, M, H'.set l .dead⟩

theorem rangeA_sim {r rc : Option Nat} {l : Nat} {T : List AV} {M : List Mk} {v : AV} {H' : AH} (h : rangeA P r l T M Q v H')
    {E E' : Env} {B : Bnd} {w w' : World} {a : Act} {L : Loc} (hL : E' l = some L) (hE : E.le E') (hH : HR P E' B H' w') (hT : VRs E' T a.tmps.toList) (hM : MR B.D E' M a.defers) (hr : RR E' r rc) (hb : Below B w w') (u : Value) :
    rangePost (Fr rc) 0 P L.blk (APost P E B w Q) a (.returned u) w' := by
  obtain ⟨st, pe, T', ps, as, bd, d, hg, hne, hpe⟩ := h
  obtain ⟨rec, hrec, rfl, rfl, rfl, rfl, rfl, hT', hset⟩ := hH.loop hL hg
  have hBl : ¬ B L.blk := by
    obtain ⟨L', hL', ho⟩ := hH.obj _ _ hg
    rw [hL] at hL'; cases hL'
    obtain ⟨_, _, _, _, _, _, h4⟩ := ho
    exact h4
  have hH'' : HR P E' B (H'.set l .dead) (w'.putObj L.blk (.loop { rec with state := .exhausted })) := hH.turn hg hL rfl trivial
  have hb' : Below B w (w'.putObj L.blk (.loop { rec with state := .exhausted })) := Below.putObj hb hBl _
  refine ⟨_, _, run_endLoop hrec hne, ?_⟩
  generalize (w'.putObj L.blk (.loop { rec with state := .exhausted })) = W2 at hH'' hb'
  cases hp : rec.pending with
  | none =>
    rw [hp] at hpe
    exact ⟨.normal, _, E', rfl, hpe, hE, ⟨hH'', hT, hM⟩, hb'⟩
  | some c =>
    rw [hp] at hpe
    exact Go.wpIn_mono (hpe E' B _ a rc ⟨hH'', hT, hM⟩ hr) fun e a w h => h.trans hE hb'

theorem AWp.rangeFunc {g : Operand} {ps : Array Tmp} {as bd : Code} {gf : FuncId} {x y : List AV} (hgo : Goes P gf) (hg : ev P s.T g = some (.func (.func gf) x y))
    (h : ACall P gf (x ++ [.yld (s.H.n + 1)] ++ y) ((s.H.alloc .deferred).alloc (.loop .ready none s.T ps as bd s.H.n)) (rangeA P none (s.H.n + 1) s.T (.mark s.H.n :: s.M) Q)) :
    AWp P none (.rangeFunc g ps as bd) Q s := by
  intro E B w a rc hs hr
  obtain rfl : rc = none := hr
  obtain ⟨x', y', h2, h3, h4⟩ := eval_sim hs.heap hs.tmps hg
  refine wpIn_rangeFunc fun fn _ => ?_
  obtain ⟨W0, hW0⟩ : ∃ W0, w.alloc (.deferred (some [])) = W0 := ⟨_, rfl⟩
  have hs0 : W0.heap.size = w.heap.size + 1 := by rw [← hW0]; simp
  have hH0 : HR P (E.put s.H.n ⟨w.heap.size, 0, 0, 0, 0⟩) B (s.H.alloc .deferred) W0 := by
    rw [← hW0]
    exact hs.heap.alloc rfl ⟨World.alloc_heap_new w _, hs.heap.fresh⟩
  have hE0 : E.le (E.put s.H.n ⟨w.heap.size, 0, 0, 0, 0⟩) := hs.heap.put_le _
  generalize hE0' : E.put s.H.n ⟨w.heap.size, 0, 0, 0, 0⟩ = E0 at hH0 hE0
  have hEd : E0 s.H.n = some ⟨w.heap.size, 0, 0, 0, 0⟩ := by rw [← hE0']; simp [Env.put]
  have hE1 : E0.le (E0.put (s.H.n + 1) ⟨W0.heap.size, 0, 0, 0, 0⟩) := hH0.put_le ⟨W0.heap.size, 0, 0, 0, 0⟩
  have hH1 : HR P (E0.put (s.H.n + 1) ⟨W0.heap.size, 0, 0, 0, 0⟩) B ((s.H.alloc .deferred).alloc (.loop .ready none s.T ps as bd s.H.n))
      (W0.alloc (.loop { state := .ready, pending := none, fn, tmps := a.tmps, params := ps, assign := as, body := bd, defers := w.heap.size })) :=
    hH0.alloc rfl ⟨fn, a.tmps, ⟨w.heap.size, 0, 0, 0, 0⟩, World.alloc_heap_new W0 _, VRs.mono (hE0.trans hE1) _ _ hs.tmps, hE1 _ _ hEd, hH0.fresh⟩
  generalize hE1' : E0.put (s.H.n + 1) ⟨W0.heap.size, 0, 0, 0, 0⟩ = E1 at hH1 hE1
  have hEl : E1 (s.H.n + 1) = some ⟨W0.heap.size, 0, 0, 0, 0⟩ := by rw [← hE1']; simp [Env.put]
  generalize hW1 : W0.alloc (.loop { state := .ready, pending := none, fn, tmps := a.tmps, params := ps, assign := as, body := bd, defers := w.heap.size }) = W1 at hH1
  have hb1 : Below B w W1 := by
    rw [← hW1, ← hW0]
    exact ((Below.refl B w).alloc hs.heap.base _).alloc (fun k hk => by have := hs.heap.base k hk; simp; omega) _
  have hE := hE0.trans hE1
  refine ⟨W0.heap.size, [{ target := .collected w.heap.size, args := #[] }], W1, { target := .fn (.func gf) y', args := x' ++ #[.func (.yield W0.heap.size) #[] #[]] }, W1, gf,
    x' ++ #[.func (.yield W0.heap.size) #[] #[]] ++ y', W1, ?_, ?_, fun _ _ => trivial, ?_, fun h => by simp [Fr, Fence.wide] at h, callsIn_fr.2 (Calls.mono (h E1 B W1 _ hH1 ?_) ?_)⟩
  · rw [hs0, ← hW1, ← hW0]
    exact run_enterLoop_outer fn a.tmps ps as bd
  · have := run_resolve_value (P := P) h2 #[.const (.func (.yield W0.heap.size) #[] #[])] #[] 0 W1
    simpa [Act.eval] using this
  · simp only [invoke]; exact hgo _ _
  · have : VRs E1 [.yld (s.H.n + 1)] [Value.func (.yield W0.heap.size) #[] #[]] := ⟨_, _, rfl, ⟨_, hEl, rfl⟩, rfl⟩
    simpa using ((VRs.mono hE _ _ h3).append this).append (VRs.mono hE _ _ h4)
  · rintro e w' ⟨v, H', E', u, rfl, hq, hE', hH', _, hb⟩
    refine rangeA_sim (a := { a with defers := [{ target := .collected w.heap.size, args := #[] }] ++ a.defers }) hq (hE' _ _ hEl) (hE.trans hE') hH' (VRs.mono (hE.trans hE') _ _ hs.tmps) ?_ rfl (hb1.trans hb) u
    exact ⟨_, _, hE' _ _ (hE1 _ _ hEd), rfl, hs.marks.mono (hE.trans hE')⟩

theorem AWp.rangeFunc_in {b₀ : Nat} {g : Operand} {ps : Array Tmp} {as bd : Code} {gf : FuncId} {x y : List AV} {st₀ : LoopState} {pe₀ : Option Code} {T₀ : List AV} {ps₀ : Array Tmp} {as₀ bd₀ : Code} {d₀ : Nat}
    (hb₀ : s.H.get b₀ = some (.loop st₀ pe₀ T₀ ps₀ as₀ bd₀ d₀)) (hgo : Goes P gf) (hg : ev P s.T g = some (.func (.func gf) x y))
    (h : ACall P gf (x ++ [.yld s.H.n] ++ y) (s.H.alloc (.loop .ready none s.T ps as bd d₀)) (rangeA P (some b₀) s.H.n s.T s.M Q)) :
    AWp P (some b₀) (.rangeFunc g ps as bd) Q s := by
  intro E B w a rc hs hr
  have hr₀ := hr
  obtain ⟨L₀, hL₀, rfl⟩ := hr
  obtain ⟨x', y', h2, h3, h4⟩ := eval_sim hs.heap hs.tmps hg
  obtain ⟨L₀', hL₀', fn₀, tmps₀, Ld, hrec₀, _, hLd, _⟩ := hs.heap.obj _ _ hb₀
  rw [hL₀] at hL₀'; cases hL₀'
  refine wpIn_rangeFunc fun fn _ => ?_
  have hE1 : E.le (E.put s.H.n ⟨w.heap.size, 0, 0, 0, 0⟩) := hs.heap.put_le ⟨w.heap.size, 0, 0, 0, 0⟩
  have hH1 : HR P (E.put s.H.n ⟨w.heap.size, 0, 0, 0, 0⟩) B (s.H.alloc (.loop .ready none s.T ps as bd d₀))
      (w.alloc (.loop { state := .ready, pending := none, fn, tmps := a.tmps, params := ps, assign := as, body := bd, defers := Ld.blk })) :=
    hs.heap.alloc rfl ⟨fn, a.tmps, Ld, World.alloc_heap_new w _, VRs.mono hE1 _ _ hs.tmps, hE1 _ _ hLd, hs.heap.fresh⟩
  generalize hE1' : E.put s.H.n ⟨w.heap.size, 0, 0, 0, 0⟩ = E1 at hH1 hE1
  have hEl : E1 s.H.n = some ⟨w.heap.size, 0, 0, 0, 0⟩ := by rw [← hE1']; simp [Env.put]
  generalize hW1 : w.alloc (.loop { state := .ready, pending := none, fn, tmps := a.tmps, params := ps, assign := as, body := bd, defers := Ld.blk }) = W1 at hH1
  have hb1 : Below B w W1 := by rw [← hW1]; exact (Below.refl B w).alloc hs.heap.base _
  refine ⟨w.heap.size, [], W1, { target := .fn (.func gf) y', args := x' ++ #[.func (.yield w.heap.size) #[] #[]] }, W1, gf,
    x' ++ #[.func (.yield w.heap.size) #[] #[]] ++ y', W1, ?_, ?_, fun _ _ => trivial, ?_, fun h => by simp [Fr, Fence.wide] at h, callsIn_fr.2 (Calls.mono (h E1 B W1 _ hH1 ?_) ?_)⟩
  · rw [← hW1]
    show (Instr.enterLoop fn a.tmps ps as bd (some L₀.blk)).run P w = _
    unfold Instr.enterLoop
    simp only [Sem.run_bind, run_getLoop hrec₀, run_newObj_alloc, Result.andThen, Sem.run_pure]
  · have := run_resolve_value (P := P) h2 #[.const (.func (.yield w.heap.size) #[] #[])] #[] 0 W1
    simpa [Act.eval] using this
  · simp only [invoke]; exact hgo _ _
  · have : VRs E1 [.yld s.H.n] [Value.func (.yield w.heap.size) #[] #[]] := ⟨_, _, rfl, ⟨_, hEl, rfl⟩, rfl⟩
    simpa using ((VRs.mono hE1 _ _ h3).append this).append (VRs.mono hE1 _ _ h4)
  · rintro e w' ⟨v, H', E', u, rfl, hq, hE', hH', _, hb⟩
    exact rangeA_sim (a := { a with defers := [] ++ a.defers }) hq (hE' _ _ hEl) (hE1.trans hE') hH' (VRs.mono (hE1.trans hE') _ _ hs.tmps) (hs.marks.mono (hE1.trans hE')) (hr₀.mono (hE1.trans hE')) (hb1.trans hb) u

end

/-! ### A function -/
section
variable {P : Program}

def takeMarks : List Mk → AH → Option AH
  | [], H => some H
  | .mark m :: ms, H =>
    match H.get m with
    | some .deferred => takeMarks ms (H.set m .dead)
    | _ => none
  | .call _ _ _ :: _, _ => none

def resVs (P : Program) (T : List AV) (H : AH) : List ResultVar → Option (List AV)
  | [] => some []
  | .tmp t :: l => (resVs P T H l).map ((T[t]?).getD .undef :: ·)
  | .cell a t :: l => (loadV P H t ((T[a]?).getD .undef)).bind fun v => (resVs P T H l).map (v :: ·)

def oneOf : List AV → AV
  | [v] => v
  | vs => .tuple vs

def retA (P : Program) (fn : Func) (Q : AV → AH → Prop) : AEx → St → Prop := fun e s =>
  (e = .normal ∨ e = .ret) ∧ ∃ H' vs, takeMarks s.M s.H = some H' ∧ resVs P s.T H' fn.results.toList = some vs ∧ Q (oneOf vs) H'

theorem VRs.getD {E : Env} {T : List AV} {X : Array Value} (h : VRs E T X.toList) (t : Nat) : VR E ((T[t]?).getD .undef) (X.getD t undef) := by
  cases hT : T[t]? with
  | none =>
    have : X[t]? = none := by
      rw [← Array.getElem?_toList, List.getElem?_eq_none_iff, ← h.length]; exact List.getElem?_eq_none_iff.1 hT
    rw [Array.getD_eq_getD_getElem?, this]
    exact ⟨#[], rfl, rfl⟩
  | some v =>
    obtain ⟨y, hy, hv⟩ := h.get hT
    rw [Array.getElem?_toList] at hy
    rw [Array.getD_eq_getD_getElem?, hy]
    exact hv

theorem run_loadVar {E : Env} {B : Bnd} {H : AH} {w : World} (h : HR P E B H w) {t : TypeId} {a v : AV} {x : Value} (hv : loadV P H t a = some v) (hx : VR E a x) :
    Got P E w v (do loadVar t (← asAddr x)) := by
  unfold loadV at hv
  split at hv
  · rename_i b o
    obtain ⟨L, hL, rfl⟩ := hx
    split at hv
    · rename_i ha
      obtain ⟨s, hs, hv⟩ := Option.bind_eq_some_iff.1 hv
      obtain ⟨vs, hr, rfl⟩ := Option.map_eq_some_iff.1 hv
      obtain ⟨L', ys, hL', hys, hrun⟩ := run_read h hr
      rw [hL] at hL'; cases hL'
      exact ⟨.agg ys.toArray, by simp [asAddr, loadVar, run_isAgg ha, run_sizeOf' hs, hrun], _, rfl, by simpa using hys⟩
    · rename_i ha
      obtain ⟨L', y, hL', hy, hc⟩ := run_read1 h hv
      rw [hL] at hL'; cases hL'
      exact ⟨y, by simp [asAddr, loadVar, run_isAgg ha, hc], hy⟩
    · cases hv
  · cases hv

def resOf (X : Array Value) : ResultVar → Sem Value
  | .tmp t => pure (X.getD t undef)
  | .cell a t => do loadVar t (← asAddr (X.getD a undef))

theorem run_results {E : Env} {B : Bnd} {H : AH} {w : World} (h : HR P E B H w) {fn : Func} {T : List AV} {X : Array Value} {vs : List AV} (hT : VRs E T X.toList) (hv : resVs P T H fn.results.toList = some vs) :
    Got P E w (oneOf vs) (results fn X) := by
  have key : ∀ (l : List ResultVar) (vs : List AV), resVs P T H l = some vs → ∃ ys : List Value, VRs E vs ys ∧
      (l.mapM (resOf X)).run P w = .ok ys w := by
    intro l
    induction l with
    | nil => intro vs hv; simp only [resVs, Option.some.injEq] at hv; subst hv; exact ⟨[], rfl, by simp⟩
    | cons rv l ih =>
      intro vs hv
      cases rv with
      | tmp t =>
        obtain ⟨us, hu, rfl⟩ := Option.map_eq_some_iff.1 hv
        obtain ⟨ys, hys, hrun⟩ := ih us hu
        refine ⟨_ :: ys, VRs.cons (hT.getD t) hys, ?_⟩
        rw [List.mapM_cons, Sem.run_bind, show (resOf X (.tmp t)).run P w = .ok (X.getD t undef) w from rfl, Result.andThen_ok, Sem.run_bind, hrun]
        rfl
      | cell a t =>
        obtain ⟨v, hv1, hv⟩ := Option.bind_eq_some_iff.1 hv
        obtain ⟨us, hu, rfl⟩ := Option.map_eq_some_iff.1 hv
        obtain ⟨ys, hys, hrun⟩ := ih us hu
        obtain ⟨y, hy, hyv⟩ := run_loadVar h hv1 (hT.getD a)
        refine ⟨y :: ys, VRs.cons hyv hys, ?_⟩
        rw [List.mapM_cons, Sem.run_bind, show (resOf X (.cell a t)).run P w = .ok y w from hy, Result.andThen_ok, Sem.run_bind, hrun]
        rfl
  obtain ⟨ys, hys, hrun⟩ := key _ _ hv
  have hl := hys.length
  refine ⟨if h : ys.toArray.size = 1 then ys.toArray[0] else .tuple ys.toArray, ?_, ?_⟩
  · have h1 : (fn.results.mapM (resOf X)).run P w = .ok ys.toArray w := by
      rw [Array.mapM_eq_mapM_toList, ← bind_pure_comp, Sem.run_bind, hrun]; rfl
    show (do let vs ← fn.results.mapM (resOf X); pure (if h : vs.size = 1 then vs[0] else .tuple vs)).run P w = _
    rw [Sem.run_bind, h1]
    rfl
  · match vs, ys, hys, hl with
    | [v], [y], hys, _ => obtain ⟨y', ys', e, h1, _⟩ := hys; cases e; simpa [oneOf] using h1
    | [], [], hys, _ => exact ⟨#[], by simp, rfl⟩
    | v :: v' :: vs, y :: y' :: ys, hys, _ => exact ⟨_, by simp; rfl, by simpa using hys⟩

theorem leaves_simD {fn : Func} {B : Bnd} {D : List Deferred} {R : Ending → World → Prop} {X : Array Value} : ∀ {M : List Mk} {ds : List Deferred} {E : Env} {H H' : AH} {w : World},
    HR P E B H w → MR D E M ds → takeMarks M H = some H' →
    (∀ w', HR P E B H' w' → Below B w w' → LeavesInM (Fr none) 0 P fn X R D .returning w') → LeavesInM (Fr none) 0 P fn X R ds .returning w
  | [], ds, E, H, H', w, hH, hM, ht, hR => by
    obtain rfl : ds = D := hM
    simp only [takeMarks, Option.some.injEq] at ht
    subst ht
    exact hR w hH (Below.refl B w)
  | .call _ _ _ :: _, ds, E, H, H', w, hH, hM, ht, hR => by simp [takeMarks] at ht
  | .mark m :: M, ds, E, H, H', w, hH, hM, ht, hR => by
    obtain ⟨L, ds', hL, rfl, hM'⟩ := hM
    simp only [takeMarks] at ht
    split at ht
    · rename_i hg
      obtain ⟨L', hL', ho⟩ := hH.obj _ _ hg
      rw [hL] at hL'; cases hL'
      have hH' : HR P E B (H.set m .dead) (w.putObj L.blk (.deferred none)) := hH.turn hg hL rfl trivial
      refine ⟨by simp, .inl ⟨L.blk, _, rfl, run_takeDeferred ho.1, leaves_simD hH' hM' ht fun w' h1 h3 => hR w' h1 ((Below.putObj (Below.refl B w) ho.2 _).trans h3)⟩⟩
    · cases ht

theorem args_sim {E : Env} {args : List AV} {args' : Array Value} (ha : VRs E args args'.toList) (n : Nat) :
    VRs E (args ++ List.replicate (n - args.length) .undef) (args' ++ Array.replicate (n - args'.size) undef).toList := by
  have hl : args.length = args'.size := by simpa using ha.length
  rw [hl]
  simpa using ha.append (VRs.replicate (x := .undef) (y := undef) ⟨#[], rfl, rfl⟩ (n - args'.size))

theorem ACall.body {f : FuncId} {fn : Func} {c : Code} {args : List AV} {H : AH} {Q : AV → AH → Prop} (hf : P.funcs[f]? = some fn) (hb : fn.body = some c)
    (h : AWp P none c (retA P fn Q) ⟨args ++ List.replicate (fn.ntmps - args.length) .undef, [], H⟩) : ACall P f args H Q := by
  intro E B w args' hH ha
  refine callsIn_fr (rc := none) (n := 0) |>.1 (callsIn_of_wp_marks hf hb trivial ?_)
  refine Go.wpIn_mono (h E ⟨B.on, []⟩ w ⟨args' ++ Array.replicate (fn.ntmps - args'.size) undef, []⟩ none ⟨hH.z [], args_sim ha _, rfl⟩ rfl) ?_
  rintro e a' w' ⟨ae, s', E', rfl, ⟨he, H', vs, h1, h2, h3⟩, hE, hs, hb⟩
  have := leaves_simD (fn := fn) (X := a'.tmps) (R := fun e w' => ∃ v H' E' x, e = .returned x ∧ Q v H' ∧ E.le E' ∧ HR P E' B H' w' ∧ VR E' v x ∧ Below B w w') hs.heap hs.marks h1
    fun w'' hH'' hb' => by
      obtain ⟨x, hx, hxv⟩ := run_results hH'' hs.tmps h2
      exact ⟨x, hx, _, H', E', x, rfl, h3, hE, hH''.unz, hxv, (hb.trans hb').unz⟩
  rcases he with rfl | rfl <;> exact this

/-! ### A function that defers a closure at its beginning -/

def ADef (P : Program) (g : FuncId) (args : List AV) (H : AH) (K : AH → Prop) : Prop :=
  ∀ E B w args', HR P E B H w → VRs E args args'.toList → CallsDIn (Fr none) 0 P g args' .returning w fun e u' w' =>
    (∃ x, e = .returned x) ∧ u' = .returning ∧ ∃ H' E', K H' ∧ E.le E' ∧ HR P E' B H' w' ∧ Below B w w'

theorem ACall.bodyD {f : FuncId} {fn : Func} {id : Nat} {A : Code} {ops : Array Oper} {pre : List Oper} {rest : Code} {dst : Option Tmp} {fo : Operand} {xs : Array Operand} {ts : Array TypeId} {ty : TypeId} {pos : String} {after : Array Edge}
    {args : List AV} {H : AH} {Q : AV → AH → Prop} (hf : P.funcs[f]? = some fn) (hb : fn.body = some (.seq A (.seq (.region id ops false) rest)))
    (hl : ops.toList = pre ++ [⟨dst, .defer { callee := .value fo, args := xs, argTypes := ts }, ty, pos, after, none⟩])
    (h : AWp P none A (fun e s => e = .normal ∧ s.M = [] ∧ AOps P none ops (fun T1 H1 => ∃ g x y vs, Goes P g ∧ ev P T1 fo = some (.func (.func g) x y) ∧ evs P T1 xs.toList = some vs ∧
      AWp P none rest (fun e s => (e = .normal ∨ e = .ret) ∧ ∃ H2, takeMarks s.M s.H = some H2 ∧ ADef P g (x ++ vs ++ y) H2 fun H3 => ∃ us, resVs P s.T H3 fn.results.toList = some us ∧ Q (oneOf us) H3)
        ⟨putT T1 dst .undef, [], H1⟩) pre s.T s.H) ⟨args ++ List.replicate (fn.ntmps - args.length) .undef, [], H⟩) : ACall P f args H Q := by
  intro E B w args' hH ha
  refine callsIn_fr (rc := none) (n := 0) |>.1 (callsIn_of_wp_marks hf hb trivial (wpIn_seq ?_))
  refine Go.wpIn_mono (h E ⟨B.on, []⟩ w ⟨args' ++ Array.replicate (fn.ntmps - args'.size) undef, []⟩ none ⟨hH.z [], args_sim ha _, rfl⟩ rfl) ?_
  rintro e0 a0 w0 ⟨ae0, s0, E0, rfl, ⟨rfl, hm0, h⟩, hE0, hs0, hb0⟩
  refine wpIn_seq (wpIn_region_list ?_)
  rw [hl]
  refine h.simK (B := ⟨B.on, []⟩) (M := []) (rc := none) (a := a0) hs0.heap hs0.tmps (hm0 ▸ hs0.marks) rfl ?_
  rintro T1 H1 E1 a1 w1 ⟨g, x, y, vs, hgo, hfo, hxs, hrest⟩ hE1' hH1 hT1 hM1 hb1'
  have hE1 := hE0.trans hE1'
  have hb1 := hb0.trans hb1'
  obtain ⟨t1, d1⟩ := a1
  obtain rfl : d1 = [] := hM1
  obtain ⟨x', y', h2, h3, h4⟩ := eval_sim (a := ⟨t1, []⟩) hH1 hT1 hfo
  have hv := evals_ok (a := ⟨t1, []⟩) (fun z hz => OpsOk.of hH1 hT1 xs z (by simpa using hz)) hxs
  have hw : Region.wanted (⟨dst, .defer { callee := .value fo, args := xs, argTypes := ts }, ty, pos, after, none⟩ : Oper) (yielded ops t1) = true := rfl
  simp only [wpListIn, hw, if_true]
  refine ⟨fun _ _ => trivial, ?_⟩
  have hex : (Oper.semAt (Fr none).round (Act.eval ⟨t1, []⟩) (⟨dst, .defer { callee := .value fo, args := xs, argTypes := ts }, ty, pos, after, none⟩ : Oper)).run P w1 =
      .ok (.defer { target := .fn (.func g) y', args := x' ++ xs.map (Act.eval ⟨t1, []⟩) }) w1 := by
    rw [show (Fr none).round = none from rfl, Oper.semAt_none]
    simp only [execOp, Sem.run_bind, run_resolve_value h2, Result.andThen_ok]
    rfl
  rw [hex, Oper.uponIn_defer]
  have hws := hrest E1 ⟨B.on, [{ target := .fn (.func g) y', args := x' ++ xs.map (Act.eval ⟨t1, []⟩) }]⟩ w1
    (({ tmps := t1, defers := [{ target := .fn (.func g) y', args := x' ++ xs.map (Act.eval ⟨t1, []⟩) }] } : Act).put dst undef) none
    ⟨hH1.unz.z _, VRs.put (a := { tmps := t1, defers := [{ target := .fn (.func g) y', args := x' ++ xs.map (Act.eval ⟨t1, []⟩) }] }) hT1 dst (v := .undef) (x := undef) ⟨#[], rfl, rfl⟩, by rw [put_defers]; rfl⟩ rfl
  refine Go.wpIn_mono hws ?_
  rintro e a' w' ⟨ae, s', E', rfl, ⟨he, H2, k1, k2⟩, hE, hs, hb⟩
  have := leaves_simD (fn := fn) (X := a'.tmps) (R := fun e w' => ∃ v H' E' x, e = .returned x ∧ Q v H' ∧ E.le E' ∧ HR P E' B H' w' ∧ VR E' v x ∧ Below B w w') hs.heap hs.marks k1
    fun w'' hH'' hb' => by
      refine ⟨by simp, .inr ⟨fun h => by simp [Fr, Fence.wide] at h, .func g, y', g, x' ++ xs.map (Act.eval ⟨t1, []⟩) ++ y', rfl, ?_, fun _ _ => trivial, ?_⟩⟩
      · simp only [invoke]; exact hgo _ _
      · have hargs : VRs E' (x ++ vs ++ y) (x' ++ xs.map (Act.eval ⟨t1, []⟩) ++ y').toList := by
          have := (h3.append (by simpa using hv)).append h4
          simpa using VRs.mono hE _ _ this
        refine CallsDIn.mono (k2 E' ⟨B.on, []⟩ w'' _ (hH''.unz.z []) hargs) ?_
        rintro e u' w3 ⟨⟨v, rfl⟩, rfl, H3, E3, ⟨us, j1, j2⟩, hE3, hH3, hb3⟩
        obtain ⟨z, hz, hzv⟩ := run_results hH3 (VRs.mono hE3 _ _ hs.tmps) j1
        exact ⟨z, hz, _, H3, E3, z, rfl, j2, (hE1.trans hE).trans hE3, hH3.unz, hzv, ((hb1.unz.trans hb.unz).trans hb'.unz).trans hb3.unz⟩
  rcases he with rfl | rfl <;> exact this

def isRecover : Op → Bool
  | .call ⟨.builtin .recover, _, _⟩ => true
  | _ => false

def opsD (P : Program) (ops : Array Oper) (rc : Bool) : List Oper → List AV → AH → Option (List AV × AH)
  | [], T, H => some (T, H)
  | o :: l, T, H =>
    match wantedV ops T o with
    | some true => if rc && isRecover o.op then opsD P ops rc l (putT T o.dst .nilIface) H else (opV P T H o).bind fun (v, H') => opsD P ops rc l (putT T o.dst v) H'
    | some false => opsD P ops rc l (putT T o.dst .undef) H
    | none => none

theorem opsD_ops {ops : Array Oper} {K : List AV → AH → Prop} {r : Option Nat} : ∀ {l : List Oper} {T : List AV} {H : AH} {T' : List AV} {H' : AH}, opsD P ops false l T H = some (T', H') → K T' H' → AOps P r ops K l T H
  | [], T, H, T', H', h, hk => by simp only [opsD, Option.some.injEq, Prod.mk.injEq] at h; obtain ⟨rfl, rfl⟩ := h; exact hk
  | o :: l, T, H, T', H', h, hk => by
    simp only [opsD, Bool.false_and, Bool.false_eq_true, if_false] at h
    split at h
    · rename_i hw
      obtain ⟨⟨v, H₁⟩, h1, h⟩ := Option.bind_eq_some_iff.1 h
      exact .inl ⟨hw, AOp.of_opV h1 (opsD_ops h hk)⟩
    · rename_i hw
      exact .inr ⟨hw, opsD_ops h hk⟩
    · cases h

theorem opsD_sim {ops : Array Oper} {Q : Exit → Act → List Frame → World → Prop} {B : Bnd} {c₀ : Frame} {cs : List Frame} (hu : c₀.mode = .returning) {T' : List AV} {H' : AH} :
    ∀ (l : List Oper) (i : Nat), ops.toList.drop i = l → ∀ {T : List AV} {H : AH} {E : Env} {a : Act} {w : World}, opsD P ops true l T H = some (T', H') → HR P E B H w → VRs E T a.tmps.toList → a.defers = [] →
      (∀ E' a' w', E.le E' → HR P E' B H' w' → VRs E' T' a'.tmps.toList → a'.defers = [] → Below B w w' → Q .normal a' (c₀ :: cs) w') →
      wpOpsSIn (Fr none) 0 P ops Q (List.range' i l.length) a (c₀ :: cs) w
  | [], i, hd, T, H, E, a, w, h, hH, hT, hM, hq => by
    simp only [opsD, Option.some.injEq, Prod.mk.injEq] at h
    obtain ⟨rfl, rfl⟩ := h
    exact hq E a w (Env.le.refl E) hH hT hM (Below.refl B w)
  | o :: l, i, hd, T, H, E, a, w, h, hH, hT, hM, hq => by
    have hi : ops[i]? = some o := by
      rw [← Array.getElem?_toList]
      have := congrArg (fun l => l[0]?) hd
      simpa using this
    have hd' : ops.toList.drop (i + 1) = l := by
      rw [← List.drop_drop, hd]; rfl
    simp only [List.length_cons, List.range'_succ, wpOpsSIn, hi]
    refine ⟨fun _ _ => trivial, ?_⟩
    simp only [opsD] at h
    split at h
    · rename_i hw
      have hwt := wanted_sim (a := a) hT hw
      rw [if_pos hwt]
      split at h
      · rename_i hrec
        have hex : (execOp a.eval o).run P w = .ok .recover w := by
          obtain ⟨dst, op, ty, pos, after, guard⟩ := o
          simp only [Bool.true_and, isRecover] at hrec
          split at hrec
          · rfl
          · cases hrec
        rw [hex]
        have hrn : recoverD (c₀ :: cs) = none := by simp [recoverD, hu]
        simp only [hrn]
        exact opsD_sim hu l (i + 1) hd' h hH (hT.put o.dst (v := .nilIface) (x := .nilIface) rfl) (by rw [put_defers]; exact hM) hq
      · obtain ⟨⟨v, H₁⟩, h1, h⟩ := Option.bind_eq_some_iff.1 h
        obtain ⟨⟨E', w', x, hx, hE, hv, hH', hb⟩, hdd⟩ := opV_sim hH (OpsOk.of hH hT _) h1
        have go := opsD_sim hu l (i + 1) hd' h hH' ((VRs.mono hE _ _ hT).put o.dst hv) (by rw [put_defers]; exact hM)
          fun E'' a' w'' hE' h1 h2 h3 h4 => hq E'' a' w'' (hE.trans hE') h1 h2 h3 (hb.trans h4)
        rcases hx with hx | ⟨hx, rfl⟩
        · rw [hx]; exact go
        · rw [hx]; exact go
    · rename_i hw
      have hwt := wanted_sim (a := a) hT hw
      rw [if_neg (by rw [hwt]; simp)]
      exact opsD_sim hu l (i + 1) hd' h hH (hT.put o.dst (v := .undef) (x := undef) ⟨#[], rfl, rfl⟩) (by rw [put_defers]; exact hM) hq
    · cases h

theorem ADef.of_ops {g : FuncId} {fn : Func} {id : Nat} {ops : Array Oper} {rest : Code} {args : List AV} {H : AH} {K : AH → Prop} {T1 : List AV} {H1 : AH} (hf : P.funcs[g]? = some fn) (hb : fn.body = some (.seq (.region id ops false) rest))
    (h : opsD P ops true ops.toList (args ++ List.replicate (fn.ntmps - args.length) .undef) H = some (T1, H1))
    (hr : AWp P none rest (fun e s => (e = .normal ∨ e = .ret) ∧ s.M = [] ∧ (∃ us, resVs P s.T s.H fn.results.toList = some us) ∧ K s.H) ⟨T1, [], H1⟩) : ADef P g args H K := by
  intro E B w args' hH ha
  refine callsDIn_of_wpSIn hf hb trivial fun c₀ cs hu => wpSIn_seq (wpSIn_region ?_)
  rw [List.range_eq_range', ← Array.length_toList]
  refine opsD_sim (B := ⟨B.on, []⟩) hu ops.toList 0 rfl h (hH.z []) (args_sim ha _) rfl ?_
  intro E1 a1 w1 hE1 hH1 hT1 hM1 hb1
  refine wpSIn_of_wpIn rfl (Go.wpIn_mono (hr E1 ⟨B.on, []⟩ w1 a1 none ⟨hH1, hT1, hM1⟩ rfl) ?_)
  rintro e a' w' ⟨ae, s', E', rfl, ⟨he, hm, ⟨us, hu1⟩, hk⟩, hE, hs, hb⟩
  have hd : a'.defers = [] := by have := hs.marks; rw [hm] at this; exact this
  obtain ⟨z, hz, hzv⟩ := run_results hs.heap hs.tmps hu1
  have : a'.defers = [] ∧ ∃ u', c₀ :: cs = { c₀ with mode := u' } :: cs ∧ ∃ v, (results fn a'.tmps).run P w' = .ok v w' ∧ ((∃ x, Ending.returned v = .returned x) ∧ u' = .returning ∧ ∃ H' E', K H' ∧ E.le E' ∧ HR P E' B H' w' ∧ Below B w w') :=
    ⟨hd, .returning, by cases c₀; cases hu; rfl, z, hz, ⟨z, rfl⟩, rfl, s'.H, E', hk, hE1.trans hE, hs.heap.unz, (hb1.trans hb).unz⟩
  rcases he with rfl | rfl <;> exact this

theorem ADef.body {g : FuncId} {fn : Func} {c : Code} {args : List AV} {H : AH} {K : AH → Prop} (hf : P.funcs[g]? = some fn) (hb : fn.body = some c)
    (hr : AWp P none c (fun e s => (e = .normal ∨ e = .ret) ∧ s.M = [] ∧ (∃ us, resVs P s.T s.H fn.results.toList = some us) ∧ K s.H) ⟨args ++ List.replicate (fn.ntmps - args.length) .undef, [], H⟩) : ADef P g args H K := by
  intro E B w args' hH ha
  refine callsDIn_of_wpSIn hf hb trivial fun c₀ cs hu => ?_
  refine wpSIn_of_wpIn rfl (Go.wpIn_mono (hr E ⟨B.on, []⟩ w ⟨args' ++ Array.replicate (fn.ntmps - args'.size) undef, []⟩ none ⟨hH.z [], args_sim ha _, rfl⟩ rfl) ?_)
  rintro e a' w' ⟨ae, s', E', rfl, ⟨he, hm, ⟨us, hu1⟩, hk⟩, hE, hs, hb⟩
  have hd : a'.defers = [] := by have := hs.marks; rw [hm] at this; exact this
  obtain ⟨z, hz, hzv⟩ := run_results hs.heap hs.tmps hu1
  have : a'.defers = [] ∧ ∃ u', c₀ :: cs = { c₀ with mode := u' } :: cs ∧ ∃ v, (results fn a'.tmps).run P w' = .ok v w' ∧ ((∃ x, Ending.returned v = .returned x) ∧ u' = .returning ∧ ∃ H' E', K H' ∧ E.le E' ∧ HR P E' B H' w' ∧ Below B w w') :=
    ⟨hd, .returning, by cases c₀; cases hu; rfl, z, hz, ⟨z, rfl⟩, rfl, s'.H, E', hk, hE, hs.heap.unz, hb.unz⟩
  rcases he with rfl | rfl <;> exact this

def Leave (P : Program) : List Mk → AH → (AH → Prop) → Prop
  | [], H, K => K H
  | .mark m :: ms, H, K => H.get m = some .deferred ∧ Leave P ms (H.set m .dead) K
  | .call g a y :: ms, H, K => Goes P g ∧ ADef P g (a ++ y) H fun H1 => Leave P ms H1 K

theorem leaves_simC {fn : Func} {B : Bnd} {R : Ending → World → Prop} {X : Array Value} {K : AH → Prop} : ∀ {M : List Mk} {ds : List Deferred} {E : Env} {H : AH} {w : World},
    HR P E B H w → MR [] E M ds → Leave P M H K →
    (∀ E' H' w', K H' → E.le E' → HR P E' B H' w' → Below B w w' → LeavesInM (Fr none) 0 P fn X R [] .returning w') → LeavesInM (Fr none) 0 P fn X R ds .returning w
  | [], ds, E, H, w, hH, hM, ht, hR => by
    obtain rfl : ds = [] := hM
    exact hR E H w ht (Env.le.refl E) hH (Below.refl B w)
  | .mark m :: M, ds, E, H, w, hH, hM, ht, hR => by
    obtain ⟨L, ds', hL, rfl, hM'⟩ := hM
    obtain ⟨hg, ht⟩ := ht
    obtain ⟨L', hL', ho⟩ := hH.obj _ _ hg
    rw [hL] at hL'; cases hL'
    have hH' : HR P E B (H.set m .dead) (w.putObj L.blk (.deferred none)) := hH.turn hg hL rfl trivial
    exact ⟨by simp, .inl ⟨L.blk, _, rfl, run_takeDeferred ho.1, leaves_simC hH' hM' ht fun E' H' w' k h0 h1 h3 => hR E' H' w' k h0 h1 ((Below.putObj (Below.refl B w) ho.2 _).trans h3)⟩⟩
  | .call g a y :: M, ds, E, H, w, hH, hM, ht, hR => by
    obtain ⟨a', y', ds', ha, hy, rfl, hM'⟩ := hM
    obtain ⟨hgo, ht⟩ := ht
    refine ⟨by simp, .inr ⟨fun h => by simp [Fr, Fence.wide] at h, .func g, y', g, a' ++ y', rfl, ?_, fun _ _ => trivial, ?_⟩⟩
    · simp only [invoke]; exact hgo _ _
    · have hargs : VRs E (a ++ y) (a' ++ y').toList := by simpa using ha.append hy
      refine CallsDIn.mono (ht E B w _ hH hargs) ?_
      rintro e u' w3 ⟨⟨v, rfl⟩, rfl, H3, E3, hl, hE3, hH3, hb3⟩
      exact leaves_simC hH3 (hM'.mono hE3) hl fun E' H' w' k h0 h1 h3 => hR E' H' w' k (hE3.trans h0) h1 (hb3.trans h3)

theorem ACall.bodyC {f : FuncId} {fn : Func} {c : Code} {args : List AV} {H : AH} {Q : AV → AH → Prop} (hf : P.funcs[f]? = some fn) (hb : fn.body = some c)
    (h : AWp P none c (fun e s => (e = .normal ∨ e = .ret) ∧ Leave P s.M s.H fun H' => ∃ vs, resVs P s.T H' fn.results.toList = some vs ∧ Q (oneOf vs) H') ⟨args ++ List.replicate (fn.ntmps - args.length) .undef, [], H⟩) : ACall P f args H Q := by
  intro E B w args' hH ha
  refine callsIn_fr (rc := none) (n := 0) |>.1 (callsIn_of_wp_marks hf hb trivial ?_)
  refine Go.wpIn_mono (h E ⟨B.on, []⟩ w ⟨args' ++ Array.replicate (fn.ntmps - args'.size) undef, []⟩ none ⟨hH.z [], args_sim ha _, rfl⟩ rfl) ?_
  rintro e a' w' ⟨ae, s', E', rfl, ⟨he, hl⟩, hE, hs, hb⟩
  have := leaves_simC (fn := fn) (X := a'.tmps) (R := fun e w' => ∃ v H' E' x, e = .returned x ∧ Q v H' ∧ E.le E' ∧ HR P E' B H' w' ∧ VR E' v x ∧ Below B w w') hs.heap hs.marks hl
    fun E'' H'' w'' ⟨vs, k1, k2⟩ hE' hH'' hb' => by
      obtain ⟨x, hx, hxv⟩ := run_results hH'' (VRs.mono hE' _ _ hs.tmps) k1
      exact ⟨x, hx, _, H'', E'', x, rfl, k2, hE.trans hE', hH''.unz, hxv, (hb.trans hb').unz⟩
  rcases he with rfl | rfl <;> exact this

theorem AWp.defers {id : Nat} {ops : Array Oper} {pre : List Oper} {dst : Option Tmp} {fo : Operand} {xs : Array Operand} {ts : Array TypeId} {ty : TypeId} {pos : String} {after : Array Edge} {Q : AEx → St → Prop} {s : St}
    (hl : ops.toList = pre ++ [⟨dst, .defer { callee := .value fo, args := xs, argTypes := ts }, ty, pos, after, none⟩])
    (h : AOps P none ops (fun T1 H1 => ∃ g x y vs, ev P T1 fo = some (.func (.func g) x y) ∧ evs P T1 xs.toList = some vs ∧ Q .normal ⟨putT T1 dst .undef, .call g (x ++ vs) y :: s.M, H1⟩) pre s.T s.H) : AWp P none (.region id ops false) Q s := by
  intro E B w a rc hs hr
  obtain rfl : rc = none := hr
  refine wpIn_region_list ?_
  rw [hl]
  refine h.simK (M := s.M) (rc := none) (a := a) hs.heap hs.tmps hs.marks rfl ?_
  rintro T1 H1 E1 a1 w1 ⟨g, x, y, vs, hfo, hxs, hq⟩ hE1 hH1 hT1 hM1 hb1
  obtain ⟨t1, d1⟩ := a1
  obtain ⟨x', y', h2, h3, h4⟩ := eval_sim (a := ⟨t1, d1⟩) hH1 hT1 hfo
  have hv := evals_ok (a := ⟨t1, d1⟩) (fun z hz => OpsOk.of hH1 hT1 xs z (by simpa using hz)) hxs
  have hw : Region.wanted (⟨dst, .defer { callee := .value fo, args := xs, argTypes := ts }, ty, pos, after, none⟩ : Oper) (yielded ops t1) = true := rfl
  simp only [wpListIn, hw, if_true]
  refine ⟨fun _ _ => trivial, ?_⟩
  have hex : (Oper.semAt (Fr none).round (Act.eval ⟨t1, d1⟩) (⟨dst, .defer { callee := .value fo, args := xs, argTypes := ts }, ty, pos, after, none⟩ : Oper)).run P w1 =
      .ok (.defer { target := .fn (.func g) y', args := x' ++ xs.map (Act.eval ⟨t1, d1⟩) }) w1 := by
    rw [show (Fr none).round = none from rfl, Oper.semAt_none]
    simp only [execOp, Sem.run_bind, run_resolve_value h2, Result.andThen_ok]
    rfl
  rw [hex, Oper.uponIn_defer]
  refine ⟨.normal, ⟨putT T1 dst .undef, .call g (x ++ vs) y :: s.M, H1⟩, E1, rfl, hq, hE1, ⟨hH1, ?_, ?_⟩, hb1⟩
  · exact VRs.put (a := { tmps := t1, defers := { target := .fn (.func g) y', args := x' ++ xs.map (Act.eval ⟨t1, d1⟩) } :: d1 }) hT1 dst (v := .undef) (x := undef) ⟨#[], rfl, rfl⟩
  · rw [put_defers]
    exact ⟨_, _, _, by simpa using h3.append (by simpa using hv), h4, rfl, hM1⟩
end

end Go.Am
end

/- The abstract machine: a region that draws its order. -/
section
namespace Go.Am
open Go.RowKit

section congr
variable {P : Program} {r : Option Nat} {T T' : List AV}

theorem evs_congr : ∀ {xs : List Operand}, (∀ x ∈ xs, ev P T x = ev P T' x) → evs P T xs = evs P T' xs
  | [], _ => rfl
  | x :: xs, h => by simp only [evs, h x (by simp), evs_congr (xs := xs) fun y hy => h y (by simp [hy])]

theorem evo_congr {x : Option Operand} (h : ∀ y, x = some y → ev P T y = ev P T' y) : evo P T x = evo P T' x := by
  cases x with
  | none => rfl
  | some x => simp only [evo, h x rfl]

theorem evp_congr : ∀ {xs : List (Nat × Operand)}, (∀ p ∈ xs, ev P T p.2 = ev P T' p.2) → evp P T xs = evp P T' xs
  | [], _ => rfl
  | (i, x) :: xs, h => by simp only [evp, h (i, x) (by simp), evp_congr (xs := xs) fun y hy => h y (by simp [hy])]

theorem opV_congr {o : Oper} (H : AH) (h : ∀ x ∈ o.op.operands, ev P T x = ev P T' x) : opV P T H o = opV P T' H o := by
  obtain ⟨dst, op, ty, pos, after, guard⟩ := o
  simp only at h
  cases op <;> simp only [opV]
  case build t ps => rw [evp_congr (T' := T') fun p hp => h p.2 (by simp only [Op.operands, List.mem_toArray, List.mem_map]; exact ⟨p, hp, rfl⟩)]
  case buildSlice t n ps => rw [evp_congr (T' := T') fun p hp => h p.2 (by simp only [Op.operands, List.mem_toArray, List.mem_map]; exact ⟨p, hp, rfl⟩)]
  case makeFunc f xs ys =>
    rw [evs_congr (T' := T') fun y hy => h y (by simp [Op.operands]; left; simpa using hy), evs_congr (xs := ys.toList) (T' := T') fun y hy => h y (by simp [Op.operands]; right; simpa using hy)]
  case slice t x lo hi mx =>
    rw [h x (by simp [Op.operands]), evo_congr (x := lo) (T' := T') fun y hy => h y (by subst hy; simp [Op.operands]), evo_congr (x := hi) (T' := T') fun y hy => h y (by subst hy; simp [Op.operands]),
      evo_congr (x := mx) (T' := T') fun y hy => h y (by subst hy; simp [Op.operands])]
  case call c =>
    obtain ⟨callee, args, ts⟩ := c
    cases callee with
    | builtin b =>
      simp only
      rw [evs_congr (T' := T') fun y hy => h y (by simp [Op.operands, Call.operands]; simpa using hy)]
    | value f => rfl
    | invoke x m => rfl
  case next x str => 
    cases str with
    | false => rfl
    | true => simp only []; rw [h x (by simp [Op.operands])]
  case makeMap t r => cases r <;> rfl
  all_goals (simp [Op.operands] at h; simp only [h])

theorem AOp.congr {o : Oper} {H : AH} {K : AV → AH → Prop} (h : ∀ x ∈ o.op.operands, ev P T x = ev P T' x) (k : AOp P r o T H K) : AOp P r o T' H K :=
  fun E B w a rc next Q' hH hT hr hn => k E B w a rc next Q' hH (fun x hx v hv => hT x hx v (by rw [← h x hx]; exact hv)) hr hn

theorem ev_put {x : Operand} {dst : Option Tmp} {v : AV} (h : ∀ d, dst = some d → x ≠ .tmp d) : ev P (putT T dst v) x = ev P T x := by
  cases dst with
  | none => rfl
  | some d =>
    cases x with
    | tmp t =>
      have : d ≠ t := fun e => h d rfl (by rw [e])
      simp [ev, putT, this]
    | const c => rfl
    | global g => rfl
    | func f => rfl

theorem ev_put_op {o : Oper} {ops : Array Oper} {dst : Option Tmp} {v : AV} (h : ∀ d, dst = some d → d ∉ o.looksAt ops) : ∀ x ∈ o.op.operands, ev P (putT T dst v) x = ev P T x := fun x hx =>
  ev_put fun d hd hxd => h d hd (by subst hxd; exact List.mem_append_left _ (List.mem_filterMap.2 ⟨.tmp d, by simpa using hx, rfl⟩))

theorem wantedV_put {o : Oper} {ops : Array Oper} {dst : Option Tmp} {v : AV} (h : ∀ d, dst = some d → d ∉ o.looksAt ops) : wantedV ops (putT T dst v) o = wantedV ops T o := by
  cases dst with
  | none => rfl
  | some d =>
    unfold wantedV
    cases hg : o.guard with
    | none => rfl
    | some gw =>
      obtain ⟨g, want⟩ := gw
      cases ht : (ops[g]?).bind (·.dst) with
      | none => simp [ht]
      | some t =>
        have hne : d ≠ t := fun e => h d rfl (by subst e; simp [Oper.looksAt, hg, ht])
        simp [ht, putT, List.getElem?_set, hne]

theorem putT_comm (T : List AV) {x y : Option Tmp} (v u : AV) (h : ∀ d, x = some d → y ≠ some d) : putT (putT T x v) y u = putT (putT T y u) x v := by
  cases x with
  | none => rfl
  | some d =>
    cases y with
    | none => rfl
    | some e =>
      have : d ≠ e := fun k => h d rfl (by rw [k])
      simp only [putT]
      rw [List.set_comm _ _ this]
end congr

section
variable {P : Program} {r : Option Nat} {ops : Array Oper} {md : Region.Mode} {anc : Nat → Nat → Bool}

def Stills (P : Program) (ops : Array Oper) (o : Oper) (T : List AV) (H : AH) (v : AV) : Prop :=
  (wantedV ops T o = some false ∧ v = .undef) ∨ (wantedV ops T o = some true ∧ opV P T H o = some (v, H))

theorem Stills.put {o : Oper} {T : List AV} {H : AH} {v : AV} {dst : Option Tmp} {u : AV} (h : ∀ d, dst = some d → d ∉ o.looksAt ops) : Stills P ops o (putT T dst u) H v ↔ Stills P ops o T H v := by
  unfold Stills
  rw [wantedV_put h, opV_congr H (ev_put_op h)]

def AStep (P : Program) (r : Option Nat) (ops : Array Oper) (R : AH → Prop) (i : Nat) (T : List AV) (H : AH) (K : List AV → AH → Prop) : Prop :=
  match ops[i]? with
  | none => K T H
  | some o => (∃ v, Stills P ops o T H v ∧ K (putT T o.dst v) H) ∨ (wantedV ops T o = some true ∧ AOp P r o T H fun v H' => R H' ∧ K (putT T o.dst v) H')

def AAny (P : Program) (r : Option Nat) (ops : Array Oper) (md : Region.Mode) (R : Nat → AH → Prop) (K : List AV → AH → Prop) : Nat → Array Bool → List AV → AH → Prop
  | 0, listed, T, H => Region.ready md ops listed = [] ∧ K T H
  | fuel + 1, listed, T, H => (Region.ready md ops listed = [] → K T H) ∧ ∀ i ∈ Region.ready md ops listed, AStep P r ops (R i) i T H (AAny P r ops md R K fuel (listed.setIfInBounds i true))

theorem AStep.mono {R R' : AH → Prop} {i : Nat} {T : List AV} {H : AH} {K K' : List AV → AH → Prop} (hR : ∀ H, R H → R' H) (hK : ∀ T H, K T H → K' T H) (h : AStep P r ops R i T H K) : AStep P r ops R' i T H K' := by
  unfold AStep at *
  cases ho : ops[i]? with
  | none => rw [ho] at h; exact hK _ _ h
  | some o =>
    rw [ho] at h
    rcases h with ⟨v, h1, h2⟩ | ⟨h1, h2⟩
    · exact .inl ⟨v, h1, hK _ _ h2⟩
    · exact .inr ⟨h1, h2.mono fun v H' h => ⟨hR _ h.1, hK _ _ h.2⟩⟩

theorem AAny.mono {R R' : Nat → AH → Prop} {K : List AV → AH → Prop} (hR : ∀ j H, R j H → R' j H) : ∀ {fuel : Nat} {listed : Array Bool} {T : List AV} {H : AH}, AAny P r ops md R K fuel listed T H → AAny P r ops md R' K fuel listed T H
  | 0, _, _, _, h => h
  | _ + 1, _, _, _, h => ⟨h.1, fun i hi => (h.2 i hi).mono (hR i) fun _ _ => AAny.mono hR⟩

def AncOk (md : Region.Mode) (ops : Array Oper) (anc : Nat → Nat → Bool) : Prop :=
  ∀ j o, ops[j]? = some o → ∀ i, anc j i = true → ∃ e ∈ o.after, Region.binds md e = true ∧ (e.on = i ∨ anc e.on i = true)

def Closed (anc : Nat → Nat → Bool) (listed : Array Bool) : Prop := ∀ j i, listed.getD j false = true → anc j i = true → listed.getD i false = true

theorem Closed.anc_of_ready (hA : AncOk md ops anc) {listed : Array Bool} (hc : Closed anc listed) {j : Nat} (hj : j ∈ Region.ready md ops listed) {i : Nat} (h : anc j i = true) : listed.getD i false = true := by
  obtain ⟨_, o, ho, hall⟩ := mem_ready.1 hj
  obtain ⟨e, he, hb, h'⟩ := hA j o ho i h
  have := hall e he hb
  rcases h' with rfl | h'
  · exact this
  · exact hc _ _ this h'

theorem Closed.list (hA : AncOk md ops anc) {listed : Array Bool} (hc : Closed anc listed) {j : Nat} (hj : j ∈ Region.ready md ops listed) : Closed anc (listed.setIfInBounds j true) := by
  intro k i hk h
  by_cases e : j = k
  · subst e; exact getD_set_true (hc.anc_of_ready hA hj h)
  · rw [getD_set_ne false e] at hk
    exact getD_set_true (hc k i hk h)

theorem AStep.put {R : AH → Prop} {j : Nat} {oi oj : Oper} {v : AV} (hj : ops[j]? = some oj) (hap : oi.apart ops oj = true) {T : List AV} {H : AH} {K : List AV → AH → Prop} {Y : AH → Prop} (hY : Y H)
    (h : AStep P r ops (fun H' => R H' ∧ Y H') j (putT T oi.dst v) H K) : AStep P r ops R j T H (fun T' H' => (∃ u, T' = putT T oj.dst u) ∧ Y H' ∧ K (putT T' oi.dst v) H') := by
  obtain ⟨h1, h2, h3⟩ := Oper.apart_spec hap
  unfold AStep at *
  rw [hj] at h ⊢
  rcases h with ⟨u, hs, hk⟩ | ⟨hw, hk⟩
  · exact .inl ⟨u, (Stills.put h1).1 hs, ⟨u, rfl⟩, hY, by rw [← putT_comm T v u h2]; exact hk⟩
  · rw [wantedV_put h1] at hw
    refine .inr ⟨hw, (hk.congr (ev_put_op h1)).mono fun u H' hu => ⟨hu.1.1, ⟨u, rfl⟩, hu.1.2, ?_⟩⟩
    rw [← putT_comm T v u h2]; exact hu.2

theorem AAny.first (hA : AncOk md ops anc) {K : List AV → AH → Prop} {i : Nat} {oi : Oper} {v : AV} {T₀ : List AV} (hi : ops[i]? = some oi) : ∀ (fuel : Nat) (R : Nat → AH → Prop) (listed : Array Bool) (T : List AV) (H : AH), Closed anc listed →
    (∀ j oj, ops[j]? = some oj → j ≠ i → listed.getD j true = false → (∀ e ∈ oj.after, Region.binds md e = true → e.on ≠ i) → oi.apart ops oj = true) →
    i ∈ Region.ready md ops listed → (∀ H', Stills P ops oi T H' v ↔ Stills P ops oi T₀ H' v) → Stills P ops oi T₀ H v →
    AAny P r ops md (fun j H' => R j H' ∧ (anc j i = false → Stills P ops oi T₀ H' v)) K fuel (listed.setIfInBounds i true) (putT T oi.dst v) H → AAny P r ops md R K (fuel + 1) listed T H := by
  intro fuel
  induction fuel with
  | zero =>
    intro R listed T H hc hfree hr hT hy H0
    refine ⟨fun h => (by rw [h] at hr; cases hr), fun j hj => ?_⟩
    by_cases hji : j = i
    · subst hji
      unfold AStep; rw [hi]
      exact .inl ⟨v, (hT H).2 hy, AAny.mono (fun _ _ h => h.1) H0⟩
    · have := ready_mono hj hji
      rw [H0.1] at this
      cases this
  | succ fuel ih =>
    intro R listed T H hc hfree hr hT hy H0
    refine ⟨fun h => (by rw [h] at hr; cases hr), fun j hj => ?_⟩
    by_cases hji : j = i
    · subst hji
      unfold AStep; rw [hi]
      exact .inl ⟨v, (hT H).2 hy, AAny.mono (fun _ _ h => h.1) H0⟩
    · have h1 := H0.2 j (ready_mono hj hji)
      obtain ⟨hjun, oj, hoj, hall⟩ := mem_ready.1 hj
      have hiun : listed.getD i false = false := by
        have h0 := (mem_ready.1 hr).1
        rcases Nat.lt_or_ge i listed.size with h' | h'
        · simp [h'] at h0 ⊢; exact h0
        · simp [Array.getElem?_eq_none h'] at h0
      have hanc : anc j i = false := by
        cases e : anc j i with
        | false => rfl
        | true => rw [hc.anc_of_ready hA hj e] at hiun; cases hiun
      have hnot : ∀ e ∈ oj.after, Region.binds md e = true → e.on ≠ i := fun e he hb heq => by
        have h1 := hall e he hb
        rw [heq, hiun] at h1; cases h1
      have hap := hfree j oj hoj hji hjun hnot
      have h2 := AStep.put (R := R j) (Y := fun H' => Stills P ops oi T₀ H' v) hoj hap hy (h1.mono (R' := fun H' => R j H' ∧ Stills P ops oi T₀ H' v) (fun H' h => ⟨h.1, h.2 hanc⟩) fun _ _ h => h)
      have hfree' : ∀ k ok, ops[k]? = some ok → k ≠ i → (listed.setIfInBounds j true).getD k true = false →
          (∀ e ∈ ok.after, Region.binds md e = true → e.on ≠ i) → oi.apart ops ok = true := fun k ok hk hki hun hno => by
        refine hfree k ok hk hki ?_ hno
        by_cases hjk : j = k
        · subst hjk; exact hjun
        · rw [getD_set_ne true hjk] at hun; exact hun
      refine h2.mono (fun _ h => h) ?_
      rintro T' H' ⟨⟨u, rfl⟩, hy', hk⟩
      refine ih R (listed.setIfInBounds j true) _ H' (hc.list hA hj) hfree' (ready_mono hr (Ne.symm hji)) (fun H'' => ?_) hy' ?_
      · rw [Stills.put (Oper.apart_spec hap).2.2]; exact hT H''
      · rw [Array.setIfInBounds_comm _ _ hji]; exact hk

/-! ### The walk -/

def freeOp : Op → Bool
  | .move _ | .assign _ | .pick .. | .build .. | .nilCheck _ | .binOp .. | .unOp .. | .makeInterface .. | .makeFunc .. | .fieldAddr .. | .field .. | .indexAddr .. | .index .. | .typeAssert .. | .extract .. => true
  | _ => false

theorem freeOp_spec {o : Oper} {T : List AV} {H H' : AH} {v : AV} (hf : freeOp o.op = true) (h : opV P T H o = some (v, H)) : opV P T H' o = some (v, H') := by
  obtain ⟨dst, op, ty, pos, after, guard⟩ := o
  have key : ∀ {x : Option AV}, x.map (·, H) = some (v, H) → x.map (·, H') = some (v, H') := fun h => by
    obtain ⟨z, hz, h⟩ := Option.map_eq_some_iff.1 h
    simp only [Prod.mk.injEq, and_true] at h
    subst h; rw [hz]; rfl
  cases op <;> simp only [freeOp, Bool.false_eq_true] at hf <;> simp only [opV] at h ⊢
  case move => exact key h
  case assign => exact key h
  case pick =>
    obtain ⟨z, hz, h⟩ := Option.bind_eq_some_iff.1 h
    rw [hz]; simp only [Option.bind_some]
    split at h
    · exact key h
    · exact key h
    · cases h
  case build => obtain ⟨z, hz, h⟩ := Option.bind_eq_some_iff.1 h; rw [hz]; exact key h
  case nilCheck =>
    obtain ⟨z, hz, h⟩ := Option.bind_eq_some_iff.1 h
    rw [hz]; simp only [Option.bind_some]
    split at h
    · rename_i hok
      simp only [Option.some.injEq, Prod.mk.injEq, and_true] at h
      subst h
      rw [if_pos hok]
    · cases h
  case binOp => obtain ⟨z, hz, h⟩ := Option.bind_eq_some_iff.1 h; obtain ⟨z', hz', h⟩ := Option.bind_eq_some_iff.1 h; rw [hz, Option.bind_some, hz']; exact key h
  case unOp => obtain ⟨z, hz, h⟩ := Option.bind_eq_some_iff.1 h; rw [hz]; exact key h
  case makeInterface =>
    obtain ⟨z, hz, h⟩ := Option.bind_eq_some_iff.1 h
    rw [hz]; simp only [Option.bind_some]
    split at h
    · cases h
    · rename_i d hni hu
      simp only [Option.some.injEq, Prod.mk.injEq, and_true] at h
      subst h
      cases d <;> first | rfl | exact absurd rfl (hni _)
    · cases h
  case makeFunc =>
    obtain ⟨z, hz, h⟩ := Option.bind_eq_some_iff.1 h; obtain ⟨z', hz', h⟩ := Option.bind_eq_some_iff.1 h
    rw [hz, Option.bind_some, hz']
    simp only [Option.some.injEq, Prod.mk.injEq, and_true] at h
    subst h; rfl
  case fieldAddr => obtain ⟨z, hz, h⟩ := Option.bind_eq_some_iff.1 h; rw [hz]; exact key h
  case field => obtain ⟨z, hz, h⟩ := Option.bind_eq_some_iff.1 h; rw [hz]; exact key h
  case indexAddr => obtain ⟨z, hz, h⟩ := Option.bind_eq_some_iff.1 h; obtain ⟨z', hz', h⟩ := Option.bind_eq_some_iff.1 h; rw [hz, Option.bind_some, hz']; exact key h
  case index => obtain ⟨z, hz, h⟩ := Option.bind_eq_some_iff.1 h; obtain ⟨z', hz', h⟩ := Option.bind_eq_some_iff.1 h; rw [hz, Option.bind_some, hz']; exact key h
  case typeAssert => obtain ⟨z, hz, h⟩ := Option.bind_eq_some_iff.1 h; rw [hz]; exact key h
  case extract =>
    obtain ⟨z, hz, h⟩ := Option.bind_eq_some_iff.1 h
    rw [hz]; simp only [Option.bind_some]
    split at h
    · exact key h
    · cases h

abbrev Pend := List (Nat × Oper × List AV × AV)

def pendOk (P : Program) (ops : Array Oper) (anc : Nat → Nat → Bool) (i : Nat) (H : AH) (pend : Pend) : Prop := ∀ p ∈ pend, anc i p.1 = false → Stills P ops p.2.1 p.2.2.1 H p.2.2.2

def ADraw (P : Program) (r : Option Nat) (ops : Array Oper) (anc : Nat → Nat → Bool) (K : List AV → AH → Prop) : List (Nat × Nat) → Pend → List AV → AH → Prop
  | [], _, T, H => K T H
  | (i, k) :: σ, pend, T, H => ∃ o, ops[i]? = some o ∧
    if k = 2 then (wantedV ops T o = some false ∧ ADraw P r ops anc K σ pend (putT T o.dst .undef) H) ∨
        (wantedV ops T o = some true ∧ AOp P r o T H fun v H' => pendOk P ops anc i H' pend ∧ ADraw P r ops anc K σ pend (putT T o.dst v) H')
    else ∃ v, Stills P ops o T H v ∧ ADraw P r ops anc K σ (if k = 0 then pend else (i, o, T, v) :: pend) (putT T o.dst v) H

def drawOk (md : Region.Mode) (ops : Array Oper) : List (Nat × Nat) → Array Bool → Bool
  | [], listed => (Region.ready md ops listed).isEmpty
  | (i, k) :: σ, listed =>
    (match ops[i]? with
      | none => false
      | some o => if k = 2 then Region.ready md ops listed == [i] else (Region.ready md ops listed).contains i && Region.free md ops listed i && (k != 0 || freeOp o.op)) && drawOk md ops σ (listed.setIfInBounds i true)

theorem ADraw.any (hA : AncOk md ops anc) {K : List AV → AH → Prop} : ∀ {σ : List (Nat × Nat)} {listed : Array Bool} {pend : Pend} {T : List AV} {H : AH}, drawOk md ops σ listed = true → Closed anc listed → ADraw P r ops anc K σ pend T H →
    AAny P r ops md (fun j H' => pendOk P ops anc j H' pend) K σ.length listed T H
  | [], listed, pend, T, H, hd, _, h => ⟨by simpa [drawOk] using hd, h⟩
  | (i, k) :: σ, listed, pend, T, H, hd, hc, h => by
    obtain ⟨o, ho, h⟩ := h
    simp only [drawOk, ho, Bool.and_eq_true] at hd
    obtain ⟨hd, hd'⟩ := hd
    by_cases hk : k = 2
    · rw [if_pos hk] at hd h
      have hr : Region.ready md ops listed = [i] := by simpa using hd
      refine ⟨fun h => (by rw [hr] at h; cases h), fun j hj => ?_⟩
      have hij : j = i := by rw [hr] at hj; simpa using hj
      subst hij
      have hc' := hc.list hA hj
      unfold AStep; rw [ho]
      rcases h with ⟨hw, h⟩ | ⟨hw, h⟩
      · exact .inl ⟨.undef, .inl ⟨hw, rfl⟩, ADraw.any hA hd' hc' h⟩
      · exact .inr ⟨hw, h.mono fun v H' hv => ⟨hv.1, ADraw.any hA hd' hc' hv.2⟩⟩
    · rw [if_neg hk] at hd h
      simp only [Bool.and_eq_true] at hd
      obtain ⟨⟨hr, hf⟩, hfree⟩ := hd
      obtain ⟨v, hv, h⟩ := h
      have hr' : i ∈ Region.ready md ops listed := by simpa using hr
      refine AAny.first hA (T₀ := T) ho σ.length _ listed T H hc (Region.free_spec ho hf) hr' (fun _ => Iff.rfl) hv ?_
      refine AAny.mono (fun j H' hp => ?_) (ADraw.any hA hd' (hc.list hA hr') h)
      by_cases h0 : k = 0
      · rw [if_pos h0] at hp
        refine ⟨hp, fun _ => ?_⟩
        rcases hv with ⟨hw, e⟩ | ⟨hw, e⟩
        · exact .inl ⟨hw, e⟩
        · exact .inr ⟨hw, freeOp_spec (by simpa [h0] using hfree) e⟩
      · rw [if_neg h0] at hp
        exact ⟨fun p hp' => hp p (List.mem_cons_of_mem _ hp'), hp (i, o, T, v) (by simp)⟩

theorem AAny.sim {R : Nat → AH → Prop} {K : List AV → AH → Prop} {B : Bnd} {M : List Mk} {rc : Option Nat} {Qc : Exit → Act → World → Prop} : ∀ {fuel : Nat} {listed : Array Bool} {T : List AV} {H : AH} {E : Env} {a : Act} {w : World},
    AAny P r ops md R K fuel listed T H → HR P E B H w → VRs E T a.tmps.toList → MR B.D E M a.defers → RR E r rc →
    (∀ T' H' E' a' w', K T' H' → E.le E' → HR P E' B H' w' → VRs E' T' a'.tmps.toList → MR B.D E' M a'.defers → Below B w w' → Qc .normal a' w') → wpAnyIn (Fr rc) 0 P md ops Qc fuel listed a w
  | 0, listed, T, H, E, a, w, h, hH, hT, hM, hr, hq => ⟨h.1, hq T H E a w h.2 (Env.le.refl E) hH hT hM (Below.refl B w)⟩
  | fuel + 1, listed, T, H, E, a, w, h, hH, hT, hM, hr, hq => by
    refine ⟨fun h0 => hq T H E a w (h.1 h0) (Env.le.refl E) hH hT hM (Below.refl B w), fun i hi => ?_⟩
    have hs := h.2 i hi
    unfold AStep at hs
    unfold wpOpIn
    cases ho : ops[i]? with
    | none =>
      rw [ho] at hs
      exact AAny.sim hs hH hT hM hr hq
    | some o =>
      rw [ho] at hs
      have step : ∀ {K' : AV → AH → Prop}, wantedV ops T o = some true → AOp P r o T H K' → (∀ v H', K' v H' → AAny P r ops md R K fuel (listed.setIfInBounds i true) (putT T o.dst v) H') →
          (if Region.wanted o (yielded ops a.tmps) then o.wpIn (Fr rc) 0 P a w (wpAnyIn (Fr rc) 0 P md ops Qc fuel (listed.setIfInBounds i true)) Qc
            else (∀ f, o.about P w a.eval = some f → (Fr rc).fn f) ∧ wpAnyIn (Fr rc) 0 P md ops Qc fuel (listed.setIfInBounds i true) (a.put o.dst undef) w) := by
        intro K' hw hop hK
        rw [if_pos (wanted_sim (a := a) hT hw)]
        refine hop E B w a rc _ Qc hH (OpsOk.of hH hT _) hr ?_
        intro v H' E' w' x hk hE hH' hv hb
        exact AAny.sim (hK v H' hk) hH' ((VRs.mono hE _ _ hT).put o.dst hv) (by rw [put_defers]; exact hM.mono hE) (hr.mono hE)
          fun T' H'' E'' a' w'' hk' hE' h1 h2 h3 h4 => hq T' H'' E'' a' w'' hk' (hE.trans hE') h1 h2 h3 (hb.trans h4)
      rcases hs with ⟨v, ⟨hw, rfl⟩ | ⟨hw, hv⟩, hk⟩ | ⟨hw, hop⟩
      · simp only [wanted_sim (a := a) hT hw, Bool.false_eq_true, if_false]
        refine ⟨fun _ _ => trivial, ?_⟩
        exact AAny.sim hk hH (hT.put o.dst (v := .undef) (x := undef) ⟨#[], rfl, rfl⟩) (by rw [put_defers]; exact hM) hr hq
      · exact step (K' := fun v' H' => v' = v ∧ H' = H) hw (AOp.of_opV hv ⟨rfl, rfl⟩) (by rintro _ _ ⟨rfl, rfl⟩; exact hk)
      · exact step hw hop fun v H' h => h.2

theorem AWp.draw {id : Nat} {σ : List (Nat × Nat)} {Q : AEx → St → Prop} {s : St} (hm : P.follows .mixedOrders = true) (hA : AncOk .any ops anc) (hd : drawOk .any ops σ (Array.replicate ops.size false) = true) (hl : σ.length = ops.size)
    (h : ADraw P r ops anc (fun T H => Q .normal ⟨T, s.M, H⟩) σ [] s.T s.H) : AWp P r (.region id ops true) Q s := by
  intro E B w a rc hs hr
  have hc : Closed anc (Array.replicate ops.size false) := fun j i hj _ => by
    exfalso
    rcases Nat.lt_or_ge j ops.size with h' | h' <;> simp [h'] at hj
  have hb0 : Below B w { w with drawn := w.drawn + 1 } := ⟨rfl, rfl, rfl, Nat.le_refl _, fun _ _ => rfl⟩
  refine wpIn_region_any hm ?_
  rw [← hl]
  rw [← hl] at hd hc
  refine (h.any hA hd hc).sim (hs.heap.world rfl) hs.tmps hs.marks hr ?_
  intro T' H' E' a' w' hq hE h1 h2 h3 h4
  exact ⟨.normal, ⟨T', s.M, H'⟩, E', rfl, hq, hE, ⟨h1, h2, h3⟩, hb0.trans h4⟩

/-! ### The table of what stands before what -/

def ancOf (A : List Nat) (j i : Nat) : Bool := (A[j]?.getD 0).testBit i

def ancB (md : Region.Mode) (ops : Array Oper) (A : List Nat) : Bool :=
  (List.range ops.size).all fun j =>
    match ops[j]? with
    | none => true
    | some o => (A[j]?.getD 0) == o.after.toList.foldl (fun m e => if Region.binds md e then m ||| ((1 <<< e.on) ||| (A[e.on]?.getD 0)) else m) 0

theorem ancB_spec {A : List Nat} (h : ancB md ops A = true) : AncOk md ops (ancOf A) := by
  intro j o ho i hi
  have hj : j < ops.size := (Array.getElem?_eq_some_iff.1 ho).1
  have := List.all_eq_true.1 h j (List.mem_range.2 hj)
  simp only [ho, beq_iff_eq] at this
  unfold ancOf at hi
  rw [this] at hi
  have key : ∀ (l : List Edge) (m : Nat), (l.foldl (fun m e => if Region.binds md e then m ||| ((1 <<< e.on) ||| (A[e.on]?.getD 0)) else m) m).testBit i = true →
      m.testBit i = true ∨ ∃ e ∈ l, Region.binds md e = true ∧ (e.on = i ∨ ancOf A e.on i = true) := by
    intro l
    induction l with
    | nil => intro m h; exact .inl h
    | cons e l ih =>
      intro m h
      rcases ih _ h with h | ⟨e', he', h⟩
      · simp only [] at h
        split at h
        · rename_i hb
          rw [Nat.testBit_or, Nat.testBit_or] at h
          simp only [Bool.or_eq_true] at h
          rcases h with h | h | h
          · exact .inl h
          · refine .inr ⟨e, by simp, hb, .inl ?_⟩
            rw [Nat.one_shiftLeft, Nat.testBit_two_pow] at h
            simpa using h
          · exact .inr ⟨e, by simp, hb, .inr h⟩
        · exact .inl h
      · exact .inr ⟨e', by simp [he'], h⟩
  rcases key _ _ hi with h | ⟨e, he, h⟩
  · simp at h
  · exact ⟨e, by simpa using he, h⟩

end
end Go.Am
end

/- The abstract machine: allocations that nothing stands before float over a region's other operations; they are hidden until the others are through. -/
section
namespace Go.Am
open Go.RowKit

def Bnd.hid (B : Bnd) (p : Nat → Prop) : Bnd := ⟨fun k => B.on k ∨ p k, B.D⟩

section
variable {P : Program} {E : Env} {B B' : Bnd} {H : AH} {w w' : World}

theorem OR.bnd {L : Loc} {o : AObj} (h : OR P E B w L o) (k : o.owns = true → ¬ B L.blk → ¬ B' L.blk) : OR P E B' w L o := by
  cases o with
  | cells cs e fl =>
    obtain ⟨X, lo, hi, h1, h2, h3, h4, h5, h6, h7⟩ := h
    exact ⟨X, lo, hi, h1, h2, h3, h4, h5, fun ho => ⟨k ho (h6 ho).1, (h6 ho).2⟩, h7⟩
  | dead => trivial
  | iter s pos => exact ⟨h.1, k rfl h.2.1, h.2.2⟩
  | loop st pe T ps as bd d =>
    obtain ⟨fn, tmps, Ld, h1, h2, h3, h4⟩ := h
    exact ⟨fn, tmps, Ld, h1, h2, h3, k rfl h4⟩
  | deferred => exact ⟨h.1, k rfl h.2⟩
  | map es c => obtain ⟨mes, h1, h2, h3⟩ := h; exact ⟨mes, h1, h2, k rfl h3⟩

theorem OR.off {L : Loc} {o : AObj} (h : OR P E B w L o) (ho : o.owns = true) : ¬ B L.blk := by
  cases o with
  | cells cs e fl => obtain ⟨X, lo, hi, h1, h2, h3, h4, h5, h6, h7⟩ := h; exact (h6 ho).1
  | dead => cases ho
  | iter s pos => exact h.2.1
  | loop st pe T ps as bd d => obtain ⟨fn, tmps, Ld, h1, h2, h3, h4⟩ := h; exact h4
  | deferred => exact h.2
  | map es c => obtain ⟨mes, h1, h2, h3⟩ := h; exact h3

theorem HR.fewer (h : HR P E B H w) (k : ∀ x, B' x → B x) : HR P E B' H w :=
  ⟨h.dom, fun b o hb => by obtain ⟨L, hL, ho⟩ := h.obj b o hb; exact ⟨L, hL, ho.bnd fun _ n hx => n (k _ hx)⟩, fun x hx => h.base x (k x hx), h.glob, h.sep⟩

theorem Below.fewer (h : Below B w w') (k : ∀ x, B' x → B x) : Below B' w w' := ⟨h.os, h.tape, h.output, h.size, fun x hx => h.block x (k x hx)⟩

theorem HR.hide (h : HR P E B H w) (k : ∀ x, B' x → B x ∨ x = w.heap.size) (o : Obj) : HR P E B' H (w.alloc o) := by
  refine ⟨h.dom, fun b x hb => ?_, fun x hx => ?_, h.glob, h.sep⟩
  · obtain ⟨L, hL, ho⟩ := h.obj b x hb
    refine ⟨L, hL, ?_⟩
    by_cases hl : x.live = true
    · have hlt := ho.blk_lt hl
      exact (ho.same (Env.le.refl E) (Below.heap_alloc _ _ _ hlt)).bnd fun _ n hx => (k _ hx).elim n fun e => by omega
    · cases x <;> first | trivial | exact absurd rfl hl
  · rcases k x hx with hx | rfl
    · have := h.base x hx; simp; omega
    · simp

theorem HR.late (h : HR P E B H w) {blk : Nat} {cs : List AV} {e : TypeId} {X : Array Value} (hw : w.heap[blk]? = some (.cells X e (0, 0))) (hX : ∀ E, VRs E cs X.toList) (hone : ∀ v ∈ cs, v.one = true)
    (hb : B blk) (hB : ∀ x, B' x → B x) (hb' : ¬ B' blk) (hlate : ∀ b o L, H.get b = some o → o.owns = false → o.live = true → E b = some L → L.blk ≠ blk) :
    HR P (E.put H.n ⟨blk, 0, cs.length, P.cellsOf e, 0⟩) B' (H.alloc (.cells cs e { whole := true })) w := by
  have hle := h.put_le ⟨blk, 0, cs.length, P.cellsOf e, 0⟩
  have hne : ∀ b o L, H.get b = some o → o.live = true → E b = some L → L.blk ≠ blk := by
    intro b o L hg hl hL
    by_cases ho : o.owns = true
    · obtain ⟨M, hM, hor⟩ := h.obj b o hg
      rw [hL] at hM; cases hM
      intro e; exact hor.off ho (e ▸ hb)
    · exact hlate b o L hg (by simpa using ho) hl hL
  refine ⟨fun b M hb => ?_, fun b x hx => ?_, fun x hx => h.base x (hB x hx), fun g hg => by obtain ⟨M, h1, h2⟩ := h.glob g hg; exact ⟨M, hle _ _ h1, h2⟩, fun b b' x x' M M' hnb hx hx' hown hlive hM hM' => ?_⟩
  · unfold Env.put at hb
    by_cases e : b = H.n
    · subst e; simp
    · rw [if_neg e] at hb; have := h.dom _ _ hb; simp; omega
  · rw [AH.get_alloc] at hx
    by_cases e' : b = H.n
    · subst e'
      rw [if_pos rfl] at hx; cases hx
      refine ⟨_, put_get _ _, X, 0, 0, hw, rfl, rfl, ?_, ?_, fun _ => ⟨hb', fun k _ _ hk => by omega, fun _ => .inl rfl⟩, fun _ => rfl, hone, fun _ => ⟨rfl, ?_, fun _ _ => rfl⟩⟩
      · have := (hX E).length; simp at this ⊢; omega
      · have := (hX (E.put H.n ⟨blk, 0, cs.length, P.cellsOf e, 0⟩)); have hl := this.length; rw [List.drop_zero, List.take_of_length_le (by omega)]; exact this
      · have := (hX E).length; simp at this; omega
    · rw [if_neg e'] at hx
      obtain ⟨M, hM, ho⟩ := h.obj b x hx
      exact ⟨M, hle _ _ hM, (ho.same hle rfl).bnd fun _ n hx => n (hB _ hx)⟩
  · rw [AH.get_alloc] at hx hx'
    unfold Env.put at hM hM'
    by_cases e : b = H.n
    · rw [if_pos e] at hx hM
      rw [if_neg (fun e' => hnb (e.trans e'.symm))] at hx' hM'
      cases hM
      exact fun e => hne b' x' M' hx' hlive hM' e.symm
    · rw [if_neg e] at hx hM
      by_cases e' : b' = H.n
      · rw [if_pos e'] at hx' hM'
        cases hM'
        exact hne b x M hx (by cases x <;> simp_all [AObj.owns, AObj.live]) hM
      · rw [if_neg e'] at hx' hM'
        exact h.sep b b' x x' M M' hnb hx hx' hown hlive hM hM'

theorem run_alloc_same {e : TypeId} {z : AV} (hz : zeroOf P e = some z) : ∃ X : Array Value, (∀ E, VRs E z.cells X.toList) ∧ ∀ w, (Instr.alloc e true (.tuple #[])).run P w = .ok (.pointer (some ⟨w.heap.size, 0, none⟩)) (w.alloc (.cells X e (0, 0))) := by
  unfold zeroOf at hz
  obtain ⟨i, hi, hz'⟩ := Option.bind_eq_some_iff.1 hz
  obtain ⟨x, hx, hz'⟩ := Option.bind_eq_some_iff.1 hz'
  refine ⟨x.cells, fun E => (VR.of _ _ hz').cells (zeroOf_notAny hz), fun w => ?_⟩
  simp [Instr.alloc, zeroValue, typeInfo, hi, hx, newVar, newRow]

theorem VRs.unset : ∀ {xs : List AV} {ys : List Value} (d : Nat), VRs E xs ys → VRs E (xs.set d .any) ys
  | [], _, _, h => h
  | x :: xs, _, d, h => by
    obtain ⟨y, ys, rfl, h1, h2⟩ := h
    cases d with
    | zero => exact ⟨y, ys, rfl, trivial, h2⟩
    | succ d => exact ⟨y, ys, rfl, h1, VRs.unset d h2⟩
end

structure Flt where
  i : Nat
  d : Nat
  e : TypeId
  deriving DecidableEq

def isF (fls : List Flt) (i : Nat) : Bool := fls.any fun q => q.i == i

theorem isF_true {fls : List Flt} {i : Nat} : isF fls i = true ↔ ∃ q ∈ fls, q.i = i := by simp [isF]
theorem isF_false {fls : List Flt} {i : Nat} : isF fls i = false ↔ ∀ q ∈ fls, q.i ≠ i := by simp [isF]

def zc (P : Program) (e : TypeId) : List AV :=
  match zeroOf P e with
  | some z => z.cells
  | none => []

def Flt.Ok (P : Program) (md : Region.Mode) (ops : Array Oper) (q : Flt) : Prop :=
  ∃ ty pos after z, ops[q.i]? = some ⟨some q.d, .alloc q.e, ty, pos, after, none⟩ ∧ (∀ e ∈ after, Region.binds md e = false) ∧ zeroOf P q.e = some z ∧ z.cells.all AV.one = true

structure FltSys (P : Program) (md : Region.Mode) (ops : Array Oper) (n : Nat) (fls : List Flt) : Prop where
  le : n ≤ ops.size
  flt : ∀ q ∈ fls, q.i < n ∧ q.Ok P md ops
  inj : ∀ q ∈ fls, ∀ q' ∈ fls, q = q' ∨ (q.i ≠ q'.i ∧ q.d ≠ q'.d)
  nodup : fls.Nodup
  x : ∀ i, i < n → isF fls i = false → ∀ o, ops[i]? = some o → (∀ e ∈ o.after, Region.binds md e = true → e.on < i) ∧ (∀ g, o.guard = some g → g.1 < n) ∧ ∀ q ∈ fls, o.dst ≠ some q.d
  y : ∀ i, n ≤ i → ∀ o, ops[i]? = some o → ∀ j, j < n → ∃ e ∈ o.after, Region.binds md e = true ∧ e.on = j

def anyT : List Flt → List AV → List AV
  | [], T => T
  | q :: l, T => anyT l (putT T (some q.d) .any)

def lateX (P : Program) : List Flt → List AV → AH → List AV × AH
  | [], T, H => (T, H)
  | q :: l, T, H => lateX P l (putT T (some q.d) (.ptr (some (H.n, 0)))) (H.alloc (.cells (zc P q.e) q.e { whole := true }))

theorem anyT_sim {E : Env} {X : List Value} : ∀ (l : List Flt) {T : List AV}, VRs E T X → VRs E (anyT l T) X
  | [], _, h => h
  | q :: l, _, h => anyT_sim l (h.unset q.d)

theorem anyT_set : ∀ (l : List Flt) (T : List AV) (d : Nat), (anyT l T).set d .any = anyT l (T.set d .any)
  | [], _, _ => rfl
  | q :: l, T, d => by
    simp only [anyT, putT, anyT_set l]
    by_cases h : q.d = d
    · rw [h]
    · rw [List.set_comm _ _ h]

theorem anyT_any : ∀ {l : List Flt} {T : List AV} {q : Flt}, q ∈ l → (anyT l T).set q.d .any = anyT l T
  | p :: l, T, q, h => by
    rcases List.mem_cons.1 h with rfl | h
    · simp only [anyT, putT, anyT_set, List.set_set]
    · exact anyT_any (l := l) (T := putT T (some p.d) .any) h

structure FltAt (P : Program) (B : Bnd) (S : Nat) (fls : List Flt) (listed : Array Bool) (hb : Nat → Nat) (T : List AV) (a : Act) (w : World) : Prop where
  any : ∀ q ∈ fls, T.set q.d .any = T
  laid : ∀ q ∈ fls, listed.getD q.i false = true → ¬ B (hb q.i) ∧ S ≤ hb q.i ∧ a.tmps.toList.set q.d (.pointer (some ⟨hb q.i, 0, none⟩)) = a.tmps.toList ∧
    ∃ X, w.heap[hb q.i]? = some (.cells X q.e (0, 0)) ∧ ∀ E, VRs E (zc P q.e) X.toList
  inj : ∀ q ∈ fls, ∀ q' ∈ fls, listed.getD q.i false = true → listed.getD q'.i false = true → hb q.i = hb q'.i → q.i = q'.i
  size : S ≤ w.heap.size

def Hid (fls : List Flt) (listed : Array Bool) (hb : Nat → Nat) (k : Nat) : Prop := ∃ q ∈ fls, listed.getD q.i false = true ∧ hb q.i = k

def LateOk (H₀ H : AH) : Prop := ∀ b o, H.get b = some o → o.owns = true ∨ o.live = false ∨ ∃ o₀, H₀.get b = some o₀ ∧ o₀.live = true

theorem lateX_sim {P : Program} {B : Bnd} {S : Nat} {hb : Nat → Nat} {w : World} {a : Act} : ∀ (l : List Flt) {T : List AV} {H : AH} {E : Env}, (∀ q ∈ l, ∀ v ∈ zc P q.e, v.one = true) →
    l.Pairwise (fun q q' => hb q.i ≠ hb q'.i) →
    (∀ q ∈ l, ¬ B (hb q.i) ∧ S ≤ hb q.i ∧ a.tmps.toList.set q.d (.pointer (some ⟨hb q.i, 0, none⟩)) = a.tmps.toList ∧ ∃ X, w.heap[hb q.i]? = some (.cells X q.e (0, 0)) ∧ ∀ E, VRs E (zc P q.e) X.toList) →
    (∀ b o L, H.get b = some o → o.owns = false → o.live = true → E b = some L → L.blk < S) →
    HR P E (B.hid fun k => ∃ q ∈ l, hb q.i = k) H w → VRs E T a.tmps.toList → ∃ E', E.le E' ∧ HR P E' B (lateX P l T H).2 w ∧ VRs E' (lateX P l T H).1 a.tmps.toList
  | [], T, H, E, _, _, _, _, hH, hT => ⟨E, Env.le.refl E, hH.fewer fun _ hx => .inl hx, hT⟩
  | q :: l, T, H, E, hone, hp, hq, hS, hH, hT => by
    obtain ⟨q1, q2, q3, X, q4, q5⟩ := hq q (by simp)
    have hp' := List.pairwise_cons.1 hp
    have hH' := hH.late (B' := B.hid fun k => ∃ q ∈ l, hb q.i = k) q4 q5 (hone q (by simp)) (.inr ⟨q, by simp, rfl⟩)
      (fun x hx => hx.imp id fun ⟨p, hp, hx⟩ => ⟨p, by simp [hp], hx⟩)
      (fun hx => hx.elim q1 fun ⟨p, hp, hx⟩ => hp'.1 p hp hx.symm)
      (fun b o L h1 h2 h3 h4 e => by have := hS b o L h1 h2 h3 h4; omega)
    have hle := hH.put_le ⟨hb q.i, 0, (zc P q.e).length, P.cellsOf q.e, 0⟩
    have hT' : VRs (E.put H.n ⟨hb q.i, 0, (zc P q.e).length, P.cellsOf q.e, 0⟩) (T.set q.d (.ptr (some (H.n, 0)))) a.tmps.toList := by
      rw [← q3]
      exact (VRs.mono hle _ _ hT).set q.d ⟨_, put_get _ _, rfl⟩
    obtain ⟨E', k1, k2, k3⟩ := lateX_sim l (fun p hp => hone p (by simp [hp])) hp'.2 (fun p hp => hq p (by simp [hp])) (fun b o L h1 h2 h3 h4 => by
      rw [AH.get_alloc] at h1
      by_cases e : b = H.n
      · rw [if_pos e] at h1; cases h1; cases h2
      · rw [if_neg e] at h1
        unfold Env.put at h4
        rw [if_neg e] at h4
        exact hS b o L h1 h2 h3 h4) hH' hT'
    exact ⟨E', hle.trans k1, k2, k3⟩

def doneTo (s n : Nat) : Array Bool := ((List.range s).map fun i => decide (i < n)).toArray

theorem doneTo_getD (s n i : Nat) (d : Bool) (h : i < s) : (doneTo s n).getD i d = decide (i < n) := by
  simp [doneTo, Array.getD_eq_getD_getElem?, h]

theorem getD_any {l : Array Bool} {i : Nat} (d d' : Bool) (h : i < l.size) : l.getD i d = l.getD i d' := by
  simp [Array.getD_eq_getD_getElem?, h]

theorem first_open (listed : Array Bool) : ∀ n, (∀ i, i < n → listed.getD i false = true) ∨ ∃ i, i < n ∧ listed.getD i false = false ∧ ∀ j, j < i → listed.getD j false = true
  | 0 => .inl fun i h => by omega
  | n + 1 => by
    rcases first_open listed n with h | ⟨i, h1, h2⟩
    · cases hn : listed.getD n false with
      | true =>
        refine .inl fun i hi => ?_
        rcases Nat.lt_succ_iff_lt_or_eq.1 hi with h' | rfl
        · exact h i h'
        · exact hn
      | false => exact .inr ⟨n, by omega, hn, h⟩
    · exact .inr ⟨i, by omega, h2⟩

theorem count_list {l : Array Bool} {i f : Nat} (h : l.getD i true = false) (hc : l.toList.count false = f) : ∃ f', f = f' + 1 ∧ (l.setIfInBounds i true).toList.count false = f' := by
  have hi : i < l.size := by
    rcases Nat.lt_or_ge i l.size with h' | h'
    · exact h'
    · simp [Array.getD_eq_getD_getElem?, h'] at h
  have hg : l.toList[i]'(by simpa using hi) = false := by simpa [Array.getD_eq_getD_getElem?, hi] using h
  have hpos : 0 < l.toList.count false := List.count_pos_iff.2 (hg ▸ List.getElem_mem _)
  refine ⟨f - 1, by omega, ?_⟩
  rw [Array.toList_setIfInBounds, List.count_set (by simpa using hi), hg, if_pos (by decide), if_neg (by decide)]
  omega

section
variable {P : Program} {r : Option Nat} {md : Region.Mode} {ops : Array Oper} {n : Nat} {fls : List Flt}

theorem wantedV_front {T : List AV} {o : Oper} (h : ∀ g, o.guard = some g → g.1 < n) : wantedV (ops.extract 0 n) T o = wantedV ops T o := by
  unfold wantedV
  cases hg : o.guard with
  | none => rfl
  | some g =>
    obtain ⟨j, want⟩ := g
    have hj : j < n := h _ hg
    have : (ops.extract 0 n)[j]? = ops[j]? := by
      rw [Array.getElem?_extract]
      by_cases hs : j < ops.size
      · rw [if_pos (by omega)]; simp
      · rw [if_neg (by omega)]; simp; omega
    simp only [this]

structure Both (ops : Array Oper) (n : Nat) (fls : List Flt) (listed l1 : Array Bool) : Prop where
  s : listed.size = ops.size
  s1 : l1.size = n
  back : ∀ i, n ≤ i → listed.getD i false = false
  front : ∀ i, i < n → l1.getD i true = (isF fls i || listed.getD i true)

theorem Both.stepX {listed l1 : Array Bool} (h : Both ops n fls listed l1) {i : Nat} (hi : i < n) : Both ops n fls (listed.setIfInBounds i true) (l1.setIfInBounds i true) := by
  refine ⟨by simp [h.s], by simp [h.s1], fun j hj => ?_, fun j hj => ?_⟩
  · rw [getD_set_ne false (by omega)]; exact h.back j hj
  · by_cases e : i = j
    · subst e
      have h1 : i < l1.size := by rw [h.s1]; exact hi
      rw [show (l1.setIfInBounds i true).getD i true = true by simp [Array.getD_eq_getD_getElem?, h1]]
      rcases Nat.lt_or_ge i listed.size with h2 | h2 <;> simp [Array.getD_eq_getD_getElem?, h2]
    · rw [getD_set_ne true e, getD_set_ne true e]; exact h.front j hj

theorem Both.stepF {listed l1 : Array Bool} (h : Both ops n fls listed l1) {i : Nat} (hi : i < n) (hf : isF fls i = true) : Both ops n fls (listed.setIfInBounds i true) l1 := by
  refine ⟨by simp [h.s], h.s1, fun j hj => ?_, fun j hj => ?_⟩
  · rw [getD_set_ne false (by omega)]; exact h.back j hj
  · by_cases e : i = j
    · subst e
      rw [h.front i hj, hf]; rfl
    · rw [getD_set_ne true e]; exact h.front j hj

theorem doneTo_count (n : Nat) : ∀ s, (doneTo s n).toList.count false = s - n
  | 0 => by simp [doneTo]
  | s + 1 => by
    have ih := doneTo_count n s
    simp only [doneTo] at ih ⊢
    rw [List.range_succ, List.map_append, List.count_append, ih]
    by_cases h : s < n
    · simp [h]; omega
    · simp [h]; omega

theorem extract_get {i : Nat} (h : i < n) : (ops.extract 0 n)[i]? = ops[i]? := by
  rw [Array.getElem?_extract]
  by_cases hs : i < ops.size
  · rw [if_pos (by omega)]; simp
  · rw [if_neg (by omega)]; simp; omega

theorem FltSys.hone (hs : FltSys P md ops n fls) : ∀ q ∈ fls, ∀ v ∈ zc P q.e, v.one = true := by
  intro q hq v hv
  obtain ⟨-, ty, pos, after, z, e1, e2, e3, e4⟩ := hs.flt q hq
  simp only [zc, e3] at hv
  exact List.all_eq_true.1 e4 v hv

theorem AAny.float {R : Nat → AH → Prop} {K₁ : List AV → AH → Prop} {B : Bnd} {M : List Mk} {rc : Option Nat} {Qc : Exit → Act → World → Prop} {S : Nat} {E₀ : Env} {H₀ : AH} {m : Nat} (hs : FltSys P md ops n fls) (hm : m = ops.size - n)
    (hS : ∀ b o₀, H₀.get b = some o₀ → o₀.live = true → ∃ L, E₀ b = some L ∧ L.blk < S) (hK : ∀ T H, K₁ T H → LateOk H₀ H) :
    ∀ {fuel : Nat} {listed l1 : Array Bool} {f1 : Nat} {T : List AV} {H : AH} {E : Env} {a : Act} {w : World} {hb : Nat → Nat}, listed.toList.count false = fuel → Both ops n fls listed l1 →
    AAny P r (ops.extract 0 n) md R K₁ f1 l1 T H → HR P E (B.hid (Hid fls listed hb)) H w → VRs E T a.tmps.toList → MR B.D E M a.defers → RR E r rc → FltAt P B S fls listed hb T a w → E₀.le E →
    (∀ T' H' E' a' w', K₁ T' H' → E.le E' → HR P E' B (lateX P fls T' H').2 w' → VRs E' (lateX P fls T' H').1 a'.tmps.toList → MR B.D E' M a'.defers → Below B w w' → wpAnyIn (Fr rc) 0 P md ops Qc m (doneTo ops.size n) a' w') →
    wpAnyIn (Fr rc) 0 P md ops Qc fuel listed a w := by
  have done : ∀ {fuel : Nat} {listed l1 : Array Bool} {f1 : Nat} {T : List AV} {H : AH} {E : Env} {a : Act} {w : World} {hb : Nat → Nat}, listed.toList.count false = fuel → Both ops n fls listed l1 →
    AAny P r (ops.extract 0 n) md R K₁ f1 l1 T H → HR P E (B.hid (Hid fls listed hb)) H w → VRs E T a.tmps.toList → MR B.D E M a.defers → FltAt P B S fls listed hb T a w → E₀.le E →
    (∀ T' H' E' a' w', K₁ T' H' → E.le E' → HR P E' B (lateX P fls T' H').2 w' → VRs E' (lateX P fls T' H').1 a'.tmps.toList → MR B.D E' M a'.defers → Below B w w' → wpAnyIn (Fr rc) 0 P md ops Qc m (doneTo ops.size n) a' w') →
    (∀ i, i < n → listed.getD i false = true) → wpAnyIn (Fr rc) 0 P md ops Qc fuel listed a w := by
    intro fuel listed l1 f1 T H E a w hb hc hB h hH hT hM hF hE hq hall
    have hl : listed = doneTo ops.size n := by
      apply Array.ext
      · simp [hB.s, doneTo]
      · intro i h1 h2
        have hi : i < ops.size := by rw [← hB.s]; exact h1
        have e1 : listed.getD i false = listed[i] := by simp [Array.getD_eq_getD_getElem?, h1]
        have e2 : (doneTo ops.size n).getD i false = (doneTo ops.size n)[i] := by simp [Array.getD_eq_getD_getElem?, h2]
        rw [← e1, ← e2, doneTo_getD _ _ _ _ hi]
        by_cases hn : i < n
        · simp only [hn, decide_true]; exact hall i hn
        · simp only [hn, decide_false]; exact hB.back i (by omega)
    have hfuel : fuel = m := by rw [← hc, hl, doneTo_count, hm]
    have hr0 : Region.ready md (ops.extract 0 n) l1 = [] := by
      cases hr : Region.ready md (ops.extract 0 n) l1 with
      | nil => rfl
      | cons j js =>
        exfalso
        obtain ⟨j0, o, ho, _⟩ := mem_ready.1 (show j ∈ Region.ready md (ops.extract 0 n) l1 by rw [hr]; simp)
        have hj : j < n := by have := (Array.getElem?_eq_some_iff.1 ho).1; simp at this; omega
        have hjs : j < listed.size := by rw [hB.s]; have := hs.le; omega
        rw [hB.front j hj, getD_any true false hjs, hall j hj] at j0
        simp at j0
    have hK1 : K₁ T H := by
      cases f1 with
      | zero => exact h.2
      | succ f1 => exact h.1 hr0
    have hlist : ∀ q ∈ fls, listed.getD q.i false = true := fun q hq => hall _ (hs.flt q hq).1
    obtain ⟨E', k1, k2, k3⟩ := lateX_sim (P := P) (B := B) (S := S) (hb := hb) (w := w) (a := a) fls (T := T) (H := H) (E := E) hs.hone
      (hs.nodup.imp_of_mem fun {q q'} h1 h2 hne e => hne ((hs.inj q h1 q' h2).resolve_right fun h => h.1 (hF.inj q h1 q' h2 (hlist q h1) (hlist q' h2) e)))
      (fun q hq => hF.laid q hq (hlist q hq))
      (fun b o L h1 h2 h3 h4 => by
        rcases hK T H hK1 b o h1 with h | h | ⟨o₀, h5, h6⟩
        · rw [h] at h2; cases h2
        · rw [h] at h3; cases h3
        · obtain ⟨L₀, h7, h8⟩ := hS b o₀ h5 h6
          have := hE _ _ h7
          rw [this] at h4; cases h4; exact h8)
      (hH.fewer fun x hx => hx.imp id fun ⟨q, h1, h2⟩ => ⟨q, h1, hlist q h1, h2⟩) hT
    rw [hfuel, hl]
    exact hq T H E' a w hK1 k1 k2 k3 (hM.mono k1) (Below.refl B w)
  intro fuel
  induction fuel with
  | zero =>
    intro listed l1 f1 T H E a w hb hc hB h hH hT hM hr hF hE hq
    rcases first_open listed n with hall | ⟨i0, hi0, ho0, hlow⟩
    · exact done hc hB h hH hT hM hF hE hq hall
    · exfalso
      have : i0 < listed.size := by rw [hB.s]; have := hs.le; omega
      obtain ⟨f', hf', _⟩ := count_list (by rw [getD_any true false this]; exact ho0) hc
      omega
  | succ fuel ih =>
    intro listed l1 f1 T H E a w hb hc hB h hH hT hM hr hF hE hq
    rcases first_open listed n with hall | ⟨i0, hi0, ho0, hlow⟩
    · exact done hc hB h hH hT hM hF hE hq hall
    have hz0 : i0 < listed.size := by rw [hB.s]; have := hs.le; omega
    refine ⟨fun h0 => ?_, fun i hi => ?_⟩
    · exfalso
      have hi0' : i0 < ops.size := by rw [← hB.s]; exact hz0
      have : i0 ∈ Region.ready md ops listed := by
        refine mem_ready.2 ⟨by rw [getD_any true false hz0]; exact ho0, ops[i0], by simp [hi0'], fun e he hbe => ?_⟩
        cases hf : isF fls i0 with
        | true =>
          obtain ⟨q, hq1, rfl⟩ := isF_true.1 hf
          obtain ⟨-, ty, pos, after, z, e1, e2, e3, e4⟩ := hs.flt q hq1
          rw [(Array.getElem?_eq_some_iff.1 e1).2] at he
          rw [e2 e he] at hbe; cases hbe
        | false => exact hlow _ ((hs.x i0 hi0 hf ops[i0] (by simp [hi0'])).1 e he hbe)
      rw [h0] at this; cases this
    · obtain ⟨h1, o, ho, hall⟩ := mem_ready.1 hi
      have hin : i < n := by
        rcases Nat.lt_or_ge i n with h' | h'
        · exact h'
        · exfalso
          obtain ⟨e, he1, he2, he3⟩ := hs.y i h' o ho i0 hi0
          have := hall e he1 he2
          rw [he3, ho0] at this; cases this
      obtain ⟨f', hf', hc'⟩ := count_list h1 hc
      obtain rfl : fuel = f' := by omega
      have hil : i < listed.size := by rw [hB.s]; have := hs.le; omega
      cases hf : isF fls i with
      | true =>
        obtain ⟨q, hq1, rfl⟩ := isF_true.1 hf
        obtain ⟨-, ty, pos, after, z, e1, e2, e3, e4⟩ := hs.flt q hq1
        have hnl : listed.getD q.i false = false := by rw [getD_any false true hil]; exact h1
        obtain ⟨X, x1, x2⟩ := run_alloc_same e3
        unfold wpOpIn
        rw [e1]
        simp only [Region.wanted, if_true]
        refine ⟨fun _ _ => trivial, ?_⟩
        rw [semAt_plain rc _ _ (by simp)]
        have hx : (execOp a.eval ⟨some q.d, .alloc q.e, ty, pos, after, none⟩).run P w = .ok (.value (.pointer (some ⟨w.heap.size, 0, none⟩))) (w.alloc (.cells X q.e (0, 0))) := by
          have he : execOp a.eval ⟨some q.d, .alloc q.e, ty, pos, after, none⟩ = (do pure (.value (← Instr.alloc q.e true (.tuple #[])))) := rfl
          rw [he]; simp [x2]
        rw [hx, Oper.uponIn_value]
        have hbase : ∀ k, B k → k < w.heap.size := fun k hk => hH.base k (.inl hk)
        have hli : ∀ p ∈ fls, p.i ≠ q.i → (listed.setIfInBounds q.i true).getD p.i false = listed.getD p.i false := fun p _ hp => getD_set_ne false (Ne.symm hp)
        have hw : ∀ k, k < w.heap.size → (w.alloc (.cells X q.e (0, 0))).heap[k]? = w.heap[k]? := fun k hk => Below.heap_alloc _ _ _ hk
        refine ih (hb := fun j => if j = q.i then w.heap.size else hb j) hc' (hB.stepF hin hf) h ?_ ?_ (by rw [put_defers]; exact hM) hr ?_ hE ?_
        · refine hH.hide ?_ _
          rintro x (hx | ⟨p, hp, hp1, hp2⟩)
          · exact .inl (.inl hx)
          · simp only at hp2
            by_cases e : p.i = q.i
            · rw [if_pos e] at hp2; exact .inr hp2.symm
            · rw [if_neg e] at hp2; rw [hli p hp e] at hp1; exact .inl (.inr ⟨p, hp, hp1, hp2⟩)
        · have := hT.set (x := .any) (y := .pointer (some ⟨w.heap.size, 0, none⟩)) q.d trivial
          rw [hF.any q hq1] at this
          simpa [Act.put] using this
        · refine ⟨hF.any, fun p hp hp1 => ?_, fun p hp p' hp' k1 k2 k3 => ?_, Nat.le_trans hF.size (by simp)⟩
          · by_cases e : p.i = q.i
            · obtain rfl : p = q := (hs.inj p hp q hq1).resolve_right fun h => h.1 e
              simp only [if_true]
              refine ⟨fun hb => Nat.lt_irrefl _ (hbase _ hb), hF.size, by simp [Act.put], X, by simpa using World.alloc_heap_new w _, ?_⟩
              simp only [zc, e3]; exact x1
            · rw [hli p hp e] at hp1
              simp only [if_neg e]
              obtain ⟨k1, k2, k3, Y, k4, k5⟩ := hF.laid p hp hp1
              refine ⟨k1, k2, ?_, Y, by rw [hw _ (Array.getElem?_eq_some_iff.1 k4).1]; exact k4, k5⟩
              have hd : q.d ≠ p.d := fun e' => (hs.inj p hp q hq1).elim (fun h => e (h ▸ rfl)) fun h => h.2 e'.symm
              simp only [Act.put, Array.toList_setIfInBounds]
              rw [List.set_comm _ _ hd, k3]
          · by_cases e : p.i = q.i
            · by_cases e' : p'.i = q.i
              · rw [e, e']
              · exfalso
                rw [hli p' hp' e'] at k2
                simp only [if_pos e, if_neg e'] at k3
                obtain ⟨_, _, _, Y, k4, _⟩ := hF.laid p' hp' k2
                have := (Array.getElem?_eq_some_iff.1 k4).1; omega
            · by_cases e' : p'.i = q.i
              · exfalso
                rw [hli p hp e] at k1
                simp only [if_pos e', if_neg e] at k3
                obtain ⟨_, _, _, Y, k4, _⟩ := hF.laid p hp k1
                have := (Array.getElem?_eq_some_iff.1 k4).1; omega
              · rw [hli p hp e] at k1; rw [hli p' hp' e'] at k2
                simp only [if_neg e, if_neg e'] at k3
                exact hF.inj p hp p' hp' k1 k2 k3
        · intro T' H' E' a' w' k1 k2 k3 k4 k5 k6
          exact hq T' H' E' a' w' k1 k2 k3 k4 k5 (((Below.refl B w).alloc hbase _).trans k6)
      | false =>
        have hne : ∀ q ∈ fls, q.i ≠ i := isF_false.1 hf
        obtain ⟨x1, x2, x3⟩ := hs.x i hin hf o ho
        have ho1 : (ops.extract 0 n)[i]? = some o := by rw [extract_get hin]; exact ho
        have hi1 : i ∈ Region.ready md (ops.extract 0 n) l1 := by
          refine mem_ready.2 ⟨by rw [hB.front i hin, hf, h1]; rfl, o, ho1, fun e he hbe => ?_⟩
          have hlt := x1 e he hbe
          have := hall e he hbe
          have hz : e.on < listed.size := by omega
          have hz1 : e.on < l1.size := by rw [hB.s1]; omega
          rw [getD_any false true hz1, hB.front _ (by omega), getD_any true false hz, this]; simp
        have hli : ∀ p ∈ fls, (listed.setIfInBounds i true).getD p.i false = listed.getD p.i false := fun p hp => getD_set_ne false (Ne.symm (hne p hp))
        cases f1 with
        | zero => rw [h.1] at hi1; cases hi1
        | succ f1 =>
          have hst := h.2 i hi1
          unfold AStep at hst
          rw [ho1] at hst
          unfold wpOpIn
          rw [ho]
          have next : ∀ {v : AV} {x : Value} {H' : AH} {E' : Env} {w' : World}, AAny P r (ops.extract 0 n) md R K₁ f1 (l1.setIfInBounds i true) (putT T o.dst v) H' → E.le E' → HR P E' (B.hid (Hid fls listed hb)) H' w' → VR E' v x → Below (B.hid (Hid fls listed hb)) w w' →
              wpAnyIn (Fr rc) 0 P md ops Qc fuel (listed.setIfInBounds i true) (a.put o.dst x) w' := by
            intro v x H' E' w' hA hE' hH' hv hb'
            have hbB : Below B w w' := hb'.fewer fun x hx => .inl hx
            refine ih (hb := hb) hc' (hB.stepX hin) hA (hH'.fewer ?_) ((VRs.mono hE' _ _ hT).put o.dst hv) (by rw [put_defers]; exact hM.mono hE') (hr.mono hE') ?_ (hE.trans hE') ?_
            · rintro y (hy | ⟨p, hp, hp1, hp2⟩)
              · exact .inl hy
              · rw [hli p hp] at hp1; exact .inr ⟨p, hp, hp1, hp2⟩
            · refine ⟨fun q hq => ?_, fun q hq hq1 => ?_, fun p hp p' hp' k1 k2 k3 => ?_, Nat.le_trans hF.size hbB.size⟩
              · have := x3 q hq
                cases hd : o.dst with
                | none => exact hF.any q hq
                | some d =>
                  have hne' : d ≠ q.d := fun e => this (by rw [hd, e])
                  simp only [putT]
                  rw [List.set_comm _ _ hne', hF.any q hq]
              · rw [hli q hq] at hq1
                obtain ⟨k1, k2, k3, Y, k4, k5⟩ := hF.laid q hq hq1
                refine ⟨k1, k2, ?_, Y, by rw [hb'.block _ (.inr ⟨q, hq, hq1, rfl⟩)]; exact k4, k5⟩
                have := x3 q hq
                cases hd : o.dst with
                | none => exact k3
                | some d =>
                  have hne' : d ≠ q.d := fun e => this (by rw [hd, e])
                  simp only [Act.put, Array.toList_setIfInBounds]
                  rw [List.set_comm _ _ hne', k3]
              · rw [hli p hp] at k1; rw [hli p' hp'] at k2
                exact hF.inj p hp p' hp' k1 k2 k3
            · intro T' H'' E'' a' w'' k1 k2 k3 k4 k5 k6
              exact hq T' H'' E'' a' w'' k1 (hE'.trans k2) k3 k4 k5 (hbB.trans k6)
          have step : ∀ {K' : AV → AH → Prop}, wantedV (ops.extract 0 n) T o = some true → AOp P r o T H K' → (∀ v H', K' v H' → AAny P r (ops.extract 0 n) md R K₁ f1 (l1.setIfInBounds i true) (putT T o.dst v) H') →
              (if Region.wanted o (yielded ops a.tmps) then o.wpIn (Fr rc) 0 P a w (wpAnyIn (Fr rc) 0 P md ops Qc fuel (listed.setIfInBounds i true)) Qc
                else (∀ f, o.about P w a.eval = some f → (Fr rc).fn f) ∧ wpAnyIn (Fr rc) 0 P md ops Qc fuel (listed.setIfInBounds i true) (a.put o.dst undef) w) := by
            intro K' hw hop hK'
            rw [wantedV_front x2] at hw
            rw [if_pos (wanted_sim (a := a) hT hw)]
            refine hop E (B.hid (Hid fls listed hb)) w a rc _ Qc hH (OpsOk.of hH hT _) hr ?_
            intro v H' E' w' x hk hE' hH' hv hb'
            exact next (hK' v H' hk) hE' hH' hv hb'
          rcases hst with ⟨v, ⟨hw, rfl⟩ | ⟨hw, hv⟩, hk⟩ | ⟨hw, hop⟩
          · rw [wantedV_front x2] at hw
            simp only [wanted_sim (a := a) hT hw, Bool.false_eq_true, if_false]
            exact ⟨fun _ _ => trivial, next hk (Env.le.refl E) hH ⟨#[], rfl, rfl⟩ (Below.refl _ w)⟩
          · exact step (K' := fun v' H' => v' = v ∧ H' = H) hw (AOp.of_opV hv ⟨rfl, rfl⟩) (by rintro _ _ ⟨rfl, rfl⟩; exact hk)
          · exact step hw hop fun v H' h => h.2

def l1Of (n : Nat) (fls : List Flt) : Array Bool := ((List.range n).map (isF fls)).toArray

theorem l1Of_getD (n : Nat) (fls : List Flt) (i : Nat) (d : Bool) (h : i < n) : (l1Of n fls).getD i d = isF fls i := by
  simp [l1Of, Array.getD_eq_getD_getElem?, h]

theorem AWp.floats {id : Nat} {σ₁ σ₂ : List (Nat × Nat)} {Q : AEx → St → Prop} {s : St} {anc : Nat → Nat → Bool} (hm : P.follows .mixedOrders = true) (hs : FltSys P .any ops n fls)
    (hA₁ : AncOk .any (ops.extract 0 n) anc) (hd₁ : drawOk .any (ops.extract 0 n) σ₁ (l1Of n fls) = true) (hc₁ : Closed anc (l1Of n fls))
    (hA₂ : AncOk .any ops anc) (hd₂ : drawOk .any ops σ₂ (doneTo ops.size n) = true) (hc₂ : Closed anc (doneTo ops.size n)) (hl : σ₂.length = ops.size - n)
    (h : ADraw P r (ops.extract 0 n) anc (fun T H => LateOk s.H H ∧ ADraw P r ops anc (fun T H => Q .normal ⟨T, s.M, H⟩) σ₂ [] (lateX P fls T H).1 (lateX P fls T H).2) σ₁ [] (anyT fls s.T) s.H) : AWp P r (.region id ops true) Q s := by
  intro E B w a rc hsr hr
  have hb0 : Below B w { w with drawn := w.drawn + 1 } := ⟨rfl, rfl, rfl, Nat.le_refl _, fun _ _ => rfl⟩
  refine wpIn_region_any hm ?_
  have hun : ∀ q ∈ fls, ¬ (Array.replicate ops.size false).getD q.i false = true := by
    intro q _ h
    rcases Nat.lt_or_ge q.i ops.size with h' | h' <;> simp [Array.getD_eq_getD_getElem?, h'] at h
  refine AAny.float (S := w.heap.size) (E₀ := E) (H₀ := s.H) (B := B) (M := s.M) (hb := fun _ => 0) (l1 := l1Of n fls) hs hl ?_ (fun T H h => h.1) (by simp) ?_ (h.any hA₁ hd₁ hc₁) ((hsr.heap.world (w' := { w with drawn := w.drawn + 1 }) rfl).fewer ?_) (anyT_sim fls hsr.tmps) hsr.marks hr ?_ (Env.le.refl E) ?_
  · intro b o hb ho
    obtain ⟨L, hL, hor⟩ := hsr.heap.obj b o hb
    exact ⟨L, hL, hor.blk_lt ho⟩
  · refine ⟨by simp, by simp [l1Of], fun i hi => ?_, fun i hi => ?_⟩
    · rcases Nat.lt_or_ge i ops.size with h' | h' <;> simp [Array.getD_eq_getD_getElem?, h']
    · have := hs.le
      have hi' : i < ops.size := by omega
      rw [l1Of_getD _ _ _ _ hi]; simp [Array.getD_eq_getD_getElem?, hi']
  · rintro x (hx | ⟨q, hq, hq1, _⟩)
    · exact hx
    · exact (hun q hq hq1).elim
  · exact ⟨fun q hq => anyT_any hq, fun q hq h => (hun q hq h).elim, fun q hq _ _ h => (hun q hq h).elim, Nat.le_refl _⟩
  · intro T' H' E' a' w' hk hE k1 k2 k3 k4
    rw [← hl] at *
    refine (hk.2.any hA₂ hd₂ hc₂).sim k1 k2 k3 (hr.mono hE) ?_
    intro T'' H'' E'' a'' w'' hq hE' h1 h2 h3 h4
    exact ⟨.normal, ⟨T'', s.M, H''⟩, E'', rfl, hq, hE.trans hE', ⟨h1, h2, h3⟩, hb0.trans (k4.trans h4)⟩
end
end Go.Am
end

/- The abstract machine's own run: a program that reckons what a statement, a call leaves. -/
section
namespace Go.Am
open Go.RowKit

/-! ### Equality of values, as far as it is wanted -/
mutual
def beqV : AV → AV → Bool
  | .bool a, .bool b => a == b
  | .int k n, .int l m => decide (k = l) && decide (n = m)
  | .str s, .str t => decide (s = t)
  | .ptr a, .ptr b => decide (a = b)
  | .slice a l c, .slice b m d => decide (a = b) && decide (l = m) && decide (c = d)
  | .nilFunc, .nilFunc => true
  | .nilIface, .nilIface => true
  | .agg a, .agg b => beqVs a b
  | .tuple a, .tuple b => beqVs a b
  | .iface t a, .iface u b => decide (t = u) && beqV a b
  | .func (.func f) a b, .func (.func g) c d => decide (f = g) && beqVs a c && beqVs b d
  | .map a, .map b => decide (a = b)
  | .half a b, .half c d => decide (a = c) && b == d
  | .unk, .unk => true
  | _, _ => false
def beqVs : List AV → List AV → Bool
  | [], [] => true
  | a :: x, b :: y => beqV a b && beqVs x y
  | _, _ => false
end

mutual
theorem beqV_eq : ∀ {a b : AV}, beqV a b = true → a = b
  | .bool a, b, h => by cases b <;> simp_all [beqV]
  | .int k n, b, h => by cases b <;> simp_all [beqV]
  | .str s, b, h => by cases b <;> simp_all [beqV]
  | .ptr a, b, h => by cases b <;> simp_all [beqV]
  | .slice a l c, b, h => by cases b <;> simp_all [beqV]
  | .nilFunc, b, h => by cases b <;> simp_all [beqV]
  | .nilIface, b, h => by cases b <;> simp_all [beqV]
  | .yld _, b, h => by simp [beqV] at h
  | .func f x y, b, h => by
    cases f with
    | func g =>
      cases b with
      | func f' u v =>
        cases f' with
        | func g' =>
          simp only [beqV, Bool.and_eq_true, decide_eq_true_eq] at h
          obtain ⟨⟨h1, h2⟩, h3⟩ := h
          rw [h1, beqVs_eq h2, beqVs_eq h3]
        | _ => simp [beqV] at h
      | _ => simp [beqV] at h
    | _ => simp [beqV] at h
  | .iface t x, b, h => by
    cases b <;> simp only [beqV, Bool.false_eq_true, Bool.and_eq_true, decide_eq_true_eq] at h
    rw [h.1, beqV_eq h.2]
  | .map a, b, h => by cases b <;> simp_all [beqV]
  | .half _ _, b, h => by cases b <;> simp_all [beqV]
  | .unk, b, h => by cases b <;> simp_all [beqV]
  | .any, b, h => by simp [beqV] at h
  | .agg a, b, h => by
    cases b <;> simp only [beqV, Bool.false_eq_true] at h
    rw [beqVs_eq h]
  | .tuple a, b, h => by
    cases b <;> simp only [beqV, Bool.false_eq_true] at h
    rw [beqVs_eq h]
theorem beqVs_eq : ∀ {a b : List AV}, beqVs a b = true → a = b
  | [], [], _ => rfl
  | [], _ :: _, h => by simp [beqVs] at h
  | _ :: _, [], h => by simp [beqVs] at h
  | a :: x, b :: y, h => by
    simp only [beqVs, Bool.and_eq_true] at h
    rw [beqV_eq h.1, beqVs_eq h.2]
end

/-! ### The order of a region -/

def quietOp : Op → Bool
  | .load .. | .slice .. | .convert .. => true
  | .call ⟨.builtin b, _, _⟩ => match b with | .len | .cap | .min | .max => true | _ => false
  | o => freeOp o

def intB : AV → Bool
  | .int _ _ => true
  | .str _ => true
  | _ => false
def convOk (op : Op) (v : AV) : Bool :=
  match op with
  | .convert .. => intB v
  | _ => true

theorem convV_quiet {P : Program} {H H' : AH} {s d : TypeId} {x v : AV} (h : convV P H s d x = some (v, H')) (hi : intB v = true) : H' = H := by
  unfold convV at h
  split at h
  · cases h; rfl
  · cases h; rfl
  · cases h; rfl
  · split at h
    · split at h
      · cases h; cases hi
      · cases h
    · cases h
  · split at h
    · split at h
      · cases h; rfl
      · cases h
    · cases h
  · split at h
    · split at h
      · cases h; rfl
      · cases h
    · cases h
  · split at h
    · cases h; rfl
    · cases h
  · split at h
    · obtain ⟨z, hz, h⟩ := Option.bind_eq_some_iff.1 h
      obtain ⟨y, hy, h⟩ := Option.map_eq_some_iff.1 h
      cases h; rfl
    · cases h
  · split at h
    · split at h
      · cases h; cases hi
      · cases h
    · cases h
  · cases h

theorem quietOp_spec {P : Program} {o : Oper} {T : List AV} {H H' : AH} {v : AV} (hf : quietOp o.op = true) (h : opV P T H o = some (v, H')) (hi : convOk o.op v = true) : H' = H := by
  obtain ⟨dst, op, ty, pos, after, guard⟩ := o
  have key : ∀ {x : Option AV}, x.map (·, H) = some (v, H') → H' = H := fun h => by
    obtain ⟨z, hz, h⟩ := Option.map_eq_some_iff.1 h
    exact (congrArg Prod.snd h).symm
  cases op <;> simp only [quietOp, freeOp, Bool.false_eq_true] at hf <;> simp only [opV] at h
  case move => exact key h
  case assign => exact key h
  case pick =>
    obtain ⟨z, hz, h⟩ := Option.bind_eq_some_iff.1 h
    split at h
    · exact key h
    · exact key h
    · cases h
  case build => obtain ⟨z, hz, h⟩ := Option.bind_eq_some_iff.1 h; exact key h
  case load => obtain ⟨z, hz, h⟩ := Option.bind_eq_some_iff.1 h; exact key h
  case nilCheck =>
    obtain ⟨z, hz, h⟩ := Option.bind_eq_some_iff.1 h
    split at h
    · simp only [Option.some.injEq, Prod.mk.injEq] at h; exact h.2.symm
    · cases h
  case binOp => obtain ⟨z, hz, h⟩ := Option.bind_eq_some_iff.1 h; obtain ⟨z', hz', h⟩ := Option.bind_eq_some_iff.1 h; exact key h
  case convert => obtain ⟨z, hz, h⟩ := Option.bind_eq_some_iff.1 h; exact convV_quiet h hi
  case unOp => obtain ⟨z, hz, h⟩ := Option.bind_eq_some_iff.1 h; exact key h
  case makeInterface =>
    obtain ⟨z, hz, h⟩ := Option.bind_eq_some_iff.1 h
    split at h
    · cases h
    · simp only [Option.some.injEq, Prod.mk.injEq] at h; exact h.2.symm
    · cases h
  case makeFunc =>
    obtain ⟨z, hz, h⟩ := Option.bind_eq_some_iff.1 h; obtain ⟨z', hz', h⟩ := Option.bind_eq_some_iff.1 h
    simp only [Option.some.injEq, Prod.mk.injEq] at h; exact h.2.symm
  case slice =>
    obtain ⟨z, hz, h⟩ := Option.bind_eq_some_iff.1 h; obtain ⟨z', hz', h⟩ := Option.bind_eq_some_iff.1 h
    obtain ⟨z2, hz2, h⟩ := Option.bind_eq_some_iff.1 h; obtain ⟨z3, hz3, h⟩ := Option.bind_eq_some_iff.1 h; exact key h
  case fieldAddr => obtain ⟨z, hz, h⟩ := Option.bind_eq_some_iff.1 h; exact key h
  case field => obtain ⟨z, hz, h⟩ := Option.bind_eq_some_iff.1 h; exact key h
  case indexAddr => obtain ⟨z, hz, h⟩ := Option.bind_eq_some_iff.1 h; obtain ⟨z', hz', h⟩ := Option.bind_eq_some_iff.1 h; exact key h
  case index => obtain ⟨z, hz, h⟩ := Option.bind_eq_some_iff.1 h; obtain ⟨z', hz', h⟩ := Option.bind_eq_some_iff.1 h; exact key h
  case typeAssert => obtain ⟨z, hz, h⟩ := Option.bind_eq_some_iff.1 h; exact key h
  case extract =>
    obtain ⟨z, hz, h⟩ := Option.bind_eq_some_iff.1 h
    split at h
    · exact key h
    · cases h
  case call c =>
    obtain ⟨callee, args, ts⟩ := c
    cases callee with
    | value f => simp at hf
    | invoke x m => simp at hf
    | builtin b =>
      simp only at h
      obtain ⟨l, hl, h⟩ := Option.bind_eq_some_iff.1 h
      cases b <;> simp only [Bool.false_eq_true] at hf <;> unfold builtinV at h <;> split at h <;> first | contradiction | (exact key h) | (cases h)


def calmOp (c : Bool) : Op → Bool
  | .convert .. => c
  | o => quietOp o

def pickOne (c : Bool) (ops : Array Oper) (ready : List Nat) : Option (Nat × Nat) :=
  match ready.find? fun i => match ops[i]? with | some o => calmOp c o.op | none => false with
  | some i => some (i, match ops[i]? with | some o => if freeOp o.op then 0 else 1 | none => 2)
  | none => match ready with
    | i :: _ => some (i, 2)
    | [] => none

def orderOf (c : Bool) (ops : Array Oper) : Nat → Array Bool → List (Nat × Nat)
  | 0, _ => []
  | n + 1, listed =>
    match pickOne c ops (Region.ready .any ops listed) with
    | some (i, k) => (i, k) :: orderOf c ops n (listed.setIfInBounds i true)
    | none => []

def ancFill (ops : Array Oper) : List (Nat × Nat) → List Nat → List Nat
  | [], A => A
  | (i, _) :: σ, A =>
    match ops[i]? with
    | some o => ancFill ops σ (A.set i (o.after.toList.foldl (fun m e => if Region.binds .any e then m ||| ((1 <<< e.on) ||| (A[e.on]?.getD 0)) else m) 0))
    | none => ancFill ops σ A

def drawAs (c : Bool) (ops : Array Oper) : Option (List (Nat × Nat) × List Nat) :=
  let σ := orderOf c ops ops.size (Array.replicate ops.size false)
  let A := ancFill ops σ (List.replicate ops.size 0)
  if drawOk .any ops σ (Array.replicate ops.size false) && ancB .any ops A && decide (σ.length = ops.size) && σ.all (fun p => p.2 == 2 || match ops[p.1]? with | some o => quietOp o.op | none => false) then some (σ, A) else none

def drawOf (ops : Array Oper) : Option (List (Nat × Nat) × List Nat) :=
  match drawAs false ops with
  | some x => some x
  | none => drawAs true ops

theorem drawOf_as {ops : Array Oper} {x : List (Nat × Nat) × List Nat} (h : drawOf ops = some x) : ∃ c, drawAs c ops = some x := by
  unfold drawOf at h
  split at h
  · rename_i y hy; cases h; exact ⟨_, hy⟩
  · exact ⟨_, h⟩

/-! ### Regions in which allocations float -/

def isFl (P : Program) (i : Nat) : Oper → Option Flt
  | ⟨some d, .alloc e, _, _, after, none⟩ => if after.all (fun e => !Region.binds .any e) && (match zeroOf P e with | some z => z.cells.all AV.one | none => false) then some ⟨i, d, e⟩ else none
  | _ => none

def fltsOf (P : Program) (ops : Array Oper) : List Flt := (List.range ops.size).filterMap fun i => (ops[i]?).bind (isFl P i)

def yB (ops : Array Oper) (n : Nat) : Bool := (List.range ops.size).all fun i => decide (i < n) || match ops[i]? with
  | some o => (List.range n).all fun j => o.after.any fun e => Region.binds .any e && e.on == j
  | none => true

def xB (ops : Array Oper) (n : Nat) (fls : List Flt) : Bool := (List.range n).all fun i => isF fls i || match ops[i]? with
  | some o => o.after.all (fun e => !Region.binds .any e || decide (e.on < i)) && (match o.guard with | some g => decide (g.1 < n) | none => true) && fls.all fun q => decide (o.dst ≠ some q.d)
  | none => true

def fsysB (ops : Array Oper) (n : Nat) (fls : List Flt) : Bool :=
  decide (n ≤ ops.size) && fls.all (fun q => decide (q.i < n)) && fls.all (fun q => fls.all fun q' => decide (q = q') || (decide (q.i ≠ q'.i) && decide (q.d ≠ q'.d))) && decide fls.Nodup && xB ops n fls && yB ops n

theorem fltsOf_ok {P : Program} {ops : Array Oper} {q : Flt} (h : q ∈ fltsOf P ops) : q.Ok P .any ops := by
  obtain ⟨i, hi, h⟩ := List.mem_filterMap.1 h
  obtain ⟨o, ho, h⟩ := Option.bind_eq_some_iff.1 h
  obtain ⟨dst, op, ty, pos, after, guard⟩ := o
  unfold isFl at h
  split at h
  · rename_i d e ty pos after heq
    cases heq
    simp only [Option.ite_none_right_eq_some, Option.some.injEq, Bool.and_eq_true] at h
    obtain ⟨⟨h1, h2⟩, rfl⟩ := h
    cases hz : zeroOf P e with
    | none => rw [hz] at h2; cases h2
    | some z =>
      rw [hz] at h2
      refine ⟨ty, pos, after, z, ho, fun e he => ?_, hz, h2⟩
      have := Array.all_eq_true_iff_forall_mem.1 h1 e he
      simpa using this
  · cases h

theorem fsysB_spec {P : Program} {ops : Array Oper} {n : Nat} (h : fsysB ops n (fltsOf P ops) = true) : FltSys P .any ops n (fltsOf P ops) := by
  simp only [fsysB, Bool.and_eq_true, decide_eq_true_eq] at h
  obtain ⟨⟨⟨⟨⟨h1, h2⟩, h3⟩, h4⟩, h5⟩, h6⟩ := h
  refine ⟨h1, fun q hq => ⟨by simpa using List.all_eq_true.1 h2 q hq, fltsOf_ok hq⟩, fun q hq q' hq' => ?_, h4, fun i hi hf o ho => ?_, fun i hi o ho j hj => ?_⟩
  · have := List.all_eq_true.1 (List.all_eq_true.1 h3 q hq) q' hq'
    simpa using this
  · have := List.all_eq_true.1 h5 i (List.mem_range.2 hi)
    simp only [hf, ho, Bool.false_or, Bool.and_eq_true] at this
    obtain ⟨⟨k1, k2⟩, k3⟩ := this
    refine ⟨fun e he hb => ?_, fun g hg => ?_, fun q hq => ?_⟩
    · have := Array.all_eq_true_iff_forall_mem.1 k1 e he
      simpa [hb] using this
    · rw [hg] at k2; simpa using k2
    · simpa using List.all_eq_true.1 k3 q hq
  · have hlt : i < ops.size := (Array.getElem?_eq_some_iff.1 ho).1
    have := List.all_eq_true.1 h6 i (List.mem_range.2 hlt)
    have hn : ¬ i < n := by omega
    simp only [ho, hn, decide_false, Bool.false_or] at this
    have := List.all_eq_true.1 this j (List.mem_range.2 hj)
    obtain ⟨e, he, hb⟩ := Array.any_eq_true'.1 this
    simp only [Bool.and_eq_true, beq_iff_eq] at hb
    exact ⟨e, he, hb.1, hb.2⟩

structure FPlan where
  n : Nat
  fls : List Flt
  front : List (Nat × Nat)
  back : List (Nat × Nat)
  A : List Nat

def quietS (ops : Array Oper) (σ : List (Nat × Nat)) : Bool := σ.all fun p => p.2 == 2 || match ops[p.1]? with | some o => quietOp o.op | none => false

def planB (ops : Array Oper) (p : FPlan) : Bool :=
  fsysB ops p.n p.fls && ancB .any (ops.extract 0 p.n) p.A && ancB .any ops p.A && drawOk .any (ops.extract 0 p.n) p.front (l1Of p.n p.fls) && drawOk .any ops p.back (doneTo ops.size p.n) &&
    p.fls.all (fun q => p.A[q.i]?.getD 0 == 0) && (List.range p.n).all (fun j => decide (p.A[j]?.getD 0 < 2 ^ p.n)) && decide (p.back.length = ops.size - p.n) && quietS (ops.extract 0 p.n) p.front && quietS ops p.back

def planAs (c : Bool) (ops : Array Oper) (n : Nat) (fls : List Flt) : FPlan :=
  ⟨n, fls, orderOf c (ops.extract 0 n) n (l1Of n fls), orderOf c ops ops.size (doneTo ops.size n), ancFill ops ((List.range ops.size).map fun i => (i, 0)) (List.replicate ops.size 0)⟩

def planOf (P : Program) (ops : Array Oper) : Option FPlan :=
  match fltsOf P ops with
  | [] => none
  | q :: l => ((List.range ops.size).find? fun n => (q :: l).all (fun q => decide (q.i < n)) && yB ops n).bind fun n =>
    if planB ops (planAs false ops n (q :: l)) then some (planAs false ops n (q :: l)) else if planB ops (planAs true ops n (q :: l)) then some (planAs true ops n (q :: l)) else none

theorem planOf_spec {P : Program} {ops : Array Oper} {p : FPlan} (h : planOf P ops = some p) : p.fls = fltsOf P ops ∧ planB ops p = true := by
  unfold planOf at h
  split at h
  · cases h
  · rename_i q l hf
    obtain ⟨n, hn, h⟩ := Option.bind_eq_some_iff.1 h
    split at h
    · rename_i hp; cases h; exact ⟨hf.symm, hp⟩
    · split at h
      · rename_i hp; cases h; exact ⟨hf.symm, hp⟩
      · cases h

theorem closed_l1 {A : List Nat} {n : Nat} {fls : List Flt} (h : fls.all (fun q => A[q.i]?.getD 0 == 0) = true) : Closed (ancOf A) (l1Of n fls) := by
  intro j i hj ha
  exfalso
  have hlt : j < n := by
    rcases Nat.lt_or_ge j n with h' | h'
    · exact h'
    · simp [l1Of, Array.getD_eq_getD_getElem?, h'] at hj
  rw [l1Of_getD _ _ _ _ hlt] at hj
  obtain ⟨q, hq, rfl⟩ := isF_true.1 hj
  have := List.all_eq_true.1 h q hq
  simp only [beq_iff_eq] at this
  unfold ancOf at ha
  rw [this] at ha; simp at ha

theorem closed_done {A : List Nat} {s n : Nat} (hn : n ≤ s) (h : (List.range n).all (fun j => decide (A[j]?.getD 0 < 2 ^ n)) = true) : Closed (ancOf A) (doneTo s n) := by
  intro j i hj ha
  have hlt : j < n := by
    rcases Nat.lt_or_ge j n with h' | h'
    · exact h'
    · rcases Nat.lt_or_ge j s with h2 | h2
      · rw [doneTo_getD _ _ _ _ h2] at hj; simp at hj; omega
      · simp [doneTo, Array.getD_eq_getD_getElem?, h2] at hj
  have := List.all_eq_true.1 h j (List.mem_range.2 hlt)
  simp only [decide_eq_true_eq] at this
  have hi : i < n := by
    rcases Nat.lt_or_ge i n with h' | h'
    · exact h'
    · exfalso
      unfold ancOf at ha
      rw [Nat.testBit_lt_two_pow (Nat.lt_of_lt_of_le this (Nat.pow_le_pow_right (by omega) h'))] at ha
      cases ha
  rw [doneTo_getD _ _ _ _ (by omega)]; simpa using hi

def Tr.allT {α : Type} (p : Nat → α → Bool) : Tr α → Nat → Nat → Bool
  | .nil, _, _ => true
  | .node l v r, a, b => (match v with | some x => p b x | none => true) && (l.allT p (2 * a) (a + b) && r.allT p (2 * a) (2 * a + b))

theorem Tr.allT_spec {α : Type} {p : Nat → α → Bool} : ∀ {t : Tr α} {a b j : Nat} {v : α}, t.allT p a b = true → t.get j = some v → p (a * j + b) v = true
  | .nil, _, _, _, _, _, h => by simp [Tr.get] at h
  | .node l u r, a, b, j, v, h, hj => by
    simp only [Tr.allT, Bool.and_eq_true] at h
    cases j with
    | zero => simp only [Tr.get] at hj; rw [hj] at h; simpa using h.1
    | succ k =>
      simp only [Tr.get] at hj
      split at hj
      · rename_i hk
        have := Tr.allT_spec h.2.1 hj
        have e : 2 * a * (k / 2) + (a + b) = a * (k + 1) + b := by
          have : a * k = 2 * a * (k / 2) := by
            have hk2 : k = 2 * (k / 2) := by omega
            calc a * k = a * (2 * (k / 2)) := by rw [← hk2]
              _ = 2 * a * (k / 2) := by rw [← Nat.mul_assoc, Nat.mul_comm a 2]
          rw [Nat.mul_add, this]; omega
        rwa [e] at this
      · rename_i hk
        have := Tr.allT_spec h.2.2 hj
        have e : 2 * a * (k / 2) + (2 * a + b) = a * (k + 1) + b := by
          have : a * (k + 1) = 2 * a * (k / 2) + 2 * a := by
            have hk2 : k + 1 = 2 * (k / 2) + 2 := by omega
            rw [hk2, Nat.mul_add, ← Nat.mul_assoc, Nat.mul_comm a 2]
          rw [this]; omega
        rwa [e] at this

def lateB (H₀ H : AH) : Bool := H.t.allT (fun b o => o.owns || (!o.live || (match H₀.get b with | some o₀ => o₀.live | none => false))) 1 0

theorem lateB_spec {H₀ H : AH} (h : lateB H₀ H = true) : LateOk H₀ H := by
  intro b o hb
  have := Tr.allT_spec (show H.t.allT _ 1 0 = true from h) hb
  simp only [Nat.one_mul, Nat.add_zero, Bool.or_eq_true, Bool.not_eq_true'] at this
  refine this.imp id (Or.imp id fun h => ?_)
  cases ho : H₀.get b with
  | none => rw [ho] at h; cases h
  | some o₀ => rw [ho] at h; exact ⟨o₀, rfl, h⟩

/-! ### The run -/
section run
variable (P : Program)

abbrev Ext := FuncId → List AV → AH → Option (AV × AH)

def goB (g : FuncId) : Bool :=
  match P.funcs[g]? with
  | some fn => fn.body.isSome && !(fn.name == "runtime.NumGoroutine")
  | none => false

abbrev Rec := Option Nat → Code → St → Option (AEx × St)

def dHead (fn : Func) (c : Code) : Option (Code × Array Oper × Oper × Code) :=
  match fn.results.toList with
  | .cell _ _ :: _ =>
    match c with
    | .seq A (.seq (.region _ ops false) rest) =>
      match ops.toList.getLast? with
      | some o =>
        match o.op with
        | .defer _ => some (A, ops, o, rest)
        | _ => none
      | none => none
    | _ => none
  | _ => none

abbrev GoK := Code → List AV → AH → Option St

def goX (rec : Rec) : GoK := fun c T H =>
  match rec none c ⟨T, [], H⟩ with
  | some (.normal, s) => some s
  | some (.ret, s) => some s
  | _ => none

def goN (rec : Rec) : GoK := fun c T H =>
  match rec none c ⟨T, [], H⟩ with
  | some (.normal, s) => some s
  | _ => none

def dfrG (go : GoK) (g : FuncId) (args : List AV) (H : AH) : Option AH :=
  match P.funcs[g]? with
  | some fn =>
    match fn.body with
    | some (.seq (.region _ ops false) rest) =>
      (opsD P ops true ops.toList (args ++ List.replicate (fn.ntmps - args.length) .undef) H).bind fun p => (go rest p.1 p.2).bind fun s =>
        match s.M with
        | [] => (resVs P s.T s.H fn.results.toList).map fun _ => s.H
        | _ => none
    | _ => none
  | none => none

def dBodyG (goA go : GoK) (fn : Func) (A : Code) (ops : Array Oper) (o : Oper) (rest : Code) (args : List AV) (H : AH) : Option (AV × AH) :=
  match o with
  | ⟨dst, .defer ⟨.value fo, xs, _⟩, _, _, _, none⟩ =>
    (goA A (args ++ List.replicate (fn.ntmps - args.length) .undef) H).bind fun s0 => (match s0.M with | [] => some s0 | _ => none).bind fun s0 => (opsD P ops false ops.toList.dropLast s0.T s0.H).bind fun p => (ev P p.1 fo).bind fun fv => (evs P p.1 xs.toList).bind fun vs =>
      match fv with
      | .func (.func g) x y =>
        if goB P g then (go rest (putT p.1 dst .undef) p.2).bind fun s => (takeMarks s.M s.H).bind fun H2 => (dfrG P go g (x ++ vs ++ y) H2).bind fun H3 => (resVs P s.T H3 fn.results.toList).map fun us => (oneOf us, H3)
        else none
      | _ => none
  | _ => none

def deferOf (ops : Array Oper) : Option Oper :=
  match ops.toList.getLast? with
  | some ⟨d, .defer c, t, p, a, none⟩ => some ⟨d, .defer c, t, p, a, none⟩
  | _ => none

def dfrB (go : GoK) (g : FuncId) (args : List AV) (H : AH) : Option AH :=
  match P.funcs[g]? with
  | some fn =>
    match fn.body with
    | some c => (go c (args ++ List.replicate (fn.ntmps - args.length) .undef) H).bind fun s =>
      match s.M with
      | [] => (resVs P s.T s.H fn.results.toList).map fun _ => s.H
      | _ => none
    | none => none
  | none => none

def leaveG (go : GoK) : List Mk → AH → Option AH
  | [], H => some H
  | .mark m :: ms, H =>
    match H.get m with
    | some .deferred => leaveG go ms (H.set m .dead)
    | _ => none
  | .call g a y :: ms, H => if goB P g then (dfrB P go g (a ++ y) H).bind fun H1 => leaveG go ms H1 else none

def enterX (X : Ext) (rec : Rec) (f : FuncId) (args : List AV) (H : AH) : Option (AV × AH) :=
  match P.funcs[f]? with
  | some fn =>
    match fn.body with
    | some c =>
      if goB P f then
        match dHead fn c with
        | some (A, ops, o, rest) => dBodyG P (goN rec) (goX rec) fn A ops o rest args H
        | none =>
          match rec none c ⟨args ++ List.replicate (fn.ntmps - args.length) .undef, [], H⟩ with
          | some (.normal, s) | some (.ret, s) => (leaveG P (goX rec) s.M s.H).bind fun H' => (resVs P s.T H' fn.results.toList).map fun vs => (oneOf vs, H')
          | _ => none
      else none
    | none => X f args H
  | none => none

def callX (X : Ext) (rec : Rec) (f : FuncId) (args : List AV) (H : AH) : Option (AV × AH) :=
  match X f args H with
  | some r => some r
  | none => enterX P X rec f args H

def endRoundX (b : Nat) : AEx → St → Option (AV × AH) := fun e s =>
  match s.H.get b with
  | some (.loop _ _ T' ps as bd d) =>
    match e with
    | .normal => some (.bool true, s.H.set b (.loop .ready none T' ps as bd d))
    | .ret => some (.bool false, s.H.set b (.loop .done (some .ret) T' ps as bd d))
    | .exit id => some (.bool false, s.H.set b (.loop .done (some (.exit id)) T' ps as bd d))
    | .goto l => some (.bool false, s.H.set b (.loop .done (some (.goto l)) T' ps as bd d))
  | _ => none

def yieldX (rec : Rec) (b : Nat) (vs : List AV) (H : AH) : Option (AV × AH) :=
  match H.get b with
  | some (.loop _ _ T' ps as bd _) =>
    if vs.length = ps.size then
      match rec (some b) as ⟨setPs ps.toList vs T', [], H⟩ with
      | some (.normal, s) =>
        match s.H.get b with
        | some (.loop .ready pe T₁ ps₁ as₁ bd₁ d₁) => (rec (some b) bd ⟨s.T, s.M, s.H.set b (.loop .busy pe T₁ ps₁ as₁ bd₁ d₁)⟩).bind fun (e, s) => endRoundX b e s
        | _ => none
      | _ => none
    else none
  | _ => none

def opX (X : Ext) (rec : Rec) (o : Oper) (T : List AV) (H : AH) : Option (AV × AH) :=
  match o.op with
  | .call ⟨.value f, xs, _⟩ => (ev P T f).bind fun fv => (evs P T xs.toList).bind fun vs =>
    match fv with
    | .func (.func g) x y => callX P X rec g (x ++ vs ++ y) H
    | .yld b => yieldX rec b vs H
    | .func f x _ => (boundM P f x).bind fun q => callX P X rec q.1 (q.2 :: vs) H
    | _ => none
  | .call ⟨.invoke f name, xs, _⟩ => (ev P T f).bind fun fv => (evs P T xs.toList).bind fun vs =>
    match fv with
    | .iface t u => (methB P t name).bind fun g => callX P X rec g (u :: vs) H
    | _ => none
  | _ => opV P T H o

def opsX (X : Ext) (rec : Rec) (ops : Array Oper) : List Oper → List AV → AH → Option (List AV × AH)
  | [], T, H => some (T, H)
  | o :: l, T, H =>
    match wantedV ops T o with
    | some true => (opX P X rec o T H).bind fun (v, H') => opsX X rec ops l (putT T o.dst v) H'
    | some false => opsX X rec ops l (putT T o.dst .undef) H
    | none => none

def pushV (o : Oper) (M : List Mk) (T : List AV) (H : AH) : Option St :=
  match o with
  | ⟨dst, .defer ⟨.value fo, xs, _⟩, _, _, _, none⟩ => (ev P T fo).bind fun fv => (evs P T xs.toList).bind fun vs =>
    match fv with
    | .func (.func g) x y => some ⟨putT T dst .undef, .call g (x ++ vs) y :: M, H⟩
    | _ => none
  | _ => none

def pendB (ops : Array Oper) (A : List Nat) (i : Nat) (H : AH) : Pend → Bool
  | [] => true
  | (j, o, T, v) :: pend => (ancOf A i j || match wantedV ops T o with
      | some true => (match opV P T H o with | some (u, _) => beqV u v && convOk o.op u | none => false)
      | some false => true
      | none => false) && pendB ops A i H pend

def drawX (X : Ext) (rec : Rec) (ops : Array Oper) (A : List Nat) : List (Nat × Nat) → Pend → List AV → AH → Option (List AV × AH)
  | [], _, T, H => some (T, H)
  | (i, k) :: σ, pend, T, H =>
    match ops[i]? with
    | none => none
    | some o =>
      match wantedV ops T o with
      | none => none
      | some false => drawX X rec ops A σ (if k = 2 ∨ k = 0 then pend else (i, o, T, .undef) :: pend) (putT T o.dst .undef) H
      | some true =>
        if k = 2 then (opX P X rec o T H).bind fun (v, H') => if pendB P ops A i H' pend then drawX X rec ops A σ pend (putT T o.dst v) H' else none
        else (opV P T H o).bind fun (v, _) => if convOk o.op v then drawX X rec ops A σ (if k = 0 then pend else (i, o, T, v) :: pend) (putT T o.dst v) H else none

def floatX (X : Ext) (rec : Rec) (ops : Array Oper) (p : FPlan) (T : List AV) (H : AH) : Option (List AV × AH) :=
  (drawX P X rec (ops.extract 0 p.n) p.A p.front [] (anyT p.fls T) H).bind fun u => if lateB H u.2 then drawX P X rec ops p.A p.back [] (lateX P p.fls u.1 u.2).1 (lateX P p.fls u.1 u.2).2 else none

def scopeX (rec : Rec) (r : Option Nat) (c : Code) : Nat → Code → St → Option (AEx × St)
  | 0, _, _ => none
  | m + 1, cur, s =>
    match rec r cur s with
    | some (.goto l, s') =>
      match findLabel c l with
      | some rest => scopeX rec r c m rest s'
      | none => some (.goto l, s')
    | x => x

def loopX (rec : Rec) (r : Option Nat) (c : Code) : Nat → St → Option (AEx × St)
  | 0, _ => none
  | m + 1, s =>
    match rec r c s with
    | some (.normal, s') => loopX rec r c m s'
    | x => x

def isBusy : LoopState → Bool
  | .busy => true
  | _ => false

def endRangeX (rec : Rec) (r : Option Nat) (l : Nat) (T : List AV) (M : List Mk) (H : AH) : Option (AEx × St) :=
  match H.get l with
  | some (.loop st pe _ _ _ _ _) =>
    if isBusy st then none
    else match pe with
      | none => some (.normal, ⟨T, M, H.set l .dead⟩)
      | some c => rec r c ⟨T, M, H.set l .dead⟩
  | _ => none

def rangeX (X : Ext) (rec : Rec) (r : Option Nat) (g : Operand) (ps : Array Tmp) (as bd : Code) (s : St) : Option (AEx × St) :=
  (ev P s.T g).bind fun gv =>
    match gv, r with
    | .func (.func gf) x y, none =>
      if goB P gf then (enterX P X rec gf (x ++ [.yld (s.H.n + 1)] ++ y) ((s.H.alloc .deferred).alloc (.loop .ready none s.T ps as bd s.H.n))).bind fun (_, H) => endRangeX rec none (s.H.n + 1) s.T (.mark s.H.n :: s.M) H else none
    | .func (.func gf) x y, some b₀ =>
      match s.H.get b₀ with
      | some (.loop _ _ _ _ _ _ d₀) =>
        if goB P gf then (enterX P X rec gf (x ++ [.yld s.H.n] ++ y) (s.H.alloc (.loop .ready none s.T ps as bd d₀))).bind fun (_, H) => endRangeX rec (some b₀) s.H.n s.T s.M H else none
      | _ => none
    | _, _ => none

def inBlockX (id : Nat) : AEx → AEx
  | .exit i => if i = id then .normal else .exit i
  | e => e

def run (X : Ext) : Nat → Rec
  | 0 => fun _ _ _ => none
  | n + 1 => fun r c s =>
    match c with
    | .skip => some (.normal, s)
    | .label _ => some (.normal, s)
    | .exit id => some (.exit id, s)
    | .goto l => some (.goto l, s)
    | .ret => some (.ret, s)
    | .refuse _ => none
    | .seq a b =>
      match run X n r a s with
      | some (.normal, s') => run X n r b s'
      | x => x
    | .cond c x y =>
      match ev P s.T c with
      | some (.bool true) => run X n r x s
      | some (.bool false) => run X n r y s
      | _ => none
    | .block id c => (run X n r c s).map fun (e, s') => (inBlockX id e, s')
    | .loop c => loopX (run X n) r c n s
    | .scope c => scopeX (run X n) r c n c s
    | .region _ ops false =>
      match deferOf ops, r with
      | none, _ => (opsX P X (run X n) ops ops.toList s.T s.H).map fun (T, H) => (.normal, ⟨T, s.M, H⟩)
      | some o, none => (opsX P X (run X n) ops ops.toList.dropLast s.T s.H).bind fun p => (pushV P o s.M p.1 p.2).map fun s => (.normal, s)
      | some _, some _ => none
    | .region _ ops true =>
      match drawOf ops with
      | some (σ, A) => (drawX P X (run X n) ops A σ [] s.T s.H).map fun (T, H) => (.normal, ⟨T, s.M, H⟩)
      | none => (planOf P ops).bind fun p => (floatX P X (run X n) ops p s.T s.H).map fun u => (.normal, ⟨u.1, s.M, u.2⟩)
    | .rangeFunc g ps as bd => rangeX P X (run X n) r g ps as bd s

def runCall (X : Ext) (n : Nat) (f : FuncId) (args : List AV) (H : AH) : Option (AV × AH) := enterX P X (run P X n) f args H
end run

end Go.Am
end

/- The abstract machine's own run is sound. -/
section
namespace Go.Am
open Go.RowKit

section
variable {P : Program} {X : Ext} {rec : Rec}

def RecOk (P : Program) (rec : Rec) : Prop := ∀ r c s e s', rec r c s = some (e, s') → AWp P r c (fun e' s'' => e' = e ∧ s'' = s') s
def ExtOk (P : Program) (X : Ext) : Prop := ∀ g vs H v H', X g vs H = some (v, H') → ACallee P g vs H (fun v' H'' => v' = v ∧ H'' = H')

theorem goB_spec {g : FuncId} (h : goB P g = true) : Goes P g := by
  intro args w
  unfold goB at h
  cases hf : P.funcs[g]? with
  | none => rw [hf] at h; cases h
  | some fn =>
    rw [hf] at h
    simp only [Bool.and_eq_true, Bool.not_eq_true'] at h
    obtain ⟨h1, h2⟩ := h
    have h2' : fn.name ≠ "runtime.NumGoroutine" := by simpa using h2
    have h3 : fn.body ≠ none := by intro e; rw [e] at h1; cases h1
    simp [callFunc, hf, h2', h3]

theorem goX_sound (hr : RecOk P rec) {c : Code} {T : List AV} {H : AH} {s : St} {K : St → Prop} (h : goX rec c T H = some s) (k : K s) : AWp P none c (fun e s => (e = .normal ∨ e = .ret) ∧ K s) ⟨T, [], H⟩ := by
  unfold goX at h
  split at h
  · rename_i s' hs
    cases h
    refine (hr _ _ _ _ _ hs).mono ?_
    rintro e s'' ⟨rfl, rfl⟩
    exact ⟨.inl rfl, k⟩
  · rename_i s' hs
    cases h
    refine (hr _ _ _ _ _ hs).mono ?_
    rintro e s'' ⟨rfl, rfl⟩
    exact ⟨.inr rfl, k⟩
  · cases h

theorem goN_sound (hr : RecOk P rec) {c : Code} {T : List AV} {H : AH} {s : St} {K : St → Prop} (h : goN rec c T H = some s) (k : K s) : AWp P none c (fun e s => e = .normal ∧ K s) ⟨T, [], H⟩ := by
  unfold goN at h
  split at h
  · rename_i s' hs
    cases h
    refine (hr _ _ _ _ _ hs).mono ?_
    rintro e s'' ⟨rfl, rfl⟩
    exact ⟨rfl, k⟩
  · cases h

theorem dfrG_sound (hr : RecOk P rec) {g : FuncId} {args : List AV} {H H' : AH} {K : AH → Prop} (h : dfrG P (goX rec) g args H = some H') (k : K H') : ADef P g args H K := by
  unfold dfrG at h
  split at h
  · rename_i fn hf
    split at h
    · rename_i id ops rest hb
      obtain ⟨⟨T1, H1⟩, h1, h⟩ := Option.bind_eq_some_iff.1 h
      obtain ⟨s, h2, h⟩ := Option.bind_eq_some_iff.1 h
      split at h
      · rename_i hm
        obtain ⟨us, h3, rfl⟩ := Option.map_eq_some_iff.1 h
        exact ADef.of_ops hf hb h1 (goX_sound (K := fun s => s.M = [] ∧ (∃ us, resVs P s.T s.H fn.results.toList = some us) ∧ K s.H) hr h2 ⟨hm, ⟨us, h3⟩, k⟩)
      · cases h
    · cases h
  · cases h

theorem dfrB_sound (hr : RecOk P rec) {g : FuncId} {args : List AV} {H H' : AH} {K : AH → Prop} (h : dfrB P (goX rec) g args H = some H') (k : K H') : ADef P g args H K := by
  unfold dfrB at h
  split at h
  · rename_i fn hf
    split at h
    · rename_i c hb
      obtain ⟨s, h2, h⟩ := Option.bind_eq_some_iff.1 h
      split at h
      · rename_i hm
        obtain ⟨us, h3, rfl⟩ := Option.map_eq_some_iff.1 h
        exact ADef.body hf hb (goX_sound (K := fun s => s.M = [] ∧ (∃ us, resVs P s.T s.H fn.results.toList = some us) ∧ K s.H) hr h2 ⟨hm, ⟨us, h3⟩, k⟩)
      · cases h
    · cases h
  · cases h

theorem leaveG_sound (hr : RecOk P rec) {K : AH → Prop} : ∀ {M : List Mk} {H H' : AH}, leaveG P (goX rec) M H = some H' → K H' → Leave P M H K
  | [], H, H', h, k => by simp only [leaveG, Option.some.injEq] at h; subst h; exact k
  | .mark m :: M, H, H', h, k => by
    simp only [leaveG] at h
    split at h
    · rename_i hg; exact ⟨hg, leaveG_sound hr h k⟩
    · cases h
  | .call g a y :: M, H, H', h, k => by
    simp only [leaveG] at h
    split at h
    · rename_i hgo
      obtain ⟨H1, h1, h⟩ := Option.bind_eq_some_iff.1 h
      exact ⟨goB_spec hgo, dfrB_sound hr h1 (leaveG_sound hr h k)⟩
    · cases h

theorem dBodyG_sound (hr : RecOk P rec) {f : FuncId} {fn : Func} {c A rest : Code} {ops : Array Oper} {o : Oper} {args : List AV} {H : AH} {v : AV} {H' : AH} (hf : P.funcs[f]? = some fn) (hb : fn.body = some c)
    (hd : dHead fn c = some (A, ops, o, rest)) (h : dBodyG P (goN rec) (goX rec) fn A ops o rest args H = some (v, H')) : ACall P f args H (fun v' H'' => v' = v ∧ H'' = H') := by
  unfold dHead at hd
  split at hd
  · split at hd
    · rename_i A' id ops' rest'
      split at hd
      · rename_i o' hlast
        split at hd
        · simp only [Option.some.injEq, Prod.mk.injEq] at hd
          obtain ⟨rfl, rfl, rfl, rfl⟩ := hd
          unfold dBodyG at h
          split at h
          · rename_i dst fo xs ts ty pos after _
            obtain ⟨s0', h00, h⟩ := Option.bind_eq_some_iff.1 h
            obtain ⟨s0, h0, h⟩ := Option.bind_eq_some_iff.1 h
            have hm0 : s0.M = [] ∧ s0' = s0 := by
              split at h0
              · cases h0; exact ⟨by assumption, rfl⟩
              · cases h0
            obtain ⟨hm0, rfl⟩ := hm0
            obtain ⟨⟨T1, H1⟩, h1, h⟩ := Option.bind_eq_some_iff.1 h
            obtain ⟨fv, h2, h⟩ := Option.bind_eq_some_iff.1 h
            obtain ⟨vs, h3, h⟩ := Option.bind_eq_some_iff.1 h
            split at h
            · rename_i g x y _
              split at h
              · rename_i hgo
                obtain ⟨s, h4, h⟩ := Option.bind_eq_some_iff.1 h
                obtain ⟨H2, h5, h⟩ := Option.bind_eq_some_iff.1 h
                obtain ⟨H3, h6, h⟩ := Option.bind_eq_some_iff.1 h
                obtain ⟨us, h7, h⟩ := Option.map_eq_some_iff.1 h
                simp only [Prod.mk.injEq] at h
                refine ACall.bodyD (dst := dst) (fo := fo) (xs := xs) (ts := ts) (ty := ty) (pos := pos) (after := after) hf hb (by obtain ⟨ys, hys⟩ := List.getLast?_eq_some_iff.1 hlast; rw [hys]; simp)
                  (goN_sound (K := fun s => s.M = [] ∧ _) hr h00 ⟨hm0, opsD_ops h1 ⟨g, x, y, vs, goB_spec hgo, h2, h3, ?_⟩⟩)
                exact goX_sound (K := fun s => ∃ H2, takeMarks s.M s.H = some H2 ∧ ADef P g (x ++ vs ++ y) H2 fun H3 => ∃ us, resVs P s.T H3 fn.results.toList = some us ∧ oneOf us = v ∧ H3 = H') hr h4
                  ⟨H2, h5, dfrG_sound hr h6 ⟨us, h7, h.1, h.2⟩⟩
              · cases h
            · cases h
          · cases h
        · cases hd
      · cases hd
    · cases hd
  · cases hd

theorem enterX_go (hr : RecOk P rec) {f : FuncId} {args : List AV} {H : AH} {v : AV} {H' : AH} (hgo : goB P f = true) (h : enterX P X rec f args H = some (v, H')) :
    ACall P f args H (fun v' H'' => v' = v ∧ H'' = H') := by
  unfold enterX at h
  cases hf : P.funcs[f]? with
  | none => rw [hf] at h; cases h
  | some fn =>
    rw [hf] at h
    simp only at h
    cases hb : fn.body with
    | none => unfold goB at hgo; rw [hf] at hgo; simp [hb] at hgo
    | some c =>
      rw [hb] at h
      simp only [hgo, if_true] at h
      split at h
      · rename_i A ops o rest hd
        exact dBodyG_sound hr hf hb hd h
      refine ACall.bodyC hf hb ?_
      split at h
      all_goals first | cases h | skip
      all_goals
        rename_i s' hs
        obtain ⟨H₁, h1, h⟩ := Option.bind_eq_some_iff.1 h
        obtain ⟨vs, h2, h'⟩ := Option.map_eq_some_iff.1 h
        simp only [Prod.mk.injEq] at h'
        refine (hr _ _ _ _ _ hs).mono ?_
        rintro e s'' ⟨rfl, rfl⟩
        exact ⟨by simp, leaveG_sound hr h1 ⟨vs, h2, h'.1, h'.2⟩⟩

theorem enterX_sound (hr : RecOk P rec) (hX : ExtOk P X) {f : FuncId} {args : List AV} {H : AH} {v : AV} {H' : AH} (h : enterX P X rec f args H = some (v, H')) :
    ACallee P f args H (fun v' H'' => v' = v ∧ H'' = H') := by
  cases hgo : goB P f with
  | true => exact .inl ⟨goB_spec hgo, enterX_go hr hgo h⟩
  | false =>
    unfold enterX at h
    cases hf : P.funcs[f]? with
    | none => rw [hf] at h; cases h
    | some fn =>
      rw [hf] at h
      simp only at h
      cases hb : fn.body with
      | none => rw [hb] at h; exact hX _ _ _ _ _ h
      | some c => rw [hb] at h; simp [hgo] at h

theorem callX_sound (hr : RecOk P rec) (hX : ExtOk P X) {f : FuncId} {args : List AV} {H : AH} {v : AV} {H' : AH} (h : callX P X rec f args H = some (v, H')) :
    ACallee P f args H (fun v' H'' => v' = v ∧ H'' = H') := by
  unfold callX at h
  split at h
  · rename_i r hr'; cases h; exact hX _ _ _ _ _ hr'
  · exact enterX_sound hr hX h

theorem endRoundX_sound {b : Nat} {e : AEx} {s : St} {v : AV} {H' : AH} (h : endRoundX b e s = some (v, H')) : roundA b (fun v' H'' => v' = v ∧ H'' = H') e s := by
  unfold endRoundX at h
  split at h
  · rename_i st pe T' ps as bd d hg
    refine ⟨st, pe, T', ps, as, bd, d, hg, ?_⟩
    cases e <;> simp only [Option.some.injEq, Prod.mk.injEq] at h ⊢ <;> exact ⟨h.1, h.2⟩
  · cases h

theorem opX_sound (hr : RecOk P rec) (hX : ExtOk P X) {r : Option Nat} {o : Oper} {T : List AV} {H : AH} {v : AV} {H' : AH} (h : opX P X rec o T H = some (v, H')) :
    AOp P r o T H (fun v' H'' => v' = v ∧ H'' = H') := by
  obtain ⟨dst, op, ty, pos, after, guard⟩ := o
  unfold opX at h
  split at h
  · rename_i f xs ts e
    simp only at e
    subst e
    obtain ⟨fv, hf, h⟩ := Option.bind_eq_some_iff.1 h
    obtain ⟨vs, hx, h⟩ := Option.bind_eq_some_iff.1 h
    split at h
    · exact AOp.callee hf hx (callX_sound hr hX h)
    · rename_i b
      unfold yieldX at h
      split at h
      · rename_i st pe T' ps as bd d hg
        split at h
        · rename_i hl
          split at h
          · rename_i s hs
            split at h
            · rename_i pe₁ T₁ ps₁ as₁ bd₁ d₁ hg₁
              obtain ⟨⟨e, s₂⟩, h2, h⟩ := Option.bind_eq_some_iff.1 h
              refine AOp.yield hf hx hg hl ((hr _ _ _ _ _ hs).mono ?_)
              rintro e' s' ⟨rfl, rfl⟩
              refine ⟨pe₁, T₁, ps₁, as₁, bd₁, d₁, hg₁, (hr _ _ _ _ _ h2).mono ?_⟩
              rintro e' s' ⟨rfl, rfl⟩
              exact endRoundX_sound h
            · cases h
          · cases h
        · cases h
      · cases h
    · obtain ⟨q, hq, hc⟩ := Option.bind_eq_some_iff.1 h
      obtain ⟨name, t, rfl, rfl, hm⟩ := boundM_spec hq
      exact AOp.byMethod hf hm hx (callX_sound hr hX hc)
    · cases h
  · rename_i f name xs ts e
    simp only at e
    subst e
    obtain ⟨fv, hf, h⟩ := Option.bind_eq_some_iff.1 h
    obtain ⟨vs, hx, h⟩ := Option.bind_eq_some_iff.1 h
    split at h
    · obtain ⟨g, hg, h⟩ := Option.bind_eq_some_iff.1 h
      exact AOp.byIface hf hg hx (callX_sound hr hX h)
    · cases h
  · exact AOp.of_opV h ⟨rfl, rfl⟩

theorem opsX_sound (hr : RecOk P rec) (hX : ExtOk P X) {r : Option Nat} {ops : Array Oper} {K : List AV → AH → Prop} : ∀ {l : List Oper} {T : List AV} {H : AH} {T' : List AV} {H' : AH}, opsX P X rec ops l T H = some (T', H') → K T' H' → AOps P r ops K l T H
  | [], T, H, T', H', h, hk => by simp only [opsX, Option.some.injEq, Prod.mk.injEq] at h; obtain ⟨rfl, rfl⟩ := h; exact hk
  | o :: l, T, H, T', H', h, hk => by
    simp only [opsX] at h
    split at h
    · rename_i hw
      obtain ⟨⟨v, H₁⟩, h1, h⟩ := Option.bind_eq_some_iff.1 h
      refine .inl ⟨hw, (opX_sound hr hX h1).mono ?_⟩
      rintro v' H'' ⟨rfl, rfl⟩
      exact opsX_sound hr hX h hk
    · rename_i hw
      exact .inr ⟨hw, opsX_sound hr hX h hk⟩
    · cases h

theorem pendB_sound {ops : Array Oper} {A : List Nat} {i : Nat} {H : AH} : ∀ {pend : Pend}, (∀ p ∈ pend, quietOp p.2.1.op = true ∧ (wantedV ops p.2.2.1 p.2.1 = some false → p.2.2.2 = .undef)) → pendB P ops A i H pend = true → pendOk P ops (ancOf A) i H pend
  | [], _, _ => fun p hp => by cases hp
  | (j, o, T, v) :: pend, hq, h => by
    simp only [pendB, Bool.and_eq_true] at h
    intro p hp ha
    rcases List.mem_cons.1 hp with rfl | hp
    · simp only at ha
      simp only [ha, Bool.false_or] at h
      obtain ⟨h, _⟩ := h
      obtain ⟨q1, q2⟩ := hq _ (by simp : ((j, o, T, v) : Nat × Oper × List AV × AV) ∈ (j, o, T, v) :: pend)
      split at h
      · rename_i hw
        split at h
        · rename_i u H'' hu
          simp only [Bool.and_eq_true] at h
          have := quietOp_spec q1 hu h.2
          subst this
          exact .inr ⟨hw, by rw [hu, beqV_eq h.1]⟩
        · cases h
      · rename_i hw; exact .inl ⟨hw, q2 hw⟩
      · cases h
    · exact pendB_sound (fun p hp => hq p (List.mem_cons_of_mem _ hp)) h.2 p hp ha

theorem drawX_sound (hr : RecOk P rec) (hX : ExtOk P X) {r : Option Nat} {ops : Array Oper} {A : List Nat} {K : List AV → AH → Prop} : ∀ {σ : List (Nat × Nat)} {pend : Pend} {T : List AV} {H : AH} {T' : List AV} {H' : AH},
    (∀ p ∈ σ, p.2 = 2 ∨ ∀ o, ops[p.1]? = some o → quietOp o.op = true) → (∀ p ∈ pend, quietOp p.2.1.op = true ∧ (wantedV ops p.2.2.1 p.2.1 = some false → p.2.2.2 = .undef)) →
    drawX P X rec ops A σ pend T H = some (T', H') → K T' H' → ADraw P r ops (ancOf A) K σ pend T H
  | [], pend, T, H, T', H', _, _, h, hk => by simp only [drawX, Option.some.injEq, Prod.mk.injEq] at h; obtain ⟨rfl, rfl⟩ := h; exact hk
  | (i, k) :: σ, pend, T, H, T', H', hσ, hp, h, hk => by
    simp only [drawX] at h
    split at h
    · cases h
    rename_i o ho
    have hσ' : ∀ p ∈ σ, p.2 = 2 ∨ ∀ o, ops[p.1]? = some o → quietOp o.op = true := fun p hp => hσ p (List.mem_cons_of_mem _ hp)
    refine ⟨o, ho, ?_⟩
    split at h
    · cases h
    · rename_i hw
      by_cases h2 : k = 2
      · rw [if_pos (.inl h2)] at h
        rw [if_pos h2]
        exact .inl ⟨hw, drawX_sound hr hX hσ' hp h hk⟩
      · rw [if_neg h2]
        refine ⟨.undef, .inl ⟨hw, rfl⟩, ?_⟩
        have hq := (hσ (i, k) (by simp)).resolve_left h2 o ho
        by_cases h0 : k = 0
        · rw [if_pos (.inr h0)] at h; rw [if_pos h0]; exact drawX_sound hr hX hσ' hp h hk
        · rw [if_neg (by omega)] at h; rw [if_neg h0]
          refine drawX_sound hr hX hσ' (fun p hp' => ?_) h hk
          rcases List.mem_cons.1 hp' with rfl | hp'
          · exact ⟨hq, fun _ => rfl⟩
          · exact hp p hp'
    · rename_i hw
      by_cases h2 : k = 2
      · rw [if_pos h2] at h ⊢
        obtain ⟨⟨v, H₁⟩, h1, h⟩ := Option.bind_eq_some_iff.1 h
        simp only at h
        split at h
        · rename_i hpb
          refine .inr ⟨hw, (opX_sound hr hX h1).mono ?_⟩
          rintro v' H'' ⟨rfl, rfl⟩
          exact ⟨pendB_sound hp hpb, drawX_sound hr hX hσ' hp h hk⟩
        · cases h
      · rw [if_neg h2] at h ⊢
        obtain ⟨⟨v, H₁⟩, h1, h⟩ := Option.bind_eq_some_iff.1 h
        have hq := (hσ (i, k) (by simp)).resolve_left h2 o ho
        simp only at h
        split at h
        case isFalse => cases h
        rename_i hcv
        have hHH := quietOp_spec hq h1 hcv
        subst hHH
        refine ⟨v, .inr ⟨hw, h1⟩, ?_⟩
        by_cases h0 : k = 0
        · simp only [h0, if_true] at h ⊢; exact drawX_sound hr hX hσ' hp h hk
        · simp only [h0, if_false] at h ⊢
          refine drawX_sound hr hX hσ' (fun p hp' => ?_) h hk
          rcases List.mem_cons.1 hp' with rfl | hp'
          · exact ⟨hq, fun h' => by rw [hw] at h'; cases h'⟩
          · exact hp p hp'

theorem deferX_sound (hr : RecOk P rec) (hX : ExtOk P X) {id : Nat} {ops : Array Oper} {o : Oper} {s s₂ : St} {T : List AV} {H : AH} (ho : deferOf ops = some o) (hs : opsX P X rec ops ops.toList.dropLast s.T s.H = some (T, H)) (hp : pushV P o s.M T H = some s₂) :
    AWp P none (.region id ops false) (fun e s' => e = .normal ∧ s' = s₂) s := by
  unfold deferOf at ho
  split at ho
  · rename_i d c t p a hlast
    cases ho
    unfold pushV at hp
    split at hp
    · rename_i dst fo xs ts ty pos after heq
      cases heq
      obtain ⟨fv, h2, hp⟩ := Option.bind_eq_some_iff.1 hp
      obtain ⟨vs, h3, hp⟩ := Option.bind_eq_some_iff.1 hp
      split at hp
      · rename_i g x y _
        cases hp
        refine AWp.defers (pre := ops.toList.dropLast) (ts := ts) (ty := t) (pos := p) (after := a) (by obtain ⟨ys, hys⟩ := List.getLast?_eq_some_iff.1 hlast; rw [hys]; simp) (opsX_sound hr hX hs ⟨g, x, y, vs, h2, h3, rfl, rfl⟩)
      · cases hp
    · cases hp
  · cases ho

theorem quietS_spec {ops : Array Oper} {σ : List (Nat × Nat)} (h : quietS ops σ = true) : ∀ p ∈ σ, p.2 = 2 ∨ ∀ o, ops[p.1]? = some o → quietOp o.op = true := by
  intro p hp
  have := List.all_eq_true.1 h p hp
  simp only [Bool.or_eq_true, beq_iff_eq] at this
  refine this.imp (fun h => h) fun h o ho => ?_
  rw [ho] at h; exact h

theorem floatX_sound (hm : P.follows .mixedOrders = true) (hr : RecOk P rec) (hX : ExtOk P X) {r : Option Nat} {id : Nat} {ops : Array Oper} {p : FPlan} {s : St} {T' : List AV} {H' : AH} (hp : planOf P ops = some p) (h : floatX P X rec ops p s.T s.H = some (T', H')) :
    AWp P r (.region id ops true) (fun e s' => e = .normal ∧ s' = ⟨T', s.M, H'⟩) s := by
  obtain ⟨h0, hp⟩ := planOf_spec hp
  simp only [planB, Bool.and_eq_true, decide_eq_true_eq] at hp
  obtain ⟨⟨⟨⟨⟨⟨⟨⟨⟨h1, h2⟩, h3⟩, h4⟩, h5⟩, h6⟩, h7⟩, h8⟩, h9⟩, h10⟩ := hp
  have hs : FltSys P .any ops p.n p.fls := by rw [h0]; exact fsysB_spec (h0 ▸ h1)
  unfold floatX at h
  obtain ⟨⟨T₁, H₁⟩, hd, h⟩ := Option.bind_eq_some_iff.1 h
  simp only at h
  split at h
  · rename_i hl
    refine AWp.floats hm hs (ancB_spec h2) h4 (closed_l1 h6) (ancB_spec h3) h5 (closed_done hs.le h7) h8 (drawX_sound hr hX (quietS_spec h9) (fun p hp => by cases hp) hd ⟨lateB_spec hl, ?_⟩)
    exact drawX_sound hr hX (quietS_spec h10) (fun p hp => by cases hp) h ⟨rfl, rfl⟩
  · cases h

theorem loopX_sound (hr : RecOk P rec) {r : Option Nat} {c : Code} {m : Nat} {s : St} {e : AEx} {s' : St} (h : loopX rec r c m s = some (e, s')) : AWp P r (.loop c) (fun e' s'' => e' = e ∧ s'' = s') s := by
  refine AWp.loop (j := m) (fun j s => loopX rec r c j s = some (e, s')) h ?_
  intro j s hj
  cases j with
  | zero => cases hj
  | succ j =>
    simp only [loopX] at hj
    split at hj
    · rename_i s₁ hs
      refine (hr _ _ _ _ _ hs).mono ?_
      rintro e' s'' ⟨rfl, rfl⟩
      exact ⟨j, Nat.lt_succ_self j, hj⟩
    · rename_i hne
      refine (hr _ _ _ _ _ hj).mono ?_
      rintro e' s'' ⟨rfl, rfl⟩
      cases e' with
      | normal => exact (hne _ hj).elim
      | exit id => exact ⟨rfl, rfl⟩
      | goto l => exact ⟨rfl, rfl⟩
      | ret => exact ⟨rfl, rfl⟩

theorem scopeX_sound (hr : RecOk P rec) {r : Option Nat} {c : Code} {m : Nat} {s : St} {e : AEx} {s' : St} (h : scopeX rec r c m c s = some (e, s')) : AWp P r (.scope c) (fun e' s'' => e' = e ∧ s'' = s') s := by
  have step : ∀ {m : Nat} {cur : Code} {s : St}, scopeX rec r c (m + 1) cur s = some (e, s') →
      AWp P r cur (jumpsA c (fun l s => ∃ rest, findLabel c l = some rest ∧ scopeX rec r c m rest s = some (e, s')) (fun e' s'' => e' = e ∧ s'' = s')) s := by
    intro m cur s h
    simp only [scopeX] at h
    split at h
    · rename_i l s₁ hs
      refine (hr _ _ _ _ _ hs).mono ?_
      rintro e' s'' ⟨rfl, rfl⟩
      simp only [jumpsA]
      split at h
      · rename_i rest hf
        rw [if_pos (by rw [hf]; rfl)]
        exact ⟨rest, hf, h⟩
      · rename_i hf
        rw [if_neg (by rw [hf]; simp)]
        simp only [Option.some.injEq, Prod.mk.injEq] at h
        exact ⟨h.1, h.2⟩
    · rename_i hne
      refine (hr _ _ _ _ _ h).mono ?_
      rintro e' s'' ⟨rfl, rfl⟩
      cases e' with
      | normal => exact ⟨rfl, rfl⟩
      | exit id => exact ⟨rfl, rfl⟩
      | goto l => exact (hne _ _ h).elim
      | ret => exact ⟨rfl, rfl⟩
  refine AWp.scope (fun j l s => ∃ rest, findLabel c l = some rest ∧ scopeX rec r c j rest s = some (e, s')) ?_ ?_
  · cases m with
    | zero => cases h
    | succ m =>
      refine (step h).mono fun e' s'' hq => ?_
      cases e' with
      | goto l =>
        simp only [jumpsA] at hq ⊢
        split at hq
        · rename_i hl; rw [if_pos hl]; exact ⟨m, hq⟩
        · rename_i hl; rw [if_neg hl]; exact hq
      | normal => exact hq
      | exit id => exact hq
      | ret => exact hq
  · rintro j l s rest hf ⟨rest', hf', hj⟩
    rw [hf] at hf'; cases hf'
    cases j with
    | zero => cases hj
    | succ j =>
      refine (step hj).mono fun e' s'' hq => ?_
      cases e' with
      | goto l =>
        simp only [jumpsA] at hq ⊢
        split at hq
        · rename_i hl; rw [if_pos hl]; exact ⟨j, Nat.lt_succ_self j, hq⟩
        · rename_i hl; rw [if_neg hl]; exact hq
      | normal => exact hq
      | exit id => exact hq
      | ret => exact hq

theorem endRangeX_sound (hr : RecOk P rec) {r : Option Nat} {l : Nat} {T : List AV} {M : List Mk} {H : AH} {v : AV} {e : AEx} {s' : St} (h : endRangeX rec r l T M H = some (e, s')) :
    rangeA P r l T M (fun e' s'' => e' = e ∧ s'' = s') v H := by
  unfold endRangeX at h
  split at h
  · rename_i st pe T' ps as bd d hg
    split at h
    · cases h
    · rename_i hb
      refine ⟨st, pe, T', ps, as, bd, d, hg, fun hb' => ?_, ?_⟩
      · subst hb'; exact hb rfl
      · cases pe with
        | none => simp only [Option.some.injEq, Prod.mk.injEq] at h ⊢; exact ⟨h.1, h.2⟩
        | some c => exact hr _ _ _ _ _ h
  · cases h

theorem rangeX_sound (hr : RecOk P rec) {r : Option Nat} {g : Operand} {ps : Array Tmp} {as bd : Code} {s : St} {e : AEx} {s' : St} (h : rangeX P X rec r g ps as bd s = some (e, s')) :
    AWp P r (.rangeFunc g ps as bd) (fun e' s'' => e' = e ∧ s'' = s') s := by
  unfold rangeX at h
  obtain ⟨gv, hg, h⟩ := Option.bind_eq_some_iff.1 h
  split at h
  · rename_i gf x y
    split at h
    · rename_i hgo
      obtain ⟨⟨v, H⟩, hc, h⟩ := Option.bind_eq_some_iff.1 h
      refine AWp.rangeFunc (goB_spec hgo) hg ((enterX_go hr hgo hc).mono ?_)
      rintro v' H'' ⟨rfl, rfl⟩
      exact endRangeX_sound hr h
    · cases h
  · rename_i gf x y b₀
    split at h
    · rename_i st pe T' ps' as' bd' d₀ hb₀
      split at h
      · rename_i hgo
        obtain ⟨⟨v, H⟩, hc, h⟩ := Option.bind_eq_some_iff.1 h
        refine AWp.rangeFunc_in hb₀ (goB_spec hgo) hg ((enterX_go hr hgo hc).mono ?_)
        rintro v' H'' ⟨rfl, rfl⟩
        exact endRangeX_sound hr h
      · cases h
    · cases h
  · cases h

theorem run_sound (hm : P.follows .mixedOrders = true) (hX : ExtOk P X) : ∀ n, RecOk P (run P X n)
  | 0 => fun r c s e s' h => by cases h
  | n + 1 => fun r c s e s' h => by
    have ih := run_sound hm hX n
    cases c with
    | skip => simp only [run, Option.some.injEq, Prod.mk.injEq] at h; exact AWp.skip ⟨h.1, h.2⟩
    | label l => simp only [run, Option.some.injEq, Prod.mk.injEq] at h; exact AWp.label ⟨h.1, h.2⟩
    | exit id => simp only [run, Option.some.injEq, Prod.mk.injEq] at h; exact AWp.exit ⟨h.1, h.2⟩
    | goto l => simp only [run, Option.some.injEq, Prod.mk.injEq] at h; exact AWp.goto ⟨h.1, h.2⟩
    | ret => simp only [run, Option.some.injEq, Prod.mk.injEq] at h; exact AWp.ret ⟨h.1, h.2⟩
    | refuse why => cases h
    | seq a b =>
      simp only [run] at h
      refine AWp.seq ?_
      split at h
      · rename_i s₁ hs
        refine (ih _ _ _ _ _ hs).mono ?_
        rintro e' s'' ⟨rfl, rfl⟩
        exact ih _ _ _ _ _ h
      · rename_i hne
        refine (ih _ _ _ _ _ h).mono ?_
        rintro e' s'' ⟨rfl, rfl⟩
        cases e' with
        | normal => exact (hne _ h).elim
        | exit id => exact ⟨rfl, rfl⟩
        | goto l => exact ⟨rfl, rfl⟩
        | ret => exact ⟨rfl, rfl⟩
    | cond c x y =>
      simp only [run] at h
      split at h
      · rename_i hc; exact AWp.cond hc (ih _ _ _ _ _ h)
      · rename_i hc; exact AWp.cond hc (ih _ _ _ _ _ h)
      · cases h
    | block id c =>
      simp only [run] at h
      obtain ⟨⟨e₁, s₁⟩, hs, h⟩ := Option.map_eq_some_iff.1 h
      refine AWp.block ((ih _ _ _ _ _ hs).mono ?_)
      rintro e' s'' ⟨rfl, rfl⟩
      simp only [Prod.mk.injEq] at h
      cases e' with
      | exit i =>
        simp only [inBlockX] at h
        simp only [inBlockA]
        split
        · rename_i hi; rw [if_pos hi] at h; exact ⟨h.1, h.2⟩
        · rename_i hi; rw [if_neg hi] at h; exact ⟨h.1, h.2⟩
      | normal => exact ⟨h.1, h.2⟩
      | goto l => exact ⟨h.1, h.2⟩
      | ret => exact ⟨h.1, h.2⟩
    | loop c => exact loopX_sound ih h
    | scope c => exact scopeX_sound ih h
    | region id ops draw =>
      cases draw with
      | false =>
        simp only [run] at h
        split at h
        · obtain ⟨⟨T, H⟩, hs, h⟩ := Option.map_eq_some_iff.1 h
          simp only [Prod.mk.injEq] at h
          obtain ⟨rfl, rfl⟩ := h
          exact AWp.region (opsX_sound ih hX hs ⟨rfl, rfl⟩)
        · rename_i o ho
          obtain ⟨⟨T, H⟩, hs, h⟩ := Option.bind_eq_some_iff.1 h
          obtain ⟨s₂, hp, h⟩ := Option.map_eq_some_iff.1 h
          simp only [Prod.mk.injEq] at h
          obtain ⟨rfl, rfl⟩ := h
          exact deferX_sound ih hX ho hs hp
        · cases h
      | true =>
        simp only [run] at h
        split at h
        · rename_i σ A hd
          obtain ⟨⟨T, H⟩, hs, h⟩ := Option.map_eq_some_iff.1 h
          simp only [Prod.mk.injEq] at h
          obtain ⟨rfl, rfl⟩ := h
          obtain ⟨cc, hd⟩ := drawOf_as hd
          unfold drawAs at hd
          simp only at hd
          split at hd
          · rename_i hg
            simp only [Option.some.injEq, Prod.mk.injEq] at hd
            obtain ⟨rfl, rfl⟩ := hd
            simp only [Bool.and_eq_true, decide_eq_true_eq] at hg
            obtain ⟨⟨⟨h1, h2⟩, h3⟩, h4⟩ := hg
            refine AWp.draw hm (ancB_spec h2) h1 h3 (drawX_sound ih hX ?_ (fun p hp => by cases hp) hs ⟨rfl, rfl⟩)
            intro p hp
            have := List.all_eq_true.1 h4 p hp
            simp only [Bool.or_eq_true, beq_iff_eq] at this
            refine this.imp (fun h => h) fun h o ho => ?_
            rw [ho] at h; exact h
          · cases hd
        · obtain ⟨p, hp, h⟩ := Option.bind_eq_some_iff.1 h
          obtain ⟨⟨T, H⟩, hs, h⟩ := Option.map_eq_some_iff.1 h
          simp only [Prod.mk.injEq] at h
          obtain ⟨rfl, rfl⟩ := h
          exact floatX_sound hm ih hX hp hs
    | rangeFunc g ps as bd => exact rangeX_sound ih h

theorem runCall_sound (hm : P.follows .mixedOrders = true) (hX : ExtOk P X) {n : Nat} {f : FuncId} {args : List AV} {H : AH} {v : AV} {H' : AH} (hgo : goB P f = true) (h : runCall P X n f args H = some (v, H')) :
    ACall P f args H (fun v' H'' => v' = v ∧ H'' = H') := enterX_go (run_sound hm hX n) hgo h

end
end Go.Am
end

/- The abstract machine: the model's own functions; where a row's call begins; what it says at its end. -/
section
namespace Go.Am
open Go.RowKit Go.ChangeShapes

/-! ### The model's own functions -/

inductive XK where
  | indexByte
  | countByte
  | same
  | indexString (g : Nat)
  | makeNoZero (ps : Array TypeId) (t e : TypeId)
  | add64
  | sub64
  | aLoad (k : IntKind)
  | aStore
  | aAdd (k : IntKind)
  | aCas (k : IntKind)
  | quiet (b : Bool)
  | race (b : Bool)
  deriving DecidableEq

def XK.sem : XK → Array Value → Sem Value
  | .indexByte => Extern.BytealgIndexByte.indexByte
  | .countByte => Extern.BytealgCount.count
  | .same => Extern.AbiNoEscape.same
  | .indexString _ => Extern.BytealgIndex.index
  | .makeNoZero ps t _ => Extern.BytealgMakeNoZero.makeNoZero ps #[t]
  | .add64 => fun args => do
    let (x, y, c) ← Extern.MathBitsCarry.three "Add64" args
    pure (Extern.MathBitsCarry.pair ((x + y + c) % Extern.MathBitsCarry.m64) ((x + y + c) / Extern.MathBitsCarry.m64))
  | .sub64 => fun args => do
    let (x, y, b) ← Extern.MathBitsCarry.three "Sub64" args
    pure (Extern.MathBitsCarry.pair ((x + Extern.MathBitsCarry.m64 - y - b) % Extern.MathBitsCarry.m64) (if x < y + b then 1 else 0))
  | .aLoad k => Extern.Atomic.loadT (.int k)
  | .aStore => Extern.Atomic.storeT
  | .aAdd k => Extern.Atomic.update (Op.intArith .add) k true
  | .aCas k => Extern.Atomic.casT (.int k)
  | .quiet b => fun _ => do mark (if b then .enable else .disable); pure Extern.Race.none_
  | .race b => Extern.Race.marked (if b then .acquire else .releaseMerge)

def XK.fit (P : Program) : XK → Prop
  | .indexString g => P.globals.findIdx? (·.name == "internal/bytealg.MaxLen") = some g
  | .makeNoZero _ t e => P.underlying t = some (.slice e) ∧ P.cellsOf e = 1
  | _ => True

def XK.val (k : XK) (vs : List AV) (H : AH) : Option (AV × AH) :=
  match k, vs with
  | .indexByte, [.str s, .int .u8 c] => some (.int .i64 (Lib.indexByte s c.toNat.toUInt8), H)
  | .countByte, [.str s, .int .u8 c] => some (.int .i64 (Lib.countByte s c.toNat.toUInt8), H)
  | .same, [x] => some (x, H)
  | .indexString g, [.str a, .str b] =>
    match H.get g with
    | some (.cells [.half lo true] _ _) => if 2 ≤ b.length ∧ (b.length : Int) ≤ lo ∧ a.length < 4294967281 then some (.int .i64 (Lib.index a b), H) else none
    | some (.cells [.int .i64 lo] _ _) => if 2 ≤ b.length ∧ (b.length : Int) ≤ lo ∧ a.length < 4294967281 then some (.int .i64 (Lib.index a b), H) else none
    | _ => none
  | .add64, [.int _ x, .int _ y, .int _ c] =>
    if c.toNat ≤ 1 then some (.tuple [.int .u64 (Int.ofNat ((x.toNat + y.toNat + c.toNat) % 2 ^ 64)), .int .u64 (Int.ofNat ((x.toNat + y.toNat + c.toNat) / 2 ^ 64))], H) else none
  | .sub64, [.int _ x, .int _ y, .int _ c] =>
    if c.toNat ≤ 1 then some (.tuple [.int .u64 (Int.ofNat ((x.toNat + 2 ^ 64 - y.toNat - c.toNat) % 2 ^ 64)), .int .u64 (Int.ofNat (if x.toNat < y.toNat + c.toNat then 1 else 0))], H) else none
  | .makeNoZero _ _ e, [.int .i64 n] => if 0 ≤ n ∧ n ≤ 16777216 then some (.slice (some (H.n, 0)) n.toNat n.toNat, H.alloc (.cells (List.replicate n.toNat .unk) e { opn := true })) else none
  | .aLoad k, [.ptr (some (b, o))] =>
    match H.read1 b o with
    | some (.int k' n) => if k' = k then some (.int k n, H) else none
    | _ => none
  | .aStore, [.ptr (some (b, o)), .int k n] => (H.write b o [.int k n]).map fun H' => (.tuple [], H')
  | .aAdd k, [.ptr (some (b, o)), .int k₂ d] =>
    match H.read1 b o with
    | some (.int k' n) => if k' = k ∧ k₂ = k then (H.write b o [.int k (k.wrap (n + d))]).map fun H' => (.int k (k.wrap (n + d)), H') else none
    | _ => none
  | .aCas k, [.ptr (some (b, o)), .int k₁ old, .int k₂ new] =>
    match H.read1 b o with
    | some (.int k' n) => if k' = k ∧ k₁ = k ∧ k₂ = k ∧ n = old then (H.write b o [.int k new]).map fun H' => (.bool true, H') else none
    | _ => none
  | .quiet _, [] => some (.tuple [], H)
  | .race _, [.ptr (some _)] => some (.tuple [], H)
  | _, _ => none

def extOf (l : List (FuncId × XK)) : Ext := fun g vs H => (l.lookup g).bind fun k => k.val vs H

theorem digits_u8 : ∀ (n t : Nat) (acc : Array Value), (∀ v ∈ acc.toList, ∃ m, v = .int .u8 m) → ∀ v ∈ (Extern.BytealgMakeNoZero.digits n t acc).toList, ∃ m, v = .int .u8 m
  | 0, _, _, h => h
  | n + 1, t, acc, h => by
    rw [Extern.BytealgMakeNoZero.digits]
    refine digits_u8 n _ _ fun v hv => ?_
    simp only [Array.toList_push, List.mem_append, List.mem_singleton] at hv
    rcases hv with hv | rfl
    · exact h v hv
    · exact ⟨_, rfl⟩

theorem unks_sim {E : Env} : ∀ (n : Nat) {l : List Value}, (∀ v ∈ l, ∃ m, v = .int .u8 m) → n ≤ l.length → VRs E (List.replicate n .unk) (l.take n)
  | 0, _, _, _ => rfl
  | n + 1, [], _, h => by simp at h
  | n + 1, v :: l, hl, h => ⟨v, l.take n, rfl, hl v (by simp), unks_sim n (fun u hu => hl u (by simp [hu])) (by simpa using h)⟩

theorem run_noZero {P : Program} (w : World) (ps : Array TypeId) (t e : TypeId) (ht : P.underlying t = some (.slice e)) (n : Nat) (hn : n ≤ 281474976710656) :
    ∃ cs : Array Value, (Extern.BytealgMakeNoZero.makeNoZero ps #[t] #[.int .i64 n]).run P w = .ok (.slice (some ⟨w.heap.size, 0, none⟩) n cs.size) (w.drew.drew.alloc (.cells cs e)) ∧ n ≤ cs.size ∧ ∀ v ∈ cs.toList, ∃ m, v = .int .u8 m := by
  have hdef : Extern.BytealgMakeNoZero.makeNoZero ps #[t] #[.int .i64 n] =
      (do
        let .slice elem ← underlying t | stuck "bytealg.MakeNoZero: slice type expected"
        if (n : Int) < 0 || (n : Int) > 2 ^ 48 then runtimePanic (.error "makeslice: len out of range")
        let cap ← choose (.appendCap (n : Int).toNat 0 elem)
        askRoom cap
        let bytes ← choose (.extern "internal/bytealg.MakeNoZero.bytes" 0)
        let a ← newRow elem (Extern.BytealgMakeNoZero.digits cap bytes #[])
        pure (.slice (some a) (n : Int).toNat cap)) := rfl
  refine ⟨Extern.BytealgMakeNoZero.digits (grownCap w n 0 e) ((Question.extern "internal/bytealg.MakeNoZero.bytes" 0).cut (w.tape (w.drawn + 1) (.extern "internal/bytealg.MakeNoZero.bytes" 0))) #[], ?_, ?_, ?_⟩
  · rw [hdef]
    have h1 : ¬ (n : Int) < 0 := by omega
    have h2 : ¬ (281474976710656 : Int) < (n : Int) := by omega
    simp [run_underlying ht, h1, h2, Question.forced, newRow, Lib.size_digits, grownCap]
  · rw [Lib.size_digits]
    simpa using grownCap_ge w n 0 e
  · exact digits_u8 _ _ _ (by simp)

theorem run_three {P : Program} (name : String) (k1 k2 k3 : IntKind) (x y c : Int) (hc : c.toNat ≤ 1) (w : World) : (Extern.MathBitsCarry.three name #[.int k1 x, .int k2 y, .int k3 c]).run P w = .ok (x.toNat, y.toNat, c.toNat) w := by
  have : Extern.MathBitsCarry.three name #[.int k1 x, .int k2 y, .int k3 c] = (do
      let c := (← asInt (.int k3 c)).toNat
      if c > 1 then unsupported (.noEntry ("extern/math/bits." ++ name ++ ": a carry that is neither 0 nor 1"))
      pure ((← asInt (.int k1 x)).toNat, (← asInt (.int k2 y)).toNat, c)) := rfl
  have hc' : ¬ (1 < c.toNat) := by omega
  rw [this]
  simp [asInt, asIntOf]
  omega

theorem run_writeA {P : Program} {E : Env} {B : Bnd} {H H' : AH} {w : World} (h : HR P E B H w) {b o : Nat} {k : IntKind} {n : Int} (hw : H.write b o [.int k n] = some H') :
    ∃ L u, E b = some L ∧ w.cell? ⟨L.blk, L.off + o, none⟩ = some u ∧ w.frozen? ⟨L.blk, L.off + o, none⟩ = false ∧ HR P E B H' (w.setCell ⟨L.blk, L.off + o, none⟩ (.int k n)) ∧ Below B w (w.setCell ⟨L.blk, L.off + o, none⟩ (.int k n)) := by
  obtain ⟨L, w', hL, hst, hH', hb'⟩ := run_write h hw (ys := [.int k n]) ⟨_, _, rfl, rfl, rfl⟩
  unfold AH.write at hw
  split at hw
  · rename_i cs e fl hb
    split at hw
    · rename_i hc
      obtain ⟨hown, hfz, hlen, hone⟩ := hc
      obtain ⟨L', hL', ho⟩ := h.obj _ _ hb
      rw [hL] at hL'; cases hL'
      obtain ⟨X, lo, hi, h1, h2, h3, h4, h5, h6, h7, h8⟩ := ho
      obtain ⟨hB, hF, hS⟩ := h6 hown
      simp only [List.length_singleton] at hlen
      have hlt : L.off + o < X.size := by omega
      have hcell : w.cell? ⟨L.blk, L.off + o, none⟩ = some X[L.off + o] := by simp only [World.cell?, h1]; simp [hlt]
      have hf : w.frozen? ⟨L.blk, L.off + o, none⟩ = false := by
        have := hF (L.off + o) (by omega) hlt
        simp only [World.frozen?, h1]
        simp only [Bool.and_eq_false_iff, decide_eq_false_iff_not]
        by_cases hl : lo ≤ L.off + o
        · exact .inr (fun hh => this ⟨hl, hh⟩)
        · exact .inl hl
      have hadd : (⟨L.blk, L.off + o, none⟩ : Addr).add 0 = ⟨L.blk, L.off + o, none⟩ := by unfold Addr.add; split <;> simp_all
      have hs2 : (storeCells ⟨L.blk, L.off + o, none⟩ [Value.int k n]).run P w = .ok () (w.setCell ⟨L.blk, L.off + o, none⟩ (.int k n)) := by
        simp only [storeCells, Sem.run_bind, hadd, run_store P w _ (.int k n) .plain rfl, hcell, hf, Bool.false_eq_true, if_false, Result.andThen_ok]
        rfl
      rw [hs2] at hst
      cases hst
      exact ⟨L, _, hL, hcell, hf, hH', hb'⟩
    · cases hw
  · cases hw

theorem read1_int {P : Program} {E : Env} {B : Bnd} {H : AH} {w : World} (h : HR P E B H w) {b o : Nat} {k : IntKind} {n : Int} (hr : H.read1 b o = some (.int k n)) {L : Loc} (hL : E b = some L) : w.cell? ⟨L.blk, L.off + o, none⟩ = some (.int k n) := by
  obtain ⟨L', x, hL', hx, hc⟩ := run_read1 h hr
  rw [hL] at hL'; cases hL'
  obtain rfl : x = _ := hx
  exact hc

theorem XK.sim {P : Program} {E : Env} {B : Bnd} {H H' : AH} {w : World} {k : XK} {vs : List AV} {v : AV} {args : Array Value} (h : k.val vs H = some (v, H')) (hf : k.fit P) (hH : HR P E B H w) (ha : VRs E vs args.toList) :
    ∃ x E' w', (k.sem args).run P w = .ok x w' ∧ E.le E' ∧ HR P E' B H' w' ∧ VR E' v x ∧ Below B w w' := by
  unfold XK.val at h
  split at h
  · rename_i s c
    cases h
    obtain ⟨x, xs, hx, rfl, y, ys, rfl, rfl, rfl⟩ := ha
    obtain rfl : args = #[.string ⟨s.toArray⟩, .int .u8 c] := Array.ext' hx
    exact ⟨_, E, w, Lib.run_indexByteString (P := P) ⟨s.toArray⟩ c w, Env.le.refl E, hH, rfl, Below.refl B w⟩
  · rename_i s c
    cases h
    obtain ⟨x, xs, hx, rfl, y, ys, rfl, rfl, rfl⟩ := ha
    obtain rfl : args = #[.string ⟨s.toArray⟩, .int .u8 c] := Array.ext' hx
    exact ⟨_, E, w, Lib.run_countString (P := P) ⟨s.toArray⟩ c w, Env.le.refl E, hH, rfl, Below.refl B w⟩
  · cases h
    obtain ⟨x, xs, hx, hv, rfl⟩ := ha
    obtain rfl : args = #[x] := Array.ext' hx
    exact ⟨x, E, w, rfl, Env.le.refl E, hH, hv, Below.refl B w⟩
  · rename_i g a b
    have key : ∀ {v₀ : AV} {lo : Int} {e : TypeId} {fl : Fl}, H.get g = some (.cells [v₀] e fl) → (∀ z, VR E v₀ z → ∃ m, z = .int .i64 m ∧ lo ≤ m) → (2 ≤ b.length ∧ (b.length : Int) ≤ lo ∧ a.length < 4294967281) → some ((.int .i64 (Lib.index a b), H) : AV × AH) = some (v, H') →
        ∃ x E' w', ((XK.indexString g).sem args).run P w = .ok x w' ∧ E.le E' ∧ HR P E' B H' w' ∧ VR E' v x ∧ Below B w w' := by
      rintro v₀ lo e fl hg hv₀ ⟨h1, h2, h3⟩ h
      cases h
      obtain ⟨x, xs, hx, rfl, y, ys, rfl, rfl, rfl⟩ := ha
      obtain rfl : args = #[.string ⟨a.toArray⟩, .string ⟨b.toArray⟩] := Array.ext' hx
      have hgl : g < P.globals.size := (Array.findIdx?_eq_some_iff_getElem.1 hf).1
      obtain ⟨L, hL, hL1, hL2⟩ := hH.glob g hgl
      obtain ⟨L', hL', X, l', h', k1, _, _, _, k2, _⟩ := hH.obj g _ hg
      rw [hL] at hL'; cases hL'
      rw [hL2] at k2
      obtain ⟨z, zs, k3, k4, _⟩ := k2
      obtain ⟨m, rfl, hlo⟩ := hv₀ z k4
      have hX : X[0]? = some (.int .i64 m) := by
        rw [← Array.getElem?_toList]
        cases hl : X.toList with
        | nil => rw [hl] at k3; simp at k3
        | cons q l => rw [hl] at k3; simp at k3; simp [k3.1]
      have hm : w.cell? ⟨g, 0, none⟩ = some (.int .i64 m) := by
        rw [hL1] at k1
        simp [World.cell?, k1, hX]
      exact ⟨_, E, w, Lib.run_indexString (P := P) ⟨a.toArray⟩ ⟨b.toArray⟩ w g m hf hm h1 (by show ((b.length : Nat) : Int) ≤ m; omega) h3, Env.le.refl E, hH, rfl, Below.refl B w⟩
    split at h
    · rename_i lo e fl hg
      split at h
      · rename_i hc
        exact key hg (fun z hz => by obtain ⟨m, rfl, k⟩ := hz; exact ⟨m, rfl, by simpa using k⟩) hc h
      · cases h
    · rename_i lo e fl hg
      split at h
      · rename_i hc
        exact key hg (fun z hz => ⟨lo, hz, Int.le_refl _⟩) hc h
      · cases h
    · cases h
  · rename_i k1 x k2 y k3 c
    split at h
    · rename_i hc
      cases h
      obtain ⟨_, _, hx, rfl, _, _, rfl, rfl, _, _, rfl, rfl, rfl⟩ := ha
      obtain rfl : args = #[.int k1 x, .int k2 y, .int k3 c] := Array.ext' hx
      refine ⟨Extern.MathBitsCarry.pair ((x.toNat + y.toNat + c.toNat) % 2 ^ 64) ((x.toNat + y.toNat + c.toNat) / 2 ^ 64), E, w, ?_, Env.le.refl E, hH, ⟨_, rfl, _, _, rfl, rfl, _, _, rfl, rfl, rfl⟩, Below.refl B w⟩
      simp only [XK.sem, Sem.run_bind, run_three _ k1 k2 k3 x y c hc w, Result.andThen_ok, Sem.run_pure]
      rfl
    · cases h
  · rename_i k1 x k2 y k3 c
    split at h
    · rename_i hc
      cases h
      obtain ⟨_, _, hx, rfl, _, _, rfl, rfl, _, _, rfl, rfl, rfl⟩ := ha
      obtain rfl : args = #[.int k1 x, .int k2 y, .int k3 c] := Array.ext' hx
      refine ⟨Extern.MathBitsCarry.pair ((x.toNat + 2 ^ 64 - y.toNat - c.toNat) % 2 ^ 64) (if x.toNat < y.toNat + c.toNat then 1 else 0), E, w, ?_, Env.le.refl E, hH, ⟨_, rfl, _, _, rfl, rfl, _, _, rfl, rfl, rfl⟩, Below.refl B w⟩
      simp only [XK.sem, Sem.run_bind, run_three _ k1 k2 k3 x y c hc w, Result.andThen_ok, Sem.run_pure]
      rfl
    · cases h
  · rename_i ps t e n
    split at h
    · rename_i hc
      obtain ⟨h1, h2⟩ := hc
      cases h
      obtain ⟨x, xs, hx, rfl, rfl⟩ := ha
      obtain rfl : args = #[.int .i64 n] := Array.ext' hx
      obtain ⟨ht, he⟩ := hf
      obtain ⟨cs, r1, r2, r3⟩ := run_noZero (P := P) w ps t e ht n.toNat (by omega)
      have hn : ((n.toNat : Nat) : Int) = n := Int.toNat_of_nonneg h1
      rw [hn] at r1
      have hw : HR P E B H w.drew.drew := hH.world rfl
      obtain ⟨k1, k2, k3⟩ := new_row hw (X := cs) (e := e) (fl := { opn := true }) (extra := cs.size - n.toNat) (cs := List.replicate n.toNat .unk)
        (by rw [List.length_replicate]; exact unks_sim _ r3 (by simpa using r2)) (by simp [AV.one]) (by rw [he, List.length_replicate]; omega) (fun h => by cases h) 0 0 (by omega) (by simp)
      refine ⟨_, _, _, r1, k1, k2, ⟨_, _, _, put_get _ _, rfl, Nat.le_refl _, .inr ⟨?_, ?_⟩, rfl, .inl rfl⟩, ?_⟩
      · simp [he]
      · show cs.size = n.toNat + (cs.size - n.toNat); omega
      · exact Below.trans (b := w.drew.drew) ⟨rfl, rfl, rfl, Nat.le_refl _, fun _ _ => rfl⟩ k3
    · cases h
  · rename_i k b o
    split at h
    · rename_i k' n hr
      split at h
      · rename_i he
        subst he
        cases h
        obtain ⟨x, xs, hx, ⟨L, hL, rfl⟩, rfl⟩ := ha
        obtain rfl : args = #[.pointer (some ⟨L.blk, L.off + o, none⟩)] := Array.ext' hx
        refine ⟨.int k' n, E, w, ?_, Env.le.refl E, hH, rfl, Below.refl B w⟩
        change Sem.run P (do Extern.Atomic.read (.int k') (← asAddr (.pointer (some ⟨L.blk, L.off + o, none⟩)))) w = _
        simp [Extern.Atomic.read, asAddr, read1_int hH hr hL]
      · cases h
    · cases h
  · rename_i b o k n
    obtain ⟨H₁, hw, h⟩ := Option.map_eq_some_iff.1 h
    cases h
    obtain ⟨L, u, hL, hc, hz, hH', hb⟩ := run_writeA hH hw
    obtain ⟨x, xs, hx, ⟨L', hL', rfl⟩, _, _, rfl, rfl, rfl⟩ := ha
    rw [hL] at hL'; cases hL'
    obtain rfl : args = #[.pointer (some ⟨L.blk, L.off + o, none⟩), .int k n] := Array.ext' hx
    refine ⟨.tuple #[], E, _, ?_, Env.le.refl E, hH', ⟨#[], rfl, rfl⟩, hb⟩
    change Sem.run P (do
      store (← asAddr (.pointer (some ⟨L.blk, L.off + o, none⟩))) (.int k n) .atomic
      pure Extern.Atomic.none_) w = _
    simp [asAddr, hc, hz, run_store P w _ (.int k n) .atomic rfl, Extern.Atomic.none_]
  · rename_i k b o k₂ d
    split at h
    · rename_i k' n hr
      split at h
      · rename_i he
        obtain ⟨rfl, rfl⟩ := he
        obtain ⟨H₁, hw, h⟩ := Option.map_eq_some_iff.1 h
        cases h
        obtain ⟨L, u, hL, hc, hz, hH', hb⟩ := run_writeA hH hw
        obtain ⟨x, xs, hx, ⟨L', hL', rfl⟩, _, _, rfl, rfl, rfl⟩ := ha
        rw [hL] at hL'; cases hL'
        obtain rfl : args = #[.pointer (some ⟨L.blk, L.off + o, none⟩), .int k₂ d] := Array.ext' hx
        exact ⟨_, E, _, (show Sem.run P (Extern.Atomic.update (Op.intArith .add) k₂ true #[.pointer (some ⟨L.blk, L.off + o, none⟩), .int k₂ d]) w = _ from Conc.run_add_entry (read1_int hH hr hL) hz), Env.le.refl E, hH', rfl, hb⟩
      · cases h
    · cases h
  · rename_i k b o k₁ old k₂ new
    split at h
    · rename_i k' n hr
      split at h
      · rename_i he
        obtain ⟨rfl, rfl, rfl, rfl⟩ := he
        obtain ⟨H₁, hw, h⟩ := Option.map_eq_some_iff.1 h
        cases h
        obtain ⟨L, u, hL, hc, hz, hH', hb⟩ := run_writeA hH hw
        obtain ⟨x, xs, hx, ⟨L', hL', rfl⟩, _, _, rfl, rfl, _, _, rfl, rfl, rfl⟩ := ha
        rw [hL] at hL'; cases hL'
        obtain rfl : args = #[.pointer (some ⟨L.blk, L.off + o, none⟩), .int _ n, .int _ new] := Array.ext' hx
        exact ⟨_, E, _, Conc.run_cas_hit_entry (read1_int hH hr hL) hz, Env.le.refl E, hH', rfl, hb⟩
      · cases h
    · cases h
  · cases h
    obtain rfl : args = #[] := Array.ext' ha
    refine ⟨.tuple #[], E, w, ?_, Env.le.refl E, hH, ⟨#[], rfl, rfl⟩, Below.refl B w⟩
    simp [XK.sem, Extern.Race.none_]
  · cases h
    obtain ⟨x, xs, hx, ⟨L, hL, rfl⟩, rfl⟩ := ha
    obtain rfl := Array.ext' hx
    refine ⟨.tuple #[], E, w, ?_, Env.le.refl E, hH, ⟨#[], rfl, rfl⟩, Below.refl B w⟩
    simp [XK.sem, Extern.Race.marked, Extern.Race.at_, Extern.Race.none_]
  · cases h

def XOk (P : Program) (g : FuncId) (k : XK) : Prop := (∀ args w, (callFunc g args).run P w = ((k.sem args).run P w).andThen fun v w' => .ok (.value v) w') ∧ k.fit P

theorem lookup_mem {α : Type} {g : Nat} {k : α} : ∀ {l : List (Nat × α)}, l.lookup g = some k → (g, k) ∈ l
  | [], h => by cases h
  | (a, b) :: l, h => by
    rw [List.lookup_cons] at h
    split at h
    · rename_i e
      simp only [beq_iff_eq] at e
      cases h; subst e; simp
    · exact List.mem_cons_of_mem _ (lookup_mem h)

theorem extOf_ok {P : Program} {l : List (FuncId × XK)} (h : ∀ p ∈ l, XOk P p.1 p.2) : ExtOk P (extOf l) := by
  intro g vs H v H' hx
  obtain ⟨k, hk, hx⟩ := Option.bind_eq_some_iff.1 hx
  have hmem := lookup_mem hk
  refine .inr fun E B w args' hH ha => ?_
  obtain ⟨x, E', w', hx, hE, hH', hv, hb⟩ := XK.sim (P := P) hx (h _ hmem).2 hH ha
  exact ⟨v, H', E', w', x, by rw [(h _ hmem).1, hx]; rfl, ⟨rfl, rfl⟩, hE, hH', hv, hb⟩

/-! ### The heap where a row's call begins -/

abbrev Tabs := List (Nat × TypeId × List AV)

def startH (n : Nat) : Tabs → AH
  | [] => ⟨n, .nil⟩
  | (g, e, cs) :: l => (startH n l).set g (.cells cs e { own := false })

def tabSize (l : Tabs) (b : Nat) : Nat :=
  match l with
  | [] => 0
  | (g, _, cs) :: l => if b = g then cs.length else tabSize l b
def tabElem (l : Tabs) (b : Nat) : TypeId :=
  match l with
  | [] => 0
  | (g, e, _) :: l => if b = g then e else tabElem l b

def startE (P : Program) (n : Nat) (l : Tabs) : Env := fun b => if b < n then some ⟨b, 0, tabSize l b, P.cellsOf (tabElem l b), 0⟩ else none

def TabAt (W : World) (g : Nat) (e : TypeId) (cs : List AV) : Prop := ∃ X fr, W.heap[g]? = some (.cells X e fr) ∧ cs.length = X.size ∧ (∀ E, VRs E cs X.toList) ∧ ∀ v ∈ cs, v.one = true

theorem startH_n (n : Nat) (l : Tabs) : (startH n l).n = n := by
  induction l with
  | nil => rfl
  | cons p l ih => obtain ⟨g, e, cs⟩ := p; simpa [startH] using ih

theorem startH_get {n : Nat} {l : Tabs} {b : Nat} {o : AObj} (h : (startH n l).get b = some o) : ∃ cs, o = .cells cs (tabElem l b) { own := false } ∧ tabSize l b = cs.length ∧ ∃ e, (b, e, cs) ∈ l ∧ e = tabElem l b := by
  induction l with
  | nil => cases h
  | cons p l ih =>
    obtain ⟨g, e, cs⟩ := p
    simp only [startH, AH.get_set] at h
    by_cases hb : b = g
    · subst hb
      rw [if_pos rfl] at h; cases h
      exact ⟨cs, by simp [tabElem], by simp [tabSize], e, by simp, by simp [tabElem]⟩
    · rw [if_neg hb] at h
      obtain ⟨cs', h1, h2, e', h3, h4⟩ := ih h
      exact ⟨cs', by simp [tabElem, hb, h1], by simp [tabSize, hb, h2], e', by simp [h3], by simp [tabElem, hb, h4]⟩

theorem HR.start {P : Program} {W : World} {l : Tabs} (hl : ∀ t ∈ l, t.1 < P.globals.size ∧ TabAt W t.1 t.2.1 t.2.2) :
    HR P (startE P P.globals.size l) (Bnd.up W.heap.size) (startH P.globals.size l) W := by
  refine ⟨fun b L hb => ?_, fun b o hb => ?_, fun _ h => h, fun g hg => ⟨_, if_pos hg, rfl, rfl⟩, fun b b' o o' L L' hne hb hb' ho _ _ _ => ?_⟩
  · rw [startH_n]
    unfold startE at hb
    split at hb
    · assumption
    · cases hb
  · obtain ⟨cs, rfl, hs, e, hm, he⟩ := startH_get hb
    obtain ⟨hg, X, fr, h1, h2, h3, h4⟩ := hl _ hm
    simp only at hg h1 h2 h3 h4
    refine ⟨_, if_pos hg, X, fr.1, fr.2, by rw [h1, he], hs, rfl, by simp [h2], ?_, fun h => (by cases h), fun _ => rfl, h4, fun h => (by cases h)⟩
    have := h3 (startE P P.globals.size l)
    rw [h2]
    simpa [← Array.length_toList] using this
  · obtain ⟨cs, rfl, _⟩ := startH_get hb
    cases ho

/-! ### The tables out of a row's list -/

theorem cells_of_pairs {H : Type} {enc : TypeId × Value → H} {P : Program} {w : World} {base : Nat} {sp : Nat → Bool} {held : Bool} {fuel : Nat} {t e : TypeId} {n : Nat} {k : IntKind} {cs : List Value} {zs : List (Int × Int)} {p : List MemPlace} {f0 f1 : Field}
    (ht : P.underlying t = some (.array n e)) (he : P.underlying e = some (.struct #[f0, f1])) (h0 : P.underlying f0.type = some (.int k)) (h1 : P.underlying f1.type = some (.int k)) (ho0 : f0.offset = 0) (ho1 : f1.offset = 1)
    (hc0 : P.cellsOf f0.type = 1) (hc1 : P.cellsOf f1.type = 1) (hce : P.cellsOf e = 2) (hct : P.cellsOf t = n * 2)
    (h : DataW.trod enc P w base sp held fuel t cs = some (.agg (zs.map fun z => .agg [.lit (.int k z.1), .lit (.int k z.2)]), p)) : cs = zs.flatMap fun z => [Value.int k z.1, .int k z.2] := by
  cases fuel with
  | zero => simp [DataW.trod] at h
  | succ fuel =>
    simp only [DataW.trod, ht, hce, hct] at h
    split at h
    · rename_i hl
      obtain ⟨xs, hm, hx⟩ := Option.map_eq_some_iff.1 h
      have hxs : xs.map (·.1) = zs.map fun z => (DataW.agg [.lit (.int k z.1), .lit (.int k z.2)] : DataW H) := by
        have := congrArg Prod.fst hx
        simpa using this
      have hxl : xs.length = n := by simpa using Lib.mapM_length hm
      have hzl : zs.length = n := by
        have := congrArg List.length hxs
        simp at this
        omega
      have hpair : ∀ i, i < n → ∃ z, zs[i]? = some z ∧ (cs.drop (i * 2)).take 2 = [.int k z.1, .int k z.2] := by
        intro i hi
        obtain ⟨b, hb, hf⟩ := Lib.mapM_at hm i i (by simp [hi])
        obtain ⟨y0, y1, m, rfl, hlen, g0, g1⟩ := trod_struct2 he hf
        obtain ⟨a0, c0, rfl, _⟩ := DataW.trod_int h0 g0
        obtain ⟨a1, c1, rfl, _⟩ := DataW.trod_int h1 g1
        have h2 : (xs.map (·.1))[i]? = some (DataW.agg [.lit (.int k a0), .lit (.int k a1)] : DataW H) := by simp [hb]
        rw [hxs] at h2
        simp only [List.getElem?_map, Option.map_eq_some_iff, DataW.agg.injEq, List.cons.injEq, DataW.lit.injEq, Lit.int.injEq, true_and, and_true] at h2
        obtain ⟨z, hz, rfl, rfl⟩ := h2
        refine ⟨z, hz, ?_⟩
        rw [ho0, hc0] at c0; rw [ho1, hc1] at c1
        rw [hce] at hlen
        match h5 : (cs.drop (i * 2)).take 2, hlen with
        | [u, v], _ =>
          rw [h5] at c0 c1
          simp at c0 c1
          rw [c0, c1]
      clear hm h hx
      have key : ∀ (m : Nat) (cs : List Value) (zs : List (Int × Int)), cs.length = m * 2 → zs.length = m → (∀ i, i < m → ∃ z, zs[i]? = some z ∧ (cs.drop (i * 2)).take 2 = [.int k z.1, .int k z.2]) → cs = zs.flatMap fun z => [Value.int k z.1, .int k z.2] := by
        intro m
        induction m with
        | zero => intro cs zs h1 h2 _; simp at h1 h2; subst h1; subst h2; rfl
        | succ m ih =>
          intro cs zs h1 h2 h3
          match cs, zs, h1, h2, h3 with
          | [], _, h1, _, _ => exfalso; simp at h1
          | [_], _, h1, _, _ => exfalso; simp at h1; omega
          | _ :: _ :: _, [], _, h2, _ => exact absurd h2 (by simp)
          | a :: b :: cs, z :: zs, h1, h2, h3 =>
            obtain ⟨z', hz', e⟩ := h3 0 (by omega)
            simp at hz' e
            subst hz'
            rw [e.1, e.2, ih cs zs (by simp at h1; omega) (by simpa using h2) fun i hi => by
              obtain ⟨z', hz', e'⟩ := h3 (i + 1) (by omega)
              refine ⟨z', by simpa using hz', ?_⟩
              rw [show (i + 1) * 2 = i * 2 + 2 by omega] at e'
              simpa using e']
            rfl
      exact key n cs zs hl hzl hpair
    · cases h

theorem tab_of_cells {W : World} {P : Program} {name : String} {cs : Array Value} {g : Nat} (hg : P.globalNamed name = some g) (hv : W.var? P name = some cs) {vs : List AV} (h : ∀ E, VRs E vs cs.toList) (h1 : ∀ v ∈ vs, v.one = true) : ∃ e, TabAt W g e vs := by
  unfold World.var? at hv
  rw [hg] at hv
  simp only [Option.bind_some] at hv
  split at hv
  · rename_i X e fr hX
    cases hv
    have hl := (h (fun _ => none)).length
    exact ⟨e, cs, fr, hX, by simpa using hl, h, h1⟩
  · cases hv

def intsAV (k : IntKind) (zs : List Int) : List AV := zs.map (AV.int k)

theorem intsAV_sim (k : IntKind) (zs : List Int) (E : Env) : VRs E (intsAV k zs) (zs.map (Value.int k)) := by
  induction zs with
  | nil => rfl
  | cons z zs ih => exact ⟨_, _, rfl, rfl, ih⟩
theorem intsAV_one (k : IntKind) (zs : List Int) : ∀ v ∈ intsAV k zs, v.one = true := by
  intro v hv
  simp only [intsAV, List.mem_map] at hv
  obtain ⟨z, _, rfl⟩ := hv
  rfl

theorem Below.old {W W' : World} (h : Below (Bnd.up W.heap.size) W W') : Go.RowKit.Below W.heap.size W W' := ⟨h.os, h.tape, h.output, h.size, h.block⟩

/-! ### What a law's row asks at the end -/
section
variable {H : Type} {enc : TypeId × Value → H} {P : Program}

theorem trodAll_stays (hl : laidOutB P = true) {W W' : World} (hb : Go.RowKit.Below W.heap.size W W') {sp : Nat → Bool} : ∀ {ts : List TypeId} {vs : List Value} {ds : List (DataW H)} {ps : List MemPlace}, (ts.all fun t => P.readableRec t && decide (t < P.types.size)) = true →
    DataW.TrodAll enc P W 0 (fun _ => true) true ts vs ds ps → (∀ x ∈ ps, x.block < W.heap.size) → (∀ x ∈ ps, sp x.block = true) → DataW.TrodAll enc P W' 0 sp true ts vs ds ps
  | [], _, _, _, _, h, _, _ => by
    obtain ⟨rfl, rfl, rfl⟩ := trodAll_nil h
    rfl
  | t :: ts, _, _, _, hr, h, hlt, hsp => by
    obtain ⟨v, vs, d, ds, p, q, rfl, rfl, rfl, h1, h2⟩ := trodAll_cons h
    simp only [List.all_cons, Bool.and_eq_true, decide_eq_true_eq] at hr
    exact ⟨p, q, WideElems.Trod_stays hl hr.1.1 hr.1.2 h1 (fun x hx => hb.same (hlt x (by simp [hx]))) (fun x hx => hsp x (by simp [hx])),
      trodAll_stays hl hb hr.2 h2 (fun x hx => hlt x (by simp [hx])) (fun x hx => hsp x (by simp [hx])), rfl⟩

theorem post_law (hl : laidOutB P = true) {f : Func} {s : ChangeSpec} {apart fresh handsOn again : Bool} {W W' : World} {args : Array Value} {ds gs : List (DataW H)} {before : List MemPlace} {tb : TypeId}
    (hW : DataW.Whole enc P f.params.toList s.vars apart W args.toList ds gs before) (hv : s.vars = []) (hr : (f.params.toList.all fun t => P.readableRec t && decide (t < P.types.size)) = true)
    (hb : Go.RowKit.Below W.heap.size W W') (hs : s.fn H (ds ++ gs) = { results := [.lit (.bool true)], args := ds }) (ht : f.resultTypes = #[tb]) (hu : P.underlying tb = some .bool) :
    s.post enc P f apart fresh handsOn again W args (.bool true) W' := by
  have hlt := hW.lt
  have hW0 := hW
  obtain ⟨p, q, hA, hV, rfl, hz, hn⟩ := hW0
  rw [hv] at hV
  obtain ⟨rfl, rfl⟩ := trodVars_none hV
  simp only [List.append_nil] at hs hlt hz hn hW
  have hsv : (s.fn H ds).vars = [] := by rw [hs]
  have hargs : ∀ sp : Nat → Bool, (∀ x ∈ p, sp x.block = true) → DataW.TrodAll enc P W' 0 sp true f.params.toList args.toList (s.fn H (ds ++ [])).args p := fun sp hsp => by
    rw [List.append_nil, hs]
    exact trodAll_stays hl hb hr hA (fun x hx => hlt x hx) hsp
  have hvars : ∀ sp : Nat → Bool, DataW.TrodVars enc P W' sp s.vars (s.fn H (ds ++ [])).vars [] := fun sp => by
    rw [List.append_nil, hv, hsv]; rfl
  have hres : ∀ (b : Nat) (sp : Nat → Bool) (hd : Bool), DataW.TrodAll enc P W' b sp hd f.resultTypes.toList ((Value.bool true).resultList f.resultTypes.size) (s.fn H (ds ++ [])).results [] := fun b sp hd => by
    rw [List.append_nil, hs, ht]
    exact trodAll_cons_mk (shut_bool hu _) trodAll_mk0
  have hold : ∀ x ∈ p, (fun b => decide (b < W.heap.size)) x.block = true := fun x hx => by simpa using hlt x hx
  refine ⟨ds, [], p, [], p, [], hW, hres _ _ _, hargs _ hold, hvars _, World.keptBut_mono (fun _ hp => ⟨hp, Or.inr (by simpa using hp)⟩) (hb.frame _), fun _ => ?_⟩
  refine ⟨ok_one ht rfl (okWide_bool_mk hu _), _, _, ([] ++ p) ++ [], ⟨[] ++ p, [], trodAll_append (hargs _ (fun _ _ => rfl)) (hres _ _ _), hvars _, rfl, ?_, ?_⟩, ?_⟩
  · intro b off hp
    have hp' : MemPlace.cell b off ∈ p := by simpa using hp
    rw [hb.frozen (p := ⟨b, off, none⟩) (hlt _ hp')]
    exact hz b off hp'
  · intro ha
    simpa using hn ha
  · intro x hx _
    simpa using hx
end

end Go.Am
end

/- The abstract machine's run, made for the kernel: temporaries in a tree, small cases. -/
section
namespace Go.Am
open Go.RowKit

structure FT where
  n : Nat
  t : Tr AV

/- Trees by their recursors: what the kernel reckons quickest. -/
noncomputable def Tr.getK {α : Type} (t : Tr α) : Nat → Option α :=
  Tr.rec (motive := fun _ => Nat → Option α) (fun _ => none) (fun _ v _ il ir k => Bool.rec (Bool.rec (ir (Nat.sub (Nat.div k 2) 1)) (il (Nat.div k 2)) (Nat.beq (Nat.mod k 2) 1)) v (Nat.beq k 0)) t

noncomputable def Tr.setK {α : Type} (f : Nat) : Tr α → Nat → α → Tr α :=
  Nat.rec (fun t _ _ => t) (fun _ ih t => Tr.rec (motive := fun _ => (Tr α → Nat → α → Tr α) → Nat → α → Tr α)
    (fun ih k x => Bool.rec (Bool.rec (.node .nil none (ih .nil (Nat.sub (Nat.div k 2) 1) x)) (.node (ih .nil (Nat.div k 2) x) none .nil) (Nat.beq (Nat.mod k 2) 1)) (.node .nil (some x) .nil) (Nat.beq k 0))
    (fun l v r _ _ ih k x => Bool.rec (Bool.rec (.node l v (ih r (Nat.sub (Nat.div k 2) 1) x)) (.node (ih l (Nat.div k 2) x) v r) (Nat.beq (Nat.mod k 2) 1)) (.node l (some x) r) (Nat.beq k 0)) t ih) f

theorem half_odd {k : Nat} (h : k % 2 = 0) : Nat.beq (Nat.mod (k + 1) 2) 1 = true ∧ Nat.div (k + 1) 2 = k / 2 := by
  constructor
  · rw [Nat.beq_eq]; exact (show (k + 1) % 2 = 1 by omega)
  · show (k + 1) / 2 = k / 2; omega
theorem half_even {k : Nat} (h : ¬ k % 2 = 0) : Nat.beq (Nat.mod (k + 1) 2) 1 = false ∧ Nat.sub (Nat.div (k + 1) 2) 1 = k / 2 := by
  constructor
  · cases hb : Nat.beq (Nat.mod (k + 1) 2) 1 with
    | false => rfl
    | true => rw [Nat.beq_eq] at hb; have : (k + 1) % 2 = 1 := hb; omega
  · show (k + 1) / 2 - 1 = k / 2; omega

theorem Tr.getK_eq {α : Type} : ∀ (t : Tr α) (k : Nat), t.getK k = t.get k
  | .nil, _ => rfl
  | .node l v r, 0 => rfl
  | .node l v r, k + 1 => by
    show Bool.rec (motive := fun _ => Option α) (Bool.rec (motive := fun _ => Option α) (r.getK (Nat.sub (Nat.div (k + 1) 2) 1)) (l.getK (Nat.div (k + 1) 2)) (Nat.beq (Nat.mod (k + 1) 2) 1)) v false = _
    simp only [Tr.get]
    by_cases h : k % 2 = 0
    · obtain ⟨h1, h2⟩ := half_odd h
      rw [if_pos h, h1, h2]; exact Tr.getK_eq l _
    · obtain ⟨h1, h2⟩ := half_even h
      rw [if_neg h, h1, h2]; exact Tr.getK_eq r _

theorem Tr.setK_eq {α : Type} : ∀ (f : Nat) (t : Tr α) (k : Nat) (x : α), Tr.setK f t k x = Tr.set f t k x
  | 0, _, _, _ => rfl
  | f + 1, .nil, 0, x => rfl
  | f + 1, .node l v r, 0, x => rfl
  | f + 1, .nil, k + 1, x => by
    show Bool.rec (motive := fun _ => Tr α) (Bool.rec (motive := fun _ => Tr α) (.node .nil none (Tr.setK f .nil (Nat.sub (Nat.div (k + 1) 2) 1) x)) (.node (Tr.setK f .nil (Nat.div (k + 1) 2) x) none .nil) (Nat.beq (Nat.mod (k + 1) 2) 1)) (.node .nil (some x) .nil) false = _
    simp only [Tr.set]
    by_cases h : k % 2 = 0
    · obtain ⟨h1, h2⟩ := half_odd h
      rw [if_pos h, h1, h2]
      show Tr.node (Tr.setK f _ (k / 2) x) _ _ = _
      rw [Tr.setK_eq f]
    · obtain ⟨h1, h2⟩ := half_even h
      rw [if_neg h, h1, h2]
      show Tr.node _ _ (Tr.setK f _ (k / 2) x) = _
      rw [Tr.setK_eq f]
  | f + 1, .node l v r, k + 1, x => by
    show Bool.rec (motive := fun _ => Tr α) (Bool.rec (motive := fun _ => Tr α) (.node l v (Tr.setK f r (Nat.sub (Nat.div (k + 1) 2) 1) x)) (.node (Tr.setK f l (Nat.div (k + 1) 2) x) v r) (Nat.beq (Nat.mod (k + 1) 2) 1)) (.node l (some x) r) false = _
    simp only [Tr.set]
    by_cases h : k % 2 = 0
    · obtain ⟨h1, h2⟩ := half_odd h
      rw [if_pos h, h1, h2]
      show Tr.node (Tr.setK f _ (k / 2) x) _ _ = _
      rw [Tr.setK_eq f]
    · obtain ⟨h1, h2⟩ := half_even h
      rw [if_neg h, h1, h2]
      show Tr.node _ _ (Tr.setK f _ (k / 2) x) = _
      rw [Tr.setK_eq f]

noncomputable def FT.at (f : FT) (i : Nat) : AV := Option.rec .undef (fun v => v) (Tr.getK f.t i)
noncomputable def FT.put (f : FT) (dst : Option Tmp) (v : AV) : FT := FT.rec (motive := fun _ => FT) (fun n t => Option.rec ⟨n, t⟩ (fun d => Bool.rec ⟨n, t⟩ ⟨n, Tr.setK (d + 1) t d v⟩ (Nat.ble (d + 1) n)) dst) f
noncomputable def FT.look (f : FT) (i : Nat) : AV := FT.rec (motive := fun _ => AV) (fun n t => Bool.rec .undef (Option.rec .undef (fun v => v) (Tr.getK t i)) (Nat.ble (i + 1) n)) f

theorem FT.at_eq (f : FT) (i : Nat) : f.at i = (f.t.get i).getD .undef := by
  unfold FT.at
  rw [Tr.getK_eq]
  cases f.t.get i <;> rfl

theorem ble_cases (a b : Nat) : (Nat.ble a b = true ∧ a ≤ b) ∨ (Nat.ble a b = false ∧ ¬ a ≤ b) := by
  cases h : Nat.ble a b with
  | true => exact .inl ⟨rfl, Nat.le_of_ble_eq_true h⟩
  | false => exact .inr ⟨rfl, fun k => by rw [Nat.ble_eq_true_of_le k] at h; cases h⟩

theorem FT.put_some (f : FT) (d : Nat) (v : AV) : f.put (some d) v = if d < f.n then ⟨f.n, Tr.set (d + 1) f.t d v⟩ else f := by
  obtain ⟨n, t⟩ := f
  unfold FT.put
  rcases ble_cases (d + 1) n with ⟨h, k⟩ | ⟨h, k⟩
  · simp only [h]; rw [if_pos (by omega), Tr.setK_eq]
  · simp only [h]; rw [if_neg (by omega)]

noncomputable def FT.toL (f : FT) : List AV := (List.range f.n).map f.at
noncomputable def FT.fill (n : Nat) : Nat → List AV → Tr AV → FT
  | _, [], t => ⟨n, t⟩
  | i, v :: l, t => FT.fill n (i + 1) l (Tr.setK (i + 1) t i v)
noncomputable def FT.ofL (l : List AV) (n : Nat) : FT := FT.fill n 0 l .nil

@[simp] theorem FT.length (f : FT) : f.toL.length = f.n := by simp [FT.toL]

theorem FT.get_toL (f : FT) (i : Nat) : (f.toL[i]?).getD .undef = if i < f.n then f.at i else .undef := by
  unfold FT.toL
  by_cases h : i < f.n
  · simp [h]
  · simp [h]

theorem FT.look_eq (f : FT) (i : Nat) : f.look i = (f.toL[i]?).getD .undef := by
  rw [FT.get_toL]
  obtain ⟨n, t⟩ := f
  unfold FT.look
  rcases ble_cases (i + 1) n with ⟨h, k⟩ | ⟨h, k⟩
  · simp only [h]; rw [if_pos (by omega)]; rfl
  · simp only [h]; rw [if_neg (by omega)]

theorem FT.put_toL (f : FT) (dst : Option Tmp) (v : AV) : (f.put dst v).toL = putT f.toL dst v := by
  cases dst with
  | none => rfl
  | some d =>
    rw [FT.put_some]
    simp only [putT]
    by_cases h : d < f.n
    · rw [if_pos h]
      apply List.ext_getElem?
      intro i
      simp only [FT.toL, List.getElem?_map, List.getElem?_set, List.length_map, List.length_range]
      by_cases hi : i < f.n
      · by_cases e : d = i
        · subst e; simp [hi, FT.at_eq, Tr.get_set]
        · have e' : ¬ i = d := fun h => e h.symm
          simp [hi, e, e', FT.at_eq, Tr.get_set]
      · by_cases e : d = i
        · subst e; exact absurd h hi
        · simp [hi, e]
    · rw [if_neg h]
      rw [List.set_eq_of_length_le (by simpa using h)]

theorem FT.fill_n (n : Nat) : ∀ (l : List AV) (i : Nat) (t : Tr AV), (FT.fill n i l t).n = n
  | [], _, _ => rfl
  | _ :: l, _, _ => FT.fill_n n l _ _

theorem FT.fill_at (n : Nat) : ∀ (l : List AV) (i : Nat) (t : Tr AV) (j : Nat), (FT.fill n i l t).at j = if i ≤ j ∧ j < i + l.length then (l[j - i]?).getD .undef else (t.get j).getD .undef
  | [], i, t, j => by
    have : ¬ (i ≤ j ∧ j < i + 0) := by omega
    simp only [List.length_nil, this, if_false]; exact FT.at_eq _ _
  | v :: l, i, t, j => by
    rw [FT.fill, FT.fill_at n l, Tr.setK_eq]
    by_cases e : j = i
    · subst e
      have h1 : ¬ (j + 1 ≤ j ∧ j < j + 1 + l.length) := by omega
      simp [h1, Tr.get_set]
    · by_cases h : i ≤ j ∧ j < i + (v :: l).length
      · have h1 : i + 1 ≤ j ∧ j < i + 1 + l.length := by simp at h; omega
        rw [if_pos h, if_pos h1]
        have : j - i = (j - (i + 1)) + 1 := by omega
        rw [this]; rfl
      · have h1 : ¬ (i + 1 ≤ j ∧ j < i + 1 + l.length) := by simp at h; omega
        rw [if_neg h, if_neg h1]
        simp [Tr.get_set, e]

theorem FT.ofL_toL (l : List AV) (n : Nat) : (FT.ofL l (l.length + n)).toL = l ++ List.replicate n .undef := by
  apply List.ext_getElem?
  intro i
  unfold FT.ofL FT.toL
  rw [FT.fill_n]
  simp only [List.getElem?_map]
  by_cases h : i < l.length + n
  · simp only [h, List.getElem?_range, Option.map_some, FT.fill_at]
    by_cases h1 : i < l.length
    · rw [List.getElem?_append_left h1]; simp [h1]
    · rw [if_neg (by omega)]
      rw [List.getElem?_append_right (by omega), List.getElem?_replicate, if_pos (by omega)]
      rfl
  · rw [List.getElem?_eq_none (l := List.range _) (by simp; omega), List.getElem?_eq_none (l := l ++ _) (by simp; omega)]
    rfl

/-! ### One operation -/
section
variable (P : Program)

noncomputable def evF (f : FT) (x : Operand) : Option AV :=
  Operand.rec (motive := fun _ => Program → FT → Option AV) (fun t _ f => some (f.look t)) (fun v _ _ => ofV v) (fun g P _ => if g < P.globals.size then some (.ptr (some (g, 0))) else none) (fun g _ _ => some (.func (.func g) [] [])) x P f

theorem evF_eq (f : FT) : evF P f = ev P f.toL := by
  funext x
  cases x with
  | tmp t =>
    simp only [evF, ev, FT.look_eq]
  | const v => rfl
  | global g => rfl
  | func g => rfl

variable (e : Operand → Option AV) (H : AH)

def evsE : List Operand → Option (List AV)
  | [] => some []
  | x :: l => (e x).bind fun v => (evsE l).map (v :: ·)
def evoE : Option Operand → Option (Option AV)
  | none => some none
  | some x => (e x).map some
def evpE : List (Nat × Operand) → Option (List (Nat × AV))
  | [] => some []
  | (i, x) :: l => (e x).bind fun v => (evpE l).map ((i, v) :: ·)

theorem evsE_eq {T : List AV} : ∀ xs, evsE (ev P T) xs = evs P T xs
  | [] => rfl
  | x :: l => by simp only [evsE, evs, evsE_eq l]
theorem evoE_eq {T : List AV} : ∀ x, evoE (ev P T) x = evo P T x
  | none => rfl
  | some _ => rfl
theorem evpE_eq {T : List AV} : ∀ xs, evpE (ev P T) xs = evp P T xs
  | [] => rfl
  | (i, x) :: l => by simp only [evpE, evp, evpE_eq l]

def oMove (x : Operand) : Option (AV × AH) := (e x).map (·, H)
def oPick (c a b : Operand) : Option (AV × AH) := (e c).bind fun c => match c with
    | .bool true => (e a).map (·, H)
    | .bool false => (e b).map (·, H)
    | _ => none
def oAlloc (t : TypeId) : Option (AV × AH) := (zeroOf P t).bind fun z => if z.cells.all AV.one then some (.ptr (some (H.n, 0)), H.alloc (.cells z.cells t { whole := true })) else none
def oBox (t : TypeId) (x : Operand) : Option (AV × AH) := (e x).bind fun v => if v.cells.all AV.one then some (.ptr (some (H.n, 0)), H.alloc (.cells v.cells t { whole := true })) else none
def oBuild (t : TypeId) (ps : Array (Nat × Operand)) : Option (AV × AH) := (evpE e ps.toList).bind fun l => (buildV P t l).map (·, H)
def oBuildSlice (t : TypeId) (n : Nat) (ps : Array (Nat × Operand)) : Option (AV × AH) := (evpE e ps.toList).bind fun l => buildSliceV P H t n l
def oLoad (t : TypeId) (a : Operand) : Option (AV × AH) := (e a).bind fun a => (loadV P H t a).map (·, H)
def oStore (t : TypeId) (a v : Operand) : Option (AV × AH) := (e a).bind fun a => (e v).bind fun v => (storeV P H t a v).map (AV.undef, ·)
def oNil (x : Operand) : Option (AV × AH) := (e x).bind fun v => if nilOk P v then some (v, H) else none
def oBin (op : BinOp) (t : TypeId) (x y : Operand) : Option (AV × AH) := (e x).bind fun a => (e y).bind fun b => (binV P op t x y a b).map (·, H)
def oUn (op : UnOp) (x : Operand) : Option (AV × AH) := (e x).bind fun a => (unV op a).map (·, H)
def oConv (s d : TypeId) (x : Operand) : Option (AV × AH) := (e x).bind fun a => convV P H s d a
def oIface (t : TypeId) (x : Operand) : Option (AV × AH) := (e x).bind fun a => match P.underlying t with
    | some (.interface _) => none
    | some _ => some (.iface t a, H)
    | none => none
def oFunc (f : Fn) (xs ys : Array Operand) : Option (AV × AH) := (evsE e xs.toList).bind fun a => (evsE e ys.toList).bind fun b => some (.func f a b, H)
def oMkSlice (t : TypeId) (l c : Operand) : Option (AV × AH) := (e l).bind fun l => (e c).bind fun c => makeSliceV P H t l c
def oSlice (t : TypeId) (x : Operand) (lo hi mx : Option Operand) : Option (AV × AH) := (e x).bind fun a => (evoE e lo).bind fun lo => (evoE e hi).bind fun hi => (evoE e mx).bind fun mx => (sliceV P H t a lo hi mx).map (·, H)
def oFieldAddr (t : TypeId) (x : Operand) (f : Nat) : Option (AV × AH) := (e x).bind fun a => (fieldAddrV P t a f).map (·, H)
def oField (t : TypeId) (x : Operand) (f : Nat) : Option (AV × AH) := (e x).bind fun a => (fieldV P t a f).map (·, H)
def oIndexAddr (t : TypeId) (x i : Operand) : Option (AV × AH) := (e x).bind fun a => (e i).bind fun i => (indexAddrV P t a i).map (·, H)
def oIndex (t : TypeId) (x i : Operand) : Option (AV × AH) := (e x).bind fun a => (e i).bind fun i => (indexV P t a i).map (·, H)
def oRange (t : TypeId) (x : Operand) : Option (AV × AH) := (e x).bind fun a => match P.underlying t, a with
    | some .string, .str s => some (.ptr (some (H.n, 0)), H.alloc (.iter s 0))
    | _, _ => none
def oNext (x : Operand) : Option (AV × AH) := (e x).bind fun a => match a with
    | .ptr (some (b, 0)) => match H.get b with
      | some (.iter s pos) =>
        if pos < s.length then some (.tuple [.bool true, .int .i64 pos, .int .i32 (decodeL s pos).1], H.set b (.iter s (pos + (decodeL s pos).2)))
        else some (.tuple [.bool false], H)
      | _ => none
    | _ => none
def oAssert (x : Operand) (t : TypeId) (ok : Bool) : Option (AV × AH) := (e x).bind fun a => (typeAssertV P t ok a).map (·, H)
def oMakeMap (r : Option Operand) : Option (AV × AH) := match r with
  | none => some (.map (some H.n), H.alloc (.map [] 0))
  | some _ => none
def oLookup (t : TypeId) (x i : Operand) (ok : Bool) : Option (AV × AH) := (e x).bind fun a => (e i).bind fun i => (lookupV P H t ok a i).map (·, H)
def oMapSet (t : TypeId) (m k x : Operand) : Option (AV × AH) := (e m).bind fun m => (e k).bind fun k => (e x).bind fun x => (mapSetV P H t m k x).map (AV.undef, ·)
def oExtract (x : Operand) (i : Nat) : Option (AV × AH) := (e x).bind fun a => match a with
    | .tuple vs => (vs[i]?).map (·, H)
    | _ => none
def oBuiltin (b : Builtin) (args : Array Operand) (ts : Array TypeId) : Option (AV × AH) := (evsE e args.toList).bind fun l => builtinV P H b ts.toList l

def opE (op : Op) : Option (AV × AH) :=
  match op with
  | .move x => oMove e H x
  | .assign x => oMove e H x
  | .pick c a b => oPick e H c a b
  | .alloc t => oAlloc P H t
  | .box t x => oBox e H t x
  | .build t ps => oBuild P e H t ps
  | .buildSlice t n ps => oBuildSlice P e H t n ps
  | .load t a => oLoad P e H t a
  | .store t a v => oStore P e H t a v
  | .nilCheck x => oNil P e H x
  | .binOp op t x y _ => oBin P e H op t x y
  | .unOp op _ x => oUn e H op x
  | .convert s d x => oConv P e H s d x
  | .makeInterface t x => oIface P e H t x
  | .makeFunc f xs ys => oFunc e H f xs ys
  | .makeSlice t l c => oMkSlice P e H t l c
  | .slice t x lo hi mx => oSlice P e H t x lo hi mx
  | .fieldAddr t x f => oFieldAddr P e H t x f
  | .field t x f => oField P e H t x f
  | .indexAddr t x i => oIndexAddr P e H t x i
  | .index t x i => oIndex P e H t x i
  | .range t x => oRange P e H t x
  | .next x true => oNext e H x
  | .typeAssert x _ t ok => oAssert P e H x t ok
  | .extract x i => oExtract e H x i
  | .makeMap _ r => oMakeMap H r
  | .lookup t x i ok => oLookup P e H t x i ok
  | .mapUpdate t m k x => oMapSet P e H t m k x
  | .call ⟨.builtin b, args, ts⟩ => oBuiltin P e H b args ts
  | _ => none

theorem opE_eq (T : List AV) (o : Oper) : opE P (ev P T) H o.op = opV P T H o := by
  obtain ⟨dst, op, ty, pos, after, guard⟩ := o
  cases op <;> simp only [opE, opV] <;> first
    | rfl
    | rfl
    | (simp only [oBuild, evpE_eq]; done)
    | (simp only [oBuildSlice, evpE_eq]; done)
    | (simp only [oFunc, evsE_eq]; done)
    | (simp only [oSlice, evoE_eq]; done)
    | skip
  case next x str => cases str <;> rfl
  case makeMap t r => cases r <;> rfl
  case call c =>
    obtain ⟨callee, args, ts⟩ := c
    cases callee with
    | builtin b => simp only [oBuiltin, evsE_eq]
    | value f => rfl
    | invoke x m => rfl
noncomputable def opEF (op : Op) : Program → (Operand → Option AV) → AH → Option (AV × AH) :=
  Op.rec (motive := fun _ => Program → (Operand → Option AV) → AH → Option (AV × AH))
    (fun x0 _ e H => oMove e H x0)
    (fun x0 _ e H => oMove e H x0)
    (fun x0 x1 x2 _ e H => oPick e H x0 x1 x2)
    (fun x0 P _ H => oAlloc P H x0)
    (fun x0 x1 _ e H => oBox e H x0 x1)
    (fun x0 x1 P e H => oBuild P e H x0 x1)
    (fun x0 x1 x2 P e H => oBuildSlice P e H x0 x1 x2)
    (fun _ _ _ _ _ _ _ => none)
    (fun x0 x1 P e H => oLoad P e H x0 x1)
    (fun x0 x1 x2 P e H => oStore P e H x0 x1 x2)
    (fun _ _ _ _ => none)
    (fun _ _ _ _ => none)
    (fun x0 P e H => oNil P e H x0)
    (fun x0 x1 x2 x3 _ P e H => oBin P e H x0 x1 x2 x3)
    (fun x0 _ x2 _ e H => oUn e H x0 x2)
    (fun x0 x1 x2 P e H => oConv P e H x0 x1 x2)
    (fun _ _ _ _ _ => none)
    (fun x0 x1 P e H => oIface P e H x0 x1)
    (fun x0 x1 x2 _ e H => oFunc e H x0 x1 x2)
    (fun _ x1 _ _ H => oMakeMap H x1)
    (fun _ _ _ _ _ => none)
    (fun x0 x1 x2 P e H => oMkSlice P e H x0 x1 x2)
    (fun x0 x1 x2 x3 x4 P e H => oSlice P e H x0 x1 x2 x3 x4)
    (fun x0 x1 x2 P e H => oFieldAddr P e H x0 x1 x2)
    (fun x0 x1 x2 P e H => oField P e H x0 x1 x2)
    (fun x0 x1 x2 P e H => oIndexAddr P e H x0 x1 x2)
    (fun x0 x1 x2 P e H => oIndex P e H x0 x1 x2)
    (fun x0 x1 x2 x3 P e H => oLookup P e H x0 x1 x2 x3)
    (fun x0 x1 x2 x3 P e H => oMapSet P e H x0 x1 x2 x3)
    (fun _ _ _ _ _ _ => none)
    (fun _ _ _ _ _ _ _ => none)
    (fun x0 x1 P e H => oRange P e H x0 x1)
    (fun x0 x1 _ e H => Bool.rec none (oNext e H x0) x1)
    (fun _ _ _ _ => none)
    (fun x0 _ x2 x3 P e H => oAssert P e H x0 x2 x3)
    (fun x0 x1 _ e H => oExtract e H x0 x1)
    (fun x0 P e H => Call.rec (motive := fun _ => Option (AV × AH)) (fun c args ts => Callee.rec (motive := fun _ => Option (AV × AH)) (fun _ => none) (fun _ _ => none) (fun b => oBuiltin P e H b args ts) c) x0)
    (fun _ _ _ _ => none)
    (fun _ _ _ _ => none)
    (fun _ _ _ _ => none)
    (fun _ _ _ _ _ => none)
    (fun _ _ _ _ _ _ => none)
    (fun _ _ _ _ _ => none) op

theorem opEF_eq (op : Op) : opEF op P e H = opE P e H op := by
  cases op
  case next x str => cases str <;> rfl
  case call c =>
    obtain ⟨callee, args, ts⟩ := c
    cases callee <;> rfl
  all_goals rfl

end

end Go.Am
end

/- The abstract machine's run, made for the kernel. -/
section
namespace Go.Am
open Go.RowKit

structure FS where
  F : FT
  M : List Mk
  H : AH

noncomputable def FS.dn (s : FS) : St := ⟨s.F.toL, s.M, s.H⟩

abbrev RecF := Option Nat → Code → FS → Option (AEx × FS)

noncomputable def dn2 (p : AEx × FS) : AEx × St := (p.1, p.2.dn)

def RecEq (rec : Rec) (recF : RecF) : Prop := ∀ r c s, rec r c s.dn = (recF r c s).map dn2

section
variable (P : Program) (X : Ext) (recF : RecF)

noncomputable def resF (F : FT) (H : AH) : List ResultVar → Option (List AV)
  | [] => some []
  | .tmp t :: l => (resF F H l).map (F.look t :: ·)
  | .cell a t :: l => (loadV P H t (F.look a)).bind fun v => (resF F H l).map (v :: ·)

theorem resF_eq (F : FT) (H : AH) : ∀ l, resF P F H l = resVs P F.toL H l
  | [] => rfl
  | .tmp t :: l => by simp only [resF, resVs, resF_eq F H l, FT.look_eq]
  | .cell a t :: l => by simp only [resF, resVs, resF_eq F H l, FT.look_eq]

noncomputable def goNF : GoK := fun c T H =>
  match recF none c ⟨FT.ofL T (T.length + 0), [], H⟩ with
  | some (.normal, s) => some s.dn
  | _ => none

noncomputable def goF : GoK := fun c T H =>
  match recF none c ⟨FT.ofL T (T.length + 0), [], H⟩ with
  | some (.normal, s) => some s.dn
  | some (.ret, s) => some s.dn
  | _ => none

noncomputable def endF (fn : Func) (s : FS) : Option (AV × AH) := (leaveG P (goF recF) s.M s.H).bind fun H' => (resF P s.F H' fn.results.toList).map fun vs => (oneOf vs, H')

noncomputable def bodyF (fn : Func) (c : Code) (args : List AV) (H : AH) : Option (AV × AH) :=
  match recF none c ⟨FT.ofL args (args.length + (fn.ntmps - args.length)), [], H⟩ with
  | some (.normal, s) => endF P recF fn s
  | some (.ret, s) => endF P recF fn s
  | _ => none

noncomputable def enterF (f : FuncId) (args : List AV) (H : AH) : Option (AV × AH) :=
  match P.funcs[f]? with
  | some fn =>
    match fn.body with
    | some c => bif goB P f then (match dHead fn c with | some (A, ops, o, rest) => dBodyG P (goNF recF) (goF recF) fn A ops o rest args H | none => bodyF P recF fn c args H) else none
    | none => X f args H
  | none => none

noncomputable def callF (f : FuncId) (args : List AV) (H : AH) : Option (AV × AH) := Option.rec (enterF P X recF f args H) (fun r => some r) (X f args H)

noncomputable def yieldF (b : Nat) (vs : List AV) (H : AH) : Option (AV × AH) :=
  match H.get b with
  | some (.loop _ _ T' ps as bd _) =>
    if vs.length = ps.size then
      match recF (some b) as ⟨FT.ofL (setPs ps.toList vs T') ((setPs ps.toList vs T').length + 0), [], H⟩ with
      | some (.normal, s) =>
        match s.H.get b with
        | some (.loop .ready pe T₁ ps₁ as₁ bd₁ d₁) => (recF (some b) bd ⟨s.F, s.M, s.H.set b (.loop .busy pe T₁ ps₁ as₁ bd₁ d₁)⟩).bind fun p => endRoundX b p.1 p.2.dn
        | _ => none
      | _ => none
    else none
  | _ => none

noncomputable def callV (fv : AV) (vs : List AV) (H : AH) : Option (AV × AH) :=
  match fv with
  | .func (.func g) x y => callF P X recF g (x ++ vs ++ y) H
  | .yld b => yieldF recF b vs H
  | .func f x _ => (boundM P f x).bind fun q => callF P X recF q.1 (q.2 :: vs) H
  | _ => none

noncomputable def invF (name : String) (fv : AV) (vs : List AV) (H : AH) : Option (AV × AH) :=
  match fv with
  | .iface t u => (methB P t name).bind fun g => callF P X recF g (u :: vs) H
  | _ => none

noncomputable def opF (op : Op) (F : FT) (H : AH) : Option (AV × AH) :=
  match op with
  | .call ⟨.invoke f name, xs, _⟩ => (evF P F f).bind fun fv => (evsE (evF P F) xs.toList).bind fun vs => invF P X recF name fv vs H
  | .call ⟨.value f, xs, _⟩ => (evF P F f).bind fun fv => (evsE (evF P F) xs.toList).bind fun vs => callV P X recF fv vs H
  | op => opE P (evF P F) H op

noncomputable def opFF (op : Op) : Program → Ext → RecF → FT → AH → Option (AV × AH) :=
  Op.rec (motive := fun _ => Program → Ext → RecF → FT → AH → Option (AV × AH))
    (fun x0 P _ _ F H => oMove (evF P F) H x0)
    (fun x0 P _ _ F H => oMove (evF P F) H x0)
    (fun x0 x1 x2 P _ _ F H => oPick (evF P F) H x0 x1 x2)
    (fun x0 P _ _ _ H => oAlloc P H x0)
    (fun x0 x1 P _ _ F H => oBox (evF P F) H x0 x1)
    (fun x0 x1 P _ _ F H => oBuild P (evF P F) H x0 x1)
    (fun x0 x1 x2 P _ _ F H => oBuildSlice P (evF P F) H x0 x1 x2)
    (fun _ _ _ _ _ _ _ _ _ => none)
    (fun x0 x1 P _ _ F H => oLoad P (evF P F) H x0 x1)
    (fun x0 x1 x2 P _ _ F H => oStore P (evF P F) H x0 x1 x2)
    (fun _ _ _ _ _ _ => none)
    (fun _ _ _ _ _ _ => none)
    (fun x0 P _ _ F H => oNil P (evF P F) H x0)
    (fun x0 x1 x2 x3 _ P _ _ F H => oBin P (evF P F) H x0 x1 x2 x3)
    (fun x0 _ x2 P _ _ F H => oUn (evF P F) H x0 x2)
    (fun x0 x1 x2 P _ _ F H => oConv P (evF P F) H x0 x1 x2)
    (fun _ _ _ _ _ _ _ => none)
    (fun x0 x1 P _ _ F H => oIface P (evF P F) H x0 x1)
    (fun x0 x1 x2 P _ _ F H => oFunc (evF P F) H x0 x1 x2)
    (fun _ x1 _ _ _ _ H => oMakeMap H x1)
    (fun _ _ _ _ _ _ _ => none)
    (fun x0 x1 x2 P _ _ F H => oMkSlice P (evF P F) H x0 x1 x2)
    (fun x0 x1 x2 x3 x4 P _ _ F H => oSlice P (evF P F) H x0 x1 x2 x3 x4)
    (fun x0 x1 x2 P _ _ F H => oFieldAddr P (evF P F) H x0 x1 x2)
    (fun x0 x1 x2 P _ _ F H => oField P (evF P F) H x0 x1 x2)
    (fun x0 x1 x2 P _ _ F H => oIndexAddr P (evF P F) H x0 x1 x2)
    (fun x0 x1 x2 P _ _ F H => oIndex P (evF P F) H x0 x1 x2)
    (fun x0 x1 x2 x3 P _ _ F H => oLookup P (evF P F) H x0 x1 x2 x3)
    (fun x0 x1 x2 x3 P _ _ F H => oMapSet P (evF P F) H x0 x1 x2 x3)
    (fun _ _ _ _ _ _ _ _ => none)
    (fun _ _ _ _ _ _ _ _ _ => none)
    (fun x0 x1 P _ _ F H => oRange P (evF P F) H x0 x1)
    (fun x0 x1 P _ _ F H => Bool.rec none (oNext (evF P F) H x0) x1)
    (fun _ _ _ _ _ _ => none)
    (fun x0 _ x2 x3 P _ _ F H => oAssert P (evF P F) H x0 x2 x3)
    (fun x0 x1 P _ _ F H => oExtract (evF P F) H x0 x1)
    (fun x0 P X recF F H => Call.rec (motive := fun _ => Option (AV × AH)) (fun c args ts => Callee.rec (motive := fun _ => Option (AV × AH)) (fun f => (evF P F f).bind fun fv => (evsE (evF P F) args.toList).bind fun vs => callV P X recF fv vs H) (fun f name => (evF P F f).bind fun fv => (evsE (evF P F) args.toList).bind fun vs => invF P X recF name fv vs H) (fun b => oBuiltin P (evF P F) H b args ts) c) x0)
    (fun _ _ _ _ _ _ => none)
    (fun _ _ _ _ _ _ => none)
    (fun _ _ _ _ _ _ => none)
    (fun _ _ _ _ _ _ _ => none)
    (fun _ _ _ _ _ _ _ _ => none)
    (fun _ _ _ _ _ _ _ => none) op

theorem opFF_eq (op : Op) (F : FT) (H : AH) : opFF op P X recF F H = opF P X recF op F H := by
  cases op
  case next x str => cases str <;> rfl
  case call c =>
    obtain ⟨callee, args, ts⟩ := c
    cases callee <;> rfl
  all_goals rfl

def isWant (want : Bool) : AV → Option Bool
  | .bool b => some (b == want)
  | .any => none
  | _ => some false

noncomputable def wantedF (ops : Array Oper) (F : FT) (g : Option (Nat × Bool)) : Option Bool :=
  Option.rec (some true) (fun g => Prod.rec (fun j want => Option.rec (some false) (fun d => isWant want (F.look d)) ((ops[j]?).bind (·.dst))) g) g

theorem wantedF_eq (ops : Array Oper) (F : FT) (o : Oper) : wantedF ops F o.guard = wantedV ops F.toL o := by
  unfold wantedF wantedV
  cases o.guard with
  | none => rfl
  | some g =>
    obtain ⟨j, want⟩ := g
    cases hd : (ops[j]?).bind (·.dst) with
    | none => simp [hd]
    | some d =>
      simp only [hd, Option.bind_some, FT.look_eq]
      cases hT : F.toL[d]? with
      | none => rfl
      | some v => cases v <;> rfl

abbrev OpsK := FT → AH → Option (FT × AH)

noncomputable def opsStep (ops : Array Oper) (o : Oper) (ih : OpsK) (F : FT) (H : AH) : Option (FT × AH) :=
  Option.rec none (fun b => Bool.rec (ih (F.put o.dst .undef) H) (Option.rec none (fun p => Prod.rec (fun v H' => ih (F.put o.dst v) H') p) (opFF o.op P X recF F H)) b) (wantedF ops F o.guard)

noncomputable def opsF (ops : Array Oper) (l : List Oper) : OpsK := List.rec (fun F H => some (F, H)) (fun o _ ih => opsStep P X recF ops o ih) l

abbrev PendF := List (Nat × Oper × FT × AV)

noncomputable def pend1 (ops : Array Oper) (H : AH) (o : Oper) (F : FT) (v : AV) : Bool :=
  match wantedF ops F o.guard with
  | some true => (match opEF o.op P (evF P F) H with | some (u, _) => beqV u v && convOk o.op u | none => false)
  | some false => true
  | none => false

noncomputable def pendF (ops : Array Oper) (A : List Nat) (i : Nat) (H : AH) : PendF → Bool
  | [] => true
  | (j, o, F, v) :: pend => (ancOf A i j || pend1 P ops H o F v) && pendF ops A i H pend

abbrev DrawK := PendF → FT → AH → Option (FT × AH)

noncomputable def drawStep (ops : Array Oper) (A : List Nat) (i k : Nat) (o : Oper) (ih : DrawK) (pend : PendF) (F : FT) (H : AH) : Option (FT × AH) :=
  Option.rec none (fun b => Bool.rec (ih (if k = 2 ∨ k = 0 then pend else (i, o, F, .undef) :: pend) (F.put o.dst .undef) H)
    (Bool.rec (Option.rec none (fun p => Prod.rec (fun v _ => bif convOk o.op v then ih (if k = 0 then pend else (i, o, F, v) :: pend) (F.put o.dst v) H else none) p) (opEF o.op P (evF P F) H))
      (Option.rec none (fun p => Prod.rec (fun v H' => bif pendF P ops A i H' pend then ih pend (F.put o.dst v) H' else none) p) (opFF o.op P X recF F H)) (Nat.beq k 2)) b) (wantedF ops F o.guard)

noncomputable def drawStep0 (ops : Array Oper) (A : List Nat) (q : Nat × Nat) (ih : DrawK) : DrawK :=
  match ops[q.1]? with
  | none => fun _ _ _ => none
  | some o => drawStep P X recF ops A q.1 q.2 o ih

noncomputable def drawF (ops : Array Oper) (A : List Nat) (σ : List (Nat × Nat)) : DrawK := List.rec (fun _ F H => some (F, H)) (fun q _ ih => drawStep0 P X recF ops A q ih) σ

noncomputable def scopeF (r : Option Nat) (c : Code) (m : Nat) : Code → FS → Option (AEx × FS) := Nat.rec (fun _ _ => none) (fun _ ih cur s =>
    match recF r cur s with
    | some (.goto l, s') =>
      match findLabel c l with
      | some rest => ih rest s'
      | none => some (.goto l, s')
    | x => x) m

noncomputable def loopF (r : Option Nat) (c : Code) (m : Nat) : FS → Option (AEx × FS) := Nat.rec (fun _ => none) (fun _ ih s =>
    match recF r c s with
    | some (.normal, s') => ih s'
    | x => x) m

noncomputable def endRangeF (r : Option Nat) (l : Nat) (F : FT) (M : List Mk) (H : AH) : Option (AEx × FS) :=
  match H.get l with
  | some (.loop st pe _ _ _ _ _) =>
    if isBusy st then none
    else match pe with
      | none => some (.normal, ⟨F, M, H.set l .dead⟩)
      | some c => recF r c ⟨F, M, H.set l .dead⟩
  | _ => none

noncomputable def rangeF (r : Option Nat) (g : Operand) (ps : Array Tmp) (as bd : Code) (s : FS) : Option (AEx × FS) :=
  (evF P s.F g).bind fun gv =>
    match gv, r with
    | .func (.func gf) x y, none =>
      if goB P gf then (enterF P X recF gf (x ++ [.yld (s.H.n + 1)] ++ y) ((s.H.alloc .deferred).alloc (.loop .ready none s.F.toL ps as bd s.H.n))).bind fun p => endRangeF recF none (s.H.n + 1) s.F (.mark s.H.n :: s.M) p.2 else none
    | .func (.func gf) x y, some b₀ =>
      match s.H.get b₀ with
      | some (.loop _ _ _ _ _ _ d₀) =>
        if goB P gf then (enterF P X recF gf (x ++ [.yld s.H.n] ++ y) (s.H.alloc (.loop .ready none s.F.toL ps as bd d₀))).bind fun p => endRangeF recF (some b₀) s.H.n s.F s.M p.2 else none
      | _ => none
    | _, _ => none

noncomputable def seqF (r : Option Nat) (a b : Code) (s : FS) : Option (AEx × FS) :=
  Option.rec none (fun p => Prod.rec (fun e s' => AEx.rec (recF r b s') (fun id => some (.exit id, s')) (fun l => some (.goto l, s')) (some (.ret, s')) e) p) (recF r a s)

def boolOf : AV → Option Bool
  | .bool b => some b
  | _ => none

noncomputable def condF (r : Option Nat) (c : Operand) (x y : Code) (s : FS) : Option (AEx × FS) :=
  Option.rec none (fun v => Option.rec none (fun b => Bool.rec (recF r y s) (recF r x s) b) (boolOf v)) (evF P s.F c)

def backF (M : List Mk) (p : FT × AH) : AEx × FS := (.normal, ⟨p.1, M, p.2⟩)

noncomputable def pushF (o : Oper) (M : List Mk) (F : FT) (H : AH) : Option FS :=
  match o with
  | ⟨dst, .defer ⟨.value fo, xs, _⟩, _, _, _, none⟩ => (evF P F fo).bind fun fv => (evsE (evF P F) xs.toList).bind fun vs =>
    match fv with
    | .func (.func g) x y => some ⟨F.put dst .undef, .call g (x ++ vs) y :: M, H⟩
    | _ => none
  | _ => none

noncomputable def deferF (o : Oper) (r : Option Nat) (ops : Array Oper) (s : FS) : Option (AEx × FS) :=
  match r with
  | none => (opsF P X recF ops ops.toList.dropLast s.F s.H).bind fun p => (pushF P o s.M p.1 p.2).map fun s => (.normal, s)
  | some _ => none

noncomputable def anyF : List Flt → FT → FT
  | [], F => F
  | q :: l, F => anyF l (F.put (some q.d) .any)

noncomputable def lateF : List Flt → FT → AH → FT × AH
  | [], F, H => (F, H)
  | q :: l, F, H => lateF l (F.put (some q.d) (.ptr (some (H.n, 0)))) (H.alloc (.cells (zc P q.e) q.e { whole := true }))

noncomputable def floatF (ops : Array Oper) (p : FPlan) (F : FT) (H : AH) : Option (FT × AH) :=
  (drawF P X recF (ops.extract 0 p.n) p.A p.front [] (anyF p.fls F) H).bind fun u => if lateB H u.2 then drawF P X recF ops p.A p.back [] (lateF P p.fls u.1 u.2).1 (lateF P p.fls u.1 u.2).2 else none

noncomputable def floatRegionF (ops : Array Oper) (s : FS) : Option (AEx × FS) := (planOf P ops).bind fun p => (floatF P X recF ops p s.F s.H).map (backF s.M)

noncomputable def drawRegionF (ops : Array Oper) (s : FS) : Option (AEx × FS) :=
  match drawOf ops with
  | some (σ, A) => (drawF P X recF ops A σ [] s.F s.H).map (backF s.M)
  | none => floatRegionF P X recF ops s

noncomputable def stepF (n : Nat) : RecF := fun r c s =>
  Code.rec (motive := fun _ => Program → Ext → RecF → Nat → Option Nat → FS → Option (AEx × FS))
    (fun _ _ _ _ _ s => some (.normal, s))
    (fun _ ops d P X recF _ r s => Bool.rec (Option.rec ((opsF P X recF ops ops.toList s.F s.H).map (backF s.M)) (fun o => deferF P X recF o r ops s) (deferOf ops)) (drawRegionF P X recF ops s) d)
    (fun a b _ _ _ _ recF _ r s => seqF recF r a b s)
    (fun c x y _ _ P _ recF _ r s => condF P recF r c x y s)
    (fun id c _ _ _ recF _ r s => (recF r c s).map fun p => (inBlockX id p.1, p.2))
    (fun c _ _ _ recF n r s => loopF recF r c n s)
    (fun g ps as bd _ _ P X recF _ r s => rangeF P X recF r g ps as bd s)
    (fun id _ _ _ _ _ s => some (.exit id, s))
    (fun c _ _ _ recF n r s => scopeF recF r c n c s)
    (fun _ _ _ _ _ _ s => some (.normal, s))
    (fun l _ _ _ _ _ s => some (.goto l, s))
    (fun _ _ _ _ _ s => some (.ret, s))
    (fun _ _ _ _ _ _ _ => none) c P X recF n r s
end

noncomputable def runF (P : Program) (X : Ext) (n : Nat) : RecF := Nat.rec (fun _ _ _ => none) (fun n ih => stepF P X ih n) n

noncomputable def runCallF (P : Program) (X : Ext) (n : Nat) (f : FuncId) (args : List AV) (H : AH) : Option (AV × AH) := enterF P X (runF P X n) f args H

end Go.Am
end

/- The abstract machine's two runs are one. -/
section
namespace Go.Am
open Go.RowKit

section
variable {P : Program} {X : Ext} {rec : Rec} {recF : RecF}

theorem goF_eq (h : RecEq rec recF) : goX rec = goF recF := by
  funext c T H
  unfold goX goF
  have e : rec none c ⟨T, [], H⟩ = (recF none c ⟨FT.ofL T (T.length + 0), [], H⟩).map dn2 := by
    rw [← h]; simp only [FS.dn, FT.ofL_toL, List.replicate_zero, List.append_nil]
  rw [e]
  cases recF none c ⟨FT.ofL T (T.length + 0), [], H⟩ with
  | none => rfl
  | some p =>
    obtain ⟨e, s⟩ := p
    cases e <;> rfl

theorem goNF_eq (h : RecEq rec recF) : goN rec = goNF recF := by
  funext c T H
  unfold goN goNF
  have e : rec none c ⟨T, [], H⟩ = (recF none c ⟨FT.ofL T (T.length + 0), [], H⟩).map dn2 := by
    rw [← h]; simp only [FS.dn, FT.ofL_toL, List.replicate_zero, List.append_nil]
  rw [e]
  cases recF none c ⟨FT.ofL T (T.length + 0), [], H⟩ with
  | none => rfl
  | some p =>
    obtain ⟨e, s⟩ := p
    cases e <;> rfl

theorem endF_eq (fn : Func) (s : FS) : ((leaveG P (goF recF) s.dn.M s.dn.H).bind fun H' => (resVs P s.dn.T H' fn.results.toList).map fun vs => (oneOf vs, H')) = endF P recF fn s := by
  unfold endF
  simp only [resF_eq]
  rfl

theorem pushF_eq (o : Oper) (M : List Mk) (F : FT) (H : AH) : pushV P o M F.toL H = (pushF P o M F H).map FS.dn := by
  unfold pushV pushF
  split
  · rename_i dst fo xs ts ty pos after
    simp only [evF_eq, evsE_eq]
    cases ev P F.toL fo with
    | none => rfl
    | some fv =>
      simp only [Option.bind_some]
      cases evs P F.toL xs.toList with
      | none => rfl
      | some vs =>
        simp only [Option.bind_some]
        split
        · simp only [Option.map_some, FS.dn, FT.put_toL]
        · rfl
  · rfl

theorem enterF_eq (h : RecEq rec recF) (f : FuncId) (args : List AV) (H : AH) : enterX P X rec f args H = enterF P X recF f args H := by
  unfold enterX enterF
  cases P.funcs[f]? with
  | none => rfl
  | some fn =>
    simp only
    cases fn.body with
    | none => rfl
    | some c =>
      simp only
      cases goB P f with
      | false => rfl
      | true =>
        simp only [if_true, cond_true, goF_eq h, goNF_eq h]
        cases dHead fn c with
        | some q => rfl
        | none =>
        simp only
        have e : rec none c ⟨args ++ List.replicate (fn.ntmps - args.length) .undef, [], H⟩ = (recF none c ⟨FT.ofL args (args.length + (fn.ntmps - args.length)), [], H⟩).map dn2 := by
          rw [← h]; simp only [FS.dn, FT.ofL_toL]
        rw [e]
        unfold bodyF
        cases recF none c ⟨FT.ofL args (args.length + (fn.ntmps - args.length)), [], H⟩ with
        | none => rfl
        | some p =>
          obtain ⟨e, s⟩ := p
          cases e with
          | normal => exact endF_eq fn s
          | ret => exact endF_eq fn s
          | exit id => rfl
          | goto l => rfl

theorem callF_eq (h : RecEq rec recF) (f : FuncId) (args : List AV) (H : AH) : callX P X rec f args H = callF P X recF f args H := by
  unfold callX callF
  cases X f args H with
  | none => exact enterF_eq h f args H
  | some r => rfl

theorem yieldF_eq (h : RecEq rec recF) (b : Nat) (vs : List AV) (H : AH) : yieldX rec b vs H = yieldF recF b vs H := by
  unfold yieldX yieldF
  cases H.get b with
  | none => rfl
  | some o =>
    cases o with
    | loop st pe T' ps as bd d =>
      simp only
      by_cases hl : vs.length = ps.size
      · rw [if_pos hl, if_pos hl]
        have e : rec (some b) as ⟨setPs ps.toList vs T', [], H⟩ = (recF (some b) as ⟨FT.ofL (setPs ps.toList vs T') ((setPs ps.toList vs T').length + 0), [], H⟩).map dn2 := by
          rw [← h]; simp only [FS.dn, FT.ofL_toL, List.replicate_zero, List.append_nil]
        rw [e]
        cases recF (some b) as ⟨FT.ofL (setPs ps.toList vs T') ((setPs ps.toList vs T').length + 0), [], H⟩ with
        | none => rfl
        | some p =>
          obtain ⟨e, s⟩ := p
          cases e with
          | normal =>
            simp only [Option.map_some, dn2, FS.dn]
            cases hg : s.H.get b with
            | none => rfl
            | some o =>
              cases o with
              | loop st₁ pe₁ T₁ ps₁ as₁ bd₁ d₁ =>
                cases st₁ with
                | ready =>
                  simp only
                  have e2 : rec (some b) bd ⟨s.F.toL, s.M, s.H.set b (.loop .busy pe₁ T₁ ps₁ as₁ bd₁ d₁)⟩ = (recF (some b) bd ⟨s.F, s.M, s.H.set b (.loop .busy pe₁ T₁ ps₁ as₁ bd₁ d₁)⟩).map dn2 := h (some b) bd ⟨s.F, s.M, s.H.set b (.loop .busy pe₁ T₁ ps₁ as₁ bd₁ d₁)⟩
                  rw [e2]
                  cases recF (some b) bd ⟨s.F, s.M, s.H.set b (.loop .busy pe₁ T₁ ps₁ as₁ bd₁ d₁)⟩ with
                  | none => rfl
                  | some q => rfl
                | _ => rfl
              | _ => rfl
          | _ => rfl
      · rw [if_neg hl, if_neg hl]
    | _ => rfl

theorem opF_eq (h : RecEq rec recF) (o : Oper) (F : FT) (H : AH) : opX P X rec o F.toL H = opF P X recF o.op F H := by
  have key : opV P F.toL H o = opE P (evF P F) H o.op := by rw [evF_eq, opE_eq]
  obtain ⟨dst, op, ty, pos, after, guard⟩ := o
  unfold opX opF
  cases op
  case call c =>
    obtain ⟨callee, args, ts⟩ := c
    cases callee with
    | value f =>
      simp only [evF_eq, evsE_eq]
      cases ev P F.toL f with
      | none => rfl
      | some fv =>
        simp only [Option.bind_some]
        cases evs P F.toL args.toList with
        | none => rfl
        | some vs =>
          simp only [Option.bind_some]
          unfold callV
          cases fv with
          | func g x y =>
            cases g with
            | func g => simp only [callF_eq h]
            | _ => simp only [callF_eq h]
          | yld b => simp only [yieldF_eq h]
          | _ => rfl
    | builtin b => exact key
    | invoke x m =>
      simp only [evF_eq, evsE_eq]
      cases ev P F.toL x with
      | none => rfl
      | some fv =>
        simp only [Option.bind_some]
        cases evs P F.toL args.toList with
        | none => rfl
        | some vs =>
          simp only [Option.bind_some]
          unfold invF
          cases fv with
          | iface t u =>
            simp only
            cases methB P t m with
            | none => rfl
            | some g => simp only [Option.bind_some, callF_eq h]
          | _ => rfl
  all_goals exact key

theorem opsF_eq (h : RecEq rec recF) (ops : Array Oper) : ∀ (l : List Oper) (F : FT) (H : AH), opsX P X rec ops l F.toL H = (opsF P X recF ops l F H).map fun p => (p.1.toL, p.2)
  | [], F, H => rfl
  | o :: l, F, H => by
    show opsX P X rec ops (o :: l) F.toL H = (opsStep P X recF ops o (opsF P X recF ops l) F H).map _
    unfold opsStep
    simp only [opsX, wantedF_eq]
    cases wantedV ops F.toL o with
    | none => rfl
    | some b =>
      cases b with
      | false =>
        simp only
        rw [← FT.put_toL, opsF_eq h ops l]
      | true =>
        simp only [opF_eq h, opFF_eq]
        cases opF P X recF o.op F H with
        | none => rfl
        | some p =>
          simp only [Option.bind_some]
          rw [← FT.put_toL, opsF_eq h ops l]

noncomputable def upP (p : Nat × Oper × FT × AV) : Nat × Oper × List AV × AV := (p.1, p.2.1, p.2.2.1.toL, p.2.2.2)

theorem pendF_eq (ops : Array Oper) (A : List Nat) (i : Nat) (H : AH) : ∀ pend : PendF, pendB P ops A i H (pend.map upP) = pendF P ops A i H pend
  | [] => rfl
  | (j, o, F, v) :: pend => by
    simp only [List.map_cons, upP, pendB, pendF, pendF_eq ops A i H pend, pend1, wantedF_eq, evF_eq, opEF_eq, opE_eq]
    try rfl

theorem drawF_eq (h : RecEq rec recF) (ops : Array Oper) (A : List Nat) : ∀ (σ : List (Nat × Nat)) (pend : PendF) (F : FT) (H : AH), drawX P X rec ops A σ (pend.map upP) F.toL H = (drawF P X recF ops A σ pend F H).map fun p => (p.1.toL, p.2)
  | [], _, F, H => rfl
  | (i, k) :: σ, pend, F, H => by
    show drawX P X rec ops A ((i, k) :: σ) (pend.map upP) F.toL H = (drawStep0 P X recF ops A (i, k) (drawF P X recF ops A σ) pend F H).map _
    unfold drawStep0
    simp only [drawX]
    cases ops[i]? with
    | none => rfl
    | some o =>
      simp only
      unfold drawStep
      simp only [wantedF_eq]
      cases wantedV ops F.toL o with
      | none => rfl
      | some b =>
        cases b with
        | false =>
          simp only
          rw [← FT.put_toL, ← drawF_eq h ops A σ]
          split <;> rfl
        | true =>
          simp only
          cases hb : Nat.beq k 2 with
          | true =>
            rw [Nat.beq_eq] at hb
            simp only [hb, if_true, opF_eq h, opFF_eq]
            cases opF P X recF o.op F H with
            | none => rfl
            | some p =>
              simp only [Option.bind_some, pendF_eq]
              cases pendF P ops A i p.2 pend with
              | true => simp only [if_true, cond_true]; rw [← FT.put_toL, drawF_eq h ops A σ]
              | false => rfl
          | false =>
            have hk : ¬ k = 2 := fun e => by subst e; cases hb
            simp only [hk, if_false, evF_eq, opEF_eq, opE_eq]
            cases opV P F.toL H o with
            | none => rfl
            | some p =>
              simp only [Option.bind_some]
              cases convOk o.op p.1 with
              | true =>
                simp only [if_true, cond_true]
                rw [← FT.put_toL, ← drawF_eq h ops A σ]
                split <;> rfl
              | false => rfl

theorem anyF_eq : ∀ (l : List Flt) (F : FT), anyT l F.toL = (anyF l F).toL
  | [], _ => rfl
  | q :: l, F => by simp only [anyT, anyF, ← FT.put_toL, anyF_eq l]

theorem lateF_eq : ∀ (l : List Flt) (F : FT) (H : AH), lateX P l F.toL H = ((lateF P l F H).1.toL, (lateF P l F H).2)
  | [], _, _ => rfl
  | q :: l, F, H => by simp only [lateX, lateF, ← FT.put_toL, lateF_eq l]

theorem floatF_eq (h : RecEq rec recF) (ops : Array Oper) (p : FPlan) (F : FT) (H : AH) : floatX P X rec ops p F.toL H = (floatF P X recF ops p F H).map fun q => (q.1.toL, q.2) := by
  unfold floatX floatF
  have := drawF_eq (P := P) (X := X) h (ops.extract 0 p.n) p.A p.front [] (anyF p.fls F) H
  simp only [List.map_nil] at this
  rw [anyF_eq, this]
  cases drawF P X recF (ops.extract 0 p.n) p.A p.front [] (anyF p.fls F) H with
  | none => rfl
  | some u =>
    simp only [Option.map_some, Option.bind_some]
    split
    · have := drawF_eq (P := P) (X := X) h ops p.A p.back [] (lateF P p.fls u.1 u.2).1 (lateF P p.fls u.1 u.2).2
      simp only [List.map_nil] at this
      rw [lateF_eq]; exact this
    · rfl

theorem scopeF_eq (h : RecEq rec recF) (r : Option Nat) (c : Code) : ∀ (m : Nat) (cur : Code) (s : FS), scopeX rec r c m cur s.dn = (scopeF recF r c m cur s).map dn2
  | 0, _, _ => rfl
  | m + 1, cur, s => by
    show scopeX rec r c (m + 1) cur s.dn = (match recF r cur s with
      | some (.goto l, s') => match findLabel c l with | some rest => scopeF recF r c m rest s' | none => some (.goto l, s')
      | x => x).map dn2
    have hh := h r cur s
    simp only [scopeX, hh]
    cases recF r cur s with
    | none => rfl
    | some p =>
      obtain ⟨e, s'⟩ := p
      cases e with
      | goto l =>
        simp only [Option.map_some, dn2]
        cases findLabel c l with
        | none => rfl
        | some rest => exact scopeF_eq h r c m rest s'
      | _ => rfl

theorem loopF_eq (h : RecEq rec recF) (r : Option Nat) (c : Code) : ∀ (m : Nat) (s : FS), loopX rec r c m s.dn = (loopF recF r c m s).map dn2
  | 0, _ => rfl
  | m + 1, s => by
    show loopX rec r c (m + 1) s.dn = (match recF r c s with
      | some (.normal, s') => loopF recF r c m s'
      | x => x).map dn2
    have hh := h r c s
    simp only [loopX, hh]
    cases recF r c s with
    | none => rfl
    | some p =>
      obtain ⟨e, s'⟩ := p
      cases e with
      | normal => exact loopF_eq h r c m s'
      | _ => rfl

theorem endRangeF_eq (h : RecEq rec recF) (r : Option Nat) (l : Nat) (F : FT) (M : List Mk) (H : AH) : endRangeX rec r l F.toL M H = (endRangeF recF r l F M H).map dn2 := by
  unfold endRangeX endRangeF
  cases H.get l with
  | none => rfl
  | some o =>
    cases o with
    | loop st pe T' ps as bd d =>
      simp only
      cases isBusy st with
      | true => rfl
      | false =>
        simp only [Bool.false_eq_true, if_false]
        cases pe with
        | none => rfl
        | some c => exact h r c ⟨F, M, H.set l .dead⟩
    | _ => rfl

theorem rangeF_eq (h : RecEq rec recF) (r : Option Nat) (g : Operand) (ps : Array Tmp) (as bd : Code) (s : FS) : rangeX P X rec r g ps as bd s.dn = (rangeF P X recF r g ps as bd s).map dn2 := by
  unfold rangeX rangeF
  simp only [evF_eq, enterF_eq h]
  show (ev P s.F.toL g).bind _ = _
  cases ev P s.F.toL g with
  | none => rfl
  | some gv =>
    simp only [Option.bind_some]
    cases gv with
    | func fn x y =>
      cases fn with
      | func gf =>
        cases r with
        | none =>
          simp only
          cases goB P gf with
          | false => rfl
          | true =>
            simp only [if_true, FS.dn]
            cases enterF P X recF gf (x ++ [.yld (s.H.n + 1)] ++ y) ((s.H.alloc .deferred).alloc (.loop .ready none s.F.toL ps as bd s.H.n)) with
            | none => rfl
            | some p => exact endRangeF_eq h none (s.H.n + 1) s.F (.mark s.H.n :: s.M) p.2
        | some b₀ =>
          simp only [FS.dn]
          cases s.H.get b₀ with
          | none => rfl
          | some o =>
            cases o with
            | loop st pe T' ps' as' bd' d₀ =>
              simp only
              cases goB P gf with
              | false => rfl
              | true =>
                simp only [if_true]
                cases enterF P X recF gf (x ++ [.yld s.H.n] ++ y) (s.H.alloc (.loop .ready none s.F.toL ps as bd d₀)) with
                | none => rfl
                | some p => exact endRangeF_eq h (some b₀) s.H.n s.F s.M p.2
            | _ => rfl
      | _ => cases r <;> rfl
    | _ => cases r <;> rfl

theorem runF_eq : ∀ n, RecEq (run P X n) (runF P X n)
  | 0 => fun _ _ _ => rfl
  | n + 1 => fun r c s => by
    have h := runF_eq n
    show run P X (n + 1) r c s.dn = (stepF P X (runF P X n) n r c s).map dn2
    cases c with
    | skip => rfl
    | label l => rfl
    | exit id => rfl
    | goto l => rfl
    | ret => rfl
    | refuse w => rfl
    | seq a b =>
      have hh := h r a s
      simp only [run, stepF, seqF, hh]
      cases runF P X n r a s with
      | none => rfl
      | some p =>
        obtain ⟨e, s'⟩ := p
        cases e with
        | normal => exact h r b s'
        | _ => rfl
    | cond c x y =>
      simp only [run, stepF, condF, evF_eq]
      show (match ev P s.F.toL c with | some (.bool true) => run P X n r x s.dn | some (.bool false) => run P X n r y s.dn | _ => none) = _
      cases ev P s.F.toL c with
      | none => rfl
      | some v =>
        cases v with
        | bool b => cases b <;> exact h _ _ _
        | _ => rfl
    | block id c =>
      have hh := h r c s
      simp only [run, stepF, hh]
      cases runF P X n r c s with
      | none => rfl
      | some p => rfl
    | loop c => exact loopF_eq h r c n s
    | scope c => exact scopeF_eq h r c n c s
    | region id ops draw =>
      cases draw with
      | false =>
        simp only [run, stepF]
        cases deferOf ops with
        | none =>
          show (opsX P X (run P X n) ops ops.toList s.F.toL s.H).map _ = _
          rw [opsF_eq h]
          simp only []
          cases opsF P X (runF P X n) ops ops.toList s.F s.H with
          | none => rfl
          | some p => rfl
        | some o =>
          cases r with
          | some _ => rfl
          | none =>
            simp only [deferF]
            show (opsX P X (run P X n) ops ops.toList.dropLast s.F.toL s.H).bind _ = _
            rw [opsF_eq h]
            cases opsF P X (runF P X n) ops ops.toList.dropLast s.F s.H with
            | none => rfl
            | some p =>
              simp only [Option.map_some, Option.bind_some]
              show (pushV P o s.M p.1.toL p.2).map _ = _
              rw [pushF_eq]
              cases pushF P o s.M p.1 p.2 with
              | none => rfl
              | some q => rfl
      | true =>
        simp only [run, stepF, drawRegionF]
        cases drawOf ops with
        | none =>
          simp only [floatRegionF]
          cases planOf P ops with
          | none => rfl
          | some p =>
            simp only [Option.bind_some]
            show (floatX P X (run P X n) ops p s.F.toL s.H).map _ = _
            rw [floatF_eq h]
            cases floatF P X (runF P X n) ops p s.F s.H with
            | none => rfl
            | some q => rfl
        | some q =>
          obtain ⟨σ, A⟩ := q
          simp only
          have := drawF_eq (P := P) (X := X) h ops A σ [] s.F s.H
          simp only [List.map_nil] at this
          show (drawX P X (run P X n) ops A σ [] s.F.toL s.H).map _ = _
          rw [this]
          cases drawF P X (runF P X n) ops A σ [] s.F s.H with
          | none => rfl
          | some p => rfl
    | rangeFunc g ps as bd => exact rangeF_eq h r g ps as bd s

theorem runCallF_eq (n : Nat) (f : FuncId) (args : List AV) (H : AH) : runCall P X n f args H = runCallF P X n f args H := enterF_eq (runF_eq n) f args H

theorem ACall.of_run (hm : P.follows .mixedOrders = true) (hX : ExtOk P X) {n : Nat} {f : FuncId} {args : List AV} {H : AH} {v : AV} (hgo : goB P f = true) (h : (runCallF P X n f args H).map (·.1) = some v) :
    ACall P f args H (fun v' _ => v' = v) := by
  obtain ⟨⟨v', H'⟩, hr, rfl⟩ := Option.map_eq_some_iff.1 h
  rw [← runCallF_eq] at hr
  exact (runCall_sound hm hX hgo hr).mono fun _ _ h => h.1
end

end Go.Am
end

/- Calls that are reckoned once, in a heap of their own, and taken as they stand in a greater one. -/
section
namespace Go.Am
open Go.RowKit















end Go.Am
end

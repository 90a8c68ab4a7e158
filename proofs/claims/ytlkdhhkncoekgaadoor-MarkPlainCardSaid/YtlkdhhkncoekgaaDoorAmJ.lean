/- The abstract machine: activations, statements, operations in a region, calls. -/
import Derived.Test.YtlkdhhkncoekgaaDoorAmI
import Derived.OrdersIn
import Derived.TacticsIn
import Derived.Scope
import Derived.RangeFuncLeaves
import Derived.RangeFuncRecord
namespace Go

section
variable {F : Fence} {n : Nat} {P : Program} {Q : Exit → Act → World → Prop} {a : Act} {w : World}

/-- A loop, by a number that falls. -/
theorem wpIn_loop_ix {c : Code} (I : Nat → Act → World → Prop) {j : Nat} (h₀ : I j a w)
    (round : ∀ j a w, I j a w → c.wpIn F n P (Exit.then (fun a' w' => ∃ i, i < j ∧ I i a' w') Q) a w) : (Code.loop c).wpIn F n P Q a w := by
  intro b k cs hro hb hr
  have key : ∀ j a w, I j a w →
      ∃ e a' w', Q e a' w' ∧ ArrivesIn (Machine.fenced P F) P (lone (b.atR a (.code c :: .inLoop c :: k)) cs w) b k cs e a' w' := by
    intro j
    induction j using Nat.strongRecOn with
    | _ j ih =>
      intro a w hI
      obtain ⟨e, a₁, w₁, hq, harr⟩ := round j a w hI b (.inLoop c :: k) cs hro hb hr
      cases e with
      | normal =>
        obtain ⟨i, hlt, hI₁⟩ := hq
        obtain ⟨e₂, a₂, w₂, hq₂, harr₂⟩ := ih i hlt a₁ w₁ hI₁
        exact ⟨e₂, a₂, w₂, hq₂, .of_steps (StepsIn.trans harr (.one (fenced_calm hb hr rfl) stepR_inLoop)) harr₂⟩
      | exit id => exact ⟨_, a₁, w₁, hq, .pass (x := .inLoop c) rfl (fun _ _ => .inl (by simp)) harr⟩
      | goto l => exact ⟨_, a₁, w₁, hq, .pass (x := .inLoop c) rfl (fun _ _ => .inl (by simp)) harr⟩
      | ret => exact ⟨_, a₁, w₁, hq, .pass (x := .inLoop c) rfl (fun _ _ => .inl (by simp)) harr⟩
      | panic ch => exact ⟨_, a₁, w₁, hq, .pass (x := .inLoop c) rfl (fun _ _ => .inl (by simp)) harr⟩
      | outgrown => exact ⟨_, a₁, w₁, hq, .pass (x := .inLoop c) rfl (fun _ _ => .inl (by simp)) harr⟩
  obtain ⟨e, a', w', hq, harr⟩ := key _ a w h₀
  exact ⟨e, a', w', hq, .of_steps (.one (fenced_calm hb hr rfl) stepR_loop) harr⟩

theorem stepR_scope {b : Frame} {c : Code} {k : List Item} {cs : List Frame} : step P (lone (b.atR a (.code (.scope c) :: k)) cs w) = .next (lone (b.atR a (.code c :: .inScope c :: k)) cs w) :=
  step_lone_go (by simp [stepG, stepG.exec, Frame.atR])
theorem stepR_inScope {b : Frame} {c : Code} {k : List Item} {cs : List Frame} : step P (lone (b.atR a (.inScope c :: k)) cs w) = .next (lone (b.atR a k) cs w) :=
  step_lone_go (by simp [stepG, stepG.exec, Frame.atR])

/-- As Q; by a goto to a label that the scope holds: J. -/
def Exit.jumps (c : Code) (J : Nat → Act → World → Prop) (Q : Exit → Act → World → Prop) : Exit → Act → World → Prop
  | .goto l, a, w => if (findLabel c l).isSome then J l a w else Q (.goto l) a w
  | e, a, w => Q e a w

theorem wpIn_scope_ix {c : Code} (J : Nat → Nat → Act → World → Prop) (first : c.wpIn F n P (Exit.jumps c (fun l a w => ∃ j, J j l a w) Q) a w)
    (pass : ∀ j l a w rest, findLabel c l = some rest → J j l a w → rest.wpIn F n P (Exit.jumps c (fun l' a' w' => ∃ i, i < j ∧ J i l' a' w') Q) a w) : (Code.scope c).wpIn F n P Q a w := by
  intro b k cs hro hb hr
  have hx : ∀ id, exitTo id (.inScope c :: k) = exitTo id k := fun id => by simp [exitTo]
  have hg0 : ∀ l, (findLabel c l).isSome = false → gotoIn l (.inScope c :: k) = gotoIn l k := fun l h => by
    cases hf : findLabel c l with
    | none => simp [gotoIn, hf]
    | some r => rw [hf] at h; cases h
  have hg1 : ∀ l rest, findLabel c l = some rest → gotoIn l (.inScope c :: k) = some (.code rest :: .inScope c :: k) := fun l rest h => by simp [gotoIn, h]
  have key : ∀ j l a w rest, findLabel c l = some rest → J j l a w → ∃ e a' w', Q e a' w' ∧ ArrivesIn (Machine.fenced P F) P (lone (b.atR a (.code rest :: .inScope c :: k)) cs w) b k cs e a' w' := by
    intro j
    induction j using Nat.strongRecOn with
    | _ j ih =>
      intro l a w rest hf hJ
      obtain ⟨e, a₁, w₁, hq, harr⟩ := pass j l a w rest hf hJ b (.inScope c :: k) cs hro hb hr
      cases e with
      | normal => exact ⟨.normal, a₁, w₁, hq, StepsIn.trans harr (.one (fenced_calm hb hr rfl) stepR_inScope)⟩
      | exit id => exact ⟨.exit id, a₁, w₁, hq, fun k' hk => harr.1 k' (by rw [hx]; exact hk), fun hr' hk => harr.2 hr' (by rw [hx]; exact hk)⟩
      | goto l' =>
        simp only [Exit.jumps] at hq
        split at hq
        · rename_i hs
          obtain ⟨rest', hf'⟩ := Option.isSome_iff_exists.1 hs
          obtain ⟨i, hlt, hJ'⟩ := hq
          obtain ⟨e₂, a₂, w₂, hq₂, harr₂⟩ := ih i hlt l' a₁ w₁ rest' hf' hJ'
          exact ⟨e₂, a₂, w₂, hq₂, .of_steps (harr.1 _ (hg1 _ _ hf')) harr₂⟩
        · rename_i hs
          have := hg0 l' (by simpa using hs)
          exact ⟨.goto l', a₁, w₁, hq, fun k' hk => harr.1 k' (by rw [this]; exact hk), fun hr' hk => harr.2 hr' (by rw [this]; exact hk)⟩
      | ret => exact ⟨_, a₁, w₁, hq, harr⟩
      | panic ch => exact ⟨_, a₁, w₁, hq, harr⟩
      | outgrown => exact ⟨_, a₁, w₁, hq, harr⟩
  have h0 : StepsIn (Machine.fenced P F) P (lone (b.atR a (.code (.scope c) :: k)) cs w) (lone (b.atR a (.code c :: .inScope c :: k)) cs w) := .one (fenced_calm hb hr rfl) stepR_scope
  obtain ⟨e, a₁, w₁, hq, harr⟩ := first b (.inScope c :: k) cs hro hb hr
  cases e with
  | normal => exact ⟨.normal, a₁, w₁, hq, h0.trans (StepsIn.trans harr (.one (fenced_calm hb hr rfl) stepR_inScope))⟩
  | exit id => exact ⟨.exit id, a₁, w₁, hq, .of_steps h0 ⟨fun k' hk => harr.1 k' (by rw [hx]; exact hk), fun hr' hk => harr.2 hr' (by rw [hx]; exact hk)⟩⟩
  | goto l' =>
    simp only [Exit.jumps] at hq
    split at hq
    · rename_i hs
      obtain ⟨rest', hf'⟩ := Option.isSome_iff_exists.1 hs
      obtain ⟨j, hJ'⟩ := hq
      obtain ⟨e₂, a₂, w₂, hq₂, harr₂⟩ := key j l' a₁ w₁ rest' hf' hJ'
      exact ⟨e₂, a₂, w₂, hq₂, .of_steps (h0.trans (harr.1 _ (hg1 _ _ hf'))) harr₂⟩
    · rename_i hs
      have := hg0 l' (by simpa using hs)
      exact ⟨.goto l', a₁, w₁, hq, .of_steps h0 ⟨fun k' hk => harr.1 k' (by rw [this]; exact hk), fun hr' hk => harr.2 hr' (by rw [this]; exact hk)⟩⟩
  | ret => exact ⟨_, a₁, w₁, hq, .of_steps h0 harr⟩
  | panic ch => exact ⟨_, a₁, w₁, hq, .of_steps h0 harr⟩
  | outgrown => exact ⟨_, a₁, w₁, hq, .of_steps h0 harr⟩
end

namespace Am
open Go.RowKit

/-- Where an activation stands: its temporaries, the marks among its deferred calls, the heap. -/
structure St where
  T : List AV
  M : List Nat
  H : AH

inductive AEx where
  | normal
  | exit (id : Nat)
  | goto (l : Nat)
  | ret
  deriving DecidableEq

def AEx.toExit : AEx → Exit
  | .normal => .normal
  | .exit id => .exit id
  | .goto l => .goto l
  | .ret => .ret

/-- The widest fence, in a round or not. -/
def Fr (rc : Option Nat) : Fence := { Fence.wide with round := rc }

theorem callsIn_fr {rc : Option Nat} {n : Nat} {P : Program} {f : FuncId} {args : Array Value} {w : World} {R : Ending → World → Prop} : CallsIn (Fr rc) n P f args w R ↔ Calls P f args w R :=
  show CallsIn Fence.wide n P f args w R ↔ _ from callsIn_wide

def MR (E : Env) : List Nat → List Deferred → Prop
  | [], ds => ds = []
  | m :: ms, ds => ∃ L ds', E m = some L ∧ ds = { target := .collected L.blk, args := #[] } :: ds' ∧ MR E ms ds'

theorem MR.mono {E E' : Env} (h : E.le E') : ∀ {ms : List Nat} {ds : List Deferred}, MR E ms ds → MR E' ms ds
  | [], _, k => k
  | _ :: _, _, k => by obtain ⟨L, ds', h1, h2, h3⟩ := k; exact ⟨L, ds', h _ _ h1, h2, MR.mono h h3⟩

def RR (E : Env) : Option Nat → Option Nat → Prop
  | none, rc => rc = none
  | some l, rc => ∃ L, E l = some L ∧ rc = some L.blk

theorem RR.mono {E E' : Env} (h : E.le E') {r rc : Option Nat} (k : RR E r rc) : RR E' r rc := by
  cases r with
  | none => exact k
  | some l => obtain ⟨L, h1, h2⟩ := k; exact ⟨L, h _ _ h1, h2⟩

structure SR (P : Program) (E : Env) (B : Bnd) (s : St) (a : Act) (w : World) : Prop where
  heap : HR P E B s.H w
  tmps : VRs E s.T a.tmps.toList
  marks : MR E s.M a.defers

def APost (P : Program) (E : Env) (B : Bnd) (w : World) (Q : AEx → St → Prop) : Exit → Act → World → Prop := fun e a' w' =>
  ∃ ae s' E', e = AEx.toExit ae ∧ Q ae s' ∧ E.le E' ∧ SR P E' B s' a' w' ∧ Below B w w'

/-- The statement c, from s on, is left in a way that Q takes. -/
def AWp (P : Program) (r : Option Nat) (c : Code) (Q : AEx → St → Prop) (s : St) : Prop :=
  ∀ E B w a rc, SR P E B s a w → RR E r rc → c.wpIn (Fr rc) 0 P (APost P E B w Q) a w

/-- The function f returns a value, and leaves a heap, that Q takes. -/
def ACall (P : Program) (f : FuncId) (args : List AV) (H : AH) (Q : AV → AH → Prop) : Prop :=
  ∀ E B w args', HR P E B H w → VRs E args args'.toList →
    Calls P f args' w (fun e w' => ∃ v H' E' x, e = .returned x ∧ Q v H' ∧ E.le E' ∧ HR P E' B H' w' ∧ VR E' v x ∧ Below B w w')

section rules
variable {P : Program} {r : Option Nat} {Q : AEx → St → Prop} {s : St}

theorem APost.trans {E E' : Env} {B : Bnd} {w w' : World} {Q : AEx → St → Prop} {e : Exit} {a : Act} {w'' : World} (hE : E.le E') (hb : Below B w w') (h : APost P E' B w' Q e a w'') : APost P E B w Q e a w'' := by
  obtain ⟨ae, s', E'', h1, h2, h3, h4, h5⟩ := h
  exact ⟨ae, s', E'', h1, h2, hE.trans h3, h4, hb.trans h5⟩

theorem AWp.mono {c : Code} {Q' : AEx → St → Prop} (h : AWp P r c Q s) (hq : ∀ e s, Q e s → Q' e s) : AWp P r c Q' s :=
  fun E B w a rc hs hr => Go.wpIn_mono (h E B w a rc hs hr) fun _ _ _ ⟨ae, s', E', h1, h2, h3⟩ => ⟨ae, s', E', h1, hq _ _ h2, h3⟩

theorem ACall.mono {f : FuncId} {args : List AV} {H : AH} {Q Q' : AV → AH → Prop} (h : ACall P f args H Q) (hq : ∀ v H, Q v H → Q' v H) : ACall P f args H Q' :=
  fun E B w args' hH ha => Calls.mono (h E B w args' hH ha) fun _ _ ⟨v, H', E', x, h1, h2, h3⟩ => ⟨v, H', E', x, h1, hq _ _ h2, h3⟩

/-- As Q; off its end: K. -/
def thenA (K : St → Prop) (Q : AEx → St → Prop) : AEx → St → Prop
  | .normal, s => K s
  | e, s => Q e s

/-- As Q; by an exit of this block: as off its end. -/
def inBlockA (id : Nat) (Q : AEx → St → Prop) : AEx → St → Prop
  | .exit i, s => if i = id then Q .normal s else Q (.exit i) s
  | e, s => Q e s

def jumpsA (c : Code) (J : Nat → St → Prop) (Q : AEx → St → Prop) : AEx → St → Prop
  | .goto l, s => if (findLabel c l).isSome then J l s else Q (.goto l) s
  | e, s => Q e s

theorem AWp.skip (h : Q .normal s) : AWp P r .skip Q s := fun E B w _ _ hs _ => wpIn_skip ⟨.normal, s, E, rfl, h, Env.le.refl E, hs, Below.refl B w⟩
theorem AWp.label {l : Nat} (h : Q .normal s) : AWp P r (.label l) Q s := fun E B w _ _ hs _ => wpIn_label ⟨.normal, s, E, rfl, h, Env.le.refl E, hs, Below.refl B w⟩
theorem AWp.exit {id : Nat} (h : Q (.exit id) s) : AWp P r (.exit id) Q s := fun E B w _ _ hs _ => wpIn_exit ⟨.exit id, s, E, rfl, h, Env.le.refl E, hs, Below.refl B w⟩
theorem AWp.goto {l : Nat} (h : Q (.goto l) s) : AWp P r (.goto l) Q s := fun E B w _ _ hs _ => wpIn_goto ⟨.goto l, s, E, rfl, h, Env.le.refl E, hs, Below.refl B w⟩
theorem AWp.ret (h : Q .ret s) : AWp P r .ret Q s := fun E B w _ _ hs _ => wpIn_ret ⟨.ret, s, E, rfl, h, Env.le.refl E, hs, Below.refl B w⟩

theorem AWp.seq {x y : Code} (h : AWp P r x (thenA (AWp P r y Q) Q) s) : AWp P r (.seq x y) Q s := by
  intro E B w a rc hs hr
  refine wpIn_seq (Go.wpIn_mono (h E B w a rc hs hr) ?_)
  rintro e a' w' ⟨ae, s', E', rfl, hq, hE, hs', hb⟩
  cases ae with
  | normal => exact Go.wpIn_mono (hq E' B w' a' rc hs' (hr.mono hE)) fun e a w h => h.trans hE hb
  | exit id => exact ⟨.exit id, s', E', rfl, hq, hE, hs', hb⟩
  | goto l => exact ⟨.goto l, s', E', rfl, hq, hE, hs', hb⟩
  | ret => exact ⟨.ret, s', E', rfl, hq, hE, hs', hb⟩

theorem AWp.cond {c : Operand} {x y : Code} {b : Bool} (hc : ev P s.T c = some (.bool b)) (h : AWp P r (if b then x else y) Q s) : AWp P r (.cond c x y) Q s := by
  intro E B w a rc hs hr
  have : a.eval c = .bool b := eval_sim hs.heap hs.tmps hc
  exact wpIn_cond this (by cases b <;> exact h E B w a rc hs hr)

theorem AWp.block {id : Nat} {c : Code} (h : AWp P r c (inBlockA id Q) s) : AWp P r (.block id c) Q s := by
  intro E B w a rc hs hr
  refine wpIn_block (Go.wpIn_mono (h E B w a rc hs hr) ?_)
  rintro e a' w' ⟨ae, s', E', rfl, hq, hE, hs', hb⟩
  cases ae with
  | normal => exact ⟨.normal, s', E', rfl, hq, hE, hs', hb⟩
  | exit i =>
    simp only [inBlockA] at hq
    simp only [AEx.toExit, Exit.inBlock]
    by_cases e : i = id
    · rw [if_pos e] at hq; simp only [e, if_true]; exact ⟨.normal, s', E', rfl, hq, hE, hs', hb⟩
    · rw [if_neg e] at hq; simp only [e, if_false]; exact ⟨.exit i, s', E', rfl, hq, hE, hs', hb⟩
  | goto l => exact ⟨.goto l, s', E', rfl, hq, hE, hs', hb⟩
  | ret => exact ⟨.ret, s', E', rfl, hq, hE, hs', hb⟩

/-- A loop, by an invariant and a number that falls. -/
theorem AWp.loop {c : Code} (I : Nat → St → Prop) {j : Nat} (h₀ : I j s) (h : ∀ j s, I j s → AWp P r c (thenA (fun s' => ∃ i, i < j ∧ I i s') Q) s) : AWp P r (.loop c) Q s := by
  intro E B w a rc hs hr
  refine wpIn_loop_ix (j := j) (fun j a' w' => ∃ E' s', I j s' ∧ E.le E' ∧ SR P E' B s' a' w' ∧ Below B w w') ⟨E, s, h₀, Env.le.refl E, hs, Below.refl B w⟩ ?_
  rintro j a₁ w₁ ⟨E₁, s₁, hI, hE, hs₁, hb⟩
  refine Go.wpIn_mono (h j s₁ hI E₁ B w₁ a₁ rc hs₁ (hr.mono hE)) ?_
  rintro e a' w' ⟨ae, s', E', rfl, hq, hE', hs', hb'⟩
  cases ae with
  | normal => obtain ⟨i, hi, hI'⟩ := hq; exact ⟨i, hi, E', s', hI', hE.trans hE', hs', hb.trans hb'⟩
  | exit id => exact ⟨.exit id, s', E', rfl, hq, hE.trans hE', hs', hb.trans hb'⟩
  | goto l => exact ⟨.goto l, s', E', rfl, hq, hE.trans hE', hs', hb.trans hb'⟩
  | ret => exact ⟨.ret, s', E', rfl, hq, hE.trans hE', hs', hb.trans hb'⟩

theorem AWp.scope {c : Code} (J : Nat → Nat → St → Prop) (h₀ : AWp P r c (jumpsA c (fun l s => ∃ j, J j l s) Q) s)
    (h : ∀ j l s rest, findLabel c l = some rest → J j l s → AWp P r rest (jumpsA c (fun l' s' => ∃ i, i < j ∧ J i l' s') Q) s) : AWp P r (.scope c) Q s := by
  intro E B w a rc hs hr
  have key : ∀ {E₁ : Env} {w₁ : World} {e : Exit} {a' : Act} {w' : World} {K : Nat → St → Prop} {K' : Nat → Act → World → Prop}, E.le E₁ → Below B w w₁ →
      (∀ l E' s', K l s' → E.le E' → SR P E' B s' a' w' → Below B w w' → K' l a' w') → APost P E₁ B w₁ (jumpsA c K Q) e a' w' → Exit.jumps c K' (APost P E B w Q) e a' w' := by
    rintro E₁ w₁ e a' w' K K' hE hb hK ⟨ae, s', E', rfl, hq, hE', hs', hb'⟩
    cases ae with
    | normal => exact ⟨.normal, s', E', rfl, hq, hE.trans hE', hs', hb.trans hb'⟩
    | exit id => exact ⟨.exit id, s', E', rfl, hq, hE.trans hE', hs', hb.trans hb'⟩
    | goto l =>
      simp only [jumpsA] at hq
      simp only [AEx.toExit, Exit.jumps]
      split at hq
      · rename_i hl; rw [if_pos hl]; exact hK l E' s' hq (hE.trans hE') hs' (hb.trans hb')
      · rename_i hl; rw [if_neg hl]; exact ⟨.goto l, s', E', rfl, hq, hE.trans hE', hs', hb.trans hb'⟩
    | ret => exact ⟨.ret, s', E', rfl, hq, hE.trans hE', hs', hb.trans hb'⟩
  refine wpIn_scope_ix (fun j l a' w' => ∃ E' s', J j l s' ∧ E.le E' ∧ SR P E' B s' a' w' ∧ Below B w w') (Go.wpIn_mono (h₀ E B w a rc hs hr) fun _ _ _ hp => key (Env.le.refl E) (Below.refl B w) ?_ hp) ?_
  · rintro l E' s' ⟨j, hJ⟩ hE' hs' hb'; exact ⟨j, E', s', hJ, hE', hs', hb'⟩
  · rintro j l a₁ w₁ rest hf ⟨E₁, s₁, hJ, hE, hs₁, hb⟩
    refine Go.wpIn_mono (h j l s₁ rest hf hJ E₁ B w₁ a₁ rc hs₁ (hr.mono hE)) fun _ _ _ hp => key hE hb ?_ hp
    rintro l E' s' ⟨i, hi, hJ'⟩ hE' hs' hb'; exact ⟨i, hi, E', s', hJ', hE', hs', hb'⟩

end rules
end Am
end Go

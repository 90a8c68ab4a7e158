/- What code asks, with labels, and with ranges over functions. -/
import Derived.Test.YtlkdhhkncoekgaaDoorAmY
import Derived.Test.YtlkdhhkncoekgaaDoorAmIt
namespace Go.Am
open Go.RowKit

/-- A range over a function: the number of its first region; what the iterator hands out; what holds ahead of the round of a number; how it may end early, and what holds there. The invariants know the blocks that are not the iterator's. -/
structure RangeAnn where
  key : Nat
  β : Type
  γ : Type
  fn : FuncId
  held : β → List AV × List AV
  el : γ → List AV
  xs : β → List γ
  cap : β → AH → Prop
  inv : β → Nat → List Nat → AH → Prop
  outs : List AEx
  stop : β → AEx → List Nat → AH → Prop

def findRan (k : Nat) : List RangeAnn → Option RangeAnn
  | [] => none
  | a :: l => bif Nat.beq a.key k then some a else findRan k l

def eqEx : AEx → AEx → Bool
  | .normal, .normal => true
  | .ret, .ret => true
  | .exit a, .exit b => Nat.beq a b
  | .goto a, .goto b => Nat.beq a b
  | _, _ => false
theorem eqEx_spec {a b : AEx} (h : eqEx a b = true) : a = b := by
  cases a <;> cases b <;> simp only [eqEx] at h <;> first | rfl | cases h | (rw [Nat.eq_of_beq_eq_true h])
def memEx (e : AEx) : List AEx → Bool
  | [] => false
  | a :: l => bif eqEx e a then true else memEx e l

structure RClosed (inv : Nat → List Nat → AH → Prop) (stop : AEx → List Nat → AH → Prop) (cap : AH → Prop) : Prop where
  s1 : ∀ i W H o, inv i W H → inv i (H.n :: W) (H.alloc o)
  s2 : ∀ i W H c o, c ∈ W → inv i W H → inv i W (H.set c o)
  s3 : ∀ e W H o, stop e W H → stop e (H.n :: W) (H.alloc o)
  s4 : ∀ e W H c o, c ∈ W → stop e W H → stop e W (H.set c o)
  cap : ∀ i W H, inv i W H → cap H

/-- Two more blocks, all else as it was. -/
def RBegin (H H2 : AH) : Prop := H2.n = H.n + 2 ∧ ∀ c, c < H.n → H2.get c = H.get c
def AllLt (W : List Nat) (H : AH) : Prop := ∀ c ∈ W, c < H.n
/-- These blocks are as they were. -/
def Still (W : List Nat) (H1 H H' : AH) : Prop := H1.n ≤ H'.n ∧ ∀ c ∈ W, H'.get c = H.get c
def InW (b : Nat) (W : List Nat) : Prop := b ∈ W
def Dfr (b : Nat) (H : AH) : Prop := H.get b = some .deferred

def allP {α : Type} : List α → (α → Prop) → Prop
  | [], _ => True
  | [a], f => f a
  | a :: l, f => f a ∧ allP l f
theorem allP_mem {α : Type} : ∀ {l : List α} {f : α → Prop}, allP l f → ∀ a ∈ l, f a
  | [], _, _, _, h => by cases h
  | [a], f, h, b, hb => by simp at hb; exact hb ▸ h
  | a :: c :: l, f, h, b, hb => by
    rcases List.mem_cons.1 hb with rfl | hb
    · exact h.1
    · exact allP_mem (l := c :: l) h.2 b hb

def labelsOf : Code → List Nat
  | .seq a b => labelsOf a ++ labelsOf b
  | .label l => [l]
  | _ => []

theorem findLabel_mem : ∀ {c : Code} {l : Nat} {rest : Code}, findLabel c l = some rest → l ∈ labelsOf c := by
  intro c
  induction c with
  | seq a b iha ihb =>
    intro l rest h
    simp only [findLabel] at h
    simp only [labelsOf, List.mem_append]
    split at h
    · rename_i hr; exact .inl (iha hr)
    · exact .inr (ihb h)
  | label l' =>
    intro l rest h
    simp only [findLabel] at h
    split at h
    · rename_i e; simp only [labelsOf, List.mem_singleton]; exact (beq_iff_eq.1 e).symm
    · cases h
  | _ => intro l rest h; cases h

/-- What stands behind a label, in a row of statements. -/
def tailOf : Code → Nat → Option Code
  | .seq a b, l => match a with
    | .label l' => if l' == l then some b else tailOf b l
    | _ => tailOf b l
  | _, _ => none

/-- The labels stand in the row itself, each once, none at its end. -/
def flatB : Code → Bool
  | .seq a b => (match a with | .label l => !(labelsOf b).contains l | a => (labelsOf a).isEmpty) && flatB b
  | .label _ => false
  | _ => true

theorem tailOf_mem : ∀ {c : Code} {l : Nat} {b : Code}, tailOf c l = some b → l ∈ labelsOf c := by
  intro c
  induction c with
  | seq a b iha ihb =>
    intro l b' h
    simp only [labelsOf, List.mem_append]
    cases a with
    | label l' =>
      simp only [tailOf] at h
      split at h
      · rename_i e; exact .inl (by simp only [labelsOf, List.mem_singleton]; exact (beq_iff_eq.1 e).symm)
      · exact .inr (ihb h)
    | _ => exact .inr (ihb h)
  | _ => intro l b h; cases h

theorem tailOf_found : ∀ {c : Code} {l : Nat} {b : Code}, tailOf c l = some b → (findLabel c l).isSome = true := by
  intro c
  induction c with
  | seq a b iha ihb =>
    intro l b' h
    simp only [findLabel]
    split
    · rfl
    · rename_i hn
      cases a with
      | label l' =>
        simp only [tailOf] at h
        simp only [findLabel] at hn
        split at h
        · rename_i e; rw [if_pos e] at hn; cases hn
        · exact ihb h
      | _ => exact ihb h
  | _ => intro l b h; cases h

theorem tailOf_tail : ∀ {c : Code} {l : Nat} {b : Code}, flatB c = true → tailOf c l = some b → flatB b = true ∧ ∀ l', (tailOf b l').isSome = true → tailOf c l' = tailOf b l' := by
  intro c
  induction c with
  | seq a b iha ihb =>
    intro l b' hf h
    simp only [flatB, Bool.and_eq_true] at hf
    have sub : ∀ l', (tailOf b l').isSome = true → tailOf (.seq a b) l' = tailOf b l' := by
      intro l' hs
      cases a with
      | label l2 =>
        simp only [tailOf]
        rw [if_neg]
        intro e
        obtain ⟨b2, hb2⟩ := Option.isSome_iff_exists.1 hs
        have := tailOf_mem hb2
        have h1 := hf.1
        simp only [Bool.not_eq_true'] at h1
        rw [← beq_iff_eq.1 e] at this
        rw [List.contains_iff_mem.2 this] at h1
        cases h1
      | _ => rfl
    have rest : tailOf b l = some b' → flatB b' = true ∧ ∀ l', (tailOf b' l').isSome = true → tailOf (.seq a b) l' = tailOf b' l' := by
      intro h
      obtain ⟨h1, h2⟩ := ihb hf.2 h
      refine ⟨h1, fun l' hs => ?_⟩
      have := h2 l' hs
      rw [← this]
      exact sub l' (by rw [this]; exact hs)
    cases a with
    | label l2 =>
      simp only [tailOf] at h
      split at h
      · cases h; exact ⟨hf.2, sub⟩
      · exact rest h
    | _ => exact rest h
  | _ => intro l b _ h; cases h

theorem findLabel_flat : ∀ {c : Code} {l : Nat} {rest : Code}, flatB c = true → findLabel c l = some rest → ∃ b, tailOf c l = some b ∧ rest = .seq .skip b := by
  intro c
  induction c with
  | seq a b iha ihb =>
    intro l rest hf h
    simp only [flatB, Bool.and_eq_true] at hf
    simp only [findLabel] at h
    split at h
    · rename_i ra hr
      have hm := findLabel_mem hr
      cases a with
      | label l' =>
        simp only [findLabel] at hr
        split at hr
        · rename_i e
          cases hr; cases h
          exact ⟨b, by simp only [tailOf]; rw [if_pos e], rfl⟩
        · cases hr
      | _ => have h1 := hf.1; simp only [List.isEmpty_iff] at h1; rw [h1] at hm; cases hm
    · rename_i hr
      obtain ⟨b', h1, h2⟩ := ihb hf.2 h
      refine ⟨b', ?_, h2⟩
      cases a with
      | label l' =>
        simp only [findLabel] at hr
        split at hr
        · cases hr
        · rename_i e; simp only [tailOf]; rw [if_neg e]; exact h1
      | _ => exact h1
  | label l' => intro l rest hf h; cases hf
  | _ => intro l rest _ h; cases h

section
variable (X : Option Nat → Atoms) (It : FuncId → List AV → List AV → (AH → Prop) → List (List AV) → Prop) (P : Program) (anns : List LoopAnn) (rans : List RangeAnn)

def landK (a : LoopAnn) (n : Nat) (M : List Nat) (low : Nat → Prop) (T : List AV) (M2 : List Nat) (H : AH) : Prop :=
  bif Nat.beq T.length n then sameM M2 M (∃ x j, low j ∧ a.live.map (look T) = a.tmpl x ∧ a.inv x H j) else False

def jumpK (c : Code) (n : Nat) (M : List Nat) (low : Nat → Prop) (K : VK) : VK := fun e T M2 H =>
  match e with
  | .goto l => match findLabel c l with
    | some _ => match findAnn (100000 + l) anns with
      | some a => landK a n M low T M2 H
      | none => False
    | none => K (.goto l) T M2 H
  | e => K e T M2 H

/-- A row of statements: what comes to a label is as what jumps there. -/
def spineK (V : Code → VK → List AV → List Nat → AH → Prop) : Code → VK → List AV → List Nat → AH → Prop
  | .seq a b, K, T, M, H => match a with
    | .label l => match findAnn (100000 + l) anns with
      | some _ => K (.goto l) T M H
      | none => spineK V b K T M H
    | a => V a (fun e T M H => match e with | .normal => spineK V b K T M H | e => K e T M H) T M H
  | c, K, T, M, H => V c K T M H

/-- A cut: an annotation of key 200000 + the first region of what follows. -/
def cutOf (b : Code) : Option LoopAnn :=
  match firstReg b with
  | some k => findAnn (200000 + k) anns
  | none => none

def vcN : Nat → Option Nat → Code → VK → List AV → List Nat → AH → Prop
  | 0, _, _, _, _, _, _ => False
  | n + 1, r, c, K, T, M, H => match c with
    | .skip => K .normal T M H
    | .label _ => K .normal T M H
    | .exit id => K (.exit id) T M H
    | .goto l => K (.goto l) T M H
    | .ret => K .ret T M H
    | .refuse _ => False
    | .seq a b => match cutOf anns b with
      | some an => ∃ J : an.α → AH → Prop, vcN n r a (fun e T2 M2 H2 => match e with
            | .normal => landK { an with inv := fun x H _ => J x H } T.length M (fun _ => True) T2 M2 H2
            | e => K e T2 M2 H2) T M H ∧ ∀ x H', J x H' → vcN n r b K (mkT T.length an.live (an.tmpl x)) M H'
      | none => vcN n r a (fun e T M H => match e with | .normal => vcN n r b K T M H | e => K e T M H) T M H
    | .cond c x y => vK (ev P T c) fun v => match v with
      | .bool u => cond u (vcN n r x K T M H) (vcN n r y K T M H)
      | _ => False
    | .block id c => vcN n r c (fun e => K (inBlockX id e)) T M H
    | .loop c => match firstReg c with
      | some k => match findAnn k anns with
        | some a => ∃ I : a.α → AH → Nat → Prop, (∃ x j, a.live.map (look T) = a.tmpl x ∧ I x H j) ∧ ∀ x H' j, I x H' j →
            vcN n r c (fun e T2 M2 H2 => match e with
              | .normal => landK { a with inv := I } T.length M (fun j' => j' < j) T2 M2 H2
              | e => K e T2 M2 H2) (mkT T.length a.live (a.tmpl x)) M H'
        | none => False
      | none => False
    | .scope c => cond (flatB c) (spineK anns (vcN n r) c (jumpK anns c T.length M (fun _ => True) K) T M H ∧ allP (labelsOf c) fun l =>
        match findAnn (100000 + l) anns with
        | some a => match tailOf c l with
          | some rest => ∀ x H' j, a.inv x H' j → spineK anns (vcN n r) rest (jumpK anns c T.length M (fun j' => j' < j) K) (mkT T.length a.live (a.tmpl x)) M H'
          | none => True
        | none => True) False
    | .rangeFunc g ps as bd => match r with
      | some _ => False
      | none => match findRan ((firstReg (.rangeFunc g ps as bd)).getD 0) rans with
        | none => False
        | some a => vK (ev P T g) fun v => cond (goB P a.fn) (∃ z : a.β, v = .func (.func a.fn) (a.held z).1 (a.held z).2 ∧ It a.fn (a.held z).1 (a.held z).2 (a.cap z) ((a.xs z).map a.el) ∧ RClosed (a.inv z) (a.stop z) (a.cap z) ∧ (∀ k : a.γ, (a.el k).length = ps.size) ∧
              (∀ H2, RBegin H H2 → a.inv z 0 [(X none).n H + 1, (X none).n H] H2) ∧
              (∀ i W H1 (k : a.γ), (a.xs z)[i]? = some k → a.inv z i W H1 → AllLt W H1 → InW ((X none).n H + 1) W →
                vcN n (some ((X none).n H + 1)) as (fun e T3 M3 H3 => match e with
                  | .normal => Still W H1 H1 H3 ∧ ∀ H4, But ((X none).n H + 1) H3 H4 → vcN n (some ((X none).n H + 1)) bd (fun e T5 _ H5 => Still W H1 H4 H5 ∧ ∀ H6, But ((X none).n H + 1) H5 H6 →
                      match e with
                      | .normal => a.inv z (i + 1) W H6
                      | e => cond (memEx e a.outs) (a.stop z e W H6) False) T3 M3 H4
                  | _ => False) (setPs ps.toList (a.el k) T) [] H1) ∧
              (∀ W H1 H6, a.inv z (a.xs z).length W H1 → But ((X none).n H + 1) H1 H6 → Dfr ((X none).n H) H6 → K .normal T ((X none).n H :: M) H6) ∧
              allP a.outs fun e => ∀ W H1 H6, a.stop z e W H1 → But ((X none).n H + 1) H1 H6 → Dfr ((X none).n H) H6 → K e T ((X none).n H :: M) H6) False
    | .region _ ops draw => match draw with
      | false => opsK (X r) P ops ops.toList T [] [] H fun T' cd H' => K .normal (dropCd T' cd) M H'
      | true => match drawOf ops with
        | some (σ, A) => drawK (X r) P ops A σ [] T H fun T' H' => K .normal T' M H'
        | none => False

/-- What a function asks so that it hands back what Q takes; with labels and ranges over functions. -/
def vcG (f : FuncId) (args : List AV) (H : AH) (Q : AV → AH → Prop) : Prop :=
  match P.funcs[f]? with
  | some fn => match fn.body with
    | some c => vcN X It P anns rans 4000 none c (retK (X none) P fn Q) (args ++ List.replicate (fn.ntmps - args.length) .undef) [] H
    | none => False
  | none => False
end

section
variable {P : Program} {anns : List LoopAnn} {rans : List RangeAnn}

theorem landK_spec {a : LoopAnn} {n : Nat} {M : List Nat} {low : Nat → Prop} {T : List AV} {M2 : List Nat} {H : AH} (h : landK a n M low T M2 H) : ∃ x j, low j ∧ M2 = M ∧ a.inv x H j ∧ Wk (mkT n a.live (a.tmpl x)) T := by
  obtain ⟨hlen, hk⟩ := bool_if h
  obtain ⟨hM, x, j, hj, hl, hi⟩ := sameM_iff hk
  exact ⟨x, j, hj, hM, hi, by rw [← hl]; exact mkT_wk (Nat.eq_of_beq_eq_true hlen).symm _⟩

/-- It is written of the round it stands in. -/
theorem vcN_ok (hm : P.follows .mixedOrders = true) : ∀ {n : Nat} {r : Option Nat} {c : Code} {K : VK} {T : List AV} {M : List Nat} {H : AH}, vcN (real P) (Iter P) P anns rans n r c K T M H → AWp P r c (WkP K) ⟨T, M, H⟩ := by
  intro n
  induction n with
  | zero => intro r c K T M H h; exact h.elim
  | succ n ih =>
  intro r c K T M H h
  cases c with
  | skip => exact AWp.skip ⟨T, Wk.refl T, h⟩
  | label l => exact AWp.label ⟨T, Wk.refl T, h⟩
  | exit id => exact AWp.exit ⟨T, Wk.refl T, h⟩
  | goto l => exact AWp.goto ⟨T, Wk.refl T, h⟩
  | ret => exact AWp.ret ⟨T, Wk.refl T, h⟩
  | refuse w => exact h.elim
  | scope c =>
    obtain ⟨hf, h0, hl⟩ := bool_if h
    have jump : ∀ {low : Nat → Prop} {e : AEx} {s : St}, WkP (jumpK anns c T.length M low K) e s →
        jumpsA c (fun l s => ∃ j, low j ∧ ∃ a x, findAnn (100000 + l) anns = some a ∧ a.inv x s.H j ∧ s.M = M ∧ Wk (mkT T.length a.live (a.tmpl x)) s.T) (WkP K) e s := by
      rintro low e s ⟨T2, hw, hk⟩
      cases e with
      | normal => exact ⟨T2, hw, hk⟩
      | exit id => exact ⟨T2, hw, hk⟩
      | ret => exact ⟨T2, hw, hk⟩
      | goto l =>
        simp only [jumpsA]
        simp only [jumpK] at hk
        split at hk
        · rename_i hf
          rw [if_pos (by rw [hf]; rfl)]
          split at hk
          · rename_i a ha
            obtain ⟨x, j, hj, hM, hi, hwk⟩ := landK_spec hk
            exact ⟨j, hj, a, x, ha, hi, hM, hwk.trans hw⟩
          · exact hk.elim
        · rename_i hf
          rw [if_neg (by rw [hf]; simp)]
          exact ⟨T2, hw, hk⟩
    have up : ∀ {J1 J2 : Nat → St → Prop} {e : AEx} {s : St}, (∀ l s, J1 l s → J2 l s) → jumpsA c J1 (WkP K) e s → jumpsA c J2 (WkP K) e s := by
      intro J1 J2 e s hJ h
      cases e with
      | goto l =>
        simp only [jumpsA] at h ⊢
        split at h
        · rename_i hs; rw [if_pos hs]; exact hJ _ _ h
        · rename_i hs; rw [if_neg hs]; exact h
      | normal => exact h
      | exit id => exact h
      | ret => exact h
    obtain ⟨G, hG⟩ : ∃ G : Nat → Nat → St → Prop, G = fun l j s => ∃ a x, findAnn (100000 + l) anns = some a ∧ a.inv x s.H j ∧ s.M = M ∧ Wk (mkT T.length a.live (a.tmpl x)) s.T := ⟨_, rfl⟩
    have jump' : ∀ {low : Nat → Prop} {e : AEx} {s : St}, WkP (jumpK anns c T.length M low K) e s → jumpsA c (fun l s => ∃ j, low j ∧ G l j s) (WkP K) e s := by rw [hG]; exact jump
    -- a row of statements, when what stands behind the labels is known
    have row : ∀ (low : Nat → Prop), (∀ l b j s, low j → tailOf c l = some b → G l j s → AWp P r b (jumpsA c (fun l s => ∃ j, low j ∧ G l j s) (WkP K)) s) →
        ∀ {b : Code} {T1 : List AV} {M1 : List Nat} {H1 : AH}, flatB b = true → (∀ l, (tailOf b l).isSome = true → tailOf c l = tailOf b l) → spineK anns (vcN (real P) (Iter P) P anns rans n r) b (jumpK anns c T.length M low K) T1 M1 H1 →
          AWp P r b (jumpsA c (fun l s => ∃ j, low j ∧ G l j s) (WkP K)) ⟨T1, M1, H1⟩ := by
      intro low hyp b
      induction b with
      | seq a b iha ihb =>
        intro T1 M1 H1 hfb hsub h
        have hfb' := hfb
        simp only [flatB, Bool.and_eq_true] at hfb
        have hsub' : ∀ l, (tailOf b l).isSome = true → tailOf c l = tailOf b l := by
          intro l' hs
          have : tailOf (.seq a b) l' = tailOf b l' := by
            cases a with
            | label l2 =>
              simp only [tailOf]
              rw [if_neg]
              intro e
              obtain ⟨b2, hb2⟩ := Option.isSome_iff_exists.1 hs
              have hm2 := tailOf_mem hb2
              have h1 := hfb.1
              simp only [Bool.not_eq_true'] at h1
              rw [← beq_iff_eq.1 e] at hm2
              rw [List.contains_iff_mem.2 hm2] at h1
              cases h1
            | _ => rfl
          rw [← this]; exact hsub l' (by rw [this]; exact hs)
        have other : vcN (real P) (Iter P) P anns rans n r a (fun e T2 M2 H2 => match e with | .normal => spineK anns (vcN (real P) (Iter P) P anns rans n r) b (jumpK anns c T.length M low K) T2 M2 H2 | e => jumpK anns c T.length M low K e T2 M2 H2) T1 M1 H1 →
            AWp P r (.seq a b) (jumpsA c (fun l s => ∃ j, low j ∧ G l j s) (WkP K)) ⟨T1, M1, H1⟩ := by
          intro h
          refine AWp.seq ((ih h).mono ?_)
          rintro e s ⟨T', hw, hk⟩
          cases e with
          | normal => exact AWp.weaken hw (ihb hfb.2 hsub' hk)
          | exit id => exact jump' ⟨T', hw, hk⟩
          | goto l => exact jump' ⟨T', hw, hk⟩
          | ret => exact jump' ⟨T', hw, hk⟩
        cases a with
        | label l =>
          simp only [spineK] at h
          refine AWp.seq (AWp.label ?_)
          split at h
          · have ht : tailOf (.seq (.label l) b) l = some b := by simp [tailOf]
            have hc : tailOf c l = some b := (hsub l (by rw [ht]; rfl)).trans ht
            have hj := jump' (e := .goto l) (s := ⟨T1, M1, H1⟩) ⟨T1, Wk.refl T1, h⟩
            simp only [jumpsA] at hj
            rw [if_pos (tailOf_found hc)] at hj
            obtain ⟨j, hl, hg⟩ := hj
            exact hyp l b j _ hl hc hg
          · exact ihb hfb.2 hsub' h
        | _ => exact other h
      | label l => intro T1 M1 H1 hfb; cases hfb
      | _ => intro T1 M1 H1 _ _ h; exact (ih h).mono fun e s hp => jump' hp
    have A : ∀ j l b s, tailOf c l = some b → G l j s → AWp P r b (jumpsA c (fun l s => ∃ i, i < j ∧ G l i s) (WkP K)) s := by
      intro j
      induction j using Nat.strongRecOn with
      | ind j ihj =>
        intro l b s ht hg
        have hg' := hg
        rw [hG] at hg'
        obtain ⟨a, x, ha, hi, hM, hw⟩ := hg'
        have hr := allP_mem hl l (tailOf_mem ht)
        rw [ha, ht] at hr
        obtain ⟨k1, k2⟩ := tailOf_tail hf ht
        obtain ⟨Ts, Ms, Hs⟩ := s
        obtain rfl : Ms = M := hM
        exact AWp.weaken hw (row (fun i => i < j) (fun l b i s hi ht hg => (ihj i hi l b s ht hg).mono fun e s => up fun l s ⟨i', h1, h2⟩ => ⟨i', Nat.lt_trans h1 hi, h2⟩) k1 k2 (hr x Hs j hi))
    refine AWp.scope (fun j l s => G l j s) ((row (fun _ => True) (fun l b i s _ ht hg => (A i l b s ht hg).mono fun e s => up fun l s ⟨i', _, h2⟩ => ⟨i', trivial, h2⟩) hf (fun l _ => rfl) h0).mono fun e s => up fun l s ⟨j, _, h⟩ => ⟨j, h⟩) ?_
    intro j l s rest hfl hJ
    obtain ⟨b, ht, rfl⟩ := findLabel_flat hf hfl
    exact AWp.seq (AWp.skip (A j l b s ht hJ))
  | seq a b =>
    simp only [vcN] at h
    split at h
    · rename_i an _
      obtain ⟨J, h1, h2⟩ := h
      refine AWp.seq ((ih h1).mono ?_)
      rintro e ⟨Ts, Ms, Hs⟩ ⟨T', hw, hk⟩
      cases e with
      | normal =>
        obtain ⟨x, j, _, hM, hi, hwk⟩ := landK_spec hk
        obtain rfl : Ms = M := hM
        exact AWp.weaken (hwk.trans hw) (ih (h2 x Hs hi))
      | exit id => exact ⟨T', hw, hk⟩
      | goto l => exact ⟨T', hw, hk⟩
      | ret => exact ⟨T', hw, hk⟩
    · refine AWp.seq ((ih h).mono ?_)
      rintro e s ⟨T', hw, hk⟩
      cases e with
      | normal => exact AWp.weaken hw (ih hk)
      | exit id => exact ⟨T', hw, hk⟩
      | goto l => exact ⟨T', hw, hk⟩
      | ret => exact ⟨T', hw, hk⟩
  | cond c x y =>
    obtain ⟨v, hv, h⟩ := vK_iff h
    split at h
    · rename_i u
      refine AWp.cond hv ?_
      cases u with
      | true => exact ih h
      | false => exact ih h
    · exact h.elim
  | block id c =>
    refine AWp.block ((ih (show vcN (real P) (Iter P) P anns rans n r c _ T M H from h)).mono ?_)
    rintro e s ⟨T', hw, hk⟩
    cases e with
    | exit i =>
      simp only [inBlockA]
      simp only [inBlockX] at hk
      split
      · rename_i e; rw [if_pos e] at hk; exact ⟨T', hw, hk⟩
      · rename_i e; rw [if_neg e] at hk; exact ⟨T', hw, hk⟩
    | normal => exact ⟨T', hw, hk⟩
    | goto l => exact ⟨T', hw, hk⟩
    | ret => exact ⟨T', hw, hk⟩
  | loop c =>
    simp only [vcN] at h
    split at h
    · split at h
      · rename_i a _
        obtain ⟨I, ⟨x, j, hl, hi⟩, h⟩ := h
        refine AWp.loop (j := j) (fun j s => ∃ x, I x s.H j ∧ s.M = M ∧ Wk (mkT T.length a.live (a.tmpl x)) s.T) ⟨x, hi, rfl, by rw [← hl]; exact mkT_wk rfl _⟩ ?_
        rintro j ⟨T1, M1, H1⟩ ⟨x, hi, rfl, hw⟩
        refine AWp.weaken hw ((ih (h x H1 j hi)).mono ?_)
        rintro e s ⟨T2, hw2, hk⟩
        cases e with
        | normal =>
          obtain ⟨x', j', hj, hM, hi', hwk⟩ := landK_spec hk
          exact ⟨j', hj, x', hi', hM, hwk.trans hw2⟩
        | exit id => exact ⟨T2, hw2, hk⟩
        | goto l => exact ⟨T2, hw2, hk⟩
        | ret => exact ⟨T2, hw2, hk⟩
      · exact h.elim
    · exact h.elim
  | rangeFunc g ps as bd =>
    simp only [vcN] at h
    split at h
    · exact h.elim
    · split at h
      · exact h.elim
      · rename_i a _
        obtain ⟨v, hv, h⟩ := vK_iff h
        · obtain ⟨hgo, z, rfl, hI, hC, hlen, h0, hb, ha, hs⟩ := bool_if h
          refine AWp.range_iter (goB_spec hgo) hv hI (a.inv z) (fun e W H => memEx e a.outs = true ∧ a.stop z e W H) hC.s1 hC.s2 (fun e W H o h => ⟨h.1, hC.s3 _ _ _ _ h.2⟩) (fun e W H c o hc h => ⟨h.1, hC.s4 _ _ _ _ _ hc h.2⟩) hC.cap
            (fun H2 h1 h2 => h0 H2 ⟨h1, h2⟩) ?_ ?_ ?_ ?_
          · rintro vs hvs
            obtain ⟨k, _, rfl⟩ := List.mem_map.1 hvs
            exact hlen k
          · intro i W H1 vs hvs hi hW hin
            rw [List.getElem?_map] at hvs
            obtain ⟨k, hk, rfl⟩ := Option.map_eq_some_iff.1 hvs
            refine (ih (hb i W H1 k hk hi hW hin)).mono ?_
            rintro e s ⟨T3, hw3, hk3⟩
            cases e with
            | exit id => exact hk3.elim
            | goto l => exact hk3.elim
            | ret => exact hk3.elim
            | normal =>
              obtain ⟨⟨k1, k2⟩, k3⟩ := hk3
              refine ⟨k1, k2, fun H4 hH4 => AWp.weaken hw3 ((ih (k3 H4 hH4)).mono ?_)⟩
              rintro e s2 ⟨T5, hw5, ⟨k4, k5⟩, k6⟩
              refine ⟨k4, k5, fun H6 hH6 => ?_⟩
              have := k6 H6 hH6
              cases e with
              | normal => exact this
              | exit id => exact bool_if this
              | goto l => exact bool_if this
              | ret => exact bool_if this
          · intro W H1 hi H6 h6 hd
            rw [List.length_map] at hi
            exact ⟨T, Wk.refl T, ha W H1 H6 hi h6 hd⟩
          · rintro e W H1 ⟨hm', hst⟩ H6 h6 hd
            have hmem : ∀ {l : List AEx}, memEx e l = true → e ∈ l := by
              intro l
              induction l with
              | nil => intro h; cases h
              | cons b l ih =>
                intro h
                simp only [memEx] at h
                cases hb : eqEx e b with
                | true => exact List.mem_cons.2 (.inl (eqEx_spec hb))
                | false => rw [hb] at h; exact List.mem_cons_of_mem _ (ih h)
            exact ⟨T, Wk.refl T, allP_mem hs e (hmem hm') W H1 H6 hst h6 hd⟩
  | region id ops draw =>
    refine vcC_ok (anns := anns) hm ?_
    cases draw with
    | false => exact h
    | true => exact h

theorem vcG_ok (hm : P.follows .mixedOrders = true) {f : FuncId} {args : List AV} {H : AH} {Q : AV → AH → Prop} (h : vcG (real P) (Iter P) P anns rans f args H Q) : ACall P f args H Q := by
  unfold vcG at h
  split at h
  · rename_i fn hf
    split at h
    · rename_i c hb
      refine ACall.body hf hb ?_
      intro E B w a rc hs hr
      refine Go.wpIn_mono (vcN_ok hm h E B w a rc hs hr) ?_
      rintro e a' w' ⟨ae, s', E', h1, ⟨T', hw, hk⟩, h3, h4, h5⟩
      refine ⟨ae, ⟨T', s'.M, s'.H⟩, E', h1, ?_, h3, ⟨h4.heap, VRs.weaken hw h4.tmps, h4.marks⟩, h5⟩
      cases ae with
      | normal =>
        obtain ⟨H', h6, h7⟩ := marksK_ok (P := P) (r := none) (show marksK (real P none) s'.M s'.H (fun H' => resK (real P none) P T' H' fn.results.toList fun vs => Q (oneOf vs) H') from hk)
        obtain ⟨vs, h8, h9⟩ := resK_ok h7
        exact ⟨.inl rfl, H', vs, h6, h8, h9⟩
      | ret =>
        obtain ⟨H', h6, h7⟩ := marksK_ok (P := P) (r := none) (show marksK (real P none) s'.M s'.H (fun H' => resK (real P none) P T' H' fn.results.toList fun vs => Q (oneOf vs) H') from hk)
        obtain ⟨vs, h8, h9⟩ := resK_ok h7
        exact ⟨.inr rfl, H', vs, h6, h8, h9⟩
      | exit id => exact hk.elim
      | goto l => exact hk.elim
    · exact h.elim
  · exact h.elim
end
end Go.Am

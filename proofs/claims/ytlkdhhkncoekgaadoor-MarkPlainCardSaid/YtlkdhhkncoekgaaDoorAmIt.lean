/- Iterators: what a range over a function asks. -/
import Derived.Test.YtlkdhhkncoekgaaDoorAmW
namespace Go.Am
open Go.RowKit

/-- The function gf, with what it holds, hands these lists to yield, one behind the other, till yield says no. W: its own blocks; Cap: what it asks of the heap. -/
def Iter (P : Program) (gf : FuncId) (x y : List AV) (Cap : AH → Prop) (xs : List (List AV)) : Prop :=
  ∀ (b : Nat) (J : Nat → List Nat → AH → Prop) (D : List Nat → AH → Prop) (H0 : AH), b < H0.n →
    (∀ i W H o, J i W H → J i (H.n :: W) (H.alloc o)) → (∀ i W H c o, c ∈ W → J i W H → J i W (H.set c o)) →
    (∀ W H o, D W H → D (H.n :: W) (H.alloc o)) → (∀ W H c o, c ∈ W → D W H → D W (H.set c o)) →
    (∀ i W H, J i W H → Cap H) → J 0 [] H0 →
    (∀ r i W H1 vs, xs[i]? = some vs → J i W H1 → (∀ c ∈ W, c < H1.n) → ACfn P r (.yld b) vs H1 fun v H2 =>
      H1.n ≤ H2.n ∧ (∀ c ∈ W, H2.get c = H1.get c) ∧ ((v = .bool true ∧ J (i + 1) W H2) ∨ (v = .bool false ∧ D W H2))) →
    ACall P gf (x ++ [.yld b] ++ y) H0 fun _ H' => ∃ W, J xs.length W H' ∨ D W H'

def codeOf : AEx → Code
  | .normal => .skip
  | .ret => .ret
  | .exit id => .exit id
  | .goto l => .goto l

/-- The heaps differ in a block at most. -/
def But (b : Nat) (H H' : AH) : Prop := H'.n = H.n ∧ ∀ c, c ≠ b → H'.get c = H.get c

theorem But.set (b : Nat) (H : AH) (o : AObj) : But b H (H.set b o) := ⟨rfl, fun c hc => by rw [AH.get_set, if_neg hc]⟩

section
variable {P : Program}

theorem AWp.range_iter {g : Operand} {ps : Array Tmp} {as bd : Code} {gf : FuncId} {x y T : List AV} {M : List Nat} {H : AH} {Q : AEx → St → Prop} (hgo : Goes P gf) (hg : ev P T g = some (.func (.func gf) x y))
    {Cap : AH → Prop} {xs : List (List AV)} (hI : Iter P gf x y Cap xs) (inv : Nat → List Nat → AH → Prop) (stop : AEx → List Nat → AH → Prop)
    (s1 : ∀ i W H o, inv i W H → inv i (H.n :: W) (H.alloc o)) (s2 : ∀ i W H c o, c ∈ W → inv i W H → inv i W (H.set c o))
    (s3 : ∀ e W H o, stop e W H → stop e (H.n :: W) (H.alloc o)) (s4 : ∀ e W H c o, c ∈ W → stop e W H → stop e W (H.set c o))
    (hC : ∀ i W H, inv i W H → Cap H) (h0 : ∀ H2, H2.n = H.n + 2 → (∀ c, c < H.n → H2.get c = H.get c) → inv 0 [H.n + 1, H.n] H2) (hl : ∀ vs ∈ xs, vs.length = ps.size)
    (hb : ∀ i W H1 vs, xs[i]? = some vs → inv i W H1 → (∀ c ∈ W, c < H1.n) → H.n + 1 ∈ W → AWp P (some (H.n + 1)) as (thenA (fun s => H1.n ≤ s.H.n ∧ (∀ c ∈ W, s.H.get c = H1.get c) ∧ ∀ H4, But (H.n + 1) s.H H4 →
      AWp P (some (H.n + 1)) bd (fun e s2 => H1.n ≤ s2.H.n ∧ (∀ c ∈ W, s2.H.get c = H4.get c) ∧ ∀ H6, But (H.n + 1) s2.H H6 → match e with | .normal => inv (i + 1) W H6 | e => stop e W H6) ⟨s.T, s.M, H4⟩)
      (fun _ _ => False)) ⟨setPs ps.toList vs T, [], H1⟩)
    (ha : ∀ W H1, inv xs.length W H1 → ∀ H6, But (H.n + 1) H1 H6 → H6.get H.n = some .deferred → Q .normal ⟨T, H.n :: M, H6⟩)
    (hs : ∀ e W H1, stop e W H1 → ∀ H6, But (H.n + 1) H1 H6 → H6.get H.n = some .deferred → Q e ⟨T, H.n :: M, H6⟩) :
    AWp P none (.rangeFunc g ps as bd) Q ⟨T, M, H⟩ := by
  refine AWp.rangeFunc hgo hg ?_
  show ACall P gf (x ++ [.yld (H.n + 1)] ++ y) ((H.alloc .deferred).alloc (.loop .ready none T ps as bd H.n)) _
  have hH0n : ((H.alloc .deferred).alloc (.loop .ready none T ps as bd H.n)).n = H.n + 2 := rfl
  refine (hI (H.n + 1) (fun i W H' => inv i (W ++ [H.n + 1, H.n]) H' ∧ H'.get (H.n + 1) = some (.loop .ready none T ps as bd H.n) ∧ H'.get H.n = some .deferred ∧ H.n + 1 ∉ W ∧ H.n ∉ W ∧ H.n + 1 < H'.n)
    (fun W H' => ∃ e, e ≠ .normal ∧ stop e (W ++ [H.n + 1, H.n]) H' ∧ H'.get (H.n + 1) = some (.loop .done (some (codeOf e)) T ps as bd H.n) ∧ H'.get H.n = some .deferred ∧ H.n + 1 ∉ W ∧ H.n ∉ W ∧ H.n + 1 < H'.n)
    _ (by rw [hH0n]; omega) ?_ ?_ ?_ ?_ ?_ ?_ ?_).mono ?_
  · rintro i W H' o ⟨k1, k2, k3, k4, k5, k6⟩
    refine ⟨s1 _ _ _ _ k1, by rw [AH.get_alloc, if_neg (by omega)]; exact k2, by rw [AH.get_alloc, if_neg (by omega)]; exact k3, ?_, ?_, by simp; omega⟩
    · simp only [List.mem_cons, not_or]; exact ⟨by omega, k4⟩
    · simp only [List.mem_cons, not_or]; exact ⟨by omega, k5⟩
  · rintro i W H' c o hc ⟨k1, k2, k3, k4, k5, k6⟩
    have n1 : c ≠ H.n + 1 := fun e => k4 (e ▸ hc)
    have n2 : c ≠ H.n := fun e => k5 (e ▸ hc)
    exact ⟨s2 _ _ _ _ _ (List.mem_append_left _ hc) k1, by rw [AH.get_set, if_neg (Ne.symm n1)]; exact k2, by rw [AH.get_set, if_neg (Ne.symm n2)]; exact k3, k4, k5, by simpa using k6⟩
  · rintro W H' o ⟨e, k0, k1, k2, k3, k4, k5, k6⟩
    refine ⟨e, k0, s3 _ _ _ _ k1, by rw [AH.get_alloc, if_neg (by omega)]; exact k2, by rw [AH.get_alloc, if_neg (by omega)]; exact k3, ?_, ?_, by simp; omega⟩
    · simp only [List.mem_cons, not_or]; exact ⟨by omega, k4⟩
    · simp only [List.mem_cons, not_or]; exact ⟨by omega, k5⟩
  · rintro W H' c o hc ⟨e, k0, k1, k2, k3, k4, k5, k6⟩
    have n1 : c ≠ H.n + 1 := fun e => k4 (e ▸ hc)
    have n2 : c ≠ H.n := fun e => k5 (e ▸ hc)
    exact ⟨e, k0, s4 _ _ _ _ _ (List.mem_append_left _ hc) k1, by rw [AH.get_set, if_neg (Ne.symm n1)]; exact k2, by rw [AH.get_set, if_neg (Ne.symm n2)]; exact k3, k4, k5, by simpa using k6⟩
  · rintro i W H' ⟨k1, _⟩; exact hC _ _ _ k1
  · refine ⟨h0 _ hH0n fun c hc => ?_, ?_, ?_, by simp, by simp, by rw [hH0n]; omega⟩
    · rw [AH.get_alloc, if_neg (by simp; omega), AH.get_alloc, if_neg (by omega)]
    · rw [AH.get_alloc, if_pos (by simp)]
    · rw [AH.get_alloc, if_neg (by simp), AH.get_alloc, if_pos rfl]
  · rintro r i W H1 vs hvs ⟨k1, k2, k3, k4, k5, k6⟩ hW
    intro dst f xs' ts ty pos after guard T1 hf hx
    refine AOp.yield hf hx k2 (hl vs (List.mem_iff_getElem?.2 ⟨i, hvs⟩)) ?_
    have hW' : ∀ c ∈ W ++ [H.n + 1, H.n], c < H1.n := by
      intro c hc
      simp only [List.mem_append, List.mem_cons, List.mem_nil_iff, or_false] at hc
      rcases hc with hc | rfl | rfl
      · exact hW c hc
      · exact k6
      · omega
    refine (hb i (W ++ [H.n + 1, H.n]) H1 vs hvs k1 hW' (by simp)).mono ?_
    intro e s hp
    cases e with
    | exit id => exact hp.elim
    | goto l => exact hp.elim
    | ret => exact hp.elim
    | normal =>
      obtain ⟨hn, hsame, hbody⟩ := hp
      have hsb := (hsame (H.n + 1) (by simp)).trans k2
      refine ⟨_, _, _, _, _, _, hsb, ?_⟩
      have hbut := But.set (H.n + 1) s.H (.loop .busy none T ps as bd H.n)
      refine (hbody _ hbut).mono ?_
      rintro e s2 ⟨hn2, hsame2, hfin⟩
      have hb2 : s2.H.get (H.n + 1) = some (.loop .busy none T ps as bd H.n) := by rw [hsame2 _ (by simp), AH.get_set, if_pos rfl]
      have hd2 : s2.H.get H.n = some .deferred := by rw [hsame2 _ (by simp), AH.get_set, if_neg (by omega), hsame _ (by simp)]; exact k3
      refine ⟨_, _, _, _, _, _, _, hb2, ?_⟩
      have fin : ∀ o : AObj, (s2.H.set (H.n + 1) o).get H.n = some .deferred := fun o => by rw [AH.get_set, if_neg (by omega)]; exact hd2
      have own : ∀ (o : AObj) c, c ∈ W → (s2.H.set (H.n + 1) o).get c = H1.get c := fun o c hc => by
        have n1 : c ≠ H.n + 1 := fun e => k4 (e ▸ hc)
        rw [AH.get_set, if_neg n1, hsame2 c (List.mem_append_left _ hc), AH.get_set, if_neg n1, hsame c (List.mem_append_left _ hc)]
      have hset : ∀ o : AObj, But (H.n + 1) s2.H (s2.H.set (H.n + 1) o) := fun o => But.set _ _ _
      cases e with
      | normal => exact ⟨hn2, own _, .inl ⟨rfl, hfin _ (hset _), by rw [AH.get_set, if_pos rfl], fin _, k4, k5, by simp; omega⟩⟩
      | ret => exact ⟨hn2, own _, .inr ⟨rfl, .ret, by simp, hfin _ (hset _), by rw [AH.get_set, if_pos rfl]; rfl, fin _, k4, k5, by simp; omega⟩⟩
      | exit id => exact ⟨hn2, own _, .inr ⟨rfl, .exit id, by simp, hfin _ (hset _), by rw [AH.get_set, if_pos rfl]; rfl, fin _, k4, k5, by simp; omega⟩⟩
      | goto l => exact ⟨hn2, own _, .inr ⟨rfl, .goto l, by simp, hfin _ (hset _), by rw [AH.get_set, if_pos rfl]; rfl, fin _, k4, k5, by simp; omega⟩⟩
  · rintro v H' ⟨W, ⟨k1, k2, k3, k4, k5, k6⟩ | ⟨e, k0, k1, k2, k3, k4, k5, k6⟩⟩
    · refine ⟨_, _, _, _, _, _, _, k2, by simp, ?_⟩
      exact ha _ _ k1 _ (But.set _ _ _) (by rw [AH.get_set, if_neg (by show ¬ H.n = H.n + 1; omega)]; exact k3)
    · refine ⟨_, _, _, _, _, _, _, k2, by simp, ?_⟩
      have hq := hs e _ _ k1 _ (But.set (H.n + 1) H' .dead) (by rw [AH.get_set, if_neg (by show ¬ H.n = H.n + 1; omega)]; exact k3)
      cases e with
      | normal => exact absurd rfl k0
      | ret => exact AWp.ret hq
      | exit id => exact AWp.exit hq
      | goto l => exact AWp.goto hq
end
end Go.Am

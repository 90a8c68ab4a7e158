/- What append does to a slice that lies in a block of its own. -/
import Derived.Test.YtlkdhhkncoekgaaDoorAmRo
namespace Go.Am
open Go.RowKit
variable {P : Program}

/-- A slice holds these cells: none at all, or a block of its own. -/
def Lies (H : AH) (q : Option Nat) (m : Nat) (cs : List AV) (e : TypeId) : Prop :=
  match q with
  | none => m = 0 ∧ cs = []
  | some b => H.get b = some (.cells cs e { opn := true })

def sl (q : Option Nat) (m : Nat) : AV := .slice (q.map fun b => (b, 0)) m m

theorem Lies.same {H H' : AH} {q : Option Nat} {m : Nat} {cs : List AV} {e : TypeId} (h : Lies H q m cs e) (k : ∀ b, q = some b → H'.get b = H.get b) : Lies H' q m cs e := by
  cases q with
  | none => exact h
  | some b => exact (k b rfl).trans h

theorem append_lies {H : AH} {st xt e : TypeId} {xd : TypeDesc} {s by_ m n : Nat} {q : Option Nat} {old new : List AV} {y z : AV} (t1 : P.underlying st = some (.slice e)) (t2 : P.underlying xt = some xd) (t3 : ∀ k, xd ≠ .int k)
    (t4 : szOf P e = some s) (t5 : byOf P e = some by_) (t6 : zeroOf P e = some z) (t7 : z.cells.length = s) (hb : 0 < by_) (hs : srcV H s y = some (n, new)) (h1 : new.all AV.one = true) (hn : 0 < n)
    (hl : Lies H q m old e) (hm : old.length = m * s) (hsz : (2 * (m + n) + 1000) * by_ ≤ 2 ^ 48) :
    ∃ H', appendV P H st xt (sl q m) y = some (sl (some H.n) (m + n), H') ∧ H'.n = H.n + 1 ∧ Lies H' (some H.n) (m + n) (old ++ new) e ∧ ∀ c, c < H.n → q ≠ some c → H'.get c = H.get c := by
  have hx : (xd matches .int _) = false := by
    cases xd <;> first | rfl | exact absurd rfl (t3 _)
  unfold appendV sl
  simp only [t1, t2, t4, t5, t6, hx, hs, Option.bind_some, Bool.false_eq_true, if_false, Option.map_some, t7]
  rw [if_neg (by omega), if_neg (by
    rintro (h | h | h | h)
    · omega
    · omega
    · rw [h1] at h; cases h
    · exact h rfl)]
  cases q with
  | none =>
    obtain ⟨rfl, rfl⟩ := hl
    refine ⟨_, by simp; rfl, rfl, ?_, fun c hc _ => ?_⟩
    · simp [Lies, AH.get_alloc]
    · rw [AH.get_alloc, if_neg (by omega)]
  | some b =>
    have hl' : H.get b = some (.cells old e { opn := true }) := hl
    simp only [Option.map_some, hl']
    refine ⟨(H.set b .dead).alloc (.cells (old ++ new) e { opn := true }), ?_, rfl, ?_, fun c hc hq => ?_⟩
    · have e1 : List.take (m * s) old = old := List.take_of_length_le (by omega)
      simp [hm, e1]
    · simp [Lies, AH.get_alloc]
    · rw [AH.get_alloc, if_neg (by simp only [AH.n_set]; omega), AH.get_set, if_neg (fun e => hq (by rw [e]))]

/-- One block of the caller's is shown. -/
theorem Shows.one {H : AH} {b : Nat} {cs : List AV} {e : TypeId} {fl : Fl} (hs : AV.scals cs = true) (hb : H.get b = some (.cells cs e fl)) :
    Shows P (fun c => if c < P.globals.size then c else if c = P.globals.size then b else H.n + c) ((emptyH P).alloc (.cells cs e { own := false, opn := true })) H := by
  have hn : (emptyH P).n = P.globals.size := rfl
  refine ⟨fun c hc => by simp only [if_pos hc], fun c hc => ?_, fun c o ho => ?_⟩
  · have hc' : P.globals.size + 1 ≤ c := hc
    simp only
    rw [if_neg (by omega), if_neg (by omega)]; omega
  · rw [AH.get_alloc, hn] at ho
    split at ho
    · rename_i hc
      cases ho
      refine ⟨cs, e, fl, rfl, ?_⟩
      subst hc
      simp only [Nat.lt_irrefl, if_false, if_true]
      rw [AV.rens_scal hs]; exact hb
    · cases ho
end Go.Am

/- A name, the pieces laid, on a text without forms. -/
import Derived.Test.YtlkdhhkncoekgaaDoorPlainF
namespace Go.Proofs.YtlkdhhkncoekgaaDoor
open Go.Am Go

/-- No sign that begins a form. -/
def plainS (s : List UInt8) : Prop := ∀ (i : Nat) (h : i < s.length), (s[i]'h).toNat ≠ 60 ∧ (s[i]'h).toNat ≠ 38 ∧ (s[i]'h).toNat ≠ 124 ∧ (s[i]'h).toNat ≠ 123 ∧ (s[i]'h).toNat ≠ 92

theorem plain_pre {s : List UInt8} (h : plainS s) : pre s [60, 118, 32] = false := by
  cases s with
  | nil => rfl
  | cons b s =>
    have := (h 0 (by simp)).1
    simp only [List.getElem_cons_zero] at this
    unfold pre
    rw [Bool.and_eq_false_iff]
    right
    rw [beq_eq_false_iff_ne]
    intro e
    simp only [List.length_cons, List.length_nil, List.take_succ_cons] at e
    have e1 := (List.cons.inj e).1
    rw [e1] at this
    exact this rfl

theorem voice_at {H : AH} {p : Nat} {d : Int} {s : List UInt8} {i : Int} {so : List UInt8} {ps : List (List UInt8)} {fr : Bool} {qs qo : Option Nat} (h : At H p d s i so ps fr qs qo) (hp : plainS s) :
    ACallee Tryd.prog 22 [.ptr (some (p, 0))] H fun v H' => v = .int .i64 0 ∧ H' = H := by
  refine .inl ⟨goB_spec (by kernel_rfl), vcF_ok (anns := [⟨7, List UInt8 × Nat × List UInt8 × Int, [0, 3, 5, 6, 7], fun x => [.ptr (some (p, 0)), .str x.2.2.1, .int .i64 x.2.2.2, .ptr (some (x.2.1, 0)), .str x.1], fun _ _ _ => True⟩]) follows' ?_⟩
  rw [voice_vc]
  simp only [real_n, real_al, real_rd1, real_call, real_wr]
  refine ⟨s, by simp [AH.read1, h.cells, scan], ?_⟩
  refine (CutPrefix_no s _ (plain_pre hp)).use1 ⟨s, false, rfl, ?_⟩
  refine (IndexByte_pure s 62).use1 ⟨_, rfl, ?_⟩
  simp

theorem laid_ro (ps : List (List UInt8)) (h0 : 0 < ps.length) (hne : ∀ p ∈ ps, p ≠ []) (hl : ps.flatten.length ≤ 4096) (hs : SignsN ps.flatten ps.length) {H : AH} {b : Nat} {fl : Fl} (hb : H.get b = some (.cells (pcs ps) 79 fl)) :
    ACallee Tryd.prog 30 [.slice (some (b, 0)) ps.length ps.length] H fun v H' => v = .tuple [.agg [.str ps.flatten, .slice none 0 0], .int .i64 0] ∧ H' = H :=
  ACall.ro (laid_run ps h0 hne hl hs) (by kernel_rfl) (by rintro v rfl; rfl) _ (by simp [AV.rens, AV.ren, gs]) (Shows.one (pcs_scal ps) hb)
end Go.Proofs.YtlkdhhkncoekgaaDoor

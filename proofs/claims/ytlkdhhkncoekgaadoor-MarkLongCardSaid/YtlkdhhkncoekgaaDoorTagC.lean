/- What a closing tag of one letter does to a scanner: a kind is open once less. -/
import Derived.Test.YtlkdhhkncoekgaaDoorParseS
namespace Go.Proofs.YtlkdhhkncoekgaaDoor
open Go.Am Go

set_option maxRecDepth 100000 in
theorem angle_close {H : AH} {p : Nat} {x : St} {qs qo qc : Option Nat} {cap : Nat} (h : AtS H p x qs qo qc cap) {c : UInt8} {k : Nat} {r : List UInt8} (ht : x.s.drop x.i = 60 :: 47 :: c :: 62 :: r) (hk : letter c k)
    (hs : x.s.length ≤ 4194304) (ho : x.so.length ≤ 8192) (hop : 0 < x.op k ∧ x.op k ≤ 5000000) (hm : melts x.so (x.s.drop (x.i + 4)) = false) :
    ACallee Tryd.prog 23 [.ptr (some (p, 0)), .str (x.s.drop x.i)] H fun v H' =>
      v = .int .i64 4 ∧ AtS H' p (x.opn k (-1)) qs qo qc cap ∧ H'.n = H.n ∧ ∀ c, c ≠ p → H'.get c = H.get c := by
  have hlen : x.i + 4 ≤ x.s.length := by
    have := congrArg List.length ht
    rw [List.length_drop] at this
    simp only [List.length_cons] at this; omega
  have hpass := passes_S h 4 hlen hs ho
  rw [hm] at hpass
  rw [ht]
  obtain ⟨t, htt⟩ : ∃ t, t = 60 :: 47 :: c :: 62 :: r := ⟨_, rfl⟩
  have t4 : 4 ≤ t.length := by rw [htt]; simp
  have g1 : t[1]?.getD 0 = 47 := by rw [htt]; rfl
  have g2 : t[2]?.getD 0 = c := by rw [htt]; rfl
  have g3 : t[3]?.getD 0 = 62 := by rw [htt]; rfl
  rw [← htt]
  refine .inl ⟨goB_spec (by kernel_rfl), vcG_ok (anns := _) (rans := _) follows' (Eq.mpr (angle_vc (real Tryd.prog) (Iter Tryd.prog) p t H _) ?_)⟩
  simp only [real_n, real_al, real_rd1, real_call, real_wr, real_wrap, real_app, real_slc, g1, g2, g3]
  have rC : ∀ i, H.read1 p i = (x.cells (sl qs x.so.length) (sl qo x.ps.length) (.slice (qc.map fun b => (b, 0)) x.cols.length cap))[i]? := fun i => by unfold AH.read1; rw [h.cells]
  have hc62 : (((c.toNat : Nat) : Int) == 62) = false := by rcases hk with ⟨rfl, _⟩ | ⟨rfl, _⟩ | ⟨rfl, _⟩ <;> rfl
  have d3 : decide ((t.length : Int) ≥ 3) = true := by rw [decide_eq_true_iff]; omega
  have d4 : decide ((t.length : Int) ≥ 4) = true := by rw [decide_eq_true_iff]; omega
  have i62 : ((((62 : UInt8).toNat : Nat) : Int) == 62) = true := rfl
  have i47 : ((((47 : UInt8).toNat : Nat) : Int) == 47) = true := rfl
  have tt : (true == true) = true := rfl
  have ff : (false == true) = false := rfl
  obtain ⟨lt, hlt⟩ : ∃ lt : List UInt8, lt = bif x.d == 2 then [98, 105, 117] else [98, 105, 117, 115] := ⟨_, rfl⟩
  refine ⟨x.d, by rw [rC]; rfl, by decide, fun y H' => y = (x.d == 2, lt) ∧ H = H', ?_, ?_⟩
  · cases hd : (x.d == (2 : Int)) with
    | true => simp only [cond_true]; exact ⟨by decide, (true, [98, 105, 117]), 0, trivial, rfl, by rw [hlt, hd]; rfl, (by trivial)⟩
    | false => simp only [cond_false]; exact ⟨(false, [98, 105, 117, 115]), 0, trivial, rfl, by rw [hlt, hd]; rfl, (by trivial)⟩
  rintro _ _ ⟨rfl, rfl⟩
  have hidx : decide ((Lib.indexByte lt ((c.toNat : Int)).toNat.toUInt8) ≥ 0) = true := by
    rw [hlt]
    cases (x.d == (2 : Int)) <;> rcases hk with ⟨rfl, _⟩ | ⟨rfl, _⟩ | ⟨rfl, _⟩ <;> decide
  refine ⟨fun y H' => y = ((x.d == 2, lt), false) ∧ H = H', ?_, ?_⟩
  · simp only [d3, hc62, Bool.and_false, ff, tt, cond_false]
    exact ⟨fun _ => ⟨by decide, by omega⟩, (fun h => absurd h (by decide)), ((x.d == 2, lt), false), 0, trivial, rfl, rfl, (by trivial)⟩
  rintro _ _ ⟨rfl, rfl⟩
  simp only [cond_false]
  refine ⟨fun y H' => y = (x.d == 2, true) ∧ H = H', ?_, ?_⟩
  · simp only [d4, i47, i62, Bool.and_self, tt, cond_true]
    refine ⟨fun _ => ⟨by decide, by omega⟩, fun _ => ⟨by decide, by omega⟩, fun _ => ⟨by decide, by omega⟩, ?_⟩
    refine (IndexByte_pure lt _).use1 ⟨_, rfl, (x.d == 2, true), 0, trivial, ?_, rfl, (by trivial)⟩
    rw [hidx]
  rintro _ _ ⟨rfl, rfl⟩
  simp only [cond_true]
  have hk5 : 1 ≤ k ∧ k ≤ 3 := by rcases hk with ⟨_, rfl⟩ | ⟨_, rfl⟩ | ⟨_, rfl⟩ <;> decide
  have w1 : IntKind.i64.wrap (x.op k - 1) = x.op k - 1 := wrap_i64 (by omega) (by omega)
  have rk : H.read1 p (5 + ((k : Int)).toNat * 1) = some (.int .i64 (x.op k)) := by
    rw [rC, show 5 + ((k : Int)).toNat * 1 = 5 + k by omega]
    rcases hk with ⟨_, rfl⟩ | ⟨_, rfl⟩ | ⟨_, rfl⟩ <;> rfl
  refine ⟨⟨by decide, by omega⟩, (IndexByte_pure _ _).use1 ⟨(k : Int), ?_, fun y H' => y = ((k : Int), true) ∧ H = H', ?_, ?_⟩⟩
  · rcases hk with ⟨rfl, rfl⟩ | ⟨rfl, rfl⟩ | ⟨rfl, rfl⟩ <;> rfl
  · refine ⟨⟨by omega, by omega⟩, x.op k, rk, ?_⟩
    have d0 : decide (x.op k > 0) = true := by rw [decide_eq_true_iff]; exact hop.1
    simp only [d0, tt, cond_true]
    refine hpass.mono ?_
    rintro v H' ⟨rfl, rfl⟩
    exact ⟨true, rfl, ((k : Int), true), 0, trivial, rfl, rfl, (by trivial)⟩
  rintro _ _ ⟨rfl, rfl⟩
  simp only [cond_true]
  obtain ⟨H', w2, w3, w4, w5⟩ := h.write (y := x.opn k (-1)) rfl rfl rfl (o := 5 + k) (vs := [.int .i64 (x.op k - 1)]) (by simp only [List.length_cons, List.length_nil]; omega) (by simp [AV.one]) (by
    rcases hk with ⟨_, rfl⟩ | ⟨_, rfl⟩ | ⟨_, rfl⟩ <;> simp [splice, St.cells, St.opn, Int.sub_eq_add_neg])
  refine ⟨⟨by omega, by omega⟩, x.op k, rk, ⟨by omega, by omega⟩, (by trivial), H', ?_, (by trivial), w3, w4, w5⟩
  rw [w1, show 5 + ((k : Int)).toNat * 1 = 5 + k by omega]; exact w2

/-- A closing tag of one letter, as a turn. -/
theorem past_close {R : St → Prop} {x : St} {c : UInt8} {k : Nat} {r : List UInt8} (ht : x.s.drop x.i = 60 :: 47 :: c :: 62 :: r) (hk : letter c k) (hs : x.s.length ≤ 4194304) (ho : x.so.length ≤ 8192) (hop : 0 < x.op k ∧ x.op k ≤ 5000000)
    (hm : melts x.so (x.s.drop (x.i + 4)) = false) (h : R ((x.opn k (-1)).skip 4)) : Past R 23 x := by
  refine ⟨4, x.opn k (-1), fun H p qs qo qc cap hA => ?_, by decide, rfl, rfl, rfl, h⟩
  refine (angle_close hA ht hk hs ho hop hm).mono ?_
  rintro v H' ⟨rfl, h1, h2, h3⟩
  exact ⟨rfl, ⟨qc, cap, h1⟩, by omega, fun c hc => h3 c (by omega)⟩
end Go.Proofs.YtlkdhhkncoekgaaDoor

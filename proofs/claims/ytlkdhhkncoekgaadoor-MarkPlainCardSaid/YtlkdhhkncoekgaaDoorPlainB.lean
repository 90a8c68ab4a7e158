/- The first sign of a text. -/
import Derived.Test.YtlkdhhkncoekgaaDoorPlainA
namespace Go.Proofs.YtlkdhhkncoekgaaDoor
open Go.Am Go

theorem nG : (emptyH Tryd.prog).n = 3 := by kernel_rfl

/-- What the range of signOf keeps: the text's boxes; the result; no block of it is the iterator's. -/
def soInv (s r : List UInt8) (W : List Nat) (H : AH) : Prop :=
  H.get 3 = some (.cells [.str s] 9 { whole := true }) ∧ H.get (3 + 1) = some (.cells [.str r] 9 { whole := true }) ∧ H.get (3 + 2) = some (.cells [.str s] 9 { whole := true }) ∧ 3 + 4 < H.n ∧
  ∀ c, c < 3 + 3 → c ∉ W

theorem soInv.alloc {s r : List UInt8} {W : List Nat} {H : AH} (h : soInv s r W H) (o : AObj) : soInv s r (H.n :: W) (H.alloc o) := by
  obtain ⟨h1, h2, h3, h4, h5⟩ := h
  refine ⟨?_, ?_, ?_, ?_, fun c hc hm => ?_⟩
  · rw [AH.get_alloc, if_neg (by omega)]; exact h1
  · rw [AH.get_alloc, if_neg (by omega)]; exact h2
  · rw [AH.get_alloc, if_neg (by omega)]; exact h3
  · show 3 + 4 < H.n + 1; omega
  · rcases List.mem_cons.1 hm with rfl | hm
    · omega
    · exact h5 c hc hm
theorem soInv.set {s r : List UInt8} {W : List Nat} {H : AH} (h : soInv s r W H) {c : Nat} (hc : c ∈ W) (o : AObj) : soInv s r W (H.set c o) := by
  obtain ⟨h1, h2, h3, h4, h5⟩ := h
  have n : ∀ d, d < 3 + 3 → d ≠ c := fun d hd e => h5 d hd (e ▸ hc)
  refine ⟨?_, ?_, ?_, h4, h5⟩
  · rw [AH.get_set, if_neg (n _ (by omega))]; exact h1
  · rw [AH.get_set, if_neg (n _ (by omega))]; exact h2
  · rw [AH.get_set, if_neg (n _ (by omega))]; exact h3
theorem soInv.but {s r : List UInt8} {W : List Nat} {H H' : AH} (h : soInv s r W H) {b : Nat} (hb : 3 + 3 ≤ b) (k : But b H H') : soInv s r W H' := by
  obtain ⟨h1, h2, h3, h4, h5⟩ := h
  obtain ⟨k1, k2⟩ := k
  refine ⟨?_, ?_, ?_, by omega, h5⟩
  · rw [k2 _ (by omega)]; exact h1
  · rw [k2 _ (by omega)]; exact h2
  · rw [k2 _ (by omega)]; exact h3

theorem tm1 {m : Nat} {H : AH} (h : Dfr m H) : takeMarks [m] H = some (H.set m .dead) := by
  unfold takeMarks; rw [h]; rfl

theorem signOf_pure (s : List UInt8) : Pure Tryd.prog 29 [.str s] (.str (s.take (decodeL s 0).2)) := by
  obtain ⟨n, hn⟩ := SignsN.ex s
  refine PureR.of_vcG follows' [] [⟨2, AV, Int × Int × Int × Bool, 77, fun z => ([], [z]), fun x => [.agg [.int .i64 x.1, .int .i64 x.2.1, .int .i32 x.2.2.1, .bool x.2.2.2]],
    fun _ => (List.range n).map (signAt s), fun z H => z = .ptr (some (3 + 2, 0)) ∧ H.get (3 + 2) = some (.cells [.str s] 9 { whole := true }),
    fun _ i W H => i = 0 ∧ soInv s [] W H, [.ret], fun _ _ W H => soInv s (s.take (decodeL s 0).2) W H⟩] (by kernel_rfl) rfl (by rintro v rfl; rfl) ?_
  rw [signOf_vc]
  simp only [real_n, real_al, real_rd1, real_call, real_wr, real_tm]
  refine ⟨trivial, s, by simp [AH.read1, AH.get_alloc], ?_⟩
  refine Signs_call s _ ⟨_, rfl, _, rfl, ?_, ?_, fun _ => rfl, ?_, ?_, ?_, ?_⟩
  · intro b J D H0 hb s1 s2 s3 s4 hC
    exact signs1_iter s n hn _ b J D H0 hb s1 s2 s3 s4 fun i W H h => (hC i W H h).2
  · exact ⟨fun i W H o h => ⟨h.1, h.2.alloc o⟩, fun i W H c o hc h => ⟨h.1, h.2.set hc o⟩, fun e W H o h => h.alloc o, fun e W H c o hc h => h.set hc o, fun i W H h => ⟨rfl, h.2.2.2.1⟩⟩
  · rintro H2 ⟨h1, h2⟩
    simp only [AH.n_alloc, nG] at h1 h2
    refine ⟨trivial, ?_, ?_, ?_, by omega, fun c hc hm => ?_⟩
    · rw [h2 _ (by omega)]; simp [AH.get_alloc, nG]
    · rw [h2 _ (by omega)]; simp [AH.get_alloc, nG]
    · rw [h2 _ (by omega)]; simp [AH.get_alloc, nG]
    · simp only [AH.n_alloc, nG, List.mem_cons, List.mem_nil_iff, or_false] at hm; omega
  · rintro i W H1 x hx ⟨rfl, hI⟩ hW hin
    simp only [AH.n_alloc, nG] at hin ⊢
    have hx' : x = signAt s 0 ∧ s ≠ [] := by
      rw [List.getElem?_map] at hx
      obtain ⟨m, hm, rfl⟩ := Option.map_eq_some_iff.1 hx
      obtain ⟨h1, h2⟩ := List.getElem?_eq_some_iff.1 hm
      simp only [List.getElem_range] at h2
      subst h2
      refine ⟨rfl, fun e => ?_⟩
      have := hn.2 0 (by simpa using h1)
      rw [e] at this; simp at this
    obtain ⟨rfl, hne⟩ := hx'
    have hpos : 0 < s.length := List.length_pos_iff.2 hne
    obtain ⟨z1, z2⟩ := decodeL_size s 0 hpos
    have hbW := hW _ hin
    have hown : H1.n ∉ W := fun h => Nat.lt_irrefl _ (hW _ h)
    refine ⟨rfl, (H1.alloc (.cells [.int .i64 0, .int .i64 0, .int .i32 0, .bool false] 77 { whole := true })).set H1.n (.cells [.int .i64 (signAt s 0).1, .int .i64 (signAt s 0).2.1, .int .i32 (signAt s 0).2.2.1, .bool (signAt s 0).2.2.2] 77 { whole := true }),
      by simp [AH.write, AH.get_alloc, splice, AV.one], ⟨by simp, fun c hc => ?_⟩, ?_⟩
    · have : c ≠ H1.n := fun e => hown (e ▸ hc)
      rw [AH.get_set, if_neg this, AH.get_alloc, if_neg this]
    rintro H9 ⟨b1, b2⟩
    have hn9 : H9.n = H1.n + 1 := b1
    obtain ⟨i1, i2, i3, i4, i5⟩ := hI
    have old : ∀ c, c < 3 + 3 → H9.get c = H1.get c := fun c hc => by rw [b2 c (by omega), AH.get_set, if_neg (by omega), AH.get_alloc, if_neg (by omega)]
    have new : H9.get H1.n = some (.cells [.int .i64 (signAt s 0).1, .int .i64 (signAt s 0).2.1, .int .i32 (signAt s 0).2.2.1, .bool (signAt s 0).2.2.2] 77 { whole := true }) := by
      rw [b2 _ (by omega), AH.get_set, if_pos rfl]
    have e0 : ((signAt s 0).2.1 - 0).toNat = (decodeL s 0).2 := by simp [signAt, place]
    have e1 : (signAt s 0).2.1 = ((decodeL s 0).2 : Int) := rfl
    refine ⟨s, by simp only [AH.read1, old 3 (by omega), i1]; rfl, (signAt s 0).2.1, by simp only [AH.read1, new]; rfl, ⟨Int.le_refl 0, by rw [e1]; omega, by rw [e1]; omega⟩, rfl, ?_⟩
    rw [e0]
    refine ⟨H9.set (3 + 1) (.cells [.str (s.take (decodeL s 0).2)] 9 { whole := true }), by simp [AH.write, old (3 + 1) (by omega), i2, splice, AV.one], ⟨by simp only [AH.n_set]; omega, fun c hc => ?_⟩, ?_⟩
    · rw [AH.get_set, if_neg (fun e => i5 c (by omega) hc)]
    · intro H11 hb
      refine soInv.but (H := H9.set (3 + 1) (.cells [.str (s.take (decodeL s 0).2)] 9 { whole := true })) ⟨?_, ?_, ?_, ?_, i5⟩ (by omega) hb
      · rw [AH.get_set, if_neg (by omega), old _ (by omega)]; exact i1
      · rw [AH.get_set, if_pos rfl]
      · rw [AH.get_set, if_neg (by omega), old _ (by omega)]; exact i3
      · simp only [AH.n_set]; omega
  · rintro W H1 H2 ⟨h0, hI⟩ hb hd
    simp only [AH.n_alloc, nG] at hb hd ⊢
    have hs : s = [] := by
      have : n = 0 := by simpa using h0
      subst this
      have := hn.1
      exact List.length_eq_zero_iff.1 this.symm
    subst hs
    obtain ⟨i1, i2, i3, i4, i5⟩ := hI.but (by omega) hb
    refine ⟨trivial, H2.set (3 + 1) (.cells [.str []] 9 { whole := true }), by simp [AH.write, i2, splice, AV.one], (H2.set (3 + 1) (.cells [.str []] 9 { whole := true })).set (3 + 3) .dead, ?_, [], ?_, rfl⟩
    · refine tm1 ?_
      unfold Dfr at hd ⊢
      rw [AH.get_set, if_neg (by omega)]; exact hd
    · simp [AH.read1, AH.get_set]
  · rintro W H1 H2 hI hb hd
    simp only [AH.n_alloc, nG] at hb hd ⊢
    obtain ⟨i1, i2, i3, i4, i5⟩ := hI.but (by omega) hb
    refine ⟨H2.set (3 + 3) .dead, tm1 hd, s.take (decodeL s 0).2, ?_, rfl⟩
    simp [AH.read1, AH.get_set, i2]
end Go.Proofs.YtlkdhhkncoekgaaDoor

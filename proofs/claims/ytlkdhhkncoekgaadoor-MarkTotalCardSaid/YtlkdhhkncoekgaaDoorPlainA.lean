/- What the functions about signs and looks hand back. -/
import Derived.Test.YtlkdhhkncoekgaaDoorPlainVc
import Derived.Test.YtlkdhhkncoekgaaDoorUtf

/- What the functions about signs hand back: their lengths, how many there are, the first of them. -/
section
namespace Go.Proofs.YtlkdhhkncoekgaaDoor
open Go.Am Go

theorem follows' : Tryd.prog.follows .mixedOrders = true := by kernel_rfl

theorem dialects_pure (d : Int) : Pure Tryd.prog 11 [.int .i64 d] (.bool (decide (1 ≤ d) && decide (d ≤ 4))) :=
  Pure.of_vc follows' [] (by kernel_rfl) rfl rfl (by rw [dialects_vc])

theorem runeLen_pure (c : Int) : Pure Tryd.prog 78 [.int .i32 c] (.int .i64 (runeLen c)) := by
  refine Pure.of_vc follows' [] (by kernel_rfl) rfl rfl ?_
  rw [runeLen_vc]
  unfold runeLen
  by_cases h1 : c < 0
  · simp [h1]
  by_cases h2 : c ≤ 127
  · simp [h1, h2]
  by_cases h3 : c ≤ 2047
  · simp [h1, h2, h3]
  by_cases h4 : 55296 ≤ c ∧ c ≤ 57343
  · simp [h1, h2, h3, h4]
  by_cases h5 : c ≤ 65535
  · have : (decide (55296 ≤ c) && decide (c ≤ 57343)) = false := by rw [Bool.and_eq_false_iff]; simp only [decide_eq_false_iff_not]; omega
    simp [h1, h2, h3, h4, h5, this]
  have : (decide (55296 ≤ c) && decide (c ≤ 57343)) = false := by rw [Bool.and_eq_false_iff]; simp only [decide_eq_false_iff_not]; omega
  by_cases h6 : c ≤ 1114111
  · simp [h1, h2, h3, h4, h5, h6, this]
  · simp [h1, h2, h3, h4, h5, h6, this]

def pre (s t : List UInt8) : Bool := decide ((s.length : Int) ≥ t.length) && s.take t.length == t

theorem sHasPrefix_pure (s t : List UInt8) : Pure Tryd.prog 53 [.str s, .str t] (.bool (pre s t)) := by
  refine Pure.of_vc follows' [] (by kernel_rfl) rfl rfl ?_
  rw [sHasPrefix_vc]
  refine ⟨fun h => ?_, ?_⟩
  · simp only [beq_iff_eq, decide_eq_true_eq] at h; omega
  · have : ((t.length : Int) - 0).toNat = t.length := by omega
    rw [this]; rfl
theorem HasPrefix_pure (s t : List UInt8) : Pure Tryd.prog 27 [.str s, .str t] (.bool (pre s t)) := by
  refine Pure.of_vc follows' [] (by kernel_rfl) rfl rfl ?_
  rw [HasPrefix_vc]
  exact (sHasPrefix_pure s t).use1 ⟨_, rfl, rfl⟩
theorem sCutPrefix_no (s t : List UInt8) (h : pre s t = false) : Pure Tryd.prog 72 [.str s, .str t] (.tuple [.str s, .bool false]) := by
  refine Pure.of_vc follows' [] (by kernel_rfl) rfl rfl ?_
  rw [sCutPrefix_vc]
  refine (sHasPrefix_pure s t).use1 ⟨_, rfl, ?_⟩
  rw [h]; rfl
theorem CutPrefix_no (s t : List UInt8) (h : pre s t = false) : Pure Tryd.prog 43 [.str s, .str t] (.tuple [.str s, .bool false]) := by
  refine Pure.of_vc follows' [] (by kernel_rfl) rfl rfl ?_
  rw [CutPrefix_vc]
  exact (sCutPrefix_no s t h).use1 ⟨_, _, rfl, rfl⟩

theorem IndexByteString_pure (s : List UInt8) (c : Int) : Pure Tryd.prog 89 [.str s, .int .u8 c] (.int .i64 (Lib.indexByte s c.toNat.toUInt8)) :=
  Pure.ext ext_ok fun _ => rfl
theorem sIndexByte_pure (s : List UInt8) (c : Int) : Pure Tryd.prog 73 [.str s, .int .u8 c] (.int .i64 (Lib.indexByte s c.toNat.toUInt8)) := by
  refine Pure.of_vc follows' [] (by kernel_rfl) rfl rfl ?_
  rw [sIndexByte_vc]
  exact (IndexByteString_pure s c).use1 ⟨_, rfl, rfl⟩
theorem IndexByte_pure (s : List UInt8) (c : Int) : Pure Tryd.prog 44 [.str s, .int .u8 c] (.int .i64 (Lib.indexByte s c.toNat.toUInt8)) := by
  refine Pure.of_vc follows' [] (by kernel_rfl) rfl rfl ?_
  rw [IndexByte_vc]
  exact (sIndexByte_pure s c).use1 ⟨_, rfl, rfl⟩

theorem Count_pure (s : List UInt8) (n : Nat) (hn : SignsN s n) (hs : s.length ≤ 9223372036854775807) : Pure Tryd.prog 62 [.str s] (.int .i64 n) := by
  refine Pure.of_vc follows' [⟨3, Int, [3, 5], fun i => [.int .i64 i, .ptr (some ((real Tryd.prog none).n (emptyH Tryd.prog), 0))],
    fun i H j => ∃ m : Nat, i = m ∧ H.get (emptyH Tryd.prog).n = some (.iter s (place s m)) ∧ j = s.length - place s m ∧ place s m ≤ s.length ∧ ∀ j, j < m → place s j < s.length⟩] (by kernel_rfl) rfl rfl ?_
  rw [Count_vc]
  refine ⟨⟨0, s.length, rfl, 0, rfl, by simp [AH.get_alloc, place], rfl, Nat.zero_le _, fun j h => absurd h (Nat.not_lt_zero j)⟩, ?_⟩
  rintro i H j ⟨m, rfl, h1, rfl, h2, h3⟩
  refine ⟨s, place s m, h1, fun hk => ?_, fun hk => ?_⟩
  · obtain ⟨g1, g2⟩ := place_next hk
    have hm := place_ge h3
    have g1' : place s m < place s m + (decodeL s (place s m)).2 := g1
    refine ⟨_, _, ?_, rfl, m + 1, ?_, by simp [AH.get_set, place], rfl, g2, fun j hj => ?_⟩
    · simp only [place]; simp only [place] at g2; omega
    · rw [real_wrap, wrap_i64 (by omega) (by omega)]; rfl
    · rcases Nat.lt_or_ge j m with h | h
      · exact h3 j h
      · obtain rfl : j = m := by omega
        exact hk
  · have : SignsN s m := ⟨by omega, h3⟩
    rw [this.uniq hn]

def signAt (s : List UInt8) (m : Nat) : Int × Int × Int × Bool :=
  (place s m, (decodeL s (place s m)).2, (decodeL s (place s m)).1, ((decodeL s (place s m)).1 : Int) == 65533 && ((decodeL s (place s m)).2 : Int) == 1)
def signAV (x : Int × Int × Int × Bool) : List AV := [.agg [.int .i64 x.1, .int .i64 x.2.1, .int .i32 x.2.2.1, .bool x.2.2.2]]

theorem ACfn.mono {P : Program} {r : Option Nat} {fv : AV} {vs : List AV} {H : AH} {K K' : AV → AH → Prop} (h : ACfn P r fv vs H K) (hk : ∀ v H, K v H → K' v H) : ACfn P r fv vs H K' :=
  fun dst f xs ts ty pos after guard T hf hx => (h dst f xs ts ty pos after guard T hf hx).mono hk

theorem signs1_iter (s : List UInt8) (n : Nat) (hn : SignsN s n) (p : Nat) :
    Iter Tryd.prog 77 [] [.ptr (some (p, 0))] (fun H => H.get p = some (.cells [.str s] 9 { whole := true })) (((List.range n).map (signAt s)).map signAV) := by
  intro b J D H0 hb s1 s2 s3 s4 hC h0 hstep
  have hlen : (((List.range n).map (signAt s)).map signAV).length = n := by simp
  refine vcF_ok (anns := [⟨1, Unit, [0, 1, 7], fun _ => [.yld b, .ptr (some (p, 0)), .ptr (some ((real Tryd.prog none).n H0, 0))],
    fun _ H j => ∃ m W, J m W H ∧ H0.n ∈ W ∧ (∀ c ∈ W, c < H.n) ∧ H.get H0.n = some (.iter s (place s m)) ∧ place s m ≤ s.length ∧ (∀ j, j < m → place s j < s.length) ∧ j = s.length - place s m⟩]) follows' ?_
  show vcF _ _ _ _ [.yld b, .ptr (some (p, 0))] _ _
  rw [signs1_vc]
  refine ⟨s, ?_, ⟨(), s.length, rfl, 0, [H0.n], s1 _ _ _ _ h0, by simp, by simp, by simp [AH.get_alloc, place], Nat.zero_le _, fun j h => absurd h (Nat.not_lt_zero j), rfl⟩, ?_⟩
  · simp [AH.read1, hC _ _ _ h0]
  rintro _ H1 j ⟨m, W, hJ, hW, hlt, h1, h2, h3, rfl⟩
  refine ⟨s, place s m, h1, fun hk => ?_, fun hk => ?_⟩
  · obtain ⟨g1, g2⟩ := place_next hk
    have hJ' : J m W (H1.set H0.n (.iter s (place s m + (decodeL s (place s m)).2))) := s2 _ _ _ _ _ hW hJ
    have hm : m < n := by
      rcases Nat.lt_or_ge m n with h | h
      · exact h
      · exfalso
        rcases Nat.lt_or_ge n m with h' | h'
        · have := h3 n h'; have := hn.1; omega
        · obtain rfl : m = n := by omega
          have := hn.1; omega
    have hx : (((List.range n).map (signAt s)).map signAV)[m]? = some (signAV (signAt s m)) := by simp [hm]
    have hy := hstep none m W _ _ hx hJ' (fun c hc => by simpa using hlt c hc)
    have after : ∀ v H3, ((H1.set H0.n (.iter s (place s m + (decodeL s (place s m)).2))).n ≤ H3.n ∧ (∀ c ∈ W, H3.get c = (H1.set H0.n (.iter s (place s m + (decodeL s (place s m)).2))).get c) ∧ ((v = .bool true ∧ J (m + 1) W H3) ∨ (v = .bool false ∧ D W H3))) →
        ∃ b1, v = AV.bool b1 ∧ bif !b1 then (∃ W, J (((List.range n).map (signAt s)).map signAV).length W H3 ∨ D W H3) else
          ∃ (x3 : PUnit), ∃ (k4 : Nat), k4 < s.length - place s m ∧ [AV.yld b, AV.ptr (some (p, (0 : Nat))), AV.ptr (some ((real Tryd.prog none).n H0, (0 : Nat)))] = [AV.yld b, AV.ptr (some (p, (0 : Nat))), AV.ptr (some ((real Tryd.prog none).n H0, (0 : Nat)))] ∧
            ∃ m W, J m W H3 ∧ H0.n ∈ W ∧ (∀ c ∈ W, c < H3.n) ∧ H3.get H0.n = some (.iter s (place s m)) ∧ place s m ≤ s.length ∧ (∀ j, j < m → place s j < s.length) ∧ k4 = s.length - place s m := by
      rintro v H3 ⟨k1, k2, ⟨rfl, k3⟩ | ⟨rfl, k3⟩⟩
      · refine ⟨true, rfl, (), s.length - place s (m + 1), by omega, rfl, m + 1, W, k3, hW, fun c hc => ?_, ?_, g2, fun j hj => ?_, rfl⟩
        · have := hlt c hc; have k1' : H1.n ≤ H3.n := k1; omega
        · rw [k2 _ hW, AH.get_set, if_pos rfl]; rfl
        · rcases Nat.lt_or_ge j m with h | h
          · exact h3 j h
          · obtain rfl : j = m := by omega
            exact hk
      · exact ⟨false, rfl, W, .inr k3⟩
    by_cases hr : (decodeL s (place s m)).1 = 65533
    · have e1 : (((decodeL s (place s m)).1 : Int) != 65533) = false := by rw [hr]; rfl
      rw [e1]
      have hz := decode_bad hr
      refine ⟨s, ?_, ⟨by omega, by omega, by omega⟩, ?_⟩
      · have := hC _ _ _ hJ'
        simp only [real_rd1, real_set, real_n, AH.read1, this]; rfl
      have e2 : List.take ((s.length : Int) - (place s m : Int)).toNat (List.drop (place s m : Int).toNat s) = s.drop (place s m) := by
        rw [List.take_of_length_le]; rfl
        rw [List.length_drop]; omega
      rw [e2]
      refine (HasPrefix_pure _ _).use1 ⟨_, rfl, ?_⟩
      have e3 : pre (s.drop (place s m)) [239, 191, 189] = isBad3 (s.drop (place s m)) := rfl
      rw [e3]
      cases hb3 : isBad3 (s.drop (place s m)) with
      | true =>
        rw [hb3] at hz
        have hz' : (decodeL s (place s m)).2 = 3 := hz
        have ea : signAV (signAt s m) = [AV.agg [AV.int IntKind.i64 (place s m : Int), AV.int IntKind.i64 3, AV.int IntKind.i32 ((decodeL s (place s m)).1 : Int), AV.bool (((decodeL s (place s m)).1 : Int) == 65533 && (3 : Int) == 1)]] := by
          simp only [signAV, signAt, hz']; rfl
        rw [ea] at hy
        exact ACfn.mono hy after
      | false =>
        rw [hb3] at hz
        have hz' : (decodeL s (place s m)).2 = 1 := hz
        have ea : signAV (signAt s m) = [AV.agg [AV.int IntKind.i64 (place s m : Int), AV.int IntKind.i64 1, AV.int IntKind.i32 ((decodeL s (place s m)).1 : Int), AV.bool (((decodeL s (place s m)).1 : Int) == 65533 && (1 : Int) == 1)]] := by
          simp only [signAV, signAt, hz']; rfl
        rw [ea] at hy
        exact ACfn.mono hy after
    · have e1 : (((decodeL s (place s m)).1 : Int) != 65533) = true := by rw [bne_iff_ne]; omega
      rw [e1]
      refine (runeLen_pure _).use1 ⟨_, rfl, ?_⟩
      rw [decode_len hr]
      exact ACfn.mono hy after
  · have : SignsN s m := ⟨by omega, h3⟩
    rw [this.uniq hn] at hJ
    exact ⟨W, .inl (by rw [hlen]; exact hJ)⟩

theorem Signs_call (s : List UInt8) (H : AH) {K : AV → AH → Prop} (h : K (.func (.func 77) [] [.ptr (some (H.n, 0))]) (H.alloc (.cells [.str s] 9 { whole := true }))) : ACallee Tryd.prog 54 [.str s] H K :=
  .inl ⟨goB_spec (by kernel_rfl), vcF_ok follows' (anns := []) (by rw [Signs_vc]; exact ⟨rfl, h⟩)⟩
end Go.Proofs.YtlkdhhkncoekgaaDoor
end

/- The first sign of a text. -/
section
namespace Go.Proofs.YtlkdhhkncoekgaaDoor
open Go.Am Go

theorem nG : (emptyH Tryd.prog).n = 3 := by kernel_rfl

def soInv (s r : List UInt8) (W : List Nat) (H : AH) : Prop :=
  H.get 3 = some (.cells [.str s] 9 { whole := true }) ∧ H.get (3 + 1) = some (.cells [.str r] 9 { whole := true }) ∧ H.get (3 + 2) = some (.cells [.str s] 9 { whole := true }) ∧ 3 + 4 < H.n ∧
  ∀ c, c < 3 + 3 → c ∉ W

theorem soInv.alloc {s r : List UInt8} {W : List Nat} {H : AH} (h : soInv s r W H) (o : AObj) : soInv s r (H.n :: W) (H.alloc o) := by
  obtain ⟨h1, h2, h3, h4, h5⟩ := h
  refine ⟨?_, ?_, ?_, ?_, fun c hc hm => ?_⟩
  · rw [AH.get_alloc, if_neg (by omega)]; exact h1
  · rw [AH.get_alloc, if_neg (by omega)]; exact h2
  · rw [AH.get_alloc, if_neg (by omega)]; exact h3
  · show 3 + 4 < H.n + 1; omega
  · rcases List.mem_cons.1 hm with rfl | hm
    · omega
    · exact h5 c hc hm
theorem soInv.set {s r : List UInt8} {W : List Nat} {H : AH} (h : soInv s r W H) {c : Nat} (hc : c ∈ W) (o : AObj) : soInv s r W (H.set c o) := by
  obtain ⟨h1, h2, h3, h4, h5⟩ := h
  have n : ∀ d, d < 3 + 3 → d ≠ c := fun d hd e => h5 d hd (e ▸ hc)
  refine ⟨?_, ?_, ?_, h4, h5⟩
  · rw [AH.get_set, if_neg (n _ (by omega))]; exact h1
  · rw [AH.get_set, if_neg (n _ (by omega))]; exact h2
  · rw [AH.get_set, if_neg (n _ (by omega))]; exact h3
theorem soInv.but {s r : List UInt8} {W : List Nat} {H H' : AH} (h : soInv s r W H) {b : Nat} (hb : 3 + 3 ≤ b) (k : But b H H') : soInv s r W H' := by
  obtain ⟨h1, h2, h3, h4, h5⟩ := h
  obtain ⟨k1, k2⟩ := k
  refine ⟨?_, ?_, ?_, by omega, h5⟩
  · rw [k2 _ (by omega)]; exact h1
  · rw [k2 _ (by omega)]; exact h2
  · rw [k2 _ (by omega)]; exact h3

theorem tm1 {m : Nat} {H : AH} (h : Dfr m H) : takeMarks [.mark m] H = some (H.set m .dead) := by
  unfold takeMarks; rw [h]; rfl

theorem signOf_pure (s : List UInt8) : Pure Tryd.prog 29 [.str s] (.str (s.take (decodeL s 0).2)) := by
  obtain ⟨n, hn⟩ := SignsN.ex s
  refine PureR.of_vcG follows' [] [⟨2, AV, Int × Int × Int × Bool, 77, fun z => ([], [z]), fun x => [.agg [.int .i64 x.1, .int .i64 x.2.1, .int .i32 x.2.2.1, .bool x.2.2.2]],
    fun _ => (List.range n).map (signAt s), fun z H => z = .ptr (some (3 + 2, 0)) ∧ H.get (3 + 2) = some (.cells [.str s] 9 { whole := true }),
    fun _ i W H => i = 0 ∧ soInv s [] W H, [.ret], fun _ _ W H => soInv s (s.take (decodeL s 0).2) W H⟩] (by kernel_rfl) rfl (by rintro v rfl; rfl) ?_
  rw [signOf_vc]
  simp only [real_n, real_al, real_rd1, real_call, real_wr, real_tm]
  refine ⟨trivial, s, by simp [AH.read1, AH.get_alloc], ?_⟩
  refine Signs_call s _ ⟨_, rfl, _, rfl, ?_, ?_, fun _ => rfl, ?_, ?_, ?_, ?_⟩
  · intro b J D H0 hb s1 s2 s3 s4 hC
    exact signs1_iter s n hn _ b J D H0 hb s1 s2 s3 s4 fun i W H h => (hC i W H h).2
  · exact ⟨fun i W H o h => ⟨h.1, h.2.alloc o⟩, fun i W H c o hc h => ⟨h.1, h.2.set hc o⟩, fun e W H o h => h.alloc o, fun e W H c o hc h => h.set hc o, fun i W H h => ⟨rfl, h.2.2.2.1⟩⟩
  · rintro H2 ⟨h1, h2⟩
    simp only [AH.n_alloc, nG] at h1 h2
    refine ⟨trivial, ?_, ?_, ?_, by omega, fun c hc hm => ?_⟩
    · rw [h2 _ (by omega)]; simp [AH.get_alloc, nG]
    · rw [h2 _ (by omega)]; simp [AH.get_alloc, nG]
    · rw [h2 _ (by omega)]; simp [AH.get_alloc, nG]
    · simp only [AH.n_alloc, nG, List.mem_cons, List.mem_nil_iff, or_false] at hm; omega
  · rintro i W H1 x hx ⟨rfl, hI⟩ hW hin
    simp only [AH.n_alloc, nG] at hin ⊢
    have hx' : x = signAt s 0 ∧ s ≠ [] := by
      rw [List.getElem?_map] at hx
      obtain ⟨m, hm, rfl⟩ := Option.map_eq_some_iff.1 hx
      obtain ⟨h1, h2⟩ := List.getElem?_eq_some_iff.1 hm
      simp only [List.getElem_range] at h2
      subst h2
      refine ⟨rfl, fun e => ?_⟩
      have := hn.2 0 (by simpa using h1)
      rw [e] at this; simp at this
    obtain ⟨rfl, hne⟩ := hx'
    have hpos : 0 < s.length := List.length_pos_iff.2 hne
    obtain ⟨z1, z2⟩ := decodeL_size s 0 hpos
    have hbW := hW _ hin
    have hown : H1.n ∉ W := fun h => Nat.lt_irrefl _ (hW _ h)
    refine ⟨rfl, (H1.alloc (.cells [.int .i64 0, .int .i64 0, .int .i32 0, .bool false] 77 { whole := true })).set H1.n (.cells [.int .i64 (signAt s 0).1, .int .i64 (signAt s 0).2.1, .int .i32 (signAt s 0).2.2.1, .bool (signAt s 0).2.2.2] 77 { whole := true }),
      by simp [AH.write, AH.get_alloc, splice, AV.one], ⟨by simp, fun c hc => ?_⟩, ?_⟩
    · have : c ≠ H1.n := fun e => hown (e ▸ hc)
      rw [AH.get_set, if_neg this, AH.get_alloc, if_neg this]
    rintro H9 ⟨b1, b2⟩
    have hn9 : H9.n = H1.n + 1 := b1
    obtain ⟨i1, i2, i3, i4, i5⟩ := hI
    have old : ∀ c, c < 3 + 3 → H9.get c = H1.get c := fun c hc => by rw [b2 c (by omega), AH.get_set, if_neg (by omega), AH.get_alloc, if_neg (by omega)]
    have new : H9.get H1.n = some (.cells [.int .i64 (signAt s 0).1, .int .i64 (signAt s 0).2.1, .int .i32 (signAt s 0).2.2.1, .bool (signAt s 0).2.2.2] 77 { whole := true }) := by
      rw [b2 _ (by omega), AH.get_set, if_pos rfl]
    have e0 : ((signAt s 0).2.1 - 0).toNat = (decodeL s 0).2 := by simp [signAt, place]
    have e1 : (signAt s 0).2.1 = ((decodeL s 0).2 : Int) := rfl
    refine ⟨s, by simp only [AH.read1, old 3 (by omega), i1]; rfl, (signAt s 0).2.1, by simp only [AH.read1, new]; rfl, ⟨Int.le_refl 0, by rw [e1]; omega, by rw [e1]; omega⟩, rfl, ?_⟩
    rw [e0]
    refine ⟨H9.set (3 + 1) (.cells [.str (s.take (decodeL s 0).2)] 9 { whole := true }), by simp [AH.write, old (3 + 1) (by omega), i2, splice, AV.one], ⟨by simp only [AH.n_set]; omega, fun c hc => ?_⟩, ?_⟩
    · rw [AH.get_set, if_neg (fun e => i5 c (by omega) hc)]
    · intro H11 hb
      refine soInv.but (H := H9.set (3 + 1) (.cells [.str (s.take (decodeL s 0).2)] 9 { whole := true })) ⟨?_, ?_, ?_, ?_, i5⟩ (by omega) hb
      · rw [AH.get_set, if_neg (by omega), old _ (by omega)]; exact i1
      · rw [AH.get_set, if_pos rfl]
      · rw [AH.get_set, if_neg (by omega), old _ (by omega)]; exact i3
      · simp only [AH.n_set]; omega
  · rintro W H1 H2 ⟨h0, hI⟩ hb hd
    simp only [AH.n_alloc, nG] at hb hd ⊢
    have hs : s = [] := by
      have : n = 0 := by simpa using h0
      subst this
      have := hn.1
      exact List.length_eq_zero_iff.1 this.symm
    subst hs
    obtain ⟨i1, i2, i3, i4, i5⟩ := hI.but (by omega) hb
    refine ⟨trivial, H2.set (3 + 1) (.cells [.str []] 9 { whole := true }), by simp [AH.write, i2, splice, AV.one], (H2.set (3 + 1) (.cells [.str []] 9 { whole := true })).set (3 + 3) .dead, ?_, [], ?_, rfl⟩
    · refine tm1 ?_
      unfold Dfr at hd ⊢
      rw [AH.get_set, if_neg (by omega)]; exact hd
    · simp [AH.read1, AH.get_set]
  · rintro W H1 H2 hI hb hd
    simp only [AH.n_alloc, nG] at hb hd ⊢
    obtain ⟨i1, i2, i3, i4, i5⟩ := hI.but (by omega) hb
    refine ⟨H2.set (3 + 3) .dead, tm1 hd, s.take (decodeL s 0).2, ?_, rfl⟩
    simp [AH.read1, AH.get_set, i2]
end Go.Proofs.YtlkdhhkncoekgaaDoor
end

/- Looks that all are none make no span. -/
section
namespace Go.Proofs.YtlkdhhkncoekgaaDoor
open Go.Am Go

def z1 : List AV := [.bool false, .bool false, .bool false, .bool false, .int .i64 0]
def zc : Nat → List AV
  | 0 => []
  | n + 1 => z1 ++ zc n



theorem sort_run : (runCallF Tryd.prog ext 300 99 [.slice none 0 0, .func (.func 111) [] []] (emptyH Tryd.prog)).map (·.1) = some (.tuple []) := by kernel_rfl
theorem sort_pure : Pure Tryd.prog 99 [.slice none 0 0, .func (.func 111) [] []] (.tuple []) :=
  PureR.of_call (ACall.of_run follows' ext_ok (by kernel_rfl) sort_run) (by kernel_rfl) rfl (by rintro v rfl; rfl)

theorem makeBools (H : AH) (k : Nat) (hk : k ≤ 5000) : makeSliceV Tryd.prog H 129 (.int .i64 k) (.int .i64 k) = some (.slice (some (H.n, 0)) k k, H.alloc (.cells (repCells [.bool false] k) 4 {})) := by
  unfold makeSliceV
  have t1 : Tryd.prog.underlying 129 = some (.slice 4) := by kernel_rfl
  have t2 : szOf Tryd.prog 4 = some 1 := by kernel_rfl
  have t3 : byOf Tryd.prog 4 = some 1 := by kernel_rfl
  have t4 : zeroOf Tryd.prog 4 = some (.bool false) := by kernel_rfl
  simp only [t1, t2, t3, t4]
  rw [if_pos]
  · simp [AV.cells]
  · refine ⟨by omega, by omega, ?_, ?_, rfl, by decide, rfl⟩ <;> omega

noncomputable def zH (n : Nat) : AH := (emptyH Tryd.prog).alloc (.cells (zc n) 53 { own := false, opn := true })

end Go.Proofs.YtlkdhhkncoekgaaDoor
end

/- A text of one run without any look: no span. -/
section
namespace Go.Proofs.YtlkdhhkncoekgaaDoor
open Go.Am Go


theorem gs : Tryd.prog.globals.size = 3 := nG



def run1 (n : Nat) : List AV := [.int .i64 0, .int .i64 n] ++ z1
noncomputable def rH (n : Nat) : AH := (emptyH Tryd.prog).alloc (.cells (run1 n) 109 { own := false, opn := true })


end Go.Proofs.YtlkdhhkncoekgaaDoor
end

/- Pieces without looks, laid together. -/
section
namespace Go.Proofs.YtlkdhhkncoekgaaDoor
open Go.Am Go

def pcs : List (List UInt8) → List AV
  | [] => []
  | p :: ps => (.str p :: z1) ++ pcs ps


theorem bytes_back : ∀ s : List UInt8, bytesOfCells (byteCellsA s) = some s
  | [] => rfl
  | b :: s => by
    have h := bytes_back s
    simp only [byteCellsA, List.map_cons] at h ⊢
    simp [bytesOfCells, h]

theorem append_str {H : AH} {q : Option Nat} {so s : List UInt8} (hl : Lies H q so.length (byteCellsA so) 5) (h0 : s ≠ []) (hm : so.length + s.length ≤ 8192) :
    ∃ H', appendV Tryd.prog H 39 9 (sl q so.length) (.str s) = some (sl (some H.n) (so ++ s).length, H') ∧ H'.n = H.n + 1 ∧ Lies H' (some H.n) (so ++ s).length (byteCellsA (so ++ s)) 5 ∧ ∀ c, c < H.n → q ≠ some c → H'.get c = H.get c := by
  have h := append_lies (P := Tryd.prog) (H := H) (st := 39) (xt := 9) (e := 5) (xd := .string) (s := 1) (by_ := 1) (m := so.length) (n := s.length) (q := q) (old := byteCellsA so) (new := byteCellsA s) (y := .str s) (z := .int .u8 0)
    (by kernel_rfl) (by kernel_rfl) (fun k h => by cases h) (by kernel_rfl) (by kernel_rfl) (by kernel_rfl) rfl (by decide) rfl (by simp [byteCellsA, AV.one]) (List.length_pos_iff.2 h0) hl (by simp [byteCellsA]) (by omega)
  rw [← List.length_append] at h
  have e : byteCellsA so ++ byteCellsA s = byteCellsA (so ++ s) := by simp [byteCellsA]
  rw [e] at h
  exact h


noncomputable def pH (ps : List (List UInt8)) : AH := (emptyH Tryd.prog).alloc (.cells (pcs ps) 79 { own := false, opn := true })


end Go.Proofs.YtlkdhhkncoekgaaDoor
end

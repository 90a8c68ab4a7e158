/- What the functions about signs and looks hand back. -/
import Derived.Test.YtlkdhhkncoekgaaDoorPlainVc
import Derived.Test.YtlkdhhkncoekgaaDoorUtf

/- What the functions about signs hand back: their lengths, how many there are, the first of them. -/
section
namespace Go.Proofs.YtlkdhhkncoekgaaDoor
open Go.Am Go

theorem follows' : Tryd.prog.follows .mixedOrders = true := by kernel_rfl

theorem dialects_pure (d : Int) : Pure Tryd.prog 11 [.int .i64 d] (.bool (decide (1 ≤ d) && decide (d ≤ 4))) :=
  Pure.of_vc follows' [] (by kernel_rfl) rfl rfl (by rw [dialects_vc])

theorem runeLen_pure (c : Int) : Pure Tryd.prog 78 [.int .i32 c] (.int .i64 (runeLen c)) := by
  refine Pure.of_vc follows' [] (by kernel_rfl) rfl rfl ?_
  rw [runeLen_vc]
  unfold runeLen
  by_cases h1 : c < 0
  · simp [h1]
  by_cases h2 : c ≤ 127
  · simp [h1, h2]
  by_cases h3 : c ≤ 2047
  · simp [h1, h2, h3]
  by_cases h4 : 55296 ≤ c ∧ c ≤ 57343
  · simp [h1, h2, h3, h4]
  by_cases h5 : c ≤ 65535
  · have : (decide (55296 ≤ c) && decide (c ≤ 57343)) = false := by rw [Bool.and_eq_false_iff]; simp only [decide_eq_false_iff_not]; omega
    simp [h1, h2, h3, h4, h5, this]
  have : (decide (55296 ≤ c) && decide (c ≤ 57343)) = false := by rw [Bool.and_eq_false_iff]; simp only [decide_eq_false_iff_not]; omega
  by_cases h6 : c ≤ 1114111
  · simp [h1, h2, h3, h4, h5, h6, this]
  · simp [h1, h2, h3, h4, h5, h6, this]

/-- Begins a text with another? -/
def pre (s t : List UInt8) : Bool := decide ((s.length : Int) ≥ t.length) && s.take t.length == t

theorem sHasPrefix_pure (s t : List UInt8) : Pure Tryd.prog 53 [.str s, .str t] (.bool (pre s t)) := by
  refine Pure.of_vc follows' [] (by kernel_rfl) rfl rfl ?_
  rw [sHasPrefix_vc]
  refine ⟨fun h => ?_, ?_⟩
  · simp only [beq_iff_eq, decide_eq_true_eq] at h; omega
  · have : ((t.length : Int) - 0).toNat = t.length := by omega
    rw [this]; rfl
theorem HasPrefix_pure (s t : List UInt8) : Pure Tryd.prog 27 [.str s, .str t] (.bool (pre s t)) := by
  refine Pure.of_vc follows' [] (by kernel_rfl) rfl rfl ?_
  rw [HasPrefix_vc]
  exact (sHasPrefix_pure s t).use1 ⟨_, rfl, rfl⟩
theorem sCutPrefix_no (s t : List UInt8) (h : pre s t = false) : Pure Tryd.prog 72 [.str s, .str t] (.tuple [.str s, .bool false]) := by
  refine Pure.of_vc follows' [] (by kernel_rfl) rfl rfl ?_
  rw [sCutPrefix_vc]
  refine (sHasPrefix_pure s t).use1 ⟨_, rfl, ?_⟩
  rw [h]; rfl
theorem CutPrefix_no (s t : List UInt8) (h : pre s t = false) : Pure Tryd.prog 43 [.str s, .str t] (.tuple [.str s, .bool false]) := by
  refine Pure.of_vc follows' [] (by kernel_rfl) rfl rfl ?_
  rw [CutPrefix_vc]
  exact (sCutPrefix_no s t h).use1 ⟨_, _, rfl, rfl⟩

theorem IndexByteString_pure (s : List UInt8) (c : Int) : Pure Tryd.prog 89 [.str s, .int .u8 c] (.int .i64 (Lib.indexByte s c.toNat.toUInt8)) :=
  Pure.ext ext_ok fun _ => rfl
theorem sIndexByte_pure (s : List UInt8) (c : Int) : Pure Tryd.prog 73 [.str s, .int .u8 c] (.int .i64 (Lib.indexByte s c.toNat.toUInt8)) := by
  refine Pure.of_vc follows' [] (by kernel_rfl) rfl rfl ?_
  rw [sIndexByte_vc]
  exact (IndexByteString_pure s c).use1 ⟨_, rfl, rfl⟩
theorem IndexByte_pure (s : List UInt8) (c : Int) : Pure Tryd.prog 44 [.str s, .int .u8 c] (.int .i64 (Lib.indexByte s c.toNat.toUInt8)) := by
  refine Pure.of_vc follows' [] (by kernel_rfl) rfl rfl ?_
  rw [IndexByte_vc]
  exact (sIndexByte_pure s c).use1 ⟨_, rfl, rfl⟩

theorem Count_pure (s : List UInt8) (n : Nat) (hn : SignsN s n) (hs : s.length ≤ 9223372036854775807) : Pure Tryd.prog 62 [.str s] (.int .i64 n) := by
  refine Pure.of_vc follows' [⟨3, Int, [3, 5], fun i => [.int .i64 i, .ptr (some ((real Tryd.prog none).n (emptyH Tryd.prog), 0))],
    fun i H j => ∃ m : Nat, i = m ∧ H.get (emptyH Tryd.prog).n = some (.iter s (place s m)) ∧ j = s.length - place s m ∧ place s m ≤ s.length ∧ ∀ j, j < m → place s j < s.length⟩] (by kernel_rfl) rfl rfl ?_
  rw [Count_vc]
  refine ⟨⟨0, s.length, rfl, 0, rfl, by simp [AH.get_alloc, place], rfl, Nat.zero_le _, fun j h => absurd h (Nat.not_lt_zero j)⟩, ?_⟩
  rintro i H j ⟨m, rfl, h1, rfl, h2, h3⟩
  refine ⟨s, place s m, h1, fun hk => ?_, fun hk => ?_⟩
  · obtain ⟨g1, g2⟩ := place_next hk
    have hm := place_ge h3
    have g1' : place s m < place s m + (decodeL s (place s m)).2 := g1
    refine ⟨_, _, ?_, rfl, m + 1, ?_, by simp [AH.get_set, place], rfl, g2, fun j hj => ?_⟩
    · simp only [place]; simp only [place] at g2; omega
    · rw [real_wrap, wrap_i64 (by omega) (by omega)]; rfl
    · rcases Nat.lt_or_ge j m with h | h
      · exact h3 j h
      · obtain rfl : j = m := by omega
        exact hk
  · have : SignsN s m := ⟨by omega, h3⟩
    rw [this.uniq hn]

/-- A sign as the iterator hands it out: where it is, how long, its rune, whether it is none. -/
def signAt (s : List UInt8) (m : Nat) : Int × Int × Int × Bool :=
  (place s m, (decodeL s (place s m)).2, (decodeL s (place s m)).1, ((decodeL s (place s m)).1 : Int) == 65533 && ((decodeL s (place s m)).2 : Int) == 1)
def signAV (x : Int × Int × Int × Bool) : List AV := [.agg [.int .i64 x.1, .int .i64 x.2.1, .int .i32 x.2.2.1, .bool x.2.2.2]]

theorem ACfn.mono {P : Program} {r : Option Nat} {fv : AV} {vs : List AV} {H : AH} {K K' : AV → AH → Prop} (h : ACfn P r fv vs H K) (hk : ∀ v H, K v H → K' v H) : ACfn P r fv vs H K' :=
  fun dst f xs ts ty pos after guard T hf hx => (h dst f xs ts ty pos after guard T hf hx).mono hk

theorem signs1_iter (s : List UInt8) (n : Nat) (hn : SignsN s n) (p : Nat) :
    Iter Tryd.prog 77 [] [.ptr (some (p, 0))] (fun H => H.get p = some (.cells [.str s] 9 { whole := true })) (((List.range n).map (signAt s)).map signAV) := by
  intro b J D H0 hb s1 s2 s3 s4 hC h0 hstep
  have hlen : (((List.range n).map (signAt s)).map signAV).length = n := by simp
  refine vcF_ok (anns := [⟨1, Unit, [0, 1, 7], fun _ => [.yld b, .ptr (some (p, 0)), .ptr (some ((real Tryd.prog none).n H0, 0))],
    fun _ H j => ∃ m W, J m W H ∧ H0.n ∈ W ∧ (∀ c ∈ W, c < H.n) ∧ H.get H0.n = some (.iter s (place s m)) ∧ place s m ≤ s.length ∧ (∀ j, j < m → place s j < s.length) ∧ j = s.length - place s m⟩]) follows' ?_
  show vcF _ _ _ _ [.yld b, .ptr (some (p, 0))] _ _
  rw [signs1_vc]
  refine ⟨s, ?_, ⟨(), s.length, rfl, 0, [H0.n], s1 _ _ _ _ h0, by simp, by simp, by simp [AH.get_alloc, place], Nat.zero_le _, fun j h => absurd h (Nat.not_lt_zero j), rfl⟩, ?_⟩
  · simp [AH.read1, hC _ _ _ h0]
  rintro _ H1 j ⟨m, W, hJ, hW, hlt, h1, h2, h3, rfl⟩
  refine ⟨s, place s m, h1, fun hk => ?_, fun hk => ?_⟩
  · obtain ⟨g1, g2⟩ := place_next hk
    have hJ' : J m W (H1.set H0.n (.iter s (place s m + (decodeL s (place s m)).2))) := s2 _ _ _ _ _ hW hJ
    have hm : m < n := by
      rcases Nat.lt_or_ge m n with h | h
      · exact h
      · exfalso
        rcases Nat.lt_or_ge n m with h' | h'
        · have := h3 n h'; have := hn.1; omega
        · obtain rfl : m = n := by omega
          have := hn.1; omega
    have hx : (((List.range n).map (signAt s)).map signAV)[m]? = some (signAV (signAt s m)) := by simp [hm]
    have hy := hstep none m W _ _ hx hJ' (fun c hc => by simpa using hlt c hc)
    -- after the round
    have after : ∀ v H3, ((H1.set H0.n (.iter s (place s m + (decodeL s (place s m)).2))).n ≤ H3.n ∧ (∀ c ∈ W, H3.get c = (H1.set H0.n (.iter s (place s m + (decodeL s (place s m)).2))).get c) ∧ ((v = .bool true ∧ J (m + 1) W H3) ∨ (v = .bool false ∧ D W H3))) →
        ∃ b1, v = AV.bool b1 ∧ bif !b1 then (∃ W, J (((List.range n).map (signAt s)).map signAV).length W H3 ∨ D W H3) else
          ∃ (x3 : PUnit), ∃ (k4 : Nat), k4 < s.length - place s m ∧ [AV.yld b, AV.ptr (some (p, (0 : Nat))), AV.ptr (some ((real Tryd.prog none).n H0, (0 : Nat)))] = [AV.yld b, AV.ptr (some (p, (0 : Nat))), AV.ptr (some ((real Tryd.prog none).n H0, (0 : Nat)))] ∧
            ∃ m W, J m W H3 ∧ H0.n ∈ W ∧ (∀ c ∈ W, c < H3.n) ∧ H3.get H0.n = some (.iter s (place s m)) ∧ place s m ≤ s.length ∧ (∀ j, j < m → place s j < s.length) ∧ k4 = s.length - place s m := by
      rintro v H3 ⟨k1, k2, ⟨rfl, k3⟩ | ⟨rfl, k3⟩⟩
      · refine ⟨true, rfl, (), s.length - place s (m + 1), by omega, rfl, m + 1, W, k3, hW, fun c hc => ?_, ?_, g2, fun j hj => ?_, rfl⟩
        · have := hlt c hc; have k1' : H1.n ≤ H3.n := k1; omega
        · rw [k2 _ hW, AH.get_set, if_pos rfl]; rfl
        · rcases Nat.lt_or_ge j m with h | h
          · exact h3 j h
          · obtain rfl : j = m := by omega
            exact hk
      · exact ⟨false, rfl, W, .inr k3⟩
    by_cases hr : (decodeL s (place s m)).1 = 65533
    · have e1 : (((decodeL s (place s m)).1 : Int) != 65533) = false := by rw [hr]; rfl
      rw [e1]
      have hz := decode_bad hr
      refine ⟨s, ?_, ⟨by omega, by omega, by omega⟩, ?_⟩
      · have := hC _ _ _ hJ'
        simp only [real_rd1, real_set, real_n, AH.read1, this]; rfl
      have e2 : List.take ((s.length : Int) - (place s m : Int)).toNat (List.drop (place s m : Int).toNat s) = s.drop (place s m) := by
        rw [List.take_of_length_le]; rfl
        rw [List.length_drop]; omega
      rw [e2]
      refine (HasPrefix_pure _ _).use1 ⟨_, rfl, ?_⟩
      have e3 : pre (s.drop (place s m)) [239, 191, 189] = isBad3 (s.drop (place s m)) := rfl
      rw [e3]
      cases hb3 : isBad3 (s.drop (place s m)) with
      | true =>
        rw [hb3] at hz
        have hz' : (decodeL s (place s m)).2 = 3 := hz
        have ea : signAV (signAt s m) = [AV.agg [AV.int IntKind.i64 (place s m : Int), AV.int IntKind.i64 3, AV.int IntKind.i32 ((decodeL s (place s m)).1 : Int), AV.bool (((decodeL s (place s m)).1 : Int) == 65533 && (3 : Int) == 1)]] := by
          simp only [signAV, signAt, hz']; rfl
        rw [ea] at hy
        exact ACfn.mono hy after
      | false =>
        rw [hb3] at hz
        have hz' : (decodeL s (place s m)).2 = 1 := hz
        have ea : signAV (signAt s m) = [AV.agg [AV.int IntKind.i64 (place s m : Int), AV.int IntKind.i64 1, AV.int IntKind.i32 ((decodeL s (place s m)).1 : Int), AV.bool (((decodeL s (place s m)).1 : Int) == 65533 && (1 : Int) == 1)]] := by
          simp only [signAV, signAt, hz']; rfl
        rw [ea] at hy
        exact ACfn.mono hy after
    · have e1 : (((decodeL s (place s m)).1 : Int) != 65533) = true := by rw [bne_iff_ne]; omega
      rw [e1]
      refine (runeLen_pure _).use1 ⟨_, rfl, ?_⟩
      rw [decode_len hr]
      exact ACfn.mono hy after
  · have : SignsN s m := ⟨by omega, h3⟩
    rw [this.uniq hn] at hJ
    exact ⟨W, .inl (by rw [hlen]; exact hJ)⟩

theorem Signs_call (s : List UInt8) (H : AH) {K : AV → AH → Prop} (h : K (.func (.func 77) [] [.ptr (some (H.n, 0))]) (H.alloc (.cells [.str s] 9 { whole := true }))) : ACallee Tryd.prog 54 [.str s] H K :=
  .inl ⟨goB_spec (by kernel_rfl), vcF_ok follows' (anns := []) (by rw [Signs_vc]; exact ⟨rfl, h⟩)⟩
end Go.Proofs.YtlkdhhkncoekgaaDoor
end

/- The first sign of a text. -/
section
namespace Go.Proofs.YtlkdhhkncoekgaaDoor
open Go.Am Go

theorem nG : (emptyH Tryd.prog).n = 3 := by kernel_rfl

/-- What the range of signOf keeps: the text's boxes; the result; no block of it is the iterator's. -/
def soInv (s r : List UInt8) (W : List Nat) (H : AH) : Prop :=
  H.get 3 = some (.cells [.str s] 9 { whole := true }) ∧ H.get (3 + 1) = some (.cells [.str r] 9 { whole := true }) ∧ H.get (3 + 2) = some (.cells [.str s] 9 { whole := true }) ∧ 3 + 4 < H.n ∧
  ∀ c, c < 3 + 3 → c ∉ W

theorem soInv.alloc {s r : List UInt8} {W : List Nat} {H : AH} (h : soInv s r W H) (o : AObj) : soInv s r (H.n :: W) (H.alloc o) := by
  obtain ⟨h1, h2, h3, h4, h5⟩ := h
  refine ⟨?_, ?_, ?_, ?_, fun c hc hm => ?_⟩
  · rw [AH.get_alloc, if_neg (by omega)]; exact h1
  · rw [AH.get_alloc, if_neg (by omega)]; exact h2
  · rw [AH.get_alloc, if_neg (by omega)]; exact h3
  · show 3 + 4 < H.n + 1; omega
  · rcases List.mem_cons.1 hm with rfl | hm
    · omega
    · exact h5 c hc hm
theorem soInv.set {s r : List UInt8} {W : List Nat} {H : AH} (h : soInv s r W H) {c : Nat} (hc : c ∈ W) (o : AObj) : soInv s r W (H.set c o) := by
  obtain ⟨h1, h2, h3, h4, h5⟩ := h
  have n : ∀ d, d < 3 + 3 → d ≠ c := fun d hd e => h5 d hd (e ▸ hc)
  refine ⟨?_, ?_, ?_, h4, h5⟩
  · rw [AH.get_set, if_neg (n _ (by omega))]; exact h1
  · rw [AH.get_set, if_neg (n _ (by omega))]; exact h2
  · rw [AH.get_set, if_neg (n _ (by omega))]; exact h3
theorem soInv.but {s r : List UInt8} {W : List Nat} {H H' : AH} (h : soInv s r W H) {b : Nat} (hb : 3 + 3 ≤ b) (k : But b H H') : soInv s r W H' := by
  obtain ⟨h1, h2, h3, h4, h5⟩ := h
  obtain ⟨k1, k2⟩ := k
  refine ⟨?_, ?_, ?_, by omega, h5⟩
  · rw [k2 _ (by omega)]; exact h1
  · rw [k2 _ (by omega)]; exact h2
  · rw [k2 _ (by omega)]; exact h3

theorem tm1 {m : Nat} {H : AH} (h : Dfr m H) : takeMarks [m] H = some (H.set m .dead) := by
  unfold takeMarks; rw [h]; rfl

theorem signOf_pure (s : List UInt8) : Pure Tryd.prog 29 [.str s] (.str (s.take (decodeL s 0).2)) := by
  obtain ⟨n, hn⟩ := SignsN.ex s
  refine PureR.of_vcG follows' [] [⟨2, AV, Int × Int × Int × Bool, 77, fun z => ([], [z]), fun x => [.agg [.int .i64 x.1, .int .i64 x.2.1, .int .i32 x.2.2.1, .bool x.2.2.2]],
    fun _ => (List.range n).map (signAt s), fun z H => z = .ptr (some (3 + 2, 0)) ∧ H.get (3 + 2) = some (.cells [.str s] 9 { whole := true }),
    fun _ i W H => i = 0 ∧ soInv s [] W H, [.ret], fun _ _ W H => soInv s (s.take (decodeL s 0).2) W H⟩] (by kernel_rfl) rfl (by rintro v rfl; rfl) ?_
  rw [signOf_vc]
  simp only [real_n, real_al, real_rd1, real_call, real_wr, real_tm]
  refine ⟨trivial, s, by simp [AH.read1, AH.get_alloc], ?_⟩
  refine Signs_call s _ ⟨_, rfl, _, rfl, ?_, ?_, fun _ => rfl, ?_, ?_, ?_, ?_⟩
  · intro b J D H0 hb s1 s2 s3 s4 hC
    exact signs1_iter s n hn _ b J D H0 hb s1 s2 s3 s4 fun i W H h => (hC i W H h).2
  · exact ⟨fun i W H o h => ⟨h.1, h.2.alloc o⟩, fun i W H c o hc h => ⟨h.1, h.2.set hc o⟩, fun e W H o h => h.alloc o, fun e W H c o hc h => h.set hc o, fun i W H h => ⟨rfl, h.2.2.2.1⟩⟩
  · rintro H2 ⟨h1, h2⟩
    simp only [AH.n_alloc, nG] at h1 h2
    refine ⟨trivial, ?_, ?_, ?_, by omega, fun c hc hm => ?_⟩
    · rw [h2 _ (by omega)]; simp [AH.get_alloc, nG]
    · rw [h2 _ (by omega)]; simp [AH.get_alloc, nG]
    · rw [h2 _ (by omega)]; simp [AH.get_alloc, nG]
    · simp only [AH.n_alloc, nG, List.mem_cons, List.mem_nil_iff, or_false] at hm; omega
  · rintro i W H1 x hx ⟨rfl, hI⟩ hW hin
    simp only [AH.n_alloc, nG] at hin ⊢
    have hx' : x = signAt s 0 ∧ s ≠ [] := by
      rw [List.getElem?_map] at hx
      obtain ⟨m, hm, rfl⟩ := Option.map_eq_some_iff.1 hx
      obtain ⟨h1, h2⟩ := List.getElem?_eq_some_iff.1 hm
      simp only [List.getElem_range] at h2
      subst h2
      refine ⟨rfl, fun e => ?_⟩
      have := hn.2 0 (by simpa using h1)
      rw [e] at this; simp at this
    obtain ⟨rfl, hne⟩ := hx'
    have hpos : 0 < s.length := List.length_pos_iff.2 hne
    obtain ⟨z1, z2⟩ := decodeL_size s 0 hpos
    have hbW := hW _ hin
    have hown : H1.n ∉ W := fun h => Nat.lt_irrefl _ (hW _ h)
    refine ⟨rfl, (H1.alloc (.cells [.int .i64 0, .int .i64 0, .int .i32 0, .bool false] 77 { whole := true })).set H1.n (.cells [.int .i64 (signAt s 0).1, .int .i64 (signAt s 0).2.1, .int .i32 (signAt s 0).2.2.1, .bool (signAt s 0).2.2.2] 77 { whole := true }),
      by simp [AH.write, AH.get_alloc, splice, AV.one], ⟨by simp, fun c hc => ?_⟩, ?_⟩
    · have : c ≠ H1.n := fun e => hown (e ▸ hc)
      rw [AH.get_set, if_neg this, AH.get_alloc, if_neg this]
    rintro H9 ⟨b1, b2⟩
    have hn9 : H9.n = H1.n + 1 := b1
    obtain ⟨i1, i2, i3, i4, i5⟩ := hI
    have old : ∀ c, c < 3 + 3 → H9.get c = H1.get c := fun c hc => by rw [b2 c (by omega), AH.get_set, if_neg (by omega), AH.get_alloc, if_neg (by omega)]
    have new : H9.get H1.n = some (.cells [.int .i64 (signAt s 0).1, .int .i64 (signAt s 0).2.1, .int .i32 (signAt s 0).2.2.1, .bool (signAt s 0).2.2.2] 77 { whole := true }) := by
      rw [b2 _ (by omega), AH.get_set, if_pos rfl]
    have e0 : ((signAt s 0).2.1 - 0).toNat = (decodeL s 0).2 := by simp [signAt, place]
    have e1 : (signAt s 0).2.1 = ((decodeL s 0).2 : Int) := rfl
    refine ⟨s, by simp only [AH.read1, old 3 (by omega), i1]; rfl, (signAt s 0).2.1, by simp only [AH.read1, new]; rfl, ⟨Int.le_refl 0, by rw [e1]; omega, by rw [e1]; omega⟩, rfl, ?_⟩
    rw [e0]
    refine ⟨H9.set (3 + 1) (.cells [.str (s.take (decodeL s 0).2)] 9 { whole := true }), by simp [AH.write, old (3 + 1) (by omega), i2, splice, AV.one], ⟨by simp only [AH.n_set]; omega, fun c hc => ?_⟩, ?_⟩
    · rw [AH.get_set, if_neg (fun e => i5 c (by omega) hc)]
    · intro H11 hb
      refine soInv.but (H := H9.set (3 + 1) (.cells [.str (s.take (decodeL s 0).2)] 9 { whole := true })) ⟨?_, ?_, ?_, ?_, i5⟩ (by omega) hb
      · rw [AH.get_set, if_neg (by omega), old _ (by omega)]; exact i1
      · rw [AH.get_set, if_pos rfl]
      · rw [AH.get_set, if_neg (by omega), old _ (by omega)]; exact i3
      · simp only [AH.n_set]; omega
  · rintro W H1 H2 ⟨h0, hI⟩ hb hd
    simp only [AH.n_alloc, nG] at hb hd ⊢
    have hs : s = [] := by
      have : n = 0 := by simpa using h0
      subst this
      have := hn.1
      exact List.length_eq_zero_iff.1 this.symm
    subst hs
    obtain ⟨i1, i2, i3, i4, i5⟩ := hI.but (by omega) hb
    refine ⟨trivial, H2.set (3 + 1) (.cells [.str []] 9 { whole := true }), by simp [AH.write, i2, splice, AV.one], (H2.set (3 + 1) (.cells [.str []] 9 { whole := true })).set (3 + 3) .dead, ?_, [], ?_, rfl⟩
    · refine tm1 ?_
      unfold Dfr at hd ⊢
      rw [AH.get_set, if_neg (by omega)]; exact hd
    · simp [AH.read1, AH.get_set]
  · rintro W H1 H2 hI hb hd
    simp only [AH.n_alloc, nG] at hb hd ⊢
    obtain ⟨i1, i2, i3, i4, i5⟩ := hI.but (by omega) hb
    refine ⟨H2.set (3 + 3) .dead, tm1 hd, s.take (decodeL s 0).2, ?_, rfl⟩
    simp [AH.read1, AH.get_set, i2]
end Go.Proofs.YtlkdhhkncoekgaaDoor
end

/- Looks that all are none make no span. -/
section
namespace Go.Proofs.YtlkdhhkncoekgaaDoor
open Go.Am Go

/-- The look of a sign without any kind, as cells; so many of them. -/
def z1 : List AV := [.bool false, .bool false, .bool false, .bool false, .int .i64 0]
def zc : Nat → List AV
  | 0 => []
  | n + 1 => z1 ++ zc n

theorem zc_length : ∀ n, (zc n).length = n * 5
  | 0 => rfl
  | n + 1 => by simp only [zc, List.length_append, zc_length n]; simp only [z1, List.length_cons, List.length_nil]; omega
theorem zc_at : ∀ {n i : Nat}, i < n → ((zc n).drop (i * 5)).take 5 = z1
  | n + 1, 0, _ => by simp [zc, z1]
  | n + 1, i + 1, h => by
    have e : (i + 1) * 5 = 5 + i * 5 := by omega
    rw [e, ← List.drop_drop]
    have : (zc (n + 1)).drop 5 = zc n := by simp [zc, z1]
    rw [this]
    exact zc_at (by omega)
theorem read_zc {H : AH} {b n i : Nat} {e : TypeId} {fl : Fl} (h : H.get b = some (.cells (zc n) e fl)) (hi : i < n) : H.read b (0 + i * 5) 5 = some z1 := by
  unfold AH.read
  rw [h]
  have : 0 + i * 5 + 5 ≤ (zc n).length := by rw [zc_length]; omega
  simp only [Nat.zero_add] at this ⊢
  rw [if_pos this, zc_at hi]

theorem value_zero (n : Int) : Pure Tryd.prog 110 [.agg z1, .int .i64 n] (.int .i64 0) := by
  refine Pure.of_vc follows' [] (by kernel_rfl) rfl rfl ?_
  show vcF _ _ _ _ [.agg [.bool false, .bool false, .bool false, .bool false, .int .i64 0], .int .i64 n] _ _
  rw [value_vc]
  by_cases h5 : n = 5 <;> simp [AH.read1, AH.get_alloc, h5]

theorem sort_run : (runCallF Tryd.prog ext 300 99 [.slice none 0 0, .func (.func 111) [] []] (emptyH Tryd.prog)).map (·.1) = some (.tuple []) := by kernel_rfl
theorem sort_pure : Pure Tryd.prog 99 [.slice none 0 0, .func (.func 111) [] []] (.tuple []) :=
  PureR.of_call (ACall.of_run follows' ext_ok (by kernel_rfl) sort_run) (by kernel_rfl) rfl (by rintro v rfl; rfl)

theorem makeBools (H : AH) (k : Nat) (hk : k ≤ 5000) : makeSliceV Tryd.prog H 129 (.int .i64 k) (.int .i64 k) = some (.slice (some (H.n, 0)) k k, H.alloc (.cells (repCells [.bool false] k) 4 {})) := by
  unfold makeSliceV
  have t1 : Tryd.prog.underlying 129 = some (.slice 4) := by kernel_rfl
  have t2 : szOf Tryd.prog 4 = some 1 := by kernel_rfl
  have t3 : byOf Tryd.prog 4 = some 1 := by kernel_rfl
  have t4 : zeroOf Tryd.prog 4 = some (.bool false) := by kernel_rfl
  simp only [t1, t2, t3, t4]
  rw [if_pos]
  · simp [AV.cells]
  · refine ⟨by omega, by omega, ?_, ?_, rfl, by decide, rfl⟩ <;> omega
theorem bool_at {n i : Nat} (h : i < n) : (repCells [.bool false] n)[i]? = some (.bool false) := by
  induction n generalizing i with
  | zero => omega
  | succ n ih =>
    cases i with
    | zero => simp [repCells]
    | succ i => simp only [repCells, List.singleton_append, List.getElem?_cons_succ]; exact ih (by omega)

/-- A heap of looks that are to be read alone. -/
noncomputable def zH (n : Nat) : AH := (emptyH Tryd.prog).alloc (.cells (zc n) 53 { own := false, opn := true })

theorem made_zero (n : Nat) (h0 : 0 < n) (hn : n ≤ 4096) : ACall Tryd.prog 93 [.slice (some (3, 0)) n n] (zH n) fun v _ => v = .slice none 0 0 := by
  -- what every loop keeps
  obtain ⟨Z, hZ⟩ : ∃ Z : AH → Prop, Z = fun H => H.get 3 = some (.cells (zc n) 53 { own := false, opn := true }) ∧ H.get (3 + 1) = some (.cells (repCells [.bool false] (n + 1)) 4 {}) := ⟨_, rfl⟩
  refine vcG_ok (rans := []) (anns := [⟨4, Int × (Option (Nat × Nat) × Nat) × (Option (Nat × Nat) × Nat), [0, 3, 4, 5], fun x => [.slice (some (3, 0)) n n, .slice x.2.1.1 x.2.1.2 x.2.1.2, .slice x.2.2.1 x.2.2.2 x.2.2.2, .int .i64 x.1], fun _ _ _ => True⟩,
    ⟨8, (Int × (Option (Nat × Nat) × Nat) × (Option (Nat × Nat) × Nat)) × Int × Int, [0, 3, 4, 5, 6, 7], fun x => [.slice (some (3, 0)) n n, .slice x.1.2.1.1 x.1.2.1.2 x.1.2.1.2, .slice x.1.2.2.1 x.1.2.2.2 x.1.2.2.2, .int .i64 x.1.1, .int .i64 x.2.1, .int .i64 x.2.2], fun _ _ _ => True⟩,
    ⟨11, ((Int × (Option (Nat × Nat) × Nat) × (Option (Nat × Nat) × Nat)) × Int × Int) × Int × Int, [0, 3, 4, 5, 6, 7, 8, 9], fun x => [.slice (some (3, 0)) n n, .slice x.1.1.2.1.1 x.1.1.2.1.2 x.1.1.2.1.2, .slice x.1.1.2.2.1 x.1.1.2.2.2 x.1.1.2.2.2, .int .i64 x.1.1.1, .int .i64 x.1.2.1, .int .i64 x.1.2.2, .int .i64 x.2.1, .int .i64 x.2.2], fun _ _ _ => True⟩,
    ⟨20, (Int × (Option (Nat × Nat) × Nat) × (Option (Nat × Nat) × Nat)) × (Option (Nat × Nat) × Nat × Nat) × Int × Int, [0, 3, 4, 5, 76, 77, 78], fun x => [.slice (some (3, 0)) n n, .slice x.1.2.1.1 x.1.2.1.2 x.1.2.1.2, .slice x.1.2.2.1 x.1.2.2.2 x.1.2.2.2, .int .i64 x.1.1, .slice x.2.1.1 x.2.1.2.1 x.2.1.2.2, .int .i64 x.2.2.1, .int .i64 x.2.2.2], fun _ _ _ => True⟩]) follows' ?_
  rw [made_vc]
  simp only [real_n, real_al, real_rd1, real_rdn, real_call, real_wr, real_mks, real_wrap, real_slc, real_app]
  rw [wrap_i64 (by omega) (by omega)]
  have e1 : ((n : Int) + 1) = ((n + 1 : Nat) : Int) := by omega
  have rd : ∀ {H : AH} {i : Int}, Z H → 0 ≤ i → i < n → H.read 3 (0 + i.toNat * 5) 5 = some [.bool false, .bool false, .bool false, .bool false, .int .i64 0] := by
    intro H i hz h1 h2
    rw [hZ] at hz
    exact read_zc hz.1 (by omega)
  refine ⟨_, _, _, _, by rw [e1]; exact makeBools _ (n + 1) (by omega), ?_⟩
  refine ⟨fun x H j => Z H ∧ ∃ kd : Int, x = (kd, (some (3 + 1, 0), n + 1), (none, 0)) ∧ 1 ≤ kd ∧ kd ≤ 6 ∧ j = (6 - kd).toNat, ⟨(1, (some (3 + 1, 0), n + 1), (none, 0)), 5, by simp [zH, nG], ?_, 1, rfl, Int.le_refl 1, by decide, rfl⟩, ?_⟩
  · rw [hZ]; constructor
    · simp [zH, AH.get_alloc, nG]
    · simp [zH, AH.get_alloc, nG]
  rintro _ H j ⟨hz, kd, rfl, k1, k2, rfl⟩
  by_cases hk : kd ≤ 5
  · simp only [hk, decide_true, cond_true]
    refine ⟨fun x H j => Z H ∧ ∃ i : Int, x = ((kd, (some (3 + 1, 0), n + 1), (none, 0)), 0, i) ∧ 0 ≤ i ∧ i ≤ n ∧ j = (n - i).toNat, ⟨((kd, (some (3 + 1, 0), n + 1), (none, 0)), 0, 0), n, rfl, hz, 0, rfl, Int.le_refl 0, by omega, by omega⟩, ?_⟩
    rintro _ H2 j2 ⟨hz2, i, rfl, a1, a2, rfl⟩
    by_cases hi : i < n
    · simp only [hi, decide_true, cond_true]
      refine ⟨3, 0, ⟨rfl, a1, trivial⟩, false, false, false, false, 0, rd hz2 a1 hi, ?_⟩
      refine (value_zero kd).use1 ⟨0, rfl, ?_⟩
      rw [wrap_i64 (by omega) (by omega)]
      refine ⟨fun x H j => Z H ∧ ∃ jj : Int, x = (((kd, (some (3 + 1, 0), n + 1), (none, 0)), 0, i), 0, jj) ∧ i < jj ∧ jj ≤ n ∧ j = (n - jj).toNat, ⟨(((kd, (some (3 + 1, 0), n + 1), (none, 0)), 0, i), 0, i + 1), (n - (i + 1)).toNat, rfl, hz2, i + 1, rfl, by omega, by omega, rfl⟩, ?_⟩
      rintro _ H3 j3 ⟨hz3, jj, rfl, c1, c2, rfl⟩
      by_cases hj : jj < n
      · simp only [hj, decide_true, BEq.rfl, cond_true]
        refine ⟨3, 0, fun _ => ⟨rfl, by omega, trivial⟩, false, false, false, false, 0, fun _ => rd hz3 (by omega) hj, ?_⟩
        refine (value_zero kd).use1 ⟨0, rfl, 3 + 1, 0, fun _ => ⟨rfl, by omega, by omega⟩, false, fun _ => ?_, ?_⟩
        · rw [hZ] at hz3
          simp only [AH.read1, hz3.2]
          have := bool_at (n := n + 1) (i := jj.toNat) (by omega)
          simpa using this
        · refine ⟨(((kd, (some (3 + 1, 0), n + 1), (none, 0)), 0, i), 0, jj + 1), (n - (jj + 1)).toNat, by omega, ?_, hz3, jj + 1, rfl, by omega, by omega, rfl⟩
          rw [wrap_i64 (by omega) (by omega)]
      · simp only [hj, decide_false]
        refine ⟨0, 0, fun h => absurd h (by decide), false, false, false, false, 0, fun h => absurd h (by decide), ?_⟩
        refine ⟨0, 0, fun h => absurd h (by decide), false, fun h => absurd h (by decide), ?_⟩
        exact ⟨((kd, (some (3 + 1, 0), n + 1), (none, 0)), 0, jj), (n - jj).toNat, by omega, rfl, hz3, jj, rfl, by omega, c2, rfl⟩
    · simp only [hi, decide_false, cond_false]
      refine ⟨none, 0, 0, ?_, fun x H _ => Z H ∧ x = ((kd, (some (3 + 1, 0), n + 1), (none, 0)), (none, 0, 0), 0, 0), ⟨((kd, (some (3 + 1, 0), n + 1), (none, 0)), (none, 0, 0), 0, 0), 0, rfl, hz2, rfl⟩, ?_⟩
      · unfold sliceV
        have t1 : Tryd.prog.underlying 24 = some (.slice 41) := by kernel_rfl
        have t2 : szOf Tryd.prog 41 = some 4 := by kernel_rfl
        simp [t1, t2, idxV]
      rintro _ H4 j4 ⟨hz4, rfl⟩
      refine ⟨(kd + 1, (some (3 + 1, 0), n + 1), (none, 0)), (6 - (kd + 1)).toNat, by omega, ?_, hz4, kd + 1, rfl, by omega, by omega, rfl⟩
      have e2 := wrap_i64 (n := kd + 1) (by omega) (by omega)
      simp only [e2]
  · simp only [hk, decide_false, cond_false]
    exact sort_pure.use1 trivial
end Go.Proofs.YtlkdhhkncoekgaaDoor
end

/- A text of one run without any look: no span. -/
section
namespace Go.Proofs.YtlkdhhkncoekgaaDoor
open Go.Am Go

theorem z1_scal : AV.scals z1 = true := by decide
theorem scals_append : ∀ (a b : List AV), AV.scals (a ++ b) = (AV.scals a && AV.scals b)
  | [], b => by simp [AV.scals]
  | x :: a, b => by simp only [List.cons_append, AV.scals, scals_append a b, Bool.and_assoc]
theorem zc_scal : ∀ n, AV.scals (zc n) = true
  | 0 => by simp [zc, AV.scals]
  | n + 1 => by rw [zc, scals_append, z1_scal, zc_scal n]; rfl
theorem zc_snoc : ∀ n, zc n ++ z1 = zc (n + 1)
  | 0 => by simp [zc]
  | n + 1 => by
    have h := zc_snoc n
    calc zc (n + 1) ++ z1 = z1 ++ (zc n ++ z1) := by simp only [zc, List.append_assoc]
      _ = z1 ++ zc (n + 1) := by rw [h]
      _ = zc (n + 1 + 1) := rfl

theorem gs : Tryd.prog.globals.size = 3 := nG

theorem made_ro (n : Nat) (h0 : 0 < n) (hn : n ≤ 4096) {H : AH} {b : Nat} {fl : Fl} (hb : H.get b = some (.cells (zc n) 53 fl)) :
    ACallee Tryd.prog 93 [.slice (some (b, 0)) n n] H fun v H' => v = .slice none 0 0 ∧ H' = H :=
  ACall.ro (made_zero n h0 hn) (by kernel_rfl) (by rintro v rfl; rfl) _ (by simp [AV.rens, AV.ren]) (Shows.one (zc_scal n) hb)

theorem text_zero (s : List UInt8) (n : Nat) (h0 : 0 < n) (hn : n ≤ 4096) : ACall Tryd.prog 79 [.str s, .slice (some (3, 0)) n n] (zH n) fun v _ => v = .tuple [.agg [.str s, .slice none 0 0], .int .i64 0] := by
  refine vcF_ok (anns := []) follows' ?_
  rw [text_vc]
  refine (made_ro n h0 hn (fl := { own := false, opn := true }) ?_).mono ?_
  · simp [zH, AH.get_alloc, nG]
  rintro v H' ⟨rfl, rfl⟩
  refine ⟨none, 0, 0, rfl, ?_⟩
  simp [zH, AH.write, AH.read, AH.get_alloc, AH.get_set, nG, splice, AV.one]
  exact ⟨s, none, 0, 0, ⟨rfl, rfl, rfl, rfl⟩, rfl, rfl, rfl, rfl⟩
theorem text_ro (s : List UInt8) (n : Nat) (h0 : 0 < n) (hn : n ≤ 4096) {H : AH} {b : Nat} {fl : Fl} (hb : H.get b = some (.cells (zc n) 53 fl)) :
    ACallee Tryd.prog 79 [.str s, .slice (some (b, 0)) n n] H fun v H' => v = .tuple [.agg [.str s, .slice none 0 0], .int .i64 0] ∧ H' = H :=
  ACall.ro (text_zero s n h0 hn) (by kernel_rfl) (by rintro v rfl; rfl) _ (by simp [AV.rens, AV.ren]) (Shows.one (zc_scal n) hb)

/-- A run over all signs, without any look. -/
def run1 (n : Nat) : List AV := [.int .i64 0, .int .i64 n] ++ z1
noncomputable def rH (n : Nat) : AH := (emptyH Tryd.prog).alloc (.cells (run1 n) 109 { own := false, opn := true })

theorem append_attr {H : AH} {q : Option Nat} {m c : Nat} {fl : Fl} (hl : Lies H q m (zc m) 53) (hc : H.get c = some (.cells z1 53 fl)) (hm : m ≤ 4096) :
    ∃ H', appendV Tryd.prog H 50 50 (sl q m) (.slice (some (c, 0)) 1 1) = some (sl (some H.n) (m + 1), H') ∧ H'.n = H.n + 1 ∧ Lies H' (some H.n) (m + 1) (zc (m + 1)) 53 ∧ ∀ c, c < H.n → q ≠ some c → H'.get c = H.get c := by
  have h := append_lies (P := Tryd.prog) (H := H) (st := 50) (xt := 50) (e := 53) (xd := .slice 53) (s := 5) (by_ := 16) (m := m) (n := 1) (q := q) (old := zc m) (new := z1) (y := .slice (some (c, 0)) 1 1) (z := .agg z1)
    (by kernel_rfl) (by kernel_rfl) (fun k h => by cases h) (by kernel_rfl) (by kernel_rfl) (by kernel_rfl) rfl (by decide) (by simp [srcV, AH.read, hc, z1]) (by decide) (by decide) hl (zc_length m) (by omega)
  rw [zc_snoc] at h
  exact h

theorem Make_run (s : List UInt8) (n : Nat) (hs : SignsN s n) (h0 : 0 < n) (hl : s.length ≤ 4096) : ACall Tryd.prog 55 [.str s, .slice (some (3, 0)) 1 1] (rH n) fun v _ => v = .tuple [.agg [.str s, .slice none 0 0], .int .i64 0] := by
  have hn : n ≤ 4096 := by have := place_ge hs.2; have := hs.1; omega
  have hrn : (rH n).n = 3 + 1 := by show (emptyH Tryd.prog).n + 1 = _; rw [nG]
  refine vcG_ok (rans := []) (anns := [⟨6, Int × Int × Option (Nat × Nat) × Nat, [0, 4, 5, 6, 7, 16, 17, 18], fun x => [.str s, .ptr (some ((real Tryd.prog none).n (rH n), 0)), .int .i64 0, .slice x.2.2.1 x.2.2.2 x.2.2.2, .int .i64 x.2.1, .slice (some (3, 0)) 1 1, .int .i64 (1 : Nat), .int .i64 x.1], fun _ _ _ => True⟩,
    ⟨11, Int × Int × (Option (Nat × Nat) × Nat) × Nat × Int × Int, [0, 4, 5, 6, 7, 9, 16, 17, 18, 57, 58], fun x => [.str s, .ptr (some ((real Tryd.prog none).n (rH n), 0)), .int .i64 0, .slice x.2.2.1.1 x.2.2.1.2 x.2.2.1.2, .int .i64 x.2.1, .ptr (some (x.2.2.2.1, 0)), .slice (some (3, 0)) 1 1, .int .i64 (1 : Nat), .int .i64 x.1, .int .i64 x.2.2.2.2.1, .int .i64 x.2.2.2.2.2], fun _ _ _ => True⟩]) follows' ?_
  rw [Make_vc]
  simp only [real_n, real_al, real_rd1, real_rdn, real_call, real_wr, real_wrap, real_app]
  have hl' : ¬ ((s.length : Int) > 4096) := by omega
  simp only [hl', decide_false, cond_false, hrn]
  refine (Count_pure s n hs (by omega)).use1 ⟨n, rfl, ?_⟩
  -- what both loops keep: the run, the result
  obtain ⟨Z, hZ⟩ : ∃ Z : AH → Prop, Z = fun H => H.get 3 = some (.cells (run1 n) 109 { own := false, opn := true }) ∧ H.get (3 + 1) = some (.cells [.str [], .slice none 0 0] 26 { whole := true }) ∧ 3 + 1 < H.n := ⟨_, rfl⟩
  refine ⟨fun x H j => Z H ∧ ((x = (0, (n : Int), none, 0) ∧ j = 1) ∨ ∃ b, x = (1, (n : Int), some (b, 0), n) ∧ Lies H (some b) n (zc n) 53 ∧ j = 0), ⟨(0, (n : Int), none, 0), 1, rfl, ?_, .inl ⟨rfl, rfl⟩⟩, ?_⟩
  · rw [hZ]; refine ⟨?_, ?_, ?_⟩
    · simp [rH, AH.get_alloc, nG]
    · rw [AH.get_alloc, if_pos hrn.symm]
    · simp [hrn]
  rintro _ H1 j1 ⟨hz, ⟨rfl, rfl⟩ | ⟨b, rfl, hb, rfl⟩⟩
  · have hz' := hz
    rw [hZ] at hz'
    obtain ⟨y1, y2, y3⟩ := hz'
    show bif decide ((0 : Int) < (1 : Nat)) then _ else _
    have hlt : decide ((0 : Int) < ((1 : Nat) : Int)) = true := by decide
    rw [hlt]
    refine ⟨3, 0, ⟨rfl, Int.le_refl 0, Int.zero_lt_one⟩, 0, n, false, false, false, false, 0, ?_, rfl, (H1.alloc (.cells [.int .i64 0, .int .i64 0, .bool false, .bool false, .bool false, .bool false, .int .i64 0] 109 { whole := true })).set H1.n (.cells (run1 n) 109 { whole := true }), ?_, ?_⟩
    · simp [AH.read, y1, run1, z1]
    · simp [AH.write, AH.get_alloc, splice, AV.one, run1, z1]
    have r : ∀ i, ((H1.alloc (.cells [.int .i64 0, .int .i64 0, .bool false, .bool false, .bool false, .bool false, .int .i64 0] 109 { whole := true })).set H1.n (.cells (run1 n) 109 { whole := true })).read1 H1.n i = (run1 n)[i]? := fun i => by simp [AH.read1, AH.get_set]
    simp only [r]
    refine ⟨0, rfl, n, rfl, 0, rfl, n, rfl, 0, rfl, 0, rfl, ?_⟩
    have c1 : ((0 : Int) != ((0 : Nat) : Int) || decide ((n : Int) ≤ 0) || decide ((n : Int) > (n : Int)) || decide ((0 : Int) < 0) || decide ((0 : Int) > 16777216)) = false := by
      have : decide ((n : Int) ≤ 0) = false := by rw [decide_eq_false_iff_not]; omega
      rw [this]; simp
    simp only [c1, cond_false]
    refine ⟨n, rfl, 0, rfl, ?_⟩
    have c2 : IntKind.i64.wrap ((n : Int) - 0) = n := by rw [wrap_i64 (by omega) (by omega)]; omega
    rw [c2]
    refine ⟨fun x H j => Z H ∧ ∃ (m : Nat) (q : Option Nat), x = (0, (n : Int), (q.map (fun b => (b, 0)), m), H1.n, (n : Int), (m : Int)) ∧ m ≤ n ∧ Lies H q m (zc m) 53 ∧ H.get H1.n = some (.cells (run1 n) 109 { whole := true }) ∧ H1.n < H.n ∧
        (∀ b, q = some b → H1.n < b ∧ b < H.n) ∧ j = n - m, ⟨(0, (n : Int), (none, 0), H1.n, (n : Int), 0), n, rfl, ?_, 0, none, rfl, Nat.zero_le _, ⟨rfl, rfl⟩, ?_, ?_, ?_, rfl⟩, ?_⟩
    · rw [hZ]; refine ⟨?_, ?_, ?_⟩
      · rw [AH.get_set, if_neg (by omega), AH.get_alloc, if_neg (by omega)]; exact y1
      · rw [AH.get_set, if_neg (by omega), AH.get_alloc, if_neg (by omega)]; exact y2
      · simp only [AH.n_set, AH.n_alloc]; omega
    · rw [AH.get_set, if_pos rfl]
    · simp
    · intro b h; cases h
    rintro _ H2 j2 ⟨hz2, m, q, rfl, hm, hL, hr, hlt2, hq, rfl⟩
    rw [hZ] at hz2
    obtain ⟨w1, w2, w3⟩ := hz2
    by_cases hmn : (m : Int) < n
    · simp only [hmn, decide_true, cond_true]
      obtain ⟨H3, g1, g2, g3, g4⟩ := append_attr (H := H2.alloc (.cells z1 53 { whole := true })) (q := q) (m := m) (c := H2.n) (fl := { whole := true }) (hL.same fun b hb => by rw [AH.get_alloc, if_neg (by have := hq b hb; omega)]) (by rw [AH.get_alloc, if_pos rfl]) (by omega)
      refine ⟨false, false, false, false, 0, by simp [AH.read, hr, run1, z1], by decide, some (H2.n + 1, 0), m + 1, m + 1, H3, g1, (0, (n : Int), (some (H2.n + 1, 0), m + 1), H1.n, (n : Int), ((m + 1 : Nat) : Int)), n - (m + 1), by omega, ?_, ?_, m + 1, some (H2.n + 1), rfl, by omega, g3, ?_, ?_, ?_, rfl⟩
      · rw [wrap_i64 (by omega) (by omega)]; rfl
      · rw [hZ]
        have k : ∀ c, c ≤ H1.n → H3.get c = H2.get c := fun c hc => by
          rw [g4 c (by simp only [AH.n_alloc]; omega) (fun e => by have := hq c e; omega), AH.get_alloc, if_neg (by omega)]
        exact ⟨by rw [k _ (by omega)]; exact w1, by rw [k _ (by omega)]; exact w2, by rw [g2]; simp only [AH.n_alloc]; omega⟩
      · rw [g4 _ (by simp only [AH.n_alloc]; omega) (fun e => by have := hq _ e; omega), AH.get_alloc, if_neg (by omega)]; exact hr
      · rw [g2]; simp only [AH.n_alloc]; omega
      · intro b hb; cases hb; rw [g2]; simp only [AH.n_alloc]; omega
    · simp only [hmn, decide_false, cond_false]
      obtain rfl : m = n := by omega
      cases q with
      | none => obtain ⟨h, _⟩ := hL; omega
      | some b =>
        refine ⟨(1, (m : Int), some (b, 0), m), 0, by omega, ?_, ?_, .inr ⟨b, rfl, hL, rfl⟩⟩
        · rw [wrap_i64 (by omega) (by omega)]; rfl
        · rw [hZ]; exact ⟨w1, w2, w3⟩
  · show bif decide ((1 : Int) < (1 : Nat)) then _ else _
    have hlt : decide ((1 : Int) < ((1 : Nat) : Int)) = false := by decide
    rw [hlt]
    have hne : ((n : Int) != (n : Int)) = false := by simp
    simp only [hne, cond_false]
    refine (text_ro s n h0 hn hb).mono ?_
    rintro v H' ⟨rfl, rfl⟩
    rw [hZ] at hz
    refine ⟨s, none, 0, 0, 0, rfl, rfl, H'.set (3 + 1) (.cells [.str s, .slice none 0 0] 26 { whole := true }), ?_, s, none, 0, 0, ?_, rfl⟩
    · simp [AH.write, hz.2.1, splice, AV.one]
    · simp [AH.read, AH.get_set]
end Go.Proofs.YtlkdhhkncoekgaaDoor
end

/- Pieces without looks, laid together. -/
section
namespace Go.Proofs.YtlkdhhkncoekgaaDoor
open Go.Am Go

/-- Pieces without looks, as cells. -/
def pcs : List (List UInt8) → List AV
  | [] => []
  | p :: ps => (.str p :: z1) ++ pcs ps

theorem pcs_length : ∀ ps, (pcs ps).length = ps.length * 6
  | [] => rfl
  | p :: ps => by simp only [pcs, List.length_append, pcs_length ps]; simp only [z1, List.length_cons, List.length_nil]; omega
theorem pcs_at : ∀ {ps : List (List UInt8)} {i : Nat} (h : i < ps.length), ((pcs ps).drop (i * 6)).take 6 = .str ps[i] :: z1
  | p :: ps, 0, _ => by simp [pcs, z1]
  | p :: ps, i + 1, h => by
    have e : (i + 1) * 6 = 6 + i * 6 := by omega
    rw [e, ← List.drop_drop]
    have : (pcs (p :: ps)).drop 6 = pcs ps := by simp [pcs, z1]
    rw [this]
    exact pcs_at (by simpa using h)
theorem read_pcs {H : AH} {b i : Nat} {ps : List (List UInt8)} {e : TypeId} {fl : Fl} (h : H.get b = some (.cells (pcs ps) e fl)) (hi : i < ps.length) : H.read b (0 + i * 6) 6 = some (.str ps[i] :: z1) := by
  unfold AH.read
  rw [h]
  have : 0 + i * 6 + 6 ≤ (pcs ps).length := by rw [pcs_length]; omega
  simp only [Nat.zero_add] at this ⊢
  rw [if_pos this, pcs_at hi]
theorem pcs_scal : ∀ ps, AV.scals (pcs ps) = true
  | [] => by simp [pcs, AV.scals]
  | p :: ps => by rw [pcs, scals_append, pcs_scal ps]; simp [AV.scals, AV.scal, z1]
theorem pcs_snoc : ∀ (ps : List (List UInt8)) (p : List UInt8), pcs ps ++ (.str p :: z1) = pcs (ps ++ [p])
  | [], p => by simp [pcs]
  | q :: ps, p => by simp only [List.cons_append, pcs, List.append_assoc, ← pcs_snoc ps p]

theorem bytes_back : ∀ s : List UInt8, bytesOfCells (byteCellsA s) = some s
  | [] => rfl
  | b :: s => by
    have h := bytes_back s
    simp only [byteCellsA, List.map_cons] at h ⊢
    simp [bytesOfCells, h]

theorem append_str {H : AH} {q : Option Nat} {so s : List UInt8} (hl : Lies H q so.length (byteCellsA so) 5) (h0 : s ≠ []) (hm : so.length + s.length ≤ 8192) :
    ∃ H', appendV Tryd.prog H 39 9 (sl q so.length) (.str s) = some (sl (some H.n) (so ++ s).length, H') ∧ H'.n = H.n + 1 ∧ Lies H' (some H.n) (so ++ s).length (byteCellsA (so ++ s)) 5 ∧ ∀ c, c < H.n → q ≠ some c → H'.get c = H.get c := by
  have h := append_lies (P := Tryd.prog) (H := H) (st := 39) (xt := 9) (e := 5) (xd := .string) (s := 1) (by_ := 1) (m := so.length) (n := s.length) (q := q) (old := byteCellsA so) (new := byteCellsA s) (y := .str s) (z := .int .u8 0)
    (by kernel_rfl) (by kernel_rfl) (fun k h => by cases h) (by kernel_rfl) (by kernel_rfl) (by kernel_rfl) rfl (by decide) rfl (by simp [byteCellsA, AV.one]) (List.length_pos_iff.2 h0) hl (by simp [byteCellsA]) (by omega)
  rw [← List.length_append] at h
  have e : byteCellsA so ++ byteCellsA s = byteCellsA (so ++ s) := by simp [byteCellsA]
  rw [e] at h
  exact h

theorem run1_scal (n : Nat) : AV.scals (run1 n) = true := by simp [run1, z1, AV.scals, AV.scal]
theorem Make_ro (s : List UInt8) (n : Nat) (hs : SignsN s n) (h0 : 0 < n) (hl : s.length ≤ 4096) {H : AH} {b : Nat} {fl : Fl} (hb : H.get b = some (.cells (run1 n) 109 fl)) :
    ACallee Tryd.prog 55 [.str s, .slice (some (b, 0)) 1 1] H fun v H' => v = .tuple [.agg [.str s, .slice none 0 0], .int .i64 0] ∧ H' = H :=
  ACall.ro (Make_run s n hs h0 hl) (by kernel_rfl) (by rintro v rfl; rfl) _ (by simp [AV.rens, AV.ren]) (Shows.one (run1_scal n) hb)

noncomputable def pH (ps : List (List UInt8)) : AH := (emptyH Tryd.prog).alloc (.cells (pcs ps) 79 { own := false, opn := true })

theorem append_run {H : AH} {c : Nat} {fl : Fl} (hc : H.get c = some (.cells (run1 1) 109 fl)) :
    ∃ H', appendV Tryd.prog H 107 107 (sl none 0) (.slice (some (c, 0)) 1 1) = some (sl (some H.n) 1, H') ∧ H'.n = H.n + 1 ∧ Lies H' (some H.n) 1 (run1 1) 109 ∧ ∀ c, c < H.n → H'.get c = H.get c := by
  obtain ⟨H', h1, h2, h3, h4⟩ := append_lies (P := Tryd.prog) (H := H) (st := 107) (xt := 107) (e := 109) (xd := .slice 109) (s := 7) (by_ := 32) (m := 0) (n := 1) (q := none) (old := []) (new := run1 1) (y := .slice (some (c, 0)) 1 1) (z := .agg (run1 0))
    (by kernel_rfl) (by kernel_rfl) (fun k h => by cases h) (by kernel_rfl) (by kernel_rfl) (by kernel_rfl) rfl (by decide) (by simp [srcV, AH.read, hc, run1, z1]) (by decide) (by decide) ⟨rfl, rfl⟩ rfl (by decide)
  exact ⟨H', h1, h2, h3, fun c hc => h4 c hc (fun e => by cases e)⟩

theorem laid_run (ps : List (List UInt8)) (h0 : 0 < ps.length) (hne : ∀ p ∈ ps, p ≠ []) (hl : ps.flatten.length ≤ 4096) (hs : SignsN ps.flatten ps.length) :
    ACall Tryd.prog 30 [.slice (some (3, 0)) ps.length ps.length] (pH ps) fun v _ => v = .tuple [.agg [.str ps.flatten, .slice none 0 0], .int .i64 0] := by
  have hk : ps.length ≤ 4096 := by have := place_ge hs.2; have := hs.1; omega
  have hrn : (pH ps).n = 3 + 1 := by show (emptyH Tryd.prog).n + 1 = _; rw [nG]
  obtain ⟨Z, hZ⟩ : ∃ Z : AH → Prop, Z = fun H => H.get 3 = some (.cells (pcs ps) 79 { own := false, opn := true }) ∧ H.get (3 + 1) = some (.cells [.str [], .slice none 0 0] 26 { whole := true }) ∧ 3 + 1 < H.n := ⟨_, rfl⟩
  obtain ⟨I1, hI1⟩ : ∃ I1 : Int × Option (Nat × Nat) × Nat → AH → Nat → Prop, I1 = fun x H j => Z H ∧ ∃ (i : Nat) (q : Option Nat), x = ((i : Int), q.map (fun b => (b, 0)), (ps.take i).flatten.length) ∧ i ≤ ps.length ∧
      Lies H q (ps.take i).flatten.length (byteCellsA (ps.take i).flatten) 5 ∧ (∀ b, q = some b → 3 + 1 < b ∧ b < H.n) ∧ j = ps.length - i := ⟨_, rfl⟩
  obtain ⟨I2, hI2⟩ : ∃ I2 : Int × (Option (Nat × Nat) × Nat) × (Option (Nat × Nat) × Nat) → AH → Nat → Prop, I2 = fun x H j => Z H ∧ ∃ (i : Nat) (q q7 : Option Nat), x = ((i : Int), (q.map (fun b => (b, 0)), ps.flatten.length), (q7.map (fun b => (b, 0)), if i = 0 then 0 else 1)) ∧ i ≤ ps.length ∧
      Lies H q ps.flatten.length (byteCellsA ps.flatten) 5 ∧ (∀ b, q = some b → 3 + 1 < b ∧ b < H.n) ∧ ((i = 0 ∧ q7 = none) ∨ ∃ b, 0 < i ∧ q7 = some b ∧ H.get b = some (.cells (run1 i) 109 { opn := true }) ∧ 3 + 1 < b ∧ b < H.n ∧ q ≠ some b) ∧ j = ps.length - i := ⟨_, rfl⟩
  refine vcF_ok (anns := [⟨3, Int × Option (Nat × Nat) × Nat, [0, 2, 3, 4, 11, 12, 13], fun x => [.slice (some (3, 0)) ps.length ps.length, .ptr (some ((real Tryd.prog none).n (pH ps), 0)), .int .i64 0, .slice x.2.1 x.2.2 x.2.2, .slice (some (3, 0)) ps.length ps.length, .int .i64 ps.length, .int .i64 x.1], I1⟩,
    ⟨11, Int × (Option (Nat × Nat) × Nat) × (Option (Nat × Nat) × Nat), [2, 3, 4, 7, 30, 31, 32], fun x => [.ptr (some ((real Tryd.prog none).n (pH ps), 0)), .int .i64 0, .slice x.2.1.1 x.2.1.2 x.2.1.2, .slice x.2.2.1 x.2.2.2 x.2.2.2, .slice (some (3, 0)) ps.length ps.length, .int .i64 ps.length, .int .i64 x.1], I2⟩]) follows' ?_
  rw [laid_vc]
  simp only [real_n, real_al, real_rd1, real_rdn, real_call, real_wr, real_wrap, real_app, real_str, hrn]
  have fresh : ∀ {H : AH} {o : AObj} {v : List AV} {c : Nat}, c < H.n → ((H.alloc o).set H.n (.cells v 79 { whole := true })).get c = H.get c := fun {H o v c} hc => by
    rw [AH.get_set, if_neg (by omega), AH.get_alloc, if_neg (by omega)]
  refine ⟨⟨(0, none, 0), ps.length, rfl, ?_⟩, ?_⟩
  · rw [hI1, hZ]
    refine ⟨⟨?_, ?_, ?_⟩, 0, none, rfl, Nat.zero_le _, ⟨rfl, rfl⟩, fun b h => (by cases h), rfl⟩
    · simp [pH, AH.get_alloc, nG]
    · rw [AH.get_alloc, if_pos hrn.symm]
    · simp [hrn]
  rintro x H1 j1 hx
  rw [hI1] at hx
  obtain ⟨hz, i, q, rfl, hi, hL, hq, rfl⟩ := hx
  have hz' := hz
  rw [hZ] at hz'
  obtain ⟨y1, y2, y3⟩ := hz'
  by_cases hik : (i : Int) < (ps.length : Int)
  · simp only [hik, decide_true, cond_true]
    have hik' : i < ps.length := by omega
    refine ⟨3, 0, ⟨rfl, by omega, trivial⟩, ps[i], false, false, false, false, 0, read_pcs y1 (by omega), rfl, (H1.alloc (.cells [.str [], .bool false, .bool false, .bool false, .bool false, .int .i64 0] 79 { whole := true })).set H1.n (.cells (.str ps[i] :: z1) 79 { whole := true }), by simp [AH.write, AH.get_alloc, splice, AV.one, z1], ps[i], by simp [AH.read1, AH.get_set], ?_⟩
    have ht : ps.take (i + 1) = ps.take i ++ [ps[i]] := (List.take_append_getElem hik').symm
    have hfl : (ps.take (i + 1)).flatten = (ps.take i).flatten ++ ps[i] := by rw [ht, List.flatten_append]; simp only [List.flatten_cons, List.flatten_nil, List.append_nil]
    have hle : (ps.take (i + 1)).flatten.length ≤ ps.flatten.length := by
      conv => rhs; rw [← List.take_append_drop (i + 1) ps, List.flatten_append, List.length_append]
      omega
    rw [hfl, List.length_append] at hle
    have c1 : ¬ (IntKind.i64.wrap (((ps.take i).flatten.length : Int) + (ps[i].length : Int)) > 4096) := by rw [wrap_i64 (by omega) (by omega)]; omega
    simp only [c1, decide_false, cond_false]
    obtain ⟨H3, g1, g2, g3, g4⟩ := append_str (H := (H1.alloc (.cells [.str [], .bool false, .bool false, .bool false, .bool false, .int .i64 0] 79 { whole := true })).set H1.n (.cells (.str ps[i] :: z1) 79 { whole := true })) (q := q) (so := (ps.take i).flatten) (s := ps[i])
      (hL.same fun b hb => fresh (hq b hb).2) (hne _ (List.getElem_mem hik')) (by omega)
    have hn3 : H3.n = H1.n + 2 := by rw [g2]; simp
    have old : ∀ c, c ≤ 3 + 1 → H3.get c = H1.get c := fun c hc => by
      rw [g4 c (by simp only [AH.n_set, AH.n_alloc]; omega) (fun e => by have := hq c e; omega), fresh (by omega)]
    refine ⟨ps[i], by simp [AH.read1, AH.get_set], _, _, _, H3, g1, ((i + 1 : Nat), some (H1.n + 1, 0), (ps.take (i + 1)).flatten.length), ps.length - (i + 1), by omega, ?_, ?_⟩
    · have e2 := wrap_i64 (n := (i : Int) + 1) (by omega) (by omega)
      simp only [e2, hfl]; rfl
    · rw [hI1, hZ]
      refine ⟨⟨by rw [old _ (by omega)]; exact y1, by rw [old _ (by omega)]; exact y2, by omega⟩, i + 1, some (H1.n + 1), rfl, by omega, ?_, ?_, rfl⟩
      · rw [hfl]; exact g3
      · intro b hb; cases hb; omega
  · simp only [hik, decide_false, cond_false]
    obtain rfl : i = ps.length := by omega
    rw [List.take_length] at hL
    refine ⟨⟨(0, (q.map (fun b => (b, 0)), ps.flatten.length), (none, 0)), ps.length, by rw [List.take_length], ?_⟩, ?_⟩
    · rw [hI2]; exact ⟨hz, 0, q, none, rfl, Nat.zero_le _, hL, hq, .inl ⟨rfl, rfl⟩, rfl⟩
    clear hz hL hq y1 y2 y3 hi hik
    rintro x H2 j2 hx
    rw [hI2] at hx
    obtain ⟨hz, i, q, q7, rfl, hi, hL, hq, h7, rfl⟩ := hx
    have hz' := hz
    rw [hZ] at hz'
    obtain ⟨y1, y2, y3⟩ := hz'
    by_cases hik : (i : Int) < (ps.length : Int)
    · simp only [hik, decide_true, cond_true]
      have hik' : i < ps.length := by omega
      refine ⟨3, 0, ⟨rfl, by omega, trivial⟩, ps[i], false, false, false, false, 0, read_pcs y1 (by omega), rfl, (H2.alloc (.cells [.str [], .bool false, .bool false, .bool false, .bool false, .int .i64 0] 79 { whole := true })).set H2.n (.cells (.str ps[i] :: z1) 79 { whole := true }), by simp [AH.write, AH.get_alloc, splice, AV.one, z1], ?_⟩
      have e2 := wrap_i64 (n := (i : Int) + 1) (by omega) (by omega)
      have rlook : ((H2.alloc (.cells [.str [], .bool false, .bool false, .bool false, .bool false, .int .i64 0] 79 { whole := true })).set H2.n (.cells (.str ps[i] :: z1) 79 { whole := true })).read H2.n 1 5 = some [.bool false, .bool false, .bool false, .bool false, .int .i64 0] := by
        simp [AH.read, AH.get_set, z1]
      rcases h7 with ⟨rfl, rfl⟩ | ⟨b, hi0, rfl, hb, hb1, hb2, hb3⟩
      · have c1 : (decide ((((if (0 : Nat) = 0 then 0 else 1) : Nat) : Int) > 0) == true) = false := by decide
        simp only []
        obtain ⟨H8, g1, g2, g3, g4⟩ := append_run (H := ((H2.alloc (.cells [.str [], .bool false, .bool false, .bool false, .bool false, .int .i64 0] 79 { whole := true })).set H2.n (.cells (.str ps[0] :: z1) 79 { whole := true })).alloc (.cells (run1 1) 109 { whole := true })) (c := H2.n + 1) (fl := { whole := true })
          (by rw [AH.get_alloc, if_pos (by simp)])
        have hn8 : H8.n = H2.n + 3 := by rw [g2]; simp
        have old : ∀ c, c < H2.n → H8.get c = H2.get c := fun c hc => by
          rw [g4 c (by simp only [AH.n_set, AH.n_alloc]; omega), AH.get_alloc, if_neg (by simp only [AH.n_set, AH.n_alloc]; omega), fresh hc]
        refine ⟨false, false, false, false, 0, rlook, by decide, some (H2.n + 2, 0), 1, 1, H8, ?_, (1, (q.map (fun b => (b, 0)), ps.flatten.length), (some (H2.n + 2, 0), 1)), ps.length - 1, by omega, ?_, ?_⟩
        · rw [e2]; exact g1
        · rw [e2]; rfl
        · rw [hI2, hZ]
          refine ⟨⟨by rw [old _ (by omega)]; exact y1, by rw [old _ (by omega)]; exact y2, by omega⟩, 1, q, some (H2.n + 2), rfl, by omega, hL.same fun b hb => old b (hq b hb).2, fun b hb => by have := hq b hb; omega, .inr ⟨H2.n + 2, by omega, rfl, g3, by omega, by omega, fun e => by have := hq _ e; omega⟩, rfl⟩
      · have e7 : (if i = 0 then 0 else 1) = 1 := if_neg (by omega)
        have c1 : (decide (((1 : Nat) : Int) > 0) == true) = true := by decide
        have w0 : IntKind.i64.wrap (((1 : Nat) : Int) - 1) = 0 := by rw [wrap_i64 (by omega) (by omega)]; rfl
        simp only [e7, c1, cond_true, w0]
        have hbg : ((H2.alloc (.cells [.str [], .bool false, .bool false, .bool false, .bool false, .int .i64 0] 79 { whole := true })).set H2.n (.cells (.str ps[i] :: z1) 79 { whole := true })).get b = some (.cells (run1 i) 109 { opn := true }) := by rw [fresh hb2]; exact hb
        refine ⟨b, 0, ⟨rfl, Int.le_refl 0, by omega⟩, false, false, false, false, 0, by unfold AH.read; rw [hbg]; simp [run1, z1], false, false, false, false, 0, rlook, ?_⟩
        simp only [BEq.rfl, Bool.and_self, cond_true]
        refine ⟨b, 0, ⟨rfl, Int.le_refl 0, by omega⟩, i, by unfold AH.read1; rw [hbg]; simp [run1], b, 0, ⟨rfl, Int.le_refl 0, by omega⟩, rfl, ((H2.alloc (.cells [.str [], .bool false, .bool false, .bool false, .bool false, .int .i64 0] 79 { whole := true })).set H2.n (.cells (.str ps[i] :: z1) 79 { whole := true })).set b (.cells (run1 (i + 1)) 109 { opn := true }), by unfold AH.write; rw [hbg]; simp [run1, splice, AV.one, z1, e2], ((i : Int) + 1, (q.map (fun b => (b, 0)), ps.flatten.length), (some (b, 0), 1)), ps.length - (i + 1), by omega, by rw [e2]; rfl, ?_⟩
        rw [hI2, hZ]
        refine ⟨⟨?_, ?_, ?_⟩, i + 1, q, some b, ?_, by omega, hL.same fun c hc => ?_, fun c hc => ?_, .inr ⟨b, by omega, rfl, ?_, by omega, ?_, hb3⟩, rfl⟩
        · rw [AH.get_set, if_neg (by omega), fresh (by omega)]; exact y1
        · rw [AH.get_set, if_neg (by omega), fresh (by omega)]; exact y2
        · simp only [AH.n_set, AH.n_alloc]; omega
        · simp
        · rw [AH.get_set, if_neg (fun e => hb3 (by rw [hc, e])), fresh (hq c hc).2]
        · have := hq c hc; simp only [AH.n_set, AH.n_alloc]; omega
        · rw [AH.get_set, if_pos rfl]
        · simp only [AH.n_set, AH.n_alloc]; omega
    · simp only [hik, decide_false, cond_false]
      obtain rfl : i = ps.length := by omega
      rcases h7 with ⟨h, _⟩ | ⟨b, hi0, rfl, hb, hb1, hb2, hb3⟩
      · omega
      have e7 : (if ps.length = 0 then 0 else 1) = 1 := if_neg (by omega)
      simp only [e7]
      have hby : bytesAt H2 (.slice (q.map (fun b => (b, 0))) ps.flatten.length ps.flatten.length) = some ps.flatten := by
        cases q with
        | none =>
          have : ps.flatten = [] := List.length_eq_zero_iff.1 hL.1
          rw [this]; rfl
        | some c =>
          have hc : H2.get c = some (.cells (byteCellsA ps.flatten) 5 { opn := true }) := hL
          have : (byteCellsA ps.flatten).length = ps.flatten.length := by unfold byteCellsA; rw [List.length_map]
          simp only [bytesAt, Option.map_some, AH.read, hc, Nat.zero_add, this, Nat.le_refl, if_true, List.drop_zero, Option.bind_some]
          rw [List.take_of_length_le (by omega)]; exact bytes_back _
      refine ⟨ps.flatten, hby, ?_⟩
      refine (Make_ro ps.flatten ps.length hs h0 hl hb).mono ?_
      rintro v H' ⟨rfl, rfl⟩
      refine ⟨ps.flatten, none, 0, 0, 0, rfl, rfl, H'.set (3 + 1) (.cells [.str ps.flatten, .slice none 0 0] 26 { whole := true }), ?_, ps.flatten, none, 0, 0, ?_, rfl⟩
      · simp [AH.write, y2, splice, AV.one]
      · simp [AH.read, AH.get_set]
end Go.Proofs.YtlkdhhkncoekgaaDoor
end

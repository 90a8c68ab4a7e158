/- What a line's form and a form of orders do to a scanner: those that set letters of kinds. -/
import Derived.Test.YtlkdhhkncoekgaaDoorTagC
import Derived.Test.YtlkdhhkncoekgaaDoorLongVc
namespace Go.Proofs.YtlkdhhkncoekgaaDoor
open Go.Am Go

theorem indexByte_app {c : UInt8} {r : List UInt8} : ∀ {l : List UInt8}, (∀ b ∈ l, b ≠ c) → Lib.indexByte (l ++ c :: r) c = l.length
  | [], _ => by simp [Lib.indexByte]
  | b :: l, h => by
    have ih := indexByte_app (r := r) (l := l) fun x hx => h x (List.mem_cons_of_mem _ hx)
    have hb : (b == c) = false := beq_eq_false_iff_ne.2 (h b (List.mem_cons_self ..))
    simp only [List.cons_append, Lib.indexByte, hb, ih, List.length_cons]
    simp
    try omega

theorem sCutPrefix_yes (s t : List UInt8) (h : pre s t = true) : Pure Tryd.prog 72 [.str s, .str t] (.tuple [.str (s.drop t.length), .bool true]) := by
  have hl : t.length ≤ s.length := by
    unfold pre at h
    simp only [Bool.and_eq_true, decide_eq_true_eq] at h
    omega
  refine Pure.of_vc follows' [] (by kernel_rfl) rfl rfl ?_
  rw [sCutPrefix_vc]
  refine (sHasPrefix_pure s t).use1 ⟨_, rfl, ?_⟩
  rw [h]
  simp only [Bool.not_true, cond_false]
  refine ⟨by omega, ?_⟩
  rw [show ((t.length : Int)).toNat = t.length from rfl, List.take_of_length_le (by rw [List.length_drop]; omega)]
theorem CutPrefix_yes (s t : List UInt8) (h : pre s t = true) : Pure Tryd.prog 43 [.str s, .str t] (.tuple [.str (s.drop t.length), .bool true]) := by
  refine Pure.of_vc follows' [] (by kernel_rfl) rfl rfl ?_
  rw [CutPrefix_vc]
  exact (sCutPrefix_yes s t h).use1 ⟨_, _, rfl, rfl⟩

/-! Split of a text without commas -/
theorem CountString_pure (s : List UInt8) (c : Int) : Pure Tryd.prog 109 [.str s, .int .u8 c] (.int .i64 (Lib.countByte s c.toNat.toUInt8)) :=
  Pure.ext ext_ok fun _ => rfl
set_option maxRecDepth 100000 in
theorem sCount_pure (s : List UInt8) : Pure Tryd.prog 92 [.str s, .str [44]] (.int .i64 (Lib.countByte s 44)) := by
  refine PureR.of_vcG follows' _ _ (by kernel_rfl) rfl (by rintro v rfl; rfl) (Eq.mpr (sCount_vc (real Tryd.prog) (Iter Tryd.prog) s _ _) ?_)
  simp only [real_call]
  exact ⟨by decide, (CountString_pure s 44).use1 ⟨_, rfl, rfl⟩⟩
theorem makeStr1 (H : AH) : makeSliceV Tryd.prog H 102 (.int .i64 1) (.int .i64 1) = some (.slice (some (H.n, 0)) 1 1, H.alloc (.cells [.str []] 9 {})) := by
  unfold makeSliceV
  have t1 : Tryd.prog.underlying 102 = some (.slice 9) := by kernel_rfl
  have t2 : szOf Tryd.prog 9 = some 1 := by kernel_rfl
  have t3 : byOf Tryd.prog 9 = some 16 := by kernel_rfl
  have t4 : zeroOf Tryd.prog 9 = some (.str []) := by kernel_rfl
  simp only [t1, t2, t3, t4]
  rw [if_pos]
  · simp [AV.cells, repCells]
  · refine ⟨by omega, by omega, ?_, ?_, rfl, by decide, rfl⟩ <;> decide
set_option maxRecDepth 100000 in
theorem genSplit_one (s : List UInt8) (hs : s.length ≤ 4611686018427387904) (h0 : Lib.countByte s 44 = 0) (H : AH) : ACallee Tryd.prog 76 [.str s, .str [44], .int .i64 0, .int .i64 (-1)] H fun v H' =>
    v = .slice (some (H.n, 0)) 1 1 ∧ H'.get H.n = some (.cells [.str s] 9 {}) ∧ H'.n = H.n + 1 ∧ ∀ c, c < H.n → H'.get c = H.get c := by
  refine .inl ⟨goB_spec (by kernel_rfl), vcG_ok (anns := _) (rans := _) follows' (Eq.mpr (genSplit_vc (real Tryd.prog) (Iter Tryd.prog) s H _) ?_)⟩
  simp only [real_call, real_mks, real_wrap, real_wr, real_slc]
  refine (sCount_pure s).use1 ⟨_, rfl, ?_⟩
  rw [h0]
  have w1 : IntKind.i64.wrap (((0 : Nat) : Int) + 1) = 1 := by rw [wrap_i64 (by omega) (by omega)]; rfl
  have w2 : IntKind.i64.wrap ((s.length : Int) + 1) = (s.length : Int) + 1 := wrap_i64 (by omega) (by omega)
  have e1 : (if (s.length : Int) + 1 < 1 then (s.length : Int) + 1 else 1) = 1 := by rw [if_neg (by omega)]
  simp only [w1, w2, e1]
  refine ⟨_, _, _, _, makeStr1 H, fun y H' j => y = (s, 0, (some (H.n, 0), 1), 0) ∧ H' = H.alloc (.cells [.str []] 9 {}), ⟨(s, 0, (some (H.n, 0), 1), 0), 0, by rw [wrap_i64 (by omega) (by omega)]; rfl, rfl, rfl⟩, ?_⟩
  rintro _ _ _ ⟨rfl, rfl⟩
  have d0 : decide ((0 : Int) < 0) = false := by decide
  simp only [d0, cond_false]
  have t1 : Tryd.prog.underlying 102 = some (.slice 9) := by kernel_rfl
  have t2 : szOf Tryd.prog 9 = some 1 := by kernel_rfl
  have g : ((H.alloc (.cells [.str []] 9 {})).set H.n (.cells [.str s] 9 {})).get H.n = some (.cells [.str s] 9 {}) := by rw [AH.get_set, if_pos rfl]
  refine ⟨H.n, 0, ⟨rfl, by decide, by decide⟩, rfl, (H.alloc (.cells [.str []] 9 {})).set H.n (.cells [.str s] 9 {}), by simp [AH.write, AH.get_alloc, splice, AV.one], some (H.n, 0), 1, 1, ?_, rfl, g, rfl, fun c hc => ?_⟩
  · rw [wrap_i64 (by omega) (by omega)]
    simp [sliceV, t1, t2, idxV]
  · rw [AH.get_set, if_neg (by omega), AH.get_alloc, if_neg (by omega)]
theorem Split_one (s : List UInt8) (hs : s.length ≤ 4611686018427387904) (h0 : Lib.countByte s 44 = 0) (H : AH) : ACallee Tryd.prog 52 [.str s, .str [44]] H fun v H' =>
    v = .slice (some (H.n, 0)) 1 1 ∧ H'.get H.n = some (.cells [.str s] 9 {}) ∧ H'.n = H.n + 1 ∧ ∀ c, c < H.n → H'.get c = H.get c := by
  refine .inl ⟨goB_spec (by kernel_rfl), vcF_ok (anns := []) follows' ?_⟩
  rw [Split_vc]
  refine (genSplit_one s hs h0 H).mono ?_
  rintro v H' ⟨rfl, h⟩
  exact ⟨_, _, _, rfl, rfl, h⟩

/-- A line's form that says i. -/
def iForm : List UInt8 := [123, 121, 58, 105, 125]
set_option maxRecDepth 100000 in
theorem pipe_i {H : AH} {p : Nat} {x : St} {qs qo qc : Option Nat} {cap : Nat} (h : AtS H p x qs qo qc cap) {r : List UInt8} (ht : x.s.drop x.i = iForm ++ r)
    (hs : x.s.length ≤ 4194304) (ho : x.so.length ≤ 8192) (hm : melts x.so (x.s.drop (x.i + 5)) = false) :
    ACallee Tryd.prog 26 [.ptr (some (p, 0)), .str (x.s.drop x.i)] H fun v H' =>
      v = .int .i64 (5 : Nat) ∧ AtS H' p { x with look := { x.look with i := true } } qs qo qc cap ∧ H.n ≤ H'.n ∧ ∀ c, c < p → H'.get c = H.get c := by
  have hlen : x.i + 5 ≤ x.s.length := by
    have := congrArg List.length ht
    rw [List.length_drop, List.length_append] at this
    simp only [iForm, List.length_cons, List.length_nil] at this; omega
  have hpass := passes_S h 5 hlen hs ho
  rw [hm] at hpass
  rw [ht]
  obtain ⟨t, htt⟩ : ∃ t, t = iForm ++ r := ⟨_, rfl⟩
  have t5 : 5 ≤ t.length := by rw [htt, List.length_append]; simp [iForm]
  have hidx : Lib.indexByte t ((125 : Int)).toNat.toUInt8 = 4 := by
    rw [htt]
    exact indexByte_app (c := 125) (r := r) (l := [123, 121, 58, 105]) (by decide)
  rw [← htt]
  refine .inl ⟨goB_spec (by kernel_rfl), vcG_ok (anns := _) (rans := _) follows' (Eq.mpr (pipe_vc (real Tryd.prog) (Iter Tryd.prog) p t H _) ?_)⟩
  simp only [real_n, real_al, real_rd1, real_rdn, real_call, real_wr, real_wrap]
  have tt : (true == true) = true := rfl
  have hlt := h.lt
  refine (IndexByte_pure t 125).use1 ⟨_, rfl, ?_⟩
  rw [hidx]
  refine ⟨fun y H' => y = (4, false) ∧ H = H', ?_, ?_⟩
  · have d : (decide ((4 : Int) < 0) == false) = true := by decide
    simp only [d, cond_true]
    rw [show IntKind.i64.wrap ((4 : Int) + 1) = ((5 : Nat) : Int) by decide]
    refine hpass.mono ?_
    rintro v H' ⟨rfl, rfl⟩
    exact ⟨true, rfl, (4, false), 0, trivial, rfl, rfl, rfl⟩
  rintro _ _ ⟨rfl, rfl⟩
  simp only [cond_false]
  refine ⟨by omega, ?_⟩
  have hcut : List.take ((4 : Int) - 0).toNat t = [123, 121, 58, 105] := by rw [htt]; rfl
  rw [hcut]
  refine (CutPrefix_yes [123, 121, 58, 105] [123, 121, 58] (by decide)).use1 ⟨[105], true, rfl, ?_⟩
  simp only [cond_true]
  obtain ⟨A, hA⟩ : ∃ A, A = (H.alloc (.cells [.bool false, .bool false, .bool false, .bool false, .int .i64 0] 53 { whole := true })).set H.n (.cells x.look.cells 53 { whole := true }) := ⟨_, rfl⟩
  have an : A.n = H.n + 1 := by rw [hA]; rfl
  have ao : ∀ c, c < H.n → A.get c = H.get c := fun c hc => by rw [hA, AH.get_set, if_neg (by omega), AH.get_alloc, if_neg (by omega)]
  have ag : A.get H.n = some (.cells x.look.cells 53 { whole := true }) := by rw [hA, AH.get_set, if_pos rfl]
  refine ⟨x.look.b, x.look.i, x.look.u, x.look.k, x.look.c, by unfold AH.read; rw [h.cells]; rfl, rfl, A, by rw [hA]; simp [AH.write, AH.get_alloc, splice, AV.one, Look.cells], ?_⟩
  refine (Split_one [105] (by decide) rfl A).mono ?_
  rintro v B ⟨rfl, b1, b2, b3⟩
  have bg : B.get H.n = some (.cells x.look.cells 53 { whole := true }) := by rw [b3 _ (by omega)]; exact ag
  have bo : ∀ c, c < H.n → B.get c = H.get c := fun c hc => by rw [b3 c (by omega)]; exact ao c hc
  refine ⟨_, _, _, rfl, fun y H' k => (y = (4, H.n, (some (A.n, 0), 1), 1, 0) ∧ B = H' ∧ k = 1) ∨ (y = (4, H.n, (some (A.n, 0), 1), 1, 1) ∧ H' = B.set H.n (.cells ({ x.look with i := true } : Look).cells 53 { whole := true }) ∧ k = 0), ⟨(4, H.n, (some (A.n, 0), 1), 1, 0), 1, rfl, .inl ⟨rfl, rfl, rfl⟩⟩, ?_⟩
  rintro _ _ _ (⟨rfl, rfl, rfl⟩ | ⟨rfl, rfl, rfl⟩)
  · have d : decide ((0 : Int) < 1) = true := by decide
    simp only [d, cond_true]
    refine ⟨A.n, 0, ⟨rfl, by decide, by decide⟩, [105], by unfold AH.read1; rw [b1]; rfl, ?_⟩
    have e1 : (([105] : List UInt8) == [98]) = false := by decide
    have e2 : (([105] : List UInt8) == [105]) = true := by decide
    simp only [e1, e2, cond_false, cond_true]
    refine ⟨trivial, B.set H.n (.cells ({ x.look with i := true } : Look).cells 53 { whole := true }), by simp [AH.write, bg, splice, AV.one, Look.cells], (4, H.n, (some (A.n, 0), 1), 1, 1), 0, by decide, ?_, .inr ⟨rfl, rfl, rfl⟩⟩
    rw [show IntKind.i64.wrap ((0 : Int) + 1) = 1 by decide]
  · have d : decide ((1 : Int) < 1) = false := by decide
    simp only [d, cond_false]
    have hC : AtS (B.set H.n (.cells ({ x.look with i := true } : Look).cells 53 { whole := true })) p x qs qo qc cap := h.keep (by simp only [AH.n_set]; omega) fun c hc1 hc2 => by rw [AH.get_set, if_neg (by omega)]; exact bo c hc2
    obtain ⟨H', w1, w2, w3, w4⟩ := hC.write (y := { x with look := { x.look with i := true } }) rfl rfl rfl (o := 11) (vs := ({ x.look with i := true } : Look).cells) (by simp [Look.cells]) (Look.cells_one _) (by simp [splice, St.cells, Look.cells])
    refine ⟨_, _, _, _, _, by simp [AH.read, AH.get_set, Look.cells], rfl, H', w1, ?_, w2, ?_, fun c hc => ?_⟩
    · rw [show IntKind.i64.wrap ((4 : Int) + 1) = ((5 : Nat) : Int) by decide]
    · rw [w3]; simp only [AH.n_set]; omega
    · rw [w4 c (by omega), AH.get_set, if_neg (by omega)]; exact bo c (by omega)

/-! Orders that set bold or italic -/
/-- Italic or bold, on or off; as bytes. -/
def ordB (o : Bool × Bool) : List UInt8 := [92, bif o.1 then 105 else 98, bif o.2 then 49 else 48]
def ordsB : List (Bool × Bool) → List UInt8
  | [] => []
  | o :: os => ordB o ++ ordsB os
def ordL (a : Look) (o : Bool × Bool) : Look := bif o.1 then { a with i := o.2 } else { a with b := o.2 }
theorem ordsB_length : ∀ os, (ordsB os).length = 3 * os.length
  | [] => rfl
  | o :: os => by simp only [ordsB, List.length_append, ordsB_length os, List.length_cons]; simp [ordB]; omega
theorem ordsB_ne : ∀ {os}, ∀ b ∈ ordsB os, b ≠ 125
  | o :: os, b, hb => by
    rcases List.mem_append.1 hb with h | h
    · obtain ⟨u, v⟩ := o
      cases u <;> cases v <;> simp [ordB] at h <;> (rcases h with rfl | rfl | rfl <;> decide)
    · exact ordsB_ne b h

set_option maxRecDepth 100000 in
theorem brace_ords {H : AH} {p : Nat} {x : St} {qs qo qc : Option Nat} {cap : Nat} (h : AtS H p x qs qo qc cap) {os : List (Bool × Bool)} (hne : os ≠ []) {r : List UInt8} (ht : x.s.drop x.i = 123 :: (ordsB os ++ 125 :: r))
    (hs : x.s.length ≤ 4194304) (ho : x.so.length ≤ 8192) (hm : melts x.so (x.s.drop (x.i + (3 * os.length + 2))) = false) :
    ACallee Tryd.prog 28 [.ptr (some (p, 0)), .str (x.s.drop x.i)] H fun v H' =>
      v = .int .i64 ((3 * os.length + 2 : Nat) : Int) ∧ AtS H' p { x with look := os.foldl ordL x.look } qs qo qc cap ∧ H.n ≤ H'.n ∧ ∀ c, c < p → H'.get c = H.get c := by
  have hol := ordsB_length os
  have hpos : 0 < os.length := List.length_pos_iff.2 hne
  have hlen : x.i + (3 * os.length + 2) ≤ x.s.length := by
    have := congrArg List.length ht
    rw [List.length_drop] at this
    simp only [List.length_cons, List.length_append] at this; omega
  have hpass := passes_S h (3 * os.length + 2) hlen hs ho
  rw [hm] at hpass
  rw [ht]
  obtain ⟨t, htt⟩ : ∃ t, t = 123 :: (ordsB os ++ 125 :: r) := ⟨_, rfl⟩
  have tl : 3 * os.length + 2 ≤ t.length := by rw [htt]; simp only [List.length_cons, List.length_append]; omega
  obtain ⟨E, hE⟩ : ∃ E : Int, E = ((3 * os.length + 1 : Nat) : Int) := ⟨_, rfl⟩
  have hidx : Lib.indexByte t ((125 : Int)).toNat.toUInt8 = E := by
    rw [htt, hE, ← hol]
    exact indexByte_app (c := 125) (r := r) (l := 123 :: ordsB os) fun b hb => by
      rcases List.mem_cons.1 hb with rfl | hb
      · decide
      · exact ordsB_ne b hb
  rw [← htt]
  refine .inl ⟨goB_spec (by kernel_rfl), vcG_ok (anns := _) (rans := _) follows' (Eq.mpr (brace_vc (real Tryd.prog) (Iter Tryd.prog) p t H _) ?_)⟩
  simp only [real_n, real_al, real_rd1, real_rdn, real_call, real_wr, real_wrap]
  have tt : (true == true) = true := rfl
  have ff : (false == true) = false := rfl
  have hlt := h.lt
  have wE : IntKind.i64.wrap (E + 1) = ((3 * os.length + 2 : Nat) : Int) := by rw [wrap_i64 (by omega) (by omega)]; omega
  refine (IndexByte_pure t 125).use1 ⟨_, rfl, ?_⟩
  rw [hidx]
  refine ⟨fun y H' => y = (E, false) ∧ H = H', ?_, ?_⟩
  · have d : (decide (E < 2) == false) = true := by rw [beq_iff_eq, decide_eq_false_iff_not]; omega
    simp only [d, cond_true, wE]
    refine hpass.mono ?_
    rintro v H' ⟨rfl, rfl⟩
    exact ⟨true, rfl, (E, false), 0, trivial, rfl, rfl, rfl⟩
  rintro _ _ ⟨rfl, rfl⟩
  simp only [cond_false]
  have rL : ∀ K : AH, K.get p = H.get p → K.read p 11 5 = some x.look.cells := fun K hK => by unfold AH.read; rw [hK, h.cells]; rfl
  have r18 : ∀ K : AH, K.get p = H.get p → K.read1 p 18 = some (.int .i64 x.side) := fun K hK => by unfold AH.read1; rw [hK, h.cells]; rfl
  have r2 : ∀ K : AH, K.get p = H.get p → K.read1 p 2 = some (.int .i64 (x.i : Int)) := fun K hK => by unfold AH.read1; rw [hK, h.cells]; rfl
  have a0 : (H.alloc (.cells [.bool false, .bool false, .bool false, .bool false, .int .i64 0] 53 { whole := true })).get p = H.get p := by rw [AH.get_alloc, if_neg (by omega)]
  obtain ⟨A, hA⟩ : ∃ A, A = (H.alloc (.cells [.bool false, .bool false, .bool false, .bool false, .int .i64 0] 53 { whole := true })).set H.n (.cells x.look.cells 53 { whole := true }) := ⟨_, rfl⟩
  -- what holds in the loop
  obtain ⟨G, hG⟩ : ∃ G : Look → AH → Prop, G = fun a K => K.n = H.n + 1 ∧ K.get H.n = some (.cells a.cells 53 { whole := true }) ∧ ∀ c, c < H.n → K.get c = H.get c := ⟨_, rfl⟩
  have gA : G x.look A := by
    rw [hG, hA]
    exact ⟨rfl, by rw [AH.get_set, if_pos rfl], fun c hc => by rw [AH.get_set, if_neg (by omega), AH.get_alloc, if_neg (by omega)]⟩
  have gp : ∀ {a K}, G a K → K.get p = H.get p := fun {a K} hK => by rw [hG] at hK; exact hK.2.2 p hlt
  refine ⟨x.look.b, x.look.i, x.look.u, x.look.k, x.look.c, rL _ rfl, x.side, r18 _ rfl, ⟨_, r18 _ a0, rfl⟩, ⟨x.look.b, x.look.i, x.look.u, x.look.k, x.look.c, rL _ a0, rfl⟩, rfl, A, by rw [hA]; simp [AH.write, AH.get_alloc, splice, AV.one, Look.cells], ⟨_, r18 _ (gp gA), rfl⟩, by omega, ?_⟩
  have hcut : List.take (E - 1).toNat (List.drop 1 t) = ordsB os := by
    rw [htt, List.drop_succ_cons, List.drop_zero, show (E - 1).toNat = (ordsB os).length by omega, List.take_left]
  rw [hcut]
  refine ⟨fun y H' k => ∃ o1 o2, os = o1 ++ o2 ∧ y = (E, H.n, x.side, ordsB o2) ∧ G (o1.foldl ordL x.look) H' ∧ k = o2.length, ⟨(E, H.n, x.side, ordsB os), os.length, rfl, [], os, rfl, rfl, gA, rfl⟩, ?_⟩
  rintro _ K _ ⟨o1, o2, hos, rfl, hK, rfl⟩
  cases o2 with
  | nil =>
    have e : (!(ordsB [] == ([] : List UInt8))) = false := rfl
    simp only [e, cond_false]
    rw [List.append_nil] at hos
    rw [← hos] at hK
    have hK' := hK
    rw [hG] at hK'
    obtain ⟨k1, k2, k3⟩ := hK'
    have hC : AtS K p x qs qo qc cap := h.keep (by omega) fun c _ hc2 => k3 c hc2
    obtain ⟨H1, w1, w2, w3, w4⟩ := hC.write (y := { x with look := os.foldl ordL x.look }) rfl rfl rfl (o := 11) (vs := (os.foldl ordL x.look).cells) (by simp [Look.cells]) (Look.cells_one _) (by simp [splice, St.cells, Look.cells])
    obtain ⟨H2, u1, u2, u3, u4⟩ := w2.write (y := { x with look := os.foldl ordL x.look }) rfl rfl rfl (o := 18) (vs := [.int .i64 x.side]) (by simp) (by simp [AV.one]) (by simp [splice, St.cells])
    refine ⟨_, _, _, _, _, by simp [AH.read, k2, Look.cells], rfl, H1, w1, rfl, H2, u1, ?_, u2, by omega, fun c hc => ?_⟩
    · rw [wE]
    · rw [u4 c (by omega), w4 c (by omega)]; exact k3 c (by omega)
  | cons o o2 =>
    obtain ⟨T, hT⟩ : ∃ T, T = ordsB (o :: o2) := ⟨_, rfl⟩
    rw [← hT]
    have hTl : T.length = 3 * o2.length + 3 := by rw [hT, ordsB_length, List.length_cons]; omega
    have q0 : T[0]?.getD 0 = 92 := by rw [hT]; rfl
    have q1 : T[1]?.getD 0 = bif o.1 then 105 else 98 := by rw [hT]; rfl
    have q2 : T[2]?.getD 0 = bif o.2 then 49 else 48 := by rw [hT]; rfl
    have e : (!(T == ([] : List UInt8))) = true := by rw [hT]; rfl
    have d3 : decide ((T.length : Int) ≥ 3) = true := by rw [decide_eq_true_iff]; omega
    have i92 : ((((92 : UInt8).toNat : Nat) : Int) == 92) = true := rfl
    have hv : (((((bif o.2 then 49 else 48 : UInt8)).toNat : Nat) : Int) == 48 || ((((bif o.2 then 49 else 48 : UInt8)).toNat : Nat) : Int) == 49) = true := by cases o.2 <;> rfl
    have hon : (((((bif o.2 then 49 else 48 : UInt8)).toNat : Nat) : Int) == 49) = o.2 := by cases o.2 <;> rfl
    have n30 : ((3 : Int) == 0) = false := by decide
    have hK' := hK
    rw [hG] at hK'
    obtain ⟨k1, k2, k3⟩ := hK'
    obtain ⟨a, ha⟩ : ∃ a, a = o1.foldl ordL x.look := ⟨_, rfl⟩
    rw [← ha] at hK k2
    simp only [e, cond_true]
    -- the order is done
    refine ⟨fun y H' => y = ((E, H.n, x.side, T), 3) ∧ G (ordL a o) H', ⟨fun y H' => y = ((E, H.n, x.side, T), 0, true) ∧ K = H', ?_, ?_⟩, ?_⟩
    · simp only [d3, q0, q2, i92, Bool.and_self, hv, tt]
      exact ⟨fun _ => by omega, fun _ => by omega, fun _ => by omega, ((E, H.n, x.side, T), 0, true), 0, trivial, rfl, rfl, (by trivial)⟩
    · rintro _ _ ⟨rfl, rfl⟩
      simp only [cond_true, q1, q2]
      refine ⟨by omega, by omega, ?_⟩
      cases h1 : o.1 with
      | false =>
        simp only [cond_false]
        have e1 : ((((98 : UInt8).toNat : Nat) : Int) == 98) = true := rfl
        simp only [e1, cond_true, hon]
        refine ⟨rfl, K.set H.n (.cells (ordL a o).cells 53 { whole := true }), ?_, ((E, H.n, x.side, T), 3), 0, trivial, rfl, rfl, ?_⟩
        · unfold ordL; rw [h1]; simp [AH.write, k2, splice, AV.one, Look.cells]
        · rw [hG]; exact ⟨k1, by rw [AH.get_set, if_pos rfl], fun c hc => by rw [AH.get_set, if_neg (by omega)]; exact k3 c hc⟩
      | true =>
        simp only [cond_true]
        have e1 : ((((105 : UInt8).toNat : Nat) : Int) == 98) = false := rfl
        have e2 : ((((105 : UInt8).toNat : Nat) : Int) == 105) = true := rfl
        simp only [e1, e2, cond_true, cond_false, hon]
        refine ⟨rfl, K.set H.n (.cells (ordL a o).cells 53 { whole := true }), ?_, ((E, H.n, x.side, T), 3), 0, trivial, rfl, rfl, ?_⟩
        · unfold ordL; rw [h1]; simp [AH.write, k2, splice, AV.one, Look.cells]
        · rw [hG]; exact ⟨k1, by rw [AH.get_set, if_pos rfl], fun c hc => by rw [AH.get_set, if_neg (by omega)]; exact k3 c hc⟩
    rintro _ K2 ⟨rfl, hK2⟩
    have hno : pre T [92, 99, 38, 72] = false := pre_no 1 (by decide) (by
      rw [hT]
      show some (bif o.1 then 105 else 98 : UInt8) ≠ some 99
      cases o.1 <;> decide)
    refine ⟨fun y H' => y = ((E, H.n, x.side, T), 3) ∧ K2 = H', ?_, ?_⟩
    · refine (CutPrefix_no T _ hno).use1 ⟨T, false, rfl, fun y H' => y = ((E, H.n, x.side, T), 3, T, false) ∧ K2 = H', ?_, ?_⟩
      · exact ⟨((E, H.n, x.side, T), 3, T, false), 0, trivial, rfl, rfl, rfl⟩
      · rintro _ _ ⟨rfl, rfl⟩
        simp only [cond_false]
        exact ⟨((E, H.n, x.side, T), 3), 0, trivial, rfl, rfl, (by trivial)⟩
    rintro _ _ ⟨rfl, rfl⟩
    refine ⟨fun y H' => y = ((E, H.n, x.side, T), 3) ∧ K2 = H', ⟨fun y H' => y = ((E, H.n, x.side, T), 3, false) ∧ K2 = H', ?_, ?_⟩, ?_⟩
    · simp only [n30, ff, cond_false]
      exact ⟨((E, H.n, x.side, T), 3, false), 0, trivial, rfl, rfl, (by trivial)⟩
    · rintro _ _ ⟨rfl, rfl⟩
      simp only [cond_false]
      exact ⟨((E, H.n, x.side, T), 3), 0, trivial, rfl, rfl, (by trivial)⟩
    rintro _ _ ⟨rfl, rfl⟩
    refine ⟨fun y H' => y = ((E, H.n, x.side, T), 3) ∧ K2 = H', ⟨fun y H' => y = ((E, H.n, x.side, T), 3, false) ∧ K2 = H', ⟨x.i, r2 _ (gp hK2), ?_⟩, ?_⟩, ?_⟩
    · simp only [n30, Bool.false_and, ff, cond_false]
      exact ⟨((E, H.n, x.side, T), 3, false), 0, trivial, rfl, rfl, (by trivial)⟩
    · rintro _ _ ⟨rfl, rfl⟩
      simp only [cond_false]
      exact ⟨((E, H.n, x.side, T), 3), 0, trivial, rfl, rfl, (by trivial)⟩
    rintro _ _ ⟨rfl, rfl⟩
    simp only [n30, cond_false]
    refine ⟨by omega, (E, H.n, x.side, ordsB o2), o2.length, by simp, ?_, o1 ++ [o], o2, by rw [hos, List.append_assoc]; rfl, rfl, by rw [List.foldl_append, ← ha]; exact hK2, rfl⟩
    rw [show ((3 : Int)).toNat = 3 from rfl, List.take_of_length_le (by rw [List.length_drop]; omega), hT]
    rfl
end Go.Proofs.YtlkdhhkncoekgaaDoor

/- The law MarkSeams (a tag between two parts that melt is none; between others it is one) returns true for every two texts; the row's list is its only condition. -/
import Derived.Test.YtlkdhhkncoekgaaDoorSeamL
import Derived.Test.YtlkdhhkncoekgaaDoorKnown
import Derived.Test.YtlkdhhkncoekgaaDoorCards
import Derived.Test.YtlkdhhkncoekgaaDoorTie
import Derived.SevenTiedAt
namespace Go.Proofs.YtlkdhhkncoekgaaDoor.markSeams
open Go.ChangeShapes Go.WideShapes Go.ChangeAt Go.RowKit Go.Am Go

set_option maxRecDepth 100000 in
theorem law (e1 e2 : TypeId) (a b : List UInt8) :
    ACall Tryd.prog 6 [.str a, .str b] (startH nGlob (startTabs e1 e2)) fun v _ => v = .bool true := by
  refine vcG_ok (anns := _) (rans := _) follows (Eq.mpr (seams_vc (real Tryd.prog) (Iter Tryd.prog) a b _ _) ?_)
  simp only [real_n, real_al, real_rd1, real_call, real_wr, real_wrap, real_get, real_set]
  refine (known_pure e1 e2).use (startTabs_in e1 e2) ?_
  rintro v rfl
  refine ⟨true, rfl, ?_⟩
  simp only [Bool.not_true, cond_false]
  cases hg : (decide ((a.length : Int) > 1000) || decide ((b.length : Int) > 1000)) with
  | true => simp only [cond_true]
  | false =>
    simp only [Bool.or_eq_false_iff, decide_eq_false_iff_not] at hg
    simp only [cond_false]
    -- neither text has a sign that begins a form
    have step : ∀ {t : List UInt8} {i : Int}, 0 ≤ i → i < t.length → (∀ k : Nat, (k : Int) < i → t[k]?.getD 0 ≠ 60 ∧ t[k]?.getD 0 ≠ 38) →
        ((((t[i.toNat]?.getD 0).toNat : Nat) : Int) == 60 || (((t[i.toNat]?.getD 0).toNat : Nat) : Int) == 38) = false → ∀ k : Nat, (k : Int) < i + 1 → t[k]?.getD 0 ≠ 60 ∧ t[k]?.getD 0 ≠ 38 := by
      intro t i h1 h2 h3 hc k hk
      by_cases e : (k : Int) < i
      · exact h3 k e
      · obtain rfl : k = i.toNat := by omega
        simp only [Bool.or_eq_false_iff, beq_eq_false_iff_ne, ne_eq] at hc
        exact ⟨fun e => hc.1 (by rw [e]; rfl), fun e => hc.2 (by rw [e]; rfl)⟩
    have all : ∀ {t : List UInt8} {i : Int}, ¬ i < t.length → (∀ k : Nat, (k : Int) < i → t[k]?.getD 0 ≠ 60 ∧ t[k]?.getD 0 ≠ 38) → ∀ k : Nat, t[k]?.getD 0 ≠ 60 ∧ t[k]?.getD 0 ≠ 38 := by
      intro t i h1 h2 k
      rcases Nat.lt_or_ge k t.length with h | h
      · exact h2 k (by omega)
      · rw [List.getElem?_eq_none h]; exact ⟨by decide, by decide⟩
    refine ⟨fun i _ j => 0 ≤ i ∧ i ≤ a.length ∧ j = (a.length - i).toNat ∧ ∀ k : Nat, (k : Int) < i → a[k]?.getD 0 ≠ 60 ∧ a[k]?.getD 0 ≠ 38, ⟨0, a.length, rfl, Int.le_refl 0, by omega, by omega, fun k hk => by omega⟩, ?_⟩
    rintro i H2 _ ⟨h1, h2, rfl, h3⟩
    by_cases hi : i < (a.length : Int)
    · simp only [hi, decide_true, cond_true]
      refine ⟨⟨h1, trivial⟩, fun _ => ⟨h1, trivial⟩, ?_⟩
      cases hc : ((((a[i.toNat]?.getD 0).toNat : Nat) : Int) == 60 || (((a[i.toNat]?.getD 0).toNat : Nat) : Int) == 38) with
      | true => simp only [cond_true]
      | false =>
        simp only [cond_false]
        refine ⟨i + 1, (a.length - (i + 1)).toNat, by omega, ?_, by omega, by omega, rfl, step h1 hi h3 hc⟩
        rw [wrap_i64 (by omega) (by omega)]
    simp only [hi, decide_false, cond_false]
    have ha := all hi h3
    clear h1 h2 h3 hi
    refine ⟨fun i _ j => 0 ≤ i ∧ i ≤ b.length ∧ j = (b.length - i).toNat ∧ ∀ k : Nat, (k : Int) < i → b[k]?.getD 0 ≠ 60 ∧ b[k]?.getD 0 ≠ 38, ⟨0, b.length, rfl, Int.le_refl 0, by omega, by omega, fun k hk => by omega⟩, ?_⟩
    rintro i H3 _ ⟨h1, h2, rfl, h3⟩
    by_cases hi : i < (b.length : Int)
    · simp only [hi, decide_true, cond_true]
      refine ⟨⟨h1, trivial⟩, fun _ => ⟨h1, trivial⟩, ?_⟩
      cases hc : ((((b[i.toNat]?.getD 0).toNat : Nat) : Int) == 60 || (((b[i.toNat]?.getD 0).toNat : Nat) : Int) == 38) with
      | true => simp only [cond_true]
      | false =>
        simp only [cond_false]
        refine ⟨i + 1, (b.length - (i + 1)).toNat, by omega, ?_, by omega, by omega, rfl, step h1 hi h3 hc⟩
        rw [wrap_i64 (by omega) (by omega)]
    simp only [hi, decide_false, cond_false]
    have hb := all hi h3
    clear h1 h2 h3 hi
    obtain ⟨na, hna⟩ := SignsN.ex a
    obtain ⟨nb, hnb⟩ := SignsN.ex b
    obtain ⟨nc, hnc⟩ := SignsN.ex (a ++ b)
    have hna4 : na ≤ a.length := by have := place_ge hna.2; have := hna.1; omega
    have hnb4 : nb ≤ b.length := by have := place_ge hnb.2; have := hnb.1; omega
    have hnc4 : nc ≤ (a ++ b).length := by have := place_ge hnc.2; have := hnc.1; omega
    have hlen : (a ++ b).length = a.length + b.length := List.length_append
    -- how many signs
    have cnt : ∀ {t : List UInt8} {m n : Nat}, SignsN t n → (∀ j, j < m → place t j < t.length) → place t m ≤ t.length → ¬ place t m < t.length → m = n := by
      intro t m n hn h1 h2 h3
      have : SignsN t m := ⟨by omega, h1⟩
      exact this.uniq hn
    refine ⟨fun x H' j => ∃ m : Nat, x.1 = m ∧ H'.get x.2 = some (.iter a (place a m)) ∧ (∀ j, j < m → place a j < a.length) ∧ place a m ≤ a.length ∧ j = a.length - place a m,
      ⟨(0, H3.n), a.length, rfl, 0, rfl, by rw [AH.get_alloc, if_pos rfl]; rfl, fun j h => absurd h (Nat.not_lt_zero j), Nat.zero_le _, rfl⟩, ?_⟩
    rintro ⟨_, x⟩ H4 _ ⟨m, rfl, h1, h2, h3, rfl⟩
    refine ⟨_, _, h1, fun hk => ?_, fun hk => ?_⟩
    · obtain ⟨g1, g2⟩ := place_next hk
      have := place_ge h2
      refine ⟨(((m + 1 : Nat) : Int), x), a.length - place a (m + 1), by omega, ?_, m + 1, rfl, by rw [AH.get_set, if_pos rfl]; rfl, fun j hj => ?_, g2, rfl⟩
      · rw [wrap_i64 (by omega) (by omega)]; rfl
      · rcases Nat.lt_or_ge j m with g | g
        · exact h2 j g
        · obtain rfl : j = m := by omega
          exact hk
    obtain rfl := cnt hna h2 h3 hk
    clear h1 h2 h3 hk
    refine ⟨fun x H' j => ∃ k : Nat, x.1 = ((m + k : Nat) : Int) ∧ H'.get x.2 = some (.iter b (place b k)) ∧ (∀ j, j < k → place b j < b.length) ∧ place b k ≤ b.length ∧ j = b.length - place b k,
      ⟨((m : Int), H4.n), b.length, rfl, 0, rfl, by rw [AH.get_alloc, if_pos rfl]; rfl, fun j h => absurd h (Nat.not_lt_zero j), Nat.zero_le _, rfl⟩, ?_⟩
    rintro ⟨_, x⟩ H5 _ ⟨k, rfl, h1, h2, h3, rfl⟩
    refine ⟨_, _, h1, fun hk => ?_, fun hk => ?_⟩
    · obtain ⟨g1, g2⟩ := place_next hk
      have := place_ge h2
      refine ⟨(((m + (k + 1) : Nat) : Int), x), b.length - place b (k + 1), by omega, ?_, k + 1, rfl, by rw [AH.get_set, if_pos rfl]; rfl, fun j hj => ?_, g2, rfl⟩
      · rw [wrap_i64 (by omega) (by omega)]; rfl
      · rcases Nat.lt_or_ge j k with g | g
        · exact h2 j g
        · obtain rfl : j = k := by omega
          exact hk
    obtain rfl := cnt hnb h2 h3 hk
    clear h1 h2 h3 hk
    refine ⟨by omega, fun x H' j => ∃ l : Nat, x.1 = ((m + k : Nat) : Int) ∧ x.2.1 = (l : Int) ∧ H'.get x.2.2 = some (.iter (a ++ b) (place (a ++ b) l)) ∧ (∀ j, j < l → place (a ++ b) j < (a ++ b).length) ∧ place (a ++ b) l ≤ (a ++ b).length ∧ j = (a ++ b).length - place (a ++ b) l,
      ⟨(((m + k : Nat) : Int), 0, H5.n), (a ++ b).length, rfl, 0, rfl, rfl, by rw [AH.get_alloc, if_pos rfl]; rfl, fun j h => absurd h (Nat.not_lt_zero j), Nat.zero_le _, rfl⟩, ?_⟩
    rintro ⟨_, _, x⟩ H6 _ ⟨l, rfl, rfl, h1, h2, h3, rfl⟩
    refine ⟨_, _, h1, fun hk => ?_, fun hk => ?_⟩
    · obtain ⟨g1, g2⟩ := place_next hk
      have := place_ge h2
      refine ⟨(((m + k : Nat) : Int), ((l + 1 : Nat) : Int), x), (a ++ b).length - place (a ++ b) (l + 1), by omega, ?_, l + 1, rfl, rfl, by rw [AH.get_set, if_pos rfl]; rfl, fun j hj => ?_, g2, rfl⟩
      · have w := wrap_i64 (n := (l : Int) + 1) (by omega) (by omega)
        simp only [w]; rfl
      · rcases Nat.lt_or_ge j l with g | g
        · exact h2 j g
        · obtain rfl : j = l := by omega
          exact hk
    obtain rfl := cnt hnc h2 h3 hk
    clear h1 h2 h3 hk
    refine ⟨fun x _ => x = melts a b, ?_, ?_⟩
    · cases he : ((((m + k : Nat) : Int) != (l : Int)) == false) with
      | true =>
        simp only [cond_true]
        exact (parted_pure a b (by omega)).use1 ⟨_, rfl, _, 0, trivial, rfl, by rw [Bool.not_not]⟩
      | false =>
        simp only [cond_false]
        refine ⟨true, 0, trivial, rfl, ?_⟩
        cases hm : melts a b with
        | true => rfl
        | false =>
          exfalso
          have := (SignsN.append hm hna hnb).uniq hnc
          rw [this] at he
          simp at he
    rintro _ H7 rfl
    refine ⟨fun x _ j => x.1 = melts a b ∧ 1 ≤ x.2 ∧ j = (3 - x.2).toNat, ⟨(melts a b, 1), 2, rfl, rfl, Int.le_refl 1, rfl⟩, ?_⟩
    rintro ⟨_, d⟩ H8 _ ⟨rfl, hd1, rfl⟩
    by_cases hd : d ≤ 2
    · simp only [hd, decide_true, cond_true]
      refine ⟨by omega, by rw [List.length_append]; simp only [List.length_cons, List.length_nil]; omega, ?_⟩
      refine (seam_parse d (by omega) a b (by omega) (by omega) ha hb H8).mono ?_
      rintro v H9 ⟨sp, q, rfl, g1, g2, g3, g4⟩
      refine ⟨_, _, _, _, _, _, _, rfl, rfl, (H9.alloc (.cells [.str [], .slice none 0 0, .str [], .int .i64 0] 28 { whole := true })).set H9.n (.cells [.str (bif melts a b then a ++ [60, 98, 62] ++ b else a ++ b), .slice (q.map fun b => (b, 0)) sp.length sp.length, .str [], .int .i64 0] 28 { whole := true }), by simp [AH.write, AH.get_alloc, splice, AV.one], ?_⟩
      have n0 : ((0 : Int) != 0) = false := rfl
      simp only [n0, cond_false]
      refine ⟨_, by simp only [AH.read1, AH.get_set, if_true]; rfl, fun _ => by omega, fun _ => by rw [List.length_append]; simp only [List.length_cons, List.length_nil]; omega, _, by simp only [AH.read1, AH.get_set, if_true]; rfl, fun _ => by omega, ?_⟩
      have hc : (melts a b && !(bif melts a b then a ++ [60, 98, 62] ++ b else a ++ b) == a ++ [60, 98, 62] ++ b || !melts a b && !(bif melts a b then a ++ [60, 98, 62] ++ b else a ++ b) == a ++ b) = false := by
        cases melts a b <;> simp
      simp only [hc, cond_false]
      refine ⟨(melts a b, d + 1), (3 - (d + 1)).toNat, by omega, ?_, rfl, by omega, rfl⟩
      rw [wrap_i64 (by omega) (by omega)]
    · simp only [hd, decide_false, cond_false]

theorem walk {W : World} (hL : laidMet Tryd.prog laidTabs W) (s t : ByteArray) :
    Calls Tryd.prog 6 #[.string s, .string t] W fun e W' => e = .returned (.bool true) ∧ Go.RowKit.Below W.heap.size W W' := by
  obtain ⟨e1, e2, hH⟩ := start hL
  refine (law e1 e2 s.data.toList t.data.toList _ _ W #[.string s, .string t] hH ⟨_, _, rfl, rfl, _, _, rfl, rfl, rfl⟩).mono ?_
  rintro e W' ⟨v, H', E', x, rfl, rfl, _, _, hx, hb⟩
  obtain rfl : x = _ := hx
  exact ⟨rfl, hb.old⟩

theorem readable : (Tryd.f6.params.toList.all fun t => Tryd.prog.readableRec t && decide (t < Tryd.prog.types.size)) = true := by kernel_rfl
theorem results : Tryd.f6.resultTypes = #[4] := by kernel_rfl
theorem uString : Tryd.prog.underlying 9 = some .string := by kernel_rfl
theorem uBool : Tryd.prog.underlying 4 = some .bool := by kernel_rfl

set_option maxRecDepth 100000 in
theorem contract (H : Type) (enc : TypeId × Value → H) (W : World) (base : Nat) (args : Array Value) (ds gs : List (DataW H)) (before : List MemPlace)
    (hval : ∀ (j : Nat) t v, Tryd.f6.params[j]? = some t → args[j]? = some v → Value.okWide Tryd.prog W .any base t v)
    (hW : DataW.Whole enc Tryd.prog Tryd.f6.params.toList Rows.markSeamsSpec.vars false W args.toList ds gs before) (hL : laidMetH Tryd.prog Rows.markSeamsRow.laid W) :
    Calls Tryd.prog 6 args W fun e W' => ∃ v, e = .returned v ∧ Rows.markSeamsSpec.post enc Tryd.prog Tryd.f6 false true false false W args v W' := by
  have hW' := hW
  obtain ⟨p, q, hA0, hV, rfl, hfz, hnd⟩ := hW'
  have hA : DataW.TrodAll enc Tryd.prog W 0 (fun _ => true) true Tryd.f6.params.toList args.toList ds p := hA0
  rw [Tryd.params6] at hA hval
  obtain ⟨v0, v1, d0, d1, p0, p1, rfl, rfl, rfl, h0, h1⟩ := trodAll_two hA
  obtain ⟨rfl, rfl⟩ := trodVars_none hV
  obtain ⟨s, rfl, rfl, rfl, hs⟩ := Go.ChangeMaps.open_string uString (hval 0 9 v0 rfl rfl) h0
  obtain ⟨t, rfl, rfl, rfl, ht⟩ := Go.ChangeMaps.open_string uString (hval 1 9 v1 rfl rfl) h1
  refine (walk hL s t).mono fun e W' ⟨he, hb⟩ => ?_
  subst he
  exact ⟨_, rfl, post_law laidOut hW rfl readable hb rfl results uBool⟩

def wArgs : Array Value := #[.string ⟨#[]⟩, .string ⟨#[]⟩]
theorem laid_met (os : Os) : laidMet Tryd.prog Rows.markSeamsRow.laid ((laidWorld os).forCall (fun _ _ => 0) ⟨#[], wArgs, []⟩).memory :=
  laidMet_of_run3 8 (by kernel_rfl) (by kernel_rfl) (by kernel_rfl)
theorem reads (os : Os) {H : Type} (enc : TypeId × Value → H) : ∃ places, DataW.whole enc Tryd.prog ((laidWorld os).forCall (fun _ _ => 0) ⟨#[], wArgs, []⟩).memory Tryd.f6.params.toList Rows.markSeamsSpec.vars false wArgs.toList 8 = some ([.lit (.string []), .lit (.string [])], [], places) :=
  ⟨[], by kernel_rfl⟩

set_option maxRecDepth 100000 in
theorem lifted (os : Os) (started : os.Started) (H : Type) (enc : TypeId × Value → H) (F : Stop.Interp) :
    ReturnsInHanded {} Tryd.checked os 6 .any ((OpenSpec.ofChange Rows.markSeamsSpec).preRow enc Tryd.prog Tryd.f6 Rows.markSeamsRow.domain false Rows.markSeamsRow.laid) (((OpenSpec.ofChange Rows.markSeamsSpec).at F).post enc Tryd.prog Tryd.f6 false true false false) := by
  obtain ⟨places, hx⟩ := reads os enc
  refine returnsInHanded_of_row (C := Tryd.checked) (s := OpenSpec.ofChange Rows.markSeamsSpec) own started (by kernel_rfl) Tryd.func6
    (witness_row_at (enc := enc) (C := Tryd.checked) false (laidWorld os) wArgs rfl (by kernel_rfl) (by kernel_rfl) (by kernel_rfl)
      (OpenSpec.preRow_of_cond 8 hx (by kernel_rfl) (fun k hk => by cases hk) (by kernel_rfl) (laid_met os))) ?_
  intro W base args ds gs before hval hW _ _ _ hL _ _
  exact contract H enc W base args ds gs before hval hW hL

theorem said : Rows.MarkSeamsSaid :=
  OpenClaim.holds_of_cond 6 Tryd.f6 rfl rfl rfl rfl rfl rfl rfl ⟨rfl, rfl, rfl, rfl, rfl⟩ rfl rfl rfl rfl rfl (by kernel_rfl) Tryd.func6 (by kernel_rfl)
    (of_decide_eq_true (by kernel_rfl)) (by unfold Func.isWrapper; first | (rw [if_pos (by decide +kernel)]; kernel_rfl) | (rw [if_neg (by decide +kernel)]; exact ⟨rfl, rfl⟩))
    (fun os started H enc _ F => by rw [OpenClaim.pre_eq_preRow]; exact lifted os started H enc F)

theorem noStandString : Tryd.pinned.checked.prog.wantsStandIn 9 = false := by kernel_rfl
theorem plain (f : FuncId) (fn : Func) (hf : Tryd.pinned.checked.prog.funcNamed "surtitle/surtitlelaw8.MarkSeams" = some f) (hfn : Tryd.pinned.checked.prog.funcs[f]? = some fn) :
    false = Tryd.pinned.checked.prog.looks [] ∧ ∀ (j : Nat) t, fn.params[j]? = some t → Tryd.pinned.checked.prog.wantsStandIn t = false := by
  obtain rfl : f = 6 := Option.some.inj ((show Tryd.prog.funcNamed "surtitle/surtitlelaw8.MarkSeams" = some 6 by kernel_rfl).symm.trans hf) |>.symm
  obtain rfl : fn = Tryd.f6 := (Option.some.inj (Tryd.func6.symm.trans hfn)).symm
  refine ⟨by kernel_rfl, fun j t ht => ?_⟩
  rw [Tryd.params6] at ht
  match j, ht with
  | 0, ht =>
    obtain rfl : 9 = t := by simpa using ht
    exact noStandString
  | 1, ht =>
    obtain rfl : 9 = t := by simpa using ht
    exact noStandString
  | j + 2, ht => simp at ht

/-- The card. -/
theorem card : Rows.MarkSeamsCardSaid :=
  Claim7.holds_tied_plain_at .later [] _ _ _ _ said (fun _ h => by cases h) (by kernel_rfl) (fun _ h => by cases h) markSeams_row_tie rfl ⟨rfl, rfl⟩ (by kernel_rfl) rfl plain (by kernel_rfl)
end Go.Proofs.YtlkdhhkncoekgaaDoor.markSeams

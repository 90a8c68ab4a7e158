/- The law MarkPlain (a text without signs that begin forms stands for itself) returns true for every dialect and text; the row's list is its only condition. -/
import Derived.Test.YtlkdhhkncoekgaaDoorPlainH
import Derived.Test.YtlkdhhkncoekgaaDoorKnown
import Derived.Test.YtlkdhhkncoekgaaDoorCards
import Derived.Test.YtlkdhhkncoekgaaDoorTie
import Derived.SevenTiedAt
namespace Go.Proofs.YtlkdhhkncoekgaaDoor.markPlain
open Go.ChangeShapes Go.WideShapes Go.ChangeAt Go.RowKit Go.Am Go

theorem law (e1 e2 : TypeId) (d : Int) (s : List UInt8) (hs : s.length ≤ 9223372036854775807) :
    ACall Tryd.prog 4 [.int .i64 d, .str s] (startH nGlob (startTabs e1 e2)) fun v _ => v = .bool true := by
  refine vcF_ok follows (anns := [⟨6, Int, [0, 1, 5], fun i => [.int .i64 d, .str s, .int .i64 i], fun i _ j => 0 ≤ i ∧ i ≤ s.length ∧ j = (s.length - i).toNat ∧
    ∀ (k : Nat) (h : k < s.length), (k : Int) < i → (s[k]'h).toNat ≠ 60 ∧ (s[k]'h).toNat ≠ 38 ∧ (s[k]'h).toNat ≠ 124 ∧ (s[k]'h).toNat ≠ 123 ∧ (s[k]'h).toNat ≠ 92⟩]) ?_
  rw [law_vc]
  refine (known_pure e1 e2).use (startTabs_in e1 e2) ?_
  rintro v rfl
  refine ⟨true, rfl, ?_⟩
  refine (dialects_pure d).use1 ⟨_, rfl, ?_⟩
  cases hg : (!(decide (1 ≤ d) && decide (d ≤ 4)) || decide ((s.length : Int) > 4096)) with
  | true => rfl
  | false =>
    simp only [Bool.or_eq_false_iff, Bool.not_eq_false', Bool.and_eq_true, decide_eq_true_eq, decide_eq_false_iff_not] at hg
    obtain ⟨hd, hl⟩ := hg
    refine ⟨⟨0, s.length, rfl, Int.le_refl 0, by omega, by omega, fun k _ h => by omega⟩, ?_⟩
    rintro i H j ⟨h1, h2, rfl, h3⟩
    by_cases hi : i < (s.length : Int)
    · simp only [hi, decide_true, cond_true]
      have hlt : i.toNat < s.length := by omega
      have hgt : (s[i.toNat]?.getD 0) = s[i.toNat]'hlt := by rw [List.getElem?_eq_getElem hlt]; rfl
      rw [hgt]
      refine ⟨⟨h1, trivial⟩, fun _ => ⟨h1, trivial⟩, fun _ => ⟨h1, trivial⟩, fun _ => ⟨h1, trivial⟩, fun _ => ⟨h1, trivial⟩, ?_⟩
      cases hc : ((((s[i.toNat]'hlt).toNat : Nat) : Int) == 60 || (((s[i.toNat]'hlt).toNat : Nat) : Int) == 38 || (((s[i.toNat]'hlt).toNat : Nat) : Int) == 124 || (((s[i.toNat]'hlt).toNat : Nat) : Int) == 123 || (((s[i.toNat]'hlt).toNat : Nat) : Int) == 92) with
      | true => trivial
      | false =>
        simp only [Bool.or_eq_false_iff, beq_eq_false_iff_ne, ne_eq] at hc
        obtain ⟨⟨⟨⟨c1, c2⟩, c3⟩, c4⟩, c5⟩ := hc
        refine ⟨i + 1, (s.length - (i + 1)).toNat, by omega, ?_, by omega, by omega, rfl, fun k h hk => ?_⟩
        · rw [real_wrap, wrap_i64 (by omega) (by omega)]
        · by_cases e : (k : Int) < i
          · exact h3 k h e
          · obtain rfl : k = i.toNat := by omega
            exact ⟨by omega, by omega, by omega, by omega, by omega⟩
    · simp only [hi, decide_false, cond_false]
      have hp : plainS s := fun k h => h3 k h (by omega)
      refine (Parse_plain d s hd hp (by omega)).use1 ?_
      refine ⟨s, none, 0, 0, [], 0, 0, rfl, rfl, (H.alloc (.cells [.str [], .slice none 0 0, .str [], .int .i64 0] 28 { whole := true })).set H.n (.cells [.str s, .slice none 0 0, .str [], .int .i64 0] 28 { whole := true }), ?_, ?_⟩
      · simp [AH.write, AH.get_alloc, splice, AV.one]
      · simp [AH.read1, AH.get_set]

theorem walk {W : World} (hL : laidMet Tryd.prog laidTabs W) (d : Int) (s : ByteArray) (hs : s.size ≤ maxLen) :
    Calls Tryd.prog 4 #[.int .i64 d, .string s] W fun e W' => e = .returned (.bool true) ∧ Go.RowKit.Below W.heap.size W W' := by
  obtain ⟨e1, e2, hH⟩ := start hL
  have hl : s.data.toList.length ≤ 9223372036854775807 := by simpa [maxLen] using hs
  refine (law e1 e2 d s.data.toList hl _ _ W #[.int .i64 d, .string s] hH ⟨_, _, rfl, rfl, _, _, rfl, rfl, rfl⟩).mono ?_
  rintro e W' ⟨v, H', E', x, rfl, rfl, _, _, hx, hb⟩
  obtain rfl : x = _ := hx
  exact ⟨rfl, hb.old⟩

theorem readable : (Tryd.f4.params.toList.all fun t => Tryd.prog.readableRec t && decide (t < Tryd.prog.types.size)) = true := by kernel_rfl
theorem results : Tryd.f4.resultTypes = #[4] := by kernel_rfl
theorem uInt : Tryd.prog.underlying 3 = some (.int .i64) := by kernel_rfl
theorem uString : Tryd.prog.underlying 9 = some .string := by kernel_rfl
theorem uBool : Tryd.prog.underlying 4 = some .bool := by kernel_rfl

set_option maxRecDepth 100000 in
theorem contract (H : Type) (enc : TypeId × Value → H) (W : World) (base : Nat) (args : Array Value) (ds gs : List (DataW H)) (before : List MemPlace)
    (hval : ∀ (j : Nat) t v, Tryd.f4.params[j]? = some t → args[j]? = some v → Value.okWide Tryd.prog W .any base t v)
    (hW : DataW.Whole enc Tryd.prog Tryd.f4.params.toList Rows.markPlainSpec.vars false W args.toList ds gs before) (hL : laidMetH Tryd.prog Rows.markPlainRow.laid W) :
    Calls Tryd.prog 4 args W fun e W' => ∃ v, e = .returned v ∧ Rows.markPlainSpec.post enc Tryd.prog Tryd.f4 false true false false W args v W' := by
  have hW' := hW
  obtain ⟨p, q, hA0, hV, rfl, hfz, hnd⟩ := hW'
  have hA : DataW.TrodAll enc Tryd.prog W 0 (fun _ => true) true Tryd.f4.params.toList args.toList ds p := hA0
  rw [Tryd.params4] at hA hval
  obtain ⟨v0, v1, d0, d1, p0, p1, rfl, rfl, rfl, h0, h1⟩ := trodAll_two hA
  obtain ⟨rfl, rfl⟩ := trodVars_none hV
  obtain ⟨a, rfl, rfl, rfl, wa⟩ := open_int uInt (hval 0 3 v0 rfl rfl) h0
  obtain ⟨s, rfl, rfl, rfl, hs⟩ := Go.ChangeMaps.open_string uString (hval 1 9 v1 rfl rfl) h1
  refine (walk hL a s hs).mono fun e W' ⟨he, hb⟩ => ?_
  subst he
  exact ⟨_, rfl, post_law laidOut hW rfl readable hb rfl results uBool⟩

def wArgs : Array Value := #[.int .i64 0, .string ⟨#[]⟩]
theorem laid_met (os : Os) : laidMet Tryd.prog Rows.markPlainRow.laid ((laidWorld os).forCall (fun _ _ => 0) ⟨#[], wArgs, []⟩).memory :=
  laidMet_of_run3 8 (by kernel_rfl) (by kernel_rfl) (by kernel_rfl)
theorem reads (os : Os) {H : Type} (enc : TypeId × Value → H) : ∃ places, DataW.whole enc Tryd.prog ((laidWorld os).forCall (fun _ _ => 0) ⟨#[], wArgs, []⟩).memory Tryd.f4.params.toList Rows.markPlainSpec.vars false wArgs.toList 8 = some ([.lit (.int .i64 0), .lit (.string [])], [], places) :=
  ⟨[], by kernel_rfl⟩

set_option maxRecDepth 100000 in
theorem lifted (os : Os) (started : os.Started) (H : Type) (enc : TypeId × Value → H) (F : Stop.Interp) :
    ReturnsInHanded {} Tryd.checked os 4 .any ((OpenSpec.ofChange Rows.markPlainSpec).preRow enc Tryd.prog Tryd.f4 Rows.markPlainRow.domain false Rows.markPlainRow.laid) (((OpenSpec.ofChange Rows.markPlainSpec).at F).post enc Tryd.prog Tryd.f4 false true false false) := by
  obtain ⟨places, hx⟩ := reads os enc
  refine returnsInHanded_of_row (C := Tryd.checked) (s := OpenSpec.ofChange Rows.markPlainSpec) own started (by kernel_rfl) Tryd.func4
    (witness_row_at (enc := enc) (C := Tryd.checked) false (laidWorld os) wArgs rfl (by kernel_rfl) (by kernel_rfl) (by kernel_rfl)
      (OpenSpec.preRow_of_cond 8 hx (by kernel_rfl) (fun k hk => by cases hk) (by kernel_rfl) (laid_met os))) ?_
  intro W base args ds gs before hval hW _ _ _ hL _ _
  exact contract H enc W base args ds gs before hval hW hL

theorem said : Rows.MarkPlainSaid :=
  OpenClaim.holds_of_cond 4 Tryd.f4 rfl rfl rfl rfl rfl rfl rfl ⟨rfl, rfl, rfl, rfl, rfl⟩ rfl rfl rfl rfl rfl (by kernel_rfl) Tryd.func4 (by kernel_rfl)
    (of_decide_eq_true (by kernel_rfl)) (by unfold Func.isWrapper; first | (rw [if_pos (by decide +kernel)]; kernel_rfl) | (rw [if_neg (by decide +kernel)]; exact ⟨rfl, rfl⟩))
    (fun os started H enc _ F => by rw [OpenClaim.pre_eq_preRow]; exact lifted os started H enc F)

theorem noStandInt : Tryd.pinned.checked.prog.wantsStandIn 3 = false := by kernel_rfl
theorem noStandString : Tryd.pinned.checked.prog.wantsStandIn 9 = false := by kernel_rfl
theorem plain (f : FuncId) (fn : Func) (hf : Tryd.pinned.checked.prog.funcNamed "surtitle/surtitlelaw8.MarkPlain" = some f) (hfn : Tryd.pinned.checked.prog.funcs[f]? = some fn) :
    false = Tryd.pinned.checked.prog.looks [] ∧ ∀ (j : Nat) t, fn.params[j]? = some t → Tryd.pinned.checked.prog.wantsStandIn t = false := by
  obtain rfl : f = 4 := Option.some.inj ((show Tryd.prog.funcNamed "surtitle/surtitlelaw8.MarkPlain" = some 4 by kernel_rfl).symm.trans hf) |>.symm
  obtain rfl : fn = Tryd.f4 := (Option.some.inj (Tryd.func4.symm.trans hfn)).symm
  refine ⟨by kernel_rfl, fun j t ht => ?_⟩
  rw [Tryd.params4] at ht
  match j, ht with
  | 0, ht =>
    obtain rfl : 3 = t := by simpa using ht
    exact noStandInt
  | 1, ht =>
    obtain rfl : 9 = t := by simpa using ht
    exact noStandString
  | j + 2, ht => simp at ht

/-- The card. -/
theorem card : Rows.MarkPlainCardSaid :=
  Claim7.holds_tied_plain_at .later [] _ _ _ _ said (fun _ h => by cases h) (by kernel_rfl) (fun _ h => by cases h) markPlain_row_tie rfl ⟨rfl, rfl⟩ (by kernel_rfl) rfl plain (by kernel_rfl)
end Go.Proofs.YtlkdhhkncoekgaaDoor.markPlain

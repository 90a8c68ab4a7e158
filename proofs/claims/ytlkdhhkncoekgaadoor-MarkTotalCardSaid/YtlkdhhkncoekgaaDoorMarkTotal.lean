/- The law MarkTotal (any bytes are read, unless they are too long or want too many spans; what is read is right, and in normal form) returns true for every dialect and text; the row's list is its only condition. -/
import Derived.Test.YtlkdhhkncoekgaaDoorTotalP
import Derived.Test.YtlkdhhkncoekgaaDoorRefF
import Derived.Test.YtlkdhhkncoekgaaDoorKnown
import Derived.Test.YtlkdhhkncoekgaaDoorCards
import Derived.Test.YtlkdhhkncoekgaaDoorTie
import Derived.SevenTiedAt
namespace Go.Proofs.YtlkdhhkncoekgaaDoor.markTotal
open Go.ChangeShapes Go.WideShapes Go.ChangeAt Go.RowKit Go.Am Go

def Any (d : Int) (s : List UInt8) (e : Int) (S : List UInt8) (sp : List Spn) (nm : List UInt8) (sd : Int) : Prop :=
  (¬ (1 ≤ d ∧ d ≤ 4) ∧ e = 5 ∧ S = [] ∧ sp = [] ∧ nm = [] ∧ sd = 0) ∨ ((1 ≤ d ∧ d ≤ 4) ∧ Told d s e S sp nm sd)

set_option maxRecDepth 100000 in
theorem Parse_any (d : Int) (s : List UInt8) (H : AH) :
    ACallee Tryd.prog 12 [.int .i64 d, .str s] H fun v H' => ∃ e S sp nm sd, Any d s e S sp nm sd ∧ MarkRes H S sp nm sd e v H' := by
  by_cases hd : 1 ≤ d ∧ d ≤ 4
  · by_cases hs : s.length ≤ 4194304
    · refine (Parse_total d hd s hs H).mono ?_
      rintro v H' ⟨e, S, sp, nm, sd, h1, h2⟩
      exact ⟨e, S, sp, nm, sd, .inr ⟨hd, h1⟩, h2⟩
    · obtain ⟨Q, hQ⟩ : ∃ Q : AV → AH → Prop, Q = fun v H' => ∃ e S sp nm sd, Any d s e S sp nm sd ∧ MarkRes H S sp nm sd e v H' := ⟨_, rfl⟩
      rw [← hQ]
      refine .inl ⟨goB_spec (by kernel_rfl), vcG_ok (anns := _) (rans := _) follows' (Eq.mpr (Parse_vc (real Tryd.prog) (Iter Tryd.prog) d s H Q (fun _ _ _ => False) (fun _ _ _ => False) (fun _ _ _ => False)) ?_)⟩
      simp only [real_n, real_al, real_rd1, real_rdn, real_call, real_wr, real_wrap, AH.n_alloc]
      have d1 : (decide (d < 1) || decide (d > 4)) = false := by rw [Bool.or_eq_false_iff, decide_eq_false_iff_not, decide_eq_false_iff_not]; omega
      have d2 : decide ((s.length : Int) > 4194304) = true := by rw [decide_eq_true_eq]; omega
      rw [d1, d2]
      simp only [cond_false, cond_true]
      refine ⟨⟨(by trivial), (H.alloc (.cells [.str [], .slice none 0 0, .str [], .int .i64 0] 28 { whole := true })).set H.n (.cells [.str [], .slice none 0 0, .str [], .int .i64 0] 28 { whole := true }), by simp [AH.write, AH.get_alloc, splice, AV.one], [], none, 0, 0, [], 0, by simp [AH.read, AH.get_set], ?_⟩, fun _ _ _ h => h.elim, fun _ _ _ h => h.elim, fun _ _ _ h => h.elim⟩
      rw [hQ]
      refine ⟨3, [], [], [], 0, .inr ⟨hd, .inl ⟨.inl ⟨rfl, by omega⟩, rfl, rfl, rfl, rfl⟩⟩, none, rfl, ⟨rfl, rfl⟩, (fun c h => by cases h), by simp, fun c hc => by rw [AH.get_set, if_neg (by omega), AH.get_alloc, if_neg (by omega)]⟩
  · obtain ⟨Q, hQ⟩ : ∃ Q : AV → AH → Prop, Q = fun v H' => ∃ e S sp nm sd, Any d s e S sp nm sd ∧ MarkRes H S sp nm sd e v H' := ⟨_, rfl⟩
    rw [← hQ]
    refine .inl ⟨goB_spec (by kernel_rfl), vcG_ok (anns := _) (rans := _) follows' (Eq.mpr (Parse_vc (real Tryd.prog) (Iter Tryd.prog) d s H Q (fun _ _ _ => False) (fun _ _ _ => False) (fun _ _ _ => False)) ?_)⟩
    simp only [real_n, real_al, real_rd1, real_rdn, real_call, real_wr, real_wrap, AH.n_alloc]
    have d1 : (decide (d < 1) || decide (d > 4)) = true := by
      rw [Bool.or_eq_true, decide_eq_true_eq, decide_eq_true_eq]; omega
    rw [d1]
    simp only [cond_true]
    refine ⟨⟨(by trivial), (H.alloc (.cells [.str [], .slice none 0 0, .str [], .int .i64 0] 28 { whole := true })).set H.n (.cells [.str [], .slice none 0 0, .str [], .int .i64 0] 28 { whole := true }), by simp [AH.write, AH.get_alloc, splice, AV.one], [], none, 0, 0, [], 0, by simp [AH.read, AH.get_set], ?_⟩, fun _ _ _ h => h.elim, fun _ _ _ h => h.elim, fun _ _ _ h => h.elim⟩
    rw [hQ]
    refine ⟨5, [], [], [], 0, .inl ⟨hd, rfl, rfl, rfl, rfl, rfl⟩, none, rfl, ⟨rfl, rfl⟩, (fun c h => by cases h), by simp, fun c hc => by rw [AH.get_set, if_neg (by omega), AH.get_alloc, if_neg (by omega)]⟩

theorem law (e1 e2 : TypeId) (d : Int) (s : List UInt8) :
    ACall Tryd.prog 5 [.int .i64 d, .str s] (startH nGlob (startTabs e1 e2)) fun v _ => v = .bool true := by
  refine vcF_ok follows (anns := []) ?_
  rw [total_vc]
  simp only [real_n, real_al, real_rd1, real_rdn, real_call, real_wr]
  refine (known_pure e1 e2).use (startTabs_in e1 e2) ?_
  rintro v rfl
  refine ⟨true, rfl, ?_⟩
  obtain ⟨H, hH⟩ : ∃ H, H = startH nGlob (startTabs e1 e2) := ⟨_, rfl⟩
  rw [← hH]
  simp only [Bool.not_true, cond_false]
  refine (Parse_any d s H).mono ?_
  rintro v B ⟨e, S, sp, nm, sd, ht, q, rfl, b1, b2, b3, b4⟩
  obtain ⟨C, hC⟩ : ∃ C, C = (B.alloc (.cells [.str [], .slice none 0 0, .str [], .int .i64 0] 28 { whole := true })).set B.n (.cells [.str S, sl q sp.length, .str nm, .int .i64 sd] 28 { whole := true }) := ⟨_, rfl⟩
  have cg : C.get B.n = some (.cells [.str S, .slice (q.map fun b => (b, 0)) sp.length sp.length, .str nm, .int .i64 sd] 28 { whole := true }) := by rw [hC, AH.get_set, if_pos rfl]; rfl
  have co : ∀ c, c < B.n → C.get c = B.get c := fun c hc => by rw [hC, AH.get_set, if_neg (by omega), AH.get_alloc, if_neg (by omega)]
  have cn : C.n = B.n + 1 := by rw [hC]; simp
  refine ⟨S, q.map fun b => (b, 0), sp.length, sp.length, nm, sd, e, rfl, (by trivial), C, by rw [hC]; simp [AH.write, AH.get_alloc, splice, AV.one, sl], ?_⟩
  refine (dialects_pure d).use1 ⟨_, rfl, ?_⟩
  rcases ht with ⟨hd, rfl, rfl, rfl, rfl, rfl⟩ | ⟨hd, ht⟩
  · have h1 : (decide (1 ≤ d) && decide (d ≤ 4)) = false := by
      rw [Bool.and_eq_false_iff, decide_eq_false_iff_not, decide_eq_false_iff_not]; omega
    rw [h1]; rfl
  have h1 : (decide (1 ≤ d) && decide (d ≤ 4)) = true := by rw [Bool.and_eq_true, decide_eq_true_eq, decide_eq_true_eq]; exact hd
  rw [h1]
  simp only [Bool.not_true, cond_false]
  rcases ht with ⟨h2, rfl, rfl, rfl, rfl⟩ | ⟨rfl, L, hsn, hl, hc, hsp, hf, hnm, hn2, hsd⟩
  · have e0 : (e != 0) = true := by rcases h2 with ⟨rfl, _⟩ | ⟨rfl, _⟩ <;> rfl
    rw [e0]
    simp only [cond_true]
    refine ⟨[], by unfold AH.read1; rw [cg]; rfl, q.map fun b => (b, 0), 0, 0, by unfold AH.read1; rw [cg]; rfl, [], by unfold AH.read1; rw [cg]; rfl, 0, by unfold AH.read1; rw [cg]; rfl, ?_⟩
    rcases h2 with ⟨rfl, h3⟩ | ⟨rfl, h3⟩
    · have : decide ((s.length : Int) > 4096) = true := by rw [decide_eq_true_eq]; omega
      rw [this]; rfl
    · have : decide ((s.length : Int) > 256) = true := by rw [decide_eq_true_eq]; omega
      rw [this]; rfl
  · have n0 : ((0 : Int) != 0) = false := by decide
    rw [n0]
    simp only [cond_false]
    have hN : NormT S L sp := ⟨hsn, hl, fun a ha => by have := hc a ha; unfold okC at this; omega, hsp, hf⟩
    have hT : TextAt C q sp := ⟨b1.same fun b hb => co b (b2 b hb).2, fun b hb => by have := b2 b hb; omega⟩
    refine ⟨S, q.map fun b => (b, 0), sp.length, sp.length, by unfold AH.read; rw [cg]; rfl, ?_⟩
    refine (rNorm_S hN hT).mono ?_
    rintro v E ⟨r, rfl, e1, e2, e3, e4⟩
    obtain ⟨F, hF⟩ : ∃ F, F = (E.alloc (.cells [.str [], .slice none 0 0] 26 { whole := true })).set E.n (.cells [.str S, sl r sp.length] 26 { whole := true }) := ⟨_, rfl⟩
    have fg : F.get E.n = some (.cells [.str S, .slice (r.map fun b => (b, 0)) sp.length sp.length] 26 { whole := true }) := by rw [hF, AH.get_set, if_pos rfl]; rfl
    have fo : ∀ c, c < E.n → F.get c = E.get c := fun c hc => by rw [hF, AH.get_set, if_neg (by omega), AH.get_alloc, if_neg (by omega)]
    have fn : F.n = E.n + 1 := by rw [hF]; simp
    have fc : F.get B.n = _ := (fo _ (by omega)).trans ((e4 _ (by omega)).trans cg)
    refine ⟨S, r.map fun b => (b, 0), sp.length, sp.length, 0, rfl, (by trivial), F, by rw [hF]; simp [AH.write, AH.get_alloc, splice, AV.one, sl], S, q.map fun b => (b, 0), sp.length, sp.length, by unfold AH.read; rw [fc]; rfl, ?_⟩
    have hTF : TextAt F q sp := hT.keep (by omega) fun c hc => by rw [fo c (by omega)]; exact e4 c hc
    have hRF : TextAt F r sp := ⟨e1.same fun b hb => fo b (e2 b hb).2, fun b hb => by have := e2 b hb; omega⟩
    refine (rRight_S hN hTF).mono ?_
    rintro v G ⟨rfl, g1, g2⟩
    have gg : G.get E.n = _ := (g2 _ (by omega)).trans fg
    have gc : G.get B.n = _ := (g2 _ (by omega)).trans fc
    refine ⟨true, rfl, S, r.map fun b => (b, 0), sp.length, sp.length, by unfold AH.read; rw [gg]; rfl, S, q.map fun b => (b, 0), sp.length, sp.length, by unfold AH.read; rw [gc]; rfl, ?_⟩
    have t0 : ((true && (0 : Int) == 0) == true) = true := by decide
    rw [t0]
    simp only [cond_true]
    refine (rSame_S S (by omega) (hRF.keep g1 g2) (hTF.keep g1 g2)).mono ?_
    rintro v K ⟨rfl, k1, k2⟩
    have kc : K.get B.n = _ := (k2 _ (by omega)).trans gc
    refine ⟨true, rfl, sd, by unfold AH.read1; rw [kc]; rfl, sd, by unfold AH.read1; rw [kc]; rfl, nm, by unfold AH.read1; rw [kc]; rfl, nm, by unfold AH.read1; rw [kc]; rfl, ?_⟩
    have x1 : (sd == 0 || sd == 1 && d == 4) = true := by
      rcases hsd with rfl | ⟨rfl, rfl⟩ <;> rfl
    have x2 : (nm == [] || d == 2) = true := by
      by_cases h2 : d = 2
      · subst h2; simp
      · rw [hn2 h2]; rfl
    have x3 : decide ((64 : Int) ≥ (nm.length : Int)) = true := by rw [decide_eq_true_eq]; omega
    rw [x1, x2, x3]; rfl

theorem walk {W : World} (hL : laidMet Tryd.prog laidTabs W) (d : Int) (s : ByteArray) :
    Calls Tryd.prog 5 #[.int .i64 d, .string s] W fun e W' => e = .returned (.bool true) ∧ Go.RowKit.Below W.heap.size W W' := by
  obtain ⟨e1, e2, hH⟩ := start hL
  refine (law e1 e2 d s.data.toList _ _ W #[.int .i64 d, .string s] hH ⟨_, _, rfl, rfl, _, _, rfl, rfl, rfl⟩).mono ?_
  rintro e W' ⟨v, H', E', x, rfl, rfl, _, _, hx, hb⟩
  obtain rfl : x = _ := hx
  exact ⟨rfl, hb.old⟩

theorem readable : (Tryd.f5.params.toList.all fun t => Tryd.prog.readableRec t && decide (t < Tryd.prog.types.size)) = true := by kernel_rfl
theorem results : Tryd.f5.resultTypes = #[4] := by kernel_rfl
theorem uInt : Tryd.prog.underlying 3 = some (.int .i64) := by kernel_rfl
theorem uString : Tryd.prog.underlying 9 = some .string := by kernel_rfl
theorem uBool : Tryd.prog.underlying 4 = some .bool := by kernel_rfl

set_option maxRecDepth 100000 in
theorem contract (H : Type) (enc : TypeId × Value → H) (W : World) (base : Nat) (args : Array Value) (ds gs : List (DataW H)) (before : List MemPlace)
    (hval : ∀ (j : Nat) t v, Tryd.f5.params[j]? = some t → args[j]? = some v → Value.okWide Tryd.prog W .any base t v)
    (hW : DataW.Whole enc Tryd.prog Tryd.f5.params.toList Rows.markTotalSpec.vars false W args.toList ds gs before) (hL : laidMetH Tryd.prog Rows.markTotalRow.laid W) :
    Calls Tryd.prog 5 args W fun e W' => ∃ v, e = .returned v ∧ Rows.markTotalSpec.post enc Tryd.prog Tryd.f5 false true false false W args v W' := by
  have hW' := hW
  obtain ⟨p, q, hA0, hV, rfl, hfz, hnd⟩ := hW'
  have hA : DataW.TrodAll enc Tryd.prog W 0 (fun _ => true) true Tryd.f5.params.toList args.toList ds p := hA0
  rw [Tryd.params5] at hA hval
  obtain ⟨v0, v1, d0, d1, p0, p1, rfl, rfl, rfl, h0, h1⟩ := trodAll_two hA
  obtain ⟨rfl, rfl⟩ := trodVars_none hV
  obtain ⟨a, rfl, rfl, rfl, wa⟩ := open_int uInt (hval 0 3 v0 rfl rfl) h0
  obtain ⟨s, rfl, rfl, rfl, _⟩ := Go.ChangeMaps.open_string uString (hval 1 9 v1 rfl rfl) h1
  refine (walk hL a s).mono fun e W' ⟨he, hb⟩ => ?_
  subst he
  exact ⟨_, rfl, post_law laidOut hW rfl readable hb rfl results uBool⟩

def wArgs : Array Value := #[.int .i64 0, .string ⟨#[]⟩]
theorem laid_met (os : Os) : laidMet Tryd.prog Rows.markTotalRow.laid ((laidWorld os).forCall (fun _ _ => 0) ⟨#[], wArgs, []⟩).memory :=
  laidMet_of_run3 8 (by kernel_rfl) (by kernel_rfl) (by kernel_rfl)
theorem reads (os : Os) {H : Type} (enc : TypeId × Value → H) : ∃ places, DataW.whole enc Tryd.prog ((laidWorld os).forCall (fun _ _ => 0) ⟨#[], wArgs, []⟩).memory Tryd.f5.params.toList Rows.markTotalSpec.vars false wArgs.toList 8 = some ([.lit (.int .i64 0), .lit (.string [])], [], places) :=
  ⟨[], by kernel_rfl⟩

set_option maxRecDepth 100000 in
theorem lifted (os : Os) (started : os.Started) (H : Type) (enc : TypeId × Value → H) (F : Stop.Interp) :
    ReturnsInHanded {} Tryd.checked os 5 .any ((OpenSpec.ofChange Rows.markTotalSpec).preRow enc Tryd.prog Tryd.f5 Rows.markTotalRow.domain false Rows.markTotalRow.laid) (((OpenSpec.ofChange Rows.markTotalSpec).at F).post enc Tryd.prog Tryd.f5 false true false false) := by
  obtain ⟨places, hx⟩ := reads os enc
  refine returnsInHanded_of_row (C := Tryd.checked) (s := OpenSpec.ofChange Rows.markTotalSpec) own started (by kernel_rfl) Tryd.func5
    (witness_row_at (enc := enc) (C := Tryd.checked) false (laidWorld os) wArgs rfl (by kernel_rfl) (by kernel_rfl) (by kernel_rfl)
      (OpenSpec.preRow_of_cond 8 hx (by kernel_rfl) (fun k hk => by cases hk) (by kernel_rfl) (laid_met os))) ?_
  intro W base args ds gs before hval hW _ _ _ hL _ _
  exact contract H enc W base args ds gs before hval hW hL

theorem said : Rows.MarkTotalSaid :=
  OpenClaim.holds_of_cond 5 Tryd.f5 rfl rfl rfl rfl rfl rfl rfl ⟨rfl, rfl, rfl, rfl, rfl⟩ rfl rfl rfl rfl rfl (by kernel_rfl) Tryd.func5 (by kernel_rfl)
    (of_decide_eq_true (by kernel_rfl)) (by unfold Func.isWrapper; first | (rw [if_pos (by decide +kernel)]; kernel_rfl) | (rw [if_neg (by decide +kernel)]; exact ⟨rfl, rfl⟩))
    (fun os started H enc _ F => by rw [OpenClaim.pre_eq_preRow]; exact lifted os started H enc F)

theorem noStandInt : Tryd.pinned.checked.prog.wantsStandIn 3 = false := by kernel_rfl
theorem noStandString : Tryd.pinned.checked.prog.wantsStandIn 9 = false := by kernel_rfl
theorem plain (f : FuncId) (fn : Func) (hf : Tryd.pinned.checked.prog.funcNamed "surtitle/surtitlelaw8.MarkTotal" = some f) (hfn : Tryd.pinned.checked.prog.funcs[f]? = some fn) :
    false = Tryd.pinned.checked.prog.looks [] ∧ ∀ (j : Nat) t, fn.params[j]? = some t → Tryd.pinned.checked.prog.wantsStandIn t = false := by
  obtain rfl : f = 5 := Option.some.inj ((show Tryd.prog.funcNamed "surtitle/surtitlelaw8.MarkTotal" = some 5 by kernel_rfl).symm.trans hf) |>.symm
  obtain rfl : fn = Tryd.f5 := (Option.some.inj (Tryd.func5.symm.trans hfn)).symm
  refine ⟨by kernel_rfl, fun j t ht => ?_⟩
  rw [Tryd.params5] at ht
  match j, ht with
  | 0, ht =>
    obtain rfl : 3 = t := by simpa using ht
    exact noStandInt
  | 1, ht =>
    obtain rfl : 9 = t := by simpa using ht
    exact noStandString
  | j + 2, ht => simp at ht

theorem card : Rows.MarkTotalCardSaid :=
  Claim7.holds_tied_plain_at .later [] _ _ _ _ said (fun _ h => by cases h) (by kernel_rfl) (fun _ h => by cases h) markTotal_row_tie rfl ⟨rfl, rfl⟩ (by kernel_rfl) rfl plain (by kernel_rfl)
end Go.Proofs.YtlkdhhkncoekgaaDoor.markTotal

/- The name at the beginning of a voice's text: a builder of texts, names, what is read. -/
import Derived.Test.YtlkdhhkncoekgaaDoorFormsC
import Derived.Test.YtlkdhhkncoekgaaDoorBldVc
import Derived.Test.YtlkdhhkncoekgaaDoorNameVc

section
namespace Go.Proofs.YtlkdhhkncoekgaaDoor
open Go.Am Go

def highFrom (s : List UInt8) (i : Nat) : Prop := ∀ k, i ≤ k → (h : k < s.length) → 32 ≤ (s[k]'h).toNat
def nameS (s : List UInt8) : Bool := decide (s.length ≤ 64) && s.all fun b => decide (32 ≤ b.toNat)

theorem nameS_iff {s : List UInt8} : nameS s = true ↔ s.length ≤ 64 ∧ highFrom s 0 := by
  unfold nameS highFrom
  simp only [Bool.and_eq_true, decide_eq_true_eq, List.all_eq_true]
  refine and_congr Iff.rfl ⟨fun h k _ hk => h _ (List.getElem_mem hk), fun h b hb => ?_⟩
  obtain ⟨k, hk, rfl⟩ := List.mem_iff_getElem.1 hb
  exact h k (Nat.zero_le _) hk

theorem low_pure (c : Int) : Pure Tryd.prog 60 [.int .i32 c] (.bool (decide (c < 32))) :=
  Pure.of_vc follows' [] (by kernel_rfl) rfl rfl (by rw [low_vc])

theorem indexFunc_pure (s : List UInt8) : PureR Tryd.prog 82 [.str s, .func (.func 60) [] [], .bool true] fun v => ∃ n, v = .int .i64 n ∧ (n < 0 ↔ highFrom s 0) := by
  refine PureR.of_vc follows' [⟨2, Nat, [1, 2, 10], fun _ => [.func (.func 60) [] [], .bool true, .ptr (some ((real Tryd.prog none).n (emptyH Tryd.prog), 0))],
    fun k H j => H.get (emptyH Tryd.prog).n = some (.iter s k) ∧ j = s.length - k ∧ k ≤ s.length ∧ ∀ i, i < k → (h : i < s.length) → 32 ≤ (s[i]'h).toNat⟩] (by kernel_rfl) rfl (by rintro v ⟨n, rfl, _⟩; rfl) ?_
  rw [indexFunc_vc]
  refine ⟨⟨0, s.length, rfl, by simp [AH.get_alloc], by simp, by simp, fun i h => absurd h (by omega)⟩, ?_⟩
  rintro k H j ⟨h1, rfl, h3, h4⟩
  refine ⟨s, k, h1, fun hk => ?_, fun hk => ⟨_, rfl, ?_⟩⟩
  · refine (low_pure _).use1 ⟨_, rfl, ?_⟩
    obtain ⟨g1, g2⟩ := decodeL_size s k hk
    by_cases hl : ((decodeL s k).1 : Int) < 32
    · simp only [hl, decide_true, BEq.rfl, cond_true]
      refine ⟨_, rfl, ⟨fun h => by omega, fun h => ?_⟩⟩
      have := h k (Nat.zero_le _) hk
      rcases decodeL_cases s k with ⟨d1, d2⟩ | ⟨d1, d2, _⟩
      · rw [d2, rune1_at (k := 0) hk] at hl; simp at hl; omega
      · omega
    · simp only [hl, decide_false]
      refine ⟨k + (decodeL s k).2, s.length - (k + (decodeL s k).2), by omega, trivial, by simp [AH.get_set], rfl, by omega, fun i hi h => ?_⟩
      by_cases hik : i < k
      · exact h4 i hik h
      · rcases decodeL_cases s k with ⟨d1, d2⟩ | ⟨d1, d2, d3, d4, d5⟩
        · rw [d2] at hi hl
          obtain rfl : i = k := by simp at hi; omega
          rw [rune1_at (k := 0) hk] at hl; simp at hl; omega
        · by_cases hik2 : i = k
          · subst hik2; rw [rune1_at (k := 0) hk] at d1; simp at d1; omega
          · have := (d5 (i - k) (by omega) (by omega)).2
            rw [rune1_at (by omega)] at this
            have e : k + (i - k) = i := by omega
            simp only [e] at this
            omega
  · refine ⟨fun _ i _ h => h4 i (by omega) h, fun _ => by decide⟩

theorem IndexFunc_pure (s : List UInt8) : PureR Tryd.prog 59 [.str s, .func (.func 60) [] []] fun v => ∃ n, v = .int .i64 n ∧ (n < 0 ↔ highFrom s 0) := by
  refine PureR.of_vc follows' [] (by kernel_rfl) rfl (by rintro v ⟨n, rfl, _⟩; rfl) ?_
  rw [IndexFunc_vc]
  refine (indexFunc_pure s).use ?_
  rintro v ⟨n, rfl, h⟩
  exact ⟨_, rfl, _, rfl, h⟩

theorem isName_pure (s : List UInt8) : Pure Tryd.prog 33 [.str s] (.bool (nameS s)) := by
  refine Pure.of_vc follows' [] (by kernel_rfl) rfl rfl ?_
  rw [isName_vc]
  by_cases hl : (s.length : Int) > 64
  · simp only [hl, decide_true, cond_true]
    have : ¬ (nameS s = true) := by rw [nameS_iff]; omega
    simp only [Bool.not_eq_true] at this
    rw [this]
  · simp only [hl, decide_false, cond_false]
    refine (IndexFunc_pure s).use ?_
    rintro v ⟨n, rfl, h⟩
    refine ⟨_, rfl, congrArg AV.bool ?_⟩
    rw [Bool.eq_iff_iff, nameS_iff, decide_eq_true_eq, h]
    exact ⟨fun h => ⟨by omega, h⟩, fun h => h.2⟩
end Go.Proofs.YtlkdhhkncoekgaaDoor
end

/- A builder of texts. -/
section
namespace Go.Proofs.YtlkdhhkncoekgaaDoor
open Go.Am Go

theorem append_bs {H : AH} {q : Option Nat} {so new : List UInt8} {y : AV} {yt : TypeId} (hl : Lies H q so.length (byteCellsA so) 5) (h0 : new ≠ []) (hm : so.length + new.length ≤ 1000000000) (hy : srcV H 1 y = some (new.length, byteCellsA new)) (hyt : yt = 9 ∨ yt = 39) :
    ∃ H', appendV Tryd.prog H 39 yt (sl q so.length) y = some (sl (some H.n) (so ++ new).length, H') ∧ H'.n = H.n + 1 ∧ Lies H' (some H.n) (so ++ new).length (byteCellsA (so ++ new)) 5 ∧ ∀ c, c < H.n → q ≠ some c → H'.get c = H.get c := by
  have go : ∀ xd : TypeDesc, Tryd.prog.underlying yt = some xd → (∀ k, xd ≠ .int k) → _ := fun xd h1 h2 =>
    append_lies (P := Tryd.prog) (H := H) (st := 39) (xt := yt) (e := 5) (xd := xd) (s := 1) (by_ := 1) (m := so.length) (n := new.length) (q := q) (old := byteCellsA so) (new := byteCellsA new) (y := y) (z := .int .u8 0)
      (by kernel_rfl) h1 h2 (by kernel_rfl) (by kernel_rfl) (by kernel_rfl) rfl (by decide) hy (by simp [byteCellsA, AV.one]) (List.length_pos_iff.2 h0) hl (by simp [byteCellsA]) (by omega)
  have h : ∃ H', appendV Tryd.prog H 39 yt (sl q so.length) y = some (sl (some H.n) (so.length + new.length), H') ∧ H'.n = H.n + 1 ∧ Lies H' (some H.n) (so.length + new.length) (byteCellsA so ++ byteCellsA new) 5 ∧ ∀ c, c < H.n → q ≠ some c → H'.get c = H.get c := by
    rcases hyt with rfl | rfl
    · exact go .string (by kernel_rfl) (fun k h => by cases h)
    · exact go (.slice 5) (by kernel_rfl) (fun k h => by cases h)
  rw [← List.length_append] at h
  have e : byteCellsA so ++ byteCellsA new = byteCellsA (so ++ new) := by simp [byteCellsA]
  rw [e] at h
  exact h

structure Bld (H : AH) (p : Nat) (w : List UInt8) (a : Option (Nat × Nat)) (q : Option Nat) : Prop where
  cells : H.get p = some (.cells [.ptr a, sl q w.length] 90 { whole := true })
  addr : a = none ∨ a = some (p, 0)
  lt : p < H.n
  bytes : Lies H q w.length (byteCellsA w) 5
  bq : ∀ b, q = some b → p < b ∧ b < H.n
theorem Bld.keep {H H' : AH} {p : Nat} {w : List UInt8} {a : Option (Nat × Nat)} {q : Option Nat} (h : Bld H p w a q) (hn : H.n ≤ H'.n) (k : ∀ c, p ≤ c → c < H.n → H'.get c = H.get c) : Bld H' p w a q :=
  ⟨by rw [k p (Nat.le_refl _) h.lt]; exact h.cells, h.addr, by have := h.lt; omega, h.bytes.same fun b hb => by have := h.bq b hb; exact k b (by omega) this.2, fun b hb => by have := h.bq b hb; omega⟩

set_option maxRecDepth 100000 in
theorem chk_S {H : AH} {p : Nat} {a : Option (Nat × Nat)} {v : AV} (hc : H.get p = some (.cells [.ptr a, v] 90 { whole := true })) (ha : a = none ∨ a = some (p, 0)) :
    ACallee Tryd.prog 75 [.ptr (some (p, 0))] H fun v' H' => v' = .tuple [] ∧ H'.n = H.n ∧ H'.get p = some (.cells [.ptr (some (p, 0)), v] 90 { whole := true }) ∧ ∀ c, c ≠ p → H'.get c = H.get c := by
  have u1 : Tryd.prog.underlying 88 = some (.pointer 90) := by kernel_rfl
  have u2 : Tryd.prog.underlying 140 = some .unsafePointer := by kernel_rfl
  have u3 : szOf Tryd.prog 90 = some 2 := by kernel_rfl
  have u4 : liesAt Tryd.prog Tryd.prog.depth 90 (2 / Tryd.prog.cellsOf 90) 0 90 1 = true := by kernel_rfl
  have r0 : H.read1 p 0 = some (.ptr a) := by unfold AH.read1; rw [hc]; rfl
  refine .inl ⟨goB_spec (by kernel_rfl), vcF_ok (anns := []) follows' ?_⟩
  rw [bChk_vc]
  simp only [real_rd1, real_call, real_wr, real_cvs]
  rcases ha with rfl | rfl
  · refine .inr ⟨r0, true, rfl, ?_⟩
    simp only [cond_true]
    have c1 : convV Tryd.prog H 88 140 (.ptr (some (p, 0))) = some (.ptr (some (p, 0)), H) := by
      unfold convV
      simp only [u1, u2, u3, hc]
      rw [if_pos ⟨by decide, by simp⟩]
    have c2 : convV Tryd.prog H 140 88 (.ptr (some (p, 0))) = some (.ptr (some (p, 0)), H) := by
      unfold convV
      simp only [u1, u2, u3, hc]
      rw [if_pos ⟨(by trivial), u4⟩]
    refine ⟨c1, ?_⟩
    refine (ext_ok 90 [.ptr (some (p, 0))] H (.ptr (some (p, 0))) H rfl).mono ?_
    rintro v' H' ⟨rfl, rfl⟩
    refine .inl ⟨p, 0, rfl, c2, rfl, H'.set p (.cells [.ptr (some (p, 0)), v] 90 { whole := true }), by simp [AH.write, hc, splice, AV.one], (by first | trivial | rfl), (by first | trivial | rfl), by rw [AH.get_set, if_pos rfl], fun c hcc => by rw [AH.get_set, if_neg hcc]⟩
  · refine .inl ⟨p, 0, r0, false, rfl, ?_⟩
    simp only [cond_false]
    refine .inl ⟨p, 0, r0, true, ?_, ?_⟩
    · unfold eqV
      simp only [u1, u3]
      rw [if_pos ⟨(by trivial), by decide⟩]
      rfl
    · exact ⟨(by first | trivial | rfl), (by first | trivial | rfl), hc, fun c _ => (by first | trivial | rfl)⟩

theorem wrS_S {H : AH} {p : Nat} {w : List UInt8} {a : Option (Nat × Nat)} {q : Option Nat} (h : Bld H p w a q) (t : List UInt8) (h0 : t ≠ []) (hm : w.length + t.length ≤ 1000000000) :
    ACallee Tryd.prog 46 [.ptr (some (p, 0)), .str t] H fun v H' => v = .tuple [.int .i64 t.length, .nilIface] ∧ (∃ a q, Bld H' p (w ++ t) a q) ∧ H.n ≤ H'.n ∧ ∀ c, c < p → H'.get c = H.get c := by
  refine .inl ⟨goB_spec (by kernel_rfl), vcF_ok (anns := []) follows' ?_⟩
  rw [bWrS_vc]
  simp only [real_rd1, real_call, real_wr, real_app]
  refine (chk_S h.cells h.addr).mono ?_
  rintro v A ⟨rfl, an, ag, ao⟩
  have hl : Lies A q w.length (byteCellsA w) 5 := h.bytes.same fun b hb => ao b (by have := h.bq b hb; omega)
  obtain ⟨H2, a1, a2, a3, a4⟩ := append_bs (yt := 9) (y := .str t) hl h0 hm rfl (.inl rfl)
  have hlt := h.lt
  have g2 : H2.get p = some (.cells [.ptr (some (p, 0)), sl q w.length] 90 { whole := true }) := by rw [a4 p (by omega) (fun e => by have := h.bq p e; omega)]; exact ag
  refine ⟨_, _, _, by unfold AH.read1; rw [ag]; rfl, _, _, _, H2, a1, rfl, H2.set p (.cells [.ptr (some (p, 0)), sl (some A.n) (w ++ t).length] 90 { whole := true }), ?_, (by first | trivial | rfl), ⟨some (p, 0), some A.n, by rw [AH.get_set, if_pos rfl], .inr rfl, by show p < H2.n; omega, a3.same fun b hb => ?_, fun b hb => ?_⟩, by show H.n ≤ H2.n; omega, fun c hc => ?_⟩
  · simp [AH.write, g2, splice, AV.one, sl]
  · cases hb; rw [AH.get_set, if_neg (by omega)]
  · cases hb; show p < A.n ∧ A.n < H2.n; omega
  · rw [AH.get_set, if_neg (by omega), a4 c (by omega) (fun e => by have := h.bq c e; omega), ao c (by omega)]

theorem wrB_S {H : AH} {p : Nat} {w : List UInt8} {a : Option (Nat × Nat)} {q : Option Nat} (h : Bld H p w a q) (c0 : UInt8) (hm : w.length ≤ 100000000) :
    ACallee Tryd.prog 47 [.ptr (some (p, 0)), .int .u8 (c0.toNat : Int)] H fun v H' => v = .nilIface ∧ (∃ a q, Bld H' p (w ++ [c0]) a q) ∧ H.n ≤ H'.n ∧ ∀ c, c < p → H'.get c = H.get c := by
  refine .inl ⟨goB_spec (by kernel_rfl), vcF_ok (anns := []) follows' ?_⟩
  rw [bWrB_vc]
  simp only [real_n, real_al, real_rd1, real_call, real_wr, real_app]
  refine (chk_S h.cells h.addr).mono ?_
  rintro v A ⟨rfl, an, ag, ao⟩
  obtain ⟨C, hC⟩ : ∃ C, C = A.alloc (.cells [.int .u8 (c0.toNat : Int)] 5 { whole := true }) := ⟨_, rfl⟩
  have cg : C.get A.n = some (.cells [.int .u8 (c0.toNat : Int)] 5 { whole := true }) := by rw [hC, AH.get_alloc, if_pos rfl]
  have co : ∀ c, c < A.n → C.get c = A.get c := fun c hc => by rw [hC, AH.get_alloc, if_neg (by omega)]
  have cn : C.n = A.n + 1 := by rw [hC]; rfl
  have hlt := h.lt
  have hl : Lies C q w.length (byteCellsA w) 5 := h.bytes.same fun b hb => by have := h.bq b hb; rw [co b (by omega), ao b (by omega)]
  obtain ⟨H2, a1, a2, a3, a4⟩ := append_bs (yt := 39) (y := .slice (some (A.n, 0)) 1 1) (new := [c0]) hl (by simp) (by simp only [List.length_singleton]; omega) (by simp [srcV, AH.read, cg, byteCellsA]) (.inr rfl)
  have g2 : H2.get p = some (.cells [.ptr (some (p, 0)), sl q w.length] 90 { whole := true }) := by rw [a4 p (by omega) (fun e => by have := h.bq p e; omega), co p (by omega)]; exact ag
  refine ⟨_, _, _, by unfold AH.read1; rw [ag]; rfl, by decide, _, _, _, H2, by rw [hC] at a1; exact a1, rfl, H2.set p (.cells [.ptr (some (p, 0)), sl (some C.n) (w ++ [c0]).length] 90 { whole := true }), ?_, (by first | trivial | rfl), ⟨some (p, 0), some C.n, by rw [AH.get_set, if_pos rfl], .inr rfl, by show p < H2.n; omega, a3.same fun b hb => ?_, fun b hb => ?_⟩, by show H.n ≤ H2.n; omega, fun c hc => ?_⟩
  · simp [AH.write, g2, splice, AV.one, sl, cn]
  · cases hb; rw [AH.get_set, if_neg (by omega)]
  · cases hb; show p < C.n ∧ C.n < H2.n; omega
  · rw [AH.get_set, if_neg (by omega), a4 c (by omega) (fun e => by have := h.bq c e; omega), co c (by omega), ao c (by omega)]

structure Bldz (H : AH) (p : Nat) (w : List UInt8) (b fz : Nat) : Prop where
  cells : ∃ a, H.get p = some (.cells [.ptr a, .slice (some (b, 0)) w.length w.length] 90 { whole := true })
  bytes : H.get b = some (.cells (byteCellsA w) 5 { opn := true, fz := fz })
  lt : p < b
theorem Bld.z {H : AH} {p : Nat} {w : List UInt8} {a : Option (Nat × Nat)} {q : Option Nat} (h : Bld H p w a q) (h0 : w ≠ []) : ∃ b, q = some b ∧ Bldz H p w b 0 := by
  have hb := h.bytes
  cases q with
  | none =>
    have := hb.1
    exact absurd (List.length_eq_zero_iff.1 this) h0
  | some b => exact ⟨b, rfl, ⟨a, h.cells⟩, hb, (h.bq b rfl).1⟩
set_option maxRecDepth 100000 in
theorem bStr_S {H : AH} {p b fz : Nat} {w : List UInt8} (h : Bldz H p w b fz) (h0 : w ≠ []) (hw : w.length ≤ 1000000000) :
    ACallee Tryd.prog 49 [.ptr (some (p, 0))] H fun v H' => v = .str w ∧ (∃ fz', Bldz H' p w b fz') ∧ H'.n = H.n ∧ ∀ c, c ≠ b → H'.get c = H.get c := by
  obtain ⟨a, hc⟩ := h.cells
  have hb := h.bytes
  have hlt := h.lt
  have hl : w.length ≠ 0 := fun e => h0 (List.length_eq_zero_iff.1 e)
  refine .inl ⟨goB_spec (by kernel_rfl), vcG_ok (anns := []) (rans := []) follows' (Eq.mpr (bStr_vc (real Tryd.prog) (Iter Tryd.prog) p H _) ?_)⟩
  simp only [real_rd1, real_ustr]
  have r1 : H.read1 p 1 = some (.slice (some (b, 0)) w.length w.length) := by unfold AH.read1; rw [hc]; rfl
  have u1 : Tryd.prog.underlying 123 = some (.pointer 5) := by kernel_rfl
  have u2 : szOf Tryd.prog 5 = some 1 := by kernel_rfl
  have hbl : (byteCellsA w).length = w.length := by simp [byteCellsA]
  have hmax : IntKind.i64.max = 9223372036854775807 := by decide
  refine ⟨_, _, _, r1, _, _, _, r1, (b, 0), ⟨hl, (by first | trivial | rfl)⟩, (by first | trivial | rfl), ⟨_, _, _, r1, (by first | trivial | rfl)⟩, w, H.set b (.cells (byteCellsA w) 5 { opn := true, fz := max fz (0 + w.length) }), ?_, (by first | trivial | rfl), ⟨max fz (0 + w.length), ⟨a, by rw [AH.get_set, if_neg (by omega)]; exact hc⟩, by rw [AH.get_set, if_pos rfl], hlt⟩, (by first | trivial | rfl), fun c hcc => by rw [AH.get_set, if_neg hcc]⟩
  have hz : ¬ ((w.length : Int) = 0) := by omega
  have hr : ¬ ((w.length : Int) < 0 ∨ (w.length : Int) > IntKind.i64.max) := by rw [hmax]; omega
  simp only [unsafeStringV]
  rw [if_neg hz, if_neg hr]
  simp only [u1, hb]
  rw [if_pos ⟨(by trivial), u2, (by trivial), (by trivial), by rw [hbl, Int.toNat_natCast]; omega⟩]
  rw [Int.toNat_natCast, List.drop_zero, List.take_of_length_le (by rw [hbl]; exact Nat.le_refl _), bytes_back]
  rfl
end Go.Proofs.YtlkdhhkncoekgaaDoor
end

/- The name at the beginning of a voice's text. -/
section
namespace Go.Proofs.YtlkdhhkncoekgaaDoor
open Go.Am Go

set_option maxRecDepth 100000 in
theorem voice_fine {s : List UInt8} (hs : s.length ≤ 4194304) : VoiceOk (Fine 2 s) (St.start 2 s) := by
  intro H p hA
  have hlt := hA.lt
  obtain ⟨x, hx⟩ : ∃ x, x = St.start 2 s := ⟨_, rfl⟩
  have h : Fine 2 s x := by rw [hx]; exact Fine.start 2 s
  have xs : x.s = s := by rw [hx]; rfl
  have xi : x.i = 0 := by rw [hx]; rfl
  have xso : x.so = [] := by rw [hx]; rfl
  rw [← hx] at hA
  obtain ⟨Q, hQ⟩ : ∃ Q : AV → AH → Prop, Q = fun v H' => ∃ (n : Nat) (y : St), v = .int .i64 n ∧ (∃ qs qo qc cap, AtS H' p y qs qo qc cap) ∧ H.n ≤ H'.n ∧ (∀ c, c < p → H'.get c = H.get c) ∧ Fine 2 s { y with i := n } := ⟨_, rfl⟩
  rw [← hQ]
  have no : ∀ {H' : AH}, H.n ≤ H'.n → (∀ c, c < H.n → H'.get c = H.get c) → Q (.int .i64 0) H' := by
    intro H' h2 h3
    rw [hQ]
    refine ⟨0, x, rfl, ⟨_, _, _, _, hA.keep h2 fun c _ hc => h3 c hc⟩, h2, fun c hc => h3 c (by omega), ?_⟩
    have : ({ x with i := 0 } : St) = x := by rw [hx]; rfl
    rw [this]; exact h
  refine .inl ⟨goB_spec (by kernel_rfl), vcG_ok (anns := _) (rans := _) follows' (Eq.mpr (voice2_vc (real Tryd.prog) (Iter Tryd.prog) p H Q) ?_)⟩
  simp only [real_n, real_al, real_rd1, real_call, real_wr, real_wrap]
  refine ⟨x.s, by unfold AH.read1; rw [hA.cells]; rfl, ?_⟩
  obtain ⟨r, b1, hcp, hr⟩ := cut_any x.s [60, 118, 32]
  refine hcp.use1 ⟨r, b1, rfl, ?_⟩
  refine (IndexByte_pure r 62).use1 ⟨_, rfl, ?_⟩
  obtain ⟨E, hE⟩ : ∃ E, E = Lib.indexByte r ((62 : Int)).toNat.toUInt8 := ⟨_, rfl⟩
  have hEl := idx_lt r ((62 : Int)).toNat.toUInt8
  rw [← hE] at hEl ⊢
  have ft : (false == false) = true := rfl
  have tf : (true == false) = false := rfl
  have hrl : b1 = true → r.length + 3 = s.length := fun e => by have := hr e; rw [xs] at this; exact this
  have wn : b1 = true → 0 ≤ E → IntKind.i64.wrap (IntKind.i64.wrap (3 + E) + 1) = (((3 + E + 1).toNat : Nat) : Int) := fun e h0 => by
    have := hrl e
    rw [wrap_i64 (n := 3 + E) (by omega) (by omega), wrap_i64 (by omega) (by omega)]; omega
  refine ⟨fun y H' => y.1 = r ∧ y.2.1 = E ∧ H = H' ∧ (y.2.2 = false → b1 = true ∧ 0 ≤ E), ?_, ?_⟩
  · cases hB : (!b1 || decide (E < 0)) with
    | true =>
      simp only [tf, cond_false]
      exact ⟨(r, E, true), 0, trivial, rfl, rfl, rfl, (by trivial), fun e => by cases e⟩
    | false =>
      simp only [Bool.or_eq_false_iff, Bool.not_eq_false', decide_eq_false_iff_not] at hB
      have hl3 := hrl hB.1
      simp only [ft, cond_true]
      rw [wn hB.1 (by omega)]
      have hp := passes_S hA (3 + E + 1).toNat (by rw [xs, xi]; omega) (by rw [xs]; exact hs) (by rw [xso]; exact Nat.zero_le _)
      refine hp.mono ?_
      rintro v H' ⟨rfl, rfl⟩
      exact ⟨_, rfl, (r, E, _), 0, trivial, rfl, rfl, rfl, rfl, fun _ => ⟨hB.1, by omega⟩⟩
  rintro ⟨r', E', b⟩ _ ⟨e1, e2, rfl, hb⟩
  simp only at e1 e2 hb ⊢
  subst e1 e2
  cases b with
  | true =>
    simp only [cond_true]
    exact no (Nat.le_refl _) fun c _ => rfl
  | false =>
  obtain ⟨hb1, h0⟩ := hb rfl
  have hl3 := hrl hb1
  simp only [cond_false]
  refine ⟨by omega, ?_⟩
  obtain ⟨t0, ht0⟩ : ∃ t0, t0 = List.take (E' - 0).toNat (List.drop 0 r') := ⟨_, rfl⟩
  have t0l : (t0.length : Int) = E' := by rw [ht0, List.length_take, List.length_drop]; omega
  rw [← ht0]
  obtain ⟨A, hA2⟩ : ∃ A, A = H.alloc (.cells [.ptr none, .slice none 0 0] 90 { whole := true }) := ⟨_, rfl⟩
  rw [← hA2]
  have an : A.n = H.n + 1 := by rw [hA2]; rfl
  have ao : ∀ c, c < H.n → A.get c = H.get c := fun c hc => by rw [hA2, AH.get_alloc, if_neg (by omega)]
  have bA : Bld A H.n [] none none := ⟨by rw [hA2, AH.get_alloc, if_pos rfl]; rfl, .inl rfl, by omega, ⟨rfl, rfl⟩, fun b hb => by cases hb⟩
  refine ⟨fun y K k => ∃ (w t : List UInt8) (a : Option (Nat × Nat)) (q : Option Nat), y = (r', E', H.n, t) ∧ w.length + t.length ≤ 4194304 ∧ Bld K H.n w a q ∧ (∀ c, c < H.n → K.get c = H.get c) ∧ k = t.length, ⟨(r', E', H.n, t0), t0.length, rfl, [], t0, none, none, rfl, by simp only [List.length_nil]; omega, bA, ao, rfl⟩, ?_⟩
  rintro _ K _ ⟨w, t, a, q, rfl, hwt, hB, hold, rfl⟩
  simp only
  cases ht : (t == ([] : List UInt8)) with
  | false =>
    have t1 : 1 ≤ t.length := by
      cases t with
      | nil => cases ht
      | cons => simp
    simp only [Bool.not_false, cond_true]
    refine (entity_pure t).use1 ⟨_, _, rfl, ?_⟩
    unfold entN entS
    cases hE : entOf t with
    | some e =>
      obtain ⟨ok, kp⟩ := entOf_some hE
      have kl := pre_len kp
      have k0 : 0 < e.1.length := by
        have h1 := ok.less
        have h2 : e.2.length ≠ 0 := fun e0 => ok.ne (List.length_eq_zero_iff.1 e0)
        omega
      have kle := ok.less
      have d : decide ((e.1.length : Int) > 0) = true := by rw [decide_eq_true_iff]; omega
      simp only [d, cond_true]
      refine (wrS_S hB e.2 ok.ne (by omega)).mono ?_
      rintro v K' ⟨rfl, ⟨a', q', hB'⟩, hn, ho⟩
      have el : List.take ((t.length : Int) - (e.1.length : Int)).toNat (List.drop ((e.1.length : Nat) : Int).toNat t) = t.drop e.1.length := by
        rw [Int.toNat_natCast, List.take_of_length_le (by rw [List.length_drop]; omega)]
      have dl : (t.drop e.1.length).length = t.length - e.1.length := List.length_drop
      refine ⟨_, _, rfl, by omega, (r', E', H.n, t.drop e.1.length), (t.drop e.1.length).length, by omega, by rw [el], w ++ e.2, t.drop e.1.length, a', q', rfl, by rw [List.length_append]; omega, hB', fun c hc => by rw [ho c (by omega)]; exact hold c hc, rfl⟩
    | none =>
      have d : decide (((0 : Nat) : Int) > 0) = false := by decide
      simp only [d, cond_false]
      refine ⟨by omega, ?_⟩
      refine (wrB_S hB (t[0]?.getD 0) (by omega)).mono ?_
      rintro v K' ⟨rfl, ⟨a', q', hB'⟩, hn, ho⟩
      have el : List.take ((t.length : Int) - 1).toNat (List.drop 1 t) = t.drop 1 := by
        rw [List.take_of_length_le (by rw [List.length_drop]; omega)]
      have dl : (t.drop 1).length = t.length - 1 := List.length_drop
      refine ⟨_, rfl, by omega, (r', E', H.n, t.drop 1), (t.drop 1).length, by omega, by rw [el], w ++ [t[0]?.getD 0], t.drop 1, a', q', rfl, by rw [List.length_append, List.length_singleton]; omega, hB', fun c hc => by rw [ho c (by omega)]; exact hold c hc, rfl⟩
  | true =>
    simp only [Bool.not_true, cond_false]
    have hBn := hB.lt
    refine ⟨fun y K' => y.1 = E' ∧ y.2.1 = H.n ∧ H.n < K'.n ∧ (∀ c, c < H.n → K'.get c = H.get c) ∧ (y.2.2 = false → w ≠ [] ∧ w.length ≤ 64 ∧ ∃ b fz, Bldz K' H.n w b fz), ?_, ?_⟩
    · have hlen : ACallee Tryd.prog 48 [.ptr (some (H.n, 0))] K fun v K' => v = .int .i64 w.length ∧ K' = K := by
        refine .inl ⟨goB_spec (by kernel_rfl), vcG_ok (anns := []) (rans := []) follows' (Eq.mpr (bLen_vc (real Tryd.prog) (Iter Tryd.prog) H.n K _) ?_)⟩
        exact ⟨_, _, _, by show K.read1 H.n 1 = _; unfold AH.read1; rw [hB.cells]; rfl, rfl, rfl⟩
      refine hlen.mono ?_
      rintro v K' ⟨rfl, rfl⟩
      refine ⟨_, rfl, ?_⟩
      cases hz : ((w.length : Int) == 0) with
      | true =>
        simp only [tf, cond_false]
        exact ⟨(E', H.n, true), 0, trivial, rfl, rfl, rfl, hBn, hold, fun e => by cases e⟩
      | false =>
        have hw0 : w ≠ [] := fun e => by rw [e] at hz; cases hz
        simp only [ft, cond_true]
        obtain ⟨b, _, hBz⟩ := hB.z hw0
        refine (bStr_S hBz hw0 (by omega)).mono ?_
        rintro v K2 ⟨rfl, ⟨fz, hBz'⟩, n2, o2⟩
        have hbl := hBz.lt
        refine ⟨w, rfl, ?_⟩
        refine (isName_pure w).use1 ⟨_, rfl, (E', H.n, !nameS w), 0, trivial, rfl, rfl, rfl, by omega, fun c hc => by rw [o2 c (by omega)]; exact hold c hc, fun e => ⟨hw0, ?_, b, fz, hBz'⟩⟩
        have : nameS w = true := by
          simp only at e
          cases hh : nameS w with
          | true => rfl
          | false => rw [hh] at e; cases e
        exact (nameS_iff.1 this).1
    rintro ⟨E2, p2, b⟩ K2 ⟨e1, e2, n2, o2, hb⟩
    simp only at e1 e2 hb ⊢
    subst e1 e2
    cases b with
    | true =>
      simp only [cond_true]
      exact no (by omega) o2
    | false =>
      obtain ⟨hw0, hw64, b, fz, hBz⟩ := hb rfl
      simp only [cond_false]
      refine (bStr_S hBz hw0 (by omega)).mono ?_
      rintro v K3 ⟨rfl, _, n3, o3⟩
      have hbl := hBz.lt
      have hC : AtS K3 p x none none none 0 := hA.keep (by omega) fun c _ hc2 => by rw [o3 c (by omega)]; exact o2 c hc2
      obtain ⟨H1, w1, w2, w3, w4⟩ := hC.write (y := { x with name := w }) rfl rfl rfl (o := 17) (vs := [.str w]) (by simp) (by simp [AV.one]) (by simp [splice, St.cells])
      refine ⟨w, rfl, rfl, H1, w1, ?_⟩
      rw [hQ, wn hb1 h0]
      refine ⟨(3 + E2 + 1).toNat, { x with name := w }, rfl, ⟨_, _, _, _, w2⟩, by omega, fun c hc => by rw [w4 c (by omega), o3 c (by omega)]; exact o2 c (by omega), ?_⟩
      refine h.form (n := (3 + E2 + 1).toNat) (by rw [xi]; omega) (by rw [xso]; exact melts_nil_left _) rfl rfl (by show (3 + E2 + 1).toNat = x.i + (3 + E2 + 1).toNat; rw [xi]; omega) rfl rfl (fun j => ?_) ⟨h.cols, ?_⟩ h.lc ⟨hw64, fun e => absurd rfl e⟩ h.side (.inl rfl)
      · have := h.op j
        show 0 ≤ x.op j ∧ x.op j ≤ _
        omega
      · have := h.ncols
        show x.cols.length ≤ _
        omega
end Go.Proofs.YtlkdhhkncoekgaaDoor
end
